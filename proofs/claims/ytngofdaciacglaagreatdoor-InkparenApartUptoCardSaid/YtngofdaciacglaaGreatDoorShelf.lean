/-
  DERIVED: THE SHELF's CONTRACTS AT THIS DUMP, IN PLAIN WORDS (tools/lay-plain.mjs out of 'YtngofdaciacglaaGreatDoorShelf.lean', which tools/lay-shelf.mjs wrote): THE SAME DECLARATIONS UNDER THE SAME NAMES: 'import', 'namespace', 'open', 'def', 'theorem' AND NOTHING ELSE: no command of the shelf's: FOR A HAND-IN. Each laying: the table of numbers ('.._ren') and one theorem, a field a fact of the dump's own or the kernel's comparison; each contract: ONE APPLICATION.
-/
import Derived.Shelf.Unicode.ValidAny
import Derived.Shelf.Strings.Builder1
import Derived.Shelf.Strings.Builder2
import Derived.Shelf.Strings.OnBuilder
import Derived.Shelf.Strings.Trim
import Derived.Shelf.Small.Utf8
import Derived.Shelf.Small.Strs
import Derived.Shelf.Small.Wraps
import Derived.Shelf.Strings.BuilderF
import Derived.Shelf.Strings.BuilderK
import Derived.Shelf.Strings.BuilderRune
import Derived.Shelf.Strings.Builder2Cap
import Derived.Shelf.Strconv.Atoi
import Derived.Shelf.Strconv.Itoa0
import Derived.Shelf.Strconv.Itoa1
import Derived.Shelf.LaysM
import Derived.Shelf.Strconv.Itoa2
import Derived.Shelf.Strconv.Itoa3
import Derived.Shelf.Strconv.AtoiErrFast
import Derived.Shelf.Strconv.ParseIntEmpty
import Derived.Shelf.Strconv.AtoiFail
import Derived.Shelf.Strconv.Clone
import Derived.Shelf.Strconv.SyntaxError
import Derived.Shelf.LaysC
import Derived.Shelf.Strconv.ToError
import Derived.Shelf.Strconv.AtoiErr
import Derived.Shelf.Strconv.ErrVar
import Derived.Shelf.Strconv.Lower
import Derived.Shelf.Strconv.ParseUint10
import Derived.Shelf.Strconv.ParseUint10Empty
import Derived.Shelf.Strconv.ParseUint10Any
import Derived.Shelf.Strconv.ParseInt10
import Derived.Shelf.Strconv.AtoiLong
import Derived.Shelf.Strconv.AtoiInnerAll
import Derived.Shelf.Strconv.RangeError
import Derived.Shelf.Strconv.ToErrorRange
import Derived.Shelf.Strconv.AtoiAll
import Derived.Shelf.Strconv.ErrVarAll
import Derived.Shelf.Strings.Search1
import Derived.Shelf.Strings.Search2
import Derived.Shelf.Strings.Search3
import Derived.Shelf.Strings.Cut
import Derived.Shelf.Strings.Shaped
import Derived.Shelf.GgClosure.StringsIndexFunc
import Derived.Ground.GgwProg
import Derived.Shelf.GgClosure.StringsIndexFuncTop
import Derived.Shelf.GgClosure.StringsRunes
import Derived.Shelf.Strings.Prefix
import Derived.Shelf.Unicode.Latin
import Derived.Shelf.Unicode.Decode
import Derived.Shelf.Strings.Runes
import Derived.Shelf.Strings.AsciiSet
import Derived.Shelf.Unicode.DecodeSlow
import Derived.Shelf.Unicode.DecodeAny
import Derived.Shelf.Unicode.DecodeLast
import Derived.Shelf.Unicode.CaseLookup
import Derived.Shelf.Unicode.CaseConvert
import Derived.Shelf.Unicode.CaseTo
import Derived.Shelf.Unicode.CaseLaid
import Derived.Shelf.Strings.MapAny
import Derived.Shelf.Strings.CaseAny
import Derived.Shelf.Strings.FuncGrows
import Derived.Shelf.Strings.BuilderCap
import Derived.Shelf.Strings.MapGrows
import Derived.Shelf.Slices.Equal
import Derived.Ground.Names2Prog
import Derived.Shelf.Slices.Clone
import Derived.Shelf.Slices.Empties2
import Derived.Ground.SlgnProg
import Derived.Shelf.SlicesE.Clone
import Derived.Test.YtngofdaciacglaaGreatDoorProg
namespace Go.Proofs
open Go.Shelf
def Tryz.lays169_ren : Go.Shelf.Ren := ⟨fun | 169 => 75 | n => n, fun | 70 => 87 | 9 => 9 | 0 => 0 | 72 => 89 | 37 => 58 | 127 => 119 | 3 => 3 | 5 => 5 | n => n, fun | n => n⟩
theorem Tryz.lays169 : Go.Proofs.Lays.n169 Tryz.prog Tryz.lays169_ren := {
  mixed := by kernel_rfl
  f169 := Tryz.func75.trans (congrArg some (by kernel_rfl))
  t0 := Tryz.underlying0
  a0 := Tryz.isAgg0
  z0 := Tryz.sizeOf0
  v0 := Tryz.zeroValue0
  t3 := Tryz.underlying3
  a3 := Tryz.isAgg3
  z3 := Tryz.sizeOf3
  v3 := Tryz.zeroValue3
  t9 := Tryz.underlying9
  a9 := Tryz.isAgg9
  z9 := Tryz.sizeOf9
  v9 := Tryz.zeroValue9
  t37 := Tryz.underlying58
  a37 := Tryz.isAgg58
  z37 := Tryz.sizeOf58
  v37 := Tryz.zeroValue58
  t70 := Tryz.underlying87
  a70 := Tryz.isAgg87
  z70 := Tryz.sizeOf87
  v70 := Tryz.zeroValue87
  t72 := Tryz.underlying89
  a72 := Tryz.isAgg89
  z72 := Tryz.sizeOf89
  v72 := Tryz.zeroValue89
  t127 := Tryz.underlying119
  a127 := Tryz.isAgg119
  z127 := Tryz.sizeOf119
  v127 := Tryz.zeroValue119 }
theorem Tryz.Builder_Extra_169 : Builder.Extra Tryz.prog Tryz.lays169_ren := {
  sizeBuilder := by kernel_rfl
  liesBuilder := by kernel_rfl
  t5 := Tryz.underlying5
  a5 := Tryz.isAgg5
  z5 := Tryz.sizeOf5
  v5 := Tryz.zeroValue5
  infoByte := by kernel_rfl
  cellsByte := by kernel_rfl
  sizeByte := by kernel_rfl
  neB5 := by decide }
open Go.RowKit in
/-- (*strings.Builder).String: "String returns the accumulated string.": OF A BUILDER THAT HOLDS AT LEAST ONE BYTE. ✋ THE MODEL FREEZES THOSE BYTES IN THE BUFFER (unsafe.String): a later write INTO them ends the model's run without an answer; a later append BEHIND them goes on. The statement's order of evaluation is drawn: one draw. (LAID: no walk: one application.) -/
theorem Tryz.Builder_String (B b : Nat) (l : List UInt8) (w : World) (h : Lib.IsBuilder 89 5 B b (Lib.byteCells l) w) (h0 : l ≠ []) :
    Calls Tryz.prog 75 #[.pointer (some ⟨b, 0, none⟩)] w fun e w' => e = .returned (.string ⟨l.toArray⟩) ∧ Below B w w' := Any.Builder_String Tryz.lays169 Tryz.Builder_Extra_169 B b l w h h0
def Tryz.lays159_ren : Go.Shelf.Ren := ⟨fun | 159 => 151 | 165 => 76 | 166 => 74 | 167 => 73 | 169 => 75 | 230 => 159 | 204 => 160 | 240 => 107 | 241 => 108 | 197 => 171 | 118 => 172 | 168 => 173 | 270 => 174 | 262 => 175 | 276 => 129 | 277 => 130 | 260 => 188 | 242 => 189 | 313 => 190 | 278 => 201 | 274 => 202 | 275 => 203 | n => n, fun | 9 => 9 | 4 => 4 | 3 => 3 | 5 => 5 | 72 => 89 | 0 => 0 | 76 => 93 | 75 => 91 | 107 => 159 | 70 => 87 | 20 => 20 | 37 => 58 | 127 => 119 | 21 => 21 | 105 => 169 | 164 => 130 | 162 => 191 | 203 => 189 | 119 => 126 | 46 => 95 | 139 => 129 | 138 => 128 | 51 => 153 | 160 => 202 | 208 => 213 | 206 => 211 | 80 => 96 | n => n, fun | 13 => 3 | 3 => 0 | 4 => 1 | n => n⟩
theorem Tryz.lays159 : Go.Proofs.Lays.n159 Tryz.prog Tryz.lays159_ren := {
  mixed := by kernel_rfl
  f118 := Tryz.func172.trans (congrArg some (by kernel_rfl))
  f159 := Tryz.func151.trans (congrArg some (by kernel_rfl))
  f165 := Tryz.func76.trans (congrArg some (by kernel_rfl))
  f166 := Tryz.func74.trans (congrArg some (by kernel_rfl))
  f167 := Tryz.func73.trans (congrArg some (by kernel_rfl))
  f168 := Tryz.func173.trans (congrArg some (by kernel_rfl))
  f169 := Tryz.func75.trans (congrArg some (by kernel_rfl))
  f197 := Tryz.func171.trans (congrArg some (by kernel_rfl))
  f204 := Tryz.func160.trans (congrArg some (by kernel_rfl))
  f230 := Tryz.func159.trans (congrArg some (by kernel_rfl))
  f240 := Tryz.func107.trans (congrArg some (by kernel_rfl))
  f241 := Tryz.func108.trans (congrArg some (by kernel_rfl))
  f242 := Tryz.func189.trans (congrArg some (by kernel_rfl))
  f260 := Tryz.func188.trans (congrArg some (by kernel_rfl))
  f262 := Tryz.func175.trans (congrArg some (by kernel_rfl))
  f270 := Tryz.func174.trans (congrArg some (by kernel_rfl))
  f274 := Tryz.func202.trans (congrArg some (by kernel_rfl))
  f275 := Tryz.func203.trans (congrArg some (by kernel_rfl))
  f276 := Tryz.func129.trans (congrArg some (by kernel_rfl))
  f277 := Tryz.func130.trans (congrArg some (by kernel_rfl))
  f278 := Tryz.func201.trans (congrArg some (by kernel_rfl))
  f313 := Tryz.func190.trans (congrArg some (by kernel_rfl))
  t0 := Tryz.underlying0
  a0 := Tryz.isAgg0
  z0 := Tryz.sizeOf0
  v0 := Tryz.zeroValue0
  t3 := Tryz.underlying3
  a3 := Tryz.isAgg3
  z3 := Tryz.sizeOf3
  v3 := Tryz.zeroValue3
  t4 := Tryz.underlying4
  a4 := Tryz.isAgg4
  z4 := Tryz.sizeOf4
  v4 := Tryz.zeroValue4
  t5 := Tryz.underlying5
  a5 := Tryz.isAgg5
  z5 := Tryz.sizeOf5
  v5 := Tryz.zeroValue5
  t9 := Tryz.underlying9
  a9 := Tryz.isAgg9
  z9 := Tryz.sizeOf9
  v9 := Tryz.zeroValue9
  t20 := Tryz.underlying20
  a20 := Tryz.isAgg20
  z20 := Tryz.sizeOf20
  v20 := Tryz.zeroValue20
  t21 := Tryz.underlying21
  a21 := Tryz.isAgg21
  z21 := Tryz.sizeOf21
  v21 := Tryz.zeroValue21
  t37 := Tryz.underlying58
  a37 := Tryz.isAgg58
  z37 := Tryz.sizeOf58
  v37 := Tryz.zeroValue58
  t46 := Tryz.underlying95
  a46 := Tryz.isAgg95
  z46 := Tryz.sizeOf95
  v46 := Tryz.zeroValue95
  t51 := Tryz.underlying153
  a51 := Tryz.isAgg153
  z51 := Tryz.sizeOf153
  v51 := Tryz.zeroValue153
  t70 := Tryz.underlying87
  a70 := Tryz.isAgg87
  z70 := Tryz.sizeOf87
  v70 := Tryz.zeroValue87
  t72 := Tryz.underlying89
  a72 := Tryz.isAgg89
  z72 := Tryz.sizeOf89
  v72 := Tryz.zeroValue89
  t75 := Tryz.underlying91
  a75 := Tryz.isAgg91
  z75 := Tryz.sizeOf91
  v75 := Tryz.zeroValue91
  t76 := Tryz.underlying93
  a76 := Tryz.isAgg93
  z76 := Tryz.sizeOf93
  v76 := Tryz.zeroValue93
  t105 := Tryz.underlying169
  a105 := Tryz.isAgg169
  z105 := Tryz.sizeOf169
  v105 := Tryz.zeroValue169
  t107 := Tryz.underlying159
  a107 := Tryz.isAgg159
  z107 := Tryz.sizeOf159
  v107 := Tryz.zeroValue159
  t119 := Tryz.underlying126
  a119 := Tryz.isAgg126
  z119 := Tryz.sizeOf126
  t127 := Tryz.underlying119
  a127 := Tryz.isAgg119
  z127 := Tryz.sizeOf119
  v127 := Tryz.zeroValue119
  t138 := Tryz.underlying128
  a138 := Tryz.isAgg128
  z138 := Tryz.sizeOf128
  v138 := Tryz.zeroValue128
  t139 := Tryz.underlying129
  a139 := Tryz.isAgg129
  z139 := Tryz.sizeOf129
  v139 := Tryz.zeroValue129
  t160 := Tryz.underlying202
  a160 := Tryz.isAgg202
  z160 := Tryz.sizeOf202
  v160 := Tryz.zeroValue202
  t162 := Tryz.underlying191
  a162 := Tryz.isAgg191
  z162 := Tryz.sizeOf191
  v162 := Tryz.zeroValue191
  t164 := Tryz.underlying130
  a164 := Tryz.isAgg130
  z164 := Tryz.sizeOf130
  v164 := Tryz.zeroValue130
  t203 := Tryz.underlying189
  a203 := Tryz.isAgg189
  z203 := Tryz.sizeOf189
  v203 := Tryz.zeroValue189
  t206 := Tryz.underlying211
  a206 := Tryz.isAgg211
  z206 := Tryz.sizeOf211
  v206 := Tryz.zeroValue211
  t208 := Tryz.underlying213
  a208 := Tryz.isAgg213
  z208 := Tryz.sizeOf213
  v208 := Tryz.zeroValue213
  g3 := by kernel_rfl
  g4 := by kernel_rfl
  g13 := by kernel_rfl }
theorem Tryz.Builder_Extra_159 : Builder.Extra Tryz.prog Tryz.lays159_ren := {
  sizeBuilder := by kernel_rfl
  liesBuilder := by kernel_rfl
  t5 := Tryz.underlying5
  a5 := Tryz.isAgg5
  z5 := Tryz.sizeOf5
  v5 := Tryz.zeroValue5
  infoByte := by kernel_rfl
  cellsByte := by kernel_rfl
  sizeByte := by kernel_rfl
  neB5 := by decide }
open Go.RowKit in
/-- strings.ToLower: "ToLower returns s with all Unicode letters mapped to their lower case.": ON ASCII TEXT OF AT MOST 2^47 BYTES. Below the heap's end the world is as it was: where a letter turns, the call makes a builder and its buffer. (LAID: no walk: one application.) -/
theorem Tryz.strings_ToLower_ascii (s : ByteArray) (w : World) (hs : s.size ≤ 140737488355328) (hascii : ∀ (j : Nat) (b : UInt8), s.data.toList[j]? = some b → b.toNat < 128) :
    Calls Tryz.prog 151 #[.string s] w fun e w' => e = .returned (.string ⟨(Lib.toLowerA s.data.toList).toArray⟩) ∧ Below w.heap.size w w' := Any.strings_ToLower_ascii Tryz.lays159 Tryz.Builder_Extra_159 s w hs hascii
def Tryz.lays156_ren : Go.Shelf.Ren := ⟨fun | 156 => 45 | 165 => 76 | 166 => 74 | 169 => 75 | 240 => 107 | 241 => 108 | 276 => 129 | 277 => 130 | n => n, fun | 31 => 64 | 9 => 9 | 3 => 3 | 4 => 4 | 0 => 0 | 20 => 20 | 72 => 89 | 76 => 93 | 70 => 87 | 37 => 58 | 75 => 91 | 127 => 119 | 164 => 130 | 5 => 5 | 80 => 96 | n => n, fun | n => n⟩
theorem Tryz.lays156 : Go.Proofs.Lays.n156 Tryz.prog Tryz.lays156_ren := {
  mixed := by kernel_rfl
  f156 := Tryz.func45.trans (congrArg some (by kernel_rfl))
  f165 := Tryz.func76.trans (congrArg some (by kernel_rfl))
  f166 := Tryz.func74.trans (congrArg some (by kernel_rfl))
  f169 := Tryz.func75.trans (congrArg some (by kernel_rfl))
  f240 := Tryz.func107.trans (congrArg some (by kernel_rfl))
  f241 := Tryz.func108.trans (congrArg some (by kernel_rfl))
  f276 := Tryz.func129.trans (congrArg some (by kernel_rfl))
  f277 := Tryz.func130.trans (congrArg some (by kernel_rfl))
  t0 := Tryz.underlying0
  a0 := Tryz.isAgg0
  z0 := Tryz.sizeOf0
  v0 := Tryz.zeroValue0
  t3 := Tryz.underlying3
  a3 := Tryz.isAgg3
  z3 := Tryz.sizeOf3
  v3 := Tryz.zeroValue3
  t4 := Tryz.underlying4
  a4 := Tryz.isAgg4
  z4 := Tryz.sizeOf4
  v4 := Tryz.zeroValue4
  t9 := Tryz.underlying9
  a9 := Tryz.isAgg9
  z9 := Tryz.sizeOf9
  v9 := Tryz.zeroValue9
  t20 := Tryz.underlying20
  a20 := Tryz.isAgg20
  z20 := Tryz.sizeOf20
  v20 := Tryz.zeroValue20
  t31 := Tryz.underlying64
  a31 := Tryz.isAgg64
  z31 := Tryz.sizeOf64
  v31 := Tryz.zeroValue64
  t37 := Tryz.underlying58
  a37 := Tryz.isAgg58
  z37 := Tryz.sizeOf58
  v37 := Tryz.zeroValue58
  t70 := Tryz.underlying87
  a70 := Tryz.isAgg87
  z70 := Tryz.sizeOf87
  v70 := Tryz.zeroValue87
  t72 := Tryz.underlying89
  a72 := Tryz.isAgg89
  z72 := Tryz.sizeOf89
  v72 := Tryz.zeroValue89
  t75 := Tryz.underlying91
  a75 := Tryz.isAgg91
  z75 := Tryz.sizeOf91
  v75 := Tryz.zeroValue91
  t76 := Tryz.underlying93
  a76 := Tryz.isAgg93
  z76 := Tryz.sizeOf93
  v76 := Tryz.zeroValue93
  t127 := Tryz.underlying119
  a127 := Tryz.isAgg119
  z127 := Tryz.sizeOf119
  v127 := Tryz.zeroValue119
  t164 := Tryz.underlying130
  a164 := Tryz.isAgg130
  z164 := Tryz.sizeOf130
  v164 := Tryz.zeroValue130 }
theorem Tryz.Builder_Extra_156 : Builder.Extra Tryz.prog Tryz.lays156_ren := {
  sizeBuilder := by kernel_rfl
  liesBuilder := by kernel_rfl
  t5 := Tryz.underlying5
  a5 := Tryz.isAgg5
  z5 := Tryz.sizeOf5
  v5 := Tryz.zeroValue5
  infoByte := by kernel_rfl
  cellsByte := by kernel_rfl
  sizeByte := by kernel_rfl
  neB5 := by decide }
open Go.RowKit in
/-- No element: the empty string; the world is as it was. (Whatever the slice's address and capacity: a nil slice too.) (LAID: no walk: one application.) -/
theorem Tryz.strings_Join_none (a : Option Addr) (c : Nat) (sep : ByteArray) (w : World) :
    Calls Tryz.prog 45 #[.slice a 0 c, .string sep] w fun e w' => e = .returned (.string ⟨#[]⟩) ∧ w' = w := Any.strings_Join_none Tryz.lays156 Tryz.Builder_Extra_156 a c sep w
open Go.RowKit in
/-- strings.Join: "Join concatenates the elements of its first argument to create a single string. The separator string sep is placed between elements in the resulting string.": HOWEVER MANY ELEMENTS. Below the heap's end the world is as it was. (LAID: no walk: one application.) -/
theorem Tryz.strings_Join (bk o c : Nat) (xs : List ByteArray) (sep : ByteArray) (w : World) (hcells : ∀ (j : Nat) x, xs[j]? = some x → w.cell? ⟨bk, o + j, none⟩ = some (.string x)) (hbk : bk < w.heap.size) (hN : xs.length ≤ 140737488355328) (hcap : xs.length ≤ c) (hlen : (Lib.join (xs.map (·.data.toList)) sep.data.toList).length ≤ 140737488355328) :
    Calls Tryz.prog 45 #[.slice (some ⟨bk, o, none⟩) xs.length c, .string sep] w fun e w' => e = .returned (.string ⟨(Lib.join (xs.map (·.data.toList)) sep.data.toList).toArray⟩) ∧ Below w.heap.size w w' := Any.strings_Join Tryz.lays156 Tryz.Builder_Extra_156 bk o c xs sep w hcells hbk hN hcap hlen
def Tryz.lays161_ren : Go.Shelf.Ren := ⟨fun | 161 => 153 | 231 => 163 | 227 => 164 | 233 => 165 | 235 => 166 | 228 => 181 | 197 => 171 | 151 => 182 | 260 => 188 | 152 => 194 | 137 => 124 | 119 => 206 | 224 => 145 | 225 => 144 | 217 => 137 | 266 => 147 | n => n, fun | 9 => 9 | 4 => 4 | 3 => 3 | 5 => 5 | 117 => 164 | 116 => 163 | 0 => 0 | 124 => 167 | 105 => 169 | 21 => 21 | 119 => 126 | 46 => 95 | 139 => 129 | 138 => 128 | n => n, fun | 3 => 0 | 4 => 1 | n => n⟩
theorem Tryz.lays161 : Go.Proofs.Lays.n161 Tryz.prog Tryz.lays161_ren := {
  mixed := by kernel_rfl
  f119 := Tryz.func206.trans (congrArg some (by kernel_rfl))
  f137 := Tryz.func124.trans (congrArg some (by kernel_rfl))
  f151 := Tryz.func182.trans (congrArg some (by kernel_rfl))
  f152 := Tryz.func194.trans (congrArg some (by kernel_rfl))
  f161 := Tryz.func153.trans (congrArg some (by kernel_rfl))
  f197 := Tryz.func171.trans (congrArg some (by kernel_rfl))
  f217 := Tryz.func137.trans (congrArg some (by kernel_rfl))
  f224 := Tryz.func145.trans (congrArg some (by kernel_rfl))
  f225 := Tryz.func144.trans (congrArg some (by kernel_rfl))
  f227 := Tryz.func164.trans (congrArg some (by kernel_rfl))
  f228 := Tryz.func181.trans (congrArg some (by kernel_rfl))
  f231 := Tryz.func163.trans (congrArg some (by kernel_rfl))
  f233 := Tryz.func165.trans (congrArg some (by kernel_rfl))
  f235 := Tryz.func166.trans (congrArg some (by kernel_rfl))
  f260 := Tryz.func188.trans (congrArg some (by kernel_rfl))
  f266 := Tryz.func147.trans (congrArg some (by kernel_rfl))
  t0 := Tryz.underlying0
  a0 := Tryz.isAgg0
  z0 := Tryz.sizeOf0
  v0 := Tryz.zeroValue0
  t3 := Tryz.underlying3
  a3 := Tryz.isAgg3
  z3 := Tryz.sizeOf3
  v3 := Tryz.zeroValue3
  t4 := Tryz.underlying4
  a4 := Tryz.isAgg4
  z4 := Tryz.sizeOf4
  v4 := Tryz.zeroValue4
  t5 := Tryz.underlying5
  a5 := Tryz.isAgg5
  z5 := Tryz.sizeOf5
  v5 := Tryz.zeroValue5
  t9 := Tryz.underlying9
  a9 := Tryz.isAgg9
  z9 := Tryz.sizeOf9
  v9 := Tryz.zeroValue9
  t21 := Tryz.underlying21
  a21 := Tryz.isAgg21
  z21 := Tryz.sizeOf21
  v21 := Tryz.zeroValue21
  t46 := Tryz.underlying95
  a46 := Tryz.isAgg95
  z46 := Tryz.sizeOf95
  v46 := Tryz.zeroValue95
  t105 := Tryz.underlying169
  a105 := Tryz.isAgg169
  z105 := Tryz.sizeOf169
  v105 := Tryz.zeroValue169
  t116 := Tryz.underlying163
  a116 := Tryz.isAgg163
  z116 := Tryz.sizeOf163
  t117 := Tryz.underlying164
  a117 := Tryz.isAgg164
  z117 := Tryz.sizeOf164
  v117 := Tryz.zeroValue164
  t119 := Tryz.underlying126
  a119 := Tryz.isAgg126
  z119 := Tryz.sizeOf126
  t124 := Tryz.underlying167
  a124 := Tryz.isAgg167
  z124 := Tryz.sizeOf167
  v124 := Tryz.zeroValue167
  t138 := Tryz.underlying128
  a138 := Tryz.isAgg128
  z138 := Tryz.sizeOf128
  v138 := Tryz.zeroValue128
  t139 := Tryz.underlying129
  a139 := Tryz.isAgg129
  z139 := Tryz.sizeOf129
  v139 := Tryz.zeroValue129
  g3 := by kernel_rfl
  g4 := by kernel_rfl }
open Go.RowKit in
/-- strings.TrimLeft: "TrimLeft returns a slice of the string s with all leading Unicode code points contained in cutset removed.": AT A cutset OF ONE ASCII BYTE. The world is as it was. (LAID: no walk: one application.) -/
theorem Tryz.strings_TrimLeft_one (s : ByteArray) (c : UInt8) (hc : c.toNat < 128) (w : World) :
    Calls Tryz.prog 153 #[.string s, .string ⟨#[c]⟩] w fun e w' => e = .returned (.string ⟨(Lib.trimLeftB s.data.toList c).toArray⟩) ∧ w' = w := Any.strings_TrimLeft_one Tryz.lays161 s c hc w
def Tryz.lays162_ren : Go.Shelf.Ren := ⟨fun | 162 => 154 | 232 => 167 | 227 => 164 | 234 => 168 | 236 => 169 | 228 => 181 | 271 => 183 | 151 => 182 | 120 => 195 | 197 => 171 | 152 => 194 | 260 => 188 | 137 => 124 | 119 => 206 | 224 => 145 | 225 => 144 | 217 => 137 | 266 => 147 | n => n, fun | 9 => 9 | 4 => 4 | 3 => 3 | 5 => 5 | 117 => 164 | 116 => 163 | 0 => 0 | 124 => 167 | 21 => 21 | 105 => 169 | 46 => 95 | 119 => 126 | 139 => 129 | 138 => 128 | n => n, fun | 3 => 0 | 4 => 1 | n => n⟩
theorem Tryz.lays162 : Go.Proofs.Lays.n162 Tryz.prog Tryz.lays162_ren := {
  mixed := by kernel_rfl
  f119 := Tryz.func206.trans (congrArg some (by kernel_rfl))
  f120 := Tryz.func195.trans (congrArg some (by kernel_rfl))
  f137 := Tryz.func124.trans (congrArg some (by kernel_rfl))
  f151 := Tryz.func182.trans (congrArg some (by kernel_rfl))
  f152 := Tryz.func194.trans (congrArg some (by kernel_rfl))
  f162 := Tryz.func154.trans (congrArg some (by kernel_rfl))
  f197 := Tryz.func171.trans (congrArg some (by kernel_rfl))
  f217 := Tryz.func137.trans (congrArg some (by kernel_rfl))
  f224 := Tryz.func145.trans (congrArg some (by kernel_rfl))
  f225 := Tryz.func144.trans (congrArg some (by kernel_rfl))
  f227 := Tryz.func164.trans (congrArg some (by kernel_rfl))
  f228 := Tryz.func181.trans (congrArg some (by kernel_rfl))
  f232 := Tryz.func167.trans (congrArg some (by kernel_rfl))
  f234 := Tryz.func168.trans (congrArg some (by kernel_rfl))
  f236 := Tryz.func169.trans (congrArg some (by kernel_rfl))
  f260 := Tryz.func188.trans (congrArg some (by kernel_rfl))
  f266 := Tryz.func147.trans (congrArg some (by kernel_rfl))
  f271 := Tryz.func183.trans (congrArg some (by kernel_rfl))
  t0 := Tryz.underlying0
  a0 := Tryz.isAgg0
  z0 := Tryz.sizeOf0
  v0 := Tryz.zeroValue0
  t3 := Tryz.underlying3
  a3 := Tryz.isAgg3
  z3 := Tryz.sizeOf3
  v3 := Tryz.zeroValue3
  t4 := Tryz.underlying4
  a4 := Tryz.isAgg4
  z4 := Tryz.sizeOf4
  v4 := Tryz.zeroValue4
  t5 := Tryz.underlying5
  a5 := Tryz.isAgg5
  z5 := Tryz.sizeOf5
  v5 := Tryz.zeroValue5
  t9 := Tryz.underlying9
  a9 := Tryz.isAgg9
  z9 := Tryz.sizeOf9
  v9 := Tryz.zeroValue9
  t21 := Tryz.underlying21
  a21 := Tryz.isAgg21
  z21 := Tryz.sizeOf21
  v21 := Tryz.zeroValue21
  t46 := Tryz.underlying95
  a46 := Tryz.isAgg95
  z46 := Tryz.sizeOf95
  v46 := Tryz.zeroValue95
  t105 := Tryz.underlying169
  a105 := Tryz.isAgg169
  z105 := Tryz.sizeOf169
  v105 := Tryz.zeroValue169
  t116 := Tryz.underlying163
  a116 := Tryz.isAgg163
  z116 := Tryz.sizeOf163
  t117 := Tryz.underlying164
  a117 := Tryz.isAgg164
  z117 := Tryz.sizeOf164
  v117 := Tryz.zeroValue164
  t119 := Tryz.underlying126
  a119 := Tryz.isAgg126
  z119 := Tryz.sizeOf126
  t124 := Tryz.underlying167
  a124 := Tryz.isAgg167
  z124 := Tryz.sizeOf167
  v124 := Tryz.zeroValue167
  t138 := Tryz.underlying128
  a138 := Tryz.isAgg128
  z138 := Tryz.sizeOf128
  v138 := Tryz.zeroValue128
  t139 := Tryz.underlying129
  a139 := Tryz.isAgg129
  z139 := Tryz.sizeOf129
  v139 := Tryz.zeroValue129
  g3 := by kernel_rfl
  g4 := by kernel_rfl }
open Go.RowKit in
/-- strings.TrimRight: "TrimRight returns a slice of the string s, with all trailing Unicode code points contained in cutset removed.": AT A cutset OF ONE ASCII BYTE. The world is as it was. (LAID: no walk: one application.) -/
theorem Tryz.strings_TrimRight_one (s : ByteArray) (c : UInt8) (hc : c.toNat < 128) (w : World) (hs : s.size ≤ 9223372036854775807) :
    Calls Tryz.prog 154 #[.string s, .string ⟨#[c]⟩] w fun e w' => e = .returned (.string ⟨(Lib.trimRightB s.data.toList c).toArray⟩) ∧ w' = w := Any.strings_TrimRight_one Tryz.lays162 s c hc w hs
def Tryz.lays137_ren : Go.Shelf.Ren := ⟨fun | 137 => 124 | 217 => 137 | 266 => 147 | n => n, fun | 9 => 9 | 5 => 5 | 3 => 3 | n => n, fun | n => n⟩
theorem Tryz.lays137 : Go.Proofs.Lays.n137 Tryz.prog Tryz.lays137_ren := {
  mixed := by kernel_rfl
  f137 := Tryz.func124.trans (congrArg some (by kernel_rfl))
  f217 := Tryz.func137.trans (congrArg some (by kernel_rfl))
  f266 := Tryz.func147.trans (congrArg some (by kernel_rfl))
  t3 := Tryz.underlying3
  a3 := Tryz.isAgg3
  z3 := Tryz.sizeOf3
  v3 := Tryz.zeroValue3
  t5 := Tryz.underlying5
  a5 := Tryz.isAgg5
  z5 := Tryz.sizeOf5
  v5 := Tryz.zeroValue5
  t9 := Tryz.underlying9
  a9 := Tryz.isAgg9
  z9 := Tryz.sizeOf9
  v9 := Tryz.zeroValue9 }
open Go.RowKit in
/-- strings.IndexByte: "IndexByte returns the index of the first instance of c in s, or -1 if c is not present in s.": IT RETURNS 'Lib.indexByte s c'; the world is as it was. (LAID: no walk: one application.) -/
theorem Tryz.strings_IndexByte (s : ByteArray) (c : Int) (w : World) :
    Calls Tryz.prog 124 #[.string s, .int .u8 c] w fun e w' => e = .returned (.int .i64 (Lib.indexByte s.data.toList c.toNat.toUInt8)) ∧ w' = w := Any.strings_IndexByte Tryz.lays137 s c w
def Tryz.lays103_ren : Go.Shelf.Ren := ⟨fun | 103 => 96 | 210 => 121 | 206 => 135 | n => n, fun | 9 => 9 | 4 => 4 | 24 => 100 | 3 => 3 | n => n, fun | n => n⟩
theorem Tryz.lays103 : Go.Proofs.Lays.n103 Tryz.prog Tryz.lays103_ren := {
  mixed := by kernel_rfl
  f103 := Tryz.func96.trans (congrArg some (by kernel_rfl))
  f206 := Tryz.func135.trans (congrArg some (by kernel_rfl))
  f210 := Tryz.func121.trans (congrArg some (by kernel_rfl))
  t3 := Tryz.underlying3
  a3 := Tryz.isAgg3
  z3 := Tryz.sizeOf3
  v3 := Tryz.zeroValue3
  t4 := Tryz.underlying4
  a4 := Tryz.isAgg4
  z4 := Tryz.sizeOf4
  v4 := Tryz.zeroValue4
  t9 := Tryz.underlying9
  a9 := Tryz.isAgg9
  z9 := Tryz.sizeOf9
  v9 := Tryz.zeroValue9
  t24 := Tryz.underlying100
  a24 := Tryz.isAgg100
  z24 := Tryz.sizeOf100
  v24 := Tryz.zeroValue100 }
open Go.RowKit in
/-- strings.CutPrefix: "CutPrefix returns s without the provided leading prefix string and reports whether it found the prefix. If s doesn't start with prefix, CutPrefix returns s, false. If prefix is the empty string, CutPrefix returns s, true.": IT RETURNS '(Lib.trimPrefix s p, Lib.hasPrefix s p)'; the world is as it was. (LAID: no walk: one application.) -/
theorem Tryz.strings_CutPrefix (s p : ByteArray) (w : World) :
    Calls Tryz.prog 96 #[.string s, .string p] w fun e w' => e = .returned (.tuple #[.string ⟨(Lib.trimPrefix s.data.toList p.data.toList).toArray⟩, .bool (Lib.hasPrefix s.data.toList p.data.toList)]) ∧ w' = w := Any.strings_CutPrefix Tryz.lays103 s p w
def Tryz.laysM171_ren : Go.Shelf.Ren := ⟨fun | 171 => 143 | 243 => 155 | 246 => 170 | 283 => 184 | 284 => 185 | 285 => 186 | 286 => 187 | 129 => 197 | 317 => 196 | 318 => 198 | 319 => 199 | 320 => 200 | 337 => 207 | 338 => 208 | n => n, fun | 3 => 3 | 9 => 9 | 2 => 2 | 4 => 4 | 171 => 183 | 0 => 0 | 53 => 139 | 37 => 58 | 5 => 5 | 173 => 186 | 212 => 199 | 51 => 153 | 20 => 20 | 213 => 200 | 46 => 95 | 232 => 214 | 233 => 215 | n => n, fun | 17 => 6 | 18 => 7 | 19 => 8 | n => n⟩
theorem Tryz.laysM171 : Go.Proofs.LaysM.n171 Tryz.prog Tryz.laysM171_ren := {
  mixed := by kernel_rfl
  f129 := Tryz.func197.trans (congrArg some (by kernel_rfl))
  f171 := Tryz.func143.trans (congrArg some (by kernel_rfl))
  f243 := Tryz.func155.trans (congrArg some (by kernel_rfl))
  f246 := Tryz.func170.trans (congrArg some (by kernel_rfl))
  f283 := Tryz.func184.trans (congrArg some (by kernel_rfl))
  f284 := Tryz.func185.trans (congrArg some (by kernel_rfl))
  f285 := Tryz.func186.trans (congrArg some (by kernel_rfl))
  f286 := Tryz.func187.trans (congrArg some (by kernel_rfl))
  f317 := Tryz.func196.trans (congrArg some (by kernel_rfl))
  f318 := Tryz.func198.trans (congrArg some (by kernel_rfl))
  f319 := Tryz.func199.trans (congrArg some (by kernel_rfl))
  f320 := Tryz.func200.trans (congrArg some (by kernel_rfl))
  f337 := Tryz.func207.trans (congrArg some (by kernel_rfl))
  f338 := Tryz.func208.trans (congrArg some (by kernel_rfl))
  t0 := Tryz.underlying0
  a0 := Tryz.isAgg0
  z0 := Tryz.sizeOf0
  v0 := Tryz.zeroValue0
  t2 := Tryz.underlying2
  a2 := Tryz.isAgg2
  z2 := Tryz.sizeOf2
  v2 := Tryz.zeroValue2
  t3 := Tryz.underlying3
  a3 := Tryz.isAgg3
  z3 := Tryz.sizeOf3
  v3 := Tryz.zeroValue3
  t4 := Tryz.underlying4
  a4 := Tryz.isAgg4
  z4 := Tryz.sizeOf4
  v4 := Tryz.zeroValue4
  t5 := Tryz.underlying5
  a5 := Tryz.isAgg5
  z5 := Tryz.sizeOf5
  v5 := Tryz.zeroValue5
  t9 := Tryz.underlying9
  a9 := Tryz.isAgg9
  z9 := Tryz.sizeOf9
  v9 := Tryz.zeroValue9
  t20 := Tryz.underlying20
  a20 := Tryz.isAgg20
  z20 := Tryz.sizeOf20
  v20 := Tryz.zeroValue20
  t37 := Tryz.underlying58
  a37 := Tryz.isAgg58
  z37 := Tryz.sizeOf58
  v37 := Tryz.zeroValue58
  t46 := Tryz.underlying95
  a46 := Tryz.isAgg95
  z46 := Tryz.sizeOf95
  v46 := Tryz.zeroValue95
  t51 := Tryz.underlying153
  a51 := Tryz.isAgg153
  z51 := Tryz.sizeOf153
  v51 := Tryz.zeroValue153
  t53 := Tryz.underlying139
  a53 := Tryz.isAgg139
  z53 := Tryz.sizeOf139
  v53 := Tryz.zeroValue139
  t171 := Tryz.underlying183
  a171 := Tryz.isAgg183
  z171 := Tryz.sizeOf183
  v171 := Tryz.zeroValue183
  t173 := Tryz.underlying186
  a173 := Tryz.isAgg186
  z173 := Tryz.sizeOf186
  v173 := Tryz.zeroValue186
  t212 := Tryz.underlying199
  a212 := Tryz.isAgg199
  z212 := Tryz.sizeOf199
  v212 := Tryz.zeroValue199
  t213 := Tryz.underlying200
  a213 := Tryz.isAgg200
  z213 := Tryz.sizeOf200
  t232 := Tryz.underlying214
  a232 := Tryz.isAgg214
  z232 := Tryz.sizeOf214
  v232 := Tryz.zeroValue214
  t233 := Tryz.underlying215
  a233 := Tryz.isAgg215
  z233 := Tryz.sizeOf215
  v233 := Tryz.zeroValue215
  g17 := by kernel_rfl
  g18 := by kernel_rfl
  g19 := by kernel_rfl
  i0 := by kernel_rfl
  i2 := by kernel_rfl
  i3 := by kernel_rfl
  i4 := by kernel_rfl
  i5 := by kernel_rfl
  i9 := by kernel_rfl
  i20 := by kernel_rfl
  i37 := by kernel_rfl
  i46 := by kernel_rfl
  i51 := by kernel_rfl
  i53 := by kernel_rfl
  i171 := by kernel_rfl
  i173 := by kernel_rfl
  i212 := by kernel_rfl
  i232 := by kernel_rfl
  i233 := by kernel_rfl
  m17 := by kernel_rfl
  m18 := by kernel_rfl
  m19 := by kernel_rfl }
open Go.RowKit Go.Sort Go.Lib in
/-- strconv.Itoa: "Itoa is equivalent to FormatInt(int64(i), 10).": i's DECIMAL NUMERAL ('Lib.itoa': a '-' where i is negative, then the digits), FOR EVERY int. The world behind the call: the world before it, new blocks behind the heap (the library's 'var a [24]byte'), draws. (LAID: no walk: one application.) -/
theorem Tryz.strconv_Itoa (n : Int) (h0 : -9223372036854775808 ≤ n) (h1 : n ≤ 9223372036854775807) (w : World) (htab : Lib.TabIs Tryz.prog w "internal/strconv.uint64pow10" .u64 Lib.pow10Tab) :
    Calls Tryz.prog 143 #[.int .i64 n] w fun e w' => e = .returned (.string ⟨(Lib.itoa n).toArray⟩) ∧ ∃ k os, w' = grow (w.drewN k) os := Any.strconv_Itoa Tryz.laysM171 n h0 h1 w htab
def Tryz.laysC172_ren : Go.Shelf.Ren := ⟨fun | 172 => 152 | 244 => 161 | 245 => 162 | 247 => 176 | 279 => 177 | 280 => 178 | 281 => 179 | 282 => 180 | 287 => 191 | 316 => 192 | 171 => 143 | 205 => 193 | 321 => 204 | 322 => 205 | 243 => 155 | 246 => 170 | 283 => 184 | 284 => 185 | 285 => 186 | 286 => 187 | 129 => 197 | 317 => 196 | 318 => 198 | 319 => 199 | 320 => 200 | 337 => 207 | 338 => 208 | n => n, fun | 9 => 9 | 3 => 3 | 75 => 91 | 76 => 93 | 4 => 4 | 5 => 5 | 167 => 175 | 37 => 58 | 0 => 0 | 85 => 176 | 2 => 2 | 168 => 178 | 53 => 139 | 175 => 192 | 46 => 95 | 210 => 195 | 127 => 119 | 145 => 208 | 143 => 206 | 21 => 21 | 171 => 183 | 173 => 186 | 212 => 199 | 51 => 153 | 20 => 20 | 213 => 200 | 232 => 214 | 233 => 215 | 80 => 96 | n => n, fun | 15 => 4 | 16 => 5 | 17 => 6 | 18 => 7 | 19 => 8 | n => n⟩
theorem Tryz.laysC172 : Go.Proofs.LaysC.n172 Tryz.prog Tryz.laysC172_ren := {
  mixed := by kernel_rfl
  f129 := Tryz.func197.trans (congrArg some (by kernel_rfl))
  f171 := Tryz.func143.trans (congrArg some (by kernel_rfl))
  f172 := Tryz.func152.trans (congrArg some (by kernel_rfl))
  f205 := Tryz.func193.trans (congrArg some (by kernel_rfl))
  f243 := Tryz.func155.trans (congrArg some (by kernel_rfl))
  f244 := Tryz.func161.trans (congrArg some (by kernel_rfl))
  f245 := Tryz.func162.trans (congrArg some (by kernel_rfl))
  f246 := Tryz.func170.trans (congrArg some (by kernel_rfl))
  f247 := Tryz.func176.trans (congrArg some (by kernel_rfl))
  f279 := Tryz.func177.trans (congrArg some (by kernel_rfl))
  f280 := Tryz.func178.trans (congrArg some (by kernel_rfl))
  f281 := Tryz.func179.trans (congrArg some (by kernel_rfl))
  f282 := Tryz.func180.trans (congrArg some (by kernel_rfl))
  f283 := Tryz.func184.trans (congrArg some (by kernel_rfl))
  f284 := Tryz.func185.trans (congrArg some (by kernel_rfl))
  f285 := Tryz.func186.trans (congrArg some (by kernel_rfl))
  f286 := Tryz.func187.trans (congrArg some (by kernel_rfl))
  f287 := Tryz.func191.trans (congrArg some (by kernel_rfl))
  f316 := Tryz.func192.trans (congrArg some (by kernel_rfl))
  f317 := Tryz.func196.trans (congrArg some (by kernel_rfl))
  f318 := Tryz.func198.trans (congrArg some (by kernel_rfl))
  f319 := Tryz.func199.trans (congrArg some (by kernel_rfl))
  f320 := Tryz.func200.trans (congrArg some (by kernel_rfl))
  f321 := Tryz.func204.trans (congrArg some (by kernel_rfl))
  f322 := Tryz.func205.trans (congrArg some (by kernel_rfl))
  f337 := Tryz.func207.trans (congrArg some (by kernel_rfl))
  f338 := Tryz.func208.trans (congrArg some (by kernel_rfl))
  t0 := Tryz.underlying0
  a0 := Tryz.isAgg0
  z0 := Tryz.sizeOf0
  v0 := Tryz.zeroValue0
  t2 := Tryz.underlying2
  a2 := Tryz.isAgg2
  z2 := Tryz.sizeOf2
  v2 := Tryz.zeroValue2
  t3 := Tryz.underlying3
  a3 := Tryz.isAgg3
  z3 := Tryz.sizeOf3
  v3 := Tryz.zeroValue3
  t4 := Tryz.underlying4
  a4 := Tryz.isAgg4
  z4 := Tryz.sizeOf4
  v4 := Tryz.zeroValue4
  t5 := Tryz.underlying5
  a5 := Tryz.isAgg5
  z5 := Tryz.sizeOf5
  v5 := Tryz.zeroValue5
  t9 := Tryz.underlying9
  a9 := Tryz.isAgg9
  z9 := Tryz.sizeOf9
  v9 := Tryz.zeroValue9
  t20 := Tryz.underlying20
  a20 := Tryz.isAgg20
  z20 := Tryz.sizeOf20
  v20 := Tryz.zeroValue20
  t21 := Tryz.underlying21
  a21 := Tryz.isAgg21
  z21 := Tryz.sizeOf21
  v21 := Tryz.zeroValue21
  t37 := Tryz.underlying58
  a37 := Tryz.isAgg58
  z37 := Tryz.sizeOf58
  v37 := Tryz.zeroValue58
  t46 := Tryz.underlying95
  a46 := Tryz.isAgg95
  z46 := Tryz.sizeOf95
  v46 := Tryz.zeroValue95
  t51 := Tryz.underlying153
  a51 := Tryz.isAgg153
  z51 := Tryz.sizeOf153
  v51 := Tryz.zeroValue153
  t53 := Tryz.underlying139
  a53 := Tryz.isAgg139
  z53 := Tryz.sizeOf139
  v53 := Tryz.zeroValue139
  t75 := Tryz.underlying91
  a75 := Tryz.isAgg91
  z75 := Tryz.sizeOf91
  v75 := Tryz.zeroValue91
  t76 := Tryz.underlying93
  a76 := Tryz.isAgg93
  z76 := Tryz.sizeOf93
  v76 := Tryz.zeroValue93
  t85 := Tryz.underlying176
  a85 := Tryz.isAgg176
  z85 := Tryz.sizeOf176
  v85 := Tryz.zeroValue176
  t127 := Tryz.underlying119
  a127 := Tryz.isAgg119
  z127 := Tryz.sizeOf119
  v127 := Tryz.zeroValue119
  t143 := Tryz.underlying206
  a143 := Tryz.isAgg206
  z143 := Tryz.sizeOf206
  v143 := Tryz.zeroValue206
  t145 := Tryz.underlying208
  a145 := Tryz.isAgg208
  z145 := Tryz.sizeOf208
  v145 := Tryz.zeroValue208
  t167 := Tryz.underlying175
  a167 := Tryz.isAgg175
  z167 := Tryz.sizeOf175
  v167 := Tryz.zeroValue175
  t168 := Tryz.underlying178
  a168 := Tryz.isAgg178
  z168 := Tryz.sizeOf178
  v168 := Tryz.zeroValue178
  t171 := Tryz.underlying183
  a171 := Tryz.isAgg183
  z171 := Tryz.sizeOf183
  v171 := Tryz.zeroValue183
  t173 := Tryz.underlying186
  a173 := Tryz.isAgg186
  z173 := Tryz.sizeOf186
  v173 := Tryz.zeroValue186
  t175 := Tryz.underlying192
  a175 := Tryz.isAgg192
  z175 := Tryz.sizeOf192
  v175 := Tryz.zeroValue192
  t210 := Tryz.underlying195
  a210 := Tryz.isAgg195
  z210 := Tryz.sizeOf195
  v210 := Tryz.zeroValue195
  t212 := Tryz.underlying199
  a212 := Tryz.isAgg199
  z212 := Tryz.sizeOf199
  v212 := Tryz.zeroValue199
  t213 := Tryz.underlying200
  a213 := Tryz.isAgg200
  z213 := Tryz.sizeOf200
  t232 := Tryz.underlying214
  a232 := Tryz.isAgg214
  z232 := Tryz.sizeOf214
  v232 := Tryz.zeroValue214
  t233 := Tryz.underlying215
  a233 := Tryz.isAgg215
  z233 := Tryz.sizeOf215
  v233 := Tryz.zeroValue215
  g15 := by kernel_rfl
  g16 := by kernel_rfl
  g17 := by kernel_rfl
  g18 := by kernel_rfl
  g19 := by kernel_rfl
  t80 := Tryz.underlying96
  a80 := Tryz.isAgg96
  z80 := Tryz.sizeOf96
  v80 := Tryz.zeroValue96
  i0 := by kernel_rfl
  i2 := by kernel_rfl
  i3 := by kernel_rfl
  i4 := by kernel_rfl
  i5 := by kernel_rfl
  i9 := by kernel_rfl
  i20 := by kernel_rfl
  i21 := by kernel_rfl
  i37 := by kernel_rfl
  i46 := by kernel_rfl
  i51 := by kernel_rfl
  i53 := by kernel_rfl
  i75 := by kernel_rfl
  i76 := by kernel_rfl
  i80 := by kernel_rfl
  i85 := by kernel_rfl
  i127 := by kernel_rfl
  i143 := by kernel_rfl
  i145 := by kernel_rfl
  i167 := by kernel_rfl
  i168 := by kernel_rfl
  i171 := by kernel_rfl
  i173 := by kernel_rfl
  i175 := by kernel_rfl
  i210 := by kernel_rfl
  i212 := by kernel_rfl
  i232 := by kernel_rfl
  i233 := by kernel_rfl
  m15 := by kernel_rfl
  m16 := by kernel_rfl
  m17 := by kernel_rfl
  m18 := by kernel_rfl
  m19 := by kernel_rfl
  c0 := by kernel_rfl
  c2 := by kernel_rfl
  c3 := by kernel_rfl
  c4 := by kernel_rfl
  c5 := by kernel_rfl
  c9 := by kernel_rfl
  c20 := by kernel_rfl
  c21 := by kernel_rfl
  c37 := by kernel_rfl
  c46 := by kernel_rfl
  c51 := by kernel_rfl
  c53 := by kernel_rfl
  c75 := by kernel_rfl
  c76 := by kernel_rfl
  c80 := by kernel_rfl
  c85 := by kernel_rfl
  c127 := by kernel_rfl
  c143 := by kernel_rfl
  c145 := by kernel_rfl
  c167 := by kernel_rfl
  c168 := by kernel_rfl
  c171 := by kernel_rfl
  c173 := by kernel_rfl
  c175 := by kernel_rfl
  c210 := by kernel_rfl
  c212 := by kernel_rfl
  c213 := by kernel_rfl
  c232 := by kernel_rfl
  c233 := by kernel_rfl }
open Go.RowKit in
/-- strconv.Atoi, AT EVERY STRING THAT SPELLS AN int ('Lib.atoiAll .. = .ok v'; of whatever length: leading zeros count): v, AND NO ERROR. The world: as it was, or with the one new row that '[]byte(..)' lays. (LAID: no walk: one application.) -/
theorem Tryz.strconv_Atoi_ok (s : ByteArray) (hmax : s.size ≤ 9223372036854775806) (v : Int) (h : Lib.atoiAll s.data.toList = .ok v) (w : World) :
    Calls Tryz.prog 152 #[.string s] w fun e w' => e = .returned (.tuple #[.int .i64 v, .nilIface]) ∧ (w' = w ∨ ∃ t, w' = Lib.bytesWorld w 5 t) := Any.strconv_Atoi_ok Tryz.laysC172 s hmax v h w
open Go.RowKit in
/-- strconv.Atoi, AT EVERY STRING THAT IS NO DECIMAL NUMERAL : 0, AND AN ERROR THAT IS NOT nil: a *NumError in a new block N: {Func: "Atoi", Num: s's bytes, Err: what the variable ErrSyntax holds}. Of what was there nothing has turned. (LAID: no walk: one application.) -/
theorem Tryz.strconv_Atoi_syntax (s : ByteArray) (hlim : s.size ≤ 281474976710656) (h1 : ∀ v, Lib.atoiAll s.data.toList ≠ .ok v) (h2 : Lib.atoiAll s.data.toList ≠ .range) (ev : Value) (w : World) (hv : w.cell? ⟨4, 0, none⟩ = some ev) (hev : ev = .nilIface ∨ ∃ te pe, ev = .iface te pe) :
    Calls Tryz.prog 152 #[.string s] w fun e w' => ∃ N, e = .returned (.tuple #[.int .i64 (0), .iface 178 (.pointer (some ⟨N, 0, none⟩))]) ∧ w.heap.size ≤ N ∧ w'.heap[N]? = some (.cells #[.string ⟨#[65, 116, 111, 105]⟩, .string s, ev] 195 (0, 0)) ∧ Below w.heap.size w w' := by
  cases h : Lib.atoiAll s.data.toList with
  | ok v => exact absurd h (h1 v)
  | range => exact absurd h h2
  | _ => exact Any.strconv_Atoi_syntax Tryz.laysC172 s hlim h ev w hv hev
open Go.RowKit in
/-- strconv.Atoi, AT EVERY NUMERAL THAT NO int HOLDS ('.range'): THE GREATEST OR THE LEAST int, BY THE SIGN ('Lib.atoiSat'), AND AN ERROR THAT IS NOT nil: a *NumError in a new block N: {Func: "Atoi", Num: s's bytes, Err: what the variable ErrRange holds}. Of what was there nothing has turned. (LAID: no walk: one application.) -/
theorem Tryz.strconv_Atoi_range (s : ByteArray) (hlim : s.size ≤ 281474976710656) (h : Lib.atoiAll s.data.toList = .range) (ev : Value) (w : World) (hv : w.cell? ⟨5, 0, none⟩ = some ev) (hev : ev = .nilIface ∨ ∃ te pe, ev = .iface te pe) :
    Calls Tryz.prog 152 #[.string s] w fun e w' => ∃ N, e = .returned (.tuple #[.int .i64 (Lib.atoiSat s.data.toList), .iface 178 (.pointer (some ⟨N, 0, none⟩))]) ∧ w.heap.size ≤ N ∧ w'.heap[N]? = some (.cells #[.string ⟨#[65, 116, 111, 105]⟩, .string s, ev] 195 (0, 0)) ∧ Below w.heap.size w w' := Any.strconv_Atoi_range Tryz.laysC172 s hlim h ev w hv hev
def Tryz.lays145_ren : Go.Shelf.Ren := ⟨fun | 145 => 97 | 220 => 122 | 219 => 136 | 217 => 137 | 225 => 144 | 224 => 145 | 267 => 146 | 266 => 147 | 314 => 156 | n => n, fun | 9 => 9 | 4 => 4 | 59 => 83 | 3 => 3 | 5 => 5 | 46 => 95 | 146 => 154 | 51 => 153 | n => n, fun | 1 => 2 | n => n⟩
theorem Tryz.lays145 : Go.Proofs.Lays.n145 Tryz.prog Tryz.lays145_ren := {
  mixed := by kernel_rfl
  f145 := Tryz.func97.trans (congrArg some (by kernel_rfl))
  f217 := Tryz.func137.trans (congrArg some (by kernel_rfl))
  f219 := Tryz.func136.trans (congrArg some (by kernel_rfl))
  f220 := Tryz.func122.trans (congrArg some (by kernel_rfl))
  f224 := Tryz.func145.trans (congrArg some (by kernel_rfl))
  f225 := Tryz.func144.trans (congrArg some (by kernel_rfl))
  f266 := Tryz.func147.trans (congrArg some (by kernel_rfl))
  f267 := Tryz.func146.trans (congrArg some (by kernel_rfl))
  f314 := Tryz.func156.trans (congrArg some (by kernel_rfl))
  t3 := Tryz.underlying3
  a3 := Tryz.isAgg3
  z3 := Tryz.sizeOf3
  v3 := Tryz.zeroValue3
  t4 := Tryz.underlying4
  a4 := Tryz.isAgg4
  z4 := Tryz.sizeOf4
  v4 := Tryz.zeroValue4
  t5 := Tryz.underlying5
  a5 := Tryz.isAgg5
  z5 := Tryz.sizeOf5
  v5 := Tryz.zeroValue5
  t9 := Tryz.underlying9
  a9 := Tryz.isAgg9
  z9 := Tryz.sizeOf9
  v9 := Tryz.zeroValue9
  t46 := Tryz.underlying95
  a46 := Tryz.isAgg95
  z46 := Tryz.sizeOf95
  v46 := Tryz.zeroValue95
  t51 := Tryz.underlying153
  a51 := Tryz.isAgg153
  z51 := Tryz.sizeOf153
  v51 := Tryz.zeroValue153
  t59 := Tryz.underlying83
  a59 := Tryz.isAgg83
  z59 := Tryz.sizeOf83
  v59 := Tryz.zeroValue83
  t146 := Tryz.underlying154
  a146 := Tryz.isAgg154
  z146 := Tryz.sizeOf154
  v146 := Tryz.zeroValue154
  g1 := by kernel_rfl }
open Go.RowKit Go.Lib in
/-- strings.Cut: "Cut slices s around the first instance of sep, returning the text before and after sep. The found result reports whether sep appears in s. If sep does not appear in s, cut returns s, "", false.": IT RETURNS 'Lib.cut s sep'; the world is as it was but for the count of draws. (LAID: no walk: one application.) -/
theorem Tryz.strings_Cut (s sep : ByteArray) (m : Int) (w : World) (hs : s.size < 4294967281) (hm : w.cell? ⟨2, 0, none⟩ = some (.int .i64 m)) :
    Calls Tryz.prog 97 #[.string s, .string sep] w fun e w' => e = .returned (.tuple #[.string ⟨(Lib.cut s.data.toList sep.data.toList).1.toArray⟩, .string ⟨(Lib.cut s.data.toList sep.data.toList).2.1.toArray⟩, .bool (Lib.cut s.data.toList sep.data.toList).2.2]) ∧ ∃ n, w' = w.drewN n := Any.strings_Cut Tryz.lays145 s sep m w hs hm
def Tryz.laysGw17_ren : Go.Shelf.Ren := ⟨fun | 17 => 100 | 15 => 125 | 20 => 138 | n => n, fun | 9 => 9 | 23 => 117 | 4 => 4 | 3 => 3 | 0 => 0 | 21 => 21 | n => n, fun | n => n⟩
theorem Tryz.laysGw17 : Go.Proofs.LaysGw.n17 Tryz.prog Tryz.laysGw17_ren := {
  mixed := by kernel_rfl
  f15 := Tryz.func125.trans (congrArg some (by kernel_rfl))
  f17 := Tryz.func100.trans (congrArg some (by kernel_rfl))
  f20 := Tryz.func138.trans (congrArg some (by kernel_rfl))
  t0 := Tryz.underlying0
  a0 := Tryz.isAgg0
  z0 := Tryz.sizeOf0
  v0 := Tryz.zeroValue0
  i0 := by kernel_rfl
  t3 := Tryz.underlying3
  a3 := Tryz.isAgg3
  z3 := Tryz.sizeOf3
  v3 := Tryz.zeroValue3
  i3 := by kernel_rfl
  t4 := Tryz.underlying4
  a4 := Tryz.isAgg4
  z4 := Tryz.sizeOf4
  v4 := Tryz.zeroValue4
  i4 := by kernel_rfl
  t9 := Tryz.underlying9
  a9 := Tryz.isAgg9
  z9 := Tryz.sizeOf9
  v9 := Tryz.zeroValue9
  i9 := by kernel_rfl
  t21 := Tryz.underlying21
  a21 := Tryz.isAgg21
  z21 := Tryz.sizeOf21
  v21 := Tryz.zeroValue21
  i21 := by kernel_rfl
  t23 := Tryz.underlying117
  a23 := Tryz.isAgg117
  z23 := Tryz.sizeOf117
  v23 := Tryz.zeroValue117
  i23 := by kernel_rfl }
open Go.RowKit Go.Lib in
theorem Tryz.strings_ContainsFunc_grows (g : Nat) (lb : Array Value) (eg : ∀ args w, (callFunc g args).run Tryz.prog w = .ok (.enter g args) w) (p : Nat → Bool) (s : ByteArray) (w : World) (hp : PredGrows Tryz.prog g lb p w) :
    Calls Tryz.prog 100 #[.string s, .func (.func g) #[] lb] w fun e w' => e = .returned (.bool (decide (0 ≤ Lib.idxFunc p true s))) ∧ Below w.heap.size w w' := Any.strings_ContainsFunc_grows Tryz.laysGw17 g lb eg p s w hp
def Tryz.laysValid_ren : Go.Shelf.Ren := ⟨fun | 196 => 106 | 259 => 128 | n => n, fun | 9 => 9 | 4 => 4 | 3 => 3 | 5 => 5 | 12 => 12 | 119 => 126 | 0 => 0 | 46 => 95 | 139 => 129 | 138 => 128 | 53 => 139 | n => n, fun | 3 => 0 | 4 => 1 | n => n⟩
theorem Tryz.laysValid : Go.Proofs.Lays.n196 Tryz.prog Tryz.laysValid_ren := {
  mixed := by kernel_rfl
  f196 := Tryz.func106.trans (congrArg some (by kernel_rfl))
  f259 := Tryz.func128.trans (congrArg some (by kernel_rfl))
  t0 := Tryz.underlying0
  a0 := Tryz.isAgg0
  z0 := Tryz.sizeOf0
  v0 := Tryz.zeroValue0
  t3 := Tryz.underlying3
  a3 := Tryz.isAgg3
  z3 := Tryz.sizeOf3
  v3 := Tryz.zeroValue3
  t4 := Tryz.underlying4
  a4 := Tryz.isAgg4
  z4 := Tryz.sizeOf4
  v4 := Tryz.zeroValue4
  t5 := Tryz.underlying5
  a5 := Tryz.isAgg5
  z5 := Tryz.sizeOf5
  v5 := Tryz.zeroValue5
  t9 := Tryz.underlying9
  a9 := Tryz.isAgg9
  z9 := Tryz.sizeOf9
  v9 := Tryz.zeroValue9
  t12 := Tryz.underlying12
  a12 := Tryz.isAgg12
  z12 := Tryz.sizeOf12
  v12 := Tryz.zeroValue12
  t46 := Tryz.underlying95
  a46 := Tryz.isAgg95
  z46 := Tryz.sizeOf95
  v46 := Tryz.zeroValue95
  t53 := Tryz.underlying139
  a53 := Tryz.isAgg139
  z53 := Tryz.sizeOf139
  v53 := Tryz.zeroValue139
  t119 := Tryz.underlying126
  a119 := Tryz.isAgg126
  z119 := Tryz.sizeOf126
  t138 := Tryz.underlying128
  a138 := Tryz.isAgg128
  z138 := Tryz.sizeOf128
  v138 := Tryz.zeroValue128
  t139 := Tryz.underlying129
  a139 := Tryz.isAgg129
  z139 := Tryz.sizeOf129
  v139 := Tryz.zeroValue129
  g3 := by kernel_rfl
  g4 := by kernel_rfl }
open Go.RowKit Go.Lib in
theorem Tryz.utf8_ValidString (s : ByteArray) (w : World) (hs : s.size ≤ 9223372036854775807) (hT : Lib.Utf8Tabs 0 1 w) :
    Calls Tryz.prog 106 #[.string s] w fun e w' => e = .returned (.bool (Lib.validD s.data.toList)) ∧ Below w.heap.size w w' := Any.utf8_ValidString Tryz.laysValid s w hs hT
end Go.Proofs
