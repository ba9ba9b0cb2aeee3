/- Plain words for all walks: trees as data and how they lie in memory; no program. -/
import Derived.WalkKit
import Derived.Lib.Hide
import Derived.Lib.ConvBytes
import Derived.Laws.Rows
namespace Go.Proofs.YtngofdaciacglaaGreatDoor
open Go.RowKit

/-- A tree's node. -/
structure Nd where
  kind : Int
  text : ByteArray
  val : ByteArray
  kids : List Nd

/-- A node as a value. -/
abbrev Nd.v (n : Nd) (A : Option Addr) (c : Nat) : Value := .agg #[.int .i64 n.kind, .string n.text, .string n.val, .slice A n.kids.length c]

/-- A number of 64 bits. -/
def InI64 (k : Int) : Prop := -9223372036854775808 ≤ k ∧ k ≤ 9223372036854775807

mutual
/-- The node lies in memory: its kids at A, with room for c. -/
def Nd.In (w : World) : Nd → Option Addr → Nat → Prop
  | ⟨k, t, v, ks⟩, A, c => ks.length ≤ c ∧ ks.length ≤ 1048576 ∧ t.size ≤ 1048576 ∧ v.size ≤ 1048576 ∧ InI64 k ∧ (ks = [] ∨ ∃ ad, A = some ad ∧ KidsIn w ks ad 0)
/-- Nodes lie in memory from the j-th element at ad on. -/
def KidsIn (w : World) : List Nd → Addr → Nat → Prop
  | [], _, _ => True
  | n :: ns, ad, j => (∃ A c, w.cell? (ad.add (j * 4)) = some (.int .i64 n.kind) ∧
      w.cell? ⟨(ad.add (j * 4)).block, (ad.add (j * 4)).off + 1, none⟩ = some (.string n.text) ∧
      w.cell? ⟨(ad.add (j * 4)).block, (ad.add (j * 4)).off + 2, none⟩ = some (.string n.val) ∧
      w.cell? ⟨(ad.add (j * 4)).block, (ad.add (j * 4)).off + 3, none⟩ = some (.slice A n.kids.length c) ∧ Nd.In w n A c) ∧ KidsIn w ns ad (j + 1)
end

mutual
theorem Nd.In.keep {w w1 : World} (hb : ∀ a v, w.cell? a = some v → w1.cell? a = some v) : ∀ (n : Nd) (A : Option Addr) (c : Nat), Nd.In w n A c → Nd.In w1 n A c
  | ⟨_, _, _, ks⟩, A, c => by
    intro h
    unfold Nd.In at h ⊢
    obtain ⟨h1, h2, h3, h4, h5, h⟩ := h
    refine ⟨h1, h2, h3, h4, h5, ?_⟩
    rcases h with h | ⟨ad, h1, h2⟩
    · exact .inl h
    · exact .inr ⟨ad, h1, KidsIn.keep hb ks ad 0 h2⟩
theorem KidsIn.keep {w w1 : World} (hb : ∀ a v, w.cell? a = some v → w1.cell? a = some v) : ∀ (ks : List Nd) (ad : Addr) (j : Nat), KidsIn w ks ad j → KidsIn w1 ks ad j
  | [], _, _ => fun _ => by unfold KidsIn; trivial
  | n :: ns, ad, j => by
    intro h
    unfold KidsIn at h ⊢
    obtain ⟨⟨A, c, h1, h2, h3, h4, h6⟩, h7⟩ := h
    exact ⟨⟨A, c, hb _ _ h1, hb _ _ h2, hb _ _ h3, hb _ _ h4, Nd.In.keep hb n A c h6⟩, KidsIn.keep hb ns ad (j + 1) h7⟩
end

/-- What is kept below a call's first block. -/
theorem cellB {w w1 : World} (h : Below w.heap.size w w1) : ∀ a v, w.cell? a = some v → w1.cell? a = some v := fun a _ hc => (h.cell (World.block_lt_of_cell? w a hc)).trans hc
theorem bcell {W w1 : World} (hb : Below W.heap.size W w1) : (∀ b o, b < W.heap.size → w1.cell? ⟨b, o, none⟩ = W.cell? ⟨b, o, none⟩) ∧ (∀ b o, b < W.heap.size → w1.frozen? ⟨b, o, none⟩ = W.frozen? ⟨b, o, none⟩) :=
  ⟨fun b o h => hb.cell (p := ⟨b, o, none⟩) h, fun b o h => hb.frozen (p := ⟨b, o, none⟩) h⟩
theorem Nd.In.below {w w1 : World} {n : Nd} {A : Option Addr} {c : Nat} (h : Nd.In w n A c) (hb : Below w.heap.size w w1) : Nd.In w1 n A c := Nd.In.keep (cellB hb) n A c h
theorem KidsIn.below {w w1 : World} {ks : List Nd} {ad : Addr} {j : Nat} (h : KidsIn w ks ad j) (hb : Below w.heap.size w w1) : KidsIn w1 ks ad j := KidsIn.keep (cellB hb) ks ad j h

theorem Nd.In.drew {w : World} {n : Nd} {A : Option Addr} {c : Nat} (h : Nd.In w n A c) : Nd.In w.drew n A c := Nd.In.keep (w := w) (w1 := w.drew) (fun _ _ h => h) n A c h

mutual
/-- What goes from the kids to the node holds of every node. -/
theorem Nd.ind {P : Nd → Prop} (h : ∀ n : Nd, (∀ k ∈ n.kids, P k) → P n) : ∀ n, P n
  | ⟨a, b, c, ks⟩ => h ⟨a, b, c, ks⟩ (Nd.indL h ks)
theorem Nd.indL {P : Nd → Prop} (h : ∀ n : Nd, (∀ k ∈ n.kids, P k) → P n) : ∀ (ks : List Nd), ∀ k ∈ ks, P k
  | [], _, hk => by cases hk
  | n :: ns, k, hk => by
    rcases List.mem_cons.1 hk with e | hk
    · rw [e]; exact Nd.ind h n
    · exact Nd.indL h ns k hk
end

/-- The walk behind a call that makes memory: what was there. -/
theorem below_then {B : Nat} {w w1 w2 : World} (h : Below B w w1) (hB : B ≤ w1.heap.size) (k : Below w1.heap.size w1 w2) : Below B w w2 :=
  h.trans (k.mono hB)
theorem ret_int {k : IntKind} {a b : Int} (h : a = b) : Ending.returned (.int k a) = .returned (.int k b) := by rw [h]
theorem ret_bool {a b : Bool} (h : a = b) : Ending.returned (.bool a) = .returned (.bool b) := by rw [h]
theorem ret_str {a b : ByteArray} (h : a = b) : Ending.returned (.string a) = .returned (.string b) := by rw [h]

theorem own_slice {w : World} {base n size : Nat} {e : TypeId} {v : Value} {xs : List Value} (h : w.ownsRow base e size v n xs) : ∃ A c, v = .slice A n c := by
  rcases h.2 with ⟨rfl, rfl⟩ | ⟨g, cap, cur, rfl, _⟩
  · exact ⟨none, 0, rfl⟩
  · exact ⟨_, _, rfl⟩
theorem one_new (W : World) (v : Value) (t : TypeId) : ∀ (j : Nat) (u : Value), [v][j]? = some u → (W.alloc (.cells #[v] t)).cell? ((⟨W.heap.size, 0, none⟩ : Addr).add j) = some u := by
  intro j u h
  match j, h with
  | 0, h => simp at h; subst h; simp [Addr.add]
theorem own_base {w : World} {base : Nat} {e : TypeId} {size n : Nat} {v : Value} {xs : List Value} (h : w.ownsRow base e size v n xs) : ∀ k, v.ownBlock = some k → base ≤ k := by
  intro k hk
  rcases h.2 with ⟨rfl, _⟩ | ⟨g, cap, cur, rfl, hb, _⟩
  · simp [Value.ownBlock] at hk
  · have : g = k := by simpa [Value.ownBlock] using hk
    omega
abbrev bs (l : List UInt8) : ByteArray := ⟨l.toArray⟩
theorem size_toList (s : ByteArray) : s.toList.length = s.size := by rw [ByteArray.toList_eq, Array.length_toList]; rfl
theorem toList_inj {a b : ByteArray} (h : a.toList = b.toList) : a = b := by
  rw [ByteArray.toList_eq, ByteArray.toList_eq] at h
  cases a; cases b; simp at h; subst h; rfl
theorem data_length (s : ByteArray) : s.data.toList.length = s.size := by rw [Array.length_toList]; rfl
theorem bytes_below {B : Nat} {w W : World} (h : Below B w W) (hB : B ≤ W.heap.size) (e : TypeId) (s : ByteArray) : Below B w (Lib.bytesWorld W e s) :=
  h.trans ⟨rfl, rfl, rfl, by rw [Lib.bytesWorld_size]; omega, fun i hi => Lib.bytesWorld_at_old W e s i (by omega)⟩

/-! blocks known whole -/
theorem blk_set {w : World} {g : Nat} {t : TypeId} {cs : Array Value} {fr : Nat × Nat} (h : w.heap[g]? = some (.cells cs t fr)) (i : Nat) (u : Value) : (w.setCell ⟨g, i, none⟩ u).heap[g]? = some (.cells (cs.setIfInBounds i u) t fr) := by
  simp [World.setCell, Array.getElem?_modify, h]
theorem blk_far {w : World} {g : Nat} {o : Obj} (h : w.heap[g]? = some o) {p : Addr} (hp : g ≠ p.block) (u : Value) : (w.setCell p u).heap[g]? = some o := (Below.heap_setCell w p u g hp).trans h
theorem blk_lt {w : World} {g : Nat} {o : Obj} (h : w.heap[g]? = some o) : g < w.heap.size := (Array.getElem?_eq_some_iff.1 h).1
theorem blk_alloc {w : World} {g : Nat} {o : Obj} (h : w.heap[g]? = some o) (o' : Obj) : (w.alloc o').heap[g]? = some o := (Below.heap_alloc w o' g (blk_lt h)).trans h
theorem blk_new (w : World) (o : Obj) : (w.alloc o).heap[w.heap.size]? = some o := heap_alloc_new w o
theorem blk_below {w w1 : World} {g : Nat} {o : Obj} (h : w.heap[g]? = some o) (hb : Below w.heap.size w w1) : w1.heap[g]? = some o := (hb.block g (blk_lt h)).trans h
theorem blk_cell {w : World} {g : Nat} {t : TypeId} {cs : Array Value} {fr : Nat × Nat} (h : w.heap[g]? = some (.cells cs t fr)) (i : Nat) : w.cell? ⟨g, i, none⟩ = cs[i]? := by
  simp [World.cell?, h]
theorem blk_frozen {w : World} {g : Nat} {t : TypeId} {cs : Array Value} (h : w.heap[g]? = some (.cells cs t (0, 0))) (i : Nat) : w.frozen? ⟨g, i, none⟩ = false := by simp [World.frozen?, h]
section
variable {P : Program}
theorem results_ct {fn : Func} {p u : Tmp} {ty : TypeId} (h : fn.results = #[.cell p ty, .tmp u]) (tmps : Array Value) (w : World) (g : Nat) (t : TypeId) (cs : Array Value) (fr : Nat × Nat) (d : TypeDesc)
    (hp : tmps.getD p undef = .pointer (some ⟨g, 0, none⟩)) (hg : w.heap[g]? = some (.cells cs t fr))
    (hu : P.underlying ty = some d) (hd : (match d with | .struct _ | .array _ _ => true | _ => false) = true) (hi : (P.info? ty).map (·.size) = some cs.size) :
    (results fn tmps).run P w = .ok (.tuple #[.agg cs, tmps.getD u undef]) w := by
  have hp' : tmps[p]?.getD undef = .pointer (some ⟨g, 0, none⟩) := by simpa using hp
  simp [results, h, hp', asAddr, run_loadVar_row w g t ty cs fr d hg hu hd hi]
theorem results_c {fn : Func} {p : Tmp} {ty : TypeId} (h : fn.results = #[.cell p ty]) (tmps : Array Value) (w : World) (g : Nat) (t : TypeId) (cs : Array Value) (fr : Nat × Nat) (d : TypeDesc)
    (hp : tmps.getD p undef = .pointer (some ⟨g, 0, none⟩)) (hg : w.heap[g]? = some (.cells cs t fr))
    (hu : P.underlying ty = some d) (hd : (match d with | .struct _ | .array _ _ => true | _ => false) = true) (hi : (P.info? ty).map (·.size) = some cs.size) :
    (results fn tmps).run P w = .ok (.agg cs) w := by
  have hp' : tmps[p]?.getD undef = .pointer (some ⟨g, 0, none⟩) := by simpa using hp
  simp [results, h, hp', asAddr, run_loadVar_row w g t ty cs fr d hg hu hd hi]
theorem post_ct {fn : Func} {R : Ending → World → Prop} {a : Act} {w : World} {p u : Tmp} {ty : TypeId} {g : Nat} {t : TypeId} {cs : Array Value} {fr : Nat × Nat} {d : TypeDesc}
    (h : fn.results = #[.cell p ty, .tmp u]) (hdf : a.defers = []) (hg : w.heap[g]? = some (.cells cs t fr))
    (hp : a.tmps.getD p undef = .pointer (some ⟨g, 0, none⟩))
    (hu : P.underlying ty = some d) (hd : (match d with | .struct _ | .array _ _ => true | _ => false) = true) (hi : (P.info? ty).map (·.size) = some cs.size)
    (hR : R (.returned (.tuple #[.agg cs, a.tmps.getD u undef])) w) : bodyPost P fn R .ret a w :=
  bodyPost_ret (results_ct h _ _ _ _ _ _ _ hp hg hu hd hi) hdf hR
theorem post_c {fn : Func} {R : Ending → World → Prop} {a : Act} {w : World} {p : Tmp} {ty : TypeId} {g : Nat} {t : TypeId} {cs : Array Value} {fr : Nat × Nat} {d : TypeDesc}
    (h : fn.results = #[.cell p ty]) (hdf : a.defers = []) (hg : w.heap[g]? = some (.cells cs t fr))
    (hp : a.tmps.getD p undef = .pointer (some ⟨g, 0, none⟩))
    (hu : P.underlying ty = some d) (hd : (match d with | .struct _ | .array _ _ => true | _ => false) = true) (hi : (P.info? ty).map (·.size) = some cs.size)
    (hR : R (.returned (.agg cs)) w) : bodyPost P fn R .ret a w :=
  bodyPost_ret (results_c h _ _ _ _ _ _ _ hp hg hu hd hi) hdf hR
end
end Go.Proofs.YtngofdaciacglaaGreatDoor
