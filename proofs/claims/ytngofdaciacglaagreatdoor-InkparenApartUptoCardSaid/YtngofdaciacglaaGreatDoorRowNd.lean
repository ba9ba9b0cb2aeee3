/- From a law's row to its walk: an argument that reads as a tree lies in memory as one; what the listed variables give. -/
import Derived.Test.YtngofdaciacglaaGreatDoorRows
import Derived.Test.YtngofdaciacglaaGreatDoorGlobs
import Derived.Test.YtngofdaciacglaaGreatDoorCopied
import Derived.OpenShut
import Derived.Lib.LaidU8T
import Derived.Lib.LaidTab
import Derived.PinnedBridge
import Derived.Stop.LaidErr
import Derived.Shelf.Vars
import Derived.MakeChecks
namespace Go.Proofs.YtngofdaciacglaaGreatDoor
open Go.RowKit Go.Lib Go.ChangeShapes

theorem bulk_one {H : Type} (d : DataW H) : 1 ≤ Rows.uptoBulk d := by
  cases d with
  | lit l => cases l <;> simp [Rows.uptoBulk]
  | nil => simp [Rows.uptoBulk]
  | ptr d => simp [Rows.uptoBulk]
  | slice elems spare => simp [Rows.uptoBulk]
  | agg parts => simp [Rows.uptoBulk]
  | iface t d => simp [Rows.uptoBulk]
  | map entries => simp [Rows.uptoBulk]
  | held h => simp [Rows.uptoBulk]
theorem bulk_len {H : Type} : ∀ l : List (DataW H), l.length ≤ Rows.uptoBulkAll l
  | [] => by simp
  | x :: r => by have := bulk_one x; have := bulk_len r; simp only [Rows.uptoBulkAll, List.length_cons]; omega
theorem bulk_mem {H : Type} {d : DataW H} : ∀ {l : List (DataW H)}, d ∈ l → Rows.uptoBulk d ≤ Rows.uptoBulkAll l
  | [], h => by cases h
  | x :: r, h => by
    simp only [Rows.uptoBulkAll]
    rcases List.mem_cons.1 h with rfl | h
    · omega
    · have := bulk_mem h; omega

theorem Tryz.cells24 : Tryz.prog.cellsOf 24 = 4 := by kernel_rfl
theorem Tryz.cells3 : Tryz.prog.cellsOf 3 = 1 := by kernel_rfl
theorem Tryz.cells9 : Tryz.prog.cellsOf 9 = 1 := by kernel_rfl
theorem Tryz.cells22 : Tryz.prog.cellsOf 22 = 1 := by kernel_rfl

theorem cells_four {W : World} {a : Addr} {cs : List Value} (h : W.cells? 0 a 4 = some cs) : ∃ v0 v1 v2 v3, cs = [v0, v1, v2, v3] ∧ W.cell? a = some v0 ∧ W.cell? ⟨a.block, a.off + 1, none⟩ = some v1 ∧ W.cell? ⟨a.block, a.off + 2, none⟩ = some v2 ∧ W.cell? ⟨a.block, a.off + 3, none⟩ = some v3 := by
  unfold World.cells? at h
  rw [if_pos (Nat.zero_le _)] at h
  have e : List.range 4 = [0, 1, 2, 3] := by decide
  rw [e] at h
  simp only [List.mapM_cons, List.mapM_nil, Option.bind_eq_bind, Option.bind_eq_some_iff, Option.pure_def, Option.some.injEq] at h
  obtain ⟨v0, h0, _, ⟨v1, h1, _, ⟨v2, h2, _, ⟨v3, h3, _, rfl, rfl⟩, rfl⟩, rfl⟩, rfl⟩ := h
  exact ⟨v0, v1, v2, v3, rfl, by simpa [Addr.add] using h0, by simpa [Addr.add] using h1, by simpa [Addr.add] using h2, by simpa [Addr.add] using h3⟩

/-- Elements that read as trees lie in memory as trees. -/
theorem kids_of_trod {H : Type} {enc : TypeId × Value → H} {W : World} {m : Nat} {a : Addr}
    (ih : ∀ (cs : List Value) (x : DataW H × List MemPlace), DataW.trod enc Tryz.prog W 0 (fun _ => true) true m 24 cs = some x → Rows.uptoBulk x.1 ≤ 1048576 → ∃ (n : Nd) (A : Option Addr) (c : Nat), cs = [.int .i64 n.kind, .string n.text, .string n.val, .slice A n.kids.length c] ∧ Nd.In W n A c) :
    ∀ (L : List (DataW H × List MemPlace)) (j : Nat), (∀ i, i < L.length → (W.cells? 0 (a.add ((j + i) * 4)) 4).bind (DataW.trod enc Tryz.prog W 0 (fun _ => true) true m 24) = L[i]?) → (∀ y ∈ L, Rows.uptoBulk y.1 ≤ 1048576) →
      ∃ ks : List Nd, ks.length = L.length ∧ KidsIn W ks a j
  | [], _, _, _ => ⟨[], rfl, by unfold KidsIn; trivial⟩
  | y :: L, j, h, hb => by
    have h0 := h 0 (by simp)
    simp only [Nat.add_zero, List.getElem?_cons_zero, Option.bind_eq_some_iff] at h0
    obtain ⟨cs, hc, ht⟩ := h0
    obtain ⟨v0, v1, v2, v3, rfl, c0, c1, c2, c3⟩ := cells_four hc
    obtain ⟨n, A, c, e, hn⟩ := ih _ _ ht (hb y (List.mem_cons_self ..))
    simp only [List.cons.injEq, and_true] at e
    obtain ⟨rfl, rfl, rfl, rfl⟩ := e
    obtain ⟨ks, hl, hk⟩ := kids_of_trod ih L (j + 1) (fun i hi => by
      have := h (i + 1) (by simpa using hi)
      rw [show j + (i + 1) = j + 1 + i from by omega] at this
      simpa using this) (fun z hz => hb z (List.mem_cons_of_mem _ hz))
    refine ⟨n :: ks, by simp [hl], ?_⟩
    unfold KidsIn
    exact ⟨⟨A, c, c0, c1, c2, c3, hn⟩, hk⟩

set_option maxRecDepth 100000 in
theorem nd_of_trod {H : Type} {enc : TypeId × Value → H} {W : World} : ∀ (fuel : Nat) (cs : List Value) (x : DataW H × List MemPlace), DataW.trod enc Tryz.prog W 0 (fun _ => true) true fuel 24 cs = some x → Rows.uptoBulk x.1 ≤ 1048576 →
    ∃ (n : Nd) (A : Option Addr) (c : Nat), cs = [.int .i64 n.kind, .string n.text, .string n.val, .slice A n.kids.length c] ∧ Nd.In W n A c := by
  intro fuel
  induction fuel using Nat.strongRecOn with
  | _ fuel ih =>
  intro cs x h hb
  obtain ⟨xs, n, rfl, rfl, hl, hlen, hf⟩ := DataW.trod_struct Tryz.underlying24 h
  rw [Tryz.cells24] at hl
  match cs, hl with
  | [v0, v1, v2, v3], _ =>
  match xs, hlen with
  | [y0, y1, y2, y3], _ =>
  have f0 : DataW.trod enc Tryz.prog W 0 (fun _ => true) true n 3 (([v0, v1, v2, v3].drop 0).take (Tryz.prog.cellsOf 3)) = some y0 := hf 0 _ rfl
  rw [Tryz.cells3] at f0
  change DataW.trod enc Tryz.prog W 0 (fun _ => true) true n 3 [v0] = some y0 at f0
  have f1 : DataW.trod enc Tryz.prog W 0 (fun _ => true) true n 9 (([v0, v1, v2, v3].drop 1).take (Tryz.prog.cellsOf 9)) = some y1 := hf 1 _ rfl
  rw [Tryz.cells9] at f1
  change DataW.trod enc Tryz.prog W 0 (fun _ => true) true n 9 [v1] = some y1 at f1
  have f2 : DataW.trod enc Tryz.prog W 0 (fun _ => true) true n 9 (([v0, v1, v2, v3].drop 2).take (Tryz.prog.cellsOf 9)) = some y2 := hf 2 _ rfl
  rw [Tryz.cells9] at f2
  change DataW.trod enc Tryz.prog W 0 (fun _ => true) true n 9 [v2] = some y2 at f2
  have f3 : DataW.trod enc Tryz.prog W 0 (fun _ => true) true n 22 (([v0, v1, v2, v3].drop 3).take (Tryz.prog.cellsOf 22)) = some y3 := hf 3 _ rfl
  rw [Tryz.cells22] at f3
  change DataW.trod enc Tryz.prog W 0 (fun _ => true) true n 22 [v3] = some y3 at f3
  obtain ⟨k, e0, rfl, hk⟩ := DataW.trod_int Tryz.underlying3 f0
  obtain ⟨t, e1, rfl, -⟩ := DataW.trod_string Tryz.underlying9 f1
  obtain ⟨v, e2, rfl, -⟩ := DataW.trod_string Tryz.underlying9 f2
  simp only [List.cons.injEq, and_true] at e0 e1 e2
  subst e0 e1 e2
  simp only [List.map_cons, List.map_nil, Rows.uptoBulk, Rows.uptoBulkAll] at hb
  have ht := data_length t
  have hv := data_length v
  have hI : InI64 k := ⟨(bounds_i64 hk).1, (bounds_i64 hk).2⟩
  rcases DataW.trod_slice Tryz.underlying22 f3 with ⟨e3, rfl⟩ | ⟨a, len, cap, elems, rest, m, rfl, e3, rfl, -, hlc, -, hle, hel, -, -⟩
  · simp only [List.cons.injEq, and_true] at e3
    subst e3
    refine ⟨⟨k, t, v, []⟩, none, 0, rfl, ?_⟩
    unfold Nd.In
    exact ⟨by simp, by simp, by omega, by omega, hI, .inl rfl⟩
  · simp only [List.cons.injEq, and_true] at e3
    subst e3
    simp only [Rows.uptoBulk] at hb
    have hbl := bulk_len (elems.map (·.1))
    rw [List.length_map] at hbl
    obtain ⟨ks, hkl, hks⟩ := kids_of_trod (a := a) (ih m (by omega)) elems 0 (fun i hi => by rw [Nat.zero_add, ← hel i (by omega), Tryz.cells24]) (fun y hy => by
      have := bulk_mem (List.mem_map_of_mem (f := (·.1)) hy)
      omega)
    refine ⟨⟨k, t, v, ks⟩, some a, cap, by simp only [hkl, hle], ?_⟩
    unfold Nd.In
    exact ⟨by omega, by omega, by omega, by omega, hI, .inr ⟨a, rfl, hks⟩⟩

theorem star_err : "*" ++ "errors.errorString" = "*errors.errorString" := by decide
theorem only_err (u : TypeId) (h : Tryz.prog.typeName? 3 u = some "*errors.errorString") : u = 206 :=
  typeName_ptr_named (nm := "errors.errorString") (by rw [star_err]; kernel_rfl) (by kernel_rfl) (by decide) u (by rw [star_err]; exact h)
/-- What the rows' listed variables give the walks. -/
theorem globs_of_laid {W : World} (hL : laidMetH Tryz.prog Rows.inkparenStaysRow.laid W) (hS : W.ShapedOpen Tryz.prog) : Globs W := by
  rw [MakeChecks.laidMetH_plain _ _ _ (by kernel_rfl)] at hL
  have h2 := hL.tail.tail
  have h4 := h2.tail.tail
  obtain ⟨a0, s0, hv0, -, -, -⟩ := laid_sentinel (ti := 91) (tp := 206) (te := 208) (ts := 9) h4 (by kernel_rfl : Tryz.prog.globalNamed "strconv.ErrRange" = some 5) (by kernel_rfl) Tryz.underlying91 only_err Tryz.underlying206 Tryz.underlying208 rfl rfl Tryz.underlying9 (by kernel_rfl) Tryz.cells9
  obtain ⟨a1, s1, hv1, -, -, -⟩ := laid_sentinel (ti := 91) (tp := 206) (te := 208) (ts := 9) h4.tail (by kernel_rfl : Tryz.prog.globalNamed "strconv.ErrSyntax" = some 4) (by kernel_rfl) Tryz.underlying91 only_err Tryz.underlying206 Tryz.underlying208 rfl rfl Tryz.underlying9 (by kernel_rfl) Tryz.cells9
  refine ⟨cell_of_shapedOpen_int (zero := #[.int .i64 0]) (t := 3) hS (of_decide_eq_true (by kernel_rfl)) (by kernel_rfl) rfl (by kernel_rfl) (by kernel_rfl) Tryz.underlying3,
    utf8Tabs_of_readsT (U8Types.of196 Tryz.laysValid) ⟨by kernel_rfl, by kernel_rfl, by kernel_rfl, by kernel_rfl, by kernel_rfl, by kernel_rfl, by kernel_rfl⟩ ?_ (Lib.laidMet.reads h2 (.tail _ (.head _))), ?_, ?_, ?_⟩
  · rw [← Pinned.utf8First_eq]
    exact Lib.laidMet.reads h4 (.tail _ (.tail _ (.tail _ (.head _))))
  · exact tabIs_of_head (t := 199) (e := 139) (by kernel_rfl : Tryz.prog.globalNamed "internal/strconv.uint64pow10" = some 6) (by kernel_rfl) Tryz.underlying199 Tryz.underlying139 (by kernel_rfl) (by kernel_rfl) h2
  · exact ⟨_, by have h0 := World.var?_cell (by kernel_rfl : Tryz.prog.globalNamed "strconv.ErrRange" = some 5) hv0 0; simpa using h0, .inr ⟨_, _, rfl⟩⟩
  · exact ⟨_, by have h0 := World.var?_cell (by kernel_rfl : Tryz.prog.globalNamed "strconv.ErrSyntax" = some 4) hv1 0; simpa using h0, .inr ⟨_, _, rfl⟩⟩
end Go.Proofs.YtngofdaciacglaaGreatDoor
