/- Plain words and walks: events.Check. -/
import Derived.Test.YtngofdaciacglaaGreatDoorRight
import Derived.Test.YtngofdaciacglaaGreatDoorHad
import Derived.WalkSmall
import Derived.StillTailTactics
import Derived.IntWalk
import Derived.Lib.OwnKind
import Derived.Lib.SmallJoins
namespace Go.Proofs.YtngofdaciacglaaGreatDoor
open Go.RowKit Go.Lib

/-- A thing that is open. -/
structure Opn where
  kind : Int
  key : Bool
  text : Bool
  full : Bool
  had : List ByteArray
/-- .. as a block, its set at m. -/
abbrev Opn.cs (o : Opn) (m : Nat) : Array Value := #[.int .i64 o.kind, .bool o.key, .bool o.text, .bool o.full, .map (some m)]
/-- The things that are open, the innermost first, in blocks from B on. -/
def OpsIn (w : World) (B : Nat) : List Opn → List (Nat × Nat) → Prop
  | [], [] => True
  | o :: os, q :: qs => w.heap[q.1]? = some (.cells (o.cs q.2) 112) ∧ w.heap[q.2]? = some (hadObj o.had) ∧ B ≤ q.1 ∧ B ≤ q.2 ∧ (∀ r ∈ qs, r.1 ≠ q.1 ∧ r.2 ≠ q.2) ∧ OpsIn w B os qs
  | _, _ => False
abbrev ptrs (qs : List (Nat × Nat)) : List Value := qs.reverse.map fun q => .pointer (some ⟨q.1, 0, none⟩)
/-- A Check in memory, at block c. -/
structure Chk (w : World) (B c : Nat) (stk : List Opn) (over : Bool) (qs : List (Nat × Nat)) (v : Value) : Prop where
  at_ : w.heap[c]? = some (.cells #[v, .bool over] 105)
  base : B ≤ c
  row : w.ownsRow B 107 1 v qs.length (ptrs qs)
  ops : OpsIn w B stk qs

theorem OpsIn.len : ∀ {w : World} {B : Nat} {os : List Opn} {qs : List (Nat × Nat)}, OpsIn w B os qs → os.length = qs.length
  | _, _, [], [], _ => rfl
  | _, _, _ :: _, _ :: _, h => by simp only [List.length_cons, OpsIn.len h.2.2.2.2.2]
  | _, _, [], _ :: _, h => h.elim
  | _, _, _ :: _, [], h => h.elim
/-- What keeps the blocks keeps the things. -/
theorem OpsIn.keep : ∀ {w w1 : World} {B : Nat} {os : List Opn} {qs : List (Nat × Nat)}, OpsIn w B os qs → (∀ q ∈ qs, ∀ o, (w.heap[q.1]? = some o → w1.heap[q.1]? = some o) ∧ (w.heap[q.2]? = some o → w1.heap[q.2]? = some o)) → OpsIn w1 B os qs
  | _, _, _, [], [], _, _ => trivial
  | _, _, _, _ :: _, q :: _, h, hk => ⟨(hk q (List.mem_cons_self ..) _).1 h.1, (hk q (List.mem_cons_self ..) _).2 h.2.1, h.2.2.1, h.2.2.2.1, h.2.2.2.2.1, OpsIn.keep h.2.2.2.2.2 fun r hr => hk r (List.mem_cons_of_mem _ hr)⟩
  | _, _, _, [], _ :: _, h, _ => h.elim
  | _, _, _, _ :: _, [], h, _ => h.elim
theorem OpsIn.mem : ∀ {w : World} {B : Nat} {os : List Opn} {qs : List (Nat × Nat)}, OpsIn w B os qs → ∀ q ∈ qs, B ≤ q.1 ∧ B ≤ q.2 ∧ (∃ cs, w.heap[q.1]? = some (.cells cs 112)) ∧ ∃ l, w.heap[q.2]? = some (hadObj l)
  | _, _, [], [], _, _, h => by cases h
  | _, _, o :: _, q :: qs, h, r, hr => by
    rcases List.mem_cons.1 hr with e | hr
    · subst e; exact ⟨h.2.2.1, h.2.2.2.1, ⟨_, h.1⟩, _, h.2.1⟩
    · exact OpsIn.mem h.2.2.2.2.2 r hr
  | _, _, [], _ :: _, h, _, _ => h.elim
  | _, _, _ :: _, [], h, _, _ => h.elim
theorem OpsIn.below {w w1 : World} {B : Nat} {os : List Opn} {qs : List (Nat × Nat)} (h : OpsIn w B os qs) (hb : Below w.heap.size w w1) : OpsIn w1 B os qs :=
  h.keep fun _ _ _ => ⟨fun h => blk_below h hb, fun h => blk_below h hb⟩
theorem own_below {w w1 : World} {base n size : Nat} {e : TypeId} {v : Value} {xs : List Value} (h : w.ownsRow base e size v n xs) (hb : Below w.heap.size w w1) : w1.ownsRow base e size v n xs :=
  h.kept (row := none) ⟨hb.os, hb.tape, hb.output, hb.size, fun i hi _ => hb.block i hi⟩ (by cases h : v.ownBlock <;> simp)
theorem Chk.below {w w1 : World} {B c : Nat} {stk : List Opn} {over : Bool} {qs : List (Nat × Nat)} {v : Value} (h : Chk w B c stk over qs v) (hb : Below w.heap.size w w1) : Chk w1 B c stk over qs v :=
  ⟨blk_below h.at_ hb, h.base, own_below h.row hb, h.ops.below hb⟩
/-- A store into a block of a thing, or of the Check: no row. -/
theorem own_set {w : World} {base n size : Nat} {e : TypeId} {v : Value} {xs : List Value} (h : w.ownsRow base e size v n xs) {p : Addr} {cs : Array Value} {t : TypeId} {fr : Nat × Nat} (hp : w.heap[p.block]? = some (.cells cs t fr)) (hte : t ≠ e) (u : Value) : (w.setCell p u).ownsRow base e size v n xs := by
  refine ownsRow_setCell_other h ?_ u
  intro hk
  obtain ⟨c, fz, h2⟩ := Go.Lib.ownsRow_kind h _ hk
  rw [hp] at h2
  simp only [Option.some.injEq, Obj.cells.injEq] at h2
  exact hte h2.2.1
theorem own_put {w : World} {base n size b : Nat} {e : TypeId} {v : Value} {xs : List Value} (h : w.ownsRow base e size v n xs) {l : List ByteArray} (hp : w.heap[b]? = some (hadObj l)) (o : Obj) : (ChangeMaps.setBlock w b o).ownsRow base e size v n xs := by
  refine h.kept (row := some b) ⟨rfl, rfl, rfl, by simp [ChangeMaps.setBlock], fun i hi hn => by simp [ChangeMaps.setBlock, show b ≠ i from fun e => hn (by rw [e])]⟩ ?_
  by_cases hk : v.ownBlock = none
  · exact .inl hk
  · refine .inr fun hk => ?_
    obtain ⟨c, fz, h2⟩ := Go.Lib.ownsRow_kind h _ hk
    rw [hp] at h2
    cases h2

set_option maxRecDepth 100000 in
theorem new_calls (w : World) : Calls Tryz.prog 54 #[] w fun e w' => e = .returned (.pointer (some ⟨w.heap.size, 0, none⟩)) ∧ Chk w' w.heap.size w.heap.size [] false [] (.slice none 0 0) ∧ Below w.heap.size w w' := by
  go_enter Tryz.func54, Tryz.ntmps54
  go_wp2_with fail
  go_ret
  exact ⟨rfl, ⟨blk_new _ _, Nat.le_refl _, World.ownsRow_nil _ _ _ _, trivial⟩, (Below.refl _ _).alloc (Nat.le_refl _) _⟩

/-- The innermost thing's pointer. -/
abbrev topV : List (Nat × Nat) → Value
  | [] => .pointer none
  | q :: _ => .pointer (some ⟨q.1, 0, none⟩)
set_option maxRecDepth 100000 in
theorem last_calls (c : Nat) (over : Bool) (qs : List (Nat × Nat)) (v : Value) (B : Nat) (w : World) (hc : w.heap[c]? = some (.cells #[v, .bool over] 105)) (hr : w.ownsRow B 107 1 v qs.length (ptrs qs)) (hq : qs.length ≤ 1048576) :
    Calls Tryz.prog 92 #[.pointer (some ⟨c, 0, none⟩)] w fun e w' => e = .returned (topV qs) ∧ ∃ n, w' = w.drewN n := by
  have hcc := blk_cell hc
  cases qs with
  | nil =>
    obtain ⟨A, cp, rfl⟩ := own_slice hr
    go_enter Tryz.func92, Tryz.ntmps92
    go_wp2_with fail
    go_ret
    exact ⟨rfl, 0, rfl⟩
  | cons q qs =>
    obtain ⟨g, cp, rfl⟩ := Go.Joins.ownsRow_form hr (by simp)
    have hg : w.cell? ⟨g, qs.length, none⟩ = some (.pointer (some ⟨q.1, 0, none⟩)) := by
      rw [hr.cellAt qs.length (by simp)]
      simp [ptrs]
    have hq' : (qs.length : Int) ≤ 1048576 := by simp at hq; omega
    go_enter Tryz.func92, Tryz.ntmps92
    have hwp : IntKind.i64.wrap (qs.length : Int) = qs.length := IntWalk.i64_in _ (by omega)
    go_upto_region 3 with (fail)
    go_still_tail 10, (by kernel_rfl)
    go_wp2_with fail
    go_ret
    exact ⟨rfl, 1, rfl⟩

/-- May a value stand here? -/
def valueS (stk : List Opn) (over : Bool) (k : Int) (t : ByteArray) : Bool :=
  match stk with
  | [] => !over
  | o :: _ => if o.kind = 7 then o.key else if o.kind = 10 then (decide (k = 10) || (decide (k = 4) && !decide (t.toList = []) && !o.text)) else true

set_option maxRecDepth 100000 in
set_option maxHeartbeats 1000000 in
theorem value_calls (k : Int) (t v : ByteArray) (B c : Nat) (stk : List Opn) (over : Bool) (qs : List (Nat × Nat)) (sl : Value) (w : World) (hC : Chk w B c stk over qs sl) (hq : qs.length ≤ 1048576) :
    Calls Tryz.prog 93 #[.pointer (some ⟨c, 0, none⟩), .agg #[.int .i64 k, .string t, .string v]] w fun e w' => e = .returned (.bool (valueS stk over k t)) ∧ Below w.heap.size w w' := by
  have hb0 := (Below.refl w.heap.size w).alloc (Nat.le_refl _) (.cells #[.int .i64 k, .string t, .string v] 70)
  have hC1 := hC.below hb0
  have hL := last_calls c over qs sl B _ hC1.at_ hC1.row hq
  cases stk with
  | nil =>
    cases qs with
    | cons _ _ => exact hC.ops.elim
    | nil =>
      simp only [topV] at hL
      have hL := Lib.hid hL
      have hcc := blk_cell hC1.at_
      go_enter Tryz.func93, Tryz.ntmps93
      go_wp2_with fail
      refine hL.out.mono ?_
      rintro e w1 ⟨rfl, n, rfl⟩
      go_wp2_with fail
      go_ret
      exact ⟨rfl, Go.below_drewN hb0 n⟩
  | cons o os =>
    cases qs with
    | nil => exact hC.ops.elim
    | cons q qs =>
      simp only [topV] at hL
      have hL := Lib.hid hL
      have hcc := blk_cell hC1.ops.1
      have hxx := blk_cell (blk_new w (.cells #[.int .i64 k, .string t, .string v] 70))
      obtain ⟨kd, ky, tx, fu, had⟩ := o
      by_cases h7 : kd = 7
      · subst h7
        have HF := Lib.hid (show valueS (⟨7, ky, tx, fu, had⟩ :: os) over k t = ky by simp [valueS])
        go_enter Tryz.func93, Tryz.ntmps93
        go_wp2_with fail
        refine hL.out.mono ?_
        rintro e w1 ⟨rfl, n, rfl⟩
        go_wp2_with fail
        go_ret
        exact ⟨by rw [HF.out]; rfl, Go.below_drewN hb0 n⟩
      by_cases h10 : kd = 10
      · subst h10
        clear h7
        have HF := Lib.hid (show valueS (⟨10, ky, tx, fu, had⟩ :: os) over k t = (decide (k = 10) || (decide (k = 4) && !decide (t.toList = []) && !tx)) by simp [valueS])
        go_enter Tryz.func93, Tryz.ntmps93
        go_wp2_with fail
        refine hL.out.mono ?_
        rintro e w1 ⟨rfl, n, hw⟩
        have hb1 := Go.below_drewN hb0 n
        have hcc1 : ∀ i, w1.cell? ⟨q.1, i, none⟩ = #[.int .i64 10, .bool ky, .bool tx, .bool fu, .map (some q.2)][i]? := fun i => by rw [hw]; exact hcc i
        have hxx1 : ∀ i, w1.cell? ⟨w.heap.size, i, none⟩ = #[.int .i64 k, .string t, .string v][i]? := fun i => by rw [hw]; exact hxx i
        rw [← hw] at hb1
        clear hw hcc hxx hC1 hC hb0 hL
        go_wp2_with fail
        all_goals go_ret
        all_goals go_light
        all_goals exact ⟨ret_bool (by rw [HF.out]; simp [*]), hb1⟩
      · have HF := Lib.hid (show valueS (⟨kd, ky, tx, fu, had⟩ :: os) over k t = true by simp [valueS, h7, h10])
        have g7 : (kd == 7) = false := by simpa using h7
        have g10 : (kd == 10) = false := by simpa using h10
        go_enter Tryz.func93, Tryz.ntmps93
        go_wp2_with fail
        refine hL.out.mono ?_
        rintro e w1 ⟨rfl, n, rfl⟩
        go_wp2_with fail
        go_ret
        exact ⟨by rw [HF.out]; rfl, Go.below_drewN hb0 n⟩

/-- A value stands here. -/
def standS (k : Int) : List Opn → Bool → List Opn × Bool
  | [], _ => ([], true)
  | o :: os, ov => (⟨o.kind, false, decide (k = 4), true, o.had⟩ :: os, ov)
theorem bool_eq (a b : Int) : (a == b) = decide (a = b) := by rw [Bool.eq_iff_iff]; simp

/-- The innermost thing's block written whole. -/
theorem OpsIn.top {w w1 : World} {B : Nat} {o o1 : Opn} {os : List Opn} {q : Nat × Nat} {qs : List (Nat × Nat)} (h : OpsIn w B (o :: os) (q :: qs))
    (h1 : w1.heap[q.1]? = some (.cells (o1.cs q.2) 112)) (h2 : w1.heap[q.2]? = some (hadObj o1.had)) (hk : ∀ g, g ≠ q.1 → g ≠ q.2 → w1.heap[g]? = w.heap[g]?) : OpsIn w1 B (o1 :: os) (q :: qs) := by
  obtain ⟨a1, a2, a3, a4, a5, a6⟩ := h
  refine ⟨h1, h2, a3, a4, a5, a6.keep fun r hr o' => ?_⟩
  obtain ⟨b1, b2⟩ := a5 r hr
  obtain ⟨_, _, ⟨cs, c1⟩, l, c2⟩ := a6.mem r hr
  have n1 : r.1 ≠ q.2 := fun e => by rw [e, a2] at c1; cases c1
  have n2 : r.2 ≠ q.1 := fun e => by rw [e, a1] at c2; cases c2
  exact ⟨fun h => (hk _ b1 n1).trans h, fun h => (hk _ n2 b2).trans h⟩
theorem Chk.len {w : World} {B c : Nat} {stk : List Opn} {over : Bool} {qs : List (Nat × Nat)} {v : Value} (h : Chk w B c stk over qs v) : stk.length = qs.length := h.ops.len

theorem Chk.apart {w : World} {B c : Nat} {o : Opn} {os : List Opn} {over : Bool} {q : Nat × Nat} {qs : List (Nat × Nat)} {v : Value} (h : Chk w B c (o :: os) over (q :: qs) v) : c ≠ q.1 := by
  intro e
  have h1 := h.at_
  have h2 := h.ops.1
  rw [e, h2] at h1
  simp only [Option.some.injEq, Obj.cells.injEq] at h1
  exact absurd h1.2.1 (by decide)
theorem Chk.at_apart {w : World} {B c : Nat} {o : Opn} {os : List Opn} {over : Bool} {q : Nat × Nat} {qs : List (Nat × Nat)} {v : Value} (h : Chk w B c (o :: os) over (q :: qs) v) : c ≠ q.1 ∧ c ≠ q.2 := by
  refine ⟨h.apart, fun e => ?_⟩
  have h1 := h.at_
  have h2 := h.ops.2.1
  rw [e, h2] at h1
  cases h1
theorem Chk.row_apart {w : World} {B c : Nat} {o : Opn} {os : List Opn} {over : Bool} {q : Nat × Nat} {qs : List (Nat × Nat)} {v : Value} (h : Chk w B c (o :: os) over (q :: qs) v) : ∀ g, v.ownBlock = some g → g ≠ q.1 ∧ g ≠ q.2 := by
  intro g hg
  obtain ⟨cs, fz, h2⟩ := Go.Lib.ownsRow_kind h.row g hg
  refine ⟨fun e => ?_, fun e => ?_⟩
  · rw [e, h.ops.1] at h2
    simp only [Option.some.injEq, Obj.cells.injEq] at h2
    exact absurd h2.2.1 (by decide)
  · rw [e, h.ops.2.1] at h2
    cases h2
theorem OpsIn.two {w : World} {B : Nat} {o : Opn} {os : List Opn} {q : Nat × Nat} {qs : List (Nat × Nat)} (h : OpsIn w B (o :: os) (q :: qs)) : q.2 ≠ q.1 := by
  intro e
  have h1 := h.1
  have h2 := h.2.1
  rw [e, h1] at h2
  cases h2

set_option maxRecDepth 100000 in
set_option maxHeartbeats 1000000 in
theorem stands_calls (k : Int) (t v : ByteArray) (B c : Nat) (stk : List Opn) (over : Bool) (qs : List (Nat × Nat)) (sl : Value) (w : World) (hC : Chk w B c stk over qs sl) (hq : qs.length ≤ 1048576) (hBw : B ≤ w.heap.size) :
    Calls Tryz.prog 94 #[.pointer (some ⟨c, 0, none⟩), .agg #[.int .i64 k, .string t, .string v]] w fun e w' => e = .returned (.tuple #[]) ∧ Chk w' B c (standS k stk over).1 (standS k stk over).2 qs sl ∧ Below B w w' ∧ ∀ g, g < w.heap.size → g ≠ c → (∀ r ∈ qs, g ≠ r.1) → w'.heap[g]? = w.heap[g]? := by
  have hb0 := (Below.refl w.heap.size w).alloc (Nat.le_refl _) (.cells #[.int .i64 k, .string t, .string v] 70)
  have hC1 := hC.below hb0
  have hL := last_calls c over qs sl B _ hC1.at_ hC1.row hq
  have hxx := blk_cell (blk_new w (.cells #[.int .i64 k, .string t, .string v] 70))
  have hbB := hb0.mono hBw
  obtain ⟨W, hW⟩ : ∃ W, W = w.alloc (.cells #[.int .i64 k, .string t, .string v] 70) := ⟨_, rfl⟩
  rw [← hW] at hb0 hC1 hL hxx hbB
  cases stk with
  | nil =>
    cases qs with
    | cons _ _ => exact hC.ops.elim
    | nil =>
      simp only [topV] at hL
      have hL := Lib.hid hL
      have hxx := Lib.hid hxx
      go_enter Tryz.func94, Tryz.ntmps94
      go_wp2_with fail
      rw [← hW]
      refine hL.out.mono ?_
      rintro e w1 ⟨rfl, n, hw⟩
      have hC2 : Chk w1 B c [] over [] sl := by rw [hw]; exact hC1.below (drewN_below _ n)
      have hb1 : Below B w w1 := by rw [hw]; exact Go.below_drewN hbB n
      have hbw : Below w.heap.size w w1 := by rw [hw]; exact Go.below_drewN hb0 n
      have hcc := blk_cell hC2.at_
      have hcf := blk_frozen hC2.at_
      clear hw hL hW hC1 hC hb0 hbB hxx
      go_wp2_with fail
      go_end0
      exact ⟨rfl, ⟨blk_set hC2.at_ 1 _, hC2.base, own_set hC2.row (p := ⟨c, 1, none⟩) hC2.at_ (by decide) _, trivial⟩, hb1.setCell hC2.base _, fun g hg h1 _ => by rw [Below.heap_setCell _ _ _ _ (by exact h1)]; exact hbw.block g hg⟩
  | cons o os =>
    cases qs with
    | nil => exact hC.ops.elim
    | cons q qs =>
      simp only [topV] at hL
      have hL := Lib.hid hL
      obtain ⟨kd, ky, tx, fu, had⟩ := o
      go_enter Tryz.func94, Tryz.ntmps94
      go_wp2_with fail
      rw [← hW]
      refine hL.out.mono ?_
      rintro e w1 ⟨rfl, n, hw⟩
      have hC2 : Chk w1 B c (⟨kd, ky, tx, fu, had⟩ :: os) over (q :: qs) sl := by rw [hw]; exact hC1.below (drewN_below _ n)
      have hb1 : Below B w w1 := by rw [hw]; exact Go.below_drewN hbB n
      have hbw : Below w.heap.size w w1 := by rw [hw]; exact Go.below_drewN hb0 n
      have hcc := blk_cell hC2.ops.1
      have hcf := blk_frozen hC2.ops.1
      have hxx1 : ∀ i, w1.cell? ⟨w.heap.size, i, none⟩ = #[.int .i64 k, .string t, .string v][i]? := fun i => by rw [hw]; exact hxx i
      clear hw hL hW hC1 hC hb0 hbB hxx
      go_upto_region 3 with (fail)
      go_region
      all_goals go_wp2_with fail
      all_goals go_end0
      all_goals
        refine ⟨rfl, ⟨?_, hC2.base, ?_, ?_⟩, ?_, ?_⟩
      · exact blk_far (blk_far (blk_far hC2.at_ (p := ⟨q.1, 1, none⟩) (hC2.apart) _) (p := ⟨q.1, 3, none⟩) (hC2.apart) _) (p := ⟨q.1, 2, none⟩) (hC2.apart) _
      · exact own_set (t := 112) (own_set (t := 112) (own_set hC2.row (p := ⟨q.1, 1, none⟩) hC2.ops.1 (by decide) _) (p := ⟨q.1, 3, none⟩) (blk_set hC2.ops.1 1 _) (by decide) _) (p := ⟨q.1, 2, none⟩) (blk_set (blk_set hC2.ops.1 1 _) 3 _) (by decide) _
      · refine hC2.ops.top ?_ ?_ ?_
        · rw [← bool_eq]; exact blk_set (blk_set (blk_set hC2.ops.1 1 (.bool false)) 3 (.bool true)) 2 (.bool (k == 4))
        · exact blk_far (blk_far (blk_far hC2.ops.2.1 (p := ⟨q.1, 1, none⟩) hC2.ops.two _) (p := ⟨q.1, 3, none⟩) hC2.ops.two _) (p := ⟨q.1, 2, none⟩) hC2.ops.two _
        · intro g h1 _
          show (((w1.setCell _ _).setCell _ _).setCell _ _).heap[g]? = _
          rw [Below.heap_setCell _ _ _ _ (by exact h1), Below.heap_setCell _ _ _ _ (by exact h1), Below.heap_setCell _ _ _ _ (by exact h1)]
      · exact (((hb1.setCell (p := ⟨q.1, 1, none⟩) hC2.ops.2.2.1 _).setCell (p := ⟨q.1, 3, none⟩) hC2.ops.2.2.1 _).setCell (p := ⟨q.1, 2, none⟩) hC2.ops.2.2.1 _).drew
      · intro g hg _ h2
        have h1 := h2 q (List.mem_cons_self ..)
        show (((w1.setCell _ _).setCell _ _).setCell _ _).heap[g]? = _
        rw [Below.heap_setCell _ _ _ _ (by exact h1), Below.heap_setCell _ _ _ _ (by exact h1), Below.heap_setCell _ _ _ _ (by exact h1)]
        exact hbw.block g hg
/-- What a Check's doings let lie: all but the blocks of a Check, of its things, of rows of these, and maps. -/
def keptS : Obj → Bool
  | .cells _ t _ => !(t == 105 || t == 112 || t == 107)
  | .map _ _ => false
  | _ => true
def KeepS (w w' : World) : Prop := ∀ (g : Nat) (o : Obj), w.heap[g]? = some o → keptS o = true → w'.heap[g]? = some o
theorem KeepS.refl (w : World) : KeepS w w := fun _ _ h _ => h
theorem KeepS.trans {a b c : World} (h : KeepS a b) (k : KeepS b c) : KeepS a c := fun g o hg ho => k g o (h g o hg ho) ho
theorem KeepS.below {w w' : World} (h : Below w.heap.size w w') : KeepS w w' := fun _ _ hg _ => blk_below hg h
theorem KeepS.set {w : World} {p : Addr} {cs : Array Value} {t : TypeId} {fr : Nat × Nat} (hp : w.heap[p.block]? = some (.cells cs t fr)) (ht : keptS (.cells #[] t) = false) (u : Value) : KeepS w (w.setCell p u) := fun g o hg ho => by
  refine blk_far hg (fun e => ?_) u
  rw [e, hp] at hg
  cases hg
  rw [show keptS (.cells cs t fr) = keptS (.cells #[] t) from rfl, ht] at ho
  cases ho
/-- A block of another kind is none of the Check's. -/
theorem Chk.none_of {w : World} {B c : Nat} {stk : List Opn} {over : Bool} {qs : List (Nat × Nat)} {v : Value} (h : Chk w B c stk over qs v) {i : Nat} {cs : Array Value} {t : TypeId} {fr : Nat × Nat} (hi : w.heap[i]? = some (.cells cs t fr)) (ht1 : ¬ 105 = t := by decide) (ht2 : ¬ 112 = t := by decide) : i ≠ c ∧ (∀ r ∈ qs, i ≠ r.1) ∧ ∀ r ∈ qs, i ≠ r.2 := by
  refine ⟨fun e => ?_, fun r hr e => ?_, fun r hr e => ?_⟩
  · rw [e, h.at_] at hi
    simp only [Option.some.injEq, Obj.cells.injEq] at hi
    exact ht1 hi.2.1
  · obtain ⟨_, _, ⟨cs, c1⟩, l, c2⟩ := h.ops.mem r hr
    rw [e, c1] at hi
    simp only [Option.some.injEq, Obj.cells.injEq] at hi
    exact ht2 hi.2.1
  · obtain ⟨_, _, ⟨cs, c1⟩, l, c2⟩ := h.ops.mem r hr
    rw [e, c2] at hi
    cases hi
theorem Chk.none_keptA {w : World} {B c : Nat} {stk : List Opn} {over : Bool} {qs : List (Nat × Nat)} {v : Value} (h : Chk w B c stk over qs v) {i : Nat} {o : Obj} (hi : w.heap[i]? = some o) (ho : keptS o = true) : i ≠ c ∧ (∀ r ∈ qs, i ≠ r.1) ∧ ∀ r ∈ qs, i ≠ r.2 := by
  refine ⟨fun e => ?_, fun r hr e => ?_, fun r hr e => ?_⟩
  · rw [e, h.at_] at hi
    cases hi
    exact absurd (show false = true from ho) (by decide)
  · obtain ⟨_, _, ⟨cs, c1⟩, l, c2⟩ := h.ops.mem r hr
    rw [e, c1] at hi
    cases hi
    exact absurd (show false = true from ho) (by decide)
  · obtain ⟨_, _, ⟨cs, c1⟩, l, c2⟩ := h.ops.mem r hr
    rw [e, c2] at hi
    cases hi
    exact absurd (show false = true from ho) (by decide)
theorem Chk.none_kept {w : World} {B c : Nat} {o' : Opn} {os : List Opn} {over : Bool} {q : Nat × Nat} {qs : List (Nat × Nat)} {v : Value} (h : Chk w B c (o' :: os) over (q :: qs) v) {i : Nat} {o : Obj} (hi : w.heap[i]? = some o) (ho : keptS o = true) : i ≠ c ∧ i ≠ q.1 ∧ i ≠ q.2 :=
  ⟨(h.none_keptA hi ho).1, (h.none_keptA hi ho).2.1 q (List.mem_cons_self ..), (h.none_keptA hi ho).2.2 q (List.mem_cons_self ..)⟩
theorem Chk.keepN {w w' : World} {B c : Nat} {stk : List Opn} {over : Bool} {qs : List (Nat × Nat)} {v : Value} (h : Chk w B c stk over qs v) (hk : ∀ g, g < w.heap.size → g ≠ c → (∀ r ∈ qs, g ≠ r.1) → w'.heap[g]? = w.heap[g]?) : KeepS w w' := fun g _ hg ho =>
  (hk g (blk_lt hg) (h.none_keptA hg ho).1 (h.none_keptA hg ho).2.1).trans hg
end Go.Proofs.YtngofdaciacglaaGreatDoor
