/- Plain words: a tree's events. Walks: tree.ends, tree.odd. -/
import Derived.Test.YtngofdaciacglaaGreatDoorStep
namespace Go.Proofs.YtngofdaciacglaaGreatDoor
open Go.RowKit Go.Lib

abbrev Ev := Int × ByteArray × ByteArray
abbrev Ev.v (e : Ev) : Value := .agg #[.int .i64 e.1, .string e.2.1, .string e.2.2]
/-- The End of a kind. -/
def endsK (k : Int) : Int := if k = 5 then 6 else if k = 7 then 9 else if k = 10 then 12 else 0
/-- Can a node be none? -/
def oddB (k : Int) (n : Nat) : Bool := if k = 1 ∨ k = 2 ∨ k = 3 ∨ k = 4 ∨ k = 11 then decide (0 < n) else if k = 8 then decide (n ≠ 1) else decide (endsK k = 0)
mutual
/-- A node's events. -/
def evs : Nd → List Ev
  | ⟨k, t, v, ks⟩ => if oddB k ks.length then [(0, bs [], bs [])] else (k, t, v) :: (evsL ks ++ if endsK k = 0 then [] else [(endsK k, bs [], bs [])])
def evsL : List Nd → List Ev
  | [] => []
  | n :: ns => evs n ++ evsL ns
end

set_option maxRecDepth 100000 in
theorem ends_calls (k : Int) (w : World) : Calls Tryz.prog 117 #[.int .i64 k] w fun e w' => e = .returned (.int .i64 (endsK k)) ∧ w = w' := by
  by_cases h5 : k = 5
  · subst h5
    go_enter Tryz.func117, Tryz.ntmps117
    go_wp2_with fail
    go_ret
    exact ⟨rfl, rfl⟩
  by_cases h7 : k = 7
  · subst h7
    go_enter Tryz.func117, Tryz.ntmps117
    go_wp2_with fail
    go_ret
    exact ⟨rfl, rfl⟩
  by_cases h10 : k = 10
  · subst h10
    go_enter Tryz.func117, Tryz.ntmps117
    go_wp2_with fail
    go_ret
    exact ⟨rfl, rfl⟩
  have HF := Lib.hid (show endsK k = 0 by simp [endsK, h5, h7, h10])
  have b5 := beq_no h5
  have b7 := beq_no h7
  have b10 := beq_no h10
  go_enter Tryz.func117, Tryz.ntmps117
  go_wp2_with fail
  go_ret
  exact ⟨by rw [HF.out]; rfl, rfl⟩

set_option maxRecDepth 100000 in
set_option maxHeartbeats 1000000 in
theorem todd_calls (n : Nd) (A : Option Addr) (c : Nat) (hn : n.kids.length ≤ 1048576) (w : World) : Calls Tryz.prog 116 #[n.v A c] w fun e w' => e = .returned (.bool (oddB n.kind n.kids.length)) ∧ Below w.heap.size w w' := by
  obtain ⟨k, t, v, ks⟩ := n
  have hb0 := (Below.refl w.heap.size w).alloc (Nat.le_refl _)
  simp only at hn ⊢
  by_cases h1 : k = 1 ∨ k = 2 ∨ k = 3 ∨ k = 4 ∨ k = 11
  · have HF := Lib.hid (show oddB k ks.length = decide (0 < ks.length) by simp [oddB, h1])
    rcases h1 with rfl | rfl | rfl | rfl | rfl
    all_goals
      go_enter Tryz.func116, Tryz.ntmps116
      go_wp2_with fail
      go_ret
      go_light
      exact ⟨ret_bool (by rw [HF.out, Bool.eq_iff_iff]), hb0 _⟩
  by_cases h8 : k = 8
  · subst h8
    have HF := Lib.hid (show oddB 8 ks.length = decide (ks.length ≠ 1) by simp [oddB])
    go_enter Tryz.func116, Tryz.ntmps116
    go_wp2_with fail
    go_ret
    go_light
    exact ⟨ret_bool (by rw [HF.out, Bool.eq_iff_iff]; simp; omega), hb0 _⟩
  have HF := Lib.hid (show oddB k ks.length = decide (endsK k = 0) by simp [oddB, h1, h8])
  simp only [not_or] at h1
  obtain ⟨a1, a2, a3, a4, a11⟩ := h1
  have b1 := beq_no a1
  have b2 := beq_no a2
  have b3 := beq_no a3
  have b4 := beq_no a4
  have b8 := beq_no h8
  have b11 := beq_no a11
  have HE := Lib.hid (ends_calls k)
  go_enter Tryz.func116, Tryz.ntmps116
  go_wp2_with fail
  refine (HE.out _).mono ?_
  rintro e w1 ⟨rfl, rfl⟩
  go_wp2_with fail
  go_ret
  go_light
  exact ⟨ret_bool (by rw [HF.out, Bool.eq_iff_iff]; simp), hb0 _⟩
end Go.Proofs.YtngofdaciacglaaGreatDoor
