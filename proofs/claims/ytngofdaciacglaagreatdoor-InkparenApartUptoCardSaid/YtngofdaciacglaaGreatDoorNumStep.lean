/- Walks: num.step. -/
import Derived.Test.YtngofdaciacglaaGreatDoorProg
import Derived.Test.YtngofdaciacglaaGreatDoorBase
import Derived.Outline
import Derived.Deep.DeepCutAuto
import Derived.Deep.CutBlock
import Derived.Deep.Cut
import Derived.Deep.Light
namespace Go.Proofs.YtngofdaciacglaaGreatDoor
open Go.RowKit

def digitC (c : Int) : Bool := decide (48 ≤ c) && decide (c ≤ 57)
def expC (c : Int) : Bool := c == 101 || c == 69
/-- The state behind a byte. -/
def stepN (s c : Int) : Int :=
  if s = 0 then (if c = 45 then 1 else if c = 48 then 2 else if digitC c then 3 else 9)
  else if s = 1 then (if c = 48 then 2 else if digitC c then 3 else 9)
  else if s = 2 then (if c = 46 then 4 else if expC c then 6 else 9)
  else if s = 3 then (if digitC c then 3 else if c = 46 then 4 else if expC c then 6 else 9)
  else if s = 4 then (if digitC c then 5 else 9)
  else if s = 5 then (if digitC c then 5 else if expC c then 6 else 9)
  else if s = 6 then (if c = 43 then 7 else if c = 45 then 7 else if digitC c then 8 else 9)
  else if s = 7 ∨ s = 8 then (if digitC c then 8 else 9)
  else 9
theorem stepN_bd (s c : Int) : 0 ≤ stepN s c ∧ stepN s c ≤ 9 := by
  unfold stepN
  repeat' split
  all_goals omega
set_option maxRecDepth 100000 in
set_option maxHeartbeats 2000000 in
theorem step_calls (s c : Int) (h0 : 0 ≤ s) (h9 : s ≤ 9) (w : World) :
    Calls Tryz.prog 158 #[.int .i64 s, .int .u8 c] w fun e w' => e = .returned (.int .i64 (stepN s c)) ∧ w = w' := by
  have hs : s = 0 ∨ s = 1 ∨ s = 2 ∨ s = 3 ∨ s = 4 ∨ s = 5 ∨ s = 6 ∨ s = 7 ∨ s = 8 ∨ s = 9 := by omega
  clear h0 h9
  go_enter Tryz.func158, Tryz.ntmps158
  go_upto_region 1 with (fail)
  go_cut [1, 5] (fun s1 s5 wx => s1 = .int .u8 c ∧ s5 = .bool (digitC c) ∧ wx = w)
  case first =>
    go_wp2_with fail
    all_goals (go_meet; exact ⟨rfl, congrArg Value.bool (by rw [Bool.eq_iff_iff]; simp only [digitC, Bool.and_eq_true, decide_eq_true_eq, Bool.false_eq_true, false_iff]; omega), rfl⟩)
  case rest =>
    obtain ⟨rfl, rfl, rfl⟩ := hcut
    cases hd : digitC c
    all_goals
      rcases hs with rfl | rfl | rfl | rfl | rfl | rfl | rfl | rfl | rfl | rfl
    all_goals
      go_wp2_with fail
    all_goals go_ret
    all_goals (go_light; exact ⟨ret_int (by simp_all [stepN, expC]), rfl⟩)
end Go.Proofs.YtngofdaciacglaaGreatDoor
