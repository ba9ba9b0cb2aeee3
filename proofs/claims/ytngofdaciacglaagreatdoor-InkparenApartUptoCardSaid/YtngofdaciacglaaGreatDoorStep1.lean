/- Walks: events.Check.Step: scalars. -/
import Derived.Test.YtngofdaciacglaaGreatDoorNamed
namespace Go.Proofs.YtngofdaciacglaaGreatDoor
open Go.RowKit Go.Lib

/-- A thing newly open. -/
abbrev newO (k : Int) : Opn := ⟨k, false, false, false, []⟩
def endsOf (k : Int) : Int := if k = 6 then 5 else if k = 9 then 7 else 10
/-- A Check's step: the error, what is open, whether all is over. -/
def stepS (stk : List Opn) (over : Bool) (k : Int) (t v : ByteArray) : Int × List Opn × Bool :=
  if rightB k t v = false then (19, stk, over)
  else if k = 1 ∨ k = 2 ∨ k = 3 ∨ k = 4 then if valueS stk over k t then (0, standS k stk over) else (19, stk, over)
  else if k = 5 ∨ k = 7 ∨ k = 10 then
    if valueS stk over k t = false then (19, stk, over) else if 6 ≤ stk.length then (5, stk, over) else (0, newO k :: (standS k stk over).1, (standS k stk over).2)
  else match stk with
    | [] => (19, stk, over)
    | o :: os =>
      if k = 8 then if o.kind ≠ 7 ∨ o.key = true then (19, stk, over) else (namedE o t, namedO o k t :: os, over)
      else if k = 11 then if o.kind ≠ 10 ∨ o.full = true then (19, stk, over) else (namedE o t, namedO o k t :: os, over)
      else if o.kind ≠ endsOf k ∨ o.key = true then (19, stk, over) else (0, os, over)

/-- What a step leaves: an error leaves no one asking. -/
abbrev StepPost (B c : Nat) (w : World) (r : Int × List Opn × Bool) (e : Ending) (w' : World) : Prop :=
  e = .returned (.int .i64 r.1) ∧ Below B w w' ∧ KeepS w w' ∧ (r.1 = 0 → ∃ qs sl, Chk w' B c r.2.1 r.2.2 qs sl)

set_option maxRecDepth 100000 in
set_option maxHeartbeats 1000000 in
theorem step_wrong (k : Int) (t v : ByteArray) (B c : Nat) (stk : List Opn) (over : Bool) (w : World) (hG : Globs w) (ht : t.size ≤ 1048576) (hv : v.size ≤ 1048576) (hBw : B ≤ w.heap.size) (hr : rightB k t v = false) :
    Calls Tryz.prog 56 #[.pointer (some ⟨c, 0, none⟩), .agg #[.int .i64 k, .string t, .string v]] w (StepPost B c w (stepS stk over k t v)) := by
  have hb0 := (Below.refl w.heap.size w).alloc (Nat.le_refl _) (.cells #[.int .i64 k, .string t, .string v] 70)
  have HF := Lib.hid (show stepS stk over k t v = (19, stk, over) by simp [stepS, hr])
  have HR := right_calls k t v _ (hG.below hb0) ht hv
  rw [hr] at HR
  have HR := Lib.hid HR
  go_enter Tryz.func56, Tryz.ntmps56
  go_wp2_with fail
  refine HR.out.mono ?_
  rintro e w1 ⟨rfl, hb1⟩
  have hb1 := below_then hb0 hb0.size hb1
  go_wp2_with fail
  go_ret
  exact ⟨by rw [HF.out]; rfl, hb1.mono hBw, KeepS.below hb1, fun h => by rw [HF.out] at h; cases h⟩

set_option maxRecDepth 100000 in
set_option maxHeartbeats 1000000 in
theorem step_scalar (k : Int) (hk : k = 1 ∨ k = 2 ∨ k = 3 ∨ k = 4) (t v : ByteArray) (B c : Nat) (stk : List Opn) (over : Bool) (qs : List (Nat × Nat)) (sl : Value) (w : World) (hG : Globs w) (hC : Chk w B c stk over qs sl) (hq : qs.length ≤ 1048576) (ht : t.size ≤ 1048576) (hv : v.size ≤ 1048576) (hBw : B ≤ w.heap.size) (hr : rightB k t v = true) :
    Calls Tryz.prog 56 #[.pointer (some ⟨c, 0, none⟩), .agg #[.int .i64 k, .string t, .string v]] w (StepPost B c w (stepS stk over k t v)) := by
  have hb0 := (Below.refl w.heap.size w).alloc (Nat.le_refl _) (.cells #[.int .i64 k, .string t, .string v] 70)
  have HR := right_calls k t v _ (hG.below hb0) ht hv
  rw [hr] at HR
  have HR := Lib.hid HR
  have hxx := blk_new w (.cells #[.int .i64 k, .string t, .string v] 70)
  have hC0 := hC.below hb0
  have hF0 : stepS stk over k t v = if valueS stk over k t then (0, standS k stk over) else (19, stk, over) := by simp [stepS, hr, hk]
  have hV := fun W hC => value_calls k t v B c stk over qs sl W hC hq
  have hS := fun W hC hB => stands_calls k t v B c stk over qs sl W hC hq hB
  have hL := fun W hc hr => last_calls c over qs sl B W hc hr hq
  cases hvs : valueS stk over k t
  all_goals
    rw [hvs] at hV hF0
    have HF := Lib.hid hF0
    have HV := Lib.hid hV
    have HS := Lib.hid hS
    have HL := Lib.hid hL
    clear hF0 hV hS hL hvs hr hC
    rcases hk with rfl | rfl | rfl | rfl
    all_goals
      go_enter Tryz.func56, Tryz.ntmps56
      go_wp2_with fail
      refine HR.out.mono ?_
      rintro e w1 ⟨rfl, hb1⟩
      have hC1 := hC0.below hb1
      have hxx1 := blk_below hxx hb1
      have hb1 := below_then hb0 hb0.size hb1
      go_wp2_with fail
      refine (HL.out _ hC1.at_ hC1.row).mono ?_
      rintro e w2 ⟨rfl, n, hw2⟩
      have hC2 : Chk w2 B c stk over qs sl := by rw [hw2]; exact hC1.below (drewN_below _ n)
      have hh : w2.heap = w1.heap := by rw [hw2]; rfl
      have hxx2 := hxx1
      rw [← hh] at hxx2
      have hb2 : Below w.heap.size w w2 := by rw [hw2]; exact Go.below_drewN hb1 n
      have hcx := blk_cell hxx2
      clear hw2 hb1 hxx1 hC1 hh
      go_wp2_with fail
      refine (HV.out _ hC2).mono ?_
      rintro e w3 ⟨rfl, hb3⟩
      have hC3 := hC2.below hb3
      have hxx3 := blk_below hxx2 hb3
      have hcx := blk_cell hxx3
      have hb3 := below_then hb2 hb2.size hb3
      go_wp2_with fail
  iterate 4
    go_ret
    exact ⟨by rw [HF.out]; rfl, hb3.mono hBw, KeepS.below hb3, fun h => by rw [HF.out] at h; cases h⟩
  all_goals
    refine (HS.out _ hC3 (Nat.le_trans hBw hb3.size)).mono ?_
    rintro e w4 ⟨rfl, hC4, hb4, hk4⟩
    go_wp2_with fail
    go_ret
    exact ⟨by rw [HF.out]; rfl, (hb3.mono hBw).trans hb4, (KeepS.below hb3).trans (hC3.keepN hk4), fun _ => by rw [HF.out]; exact ⟨qs, sl, hC4⟩⟩
end Go.Proofs.YtngofdaciacglaaGreatDoor
