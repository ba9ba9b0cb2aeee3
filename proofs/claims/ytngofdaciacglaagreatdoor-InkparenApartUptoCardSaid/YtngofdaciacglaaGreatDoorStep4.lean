/- Walks: events.Check.Step: ends. -/
import Derived.Test.YtngofdaciacglaaGreatDoorStep4b
namespace Go.Proofs.YtngofdaciacglaaGreatDoor
open Go.RowKit Go.Lib

set_option maxRecDepth 100000 in
set_option maxHeartbeats 4000000 in
theorem step_end (k : Int) (hk : k = 6 ∨ k = 9 ∨ k = 12) (t v : ByteArray) (B c : Nat) (stk : List Opn) (over : Bool) (qs : List (Nat × Nat)) (sl : Value) (w : World) (hG : Globs w) (hC : Chk w B c stk over qs sl) (hKs : ∀ o ∈ stk, o.kind = 5 ∨ o.kind = 7 ∨ o.kind = 10) (hq : qs.length ≤ 1048576) (ht : t.size ≤ 1048576) (hv : v.size ≤ 1048576) (hBw : B ≤ w.heap.size) (hr : rightB k t v = true) :
    Calls Tryz.prog 56 #[.pointer (some ⟨c, 0, none⟩), .agg #[.int .i64 k, .string t, .string v]] w (StepPost B c w (stepS stk over k t v)) := by
  have hb0 := (Below.refl w.heap.size w).alloc (Nat.le_refl _) (.cells #[.int .i64 k, .string t, .string v] 70)
  have HR := right_calls k t v _ (hG.below hb0) ht hv
  rw [hr] at HR
  have HR := Lib.hid HR
  have hxx := blk_new w (.cells #[.int .i64 k, .string t, .string v] 70)
  have hC0 := hC.below hb0
  have hL := fun W hc hr => last_calls c over qs sl B W hc hr hq
  have hmk : ∀ W, (Instr.makeMap 113 none).run Tryz.prog W = .ok (.map (some W.heap.size)) (W.alloc (.map #[] 0)) := fun W => rfl
  cases stk with
  | nil =>
    cases qs with
    | cons _ _ => exact hC.ops.elim
    | nil =>
      simp only [topV] at hL
      have HL := Lib.hid hL
      have HF := Lib.hid (show stepS [] over k t v = (19, [], over) by rcases hk with rfl | rfl | rfl <;> simp [stepS, hr])
      clear hL hr hC
      rcases hk with rfl | rfl | rfl
      all_goals
        go_enter Tryz.func56, Tryz.ntmps56
        go_wp2_with fail
        refine HR.out.mono ?_
        rintro e w1 ⟨rfl, hb1⟩
        have hC1 := hC0.below hb1
        have hxx1 := blk_below hxx hb1
        have hb1 := below_then hb0 hb0.size hb1
        go_wp2_with fail
        refine (HL.out _ hC1.at_ hC1.row).mono ?_
        rintro e w2 ⟨rfl, n, hw2⟩
        have hh : w2.heap = w1.heap := by rw [hw2]; rfl
        have hxx2 := hxx1
        rw [← hh] at hxx2
        have hb2 : Below w.heap.size w w2 := by rw [hw2]; exact Go.below_drewN hb1 n
        have hcx := blk_cell hxx2
        obtain ⟨W2, W3, W4, m1, m2, m3, mb, mlk⟩ := ends_made w2
        have hcx4 := blk_cell (blk_below hxx2 mb)
        have hb4 := below_then hb2 hb2.size mb
        clear hw2 hb1 hxx1 hC1 hh
        go_upto_region 5 with (fail)
        clear HL HR hC0
        go_upto_region 6 with (fail)
        go_region
        all_goals go_wp2_with fail
        all_goals go_ret
        all_goals exact ⟨by rw [HF.out]; rfl, (hb4.mono hBw).drew, KeepS.below hb4.drew, fun h => by rw [HF.out] at h; cases h⟩
  | cons o os =>
    cases qs with
    | nil => exact hC.ops.elim
    | cons q qs =>
      simp only [topV] at hL
      have HL := Lib.hid hL
      obtain ⟨kd, ky, tx, fu, had⟩ := o
      obtain ⟨g, cp, rfl⟩ := Go.Joins.ownsRow_form hC.row (by simp)
      have hq' : (qs.length : Int) ≤ 1048576 := by simp at hq; omega
      have hwp : IntKind.i64.wrap (qs.length : Int) = qs.length := IntWalk.i64_in _ (by omega)
      have hcp := fun W (h : Chk W B c (⟨kd, ky, tx, fu, had⟩ :: os) over (q :: qs) (.slice (some ⟨g, 0, none⟩) (q :: qs).length cp)) => own_cap h.row
      clear hL
      by_cases hgo : kd = endsOf k ∧ ky = false
      · have HF := Lib.hid (show stepS (⟨kd, ky, tx, fu, had⟩ :: os) over k t v = (0, os, over) by
          obtain ⟨rfl, rfl⟩ := hgo
          rcases hk with rfl | rfl | rfl <;> simp [stepS, hr])
        clear hr hC
        rcases hk with rfl | rfl | rfl
        all_goals
          simp [endsOf] at hgo
          obtain ⟨rfl, rfl⟩ := hgo
          go_enter Tryz.func56, Tryz.ntmps56
          go_wp2_with fail
          refine HR.out.mono ?_
          rintro e w1 ⟨rfl, hb1⟩
          have hC1 := hC0.below hb1
          have hxx1 := blk_below hxx hb1
          have hb1 := below_then hb0 hb0.size hb1
          go_wp2_with fail
          refine (HL.out _ hC1.at_ hC1.row).mono ?_
          rintro e w2 ⟨rfl, n, hw2⟩
          have hh : w2.heap = w1.heap := by rw [hw2]; rfl
          have hxx2 := hxx1
          rw [← hh] at hxx2
          have hb2 : Below w.heap.size w w2 := by rw [hw2]; exact Go.below_drewN hb1 n
          have hcx := blk_cell hxx2
          obtain ⟨W2, W3, W4, m1, m2, m3, mb, mlk⟩ := ends_made w2
          have hcx4 := blk_cell (blk_below hxx2 mb)
          have hb4 := below_then hb2 hb2.size mb
          have hC2 := hC1.below (show Below w1.heap.size w1 w2 by rw [hw2]; exact drewN_below _ n)
          have hC4 := hC2.below mb
          have hct := blk_cell hC4.ops.1
          clear hw2 hb1 hxx1 hC1 hh hC2
          go_upto_region 5 with (fail)
          clear HL HR hC0 hb0 hxx hG
          go_upto_region 6 with (fail)
          have l6 := mlk 6 0 (.int .i64 5) rfl
          have l9 := mlk 9 1 (.int .i64 7) rfl
          have l12 := mlk 12 2 (.int .i64 10) rfl
          go_region
          go_upto_region 8 with (fail)
          obtain ⟨W5, hW5⟩ : ∃ W5, W5 = W4.drew := ⟨_, rfl⟩
          rw [← hW5]
          have hC5 := hC4.below (show Below W4.heap.size W4 W5 by rw [hW5]; exact (Below.refl _ _).drew)
          have hb5 : Below w.heap.size w W5 := by rw [hW5]; exact hb4.drew
          clear hW5 l6 l9 l12 mlk hct hcx4 mb hC4 hb4 hcx
          have hcc := blk_cell hC5.at_
          have hcf := blk_frozen hC5.at_
          have hcp := own_cap hC5.row
          have hcq : qs.length ≤ cp := by simp at hcp; omega
          clear hcp
          go_region
          go_wp2_with fail
          go_ret
          exact ⟨by rw [HF.out]; rfl, ((hb5.mono hBw).setCell hC5.base _).drew, ((KeepS.below hb5).trans (KeepS.set (p := ⟨c, 0, none⟩) hC5.at_ (by decide) _)).trans (KeepS.below (Below.refl _ _).drew), fun _ => by rw [HF.out]; exact ⟨qs, _, hC5.pop.below (Below.refl _ _).drew⟩⟩
      · have HF := Lib.hid (show stepS (⟨kd, ky, tx, fu, had⟩ :: os) over k t v = (19, ⟨kd, ky, tx, fu, had⟩ :: os, over) by
          have h1 : kd ≠ endsOf k ∨ ky = true := by
            by_cases h7 : kd = endsOf k
            · refine .inr ?_
              cases ky
              · exact absurd ⟨h7, rfl⟩ hgo
              · rfl
            · exact .inl h7
          rcases hk with rfl | rfl | rfl <;> (simp only [stepS, hr]; simp [h1]))
        by_cases hkd : kd = endsOf k
        · obtain rfl : ky = true := by
            cases ky
            · exact absurd ⟨hkd, rfl⟩ hgo
            · rfl
          clear hr hgo hC
          rcases hk with rfl | rfl | rfl
          all_goals
            simp [endsOf] at hkd
            obtain rfl := hkd
            go_enter Tryz.func56, Tryz.ntmps56
            go_wp2_with fail
            refine HR.out.mono ?_
            rintro e w1 ⟨rfl, hb1⟩
            have hC1 := hC0.below hb1
            have hxx1 := blk_below hxx hb1
            have hb1 := below_then hb0 hb0.size hb1
            go_wp2_with fail
            refine (HL.out _ hC1.at_ hC1.row).mono ?_
            rintro e w2 ⟨rfl, n, hw2⟩
            have hh : w2.heap = w1.heap := by rw [hw2]; rfl
            have hxx2 := hxx1
            rw [← hh] at hxx2
            have hb2 : Below w.heap.size w w2 := by rw [hw2]; exact Go.below_drewN hb1 n
            have hcx := blk_cell hxx2
            obtain ⟨W2, W3, W4, m1, m2, m3, mb, mlk⟩ := ends_made w2
            have hcx4 := blk_cell (blk_below hxx2 mb)
            have hb4 := below_then hb2 hb2.size mb
            have hC2 := hC1.below (show Below w1.heap.size w1 w2 by rw [hw2]; exact drewN_below _ n)
            have hC4 := hC2.below mb
            have hct := blk_cell hC4.ops.1
            clear hw2 hb1 hxx1 hC1 hh hC2
            go_upto_region 5 with (fail)
            clear HL HR hC0 hb0 hxx hG
            go_upto_region 6 with (fail)
            have l6 := mlk 6 0 (.int .i64 5) rfl
            have l9 := mlk 9 1 (.int .i64 7) rfl
            have l12 := mlk 12 2 (.int .i64 10) rfl
            go_region
            go_wp2_with fail
            go_ret
            exact ⟨by rw [HF.out]; rfl, (hb4.mono hBw).drew, KeepS.below hb4.drew, fun h => by rw [HF.out] at h; cases h⟩
        · exact step_end_off k hk t v B c kd ky tx fu had os over q qs g cp w hG hC hkd (hKs _ (List.mem_cons_self ..)) hq ht hv hBw hr
end Go.Proofs.YtngofdaciacglaaGreatDoor
