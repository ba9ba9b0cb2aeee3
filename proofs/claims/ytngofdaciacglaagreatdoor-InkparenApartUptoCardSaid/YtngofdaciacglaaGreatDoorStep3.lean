/- Walks: events.Check.Step: keys, attributes, ends. -/
import Derived.Test.YtngofdaciacglaaGreatDoorStep1
namespace Go.Proofs.YtngofdaciacglaaGreatDoor
open Go.RowKit Go.Lib

set_option maxRecDepth 100000 in
set_option maxHeartbeats 4000000 in
theorem step_named (k : Int) (hk : k = 8 ∨ k = 11) (t v : ByteArray) (B c : Nat) (stk : List Opn) (over : Bool) (qs : List (Nat × Nat)) (sl : Value) (w : World) (hG : Globs w) (hC : Chk w B c stk over qs sl) (hq : qs.length ≤ 1048576) (ht : t.size ≤ 1048576) (hv : v.size ≤ 1048576) (hBw : B ≤ w.heap.size) (hr : rightB k t v = true) :
    Calls Tryz.prog 56 #[.pointer (some ⟨c, 0, none⟩), .agg #[.int .i64 k, .string t, .string v]] w (StepPost B c w (stepS stk over k t v)) := by
  have hb0 := (Below.refl w.heap.size w).alloc (Nat.le_refl _) (.cells #[.int .i64 k, .string t, .string v] 70)
  have HR := right_calls k t v _ (hG.below hb0) ht hv
  rw [hr] at HR
  have HR := Lib.hid HR
  have hxx := blk_new w (.cells #[.int .i64 k, .string t, .string v] 70)
  have hC0 := hC.below hb0
  have hL := fun W hc hr => last_calls c over qs sl B W hc hr hq
  cases stk with
  | nil =>
    cases qs with
    | cons _ _ => exact hC.ops.elim
    | nil =>
      simp only [topV] at hL
      have HL := Lib.hid hL
      have HF := Lib.hid (show stepS [] over k t v = (19, [], over) by rcases hk with rfl | rfl <;> simp [stepS, hr])
      clear hL hr hC
      rcases hk with rfl | rfl
      all_goals
        go_enter Tryz.func56, Tryz.ntmps56
        go_wp2_with fail
        refine HR.out.mono ?_
        rintro e w1 ⟨rfl, hb1⟩
        have hC1 := hC0.below hb1
        have hxx1 := blk_below hxx hb1
        have hb1 := below_then hb0 hb0.size hb1
        go_wp2_with fail
        refine (HL.out _ hC1.at_ hC1.row).mono ?_
        rintro e w2 ⟨rfl, n, hw2⟩
        have hh : w2.heap = w1.heap := by rw [hw2]; rfl
        have hxx2 := hxx1
        rw [← hh] at hxx2
        have hb2 : Below w.heap.size w w2 := by rw [hw2]; exact Go.below_drewN hb1 n
        have hcx := blk_cell hxx2
        clear hw2 hb1 hxx1 hC1 hh
        go_wp2_with fail
        go_ret
        exact ⟨by rw [HF.out]; rfl, hb2.mono hBw, KeepS.below hb2, fun h => by rw [HF.out] at h; cases h⟩
  | cons o os =>
    cases qs with
    | nil => exact hC.ops.elim
    | cons q qs =>
      simp only [topV] at hL
      have HL := Lib.hid hL
      obtain ⟨kd, ky, tx, fu, had⟩ := o
      by_cases hgo : (k = 8 ∧ kd = 7 ∧ ky = false) ∨ (k = 11 ∧ kd = 10 ∧ fu = false)
      · have HF := Lib.hid (show stepS (⟨kd, ky, tx, fu, had⟩ :: os) over k t v = (namedE ⟨kd, ky, tx, fu, had⟩ t, namedO ⟨kd, ky, tx, fu, had⟩ k t :: os, over) by
          rcases hgo with ⟨rfl, rfl, rfl⟩ | ⟨rfl, rfl, rfl⟩ <;> simp [stepS, hr])
        have HN := Lib.hid (fun W hO hB => named_calls k t v B ⟨kd, ky, tx, fu, had⟩ os q qs W hO hB)
        clear hL hr hk hC
        rcases hgo with ⟨rfl, rfl, rfl⟩ | ⟨rfl, rfl, rfl⟩
        all_goals
          go_enter Tryz.func56, Tryz.ntmps56
          go_wp2_with fail
          refine HR.out.mono ?_
          rintro e w1 ⟨rfl, hb1⟩
          have hC1 := hC0.below hb1
          have hxx1 := blk_below hxx hb1
          have hb1 := below_then hb0 hb0.size hb1
          go_wp2_with fail
          refine (HL.out _ hC1.at_ hC1.row).mono ?_
          rintro e w2 ⟨rfl, n, hw2⟩
          have hC2 := hC1.below (show Below w1.heap.size w1 w2 by rw [hw2]; exact drewN_below _ n)
          have hh : w2.heap = w1.heap := by rw [hw2]; rfl
          have hxx2 := hxx1
          rw [← hh] at hxx2
          have hb2 : Below w.heap.size w w2 := by rw [hw2]; exact Go.below_drewN hb1 n
          have hcx := blk_cell hxx2
          have hct := blk_cell hC2.ops.1
          clear hw2 hb1 hxx1 hC1 hh
          go_wp2_with fail
          refine (HN.out _ hC2.ops (Nat.le_trans hBw hb2.size)).mono ?_
          rintro e w3 ⟨rfl, hO3, hb3, hk3⟩
          go_wp2_with fail
          go_ret
          refine ⟨by rw [HF.out]; rfl, (hb2.mono hBw).trans hb3, (KeepS.below hb2).trans fun g o hg ho => (hk3 g (blk_lt hg) (hC2.none_kept hg ho).2.1 (hC2.none_kept hg ho).2.2).trans hg, fun _ => ?_⟩
          rw [HF.out]
          obtain ⟨n1, n2⟩ := hC2.at_apart
          have n3 : ∀ g, sl.ownBlock = some g → g ≠ q.1 ∧ g ≠ q.2 := hC2.row_apart
          exact ⟨q :: qs, sl, (hk3 _ (blk_lt hC2.at_) n1 n2).trans hC2.at_, hC2.base, own_keep hC2.row (fun g hg => hk3 g (hC2.row.lt g hg).2 (n3 g hg).1 (n3 g hg).2), hO3⟩
      · have HF := Lib.hid (show stepS (⟨kd, ky, tx, fu, had⟩ :: os) over k t v = (19, ⟨kd, ky, tx, fu, had⟩ :: os, over) by
          rcases hk with rfl | rfl
          · have h1 : kd ≠ 7 ∨ ky = true := by
              by_cases h7 : kd = 7
              · refine .inr ?_
                cases ky
                · exact absurd (.inl ⟨rfl, h7, rfl⟩) hgo
                · rfl
              · exact .inl h7
            simp only [stepS, hr]
            simp [h1]
          · have h1 : kd ≠ 10 ∨ fu = true := by
              by_cases h7 : kd = 10
              · refine .inr ?_
                cases fu
                · exact absurd (.inr ⟨rfl, h7, rfl⟩) hgo
                · rfl
              · exact .inl h7
            simp only [stepS, hr]
            simp [h1])
        have hcase : (k = 8 ∧ kd ≠ 7) ∨ (k = 8 ∧ kd = 7 ∧ ky = true) ∨ (k = 11 ∧ kd ≠ 10) ∨ (k = 11 ∧ kd = 10 ∧ fu = true) := by
          rcases hk with rfl | rfl
          · by_cases h7 : kd = 7
            · cases ky
              · exact absurd (.inl ⟨rfl, h7, rfl⟩) hgo
              · exact .inr (.inl ⟨rfl, h7, rfl⟩)
            · exact .inl ⟨rfl, h7⟩
          · by_cases h7 : kd = 10
            · cases fu
              · exact absurd (.inr ⟨rfl, h7, rfl⟩) hgo
              · exact .inr (.inr (.inr ⟨rfl, h7, rfl⟩))
            · exact .inr (.inr (.inl ⟨rfl, h7⟩))
        have g7 : kd ≠ 7 → (kd == 7) = false := fun h => by simpa using h
        have g10 : kd ≠ 10 → (kd == 10) = false := fun h => by simpa using h
        clear hL hr hk hC hgo
        rcases hcase with ⟨rfl, h7⟩ | ⟨rfl, rfl, rfl⟩ | ⟨rfl, h7⟩ | ⟨rfl, rfl, rfl⟩
        · have g := g7 h7
          clear g7 g10
          go_enter Tryz.func56, Tryz.ntmps56
          go_wp2_with fail
          refine HR.out.mono ?_
          rintro e w1 ⟨rfl, hb1⟩
          have hC1 := hC0.below hb1
          have hxx1 := blk_below hxx hb1
          have hb1 := below_then hb0 hb0.size hb1
          go_wp2_with fail
          refine (HL.out _ hC1.at_ hC1.row).mono ?_
          rintro e w2 ⟨rfl, n, hw2⟩
          have hC2 := hC1.below (show Below w1.heap.size w1 w2 by rw [hw2]; exact drewN_below _ n)
          have hh : w2.heap = w1.heap := by rw [hw2]; rfl
          have hxx2 := hxx1
          rw [← hh] at hxx2
          have hb2 : Below w.heap.size w w2 := by rw [hw2]; exact Go.below_drewN hb1 n
          have hcx := blk_cell hxx2
          have hct := blk_cell hC2.ops.1
          clear hw2 hb1 hxx1 hC1 hh
          go_wp2_with fail
          go_ret
          exact ⟨by rw [HF.out]; rfl, hb2.mono hBw, KeepS.below hb2, fun h => by rw [HF.out] at h; cases h⟩
        · clear g7 g10
          go_enter Tryz.func56, Tryz.ntmps56
          go_wp2_with fail
          refine HR.out.mono ?_
          rintro e w1 ⟨rfl, hb1⟩
          have hC1 := hC0.below hb1
          have hxx1 := blk_below hxx hb1
          have hb1 := below_then hb0 hb0.size hb1
          go_wp2_with fail
          refine (HL.out _ hC1.at_ hC1.row).mono ?_
          rintro e w2 ⟨rfl, n, hw2⟩
          have hC2 := hC1.below (show Below w1.heap.size w1 w2 by rw [hw2]; exact drewN_below _ n)
          have hh : w2.heap = w1.heap := by rw [hw2]; rfl
          have hxx2 := hxx1
          rw [← hh] at hxx2
          have hb2 : Below w.heap.size w w2 := by rw [hw2]; exact Go.below_drewN hb1 n
          have hcx := blk_cell hxx2
          have hct := blk_cell hC2.ops.1
          clear hw2 hb1 hxx1 hC1 hh
          go_wp2_with fail
          go_ret
          exact ⟨by rw [HF.out]; rfl, hb2.mono hBw, KeepS.below hb2, fun h => by rw [HF.out] at h; cases h⟩
        · have g := g10 h7
          clear g7 g10
          go_enter Tryz.func56, Tryz.ntmps56
          go_wp2_with fail
          refine HR.out.mono ?_
          rintro e w1 ⟨rfl, hb1⟩
          have hC1 := hC0.below hb1
          have hxx1 := blk_below hxx hb1
          have hb1 := below_then hb0 hb0.size hb1
          go_wp2_with fail
          refine (HL.out _ hC1.at_ hC1.row).mono ?_
          rintro e w2 ⟨rfl, n, hw2⟩
          have hC2 := hC1.below (show Below w1.heap.size w1 w2 by rw [hw2]; exact drewN_below _ n)
          have hh : w2.heap = w1.heap := by rw [hw2]; rfl
          have hxx2 := hxx1
          rw [← hh] at hxx2
          have hb2 : Below w.heap.size w w2 := by rw [hw2]; exact Go.below_drewN hb1 n
          have hcx := blk_cell hxx2
          have hct := blk_cell hC2.ops.1
          clear hw2 hb1 hxx1 hC1 hh
          go_wp2_with fail
          go_ret
          exact ⟨by rw [HF.out]; rfl, hb2.mono hBw, KeepS.below hb2, fun h => by rw [HF.out] at h; cases h⟩
        · clear g7 g10
          go_enter Tryz.func56, Tryz.ntmps56
          go_wp2_with fail
          refine HR.out.mono ?_
          rintro e w1 ⟨rfl, hb1⟩
          have hC1 := hC0.below hb1
          have hxx1 := blk_below hxx hb1
          have hb1 := below_then hb0 hb0.size hb1
          go_wp2_with fail
          refine (HL.out _ hC1.at_ hC1.row).mono ?_
          rintro e w2 ⟨rfl, n, hw2⟩
          have hC2 := hC1.below (show Below w1.heap.size w1 w2 by rw [hw2]; exact drewN_below _ n)
          have hh : w2.heap = w1.heap := by rw [hw2]; rfl
          have hxx2 := hxx1
          rw [← hh] at hxx2
          have hb2 : Below w.heap.size w w2 := by rw [hw2]; exact Go.below_drewN hb1 n
          have hcx := blk_cell hxx2
          have hct := blk_cell hC2.ops.1
          clear hw2 hb1 hxx1 hC1 hh
          go_wp2_with fail
          go_ret
          exact ⟨by rw [HF.out]; rfl, hb2.mono hBw, KeepS.below hb2, fun h => by rw [HF.out] at h; cases h⟩

theorem Chk.pop {w : World} {B c : Nat} {o : Opn} {os : List Opn} {over : Bool} {q : Nat × Nat} {qs : List (Nat × Nat)} {g cp : Nat} (h : Chk w B c (o :: os) over (q :: qs) (.slice (some ⟨g, 0, none⟩) (qs.length + 1) cp)) :
    Chk (w.setCell ⟨c, 0, none⟩ (.slice (some ⟨g, 0, none⟩) qs.length cp)) B c os over qs (.slice (some ⟨g, 0, none⟩) qs.length cp) := by
  have hr := h.row
  rw [show ptrs (q :: qs) = ptrs qs ++ [.pointer (some ⟨q.1, 0, none⟩)] by simp [ptrs]] at hr
  have hr2 := ownsRow_pop (n := qs.length) (by simp [ptrs]) hr
  refine ⟨blk_set h.at_ 0 _, h.base, own_set hr2 (p := ⟨c, 0, none⟩) h.at_ (by decide) _, h.ops.2.2.2.2.2.keep fun r hr o => ?_⟩
  obtain ⟨_, _, ⟨cs, c1⟩, l, c2⟩ := h.ops.2.2.2.2.2.mem r hr
  have n1 : r.1 ≠ c := fun e => by
    rw [e, h.at_] at c1
    simp only [Option.some.injEq, Obj.cells.injEq] at c1
    exact absurd c1.2.1 (by decide)
  have n2 : r.2 ≠ c := fun e => by rw [e, h.at_] at c2; cases c2
  exact ⟨fun h => blk_far h (p := ⟨c, 0, none⟩) n1 _, fun h => blk_far h (p := ⟨c, 0, none⟩) n2 _⟩
end Go.Proofs.YtngofdaciacglaaGreatDoor
