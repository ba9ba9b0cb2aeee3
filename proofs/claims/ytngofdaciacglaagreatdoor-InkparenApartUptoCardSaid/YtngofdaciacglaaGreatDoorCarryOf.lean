/- Walks: carry.Of at the paren syntax. -/
import Derived.Test.YtngofdaciacglaaGreatDoorCarryOf1
namespace Go.Proofs.YtngofdaciacglaaGreatDoor
open Go.RowKit Go.Lib

set_option maxRecDepth 100000 in
set_option maxHeartbeats 1000000 in
theorem of_paren (n : Nd) (A : Option Addr) (c : Nat) (w : World) (hG : Globs w) (hn : Nd.In w n A c) (hN : (evs n).length ≤ 1048576) :
    Calls Tryz.prog 14 #[.int .i64 6, n.v A c] w fun e w' => e = .returned (.tuple #[.slice none 0 0, .int .i64 (mayE n)]) ∧ Below w.heap.size w w' := by
  have hmf : ∀ (fn : Fn) (first cap : Array Value) (w : World), (Instr.makeFunc fn first cap).run Tryz.prog w = .ok (.func fn first cap) w := fun _ _ _ _ => rfl
  have hb0 := (((Below.refl w.heap.size w).alloc (Nat.le_refl _) (.cells #[.int .i64 n.kind, .string n.text, .string n.val, .slice A n.kids.length c] 24)).alloc (by simp) (.cells #[.slice none 0 0] 27)).alloc (by simp; omega) (.cells #[.int .i64 0] 28)
  have HM := Lib.hid (tmay_calls n A c _ (hG.below hb0) (hn.below hb0) hN)
  have h4 := blk_alloc (blk_new (w.alloc (.cells #[.int .i64 n.kind, .string n.text, .string n.val, .slice A n.kids.length c] 24)) (.cells #[.slice none 0 0] 27)) (.cells #[.int .i64 0] 28)
  have h5 := blk_new ((w.alloc (.cells #[.int .i64 n.kind, .string n.text, .string n.val, .slice A n.kids.length c] 24)).alloc (.cells #[.slice none 0 0] 27)) (.cells #[.int .i64 0] 28)
  have H4 := Lib.hid h4
  have H5 := Lib.hid h5
  clear h4 h5
  by_cases h0 : mayE n = 0
  · go_enter_defers Tryz.func14, Tryz.ntmps14
    go_wp2_with fail
    refine HM.out.mono ?_
    rw [h0]
    rintro e w1 ⟨rfl, hb1⟩
    have h4 := blk_alloc (blk_below H4.out hb1) (.cells #[.slice none 0 0] 49)
    have h5 := blk_alloc (blk_below H5.out hb1) (.cells #[.slice none 0 0] 49)
    simp only [World.size_alloc] at h4 h5
    have hb1 := below_then hb0 hb0.size hb1
    have hc4 := blk_cell h4
    have hf4 := blk_frozen h4
    have hc5 := blk_cell h5
    have hf5 := blk_frozen h5
    go_wp2_with fail
    have e4 := blk_far (blk_set h4 0 (.slice none 0 0)) (p := ⟨w.heap.size + 1 + 1, 0, none⟩) (by show _ ≠ w.heap.size + 1 + 1; omega) (.int .i64 0)
    have e5 := blk_set (blk_far h5 (p := ⟨w.heap.size + 1, 0, none⟩) (by show _ ≠ w.heap.size + 1; omega) (.slice none 0 0)) 0 (.int .i64 0)
    have eB := ((hb1.alloc hb1.size (.cells #[.slice none 0 0] 49)).setCell (p := ⟨w.heap.size + 1, 0, none⟩) (by show _ ≤ w.heap.size + 1; omega) (.slice none 0 0)).setCell (p := ⟨w.heap.size + 1 + 1, 0, none⟩) (by show _ ≤ w.heap.size + 1 + 1; omega) (.int .i64 0)
    refine leaves_cons (f := 20) (args := #[.pointer (some ⟨w.heap.size + 1, 0, none⟩), .pointer (some ⟨w.heap.size + 1 + 1, 0, none⟩)]) (by simp) (by simp [go_sem]) ?_
    refine (of1_deferred (w.heap.size + 1) (w.heap.size + 1 + 1) _).mono ?_
    rintro e u' w'' ⟨rfl, rfl, hb3⟩
    have e4 := blk_below e4 hb3
    have e5 := blk_below e5 hb3
    exact ⟨_, results_cc rfl _ _ _ _ _ _ rfl rfl (blk_cell e4 0) (blk_cell e5 0) (by kernel_rfl) (by kernel_rfl), by rw [h0]; rfl, below_then eB eB.size hb3⟩
  · have hz := beq_no h0
    go_enter_defers Tryz.func14, Tryz.ntmps14
    go_wp2_with fail
    refine HM.out.mono ?_
    rintro e w1 ⟨rfl, hb1⟩
    have h4 := blk_below H4.out hb1
    have h5 := blk_below H5.out hb1
    simp only [World.size_alloc] at h4 h5
    have hb1 := below_then hb0 hb0.size hb1
    have hc4 := blk_cell h4
    have hf4 := blk_frozen h4
    have hc5 := blk_cell h5
    have hf5 := blk_frozen h5
    go_wp2_with fail
    have e4 := blk_far (blk_set h4 0 (.slice none 0 0)) (p := ⟨w.heap.size + 1 + 1, 0, none⟩) (by show _ ≠ w.heap.size + 1 + 1; omega) (.int .i64 (mayE n))
    have e5 := blk_set (blk_far h5 (p := ⟨w.heap.size + 1, 0, none⟩) (by show _ ≠ w.heap.size + 1; omega) (.slice none 0 0)) 0 (.int .i64 (mayE n))
    have eB := (hb1.setCell (p := ⟨w.heap.size + 1, 0, none⟩) (by show _ ≤ w.heap.size + 1; omega) (.slice none 0 0)).setCell (p := ⟨w.heap.size + 1 + 1, 0, none⟩) (by show _ ≤ w.heap.size + 1 + 1; omega) (.int .i64 (mayE n))
    exact ⟨_, results_cc rfl _ _ _ _ _ _ rfl rfl (blk_cell e4 0) (blk_cell e5 0) (by kernel_rfl) (by kernel_rfl), rfl, eB⟩
end Go.Proofs.YtngofdaciacglaaGreatDoor
