/- Walks: events.open.named, Check.Done. -/
import Derived.Test.YtngofdaciacglaaGreatDoorCheck
namespace Go.Proofs.YtngofdaciacglaaGreatDoor
open Go.RowKit Go.Lib

theorem own_keep {w w1 : World} {base n size : Nat} {e : TypeId} {v : Value} {xs : List Value} (h : w.ownsRow base e size v n xs) (hk : ∀ g, v.ownBlock = some g → w1.heap[g]? = w.heap[g]?) : w1.ownsRow base e size v n xs := by
  obtain ⟨h1, h2⟩ := h
  refine ⟨h1, ?_⟩
  rcases h2 with h2 | ⟨g, cap, cur, h3, h4, h5, h6⟩
  · exact .inl h2
  · exact .inr ⟨g, cap, cur, h3, h4, (hk g (by rw [h3]; rfl)).trans h5, h6⟩
/-- What a Key, or an Attr, is told. -/
def namedE (o : Opn) (t : ByteArray) : Int := if hasS t o.had then 6 else if 10 ≤ o.had.length then 7 else 0
def namedO (o : Opn) (k : Int) (t : ByteArray) : Opn := if namedE o t = 0 then ⟨o.kind, decide (k = 8), o.text, o.full, o.had ++ [t]⟩ else o
theorem zeroBool (w : World) : (zeroValue 4).run Tryz.prog w = .ok (.bool false) w := by kernel_rfl

set_option maxRecDepth 100000 in
set_option maxHeartbeats 1000000 in
theorem named_calls (k : Int) (t v : ByteArray) (B : Nat) (o : Opn) (os : List Opn) (q : Nat × Nat) (qs : List (Nat × Nat)) (w : World) (hO : OpsIn w B (o :: os) (q :: qs)) (hBw : B ≤ w.heap.size) :
    Calls Tryz.prog 95 #[.pointer (some ⟨q.1, 0, none⟩), .agg #[.int .i64 k, .string t, .string v]] w fun e w' => e = .returned (.int .i64 (namedE o t)) ∧ OpsIn w' B (namedO o k t :: os) (q :: qs) ∧ Below B w w' ∧ ∀ g, g < w.heap.size → g ≠ q.1 → g ≠ q.2 → w'.heap[g]? = w.heap[g]? := by
  have hb0 := (Below.refl w.heap.size w).alloc (Nat.le_refl _) (.cells #[.int .i64 k, .string t, .string v] 70)
  have hO1 := hO.below hb0
  have hxx := blk_cell (blk_new w (.cells #[.int .i64 k, .string t, .string v] 70))
  have hbB := hb0.mono hBw
  obtain ⟨W, hW⟩ : ∃ W, W = w.alloc (.cells #[.int .i64 k, .string t, .string v] 70) := ⟨_, rfl⟩
  rw [← hW] at hb0 hO1 hxx hbB
  obtain ⟨kd, ky, tx, fu, had⟩ := o
  have hlk := run_had (P := Tryz.prog) Tryz.underlying110 Tryz.underlying9 W.drew (zeroBool _) (b := q.2) hO1.2.1 t
  have hcc : ∀ i, W.cell? ⟨q.1, i, none⟩ = #[.int .i64 kd, .bool ky, .bool tx, .bool fu, .map (some q.2)][i]? := blk_cell hO1.1
  have hcf := blk_frozen hO1.1
  cases hh : hasS t had
  · rw [hh] at hlk
    have hln := run_had_len (P := Tryz.prog) (ty := 3) Tryz.underlying110 W.drew (b := q.2) hO1.2.1
    by_cases h10 : 10 ≤ had.length
    · have HF := Lib.hid (show namedE ⟨kd, ky, tx, fu, had⟩ t = 7 by simp [namedE, hh, h10])
      go_enter Tryz.func95, Tryz.ntmps95
      go_upto_region 1 with (fail)
      rw [← hW]
      clear hW
      go_still_tail 6, (by kernel_rfl)
      change wpList _ _ _ _ _ W.drew
      go_wp2_with fail
      go_ret
      exact ⟨by rw [HF.out]; rfl, by rw [show namedO ⟨kd, ky, tx, fu, had⟩ k t = ⟨kd, ky, tx, fu, had⟩ by simp [namedO, HF.out]]; exact hO1.below (Below.refl _ _).drew, hbB.drew, fun g hg _ _ => hb0.block g hg⟩
    · have HF := Lib.hid (show namedE ⟨kd, ky, tx, fu, had⟩ t = 0 by simp [namedE, hh, h10])
      have HO := Lib.hid (show namedO ⟨kd, ky, tx, fu, had⟩ k t = ⟨kd, decide (k = 8), tx, fu, had ++ [t]⟩ by simp [namedO, HF.out])
      have h9 : (had.length : Int) < 10 := by omega
      obtain ⟨W1, hW1⟩ : ∃ W1, W1 = W.drew := ⟨_, rfl⟩
      have hO2 : OpsIn W1 B (⟨kd, ky, tx, fu, had⟩ :: os) (q :: qs) := by rw [hW1]; exact hO1.below (Below.refl _ _).drew
      have hxx1 : ∀ i, W1.cell? ⟨w.heap.size, i, none⟩ = #[.int .i64 k, .string t, .string v][i]? := fun i => by rw [hW1]; exact hxx i
      have hcc1 : ∀ i, W1.cell? ⟨q.1, i, none⟩ = #[.int .i64 kd, .bool ky, .bool tx, .bool fu, .map (some q.2)][i]? := fun i => by rw [hW1]; exact hcc i
      have hcf1 : ∀ i, W1.frozen? ⟨q.1, i, none⟩ = false := fun i => by rw [hW1]; exact hcf i
      have hbB1 : Below B w W1 := by rw [hW1]; exact hbB.drew
      have hoW1 : ∀ g : Nat, W1.heap[g]? = W.heap[g]? := fun g => by rw [hW1]; rfl
      have hpt := run_had_put (P := Tryz.prog) Tryz.underlying110 Tryz.underlying9 W1.drew (b := q.2) hO2.2.1 t hh
      obtain ⟨W2, hW2⟩ : ∃ W2, W2 = ChangeMaps.setBlock W1.drew q.2 (hadObj (had ++ [t])) := ⟨_, rfl⟩
      rw [← hW2] at hpt
      have h21 : q.1 ≠ q.2 := Ne.symm hO1.two
      have hk1 : W2.heap[q.1]? = some (.cells #[.int .i64 kd, .bool ky, .bool tx, .bool fu, .map (some q.2)] 112) := by rw [hW2]; exact blk_put_far (w := W1.drew) hO2.1 h21 _
      have hk2 : W2.heap[q.2]? = some (hadObj (had ++ [t])) := by rw [hW2]; exact blk_put (w := W1.drew) hO2.2.1 _
      have hbW : Below B w W2 := by rw [hW2]; exact below_put (hbB1.drew) hO1.2.2.2.1 _
      have hoW : ∀ g : Nat, g ≠ q.2 → W2.heap[g]? = W.heap[g]? := fun g hg => by
        rw [hW2, ← hoW1]
        show (W1.heap.setIfInBounds q.2 _)[g]? = _
        simp [Ne.symm hg]
      have hlW : w.heap.size ≠ q.2 := fun e => by
        have := hO.2.1
        have := blk_lt this
        omega
      have hxx2 : ∀ i, W2.cell? ⟨w.heap.size, i, none⟩ = #[.int .i64 k, .string t, .string v][i]? := fun i => by
        rw [← hxx i]; exact World.cell?_of_block (w := W) (hoW _ hlW)
      have hcc2 := blk_cell hk1
      have hcf2 := blk_frozen hk1
      clear hW2
      go_enter Tryz.func95, Tryz.ntmps95
      go_upto_region 1 with (fail)
      rw [← hW]
      clear hW
      go_still_tail 6, (by kernel_rfl)
      change wpList _ _ _ _ _ W.drew
      go_upto_region 5 with (fail)
      rw [← hW1]
      clear hW1 hcc hcf hxx hln hlk
      go_still_tail 6, (by kernel_rfl)
      change wpList _ _ _ _ _ W1.drew
      go_wp2_with fail
      go_ret
      refine ⟨by rw [HF.out]; rfl, ?_, hbW.setCell hO1.2.2.1 _, ?_⟩
      · rw [HO.out, ← bool_eq]
        refine hO1.top (blk_set hk1 1 _) (blk_far hk2 (p := ⟨q.1, 1, none⟩) (Ne.symm h21) _) fun g h1 h2 => ?_
        rw [Below.heap_setCell _ _ _ _ (by exact h1)]
        exact hoW g h2
      · intro g hg h1 h2
        rw [Below.heap_setCell _ _ _ _ (by exact h1), hoW g h2]
        exact hb0.block g hg
  · rw [hh] at hlk
    have HF := Lib.hid (show namedE ⟨kd, ky, tx, fu, had⟩ t = 6 by simp [namedE, hh])
    go_enter Tryz.func95, Tryz.ntmps95
    go_upto_region 1 with (fail)
    rw [← hW]
    clear hW
    go_still_tail 6, (by kernel_rfl)
    change wpList _ _ _ _ _ W.drew
    go_wp2_with fail
    go_ret
    exact ⟨by rw [HF.out]; rfl, by rw [show namedO ⟨kd, ky, tx, fu, had⟩ k t = ⟨kd, ky, tx, fu, had⟩ by simp [namedO, HF.out]]; exact hO1.below (Below.refl _ _).drew, hbB.drew, fun g hg _ _ => hb0.block g hg⟩
end Go.Proofs.YtngofdaciacglaaGreatDoor
