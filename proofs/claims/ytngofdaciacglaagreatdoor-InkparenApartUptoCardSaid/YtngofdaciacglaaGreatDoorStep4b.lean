/- Walks: events.Check.Step: ends. -/
import Derived.Test.YtngofdaciacglaaGreatDoorStep3
namespace Go.Proofs.YtngofdaciacglaaGreatDoor
open Go.RowKit Go.Lib

theorem beq_no {a b : Int} (h : ¬ a = b) : (a == b) = false := by simpa using h
theorem own_cap {w : World} {base n size g cap : Nat} {e : TypeId} {xs : List Value} (h : w.ownsRow base e size (.slice (some ⟨g, 0, none⟩) n cap) n xs) : n ≤ cap := by
  rcases h.2 with ⟨h0, _⟩ | ⟨g', cap', cur, hv, _, _, hn, _⟩
  · cases h0
  · cases hv; exact hn
section
variable {P : Program}
theorem run_iput {t kt et : TypeId} (hm : P.underlying t = some (.map kt et)) (hk : P.underlying kt = some (.int .i64)) (w : World) {b : Nat} {es : Array MapEntry} {c : Nat} (hb : w.heap[b]? = some (.map es c)) (k : Int) (v : Value)
    (hf : Instr.findNow (.int .i64) (.int .i64 k) es.toList 0 = some none) :
    (Instr.mapUpdate t (.map (some b)) (.int .i64 k) v).run P w = .ok () (ChangeMaps.setBlock w b (.map (es.push { key := .int .i64 k, val := v, born := c }) (c + 1))) := by
  have hc : (Instr.checkKey false 10000 kt (.int .i64 k)).run P w = .ok () w := MapKept.run_checkKey (k := .int .i64 k) hk (by simp [MapKept.IsKey]) _ 9999
  have hg := MapKept.run_findKey (w := w) hk hf
  simp [Instr.mapUpdate, run_underlying hm, MapKept.run_getObj_map hb, hc, hg, MapKept.run_setObj_map _ hb, Result.andThen, ChangeMaps.setBlock]
theorem run_iput_ex {t kt et : TypeId} (hm : P.underlying t = some (.map kt et)) (hk : P.underlying kt = some (.int .i64)) (w : World) {b : Nat} {es : Array MapEntry} {c : Nat} (hb : w.heap[b]? = some (.map es c)) (k : Int) (v : Value)
    (hf : Instr.findNow (.int .i64) (.int .i64 k) es.toList 0 = some none) :
    ∃ w', (Instr.mapUpdate t (.map (some b)) (.int .i64 k) v).run P w = .ok () w' ∧ w'.heap[b]? = some (.map (es.push { key := .int .i64 k, val := v, born := c }) (c + 1)) ∧ ∀ B a, B ≤ b → Below B a w → Below B a w' :=
  ⟨_, run_iput hm hk w hb k v hf, blk_put hb _, fun _ _ hB h => below_put h hB _⟩
theorem run_iget {t kt et : TypeId} (hm : P.underlying t = some (.map kt et)) (hk : P.underlying kt = some (.int .i64)) (w : World) {b : Nat} {es : Array MapEntry} {c : Nat} (hb : w.heap[b]? = some (.map es c)) (k : Int) (v : Value) (n : Nat)
    (hf : Instr.findNow (.int .i64) (.int .i64 k) es.toList 0 = some (some (n, v))) :
    (Instr.lookup t (.map (some b)) (.int .i64 k) false).run P w = .ok v w := by
  have hc : (Instr.checkKey es.isEmpty 10000 kt (.int .i64 k)).run P w = .ok () w := MapKept.run_checkKey (k := .int .i64 k) hk (by simp [MapKept.IsKey]) _ 9999
  have hg := MapKept.run_findKey (w := w) hk hf
  simp [Instr.lookup, run_underlying hm, MapKept.run_getObj_map hb, hc, hg, Result.andThen]
end
/-- The ends' map. -/
abbrev endsEs : Array MapEntry := #[{ key := .int .i64 6, val := .int .i64 5, born := 0 }, { key := .int .i64 9, val := .int .i64 7, born := 1 }, { key := .int .i64 12, val := .int .i64 10, born := 2 }]
/-- It is made so. -/
theorem ends_made (W : World) : ∃ W2 W3 W4, (Instr.mapUpdate 113 (.map (some W.heap.size)) (.int .i64 6) (.int .i64 5)).run Tryz.prog (W.alloc (.map #[] 0)) = .ok () W2 ∧
    (Instr.mapUpdate 113 (.map (some W.heap.size)) (.int .i64 9) (.int .i64 7)).run Tryz.prog W2 = .ok () W3 ∧ (Instr.mapUpdate 113 (.map (some W.heap.size)) (.int .i64 12) (.int .i64 10)).run Tryz.prog W3 = .ok () W4 ∧
    Below W.heap.size W W4 ∧ ∀ k n v, Instr.findNow (.int .i64) (.int .i64 k) endsEs.toList 0 = some (some (n, v)) → (Instr.lookup 113 (.map (some W.heap.size)) (.int .i64 k) false).run Tryz.prog W4.drew = .ok v W4.drew := by
  have b1 := (Below.refl W.heap.size W).alloc (Nat.le_refl _) (.map #[] 0)
  obtain ⟨W2, e1, h2, b2⟩ := run_iput_ex (P := Tryz.prog) Tryz.underlying113 Tryz.underlying3 _ (blk_new W (.map #[] 0)) 6 (.int .i64 5) rfl
  obtain ⟨W3, e2, h3, b3⟩ := run_iput_ex (P := Tryz.prog) Tryz.underlying113 Tryz.underlying3 _ h2 9 (.int .i64 7) rfl
  obtain ⟨W4, e3, h4, b4⟩ := run_iput_ex (P := Tryz.prog) Tryz.underlying113 Tryz.underlying3 _ h3 12 (.int .i64 10) rfl
  have h5 : W4.drew.heap[W.heap.size]? = some (.map endsEs 3) := h4
  exact ⟨_, _, _, e1, e2, e3, b4 _ _ (Nat.le_refl _) (b3 _ _ (Nat.le_refl _) (b2 _ _ (Nat.le_refl _) b1)), fun k n v hf => run_iget (P := Tryz.prog) Tryz.underlying113 Tryz.underlying3 _ h5 k v n hf⟩

set_option maxRecDepth 100000 in
set_option maxHeartbeats 1000000 in
theorem step_end_off (k : Int) (hk : k = 6 ∨ k = 9 ∨ k = 12) (t v : ByteArray) (B c : Nat) (kd : Int) (ky tx fu : Bool) (had : List ByteArray) (os : List Opn) (over : Bool) (q : Nat × Nat) (qs : List (Nat × Nat)) (g cp : Nat) (w : World) (hG : Globs w)
    (hC : Chk w B c (⟨kd, ky, tx, fu, had⟩ :: os) over (q :: qs) (.slice (some ⟨g, 0, none⟩) (q :: qs).length cp)) (hkd : ¬ kd = endsOf k) (hkk : kd = 5 ∨ kd = 7 ∨ kd = 10) (hq : (q :: qs).length ≤ 1048576) (ht : t.size ≤ 1048576) (hv : v.size ≤ 1048576) (hBw : B ≤ w.heap.size) (hr : rightB k t v = true) :
    Calls Tryz.prog 56 #[.pointer (some ⟨c, 0, none⟩), .agg #[.int .i64 k, .string t, .string v]] w (StepPost B c w (stepS (⟨kd, ky, tx, fu, had⟩ :: os) over k t v)) := by
  have hb0 := (Below.refl w.heap.size w).alloc (Nat.le_refl _) (.cells #[.int .i64 k, .string t, .string v] 70)
  have HR := right_calls k t v _ (hG.below hb0) ht hv
  rw [hr] at HR
  have HR := Lib.hid HR
  have hxx := blk_new w (.cells #[.int .i64 k, .string t, .string v] 70)
  have hC0 := hC.below hb0
  have hL := fun W hc hr => last_calls c over (q :: qs) (.slice (some ⟨g, 0, none⟩) (q :: qs).length cp) B W hc hr hq
  have hmk : ∀ W, (Instr.makeMap 113 none).run Tryz.prog W = .ok (.map (some W.heap.size)) (W.alloc (.map #[] 0)) := fun W => rfl
  simp only [topV] at hL
  have HL := Lib.hid hL
  have HF := Lib.hid (show stepS (⟨kd, ky, tx, fu, had⟩ :: os) over k t v = (19, ⟨kd, ky, tx, fu, had⟩ :: os, over) by
    rcases hk with rfl | rfl | rfl <;> (simp only [stepS, hr]; simp [hkd]))
  clear hL
  clear hr hC
  have hcs : (k = 6 ∧ kd = 7) ∨ (k = 6 ∧ kd = 10) ∨ (k = 9 ∧ kd = 5) ∨ (k = 9 ∧ kd = 10) ∨ (k = 12 ∧ kd = 5) ∨ (k = 12 ∧ kd = 7) := by
    unfold endsOf at hkd
    rcases hk with rfl | rfl | rfl <;> rcases hkk with rfl | rfl | rfl <;> simp at hkd ⊢
  clear hk hkd hkk
  rcases hcs with ⟨rfl, rfl⟩ | ⟨rfl, rfl⟩ | ⟨rfl, rfl⟩ | ⟨rfl, rfl⟩ | ⟨rfl, rfl⟩ | ⟨rfl, rfl⟩
  all_goals
    go_enter Tryz.func56, Tryz.ntmps56
    go_wp2_with fail
    refine HR.out.mono ?_
    rintro e w1 ⟨rfl, hb1⟩
    have hC1 := hC0.below hb1
    have hxx1 := blk_below hxx hb1
    have hb1 := below_then hb0 hb0.size hb1
    go_wp2_with fail
    refine (HL.out _ hC1.at_ hC1.row).mono ?_
    rintro e w2 ⟨rfl, n, hw2⟩
    have hh : w2.heap = w1.heap := by rw [hw2]; rfl
    have hxx2 := hxx1
    rw [← hh] at hxx2
    have hb2 : Below w.heap.size w w2 := by rw [hw2]; exact Go.below_drewN hb1 n
    have hcx := blk_cell hxx2
    obtain ⟨W2, W3, W4, m1, m2, m3, mb, mlk⟩ := ends_made w2
    have hcx4 := blk_cell (blk_below hxx2 mb)
    have hb4 := below_then hb2 hb2.size mb
    have hC2 := hC1.below (show Below w1.heap.size w1 w2 by rw [hw2]; exact drewN_below _ n)
    have hC4 := hC2.below mb
    have hct := blk_cell hC4.ops.1
    clear hw2 hb1 hxx1 hC1 hh hC2
    go_upto_region 5 with (fail)
    clear HL HR hC0 hb0 hxx hG
    go_upto_region 6 with (fail)
    have l6 := mlk 6 0 (.int .i64 5) rfl
    have l9 := mlk 9 1 (.int .i64 7) rfl
    have l12 := mlk 12 2 (.int .i64 10) rfl
    go_region
    go_wp2_with fail
    go_ret
    exact ⟨by rw [HF.out]; rfl, (hb4.mono hBw).drew, KeepS.below hb4.drew, fun h => by rw [HF.out] at h; cases h⟩
end Go.Proofs.YtngofdaciacglaaGreatDoor
