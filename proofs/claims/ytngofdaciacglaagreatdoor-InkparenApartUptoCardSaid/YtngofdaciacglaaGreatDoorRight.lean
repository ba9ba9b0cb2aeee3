/- Walks: events.right. -/
import Derived.Test.YtngofdaciacglaaGreatDoorNumForm
namespace Go.Proofs.YtngofdaciacglaaGreatDoor
open Go.RowKit Go.Lib

set_option maxRecDepth 100000 in
theorem full_calls (s : ByteArray) (w : World) (hG : Globs w) (hs : s.size ≤ 1048576) :
    Calls Tryz.prog 118 #[.string s] w fun e w' => e = .returned (.bool (cutS s).2.2) ∧ Below w.heap.size w w' := by
  have H := Lib.hid (cut_calls s w hG hs)
  go_enter Tryz.func118, Tryz.ntmps118
  go_wp2_with fail
  refine H.out.mono ?_
  rintro e w1 ⟨rfl, hb1⟩
  go_wp2_with fail
  go_ret
  exact ⟨rfl, hb1⟩

/-- May an event's Text and Val be? -/
def rightB (k : Int) (t v : ByteArray) : Bool :=
  if k = 1 ∨ k = 5 ∨ k = 6 ∨ k = 7 ∨ k = 9 ∨ k = 12 then decide (t.toList = []) && decide (v.toList = [])
  else if k = 2 then decide (v.toList = []) && (decide (t.toList = [116, 114, 117, 101]) || decide (t.toList = [102, 97, 108, 115, 101]))
  else if k = 3 then decide (v.toList = []) && decide (numNorm t.data.toList = some t.data.toList)
  else if k = 4 ∨ k = 8 then decide (v.toList = []) && mayB t.data.toList
  else if k = 10 then decide (v.toList = []) && (cutS t).2.2
  else if k = 11 then (cutS t).2.2 && mayB v.data.toList
  else false

set_option maxRecDepth 100000 in
set_option maxHeartbeats 2000000 in
theorem right_calls (k : Int) (t v : ByteArray) (w : World) (hG : Globs w) (ht : t.size ≤ 1048576) (hv : v.size ≤ 1048576) :
    Calls Tryz.prog 91 #[.agg #[.int .i64 k, .string t, .string v]] w fun e w' => e = .returned (.bool (rightB k t v)) ∧ Below w.heap.size w w' := by
  have hb0 := (Below.refl w.heap.size w).alloc (Nat.le_refl _)
  by_cases h1 : k = 1 ∨ k = 5 ∨ k = 6 ∨ k = 7 ∨ k = 9 ∨ k = 12
  · have HF := Lib.hid (show rightB k t v = (decide (t.toList = []) && decide (v.toList = [])) by simp [rightB, h1])
    rcases h1 with rfl | rfl | rfl | rfl | rfl | rfl
    all_goals
      go_enter Tryz.func91, Tryz.ntmps91
      go_wp2_with fail
      all_goals go_ret
      all_goals go_light
      all_goals exact ⟨ret_bool (by rw [HF.out]; simp [*]), hb0 _⟩
  by_cases h2 : k = 2
  · have HF := Lib.hid (show rightB k t v = (decide (v.toList = []) && (decide (t.toList = [116, 114, 117, 101]) || decide (t.toList = [102, 97, 108, 115, 101]))) by simp [rightB, h2])
    subst h2
    clear h1
    go_enter Tryz.func91, Tryz.ntmps91
    go_wp2_with fail
    all_goals go_ret
    all_goals go_light
    all_goals exact ⟨ret_bool (by rw [HF.out, Bool.eq_iff_iff]; simp [*]), hb0 _⟩
  by_cases h3 : k = 3
  · have HF := Lib.hid (show rightB k t v = (decide (v.toList = []) && decide (numNorm t.data.toList = some t.data.toList)) by simp [rightB, h3])
    subst h3
    clear h1 h2
    have hr := fun W hG => nread_calls t W hG ht
    cases hn : numNorm t.data.toList with
    | none =>
      rw [hn] at hr HF
      have HR := Lib.hid hr
      clear hr hn
      by_cases hv0 : v.toList = []
      all_goals
        go_enter Tryz.func91, Tryz.ntmps91
        go_wp2_with fail
        refine (HR.out _ (hG.below (hb0 _))).mono ?_
        rintro e w1 ⟨rfl, hb1⟩
        have hc := bcell hb1
        obtain ⟨hc, hf⟩ := hc
        have hb1 := below_then (hb0 _) (by simp) hb1
        unfold errO
        go_wp2_with fail
        all_goals go_ret
        all_goals go_light
        all_goals exact ⟨ret_bool (by rw [HF.out]; simp), hb1⟩
    | some l =>
      rw [hn] at hr HF
      have HR := Lib.hid hr
      have hl : (bs l).data.toList = l := by simp
      clear hr hn
      by_cases hv0 : v.toList = []
      · go_enter Tryz.func91, Tryz.ntmps91
        go_wp2_with fail
        refine (HR.out _ (hG.below (hb0 _))).mono ?_
        rintro e w1 ⟨rfl, hb1⟩
        have hc := bcell hb1
        obtain ⟨hc, hf⟩ := hc
        have hb1 := below_then (hb0 _) (by simp) hb1
        unfold errO
        go_wp2_with fail
        all_goals go_ret
        all_goals go_light
        all_goals exact ⟨ret_bool (by rw [HF.out, Bool.eq_iff_iff]; simp [hv0, ByteArray.toList_eq]), hb1⟩
      · go_enter Tryz.func91, Tryz.ntmps91
        go_wp2_with fail
        refine (HR.out _ (hG.below (hb0 _))).mono ?_
        rintro e w1 ⟨rfl, hb1⟩
        have hc := bcell hb1
        obtain ⟨hc, hf⟩ := hc
        have hb1 := below_then (hb0 _) (by simp) hb1
        unfold errO
        go_wp2_with fail
        all_goals go_ret
        all_goals go_light
        all_goals exact ⟨ret_bool (by rw [HF.out]; simp [hv0]), hb1⟩
  have hm := fun W hG => evmay_calls t W hG ht
  have hmv := fun W hG => evmay_calls v W hG hv
  have hful := fun W hG => full_calls t W hG ht
  by_cases h4 : k = 4 ∨ k = 8
  · have HF := Lib.hid (show rightB k t v = (decide (v.toList = []) && mayB t.data.toList) by rcases h4 with rfl | rfl <;> simp [rightB])
    have HM := Lib.hid hm
    clear h1 h2 h3 hm hmv hful
    rcases h4 with rfl | rfl
    all_goals
      by_cases hv0 : v.toList = []
      · go_enter Tryz.func91, Tryz.ntmps91
        go_wp2_with fail
        refine (HM.out _ (hG.below (hb0 _))).mono ?_
        rintro e w1 ⟨rfl, hb1⟩
        have hb1 := below_then (hb0 _) (by simp) hb1
        go_wp2_with fail
        go_ret
        go_light
        exact ⟨ret_bool (by rw [HF.out]; simp [hv0]), hb1⟩
      · go_enter Tryz.func91, Tryz.ntmps91
        go_wp2_with fail
        go_ret
        go_light
        exact ⟨ret_bool (by rw [HF.out]; simp [hv0]), hb0 _⟩
  by_cases h10 : k = 10
  · have HF := Lib.hid (show rightB k t v = (decide (v.toList = []) && (cutS t).2.2) by simp [rightB, h10])
    have HM := Lib.hid hful
    subst h10
    clear h1 h2 h3 h4 hm hmv hful
    by_cases hv0 : v.toList = []
    · go_enter Tryz.func91, Tryz.ntmps91
      go_wp2_with fail
      refine (HM.out _ (hG.below (hb0 _))).mono ?_
      rintro e w1 ⟨rfl, hb1⟩
      have hb1 := below_then (hb0 _) (by simp) hb1
      go_wp2_with fail
      go_ret
      go_light
      exact ⟨ret_bool (by rw [HF.out]; simp [hv0]), hb1⟩
    · go_enter Tryz.func91, Tryz.ntmps91
      go_wp2_with fail
      go_ret
      go_light
      exact ⟨ret_bool (by rw [HF.out]; simp [hv0]), hb0 _⟩
  by_cases h11 : k = 11
  · have HF := Lib.hid (show rightB k t v = ((cutS t).2.2 && mayB v.data.toList) by simp [rightB, h11])
    have HM := Lib.hid hmv
    subst h11
    clear h1 h2 h3 h4 h10 hm hmv
    cases hft : (cutS t).2.2
    all_goals
      rw [hft] at hful HF
      have HL := Lib.hid hful
      clear hful hft
      go_enter Tryz.func91, Tryz.ntmps91
      go_wp2_with fail
      refine (HL.out _ (hG.below (hb0 _))).mono ?_
      rintro e w1 ⟨rfl, hb1⟩
      have hc := bcell hb1
      obtain ⟨hc, hf⟩ := hc
      have hb1 := below_then (hb0 _) (by simp) hb1
      go_wp2_with fail
    · go_ret
      go_light
      exact ⟨ret_bool (by rw [HF.out]; rfl), hb1⟩
    · refine (HM.out _ (hG.below hb1)).mono ?_
      rintro e w2 ⟨rfl, hb2⟩
      have hb2 := below_then hb1 hb1.size hb2
      go_wp2_with fail
      go_ret
      go_light
      exact ⟨ret_bool (by rw [HF.out]; rfl), hb2⟩
  have HF := Lib.hid (show rightB k t v = false by simp [rightB, h1, h2, h3, h4, h10, h11])
  simp only [not_or] at h1 h4
  obtain ⟨a1, a5, a6, a7, a9, a12⟩ := h1
  obtain ⟨a4, a8⟩ := h4
  have b1 : (k == 1) = false := by simpa using a1
  have b2 : (k == 2) = false := by simpa using h2
  have b3 : (k == 3) = false := by simpa using h3
  have b4 : (k == 4) = false := by simpa using a4
  have b5 : (k == 5) = false := by simpa using a5
  have b6 : (k == 6) = false := by simpa using a6
  have b7 : (k == 7) = false := by simpa using a7
  have b8 : (k == 8) = false := by simpa using a8
  have b9 : (k == 9) = false := by simpa using a9
  have b10 : (k == 10) = false := by simpa using h10
  have b11 : (k == 11) = false := by simpa using h11
  have b12 : (k == 12) = false := by simpa using a12
  clear a1 a5 a6 a7 a9 a12 a4 a8 h2 h3 h10 h11 hm hmv hful
  go_enter Tryz.func91, Tryz.ntmps91
  go_wp2_with fail
  go_ret
  go_light
  exact ⟨ret_bool (by rw [HF.out]), hb0 _⟩
end Go.Proofs.YtngofdaciacglaaGreatDoor
