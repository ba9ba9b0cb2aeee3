/- Walks: names.Cut. -/
import Derived.Test.YtngofdaciacglaaGreatDoorSpace
import Derived.Lib.CutLaws
namespace Go.Proofs.YtngofdaciacglaaGreatDoor
open Go.RowKit Go.Lib

/-- Bytes as a text. -/
theorem size_bs (l : List UInt8) : (bs l).size = l.length := by show l.toArray.size = _; simp
theorem cut_len (l p : List UInt8) : (Lib.cut l p).1.length ≤ l.length ∧ (Lib.cut l p).2.1.length ≤ l.length := by
  unfold Lib.cut
  split
  · simp; omega
  · simp
/-- A full name's space and local name. -/
def cutS (s : ByteArray) : ByteArray × ByteArray × Bool :=
  if Lib.hasPrefix s.data.toList [123] then
    if (Lib.cut (s.data.toList.drop 1) [125]).2.2 && spaceS (bs (Lib.cut (s.data.toList.drop 1) [125]).1) && localB (Lib.cut (s.data.toList.drop 1) [125]).2.1 && decide (s.size ≤ 48) then
      (bs (Lib.cut (s.data.toList.drop 1) [125]).1, bs (Lib.cut (s.data.toList.drop 1) [125]).2.1, true)
    else (bs [], bs [], false)
  else if localB s.data.toList && decide (s.size ≤ 48) then (bs [], s, true) else (bs [], bs [], false)

set_option maxRecDepth 100000 in
set_option maxHeartbeats 1000000 in
theorem cut_calls (s : ByteArray) (w : World) (hG : Globs w) (hs : s.size ≤ 1048576) :
    Calls Tryz.prog 59 #[.string s] w fun e w' => e = .returned (.tuple #[.string (cutS s).1, .string (cutS s).2.1, .bool (cutS s).2.2]) ∧ Below w.heap.size w w' := by
  obtain ⟨m, hm⟩ := hG.maxLen
  cases hp : Lib.hasPrefix s.data.toList [123]
  · have hc0 : Calls Tryz.prog 96 #[.string s, .string ⟨#[123]⟩] w fun e w' => e = .returned (.tuple #[.string s, .bool false]) ∧ w = w' :=
      (Tryz.strings_CutPrefix s ⟨#[123]⟩ w).mono fun e w' ⟨he, hw⟩ => ⟨by
        rw [he, show (⟨#[123]⟩ : ByteArray).data.toList = [123] from rfl, hp]
        unfold Lib.trimPrefix; rw [hp]; simp, hw.symm⟩
    have hl0 := local_calls s w hs
    cases hl : localB s.data.toList
    all_goals
      rw [hl] at hl0
    · have HF := Lib.hid (show cutS s = (bs [], bs [], false) by simp [cutS, hp, hl])
      have H0 := Lib.hid hc0
      have H1 := Lib.hid hl0
      clear hc0 hl0 hp hl
      go_enter Tryz.func59, Tryz.ntmps59
      go_wp2_with fail
      refine H0.out.mono ?_
      rintro e w1 ⟨rfl, rfl⟩
      go_wp2_with fail
      refine H1.out.mono ?_
      rintro e w1 ⟨rfl, hb1⟩
      go_wp2_with fail
      go_ret3
      exact ⟨by rw [HF.out]; rfl, hb1⟩
    · by_cases h48 : s.size ≤ 48
      · have HF := Lib.hid (show cutS s = (bs [], s, true) by simp [cutS, hp, hl, h48])
        have H0 := Lib.hid hc0
        have H1 := Lib.hid hl0
        clear hc0 hl0 hp hl
        go_enter Tryz.func59, Tryz.ntmps59
        go_wp2_with fail
        refine H0.out.mono ?_
        rintro e w1 ⟨rfl, rfl⟩
        go_wp2_with fail
        refine H1.out.mono ?_
        rintro e w1 ⟨rfl, hb1⟩
        go_wp2_with fail
        go_ret3
        exact ⟨by rw [HF.out]; rfl, hb1⟩
      · have HF := Lib.hid (show cutS s = (bs [], bs [], false) by simp [cutS, hp, hl, h48])
        have H0 := Lib.hid hc0
        have H1 := Lib.hid hl0
        clear hc0 hl0 hp hl
        go_enter Tryz.func59, Tryz.ntmps59
        go_wp2_with fail
        refine H0.out.mono ?_
        rintro e w1 ⟨rfl, rfl⟩
        go_wp2_with fail
        refine H1.out.mono ?_
        rintro e w1 ⟨rfl, hb1⟩
        go_wp2_with fail
        go_ret3
        exact ⟨by rw [HF.out]; rfl, hb1⟩
  · obtain ⟨t, ht⟩ : ∃ t, t = bs (s.data.toList.drop 1) := ⟨_, rfl⟩
    have htl : t.data.toList = s.data.toList.drop 1 := by rw [ht]
    have hts : t.size ≤ 1048576 := by rw [ht, size_bs, List.length_drop, data_length]; omega
    have hc0 : Calls Tryz.prog 96 #[.string s, .string ⟨#[123]⟩] w fun e w' => e = .returned (.tuple #[.string t, .bool true]) ∧ w = w' :=
      (Tryz.strings_CutPrefix s ⟨#[123]⟩ w).mono fun e w' ⟨he, hw⟩ => ⟨by
        rw [he, show (⟨#[123]⟩ : ByteArray).data.toList = [123] from rfl, hp]
        unfold Lib.trimPrefix; rw [hp, ht]; simp, hw.symm⟩
    have hc1 := Tryz.strings_Cut t ⟨#[125]⟩ m w (by omega) hm
    rw [show (⟨#[125]⟩ : ByteArray).data.toList = [125] from rfl, htl] at hc1
    have hlen := cut_len (s.data.toList.drop 1) [125]
    have hF0 : cutS s = if (Lib.cut (s.data.toList.drop 1) [125]).2.2 && spaceS (bs (Lib.cut (s.data.toList.drop 1) [125]).1) && localB (Lib.cut (s.data.toList.drop 1) [125]).2.1 && decide (s.size ≤ 48) then
      (bs (Lib.cut (s.data.toList.drop 1) [125]).1, bs (Lib.cut (s.data.toList.drop 1) [125]).2.1, true) else (bs [], bs [], false) := by simp [cutS, hp]
    have hd : (s.data.toList.drop 1).length ≤ 1048576 := by rw [List.length_drop, data_length]; omega
    generalize Lib.cut (s.data.toList.drop 1) [125] = r at hc1 hlen hF0
    obtain ⟨sp, lo, cl⟩ := r
    simp only at hc1 hlen hF0
    have hsp : (bs sp).size ≤ 1048576 := by rw [size_bs]; omega
    have hlo : (bs lo).size ≤ 1048576 := by rw [size_bs]; omega
    have hS := fun W hG => space_calls (bs sp) W hG hsp
    have hL := fun W => local_calls (bs lo) W hlo
    rw [show (bs lo).data.toList = lo by simp] at hL
    have H0 := Lib.hid hc0
    have H1 := Lib.hid hc1
    have HS := Lib.hid hS
    have HL := Lib.hid hL
    have HF0 := Lib.hid hF0
    have HD := Lib.hid (And.intro hd hlen)
    clear hc0 hc1 hS hL hF0 hp htl hd hlen ht
    cases cl
    · go_enter Tryz.func59, Tryz.ntmps59
      go_wp2_with fail
      refine H0.out.mono ?_
      rintro e w1 ⟨rfl, rfl⟩
      go_wp2_with fail
      refine H1.out.mono ?_
      rintro e w1 ⟨rfl, n1, rfl⟩
      go_wp2_with fail
      go_ret3
      exact ⟨by rw [HF0.out]; rfl, drewN_below _ _⟩
    · cases hss : spaceS (bs sp)
      · have HSS := Lib.hid hss
        clear hss
        go_enter Tryz.func59, Tryz.ntmps59
        go_wp2_with fail
        refine H0.out.mono ?_
        rintro e w1 ⟨rfl, rfl⟩
        go_wp2_with fail
        refine H1.out.mono ?_
        rintro e w1 ⟨rfl, n1, rfl⟩
        go_wp2_with fail
        refine (HS.out _ (hG.drewN n1)).mono ?_
        rw [HSS.out]
        rintro e w2 ⟨rfl, hb2⟩
        go_wp2_with fail
        go_ret3
        exact ⟨by rw [HF0.out, HSS.out]; rfl, below_then (drewN_below w n1) (Nat.le_refl _) hb2⟩
      · have HSS := Lib.hid hss
        clear hss
        cases hll : localB lo
        · have HLL := Lib.hid hll
          clear hll
          go_enter Tryz.func59, Tryz.ntmps59
          go_wp2_with fail
          refine H0.out.mono ?_
          rintro e w1 ⟨rfl, rfl⟩
          go_wp2_with fail
          refine H1.out.mono ?_
          rintro e w1 ⟨rfl, n1, rfl⟩
          go_wp2_with fail
          refine (HS.out _ (hG.drewN n1)).mono ?_
          rw [HSS.out]
          rintro e w2 ⟨rfl, hb2⟩
          go_wp2_with fail
          refine (HL.out _).mono ?_
          rw [HLL.out]
          rintro e w3 ⟨rfl, hb3⟩
          have hb23 := below_then (drewN_below w n1) (Nat.le_refl _) hb2
          have hb33 := below_then hb23 hb23.size hb3
          go_wp2_with fail
          go_ret3
          exact ⟨by rw [HF0.out, HSS.out, HLL.out]; rfl, hb33⟩
        · have HLL := Lib.hid hll
          clear hll
          by_cases h48 : s.size ≤ 48
          all_goals
            go_enter Tryz.func59, Tryz.ntmps59
            go_wp2_with fail
            refine H0.out.mono ?_
            rintro e w1 ⟨rfl, rfl⟩
            go_wp2_with fail
            refine H1.out.mono ?_
            rintro e w1 ⟨rfl, n1, rfl⟩
            go_wp2_with fail
            refine (HS.out _ (hG.drewN n1)).mono ?_
            rw [HSS.out]
            rintro e w2 ⟨rfl, hb2⟩
            go_wp2_with fail
            refine (HL.out _).mono ?_
            rw [HLL.out]
            rintro e w3 ⟨rfl, hb3⟩
            have hb23 := below_then (drewN_below w n1) (Nat.le_refl _) hb2
            have hb33 := below_then hb23 hb23.size hb3
            go_wp2_with fail
            go_ret3
            exact ⟨by rw [HF0.out, HSS.out, HLL.out]; simp [h48], hb33⟩
end Go.Proofs.YtngofdaciacglaaGreatDoor
