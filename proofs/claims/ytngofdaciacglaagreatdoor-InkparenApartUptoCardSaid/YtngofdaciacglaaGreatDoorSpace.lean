/- Walks: names.Space. -/
import Derived.Test.YtngofdaciacglaaGreatDoorRunes
import Derived.Test.YtngofdaciacglaaGreatDoorLocal
import Derived.Deep.Light
namespace Go.Proofs.YtngofdaciacglaaGreatDoor
open Go.RowKit Go.Lib

def setL : List UInt8 := [123, 125, 34, 60, 62, 38, 92]
/-- May a character not stand in a space? -/
def oddR (x : Nat) : Bool := decide (x < 33) || (decide (x < 128) && setL.contains x.toUInt8)

theorem indexByte_nonneg (l : List UInt8) (c : UInt8) : 0 ≤ Lib.indexByte l c ↔ l.contains c = true := by
  induction l with
  | nil => simp [Lib.indexByte]
  | cons b l ih =>
    have hg := Lib.indexByte_ge l c
    unfold Lib.indexByte
    by_cases hb : (b == c) = true
    · have : c = b := by simpa using (beq_iff_eq.1 hb).symm
      rw [if_pos hb]; simp [this]
    · rw [if_neg hb]
      have hne : ¬ c = b := fun h => hb (by simp [h])
      by_cases hm : (Lib.indexByte l c == -1) = true
      · rw [if_pos hm]
        have hm' : Lib.indexByte l c = -1 := by simpa using hm
        rw [hm'] at ih
        simp [hne] at ih ⊢
        exact ih
      · rw [if_neg hm]
        have hm' : ¬ Lib.indexByte l c = -1 := by simpa using hm
        have : l.contains c = true := ih.1 (by omega)
        simp at this
        simp [this]
        omega
set_option maxRecDepth 100000 in
theorem and127 : ∀ x : Fin 128, (bits .and .i32 ((x.val : Nat) : Int) 127 % 256).toNat.toUInt8 = x.val.toUInt8 := by decide
set_option maxRecDepth 100000 in
theorem odd_calls (x : Nat) (hx : x ≤ 1114111) (w : World) :
    Calls Tryz.prog 123 #[.int .i32 (x : Int)] w fun e w' => e = .returned (.bool (oddR x)) ∧ Below w.heap.size w w' := by
  by_cases h : x < 33
  · go_enter Tryz.func123, Tryz.ntmps123
    go_wp2_with fail
    go_ret
    exact ⟨ret_bool (by simp [oddR, h]), Below.refl _ _⟩
  · obtain ⟨c, hc⟩ : ∃ c : Int, c = bits .and .i32 (x : Int) 127 % 256 := ⟨_, rfl⟩
    have hcx : x < 128 → c.toNat.toUInt8 = x.toUInt8 := fun h8 => by rw [hc]; exact and127 ⟨x, h8⟩
    have Hcx := Lib.hid hcx
    obtain ⟨i, hi⟩ : ∃ i, i = Lib.indexByte setL c.toNat.toUInt8 := ⟨_, rfl⟩
    have hix : 0 ≤ i ↔ setL.contains c.toNat.toUInt8 = true := by rw [hi]; exact indexByte_nonneg _ _
    have HI := Lib.hid hi
    have HX := Lib.hid hix
    have HC := Lib.hid hc
    clear hcx hi hix hc
    have HF : Hid (oddR x = (decide (x < 128) && decide (0 ≤ i))) := by
      show _ = _
      unfold oddR
      by_cases h8 : x < 128
      · have a1 := HX.out
        rw [Hcx.out h8] at a1
        rw [Bool.eq_iff_iff]
        simp only [h, h8, decide_true, decide_false, Bool.false_or, Bool.true_and, decide_eq_true_eq]
        exact a1.symm
      · simp [h, h8]
    by_cases h0 : 0 ≤ i
    all_goals
      go_enter Tryz.func123, Tryz.ntmps123
      go_wp2_with fail
      rw [← HC.out]
      refine (Tryz.strings_IndexByte _ _ _).mono ?_
      rintro e w1 ⟨rfl, rfl⟩
      rw [show (⟨#[123, 125, 34, 60, 62, 38, 92]⟩ : ByteArray).data.toList = setL from rfl, ← HI.out]
      go_wp2_with fail
      go_ret
      exact ⟨ret_bool (by go_light; rw [HF.out, Bool.eq_iff_iff]; simp; omega), Below.refl _ _⟩

/-- Is a text a space? -/
def spaceS (s : ByteArray) : Bool := Lib.validD s.data.toList && !s.toList.isEmpty && decide (s.size ≤ 48) && !decide (0 ≤ Lib.idxFunc oddR true s)
theorem odd_pays (w : World) : PredGrows Tryz.prog 123 #[] oddR w := fun W x hx _ => odd_calls x hx W

set_option maxRecDepth 100000 in
theorem space_calls (s : ByteArray) (w : World) (hG : Globs w) (hs : s.size ≤ 1048576) :
    Calls Tryz.prog 98 #[.string s] w fun e w' => e = .returned (.bool (spaceS s)) ∧ Below w.heap.size w w' := by
  have hr := runes_calls s w hG hs
  by_cases hv : Lib.validD s.data.toList = true
  case neg =>
    have hv' : Lib.validD s.data.toList = false := by simpa using hv
    have HF := Lib.hid (show spaceS s = false by simp [spaceS, hv'])
    rw [hv'] at hr
    have Hr := Lib.hid hr
    clear hr hv hv'
    go_enter Tryz.func98, Tryz.ntmps98
    go_wp2_with fail
    refine Hr.out.mono ?_
    rintro e w1 ⟨⟨A, n, c, rfl⟩, hb1⟩
    go_wp2_with fail
    go_ret
    exact ⟨ret_bool HF.out.symm, hb1⟩
  rw [hv] at hr
  have Hr := Lib.hid hr
  clear hr
  by_cases he : s.size = 0
  · have hne : s.toList = [] := List.eq_nil_of_length_eq_zero (by rw [size_toList]; exact he)
    have HF := Lib.hid (show spaceS s = false by simp [spaceS, hne])
    clear hv he
    go_enter Tryz.func98, Tryz.ntmps98
    go_wp2_with fail
    refine Hr.out.mono ?_
    rintro e w1 ⟨⟨A, n, c, rfl⟩, hb1⟩
    go_wp2_with fail
    go_ret
    exact ⟨ret_bool HF.out.symm, hb1⟩
  have hne : ¬ s.toList = [] := by intro h; have := size_toList s; rw [h] at this; simp at this; omega
  have hne2 : s.toList.isEmpty = false := by simpa using hne
  by_cases h48 : 48 < s.size
  · have HF := Lib.hid (show spaceS s = false by simp [spaceS]; omega)
    clear hv he
    go_enter Tryz.func98, Tryz.ntmps98
    go_wp2_with fail
    refine Hr.out.mono ?_
    rintro e w1 ⟨⟨A, n, c, rfl⟩, hb1⟩
    go_wp2_with fail
    go_ret
    exact ⟨ret_bool HF.out.symm, hb1⟩
  have HF := Lib.hid (show spaceS s = !decide (0 ≤ Lib.idxFunc oddR true s) by simp [spaceS, hv, hne2]; omega)
  obtain ⟨i, hi⟩ : ∃ i, i = Lib.idxFunc oddR true s := ⟨_, rfl⟩
  rw [← hi] at HF
  have HI := Lib.hid hi
  clear hv he hi
  go_enter Tryz.func98, Tryz.ntmps98
  go_wp2_with fail
  refine Hr.out.mono ?_
  rintro e w1 ⟨⟨A, n, c, rfl⟩, hb1⟩
  go_wp2_with fail
  refine (Tryz.strings_ContainsFunc_grows 123 #[] (enters_of Tryz.func123 (by kernel_rfl) rfl) oddR s _ (odd_pays _)).mono ?_
  rintro e w2 ⟨rfl, hb2⟩
  rw [← HI.out]
  go_wp2_with fail
  go_ret
  exact ⟨ret_bool HF.out.symm, below_then hb1 hb1.size hb2⟩
end Go.Proofs.YtngofdaciacglaaGreatDoor
