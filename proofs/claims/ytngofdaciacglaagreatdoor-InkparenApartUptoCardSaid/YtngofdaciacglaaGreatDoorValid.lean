/- Plain law: whole characters, one text behind another; names are of whole characters. -/
import Derived.Test.YtngofdaciacglaaGreatDoorInkL
import Derived.Test.YtngofdaciacglaaGreatDoorCut
import Derived.Lib.ValidLaws
namespace Go.Proofs.YtngofdaciacglaaGreatDoor
open Go.RowKit Go.Lib

theorem checkN_grow {n m b1 b2 b3 c1 c2 c3 sz lo hi k : Nat} (hm : n ≤ m) (h1 : 1 < n → c1 = b1) (h2 : 2 < n → c2 = b2) (h3 : 3 < n → c3 = b3) (h : checkN n b1 b2 b3 sz lo hi = some k) : checkN m c1 c2 c3 sz lo hi = some k ∧ k ≤ n ∧ 1 ≤ k := by
  unfold checkN at h ⊢
  split at h
  · rename_i e
    rw [if_pos e]
    split at h
    · cases h
    · rename_i hc
      have := h1 (by omega)
      cases h
      rw [if_neg (by omega)]
      exact ⟨rfl, by omega, by omega⟩
  · rename_i e
    rw [if_neg e]
    split at h
    · rename_i e2
      rw [if_pos e2]
      split at h
      · cases h
      · rename_i hc
        have := h1 (by omega)
        have := h2 (by omega)
        cases h
        rw [if_neg (by omega)]
        exact ⟨rfl, by omega, by omega⟩
    · rename_i e2
      rw [if_neg e2]
      split at h
      · rename_i e3
        rw [if_pos e3]
        split at h
        · cases h
        · rename_i hc
          have := h1 (by omega)
          have := h2 (by omega)
          have := h3 (by omega)
          cases h
          rw [if_neg (by omega)]
          exact ⟨rfl, by omega, by omega⟩
      · cases h
theorem getD_app {l r : List UInt8} {i : Nat} (h : i < l.length) : (l ++ r).getD i 0 = l.getD i 0 := by
  simp only [List.getD_eq_getElem?_getD]
  rw [List.getElem?_append_left h]
theorem validD_append : ∀ (n : Nat) (l r : List UInt8), l.length ≤ n → validD l = true → validD (l ++ r) = validD r := by
  intro n
  induction n with
  | zero =>
    intro l r hl _
    have : l = [] := List.eq_nil_of_length_eq_zero (by omega)
    rw [this]; rfl
  | succ n ih =>
    intro l r hl h
    cases l with
    | nil => rfl
    | cons b t =>
      by_cases hb : b.toNat < 128
      · rw [validD_cons b t hb] at h
        rw [List.cons_append, validD_cons b _ hb]
        exact ih t r (by simpa using hl) h
      · have hne : b :: t ≠ [] := by simp
        have hb0 : 128 ≤ ((b :: t).getD 0 0).toNat := by simp; omega
        have e0 : (b :: t ++ r).getD 0 0 = (b :: t).getD 0 0 := getD_app (by simp)
        rw [validD_lead _ hne hb0] at h
        rw [validD_lead (b :: t ++ r) (by simp) (by rw [e0]; exact hb0), e0]
        cases hc : checkN (b :: t).length ((b :: t).getD 1 0).toNat ((b :: t).getD 2 0).toNat ((b :: t).getD 3 0).toNat (firstT ((b :: t).getD 0 0).toNat % 8) (accLo (firstT ((b :: t).getD 0 0).toNat / 16)) (accHi (firstT ((b :: t).getD 0 0).toNat / 16)) with
        | none => rw [hc] at h; cases h
        | some k =>
          rw [hc] at h
          obtain ⟨h1, h2, h3⟩ := checkN_grow (m := (b :: t ++ r).length) (c1 := ((b :: t ++ r).getD 1 0).toNat) (c2 := ((b :: t ++ r).getD 2 0).toNat) (c3 := ((b :: t ++ r).getD 3 0).toNat) (by simp)
            (fun hh => by rw [getD_app hh]) (fun hh => by rw [getD_app hh]) (fun hh => by rw [getD_app hh]) hc
          rw [h1]
          show validD ((b :: t ++ r).drop k) = validD r
          rw [List.drop_append_of_le_length h2]
          exact ih _ r (by rw [List.length_drop]; omega) h
theorem valid_two {l r : List UInt8} (h : validD l = true) : validD (l ++ r) = validD r := validD_append l.length l r (Nat.le_refl _) h
theorem valid_ascii : ∀ {l : List UInt8}, (∀ b ∈ l, b.toNat < 128) → validD l = true
  | [], _ => rfl
  | b :: t, h => by rw [validD_cons b t (h b (List.mem_cons_self ..))]; exact valid_ascii fun c hc => h c (List.mem_cons_of_mem _ hc)

/-! names -/
theorem index_at (c : UInt8) : ∀ l : List UInt8, 0 ≤ Lib.index l [c] → l = l.take (Lib.index l [c]).toNat ++ c :: l.drop ((Lib.index l [c]).toNat + 1)
  | [], h => by simp [Lib.index] at h
  | b :: l, h => by
    unfold Lib.index at h ⊢
    by_cases hb : c = b
    · subst hb; simp
    · have hp : ([c] : List UInt8).isPrefixOf (b :: l) = false := by simp [List.isPrefixOf, hb]
      rw [hp] at h ⊢
      simp only [Bool.false_eq_true, if_false] at h ⊢
      by_cases h1 : (Lib.index l [c] == -1) = true
      · rw [if_pos h1] at h; omega
      · rw [if_neg h1] at h ⊢
        have hg := Lib.index_ge l [c]
        have h0 : 0 ≤ Lib.index l [c] := by
          have : Lib.index l [c] ≠ -1 := fun e => h1 (by rw [e]; rfl)
          omega
        have ih := index_at c l h0
        have e : (Lib.index l [c] + 1).toNat = (Lib.index l [c]).toNat + 1 := by omega
        rw [e, List.take_succ_cons, List.drop_succ_cons, List.cons_append]
        rw [← ih]
theorem cut_at {l : List UInt8} {c : UInt8} (h : (Lib.cut l [c]).2.2 = true) : l = (Lib.cut l [c]).1 ++ c :: (Lib.cut l [c]).2.1 := by
  unfold Lib.cut at h ⊢
  split at h
  · rename_i h0
    rw [if_pos h0]
    exact index_at c l h0
  · cases h
theorem letter_ascii : ((List.range 256).all fun n => !(letterB n.toUInt8 || moreB n.toUInt8) || decide (n < 128)) = true := by decide +kernel
theorem name_ascii {b : UInt8} (h : (letterB b || moreB b) = true) : b.toNat < 128 := by
  have := List.all_eq_true.1 letter_ascii b.toNat (List.mem_range.2 b.toNat_lt)
  have e : b.toNat.toUInt8 = b := by simp
  rw [e, h] at this
  simpa using this
theorem localGo_ascii : ∀ (l : List UInt8) (f : Bool), localGo f l = true → ∀ b ∈ l, b.toNat < 128
  | [], _, _, b, hb => by cases hb
  | x :: l, f, h, b, hb => by
    unfold localGo at h
    rw [Bool.and_eq_true] at h
    rcases List.mem_cons.1 hb with rfl | hb
    · refine name_ascii ?_
      have := h.1
      cases hl : letterB b
      · rw [hl] at this; simp at this; simp [this.2]
      · rfl
    · exact localGo_ascii l false h.2 b hb
theorem local_ascii {l : List UInt8} (h : localB l = true) : ∀ b ∈ l, b.toNat < 128 := by
  unfold localB at h
  rw [Bool.and_eq_true] at h
  exact localGo_ascii l true h.2
/-- A full name is of whole characters, and short. -/
theorem name_valid {t : ByteArray} (h : (cutS t).2.2 = true) : validD t.data.toList = true ∧ t.size ≤ 48 := by
  unfold cutS at h
  split at h
  · rename_i hp
    split at h
    · rename_i hc
      simp only [Bool.and_eq_true, decide_eq_true_eq] at hc
      obtain ⟨⟨⟨h1, h2⟩, h3⟩, h4⟩ := hc
      refine ⟨?_, h4⟩
      have hl : t.data.toList = 123 :: t.data.toList.drop 1 := by
        unfold Lib.hasPrefix at hp
        cases hd : t.data.toList with
        | nil => rw [hd] at hp; simp at hp
        | cons x r => rw [hd] at hp; simp at hp; simp [hp]
      rw [hl, cut_at h1, validD_cons 123 _ (by decide)]
      have hsp : validD (Lib.cut (t.data.toList.drop 1) [125]).1 = true := by
        unfold spaceS at h2
        simp only [Bool.and_eq_true] at h2
        exact h2.1.1.1
      rw [valid_two hsp, validD_cons 125 _ (by decide)]
      exact valid_ascii (local_ascii h3)
    · cases h
  · split at h
    · rename_i hc
      simp only [Bool.and_eq_true, decide_eq_true_eq] at hc
      exact ⟨valid_ascii (local_ascii hc.1), hc.2⟩
    · cases h
theorem qE_of {l : List UInt8} (h : validD l = true) (hl : l.length ≤ 48) : qE l = 0 := by
  unfold qE
  rw [if_pos h, if_neg (by omega)]
theorem qT_of {l : List UInt8} (h : validD l = true) (hl : l.length ≤ 48) : qT l = quoteL l := if_pos (qE_of h hl)
theorem qT_may {l : List UInt8} (h : mayB l = true) : qT l = quoteL l := by
  unfold mayB at h
  rw [Bool.and_eq_true] at h
  exact qT_of h.1 (of_decide_eq_true h.2)
theorem qT_name {t : ByteArray} (h : (cutS t).2.2 = true) : qT t.data.toList = quoteL t.data.toList := by
  have := name_valid h
  exact qT_of this.1 (by rw [data_length]; exact this.2)
end Go.Proofs.YtngofdaciacglaaGreatDoor
