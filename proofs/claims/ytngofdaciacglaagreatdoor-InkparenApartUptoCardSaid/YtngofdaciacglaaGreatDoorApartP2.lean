/- Plain law: two trees have one text in the paren syntax just if they are the same: the trees. -/
import Derived.Test.YtngofdaciacglaaGreatDoorApartP
import Derived.Test.YtngofdaciacglaaGreatDoorText
namespace Go.Proofs.YtngofdaciacglaaGreatDoor
open Go.RowKit Go.Lib

theorem right_none {k : Int} {t v : ByteArray} (h : rightB k t v = true) (hk : k = 1 ∨ k = 5 ∨ k = 7) : t.data.toList = [] ∧ v.data.toList = [] := by
  unfold rightB at h
  rw [if_pos (by omega)] at h
  simpa [tl] using h
theorem right_val {k : Int} {t v : ByteArray} (h : rightB k t v = true) (hk : k = 1 ∨ k = 2 ∨ k = 3 ∨ k = 4 ∨ k = 5 ∨ k = 7 ∨ k = 8 ∨ k = 10) : v.data.toList = [] := by
  unfold rightB at h
  split at h
  · exact (by simpa [tl] using h : _ ∧ _).2
  split at h
  · exact (by simpa [tl] using h : _ ∧ _).1
  split at h
  · exact (by simpa [tl] using h : _ ∧ _).1
  split at h
  · exact (by simpa [tl] using h : _ ∧ _).1
  split at h
  · exact (by simpa [tl] using h : _ ∧ _).1
  · omega
theorem right_bool {t v : ByteArray} (h : rightB 2 t v = true) : t.data.toList = [116, 114, 117, 101] ∨ t.data.toList = [102, 97, 108, 115, 101] := by
  have := right_two h
  rwa [tl] at this
theorem right_num {t v : ByteArray} (h : rightB 3 t v = true) : numNorm t.data.toList = some t.data.toList := by
  unfold rightB at h
  simp at h
  exact h.2
theorem right_text {k : Int} {t v : ByteArray} (h : rightB k t v = true) (hk : k = 4 ∨ k = 8) : mayB t.data.toList = true := by
  unfold rightB at h
  rw [if_neg (by omega), if_neg (by omega), if_neg (by omega), if_pos hk, Bool.and_eq_true] at h
  exact h.2
theorem right_name {k : Int} {t v : ByteArray} (h : rightB k t v = true) (hk : k = 10 ∨ k = 11) : (cutS t).2.2 = true := by
  unfold rightB at h
  rw [if_neg (by omega), if_neg (by omega), if_neg (by omega), if_neg (by omega)] at h
  rcases hk with rfl | rfl
  · rw [if_pos rfl, Bool.and_eq_true] at h; exact h.2
  · rw [if_neg (by omega), if_pos rfl, Bool.and_eq_true] at h; exact h.1
theorem right_attr {t v : ByteArray} (h : rightB 11 t v = true) : mayB v.data.toList = true := by
  unfold rightB at h
  rw [if_neg (by omega), if_neg (by omega), if_neg (by omega), if_neg (by omega), if_neg (by omega), if_pos rfl, Bool.and_eq_true] at h
  exact h.2

/-- The kind of what begins a text. -/
def tagP (c : Nat) : List UInt8 → Int
  | 35 :: 110 :: _ => 1
  | 35 :: 116 :: _ => 2
  | 35 :: 102 :: _ => 2
  | 35 :: 40 :: _ => 7
  | 35 :: 60 :: _ => 10
  | 34 :: _ => if c = 1 then 8 else 4
  | 40 :: _ => 5
  | 64 :: _ => 11
  | _ => 3
theorem ok_kinds {c : Nat} {k : Int} {t v : ByteArray} {ks : List Nd} (h : Ok c ⟨k, t, v, ks⟩) : k = 1 ∨ k = 2 ∨ k = 3 ∨ k = 4 ∨ k = 5 ∨ k = 7 ∨ k = 8 ∨ k = 10 ∨ k = 11 := by
  unfold Ok at h
  obtain ⟨-, h2, -⟩ := h
  by_cases h1 : k = 1 ∨ k = 2 ∨ k = 3 ∨ k = 4 ∨ k = 11
  · omega
  by_cases h8 : k = 8
  · omega
  have := odd_else h2 (by omega) (by omega) (by omega) (by omega) (by omega) h8
  omega
theorem qT_cons {l : List UInt8} (h : qT l = quoteL l) : ∃ s, qT l = 34 :: s := ⟨_, h⟩
theorem tag_text {c : Nat} {k : Int} {t v : ByteArray} {ks : List Nd} (hc2 : c ≤ 2) (h : Ok c ⟨k, t, v, ks⟩) (r : List UInt8) : tagP c (textP ⟨k, t, v, ks⟩ ++ r) = k ∧ ∃ x s, textP ⟨k, t, v, ks⟩ = x :: s ∧ x ≠ 41 ∧ x ≠ 32 := by
  have hk := ok_kinds h
  unfold Ok at h
  obtain ⟨hr, -, h0, h1, h2, -⟩ := h
  rcases hk with rfl | rfl | rfl | rfl | rfl | rfl | rfl | rfl | rfl
  · rw [textP_1 rfl]; exact ⟨rfl, _, _, rfl, by decide, by decide⟩
  · rw [textP_2 rfl]
    rcases right_bool hr with e | e <;> rw [e] <;> exact ⟨rfl, _, _, rfl, by decide, by decide⟩
  · rw [textP_0 (by decide) (by decide) (by decide) (by decide) (by decide) (by decide) (by decide) (by decide)]
    obtain ⟨-, x, s, e, hx⟩ := num_chars (isNum_of (right_num hr))
    rw [e]
    have hne : x ≠ 35 ∧ x ≠ 34 ∧ x ≠ 40 ∧ x ≠ 64 ∧ x ≠ 41 ∧ x ≠ 32 := by
      rcases hx with rfl | ⟨a, b⟩
      · decide
      · refine ⟨?_, ?_, ?_, ?_, ?_, ?_⟩ <;> (rintro rfl; revert a b; decide)
    refine ⟨?_, _, _, rfl, hne.2.2.2.2.1, hne.2.2.2.2.2⟩
    rw [List.cons_append]
    unfold tagP
    split <;> simp_all
  · rw [textP_4 rfl]
    obtain ⟨s, e⟩ := qT_cons (qT_may (right_text hr (.inl rfl)))
    rw [e]
    refine ⟨?_, _, _, rfl, by decide, by decide⟩
    have hc : c ≠ 1 := fun e => by have := h1 e; omega
    simp [tagP, hc]
  · rw [textP_5 rfl]; exact ⟨rfl, _, _, rfl, by decide, by decide⟩
  · rw [textP_7 rfl]; exact ⟨rfl, _, _, rfl, by decide, by decide⟩
  · rw [textP_8 rfl]
    obtain ⟨s, e⟩ := qT_cons (qT_may (right_text hr (.inr rfl)))
    rw [e]
    refine ⟨?_, _, _, rfl, by decide, by decide⟩
    have hc : c = 1 := by
      have a0 : c ≠ 0 := fun e => (h0 e).1 rfl
      have a2 : c ≠ 2 := fun e => by have := h2 e; omega
      omega
    simp [tagP, hc]
  · rw [textP_10 rfl]; exact ⟨rfl, _, _, rfl, by decide, by decide⟩
  · rw [textP_11 rfl]; exact ⟨rfl, _, _, rfl, by decide, by decide⟩

/-- What stands behind a text in a row of texts. -/
theorem sep_close (r : List UInt8) : Sep (41 :: r) := .inr ⟨41, r, rfl, .inr rfl⟩
theorem sep_blank (r : List UInt8) : Sep (32 :: r) := .inr ⟨32, r, rfl, .inl rfl⟩

/-- A node's text tells the node. -/
def Tells (n : Nd) : Prop := ∀ (c : Nat) (b : Nd) (r s : List UInt8), c ≤ 2 → Ok c n → Ok c b → Sep r → Sep s → textP n ++ r = textP b ++ s → n = b ∧ r = s
theorem row_tells : ∀ (ks : List Nd), (∀ k ∈ ks, Tells k) → ∀ (c : Nat) (bs : List Nd) (r s : List UInt8), c ≤ 2 → OkL c ks → OkL c bs →
    Lib.join (textPs ks) [32] ++ 41 :: r = Lib.join (textPs bs) [32] ++ 41 :: s → ks = bs ∧ r = s
  | [], _, c, [], r, s, _, _, _, h => by
    refine ⟨rfl, ?_⟩
    simpa [textPs, Lib.join] using h
  | [], _, c, b :: bs, r, s, hc, _, hb, h => by
    exfalso
    unfold OkL at hb
    obtain ⟨k, t, v, kb⟩ := b
    obtain ⟨x, q, e, hx, -⟩ := (tag_text hc hb.1 []).2
    simp only [textPs] at h
    rw [join_cons, e] at h
    simp only [Lib.join, List.intercalate, List.intersperse, List.flatten_nil, List.nil_append] at h
    split at h
    · simp only [List.cons_append, List.cons.injEq] at h; exact hx h.1.symm
    · simp only [List.cons_append, List.cons.injEq] at h; exact hx h.1.symm
  | n :: ns, _, c, [], r, s, hc, hn, _, h => by
    exfalso
    unfold OkL at hn
    obtain ⟨k, t, v, kb⟩ := n
    obtain ⟨x, q, e, hx, -⟩ := (tag_text hc hn.1 []).2
    simp only [textPs] at h
    rw [join_cons, e] at h
    simp only [Lib.join, List.intercalate, List.intersperse, List.flatten_nil, List.nil_append] at h
    split at h
    · simp only [List.cons_append, List.cons.injEq] at h; exact hx h.1
    · simp only [List.cons_append, List.cons.injEq] at h; exact hx h.1
  | n :: ns, ih, c, b :: bs, r, s, hc, hn, hb, h => by
    unfold OkL at hn hb
    simp only [textPs] at h
    rw [join_cons, join_cons] at h
    have hform : ∀ (y : List UInt8) (xs : List (List UInt8)) (q : List UInt8), (if xs = [] then y else y ++ [32] ++ Lib.join xs [32]) ++ 41 :: q = y ++ (if xs = [] then 41 :: q else 32 :: (Lib.join xs [32] ++ 41 :: q)) := by
      intro y xs q
      split <;> simp
    rw [hform, hform] at h
    have hsep : ∀ (xs : List (List UInt8)) (q : List UInt8), Sep (if xs = [] then 41 :: q else 32 :: (Lib.join xs [32] ++ 41 :: q)) := by
      intro xs q
      split
      · exact sep_close q
      · exact sep_blank _
    obtain ⟨rfl, h2⟩ := ih n (List.mem_cons_self ..) c b _ _ hc hn.1 hb.1 (hsep _ _) (hsep _ _) h
    by_cases e1 : textPs ns = [] <;> by_cases e2 : textPs bs = []
    · rw [if_pos e1, if_pos e2] at h2
      have z1 : ns = [] := by cases ns with | nil => rfl | cons x y => simp [textPs] at e1
      have z2 : bs = [] := by cases bs with | nil => rfl | cons x y => simp [textPs] at e2
      subst z1 z2
      exact ⟨rfl, by simpa using h2⟩
    · rw [if_pos e1, if_neg e2] at h2
      simp at h2
    · rw [if_neg e1, if_pos e2] at h2
      simp at h2
    · rw [if_neg e1, if_neg e2] at h2
      simp only [List.cons.injEq, true_and] at h2
      obtain ⟨rfl, h3⟩ := row_tells ns (fun k hk => ih k (List.mem_cons_of_mem _ hk)) c bs r s hc hn.2 hb.2 h2
      exact ⟨rfl, h3⟩

theorem ctxK_le (k : Int) : ctxK k ≤ 2 := by unfold ctxK; split; · decide
                                             split <;> decide
theorem nd_eq {k : Int} {t t' v v' : ByteArray} {ks ks' : List Nd} (h1 : t.data.toList = t'.data.toList) (h2 : v.data.toList = v'.data.toList) (h3 : ks = ks') : (⟨k, t, v, ks⟩ : Nd) = ⟨k, t', v', ks'⟩ := by
  rw [data_inj h1, data_inj h2, h3]
theorem tells : ∀ n : Nd, Tells n := by
  refine Nd.ind ?_
  rintro ⟨k, t, v, ks⟩ ih c ⟨k', t', v', ks'⟩ r s hc hn hb hr hs h
  have hk : k = k' := by
    have e1 := (tag_text hc hn r).1
    have e2 := (tag_text hc hb s).1
    rw [h, e2] at e1
    exact e1.symm
  subst hk
  have hkk := ok_kinds hn
  unfold Ok at hn hb
  obtain ⟨hr1, ho1, -, -, -, hL1⟩ := hn
  obtain ⟨hr2, ho2, -, -, -, hL2⟩ := hb
  have leaf : ∀ {ks : List Nd}, oddB k ks.length = false → (k = 1 ∨ k = 2 ∨ k = 3 ∨ k = 4 ∨ k = 11) → ks = [] := fun h hk => List.eq_nil_of_length_eq_zero (odd_leaf h hk)
  rcases hkk with rfl | rfl | rfl | rfl | rfl | rfl | rfl | rfl | rfl
  · rw [textP_1 rfl, textP_1 rfl] at h
    have a := right_none hr1 (.inl rfl)
    have b := right_none hr2 (.inl rfl)
    exact ⟨nd_eq (a.1.trans b.1.symm) (a.2.trans b.2.symm) ((leaf ho1 (by omega)).trans (leaf ho2 (by omega)).symm), by simpa using h⟩
  · rw [textP_2 rfl, textP_2 rfl] at h
    have a := right_val hr1 (by omega)
    have b := right_val hr2 (by omega)
    have hks := (leaf ho1 (by omega)).trans (leaf ho2 (by omega)).symm
    rcases right_bool hr1 with e1 | e1 <;> rcases right_bool hr2 with e2 | e2
    · rw [e1, e2] at h; exact ⟨nd_eq (e1.trans e2.symm) (a.trans b.symm) hks, by simpa using h⟩
    · rw [e1, e2] at h; simp at h
    · rw [e1, e2] at h; simp at h
    · rw [e1, e2] at h; exact ⟨nd_eq (e1.trans e2.symm) (a.trans b.symm) hks, by simpa using h⟩
  · rw [textP_0 (by decide) (by decide) (by decide) (by decide) (by decide) (by decide) (by decide) (by decide), textP_0 (by decide) (by decide) (by decide) (by decide) (by decide) (by decide) (by decide) (by decide)] at h
    obtain ⟨e, hrs⟩ := num_inj (num_chars (isNum_of (right_num hr1))).1 (num_chars (isNum_of (right_num hr2))).1 hr hs h
    exact ⟨nd_eq e ((right_val hr1 (by omega)).trans (right_val hr2 (by omega)).symm) ((leaf ho1 (by omega)).trans (leaf ho2 (by omega)).symm), hrs⟩
  · rw [textP_4 rfl, textP_4 rfl, qT_may (right_text hr1 (.inl rfl)), qT_may (right_text hr2 (.inl rfl))] at h
    obtain ⟨e, hrs⟩ := quote_inj h
    exact ⟨nd_eq e ((right_val hr1 (by omega)).trans (right_val hr2 (by omega)).symm) ((leaf ho1 (by omega)).trans (leaf ho2 (by omega)).symm), hrs⟩
  · rw [textP_5 rfl, textP_5 rfl] at h
    simp only [List.cons_append, List.cons.injEq, true_and, List.append_assoc, List.nil_append] at h
    obtain ⟨e, hrs⟩ := row_tells ks ih _ ks' r s (ctxK_le 5) hL1 hL2 h
    have a := right_none hr1 (.inr (.inl rfl))
    have b := right_none hr2 (.inr (.inl rfl))
    exact ⟨nd_eq (a.1.trans b.1.symm) (a.2.trans b.2.symm) e, hrs⟩
  · rw [textP_7 rfl, textP_7 rfl] at h
    simp only [List.cons_append, List.cons.injEq, true_and, List.append_assoc, List.nil_append] at h
    obtain ⟨e, hrs⟩ := row_tells ks ih _ ks' r s (ctxK_le 7) hL1 hL2 h
    have a := right_none hr1 (.inr (.inr rfl))
    have b := right_none hr2 (.inr (.inr rfl))
    exact ⟨nd_eq (a.1.trans b.1.symm) (a.2.trans b.2.symm) e, hrs⟩
  · have l1 := odd_key ho1
    have l2 := odd_key ho2
    match ks, l1 with
    | [x], _ =>
    match ks', l2 with
    | [y], _ =>
    rw [textP_8 rfl, textP_8 rfl, qT_may (right_text hr1 (.inr rfl)), qT_may (right_text hr2 (.inr rfl))] at h
    simp only [List.append_assoc] at h
    obtain ⟨e, h2⟩ := quote_inj h
    simp only [textPs, List.headD_cons, List.cons_append, List.cons.injEq, true_and] at h2
    unfold OkL at hL1 hL2
    obtain ⟨e2, hrs⟩ := ih x (List.mem_cons_self ..) _ y r s (ctxK_le 8) hL1.1 hL2.1 hr hs h2
    exact ⟨nd_eq e ((right_val hr1 (by omega)).trans (right_val hr2 (by omega)).symm) (by rw [e2]), hrs⟩
  · rw [textP_10 rfl, textP_10 rfl, qT_name (right_name hr1 (.inl rfl)), qT_name (right_name hr2 (.inl rfl))] at h
    simp only [List.cons_append, List.cons.injEq, true_and, List.append_assoc, List.nil_append] at h
    rw [join_cons, join_cons] at h
    have hform : ∀ (y : List UInt8) (xs : List (List UInt8)) (q : List UInt8), (if xs = [] then y else y ++ [32] ++ Lib.join xs [32]) ++ 41 :: q = y ++ (if xs = [] then 41 :: q else 32 :: (Lib.join xs [32] ++ 41 :: q)) := by
      intro y xs q
      split <;> simp
    rw [hform, hform] at h
    obtain ⟨e, h2⟩ := quote_inj h
    have hv := (right_val hr1 (by omega)).trans (right_val hr2 (by omega)).symm
    by_cases e1 : textPs ks = [] <;> by_cases e2 : textPs ks' = []
    · rw [if_pos e1, if_pos e2] at h2
      have z1 : ks = [] := by cases ks with | nil => rfl | cons x y => simp [textPs] at e1
      have z2 : ks' = [] := by cases ks' with | nil => rfl | cons x y => simp [textPs] at e2
      exact ⟨nd_eq e hv (z1.trans z2.symm), by simpa using h2⟩
    · rw [if_pos e1, if_neg e2] at h2
      simp at h2
    · rw [if_neg e1, if_pos e2] at h2
      simp at h2
    · rw [if_neg e1, if_neg e2] at h2
      simp only [List.cons.injEq, true_and] at h2
      obtain ⟨e3, hrs⟩ := row_tells ks ih _ ks' r s (ctxK_le 10) hL1 hL2 h2
      exact ⟨nd_eq e hv e3, hrs⟩
  · rw [textP_11 rfl, textP_11 rfl, qT_name (right_name hr1 (.inr rfl)), qT_name (right_name hr2 (.inr rfl)), qT_may (right_attr hr1), qT_may (right_attr hr2)] at h
    simp only [List.cons_append, List.cons.injEq, true_and, List.append_assoc] at h
    obtain ⟨e, h2⟩ := quote_inj h
    simp only [List.cons.injEq, true_and] at h2
    obtain ⟨e2, hrs⟩ := quote_inj h2
    exact ⟨nd_eq e e2 ((leaf ho1 (by omega)).trans (leaf ho2 (by omega)).symm), hrs⟩

mutual
theorem same_eq : ∀ (a b : Nd), sameNd a b = true → a = b
  | ⟨k, t, v, ks⟩, ⟨k', t', v', ks'⟩, h => by
    unfold sameNd at h
    simp only [Bool.and_eq_true, beq_iff_eq] at h
    obtain ⟨⟨⟨⟨rfl, h2⟩, h3⟩, h4⟩, h5⟩ := h
    rw [toList_inj h2, toList_inj h3, sameL_eq ks ks' h4 h5]
theorem sameL_eq : ∀ (xs ys : List Nd), xs.length = ys.length → sameL xs ys = true → xs = ys
  | [], [], _, _ => rfl
  | [], _ :: _, h, _ => by simp at h
  | _ :: _, [], h, _ => by simp at h
  | a :: xs, b :: ys, h, hs => by
    unfold sameL at hs
    rw [Bool.and_eq_true] at hs
    rw [same_eq a b hs.1, sameL_eq xs ys (by simpa using h) hs.2]
end
/-- Two trees' texts are one just if the trees are the same. -/
theorem print_apart {a b : Nd} (ha : mayE a = 0) (hb : mayE b = 0) (hs : ∀ n : Nd, sameNd n n = true) : (bs (textP a) = bs (textP b)) ↔ sameNd a b = true := by
  constructor
  · intro h
    have h2 : textP a = textP b := by have := congrArg (fun x => x.data.toList) h; simpa using this
    have := (tells a 0 b [] [] (by omega) (ok_of_may ha) (ok_of_may hb) (.inl rfl) (.inl rfl) (by simp [h2])).1
    rw [this]; exact hs b
  · intro h
    rw [same_eq a b h]
end Go.Proofs.YtngofdaciacglaaGreatDoor
