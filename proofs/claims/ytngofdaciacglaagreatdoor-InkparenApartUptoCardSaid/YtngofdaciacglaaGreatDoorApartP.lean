/- Plain law: two trees have one text in the paren syntax just if they are the same. -/
import Derived.Test.YtngofdaciacglaaGreatDoorTree
import Derived.Test.YtngofdaciacglaaGreatDoorValid
import Derived.Test.YtngofdaciacglaaGreatDoorSame
namespace Go.Proofs.YtngofdaciacglaaGreatDoor
open Go.RowKit Go.Lib

theorem data_inj {a b : ByteArray} (h : a.data.toList = b.data.toList) : a = b := toList_inj (by rw [ByteArray.toList_eq, ByteArray.toList_eq, h])
theorem tl (a : ByteArray) : a.toList = a.data.toList := ByteArray.toList_eq ..

/-! quoted texts -/
theorem qB_apart : ((List.range 256).all fun a => (List.range 256).all fun b => a == b || !((qB a.toUInt8).isPrefixOf (qB b.toUInt8) || (qB b.toUInt8).isPrefixOf (qB a.toUInt8))) = true := by decide +kernel
theorem prefix_two {A B X Y : List UInt8} (h : A ++ X = B ++ Y) : (A.isPrefixOf B || B.isPrefixOf A) = true := by
  rw [Bool.or_eq_true, List.isPrefixOf_iff_prefix, List.isPrefixOf_iff_prefix]
  exact List.prefix_or_prefix_of_prefix (l₃ := A ++ X) (List.prefix_append _ _) (h ▸ List.prefix_append _ _)
theorem qB_inj {c d : UInt8} {X Y : List UInt8} (h : qB c ++ X = qB d ++ Y) : c = d ∧ X = Y := by
  have e : c = d := by
    have h1 := List.all_eq_true.1 qB_apart c.toNat (List.mem_range.2 c.toNat_lt)
    have h2 := List.all_eq_true.1 h1 d.toNat (List.mem_range.2 d.toNat_lt)
    have ec : c.toNat.toUInt8 = c := by simp
    have ed : d.toNat.toUInt8 = d := by simp
    rw [ec, ed, prefix_two h] at h2
    simp at h2
    exact UInt8.toNat_inj.1 h2
  subst e
  exact ⟨rfl, List.append_cancel_left h⟩
theorem qB_head (c : UInt8) : ∃ x s, qB c = x :: s ∧ x ≠ 34 := by
  unfold qB
  split; · exact ⟨_, _, rfl, by decide⟩
  split; · exact ⟨_, _, rfl, by decide⟩
  split; · exact ⟨_, _, rfl, by decide⟩
  split; · exact ⟨_, _, rfl, by decide⟩
  split; · exact ⟨_, _, rfl, by decide⟩
  rename_i h _ _ _ _
  exact ⟨_, _, rfl, fun e => h (.inl e)⟩
theorem flat_inj : ∀ (l m X Y : List UInt8), l.flatMap qB ++ 34 :: X = m.flatMap qB ++ 34 :: Y → l = m ∧ X = Y
  | [], [], X, Y, h => ⟨rfl, by simpa using h⟩
  | [], d :: m, X, Y, h => by
    obtain ⟨x, s, hq, hx⟩ := qB_head d
    simp only [List.flatMap_nil, List.nil_append, List.flatMap_cons, hq, List.cons_append, List.cons.injEq] at h
    exact absurd h.1.symm hx
  | c :: l, [], X, Y, h => by
    obtain ⟨x, s, hq, hx⟩ := qB_head c
    simp only [List.flatMap_nil, List.nil_append, List.flatMap_cons, hq, List.cons_append, List.cons.injEq] at h
    exact absurd h.1 hx
  | c :: l, d :: m, X, Y, h => by
    simp only [List.flatMap_cons, List.append_assoc] at h
    obtain ⟨rfl, h2⟩ := qB_inj h
    obtain ⟨rfl, h3⟩ := flat_inj l m X Y h2
    exact ⟨rfl, h3⟩
theorem quote_inj {l m X Y : List UInt8} (h : quoteL l ++ X = quoteL m ++ Y) : l = m ∧ X = Y := by
  unfold quoteL at h
  simp only [List.cons_append, List.cons.injEq, true_and, List.append_assoc, List.nil_append] at h
  exact flat_inj l m X Y h

/-! numbers -/
/-- A byte of a number. -/
def numC (b : UInt8) : Bool := (48 ≤ b && b ≤ 57) || b == 43 || b == 45 || b == 46 || b == 101 || b == 69
theorem stepN_at9 (c : Int) : stepN 9 c = 9 := by unfold stepN; simp
theorem stN_at9 (l : List UInt8) : l.foldl (fun s b => stepN s (b.toNat : Int)) 9 = 9 := by
  induction l with
  | nil => rfl
  | cons b l ih => rw [List.foldl_cons, stepN_at9]; exact ih
theorem stepN_char : ((List.range 256).all fun n => numC n.toUInt8 || (List.range 10).all fun s => stepN (s : Int) (n : Int) == 9) = true := by decide +kernel
theorem stepN_num {s : Int} (h0 : 0 ≤ s) (h9 : s ≤ 9) {b : UInt8} (h : stepN s (b.toNat : Int) ≠ 9) : numC b = true := by
  have h1 := List.all_eq_true.1 stepN_char b.toNat (List.mem_range.2 b.toNat_lt)
  have e : b.toNat.toUInt8 = b := by simp
  rw [e, Bool.or_eq_true] at h1
  rcases h1 with h1 | h1
  · exact h1
  · have h2 := List.all_eq_true.1 h1 s.toNat (List.mem_range.2 (by omega))
    have e2 : ((s.toNat : Nat) : Int) = s := by omega
    rw [e2] at h2
    exact absurd (by simpa using h2) h
theorem foldN_num : ∀ (l : List UInt8) (s : Int), 0 ≤ s → s ≤ 9 → l.foldl (fun s b => stepN s (b.toNat : Int)) s ≠ 9 → ∀ b ∈ l, numC b = true
  | [], _, _, _, _, b, hb => by cases hb
  | x :: l, s, h0, h9, h, b, hb => by
    rw [List.foldl_cons] at h
    have hx : stepN s (x.toNat : Int) ≠ 9 := fun e => by rw [e, stN_at9] at h; exact h rfl
    rcases List.mem_cons.1 hb with rfl | hb
    · exact stepN_num h0 h9 hx
    · have := stepN_bd s (x.toNat : Int)
      exact foldN_num l _ this.1 this.2 h b hb
theorem isNum_of {l r : List UInt8} (h : numNorm l = some r) : isNum l = true := by
  unfold numNorm numMay numRead at h
  cases hn : isNum l
  · simp [hn] at h
  · rfl
theorem num_chars {l : List UInt8} (h : isNum l = true) : (∀ b ∈ l, numC b = true) ∧ ∃ x s, l = x :: s ∧ (x = 45 ∨ (48 ≤ x ∧ x ≤ 57)) := by
  have h9 : stN l ≠ 9 := by
    intro e
    unfold isNum at h
    rw [e] at h
    revert h
    decide
  refine ⟨foldN_num l 0 (by omega) (by omega) h9, ?_⟩
  cases l with
  | nil => exact absurd h (by decide)
  | cons x s =>
    refine ⟨x, s, rfl, ?_⟩
    unfold stN at h9
    rw [List.foldl_cons] at h9
    have hx : stepN 0 (x.toNat : Int) ≠ 9 := fun e => by rw [e, stN_at9] at h9; exact h9 rfl
    have key : ((List.range 256).all fun n => (stepN 0 (n : Int) == 9) || decide (n.toUInt8 = 45 ∨ (48 ≤ n.toUInt8 ∧ n.toUInt8 ≤ 57))) = true := by decide +kernel
    have h1 := List.all_eq_true.1 key x.toNat (List.mem_range.2 x.toNat_lt)
    have e : x.toNat.toUInt8 = x := by simp
    rw [e, Bool.or_eq_true] at h1
    rcases h1 with h1 | h1
    · exact absurd (by simpa using h1) hx
    · exact of_decide_eq_true h1

/-- What may stand behind a text. -/
def Sep (r : List UInt8) : Prop := r = [] ∨ ∃ c s, r = c :: s ∧ (c = 32 ∨ c = 41)
theorem num_inj : ∀ {l m X Y : List UInt8}, (∀ b ∈ l, numC b = true) → (∀ b ∈ m, numC b = true) → Sep X → Sep Y → l ++ X = m ++ Y → l = m ∧ X = Y
  | [], [], X, Y, _, _, _, _, h => ⟨rfl, by simpa using h⟩
  | [], d :: m, X, Y, _, hm, hX, _, h => by
    exfalso
    have := hm d (List.mem_cons_self ..)
    rcases hX with rfl | ⟨c, s, rfl, hc⟩
    · cases h
    · simp only [List.nil_append, List.cons_append, List.cons.injEq] at h
      rw [← h.1] at this
      rcases hc with rfl | rfl <;> exact absurd this (by decide)
  | c :: l, [], X, Y, hl, _, _, hY, h => by
    exfalso
    have := hl c (List.mem_cons_self ..)
    rcases hY with rfl | ⟨d, s, rfl, hc⟩
    · cases h
    · simp only [List.nil_append, List.cons_append, List.cons.injEq] at h
      rw [h.1] at this
      rcases hc with rfl | rfl <;> exact absurd this (by decide)
  | c :: l, d :: m, X, Y, hl, hm, hX, hY, h => by
    simp only [List.cons_append, List.cons.injEq] at h
    obtain ⟨rfl, h⟩ := h
    obtain ⟨rfl, h2⟩ := num_inj (fun b hb => hl b (List.mem_cons_of_mem _ hb)) (fun b hb => hm b (List.mem_cons_of_mem _ hb)) hX hY h
    exact ⟨rfl, h2⟩
end Go.Proofs.YtngofdaciacglaaGreatDoor
