/- Plain words: a tree in the paren syntax. -/
import Derived.Test.YtngofdaciacglaaGreatDoorQuote
import Derived.Lib.Join
namespace Go.Proofs.YtngofdaciacglaaGreatDoor
open Go.RowKit Go.Lib

mutual
/-- A tree's text in the paren syntax. -/
def textP : Nd → List UInt8
  | ⟨k, t, v, ks⟩ =>
    if k = 1 then [35, 110] else if k = 2 then 35 :: t.data.toList.take 1 else if k = 4 then qT t.data.toList
    else if k = 5 then 40 :: (Lib.join (textPs ks) [32] ++ [41])
    else if k = 7 then 35 :: 40 :: (Lib.join (textPs ks) [32] ++ [41])
    else if k = 8 then qT t.data.toList ++ 32 :: ((textPs ks).headD [])
    else if k = 10 then 35 :: 60 :: (Lib.join (qT t.data.toList :: textPs ks) [32] ++ [41])
    else if k = 11 then 64 :: (qT t.data.toList ++ 32 :: qT v.data.toList)
    else t.data.toList
def textPs : List Nd → List (List UInt8)
  | [] => []
  | n :: ns => textP n :: textPs ns
end
theorem textPs_map : ∀ ks : List Nd, textPs ks = ks.map textP
  | [] => by unfold textPs; rfl
  | n :: ns => by unfold textPs; rw [textPs_map ns]; rfl

mutual
/-- More bytes than a text has. -/
def wt : Nd → Nat
  | ⟨_, t, _, ks⟩ => 600 + t.size + wtL ks
def wtL : List Nd → Nat
  | [] => 0
  | n :: ns => wt n + wtL ns
end
theorem wtL_mem {k : Nd} : ∀ {ks : List Nd}, k ∈ ks → wt k ≤ wtL ks
  | [], h => by cases h
  | n :: ns, h => by
    unfold wtL
    rcases List.mem_cons.1 h with e | h
    · rw [e]; omega
    · have := wtL_mem h; omega
theorem wtL_append (a b : List Nd) : wtL (a ++ b) = wtL a + wtL b := by
  induction a with
  | nil => simp [wtL]
  | cons n a ih => simp only [List.cons_append, wtL, ih]; omega
theorem qE_len {l : List UInt8} (h : qE l = 0) : l.length ≤ 48 := by
  unfold qE at h
  split at h
  · split at h
    · cases h
    · omega
  · cases h
theorem qT_len (l : List UInt8) : (qT l).length ≤ 290 := by
  unfold qT
  split
  · rename_i h
    have h1 := qE_len h
    have h2 := flat_len l
    unfold quoteL
    simp only [List.length_append, List.length_cons, List.length_nil]
    omega
  · simp
/-- The length of joined texts. -/
def sumL : List (List UInt8) → Nat
  | [] => 0
  | x :: xs => x.length + 1 + sumL xs
theorem join_cons (x : List UInt8) (xs : List (List UInt8)) (sep : List UInt8) : Lib.join (x :: xs) sep = if xs = [] then x else x ++ sep ++ Lib.join xs sep := by
  cases xs with
  | nil => simp [Lib.join, List.intercalate]
  | cons y ys => simp [Lib.join, List.intercalate, List.intersperse]
theorem join_len (xs : List (List UInt8)) : (Lib.join xs [32]).length ≤ sumL xs := by
  induction xs with
  | nil => simp [Lib.join, sumL]
  | cons x xs ih =>
    rw [join_cons]
    split
    · simp only [sumL]; omega
    · simp only [sumL, List.length_append, List.length_cons, List.length_nil]; omega
theorem sumL_append (a b : List (List UInt8)) : sumL (a ++ b) = sumL a + sumL b := by
  induction a with
  | nil => simp [sumL]
  | cons n a ih => simp only [List.cons_append, sumL, ih]; omega
mutual
theorem textP_len : ∀ n : Nd, (textP n).length + 1 ≤ wt n
  | ⟨k, t, v, ks⟩ => by
    have h1 := textPs_len ks
    have h2 := join_len (textPs ks)
    have h3 := qT_len t.data.toList
    have h4 := qT_len v.data.toList
    have h5 := data_length t
    have h6 := join_len (qT t.data.toList :: textPs ks)
    have h7 := List.length_take_le 1 t.data.toList
    have h8 : ((textPs ks).headD []).length ≤ sumL (textPs ks) := by
      cases textPs ks with
      | nil => simp
      | cons x xs => simp only [List.headD_cons, sumL]; omega
    unfold textP wt
    simp only [sumL] at h6
    split; · simp only [List.length_cons, List.length_nil]; omega
    split; · simp only [List.length_cons]; omega
    split; · omega
    split; · simp only [List.length_cons, List.length_append, List.length_nil]; omega
    split; · simp only [List.length_cons, List.length_append, List.length_nil]; omega
    split; · simp only [List.length_cons, List.length_append]; omega
    split; · simp only [List.length_cons, List.length_append, List.length_nil]; omega
    split; · simp only [List.length_cons, List.length_append]; omega
    omega
theorem textPs_len : ∀ ks : List Nd, sumL (textPs ks) ≤ wtL ks
  | [] => by simp [textPs, sumL, wtL]
  | n :: ns => by
    have h1 := textP_len n
    have h2 := textPs_len ns
    unfold textPs wtL
    simp only [sumL]
    omega
end

mutual
/-- What the code asks of a tree, for it must not panic. -/
def Fine : Nd → Prop
  | ⟨k, t, _, ks⟩ => (k = 2 → 1 ≤ t.size) ∧ (k = 8 → ks ≠ []) ∧ FineL ks
def FineL : List Nd → Prop
  | [] => True
  | n :: ns => Fine n ∧ FineL ns
end
theorem FineL.mem {k : Nd} : ∀ {ks : List Nd}, FineL ks → k ∈ ks → Fine k
  | [], _, h => by cases h
  | n :: ns, hf, h => by
    unfold FineL at hf
    rcases List.mem_cons.1 h with e | h
    · rw [e]; exact hf.1
    · exact FineL.mem hf.2 h
end Go.Proofs.YtngofdaciacglaaGreatDoor
