/- Plain law: what a tree is asked for by the code, of those that May lets pass; how great a tree of few nodes is. -/
import Derived.Test.YtngofdaciacglaaGreatDoorInkL
import Derived.Test.YtngofdaciacglaaGreatDoorWalk
import Derived.Test.YtngofdaciacglaaGreatDoorFew
namespace Go.Proofs.YtngofdaciacglaaGreatDoor
open Go.RowKit Go.Lib

theorem stepS_right {stk : List Opn} {ov : Bool} {k : Int} {t v : ByteArray} (h : (stepS stk ov k t v).1 = 0) : rightB k t v = true := by
  unfold stepS at h
  cases hr : rightB k t v
  · rw [if_pos hr] at h; cases h
  · rfl
theorem runS_right : ∀ (es : List Ev) (stk : List Opn) (ov : Bool), (runS stk ov es).1 = 0 → ∀ e ∈ es, rightB e.1 e.2.1 e.2.2 = true
  | [], _, _, _, e, he => by cases he
  | x :: es, stk, ov, h, e, he => by
    unfold runS at h
    split at h
    · rename_i h0
      rcases List.mem_cons.1 he with rfl | he
      · exact stepS_right h0
      · exact runS_right es _ _ h e he
    · rename_i h0; exact absurd h h0
theorem mayE_run {n : Nd} (h : mayE n = 0) : (runS [] false (evs n)).1 = 0 ∧ (runS [] false (evs n)).2.2 = true ∧ (runS [] false (evs n)).2.1 = [] := by
  unfold mayE at h
  split at h
  · rename_i h0
    refine ⟨h0, ?_⟩
    split at h
    · rename_i h1
      simp only [Bool.and_eq_true, List.isEmpty_iff] at h1
      exact h1
    · cases h
  · rename_i h0; exact absurd h h0
theorem right_zero : rightB 0 (bs []) (bs []) = false := by unfold rightB; rfl
theorem right_two {t v : ByteArray} (h : rightB 2 t v = true) : t.toList = [116, 114, 117, 101] ∨ t.toList = [102, 97, 108, 115, 101] := by
  unfold rightB at h
  simpa using (by simpa using h : _ ∧ _).2
mutual
theorem fine_of_right : ∀ n : Nd, (∀ e ∈ evs n, rightB e.1 e.2.1 e.2.2 = true) → Fine n
  | ⟨k, t, v, ks⟩, h => by
    unfold evs at h
    split at h
    · have := h _ (List.mem_singleton.2 rfl); rw [right_zero] at this; cases this
    · rename_i ho
      unfold Fine
      refine ⟨fun e => ?_, fun e => ?_, fineL_of_right ks fun e he => h e (List.mem_cons_of_mem _ (List.mem_append_left _ he))⟩
      · subst e
        have := h _ (List.mem_cons_self ..)
        rcases right_two this with h1 | h1
        · have := size_toList t; rw [h1] at this; simp at this; omega
        · have := size_toList t; rw [h1] at this; simp at this; omega
      · subst e
        intro hn
        subst hn
        exact ho (by simp [oddB])
theorem fineL_of_right : ∀ ks : List Nd, (∀ e ∈ evsL ks, rightB e.1 e.2.1 e.2.2 = true) → FineL ks
  | [], _ => by unfold FineL; trivial
  | n :: ns, h => by
    unfold evsL at h
    unfold FineL
    exact ⟨fine_of_right n fun e he => h e (List.mem_append_left _ he), fineL_of_right ns fun e he => h e (List.mem_append_right _ he)⟩
end
theorem fine_of_may {n : Nd} (h : mayE n = 0) : Fine n := fine_of_right n (runS_right _ _ _ (mayE_run h).1)

mutual
/-- How many nodes a tree has. -/
def cnt : Nd → Nat
  | ⟨_, _, _, ks⟩ => 1 + cntL ks
def cntL : List Nd → Nat
  | [] => 0
  | n :: ns => cnt n + cntL ns
end
mutual
theorem few_cnt : ∀ (n : Nd) (left deep : Int), 0 ≤ few n left deep → few n left deep = left - cnt n
  | ⟨_, _, _, ks⟩, left, deep, h => by
    unfold few at h ⊢
    split at h
    · omega
    · rename_i hd
      rw [if_neg hd]
      have := fewL_cnt ks (left - 1) (deep - 1) h
      unfold cnt
      omega
theorem fewL_cnt : ∀ (ks : List Nd) (left deep : Int), 0 ≤ fewL ks left deep → fewL ks left deep = left - cntL ks
  | [], left, deep, h => by unfold fewL cntL; simp
  | n :: ns, left, deep, h => by
    rw [fewL_cons] at h ⊢
    split at h
    · rename_i h0
      rw [if_pos h0]
      have h1 := fewL_cnt ns (few n left deep) deep h
      have h2 := few_cnt n left deep (by omega)
      unfold cntL
      omega
    · omega
end
mutual
theorem evs_cnt : ∀ n : Nd, (evs n).length ≤ 2 * cnt n
  | ⟨k, t, v, ks⟩ => by
    have := evsL_cnt ks
    unfold evs cnt
    split
    · simp; omega
    · simp only [List.length_cons, List.length_append]
      split <;> simp <;> omega
theorem evsL_cnt : ∀ ks : List Nd, (evsL ks).length ≤ 2 * cntL ks
  | [] => by simp [evsL, cntL]
  | n :: ns => by
    have h1 := evs_cnt n
    have h2 := evsL_cnt ns
    unfold evsL cntL
    simp only [List.length_append]
    omega
end
mutual
theorem wt_cnt {w : World} : ∀ (n : Nd) (A : Option Addr) (c : Nat), Nd.In w n A c → wt n ≤ 1049176 * cnt n
  | ⟨k, t, v, ks⟩, A, c, h => by
    unfold Nd.In at h
    obtain ⟨-, -, h3, -, -, h⟩ := h
    unfold wt cnt
    have : wtL ks ≤ 1049176 * cntL ks := by
      rcases h with h | ⟨ad, -, h⟩
      · subst h; simp [wtL]
      · exact wtL_cnt ks ad 0 h
    omega
theorem wtL_cnt {w : World} : ∀ (ks : List Nd) (ad : Addr) (j : Nat), KidsIn w ks ad j → wtL ks ≤ 1049176 * cntL ks
  | [], _, _, _ => by simp [wtL]
  | n :: ns, ad, j, h => by
    unfold KidsIn at h
    obtain ⟨⟨A, c, -, -, -, -, h6⟩, h7⟩ := h
    have h1 := wt_cnt n A c h6
    have h2 := wtL_cnt ns ad (j + 1) h7
    unfold wtL cntL
    omega
end
/-- What few nodes give. -/
theorem few_gives {n : Nd} {A : Option Addr} {c : Nat} {w : World} (h : 0 ≤ few n 200 20) (hn : Nd.In w n A c) : (evs n).length ≤ 1048576 ∧ wt n ≤ 1099511627776 := by
  have h1 := few_cnt n 200 20 h
  have h2 := evs_cnt n
  have h3 := wt_cnt n A c hn
  omega
end Go.Proofs.YtngofdaciacglaaGreatDoor
