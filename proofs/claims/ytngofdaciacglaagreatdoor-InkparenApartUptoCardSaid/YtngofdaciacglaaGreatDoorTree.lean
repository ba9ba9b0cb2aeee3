/- Plain law: what a node looks like that May lets pass: each kind where it may stand. -/
import Derived.Test.YtngofdaciacglaaGreatDoorFine
namespace Go.Proofs.YtngofdaciacglaaGreatDoor
open Go.RowKit Go.Lib

/-- What may stand in a node: 0: values; 1: keys; 2: an element's contents. -/
def ctxK (k : Int) : Nat := if k = 7 then 1 else if k = 10 then 2 else 0
mutual
/-- A node that may stand where c says. -/
def Ok : Nat → Nd → Prop
  | c, ⟨k, t, v, ks⟩ => rightB k t v = true ∧ oddB k ks.length = false ∧ (c = 0 → k ≠ 8 ∧ k ≠ 11) ∧ (c = 1 → k = 8) ∧ (c = 2 → k = 4 ∨ k = 10 ∨ k = 11) ∧ OkL (ctxK k) ks
def OkL : Nat → List Nd → Prop
  | _, [] => True
  | c, n :: ns => Ok c n ∧ OkL c ns
end
/-- What is looked for behind some events. -/
def ctxS : List Opn → Nat
  | [] => 0
  | o :: _ => if o.kind = 7 then (if o.key then 0 else 1) else ctxK o.kind

theorem ctxS_cons (o : Opn) (os : List Opn) : ctxS (o :: os) = if o.kind = 7 then (if o.key then 0 else 1) else ctxK o.kind := rfl
theorem runS_append : ∀ (a b : List Ev) (stk : List Opn) (ov : Bool), (runS stk ov a).1 = 0 → runS stk ov (a ++ b) = runS (runS stk ov a).2.1 (runS stk ov a).2.2 b
  | [], b, stk, ov, _ => rfl
  | e :: a, b, stk, ov, h => by
    simp only [List.cons_append, runS] at h ⊢
    split at h
    · rename_i h0
      rw [if_pos h0, if_pos h0]
      exact runS_append a b _ _ h
    · rename_i h0; exact absurd h h0
theorem runS_front {a b : List Ev} {stk : List Opn} {ov : Bool} (h : (runS stk ov (a ++ b)).1 = 0) : (runS stk ov a).1 = 0 := by
  by_cases h0 : (runS stk ov a).1 = 0
  · exact h0
  · rw [runS_stop a b stk ov h0] at h; exact h
theorem runS_cons {e : Ev} {es : List Ev} {stk : List Opn} {ov : Bool} (h : (runS stk ov (e :: es)).1 = 0) : (stepS stk ov e.1 e.2.1 e.2.2).1 = 0 ∧ runS stk ov (e :: es) = runS (stepS stk ov e.1 e.2.1 e.2.2).2.1 (stepS stk ov e.1 e.2.1 e.2.2).2.2 es := by
  simp only [runS] at h ⊢
  split at h
  · rename_i h0; exact ⟨h0, if_pos h0⟩
  · rename_i h0; exact absurd h h0

/-- A scalar's or an opening's step, or an End's, or a Key's or an Attr's. -/
theorem step_ways {stk : List Opn} {ov : Bool} {k : Int} {t v : ByteArray} (h : (stepS stk ov k t v).1 = 0) :
    rightB k t v = true ∧
    (((k = 1 ∨ k = 2 ∨ k = 3 ∨ k = 4) ∧ valueS stk ov k t = true ∧ stepS stk ov k t v = (0, standS k stk ov)) ∨
     ((k = 5 ∨ k = 7 ∨ k = 10) ∧ valueS stk ov k t = true ∧ stk.length < 6 ∧ stepS stk ov k t v = (0, newO k :: (standS k stk ov).1, (standS k stk ov).2)) ∨
     (∃ o os, stk = o :: os ∧ (k = 8 ∧ o.kind = 7 ∧ o.key = false ∨ k = 11 ∧ o.kind = 10 ∧ o.full = false) ∧ namedE o t = 0 ∧ stepS stk ov k t v = (0, ⟨o.kind, decide (k = 8), o.text, o.full, o.had ++ [t]⟩ :: os, ov)) ∨
     (∃ o os, stk = o :: os ∧ (k ≠ 1 ∧ k ≠ 2 ∧ k ≠ 3 ∧ k ≠ 4 ∧ k ≠ 5 ∧ k ≠ 7 ∧ k ≠ 10 ∧ k ≠ 8 ∧ k ≠ 11) ∧ o.kind = endsOf k ∧ o.key = false ∧ stepS stk ov k t v = (0, os, ov))) := by
  have hr := stepS_right h
  refine ⟨hr, ?_⟩
  unfold stepS at h ⊢
  rw [if_neg (by rw [hr]; decide)] at h ⊢
  split at h
  · rename_i h1
    rw [if_pos h1]
    split at h
    · rename_i h2
      exact .inl ⟨h1, h2, by rw [if_pos h2]⟩
    · cases h
  · rename_i h1
    rw [if_neg h1]
    split at h
    · rename_i h2
      rw [if_pos h2]
      split at h
      · cases h
      · rename_i h3
        rw [if_neg h3]
        split at h
        · cases h
        · rename_i h4
          exact .inr (.inl ⟨h2, by simpa using h3, by omega, by rw [if_neg h4]⟩)
    · rename_i h2
      rw [if_neg h2]
      cases stk with
      | nil => cases h
      | cons o os =>
        simp only at h ⊢
        split at h
        · rename_i h8
          rw [if_pos h8]
          split at h
          · cases h
          · rename_i hk
            rw [if_neg hk]
            have hne : namedE o t = 0 := h
            refine .inr (.inr (.inl ⟨o, os, rfl, .inl ⟨h8, by omega, by simpa using fun e => hk (.inr e)⟩, hne, ?_⟩))
            unfold namedO
            rw [if_pos hne, hne]
        · rename_i h8
          rw [if_neg h8]
          split at h
          · rename_i h11
            rw [if_pos h11]
            split at h
            · cases h
            · rename_i hk
              rw [if_neg hk]
              have hne : namedE o t = 0 := h
              refine .inr (.inr (.inl ⟨o, os, rfl, .inr ⟨h11, by omega, by simpa using fun e => hk (.inr e)⟩, hne, ?_⟩))
              unfold namedO
              rw [if_pos hne, hne]
          · rename_i h11
            rw [if_neg h11]
            split at h
            · cases h
            · rename_i hk
              rw [if_neg hk]
              refine .inr (.inr (.inr ⟨o, os, rfl, by omega, by omega, by simpa using fun e => hk (.inr e), rfl⟩))

theorem odd_leaf {k : Int} {n : Nat} (h : oddB k n = false) (hk : k = 1 ∨ k = 2 ∨ k = 3 ∨ k = 4 ∨ k = 11) : n = 0 := by
  unfold oddB at h
  rw [if_pos hk] at h
  simpa using h
theorem odd_key {n : Nat} (h : oddB 8 n = false) : n = 1 := by
  unfold oddB at h
  simpa using h
theorem odd_else {k : Int} {n : Nat} (h : oddB k n = false) (h1 : k ≠ 1) (h2 : k ≠ 2) (h3 : k ≠ 3) (h4 : k ≠ 4) (h11 : k ≠ 11) (h8 : k ≠ 8) : k = 5 ∨ k = 7 ∨ k = 10 := by
  unfold oddB at h
  rw [if_neg (by omega), if_neg h8] at h
  unfold endsK at h
  by_cases a : k = 5
  · exact .inl a
  by_cases b : k = 7
  · exact .inr (.inl b)
  by_cases c : k = 10
  · exact .inr (.inr c)
  rw [if_neg a, if_neg b, if_neg c] at h
  simp at h
theorem value_ctx {stk : List Opn} {ov : Bool} {k : Int} {t : ByteArray} (hk : k ≠ 8 ∧ k ≠ 11) (h : valueS stk ov k t = true) :
    (ctxS stk = 0 → k ≠ 8 ∧ k ≠ 11) ∧ (ctxS stk = 1 → k = 8) ∧ (ctxS stk = 2 → k = 4 ∨ k = 10 ∨ k = 11) := by
  refine ⟨fun _ => hk, fun hc => ?_, fun hc => ?_⟩
  · exfalso
    cases stk with
    | nil => cases hc
    | cons o os =>
      rw [ctxS_cons] at hc
      unfold valueS at h
      simp only at h
      split at hc
      · rename_i h7
        rw [if_pos h7] at h
        rw [h] at hc
        cases hc
      · rename_i h7
        unfold ctxK at hc
        rw [if_neg h7] at hc
        split at hc <;> cases hc
  · cases stk with
    | nil => cases hc
    | cons o os =>
      rw [ctxS_cons] at hc
      unfold valueS at h
      simp only at h
      split at hc
      · split at hc <;> cases hc
      · rename_i h7
        unfold ctxK at hc
        rw [if_neg h7] at hc
        split at hc
        · rename_i h10
          rw [if_neg h7, if_pos h10] at h
          simp only [Bool.or_eq_true, Bool.and_eq_true, decide_eq_true_eq] at h
          rcases h with h | h
          · exact .inr (.inl h)
          · exact .inl h.1.1
        · cases hc
/-- What a node leaves open. -/
def Left (stk res : List Opn) : Prop := (stk = [] → res = []) ∧ ∀ o os, stk = o :: os → ∃ o', res = o' :: os ∧ o'.kind = o.kind ∧ o'.key = false
theorem left_stand (k : Int) (stk : List Opn) (ov : Bool) : Left stk (standS k stk ov).1 := by
  cases stk with
  | nil => exact ⟨fun _ => rfl, fun _ _ h => (by cases h)⟩
  | cons o os => exact ⟨fun h => (by cases h), fun o1 os1 h => (by cases h; exact ⟨_, rfl, rfl, rfl⟩)⟩
theorem ctx_new (k : Int) (os : List Opn) : ctxS (newO k :: os) = ctxK k := by
  rw [ctxS_cons]
  by_cases h : k = 7
  · subst h; rfl
  · simp [h]

theorem end_ne {e : Int} (h : e = 6 ∨ e = 9 ∨ e = 12) : ¬ (e = 1 ∨ e = 2 ∨ e = 3 ∨ e = 4) ∧ ¬ (e = 5 ∨ e = 7 ∨ e = 10) ∧ e ≠ 8 ∧ e ≠ 11 := by omega
mutual
theorem run_nd : ∀ (n : Nd) (stk : List Opn) (ov : Bool), (runS stk ov (evs n)).1 = 0 → Ok (ctxS stk) n ∧ Left stk (runS stk ov (evs n)).2.1
  | ⟨k, t, v, ks⟩, stk, ov, h => by
    unfold evs at h ⊢
    by_cases ho : oddB k ks.length = true
    · rw [if_pos ho] at h
      have := stepS_right (runS_cons h).1
      rw [right_zero] at this
      cases this
    have hodd : oddB k ks.length = false := by simpa using ho
    rw [if_neg ho] at h ⊢
    obtain ⟨h1, h2⟩ := runS_cons h
    rw [h2] at h ⊢
    obtain ⟨hr, hw⟩ := step_ways h1
    simp only at hr hw h ⊢
    rcases hw with ⟨hk, hv, hs⟩ | ⟨hk, hv, -, hs⟩ | ⟨o, os, rfl, hk, -, hs⟩ | ⟨o, os, -, hk, -⟩
    · have hks : ks = [] := List.eq_nil_of_length_eq_zero (odd_leaf hodd (by omega))
      subst hks
      have he : endsK k = 0 := by unfold endsK; rw [if_neg (by omega), if_neg (by omega), if_neg (by omega)]
      rw [hs, he]
      refine ⟨?_, ?_⟩
      · unfold Ok
        have := value_ctx (by omega) hv
        exact ⟨hr, hodd, this.1, this.2.1, this.2.2, by unfold OkL; trivial⟩
      · simp only [evsL, List.nil_append, if_true, runS]
        exact left_stand k stk ov
    · have hk8 : k ≠ 8 ∧ k ≠ 11 := by rcases hk with rfl | rfl | rfl <;> decide
      have he : endsK k ≠ 0 := by unfold endsK; rcases hk with rfl | rfl | rfl <;> decide
      rw [hs, if_neg he] at h
      rw [hs, if_neg he]
      simp only at h ⊢
      have hf := runS_front h
      obtain ⟨hk1, o', hk2, hk3, hk4⟩ := run_ndL ks (newO k) (standS k stk ov).1 (standS k stk ov).2 rfl hf
      rw [runS_append _ _ _ _ hf, hk2] at h ⊢
      obtain ⟨he1, he2⟩ := runS_cons h
      dsimp only at he1 he2
      obtain ⟨-, hw⟩ := step_ways he1
      refine ⟨?_, ?_⟩
      · unfold Ok
        have := value_ctx hk8 hv
        rw [ctx_new] at hk1
        exact ⟨hr, hodd, this.1, this.2.1, this.2.2, hk1⟩
      · rw [he2]
        have hek : endsK k = 6 ∨ endsK k = 9 ∨ endsK k = 12 := by unfold endsK; rcases hk with rfl | rfl | rfl <;> decide
        rcases hw with ⟨hq, _⟩ | ⟨hq, _⟩ | ⟨_, _, _, hq, _⟩ | ⟨o2, os2, hq, -, -, -, hq2⟩
        · exact absurd hq (end_ne hek).1
        · exact absurd hq (end_ne hek).2.1
        · rcases hq with hq | hq
          · exact absurd hq.1 (end_ne hek).2.2.1
          · exact absurd hq.1 (end_ne hek).2.2.2
        · cases hq
          rw [hq2]
          exact left_stand k stk ov
    · rcases hk with ⟨rfl, hk7, hkey⟩ | ⟨rfl, hk10, hfull⟩
      · rw [show decide ((8 : Int) = 8) = true from rfl] at hs
        rw [hs] at h ⊢
        dsimp only at h ⊢
        have hl := odd_key hodd
        match ks, hl with
        | [x], _ =>
        have e8 : endsK 8 = 0 := by decide
        simp only [evsL, e8, if_true, List.append_nil] at h ⊢
        obtain ⟨hx, hL⟩ := run_nd x _ _ h
        have hc0 : ctxS (⟨o.kind, true, o.text, o.full, o.had ++ [t]⟩ :: os) = 0 := by rw [ctxS_cons]; rw [if_pos hk7]; rfl
        have hc1 : ctxS (o :: os) = 1 := by rw [ctxS_cons]; rw [if_pos hk7, hkey]; rfl
        rw [hc0] at hx
        refine ⟨?_, fun hh => (by cases hh), fun o1 os1 hh => ?_⟩
        · unfold Ok
          rw [hc1]
          exact ⟨hr, hodd, fun hh => by omega, fun _ => rfl, fun hh => by omega, by unfold OkL; exact ⟨hx, by unfold OkL; trivial⟩⟩
        · cases hh
          obtain ⟨o', q1, q2, q3⟩ := hL.2 _ _ rfl
          exact ⟨o', q1, q2, q3⟩
      · rw [show decide ((11 : Int) = 8) = false from rfl] at hs
        rw [hs] at h ⊢
        dsimp only at h ⊢
        have hks : ks = [] := List.eq_nil_of_length_eq_zero (odd_leaf hodd (by omega))
        subst hks
        have e11 : endsK 11 = 0 := by decide
        have hc2 : ctxS (o :: os) = 2 := by rw [ctxS_cons]; rw [if_neg (by omega), hk10]; rfl
        simp only [evsL, e11, if_true, List.append_nil, runS]
        refine ⟨?_, fun hh => (by cases hh), fun o1 os1 hh => (by cases hh; exact ⟨_, rfl, rfl, rfl⟩)⟩
        unfold Ok
        rw [hc2]
        exact ⟨hr, hodd, fun hh => by omega, fun hh => by omega, fun _ => .inr (.inr rfl), by unfold OkL; trivial⟩
    · exfalso
      have := odd_else hodd (by omega) (by omega) (by omega) (by omega) (by omega) (by omega)
      omega
theorem run_ndL : ∀ (ks : List Nd) (o : Opn) (os : List Opn) (ov : Bool), o.key = false → (runS (o :: os) ov (evsL ks)).1 = 0 → OkL (ctxS (o :: os)) ks ∧ ∃ o', (runS (o :: os) ov (evsL ks)).2.1 = o' :: os ∧ o'.kind = o.kind ∧ o'.key = false
  | [], o, os, ov, hk, h => by
    unfold OkL evsL
    exact ⟨trivial, o, rfl, rfl, hk⟩
  | n :: ns, o, os, ov, hk, h => by
    unfold evsL at h ⊢
    unfold OkL
    have hf := runS_front h
    obtain ⟨h1, h2⟩ := run_nd n _ _ hf
    obtain ⟨o1, q1, q2, q3⟩ := h2.2 _ _ rfl
    rw [runS_append _ _ _ _ hf, q1] at h ⊢
    obtain ⟨h3, o2, r1, r2, r3⟩ := run_ndL ns o1 os _ q3 h
    have hc : ctxS (o1 :: os) = ctxS (o :: os) := by rw [ctxS_cons, ctxS_cons, q2, q3, hk]
    rw [hc] at h3
    exact ⟨⟨h1, h3⟩, o2, r1, r2.trans q2, r3⟩
end
/-- A tree's root stands as a value. -/
theorem ok_of_may {n : Nd} (h : mayE n = 0) : Ok 0 n := (run_nd n [] false (mayE_run h).1).1
end Go.Proofs.YtngofdaciacglaaGreatDoor
