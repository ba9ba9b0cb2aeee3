/- Walks: how many nodes a tree has (the references' Few). -/
import Derived.Test.YtngofdaciacglaaGreatDoorProg
import Derived.Test.YtngofdaciacglaaGreatDoorBase
import Derived.Outline
namespace Go.Proofs.YtngofdaciacglaaGreatDoor
open Go.RowKit
mutual
/-- How many nodes may still come. -/
def few : Nd → Int → Int → Int
  | ⟨_, _, _, ks⟩, left, deep => if deep < 0 then -1 else fewL ks (left - 1) (deep - 1)
def fewL : List Nd → Int → Int → Int
  | [], left, _ => left
  | k :: ks, left, deep => if 0 ≤ left then fewL ks (few k left deep) deep else left
end
theorem fewL_cons (k : Nd) (ks : List Nd) (left deep : Int) : fewL (k :: ks) left deep = if 0 ≤ left then fewL ks (few k left deep) deep else left := by rw [fewL]
mutual
theorem few_bd : ∀ (n : Nd) (left deep : Int), 0 ≤ left → -1 ≤ few n left deep ∧ few n left deep ≤ left
  | ⟨_, _, _, ks⟩, left, deep => by
    intro h
    unfold few
    split
    · omega
    · have := fewL_bd ks (left - 1) (deep - 1) (by omega); omega
theorem fewL_bd : ∀ (ks : List Nd) (left deep : Int), -1 ≤ left → -1 ≤ fewL ks left deep ∧ fewL ks left deep ≤ left
  | [], left, _ => by intro h; unfold fewL; omega
  | k :: ks, left, deep => by
    intro h
    unfold fewL
    split
    · rename_i h0
      have h1 := few_bd k left deep h0
      have h2 := fewL_bd ks (few k left deep) deep h1.1
      omega
    · omega
end
set_option maxRecDepth 100000 in
theorem few_calls : ∀ (n : Nd) (A : Option Addr) (c : Nat) (left deep : Int) (w : World), Nd.In w n A c → 0 ≤ left → left ≤ 1000 → -1 ≤ deep → deep ≤ 1000 →
    Calls Tryz.prog 13 #[n.v A c, .int .i64 left, .int .i64 deep] w fun e w' => e = .returned (.int .i64 (few n left deep)) ∧ Below w.heap.size w w' := by
  refine Nd.ind ?_
  intro n ih A c left deep w hin h0 h1 h2 h3
  obtain ⟨k, t, v, ks⟩ := n
  unfold Nd.In at hin
  obtain ⟨hc, hl, -, -, -, hin⟩ := hin
  simp only [Nd.v]
  by_cases hd : deep < 0
  · go_enter Tryz.func13, Tryz.ntmps13
    go_wp2_with fail
    go_ret
    exact ⟨by unfold few; rw [if_pos hd]; rfl, (Below.refl _ _).alloc (Nat.le_refl _) _⟩
  · have hL := fewL_bd ks (left - 1) (deep - 1) (by omega)
    have hfin : few ⟨k, t, v, ks⟩ left deep = fewL ks (left - 1) (deep - 1) := by unfold few; rw [if_neg hd]
    have Hfin := Lib.hid hfin
    clear hfin
    go_enter Tryz.func13, Tryz.ntmps13
    go_wp2_with fail
    have hbx : Below w.heap.size w (w.alloc (.cells #[.int .i64 k, .string t, .string v, .slice A ks.length c] 24)) := (Below.refl _ _).alloc (Nat.le_refl _) _
    go_loopw [1, 7] (fun lf i wr => ∃ (pre rest : List Nd) (l : Int), Hid (ks = pre ++ rest) ∧ i = .int .i64 (pre.length : Nat) ∧ lf = .int .i64 l ∧ Hid (fewL rest l (deep - 1) = fewL ks (left - 1) (deep - 1)) ∧ -1 ≤ l ∧ l ≤ 1000 ∧
        Below w.heap.size w wr ∧ w.heap.size < wr.heap.size ∧ wr.cell? ⟨w.heap.size, 3, none⟩ = some (.slice A ks.length c) ∧ (rest = [] ∨ ∃ ad, A = some ad ∧ KidsIn w rest ad pre.length))
      (fun _ i _ => ks.length - (intOf i).toNat)
    case atStart => exact ⟨[], ks, left - 1, Lib.hid rfl, rfl, rfl, Lib.hid rfl, by omega, by omega, hbx, by simp, by simp [go_sem], hin⟩
    case round =>
      obtain ⟨pre, rest, l, hks, rfl, rfl, hF, hl1, hl2, hB, hsz, hbox, hrest⟩ := hrel
      cases rest with
      | nil =>
        have hlen : ¬ pre.length < ks.length := by have := hks.out; subst this; simp
        clear hks
        go_wp2_with fail
        go_ret
        exact ⟨by rw [Hfin.out, ← hF.out]; unfold fewL; rfl, hB⟩
      | cons n0 rest =>
        have hlen : pre.length < ks.length := by have := hks.out; subst this; simp
        obtain ⟨ad, rfl, hk⟩ : ∃ ad, A = some ad ∧ KidsIn w (n0 :: rest) ad pre.length := by simpa using hrest
        clear hrest
        have hF0 := hF.out
        rw [fewL_cons] at hF0
        by_cases hl0 : 0 ≤ l
        · rw [if_pos hl0] at hF0
          have HF := Lib.hid hF0
          have hbd := few_bd n0 l (deep - 1) hl0
          have hmem : n0 ∈ ks := by have := hks.out; subst this; simp
          unfold KidsIn at hk
          obtain ⟨⟨A', c', k1, k2, k3, k4, k6⟩, hk⟩ := hk
          have k1 := cellB hB _ _ k1
          have k2 := cellB hB _ _ k2
          have k3 := cellB hB _ _ k3
          have k4 := cellB hB _ _ k4
          have k6 := k6.keep (cellB hB)
          clear hF0 hF
          go_wp2_with fail
          refine (ih n0 hmem A' c' l (deep - 1) _ k6 hl0 hl2 (by omega) (by omega)).mono ?_
          rintro e w1 ⟨rfl, hb1⟩
          have hbox1 := cellB hb1 _ _ hbox
          have hsz1 := hb1.size
          go_wp2_with fail
          go_roundw
          case rel => exact ⟨pre ++ [n0], rest, _, Lib.hid (by rw [hks.out]; simp), by simp, rfl, HF, hbd.1, by omega, below_then hB (by omega) hb1, by omega, hbox1, .inr ⟨ad, rfl, by rw [List.length_append]; exact hk⟩⟩
          case measure => simp [intOf]; omega
        · rw [if_neg hl0] at hF0
          have HF := Lib.hid hF0
          clear hF0 hF
          go_wp2_with fail
          go_ret
          exact ⟨by rw [Hfin.out, ← HF.out]; rfl, hB⟩
end Go.Proofs.YtngofdaciacglaaGreatDoor
