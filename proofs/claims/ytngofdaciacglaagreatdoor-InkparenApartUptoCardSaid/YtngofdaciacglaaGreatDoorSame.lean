/- Walks: the references' Same: are two trees the same? -/
import Derived.Test.YtngofdaciacglaaGreatDoorProg
import Derived.Test.YtngofdaciacglaaGreatDoorBase
import Derived.Outline
import Derived.StillTailTactics
import Derived.Deep.DeepCutAuto
import Derived.Deep.CutBlock
import Derived.Deep.Cut
import Derived.Deep.Light
namespace Go.Proofs.YtngofdaciacglaaGreatDoor
open Go.RowKit
mutual
/-- Are two trees the same? -/
def sameNd : Nd → Nd → Bool
  | ⟨k, t, v, ks⟩, ⟨k', t', v', ks'⟩ => k == k' && t.toList == t'.toList && v.toList == v'.toList && ks.length == ks'.length && sameL ks ks'
def sameL : List Nd → List Nd → Bool
  | [], _ => true
  | _ :: _, [] => true
  | n :: ns, m :: ms => sameNd n m && sameL ns ms
end
set_option maxRecDepth 100000 in
set_option maxHeartbeats 1000000 in
theorem same_calls : ∀ (n : Nd) (A : Option Addr) (c : Nat) (m : Nd) (B : Option Addr) (d : Nat) (w : World), Nd.In w n A c → Nd.In w m B d →
    Calls Tryz.prog 11 #[n.v A c, m.v B d] w fun e w' => e = .returned (.bool (sameNd n m)) ∧ Below w.heap.size w w' := by
  refine Nd.ind ?_
  intro n ih A c m B d w hn hm
  obtain ⟨k, t, v, ks⟩ := n
  obtain ⟨k', t', v', ks'⟩ := m
  unfold Nd.In at hn hm
  obtain ⟨hc, hl, -, -, -, hn⟩ := hn
  obtain ⟨hc', hl', -, -, -, hm⟩ := hm
  simp only [Nd.v]
  by_cases h1 : (k == k') = true
  case neg =>
    have hf : sameNd ⟨k, t, v, ks⟩ ⟨k', t', v', ks'⟩ = false := by unfold sameNd; simp [h1]
    have Hf := Lib.hid hf
    have h1a : (k == k') = false := by simpa using h1
    have h1b : (k != k') = true := by simp [bne, h1a]
    clear hf h1
    go_enter Tryz.func11, Tryz.ntmps11
    go_wp2_with fail
    go_ret
    exact ⟨by rw [Hf.out]; rfl, ((Below.refl _ _).alloc (Nat.le_refl _) _).alloc (by simp) _⟩
  have h1b : (k != k') = false := by simp [bne, h1]
  by_cases h2 : t = t'
  case neg =>
    have hne : ¬ t.toList = t'.toList := fun h => h2 (toList_inj h)
    have hf : sameNd ⟨k, t, v, ks⟩ ⟨k', t', v', ks'⟩ = false := by unfold sameNd; simp [hne]
    have Hf := Lib.hid hf
    clear hf h1 h2
    go_enter Tryz.func11, Tryz.ntmps11
    go_wp2_with fail
    go_ret
    exact ⟨by rw [Hf.out]; rfl, ((Below.refl _ _).alloc (Nat.le_refl _) _).alloc (by simp) _⟩
  subst h2
  by_cases h3 : v = v'
  case neg =>
    have hne : ¬ v.toList = v'.toList := fun h => h3 (toList_inj h)
    have hf : sameNd ⟨k, t, v, ks⟩ ⟨k', t, v', ks'⟩ = false := by unfold sameNd; simp [hne]
    have Hf := Lib.hid hf
    clear hf h1 h3
    go_enter Tryz.func11, Tryz.ntmps11
    go_wp2_with fail
    go_ret
    exact ⟨by rw [Hf.out]; rfl, ((Below.refl _ _).alloc (Nat.le_refl _) _).alloc (by simp) _⟩
  subst h3
  by_cases h4 : ks.length = ks'.length
  case neg =>
    have hf : sameNd ⟨k, t, v, ks⟩ ⟨k', t, v, ks'⟩ = false := by unfold sameNd; simp [h4]
    have Hf := Lib.hid hf
    have h4b : ((ks.length : Int) != (ks'.length : Int)) = true := by rw [bne_iff_ne]; omega
    clear hf h1 h4
    go_enter Tryz.func11, Tryz.ntmps11
    go_wp2_with fail
    go_ret
    exact ⟨by rw [Hf.out]; rfl, ((Below.refl _ _).alloc (Nat.le_refl _) _).alloc (by simp) _⟩
  have h4b : ((ks.length : Int) != (ks'.length : Int)) = false := by simp; omega
  have hf : sameNd ⟨k, t, v, ks⟩ ⟨k', t, v, ks'⟩ = sameL ks ks' := by unfold sameNd; simp [h1, h4]
  have Hf := Lib.hid hf
  have H4 := Lib.hid h4
  clear hf h1 h4
  go_enter Tryz.func11, Tryz.ntmps11
  go_wp2_with fail
  have hbx : Below w.heap.size w ((w.alloc (.cells #[.int .i64 k, .string t, .string v, .slice A ks.length c] 24)).alloc (.cells #[.int .i64 k', .string t, .string v, .slice B ks'.length d] 24)) := ((Below.refl _ _).alloc (Nat.le_refl _) _).alloc (by simp) _
  go_loopw [5] (fun i wr => ∃ (pre rest pre' rest' : List Nd), Hid (ks = pre ++ rest) ∧ Hid (ks' = pre' ++ rest') ∧ Hid (pre'.length = pre.length) ∧ i = .int .i64 (pre.length : Nat) ∧ Hid (sameL rest rest' = sameL ks ks') ∧
      Below w.heap.size w wr ∧ w.heap.size + 1 < wr.heap.size ∧ wr.cell? ⟨w.heap.size, 3, none⟩ = some (.slice A ks.length c) ∧ wr.cell? ⟨w.heap.size + 1, 3, none⟩ = some (.slice B ks'.length d) ∧
      (rest = [] ∨ ∃ ad, A = some ad ∧ KidsIn w rest ad pre.length) ∧ (rest' = [] ∨ ∃ ad, B = some ad ∧ KidsIn w rest' ad pre'.length))
    (fun i _ => ks.length - (intOf i).toNat)
  case atStart => exact ⟨[], ks, [], ks', Lib.hid rfl, Lib.hid rfl, Lib.hid rfl, rfl, Lib.hid rfl, hbx, by simp, by simp [go_sem, World.cell?_alloc_past], by simp [go_sem], hn, hm⟩
  case round =>
    obtain ⟨pre, rest, pre', rest', hks, hks', hpl, rfl, hF, hB, hsz, hbox, hbox', hrest, hrest'⟩ := hrel
    cases rest with
    | nil =>
      have hlen : ¬ pre.length < ks.length := by have := hks.out; subst this; simp
      go_wp2_with fail
      go_ret
      exact ⟨by rw [Hf.out, ← hF.out]; unfold sameL; rfl, hB⟩
    | cons n0 rest =>
      cases rest' with
      | nil =>
        exfalso
        have a1 := congrArg List.length hks.out; have a2 := congrArg List.length hks'.out; have a3 := H4.out; have a4 := hpl.out
        simp at a1 a2; omega
      | cons m0 rest' =>
        have hlen : pre.length < ks.length := by have := hks.out; subst this; simp
        have hlen' : pre.length < ks'.length := by have := H4.out; omega
        obtain ⟨ad, rfl, hk⟩ : ∃ ad, A = some ad ∧ KidsIn w (n0 :: rest) ad pre.length := by simpa using hrest
        obtain ⟨bd, rfl, hk'⟩ : ∃ ad, B = some ad ∧ KidsIn w (m0 :: rest') ad pre.length := by have := hpl.out; rw [this] at hrest'; simpa using hrest'
        clear hrest hrest'
        have hmem : n0 ∈ ks := by have := hks.out; subst this; simp
        unfold KidsIn at hk hk'
        obtain ⟨⟨A', c', k1, k2, k3, k4, k6⟩, hk⟩ := hk
        obtain ⟨⟨B', d', j1, j2, j3, j4, j6⟩, hk'⟩ := hk'
        have k1 := cellB hB _ _ k1
        have k2 := cellB hB _ _ k2
        have k3 := cellB hB _ _ k3
        have k4 := cellB hB _ _ k4
        have k6 := k6.keep (cellB hB)
        have j1 := cellB hB _ _ j1
        have j2 := cellB hB _ _ j2
        have j3 := cellB hB _ _ j3
        have j4 := cellB hB _ _ j4
        have j6 := j6.keep (cellB hB)
        go_upto_region 6 with (fail)
        go_still_tail 10, (by kernel_rfl)
        change wpList _ _ _ _ _ wr.drew
        go_wp2_with fail
        refine (ih n0 hmem A' c' m0 B' d' wr.drew k6.drew j6.drew).mono ?_
        rintro e w1 ⟨rfl, hb1⟩
        have hbox1 := cellB hb1 _ _ (show wr.drew.cell? _ = _ from hbox)
        have hbox1' := cellB hb1 _ _ (show wr.drew.cell? _ = _ from hbox')
        have hsz1 : wr.heap.size ≤ w1.heap.size := hb1.size
        have hB1 : Below w.heap.size w w1 := below_then hB.drew (by show w.heap.size ≤ wr.heap.size; omega) hb1
        cases hsm : sameNd n0 m0
        · have HF := Lib.hid (show sameL ks ks' = false by rw [← hF.out]; unfold sameL; rw [hsm]; rfl)
          go_wp2_with fail
          go_ret
          exact ⟨by rw [Hf.out, HF.out]; rfl, hB1⟩
        · have HF := Lib.hid (show sameL rest rest' = sameL ks ks' by rw [← hF.out]; conv => rhs; unfold sameL; rw [hsm]; simp)
          go_wp2_with fail
          go_roundw
          case rel => exact ⟨pre ++ [n0], rest, pre' ++ [m0], rest', Lib.hid (by rw [hks.out]; simp), Lib.hid (by rw [hks'.out]; simp), Lib.hid (by simp [hpl.out]), by simp, HF, hB1, by omega, hbox1, hbox1', .inr ⟨ad, rfl, by rw [List.length_append]; exact hk⟩, .inr ⟨bd, rfl, by rw [List.length_append, hpl.out]; exact hk'⟩⟩
          case measure => simp [intOf]; omega
end Go.Proofs.YtngofdaciacglaaGreatDoor
