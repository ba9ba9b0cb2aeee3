/- Walks: inkparen's quoted, parts. -/
import Derived.Test.YtngofdaciacglaaGreatDoorInkL
import Derived.Test.YtngofdaciacglaaGreatDoorCheck
namespace Go.Proofs.YtngofdaciacglaaGreatDoor
open Go.RowKit Go.Lib

set_option maxRecDepth 100000 in
theorem quoted_calls (s : ByteArray) (w : World) (hG : Globs w) (hs : s.size ≤ 1048576) :
    Calls Tryz.prog 26 #[.string s] w fun e w' => e = .returned (.string (bs (qT s.data.toList))) ∧ Below w.heap.size w w' := by
  have HQ := Lib.hid (qprint_calls s w hG hs)
  go_enter Tryz.func26, Tryz.ntmps26
  go_wp2_with fail
  refine HQ.out.mono ?_
  rintro e w1 ⟨rfl, hb1⟩
  go_wp2_with fail
  go_ret
  exact ⟨rfl, hb1⟩

theorem Tryz.infoStr : (Tryz.prog.info? 9).map (fun i => (i.zero, i.size, i.bytes)) = some (some (.string (bs [])), 1, 16) := by kernel_rfl
/-- Texts as a slice's cells. -/
abbrev strV (xs : List (List UInt8)) : List Value := xs.map fun x => Value.string (bs x)

theorem app_bs (a : ByteArray) (l : List UInt8) : a ++ bs l = bs (a.data.toList ++ l) := by
  apply ByteArray.ext
  rw [ByteArray.data_append]
  apply Array.ext'
  simp
theorem strV_bytes (xs : List (List UInt8)) : (xs.map bs).map (·.data.toList) = xs := by
  rw [List.map_map]; conv => rhs; rw [← List.map_id xs]
  exact List.map_congr_left fun x _ => by simp [Function.comp]
/-- strings.Join of a slice that the call owns. -/
theorem join_calls (B m c : Nat) (A : Option Addr) (xs : List (List UInt8)) (sep : ByteArray) (w : World) (hm : m = xs.length) (hown : w.ownsRow B 9 1 (.slice A m c) m (strV xs)) (hlen : (Lib.join xs sep.data.toList).length ≤ 140737488355328) (hN : m ≤ 140737488355328) :
    Calls Tryz.prog 45 #[.slice A m c, .string sep] w fun e w' => e = .returned (.string (bs (Lib.join xs sep.data.toList))) ∧ Below w.heap.size w w' := by
  cases hx : xs with
  | nil =>
    subst hm
    rw [hx]
    refine (Tryz.strings_Join_none A c sep w).mono ?_
    rintro e w' ⟨rfl, rfl⟩
    exact ⟨rfl, Below.refl _ _⟩
  | cons x r =>
    rw [← hx]
    have hp : 0 < m := by rw [hm, hx]; simp
    obtain ⟨g, cap, e, _, hlt⟩ := hown.form hp
    cases e
    have hc := hown.cells (g := g) rfl
    have hcap : m ≤ c := by
      rcases hown.2 with ⟨h, _⟩ | ⟨_, _, _, h, _, _, h2, _⟩
      · cases h
      · cases h; exact h2
    have hl : (xs.map bs).length = m := by rw [List.length_map, hm]
    have h := Tryz.strings_Join g 0 c (xs.map bs) sep w (fun j y hy => ?_) hlt (by omega) (by omega) (by rw [strV_bytes]; exact hlen)
    · rw [strV_bytes, hl] at h
      exact h
    · have := hc j (.string y) (by
        rw [List.getElem?_map] at hy ⊢
        cases hxj : xs[j]? with
        | none => rw [hxj] at hy; cases hy
        | some z => rw [hxj] at hy; simp at hy; subst hy; rfl)
      have e : (⟨g, 0, none⟩ : Addr).add j = ⟨g, 0 + j, none⟩ := by unfold Addr.add; split <;> simp_all
      rw [e] at this
      exact this

set_option maxHeartbeats 1000000 in
set_option maxRecDepth 100000 in
theorem parts_calls (w0 : World) (begin_ : ByteArray) (ks : List Nd) (A : Option Addr) (c : Nat) (v : Value) (first : List (List UInt8)) (w : World) (hb : Below w0.heap.size w0 w)
    (hlen : ks.length ≤ 1048576) (hf : first.length ≤ 1) (hk : ks = [] ∨ ∃ ad, A = some ad ∧ KidsIn w0 ks ad 0)
    (hown : w.ownsRow w0.heap.size 9 1 v first.length (strV first)) (hbs : begin_.size ≤ 1048576) (hsz : sumL first + wtL ks ≤ 1099511627776)
    (H : ∀ k ∈ ks, ∀ A c W, Nd.In w0 k A c → Below w0.heap.size w0 W → Calls Tryz.prog 15 #[k.v A c] W fun e W' => e = .returned (.string (bs (textP k))) ∧ Below W.heap.size W W') :
    Calls Tryz.prog 27 #[.string begin_, .slice A ks.length c, v] w fun e w' => e = .returned (.string (bs (begin_.data.toList ++ Lib.join (first ++ textPs ks) [32] ++ [41]))) ∧ Below w0.heap.size w0 w' := by
  obtain ⟨i0, hi, hz0, hz1, hz2⟩ := info_parts Tryz.infoStr
  have hsize := hb.size
  have HH := Lib.hid H
  have HO := Lib.hid hown
  have HK := Lib.hid hk
  clear H hown hk
  go_enter Tryz.func27, Tryz.ntmps27
  go_wp2_with fail
  go_loopw [2, 11] (fun vv i wr => ∃ (pre rest : List Nd) (m : Nat), Hid (m = (first ++ textPs pre).length) ∧ Hid (ks = pre ++ rest) ∧ i = .int .i64 (pre.length : Nat) ∧ Below w0.heap.size w0 wr ∧ (rest = [] ∨ ∃ ad, A = some ad ∧ KidsIn w0 rest ad pre.length) ∧
      Hid (wr.ownsRow w0.heap.size 9 1 vv m (strV (first ++ textPs pre)))) (fun _ i _ => ks.length - (intOf i).toNat)
  case atStart => exact ⟨[], ks, first.length, Lib.hid (by simp [textPs]), Lib.hid rfl, rfl, hb, HK.out, by have := HO.out; rw [show first ++ textPs [] = first from by simp [textPs]]; exact Lib.hid this⟩
  case round =>
    obtain ⟨pre, rest, m, hm, hks, rfl, hB, hrest, hown⟩ := hrel
    obtain ⟨A2, c2, rfl⟩ := own_slice hown.out
    have hpw : wtL pre ≤ wtL ks := by have := hks.out; rw [this, wtL_append]; omega
    cases rest with
    | nil =>
      have hlt : ¬ pre.length < ks.length := by have := hks.out; rw [this]; simp
      clear hrest
      go_wp2_with fail
      have hpre : pre = ks := by have := hks.out; rw [this]; simp
      subst hpre
      have hjl : (Lib.join (first ++ textPs pre) [32]).length ≤ 1099511627776 := by
        have h1 := join_len (first ++ textPs pre)
        have h2 := textPs_len pre
        rw [sumL_append] at h1
        omega
      have hml : m ≤ 1048577 := by rw [hm.out, List.length_append, textPs_map, List.length_map]; omega
      have hsz0 : begin_.size + (bs (Lib.join (first ++ textPs pre) [32])).size ≤ 1099512676352 := by
        have : (bs (Lib.join (first ++ textPs pre) [32])).size = (Lib.join (first ++ textPs pre) [32]).length := rfl
        omega
      refine (join_calls w0.heap.size m c2 A2 (first ++ textPs pre) ⟨#[32]⟩ wr hm.out hown.out (by show (Lib.join _ [32]).length ≤ _; omega) (by omega)).mono ?_
      rintro e w1 ⟨rfl, hb1⟩
      have hB1 := hB.trans (hb1.mono hB.size)
      obtain ⟨J, hJ⟩ : ∃ J, J = bs (Lib.join (first ++ textPs pre) [32]) := ⟨_, rfl⟩
      have e0 : (bs (Lib.join (first ++ textPs pre) (⟨#[32]⟩ : ByteArray).data.toList)) = J := by rw [hJ]
      rw [e0]
      rw [← hJ] at hsz0
      have HJ := Lib.hid hJ
      clear hJ e0 hjl hm hks hown
      go_wp2_with fail
      go_ret
      exact ⟨ret_str (by rw [HJ.out]; exact (by rw [app_bs]; exact app_bs _ _ : begin_ ++ bs (Lib.join (first ++ textPs pre) [32]) ++ bs [41] = bs (begin_.data.toList ++ Lib.join (first ++ textPs pre) [32] ++ [41]))), hB1⟩
    | cons n0 rest =>
      have hlt : pre.length < ks.length := by have := hks.out; rw [this]; simp
      obtain ⟨ad, rfl, hk⟩ : ∃ ad, A = some ad ∧ KidsIn w0 (n0 :: rest) ad pre.length := by simpa using hrest
      clear hrest
      have hmem : n0 ∈ ks := by have := hks.out; rw [this]; simp
      have hks2 : Hid (ks = (pre ++ [n0]) ++ rest) := Lib.hid (hks.out.trans (by simp))
      have hN : m ≤ 1048577 := by rw [hm.out, List.length_append, textPs_map, List.length_map]; omega
      clear hks
      unfold KidsIn at hk
      obtain ⟨⟨A', c', k1, k2, k3, k4, k6⟩, hk⟩ := hk
      have k1 := cellB hB _ _ k1
      have k2 := cellB hB _ _ k2
      have k3 := cellB hB _ _ k3
      have k4 := cellB hB _ _ k4
      have hsz2 := hB.size
      go_wp2_with fail
      refine (HH.out n0 hmem A' c' _ k6 (hB.alloc hB.size _)).mono ?_
      rintro e w1 ⟨rfl, hb1⟩
      have hown1 := own_below (hown.out.alloc _) hb1
      have hB1 := (hB.alloc hB.size (.cells #[.int .i64 n0.kind, .string n0.text, .string n0.val, .slice A' n0.kids.length c'] 24)).trans (hb1.mono (by simp; omega))
      have hsz3 := hb1.size
      simp only [World.size_alloc] at hsz3
      go_wp2_with (at_builtin; refine wpList_append_own _ rfl _ _ 64 rfl w0.heap.size 9 i0 (.string (bs [])) 1 16 Tryz.underlying64 hi hz0 hz1 hz2 rfl (by decide) _ _ _ rfl (hown1.alloc _) ⟨w1.heap.size, 0, none⟩ 1 1 [.string (bs (textP n0))] rfl rfl (one_new _ _ _) (by simp [Value.oneCell']) (by unfold maxLen; omega) (by omega) (by simp; omega) ?_)
      intro v' w2 hown3 hgrow _
      have hB2 : Below w0.heap.size w0 w2 := (hB1.alloc hB1.size _).grown hgrow (by simp; omega) (fun k hk => own_base hown1 k hk)
      have HO2 : Hid (w2.ownsRow w0.heap.size 9 1 v' (m + 1) (strV (first ++ textPs (pre ++ [n0])))) := by
        refine Lib.hid ?_
        have e1 : first ++ textPs (pre ++ [n0]) = (first ++ textPs pre) ++ [textP n0] := by simp [textPs_map]
        rw [e1]
        simpa [strV] using hown3
      clear hown3 hown1 hgrow k1 k2 k3 k4
      go_wp2_with fail
      go_roundw
      case rel => exact ⟨pre ++ [n0], rest, m + 1, Lib.hid (by rw [hm.out]; simp [textPs_map]; omega), hks2, by simp, hB2, by right; exact ⟨ad, rfl, by simpa using hk⟩, HO2⟩
      case measure => simp [intOf]; omega
end Go.Proofs.YtngofdaciacglaaGreatDoor
