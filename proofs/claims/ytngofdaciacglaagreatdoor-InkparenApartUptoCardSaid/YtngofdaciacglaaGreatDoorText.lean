/- Walks: inkparen.text. -/
import Derived.Test.YtngofdaciacglaaGreatDoorParts
import Derived.Deep.RegionHeld3
namespace Go.Proofs.YtngofdaciacglaaGreatDoor
open Go.RowKit Go.Lib

/-- What text's contract says of a node. -/
def TextOk (n : Nd) : Prop := ∀ (A : Option Addr) (c : Nat) (w : World), Globs w → Nd.In w n A c → Fine n → wt n ≤ 1099511627776 →
    Calls Tryz.prog 15 #[n.v A c] w fun e w' => e = .returned (.string (bs (textP n))) ∧ Below w.heap.size w w'

/-- inkparen.parts, its kids' texts known. -/
theorem parts_in (w0 : World) (hG : Globs w0) (begin_ : ByteArray) (ks : List Nd) (ih : ∀ k ∈ ks, TextOk k) (hf : FineL ks) (A : Option Addr) (c : Nat) (v : Value) (first : List (List UInt8)) (w : World) (hb : Below w0.heap.size w0 w)
    (hlen : ks.length ≤ 1048576) (hf1 : first.length ≤ 1) (hk : ks = [] ∨ ∃ ad, A = some ad ∧ KidsIn w0 ks ad 0)
    (hown : w.ownsRow w0.heap.size 9 1 v first.length (strV first)) (hbs : begin_.size ≤ 1048576) (hsz : sumL first + wtL ks ≤ 1099511627776) :
    Calls Tryz.prog 27 #[.string begin_, .slice A ks.length c, v] w fun e w' => e = .returned (.string (bs (begin_.data.toList ++ Lib.join (first ++ textPs ks) [32] ++ [41]))) ∧ Below w0.heap.size w0 w' :=
  parts_calls w0 begin_ ks A c v first w hb hlen hf1 hk hown hbs hsz fun k hm A c W hn hB => ih k hm A c W (hG.below hB) (hn.below hB) (hf.mem hm) (by have := wtL_mem hm; omega)

section
variable {k : Int} {t v : ByteArray} {ks : List Nd}
theorem textP_1 (h : k = 1) : textP ⟨k, t, v, ks⟩ = [35, 110] := by subst h; unfold textP; rfl
theorem textP_2 (h : k = 2) : textP ⟨k, t, v, ks⟩ = 35 :: t.data.toList.take 1 := by subst h; unfold textP; rfl
theorem textP_4 (h : k = 4) : textP ⟨k, t, v, ks⟩ = qT t.data.toList := by subst h; unfold textP; rfl
theorem textP_5 (h : k = 5) : textP ⟨k, t, v, ks⟩ = 40 :: (Lib.join (textPs ks) [32] ++ [41]) := by subst h; unfold textP; rfl
theorem textP_7 (h : k = 7) : textP ⟨k, t, v, ks⟩ = 35 :: 40 :: (Lib.join (textPs ks) [32] ++ [41]) := by subst h; unfold textP; rfl
theorem textP_8 (h : k = 8) : textP ⟨k, t, v, ks⟩ = qT t.data.toList ++ 32 :: ((textPs ks).headD []) := by subst h; unfold textP; rfl
theorem textP_10 (h : k = 10) : textP ⟨k, t, v, ks⟩ = 35 :: 60 :: (Lib.join (qT t.data.toList :: textPs ks) [32] ++ [41]) := by subst h; unfold textP; rfl
theorem textP_11 (h : k = 11) : textP ⟨k, t, v, ks⟩ = 64 :: (qT t.data.toList ++ 32 :: qT v.data.toList) := by subst h; unfold textP; rfl
theorem textP_0 (h1 : k ≠ 1) (h2 : k ≠ 2) (h4 : k ≠ 4) (h5 : k ≠ 5) (h7 : k ≠ 7) (h8 : k ≠ 8) (h10 : k ≠ 10) (h11 : k ≠ 11) : textP ⟨k, t, v, ks⟩ = t.data.toList := by
  unfold textP; rw [if_neg h1, if_neg h2, if_neg h4, if_neg h5, if_neg h7, if_neg h8, if_neg h10, if_neg h11]
end

set_option maxHeartbeats 1000000 in
set_option maxRecDepth 100000 in
theorem text_8 (t v : ByteArray) (ks : List Nd) (ih : ∀ k ∈ ks, TextOk k) : TextOk ⟨8, t, v, ks⟩ := by
  intro A c w hG hn hF hw
  unfold Nd.In at hn
  obtain ⟨hc, hl, ht, hv, hk, hn⟩ := hn
  unfold Fine at hF
  obtain ⟨-, hne, hF⟩ := hF
  obtain ⟨k0, r, rfl⟩ : ∃ k0 r, ks = k0 :: r := by
    cases ks with
    | nil => exact absurd rfl (hne rfl)
    | cons a b => exact ⟨a, b, rfl⟩
  obtain ⟨ad, rfl, hkk⟩ : ∃ ad, A = some ad ∧ KidsIn w (k0 :: r) ad 0 := by simpa using hn
  clear hn hne
  unfold KidsIn at hkk
  obtain ⟨⟨A', c', k1, k2, k3, k4, k6⟩, -⟩ := hkk
  rw [show ad.add (0 * 4) = ad from by simp [Addr.add]] at k1 k2 k3 k4
  rw [textP_8 rfl]
  simp only [Nd.v]
  have HQ := fun W (hb : Below w.heap.size w W) => quoted_calls t W (hG.below hb) ht
  have HT := fun W (hb : Below w.heap.size w W) => ih k0 (List.mem_cons_self ..) A' c' W (hG.below hb) (k6.below hb) (hF.mem (List.mem_cons_self ..)) (by unfold wt wtL at hw; omega)
  have hqs : (bs (qT t.data.toList)).size ≤ 290 := qT_len _
  have hps : (bs (textP k0)).size ≤ 1099511627776 := by
    have := textP_len k0
    unfold wt wtL at hw
    show (textP k0).length ≤ _
    omega
  have hpc : (textPs (k0 :: r)).headD [] = textP k0 := by unfold textPs; rfl
  rw [hpc]
  clear hpc hw ih
  obtain ⟨q, hq⟩ : ∃ q, q = bs (qT t.data.toList) := ⟨_, rfl⟩
  obtain ⟨p, hp⟩ : ∃ p, p = bs (textP k0) := ⟨_, rfl⟩
  rw [← hq] at hqs
  rw [← hp] at hps
  simp only [← hq] at HQ
  simp only [← hp] at HT
  have hc1 : ¬ 9223372036854775807 < q.size + 1 := by omega
  have hc2 : ¬ 9223372036854775807 < q.size + 1 + p.size := by omega
  have Hq := Lib.hid hq
  have Hp := Lib.hid hp
  have HQ := Lib.hid HQ
  have HT := Lib.hid HT
  clear hq hp
  go_enter Tryz.func15, Tryz.ntmps15
  go_wp2_with fail
  have hbx : Below w.heap.size w (w.alloc (.cells #[.int .i64 8, .string t, .string v, .slice (some ad) (r.length + 1) c] 24)) := (Below.refl _ _).alloc (Nat.le_refl _) _
  go_region_held3 (fun w' => Below w.heap.size w w' ∧ w'.cell? ⟨w.heap.size, 1, none⟩ = some (.string t) ∧ w'.cell? ⟨w.heap.size, 3, none⟩ = some (.slice (some ad) (r.length + 1) c) ∧
      w'.cell? ad = some (.int .i64 k0.kind) ∧ w'.cell? ⟨ad.block, ad.off + 1, none⟩ = some (.string k0.text) ∧
      w'.cell? ⟨ad.block, ad.off + 2, none⟩ = some (.string k0.val) ∧ w'.cell? ⟨ad.block, ad.off + 3, none⟩ = some (.slice A' k0.kids.length c'))
    (first
      | (refine ⟨hbx.drew, ?_⟩; go_keep)
      | (go_split_ands
         refine ⟨by assumption, ?_, ?_, ?_, ?_, ?_, ?_⟩
         all_goals assumption)
      | (go_split_ands
         refine ⟨below_then (by assumption) (Below.size (by assumption)) hb1, ?_, ?_, ?_, ?_, ?_, ?_⟩
         all_goals exact cellB hb1 _ _ (by assumption)))
    (first
      | (go_at_call 26; refine (HQ.out _ ?_).mono ?_; (go_split_ands; assumption); rintro e w1 ⟨rfl, hb1⟩)
      | (go_at_call 15; refine (HT.out _ ?_).mono ?_; (go_split_ands; assumption); rintro e w1 ⟨rfl, hb1⟩))
  rename_i hS
  obtain ⟨hB, -, -, -, -, -, -⟩ := hS
  go_wp2_with fail
  go_ret
  exact ⟨ret_str (by rw [Hq.out, Hp.out, app_bs, app_bs, bs]; simp), hB⟩

set_option maxHeartbeats 1000000 in
set_option maxRecDepth 100000 in
theorem text_11 (t v : ByteArray) (ks : List Nd) : TextOk ⟨11, t, v, ks⟩ := by
  intro A c w hG hn hF hw
  unfold Nd.In at hn
  obtain ⟨hc, hl, ht, hv, hk, hn⟩ := hn
  rw [textP_11 rfl]
  simp only [Nd.v]
  have HQ := fun W (hb : Below w.heap.size w W) => quoted_calls t W (hG.below hb) ht
  have HT := fun W (hb : Below w.heap.size w W) => quoted_calls v W (hG.below hb) hv
  have hqs : (bs (qT t.data.toList)).size ≤ 290 := qT_len _
  have hps : (bs (qT v.data.toList)).size ≤ 290 := qT_len _
  clear hw hn hF
  obtain ⟨q, hq⟩ : ∃ q, q = bs (qT t.data.toList) := ⟨_, rfl⟩
  obtain ⟨p, hp⟩ : ∃ p, p = bs (qT v.data.toList) := ⟨_, rfl⟩
  rw [← hq] at hqs
  rw [← hp] at hps
  simp only [← hq] at HQ
  simp only [← hp] at HT
  have hc0 : ¬ 9223372036854775807 < 1 + q.size := by omega
  have hc1 : ¬ 9223372036854775807 < 1 + q.size + 1 := by omega
  have hc2 : ¬ 9223372036854775807 < 1 + q.size + 1 + p.size := by omega
  have Hq := Lib.hid hq
  have Hp := Lib.hid hp
  have HQ := Lib.hid HQ
  have HT := Lib.hid HT
  clear hq hp
  go_enter Tryz.func15, Tryz.ntmps15
  go_wp2_with fail
  have hbx : Below w.heap.size w (w.alloc (.cells #[.int .i64 11, .string t, .string v, .slice A ks.length c] 24)) := (Below.refl _ _).alloc (Nat.le_refl _) _
  go_region_held3 (fun w' => Below w.heap.size w w' ∧ w'.cell? ⟨w.heap.size, 1, none⟩ = some (.string t) ∧ w'.cell? ⟨w.heap.size, 2, none⟩ = some (.string v))
    (first
      | (refine ⟨hbx.drew, ?_⟩; go_keep)
      | (go_split_ands
         refine ⟨by assumption, ?_, ?_⟩
         all_goals assumption)
      | (go_split_ands
         refine ⟨below_then (by assumption) (Below.size (by assumption)) hb1, ?_, ?_⟩
         all_goals exact cellB hb1 _ _ (by assumption)))
    (first
      | (go_at_call_of 26 (Value.string t); refine (HQ.out _ ?_).mono ?_; (go_split_ands; assumption); rintro e w1 ⟨rfl, hb1⟩)
      | (go_at_call_of 26 (Value.string v); refine (HT.out _ ?_).mono ?_; (go_split_ands; assumption); rintro e w1 ⟨rfl, hb1⟩))
  rename_i hS
  obtain ⟨hB, -, -⟩ := hS
  go_wp2_with fail
  go_ret
  exact ⟨ret_str (by rw [Hq.out, Hp.out, app_bs, app_bs, app_bs, bs]; simp), hB⟩

set_option maxHeartbeats 1000000 in
set_option maxRecDepth 100000 in
theorem text_10 (t v : ByteArray) (ks : List Nd) (ih : ∀ k ∈ ks, TextOk k) : TextOk ⟨10, t, v, ks⟩ := by
  intro A c w hG hn hF hw
  unfold Nd.In at hn
  obtain ⟨hc, hl, ht, hv, hk, hn⟩ := hn
  unfold Fine at hF
  obtain ⟨-, -, hF⟩ := hF
  rw [textP_10 rfl]
  simp only [Nd.v]
  have hbx : Below w.heap.size w (w.alloc (.cells #[.int .i64 10, .string t, .string v, .slice A ks.length c] 24)) := (Below.refl _ _).alloc (Nat.le_refl _) _
  have hkb : ks = [] ∨ ∃ ad, A = some ad ∧ KidsIn (w.alloc (.cells #[.int .i64 10, .string t, .string v, .slice A ks.length c] 24)) ks ad 0 := by
    rcases hn with h | ⟨ad, h1, h2⟩
    · exact .inl h
    · exact .inr ⟨ad, h1, h2.below hbx⟩
  have hq1 := qT_len t.data.toList
  obtain ⟨q, hq⟩ : ∃ q, q = bs (qT t.data.toList) := ⟨_, rfl⟩
  have HQ := fun W (hb : Below w.heap.size w W) => quoted_calls t W (hG.below hb) ht
  simp only [← hq] at HQ
  obtain ⟨wb, hwb⟩ : ∃ wb, wb = w.alloc (.cells #[.int .i64 10, .string t, .string v, .slice A ks.length c] 24) := ⟨_, rfl⟩
  rw [← hwb] at hbx hkb
  have HP := fun (W : World) (g : Nat) (hb : Below wb.heap.size wb W) (ho : W.heap[g]? = some (.cells #[.string q] 9 (0, 0))) (hg : wb.heap.size ≤ g) =>
    parts_in wb (hG.below hbx) (bs [35, 60]) ks ih hF A c (.slice (some ⟨g, 0, none⟩) 1 1) [qT t.data.toList] W hb hl (by simp) hkb
      ⟨rfl, .inr ⟨g, 1, _, rfl, hg, ho, by simp, by unfold maxLen; omega, rfl, by simp [strV, hq]⟩⟩ (by show 2 ≤ _; omega) (by unfold wt at hw; simp only [sumL]; omega)
  have Hwb := Lib.hid hwb
  have HQ := Lib.hid HQ
  have HP := Lib.hid HP
  have Hq := Lib.hid hq
  have HN := Lib.hid hn
  clear hw hn hkb hwb hq ih
  go_enter Tryz.func15, Tryz.ntmps15
  go_wp2_with fail
  rw [← Hwb.out]
  have hc1 : wb.cell? ⟨w.heap.size, 1, none⟩ = some (.string t) := by rw [Hwb.out]; go_simp
  have hc3 : wb.cell? ⟨w.heap.size, 3, none⟩ = some (.slice A ks.length c) := by rw [Hwb.out]; go_simp
  go_region_held3 (fun w' => Below wb.heap.size wb w' ∧ w'.cell? ⟨w.heap.size, 1, none⟩ = some (.string t) ∧ w'.cell? ⟨w.heap.size, 3, none⟩ = some (.slice A ks.length c))
    (first
      | (refine ⟨(Below.refl _ _).drew, ?_⟩; go_keep)
      | exact ⟨hb2, cellB hb2 _ _ hc1, cellB hb2 _ _ hc3⟩
      | (go_split_ands
         refine ⟨by assumption, ?_, ?_⟩
         all_goals assumption)
      | (go_split_ands
         refine ⟨Below.alloc (by assumption) (Below.size (by assumption)) _, ?_, ?_⟩
         all_goals exact cellB ((Below.refl _ _).alloc (Nat.le_refl _) _) _ _ (by assumption))
      | (go_split_ands
         refine ⟨below_then (by assumption) (Below.size (by assumption)) hb1, ?_, ?_⟩
         all_goals exact cellB hb1 _ _ (by assumption)))
    (first
      | (go_at_call 26; refine (HQ.out _ ?_).mono ?_; (go_split_ands; exact below_then hbx hbx.size (by assumption)); rintro e w1 ⟨rfl, hb1⟩)
      | (go_at_call 27; refine (HP.out _ w1.heap.size ?_ (heap_alloc_new _ _) hb1.size).mono ?_; (go_split_ands; assumption); rintro e w2 ⟨rfl, hb2⟩))
  rename_i hS
  obtain ⟨hB, -, -⟩ := hS
  go_wp2_with fail
  go_ret
  exact ⟨rfl, below_then hbx hbx.size hB⟩

set_option maxHeartbeats 1000000 in
set_option maxRecDepth 100000 in
theorem text_5 (t v : ByteArray) (ks : List Nd) (ih : ∀ k ∈ ks, TextOk k) : TextOk ⟨5, t, v, ks⟩ := by
  intro A c w hG hn hF hw
  unfold Nd.In at hn
  obtain ⟨hc, hl, ht, hv, hk, hn⟩ := hn
  unfold Fine at hF
  obtain ⟨-, -, hF⟩ := hF
  rw [textP_5 rfl]
  simp only [Nd.v]
  have hbx : Below w.heap.size w (w.alloc (.cells #[.int .i64 5, .string t, .string v, .slice A ks.length c] 24)) := (Below.refl _ _).alloc (Nat.le_refl _) _
  have HP := Lib.hid (parts_in w hG (bs [40]) ks ih hF A c (.slice none 0 0) [] _ hbx hl (by simp) hn (World.ownsRow_nil _ _ _ _) (by show 1 ≤ _; omega) (by unfold wt at hw; simp only [sumL]; omega))
  clear hw hn ih
  go_enter Tryz.func15, Tryz.ntmps15
  go_wp2_with fail
  refine HP.out.mono ?_
  rintro e w1 ⟨rfl, hb1⟩
  go_wp2_with fail
  go_ret
  exact ⟨rfl, hb1⟩
set_option maxHeartbeats 1000000 in
set_option maxRecDepth 100000 in
theorem text_7 (t v : ByteArray) (ks : List Nd) (ih : ∀ k ∈ ks, TextOk k) : TextOk ⟨7, t, v, ks⟩ := by
  intro A c w hG hn hF hw
  unfold Nd.In at hn
  obtain ⟨hc, hl, ht, hv, hk, hn⟩ := hn
  unfold Fine at hF
  obtain ⟨-, -, hF⟩ := hF
  rw [textP_7 rfl]
  simp only [Nd.v]
  have hbx : Below w.heap.size w (w.alloc (.cells #[.int .i64 7, .string t, .string v, .slice A ks.length c] 24)) := (Below.refl _ _).alloc (Nat.le_refl _) _
  have HP := Lib.hid (parts_in w hG (bs [35, 40]) ks ih hF A c (.slice none 0 0) [] _ hbx hl (by simp) hn (World.ownsRow_nil _ _ _ _) (by show 2 ≤ _; omega) (by unfold wt at hw; simp only [sumL]; omega))
  clear hw hn ih
  go_enter Tryz.func15, Tryz.ntmps15
  go_wp2_with fail
  refine HP.out.mono ?_
  rintro e w1 ⟨rfl, hb1⟩
  go_wp2_with fail
  go_ret
  exact ⟨rfl, hb1⟩
set_option maxRecDepth 100000 in
theorem text_1 (t v : ByteArray) (ks : List Nd) : TextOk ⟨1, t, v, ks⟩ := by
  intro A c w hG hn hF hw
  rw [textP_1 rfl]
  simp only [Nd.v]
  clear hn hF hw
  go_enter Tryz.func15, Tryz.ntmps15
  go_wp2_with fail
  go_ret
  exact ⟨rfl, (Below.refl _ _).alloc (Nat.le_refl _) _⟩
set_option maxRecDepth 100000 in
theorem text_2 (t v : ByteArray) (ks : List Nd) : TextOk ⟨2, t, v, ks⟩ := by
  intro A c w hG hn hF hw
  unfold Nd.In at hn
  obtain ⟨hc, hl, ht, hv, hk, hn⟩ := hn
  unfold Fine at hF
  have h1 := hF.1 rfl
  rw [textP_2 rfl]
  simp only [Nd.v]
  clear hn hF hw
  go_enter Tryz.func15, Tryz.ntmps15
  go_wp2_with fail
  go_ret
  refine ⟨ret_str ?_, (Below.refl _ _).alloc (Nat.le_refl _) _⟩
  apply ByteArray.ext
  rw [ByteArray.data_append, ByteArray.data_extract]
  apply Array.ext'
  simp
set_option maxRecDepth 100000 in
theorem text_4 (t v : ByteArray) (ks : List Nd) : TextOk ⟨4, t, v, ks⟩ := by
  intro A c w hG hn hF hw
  unfold Nd.In at hn
  obtain ⟨hc, hl, ht, hv, hk, hn⟩ := hn
  rw [textP_4 rfl]
  simp only [Nd.v]
  have hbx : Below w.heap.size w (w.alloc (.cells #[.int .i64 4, .string t, .string v, .slice A ks.length c] 24)) := (Below.refl _ _).alloc (Nat.le_refl _) _
  have HQ := Lib.hid (quoted_calls t _ (hG.below hbx) ht)
  clear hn hF hw
  go_enter Tryz.func15, Tryz.ntmps15
  go_wp2_with fail
  refine HQ.out.mono ?_
  rintro e w1 ⟨rfl, hb1⟩
  go_wp2_with fail
  go_ret
  exact ⟨rfl, below_then hbx hbx.size hb1⟩
set_option maxRecDepth 100000 in
theorem text_0 (k : Int) (t v : ByteArray) (ks : List Nd) (h1 : k ≠ 1) (h2 : k ≠ 2) (h4 : k ≠ 4) (h5 : k ≠ 5) (h7 : k ≠ 7) (h8 : k ≠ 8) (h10 : k ≠ 10) (h11 : k ≠ 11) : TextOk ⟨k, t, v, ks⟩ := by
  intro A c w hG hn hF hw
  rw [textP_0 h1 h2 h4 h5 h7 h8 h10 h11]
  simp only [Nd.v]
  have b1 := beq_no' h1
  have b2 := beq_no' h2
  have b4 := beq_no' h4
  have b5 := beq_no' h5
  have b7 := beq_no' h7
  have b8 := beq_no' h8
  have b10 := beq_no' h10
  have b11 := beq_no' h11
  clear hn hF hw
  go_enter Tryz.func15, Tryz.ntmps15
  go_wp2_with fail
  go_ret
  exact ⟨rfl, (Below.refl _ _).alloc (Nat.le_refl _) _⟩

theorem text_calls : ∀ n : Nd, TextOk n := by
  refine Nd.ind ?_
  rintro ⟨k, t, v, ks⟩ ih
  by_cases h1 : k = 1
  · subst h1; exact text_1 t v ks
  by_cases h2 : k = 2
  · subst h2; exact text_2 t v ks
  by_cases h4 : k = 4
  · subst h4; exact text_4 t v ks
  by_cases h5 : k = 5
  · subst h5; exact text_5 t v ks ih
  by_cases h7 : k = 7
  · subst h7; exact text_7 t v ks ih
  by_cases h8 : k = 8
  · subst h8; exact text_8 t v ks ih
  by_cases h10 : k = 10
  · subst h10; exact text_10 t v ks ih
  by_cases h11 : k = 11
  · subst h11; exact text_11 t v ks
  exact text_0 k t v ks h1 h2 h4 h5 h7 h8 h10 h11
end Go.Proofs.YtngofdaciacglaaGreatDoor
