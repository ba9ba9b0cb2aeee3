/- Walks: num.value.form, num.may, num.Read. -/
import Derived.Test.YtngofdaciacglaaGreatDoorNumRead
import Derived.Lib.ItoaLen
namespace Go.Proofs.YtngofdaciacglaaGreatDoor
open Go.RowKit Go.Lib

theorem wrap64_in (n : Int) : InI64 (wrap64 n) := by unfold InI64 wrap64; omega
theorem itoa_len (n : Int) (h : InI64 n) : (Lib.itoa n).length ≤ 21 := Lib.itoa_length_le n h.1 h.2
theorem grow_below (W : World) (k : Nat) (os : Array Obj) : Below W.heap.size W (Go.Sort.grow (W.drewN k) os) := by
  have h := drewN_below W k
  refine h.trans ⟨rfl, rfl, rfl, ?_, ?_⟩
  · simp [Go.Sort.grow]
  · intro i hi
    have hs := h.size
    show (((W.drewN k).heap ++ os)[i]? = (W.drewN k).heap[i]?)
    rw [Array.getElem?_append_left (by omega)]
/-- A value's normal form. -/
def formL (b : Bool) (d : List UInt8) (p : Int) : List UInt8 :=
  if d = [] then [48] else (if b then 45 :: d else d) ++ (if p = 0 then [] else 101 :: Lib.itoa p)
theorem strconv_itoa (n : Int) (h : InI64 n) (w : World) (hG : Globs w) :
    Calls Tryz.prog 143 #[.int .i64 n] w fun e w' => e = .returned (.string (bs (Lib.itoa n))) ∧ Below w.heap.size w w' :=
  (Tryz.strconv_Itoa n h.1 h.2 w hG.pow).mono fun e w' ⟨he, k, os, hw⟩ => ⟨he, by rw [hw]; exact grow_below w k os⟩
theorem ret_bs {a : ByteArray} {l : List UInt8} (h : a.data.toList = l) : Ending.returned (.string a) = .returned (.string (bs l)) := by
  subst h; rfl

set_option maxRecDepth 100000 in
theorem form_calls (b : Bool) (d : List UInt8) (p : Int) (hd : d.length ≤ 60) (hp : InI64 p) (w : World) (hG : Globs w) :
    Calls Tryz.prog 134 #[.agg #[.bool b, .string (bs d), .int .i64 p]] w fun e w' => e = .returned (.string (bs (formL b d p))) ∧ Below w.heap.size w w' := by
  by_cases h0 : d = []
  · subst h0
    go_enter Tryz.func134, Tryz.ntmps134
    go_wp2_with fail
    go_ret
    exact ⟨rfl, (Below.refl _ _).alloc (Nat.le_refl _) _⟩
  · have hne : d.isEmpty = false := by simpa using h0
    have hsz : (bs d).size ≤ 60 := by rw [size_bs]; exact hd
    have HI := Lib.hid (fun W hG => strconv_itoa p hp W hG)
    have hl := itoa_len p hp
    have hl2 : (bs (Lib.itoa p)).size ≤ 21 := by rw [size_bs]; exact hl
    have h2 : (⟨#[101]⟩ ++ bs (Lib.itoa p)).size ≤ 22 := by rw [ByteArray.size_append, size_bs]; simp [ByteArray.size]; omega
    have h3 : (⟨#[45]⟩ ++ bs d).size ≤ 61 := by rw [ByteArray.size_append, size_bs]; simp [ByteArray.size]; omega
    cases b
    · by_cases hz : p = 0
      · subst hz
        have HF := Lib.hid (show formL false d 0 = d by simp [formL, h0])
        go_enter Tryz.func134, Tryz.ntmps134
        go_wp2_with fail
        go_ret
        exact ⟨by rw [HF.out]; rfl, (Below.refl _ _).alloc (Nat.le_refl _) _⟩
      · have hz2 : (p == 0) = false := by simpa using hz
        have HF := Lib.hid (show formL false d p = d ++ 101 :: Lib.itoa p by simp [formL, h0, hz])
        go_enter Tryz.func134, Tryz.ntmps134
        go_wp2_with fail
        refine (HI.out _ (hG.below ((Below.refl _ _).alloc (Nat.le_refl _) _))).mono ?_
        rintro e w1 ⟨rfl, hb1⟩
        have hb1 := below_then ((Below.refl w.heap.size w).alloc (Nat.le_refl _) _) (by simp) hb1
        go_wp2_with fail
        go_ret
        exact ⟨ret_bs (by rw [HF.out]; simp), hb1⟩
    · by_cases hz : p = 0
      · subst hz
        have HF := Lib.hid (show formL true d 0 = 45 :: d by simp [formL, h0])
        go_enter Tryz.func134, Tryz.ntmps134
        go_wp2_with fail
        go_ret
        exact ⟨ret_bs (by rw [HF.out]; simp), (Below.refl _ _).alloc (Nat.le_refl _) _⟩
      · have hz2 : (p == 0) = false := by simpa using hz
        have HF := Lib.hid (show formL true d p = (45 :: d) ++ 101 :: Lib.itoa p by simp [formL, h0, hz])
        go_enter Tryz.func134, Tryz.ntmps134
        go_wp2_with fail
        refine (HI.out _ (hG.below ((Below.refl _ _).alloc (Nat.le_refl _) _))).mono ?_
        rintro e w1 ⟨rfl, hb1⟩
        have hb1 := below_then ((Below.refl w.heap.size w).alloc (Nat.le_refl _) _) (by simp) hb1
        go_wp2_with fail
        go_ret
        exact ⟨ret_bs (by rw [HF.out]; simp), hb1⟩

theorem numRead_in {l : List UInt8} {b : Bool} {d : List UInt8} {p : Int} (h : numRead l = some (b, d, p)) : InI64 p ∧ d.length ≤ 60 := by
  unfold numRead at h
  split at h
  · rename_i hc
    simp only [Bool.and_eq_true, decide_eq_true_eq] at hc
    simp only at h
    split at h
    · simp only [Option.some.injEq, Prod.mk.injEq] at h
      obtain ⟨_, rfl, rfl⟩ := h
      exact ⟨by unfold InI64; omega, by simp⟩
    · simp only [Option.some.injEq, Prod.mk.injEq] at h
      obtain ⟨_, rfl, rfl⟩ := h
      refine ⟨wrap64_in _, ?_⟩
      have h1 := trimP_len l [45]
      have h2 := cut_len (Lib.toLowerA (Lib.trimPrefix l [45])) [101]
      have h3 := cut_len (Lib.cut (Lib.toLowerA (Lib.trimPrefix l [45])) [101]).1 [46]
      have h5 : (Lib.toLowerA (Lib.trimPrefix l [45])).length = (Lib.trimPrefix l [45]).length := by unfold Lib.toLowerA; simp
      have h4 := trimL_len ((Lib.cut (Lib.cut (Lib.toLowerA (Lib.trimPrefix l [45])) [101]).1 [46]).1 ++ (Lib.cut (Lib.cut (Lib.toLowerA (Lib.trimPrefix l [45])) [101]).1 [46]).2.1) 48
      rw [List.length_append] at h4
      unfold Lib.trimRightB
      rw [List.length_reverse]
      refine Nat.le_trans ((List.dropWhile_sublist _).length_le) ?_
      rw [List.length_reverse]
      omega
  · cases h
/-- A number's value, if it has a normal form. -/
def numMay (l : List UInt8) : Option (Bool × List UInt8 × Int) :=
  match numRead l with
  | some (b, d, p) => if p > 999 ∨ p < -999 ∨ (formL b d p).length > 30 then none else some (b, d, p)
  | none => none
/-- Is there none? -/
def errO {α : Type} (e : Int) : Option α → Int | some _ => 0 | none => e

set_option maxRecDepth 100000 in
set_option maxHeartbeats 1000000 in
theorem nmay_calls (s : ByteArray) (w : World) (hG : Globs w) (hs : s.size ≤ 1048576) :
    Calls Tryz.prog 133 #[.string s] w fun e w' => e = .returned (.tuple #[numV (numMay s.data.toList), .int .i64 (errO 8 (numMay s.data.toList))]) ∧ Below w.heap.size w w' := by
  have hr := fun W hG => read_calls s W hG hs
  cases hn : numRead s.data.toList with
  | none =>
    have HF := Lib.hid (show numMay s.data.toList = none by simp [numMay, hn])
    rw [hn] at hr
    have HR := Lib.hid hr
    clear hr hn
    go_enter Tryz.func133, Tryz.ntmps133
    go_wp2_with fail
    refine (HR.out _ (hG.below ((Below.refl _ _).alloc (Nat.le_refl _) _))).mono ?_
    rintro e w1 ⟨rfl, hb1⟩
    have hk := blk_below (blk_new w _) hb1
    have hb1 := below_then ((Below.refl w.heap.size w).alloc (Nat.le_refl _) _) (by simp) hb1
    have hk := blk_alloc hk (.cells #[.bool false, .string (bs []), .int .i64 0] 134)
    have hc := blk_cell hk
    have hf := blk_frozen hk
    unfold numV
    go_wp2_with fail
    ((try simp only [Exit.inBlock, Exit.then]); refine post_ct rfl rfl (blk_set (blk_set (blk_set hk 0 _) 1 _) 2 _) rfl Tryz.underlying134 rfl (by kernel_rfl) ?_)
    exact ⟨by rw [HF.out]; rfl, ((((hb1.alloc hb1.size _).setCell (p := ⟨w.heap.size, 0, none⟩) (Nat.le_refl _) _).setCell (p := ⟨w.heap.size, 1, none⟩) (Nat.le_refl _) _).setCell (p := ⟨w.heap.size, 2, none⟩) (Nat.le_refl _) _)⟩
  | some v =>
    obtain ⟨b, d, p⟩ := v
    obtain ⟨hp, hd⟩ := numRead_in hn
    rw [hn] at hr
    have HR := Lib.hid hr
    have HC := Lib.hid (fun W hG => form_calls b d p hd hp W hG)
    by_cases hq : p > 999 ∨ p < -999
    · have HF := Lib.hid (show numMay s.data.toList = none by simp only [numMay, hn]; rw [if_pos]; rcases hq with h | h; exact .inl h; exact .inr (.inl h))
      clear hr hn
      rcases hq with hq | hq
      all_goals
        go_enter Tryz.func133, Tryz.ntmps133
        go_wp2_with fail
        refine (HR.out _ (hG.below ((Below.refl _ _).alloc (Nat.le_refl _) _))).mono ?_
        rintro e w1 ⟨rfl, hb1⟩
        have hk := blk_below (blk_new w _) hb1
        have hb1 := below_then ((Below.refl w.heap.size w).alloc (Nat.le_refl _) _) (by simp) hb1
        have hk := blk_alloc hk (.cells #[.bool b, .string (bs d), .int .i64 p] 134)
        have hc := blk_cell hk
        have hf := blk_frozen hk
        unfold numV
        go_wp2_with fail
        ((try simp only [Exit.inBlock, Exit.then]); refine post_ct rfl rfl (blk_set (blk_set (blk_set hk 0 _) 1 _) 2 _) rfl Tryz.underlying134 rfl (by kernel_rfl) ?_)
        exact ⟨by rw [HF.out]; rfl, ((((hb1.alloc hb1.size _).setCell (p := ⟨w.heap.size, 0, none⟩) (Nat.le_refl _) _).setCell (p := ⟨w.heap.size, 1, none⟩) (Nat.le_refl _) _).setCell (p := ⟨w.heap.size, 2, none⟩) (Nat.le_refl _) _)⟩
    · have hq1 : p ≤ 999 := by omega
      have hq2 : -999 ≤ p := by omega
      have HFF := Lib.hid (show numMay s.data.toList = if (formL b d p).length > 30 then none else some (b, d, p) by simp only [numMay, hn, show ¬ p > 999 by omega, show ¬ p < -999 by omega, false_or])
      generalize formL b d p = r at HC HFF
      clear hr hn hq
      by_cases h30 : r.length ≤ 30
      all_goals
        go_enter Tryz.func133, Tryz.ntmps133
        go_wp2_with fail
        refine (HR.out _ (hG.below ((Below.refl _ _).alloc (Nat.le_refl _) _))).mono ?_
        rintro e w1 ⟨rfl, hb1⟩
        have hk := blk_below (blk_new w _) hb1
        have hb1 := below_then ((Below.refl w.heap.size w).alloc (Nat.le_refl _) _) (by simp) hb1
        have hk := blk_alloc hk (.cells #[.bool b, .string (bs d), .int .i64 p] 134)
        unfold numV
        go_wp2_with fail
        refine (HC.out _ (hG.below (hb1.alloc hb1.size _))).mono ?_
        rintro e w2 ⟨rfl, hb2⟩
        have hk4 := blk_below (blk_new w1 _) hb2
        have hk := blk_below hk hb2
        have hb2 := below_then (hb1.alloc hb1.size _) (by have := hb1.size; simp; omega) hb2
        have hc := blk_cell hk
        have hf := blk_frozen hk
        have hc4 := blk_cell hk4
        have hf4 := blk_frozen hk4
        go_wp2_with fail
        ((try simp only [Exit.inBlock, Exit.then]); refine post_ct rfl rfl (blk_set (blk_set (blk_set hk 0 _) 1 _) 2 _) rfl Tryz.underlying134 rfl (by kernel_rfl) ?_)
      · exact ⟨by rw [HFF.out, if_neg (by omega)]; rfl, (((hb2.setCell (p := ⟨w.heap.size, 0, none⟩) (Nat.le_refl _) _).setCell (p := ⟨w.heap.size, 1, none⟩) (Nat.le_refl _) _).setCell (p := ⟨w.heap.size, 2, none⟩) (Nat.le_refl _) _)⟩
      · exact ⟨by rw [HFF.out, if_pos (by omega)]; rfl, (((hb2.setCell (p := ⟨w.heap.size, 0, none⟩) (Nat.le_refl _) _).setCell (p := ⟨w.heap.size, 1, none⟩) (Nat.le_refl _) _).setCell (p := ⟨w.heap.size, 2, none⟩) (Nat.le_refl _) _)⟩
/-- A number's normal form. -/
def numNorm (l : List UInt8) : Option (List UInt8) := (numMay l).map fun v => formL v.1 v.2.1 v.2.2

set_option maxRecDepth 100000 in
set_option maxHeartbeats 1000000 in
theorem nread_calls (s : ByteArray) (w : World) (hG : Globs w) (hs : s.size ≤ 1048576) :
    Calls Tryz.prog 119 #[.string s] w fun e w' => e = .returned (.tuple #[.string (bs ((numNorm s.data.toList).getD [])), .int .i64 (errO 8 (numNorm s.data.toList))]) ∧ Below w.heap.size w w' := by
  have hr := fun W hG => nmay_calls s W hG hs
  cases hn : numMay s.data.toList with
  | none =>
    have HF := Lib.hid (show numNorm s.data.toList = none by simp [numNorm, hn])
    rw [hn] at hr
    have HR := Lib.hid hr
    clear hr hn
    go_enter Tryz.func119, Tryz.ntmps119
    go_wp2_with fail
    refine (HR.out _ hG).mono ?_
    rintro e w1 ⟨rfl, hb1⟩
    unfold numV errO
    go_wp2_with fail
    go_ret2
    exact ⟨by rw [HF.out]; rfl, hb1.alloc hb1.size _⟩
  | some v =>
    obtain ⟨b, d, p⟩ := v
    have hi : InI64 p ∧ d.length ≤ 60 := by
      unfold numMay at hn
      split at hn
      · rename_i b' d' p' h
        split at hn
        · cases hn
        · simp only [Option.some.injEq, Prod.mk.injEq] at hn
          obtain ⟨rfl, rfl, rfl⟩ := hn
          exact numRead_in h
      · cases hn
    have HF := Lib.hid (show numNorm s.data.toList = some (formL b d p) by simp [numNorm, hn])
    rw [hn] at hr
    have HR := Lib.hid hr
    have HC := Lib.hid (fun W hG => form_calls b d p hi.2 hi.1 W hG)
    clear hr hn
    go_enter Tryz.func119, Tryz.ntmps119
    go_wp2_with fail
    refine (HR.out _ hG).mono ?_
    rintro e w1 ⟨rfl, hb1⟩
    unfold numV errO
    go_wp2_with fail
    refine (HC.out _ (hG.below (hb1.alloc hb1.size _))).mono ?_
    rintro e w2 ⟨rfl, hb2⟩
    have hb2 := below_then (hb1.alloc hb1.size _) (by have := hb1.size; simp; omega) hb2
    go_wp2_with fail
    go_ret2
    exact ⟨by rw [HF.out]; rfl, hb2⟩
end Go.Proofs.YtngofdaciacglaaGreatDoor
