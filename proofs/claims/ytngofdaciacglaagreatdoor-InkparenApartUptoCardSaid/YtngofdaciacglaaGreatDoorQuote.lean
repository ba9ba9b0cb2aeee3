/- Walks: quote.Print. -/
import Derived.Test.YtngofdaciacglaaGreatDoorCtl
import Derived.Test.YtngofdaciacglaaGreatDoorRunes
import Derived.StillTailTactics
import Derived.Lib.ConvBytes
namespace Go.Proofs.YtngofdaciacglaaGreatDoor
open Go.RowKit Go.Lib

/-- The bytes of a text between quotes, as the Builder's cells. -/
abbrev u8s (l : List UInt8) : List Value := l.map fun b => Value.int .u8 b.toNat
theorem u8s_len (l : List UInt8) : (u8s l).length = l.length := List.length_map _
theorem u8s_str (l : List UInt8) : Lib.strCells ⟨l.toArray⟩ = u8s l := rfl

/-- What stands between two rounds: the Builder in block b, the text's bytes in block X. -/
def QInv (w : World) (s : ByteArray) (b X : Nat) (pre : List UInt8) (W : World) : Prop :=
  Below w.heap.size w W ∧ X < W.heap.size ∧ (∀ j, j < s.size → W.cell? ⟨X, j, none⟩ = some (.int .u8 (s.data.toList.getD j 0).toNat)) ∧
  ∃ g, BAt b b g (u8s (34 :: pre.flatMap qB)) W ∧ g ≠ X

theorem QInv.write {w : World} {s : ByteArray} {b X : Nat} {pre : List UInt8} {c : UInt8} {g g' : Nat} {W W' : World} {more : List UInt8}
    (hB : Below w.heap.size w W) (hX : X < W.heap.size) (hc : ∀ j, j < s.size → W.cell? ⟨X, j, none⟩ = some (.int .u8 (s.data.toList.getD j 0).toNat)) (hgX : g ≠ X) (hbX : b ≠ X) (hwb : w.heap.size ≤ b)
    (hq : qB c = more) (h1 : BAt b b g' (u8s (34 :: pre.flatMap qB) ++ u8s more) W') (h2 : g' = g ∨ W.heap.size ≤ g') (h3 : Others b g W W') (h4 : Below b W W') : QInv w s b X (pre ++ [c]) W' := by
  refine ⟨hB.trans (h4.mono hwb), Nat.lt_of_lt_of_le hX h3.size, fun j hj => ?_, g', ?_, by omega⟩
  · rw [World.cell?_of_block (h3.at_ X hX (Ne.symm hbX) (Ne.symm hgX))]
    exact hc j hj
  · rw [List.flatMap_append, List.flatMap_cons, List.flatMap_nil, List.append_nil, hq]
    simpa [u8s] using h1

theorem beq_no' {a b : Int} (h : ¬ a = b) : (a == b) = false := by simpa using h
theorem enc34 : (⟨#[92]⟩ : ByteArray) ++ Utf8.encode 34 = bs [92, 34] := by decide +kernel
theorem enc92 : (⟨#[92]⟩ : ByteArray) ++ Utf8.encode 92 = bs [92, 92] := by decide +kernel
theorem BAt.drew {B b g : Nat} {bs : List Value} {w : World} (h : BAt B b g bs w) : BAt B b g bs w.drew := by
  obtain ⟨hB, ⟨cap, h1, h2⟩, hn⟩ := h
  exact ⟨hB, ⟨cap, h1, h2.drew⟩, hn⟩
theorem BAt.below {B b g : Nat} {bs : List Value} {w w1 : World} (h : BAt B b g bs w) (hb : Below w.heap.size w w1) : BAt B b g bs w1 := by
  obtain ⟨hB, ⟨cap, h1, h2⟩, hn⟩ := h
  refine ⟨hB, ⟨cap, blk_below h1 hb, h2.1, ?_⟩, hn⟩
  rcases h2.2 with h | ⟨g', cap', cur, e1, e2, e3, e4⟩
  · exact .inl h
  · exact .inr ⟨g', cap', cur, e1, e2, blk_below e3 hb, e4⟩
theorem still_of {P : Program} {ops : Array Oper} {w : World} {o : Oper} {a : Act} {K : Act → Prop} {s : Sem Value} {x : Value} (hg : o.guard = none) (he : execOp a.eval o = (do let r ← s; pure (.value r))) (hs : s.run P w = .ok x w) (hk : K (a.put o.dst x)) :
    if Region.wanted o (yielded ops a.tmps) = true then o.still P a w K else K (a.put o.dst undef) := by
  rw [if_pos (by simp [Region.wanted, hg])]
  unfold Oper.still
  rw [he, Sem.run_bind, hs]
  exact (Oper.stillUpon_value o a w K x).symm ▸ hk
theorem fits6 (pre : List UInt8) (n : Nat) (h : pre.length ≤ 48) (hn : n ≤ 6) : (u8s (34 :: pre.flatMap qB)).length + n ≤ 140737488355328 := by
  have := flat_len pre
  rw [u8s_len, List.length_cons]
  omega

set_option maxHeartbeats 4000000 in
set_option maxRecDepth 100000 in
theorem qprint_ok (s : ByteArray) (w : World) (hs : s.size ≤ 48)
    (HR : Hid (Calls Tryz.prog 72 #[.string s] w fun e w' => (∃ A n c, e = .returned (.tuple #[.slice A n c, .bool true])) ∧ Below w.heap.size w w')) :
    Calls Tryz.prog 44 #[.string s] w fun e w' => e = .returned (.tuple #[.string (bs (quoteL s.data.toList)), .int .i64 0]) ∧ Below w.heap.size w w' := by
  have kb := fun W => Lib.run_convert_string_bytes (P := Tryz.prog) W 9 58 5 s Tryz.underlying9 Tryz.underlying58 Tryz.underlying5
  have Hll := Lib.hid (data_length s)
  go_enter Tryz.func44, Tryz.ntmps44
  go_wp2_with fail
  refine HR.out.mono ?_
  rintro e w1 ⟨⟨A, n, c, rfl⟩, hb1⟩
  go_wp2_with fail
  refine (bbyte_calls w1.heap.size w1.heap.size [] 34 _ (.inl ⟨Nat.le_refl _, .slice none 0 0, heap_alloc_new _ _, World.ownsRow_nil _ _ _ _, by simp [Value.ownBlock]⟩) (by simp) (by simp)).mono ?_
  rintro e w2 ⟨rfl, hA, hb2⟩
  obtain ⟨g, hA, hg⟩ := BAt.of hA (by simp)
  have hBw : Below w.heap.size w w2 := (hb1.alloc hb1.size _).trans (hb2.mono hb1.size)
  have hwb := hb1.size
  go_wp2_with fail
  go_loopw [23] (fun i wr => ∃ pre rest : List UInt8, i = .int .i64 (pre.length : Nat) ∧ Hid (s.data.toList = pre ++ rest) ∧ QInv w s w1.heap.size w2.heap.size pre wr)
     (fun i _ => s.size - (intOf i).toNat)
  case atStart => exact ⟨[], s.data.toList, rfl, rfl, bytes_below hBw hBw.size _ _, by rw [Lib.bytesWorld_size]; omega, fun j hj => Lib.bytesWorld_cell w2 5 s j hj, g, hA.below (bytes_below (Below.refl _ _) (Nat.le_refl _) _ _), by omega⟩
  case round =>
    obtain ⟨pre, rest, rfl, hl, hq⟩ := hrel
    cases rest with
    | nil =>
      have hlt : ¬ pre.length < s.size := by have := hl.out; have h2 := Hll.out; rw [this] at h2; simp at h2; omega
      have Hl := Lib.hid hl
      clear hl
      obtain ⟨q1, q2, q3, g, q4, q5⟩ := hq
      have Q3 := Lib.hid q3
      clear q3
      have hpl : pre.length ≤ 48 := by have := Hl.out.out; have h2 := Hll.out; rw [this] at h2; simp at h2; omega
      go_wp2_with fail
      refine (bbyte2_calls w1.heap.size w1.heap.size g _ 34 wr q4 (fits6 pre 1 hpl (by omega)) (by simp)).mono ?_
      rintro e w3 ⟨rfl, g', h1, -, -, h4⟩
      have hB3 : Below w.heap.size w w3 := q1.trans (h4.mono hwb)
      have e34 : u8s (34 :: pre.flatMap qB) ++ [.int .u8 34] = Lib.byteCells (quoteL s.data.toList) := by
        have := Hl.out.out; rw [this]; simp [u8s, Lib.byteCells, quoteL]
      rw [e34] at h1
      have H1 := Lib.hid h1.at_
      clear h1 h4 q4 e34
      go_wp2_with fail
      refine (Tryz.Builder_String w1.heap.size w1.heap.size (quoteL s.data.toList) _ (.inr H1.out) (by simp [quoteL])).mono ?_
      rintro e w4 ⟨rfl, h5⟩
      have hB4 : Below w.heap.size w w4 := hB3.trans (h5.mono hwb)
      go_wp2_with fail
      go_ret2
      exact ⟨rfl, hB4⟩
    | cons b rest =>
      have hlt : pre.length < s.size := by have := hl.out; have h2 := Hll.out; rw [this] at h2; simp at h2; omega
      obtain ⟨hB, hX, hc, g, hb, hgX⟩ := hq
      have hck := hc pre.length hlt
      have hb0 : s.data.toList.getD pre.length 0 = b := by rw [hl.out]; simp
      rw [hb0] at hck
      have Hc := Lib.hid hc
      have HL : Hid (s.data.toList = (pre ++ [b]) ++ rest) := Lib.hid (hl.out.trans (by simp))
      clear hc hb0 hl
      have hcases : b = 34 ∨ b = 92 ∨ b = 10 ∨ b = 9 ∨ b = 13 ∨ ((b.toNat : Int) ≠ 34 ∧ (b.toNat : Int) ≠ 92 ∧ (b.toNat : Int) ≠ 10 ∧ (b.toNat : Int) ≠ 9 ∧ (b.toNat : Int) ≠ 13) := by
        have h : ∀ n : Nat, n < 256 → ((b.toNat : Int) = n → b = n.toUInt8) := fun n hn e => by
          have : b.toNat = n := by omega
          subst this; simp
        have := h 34 (by omega); have := h 92 (by omega); have := h 10 (by omega); have := h 9 (by omega); have := h 13 (by omega)
        by_cases a1 : (b.toNat : Int) = 34
        · left; exact h 34 (by omega) a1
        by_cases a2 : (b.toNat : Int) = 92
        · right; left; exact h 92 (by omega) a2
        by_cases a3 : (b.toNat : Int) = 10
        · right; right; left; exact h 10 (by omega) a3
        by_cases a4 : (b.toNat : Int) = 9
        · right; right; right; left; exact h 9 (by omega) a4
        by_cases a5 : (b.toNat : Int) = 13
        · right; right; right; right; left; exact h 13 (by omega) a5
        exact .inr (.inr (.inr (.inr (.inr ⟨a1, a2, a3, a4, a5⟩))))
      have hpl : pre.length ≤ 48 := by omega
      have hn0 : 0 < (u8s (34 :: pre.flatMap qB)).length := by simp
      have hbX : w1.heap.size ≠ w2.heap.size := Nat.ne_of_lt hA.lt.1
      rcases hcases with rfl | rfl | rfl | rfl | rfl | ⟨a1, a2, a3, a4, a5⟩
      · have hck : wr.cell? ⟨w2.heap.size, pre.length, none⟩ = some (.int .u8 34) := hck
        go_wp2_with fail
        rw [enc34]
        refine (bstr2_calls w1.heap.size w1.heap.size g _ (bs [92, 34]) wr hb (fits6 pre 2 hpl (by omega)) hn0).mono ?_
        rintro e w3 ⟨rfl, g', h1, h2, h3, h4⟩
        have HQ := Lib.hid (QInv.write (c := 34) (more := [92, 34]) hB hX Hc.out hgX hbX hwb rfl h1 h2 h3 h4)
        clear h1 h2 h3 h4
        go_wp2_with fail
        go_roundw
        case rel => exact ⟨pre ++ [34], rest, by simp, HL, HQ.out⟩
        case measure => simp [intOf]; omega
      · have hck : wr.cell? ⟨w2.heap.size, pre.length, none⟩ = some (.int .u8 92) := hck
        go_wp2_with fail
        rw [enc92]
        refine (bstr2_calls w1.heap.size w1.heap.size g _ (bs [92, 92]) wr hb (fits6 pre 2 hpl (by omega)) hn0).mono ?_
        rintro e w3 ⟨rfl, g', h1, h2, h3, h4⟩
        have HQ := Lib.hid (QInv.write (c := 92) (more := [92, 92]) hB hX Hc.out hgX hbX hwb rfl h1 h2 h3 h4)
        clear h1 h2 h3 h4
        go_wp2_with fail
        go_roundw
        case rel => exact ⟨pre ++ [92], rest, by simp, HL, HQ.out⟩
        case measure => simp [intOf]; omega
      · have hck : wr.cell? ⟨w2.heap.size, pre.length, none⟩ = some (.int .u8 10) := hck
        go_wp2_with fail
        refine (bstr2_calls w1.heap.size w1.heap.size g _ (bs [92, 110]) wr hb (fits6 pre 2 hpl (by omega)) hn0).mono ?_
        rintro e w3 ⟨rfl, g', h1, h2, h3, h4⟩
        have HQ := Lib.hid (QInv.write (c := 10) (more := [92, 110]) hB hX Hc.out hgX hbX hwb rfl h1 h2 h3 h4)
        clear h1 h2 h3 h4
        go_wp2_with fail
        go_roundw
        case rel => exact ⟨pre ++ [10], rest, by simp, HL, HQ.out⟩
        case measure => simp [intOf]; omega
      · have hck : wr.cell? ⟨w2.heap.size, pre.length, none⟩ = some (.int .u8 9) := hck
        go_wp2_with fail
        refine (bstr2_calls w1.heap.size w1.heap.size g _ (bs [92, 116]) wr hb (fits6 pre 2 hpl (by omega)) hn0).mono ?_
        rintro e w3 ⟨rfl, g', h1, h2, h3, h4⟩
        have HQ := Lib.hid (QInv.write (c := 9) (more := [92, 116]) hB hX Hc.out hgX hbX hwb rfl h1 h2 h3 h4)
        clear h1 h2 h3 h4
        go_wp2_with fail
        go_roundw
        case rel => exact ⟨pre ++ [9], rest, by simp, HL, HQ.out⟩
        case measure => simp [intOf]; omega
      · have hck : wr.cell? ⟨w2.heap.size, pre.length, none⟩ = some (.int .u8 13) := hck
        go_wp2_with fail
        refine (bstr2_calls w1.heap.size w1.heap.size g _ (bs [92, 114]) wr hb (fits6 pre 2 hpl (by omega)) hn0).mono ?_
        rintro e w3 ⟨rfl, g', h1, h2, h3, h4⟩
        have HQ := Lib.hid (QInv.write (c := 13) (more := [92, 114]) hB hX Hc.out hgX hbX hwb rfl h1 h2 h3 h4)
        clear h1 h2 h3 h4
        go_wp2_with fail
        go_roundw
        case rel => exact ⟨pre ++ [13], rest, by simp, HL, HQ.out⟩
        case measure => simp [intOf]; omega
      · have b1 := beq_no' a1
        have b2 := beq_no' a2
        have b3 := beq_no' a3
        have b4 := beq_no' a4
        have b5 := beq_no' a5
        have hlo : (0 : Int) ≤ b.toNat := by omega
        have hhi : (b.toNat : Int) ≤ 255 := by have := b.toNat_lt; omega
        by_cases h32 : (b.toNat : Int) < 32
        · obtain ⟨hi, d1, lo, d2, s1, s2, s3, k1, k2, k3, k4, k5, k6, k7, k8⟩ := ctl_any b (by omega) (by omega) (by omega) (by omega)
          have K1 := Lib.hid k1
          have K2 := Lib.hid k2
          have K3 := Lib.hid k3
          have K4 := Lib.hid k4
          have K5 := Lib.hid k5
          have K6 := Lib.hid k6
          have K7 := Lib.hid k7
          have K8 := Lib.hid k8
          clear k1 k2 k3 k4 k5 k6 k7 k8
          go_wp2_with fail
          refine wp_region_still_tail 10 (by kernel_rfl) (by kernel_rfl) ?_
          simp only [List.take_succ_cons, List.take_zero, List.drop_succ_cons, List.drop_zero]
          still_step
          refine wpStill_step (fun K hK => still_of (s := do eqGuard .shr 5 (.tmp 56) (.const (.int .u64 4)) (.int .u8 b.toNat) (.int .u64 4); binOp .shr 5 (.int .u8 b.toNat) (.int .u64 4)) rfl rfl (K1.out _) (hK _ ?_))
          refine wpStill_step (fun K hK => still_of (s := Instr.index 9 (.string ⟨#[48, 49]⟩) (.int .u8 hi)) rfl rfl (K2.out _) (hK _ ?_))
          refine wpStill_step (fun K hK => still_of (s := Go.convert 5 9 (.int .u8 d1)) rfl rfl (K3.out _) (hK _ ?_))
          refine wpStill_step (fun K hK => still_of (s := do eqGuard .add 9 (.const (.string ⟨#[92, 117, 48, 48]⟩)) (.tmp 59) (.string ⟨#[92, 117, 48, 48]⟩) (.string s1); binOp .add 9 (.string ⟨#[92, 117, 48, 48]⟩) (.string s1)) rfl rfl (K4.out _) (hK _ ?_))
          go_simp
          still_step
          refine wpStill_step (fun K hK => still_of (s := do eqGuard .and 5 (.tmp 61) (.const (.int .u8 15)) (.int .u8 b.toNat) (.int .u8 15); binOp .and 5 (.int .u8 b.toNat) (.int .u8 15)) rfl rfl (K5.out _) (hK _ ?_))
          refine wpStill_step (fun K hK => still_of (s := Instr.index 9 (.string ⟨#[48, 49, 50, 51, 52, 53, 54, 55, 56, 57, 97, 98, 99, 100, 101, 102]⟩) (.int .u8 lo)) rfl rfl (K6.out _) (hK _ ?_))
          refine wpStill_step (fun K hK => still_of (s := Go.convert 5 9 (.int .u8 d2)) rfl rfl (K7.out _) (hK _ ?_))
          refine wpStill_step (fun K hK => still_of (s := do eqGuard .add 9 (.tmp 60) (.tmp 64) (.string s2) (.string s3); binOp .add 9 (.string s2) (.string s3)) rfl rfl (K8.out _) (hK _ ?_))
          refine wpStill_nil ?_
          change wpList _ _ _ _ _ wr.drew
          obtain ⟨wd, hwd⟩ : ∃ wd, wd = wr.drew := ⟨_, rfl⟩
          rw [← hwd]
          have hb : BAt w1.heap.size w1.heap.size g (u8s (34 :: pre.flatMap qB)) wd := by rw [hwd]; exact hb.drew
          have hB : Below w.heap.size w wd := by rw [hwd]; exact hB.drew
          have hX : w2.heap.size < wd.heap.size := by rw [hwd]; exact hX
          have hc : ∀ j, j < s.size → wd.cell? ⟨w2.heap.size, j, none⟩ = some (.int .u8 (s.data.toList.getD j 0).toNat) := by rw [hwd]; exact Hc.out
          have Hc := Lib.hid hc
          clear hwd hc hck
          go_wp2_with fail
          have h6 := qB_len b
          refine (bstr2_calls w1.heap.size w1.heap.size g _ (bs (qB b)) wd hb (by have := fits6 pre (qB b).length hpl h6; exact this) hn0).mono ?_
          rintro e w3 ⟨rfl, g', h1, h2, h3, h4⟩
          have HQ := Lib.hid (QInv.write (c := b) (more := qB b) hB hX Hc.out hgX hbX hwb rfl h1 h2 h3 h4)
          clear h1 h2 h3 h4
          go_wp2_with fail
          go_roundw
          case rel => exact ⟨pre ++ [b], rest, by simp, HL, HQ.out⟩
          case measure => simp [intOf]; omega
        · go_wp2_with fail
          refine (bbyte2_calls w1.heap.size w1.heap.size g _ b.toNat wr hb (fits6 pre 1 hpl (by omega)) hn0).mono ?_
          rintro e w3 ⟨rfl, g', h1, h2, h3, h4⟩
          have hq : qB b = [b] := by
            have h : ∀ n : Nat, n < 256 → (b.toNat : Int) ≠ n → b ≠ n.toUInt8 := fun n hn e h => e (by subst h; simp; omega)
            unfold qB
            have := h 34 (by omega) a1; have := h 92 (by omega) a2; have := h 10 (by omega) a3; have := h 9 (by omega) a4; have := h 13 (by omega) a5
            have : ¬ b < 32 := by rw [UInt8.lt_iff_toNat_lt]; simp; omega
            simp_all
          have HQ := Lib.hid (QInv.write (c := b) (more := [b]) hB hX Hc.out hgX hbX hwb hq h1 h2 h3 h4)
          clear h1 h2 h3 h4 hq
          go_wp2_with fail
          go_roundw
          case rel => exact ⟨pre ++ [b], rest, by simp, HL, HQ.out⟩
          case measure => simp [intOf]; omega

/-- What quote.Print answers: the error. -/
def qE (l : List UInt8) : Int := if Lib.validD l = true then (if 48 < l.length then 4 else 0) else 3
/-- .. and the text. -/
def qT (l : List UInt8) : List UInt8 := if qE l = 0 then quoteL l else []
set_option maxRecDepth 100000 in
theorem qprint_calls (s : ByteArray) (w : World) (hG : Globs w) (hs : s.size ≤ 1048576) :
    Calls Tryz.prog 44 #[.string s] w fun e w' => e = .returned (.tuple #[.string (bs (qT s.data.toList)), .int .i64 (qE s.data.toList)]) ∧ Below w.heap.size w w' := by
  have hR := runes_calls s w hG hs
  have hl := data_length s
  cases hv : Lib.validD s.data.toList
  · rw [hv] at hR
    have he : qE s.data.toList = 3 := by unfold qE; rw [hv]; rfl
    have ht : qT s.data.toList = [] := by unfold qT; rw [he]; rfl
    rw [he, ht]
    have HR := Lib.hid hR
    clear hR he ht hv hl
    go_enter Tryz.func44, Tryz.ntmps44
    go_wp2_with fail
    refine HR.out.mono ?_
    rintro e w1 ⟨⟨A, n, c, rfl⟩, hb1⟩
    go_wp2_with fail
    go_ret2
    exact ⟨rfl, hb1⟩
  · rw [hv] at hR
    by_cases h48 : 48 < s.size
    · have he : qE s.data.toList = 4 := by unfold qE; rw [hv, hl, if_pos rfl, if_pos h48]
      have ht : qT s.data.toList = [] := by unfold qT; rw [he]; rfl
      rw [he, ht]
      have HR := Lib.hid hR
      clear hR he ht hv hl
      go_enter Tryz.func44, Tryz.ntmps44
      go_wp2_with fail
      refine HR.out.mono ?_
      rintro e w1 ⟨⟨A, n, c, rfl⟩, hb1⟩
      go_wp2_with fail
      go_ret2
      exact ⟨rfl, hb1⟩
    · have he : qE s.data.toList = 0 := by unfold qE; rw [hv, hl, if_pos rfl, if_neg h48]
      have ht : qT s.data.toList = quoteL s.data.toList := by unfold qT; rw [he]; rfl
      rw [he, ht]
      exact qprint_ok s w (by omega) (Lib.hid hR)
end Go.Proofs.YtngofdaciacglaaGreatDoor
