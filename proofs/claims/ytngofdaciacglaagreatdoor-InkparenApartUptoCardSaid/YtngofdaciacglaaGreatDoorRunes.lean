/- Walks: src.Runes, events.may: is a text of whole characters? -/
import Derived.Test.YtngofdaciacglaaGreatDoorGlobs
import Derived.Outline
import Derived.Lib.OthersKept
import Derived.Lib.RuneCount
import Derived.Deep.LoopGhost
import Derived.WalkSmall
namespace Go.Proofs.YtngofdaciacglaaGreatDoor
open Go.RowKit Go.Lib

theorem valid_calls (s : ByteArray) (w : World) (hG : Globs w) (hs : s.size ≤ 1048576) :
    Calls Tryz.prog 106 #[.string s] w fun e w' => e = .returned (.bool (Lib.validD s.data.toList)) ∧ Below w.heap.size w w' := Tryz.utf8_ValidString s w (by omega) hG.utf8

theorem Tryz.info3 : (Tryz.prog.info? 3).map (fun i => (i.zero, i.size, i.bytes)) = some (some (.int .i64 0), 1, 8) := by kernel_rfl

set_option maxRecDepth 100000 in
theorem runes_calls (s : ByteArray) (w : World) (hG : Globs w) (hs : s.size ≤ 1048576) :
    Calls Tryz.prog 72 #[.string s] w fun e w' => (∃ A n c, e = .returned (.tuple #[.slice A n c, .bool (Lib.validD s.data.toList)])) ∧ Below w.heap.size w w' := by
  obtain ⟨i0, hi, hz0, hz1, hz2⟩ := info_parts Tryz.info3
  by_cases hv : Lib.validD s.data.toList = true
  · go_enter Tryz.func72, Tryz.ntmps72
    go_wp2_with fail
    refine (valid_calls s w hG hs).mono ?_
    rw [hv]
    rintro e w1 ⟨rfl, hb1⟩
    go_wp2_with fail
    have Hv := Lib.hid hv
    clear hv
    have hB0 : Below w.heap.size w (w1.iter s 0) := hb1.alloc hb1.size _
    have hz1' := hb1.size
    go_loopg [4] s.size (fun gk v wr => ∃ (pos n : Nat) (xs : List Value), Hid (gk = s.size - pos) ∧ n ≤ pos ∧ wr.heap[w1.heap.size]? = some (.stringIter s pos) ∧ wr.ownsRow (w1.heap.size + 1) 3 1 v n xs ∧ Below w.heap.size w wr)
    case atStart => exact ⟨0, 0, [], Lib.hid rfl, by omega, World.iter_heap _ _ _, World.ownsRow_nil _ _ _ _, hB0⟩
    case round =>
      obtain ⟨pos, n, xs, hgk, hn, hit, hown, hB⟩ := hrel
      obtain ⟨A', c', rfl⟩ := own_slice hown
      by_cases hlt : pos < s.size
      · have hnx := run_next_any_at (P := Tryz.prog) wr w1.heap.size s pos 0 hit hlt
        have hd1 := decode_le s pos
        have hd2 := decode_width_pos s pos hlt
        obtain ⟨W2, hW2⟩ : ∃ W2, W2 = wr.iterAt w1.heap.size s (pos + (Utf8.decode s pos).2) := ⟨_, rfl⟩
        have hown2 : W2.ownsRow (w1.heap.size + 1) 3 1 (.slice A' n c') n xs := by rw [hW2]; exact ownsRow_iterAt (k := w1.heap.size) hown (by omega) _ _
        have hit2 : W2.heap[w1.heap.size]? = some (.stringIter s (pos + (Utf8.decode s pos).2)) := by rw [hW2]; exact iterAt_heap _ _ _ _ _ hit
        have hB2 : Below w.heap.size w W2 := by rw [hW2]; exact below_iterAt hB hz1' _ _
        have hlt2 : w1.heap.size < W2.heap.size := (Array.getElem?_eq_some_iff.1 hit2).1
        rw [← hW2] at hnx
        obtain ⟨r, hr⟩ : ∃ r, r = (Utf8.decode s pos).1 := ⟨_, rfl⟩
        obtain ⟨q, hq⟩ : ∃ q, q = (Utf8.decode s pos).2 := ⟨_, rfl⟩
        rw [← hr] at hnx hd1
        rw [← hq] at hit2 hd2
        clear hW2 hr hq hit hown hB
        go_wp2_with (at_builtin; refine wpList_append_own _ rfl _ _ 27 rfl (w1.heap.size + 1) 3 i0 (.int .i64 0) 1 8 Tryz.underlying27 hi hz0 hz1 hz2 rfl (by decide) _ _ _ rfl (hown2.alloc _) ⟨W2.heap.size, 0, none⟩ 1 1 [.int .i64 r] rfl rfl (one_new _ _ _) (by simp [Value.oneCell']) (by unfold maxLen; omega) (by omega) (by simp; omega) ?_)
        intro v' w2 hown3 hgrow _
        have hB3 : Below w.heap.size w w2 := (hB2.alloc hB2.size _).grown hgrow (by have := hB2.size; simp; omega) (fun k hk => by have := own_base hown2 k hk; omega)
        have hit3 : w2.heap[w1.heap.size]? = some (.stringIter s (pos + q)) := by
          rw [hgrow.block _ (by simp; omega) (fun hk => by have := own_base hown2 _ hk.symm; omega), Below.heap_alloc _ _ _ hlt2]
          exact hit2
        clear hown2 hgrow hB2 hit2 hnx
        go_wp2_with fail
        go_roundg (s.size - (pos + q))
        case measure => have := hgk.out; omega
        case rel => exact ⟨pos + q, n + 1, _, Lib.hid rfl, by omega, hit3, hown3, hB3⟩
      · have hnx := run_next_end_at (P := Tryz.prog) wr w1.heap.size s pos 0 hit hlt
        go_wp2_with fail
        go_ret2
        exact ⟨⟨_, _, _, by rw [Hv.out]; rfl⟩, hB⟩
  · have hv' : Lib.validD s.data.toList = false := by simpa using hv
    go_enter Tryz.func72, Tryz.ntmps72
    go_wp2_with fail
    refine (valid_calls s w hG hs).mono ?_
    rw [hv']
    rintro e w1 ⟨rfl, hb1⟩
    go_wp2_with fail
    go_ret2
    exact ⟨⟨none, 0, 0, by rw [hv']; rfl⟩, hb1⟩

/-- May a text be? -/
def mayB (l : List UInt8) : Bool := Lib.validD l && decide (l.length ≤ 48)
theorem evmay_calls (s : ByteArray) (w : World) (hG : Globs w) (hs : s.size ≤ 1048576) :
    Calls Tryz.prog 120 #[.string s] w fun e w' => e = .returned (.bool (mayB s.data.toList)) ∧ Below w.heap.size w w' := by
  have Hm : Hid (mayB s.data.toList = (Lib.validD s.data.toList && decide ((s.size : Int) ≤ 48))) := by
    show _ = _
    unfold mayB; rw [data_length]; congr 1; simp; omega
  have hr := runes_calls s w hG hs
  cases hv : Lib.validD s.data.toList
  all_goals
    rw [hv] at hr Hm
    have Hr := Lib.hid hr
    clear hr hv
    go_enter Tryz.func120, Tryz.ntmps120
    go_wp2_with fail
    refine Hr.out.mono ?_
    rintro e w1 ⟨⟨A, n, c, rfl⟩, hb1⟩
    go_wp2_with fail
    go_ret
    exact ⟨by rw [Hm.out]; rfl, hb1⟩
end Go.Proofs.YtngofdaciacglaaGreatDoor
