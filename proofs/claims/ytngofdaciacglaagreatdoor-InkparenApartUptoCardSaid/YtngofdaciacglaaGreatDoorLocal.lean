/- Walks: names.Local. -/
import Derived.Test.YtngofdaciacglaaGreatDoorProg
import Derived.Test.YtngofdaciacglaaGreatDoorBase
import Derived.Outline
import Derived.Lib.ConvBytes
import Derived.WalkSmall
import Derived.Deep.DeepCutAuto
import Derived.Deep.CutBlock
import Derived.Deep.Cut
namespace Go.Proofs.YtngofdaciacglaaGreatDoor
open Go.RowKit

def letterB (b : UInt8) : Bool := (decide (97 ≤ bits .or .u8 (b.toNat : Int) 32) && decide (bits .or .u8 (b.toNat : Int) 32 ≤ 122)) || ((b.toNat : Int) == 95)
def moreB (b : UInt8) : Bool := (decide (48 ≤ (b.toNat : Int)) && decide ((b.toNat : Int) ≤ 57)) || ((b.toNat : Int) == 45) || ((b.toNat : Int) == 46)
def localGo : Bool → List UInt8 → Bool
  | _, [] => true
  | first, b :: r => (letterB b || (!first && moreB b)) && localGo false r
/-- Is a text a local name? -/
def localB (l : List UInt8) : Bool := !l.isEmpty && decide (l.length ≤ 16) && localGo true l

set_option maxRecDepth 100000 in
theorem local_calls (s : ByteArray) (w : World) (hs : s.size ≤ 1048576) :
    Calls Tryz.prog 99 #[.string s] w fun e w' => e = .returned (.bool (localB s.data.toList)) ∧ Below w.heap.size w w' := by
  have kb := fun W => Lib.run_convert_string_bytes (P := Tryz.prog) W 9 58 5 s Tryz.underlying9 Tryz.underlying58 Tryz.underlying5
  by_cases h0 : s.size = 0
  · have hne : s.toList = [] := List.eq_nil_of_length_eq_zero (by rw [size_toList]; exact h0)
    have hl : s.data.toList = [] := by rw [← ByteArray.toList_eq]; exact hne
    have hfin : localB s.data.toList = false := by rw [hl]; rfl
    have Hfin := Lib.hid hfin
    clear h0 hl hfin
    go_enter Tryz.func99, Tryz.ntmps99
    go_wp2_with fail
    go_ret
    exact ⟨by rw [Hfin.out]; rfl, Below.refl _ _⟩
  have h0' : 0 < s.size := by omega
  have hne : ¬ s.toList = [] := by intro h; have := size_toList s; rw [h] at this; simp at this; omega
  have hne2 : s.toList.isEmpty = false := by simpa using hne
  have hll : s.data.toList.length = s.size := data_length s
  by_cases h16 : 16 < s.size
  · have hfin : localB s.data.toList = false := by unfold localB; rw [hll]; simp; omega
    have Hfin := Lib.hid hfin
    clear h0 hfin hll
    go_enter Tryz.func99, Tryz.ntmps99
    go_wp2_with fail
    go_ret
    exact ⟨by rw [Hfin.out]; rfl, Below.refl _ _⟩
  have hfin : localB s.data.toList = localGo true s.data.toList := by
    have h2 : s.data.toList.isEmpty = false := by rw [← ByteArray.toList_eq]; exact hne2
    unfold localB; rw [hll, h2]; simp; intro _; omega
  have Hfin := Lib.hid hfin
  clear h0 hfin
  have Hll := Lib.hid hll
  clear hll
  go_enter Tryz.func99, Tryz.ntmps99
  go_wp2_with fail
  go_loopw [17] (fun i wr => ∃ pre rest : List UInt8, i = .int .i64 (pre.length : Nat) ∧ Hid (s.data.toList = pre ++ rest) ∧ Hid (localGo pre.isEmpty rest = localGo true s.data.toList) ∧ Below w.heap.size w wr ∧ w.heap.size < wr.heap.size ∧ (∀ j, j < s.size → wr.cell? ⟨w.heap.size, j, none⟩ = some (.int .u8 (s.data.toList.getD j 0).toNat)))
     (fun i _ => s.size - (intOf i).toNat)
  case atStart => exact ⟨[], s.data.toList, rfl, rfl, rfl, bytes_below (Below.refl _ _) (Nat.le_refl _) _ _, by rw [Lib.bytesWorld_size]; omega, fun j hj => Lib.bytesWorld_cell w 5 s j hj⟩
  case round =>
    obtain ⟨pre, rest, rfl, hl, hG, hB, hsz, hc⟩ := hrel
    cases rest with
    | nil =>
      have hlt : ¬ pre.length < s.size := by have := hl.out; have h2 := Hll.out; rw [this] at h2; simp at h2; omega
      have Hc := Lib.hid hc
      clear hc
      go_wp2_with fail
      go_ret
      exact ⟨by rw [Hfin.out, ← hG.out]; rfl, hB⟩
    | cons b rest =>
      have hlt : pre.length < s.size := by have := hl.out; have h2 := Hll.out; rw [this] at h2; simp at h2; omega
      have hck := hc pre.length hlt
      have hb : s.data.toList.getD pre.length 0 = b := by rw [hl.out]; simp
      rw [hb] at hck
      have Hc := Lib.hid hc
      clear hc hb
      go_upto_region 6 with (fail)
      go_cut [4, 5] (fun s4 s5 wx => s4 = .int .u8 (b.toNat : Int) ∧ s5 = .bool (letterB b) ∧ wx = wr)
      case first =>
        go_wp2_with fail
        all_goals (go_meet; exact ⟨by simp [*], congrArg Value.bool (by rw [Bool.eq_iff_iff]; simp only [letterB, Bool.and_eq_true, Bool.or_eq_true, decide_eq_true_eq, beq_iff_eq, true_iff]; omega), rfl⟩)
      case rest =>
        obtain ⟨rfl, rfl, rfl⟩ := hcut
        go_upto_region 7 with (fail)
        go_cut [4, 6] (fun s4 s6 wx => s4 = .int .u8 (b.toNat : Int) ∧ s6 = .bool (moreB b) ∧ wx = wc)
        case first =>
          go_wp2_with fail
          all_goals (go_meet; exact ⟨by simp [*], congrArg Value.bool (by rw [Bool.eq_iff_iff]; simp only [moreB, Bool.and_eq_true, Bool.or_eq_true, decide_eq_true_eq, beq_iff_eq, true_iff]; omega), rfl⟩)
        case rest =>
          obtain ⟨rfl, rfl, rfl⟩ := hcut
          by_cases hL : letterB b = true
          · have HG := Lib.hid (show localGo false rest = localGo true s.data.toList by rw [← hG.out]; simp [localGo, hL])
            have HG : Hid (localGo (pre ++ [b]).isEmpty rest = localGo true s.data.toList) := by have h := HG.out; cases pre <;> simpa [Hid] using h
            have HL : Hid (s.data.toList = (pre ++ [b]) ++ rest) := Lib.hid (hl.out.trans (by simp))
            clear hG
            go_wp2_with fail
            go_roundw
            case rel => exact ⟨pre ++ [b], rest, by simp, HL, HG, hB, hsz, Hc.out⟩
            case measure => simp [intOf]; omega
          · have hL' : letterB b = false := by simpa using hL
            have hG0 := hG.out
            clear hG
            by_cases hp : pre.length = 0
            · have hp0 : pre = [] := List.eq_nil_of_length_eq_zero hp
              have HF := Lib.hid (show localGo true s.data.toList = false by rw [← hG0, hp0]; simp [localGo, hL'])
              have hpe : ((pre.length : Int) == 0) = true := by rw [hp]; rfl
              clear hp hp0 hG0 hL
              go_wp2_with fail
              go_ret
              exact ⟨by rw [Hfin.out, HF.out]; rfl, hB⟩
            · have hpe : ((pre.length : Int) == 0) = false := by rw [beq_eq_false_iff_ne]; omega
              have hp1 : pre.isEmpty = false := by cases pre <;> simp at hp ⊢
              by_cases hM : moreB b = true
              · have HG := Lib.hid (show localGo false rest = localGo true s.data.toList by rw [← hG0, hp1]; simp [localGo, hM])
                have HG : Hid (localGo (pre ++ [b]).isEmpty rest = localGo true s.data.toList) := by have h := HG.out; cases pre <;> simpa [Hid] using h
                have HL : Hid (s.data.toList = (pre ++ [b]) ++ rest) := Lib.hid (hl.out.trans (by simp))
                clear hp hp1 hG0 hL
                go_wp2_with fail
                go_roundw
                case rel => exact ⟨pre ++ [b], rest, by simp, HL, HG, hB, hsz, Hc.out⟩
                case measure => simp [intOf]; omega
              · have hM' : moreB b = false := by simpa using hM
                have HF := Lib.hid (show localGo true s.data.toList = false by rw [← hG0, hp1]; simp [localGo, hM', hL'])
                clear hp hp1 hG0 hL hM
                go_wp2_with fail
                go_ret
                exact ⟨by rw [Hfin.out, HF.out]; rfl, hB⟩
end Go.Proofs.YtngofdaciacglaaGreatDoor
