/- Walks: num.May. -/
import Derived.Test.YtngofdaciacglaaGreatDoorNumStep
namespace Go.Proofs.YtngofdaciacglaaGreatDoor
open Go.RowKit

/-- The state behind some bytes. -/
def stN (l : List UInt8) : Int := l.foldl (fun s b => stepN s (b.toNat : Int)) 0
theorem stN_snoc (l : List UInt8) (b : UInt8) : stN (l ++ [b]) = stepN (stN l) (b.toNat : Int) := by simp [stN]
theorem stN_bd (l : List UInt8) : 0 ≤ stN l ∧ stN l ≤ 9 := by
  unfold stN
  suffices h : ∀ (l : List UInt8) (s : Int), 0 ≤ s ∧ s ≤ 9 → 0 ≤ l.foldl (fun s b => stepN s (b.toNat : Int)) s ∧ l.foldl (fun s b => stepN s (b.toNat : Int)) s ≤ 9 by exact h l 0 (by omega)
  intro l
  induction l with
  | nil => intro s h; exact h
  | cons b r ih => intro s _; exact ih _ (stepN_bd _ _)
/-- Is a text a number? -/
def isNum (l : List UInt8) : Bool := stN l == 2 || stN l == 3 || stN l == 5 || stN l == 8
def begins (l : List UInt8) : Bool := stN l != 9

set_option maxRecDepth 100000 in
theorem may_calls (s : ByteArray) (w : World) (hs : s.size ≤ 1048576) :
    Calls Tryz.prog 150 #[.string s] w fun e w' => e = .returned (.tuple #[.bool (begins s.data.toList), .bool (isNum s.data.toList)]) ∧ Below w.heap.size w w' := by
  have kb := fun W => Lib.run_convert_string_bytes (P := Tryz.prog) W 9 58 5 s Tryz.underlying9 Tryz.underlying58 Tryz.underlying5
  have Hll := Lib.hid (data_length s)
  go_enter Tryz.func150, Tryz.ntmps150
  go_wp2_with fail
  go_loopw [4, 10] (fun st i wr => ∃ pre rest : List UInt8, i = .int .i64 (pre.length : Nat) ∧ st = .int .i64 (stN pre) ∧ Hid (s.data.toList = pre ++ rest) ∧ Below w.heap.size w wr ∧ w.heap.size < wr.heap.size ∧ (∀ j, j < s.size → wr.cell? ⟨w.heap.size, j, none⟩ = some (.int .u8 (s.data.toList.getD j 0).toNat)))
     (fun _ i _ => s.size - (intOf i).toNat)
  case atStart => exact ⟨[], s.data.toList, rfl, rfl, rfl, bytes_below (Below.refl _ _) (Nat.le_refl _) _ _, by rw [Lib.bytesWorld_size]; omega, fun j hj => Lib.bytesWorld_cell w 5 s j hj⟩
  case round =>
    obtain ⟨pre, rest, rfl, rfl, hl, hB, hsz, hc⟩ := hrel
    have hbd := stN_bd pre
    cases rest with
    | nil =>
      have hlt : ¬ pre.length < s.size := by have := hl.out; have h2 := Hll.out; rw [this] at h2; simp at h2; omega
      have hp : s.data.toList = pre := by rw [hl.out]; simp
      have Hc := Lib.hid hc
      have Hp := Lib.hid hp
      clear hc hp
      obtain ⟨st, hst⟩ : ∃ st, st = stN pre := ⟨_, rfl⟩
      rw [← hst] at hbd ⊢
      have Hst := Lib.hid hst
      clear hst
      go_wp2_with fail
      all_goals go_ret2
      all_goals (go_light; refine ⟨?_, hB⟩; rw [Hp.out]; unfold begins isNum; rw [← Hst.out]; simp_all)
    | cons b rest =>
      have hlt : pre.length < s.size := by have := hl.out; have h2 := Hll.out; rw [this] at h2; simp at h2; omega
      have hck := hc pre.length hlt
      have hb : s.data.toList.getD pre.length 0 = b := by rw [hl.out]; simp
      rw [hb] at hck
      have Hc := Lib.hid hc
      have HL : Hid (s.data.toList = (pre ++ [b]) ++ rest) := Lib.hid (hl.out.trans (by simp))
      clear hc hb
      go_wp2_with (go_at_call 158; refine (step_calls _ _ hbd.1 hbd.2 _).mono ?_; rintro e w' ⟨rfl, rfl⟩)
      go_roundw
      case rel => exact ⟨pre ++ [b], rest, by simp, by rw [stN_snoc], HL, hB, hsz, Hc.out⟩
      case measure => simp [intOf]; omega
end Go.Proofs.YtngofdaciacglaaGreatDoor
