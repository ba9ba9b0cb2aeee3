/- Walks: inkparen.Print. -/
import Derived.Test.YtngofdaciacglaaGreatDoorText
import Derived.Test.YtngofdaciacglaaGreatDoorCarryOf
namespace Go.Proofs.YtngofdaciacglaaGreatDoor
open Go.RowKit Go.Lib

/-- What Print writes. -/
def printP (n : Nd) : List UInt8 := if mayE n = 0 then textP n else []

set_option maxHeartbeats 1000000 in
set_option maxRecDepth 100000 in
theorem print_calls (n : Nd) (A : Option Addr) (c : Nat) (w : World) (hG : Globs w) (hn : Nd.In w n A c) (hN : (evs n).length ≤ 1048576) (hw : wt n ≤ 1099511627776) (hF : mayE n = 0 → Fine n) :
    Calls Tryz.prog 8 #[n.v A c] w fun e w' => e = .returned (.tuple #[.string (bs (printP n)), .slice none 0 0, .int .i64 (mayE n)]) ∧ Below w.heap.size w w' := by
  have hb0 := (Below.refl w.heap.size w).alloc (Nat.le_refl _) (.cells #[.int .i64 n.kind, .string n.text, .string n.val, .slice A n.kids.length c] 24)
  have HO := Lib.hid (of_paren n A c _ (hG.below hb0) (hn.below hb0) hN)
  by_cases h0 : mayE n = 0
  · have HT := Lib.hid fun W (hb : Below w.heap.size w W) => text_calls n A c W (hG.below hb) (hn.below hb) (hF h0) hw
    have hp : printP n = textP n := if_pos h0
    rw [hp]
    rw [h0] at HO ⊢
    clear hp h0
    go_enter Tryz.func8, Tryz.ntmps8
    go_wp2_with fail
    refine HO.out.mono ?_
    rintro e w1 ⟨rfl, hb1⟩
    have hb2 := below_then hb0 hb0.size hb1
    obtain ⟨hc, hf⟩ := bcell hb1
    go_wp2_with fail
    refine (HT.out _ hb2).mono ?_
    rintro e w2 ⟨rfl, hb3⟩
    go_wp2_with fail
    go_ret3
    exact ⟨rfl, below_then hb2 hb2.size hb3⟩
  · have hp : printP n = [] := if_neg h0
    rw [hp]
    have b0 := beq_no' h0
    have b1 : (mayE n != 0) = true := by simp [bne, b0]
    obtain ⟨me, hme⟩ : ∃ me, me = mayE n := ⟨_, rfl⟩
    rw [← hme] at b1 b0 HO ⊢
    clear hp h0 hme hF
    go_enter Tryz.func8, Tryz.ntmps8
    go_wp2_with fail
    refine HO.out.mono ?_
    rintro e w1 ⟨rfl, hb1⟩
    have hb2 := below_then hb0 hb0.size hb1
    go_wp2_with fail
    go_ret3
    exact ⟨rfl, hb2⟩
end Go.Proofs.YtngofdaciacglaaGreatDoor
