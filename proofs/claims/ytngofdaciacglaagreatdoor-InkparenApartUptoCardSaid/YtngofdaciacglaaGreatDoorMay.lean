/- Walks: tree.May. -/
import Derived.Test.YtngofdaciacglaaGreatDoorWalk2
namespace Go.Proofs.YtngofdaciacglaaGreatDoor
open Go.RowKit Go.Lib

set_option maxRecDepth 100000 in
theorem tmay_calls (n : Nd) (A : Option Addr) (c : Nat) (w : World) (hG : Globs w) (hn : Nd.In w n A c) (hN : (evs n).length ≤ 1048576) :
    Calls Tryz.prog 19 #[n.v A c] w fun e w' => e = .returned (.int .i64 (mayE n)) ∧ Below w.heap.size w w' := by
  have hb0 := (Below.refl w.heap.size w).alloc (Nat.le_refl _) (.cells #[.int .i64 n.kind, .string n.text, .string n.val, .slice A n.kids.length c] 24)
  have HW := Lib.hid (twalk_calls n A c _ (hG.below hb0) (hn.below hb0) hN)
  go_enter Tryz.func19, Tryz.ntmps19
  go_wp2_with fail
  refine HW.out.mono ?_
  rintro e w1 ⟨⟨s, rfl⟩, hb1⟩
  have hb1 := below_then hb0 hb0.size hb1
  go_wp2_with fail
  go_ret
  exact ⟨rfl, hb1⟩
end Go.Proofs.YtngofdaciacglaaGreatDoor
