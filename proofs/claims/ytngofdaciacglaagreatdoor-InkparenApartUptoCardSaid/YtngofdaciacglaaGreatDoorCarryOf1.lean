/- Walks: carry.Of's deferred closure, where nothing has panicked. -/
import Derived.Test.YtngofdaciacglaaGreatDoorMay
import Derived.Recover
namespace Go.Proofs.YtngofdaciacglaaGreatDoor
open Go.RowKit Go.Lib

set_option maxRecDepth 100000 in
theorem of1_deferred (p q : Nat) (w : World) : CallsD Tryz.prog 20 #[.pointer (some ⟨p, 0, none⟩), .pointer (some ⟨q, 0, none⟩)] .returning w fun e u' w' => u' = .returning ∧ e = .returned (.tuple #[]) ∧ Below w.heap.size w w' := by
  have hta : ∀ W, (Instr.typeAssert .nilIface 20 46 true).run Tryz.prog W = .ok (.tuple #[.agg #[.slice none 0 0], .bool false]) W := fun W => by kernel_rfl
  refine callsD_of_wpS Tryz.func20 rfl fun c₀ cs hu => ?_
  apply wpS_seq
  apply wpS_region
  simp [wpOpsS, go_sem, recoverD, hu, Tryz.ntmps20, Exit.thenS]
  refine wpS_of_wp ?_
  simp only [Array.replicate_succ, Array.replicate_zero, List.push_toArray, List.append_toArray, List.nil_append, List.cons_append, List.setIfInBounds_toArray, List.set_cons_succ, List.set_cons_zero]
  have hb0 := (Below.refl w.heap.size w).alloc (Nat.le_refl _) (.cells #[.slice none 0 0] 46)
  go_wp2_with fail
  cases c₀
  simp_all [bodyPostS, results, Tryz.results20]
end Go.Proofs.YtngofdaciacglaaGreatDoor
