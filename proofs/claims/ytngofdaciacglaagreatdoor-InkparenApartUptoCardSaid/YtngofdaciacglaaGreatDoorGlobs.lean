/- What the walks ask of the package variables. -/
import Derived.Test.YtngofdaciacglaaGreatDoorShelf
import Derived.Test.YtngofdaciacglaaGreatDoorBase
import Derived.Lib.SmallJoins
namespace Go.Proofs.YtngofdaciacglaaGreatDoor
open Go.RowKit

/-- The package variables that the library's functions read hold what they hold. -/
structure Globs (w : World) : Prop where
  maxLen : ∃ m : Int, w.cell? ⟨2, 0, none⟩ = some (.int .i64 m)
  utf8 : Lib.Utf8Tabs 0 1 w
  pow : Lib.TabIs Tryz.prog w "internal/strconv.uint64pow10" .u64 Lib.pow10Tab
  range : ∃ ev, w.cell? ⟨5, 0, none⟩ = some ev ∧ (ev = .nilIface ∨ ∃ te pe, ev = .iface te pe)
  synt : ∃ ev, w.cell? ⟨4, 0, none⟩ = some ev ∧ (ev = .nilIface ∨ ∃ te pe, ev = .iface te pe)

theorem Globs.below {w w1 : World} (h : Globs w) (hb : Below w.heap.size w w1) : Globs w1 := by
  obtain ⟨⟨m, hm⟩, hu, hp, ⟨ev, hv, hev⟩, ⟨es, hs, hes⟩⟩ := h
  exact ⟨⟨m, cellB hb _ _ hm⟩, Utf8Tabs_below hu hb, Go.Joins.tab_stays (g := 6) (by kernel_rfl) hp hb (Nat.le_refl _), ⟨ev, cellB hb _ _ hv, hev⟩, ⟨es, cellB hb _ _ hs, hes⟩⟩
theorem drewN_below (w : World) (n : Nat) : Below w.heap.size w (w.drewN n) := by
  induction n with
  | zero => exact Below.refl _ _
  | succ n ih => rw [← World.drew_drewN]; exact ih.drew
theorem Globs.drewN {w : World} (h : Globs w) (n : Nat) : Globs (w.drewN n) := h.below (drewN_below w n)
end Go.Proofs.YtngofdaciacglaaGreatDoor
