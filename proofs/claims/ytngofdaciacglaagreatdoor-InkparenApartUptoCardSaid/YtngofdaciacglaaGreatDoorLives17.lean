/- Walks: law 17's lives: the document's example. -/
import Derived.Test.YtngofdaciacglaaGreatDoorInk
import Derived.Test.YtngofdaciacglaaGreatDoorFine
import Derived.Test.YtngofdaciacglaaGreatDoorCopied
namespace Go.Proofs.YtngofdaciacglaaGreatDoor
open Go.RowKit Go.Lib

/-- The document's example. -/
def nd17 : Nd := ⟨7, bs [], bs [], [⟨8, bs [97], bs [], [⟨5, bs [], bs [], [⟨3, bs [49], bs [], []⟩, ⟨4, bs [120], bs [], []⟩]⟩]⟩]⟩
theorem nd17_may : mayE nd17 = 0 := by decide +kernel
theorem nd17_text : printP nd17 = [35, 40, 34, 97, 34, 32, 40, 49, 32, 34, 120, 34, 41, 41] := by decide +kernel
theorem blk_new_at (w : World) {g : Nat} (o : Obj) (h : g = w.heap.size) : (w.alloc o).heap[g]? = some o := h ▸ blk_new w o
set_option maxHeartbeats 1000000 in
set_option maxRecDepth 100000 in
theorem lives17_calls (w : World) (hG : Globs w) : Calls Tryz.prog 7 #[] w fun e w' => e = .returned (.bool true) ∧ Below w.heap.size w w' := by
  go_enter Tryz.func7, Tryz.ntmps7
  go_wp2_with fail
  obtain ⟨W, hW⟩ : ∃ W, W = (((w.alloc (.cells #[.int .i64 3, .string ⟨#[49]⟩, .string ⟨#[]⟩, .slice none 0 0, .int .i64 4, .string ⟨#[120]⟩, .string ⟨#[]⟩, .slice none 0 0] 24)).alloc
      (.cells #[.int .i64 5, .string ⟨#[]⟩, .string ⟨#[]⟩, .slice (some ⟨w.heap.size, 0, none⟩) 2 2] 24)).alloc
      (.cells #[.int .i64 8, .string ⟨#[97]⟩, .string ⟨#[]⟩, .slice (some ⟨w.heap.size + 1, 0, none⟩) 1 1] 24)).alloc
      (.cells #[.int .i64 7, .string ⟨#[]⟩, .string ⟨#[]⟩, .slice (some ⟨w.heap.size + 1 + 1, 0, none⟩) 1 1] 24) := ⟨_, rfl⟩
  rw [← hW]
  have hB : Below w.heap.size w W := by
    rw [hW]
    exact ((((Below.refl _ _).alloc (Nat.le_refl _) _).alloc (by simp) _).alloc (by simp; omega) _).alloc (by simp; omega) _
  have e0 : W.heap[w.heap.size]? = some (.cells #[.int .i64 3, .string ⟨#[49]⟩, .string ⟨#[]⟩, .slice none 0 0, .int .i64 4, .string ⟨#[120]⟩, .string ⟨#[]⟩, .slice none 0 0] 24) := by
    rw [hW]; exact blk_alloc (blk_alloc (blk_alloc (blk_new _ _) _) _) _
  have e1 : W.heap[w.heap.size + 1]? = some (.cells #[.int .i64 5, .string ⟨#[]⟩, .string ⟨#[]⟩, .slice (some ⟨w.heap.size, 0, none⟩) 2 2] 24) := by
    rw [hW]; exact blk_alloc (blk_alloc (blk_new_at _ _ (by simp)) _) _
  have e2 : W.heap[w.heap.size + 1 + 1]? = some (.cells #[.int .i64 8, .string ⟨#[97]⟩, .string ⟨#[]⟩, .slice (some ⟨w.heap.size + 1, 0, none⟩) 1 1] 24) := by
    rw [hW]; exact blk_alloc (blk_new_at _ _ (by simp)) _
  clear hW
  have i64 : ∀ k : Int, 0 ≤ k → k ≤ 20 → InI64 k := fun k h1 h2 => ⟨by omega, by omega⟩
  have hn : Nd.InX (fun _ => True) W nd17 (some ⟨w.heap.size + 1 + 1, 0, none⟩) 1 := by
    refine Nd.InX.mk_ (ps := [(_, some ⟨w.heap.size + 1, 0, none⟩, 1)]) e2 rfl trivial ?_ (by simp) (by simp) (by decide) (by decide) (i64 7 (by omega) (by omega))
    rintro p hp
    obtain rfl := List.mem_singleton.1 hp
    refine Nd.InX.mk_ (ps := [(_, some ⟨w.heap.size, 0, none⟩, 2)]) e1 rfl trivial ?_ (by simp) (by simp) (by decide) (by decide) (i64 8 (by omega) (by omega))
    rintro p hp
    obtain rfl := List.mem_singleton.1 hp
    refine Nd.InX.mk_ (ps := [(⟨3, bs [49], bs [], []⟩, none, 0), (⟨4, bs [120], bs [], []⟩, none, 0)]) e0 rfl trivial ?_ (by simp) (by simp) (by decide) (by decide) (i64 5 (by omega) (by omega))
    rintro p hp
    rcases List.mem_cons.1 hp with rfl | hp
    · exact Nd.InX.leaf (by decide) (by decide) (i64 3 (by omega) (by omega))
    · obtain rfl := List.mem_singleton.1 hp
      exact Nd.InX.leaf (by decide) (by decide) (i64 4 (by omega) (by omega))
  have HP := print_calls nd17 _ _ W (hG.below hB) hn.in_ (by decide +kernel) (by decide +kernel) fine_of_may
  rw [nd17_may, nd17_text] at HP
  refine HP.mono ?_
  rintro e w1 ⟨rfl, hb1⟩
  have hB2 := below_then hB hB.size hb1
  clear HP e0 e1 e2 hn i64 hb1
  go_wp2_with fail
  go_ret
  exact ⟨rfl, hB2⟩
end Go.Proofs.YtngofdaciacglaaGreatDoor
