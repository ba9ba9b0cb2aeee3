/- Walks: law 17: few, InkparenStays. -/
import Derived.Test.YtngofdaciacglaaGreatDoorLives17
import Derived.Test.YtngofdaciacglaaGreatDoorSame
namespace Go.Proofs.YtngofdaciacglaaGreatDoor
open Go.RowKit Go.Lib

set_option maxRecDepth 100000 in
theorem few17_calls (n : Nd) (A : Option Addr) (c : Nat) (w : World) (hn : Nd.In w n A c) :
    Calls Tryz.prog 6 #[n.v A c] w fun e w' => e = .returned (.bool (decide (0 ≤ few n 200 20))) ∧ Below w.heap.size w w' := by
  have hb0 := (Below.refl w.heap.size w).alloc (Nat.le_refl _) (.cells #[.int .i64 n.kind, .string n.text, .string n.val, .slice A n.kids.length c] 24)
  have HF := Lib.hid (few_calls n A c 200 20 _ (hn.below hb0) (by omega) (by omega) (by omega) (by omega))
  obtain ⟨fw, hfw⟩ : ∃ fw, fw = few n 200 20 := ⟨_, rfl⟩
  rw [← hfw] at HF ⊢
  clear hfw
  go_enter Tryz.func6, Tryz.ntmps6
  go_wp2_with fail
  refine HF.out.mono ?_
  rintro e w1 ⟨rfl, hb1⟩
  go_wp2_with fail
  all_goals go_ret
  all_goals exact ⟨rfl, below_then hb0 hb0.size hb1⟩

mutual
theorem same_refl : ∀ n : Nd, sameNd n n = true
  | ⟨k, t, v, ks⟩ => by unfold sameNd; simp [sameL_refl ks]
theorem sameL_refl : ∀ ks : List Nd, sameL ks ks = true
  | [] => by unfold sameL; rfl
  | n :: ns => by unfold sameL; rw [same_refl n, sameL_refl ns]; rfl
end

set_option maxHeartbeats 1000000 in
set_option maxRecDepth 100000 in
theorem stays17_calls (n : Nd) (A : Option Addr) (c : Nat) (w : World) (hG : Globs w) (hn : Nd.In w n A c) :
    Calls Tryz.prog 5 #[n.v A c] w fun e w' => e = .returned (.bool true) ∧ Below w.heap.size w w' := by
  have hb0 := (Below.refl w.heap.size w).alloc (Nat.le_refl _) (.cells #[.int .i64 n.kind, .string n.text, .string n.val, .slice A n.kids.length c] 24)
  have HF := few17_calls n A c _ (hn.below hb0)
  have HL := Lib.hid fun W (hb : Below w.heap.size w W) => lives17_calls W (hG.below hb)
  by_cases h : 0 ≤ few n 200 20
  case neg =>
    rw [decide_eq_false h] at HF
    have HF := Lib.hid HF
    clear h
    go_enter Tryz.func5, Tryz.ntmps5
    go_wp2_with fail
    refine HF.out.mono ?_
    rintro e w1 ⟨rfl, hb1⟩
    have hB1 := below_then hb0 hb0.size hb1
    go_wp2_with fail
    refine (HL.out _ hB1).mono ?_
    rintro e w2 ⟨rfl, hb2⟩
    go_wp2_with fail
    go_ret
    exact ⟨rfl, below_then hB1 hB1.size hb2⟩
  obtain ⟨he, hw⟩ := few_gives h hn
  rw [decide_eq_true h] at HF
  have HF := Lib.hid HF
  have HC := Lib.hid fun W (hb : Below w.heap.size w W) => copied_calls n A c W (hn.below hb)
  have HP := Lib.hid fun A c W (hb : Below w.heap.size w W) (hi : Nd.In W n A c) => print_calls n A c W (hG.below hb) hi he hw fine_of_may
  have HS := fun A c B d W (hi : Nd.In W n A c) (hj : Nd.In W n B d) => same_calls n A c n B d W hi hj
  simp only [same_refl] at HS
  have HS := Lib.hid HS
  obtain ⟨me, hme⟩ : ∃ me, me = mayE n := ⟨_, rfl⟩
  obtain ⟨tx, htx⟩ : ∃ tx, tx = bs (printP n) := ⟨_, rfl⟩
  rw [← hme, ← htx] at HP
  clear hme htx h he hw
  have HN := Lib.hid hn
  clear hn
  go_enter Tryz.func5, Tryz.ntmps5
  go_wp2_with fail
  refine HF.out.mono ?_
  rintro e w1 ⟨rfl, hb1⟩
  have hB1 := below_then hb0 hb0.size hb1
  obtain ⟨hc1, hf1⟩ := bcell hb1
  have hz1 := hb1.size
  simp only [World.size_alloc] at hz1
  go_wp2_with fail
  refine (HC.out _ hB1).mono ?_
  rintro e w2 ⟨A2, c2, rfl, hX, hb2⟩
  have hB2 := below_then hB1 hB1.size hb2
  go_wp2_with fail
  have bk3 := blk_alloc (blk_below (blk_below (blk_new w (.cells #[.int .i64 n.kind, .string n.text, .string n.val, .slice A n.kids.length c] 24)) hb1) hb2) (.cells #[.int .i64 n.kind, .string n.text, .string n.val, .slice A2 n.kids.length c2] 24)
  have k3 := blk_new w2 (.cells #[.int .i64 n.kind, .string n.text, .string n.val, .slice A2 n.kids.length c2] 24)
  have hm3 := hX.in_.below ((Below.refl _ _).alloc (Nat.le_refl _) (.cells #[.int .i64 n.kind, .string n.text, .string n.val, .slice A2 n.kids.length c2] 24))
  have hB3 := hB2.alloc hB2.size (.cells #[.int .i64 n.kind, .string n.text, .string n.val, .slice A2 n.kids.length c2] 24)
  refine (HP.out A2 c2 _ hB3 hm3).mono ?_
  rintro e w4 ⟨rfl, hb4⟩
  have bk4 := blk_below bk3 hb4
  have k4 := blk_below k3 hb4
  have hm4 := hm3.below hb4
  have hB4 := below_then hB3 hB3.size hb4
  clear bk3 k3 hm3 hB3 hb4 hX hb2 hc1 hf1 hz1 hb1
  have p0 : w4.cell? ⟨w.heap.size, 0, none⟩ = some (.int .i64 n.kind) := blk_cell bk4 0
  have p1 : w4.cell? ⟨w.heap.size, 1, none⟩ = some (.string n.text) := blk_cell bk4 1
  have p2 : w4.cell? ⟨w.heap.size, 2, none⟩ = some (.string n.val) := blk_cell bk4 2
  have p3 : w4.cell? ⟨w.heap.size, 3, none⟩ = some (.slice A n.kids.length c) := blk_cell bk4 3
  have BK4 := Lib.hid bk4
  have K4 := Lib.hid k4
  clear bk4 k4
  go_wp2_with fail
  refine (HP.out A c _ hB4 (HN.out.below hB4)).mono ?_
  rintro e w5 ⟨rfl, hb5⟩
  have bk5 := blk_below BK4.out hb5
  have k5 := blk_below K4.out hb5
  have hm5 := hm4.below hb5
  have hB5 := below_then hB4 hB4.size hb5
  clear p0 p1 p2 p3
  have p0 : w5.cell? ⟨w.heap.size, 0, none⟩ = some (.int .i64 n.kind) := blk_cell bk5 0
  have p1 : w5.cell? ⟨w.heap.size, 1, none⟩ = some (.string n.text) := blk_cell bk5 1
  have p2 : w5.cell? ⟨w.heap.size, 2, none⟩ = some (.string n.val) := blk_cell bk5 2
  have p3 : w5.cell? ⟨w.heap.size, 3, none⟩ = some (.slice A n.kids.length c) := blk_cell bk5 3
  have q0 : w5.cell? ⟨w2.heap.size, 0, none⟩ = some (.int .i64 n.kind) := blk_cell k5 0
  have q1 : w5.cell? ⟨w2.heap.size, 1, none⟩ = some (.string n.text) := blk_cell k5 1
  have q2 : w5.cell? ⟨w2.heap.size, 2, none⟩ = some (.string n.val) := blk_cell k5 2
  have q3 : w5.cell? ⟨w2.heap.size, 3, none⟩ = some (.slice A2 n.kids.length c2) := blk_cell k5 3
  clear bk5 k5 hb5
  go_wp2_with fail
  refine (HS.out A2 c2 A c _ hm5 (HN.out.below hB5)).mono ?_
  rintro e w6 ⟨rfl, hb6⟩
  have hB6 := below_then hB5 hB5.size hb6
  clear p0 p1 p2 p3 q0 q1 q2 q3 hm5 hm4 hb6
  go_wp2_with fail
  refine (HL.out _ hB6).mono ?_
  rintro e w7 ⟨rfl, hb7⟩
  go_wp2_with fail
  go_ret
  exact ⟨rfl, below_then hB6 hB6.size hb7⟩
end Go.Proofs.YtngofdaciacglaaGreatDoor
