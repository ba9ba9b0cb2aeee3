/- Walks: law 17: InkparenApart. -/
import Derived.Test.YtngofdaciacglaaGreatDoorStays17
import Derived.Test.YtngofdaciacglaaGreatDoorApartP2
namespace Go.Proofs.YtngofdaciacglaaGreatDoor
open Go.RowKit Go.Lib

/-- Two nodes in boxes: what the cells hold. -/
theorem box_cells {W : World} {g : Nat} {n : Nd} {A : Option Addr} {c : Nat} {ty : TypeId} (h : W.heap[g]? = some (.cells #[.int .i64 n.kind, .string n.text, .string n.val, .slice A n.kids.length c] ty)) :
    W.cell? ⟨g, 0, none⟩ = some (.int .i64 n.kind) ∧ W.cell? ⟨g, 1, none⟩ = some (.string n.text) ∧ W.cell? ⟨g, 2, none⟩ = some (.string n.val) ∧ W.cell? ⟨g, 3, none⟩ = some (.slice A n.kids.length c) :=
  ⟨blk_cell h 0, blk_cell h 1, blk_cell h 2, blk_cell h 3⟩

set_option maxHeartbeats 2000000 in
set_option maxRecDepth 100000 in
theorem apart17_calls (a : Nd) (A : Option Addr) (c : Nat) (b : Nd) (B : Option Addr) (d : Nat) (w : World) (hG : Globs w) (ha : Nd.In w a A c) (hb : Nd.In w b B d) :
    Calls Tryz.prog 4 #[a.v A c, b.v B d] w fun e w' => e = .returned (.bool true) ∧ Below w.heap.size w w' := by
  have hx1 := blk_alloc (blk_new w (.cells #[.int .i64 a.kind, .string a.text, .string a.val, .slice A a.kids.length c] 24)) (.cells #[.int .i64 b.kind, .string b.text, .string b.val, .slice B b.kids.length d] 24)
  have hx2 := blk_new (w.alloc (.cells #[.int .i64 a.kind, .string a.text, .string a.val, .slice A a.kids.length c] 24)) (.cells #[.int .i64 b.kind, .string b.text, .string b.val, .slice B b.kids.length d] 24)
  have hb0 := ((Below.refl w.heap.size w).alloc (Nat.le_refl _) (.cells #[.int .i64 a.kind, .string a.text, .string a.val, .slice A a.kids.length c] 24)).alloc (by simp) (.cells #[.int .i64 b.kind, .string b.text, .string b.val, .slice B b.kids.length d] 24)
  simp only [World.size_alloc] at hx2
  have HX1 := Lib.hid hx1
  have HX2 := Lib.hid hx2
  clear hx1 hx2
  have HL := Lib.hid fun W (hb : Below w.heap.size w W) => lives17_calls W (hG.below hb)
  have HFa := fun W (hb : Below w.heap.size w W) => few17_calls a A c W (ha.below hb)
  have HFb := fun W (hb' : Below w.heap.size w W) => few17_calls b B d W (hb.below hb')
  by_cases fa : 0 ≤ few a 200 20
  case neg =>
    rw [decide_eq_false fa] at HFa
    obtain ⟨fb, hfb⟩ : ∃ fb, fb = decide (0 ≤ few b 200 20) := ⟨_, rfl⟩
    rw [← hfb] at HFb
    have HFa := Lib.hid HFa
    have HFb := Lib.hid HFb
    clear fa hfb ha hb
    go_enter Tryz.func4, Tryz.ntmps4
    go_wp2_with fail
    refine (HFa.out _ hb0).mono ?_
    rintro e w1 ⟨rfl, hb1⟩
    have hB1 := below_then hb0 hb0.size hb1
    obtain ⟨p0, p1, p2, p3⟩ := box_cells (blk_below HX2.out hb1)
    clear hb1
    go_wp2_with fail
    refine (HFb.out _ hB1).mono ?_
    rintro e w2 ⟨rfl, hb2⟩
    have hB2 := below_then hB1 hB1.size hb2
    clear p0 p1 p2 p3 hb2
    go_wp2_with fail
    refine (HL.out _ hB2).mono ?_
    rintro e w3 ⟨rfl, hb3⟩
    go_wp2_with fail
    go_ret
    exact ⟨rfl, below_then hB2 hB2.size hb3⟩
  by_cases fb : 0 ≤ few b 200 20
  case neg =>
    rw [decide_eq_true fa] at HFa
    rw [decide_eq_false fb] at HFb
    have HFa := Lib.hid HFa
    have HFb := Lib.hid HFb
    clear fa fb ha hb
    go_enter Tryz.func4, Tryz.ntmps4
    go_wp2_with fail
    refine (HFa.out _ hb0).mono ?_
    rintro e w1 ⟨rfl, hb1⟩
    have hB1 := below_then hb0 hb0.size hb1
    obtain ⟨p0, p1, p2, p3⟩ := box_cells (blk_below HX2.out hb1)
    clear hb1
    go_wp2_with fail
    refine (HFb.out _ hB1).mono ?_
    rintro e w2 ⟨rfl, hb2⟩
    have hB2 := below_then hB1 hB1.size hb2
    clear p0 p1 p2 p3 hb2
    go_wp2_with fail
    refine (HL.out _ hB2).mono ?_
    rintro e w3 ⟨rfl, hb3⟩
    go_wp2_with fail
    go_ret
    exact ⟨rfl, below_then hB2 hB2.size hb3⟩
  obtain ⟨hea, hwa⟩ := few_gives fa ha
  obtain ⟨heb, hwb⟩ := few_gives fb hb
  rw [decide_eq_true fa] at HFa
  rw [decide_eq_true fb] at HFb
  have HFa := Lib.hid HFa
  have HFb := Lib.hid HFb
  have HPa := fun W (hB : Below w.heap.size w W) => print_calls a A c W (hG.below hB) (ha.below hB) hea hwa fine_of_may
  have HPb := fun W (hB : Below w.heap.size w W) => print_calls b B d W (hG.below hB) (hb.below hB) heb hwb fine_of_may
  have HS := fun W (hB : Below w.heap.size w W) => same_calls a A c b B d W (ha.below hB) (hb.below hB)
  have hap := fun (h1 : mayE a = 0) (h2 : mayE b = 0) => print_apart h1 h2 same_refl
  obtain ⟨xa, hxa⟩ : ∃ x, x = bs (printP a) := ⟨_, rfl⟩
  obtain ⟨xb, hxb⟩ : ∃ x, x = bs (printP b) := ⟨_, rfl⟩
  obtain ⟨ea, hea'⟩ : ∃ x, x = mayE a := ⟨_, rfl⟩
  obtain ⟨eb, heb'⟩ : ∃ x, x = mayE b := ⟨_, rfl⟩
  obtain ⟨sm, hsm⟩ : ∃ x, x = sameNd a b := ⟨_, rfl⟩
  rw [← hxa, ← hea'] at HPa
  rw [← hxb, ← heb'] at HPb
  rw [← hsm] at HS
  have hap2 : ea = 0 → eb = 0 → ((xa = xb) ↔ sm = true) := by
    intro h1 h2
    have h1' : mayE a = 0 := by rw [← hea']; exact h1
    have h2' : mayE b = 0 := by rw [← heb']; exact h2
    rw [hxa, hxb, hsm]
    unfold printP
    rw [if_pos h1', if_pos h2']
    exact hap h1' h2'
  clear hxa hxb hea' heb' hsm hap fa fb ha hb hea hwa heb hwb
  have HPa := Lib.hid HPa
  have HPb := Lib.hid HPb
  have HS := Lib.hid HS
  have HAP := Lib.hid hap2
  clear hap2
  by_cases z1 : ea = 0
  case neg =>
    have b1 := beq_no' z1
    have b2 : (ea != 0) = true := by simp [bne, b1]
    clear z1
    go_enter Tryz.func4, Tryz.ntmps4
    go_wp2_with fail
    refine (HFa.out _ hb0).mono ?_
    rintro e w1 ⟨rfl, hb1⟩
    have hB1 := below_then hb0 hb0.size hb1
    have BX1 := Lib.hid (blk_below HX1.out hb1)
    have BX2 := Lib.hid (blk_below HX2.out hb1)
    obtain ⟨p0, p1, p2, p3⟩ := box_cells BX2.out
    clear hb1
    go_wp2_with fail
    refine (HFb.out _ hB1).mono ?_
    rintro e w2 ⟨rfl, hb2⟩
    have hB2 := below_then hB1 hB1.size hb2
    have CX1 := Lib.hid (blk_below BX1.out hb2)
    have CX2 := Lib.hid (blk_below BX2.out hb2)
    clear p0 p1 p2 p3 hb2
    obtain ⟨p0, p1, p2, p3⟩ := box_cells CX1.out
    go_wp2_with fail
    refine (HPa.out _ hB2).mono ?_
    rintro e w3 ⟨rfl, hb3⟩
    have hB3 := below_then hB2 hB2.size hb3
    have DX2 := Lib.hid (blk_below CX2.out hb3)
    clear p0 p1 p2 p3 hb3
    obtain ⟨p0, p1, p2, p3⟩ := box_cells DX2.out
    go_wp2_with fail
    refine (HPb.out _ hB3).mono ?_
    rintro e w4 ⟨rfl, hb4⟩
    have hB4 := below_then hB3 hB3.size hb4
    clear p0 p1 p2 p3 hb4
    go_wp2_with fail
    refine (HL.out _ hB4).mono ?_
    rintro e w5 ⟨rfl, hb5⟩
    go_wp2_with fail
    go_ret
    exact ⟨rfl, below_then hB4 hB4.size hb5⟩
  by_cases z2 : eb = 0
  case neg =>
    subst z1
    have b1 := beq_no' z2
    have b2 : (eb != 0) = true := by simp [bne, b1]
    clear z2
    go_enter Tryz.func4, Tryz.ntmps4
    go_wp2_with fail
    refine (HFa.out _ hb0).mono ?_
    rintro e w1 ⟨rfl, hb1⟩
    have hB1 := below_then hb0 hb0.size hb1
    have BX1 := Lib.hid (blk_below HX1.out hb1)
    have BX2 := Lib.hid (blk_below HX2.out hb1)
    obtain ⟨p0, p1, p2, p3⟩ := box_cells BX2.out
    clear hb1
    go_wp2_with fail
    refine (HFb.out _ hB1).mono ?_
    rintro e w2 ⟨rfl, hb2⟩
    have hB2 := below_then hB1 hB1.size hb2
    have CX1 := Lib.hid (blk_below BX1.out hb2)
    have CX2 := Lib.hid (blk_below BX2.out hb2)
    clear p0 p1 p2 p3 hb2
    obtain ⟨p0, p1, p2, p3⟩ := box_cells CX1.out
    go_wp2_with fail
    refine (HPa.out _ hB2).mono ?_
    rintro e w3 ⟨rfl, hb3⟩
    have hB3 := below_then hB2 hB2.size hb3
    have DX2 := Lib.hid (blk_below CX2.out hb3)
    clear p0 p1 p2 p3 hb3
    obtain ⟨p0, p1, p2, p3⟩ := box_cells DX2.out
    go_wp2_with fail
    refine (HPb.out _ hB3).mono ?_
    rintro e w4 ⟨rfl, hb4⟩
    have hB4 := below_then hB3 hB3.size hb4
    clear p0 p1 p2 p3 hb4
    go_wp2_with fail
    refine (HL.out _ hB4).mono ?_
    rintro e w5 ⟨rfl, hb5⟩
    go_wp2_with fail
    go_ret
    exact ⟨rfl, below_then hB4 hB4.size hb5⟩
  subst z1 z2
  have hap := HAP.out rfl rfl
  clear HAP
  have hsame : (sm = true ∧ xa = xb) ∨ (sm = false ∧ ¬ xa.toList = xb.toList) := by
    cases sm
    · right; exact ⟨rfl, fun h => by have := hap.1 (toList_inj h); cases this⟩
    · left; exact ⟨rfl, hap.2 rfl⟩
  clear hap
  rcases hsame with ⟨rfl, rfl⟩ | ⟨rfl, hne⟩
  all_goals
    go_enter Tryz.func4, Tryz.ntmps4
    go_wp2_with fail
    refine (HFa.out _ hb0).mono ?_
    rintro e w1 ⟨rfl, hb1⟩
    have hB1 := below_then hb0 hb0.size hb1
    have BX1 := Lib.hid (blk_below HX1.out hb1)
    have BX2 := Lib.hid (blk_below HX2.out hb1)
    obtain ⟨p0, p1, p2, p3⟩ := box_cells BX2.out
    clear hb1
    go_wp2_with fail
    refine (HFb.out _ hB1).mono ?_
    rintro e w2 ⟨rfl, hb2⟩
    have hB2 := below_then hB1 hB1.size hb2
    have CX1 := Lib.hid (blk_below BX1.out hb2)
    have CX2 := Lib.hid (blk_below BX2.out hb2)
    clear p0 p1 p2 p3 hb2
    obtain ⟨p0, p1, p2, p3⟩ := box_cells CX1.out
    go_wp2_with fail
    refine (HPa.out _ hB2).mono ?_
    rintro e w3 ⟨rfl, hb3⟩
    have hB3 := below_then hB2 hB2.size hb3
    have DX1 := Lib.hid (blk_below CX1.out hb3)
    have DX2 := Lib.hid (blk_below CX2.out hb3)
    clear p0 p1 p2 p3 hb3
    obtain ⟨p0, p1, p2, p3⟩ := box_cells DX2.out
    go_wp2_with fail
    refine (HPb.out _ hB3).mono ?_
    rintro e w4 ⟨rfl, hb4⟩
    have hB4 := below_then hB3 hB3.size hb4
    have EX1 := Lib.hid (blk_below DX1.out hb4)
    have EX2 := Lib.hid (blk_below DX2.out hb4)
    clear p0 p1 p2 p3 hb4
    obtain ⟨p0, p1, p2, p3⟩ := box_cells EX1.out
    obtain ⟨q0, q1, q2, q3⟩ := box_cells EX2.out
    go_wp2_with fail
    refine (HS.out _ hB4).mono ?_
    rintro e w5 ⟨rfl, hb5⟩
    have hB5 := below_then hB4 hB4.size hb5
    clear p0 p1 p2 p3 q0 q1 q2 q3 hb5
    go_wp2_with fail
    refine (HL.out _ hB5).mono ?_
    rintro e w6 ⟨rfl, hb6⟩
    go_wp2_with fail
    go_ret
    refine ⟨?_, below_then hB5 hB5.size hb6⟩
    first
      | rfl
      | exact ret_bool (by simp [hne])
      | exact ret_bool (by simp)
end Go.Proofs.YtngofdaciacglaaGreatDoor
