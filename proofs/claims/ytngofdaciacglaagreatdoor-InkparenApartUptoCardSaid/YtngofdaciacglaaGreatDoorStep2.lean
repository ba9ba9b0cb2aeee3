/- Walks: events.Check.Step: things that open. -/
import Derived.Test.YtngofdaciacglaaGreatDoorStep1
import Derived.Deep.RegionLaw
import Derived.Deep.AppendLies
namespace Go.Proofs.YtngofdaciacglaaGreatDoor
open Go.RowKit Go.Lib

theorem Tryz.info142 : (Tryz.prog.info? 107).map (fun i => (i.zero, i.size, i.bytes)) = some (some (.pointer none), 1, 8) := by kernel_rfl

theorem news3 (W : World) (o1 o2 : Obj) (v : Value) (t : TypeId) : ∀ (j : Nat) (u : Value), [v][j]? = some u → (((W.alloc o1).alloc o2).alloc (.cells #[v] t)).drew.cell? ((⟨W.heap.size + 2, 0, none⟩ : Addr).add j) = some u := by
  intro j u h
  have h1 := one_new ((W.alloc o1).alloc o2) v t j u h
  simp only [World.size_alloc] at h1
  exact h1

/-- Behind the append the Check's block is as it was. -/
theorem keep_c {w4 : World} {B c : Nat} {stk : List Opn} {over : Bool} {qs : List (Nat × Nat)} {A : Option Addr} {cp : Nat} (hC : Chk w4 B c stk over qs (.slice A qs.length cp)) {w' : World} {o1 o2 o3 : Obj}
    (hg : (((w4.alloc o1).alloc o2).alloc o3).drew.grownBy w' (Value.slice A qs.length cp).ownBlock) : w'.heap[c]? = some (.cells #[.slice A qs.length cp, .bool over] 105) := by
  have h0 : (((w4.alloc o1).alloc o2).alloc o3).drew.heap[c]? = some (.cells #[.slice A qs.length cp, .bool over] 105) := blk_alloc (blk_alloc (blk_alloc hC.at_ o1) o2) o3
  rw [hg.block c (blk_lt h0) (fun hk => ?_)]
  · exact h0
  · obtain ⟨cs, fz, h2⟩ := Go.Lib.ownsRow_kind hC.row c hk.symm
    rw [hC.at_] at h2
    simp only [Option.some.injEq, Obj.cells.injEq] at h2
    exact absurd h2.2.1 (by decide)

theorem cell_kept {w : World} {a : Addr} {u : Value} (h : w.cell? a = some u) (o : Obj) : (w.alloc o).cell? a = some u := (World.cell?_alloc_lt w o a (World.block_lt_of_cell? w a h)).trans h
/-- Behind the store the Check holds one thing more. -/
theorem open_done {w4 : World} {B c : Nat} {stk : List Opn} {over : Bool} {qs : List (Nat × Nat)} {A : Option Addr} {cp : Nat} (hC : Chk w4 B c stk over qs (.slice A qs.length cp)) (hBw : B ≤ w4.heap.size) (k : Int) {w' : World} {o3 : Obj} {g cap : Nat}
    (hg : (((w4.alloc (.map #[] 0)).alloc (.cells #[.int .i64 k, .bool false, .bool false, .bool false, .map (some w4.heap.size)] 112)).alloc o3).drew.grownBy w' (Value.slice A qs.length cp).ownBlock)
    (hown : w'.ownsRow B 107 1 (.slice (some ⟨g, 0, none⟩) (qs.length + 1) cap) (qs.length + 1) (ptrs qs ++ [.pointer (some ⟨w4.heap.size + 1, 0, none⟩)])) :
    Chk (w'.setCell ⟨c, 0, none⟩ (.slice (some ⟨g, 0, none⟩) (qs.length + 1) cap)) B c (newO k :: stk) over ((w4.heap.size + 1, w4.heap.size) :: qs) (.slice (some ⟨g, 0, none⟩) (qs.length + 1) cap) ∧ Below B w4 (w'.setCell ⟨c, 0, none⟩ (.slice (some ⟨g, 0, none⟩) (qs.length + 1) cap)) ∧ KeepS w4 (w'.setCell ⟨c, 0, none⟩ (.slice (some ⟨g, 0, none⟩) (qs.length + 1) cap)) := by
  have hc := keep_c hC hg
  have hrow : ∀ i, (Value.slice A qs.length cp).ownBlock = some i → i < w4.heap.size := fun i hi => (hC.row.lt i hi).2
  obtain ⟨o1, ho1⟩ : ∃ o, o = Obj.map #[] 0 := ⟨_, rfl⟩
  obtain ⟨o2, ho2⟩ : ∃ o, o = Obj.cells #[.int .i64 k, .bool false, .bool false, .bool false, .map (some w4.heap.size)] 112 := ⟨_, rfl⟩
  have hkeep : ∀ i o, w4.heap[i]? = some o → (Value.slice A qs.length cp).ownBlock ≠ some i → w'.heap[i]? = some o := fun i o h hn => by
    have h0 : (((w4.alloc o1).alloc o2).alloc o3).drew.heap[i]? = some o := blk_alloc (blk_alloc (blk_alloc h _) _) _
    rw [ho1, ho2] at h0
    rw [hg.block i (blk_lt h0) (fun e => hn e.symm)]
    exact h0
  have hm : w'.heap[w4.heap.size]? = some (.map #[] 0) := by
    have h0 : (((w4.alloc o1).alloc o2).alloc o3).drew.heap[w4.heap.size]? = some (.map #[] 0) := by
      rw [ho1]; exact blk_alloc (blk_alloc (blk_new _ _) _) _
    rw [ho1, ho2] at h0
    rw [hg.block _ (blk_lt h0) (fun e => by have := hrow _ e.symm; omega)]
    exact h0
  have hp : w'.heap[w4.heap.size + 1]? = some (.cells #[.int .i64 k, .bool false, .bool false, .bool false, .map (some w4.heap.size)] 112) := by
    have h0 : (((w4.alloc o1).alloc o2).alloc o3).drew.heap[w4.heap.size + 1]? = some (.cells #[.int .i64 k, .bool false, .bool false, .bool false, .map (some w4.heap.size)] 112) := by
      rw [ho2]
      have := blk_new (w4.alloc o1) o2
      rw [World.size_alloc, ho2] at this
      exact blk_alloc this _
    rw [ho1, ho2] at h0
    rw [hg.block _ (blk_lt h0) (fun e => by have := hrow _ e.symm; omega)]
    exact h0
  have hnp : w4.heap.size + 1 ≠ c := by have := blk_lt hC.at_; omega
  have hnm : w4.heap.size ≠ c := by have := blk_lt hC.at_; omega
  refine ⟨⟨blk_set hc 0 _, hC.base, ?_, ?_⟩, ?_, ?_⟩
  · have h1 := own_set hown (p := ⟨c, 0, none⟩) hc (by decide) (.slice (some ⟨g, 0, none⟩) (qs.length + 1) cap)
    rw [show ptrs ((w4.heap.size + 1, w4.heap.size) :: qs) = ptrs qs ++ [.pointer (some ⟨w4.heap.size + 1, 0, none⟩)] by simp [ptrs]]
    exact h1
  · refine ⟨blk_far hp (p := ⟨c, 0, none⟩) hnp _, blk_far hm (p := ⟨c, 0, none⟩) hnm _, by omega, hBw, ?_, ?_⟩
    · intro r hr
      obtain ⟨_, _, ⟨cs, c1⟩, l, c2⟩ := hC.ops.mem r hr
      have := blk_lt c1
      have := blk_lt c2
      exact ⟨by simp only; omega, by simp only; omega⟩
    · refine hC.ops.keep fun r hr o => ?_
      obtain ⟨_, _, ⟨cs, c1⟩, l, c2⟩ := hC.ops.mem r hr
      have n1 : r.1 ≠ c := fun e => by
        rw [e, hC.at_] at c1
        simp only [Option.some.injEq, Obj.cells.injEq] at c1
        exact absurd c1.2.1 (by decide)
      have n2 : r.2 ≠ c := fun e => by rw [e, hC.at_] at c2; cases c2
      have m1 : (Value.slice A qs.length cp).ownBlock ≠ some r.1 := fun e => by
        obtain ⟨_, _, h2⟩ := Go.Lib.ownsRow_kind hC.row _ e
        rw [c1] at h2
        simp only [Option.some.injEq, Obj.cells.injEq] at h2
        exact absurd h2.2.1 (by decide)
      have m2 : (Value.slice A qs.length cp).ownBlock ≠ some r.2 := fun e => by
        obtain ⟨_, _, h2⟩ := Go.Lib.ownsRow_kind hC.row _ e
        rw [c2] at h2
        cases h2
      exact ⟨fun h => blk_far (hkeep _ _ h m1) (p := ⟨c, 0, none⟩) n1 _, fun h => blk_far (hkeep _ _ h m2) (p := ⟨c, 0, none⟩) n2 _⟩
  · have hb : Below B w4 (((w4.alloc (.map #[] 0)).alloc (.cells #[.int .i64 k, .bool false, .bool false, .bool false, .map (some w4.heap.size)] 112)).alloc o3).drew :=
      ((((Below.refl B w4).alloc hBw _).alloc (by simp; omega) _).alloc (by simp; omega) _).drew
    refine (hb.grown hg ?_ ?_).setCell hC.base _
    · rw [show ∀ X : World, X.drew.heap.size = X.heap.size from fun _ => rfl, World.size_alloc, World.size_alloc, World.size_alloc]
      omega
    · intro i hi
      exact (hC.row.lt i hi).1
  · refine KeepS.trans (b := w') (fun i o hi ho => hkeep i _ hi fun e => ?_) (KeepS.set (p := ⟨c, 0, none⟩) hc (by decide) _)
    obtain ⟨_, _, h2⟩ := Go.Lib.ownsRow_kind hC.row _ e
    rw [hi] at h2
    cases h2
    exact absurd (show false = true from ho) (by decide)

set_option maxRecDepth 100000 in
set_option maxHeartbeats 4000000 in
theorem step_open (k : Int) (hk : k = 5 ∨ k = 7 ∨ k = 10) (t v : ByteArray) (B c : Nat) (stk : List Opn) (over : Bool) (qs : List (Nat × Nat)) (sl : Value) (w : World) (hG : Globs w) (hC : Chk w B c stk over qs sl) (hq : qs.length ≤ 1048576) (ht : t.size ≤ 1048576) (hv : v.size ≤ 1048576) (hBw : B ≤ w.heap.size) (hr : rightB k t v = true) :
    Calls Tryz.prog 56 #[.pointer (some ⟨c, 0, none⟩), .agg #[.int .i64 k, .string t, .string v]] w (StepPost B c w (stepS stk over k t v)) := by
  have hb0 := (Below.refl w.heap.size w).alloc (Nat.le_refl _) (.cells #[.int .i64 k, .string t, .string v] 70)
  have HR := right_calls k t v _ (hG.below hb0) ht hv
  rw [hr] at HR
  have HR := Lib.hid HR
  have hxx := blk_new w (.cells #[.int .i64 k, .string t, .string v] 70)
  have hC0 := hC.below hb0
  have hk4 : ¬ (k = 1 ∨ k = 2 ∨ k = 3 ∨ k = 4) := by omega
  have hF0 : stepS stk over k t v = if valueS stk over k t = false then (19, stk, over) else if 6 ≤ stk.length then (5, stk, over) else (0, newO k :: (standS k stk over).1, (standS k stk over).2) := by simp [stepS, hr, hk, hk4]
  have hlen := hC.len
  rw [hlen] at hF0
  have hV := fun W hC => value_calls k t v B c stk over qs sl W hC hq
  have hS := fun W hC hB => stands_calls k t v B c stk over qs sl W hC hq hB
  have hL := fun W hc hr => last_calls c over qs sl B W hc hr hq
  obtain ⟨i0, hi, hz0, hz1, hz2⟩ := info_parts Tryz.info142
  obtain ⟨A, cp, rfl⟩ := own_slice hC.row
  cases hvs : valueS stk over k t
  all_goals
    rw [hvs] at hV hF0
    have HF0 := Lib.hid hF0
    have HV := Lib.hid hV
    have HS := Lib.hid hS
    have HL := Lib.hid hL
    clear hF0 hV hS hL hvs hr hC hk4 hlen
  · have HF := Lib.hid (show stepS stk over k t v = (19, stk, over) by rw [HF0.out]; rfl)
    rcases hk with rfl | rfl | rfl
    all_goals
      go_enter Tryz.func56, Tryz.ntmps56
      go_wp2_with fail
      refine HR.out.mono ?_
      rintro e w1 ⟨rfl, hb1⟩
      have hC1 := hC0.below hb1
      have hxx1 := blk_below hxx hb1
      have hb1 := below_then hb0 hb0.size hb1
      go_wp2_with fail
      refine (HL.out _ hC1.at_ hC1.row).mono ?_
      rintro e w2 ⟨rfl, n, hw2⟩
      have hC2 : Chk w2 B c stk over qs (.slice A qs.length cp) := by rw [hw2]; exact hC1.below (drewN_below _ n)
      have hh : w2.heap = w1.heap := by rw [hw2]; rfl
      have hxx2 := hxx1
      rw [← hh] at hxx2
      have hb2 : Below w.heap.size w w2 := by rw [hw2]; exact Go.below_drewN hb1 n
      have hcx := blk_cell hxx2
      clear hw2 hb1 hxx1 hC1 hh
      go_wp2_with fail
      refine (HV.out _ hC2).mono ?_
      rintro e w3 ⟨rfl, hb3⟩
      have hb3 := below_then hb2 hb2.size hb3
      go_wp2_with fail
      go_ret
      exact ⟨by rw [HF.out]; rfl, hb3.mono hBw, KeepS.below hb3, fun h => by rw [HF.out] at h; cases h⟩
  · by_cases h6 : 6 ≤ qs.length
    · have HF := Lib.hid (show stepS stk over k t v = (5, stk, over) by rw [HF0.out, if_neg (by simp), if_pos h6])
      rcases hk with rfl | rfl | rfl
      all_goals
        go_enter Tryz.func56, Tryz.ntmps56
        go_wp2_with fail
        refine HR.out.mono ?_
        rintro e w1 ⟨rfl, hb1⟩
        have hC1 := hC0.below hb1
        have hxx1 := blk_below hxx hb1
        have hb1 := below_then hb0 hb0.size hb1
        go_wp2_with fail
        refine (HL.out _ hC1.at_ hC1.row).mono ?_
        rintro e w2 ⟨rfl, n, hw2⟩
        have hC2 : Chk w2 B c stk over qs (.slice A qs.length cp) := by rw [hw2]; exact hC1.below (drewN_below _ n)
        have hh : w2.heap = w1.heap := by rw [hw2]; rfl
        have hxx2 := hxx1
        rw [← hh] at hxx2
        have hb2 : Below w.heap.size w w2 := by rw [hw2]; exact Go.below_drewN hb1 n
        have hcx := blk_cell hxx2
        clear hw2 hb1 hxx1 hC1 hh
        go_wp2_with fail
        refine (HV.out _ hC2).mono ?_
        rintro e w3 ⟨rfl, hb3⟩
        have hC3 := hC2.below hb3
        have hxx3 := blk_below hxx2 hb3
        have hcx := blk_cell hxx3
        have hcc := blk_cell hC3.at_
        have hb3 := below_then hb2 hb2.size hb3
        go_wp2_with fail
        go_ret
        exact ⟨by rw [HF.out]; rfl, hb3.mono hBw, KeepS.below hb3, fun h => by rw [HF.out] at h; cases h⟩
    · have HF := Lib.hid (show stepS stk over k t v = (0, newO k :: (standS k stk over).1, (standS k stk over).2) by rw [HF0.out, if_neg (by simp), if_neg h6])
      have h6' : (qs.length : Int) < 6 := by omega
      rcases hk with rfl | rfl | rfl
      · go_enter Tryz.func56, Tryz.ntmps56
        go_wp2_with fail
        refine HR.out.mono ?_
        rintro e w1 ⟨rfl, hb1⟩
        have hC1 := hC0.below hb1
        have hxx1 := blk_below hxx hb1
        have hb1 := below_then hb0 hb0.size hb1
        go_wp2_with fail
        refine (HL.out _ hC1.at_ hC1.row).mono ?_
        rintro e w2 ⟨rfl, n, hw2⟩
        have hC2 : Chk w2 B c stk over qs (.slice A qs.length cp) := by rw [hw2]; exact hC1.below (drewN_below _ n)
        have hh : w2.heap = w1.heap := by rw [hw2]; rfl
        have hxx2 := hxx1
        rw [← hh] at hxx2
        have hb2 : Below w.heap.size w w2 := by rw [hw2]; exact Go.below_drewN hb1 n
        have hcx := blk_cell hxx2
        clear hw2 hb1 hxx1 hC1 hh
        go_wp2_with fail
        refine (HV.out _ hC2).mono ?_
        rintro e w3 ⟨rfl, hb3⟩
        have hC3 := hC2.below hb3
        have hxx3 := blk_below hxx2 hb3
        have hcx := blk_cell hxx3
        have hcc := blk_cell hC3.at_
        have hb3 := below_then hb2 hb2.size hb3
        go_wp2_with fail
        refine (HS.out _ hC3 (Nat.le_trans hBw hb3.size)).mono ?_
        rintro e w4 ⟨rfl, hC4, hb4, hk4⟩
        have hx4 : w4.cell? ⟨w.heap.size, 0, none⟩ = some (.int .i64 5) := by
          obtain ⟨n1, n2, _⟩ := hC3.none_of hxx3
          exact blk_cell ((hk4 _ (blk_lt hxx3) n1 n2).trans hxx3) 0
        have hcf := blk_frozen hC4.at_ 0
        have hc4 : w4.cell? ⟨c, 0, none⟩ = some (.slice A qs.length cp) := blk_cell hC4.at_ 0
        have hBs : B ≤ (((w4.alloc (.map #[] 0)).alloc (.cells #[.int .i64 5, .bool false, .bool false, .bool false, .map (some w4.heap.size)] 112)).alloc (.cells #[.pointer (some ⟨w4.heap.size + 1, 0, none⟩)] 107)).drew.heap.size := by
          have h1 := hb4.size
          have h2 := hb3.size
          rw [show ∀ X : World, X.drew.heap.size = X.heap.size from fun _ => rfl, World.size_alloc, World.size_alloc, World.size_alloc]
          omega
        have hx5 : ∀ o, (w4.alloc o).cell? ⟨w.heap.size, 0, none⟩ = some (.int .i64 5) := fun o => cell_kept hx4 o
        have hx6 : ∀ o o', ((w4.alloc o).alloc o').cell? ⟨w.heap.size, 0, none⟩ = some (.int .i64 5) := fun o o' => cell_kept (hx5 o) o'
        have hc5 : ∀ o, (w4.alloc o).cell? ⟨c, 0, none⟩ = some (.slice A qs.length cp) := fun o => cell_kept hc4 o
        have hc6 : ∀ o o', ((w4.alloc o).alloc o').cell? ⟨c, 0, none⟩ = some (.slice A qs.length cp) := fun o o' => cell_kept (hc5 o) o'
        have hc7 : ∀ o o' o'', (((w4.alloc o).alloc o').alloc o'').cell? ⟨c, 0, none⟩ = some (.slice A qs.length cp) := fun o o' o'' => cell_kept (hc6 o o') o''
        have hmk : ∀ W, (Instr.makeMap 110 none).run Tryz.prog W = .ok (.map (some W.heap.size)) (W.alloc (.map #[] 0)) := fun W => rfl
        go_upto_region 24 with (fail)
        have hn4 := (KeepS.below hb3).trans (hC3.keepN hk4)
        clear HL HV HS HR hC0 hC2 hC3 hk4 hxx hxx3 hxx2 hcx hcc h6 HF0 hG hq ht hv hb0
        go_region_law (refine step_append_lies _ rfl _ _ _ rfl B 107 i0 _ 1 8 Tryz.underlying103 hi hz0 hz1 hz2 rfl (by decide) _ qs.length (ptrs qs) rfl (World.ownsRow.drew (((hC4.row.alloc _).alloc _).alloc _)) ⟨w4.heap.size + 2, 0, none⟩ 1 1 [.pointer (some ⟨w4.heap.size + 1, 0, none⟩)] rfl rfl (news3 _ _ _ _ _) (by simp [Value.oneCell']) (by decide) (by unfold maxLen; omega) (by omega) hBs _ rfl ?_; intro g cap w' hown hgrow hg hlt; have hS' := keep_c hC4 hgrow; have hcS := blk_cell hS'; have hfS := blk_frozen hS')
        all_goals
          obtain ⟨hC5, hb5, hn5⟩ := open_done hC4 (Nat.le_trans hBw (by have := hb4.size; have := hb3.size; omega)) 5 hgrow hown
          go_wp2_with fail
          go_ret
          exact ⟨by rw [HF.out]; rfl, ((hb3.mono hBw).trans hb4).trans hb5, hn4.trans hn5, fun _ => by rw [HF.out]; exact ⟨_, _, hC5⟩⟩
      · go_enter Tryz.func56, Tryz.ntmps56
        go_wp2_with fail
        refine HR.out.mono ?_
        rintro e w1 ⟨rfl, hb1⟩
        have hC1 := hC0.below hb1
        have hxx1 := blk_below hxx hb1
        have hb1 := below_then hb0 hb0.size hb1
        go_wp2_with fail
        refine (HL.out _ hC1.at_ hC1.row).mono ?_
        rintro e w2 ⟨rfl, n, hw2⟩
        have hC2 : Chk w2 B c stk over qs (.slice A qs.length cp) := by rw [hw2]; exact hC1.below (drewN_below _ n)
        have hh : w2.heap = w1.heap := by rw [hw2]; rfl
        have hxx2 := hxx1
        rw [← hh] at hxx2
        have hb2 : Below w.heap.size w w2 := by rw [hw2]; exact Go.below_drewN hb1 n
        have hcx := blk_cell hxx2
        clear hw2 hb1 hxx1 hC1 hh
        go_wp2_with fail
        refine (HV.out _ hC2).mono ?_
        rintro e w3 ⟨rfl, hb3⟩
        have hC3 := hC2.below hb3
        have hxx3 := blk_below hxx2 hb3
        have hcx := blk_cell hxx3
        have hcc := blk_cell hC3.at_
        have hb3 := below_then hb2 hb2.size hb3
        go_wp2_with fail
        refine (HS.out _ hC3 (Nat.le_trans hBw hb3.size)).mono ?_
        rintro e w4 ⟨rfl, hC4, hb4, hk4⟩
        have hx4 : w4.cell? ⟨w.heap.size, 0, none⟩ = some (.int .i64 7) := by
          obtain ⟨n1, n2, _⟩ := hC3.none_of hxx3
          exact blk_cell ((hk4 _ (blk_lt hxx3) n1 n2).trans hxx3) 0
        have hcf := blk_frozen hC4.at_ 0
        have hc4 : w4.cell? ⟨c, 0, none⟩ = some (.slice A qs.length cp) := blk_cell hC4.at_ 0
        have hBs : B ≤ (((w4.alloc (.map #[] 0)).alloc (.cells #[.int .i64 7, .bool false, .bool false, .bool false, .map (some w4.heap.size)] 112)).alloc (.cells #[.pointer (some ⟨w4.heap.size + 1, 0, none⟩)] 107)).drew.heap.size := by
          have h1 := hb4.size
          have h2 := hb3.size
          rw [show ∀ X : World, X.drew.heap.size = X.heap.size from fun _ => rfl, World.size_alloc, World.size_alloc, World.size_alloc]
          omega
        have hx5 : ∀ o, (w4.alloc o).cell? ⟨w.heap.size, 0, none⟩ = some (.int .i64 7) := fun o => cell_kept hx4 o
        have hx6 : ∀ o o', ((w4.alloc o).alloc o').cell? ⟨w.heap.size, 0, none⟩ = some (.int .i64 7) := fun o o' => cell_kept (hx5 o) o'
        have hc5 : ∀ o, (w4.alloc o).cell? ⟨c, 0, none⟩ = some (.slice A qs.length cp) := fun o => cell_kept hc4 o
        have hc6 : ∀ o o', ((w4.alloc o).alloc o').cell? ⟨c, 0, none⟩ = some (.slice A qs.length cp) := fun o o' => cell_kept (hc5 o) o'
        have hc7 : ∀ o o' o'', (((w4.alloc o).alloc o').alloc o'').cell? ⟨c, 0, none⟩ = some (.slice A qs.length cp) := fun o o' o'' => cell_kept (hc6 o o') o''
        have hmk : ∀ W, (Instr.makeMap 110 none).run Tryz.prog W = .ok (.map (some W.heap.size)) (W.alloc (.map #[] 0)) := fun W => rfl
        go_upto_region 24 with (fail)
        have hn4 := (KeepS.below hb3).trans (hC3.keepN hk4)
        clear HL HV HS HR hC0 hC2 hC3 hk4 hxx hxx3 hxx2 hcx hcc h6 HF0 hG hq ht hv hb0
        go_region_law (refine step_append_lies _ rfl _ _ _ rfl B 107 i0 _ 1 8 Tryz.underlying103 hi hz0 hz1 hz2 rfl (by decide) _ qs.length (ptrs qs) rfl (World.ownsRow.drew (((hC4.row.alloc _).alloc _).alloc _)) ⟨w4.heap.size + 2, 0, none⟩ 1 1 [.pointer (some ⟨w4.heap.size + 1, 0, none⟩)] rfl rfl (news3 _ _ _ _ _) (by simp [Value.oneCell']) (by decide) (by unfold maxLen; omega) (by omega) hBs _ rfl ?_; intro g cap w' hown hgrow hg hlt; have hS' := keep_c hC4 hgrow; have hcS := blk_cell hS'; have hfS := blk_frozen hS')
        all_goals
          obtain ⟨hC5, hb5, hn5⟩ := open_done hC4 (Nat.le_trans hBw (by have := hb4.size; have := hb3.size; omega)) 7 hgrow hown
          go_wp2_with fail
          go_ret
          exact ⟨by rw [HF.out]; rfl, ((hb3.mono hBw).trans hb4).trans hb5, hn4.trans hn5, fun _ => by rw [HF.out]; exact ⟨_, _, hC5⟩⟩
      · go_enter Tryz.func56, Tryz.ntmps56
        go_wp2_with fail
        refine HR.out.mono ?_
        rintro e w1 ⟨rfl, hb1⟩
        have hC1 := hC0.below hb1
        have hxx1 := blk_below hxx hb1
        have hb1 := below_then hb0 hb0.size hb1
        go_wp2_with fail
        refine (HL.out _ hC1.at_ hC1.row).mono ?_
        rintro e w2 ⟨rfl, n, hw2⟩
        have hC2 : Chk w2 B c stk over qs (.slice A qs.length cp) := by rw [hw2]; exact hC1.below (drewN_below _ n)
        have hh : w2.heap = w1.heap := by rw [hw2]; rfl
        have hxx2 := hxx1
        rw [← hh] at hxx2
        have hb2 : Below w.heap.size w w2 := by rw [hw2]; exact Go.below_drewN hb1 n
        have hcx := blk_cell hxx2
        clear hw2 hb1 hxx1 hC1 hh
        go_wp2_with fail
        refine (HV.out _ hC2).mono ?_
        rintro e w3 ⟨rfl, hb3⟩
        have hC3 := hC2.below hb3
        have hxx3 := blk_below hxx2 hb3
        have hcx := blk_cell hxx3
        have hcc := blk_cell hC3.at_
        have hb3 := below_then hb2 hb2.size hb3
        go_wp2_with fail
        refine (HS.out _ hC3 (Nat.le_trans hBw hb3.size)).mono ?_
        rintro e w4 ⟨rfl, hC4, hb4, hk4⟩
        have hx4 : w4.cell? ⟨w.heap.size, 0, none⟩ = some (.int .i64 10) := by
          obtain ⟨n1, n2, _⟩ := hC3.none_of hxx3
          exact blk_cell ((hk4 _ (blk_lt hxx3) n1 n2).trans hxx3) 0
        have hcf := blk_frozen hC4.at_ 0
        have hc4 : w4.cell? ⟨c, 0, none⟩ = some (.slice A qs.length cp) := blk_cell hC4.at_ 0
        have hBs : B ≤ (((w4.alloc (.map #[] 0)).alloc (.cells #[.int .i64 10, .bool false, .bool false, .bool false, .map (some w4.heap.size)] 112)).alloc (.cells #[.pointer (some ⟨w4.heap.size + 1, 0, none⟩)] 107)).drew.heap.size := by
          have h1 := hb4.size
          have h2 := hb3.size
          rw [show ∀ X : World, X.drew.heap.size = X.heap.size from fun _ => rfl, World.size_alloc, World.size_alloc, World.size_alloc]
          omega
        have hx5 : ∀ o, (w4.alloc o).cell? ⟨w.heap.size, 0, none⟩ = some (.int .i64 10) := fun o => cell_kept hx4 o
        have hx6 : ∀ o o', ((w4.alloc o).alloc o').cell? ⟨w.heap.size, 0, none⟩ = some (.int .i64 10) := fun o o' => cell_kept (hx5 o) o'
        have hc5 : ∀ o, (w4.alloc o).cell? ⟨c, 0, none⟩ = some (.slice A qs.length cp) := fun o => cell_kept hc4 o
        have hc6 : ∀ o o', ((w4.alloc o).alloc o').cell? ⟨c, 0, none⟩ = some (.slice A qs.length cp) := fun o o' => cell_kept (hc5 o) o'
        have hc7 : ∀ o o' o'', (((w4.alloc o).alloc o').alloc o'').cell? ⟨c, 0, none⟩ = some (.slice A qs.length cp) := fun o o' o'' => cell_kept (hc6 o o') o''
        have hmk : ∀ W, (Instr.makeMap 110 none).run Tryz.prog W = .ok (.map (some W.heap.size)) (W.alloc (.map #[] 0)) := fun W => rfl
        go_upto_region 24 with (fail)
        have hn4 := (KeepS.below hb3).trans (hC3.keepN hk4)
        clear HL HV HS HR hC0 hC2 hC3 hk4 hxx hxx3 hxx2 hcx hcc h6 HF0 hG hq ht hv hb0
        go_region_law (refine step_append_lies _ rfl _ _ _ rfl B 107 i0 _ 1 8 Tryz.underlying103 hi hz0 hz1 hz2 rfl (by decide) _ qs.length (ptrs qs) rfl (World.ownsRow.drew (((hC4.row.alloc _).alloc _).alloc _)) ⟨w4.heap.size + 2, 0, none⟩ 1 1 [.pointer (some ⟨w4.heap.size + 1, 0, none⟩)] rfl rfl (news3 _ _ _ _ _) (by simp [Value.oneCell']) (by decide) (by unfold maxLen; omega) (by omega) hBs _ rfl ?_; intro g cap w' hown hgrow hg hlt; have hS' := keep_c hC4 hgrow; have hcS := blk_cell hS'; have hfS := blk_frozen hS')
        all_goals
          obtain ⟨hC5, hb5, hn5⟩ := open_done hC4 (Nat.le_trans hBw (by have := hb4.size; have := hb3.size; omega)) 10 hgrow hown
          go_wp2_with fail
          go_ret
          exact ⟨by rw [HF.out]; rfl, ((hb3.mono hBw).trans hb4).trans hb5, hn4.trans hn5, fun _ => by rw [HF.out]; exact ⟨_, _, hC5⟩⟩
end Go.Proofs.YtngofdaciacglaaGreatDoor
