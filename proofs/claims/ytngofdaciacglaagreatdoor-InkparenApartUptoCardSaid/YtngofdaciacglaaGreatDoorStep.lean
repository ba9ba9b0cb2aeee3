/- Walks: events.Check.Step, Done. -/
import Derived.Test.YtngofdaciacglaaGreatDoorStep2
import Derived.Test.YtngofdaciacglaaGreatDoorStep4
namespace Go.Proofs.YtngofdaciacglaaGreatDoor
open Go.RowKit Go.Lib

theorem right_kind {k : Int} {t v : ByteArray} (h : rightB k t v = true) : (k = 1 ∨ k = 2 ∨ k = 3 ∨ k = 4) ∨ (k = 5 ∨ k = 7 ∨ k = 10) ∨ (k = 8 ∨ k = 11) ∨ (k = 6 ∨ k = 9 ∨ k = 12) := by
  refine Classical.byContradiction fun hn => ?_
  simp only [not_or] at hn
  obtain ⟨⟨h1, h2, h3, h4⟩, ⟨h5, h7, h10⟩, ⟨h8, h11⟩, h6, h9, h12⟩ := hn
  simp [rightB, h1, h2, h3, h4, h5, h6, h7, h8, h9, h10, h11, h12] at h
theorem cstep_calls (k : Int) (t v : ByteArray) (B c : Nat) (stk : List Opn) (over : Bool) (qs : List (Nat × Nat)) (sl : Value) (w : World) (hG : Globs w) (hC : Chk w B c stk over qs sl) (hKs : ∀ o ∈ stk, o.kind = 5 ∨ o.kind = 7 ∨ o.kind = 10) (hq : qs.length ≤ 1048576) (ht : t.size ≤ 1048576) (hv : v.size ≤ 1048576) (hBw : B ≤ w.heap.size) :
    Calls Tryz.prog 56 #[.pointer (some ⟨c, 0, none⟩), .agg #[.int .i64 k, .string t, .string v]] w (StepPost B c w (stepS stk over k t v)) := by
  cases hr : rightB k t v
  · exact step_wrong k t v B c stk over w hG ht hv hBw hr
  · rcases right_kind hr with h | h | h | h
    · exact step_scalar k h t v B c stk over qs sl w hG hC hq ht hv hBw hr
    · exact step_open k h t v B c stk over qs sl w hG hC hq ht hv hBw hr
    · exact step_named k h t v B c stk over qs sl w hG hC hq ht hv hBw hr
    · exact step_end k h t v B c stk over qs sl w hG hC hKs hq ht hv hBw hr

/-- The kinds of what is open stay what they may be. -/
theorem stepS_kinds {stk : List Opn} {over : Bool} {k : Int} {t v : ByteArray} (hK : ∀ o ∈ stk, o.kind = 5 ∨ o.kind = 7 ∨ o.kind = 10) : ∀ o ∈ (stepS stk over k t v).2.1, o.kind = 5 ∨ o.kind = 7 ∨ o.kind = 10 := by
  have hst : ∀ o ∈ (standS k stk over).1, o.kind = 5 ∨ o.kind = 7 ∨ o.kind = 10 := by
    cases stk with
    | nil => intro o ho; cases ho
    | cons a r =>
      intro o ho
      rcases List.mem_cons.1 ho with rfl | ho
      · exact hK a (List.mem_cons_self ..)
      · exact hK o (List.mem_cons_of_mem _ ho)
  unfold stepS
  split
  · exact hK
  · split
    · split
      · exact hst
      · exact hK
    · split
      · rename_i h
        split
        · exact hK
        · split
          · exact hK
          · intro o ho
            rcases List.mem_cons.1 ho with rfl | ho
            · exact h
            · exact hst o ho
      · cases stk with
        | nil => exact hK
        | cons a r =>
          have hn : ∀ o ∈ (namedO a k t :: r), o.kind = 5 ∨ o.kind = 7 ∨ o.kind = 10 := by
            intro o ho
            rcases List.mem_cons.1 ho with rfl | ho
            · have := hK a (List.mem_cons_self ..)
              unfold namedO
              split
              · exact this
              · exact this
            · exact hK o (List.mem_cons_of_mem _ ho)
          simp only
          split
          · split
            · exact hK
            · exact hn
          · split
            · split
              · exact hK
              · exact hn
            · split
              · exact hK
              · exact fun o ho => hK o (List.mem_cons_of_mem _ ho)

set_option maxRecDepth 100000 in
theorem done_calls (B c : Nat) (stk : List Opn) (over : Bool) (qs : List (Nat × Nat)) (sl : Value) (w : World) (hC : Chk w B c stk over qs sl) :
    Calls Tryz.prog 57 #[.pointer (some ⟨c, 0, none⟩)] w fun e w' => e = .returned (.bool (over && stk.isEmpty)) ∧ w = w' := by
  have hcc := blk_cell hC.at_
  have hl := hC.len
  obtain ⟨A, cp, rfl⟩ := own_slice hC.row
  cases over
  · go_enter Tryz.func57, Tryz.ntmps57
    go_wp2_with fail
    go_ret
    exact ⟨rfl, rfl⟩
  · cases qs with
    | nil =>
      have hs : stk = [] := List.eq_nil_of_length_eq_zero (by simpa using hl)
      subst hs
      go_enter Tryz.func57, Tryz.ntmps57
      go_wp2_with fail
      go_ret
      exact ⟨rfl, rfl⟩
    | cons q qs =>
      cases stk with
      | nil => simp at hl
      | cons o os =>
        go_enter Tryz.func57, Tryz.ntmps57
        go_wp2_with fail
        go_ret
        exact ⟨rfl, rfl⟩
end Go.Proofs.YtngofdaciacglaaGreatDoor
