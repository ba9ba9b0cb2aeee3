/- Walks: tree.Walk, tree.May. -/
import Derived.Test.YtngofdaciacglaaGreatDoorTreeWalk
namespace Go.Proofs.YtngofdaciacglaaGreatDoor
open Go.RowKit Go.Lib Go.Shelf

attribute [local go_sem] Oper.semAt_some

/-- A Check's way through events: the first error, or the state behind all. -/
def runS : List Opn → Bool → List Ev → Int × List Opn × Bool
  | stk, ov, [] => (0, stk, ov)
  | stk, ov, e :: es => if (stepS stk ov e.1 e.2.1 e.2.2).1 = 0 then runS (stepS stk ov e.1 e.2.1 e.2.2).2.1 (stepS stk ov e.1 e.2.1 e.2.2).2.2 es else stepS stk ov e.1 e.2.1 e.2.2
/-- Is a node a tree? The error. -/
def mayE (n : Nd) : Int := if (runS [] false (evs n)).1 = 0 then (if (runS [] false (evs n)).2.2 && (runS [] false (evs n)).2.1.isEmpty then 0 else 19) else (runS [] false (evs n)).1

theorem runS_snoc (x : Ev) : ∀ (es : List Ev) (stk : List Opn) (ov : Bool), (runS stk ov es).1 = 0 → runS stk ov (es ++ [x]) = stepS (runS stk ov es).2.1 (runS stk ov es).2.2 x.1 x.2.1 x.2.2
  | [], stk, ov, _ => by
    simp only [List.nil_append, runS]
    split
    · rename_i h; rw [← h]
    · rfl
  | e :: es, stk, ov, h => by
    simp only [List.cons_append, runS] at h ⊢
    split at h
    · rename_i h0
      rw [if_pos h0, if_pos h0]
      exact runS_snoc x es _ _ h
    · rename_i h0; exact absurd h h0
theorem runS_stop : ∀ (es r : List Ev) (stk : List Opn) (ov : Bool), (runS stk ov es).1 ≠ 0 → runS stk ov (es ++ r) = runS stk ov es
  | [], r, stk, ov, h => by simp [runS] at h
  | e :: es, r, stk, ov, h => by
    simp only [List.cons_append, runS] at h ⊢
    split
    · rename_i h0
      rw [if_pos h0] at h
      exact runS_stop es r _ _ h
    · rfl
theorem runS_kinds : ∀ (es : List Ev) (stk : List Opn) (ov : Bool), (∀ o ∈ stk, o.kind = 5 ∨ o.kind = 7 ∨ o.kind = 10) → ∀ o ∈ (runS stk ov es).2.1, o.kind = 5 ∨ o.kind = 7 ∨ o.kind = 10
  | [], stk, ov, h => h
  | e :: es, stk, ov, h => by
    unfold runS
    split
    · exact runS_kinds es _ _ (stepS_kinds h)
    · exact stepS_kinds h

section
variable {P : Program}
theorem results_cc {fn : Func} {p q : Tmp} {tp tq : TypeId} (h : fn.results = #[.cell p tp, .cell q tq]) (tmps : Array Value) (w : World) (ap aq : Addr) (vp vq : Value)
    (hp : tmps.getD p undef = .pointer (some ap)) (hq : tmps.getD q undef = .pointer (some aq)) (hap : w.cell? ap = some vp) (haq : w.cell? aq = some vq)
    (hgp : (isAgg tp).run P w = .ok false w) (hgq : (isAgg tq).run P w = .ok false w) : (results fn tmps).run P w = .ok (.tuple #[vp, vq]) w := by
  have hp' : tmps[p]?.getD undef = .pointer (some ap) := by simpa using hp
  have hq' : tmps[q]?.getD undef = .pointer (some aq) := by simpa using hq
  simp [results, h, hp', hq', asAddr, loadVar, hgp, hgq, hap, haq, Result.andThen]
end
end Go.Proofs.YtngofdaciacglaaGreatDoor
