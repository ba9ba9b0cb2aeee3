/- Plain words for a set of texts kept as map[string]bool, and its laws. -/
import Derived.Test.YtngofdaciacglaaGreatDoorBase
import Derived.Maps.OwnSet
namespace Go.Proofs.YtngofdaciacglaaGreatDoor
open Go.RowKit

/-- The entries of a set of texts. -/
def hadEs : Nat → List ByteArray → List MapEntry
  | _, [] => []
  | i, s :: r => { key := .string s, val := .bool true, born := i } :: hadEs (i + 1) r
/-- The map of a set of texts. -/
def hadObj (l : List ByteArray) : Obj := .map (hadEs 0 l).toArray l.length
/-- Is it there? -/
def hasS (s : ByteArray) (l : List ByteArray) : Bool := l.any fun a => s == a

theorem hadEs_len : ∀ (i : Nat) (l : List ByteArray), (hadEs i l).length = l.length
  | _, [] => rfl
  | i, s :: r => by simp [hadEs, hadEs_len (i + 1) r]
theorem hadEs_push : ∀ (i : Nat) (l : List ByteArray) (s : ByteArray), hadEs i (l ++ [s]) = hadEs i l ++ [{ key := .string s, val := .bool true, born := i + l.length }]
  | i, [], s => by simp [hadEs]
  | i, a :: r, s => by
    have := hadEs_push (i + 1) r s
    simp only [List.cons_append, hadEs, this, List.length_cons]
    rw [show i + (r.length + 1) = i + 1 + r.length by omega]
theorem find_had_yes : ∀ (s : ByteArray) (i j : Nat) (l : List ByteArray), hasS s l = true → ∃ n, Instr.findNow .string (.string s) (hadEs i l) j = some (some (n, .bool true))
  | s, i, j, [], h => by simp [hasS] at h
  | s, i, j, a :: r, h => by
    unfold hadEs Instr.findNow
    by_cases h1 : (s == a) = true
    · exact ⟨j, by simp [Instr.sameNow, h1]⟩
    · have h1 : (s == a) = false := by simpa using h1
      have h2 : hasS s r = true := by simpa [hasS, h1] using h
      obtain ⟨n, hn⟩ := find_had_yes s (i + 1) (j + 1) r h2
      exact ⟨n, by simp [Instr.sameNow, h1, hn]⟩
theorem find_had_no : ∀ (s : ByteArray) (i j : Nat) (l : List ByteArray), hasS s l = false → Instr.findNow .string (.string s) (hadEs i l) j = some none
  | s, i, j, [], h => by simp [hadEs, Instr.findNow]
  | s, i, j, a :: r, h => by
    unfold hadEs Instr.findNow
    have h0 : (s == a) = false ∧ hasS s r = false := by
      unfold hasS at h ⊢
      rw [List.any_cons, Bool.or_eq_false_iff] at h
      exact h
    have := find_had_no s (i + 1) (j + 1) r h0.2
    simp [Instr.sameNow, h0.1, this]
section
variable {P : Program}
theorem run_had {t kt et : TypeId} (hm : P.underlying t = some (.map kt et)) (hk : P.underlying kt = some .string) (w : World) (hz : (zeroValue et).run P w = .ok (.bool false) w) {b : Nat} {l : List ByteArray} (hb : w.heap[b]? = some (hadObj l)) (s : ByteArray) :
    (Instr.lookup t (.map (some b)) (.string s) false).run P w = .ok (.bool (hasS s l)) w := by
  have hb' : w.heap[b]? = some (.map (hadEs 0 l).toArray l.length) := hb
  have hc : (Instr.checkKey (hadEs 0 l).toArray.isEmpty 10000 kt (.string s)).run P w = .ok () w := MapKept.run_checkKey (k := .string s) hk (by simp [MapKept.IsKey]) _ 9999
  cases h : hasS s l
  · have hg := MapKept.run_findKey (w := w) hk (find_had_no s 0 0 l h)
    simp at hc
    simp [Instr.lookup, run_underlying hm, MapKept.run_getObj_map hb', hc, hg, Result.andThen, hz]
  · obtain ⟨n, hn⟩ := find_had_yes s 0 0 l h
    have hg := MapKept.run_findKey (w := w) hk hn
    simp at hc
    simp [Instr.lookup, run_underlying hm, MapKept.run_getObj_map hb', hc, hg, Result.andThen]
theorem run_had_put {t kt et : TypeId} (hm : P.underlying t = some (.map kt et)) (hk : P.underlying kt = some .string) (w : World) {b : Nat} {l : List ByteArray} (hb : w.heap[b]? = some (hadObj l)) (s : ByteArray) (hs : hasS s l = false) :
    (Instr.mapUpdate t (.map (some b)) (.string s) (.bool true)).run P w = .ok () (ChangeMaps.setBlock w b (hadObj (l ++ [s]))) := by
  have hb' : w.heap[b]? = some (.map (hadEs 0 l).toArray l.length) := hb
  have hc : (Instr.checkKey false 10000 kt (.string s)).run P w = .ok () w := MapKept.run_checkKey (k := .string s) hk (by simp [MapKept.IsKey]) _ 9999
  have hg := MapKept.run_findKey (w := w) hk (find_had_no s 0 0 l hs)
  simp [Instr.mapUpdate, run_underlying hm, MapKept.run_getObj_map hb', hc, hg, MapKept.run_setObj_map _ hb', Result.andThen, ChangeMaps.setBlock, hadObj, hadEs_push]
theorem run_had_len {t kt et ty : TypeId} (hm : P.underlying t = some (.map kt et)) (w : World) {b : Nat} {l : List ByteArray} (hb : w.heap[b]? = some (hadObj l)) :
    (Builtin.len_ #[t] ty #[.map (some b)]).run P w = .ok (.int .i64 l.length) w := by
  have hb' : w.heap[b]? = some (.map (hadEs 0 l).toArray l.length) := hb
  simp [Builtin.len_, run_underlying hm, MapKept.run_getObj_map hb', goInt, Result.andThen, hadEs_len]
end
theorem blk_put {w : World} {b : Nat} {o : Obj} (hb : w.heap[b]? = some o) (o' : Obj) : (ChangeMaps.setBlock w b o').heap[b]? = some o' := by
  have := blk_lt hb
  simp [ChangeMaps.setBlock, this]
theorem blk_put_far {w : World} {g b : Nat} {o : Obj} (h : w.heap[g]? = some o) (hn : g ≠ b) (o' : Obj) : (ChangeMaps.setBlock w b o').heap[g]? = some o := by
  simp [ChangeMaps.setBlock, Ne.symm hn, h]
theorem below_put {B b : Nat} {a w : World} (h : Below B a w) (hb : B ≤ b) (o : Obj) : Below B a (ChangeMaps.setBlock w b o) :=
  h.trans ⟨rfl, rfl, rfl, by simp [ChangeMaps.setBlock], fun i hi => by
    simp [ChangeMaps.setBlock, show b ≠ i by omega]⟩
end Go.Proofs.YtngofdaciacglaaGreatDoor
