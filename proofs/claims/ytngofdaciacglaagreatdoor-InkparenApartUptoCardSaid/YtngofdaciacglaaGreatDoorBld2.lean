/- Walks: strings.Builder's writes into a Builder in use, and what they leave alone. -/
import Derived.Test.YtngofdaciacglaaGreatDoorQuoteL
import Derived.Deep.AppendLies
namespace Go.Proofs.YtngofdaciacglaaGreatDoor
open Go.RowKit Go.Lib

/-- A Builder in use: it lies in the block b, its bytes in the block g. -/
structure BAt (B b g : Nat) (bs : List Value) (w : World) : Prop where
  base : B ≤ b
  cells : ∃ cap, w.heap[b]? = some (.cells #[.pointer (some ⟨b, 0, none⟩), .slice (some ⟨g, 0, none⟩) bs.length cap] 89 (0, 0)) ∧ w.ownsRow B 5 1 (.slice (some ⟨g, 0, none⟩) bs.length cap) bs.length bs
  ne : b ≠ g
/-- All other blocks stand. -/
structure Others (b g : Nat) (w w' : World) : Prop where
  size : w.heap.size ≤ w'.heap.size
  at_ : ∀ k, k < w.heap.size → k ≠ b → k ≠ g → w'.heap[k]? = w.heap[k]?

theorem BAt.at_ {B b g : Nat} {bs : List Value} {w : World} (h : BAt B b g bs w) : Lib.BuilderAt 89 5 B b (.pointer (some ⟨b, 0, none⟩)) bs w := by
  obtain ⟨cap, h1, h2⟩ := h.cells
  exact ⟨h.base, _, h1, h2, fun e => h.ne (by simpa [Value.ownBlock] using e.symm)⟩
theorem BAt.of {B b : Nat} {bs : List Value} {w : World} (h : Lib.BuilderAt 89 5 B b (.pointer (some ⟨b, 0, none⟩)) bs w) (hn : 0 < bs.length) : ∃ g, BAt B b g bs w ∧ g < w.heap.size := by
  obtain ⟨hB, v, h1, h2, h3⟩ := h
  obtain ⟨g, cap, rfl, _, hlt⟩ := h2.form hn
  exact ⟨g, ⟨hB, ⟨cap, h1, h2⟩, fun e => h3 (by simp [Value.ownBlock, e])⟩, hlt⟩
theorem BAt.lt {B b g : Nat} {bs : List Value} {w : World} (h : BAt B b g bs w) : b < w.heap.size ∧ g < w.heap.size := by
  obtain ⟨cap, h1, h2⟩ := h.cells
  exact ⟨blk_lt h1, (h2.lt g rfl).2⟩

section
variable {P : Program}
theorem str_lies (w : World) (base : Nat) (t u ty e : TypeId) (i : TypeInfo) (ht : P.underlying t = some (.slice e)) (hu : P.underlying u = some .string) (hi : P.info? e = some i) (hz : i.zero = some (.int .u8 0)) (hsize : i.size = 1) (hby : i.bytes = 1)
    (g n cap : Nat) (xs : List Value) (hown : w.ownsRow base e 1 (.slice (some ⟨g, 0, none⟩) n cap) n xs) (s : ByteArray) (h63 : n + s.size ≤ maxLen) (hbytes : n + s.size ≤ 140737488355328) {v' : Value} {w' : World}
    (hr : (Builtin.append_ #[t, u] ty #[.slice (some ⟨g, 0, none⟩) n cap, .string s]).run P w = .ok v' w') : v'.ownBlock = some g ∨ v'.ownBlock = some w.heap.size := by
  have hsmall : n + s.size ≤ 9223372036854775807 := by simp only [maxLen] at h63; omega
  have hxl : xs.length = n := by simpa using hown.1
  rcases hown.2 with ⟨h, _⟩ | ⟨g', cap', cur, hv, _, hg, _, _, hcs, _⟩
  · cases h
  · cases hv
    by_cases hroom : n + s.size ≤ cap
    · have hcs' : cur.size = cap := by simpa using hcs
      have h2 := run_append_room_string (P := P) w t u ty e i ht hu hi hsize g n cap cur hg s hroom (by omega)
      left
      rw [(Result.ok.inj (hr.symm.trans h2)).1]; rfl
    · have holds : ∀ j u, xs[j]? = some u → w.cell? ((⟨g, 0, none⟩ : Addr).add j) = some u := hown.cells (g := g) rfl
      have h2 := run_append_grow_string (P := P) w t u ty e i (.int .u8 0) ht hu hi hz ⟨g, 0, none⟩ n cap xs (by rw [hsize]; simpa using hxl) holds s (by omega) (by omega) (by rw [hby]; exact growslice_fits (by omega) (by omega))
      right
      rw [(Result.ok.inj (hr.symm.trans h2)).1]; rfl
theorem wpList_append_string_lies {ops : Array Oper} {rest : List Oper} {o : Oper} {a : Act} {Q : Exit → Act → World → Prop} (w : World) (hgd : o.guard = none) (sl x : Operand) (t u : TypeId)
    (ho : o.op = .call { callee := .builtin .append, args := #[sl, x], argTypes := #[t, u] })
    (base : Nat) (e : TypeId) (i : TypeInfo) (ht : P.underlying t = some (.slice e)) (hu : P.underlying u = some .string) (hi : P.info? e = some i) (hz : i.zero = some (.int .u8 0))
    (hsize : i.size = 1) (hby : i.bytes = 1)
    (g n cap : Nat) (xs : List Value) (hs : a.eval sl = .slice (some ⟨g, 0, none⟩) n cap) (hown : w.ownsRow base e 1 (.slice (some ⟨g, 0, none⟩) n cap) n xs) (hn : 0 < n) (s : ByteArray) (hx : a.eval x = .string s)
    (h63 : n + s.size ≤ maxLen) (hbytes : n + s.size ≤ 140737488355328) (hbase : base ≤ w.heap.size)
    (h : ∀ g' cap' w', w'.ownsRow base e 1 (.slice (some ⟨g', 0, none⟩) (n + s.size) cap') (n + s.size) (xs ++ strCells s) → w.grownBy w' (some g) → (g' = g ∨ g' = w.heap.size) → wpList P ops Q rest (a.put o.dst (.slice (some ⟨g', 0, none⟩) (n + s.size) cap')) w') : wpList P ops Q (o :: rest) a w := by
  refine wpList_plain hgd fun K hK => ?_
  obtain ⟨v', w', hr, h2, h3, h4⟩ := run_append_own_string (P := P) w base t u o.type e i ht hu hi hz hsize hby _ n xs hown s h63 hbytes hbase
  have h5 := str_lies w base t u o.type e i ht hu hi hz hsize hby g n cap xs hown s h63 hbytes hr
  obtain ⟨g', cap', rfl, _, _⟩ := h2.form (by omega)
  unfold Oper.wp execOp
  simp only [ho, resolve, invoke, builtin, Sem.run_bind, Sem.run_pure, Result.andThen_ok, List.map_toArray, List.map_cons, List.map_nil, hs, hx, hr]
  exact hK _ _ (h g' cap' w' h2 h3 (by simpa [Value.ownBlock] using h5))
end

set_option maxHeartbeats 2000000 in
set_option maxRecDepth 100000 in
theorem bbyte2_calls (B b g : Nat) (bs : List Value) (c : Int) (w : World) (h : BAt B b g bs w) (hlen : bs.length + 1 ≤ 140737488355328) (hn : 0 < bs.length) :
    Calls Tryz.prog 73 #[.pointer (some ⟨b, 0, none⟩), .int .u8 c] w fun e w' => e = .returned .nilIface ∧ ∃ g', BAt B b g' (bs ++ [.int .u8 c]) w' ∧ (g' = g ∨ w.heap.size ≤ g') ∧ Others b g w w' ∧ Below B w w' := by
  obtain ⟨i0, hi, hz0, hz1, hz2⟩ := info_parts Tryz.infoByte
  have HU := Lib.hid (bcheck_used b w h.at_.cell0)
  obtain ⟨hB, ⟨cap, hbk, hown⟩, hne⟩ := h
  have c0 : w.cell? ⟨b, 0, none⟩ = some (.pointer (some ⟨b, 0, none⟩)) := by rw [Lib.cell_of_heap hbk]; rfl
  have c1 : w.cell? ⟨b, 1, none⟩ = some (.slice (some ⟨g, 0, none⟩) bs.length cap) := by rw [Lib.cell_of_heap hbk]; rfl
  have hlt : b < w.heap.size := blk_lt hbk
  have Hbk := Lib.hid hbk
  clear hbk
  go_enter Tryz.func73, Tryz.ntmps73
  go_wp2_with fail
  refine HU.out.mono ?_
  rintro e w1 ⟨rfl, rfl⟩
  go_wp2_with (at_builtin; refine wpList_append_lies _ rfl _ _ 58 rfl B 5 i0 (.int .u8 0) 1 1 Tryz.underlying58 hi hz0 hz1 hz2 rfl (by decide) _ _ _ rfl (hown.alloc _) ⟨w1.heap.size, 0, none⟩ 1 1 [.int .u8 c] rfl rfl (one_new _ _ _) (by simp [Value.oneCell']) (by decide) (by unfold maxLen; omega) (by omega) (by simp; omega) _ rfl ?_)
  intro g' cap' w2 hown' hgrow hat hlt'
  have hb2 : w2.heap[b]? = some (.cells #[.pointer (some ⟨b, 0, none⟩), .slice (some ⟨g, 0, none⟩) bs.length cap] 89 (0, 0)) := by
    rw [hgrow.block b (by simp; omega) (fun e => hne (by simpa [Value.ownBlock] using e))]
    exact blk_alloc Hbk.out _
  have d1 : w2.cell? ⟨b, 1, none⟩ = some (.slice (some ⟨g, 0, none⟩) bs.length cap) := by rw [Lib.cell_of_heap hb2]; rfl
  have f1 : w2.frozen? ⟨b, 1, none⟩ = false := Lib.frozen_of_heap hb2 1
  have Hb2 := Lib.hid hb2
  have Hat := Lib.hid hat
  clear hb2 hat
  go_wp2_with fail
  go_ret
  have hat : g' = g ∨ g' = w1.heap.size + 1 := by
    rcases Hat.out with e | e
    · left; simpa [Value.ownBlock] using e.symm
    · right; simpa using e
  have hP := Lib.BuilderAt.put (T := 89) (e := 5) hB Hb2.out (bs' := bs ++ [.int .u8 c]) (by simpa using hown') (by decide)
  have hsz := hgrow.size
  simp at hsz
  refine ⟨rfl, g', ⟨hB, ?_, ?_⟩, by omega, ⟨by simp [World.setCell]; omega, ?_⟩, ?_⟩
  · obtain ⟨_, v, p1, p2, p3⟩ := hP
    rw [blk_set Hb2.out 1] at p1
    simp at p1
    subst p1
    refine ⟨cap', ?_, by simpa using p2⟩
    rw [blk_set Hb2.out 1]
    simp
  · intro e
    subst e
    have := hown'.2
    rcases this with ⟨h, _⟩ | ⟨g1, _, cur, hv, _, hg1, _⟩
    · cases h
    · cases hv
      rw [Hb2.out] at hg1
      cases hg1
  · intro k hk h1 h2
    rw [Below.heap_setCell _ _ _ _ (fun e => h1 e)]
    rw [hgrow.block k (by simp; omega) (fun e => h2 (by simpa [Value.ownBlock] using e))]
    exact Below.heap_alloc _ _ _ hk
  · exact (((Below.refl B _).alloc (by omega) _).grown hgrow (by simp; omega) (fun k hk => (hown.lt k hk).1)).setCell (p := ⟨b, 1, none⟩) hB _

set_option maxHeartbeats 2000000 in
set_option maxRecDepth 100000 in
theorem bstr2_calls (B b g : Nat) (bs : List Value) (s : ByteArray) (w : World) (h : BAt B b g bs w) (hlen : bs.length + s.size ≤ 140737488355328) (hn : 0 < bs.length) :
    Calls Tryz.prog 74 #[.pointer (some ⟨b, 0, none⟩), .string s] w fun e w' => e = .returned (.tuple #[.int .i64 s.size, .nilIface]) ∧ ∃ g', BAt B b g' (bs ++ Lib.strCells s) w' ∧ (g' = g ∨ w.heap.size ≤ g') ∧ Others b g w w' ∧ Below B w w' := by
  obtain ⟨i0, hi, hz0, hz1, hz2⟩ := info_parts Tryz.infoByte
  have HU := Lib.hid (bcheck_used b w h.at_.cell0)
  obtain ⟨hB, ⟨cap, hbk, hown⟩, hne⟩ := h
  have c0 : w.cell? ⟨b, 0, none⟩ = some (.pointer (some ⟨b, 0, none⟩)) := by rw [Lib.cell_of_heap hbk]; rfl
  have c1 : w.cell? ⟨b, 1, none⟩ = some (.slice (some ⟨g, 0, none⟩) bs.length cap) := by rw [Lib.cell_of_heap hbk]; rfl
  have hlt : b < w.heap.size := blk_lt hbk
  have Hbk := Lib.hid hbk
  clear hbk
  go_enter Tryz.func74, Tryz.ntmps74
  go_wp2_with fail
  refine HU.out.mono ?_
  rintro e w1 ⟨rfl, rfl⟩
  go_wp2_with (at_builtin; refine wpList_append_string_lies _ rfl _ _ 58 9 rfl B 5 i0 Tryz.underlying58 Tryz.underlying9 hi hz0 hz1 hz2 g _ _ _ rfl hown hn s rfl (by unfold maxLen; omega) (by omega) (by omega) ?_)
  intro g' cap' w2 hown' hgrow hat
  have hb2 : w2.heap[b]? = some (.cells #[.pointer (some ⟨b, 0, none⟩), .slice (some ⟨g, 0, none⟩) bs.length cap] 89 (0, 0)) := by
    rw [hgrow.block b hlt (fun e => hne (by simpa using e))]
    exact Hbk.out
  have d1 : w2.cell? ⟨b, 1, none⟩ = some (.slice (some ⟨g, 0, none⟩) bs.length cap) := by rw [Lib.cell_of_heap hb2]; rfl
  have f1 : w2.frozen? ⟨b, 1, none⟩ = false := Lib.frozen_of_heap hb2 1
  have Hb2 := Lib.hid hb2
  have Hat := Lib.hid hat
  clear hb2 hat
  go_wp2_with fail
  go_ret2
  have hat := Hat.out
  have hP := Lib.BuilderAt.put (T := 89) (e := 5) hB Hb2.out (bs' := bs ++ Lib.strCells s) (by simpa [Lib.strCells_length] using hown') (by decide)
  have hsz := hgrow.size
  refine ⟨rfl, g', ⟨hB, ?_, ?_⟩, by omega, ⟨by simp [World.setCell]; omega, ?_⟩, ?_⟩
  · refine ⟨cap', ?_, ?_⟩
    · rw [blk_set Hb2.out 1]
      simp [Lib.strCells_length]
    · obtain ⟨_, v, p1, p2, p3⟩ := hP
      rw [blk_set Hb2.out 1] at p1
      simp at p1
      subst p1
      simpa [Lib.strCells_length] using p2
  · intro e
    subst e
    have := hown'.2
    rcases this with ⟨h, _⟩ | ⟨g1, _, cur, hv, _, hg1, _⟩
    · cases h
    · cases hv
      rw [Hb2.out] at hg1
      cases hg1
  · intro k hk h1 h2
    rw [Below.heap_setCell _ _ _ _ (fun e => h1 e)]
    exact hgrow.block k hk (fun e => h2 (by simpa using e))
  · exact ((Below.refl B _).grown hgrow (by omega) (fun k hk => (hown.lt k (by simpa [Value.ownBlock] using hk)).1)).setCell (p := ⟨b, 1, none⟩) hB _
end Go.Proofs.YtngofdaciacglaaGreatDoor
