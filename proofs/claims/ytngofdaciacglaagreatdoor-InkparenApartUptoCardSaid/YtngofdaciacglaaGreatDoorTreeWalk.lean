/- Walks: tree.walk, tree.Walk, tree.May. -/
import Derived.Test.YtngofdaciacglaaGreatDoorTreeGoes
namespace Go.Proofs.YtngofdaciacglaaGreatDoor
open Go.RowKit Go.Lib Go.Shelf

attribute [local go_sem] Oper.semAt_some

/-- What an iterator over events does. -/
def ItPost (J Jx : List Ev → World → Prop) (es : List Ev) : Ending → World → Prop := fun e W' => (∃ v, e = .returned v) ∧ (J es W' ∨ ∃ q, q <+: es ∧ Jx q W')

set_option maxRecDepth 100000 in
theorem walk1_in (l : Nat) (w0 : World) (J Jx : List Ev → World → Prop) (hJ : Abides J) (hJ0 : ∀ s W, J s W → Below w0.heap.size w0 W) (n : Nd)
    (hY : Asks l (evs n).length J Jx) (A : Option Addr) (c m b : Nat) (W : World) (hb : ∀ i, W.cell? ⟨b, i, none⟩ = #[.int .i64 n.kind, .string n.text, .string n.val, .slice A n.kids.length c][i]?) (hn : Nd.In w0 n A c) (hj : J [] W) :
    CallsIn Fence.wide m Tryz.prog 89 #[.func (.yield l) #[] #[], .pointer (some ⟨b, 0, none⟩)] W (ItPost J Jx (evs n)) := by
  have HG := Lib.hid (goes_in l w0 J Jx hJ hJ0 _ hY n A c (m - 1) [] W hn hj (by simp))
  refine callsIn_of_wp Tryz.func89 rfl trivial ?_ rfl
  simp only [Tryz.ntmps89, List.size_toArray, List.length_cons, List.length_nil, Nat.reduceAdd, Nat.reduceSub, Array.replicate_succ, Array.replicate_zero, List.push_toArray, List.append_toArray, List.nil_append, List.cons_append]
  gi_wp2
  refine ⟨trivial, (fun h => by cases h), HG.out.mono ?_⟩
  rintro e W3 (⟨rfl, hj3, hk3⟩ | ⟨rfl, q, hq, hjx⟩)
  · gi_wp2
    go_end0
    exact ⟨⟨_, rfl⟩, .inl (by simpa using hj3)⟩
  · gi_wp2
    go_end0
    exact ⟨⟨_, rfl⟩, .inr ⟨q, hq, by simpa using hjx⟩⟩

set_option maxRecDepth 100000 in
theorem walk_calls (n : Nd) (A : Option Addr) (c : Nat) (w : World) : Calls Tryz.prog 55 #[n.v A c] w fun e w' => e = .returned (.func (.func 89) #[] #[.pointer (some ⟨w.heap.size, 0, none⟩)]) ∧ w' = w.alloc (.cells #[.int .i64 n.kind, .string n.text, .string n.val, .slice A n.kids.length c] 24) := by
  go_enter Tryz.func55, Tryz.ntmps55
  go_wp2_with fail
  go_ret
  exact ⟨rfl, rfl⟩

/-- How a round's body may be left: it goes on, or returns. -/
def recPost (I Ix : List Ev → World → Prop) (xs : List Ev) (W : World) : Exit → Act → World → Prop
  | .normal, _, W' => KeepN W W' ∧ I xs W'
  | .ret, _, W' => KeepN W W' ∧ Ix xs W'
  | _, _, _ => False

/-- Is it a loop's record? -/
abbrev isLoop : Obj → Bool | .loop _ => true | _ => false
theorem keptLoop {o : Obj} (h : isLoop o = true) : keptO o = true := by cases o <;> simp_all [keptO]
theorem put_far {W : World} {l g : Nat} (h : g ≠ l) (o : Obj) : (W.putObj l o).heap[g]? = W.heap[g]? := World.putObj_heap_other h

/-- A range over events, where the body's callees keep their own maps. -/
theorem rangeFunc_rec {n : Nat} {g : Operand} {ps : Array Tmp} {assign body : Code} {Q : Exit → Act → World → Prop} {a : Act} {w : World}
    {gf : Nat} {lb : Array Value} (hg : a.eval g = .func (.func gf) #[] lb) (eg : ∀ args w, (callFunc gf args).run Tryz.prog w = .ok (.enter gf args) w) (hps : ps.size = 1)
    (w0 : World) (es : List Ev) (I Ix : List Ev → World → Prop) (As : Ev → Act → World → Prop) (hIa : Abides I) (hI0 : ∀ s W, I s W → Below w0.heap.size w0 W)
    (hIl : ∀ s W l o r, I s W → W.heap[l]? = some o → isLoop o = true → w.heap.size ≤ l → I s (W.putObj l (.loop r)))
    (hIxl : ∀ s W l o r, Ix s W → W.heap[l]? = some o → isLoop o = true → w.heap.size ≤ l → Ix s (W.putObj l (.loop r)))
    (hAl : ∀ x a₁ W l o r, As x a₁ W → W.heap[l]? = some o → isLoop o = true → As x a₁ (W.putObj l (.loop r))) (h0 : I [] w)
    (hit : ∀ (l : Nat) (J Jx : List Ev → World → Prop) (W : World), Below w.heap.size w W → Abides J → (∀ s W, J s W → Below w0.heap.size w0 W) → Asks l es.length J Jx → J [] W → CallsIn Fence.wide (n - 1) Tryz.prog gf (#[.func (.yield l) #[] #[]] ++ lb) W (ItPost J Jx es))
    (hassign : ∀ (l m : Nat) (x : Ev) (W : World) (K : Act → World → Prop), (∀ a₁ W', Below W.heap.size W W' → As x a₁ W' → K a₁ W') →
      assign.wpIn (Fence.wide.inRound l) m Tryz.prog (Exit.then K (fun _ _ _ => False)) { tmps := (ps.zip #[Ev.v x]).foldl (fun t (p, v) => t.setIfInBounds p v) a.tmps, defers := [] } W)
    (hbody : ∀ (l m : Nat) (pre : List Ev) (x : Ev) (a₁ : Act) (W : World), I pre W → pre.length < es.length → EvOk x → As x a₁ W → body.wpIn (Fence.wide.inRound l) m Tryz.prog (recPost I Ix (pre ++ [x]) W) a₁ W)
    (hdone : ∀ W, I es W → W.heap[w.heap.size]? = some (.deferred (some [])) → Q .normal { a with defers := { target := .collected w.heap.size, args := #[] } :: a.defers } W)
    (hstop : ∀ q W, q <+: es → Ix q W → W.heap[w.heap.size]? = some (.deferred (some [])) → Code.ret.wpIn Fence.wide n Tryz.prog Q { a with defers := { target := .collected w.heap.size, args := #[] } :: a.defers } W) :
    (Code.rangeFunc g ps assign body).wpIn Fence.wide n Tryz.prog Q a w := by
  refine wpIn_rangeFunc ?_
  intro fn hfn
  obtain ⟨rec, hrec⟩ : ∃ rec : LoopState → Option Code → Loop, rec = fun st pe => { state := st, pending := pe, fn, tmps := a.tmps, params := ps, assign, body, defers := w.heap.size } := ⟨_, rfl⟩
  obtain ⟨W1, hW1⟩ : ∃ W1, (w.alloc (.deferred (some []))).alloc (.loop (rec .ready none)) = W1 := ⟨_, rfl⟩
  have hL1 : W1.heap[w.heap.size + 1]? = some (.loop (rec .ready none)) := by
    rw [← hW1]; have := World.alloc_heap_new (w.alloc (.deferred (some []))) (.loop (rec .ready none)); rwa [World.size_alloc] at this
  have hK1 : W1.heap[w.heap.size]? = some (.deferred (some [])) := by
    rw [← hW1]; exact (Below.heap_alloc _ _ _ (by simp)).trans (World.alloc_heap_new w _)
  have hb1 : Below w.heap.size w W1 := by
    rw [← hW1]; exact ((Below.refl _ w).alloc (Nat.le_refl _) _).alloc (by simp) _
  refine ⟨w.heap.size + 1, [{ target := .collected w.heap.size, args := #[] }], W1, { target := .fn (.func gf) lb, args := #[.func (.yield (w.heap.size + 1)) #[] #[]] }, W1, gf,
    #[.func (.yield (w.heap.size + 1)) #[] #[]] ++ lb, W1, ?_, ?_, fun _ _ => trivial, ?_, (fun h => by cases h), ?_⟩
  · rw [← hW1, hrec]; exact run_enterLoop_outer _ _ _ _ _
  · simp only [resolve, hg]
    simp [go_sem]
  · simp [invoke, go_sem, eg]
  · refine (hit (w.heap.size + 1)
      (fun pre W => I pre W ∧ W.heap[w.heap.size + 1]? = some (.loop (rec .ready none)) ∧ W.heap[w.heap.size]? = some (.deferred (some [])))
      (fun pre W => Ix pre W ∧ W.heap[w.heap.size + 1]? = some (.loop (rec .done (some .ret))) ∧ W.heap[w.heap.size]? = some (.deferred (some [])))
      W1 hb1 (fun s A B hs hb => ⟨hIa _ _ _ hs.1 hb, blk_below hs.2.1 hb, blk_below hs.2.2 hb⟩) (fun s W hs => hI0 _ _ hs.1) ?_ ⟨hIa _ _ _ h0 hb1, hL1, hK1⟩).mono ?_
    · -- one round
      rintro m pre x W ⟨hi, hl, hk⟩ hlen hok
      have hy := run_yield (P := Tryz.prog) (args := #[Ev.v x]) hl (by rw [hrec]; exact hps.symm)
      rw [hrec] at hy
      refine ⟨fn, _, assign, body, hy, roundIn_of_wpIn hfn (hassign _ m x W _ fun a₁ w₁ hb hA => ?_)⟩
      have hl1 := blk_below hl hb
      have hk1 := blk_below hk hb
      have hi1 := hIa _ _ _ hi hb
      have hlt : w.heap.size + 1 < w₁.heap.size := blk_lt hl1
      refine ⟨_, run_beginRound hl1 (by rw [hrec]), ?_⟩
      obtain ⟨W2, hW2⟩ : ∃ W2, W2 = w₁.putObj (w.heap.size + 1) (.loop { rec .ready none with state := .busy }) := ⟨_, rfl⟩
      rw [← hW2]
      have hl2 : W2.heap[w.heap.size + 1]? = some (.loop { rec .ready none with state := .busy }) := by rw [hW2]; exact World.putObj_heap_same hlt
      have hk2 : W2.heap[w.heap.size]? = some (.deferred (some [])) := by rw [hW2]; exact (put_far (by omega) _).trans hk1
      have hi2 : I pre W2 := by rw [hW2]; exact hIl _ _ _ _ _ hi1 hl1 rfl (by omega)
      have hA2 : As x a₁ W2 := by rw [hW2]; exact hAl _ _ _ _ _ _ hA hl1 rfl
      refine wpIn_mono (hbody _ m pre x a₁ W2 hi2 hlen hok hA2) ?_
      have fin : ∀ (jump : Option Code) (W3 : World), KeepN W2 W3 →
          (Instr.endRound (w.heap.size + 1) jump).run Tryz.prog W3 = .ok (.bool jump.isNone) (W3.putObj (w.heap.size + 1) (.loop (rec (if jump.isNone then .ready else .done) jump))) ∧
          W3.heap[w.heap.size + 1]? = some (.loop { rec .ready none with state := .busy }) ∧
          (W3.putObj (w.heap.size + 1) (.loop (rec (if jump.isNone then .ready else .done) jump))).heap[w.heap.size + 1]? = some (.loop (rec (if jump.isNone then .ready else .done) jump)) ∧
          (W3.putObj (w.heap.size + 1) (.loop (rec (if jump.isNone then .ready else .done) jump))).heap[w.heap.size]? = some (.deferred (some [])) := fun jump W3 hk3 => by
        have hl3 := hk3 _ _ hl2 rfl
        have := run_endRound (P := Tryz.prog) jump hl3
        rw [hrec] at this ⊢
        exact ⟨this, by rw [hrec] at hl3; exact hl3, World.putObj_heap_same (blk_lt hl3), (put_far (by omega) _).trans (hk3 _ _ hk2 rfl)⟩
      rintro e a3 W3 hp
      cases e with
      | normal =>
        obtain ⟨hk3, hi3⟩ := hp
        obtain ⟨hr, hl3, hl4, hk4⟩ := fin none W3 hk3
        refine ⟨_, _, hr, .inl ⟨rfl, ⟨hIl _ _ _ _ _ hi3 hl3 rfl (by omega), hl4, hk4⟩, fun i o hio ho => ?_⟩⟩
        by_cases hil : i = w.heap.size + 1
        · subst hil
          rw [hl] at hio
          cases hio
          exact hl4
        · rw [put_far hil]
          refine hk3 _ _ ?_ ho
          rw [hW2, put_far hil]
          exact blk_below hio hb
      | ret =>
        obtain ⟨hk3, hi3⟩ := hp
        obtain ⟨hr, hl3, hl4, hk4⟩ := fin (some .ret) W3 hk3
        exact ⟨_, _, hr, .inr ⟨rfl, [x], List.prefix_refl _, hIxl _ _ _ _ _ hi3 hl3 rfl (by omega), hl4, hk4⟩⟩
      | exit id => exact hp.elim
      | goto t => exact hp.elim
      | panic ch => exact hp.elim
      | outgrown => exact hp.elim
    · -- behind the iterator
      rintro e W2 ⟨⟨v, rfl⟩, (⟨hi, hl, hk⟩ | ⟨q, hq, hi, hl, hk⟩)⟩
      · exact ⟨none, _, by have := run_endLoop (P := Tryz.prog) hl (by rw [hrec]; simp); rw [hrec] at this; exact this, hdone _ (hIl _ _ _ _ _ hi hl rfl (by omega)) ((put_far (by omega) _).trans hk)⟩
      · exact ⟨some .ret, _, by have := run_endLoop (P := Tryz.prog) hl (by rw [hrec]; simp); rw [hrec] at this; exact this, hstop q _ hq (hIxl _ _ _ _ _ hi hl rfl (by omega)) ((put_far (by omega) _).trans hk)⟩
end Go.Proofs.YtngofdaciacglaaGreatDoor
