/- Walks: the laws' copied: the same node in memory of its own. -/
import Derived.Test.YtngofdaciacglaaGreatDoorProg
import Derived.Test.YtngofdaciacglaaGreatDoorBase
import Derived.Outline
import Derived.Deep.AppendLies
import Derived.Lib.SmallJoins
namespace Go.Proofs.YtngofdaciacglaaGreatDoor
open Go.RowKit Go.Lib

theorem own_below' {w w1 : World} {base n size : Nat} {e : TypeId} {v : Value} {xs : List Value} (h : w.ownsRow base e size v n xs) (hb : Below w.heap.size w w1) : w1.ownsRow base e size v n xs := by
  refine ⟨h.1, ?_⟩
  rcases h.2 with h | ⟨g', cap', cur, e1, e2, e3, e4⟩
  · exact .inl h
  · exact .inr ⟨g', cap', cur, e1, e2, blk_below e3 hb, e4⟩
mutual
/-- The node lies in memory, all its memory in blocks of which X holds. -/
def Nd.InX (X : Nat → Prop) (w : World) : Nd → Option Addr → Nat → Prop
  | ⟨k, t, v, ks⟩, A, c => ks.length ≤ c ∧ ks.length ≤ 1048576 ∧ t.size ≤ 1048576 ∧ v.size ≤ 1048576 ∧ InI64 k ∧ (ks = [] ∨ ∃ ad, A = some ad ∧ X ad.block ∧ KidsX X w ks ad 0)
def KidsX (X : Nat → Prop) (w : World) : List Nd → Addr → Nat → Prop
  | [], _, _ => True
  | n :: ns, ad, j => (∃ A c, w.cell? (ad.add (j * 4)) = some (.int .i64 n.kind) ∧
      w.cell? ⟨(ad.add (j * 4)).block, (ad.add (j * 4)).off + 1, none⟩ = some (.string n.text) ∧
      w.cell? ⟨(ad.add (j * 4)).block, (ad.add (j * 4)).off + 2, none⟩ = some (.string n.val) ∧
      w.cell? ⟨(ad.add (j * 4)).block, (ad.add (j * 4)).off + 3, none⟩ = some (.slice A n.kids.length c) ∧ Nd.InX X w n A c) ∧ KidsX X w ns ad (j + 1)
end
mutual
theorem Nd.InX.in_ {X : Nat → Prop} {w : World} : ∀ (n : Nd) (A : Option Addr) (c : Nat), Nd.InX X w n A c → Nd.In w n A c
  | ⟨_, _, _, ks⟩, A, c => by
    intro h
    unfold Nd.InX at h
    unfold Nd.In
    obtain ⟨h1, h2, h3, h4, h5, h⟩ := h
    refine ⟨h1, h2, h3, h4, h5, ?_⟩
    rcases h with h | ⟨ad, h1, -, h2⟩
    · exact .inl h
    · exact .inr ⟨ad, h1, KidsX.in_ ks ad 0 h2⟩
theorem KidsX.in_ {X : Nat → Prop} {w : World} : ∀ (ks : List Nd) (ad : Addr) (j : Nat), KidsX X w ks ad j → KidsIn w ks ad j
  | [], _, _ => fun _ => by unfold KidsIn; trivial
  | n :: ns, ad, j => by
    intro h
    unfold KidsX at h
    unfold KidsIn
    obtain ⟨⟨A, c, h1, h2, h3, h4, h6⟩, h7⟩ := h
    exact ⟨⟨A, c, h1, h2, h3, h4, Nd.InX.in_ n A c h6⟩, KidsX.in_ ns ad (j + 1) h7⟩
end
mutual
theorem Nd.InX.keep {X Y : Nat → Prop} {w w1 : World} (hb : ∀ b, X b → b < w.heap.size → w1.heap[b]? = w.heap[b]? ∧ Y b) : ∀ (n : Nd) (A : Option Addr) (c : Nat), Nd.InX X w n A c → Nd.InX Y w1 n A c
  | ⟨_, _, _, ks⟩, A, c => by
    intro h
    unfold Nd.InX at h ⊢
    obtain ⟨h1, h2, h3, h4, h5, h⟩ := h
    refine ⟨h1, h2, h3, h4, h5, ?_⟩
    rcases h with h | ⟨ad, ha, hx, h2⟩
    · exact .inl h
    · cases ks with
      | nil => exact .inl rfl
      | cons n ns =>
        have hlt : ad.block < w.heap.size := by
          unfold KidsX at h2
          obtain ⟨⟨_, _, h3, _⟩, _⟩ := h2
          have := World.block_lt_of_cell? w _ h3
          simpa [Addr.add] using this
        exact .inr ⟨ad, ha, (hb _ hx hlt).2, KidsX.keep hb (n :: ns) ad 0 hx hlt h2⟩
theorem KidsX.keep {X Y : Nat → Prop} {w w1 : World} (hb : ∀ b, X b → b < w.heap.size → w1.heap[b]? = w.heap[b]? ∧ Y b) : ∀ (ks : List Nd) (ad : Addr) (j : Nat), X ad.block → ad.block < w.heap.size → KidsX X w ks ad j → KidsX Y w1 ks ad j
  | [], _, _ => fun _ _ _ => by unfold KidsX; trivial
  | n :: ns, ad, j => by
    intro hx hlt h
    unfold KidsX at h ⊢
    obtain ⟨⟨A, c, h1, h2, h3, h4, h6⟩, h7⟩ := h
    have hk := (hb _ hx hlt).1
    have hbl : (ad.add (j * 4)).block = ad.block := by unfold Addr.add; split <;> rfl
    refine ⟨⟨A, c, ?_, ?_, ?_, ?_, Nd.InX.keep hb n A c h6⟩, KidsX.keep hb ns ad (j + 1) hx hlt h7⟩
    · exact (World.cell?_of_block (by rw [hbl]; exact hk)).trans h1
    · exact (World.cell?_of_block (by show w1.heap[(ad.add (j * 4)).block]? = w.heap[(ad.add (j * 4)).block]?; rw [hbl]; exact hk)).trans h2
    · exact (World.cell?_of_block (by show w1.heap[(ad.add (j * 4)).block]? = w.heap[(ad.add (j * 4)).block]?; rw [hbl]; exact hk)).trans h3
    · exact (World.cell?_of_block (by show w1.heap[(ad.add (j * 4)).block]? = w.heap[(ad.add (j * 4)).block]?; rw [hbl]; exact hk)).trans h4
end

/-- Nodes' cells, one behind the other. -/
abbrev one4 (p : Nd × Option Addr × Nat) : List Value := [.int .i64 p.1.kind, .string p.1.text, .string p.1.val, .slice p.2.1 p.1.kids.length p.2.2]
def cells4 (ps : List (Nd × Option Addr × Nat)) : List Value := ps.flatMap one4
theorem cells4_len : ∀ ps : List (Nd × Option Addr × Nat), (cells4 ps).length = ps.length * 4
  | [] => rfl
  | p :: ps => by have := cells4_len ps; unfold cells4 at this ⊢; simp only [List.flatMap_cons, List.length_append, List.length_cons, List.length_nil]; omega
theorem kids_of_cells {X : Nat → Prop} {w : World} {g : Nat} : ∀ (ps : List (Nd × Option Addr × Nat)) (j : Nat), (∀ i u, (cells4 ps)[i]? = some u → w.cell? ⟨g, j * 4 + i, none⟩ = some u) → (∀ p ∈ ps, p.1.InX X w p.2.1 p.2.2) →
    KidsX X w (ps.map (·.1)) ⟨g, 0, none⟩ j
  | [], _, _, _ => by unfold KidsX; trivial
  | p :: ps, j, hc, hp => by
    have ha : (⟨g, 0, none⟩ : Addr).add (j * 4) = ⟨g, j * 4, none⟩ := by unfold Addr.add; split <;> simp_all
    rw [List.map_cons]
    unfold KidsX
    rw [ha]
    refine ⟨⟨p.2.1, p.2.2, hc 0 _ (by simp [cells4]), hc 1 _ (by simp [cells4]), hc 2 _ (by simp [cells4]), hc 3 _ (by simp [cells4]), hp p (List.mem_cons_self ..)⟩, ?_⟩
    refine kids_of_cells ps (j + 1) (fun i u hu => ?_) (fun q hq => hp q (List.mem_cons_of_mem _ hq))
    have := hc (4 + i) u (by
      have e : cells4 (p :: ps) = one4 p ++ cells4 ps := by simp [cells4]
      rw [e, List.getElem?_append_right (by simp)]
      simpa using hu)
    rw [show (j + 1) * 4 + i = j * 4 + (4 + i) from by omega]
    exact this

/-- A node whose kids lie in a block known whole. -/
theorem Nd.InX.mk_ {X : Nat → Prop} {w : World} {g : Nat} {ps : List (Nd × Option Addr × Nat)} {cs : Array Value} {ty : TypeId} {fr : Nat × Nat} {k : Int} {t v : ByteArray} {c : Nat} (hg : w.heap[g]? = some (.cells cs ty fr)) (hcs : cs.toList = cells4 ps) (hX : X g)
    (h : ∀ p ∈ ps, p.1.InX X w p.2.1 p.2.2) (hc : ps.length ≤ c) (hl : ps.length ≤ 1048576) (ht : t.size ≤ 1048576) (hv : v.size ≤ 1048576) (hk : InI64 k) : Nd.InX X w ⟨k, t, v, ps.map (·.1)⟩ (some ⟨g, 0, none⟩) c := by
  unfold Nd.InX
  refine ⟨by simpa using hc, by simpa using hl, ht, hv, hk, .inr ⟨_, rfl, hX, ?_⟩⟩
  refine kids_of_cells ps 0 (fun i u hu => ?_) h
  have := World.news_of_block hg i u (by rw [hcs]; exact hu)
  have e : (⟨g, 0, none⟩ : Addr).add i = ⟨g, 0 * 4 + i, none⟩ := by unfold Addr.add; split <;> simp_all
  rw [e] at this
  exact this
/-- A node without kids. -/
theorem Nd.InX.leaf {X : Nat → Prop} {w : World} {k : Int} {t v : ByteArray} {A : Option Addr} {c : Nat} (ht : t.size ≤ 1048576) (hv : v.size ≤ 1048576) (hk : InI64 k) : Nd.InX X w ⟨k, t, v, []⟩ A c := by
  unfold Nd.InX
  exact ⟨Nat.zero_le _, by simp, ht, hv, hk, .inl rfl⟩
theorem Tryz.infoNode : (Tryz.prog.info? 24).map (fun i => (i.zero, i.size, i.bytes)) = some (some (.agg #[.int .i64 0, .string ⟨#[]⟩, .string ⟨#[]⟩, .slice none 0 0]), 4, 64) := by kernel_rfl

/-- One kid more. -/
theorem copy_step {S : Nat} {wr w1 w2 : World} {v : Value} {ps : List (Nd × Option Addr × Nat)} {p0 : Nd × Option Addr × Nat} {g : Nat} {o : Obj} (hS : S ≤ wr.heap.size)
    (hrow : ∀ k, v.ownBlock = some k → k < wr.heap.size)
    (hps : ∀ p ∈ ps, p.1.InX (fun b => S ≤ b ∧ v.ownBlock ≠ some b) wr p.2.1 p.2.2) (h0 : p0.1.InX (fun b => wr.heap.size ≤ b) w1 p0.2.1 p0.2.2) (hb1 : Below wr.heap.size wr w1)
    (hgrow : (w1.alloc o).grownBy w2 v.ownBlock) (hat : v.ownBlock = some g ∨ g = w1.heap.size + 1) (c : Nat) :
    ∀ p ∈ ps ++ [p0], p.1.InX (fun b => S ≤ b ∧ (Value.slice (some ⟨g, 0, none⟩) (ps.length + 1) c).ownBlock ≠ some b) w2 p.2.1 p.2.2 := by
  have hz := hb1.size
  have hk : ∀ b, b < w1.heap.size → v.ownBlock ≠ some b → w2.heap[b]? = w1.heap[b]? := fun b hb hne =>
    (hgrow.block b (by simp; omega) (fun e => hne e.symm)).trans (Below.heap_alloc _ _ _ hb)
  intro p hp
  rcases List.mem_append.1 hp with hp | hp
  · refine (hps p hp).keep fun b ⟨hb1', hb2⟩ hlt => ⟨?_, hb1', ?_⟩
    · rw [hk b (by omega) hb2]
      exact hb1.block b hlt
    · intro e
      have e : g = b := by simpa [Value.ownBlock] using e
      rcases hat with h | h
      · exact hb2 (e ▸ h)
      · omega
  · rw [List.mem_singleton.1 hp]
    refine h0.keep fun b hb hlt => ⟨hk b hlt (fun e => ?_), by omega, ?_⟩
    · have := hrow b e; omega
    · intro e
      have e : g = b := by simpa [Value.ownBlock] using e
      rcases hat with h | h
      · have := hrow g h; omega
      · omega

/-- Behind all kids. -/
theorem copy_end {S : Nat} {wr W5 : World} {A2 : Option Addr} {c2 : Nat} {ps : List (Nd × Option Addr × Nat)} {k : Int} {t v : ByteArray} (hl : ps.length ≤ 1048576) (ht : t.size ≤ 1048576) (hv : v.size ≤ 1048576) (hk : InI64 k)
    (hown : wr.ownsRow (S + 2) 24 4 (.slice A2 ps.length c2) ps.length (cells4 ps)) (hps : ∀ p ∈ ps, p.1.InX (fun b => S + 2 ≤ b ∧ (Value.slice A2 ps.length c2).ownBlock ≠ some b) wr p.2.1 p.2.2)
    (hW : ∀ b, S + 2 ≤ b → W5.heap[b]? = wr.heap[b]?) : Nd.InX (fun b => S ≤ b) W5 ⟨k, t, v, ps.map (·.1)⟩ A2 c2 := by
  have hc : ps.length ≤ c2 := by
    rcases hown.2 with ⟨h, h2⟩ | ⟨_, _, _, h, _, _, h2, _⟩
    · injection h with e1 e2 e3; omega
    · injection h with e1 e2 e3; omega
  unfold Nd.InX
  refine ⟨by simpa using hc, by simpa using hl, ht, hv, hk, ?_⟩
  cases ps with
  | nil => exact .inl rfl
  | cons p r =>
    right
    obtain ⟨g, cap, e, hg, hlt⟩ := hown.form (by simp)
    cases e
    refine ⟨_, rfl, by show S ≤ g; omega, ?_⟩
    refine kids_of_cells (p :: r) 0 (fun i u hu => ?_) (fun q hq => (hps q hq).keep fun b hb hlt => ⟨hW b hb.1, by omega⟩)
    have := hown.cells (g := g) rfl i u hu
    have e : (⟨g, 0, none⟩ : Addr).add i = ⟨g, 0 * 4 + i, none⟩ := by unfold Addr.add; split <;> simp_all
    rw [e] at this
    rw [World.cell?_of_block (a := ⟨g, 0 * 4 + i, none⟩) (hW g hg)]
    exact this

set_option maxHeartbeats 1000000 in
set_option maxRecDepth 100000 in
theorem copied_calls : ∀ (n : Nd) (A : Option Addr) (c : Nat) (w : World), Nd.In w n A c →
    Calls Tryz.prog 12 #[n.v A c] w fun e w' => ∃ A' c', e = .returned (n.v A' c') ∧ n.InX (fun b => w.heap.size ≤ b) w' A' c' ∧ Below w.heap.size w w' := by
  refine Nd.ind ?_
  intro n ih A c w hn
  obtain ⟨i0, hi, hz0, hz1, hz2⟩ := info_parts Tryz.infoNode
  obtain ⟨k, t, v, ks⟩ := n
  unfold Nd.In at hn
  obtain ⟨hc, hl, ht, hv, hk, hn⟩ := hn
  simp only [Nd.v]
  go_enter Tryz.func12, Tryz.ntmps12
  go_wp2_with fail
  have HN := Lib.hid hn
  have hb0 : Below w.heap.size w ((w.alloc (.cells #[.int .i64 k, .string t, .string v, .slice A ks.length c] 24)).alloc (.cells #[.int .i64 0, .string ⟨#[]⟩, .string ⟨#[]⟩, .slice none 0 0] 24)) := ((Below.refl _ _).alloc (Nat.le_refl _) _).alloc (by simp) _
  have hA := blk_alloc (blk_new w (.cells #[.int .i64 k, .string t, .string v, .slice A ks.length c] 24)) (.cells #[.int .i64 0, .string ⟨#[]⟩, .string ⟨#[]⟩, .slice none 0 0] 24)
  have hC := blk_new (w.alloc (.cells #[.int .i64 k, .string t, .string v, .slice A ks.length c] 24)) (.cells #[.int .i64 0, .string ⟨#[]⟩, .string ⟨#[]⟩, .slice none 0 0] 24)
  simp only [World.size_alloc] at hC
  have HA := Lib.hid hA
  have HC := Lib.hid hC
  have HI := Lib.hid ih
  clear hn hA hC ih
  go_loopw [3, 4] (fun vv i wr => ∃ (ps : List (Nd × Option Addr × Nat)) (rest : List Nd), Hid (ks = ps.map (·.1) ++ rest) ∧ i = .int .i64 (ps.length : Nat) ∧ Below w.heap.size w wr ∧ (rest = [] ∨ ∃ ad, A = some ad ∧ KidsIn w rest ad ps.length) ∧
      Hid (wr.heap[w.heap.size]? = some (.cells #[.int .i64 k, .string t, .string v, .slice A ks.length c] 24)) ∧ Hid (wr.heap[w.heap.size + 1]? = some (.cells #[.int .i64 0, .string ⟨#[]⟩, .string ⟨#[]⟩, .slice none 0 0] 24)) ∧
      Hid (wr.ownsRow (w.heap.size + 2) 24 4 vv ps.length (cells4 ps)) ∧ Hid (∀ p ∈ ps, p.1.InX (fun b => w.heap.size + 2 ≤ b ∧ vv.ownBlock ≠ some b) wr p.2.1 p.2.2)) (fun _ i _ => ks.length - (intOf i).toNat)
  case atStart => exact ⟨[], ks, Lib.hid rfl, rfl, hb0, HN.out, HA, HC, Lib.hid (World.ownsRow_nil _ _ _ _), Lib.hid (by simp)⟩
  case round =>
    obtain ⟨ps, rest, hks, rfl, hB, hrest, ha, hc2, hown, hps⟩ := hrel
    obtain ⟨A2, c2, rfl⟩ := own_slice hown.out
    have c0 : wr.cell? ⟨w.heap.size, 0, none⟩ = some (.int .i64 k) := blk_cell ha.out 0
    have c1 : wr.cell? ⟨w.heap.size, 1, none⟩ = some (.string t) := blk_cell ha.out 1
    have c2' : wr.cell? ⟨w.heap.size, 2, none⟩ = some (.string v) := blk_cell ha.out 2
    have c3 : wr.cell? ⟨w.heap.size, 3, none⟩ = some (.slice A ks.length c) := blk_cell ha.out 3
    cases rest with
    | nil =>
      have hlt : ¬ ps.length < ks.length := by have := hks.out; rw [this]; simp
      clear hrest
      have hfa := blk_frozen ha.out
      have hfc := blk_frozen hc2.out
      have d0 : wr.cell? ⟨w.heap.size + 1, 0, none⟩ = some (.int .i64 0) := blk_cell hc2.out 0
      have d1 : wr.cell? ⟨w.heap.size + 1, 1, none⟩ = some (.string ⟨#[]⟩) := blk_cell hc2.out 1
      have d2 : wr.cell? ⟨w.heap.size + 1, 2, none⟩ = some (.string ⟨#[]⟩) := blk_cell hc2.out 2
      have d3 : wr.cell? ⟨w.heap.size + 1, 3, none⟩ = some (.slice none 0 0) := blk_cell hc2.out 3
      go_wp2_with fail
      have hksp : ks = ps.map (·.1) := by have := hks.out; simpa using this
      have hlp : ps.length = ks.length := by rw [hksp]; simp
      have h5 := blk_set (blk_set (blk_set (blk_set (blk_far hc2.out (p := ⟨w.heap.size, 3, none⟩) (by show w.heap.size + 1 ≠ w.heap.size; omega) (.slice A2 ps.length c2)) 0 (.int .i64 k)) 1 (.string t)) 2 (.string v)) 3 (.slice A2 ps.length c2)
      simp only [List.setIfInBounds_toArray, List.set_cons_succ, List.set_cons_zero] at h5
      refine bodyPost_ret (v := .agg #[.int .i64 k, .string t, .string v, .slice A2 ps.length c2]) ?c1 rfl ?c2
      case c1 => exact results_c rfl _ _ (w.heap.size + 1) 24 _ _ _ rfl h5 Tryz.underlying24 rfl (by kernel_rfl)
      refine ⟨A2, c2, by rw [hlp], ?_, ((((hB.setCell (p := ⟨w.heap.size, 3, none⟩) (Nat.le_refl _) _).setCell (p := ⟨w.heap.size + 1, 0, none⟩) (Nat.le_succ _) _).setCell (p := ⟨w.heap.size + 1, 1, none⟩) (Nat.le_succ _) _).setCell (p := ⟨w.heap.size + 1, 2, none⟩) (Nat.le_succ _) _).setCell (p := ⟨w.heap.size + 1, 3, none⟩) (Nat.le_succ _) _⟩
      rw [hksp]
      refine copy_end (by omega) ht hv hk hown.out hps.out fun b hb => ?_
      have far : ∀ (W : World) (p : Addr) (u : Value), b ≠ p.block → (W.setCell p u).heap[b]? = W.heap[b]? := fun W p u h => Below.heap_setCell W p u b h
      rw [far _ _ _ (by show b ≠ w.heap.size + 1; omega), far _ _ _ (by show b ≠ w.heap.size + 1; omega), far _ _ _ (by show b ≠ w.heap.size + 1; omega), far _ _ _ (by show b ≠ w.heap.size + 1; omega), far _ _ _ (by show b ≠ w.heap.size; omega)]
    | cons n0 rest =>
      have hlt : ps.length < ks.length := by have := hks.out; rw [this]; simp
      obtain ⟨ad, rfl, hk⟩ : ∃ ad, A = some ad ∧ KidsIn w (n0 :: rest) ad ps.length := by simpa using hrest
      clear hrest
      have hmem : n0 ∈ ks := by have := hks.out; rw [this]; simp
      unfold KidsIn at hk
      obtain ⟨⟨A', c', k1, k2, k3, k4, k6⟩, hk⟩ := hk
      have k1 := cellB hB _ _ k1
      have k2 := cellB hB _ _ k2
      have k3 := cellB hB _ _ k3
      have k4 := cellB hB _ _ k4
      go_wp2_with fail
      refine (HI.out n0 hmem A' c' wr (k6.keep (cellB hB))).mono ?_
      rintro e w1 ⟨A3, c3', rfl, hX, hb1⟩
      have hB1 := hB.trans (hb1.mono hB.size)
      have hown1 : w1.ownsRow (w.heap.size + 2) 24 4 (.slice A2 ps.length c2) ps.length (cells4 ps) := own_below' hown.out hb1
      have hsz1 := hb1.size
      have hsz2 : w.heap.size + 1 < wr.heap.size := blk_lt hc2.out
      have q1 : ∀ u ∈ one4 (n0, A3, c3'), u.oneCell' = true := by simp [Value.oneCell']
      have q2 : ps.length + 1 ≤ maxLen := by unfold maxLen; omega
      have q3 : (ps.length + 1) * 64 ≤ 140737488355328 := by omega
      have q4 : w.heap.size + 2 ≤ (w1.alloc (.cells #[.int .i64 n0.kind, .string n0.text, .string n0.val, .slice A3 n0.kids.length c3'] 24)).heap.size := by rw [World.size_alloc]; omega
      have q5 := World.news_of_block (cs := #[.int .i64 n0.kind, .string n0.text, .string n0.val, .slice A3 n0.kids.length c3']) (t := 24) (fr := (0, 0)) (heap_alloc_new w1 (.cells #[.int .i64 n0.kind, .string n0.text, .string n0.val, .slice A3 n0.kids.length c3'] 24))
      have q6 := hown1.alloc (.cells #[.int .i64 n0.kind, .string n0.text, .string n0.val, .slice A3 n0.kids.length c3'] 24)
      have Q4 := Lib.hid q4
      have Q5 := Lib.hid q5
      have Q6 := Lib.hid q6
      have Q1 := Lib.hid q1
      clear q1 q4 q5 q6
      go_wp2_with (at_builtin; refine wpList_append_lies _ rfl _ _ 22 rfl (w.heap.size + 2) 24 i0 _ 4 64 Tryz.underlying22 hi hz0 hz1 hz2 rfl (by decide) _ _ _ rfl Q6.out ⟨w1.heap.size, 0, none⟩ 1 1 (one4 (n0, A3, c3')) rfl rfl Q5.out Q1.out (by decide) q2 q3 Q4.out _ rfl ?_)
      intro g cap w2 hown3 hgrow hat hlt2
      have HX := Lib.hid (copy_step (S := w.heap.size + 2) (p0 := (n0, A3, c3')) (by omega) (fun k hk => (hown.out.lt k hk).2) hps.out hX hb1 hgrow hat cap)
      have hB2 : Below w.heap.size w w2 := (hB1.alloc hB1.size _).grown hgrow (by have := hB1.size; simp; omega) (fun k hk => by have := own_base hown1 k hk; omega)
      have ha2 := Lib.hid ((hgrow.block w.heap.size (by simp; omega) (fun e => by have := own_base hown1 _ e.symm; omega)).trans (blk_alloc (blk_below ha.out hb1) _))
      have hc3 := Lib.hid ((hgrow.block (w.heap.size + 1) (by simp; omega) (fun e => by have := own_base hown1 _ e.symm; omega)).trans (blk_alloc (blk_below hc2.out hb1) _))
      have HO2 : Hid (w2.ownsRow (w.heap.size + 2) 24 4 (.slice (some ⟨g, 0, none⟩) (ps.length + 1) cap) (ps ++ [(n0, A3, c3')]).length (cells4 (ps ++ [(n0, A3, c3')]))) := by
        refine Lib.hid ?_
        have e1 : cells4 (ps ++ [(n0, A3, c3')]) = cells4 ps ++ one4 (n0, A3, c3') := by simp [cells4]
        rw [e1, List.length_append]
        exact hown3
      have hks2 : Hid (ks = (ps ++ [(n0, A3, c3')]).map (·.1) ++ rest) := Lib.hid (hks.out.trans (by simp))
      clear hown3 hgrow hat hown1 Q1 Q4 Q5 Q6 hX hb1 c0 c1 c2' c3 k1 k2 k3 k4 k6 hks
      go_wp2_with fail
      go_roundw
      case rel => exact ⟨ps ++ [(n0, A3, c3')], rest, hks2, by simp, hB2, by right; exact ⟨ad, rfl, by simpa using hk⟩, ha2, hc3, HO2, HX⟩
      case measure => simp [intOf]; omega
end Go.Proofs.YtngofdaciacglaaGreatDoor
