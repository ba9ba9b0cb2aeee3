/- Walks: tree.goes, a recursive iterator. -/
import Derived.Test.YtngofdaciacglaaGreatDoorTreeOdd
import Derived.RangeFuncKeeps
import Derived.RangeFuncBound
import Derived.RangeFuncLeaves
import Derived.Shelf.Abstract
import Derived.OwnWalkIn
import Derived.TacticsInMore
import Derived.LoopNIn
import Derived.LoopIn
namespace Go.Proofs.YtngofdaciacglaaGreatDoor
open Go.RowKit Go.Lib Go.Shelf

attribute [local go_sem] Oper.semAt_some

theorem roundAny {m m' : Nat} {P : Program} {l : Nat} {f : FuncId} {tmps : Array Value} {assign body : Code} {w : World} {R : Ending → World → Prop}
    (h : RoundIn Fence.wide m P l f tmps assign body w R) : RoundIn Fence.wide m' P l f tmps assign body w R := ⟨h.1, fun c cs _ => h.2 c cs (fun _ h => by cases h)⟩
theorem yieldAny {m : Nat} (m' : Nat) {P : Program} {l : Nat} {args : Array Value} {W : World} {R : Ending → World → Prop} (h : YieldAt Fence.wide m P l args W R) : YieldAt Fence.wide m' P l args W R := by
  obtain ⟨fn, tmps, assign, body, hy, hR⟩ := h
  exact ⟨fn, tmps, assign, body, hy, roundAny hR⟩
/-- What a round lets lie: nodes' blocks, and what is neither cells nor a map. -/
def keptO : Obj → Bool
  | .cells _ t _ => t == 24
  | .map _ _ => false
  | _ => true
def KeepN (w w' : World) : Prop := ∀ (g : Nat) (o : Obj), w.heap[g]? = some o → keptO o = true → w'.heap[g]? = some o
theorem KeepN.refl (w : World) : KeepN w w := fun _ _ h _ => h
theorem KeepN.trans {a b c : World} (h : KeepN a b) (k : KeepN b c) : KeepN a c := fun g o hg ho => k g o (h g o hg ho) ho
theorem KeepN.below {w w' : World} (h : Below w.heap.size w w') : KeepN w w' := fun _ _ hg _ => blk_below hg h
theorem KeepN.set {w : World} {p : Addr} {cs : Array Value} {t : TypeId} {fr : Nat × Nat} (hp : w.heap[p.block]? = some (.cells cs t fr)) (ht : (t == 24) = false) (u : Value) : KeepN w (w.setCell p u) := fun g o hg ho => by
  refine blk_far hg (fun e => ?_) u
  rw [e, hp] at hg
  cases hg
  rw [show keptO (.cells cs t fr) = (t == 24) from rfl, ht] at ho
  cases ho
theorem KeepS.toN {w w' : World} (h : KeepS w w') : KeepN w w' := fun g o hg ho => h g o hg (by
  cases o with
  | cells cs t fr =>
    have ht : t = 24 := by simpa [keptO] using ho
    subst ht
    rfl
  | map _ _ => cases ho
  | _ => rfl)
/-- What is kept while new blocks are laid. -/
def Abides (J : List Ev → World → Prop) : Prop := ∀ s A B, J s A → Below A.heap.size A B → J s B

/-- The tree's events are handed to whoever asks, as far as he goes. -/
def GoesPost (J Jx : List Ev → World → Prop) (W : World) (pre es : List Ev) : Ending → World → Prop := fun e W' =>
  (e = .returned (.bool true) ∧ J (pre ++ es) W' ∧ KeepN W W') ∨ (e = .returned (.bool false) ∧ ∃ q, q <+: es ∧ Jx (pre ++ q) W')
/-- An event's texts are no longer than texts may be here. -/
def EvOk (x : Ev) : Prop := x.2.1.size ≤ 1048576 ∧ x.2.2.size ≤ 1048576
theorem evOk_end (z : Int) : EvOk (z, bs [], bs []) := ⟨Nat.zero_le _, Nat.zero_le _⟩
/-- What a round does. -/
abbrev Asks (l N : Nat) (J Jx : List Ev → World → Prop) : Prop := ∀ m pre x W, J pre W → pre.length < N → EvOk x → YieldAt Fence.wide m Tryz.prog l #[Ev.v x] W (GoesPost J Jx W pre [x])

theorem evs_odd {k : Int} {t v : ByteArray} {ks : List Nd} (h : oddB k ks.length = true) : evs ⟨k, t, v, ks⟩ = [(0, bs [], bs [])] := by unfold evs; rw [if_pos h]
theorem evs_not {k : Int} {t v : ByteArray} {ks : List Nd} (h : oddB k ks.length = false) : evs ⟨k, t, v, ks⟩ = (k, t, v) :: (evsL ks ++ if endsK k = 0 then [] else [(endsK k, bs [], bs [])]) := by unfold evs; rw [if_neg (by rw [h]; simp)]
theorem evsL_snoc (d : List Nd) (n : Nd) : evsL (d ++ [n]) = evsL d ++ evs n := by
  induction d with
  | nil => simp [evsL]
  | cons a r ih => simp only [List.cons_append, evsL, ih, List.append_assoc]
theorem evsL_app (d r : List Nd) : evsL (d ++ r) = evsL d ++ evsL r := by
  induction d with
  | nil => simp [evsL]
  | cons a d ih => simp only [List.cons_append, evsL, ih, List.append_assoc]
theorem evsL_pre (d r : List Nd) : evsL d <+: evsL (d ++ r) := by
  induction d with
  | nil => simp [evsL]
  | cons a d ih =>
    obtain ⟨q, hq⟩ := ih
    exact ⟨q, by simp only [List.cons_append, evsL, List.append_assoc, hq]⟩
/-- A kid as it lies. -/
theorem KidsIn.at_ {w : World} : ∀ (d : List Nd) (n : Nd) (r : List Nd) (ad : Addr) (j : Nat), KidsIn w (d ++ n :: r) ad j → ∃ A c, w.cell? (ad.add ((j + d.length) * 4)) = some (.int .i64 n.kind) ∧
      w.cell? ⟨(ad.add ((j + d.length) * 4)).block, (ad.add ((j + d.length) * 4)).off + 1, none⟩ = some (.string n.text) ∧
      w.cell? ⟨(ad.add ((j + d.length) * 4)).block, (ad.add ((j + d.length) * 4)).off + 2, none⟩ = some (.string n.val) ∧
      w.cell? ⟨(ad.add ((j + d.length) * 4)).block, (ad.add ((j + d.length) * 4)).off + 3, none⟩ = some (.slice A n.kids.length c) ∧ Nd.In w n A c
  | [], n, r, ad, j, h => by unfold KidsIn at h; exact h.1
  | a :: d, n, r, ad, j, h => by
    unfold KidsIn at h
    have := KidsIn.at_ d n r ad (j + 1) h.2
    rw [show j + (a :: d).length = j + 1 + d.length by simp; omega]
    exact this

set_option maxRecDepth 100000 in
set_option maxHeartbeats 2000000 in
theorem goes_in (l : Nat) (w0 : World) (J Jx : List Ev → World → Prop) (hJ : Abides J) (hJ0 : ∀ s W, J s W → Below w0.heap.size w0 W) (N : Nat) (hY : Asks l N J Jx) :
    ∀ (n : Nd) (A : Option Addr) (c : Nat) (m : Nat) (pre : List Ev) (W : World), Nd.In w0 n A c → J pre W → pre.length + (evs n).length ≤ N →
      CallsIn Fence.wide m Tryz.prog 90 #[n.v A c, .func (.yield l) #[] #[]] W (GoesPost J Jx W pre (evs n)) := by
  refine Nd.ind fun n ih => ?_
  intro A c m pre W hn hj hN0
  obtain ⟨k, t, v, ks⟩ := n
  have hlen : ks.length ≤ 1048576 := by unfold Nd.In at hn; exact hn.2.1
  have hin : ks.length ≤ c ∧ (ks = [] ∨ ∃ ad, A = some ad ∧ KidsIn w0 ks ad 0) := by unfold Nd.In at hn; exact ⟨hn.1, hn.2.2.2.2.2⟩
  obtain ⟨hcap, hin⟩ := hin
  have hok : EvOk (k, t, v) := by unfold Nd.In at hn; exact ⟨hn.2.2.1, hn.2.2.2.1⟩
  have hb0 := (Below.refl W.heap.size W).alloc (Nat.le_refl _) (.cells #[.int .i64 k, .string t, .string v, .slice A ks.length c] 24)
  have hx0 := blk_new W (.cells #[.int .i64 k, .string t, .string v, .slice A ks.length c] 24)
  have hO := todd_calls ⟨k, t, v, ks⟩ A c hlen (W.alloc (.cells #[.int .i64 k, .string t, .string v, .slice A ks.length c] 24))
  simp only at hO
  cases ho : oddB k ks.length
  · rw [ho] at hO
    have HO := Lib.hid (callsIn_wide (n := m - 1).2 hO)
    have HE := Lib.hid (evs_not (t := t) (v := v) ho)
    have hN1 : pre.length + (1 + ((evsL ks).length + (if endsK k = 0 then ([] : List Ev) else [(endsK k, bs [], bs [])]).length)) ≤ N := by
      rw [HE.out] at hN0; simp only [List.length_cons, List.length_append] at hN0; omega
    have HN := Lib.hid hN1
    have HY := Lib.hid (fun W1 hb => hY (m - 1) pre (k, t, v) W1 (hJ _ _ _ hj hb) (by omega) hok)
    clear hN1 hN0
    clear hO ho
    refine callsIn_of_wp Tryz.func90 rfl trivial ?_ rfl
    simp only [Tryz.ntmps90, List.size_toArray, List.length_cons, List.length_nil, Nat.reduceAdd, Nat.reduceSub, Array.replicate_succ, Array.replicate_zero, List.push_toArray, List.append_toArray, List.nil_append, List.cons_append]
    gi_wp2
    refine ⟨trivial, (fun h => by cases h), HO.out.mono ?_⟩
    rintro e W1 ⟨rfl, hb1⟩
    have hx1 := blk_below hx0 hb1
    have hb1 := below_then hb0 hb0.size hb1
    have hcx := blk_cell hx1
    obtain ⟨fn, tmps, assign, body, hy, hR⟩ := HY.out W1 hb1
    gi_wp2
    refine ⟨(fun h => by cases h), hR.mono ?_⟩
    clear hy hR
    rintro e W2 (⟨rfl, hj2, hk2⟩ | ⟨rfl, q, hq, hjx⟩)
    · have hx2 := hk2 _ _ hx1 rfl
      have hcx := blk_cell hx2
      have hN := (KeepN.below hb1).trans hk2
      clear hk2 hb1
      gi_wp2
      gi_loopw [26] (fun i wr => ∃ (d rest : List Nd), Hid (ks = d ++ rest) ∧ i = .int .i64 (d.length : Nat) ∧ J (pre ++ ((k, t, v) :: evsL d)) wr ∧ KeepN W wr ∧ wr.heap[W.heap.size]? = some (.cells #[.int .i64 k, .string t, .string v, .slice A ks.length c] 24) ∧ (rest = [] ∨ ∃ ad, A = some ad ∧ KidsIn w0 rest ad d.length))
        (fun i _ => ks.length - (intOf i).toNat)
      case atStart => exact ⟨[], ks, Lib.hid rfl, rfl, by simpa [evsL] using hj2, hN, hx2, hin⟩
      case round =>
        obtain ⟨d, rest, hks, rfl, hjr, hkr, hxr, hrest⟩ := hrel
        cases rest with
        | nil =>
          have hlen : ¬ d.length < ks.length := by have := hks.out; subst this; simp
          have hd : d = ks := by have := hks.out; simpa using this.symm
          have hcx := blk_cell hxr
          have hen := ends_calls k wr
          have hE := HE.out
          rw [← hd] at hE
          obtain ⟨z, hz⟩ : ∃ z, z = endsK k := ⟨_, rfl⟩
          rw [← hz] at hen hE
          have HEN := Lib.hid (callsIn_wide (n := m - 1).2 hen)
          have HE2 := Lib.hid hE
          have HZ := Lib.hid hz
          have HD := Lib.hid hd
          clear hks hen hE hz hd HE
          by_cases hz0 : z = 0
          · subst hz0
            gi_wp2
            refine ⟨trivial, (fun h => by cases h), HEN.out.mono ?_⟩
            rintro e w1 ⟨rfl, rfl⟩
            gi_wp2
            refine ⟨fun _ h => (by cases h), ?_⟩
            gi_wp2
            go_ret
            exact .inl ⟨rfl, by rw [← HD.out, HE2.out]; simpa using hjr, hkr⟩
          · have hz1 := beq_no hz0
            obtain ⟨fn, tmps, assign, body, hy, hR⟩ := hY (m - 1) _ (z, bs [], bs []) wr hjr (by have := HN.out; rw [← HZ.out, if_neg hz0, ← HD.out] at this; simp only [List.length_cons, List.length_append, List.length_nil] at this ⊢; omega) (evOk_end z)
            gi_wp2
            refine ⟨trivial, (fun h => by cases h), HEN.out.mono ?_⟩
            rintro e w1 ⟨rfl, rfl⟩
            gi_wp2
            refine ⟨(fun h => by cases h), hR.mono ?_⟩
            clear hy hR
            rintro e W3 (⟨rfl, hj3, hk3⟩ | ⟨rfl, q, hq, hjx⟩)
            · gi_wp2
              go_ret
              exact .inl ⟨rfl, by rw [← HD.out, HE2.out, if_neg hz0]; simpa using hj3, hkr.trans hk3⟩
            · gi_wp2
              go_ret
              obtain ⟨r, hr⟩ := hq
              exact .inr ⟨rfl, (k, t, v) :: (evsL d ++ q), ⟨r, by rw [← HD.out, HE2.out, if_neg hz0, ← hr]; simp⟩, by simpa using hjx⟩
        | cons n0 rest =>
          have hlen : d.length < ks.length := by have := hks.out; subst this; simp
          obtain ⟨ad, rfl, hk⟩ : ∃ ad, A = some ad ∧ KidsIn w0 (n0 :: rest) ad d.length := by simpa using hrest
          clear hrest
          have hmem : n0 ∈ ks := by have := hks.out; subst this; simp
          unfold KidsIn at hk
          obtain ⟨⟨A', c', k1, k2, k3, k4, k6⟩, hk⟩ := hk
          have hB := hJ0 _ _ hjr
          have k1 := cellB hB _ _ k1
          have k2 := cellB hB _ _ k2
          have k3 := cellB hB _ _ k3
          have k4 := cellB hB _ _ k4
          have hbA := (Below.refl wr.heap.size wr).alloc (Nat.le_refl _) (.cells #[.int .i64 n0.kind, .string n0.text, .string n0.val, .slice A' n0.kids.length c'] 24)
          have HI := Lib.hid (ih n0 hmem A' c' (m - 1) (pre ++ ((k, t, v) :: evsL d)) _ k6 (hJ _ _ _ hjr hbA) (by have := HN.out; rw [hks.out, evsL_app] at this; simp only [evsL, List.length_append, List.length_cons] at this ⊢; omega))
          gi_wp2
          refine ⟨trivial, (fun h => by cases h), HI.out.mono ?_⟩
          rintro e W3 (⟨rfl, hj3, hk3⟩ | ⟨rfl, q, hq, hjx⟩)
          · have hkA : KeepN wr W3 := (KeepN.below hbA).trans hk3
            gi_wp2
            go_roundw
            case rel => exact ⟨d ++ [n0], rest, Lib.hid (by rw [hks.out]; simp), by simp, by rw [evsL_snoc]; simpa using hj3, hkr.trans hkA, hkA _ _ hxr rfl, .inr ⟨ad, rfl, by rw [List.length_append]; exact hk⟩⟩
            case measure => simp [intOf]; omega
          · gi_wp2
            go_ret
            refine .inr ⟨rfl, (k, t, v) :: (evsL d ++ q), ?_, by simpa using hjx⟩
            obtain ⟨r, hr⟩ := hq
            obtain ⟨r2, hr2⟩ := evsL_pre (d ++ [n0]) rest
            refine ⟨r ++ r2 ++ (if endsK k = 0 then [] else [(endsK k, bs [], bs [])]), ?_⟩
            have h1 : evsL ks = evsL d ++ (q ++ r) ++ r2 := by
              rw [hks.out, show d ++ n0 :: rest = (d ++ [n0]) ++ rest by simp, ← hr2, evsL_snoc, hr]
            rw [HE.out, h1]
            simp
    · gi_wp2
      go_ret
      exact .inr ⟨rfl, q, by rw [HE.out]; exact hq.trans (by simp), hjx⟩
  · rw [ho] at hO
    have HO := Lib.hid (callsIn_wide (n := m - 1).2 hO)
    have HE := Lib.hid (evs_odd (t := t) (v := v) ho)
    have HY := Lib.hid (fun W1 hb => hY (m - 1) pre (0, bs [], bs []) W1 (hJ _ _ _ hj hb) (by rw [HE.out] at hN0; simp only [List.length_cons, List.length_nil] at hN0; omega) (evOk_end 0))
    clear hN0
    clear hO ho ih
    refine callsIn_of_wp Tryz.func90 rfl trivial ?_ rfl
    simp only [Tryz.ntmps90, List.size_toArray, List.length_cons, List.length_nil, Nat.reduceAdd, Nat.reduceSub, Array.replicate_succ, Array.replicate_zero, List.push_toArray, List.append_toArray, List.nil_append, List.cons_append]
    gi_wp2
    refine ⟨trivial, (fun h => by cases h), HO.out.mono ?_⟩
    rintro e W1 ⟨rfl, hb1⟩
    have hb1 := below_then hb0 hb0.size hb1
    obtain ⟨fn, tmps, assign, body, hy, hR⟩ := HY.out W1 hb1
    gi_wp2
    refine ⟨(fun h => by cases h), hR.mono ?_⟩
    rintro e W2 (⟨rfl, hj2, hk2⟩ | ⟨rfl, q, hq, hjx⟩)
    · gi_wp2
      go_ret
      exact .inl ⟨rfl, by rw [HE.out]; exact hj2, (KeepN.below hb1).trans hk2⟩
    · gi_wp2
      go_ret
      exact .inr ⟨rfl, q, by rw [HE.out]; exact hq, hjx⟩
end Go.Proofs.YtngofdaciacglaaGreatDoor
