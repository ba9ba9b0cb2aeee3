/- Walks: tree.Walk. -/
import Derived.Test.YtngofdaciacglaaGreatDoorWalk
import Derived.RangeFuncCalls
import Derived.Deep.AppendLies
namespace Go.Proofs.YtngofdaciacglaaGreatDoor
open Go.RowKit Go.Lib Go.Shelf

attribute [local go_sem] Oper.semAt_some

theorem Tryz.info45 : (Tryz.prog.info? 70).map (fun i => (i.zero, i.size, i.bytes)) = some (some (.agg #[.int .i64 0, .string (bs []), .string (bs [])]), 3, 40) := by kernel_rfl

/-- What stands between two rounds of Walk. -/
structure Between (w : World) (c d : Nat) (pre : List Ev) (W : World) : Prop where
  below : Below w.heap.size w W
  two : W.heap[w.heap.size + 1]? = some (.cells #[.slice none 0 0] 37)
  three : W.heap[w.heap.size + 2]? = some (.cells #[.int .i64 0] 28)
  four : W.heap[d]? = some (.cells #[.pointer (some ⟨c, 0, none⟩)] 76)
  out : ∃ v xs, W.heap[d + 1]? = some (.cells #[v] 37) ∧ W.ownsRow (d + 2) 70 3 v pre.length xs
  goes : (runS [] false pre).1 = 0
  chk : ∃ qs sl, Chk W c c (runS [] false pre).2.1 (runS [] false pre).2.2 qs sl
/-- What stands where a round has returned. -/
structure Stopped (w : World) (pre : List Ev) (W : World) : Prop where
  below : Below w.heap.size w W
  two : W.heap[w.heap.size + 1]? = some (.cells #[.slice none 0 0] 37)
  three : W.heap[w.heap.size + 2]? = some (.cells #[.int .i64 (runS [] false pre).1] 28)
  goes : (runS [] false pre).1 ≠ 0

theorem Between.later {w : World} {c d : Nat} {pre : List Ev} {A B : World} (h : Between w c d pre A) (hb : Below A.heap.size A B) : Between w c d pre B := by
  obtain ⟨v, xs, h5, hr⟩ := h.out
  obtain ⟨qs, sl, hC⟩ := h.chk
  exact ⟨h.below.trans (hb.mono h.below.size), blk_below h.two hb, blk_below h.three hb, blk_below h.four hb, ⟨v, xs, blk_below h5 hb, own_below hr hb⟩, h.goes, qs, sl, hC.below hb⟩
theorem put_blk {W : World} {l g : Nat} {o o' oo : Obj} (hg : W.heap[g]? = some oo) (hl : W.heap[l]? = some o) (hlo : isLoop o = true) (hgo : isLoop oo = false) : (W.putObj l o').heap[g]? = some oo := by
  rw [put_far (fun e => ?_)]
  · exact hg
  · rw [e, hl] at hg
    cases hg
    rw [hlo] at hgo
    cases hgo
theorem put_below {w W : World} {l : Nat} {o o' : Obj} (h : Below w.heap.size w W) (hw : w.heap.size ≤ l) (_ : W.heap[l]? = some o) : Below w.heap.size w (W.putObj l o') :=
  h.trans ((Below.refl w.heap.size W).grown (grownBy_putObj' W l o') h.size (fun k e => by cases e; exact hw))
theorem OpsIn.put {W : World} {B l : Nat} {o o' : Obj} (hl : W.heap[l]? = some o) (hlo : isLoop o = true) {os : List Opn} {qs : List (Nat × Nat)} (h : OpsIn W B os qs) : OpsIn (W.putObj l o') B os qs := by
  refine h.keep fun q hq oo => ?_
  obtain ⟨_, _, ⟨cs, c1⟩, l', c2⟩ := h.mem q hq
  refine ⟨fun hh => put_blk hh hl hlo ?_, fun hh => put_blk hh hl hlo ?_⟩
  · rw [c1] at hh; cases hh; rfl
  · rw [c2] at hh; cases hh; rfl
theorem own_putL {W : World} {base n size l : Nat} {e : TypeId} {v : Value} {xs : List Value} {o o' : Obj} (h : W.ownsRow base e size v n xs) (hl : W.heap[l]? = some o) (hlo : isLoop o = true) : (W.putObj l o').ownsRow base e size v n xs := by
  refine own_keep h fun g hg => ?_
  obtain ⟨cs, fz, h2⟩ := Go.Lib.ownsRow_kind h g hg
  exact (put_blk h2 hl hlo rfl).trans h2.symm
theorem Chk.put {W : World} {B c l : Nat} {stk : List Opn} {over : Bool} {qs : List (Nat × Nat)} {v : Value} {o o' : Obj} (h : Chk W B c stk over qs v) (hl : W.heap[l]? = some o) (hlo : isLoop o = true) : Chk (W.putObj l o') B c stk over qs v :=
  ⟨put_blk h.at_ hl hlo rfl, h.base, own_putL h.row hl hlo, h.ops.put hl hlo⟩
theorem Between.put {w W : World} {c d : Nat} {pre : List Ev} {l : Nat} {o o' : Obj} (h : Between w c d pre W) (hl : W.heap[l]? = some o) (hlo : isLoop o = true) (hw : w.heap.size ≤ l) : Between w c d pre (W.putObj l o') := by
  obtain ⟨v, xs, h5, hr⟩ := h.out
  obtain ⟨qs, sl, hC⟩ := h.chk
  exact ⟨put_below h.below hw hl, put_blk h.two hl hlo rfl, put_blk h.three hl hlo rfl, put_blk h.four hl hlo rfl, ⟨v, xs, put_blk h5 hl hlo rfl, own_putL hr hl hlo⟩, h.goes, qs, sl, hC.put hl hlo⟩
theorem Stopped.put {w W : World} {pre : List Ev} {l : Nat} {o o' : Obj} (h : Stopped w pre W) (hl : W.heap[l]? = some o) (hlo : isLoop o = true) (hw : w.heap.size ≤ l) : Stopped w pre (W.putObj l o') :=
  ⟨put_below h.below hw hl, put_blk h.two hl hlo rfl, put_blk h.three hl hlo rfl, h.goes⟩

theorem stepS_len {stk : List Opn} {over : Bool} {k : Int} {t v : ByteArray} (h : stk.length ≤ 6) : (stepS stk over k t v).2.1.length ≤ 6 := by
  have hst : (standS k stk over).1.length = stk.length := by cases stk <;> rfl
  unfold stepS
  split
  · exact h
  · split
    · split
      · rw [hst]; exact h
      · exact h
    · split
      · split
        · exact h
        · split
          · exact h
          · rename_i h6
            simp only [List.length_cons, hst]
            omega
      · cases stk with
        | nil => exact h
        | cons a r =>
          simp only [List.length_cons] at h ⊢
          split
          · split <;> (simp only [List.length_cons]; exact h)
          · split
            · split <;> (simp only [List.length_cons]; exact h)
            · split
              · simp only [List.length_cons]; exact h
              · simp only; omega
theorem runS_len : ∀ (es : List Ev) (stk : List Opn) (ov : Bool), stk.length ≤ 6 → (runS stk ov es).2.1.length ≤ 6
  | [], stk, ov, h => h
  | e :: es, stk, ov, h => by
    unfold runS
    split
    · exact runS_len es _ _ (stepS_len h)
    · exact stepS_len h

theorem grown_far {W w' : World} {o o' : Obj} {base n size i : Nat} {e : TypeId} {v : Value} {xs : List Value} (hr : W.ownsRow base e size v n xs) (hg : (W.alloc o).grownBy w' v.ownBlock) (hi : W.heap[i]? = some o') (hne : ∀ cs fz, o' ≠ .cells cs e fz) : w'.heap[i]? = some o' := by
  have h0 : (W.alloc o).heap[i]? = some o' := blk_alloc hi o
  rw [hg.block i (blk_lt h0) (fun hk => ?_)]
  · exact h0
  · obtain ⟨cs, fz, h2⟩ := Go.Lib.ownsRow_kind hr i hk.symm
    rw [hi] at h2
    cases h2
    exact hne _ _ rfl

/-- A Check lies as it lay where all but rows of another kind does. -/
theorem Chk.keepA {W w' : World} {B c : Nat} {stk : List Opn} {over : Bool} {qs : List (Nat × Nat)} {v : Value} {e : TypeId} (h : Chk W B c stk over qs v) (hf : ∀ (i : Nat) (o : Obj), W.heap[i]? = some o → (∀ cs fz, o ≠ .cells cs e fz) → w'.heap[i]? = some o)
    (h1 : ¬ 105 = e) (h2 : ¬ 112 = e) (h3 : ¬ 107 = e) : Chk w' B c stk over qs v := by
  refine ⟨hf _ _ h.at_ (fun cs fz hh => by cases hh; exact h1 rfl), h.base, own_keep h.row fun g hg => ?_, h.ops.keep fun r hr o => ?_⟩
  · obtain ⟨cs, fz, hh⟩ := Go.Lib.ownsRow_kind h.row g hg
    exact (hf _ _ hh (fun cs fz hx => by cases hx; exact h3 rfl)).trans hh.symm
  · obtain ⟨_, _, ⟨cs, c1⟩, l, c2⟩ := h.ops.mem r hr
    refine ⟨fun hh => hf _ _ hh ?_, fun hh => hf _ _ hh ?_⟩
    · rw [c1] at hh; cases hh; intro cs fz hx; cases hx; exact h2 rfl
    · rw [c2] at hh; cases hh; intro cs fz hx; cases hx
theorem Chk.setFar {W : World} {B c : Nat} {stk : List Opn} {over : Bool} {qs : List (Nat × Nat)} {v : Value} (h : Chk W B c stk over qs v) {p : Addr} {cs : Array Value} {t : TypeId} {fr : Nat × Nat} (hp : W.heap[p.block]? = some (.cells cs t fr))
    (h1 : ¬ 105 = t) (h2 : ¬ 112 = t) (h3 : ¬ 107 = t) (u : Value) : Chk (W.setCell p u) B c stk over qs v :=
  h.keepA (e := t) (fun i o hi ho => blk_far hi (fun e => by rw [e, hp] at hi; cases hi; exact ho _ _ rfl) u) h1 h2 h3

set_option maxRecDepth 100000 in
set_option maxHeartbeats 2000000 in
theorem twalk_calls (n : Nd) (A : Option Addr) (c : Nat) (w : World) (hG : Globs w) (hn : Nd.In w n A c) (hN : (evs n).length ≤ 1048576) :
    Calls Tryz.prog 32 #[n.v A c] w fun e w' => (∃ s, e = .returned (.tuple #[s, .int .i64 (mayE n)])) ∧ Below w.heap.size w w' := by
  refine (callsIn_wide (n := 9)).1 ?_
  refine callsIn_of_wp_marks Tryz.func32 rfl trivial ?_ rfl
  simp only [Tryz.ntmps32, List.size_toArray, List.length_cons, List.length_nil, Nat.reduceAdd, Nat.reduceSub, Array.replicate_succ, Array.replicate_zero, List.push_toArray, List.append_toArray, List.nil_append, List.cons_append]
  have HNew := Lib.hid (fun W => (callsIn_wide (n := 9 - 1)).2 (new_calls W))
  have HW := Lib.hid (fun W => (callsIn_wide (n := 9 - 1)).2 (walk_calls n A c W))
  gi_wp2
  refine ⟨trivial, (HNew.out _).mono ?_⟩
  rintro e w1 ⟨rfl, hC1, hb1⟩
  have hx := blk_below (blk_alloc (blk_alloc (blk_new w (.cells #[.int .i64 n.kind, .string n.text, .string n.val, .slice A n.kids.length c] 24)) (.cells #[.slice none 0 0] 37)) (.cells #[.int .i64 0] 28)) hb1
  have h2 := blk_below (blk_alloc (blk_new (w.alloc (.cells #[.int .i64 n.kind, .string n.text, .string n.val, .slice A n.kids.length c] 24)) (.cells #[.slice none 0 0] 37)) (.cells #[.int .i64 0] 28)) hb1
  have h3 := blk_below (blk_new ((w.alloc (.cells #[.int .i64 n.kind, .string n.text, .string n.val, .slice A n.kids.length c] 24)).alloc (.cells #[.slice none 0 0] 37)) (.cells #[.int .i64 0] 28)) hb1
  have hc0 := hC1.at_
  have hb0 := (((Below.refl w.heap.size w).alloc (Nat.le_refl _) (.cells #[.int .i64 n.kind, .string n.text, .string n.val, .slice A n.kids.length c] 24)).alloc (by simp) (.cells #[.slice none 0 0] 37)).alloc (by simp; omega) (.cells #[.int .i64 0] 28)
  have hb1 := below_then hb0 hb0.size hb1
  simp only [World.size_alloc] at h2 h3 hC1 hc0 ⊢
  obtain ⟨d, hd⟩ : ∃ d, d = w1.heap.size := ⟨_, rfl⟩
  have hx := blk_alloc (blk_alloc hx (.cells #[.pointer (some ⟨w.heap.size + 1 + 1 + 1, 0, none⟩)] 76)) (.cells #[.slice none 0 0] 37)
  have h2 := blk_alloc (blk_alloc h2 (.cells #[.pointer (some ⟨w.heap.size + 1 + 1 + 1, 0, none⟩)] 76)) (.cells #[.slice none 0 0] 37)
  have h3 := blk_alloc (blk_alloc h3 (.cells #[.pointer (some ⟨w.heap.size + 1 + 1 + 1, 0, none⟩)] 76)) (.cells #[.slice none 0 0] 37)
  have h4 := blk_alloc (blk_new w1 (.cells #[.pointer (some ⟨w.heap.size + 1 + 1 + 1, 0, none⟩)] 76)) (.cells #[.slice none 0 0] 37)
  have h5 := blk_new (w1.alloc (.cells #[.pointer (some ⟨w.heap.size + 1 + 1 + 1, 0, none⟩)] 76)) (.cells #[.slice none 0 0] 37)
  have hC2 := (hC1.below ((Below.refl _ _).alloc (Nat.le_refl _) (.cells #[.pointer (some ⟨w.heap.size + 1 + 1 + 1, 0, none⟩)] 76))).below ((Below.refl _ _).alloc (Nat.le_refl _) (.cells #[.slice none 0 0] 37))
  have hb2 := (hb1.alloc hb1.size (.cells #[.pointer (some ⟨w.heap.size + 1 + 1 + 1, 0, none⟩)] 76)).alloc (by have := hb1.size; simp; omega) (.cells #[.slice none 0 0] 37)
  simp only [World.size_alloc] at h5
  have hcx := blk_cell hx
  gi_wp2
  refine ⟨trivial, (HW.out _).mono ?_⟩
  rintro e w2 ⟨rfl, rfl⟩
  rw [← hd] at h4 h5 
  have hbt : Between w (w.heap.size + 1 + 1 + 1) d [] _ := ⟨hb2, h2, h3, h4, ⟨_, [], h5, World.ownsRow_nil _ _ _ _⟩, rfl, [], _, hC2⟩
  have hbt3 := hbt.later ((Below.refl _ _).alloc (Nat.le_refl _) (.cells #[.int .i64 n.kind, .string n.text, .string n.val, .slice A n.kids.length c] 24))
  have hbx := blk_new ((w1.alloc (.cells #[.pointer (some ⟨w.heap.size + 1 + 1 + 1, 0, none⟩)] 76)).alloc (.cells #[.slice none 0 0] 37)) (.cells #[.int .i64 n.kind, .string n.text, .string n.val, .slice A n.kids.length c] 24)
  simp only [World.size_alloc] at hbx
  rw [← hd] at hbx
  have hdw : w.heap.size + 1 + 1 + 1 < d := by rw [hd]; exact blk_lt hC1.at_
  clear hx h2 h3 h4 h5 hC2 hC1 hc0 hb1 hb0 hcx HNew HW hbt
  simp only [World.size_alloc]
  rw [← hd]
  obtain ⟨W3, hW3⟩ : ∃ W3, W3 = ((w1.alloc (.cells #[.pointer (some ⟨w.heap.size + 1 + 1 + 1, 0, none⟩)] 76)).alloc (.cells #[.slice none 0 0] 37)).alloc (.cells #[.int .i64 n.kind, .string n.text, .string n.val, .slice A n.kids.length c] 24) := ⟨_, rfl⟩
  rw [← hW3] at hbt3 hbx ⊢
  clear hW3 hd hb2
  gi_wp2
  have hsz := hbt3.below.size
  refine rangeFunc_rec (gf := 89) (lb := #[.pointer (some ⟨d + 1 + 1, 0, none⟩)]) rfl (enters_of Tryz.func89 (by kernel_rfl) rfl) rfl w (evs n) (Between w (w.heap.size + 1 + 1 + 1) d) (Stopped w)
    (fun x a₁ W => ∃ b, W.heap[b]? = some (.cells #[.int .i64 x.1, .string x.2.1, .string x.2.2] 70) ∧ a₁ = { tmps := #[n.v A c, .pointer (some ⟨w.heap.size, 0, none⟩), .pointer (some ⟨w.heap.size + 1, 0, none⟩), .pointer (some ⟨w.heap.size + 1 + 1, 0, none⟩), .pointer (some ⟨d, 0, none⟩), .pointer (some ⟨d + 1, 0, none⟩), .pointer (some ⟨b, 0, none⟩), undef, .pointer (some ⟨w.heap.size + 1 + 1 + 1, 0, none⟩), .agg #[.int .i64 n.kind, .string n.text, .string n.val, .slice A n.kids.length c], .func (.func 89) #[] #[.pointer (some ⟨d + 1 + 1, 0, none⟩)], Ev.v x, undef, undef, undef, undef, undef, undef, undef, undef, undef, undef, undef, undef, undef, undef], defers := [] })
    (fun s A B hs hb => hs.later hb) (fun s W hs => hs.below) (fun s W l o r hs hl ho hw => hs.put hl ho (Nat.le_trans hsz hw)) (fun s W l o r hs hl ho hw => hs.put hl ho (Nat.le_trans hsz hw))
    (fun x a₁ W l o r h hl ho => by obtain ⟨b, hb, ha⟩ := h; exact ⟨b, put_blk hb hl ho rfl, ha⟩) hbt3
    (fun l J Jx W hb hJ hJ0 hY hj => walk1_in l w J Jx hJ hJ0 n hY A c _ (d + 1 + 1) W (blk_cell (blk_below hbx hb)) hn hj) ?assign ?body ?done ?stop
  case assign =>
    intro l m x W K hK
    gi_wp2
    exact hK _ _ ((Below.refl _ W).alloc (Nat.le_refl _) _) ⟨W.heap.size, blk_new _ _, rfl⟩
  case body =>
    rintro l m pre x a₁ W hbt hlen hok ⟨b, hb, rfl⟩
    obtain ⟨v, xs, h5, hr⟩ := hbt.out
    obtain ⟨qs, sl, hC⟩ := hbt.chk
    have hq : qs.length ≤ 1048576 := by have h1 := hC.len; have h2 := runS_len pre [] false (by simp); omega
    have hS := cstep_calls x.1 x.2.1 x.2.2 (w.heap.size + 1 + 1 + 1) _ _ _ _ _ W (hG.below hbt.below) hC (runS_kinds pre [] false (by simp)) hq hok.1 hok.2 (Nat.le_of_lt (blk_lt hC.at_))
    have hsn := runS_snoc x pre [] false hbt.goes
    have h4 := hbt.four
    have hcb := blk_cell hb
    have hc4 := blk_cell h4
    obtain ⟨r, hrr⟩ : ∃ r, r = stepS (runS [] false pre).2.1 (runS [] false pre).2.2 x.1 x.2.1 x.2.2 := ⟨_, rfl⟩
    rw [← hrr] at hS hsn
    have HS := Lib.hid (CallsIn.inRound l (callsIn_wide (n := m - 1).2 hS))
    have HSN := Lib.hid hsn
    obtain ⟨A5, c5, rfl⟩ := own_slice hr
    clear hS hsn hrr
    by_cases hr0 : r.1 = 0
    · have hz : (r.1 == 0) = true := by simpa using hr0
      obtain ⟨i0, hi, hz0, hz1, hz2⟩ := info_parts Tryz.info45
      gi_wp2
      refine ⟨trivial, (fun h => by cases h), HS.out.mono ?_⟩
      rintro e W2 ⟨rfl, hbS, hks, hchk⟩
      have k5 := hks _ _ h5 rfl
      have kb := hks _ _ hb rfl
      have hc5 := blk_cell k5
      have hf5 := blk_frozen k5
      have hcb2 := blk_cell kb
      have hr2 : W2.ownsRow (d + 2) 70 3 (.slice A5 pre.length c5) pre.length xs := own_keep hr fun g hg => by
        obtain ⟨cs, fz, h2⟩ := Go.Lib.ownsRow_kind hr g hg
        exact (hks _ _ h2 rfl).trans h2.symm
      have hszB : d + 2 ≤ (W2.alloc (.cells #[.int .i64 x.1, .string x.2.1, .string x.2.2] 70)).heap.size := by have := blk_lt k5; rw [World.size_alloc]; omega
      gi_wp2_with (gi_at_builtin; refine wpListIn_append_own _ rfl _ _ 37 rfl (d + 2) 70 i0 _ 3 40 Tryz.underlying37 hi hz0 hz1 hz2 rfl (by decide) _ _ _ rfl (hr2.alloc _) ⟨W2.heap.size, 0, none⟩ 1 1 [.int .i64 x.1, .string x.2.1, .string x.2.2] rfl rfl (World.news_of_block (blk_new _ _)) (by simp [Value.oneCell']) (by unfold maxLen; omega) (by omega) hszB ?_; intro v' w3 hown' hgrow _; obtain ⟨g', cap', rfl⟩ := Go.Joins.ownsRow_form hown' (by omega); have k5' := grown_far hr2 hgrow k5 (by intro cs fz h; cases h); have hc5' := blk_cell k5'; have hf5' := blk_frozen k5')
      obtain ⟨qs', sl', hC'⟩ := hchk hr0
      have hfar := fun (i : Nat) (o : Obj) (hi : W2.heap[i]? = some o) (ho : ∀ cs fz, o ≠ .cells cs 70 fz) => grown_far hr2 hgrow hi ho
      have hb2w : Below w.heap.size w W2 := hbt.below.trans (hbS.mono (by omega))
      have hrow : ∀ k, (Value.slice A5 pre.length c5).ownBlock = some k → w.heap.size ≤ k := fun k hk => by have := (hr2.lt k hk).1; omega
      refine ⟨?_, ?_⟩
      · exact (hks.toN.trans (fun i o hi ho => hfar i o hi (by intro cs fz h; rw [h] at ho; exact absurd (show false = true from ho) (by decide)))).trans (KeepN.set (p := ⟨d + 1, 0, none⟩) k5' rfl _)
      · have hne1 : ∀ cs : Array Value, ∀ t : TypeId, t ≠ 70 → ∀ cs' fz, Obj.cells cs t ≠ .cells cs' 70 fz := fun cs t ht cs' fz h => by cases h; exact ht rfl
        have q2 := hfar _ _ (hks _ _ hbt.two rfl) (hne1 _ _ (by decide))
        have q3 := hfar _ _ (hks _ _ hbt.three rfl) (hne1 _ _ (by decide))
        have q4 := hfar _ _ (hks _ _ hbt.four rfl) (hne1 _ _ (by decide))
        have hcq := hC'.keepA hfar (by decide) (by decide) (by decide)
        refine ⟨?_, ?_, ?_, ?_, ?_, ?_, ?_⟩
        · exact ((hb2w.alloc hb2w.size _).grown hgrow (by rw [World.size_alloc]; have := hb2w.size; omega) hrow).setCell (p := ⟨d + 1, 0, none⟩) (by show _ ≤ d + 1; omega) _
        · exact blk_far q2 (p := ⟨d + 1, 0, none⟩) (by show _ ≠ d + 1; omega) _
        · exact blk_far q3 (p := ⟨d + 1, 0, none⟩) (by show _ ≠ d + 1; omega) _
        · exact blk_far q4 (p := ⟨d + 1, 0, none⟩) (by show _ ≠ d + 1; omega) _
        · have q5 := own_set hown' (p := ⟨d + 1, 0, none⟩) k5' (by decide) (.slice (some ⟨g', 0, none⟩) (pre.length + 1) cap')
          rw [show pre.length + 1 = (pre ++ [x]).length by simp] at q5 ⊢
          exact ⟨_, _, blk_set k5' 0 _, q5⟩
        · rw [HSN.out]; exact hr0
        · rw [HSN.out]
          exact ⟨qs', sl', hcq.setFar (p := ⟨d + 1, 0, none⟩) k5' (by decide) (by decide) (by decide) _⟩
    · have hz := beq_no hr0
      gi_wp2
      refine ⟨trivial, (fun h => by cases h), HS.out.mono ?_⟩
      rintro e W2 ⟨rfl, hbS, hks, hchk⟩
      have k2 := hks _ _ hbt.two rfl
      have k3 := hks _ _ hbt.three rfl
      have hc2 := blk_cell k2
      have hf2 := blk_frozen k2
      have hc3 := blk_cell k3
      have hf3 := blk_frozen k3
      have hb2w : Below w.heap.size w W2 := hbt.below.trans (hbS.mono (by omega))
      gi_wp2
      refine ⟨(hks.toN.trans (KeepN.set (p := ⟨w.heap.size + 1, 0, none⟩) k2 rfl _)).trans (KeepN.set (p := ⟨w.heap.size + 1 + 1, 0, none⟩) (blk_far k3 (p := ⟨w.heap.size + 1, 0, none⟩) (by show _ ≠ w.heap.size + 1; omega) _) rfl _), ?_⟩
      refine ⟨(hb2w.setCell (p := ⟨w.heap.size + 1, 0, none⟩) (by show _ ≤ w.heap.size + 1; omega) _).setCell (p := ⟨w.heap.size + 1 + 1, 0, none⟩) (by show _ ≤ w.heap.size + 1 + 1; omega) _, ?_, ?_, ?_⟩
      · exact blk_far (blk_set k2 0 _) (p := ⟨w.heap.size + 1 + 1, 0, none⟩) (by show _ ≠ w.heap.size + 1 + 1; omega) _
      · rw [HSN.out]
        exact blk_set (blk_far k3 (p := ⟨w.heap.size + 1, 0, none⟩) (by show _ ≠ w.heap.size + 1; omega) _) 0 _
      · rw [HSN.out]; exact hr0
  case done =>
    intro W hbt hD
    obtain ⟨qs, sl, hC⟩ := hbt.chk
    have hmay : mayE n = if (runS [] false (evs n)).2.2 && (runS [] false (evs n)).2.1.isEmpty then 0 else 19 := by unfold mayE; rw [if_pos hbt.goes]
    have hdn := done_calls _ _ _ _ _ _ W hC
    obtain ⟨v, xs, h5, hr⟩ := hbt.out
    obtain ⟨A5, c5, rfl⟩ := own_slice hr
    have h2 := hbt.two
    have h3 := hbt.three
    have h4 := hbt.four
    have hc4 := blk_cell h4
    have hc5 := blk_cell h5
    have hc2 := blk_cell h2
    have hf2 := blk_frozen h2
    have hc3 := blk_cell h3
    have hf3 := blk_frozen h3
    have hbel := hbt.below
    have hlt : w.heap.size + 1 + 1 + 1 < W3.heap.size := by have := blk_lt hbt3.four; omega
    cases hb : ((runS [] false (evs n)).2.2 && (runS [] false (evs n)).2.1.isEmpty)
    · rw [hb] at hmay hdn
      have HD := Lib.hid ((callsIn_wide (n := 9 - 1)).2 hdn)
      have HM := Lib.hid hmay
      clear hdn hmay hb hr hC hbt
      gi_wp2
      refine ⟨trivial, HD.out.mono ?_⟩
      rintro e W' ⟨rfl, rfl⟩
      gi_wp2
      have e2 := blk_far (blk_set h2 0 (.slice none 0 0)) (p := ⟨w.heap.size + 1 + 1, 0, none⟩) (by show _ ≠ w.heap.size + 1 + 1; omega) (.int .i64 19)
      have e3 := blk_set (blk_far h3 (p := ⟨w.heap.size + 1, 0, none⟩) (by show _ ≠ w.heap.size + 1; omega) (.slice none 0 0)) 0 (.int .i64 19)
      have eD := blk_far (blk_far hD (p := ⟨w.heap.size + 1, 0, none⟩) (by show _ ≠ w.heap.size + 1; omega) (.slice none 0 0)) (p := ⟨w.heap.size + 1 + 1, 0, none⟩) (by show _ ≠ w.heap.size + 1 + 1; omega) (.int .i64 19)
      have eB := (hbel.setCell (p := ⟨w.heap.size + 1, 0, none⟩) (by show _ ≤ w.heap.size + 1; omega) (.slice none 0 0)).setCell (p := ⟨w.heap.size + 1 + 1, 0, none⟩) (by show _ ≤ w.heap.size + 1 + 1; omega) (.int .i64 19)
      refine ⟨by simp, .inl ⟨_, _, rfl, run_takeDeferred eD, ?_⟩⟩
      have q2 := (put_far (l := W3.heap.size) (g := w.heap.size + 1) (by omega) (.deferred none)).trans e2
      have q3 := (put_far (l := W3.heap.size) (g := w.heap.size + 1 + 1) (by omega) (.deferred none)).trans e3
      exact ⟨_, results_cc rfl _ _ _ _ _ _ rfl rfl (blk_cell q2 0) (blk_cell q3 0) (by kernel_rfl) (by kernel_rfl), ⟨_, by rw [HM.out]; rfl⟩, put_below eB (by omega) eD⟩
    · rw [hb] at hmay hdn
      have HD := Lib.hid ((callsIn_wide (n := 9 - 1)).2 hdn)
      have HM := Lib.hid hmay
      clear hdn hmay hb hr hC hbt
      gi_wp2
      refine ⟨trivial, HD.out.mono ?_⟩
      rintro e W' ⟨rfl, rfl⟩
      gi_wp2
      have e2 := blk_far (blk_set h2 0 (.slice A5 (evs n).length c5)) (p := ⟨w.heap.size + 1 + 1, 0, none⟩) (by show _ ≠ w.heap.size + 1 + 1; omega) (.int .i64 0)
      have e3 := blk_set (blk_far h3 (p := ⟨w.heap.size + 1, 0, none⟩) (by show _ ≠ w.heap.size + 1; omega) (.slice A5 (evs n).length c5)) 0 (.int .i64 0)
      have eD := blk_far (blk_far hD (p := ⟨w.heap.size + 1, 0, none⟩) (by show _ ≠ w.heap.size + 1; omega) (.slice A5 (evs n).length c5)) (p := ⟨w.heap.size + 1 + 1, 0, none⟩) (by show _ ≠ w.heap.size + 1 + 1; omega) (.int .i64 0)
      have eB := (hbel.setCell (p := ⟨w.heap.size + 1, 0, none⟩) (by show _ ≤ w.heap.size + 1; omega) (.slice A5 (evs n).length c5)).setCell (p := ⟨w.heap.size + 1 + 1, 0, none⟩) (by show _ ≤ w.heap.size + 1 + 1; omega) (.int .i64 0)
      refine ⟨by simp, .inl ⟨_, _, rfl, run_takeDeferred eD, ?_⟩⟩
      have q2 := (put_far (l := W3.heap.size) (g := w.heap.size + 1) (by omega) (.deferred none)).trans e2
      have q3 := (put_far (l := W3.heap.size) (g := w.heap.size + 1 + 1) (by omega) (.deferred none)).trans e3
      exact ⟨_, results_cc rfl _ _ _ _ _ _ rfl rfl (blk_cell q2 0) (blk_cell q3 0) (by kernel_rfl) (by kernel_rfl), ⟨_, by rw [HM.out]; rfl⟩, put_below eB (by omega) eD⟩
  case stop =>
    intro q W hq hst hD
    have hmay : mayE n = (runS [] false q).1 := by
      obtain ⟨r, hr⟩ := hq
      unfold mayE
      rw [← hr, runS_stop q r [] false hst.goes, if_neg hst.goes]
    have hlt : w.heap.size + 1 + 1 + 1 < W3.heap.size := by have := blk_lt hbt3.four; omega
    gi_wp2
    refine ⟨by simp, .inl ⟨_, _, rfl, run_takeDeferred hD, ?_⟩⟩
    have q2 := (put_far (W := W) (l := W3.heap.size) (g := w.heap.size + 1) (by omega) (.deferred none)).trans hst.two
    have q3 := (put_far (W := W) (l := W3.heap.size) (g := w.heap.size + 1 + 1) (by omega) (.deferred none)).trans hst.three
    refine ⟨_, results_cc rfl _ _ _ _ _ _ rfl rfl (blk_cell q2 0) (blk_cell q3 0) (by kernel_rfl) (by kernel_rfl), ⟨_, by rw [hmay]; rfl⟩, put_below hst.below (by omega) hD⟩
end Go.Proofs.YtngofdaciacglaaGreatDoor
