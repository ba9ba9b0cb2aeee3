/- Walks: num.read. -/
import Derived.Test.YtngofdaciacglaaGreatDoorCut
import Derived.Test.YtngofdaciacglaaGreatDoorNumMay
import Derived.Lib.AtoiAll
import Derived.Deep.DeepCutAuto
import Derived.Deep.CutBlock
namespace Go.Proofs.YtngofdaciacglaaGreatDoor
open Go.RowKit Go.Lib

theorem stepN_nine (c : Int) : stepN 9 c = 9 := by unfold stepN; simp
theorem stepN_ascii (s c : Int) (h : stepN s c ≠ 9) : c < 128 := by
  unfold stepN digitC expC at h
  by_cases hc : c < 128
  · exact hc
  · exfalso; apply h
    have h1 : ¬ c = 45 := by omega
    have h2 : ¬ c = 48 := by omega
    have h3 : ¬ c ≤ 57 := by omega
    have h4 : ¬ c = 46 := by omega
    have h5 : ¬ c = 43 := by omega
    have h6 : (c == 101) = false := by rw [beq_eq_false_iff_ne]; omega
    have h7 : (c == 69) = false := by rw [beq_eq_false_iff_ne]; omega
    simp [h1, h2, h3, h4, h5, h6, h7]
theorem stN_ascii (l : List UInt8) (h : stN l ≠ 9) : ∀ b ∈ l, b.toNat < 128 := by
  unfold stN at h
  suffices hh : ∀ (l : List UInt8) (s : Int), l.foldl (fun s b => stepN s (b.toNat : Int)) s ≠ 9 → ∀ b ∈ l, b.toNat < 128 by exact hh l 0 h
  intro l
  induction l with
  | nil => intro s _ b hb; cases hb
  | cons a r ih =>
    intro s hs b hb
    have hs' : r.foldl (fun s b => stepN s (b.toNat : Int)) (stepN s (a.toNat : Int)) ≠ 9 := hs
    rcases List.mem_cons.1 hb with e | hb
    · subst e
      have : stepN s (b.toNat : Int) ≠ 9 := by
        intro h9
        rw [h9] at hs'
        apply hs'
        clear hs hs' h9 ih hb h
        induction r with
        | nil => rfl
        | cons c r ih => show r.foldl _ (stepN 9 _) = 9; rw [stepN_nine]; exact ih
      have := stepN_ascii s _ this
      omega
    · exact ih _ hs' b hb
theorem isNum_ascii (l : List UInt8) (h : isNum l = true) : ∀ b ∈ l, b.toNat < 128 := stN_ascii l (by intro h9; unfold isNum at h; rw [h9] at h; simp at h)

/-- A number in a text, where it fits. -/
def atoiO (l : List UInt8) : Option Int := match Lib.atoiAll l with | .ok v => some v | _ => none
theorem atoi_calls (s : ByteArray) (w : World) (hG : Globs w) (hs : s.size ≤ 1048576) :
    Calls Tryz.prog 152 #[.string s] w fun e w' => (∃ v x, e = .returned (.tuple #[.int .i64 v, x]) ∧ (match atoiO s.data.toList with | some u => v = u ∧ x = .nilIface | none => ∃ N : Nat, x = .iface 178 (.pointer (some ⟨N, 0, none⟩)))) ∧ Below w.heap.size w w' := by
  unfold atoiO
  cases h : Lib.atoiAll s.data.toList with
  | ok v =>
    refine (Tryz.strconv_Atoi_ok s (by omega) v h w).mono ?_
    rintro e w' ⟨rfl, hw⟩
    refine ⟨⟨_, _, rfl, rfl, rfl⟩, ?_⟩
    rcases hw with rfl | ⟨t, rfl⟩
    · exact Below.refl _ _
    · exact bytes_below (Below.refl _ _) (Nat.le_refl _) _ _
  | range =>
    obtain ⟨ev, hv, hev⟩ := hG.range
    refine (Tryz.strconv_Atoi_range s (by omega) h ev w hv hev).mono ?_
    rintro e w' ⟨N, rfl, _, _, hb⟩
    exact ⟨⟨_, _, rfl, N, rfl⟩, hb⟩
  | _ =>
    obtain ⟨ev, hv, hev⟩ := hG.synt
    refine (Tryz.strconv_Atoi_syntax s (by omega) (fun v e => by rw [h] at e; cases e) (fun e => by rw [h] at e; cases e) ev w hv hev).mono ?_
    rintro e w' ⟨N, rfl, _, _, hb⟩
    exact ⟨⟨_, _, rfl, N, rfl⟩, hb⟩

theorem cutat_calls (s : ByteArray) (c : UInt8) (w : World) (hG : Globs w) (hs : s.size ≤ 1048576) :
    Calls Tryz.prog 97 #[.string s, .string ⟨#[c]⟩] w fun e w' => e = .returned (.tuple #[.string (bs (Lib.cut s.data.toList [c]).1), .string (bs (Lib.cut s.data.toList [c]).2.1), .bool (Lib.cut s.data.toList [c]).2.2]) ∧ Below w.heap.size w w' := by
  obtain ⟨m, hm⟩ := hG.maxLen
  refine (Tryz.strings_Cut s ⟨#[c]⟩ m w (by omega) hm).mono ?_
  rintro e w1 ⟨rfl, n1, rfl⟩
  exact ⟨rfl, drewN_below _ _⟩
/-- The power behind the e. -/
def powN (tail : List UInt8) : Int := if tail = [] then 0 else match atoiO tail with | some v => v | none => if tail.head? = some 45 then -1099511627776 else 1099511627776
/-- A number's value. -/
def numRead (l : List UInt8) : Option (Bool × List UInt8 × Int) :=
  if isNum l && decide (l.length ≤ 30) then
    let r := Lib.cut (Lib.toLowerA (Lib.trimPrefix l [45])) [101]
    let q := Lib.cut r.1 [46]
    let all := Lib.trimLeftB (q.1 ++ q.2.1) 48
    let ds := Lib.trimRightB all 48
    if ds = [] then some (false, [], 0) else some (Lib.hasPrefix l [45], ds, wrap64 (powN r.2.1 + ((all.length : Int) - ds.length - q.2.1.length)))
  else none
/-- A value in memory's words. -/
def numV : Option (Bool × List UInt8 × Int) → Value
  | some (b, d, p) => .agg #[.bool b, .string (bs d), .int .i64 p]
  | none => .agg #[.bool false, .string (bs []), .int .i64 0]

theorem trimP_len (l p : List UInt8) : (Lib.trimPrefix l p).length ≤ l.length := by
  unfold Lib.trimPrefix
  split
  · simp
  · exact Nat.le_refl _
theorem trimP_mem (l p : List UInt8) (x : UInt8) (h : x ∈ Lib.trimPrefix l p) : x ∈ l := by
  unfold Lib.trimPrefix at h
  split at h
  · exact List.mem_of_mem_drop h
  · exact h
theorem trimL_len (l : List UInt8) (c : UInt8) : (Lib.trimLeftB l c).length ≤ l.length := by
  unfold Lib.trimLeftB
  exact (List.dropWhile_sublist _).length_le
set_option maxRecDepth 100000 in
set_option maxHeartbeats 1000000 in
theorem read_calls (s : ByteArray) (w : World) (hG : Globs w) (hs : s.size ≤ 1048576) :
    Calls Tryz.prog 142 #[.string s] w fun e w' => e = .returned (.tuple #[numV (numRead s.data.toList), .bool (numRead s.data.toList).isSome]) ∧ Below w.heap.size w w' := by
  have hm := fun W => may_calls s W hs
  cases hn : isNum s.data.toList
  · have HF := Lib.hid (show numRead s.data.toList = none by simp [numRead, hn])
    rw [hn] at hm
    have HM := Lib.hid hm
    clear hm hn
    go_enter Tryz.func142, Tryz.ntmps142
    go_wp2_with fail
    refine (HM.out _).mono ?_
    rintro e w1 ⟨rfl, hb1⟩
    have hk := blk_below (blk_new w _) hb1
    have hc := blk_cell hk
    have hf := blk_frozen hk
    have hb2 := ((Below.refl w.heap.size w).alloc (Nat.le_refl _) _).trans (hb1.mono (by simp))
    go_wp2_with fail
    ((try simp only [Exit.inBlock, Exit.then]); refine post_ct rfl rfl (blk_set (blk_set (blk_set hk 0 _) 1 _) 2 _) rfl Tryz.underlying134 rfl (by kernel_rfl) ?_)
    exact ⟨by rw [HF.out]; rfl, ((hb2.setCell (p := ⟨w.heap.size, 0, none⟩) (Nat.le_refl _) _).setCell (p := ⟨w.heap.size, 1, none⟩) (Nat.le_refl _) _).setCell (p := ⟨w.heap.size, 2, none⟩) (Nat.le_refl _) _⟩
  by_cases h30 : s.size ≤ 30
  case neg =>
    have HF := Lib.hid (show numRead s.data.toList = none by simp [numRead, hn]; intro h; omega)
    rw [hn] at hm
    have HM := Lib.hid hm
    clear hm hn
    go_enter Tryz.func142, Tryz.ntmps142
    go_wp2_with fail
    refine (HM.out _).mono ?_
    rintro e w1 ⟨rfl, hb1⟩
    have hk := blk_below (blk_new w _) hb1
    have hc := blk_cell hk
    have hf := blk_frozen hk
    have hb2 := ((Below.refl w.heap.size w).alloc (Nat.le_refl _) _).trans (hb1.mono (by simp))
    go_wp2_with fail
    ((try simp only [Exit.inBlock, Exit.then]); refine post_ct rfl rfl (blk_set (blk_set (blk_set hk 0 _) 1 _) 2 _) rfl Tryz.underlying134 rfl (by kernel_rfl) ?_)
    exact ⟨by rw [HF.out]; rfl, ((hb2.setCell (p := ⟨w.heap.size, 0, none⟩) (Nat.le_refl _) _).setCell (p := ⟨w.heap.size, 1, none⟩) (Nat.le_refl _) _).setCell (p := ⟨w.heap.size, 2, none⟩) (Nat.le_refl _) _⟩
  have hascii := isNum_ascii _ hn
  obtain ⟨b, hb⟩ : ∃ b, b = Lib.hasPrefix s.data.toList [45] := ⟨_, rfl⟩
  obtain ⟨t, ht⟩ : ∃ t, t = Lib.trimPrefix s.data.toList [45] := ⟨_, rfl⟩
  have htl : t.length ≤ 30 := by rw [ht]; have := trimP_len s.data.toList [45]; rw [data_length] at this; omega
  have hta : ∀ x ∈ t, x.toNat < 128 := by
    intro x hx
    rw [ht] at hx
    exact hascii x (trimP_mem _ _ _ hx)
  have hA : ∀ W, Calls Tryz.prog 96 #[.string s, .string ⟨#[45]⟩] W fun e w' => e = .returned (.tuple #[.string (bs t), .bool b]) ∧ W = w' :=
    fun W => (Tryz.strings_CutPrefix s ⟨#[45]⟩ W).mono fun e w' ⟨he, hw⟩ => ⟨by rw [he, hb, ht], hw.symm⟩
  have hB : ∀ W, Calls Tryz.prog 151 #[.string (bs t)] W fun e w' => e = .returned (.string (bs (Lib.toLowerA t))) ∧ Below W.heap.size W w' :=
    fun W => Tryz.strings_ToLower_ascii (bs t) W (by rw [size_bs]; omega) (fun j c hj => hta c (List.mem_of_getElem? hj))
  obtain ⟨lo, hlo⟩ : ∃ lo, lo = Lib.toLowerA t := ⟨_, rfl⟩
  rw [← hlo] at hB
  have hll : lo.length ≤ 30 := by rw [hlo]; unfold Lib.toLowerA; simp; exact htl
  have hC := fun W hG => cutat_calls (bs lo) 101 W hG (by rw [size_bs]; omega)
  rw [show (bs lo).data.toList = lo by simp] at hC
  have hr1 := cut_len lo [101]
  obtain ⟨⟨hd, tl, f1⟩, hr⟩ : ∃ r, r = Lib.cut lo [101] := ⟨_, rfl⟩
  rw [← hr] at hC hr1
  have hD := fun W hG => cutat_calls (bs hd) 46 W hG (by rw [size_bs]; simp at hr1; omega)
  rw [show (bs hd).data.toList = hd by simp] at hD
  have hq1 := cut_len hd [46]
  obtain ⟨⟨wh, pa, f2⟩, hq⟩ : ∃ q, q = Lib.cut hd [46] := ⟨_, rfl⟩
  rw [← hq] at hD hq1
  have hE := fun W hG => atoi_calls (bs tl) W hG (by rw [size_bs]; simp at hr1; omega)
  rw [show (bs tl).data.toList = tl by simp] at hE
  have hF := fun W => Tryz.strings_TrimLeft_one (bs wh ++ bs pa) 48 (by decide) W
  rw [show (bs wh ++ bs pa).data.toList = wh ++ pa by simp] at hF
  obtain ⟨al, hal⟩ : ∃ al, al = Lib.trimLeftB (wh ++ pa) 48 := ⟨_, rfl⟩
  rw [← hal] at hF
  have hwl : wh.length ≤ 30 ∧ pa.length ≤ 30 ∧ tl.length ≤ 30 := by simp at hr1 hq1; omega
  have hall : al.length ≤ 60 := by have := trimL_len (wh ++ pa) 48; rw [← hal] at this; simp at this; omega
  have hH := fun W => Tryz.strings_TrimRight_one (bs al) 48 (by decide) W (by rw [size_bs]; omega)
  rw [show (bs al).data.toList = al by simp] at hH
  obtain ⟨ds, hds⟩ : ∃ ds, ds = Lib.trimRightB al 48 := ⟨_, rfl⟩
  rw [← hds] at hH
  have hdl : ds.length ≤ 60 := by rw [hds]; unfold Lib.trimRightB; simp; exact Nat.le_trans ((List.dropWhile_sublist _).length_le) (by simp; omega)
  have hRes : numRead s.data.toList = if ds = [] then some (false, [], 0) else some (b, ds, wrap64 (powN tl + ((al.length : Int) - ds.length - pa.length))) := by
    unfold numRead
    simp only [hn, show s.data.toList.length ≤ 30 by rw [data_length]; exact h30, decide_true, Bool.and_self, if_true, ← ht, ← hlo, ← hr, ← hq, ← hal, ← hds, ← hb]
  rw [hn] at hm
  have HM := Lib.hid hm
  have HA := Lib.hid hA
  have HB := Lib.hid hB
  have HC := Lib.hid hC
  have HD := Lib.hid hD
  have HE := Lib.hid hE
  have HF := Lib.hid hF
  have HH := Lib.hid hH
  have HR := Lib.hid hRes
  have HL := Lib.hid (And.intro hwl (And.intro hall hdl))
  clear hm hA hB hC hD hE hF hH hRes hwl hall hdl hds hal hq hq1 hr hr1 hll hlo hta htl ht hb hascii hn
  go_enter Tryz.func142, Tryz.ntmps142
  go_wp2_with fail
  refine (HM.out _).mono ?_
  rintro e w1 ⟨rfl, hb1⟩
  have hk2 := blk_below (blk_new w _) hb1
  have hbx := hb1
  have hb1 := ((Below.refl w.heap.size w).alloc (Nat.le_refl _) _).trans (hb1.mono (by simp))
  go_wp2_with fail
  refine (HA.out _).mono ?_
  rintro e w2 ⟨rfl, rfl⟩
  go_wp2_with fail
  refine (HB.out _).mono ?_
  rintro e w2 ⟨rfl, hb2⟩
  have hk6 := blk_below (blk_new w1 _) hb2
  have hk2 := blk_below (blk_alloc hk2 _) hb2
  have hb2 := (hb1.alloc hb1.size _).trans (hb2.mono (by have := hb1.size; simp; omega))
  obtain ⟨g6, hg6⟩ : ∃ g, g = w1.heap.size := ⟨_, rfl⟩
  have hz6 : w.heap.size < g6 := by rw [hg6]; exact blk_lt (blk_below (blk_new w _) hbx)
  rw [← hg6] at hk6 ⊢
  clear hg6 hb1 hbx
  go_wp2_with fail
  refine (HC.out _ (hG.below hb2)).mono ?_
  rintro e w3 ⟨rfl, hb3⟩
  have hk6 := blk_below hk6 hb3
  have hk2 := blk_below hk2 hb3
  have hb3 := below_then hb2 hb2.size hb3
  clear hb2
  go_wp2_with fail
  refine (HD.out _ (hG.below hb3)).mono ?_
  rintro e w4 ⟨rfl, hb4⟩
  have hk6 := blk_below hk6 hb4
  have hk2 := blk_below hk2 hb4
  have hb4 := below_then hb3 hb3.size hb4
  clear hb3
  go_upto_if 49 with (fail)
  have hc := blk_cell hk6
  have hf := blk_frozen hk6
  go_cut [49] (fun _ wx => wx.heap[g6]? = some (.cells #[.bool b, .string (bs []), .int .i64 (powN tl)] 134) ∧ wx.heap[w.heap.size]? = some (.cells #[.bool false, .string (bs []), .int .i64 0] 134) ∧ Below w.heap.size w wx)
  case first =>
    by_cases htl : tl = []
    · subst htl
      go_wp2_with fail
      go_meet
      exact ⟨hk6, hk2, hb4⟩
    · have hne : ¬ (bs tl).toList = [] := by rw [ByteArray.toList_eq]; simpa using htl
      have hne2 : tl.isEmpty = false := by simpa using htl
      have HB4 := Lib.hid hb4
      cases ha : atoiO tl with
      | some u =>
        have HP := Lib.hid (show powN tl = u by simp [powN, htl, ha])
        go_wp2_with fail
        refine (HE.out _ (hG.below hb4)).mono ?_
        rw [ha]
        rintro e w5 ⟨⟨v, x, rfl, rfl, rfl⟩, hb5⟩
        have hk6 := blk_below hk6 hb5
        have hk2 := blk_below hk2 hb5
        have hb5 := below_then hb4 hb4.size hb5
        have hc := blk_cell hk6
        have hf := blk_frozen hk6
        go_wp2_with fail
        · go_meet
          exact ⟨by rw [HP.out]; exact blk_set hk6 2 _, blk_far hk2 (by show _ ≠ g6; omega) _, hb5.setCell (by show _ ≤ g6; omega) _⟩
        · rename_i h
          exact absurd (by simpa using h) htl
      | none =>
        obtain ⟨c, tr, rfl⟩ : ∃ c tr, tl = c :: tr := by
          cases tl with
          | nil => exact absurd rfl htl
          | cons c tr => exact ⟨c, tr, rfl⟩
        have hs1 : 1 ≤ (bs (c :: tr)).size := by rw [size_bs]; simp
        have hgc : (bs (c :: tr)).data[0]? = some c := by simp
        by_cases h45 : c = 45
        · subst h45
          have HP := Lib.hid (show powN (45 :: tr) = -1099511627776 by simp [powN, ha])
          go_wp2_with fail
          refine (HE.out _ (hG.below hb4)).mono ?_
          rw [ha]
          rintro e w5 ⟨⟨v, x, rfl, N, rfl⟩, hb5⟩
          have hk6 := blk_below hk6 hb5
          have hk2 := blk_below hk2 hb5
          have hb5 := below_then hb4 hb4.size hb5
          have hc := blk_cell hk6
          have hf := blk_frozen hk6
          go_wp2_with fail
          go_meet
          exact ⟨by rw [HP.out]; exact blk_set hk6 2 _, blk_far hk2 (by show _ ≠ g6; omega) _, hb5.setCell (by show _ ≤ g6; omega) _⟩
        · have HP := Lib.hid (show powN (c :: tr) = 1099511627776 by simp [powN, ha, h45])
          go_wp2_with fail
          refine (HE.out _ (hG.below hb4)).mono ?_
          rw [ha]
          rintro e w5 ⟨⟨v, x, rfl, N, rfl⟩, hb5⟩
          have hk6 := blk_below hk6 hb5
          have hk2 := blk_below hk2 hb5
          have hb5 := below_then hb4 hb4.size hb5
          have hc := blk_cell hk6
          have hf := blk_frozen hk6
          go_wp2_with fail
          · rename_i h
            have h2 : (c.toNat : Int) = 45 := beq_iff_eq.1 h
            exact absurd (UInt8.toNat_inj.1 (show c.toNat = (45 : UInt8).toNat from Int.ofNat.inj h2)) h45
          · go_meet
            exact ⟨by rw [HP.out]; exact blk_set hk6 2 _, blk_far hk2 (by show _ ≠ g6; omega) _, hb5.setCell (by show _ ≤ g6; omega) _⟩
  case rest =>
    clear hk6 hk2 hc hf hb4
    obtain ⟨hk6, hk2, hB⟩ := hcut
    have hc := blk_cell hk6
    have hf := blk_frozen hk6
    have hwl : wh.length ≤ 30 ∧ pa.length ≤ 30 := ⟨HL.out.1.1, HL.out.1.2.1⟩
    have hsw : (bs wh ++ bs pa).size ≤ 60 := by rw [ByteArray.size_append, size_bs, size_bs]; omega
    have hsw2 : (bs wh).size + (bs pa).size ≤ 60 := by rw [size_bs, size_bs]; omega
    go_wp2_with fail
    refine (HF.out _).mono ?_
    rintro e w5 ⟨rfl, rfl⟩
    go_wp2_with fail
    refine (HH.out _).mono ?_
    rintro e w5 ⟨rfl, rfl⟩
    obtain ⟨p, hp⟩ : ∃ p, p = powN tl := ⟨_, rfl⟩
    rw [← hp] at hk6 hc
    have HP := Lib.hid hp
    have hal : al.length ≤ 60 := HL.out.2.1
    have hdl : ds.length ≤ 60 := HL.out.2.2
    have hpa : pa.length ≤ 30 := HL.out.1.2.1
    clear hp hwl hsw hsw2
    go_upto_region 18 with (fail)
    obtain ⟨x, hx⟩ : ∃ x, x = wrap64 (p + ((al.length : Int) - ds.length - pa.length)) := ⟨_, rfl⟩
    rw [← hx]
    have HX := Lib.hid hx
    clear hx
    have hk6 := blk_set (blk_set hk6 1 (.string ⟨ds.toArray⟩)) 2 (.int .i64 x)
    have hk2 := blk_far (blk_far hk2 (p := ⟨g6, 1, none⟩) (by show _ ≠ g6; omega) (.string ⟨ds.toArray⟩)) (p := ⟨g6, 2, none⟩) (by show _ ≠ g6; omega) (.int .i64 x)
    have hB := (hB.setCell (p := ⟨g6, 1, none⟩) (by show _ ≤ g6; omega) (.string ⟨ds.toArray⟩)).setCell (p := ⟨g6, 2, none⟩) (by show _ ≤ g6; omega) (.int .i64 x)
    generalize (w5.setCell ⟨g6, 1, none⟩ (.string ⟨ds.toArray⟩)).setCell ⟨g6, 2, none⟩ (.int .i64 x) = w6 at hk6 hk2 hB ⊢
    clear hc hf hal hdl hpa
    have hc := blk_cell hk6
    have hf := blk_frozen hk6
    have hc2 := blk_cell hk2
    have hf2 := blk_frozen hk2
    by_cases hds : ds = []
    · subst hds
      go_wp2_with fail
      ((try simp only [Exit.inBlock, Exit.then]); refine post_ct rfl rfl (blk_set (blk_set (blk_set (blk_far (blk_far (blk_far hk2 (p := ⟨g6, 0, none⟩) (by show _ ≠ g6; omega) _) (p := ⟨g6, 1, none⟩) (by show _ ≠ g6; omega) _) (p := ⟨g6, 2, none⟩) (by show _ ≠ g6; omega) _) 0 _) 1 _) 2 _) rfl Tryz.underlying134 rfl (by kernel_rfl) ?_)
      exact ⟨by rw [HR.out]; rfl, (((((hB.setCell (p := ⟨g6, 0, none⟩) (by show _ ≤ g6; omega) _).setCell (p := ⟨g6, 1, none⟩) (by show _ ≤ g6; omega) _).setCell (p := ⟨g6, 2, none⟩) (by show _ ≤ g6; omega) _).setCell (p := ⟨w.heap.size, 0, none⟩) (Nat.le_refl _) _).setCell (p := ⟨w.heap.size, 1, none⟩) (Nat.le_refl _) _).setCell (p := ⟨w.heap.size, 2, none⟩) (Nat.le_refl _) _⟩
    · have hne : ds.isEmpty = false := by simpa using hds
      have HN := Lib.hid hds
      go_wp2_with fail
      ((try simp only [Exit.inBlock, Exit.then]); refine post_ct rfl rfl (blk_set (blk_set (blk_set hk2 0 _) 1 _) 2 _) rfl Tryz.underlying134 rfl (by kernel_rfl) ?_)
      exact ⟨by rw [HR.out, if_neg HN.out, ← HP.out, ← HX.out]; rfl, ((hB.setCell (p := ⟨w.heap.size, 0, none⟩) (Nat.le_refl _) _).setCell (p := ⟨w.heap.size, 1, none⟩) (Nat.le_refl _) _).setCell (p := ⟨w.heap.size, 2, none⟩) (Nat.le_refl _) _⟩
end Go.Proofs.YtngofdaciacglaaGreatDoor
