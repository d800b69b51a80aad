/-
  The walk of seal.Open where a blob is refused.
-/
import Derived.Test.YtbicdobnnanlkaaDoorSe3
import Derived.Test.YtbicdobnnanlkaaDoorBk
import Derived.Test.YtbicdobnnanlkaaDoorGB
import Derived.Test.YtbicdobnnanlkaaDoorMc2
namespace Go.Proofs.YtbicdobnnanlkaaDoor
open Go Go.RowKit Go.Shelf
set_option linter.unusedSimpArgs false
set_option linter.unusedVariables false

/-- a new key's block, from base on -/
def PtK (base : Nat) (v : Value) (W : World) : Prop := ∃ q, v = .pointer (some ⟨q, 0, none⟩) ∧ base ≤ q ∧ Blk W q 23 (bvs (List.replicate 32 0))
theorem PtK.keep {base : Nat} {v : Value} {W V : World} (h : PtK base v W) (hb : Below W.heap.size W V) : PtK base v V := by
  obtain ⟨q, h1, h2, h3⟩ := h
  exact ⟨q, h1, h2, h3.below hb h3.lt⟩

set_option maxRecDepth 100000 in
set_option maxHeartbeats 2000000 in
theorem open_short (key b : List UInt8) (v : Value) (w : World) (hk : key.length = 32) (hv : HB w v b) (h41 : b.length < 41) :
    Calls Tryd.prog 11 #[.agg (bvs key), v] w fun e w' => e = .returned (.tuple #[.slice none 0 0, .int .u8 0, .int .u64 0, .int .i64 10]) ∧ Below w.heap.size w w' := by
  obtain ⟨p, c, rfl, hl, hm⟩ := hv.form
  obtain ⟨n, hnn⟩ : ∃ n, n = b.length := ⟨_, rfl⟩
  rw [← hnn] at hl h41 ⊢
  clear hv hnn
  have h41' : decide ((n : Int) < 41) = true := decide_eq_true (by omega)
  go_enter Tryd.func11, Tryd.ntmps11
  go_wp2_with fail
  refine bodyPost_ret (results_tmp4 rfl _ _ _) rfl ⟨rfl, ?_⟩
  exact (Below.refl w.heap.size w).alloc (Nat.le_refl _) _


set_option maxRecDepth 100000 in
set_option maxHeartbeats 2000000 in
theorem open_bad (key b : List UInt8) (v : Value) (w : World) (hT : Tabs w) (hk : key.length = 32) (hv : HB w v b) (hb : b.length ≤ 60000) (h41 : 41 ≤ b.length) (hok : okS key b = false) :
    Calls Tryd.prog 11 #[.agg (bvs key), v] w fun e w' => e = .returned (.tuple #[.slice none 0 0, .int .u8 0, .int .u64 0, .int .i64 20]) ∧ Below w.heap.size w w' := by
  have HT := Lib.hid hT
  clear hT
  obtain ⟨p, c, rfl, hl, hm⟩ := hv.form
  obtain ⟨b0, o0, rfl, -⟩ := hv.at_ (at8_get (l := b) (i := 0) (by omega))
  obtain ⟨n, hnn⟩ : ∃ n, n = b.length := ⟨_, rfl⟩
  have HV := Lib.hid hv
  have HN := Lib.hid hnn
  rw [← hnn] at HV hl hb h41 ⊢
  unfold maxLen at hm
  have hbz : (bvs key).size = 32 := by rw [bvs_size]; exact hk
  obtain ⟨kd, hkd⟩ : ∃ kd, kd = at8 b 0 := ⟨_, rfl⟩
  have HKD := Lib.hid hkd
  have hkb := kd.toNat_lt
  obtain ⟨en, hen⟩ : ∃ en, en = n - 32 := ⟨_, rfl⟩
  have hen1 : (n : Int) - 32 = (en : Int) := by omega
  have hen9 : 9 ≤ en := by omega
  have henn : en + 32 = n := by omega
  obtain ⟨hide, hh⟩ : ∃ m, m = hideK key kd := ⟨_, rfl⟩
  have hhl : hide.length = 32 := by rw [hh]; exact hideK_length _ _
  have hhz : (bvs hide).size = 32 := by rw [bvs_size]; exact hhl
  obtain ⟨vouch, hvo⟩ : ∃ n, n = vouchK key kd := ⟨_, rfl⟩
  have hvl : vouch.length = 32 := by rw [hvo]; exact vouchK_length _ _
  have hvz : (bvs vouch).size = 32 := by rw [bvs_size]; exact hvl
  obtain ⟨x, hx⟩ : ∃ x, x = macF vouch (b.take en) := ⟨_, rfl⟩
  have hxl : x.length = 32 := by rw [hx]; exact macF_length _ _
  obtain ⟨y, hy⟩ : ∃ y, y = b.drop en := ⟨_, rfl⟩
  have hyl : y.length = 32 := by rw [hy, List.length_drop]; omega
  have hxy : (x == y) = okS key b := by
    rw [hx, hy, hvo, hkd, hen, hnn]; rfl
  have HH := Lib.hid hh
  have HVO := Lib.hid hvo
  have HX := Lib.hid hx
  have HYD := Lib.hid hy
  have HEN := Lib.hid hen
  have henN := Lib.hid henn
  have h41' : decide ((n : Int) < 41) = false := decide_eq_false (by omega)
  have h65' : decide (65577 < (n : Int)) = false := decide_eq_false (by omega)
  clear hv hnn hkd hen hh hvo hx hy
  rw [hok] at hxy
  go_enter Tryd.func11, Tryd.ntmps11
  go_wp2_with fail
  obtain ⟨g, hg⟩ : ∃ g, g = w.heap.size := ⟨_, rfl⟩
  have hB0 : Below w.heap.size w (w.alloc (.cells (bvs key) 23)) := (Below.refl w.heap.size w).alloc (Nat.le_refl _) _
  have HI0 : Hid (Blk (w.alloc (.cells (bvs key) 23)) g 23 (bvs key) ∧ Below g w (w.alloc (.cells (bvs key) 23)) ∧ HB (w.alloc (.cells (bvs key) 23)) (.slice (some ⟨b0, o0, none⟩) n c) b) := Lib.hid ⟨hg ▸ Blk.new w _ _, hg ▸ hB0, HV.out.keep hB0⟩
  have HTW : Hid (Tabs (w.alloc (.cells (bvs key) 23))) := Lib.hid (HT.out.below hB0)
  rw [← hg]
  have HG := Lib.hid hg
  clear hB0 hg
  generalize w.alloc (.cells (bvs key) 23) = w1 at *
  refine any_region_tail4 (Q := QN _) (fun h => wp_mono (wp_region_any (by kernel_rfl) h) QN_le) 10 [.eq (.agg (bvs key)), .eq (.slice (some ⟨b0, o0, none⟩) n c), .eq (.pointer (some ⟨b0, o0, none⟩)), .eq (.int .u8 (kd.toNat : Int)), .eq (.tuple #[.agg (bvs hide), .agg (bvs vouch)]), .eq (.tuple #[.agg (bvs hide), .agg (bvs vouch)]), .eq (.agg (bvs hide)), .eq (.agg (bvs vouch)), .st (PtK w1.heap.size) (fun _ _ _ h hb => h.keep hb), .st (PtK w1.heap.size) (fun _ _ _ h hb => h.keep hb)] (fun i => i == 8 || i == 9) (by kernel_rfl) (by kernel_rfl) (by kernel_rfl) rfl (by decide) 7 _ _ rfl (by decide) rfl (by kernel_rfl) (by kernel_rfl) rfl rfl (by kernel_rfl) _ (fun f => by simp only [framedL, Act.put, maskF, oldF, Nat.reduceLT, reduceIte, List.getElem?_toArray, List.getElem?_cons_succ, List.getElem?_cons_zero, Option.bind_some, Option.map_some, Option.map_none, Option.getD_some, Option.getD_none, Array.getD_eq_getD_getElem?, List.setIfInBounds_toArray, List.set_cons_zero, List.set_cons_succ, Nat.reduceAdd]; rfl) (fun _ _ _ _ h => h.elim) ?_ ⟨?_, ?_, ?_, ?_, ?_, ?_, ?_, ?_, ?_, ?_, trivial⟩ ?_
  · intro f W hd V
    simp only [List.getElem_toArray, List.getElem_cons_succ, List.getElem_cons_zero, DepAs, Region.binds, asAt, As.holds, and_true, forall_const] at hd
    go_simp
  · refine oweD_of rfl ?_
    exact oweAs_load 23 (.tmp 2) rfl (g) 23 (bvs key) (fun _ => rfl) (HI0.out.1) Tryd.underlying23 rfl (by rw [bvs_size, hk]; kernel_rfl) rfl rfl
  · refine oweD_of rfl ?_
    refine oweAs_pure ((.slice (some ⟨b0, o0, none⟩) n c)) rfl (fun f W hE hd => ?_) (fun W hE => rfl)
    go_simp
  · refine oweD_of rfl ?_
    refine oweAs_pure ((.pointer (some ⟨b0, o0, none⟩))) rfl (fun f W hE hd => ?_) (fun W hE => rfl)
    simp only [DepAs, Region.binds, asAt, As.holds, and_true, forall_const] at hd
    have hn0 : ¬ n = 0 := by omega
    go_simp
  · refine oweD_of rfl ?_
    refine oweAs_pure ((.int .u8 (kd.toNat : Int))) rfl (fun f W hE hd => ?_) (fun W hE => rfl)
    simp only [DepAs, Region.binds, asAt, As.holds, and_true, forall_const] at hd
    obtain ⟨b2, o2, e2, hc2⟩ := (HI0.out.2.2.keep hE).at_ (at8_get (l := b) (i := 0) (by have := HN.out; omega))
    injection e2 with e2
    injection e2 with e3 e4
    subst e3
    subst e4
    rw [Nat.add_zero, ← HKD.out] at hc2
    go_simp
  · refine oweD_of rfl ?_
    refine oweAs_call 15 rfl (fun f W hE hd => ?_)
    simp only [DepAs, Region.binds, asAt, As.holds, and_true, forall_const] at hd
    refine ⟨_, by (go_simp; first | exact rfl | exact ⟨rfl, rfl⟩), ?_⟩
    have hTT := HTW.out.below hE
    refine (keys_any key kd W hTT.1 hTT.2.2.1 hk).mono ?_
    rintro e w' ⟨rfl, hb⟩
    exact ⟨_, rfl, by (show (_ : Value) = _; rw [HH.out, HVO.out]), hb⟩
  · refine oweD_of rfl ?_
    refine oweAs_pure ((.tuple #[.agg (bvs hide), .agg (bvs vouch)])) rfl (fun f W hE hd => ?_) (fun W hE => rfl)
    simp only [DepAs, Region.binds, asAt, As.holds, and_true, forall_const] at hd
    go_simp
  · refine oweD_of rfl ?_
    refine oweAs_pure ((.agg (bvs hide))) rfl (fun f W hE hd => ?_) (fun W hE => rfl)
    simp only [DepAs, Region.binds, asAt, As.holds, and_true, forall_const] at hd
    go_simp
  · refine oweD_of rfl ?_
    refine oweAs_pure ((.agg (bvs vouch))) rfl (fun f W hE hd => ?_) (fun W hE => rfl)
    simp only [DepAs, Region.binds, asAt, As.holds, and_true, forall_const] at hd
    go_simp
  · refine oweD_alloc rfl (.cells (bvs (List.replicate 32 0)) 23) (fun f W hE hd => ⟨by (go_simp; first | exact rfl | exact ⟨rfl, rfl⟩), ?_⟩)
    exact ⟨_, rfl, hE.size, Blk.new _ _ _⟩
  · refine oweD_alloc rfl (.cells (bvs (List.replicate 32 0)) 23) (fun f W hE hd => ⟨by (go_simp; first | exact rfl | exact ⟨rfl, rfl⟩), ?_⟩)
    exact ⟨_, rfl, hE.size, Blk.new _ _ _⟩
  intro f W hE hA hAp
  simp only [AllAs, As.holds, Nat.reduceAdd] at hA
  obtain ⟨-, -, -, -, -, -, hA6, hA7, hA8, hA9, -⟩ := hA
  simp only [List.drop_succ_cons, List.drop_zero]
  obtain ⟨q1, hq1, hl1, hb1⟩ := hA8
  obtain ⟨q2, hq2, hl2, hb2⟩ := hA9
  have hqq : q1 ≠ q2 := hAp.2 8 9 (by decide) (by decide) rfl rfl (by decide) q1 q2 hq1 hq2
  rw [hA6, hA7, hq1, hq2]
  have HJ : Hid (Blk W q1 23 (bvs (List.replicate 32 0)) ∧ Blk W q2 23 (bvs (List.replicate 32 0)) ∧ Below g w W ∧ HB W (.slice (some ⟨b0, o0, none⟩) n c) b ∧ g < q1 ∧ g < q2) := Lib.hid ⟨hb1, hb2, HI0.out.2.1.trans (hE.mono (by have := HI0.out.1.lt; omega)), HI0.out.2.2.keep hE, Nat.lt_of_lt_of_le HI0.out.1.lt hl1, Nat.lt_of_lt_of_le HI0.out.1.lt hl2⟩
  clear HI0 HTW hE hA6 hA7 hq1 hq2 hb1 hb2 hl1 hl2 hAp
  go_wp2_with (first
    | (refine wpList_store_blk rfl 23 (.tmp 10) (.tmp 32) rfl q2 23 _ (bvs vouch) rfl rfl HJ3.out.2.1 (by rw [hvz]; rfl) (by rw [hvz]; kernel_rfl) (bvs_one _) ?_
       intro w4 hb4 hg4 hz4
       have HJ4 : Hid (Blk w4 q1 23 (bvs hide) ∧ Blk w4 q2 23 (bvs vouch) ∧ Below g w w4 ∧ HB w4 (.slice (some ⟨b0, o0, none⟩) n c) b ∧ g < q1 ∧ g < q2) := by
         have hBw : Below g w w4 := HJ3.out.2.2.1.grown hg4 (by have := HJ3.out.1.lt; have := HJ3.out.2.2.2.1; omega) (by intro k hk; injection hk with hk; have := HJ3.out.2.2.2.2; omega)
         exact Lib.hid ⟨HJ3.out.1.grown hg4 (by intro h; injection h with h; exact hqq h), hb4, hBw, HV.out.keep (HG.out ▸ hBw), HJ3.out.2.2.2.1, HJ3.out.2.2.2.2⟩
       clear hb4 hg4 hz4 HJ3)
    | (refine wpList_store_blk rfl 23 (.tmp 9) (.tmp 31) rfl q1 23 _ (bvs hide) rfl rfl HJ.out.1 (by rw [hhz]; rfl) (by rw [hhz]; kernel_rfl) (bvs_one _) ?_
       intro w3 hb3 hg3 hz3
       have HJ3 : Hid (Blk w3 q1 23 (bvs hide) ∧ Blk w3 q2 23 (bvs (List.replicate 32 0)) ∧ Below g w w3 ∧ g < q1 ∧ g < q2) := Lib.hid ⟨hb3, HJ.out.2.1.grown hg3 (by intro h; injection h with h; exact hqq h.symm), HJ.out.2.2.1.grown hg3 (by have := HJ.out.1.lt; have := HJ.out.2.2.2.2.1; omega) (by intro k hk; injection hk with hk; have := HJ.out.2.2.2.2.1; omega), HJ.out.2.2.2.2⟩
       clear hb3 hg3 hz3 HJ))
  refine QN_normal ?_
  go_wp2_with fail
  have HTW : Hid (Tabs w4) := Lib.hid (HT.out.below (HG.out ▸ HJ4.out.2.2.1))
  have HBT : Hid (HB w4 (.slice (some ⟨b0, o0, none⟩) en en) (b.take en)) := Lib.hid (by
    have h := HJ4.out.2.2.2.1.sub 0 en en (Nat.zero_le _) (by omega) (Nat.le_refl _) (by omega)
    rw [if_neg (by omega)] at h
    simpa [Addr.add] using h)
  have HBD : Hid (HB w4 (.slice (some ⟨b0, o0 + en, none⟩) 32 (c - en)) y) := Lib.hid (by
    have h := HJ4.out.2.2.2.1.drop (k := en) (by omega)
    rw [if_neg (by omega)] at h
    simp only [Option.map_some, addi] at h
    rw [show n - en = 32 by omega, ← HYD.out] at h
    exact h)
  refine wp_region_as (ys := [.eq (.agg (bvs vouch)), .eq (.slice (some ⟨b0, o0, none⟩) n c), .eq (.int .i64 (en : Int)), .eq (.int .i64 (en : Int)), .eq (.slice (some ⟨b0, o0, none⟩) en en), .parts [b.take en], .eq (.agg (bvs x)), .eq (.slice (some ⟨b0, o0, none⟩) n c), .eq (.int .i64 (en : Int)), .eq (.slice (some ⟨b0, o0 + en, none⟩) 32 (c - en)), .eq (.pointer (some ⟨b0, o0 + en, none⟩)), .eq (.agg (bvs y)), .eq (.bool (x == y)), .eq (.bool (!(x == y)))]) (by kernel_rfl) (by kernel_rfl) (by kernel_rfl) (by kernel_rfl) rfl _ (fun f => by simp only [framedL, Act.put, List.setIfInBounds_toArray, List.set_cons_zero, List.set_cons_succ, Nat.reduceAdd]; rfl) ⟨?_, ?_, ?_, ?_, ?_, ?_, ?_, ?_, ?_, ?_, ?_, ?_, ?_, ?_, trivial⟩ ?_
  · exact oweAs_load 23 (.tmp 10) rfl (q2) 23 (bvs vouch) (fun _ => rfl) (HJ4.out.2.1) Tryd.underlying23 rfl (by rw [bvs_size, hvl]; kernel_rfl) rfl rfl
  · refine oweAs_pure ((.slice (some ⟨b0, o0, none⟩) n c)) rfl (fun f W hE hd => ?_) (fun W hE => rfl)
    go_simp
  · refine oweAs_pure ((.int .i64 (en : Int))) rfl (fun f W hE hd => ?_) (fun W hE => rfl)
    go_simp
  · refine oweAs_pure ((.int .i64 (en : Int))) rfl (fun f W hE hd => ?_) (fun W hE => rfl)
    go_simp
  · refine oweAs_pure ((.slice (some ⟨b0, o0, none⟩) en en)) rfl (fun f W hE hd => ?_) (fun W hE => rfl)
    simp only [DepAs, Region.binds, asAt, As.holds, and_true, forall_const] at hd
    have hce : ¬ c < en := by omega
    have hce2 : ¬ en = 0 := by omega
    go_simp
  · refine oweAs_made rfl (fun f W hE hd => ?_)
    simp only [DepAs, Region.binds, asAt, As.holds, and_true, forall_const] at hd
    have hP := parts_new1 (w := W) (t := 25) rfl (HBT.out.keep hE)
    refine ⟨_, _, by (go_simp; first | exact rfl | exact ⟨rfl, rfl⟩), ?_, (Below.refl W.heap.size W).alloc (Nat.le_refl _) _⟩
    exact hP
  · refine oweAs_call 18 rfl (fun f W hE hd => ?_)
    simp only [DepAs, Region.binds, asAt, As.holds, and_true, forall_const] at hd
    refine ⟨_, by (go_simp; first | exact rfl | exact ⟨rfl, rfl⟩), ?_⟩
    have hTT := HTW.out.below hE
    refine (macOf_any vouch _ [b.take en] W hvl hTT.1 hTT.2.2.1 (by first | exact hd.2 | exact hd.2.1) (by first | omega | (simp; done) | (simp; omega)) (by first | omega | (simp; done) | (simp; omega))).mono ?_
    rintro e w' ⟨rfl, hb⟩
    exact ⟨_, rfl, by (show (_ : Value) = _; rw [show macF vouch [b.take en].flatten = x from by rw [HX.out]; simp]), hb⟩
  · refine oweAs_pure ((.slice (some ⟨b0, o0, none⟩) n c)) rfl (fun f W hE hd => ?_) (fun W hE => rfl)
    go_simp
  · refine oweAs_pure ((.int .i64 (en : Int))) rfl (fun f W hE hd => ?_) (fun W hE => rfl)
    go_simp
  · refine oweAs_pure ((.slice (some ⟨b0, o0 + en, none⟩) 32 (c - en))) rfl (fun f W hE hd => ?_) (fun W hE => rfl)
    simp only [DepAs, Region.binds, asAt, As.holds, and_true, forall_const] at hd
    have hce : ¬ c = en := by omega
    have h32 : n - en = 32 := by omega
    have hne : ¬ n < en := by omega
    go_simp
  · refine oweAs_pure ((.pointer (some ⟨b0, o0 + en, none⟩))) rfl (fun f W hE hd => ?_) (fun W hE => rfl)
    simp only [DepAs, Region.binds, asAt, As.holds, and_true, forall_const] at hd
    have har := run_arrayAt (P := Tryd.prog) Tryd.underlying34 ⟨b0, o0 + en, none⟩ 32 (c - en) (by omega) W
    go_simp
  · exact oweAs_load_mid 34 (.tmp 43) rfl y rfl rfl Tryd.underlying34 rfl (by rw [hyl]; kernel_rfl) (fun f W hE hd => by (simp only [DepAs, Region.binds, asAt, As.holds, and_true, forall_const] at hd; exact ⟨b0, o0 + en, by go_simp, (HBD.out.keep hE).range⟩))
  · refine oweAs_call 24 rfl (fun f W hE hd => ?_)
    simp only [DepAs, Region.binds, asAt, As.holds, and_true, forall_const] at hd
    refine ⟨_, by (go_simp; first | exact rfl | exact ⟨rfl, rfl⟩), ?_⟩
    refine (same_any x y W hxl hyl).mono ?_
    rintro e w' ⟨rfl, hb⟩
    exact ⟨_, rfl, by (show (_ : Value) = _; rfl), hb⟩
  · refine oweAs_pure ((.bool (!(x == y)))) rfl (fun f W hE hd => ?_) (fun W hE => rfl)
    simp only [DepAs, Region.binds, asAt, As.holds, and_true, forall_const] at hd
    go_simp
  intro f W hE hA
  simp only [AllAs, As.holds, Nat.reduceAdd] at hA
  obtain ⟨-, -, -, -, -, -, -, -, -, -, -, -, -, hA13, -⟩ := hA
  rw [hA13, hxy]
  go_wp2_with fail
  refine bodyPost_ret (results_tmp4 rfl _ _ _) rfl ⟨rfl, ?_⟩
  rw [← HG.out]
  exact HJ4.out.2.2.1.trans (hE.mono (by have := HJ4.out.1.lt; have := HJ4.out.2.2.2.2.1; omega))
end Go.Proofs.YtbicdobnnanlkaaDoor
