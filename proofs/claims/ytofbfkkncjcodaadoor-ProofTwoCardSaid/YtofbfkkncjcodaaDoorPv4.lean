/-
  The walk of the law ProofTwo.
-/
import Derived.Test.YtofbfkkncjcodaaDoorTw1
import Derived.Test.YtofbfkkncjcodaaDoorPv6
namespace Go.Proofs.YtofbfkkncjcodaaDoor
open Go Go.RowKit
set_option linter.unusedSimpArgs false
set_option linter.unusedVariables false

theorem two_some {root : Dig} {n i : Int} {a b : List UInt8} {x y : List Dig} (hx : ∀ d ∈ x, d.length = 32) (hy : ∀ d ∈ y, d.length = 32) (h1 : checkF root n i a x = 0) (h2 : checkF root n i b y = 0) (hne : a ≠ b) :
    ∃ u v, twoF root n i a x b y = some (u, v) ∧ u ≠ v ∧ sha u = sha v ∧ u.length ≤ a.length + 65 ∧ v.length ≤ b.length + 65 := by
  have hr := check_zero' h1
  obtain ⟨N, rfl⟩ : ∃ N : Nat, n = (N : Int) := ⟨n.toNat, by omega⟩
  obtain ⟨I, rfl⟩ : ∃ I : Nat, i = (I : Int) := ⟨i.toNat, by omega⟩
  obtain ⟨⟨⟨u, v⟩, hf⟩, _⟩ := two_find hx hy h1 h2 hne
  have hm := findF_mem hf
  have hs := findF_some hf
  refine ⟨u, v, ?_, hs.1, hs.2, (rowsF_len hx h1).1 u hm.1, (rowsF_len hy h2).1 v hm.2⟩
  unfold twoF
  rw [if_pos ⟨h1, h2, hne⟩, Int.toNat_natCast, Int.toNat_natCast]
  exact hf
theorem two_no {root : Dig} {n i : Int} {a b : List UInt8} {x y : List Dig} (h : ¬ (checkF root n i a x = 0 ∧ checkF root n i b y = 0 ∧ a ≠ b)) : twoF root n i a x b y = none := by
  unfold twoF; rw [if_neg h]

set_option maxRecDepth 100000 in
set_option maxHeartbeats 8000000 in
theorem proofTwo_any (root : Dig) (n i : Int) (va vx vb vy vo : Value) (a b own : List UInt8) (x y : List Dig) (same : Bool) (w : World) (hT : Tab w) (h0 : 0 < w.heap.size) (hr : root.length = 32) (ha : HB w va a) (hx : IdS w vx x) (hb : HB w vb b) (hy : IdS w vy y) (ho : HB w vo own) (hn : n ≤ 9223372036854775807) (hi : i ≤ 9223372036854775807) :
    Calls Tryd.prog 8 #[.agg (bvs root), .int .i64 n, .int .i64 i, va, vx, vb, vy, vo, .bool same] w fun e w' => e = .returned (.bool true) ∧ Below w.heap.size w w' := by
  have HT : Hid (∀ W, Below w.heap.size w W → Tab W ∧ 0 < W.heap.size) := Lib.hid (fun W hb => ⟨hT.below hb h0, by have := hb.size; omega⟩)
  obtain ⟨pa, ca, rfl, hac, ham⟩ := ha.form
  obtain ⟨pb, cb, rfl, hbc, hbm⟩ := hb.form
  obtain ⟨px, cx, rfl, hxc, hxm⟩ := hx.form
  obtain ⟨py, cy, rfl, hyc, hym⟩ := hy.form
  obtain ⟨po, co, rfl, hoc, hom⟩ := ho.form
  unfold maxLen at ham hbm hxm hym hom
  have HA := Lib.hid ha
  have HB_ := Lib.hid hb
  have HX := Lib.hid hx
  have HY := Lib.hid hy
  have HO := Lib.hid ho
  have hrz : (bvs root).size = 32 := by rw [bvs_size]; exact hr
  clear ha hb hx hy ho hT
  obtain ⟨G, hG⟩ : ∃ G, G = w.heap.size := ⟨_, rfl⟩
  have HG := Lib.hid hG
  clear hG
  by_cases h1 : (64 : Int) < (a.length : Int)
  · skip
    go_enter Tryd.func8, Tryd.ntmps8
    go_wp2_with (
      (go_at_call 9
       refine (awake6_any _ (HT.out _ ((Below.refl _ _).alloc (Nat.le_refl _) _)).1 (HT.out _ ((Below.refl _ _).alloc (Nat.le_refl _) _)).2).mono ?_
       rintro e w1 ⟨rfl, hb1⟩
       have HB1 : Hid (Blk w1 w.heap.size 31 (bvs root) ∧ Below w.heap.size w w1) := Lib.hid ⟨(Blk.new w _ _).below hb1 (Blk.new w _ _).lt, ((Below.refl _ _).alloc (Nat.le_refl _) _).trans (hb1.mono (by simp))⟩
       clear hb1))
    go_ret
    exact ⟨rfl, HB1.out.2⟩
  by_cases h2 : (64 : Int) < (b.length : Int)
  · skip
    go_enter Tryd.func8, Tryd.ntmps8
    go_wp2_with (
      (go_at_call 9
       refine (awake6_any _ (HT.out _ ((Below.refl _ _).alloc (Nat.le_refl _) _)).1 (HT.out _ ((Below.refl _ _).alloc (Nat.le_refl _) _)).2).mono ?_
       rintro e w1 ⟨rfl, hb1⟩
       have HB1 : Hid (Blk w1 w.heap.size 31 (bvs root) ∧ Below w.heap.size w w1) := Lib.hid ⟨(Blk.new w _ _).below hb1 (Blk.new w _ _).lt, ((Below.refl _ _).alloc (Nat.le_refl _) _).trans (hb1.mono (by simp))⟩
       clear hb1))
    go_ret
    exact ⟨rfl, HB1.out.2⟩
  by_cases h3 : (70 : Int) < (x.length : Int)
  · skip
    go_enter Tryd.func8, Tryd.ntmps8
    go_wp2_with (
      (go_at_call 9
       refine (awake6_any _ (HT.out _ ((Below.refl _ _).alloc (Nat.le_refl _) _)).1 (HT.out _ ((Below.refl _ _).alloc (Nat.le_refl _) _)).2).mono ?_
       rintro e w1 ⟨rfl, hb1⟩
       have HB1 : Hid (Blk w1 w.heap.size 31 (bvs root) ∧ Below w.heap.size w w1) := Lib.hid ⟨(Blk.new w _ _).below hb1 (Blk.new w _ _).lt, ((Below.refl _ _).alloc (Nat.le_refl _) _).trans (hb1.mono (by simp))⟩
       clear hb1))
    go_ret
    exact ⟨rfl, HB1.out.2⟩
  by_cases h4 : (70 : Int) < (y.length : Int)
  · skip
    go_enter Tryd.func8, Tryd.ntmps8
    go_wp2_with (
      (go_at_call 9
       refine (awake6_any _ (HT.out _ ((Below.refl _ _).alloc (Nat.le_refl _) _)).1 (HT.out _ ((Below.refl _ _).alloc (Nat.le_refl _) _)).2).mono ?_
       rintro e w1 ⟨rfl, hb1⟩
       have HB1 : Hid (Blk w1 w.heap.size 31 (bvs root) ∧ Below w.heap.size w w1) := Lib.hid ⟨(Blk.new w _ _).below hb1 (Blk.new w _ _).lt, ((Below.refl _ _).alloc (Nat.le_refl _) _).trans (hb1.mono (by simp))⟩
       clear hb1))
    go_ret
    exact ⟨rfl, HB1.out.2⟩
  by_cases h5 : (600 : Int) < (own.length : Int)
  · skip
    go_enter Tryd.func8, Tryd.ntmps8
    go_wp2_with (
      (go_at_call 9
       refine (awake6_any _ (HT.out _ ((Below.refl _ _).alloc (Nat.le_refl _) _)).1 (HT.out _ ((Below.refl _ _).alloc (Nat.le_refl _) _)).2).mono ?_
       rintro e w1 ⟨rfl, hb1⟩
       have HB1 : Hid (Blk w1 w.heap.size 31 (bvs root) ∧ Below w.heap.size w w1) := Lib.hid ⟨(Blk.new w _ _).below hb1 (Blk.new w _ _).lt, ((Below.refl _ _).alloc (Nat.le_refl _) _).trans (hb1.mono (by simp))⟩
       clear hb1))
    go_ret
    exact ⟨rfl, HB1.out.2⟩
  have ha64 : a.length ≤ 64 := by omega
  have hb64 : b.length ≤ 64 := by omega
  have hx70 : x.length ≤ 70 := by omega
  have hy70 : y.length ≤ 70 := by omega
  by_cases h6 : (0 : Int) < (own.length : Int)
  · skip
    go_enter Tryd.func8, Tryd.ntmps8
    go_wp2_with (
      (go_at_call 9
       refine (awake6_any _ (HT.out _ ((Below.refl _ _).alloc (Nat.le_refl _) _)).1 (HT.out _ ((Below.refl _ _).alloc (Nat.le_refl _) _)).2).mono ?_
       rintro e w1 ⟨rfl, hb1⟩
       have HB1 : Hid (Blk w1 w.heap.size 31 (bvs root) ∧ Below w.heap.size w w1) := Lib.hid ⟨(Blk.new w _ _).below hb1 (Blk.new w _ _).lt, ((Below.refl _ _).alloc (Nat.le_refl _) _).trans (hb1.mono (by simp))⟩
       clear hb1))
    clear h6
    obtain ⟨r, hr0⟩ : ∃ r, r = rootF own := ⟨_, rfl⟩
    have hrl : r.length = 32 := by rw [hr0]; exact rootF_length _
    have hrrz : (bvs r).size = 32 := by rw [bvs_size]; exact hrl
    have HRR := Lib.hid hr0
    obtain ⟨N, hN⟩ : ∃ N, N = nlF own.length := ⟨_, rfl⟩
    have hN10 : N ≤ 10 := by rw [hN]; unfold nlF; omega
    have hNb : (N : Int) ≤ 9223372036854775807 := by omega
    have HNZ := Lib.hid hN
    clear hr0 hN
    refine (root_any _ own w1 (HT.out _ HB1.out.2).1 (HT.out _ HB1.out.2).2 (HO.out.keep HB1.out.2) (by omega)).mono ?_
    rintro e w2 ⟨rfl, hb2⟩
    rw [← HRR.out]
    have HB2 : Hid (Blk w2 w.heap.size 31 (bvs root) ∧ Below w.heap.size w w2) := Lib.hid ⟨HB1.out.1.below hb2 HB1.out.1.lt, HB1.out.2.trans (hb2.mono HB1.out.2.size)⟩
    clear hb2 HB1
    go_wp2_with (
      (refine wpList_store_blk rfl 31 (.tmp 9) (.tmp 57) rfl w.heap.size 31 (bvs root) (bvs r) rfl rfl HB2.out.1 (by rw [hrrz, hrz]) (by rw [hrrz]; kernel_rfl) (bvs_one _) ?_
       intro w3 hb3 hg3 hz3
       have HB3 : Hid (Blk w3 w.heap.size 31 (bvs r) ∧ Below w.heap.size w w3) := Lib.hid ⟨hb3, HB2.out.2.grown hg3 HB2.out.2.size (by intro k hk; injection hk with hk; omega)⟩
       clear hb3 hg3 hz3 HB2))
    refine (leaves_any _ own w3 (HO.out.keep HB3.out.2) (by omega)).mono ?_
    rintro e w3' ⟨rfl, rfl⟩
    rw [← HNZ.out]
    go_wp2_with fail
    refine (prove_any _ own i w3 (HT.out _ HB3.out.2).1 (HT.out _ HB3.out.2).2 (HO.out.keep HB3.out.2) (by omega)).mono ?_
    rintro e w4 ⟨v1, v2, rfl, hl4, hr4, hb4⟩
    have HB4 : Hid (Blk w4 w.heap.size 31 (bvs r) ∧ Below w.heap.size w w4) := Lib.hid ⟨HB3.out.1.below hb4 HB3.out.1.lt, HB3.out.2.trans (hb4.mono HB3.out.2.size)⟩
    clear hb4 HB3
    by_cases hbad : i < 0 ∨ (N : Int) ≤ i
    · have HP : Hid (proveF own i = ([], [], 14)) := Lib.hid (by unfold proveF; rw [if_pos (by rw [← HNZ.out]; exact hbad)])
      rw [HP.out]
      clear hbad hl4 hr4 HP
      go_upto_region 16 with (fail)
      have HS1 : Hid (Blk w4 w.heap.size 31 (bvs r) ∧ Below w.heap.size w w4 ∧ HB w4 (.slice pa a.length ca) a ∧ IdS w4 (.slice px x.length cx) x ∧ HB w4 (.slice pb b.length cb) b ∧ IdS w4 (.slice py y.length cy) y) := Lib.hid ⟨HB4.out.1, HB4.out.2, HA.out.keep HB4.out.2, HX.out.keep HB4.out.2, HB_.out.keep HB4.out.2, HY.out.keep HB4.out.2⟩
      clear HB4
      go_wp2_with (refine wpList_load_blk rfl 31 (.tmp 9) rfl w.heap.size 31 (bvs r) rfl HS1.out.1 Tryd.underlying31 rfl (by rw [hrrz]; kernel_rfl) ?_)
      refine (two_any' r (N : Int) i _ _ _ _ a b x y w4 (HT.out _ HS1.out.2.1).1 (HT.out _ HS1.out.2.1).2 hrl HS1.out.2.2.1 HS1.out.2.2.2.1 HS1.out.2.2.2.2.1 HS1.out.2.2.2.2.2 hNb hi (by omega) (by omega) (by omega) (by omega)).mono ?_
      rintro e w7 ⟨v7, u7, rfl, h7a, h7b, hb7⟩
      have HS7 : Hid (Blk w7 w.heap.size 31 (bvs r) ∧ Below w.heap.size w w7 ∧ HB w7 (.slice pa a.length ca) a ∧ IdS w7 (.slice px x.length cx) x ∧ HB w7 (.slice pb b.length cb) b ∧ IdS w7 (.slice py y.length cy) y) := Lib.hid ⟨HS1.out.1.below hb7 HS1.out.1.lt, HS1.out.2.1.trans (hb7.mono HS1.out.2.1.size), HS1.out.2.2.1.keep hb7, HS1.out.2.2.2.1.keep hb7, HS1.out.2.2.2.2.1.keep hb7, HS1.out.2.2.2.2.2.keep hb7⟩
      obtain ⟨t, ht⟩ : ∃ t, t = twoF r (N : Int) i a x b y := ⟨_, rfl⟩
      rw [← ht] at h7a h7b ⊢
      obtain ⟨k1, hk1⟩ : ∃ c, c = checkF r (N : Int) i a x := ⟨_, rfl⟩
      obtain ⟨k2, hk2⟩ : ∃ c, c = checkF r (N : Int) i b y := ⟨_, rfl⟩
      have HTW := Lib.hid ht
      have HK1 := Lib.hid hk1
      have HK2 := Lib.hid hk2
      clear ht hk1 hk2 hb7 HS1
      have hcva := HS7.out.2.2.1.str Tryd.underlying22 Tryd.underlying5 Tryd.underlying9
      have hcvb := HS7.out.2.2.2.2.1.str Tryd.underlying22 Tryd.underlying5 Tryd.underlying9
      by_cases hab : a = b
      · have HN0 : Hid (twoF r (N : Int) i a x b y = none) := Lib.hid (two_no (fun h => h.2.2 hab))
        have HN : Hid (t = none) := Lib.hid (HTW.out.trans HN0.out)
        rw [HN.out] at h7a h7b ⊢
        obtain ⟨p7, c7, rfl, -, -⟩ := (show HB w7 v7 [] from h7a).form
        obtain ⟨p8, c8, rfl, -, -⟩ := (show HB w7 u7 [] from h7b).form
        simp only [List.length_nil]
        clear h7a h7b HN HN0 HTW
        have hbeq : ((bs a).toList == (bs b).toList) = true := by rw [hab]; exact beq_self_eq_true _
        clear hab
        go_wp2_with fail
        go_ret
        exact ⟨rfl, HS7.out.2.1⟩
      · have hne : ((bs a).toList == (bs b).toList) = false := beq_eq_false_iff_ne.2 (bs_ne hab)
        have HAB := Lib.hid hab
        clear hab
        by_cases e1 : k1 = 0
        · by_cases e2 : k2 = 0
          · obtain ⟨u, z, htt, huz, hsz, hul, hzl⟩ := two_some HS7.out.2.2.2.1.dig HS7.out.2.2.2.2.2.dig (HK1.out.symm.trans e1) (HK2.out.symm.trans e2) HAB.out
            have HN : Hid (t = some (u, z)) := Lib.hid (HTW.out.trans htt)
            rw [HN.out] at h7a h7b ⊢
            obtain ⟨p7, c7, rfl, -, -⟩ := (show HB w7 v7 u from h7a).form
            obtain ⟨p8, c8, rfl, -, -⟩ := (show HB w7 u7 z from h7b).form
            have HUZ := Lib.hid (And.intro (show HB w7 (.slice p7 u.length c7) u from h7a) (show HB w7 (.slice p8 z.length c8) z from h7b))
            have hnuz := bs_ne huz
            have HNUZ := Lib.hid hnuz
            have HSH := Lib.hid hsz
            subst e1
            subst e2
            clear h7a h7b HN htt huz hsz hnuz HTW
            simp only [Option.isSome_some]
            go_wp2_with (refine wpList_load_blk_g rfl 31 (.tmp 9) rfl w.heap.size 31 (bvs r) rfl HS7.out.1 Tryd.underlying31 rfl (by rw [hrrz]; kernel_rfl) ?_)
            refine (refCheck_any r (N : Int) i _ a x w7 hrl HS7.out.2.2.2.1 hNb hi (by omega) (by omega)).mono ?_
            rintro e w8 ⟨rfl, hbw8⟩
            rw [← HK1.out]
            have HS8 : Hid (Blk w8 w.heap.size 31 (bvs r) ∧ Below w.heap.size w w8 ∧ HB w8 (.slice pa a.length ca) a ∧ IdS w8 (.slice px x.length cx) x ∧ HB w8 (.slice pb b.length cb) b ∧ IdS w8 (.slice py y.length cy) y) := Lib.hid ⟨HS7.out.1.below hbw8 HS7.out.1.lt, HS7.out.2.1.trans (hbw8.mono HS7.out.2.1.size), HS7.out.2.2.1.keep hbw8, HS7.out.2.2.2.1.keep hbw8, HS7.out.2.2.2.2.1.keep hbw8, HS7.out.2.2.2.2.2.keep hbw8⟩
            have hcvb8 := HS8.out.2.2.2.2.1.str Tryd.underlying22 Tryd.underlying5 Tryd.underlying9
            have HUZ8 := Lib.hid (And.intro (HUZ.out.1.keep hbw8) (HUZ.out.2.keep hbw8))
            clear hbw8 HS7 hcva hcvb HUZ
            go_wp2_with (refine wpList_load_blk_g rfl 31 (.tmp 9) rfl w.heap.size 31 (bvs r) rfl HS8.out.1 Tryd.underlying31 rfl (by rw [hrrz]; kernel_rfl) ?_)
            refine (refCheck_any r (N : Int) i _ b y w8 hrl HS8.out.2.2.2.2.2 hNb hi (by omega) (by omega)).mono ?_
            rintro e w9 ⟨rfl, hbw9⟩
            rw [← HK2.out]
            have HS9 : Hid (Blk w9 w.heap.size 31 (bvs r) ∧ Below w.heap.size w w9 ∧ HB w9 (.slice pa a.length ca) a ∧ IdS w9 (.slice px x.length cx) x ∧ HB w9 (.slice pb b.length cb) b ∧ IdS w9 (.slice py y.length cy) y) := Lib.hid ⟨HS8.out.1.below hbw9 HS8.out.1.lt, HS8.out.2.1.trans (hbw9.mono HS8.out.2.1.size), HS8.out.2.2.1.keep hbw9, HS8.out.2.2.2.1.keep hbw9, HS8.out.2.2.2.2.1.keep hbw9, HS8.out.2.2.2.2.2.keep hbw9⟩
            have HU := Lib.hid (HUZ8.out.1.keep hbw9)
            have HZ := Lib.hid (HUZ8.out.2.keep hbw9)
            clear hbw9 HS8 hcvb8 HUZ8
            go_wp2_with fail
            go_upto_region 20 with (fail)
            refine wp_region_as (ys := [.eq (.bool true), .eq (.bool true), .eq (.slice p7 u.length c7), .eq (.string (bs u)), .eq (.slice p8 z.length c8), .eq (.string (bs z)), .eq (.bool true), .eq (.bool true), .eq (.bool true), .eq (.slice p7 u.length c7), .eq (.string (bs u)), .eq (.agg (bvs (sha u))), .eq (.slice p8 z.length c8), .eq (.string (bs z)), .eq (.agg (bvs (sha u))), .eq (.bool true), .eq (.bool true), .eq (.bool true)]) (by kernel_rfl) (by kernel_rfl) (by kernel_rfl) (by kernel_rfl) rfl _ (fun f => by simp only [framedL, Act.put, List.setIfInBounds_toArray, List.set_cons_zero, List.set_cons_succ, Nat.reduceAdd]; rfl) ⟨?_, ?_, ?_, ?_, ?_, ?_, ?_, ?_, ?_, ?_, ?_, ?_, ?_, ?_, ?_, ?_, ?_, ?_, trivial⟩ ?_
            · refine oweAs_pure ((.bool true)) rfl (fun f W hE hd => ?_) (fun W hE => rfl)
              go_simp
            · refine oweAs_pure ((.bool true)) rfl (fun f W hE hd => ?_) (fun W hE => rfl)
              simp only [DepAs, Region.binds, asAt, As.holds, and_true, forall_const] at hd
              go_simp
            · refine oweAs_pure ((.slice p7 u.length c7)) rfl (fun f W hE hd => ?_) (fun W hE => rfl)
              go_simp
            · refine oweAs_pure ((.string (bs u))) rfl (fun f W hE hd => ?_) (fun W hE => rfl)
              simp only [DepAs, Region.binds, asAt, As.holds, and_true, forall_const] at hd
              have hcv := (HU.out.keep hE).str Tryd.underlying22 Tryd.underlying5 Tryd.underlying9
              go_simp
            · refine oweAs_pure ((.slice p8 z.length c8)) rfl (fun f W hE hd => ?_) (fun W hE => rfl)
              go_simp
            · refine oweAs_pure ((.string (bs z))) rfl (fun f W hE hd => ?_) (fun W hE => rfl)
              simp only [DepAs, Region.binds, asAt, As.holds, and_true, forall_const] at hd
              have hcv := (HZ.out.keep hE).str Tryd.underlying22 Tryd.underlying5 Tryd.underlying9
              go_simp
            · refine oweAs_pure ((.bool true)) rfl (fun f W hE hd => ?_) (fun W hE => rfl)
              simp only [DepAs, Region.binds, asAt, As.holds, and_true, forall_const] at hd
              have h9 := HNUZ.out
              go_simp
            · refine oweAs_pure ((.bool true)) rfl (fun f W hE hd => ?_) (fun W hE => rfl)
              simp only [DepAs, Region.binds, asAt, As.holds, and_true, forall_const] at hd
              go_simp
            · refine oweAs_pure ((.bool true)) rfl (fun f W hE hd => ?_) (fun W hE => rfl)
              simp only [DepAs, Region.binds, asAt, As.holds, and_true, forall_const] at hd
              go_simp
            · refine oweAs_pure ((.slice p7 u.length c7)) rfl (fun f W hE hd => ?_) (fun W hE => rfl)
              go_simp
            · refine oweAs_pure ((.string (bs u))) rfl (fun f W hE hd => ?_) (fun W hE => rfl)
              simp only [DepAs, Region.binds, asAt, As.holds, and_true, forall_const] at hd
              have hcv := (HU.out.keep hE).str Tryd.underlying22 Tryd.underlying5 Tryd.underlying9
              go_simp
            · refine oweAs_call 20 rfl (fun f W hE hd => ?_)
              simp only [DepAs, Region.binds, asAt, As.holds, and_true, forall_const] at hd
              refine ⟨_, by (go_simp; first | exact rfl | exact ⟨rfl, rfl⟩), ?_⟩
              refine (ref_any _ W (by rw [bs_size]; omega)).mono ?_
              rintro e w' ⟨rfl, hb⟩
              exact ⟨_, rfl, by (show (_ : Value) = _; rw [sb_bs]), hb⟩
            · refine oweAs_pure ((.slice p8 z.length c8)) rfl (fun f W hE hd => ?_) (fun W hE => rfl)
              go_simp
            · refine oweAs_pure ((.string (bs z))) rfl (fun f W hE hd => ?_) (fun W hE => rfl)
              simp only [DepAs, Region.binds, asAt, As.holds, and_true, forall_const] at hd
              have hcv := (HZ.out.keep hE).str Tryd.underlying22 Tryd.underlying5 Tryd.underlying9
              go_simp
            · refine oweAs_call 20 rfl (fun f W hE hd => ?_)
              simp only [DepAs, Region.binds, asAt, As.holds, and_true, forall_const] at hd
              refine ⟨_, by (go_simp; first | exact rfl | exact ⟨rfl, rfl⟩), ?_⟩
              refine (ref_any _ W (by rw [bs_size]; omega)).mono ?_
              rintro e w' ⟨rfl, hb⟩
              exact ⟨_, rfl, by (show (_ : Value) = _; rw [sb_bs]; rw [← HSH.out]), hb⟩
            · refine oweAs_pure ((.bool true)) rfl (fun f W hE hd => ?_) (fun W hE => rfl)
              simp only [DepAs, Region.binds, asAt, As.holds, and_true, forall_const] at hd
              have l1 := sha_length u
              go_simp
            · refine oweAs_pure ((.bool true)) rfl (fun f W hE hd => ?_) (fun W hE => rfl)
              simp only [DepAs, Region.binds, asAt, As.holds, and_true, forall_const] at hd
              go_simp
            · refine oweAs_pure ((.bool true)) rfl (fun f W hE hd => ?_) (fun W hE => rfl)
              simp only [DepAs, Region.binds, asAt, As.holds, and_true, forall_const] at hd
              go_simp
            intro f W hE hA
            simp only [AllAs, As.holds, Nat.reduceAdd] at hA
            obtain ⟨-, -, -, -, -, -, -, -, -, -, -, -, -, -, -, -, -, hA17, -⟩ := hA
            go_wp2_with fail
            go_ret
            exact ⟨congrArg Ending.returned hA17, HS9.out.2.1.trans (hE.mono HS9.out.2.1.size)⟩
          · have e2i : ¬ (k2 : Int) = 0 := by omega
            have e2b : ((k2 : Int) == 0) = false := beq_eq_false_iff_ne.2 e2i
            have HN : Hid (t = none) := Lib.hid (by rw [HTW.out]; exact two_no (fun h => e2 (HK2.out.trans h.2.1)))
            rw [HN.out] at h7a h7b ⊢
            obtain ⟨p7, c7, rfl, -, -⟩ := (show HB w7 v7 [] from h7a).form
            obtain ⟨p8, c8, rfl, -, -⟩ := (show HB w7 u7 [] from h7b).form
            simp only [List.length_nil]
            clear h7a h7b HN
            subst e1
            go_wp2_with (refine wpList_load_blk_g rfl 31 (.tmp 9) rfl w.heap.size 31 (bvs r) rfl HS7.out.1 Tryd.underlying31 rfl (by rw [hrrz]; kernel_rfl) ?_)
            refine (refCheck_any r (N : Int) i _ a x w7 hrl HS7.out.2.2.2.1 hNb hi (by omega) (by omega)).mono ?_
            rintro e w8 ⟨rfl, hbw8⟩
            rw [← HK1.out]
            have HS8 : Hid (Blk w8 w.heap.size 31 (bvs r) ∧ Below w.heap.size w w8 ∧ HB w8 (.slice pa a.length ca) a ∧ IdS w8 (.slice px x.length cx) x ∧ HB w8 (.slice pb b.length cb) b ∧ IdS w8 (.slice py y.length cy) y) := Lib.hid ⟨HS7.out.1.below hbw8 HS7.out.1.lt, HS7.out.2.1.trans (hbw8.mono HS7.out.2.1.size), HS7.out.2.2.1.keep hbw8, HS7.out.2.2.2.1.keep hbw8, HS7.out.2.2.2.2.1.keep hbw8, HS7.out.2.2.2.2.2.keep hbw8⟩
            have hcvb8 := HS8.out.2.2.2.2.1.str Tryd.underlying22 Tryd.underlying5 Tryd.underlying9
            clear hbw8 HS7 hcva hcvb
            go_wp2_with (refine wpList_load_blk_g rfl 31 (.tmp 9) rfl w.heap.size 31 (bvs r) rfl HS8.out.1 Tryd.underlying31 rfl (by rw [hrrz]; kernel_rfl) ?_)
            refine (refCheck_any r (N : Int) i _ b y w8 hrl HS8.out.2.2.2.2.2 hNb hi (by omega) (by omega)).mono ?_
            rintro e w9 ⟨rfl, hbw9⟩
            rw [← HK2.out]
            have HS9 : Hid (Blk w9 w.heap.size 31 (bvs r) ∧ Below w.heap.size w w9 ∧ HB w9 (.slice pa a.length ca) a ∧ IdS w9 (.slice px x.length cx) x ∧ HB w9 (.slice pb b.length cb) b ∧ IdS w9 (.slice py y.length cy) y) := Lib.hid ⟨HS8.out.1.below hbw9 HS8.out.1.lt, HS8.out.2.1.trans (hbw9.mono HS8.out.2.1.size), HS8.out.2.2.1.keep hbw9, HS8.out.2.2.2.1.keep hbw9, HS8.out.2.2.2.2.1.keep hbw9, HS8.out.2.2.2.2.2.keep hbw9⟩
            clear hbw9 HS8 hcvb8
            go_wp2_with fail
            go_ret
            exact ⟨rfl, HS9.out.2.1⟩
        · have e1i : ¬ (k1 : Int) = 0 := by omega
          have e1b : ((k1 : Int) == 0) = false := beq_eq_false_iff_ne.2 e1i
          have HN : Hid (t = none) := Lib.hid (by rw [HTW.out]; exact two_no (fun h => e1 (HK1.out.trans h.1)))
          rw [HN.out] at h7a h7b ⊢
          obtain ⟨p7, c7, rfl, -, -⟩ := (show HB w7 v7 [] from h7a).form
          obtain ⟨p8, c8, rfl, -, -⟩ := (show HB w7 u7 [] from h7b).form
          simp only [List.length_nil]
          clear h7a h7b HN
          go_wp2_with (refine wpList_load_blk_g rfl 31 (.tmp 9) rfl w.heap.size 31 (bvs r) rfl HS7.out.1 Tryd.underlying31 rfl (by rw [hrrz]; kernel_rfl) ?_)
          refine (refCheck_any r (N : Int) i _ a x w7 hrl HS7.out.2.2.2.1 hNb hi (by omega) (by omega)).mono ?_
          rintro e w8 ⟨rfl, hbw8⟩
          rw [← HK1.out]
          have HS8 : Hid (Blk w8 w.heap.size 31 (bvs r) ∧ Below w.heap.size w w8 ∧ HB w8 (.slice pa a.length ca) a ∧ IdS w8 (.slice px x.length cx) x ∧ HB w8 (.slice pb b.length cb) b ∧ IdS w8 (.slice py y.length cy) y) := Lib.hid ⟨HS7.out.1.below hbw8 HS7.out.1.lt, HS7.out.2.1.trans (hbw8.mono HS7.out.2.1.size), HS7.out.2.2.1.keep hbw8, HS7.out.2.2.2.1.keep hbw8, HS7.out.2.2.2.2.1.keep hbw8, HS7.out.2.2.2.2.2.keep hbw8⟩
          clear hbw8 HS7 hcva hcvb
          go_wp2_with fail
          go_ret
          exact ⟨rfl, HS8.out.2.1⟩
    · obtain ⟨I, rfl⟩ : ∃ I : Nat, i = (I : Int) := ⟨i.toNat, by omega⟩
      have hIN : I < N := by omega
      obtain ⟨lf, hlf⟩ : ∃ z, z = leafF own I := ⟨_, rfl⟩
      obtain ⟨wy, hwy⟩ : ∃ z, z = wayF (rowF own) I := ⟨_, rfl⟩
      have HP : Hid (proveF own (I : Int) = (lf, wy, 0)) := Lib.hid (by rw [prove_in (by rw [← HNZ.out]; exact hIN), hlf, hwy])
      have hlf64 : lf.length ≤ 64 := by rw [hlf]; exact leafF_length _ _
      have hwy70 : wy.length ≤ 10 := by rw [hwy]; exact way_le (by omega) (by omega)
      rw [HP.out] at hl4 hr4 ⊢
      obtain ⟨p1, c1, rfl, -, -⟩ := hl4.form
      obtain ⟨A2, c2, rfl⟩ := hr4.form
      have HLW : Hid (HB w4 (.slice p1 lf.length c1) lf ∧ IdS w4 (.slice A2 wy.length c2) wy) := Lib.hid ⟨hl4, hr4.ids⟩
      clear hbad hl4 hr4 hlf hwy HP
      cases same with
      | true =>
        go_upto_region 16 with (fail)
        have HS1 : Hid (Blk w4 w.heap.size 31 (bvs r) ∧ Below w.heap.size w w4 ∧ HB w4 (.slice p1 lf.length c1) lf ∧ IdS w4 (.slice A2 wy.length c2) wy ∧ HB w4 (.slice p1 lf.length c1) lf ∧ IdS w4 (.slice A2 wy.length c2) wy) := Lib.hid ⟨HB4.out.1, HB4.out.2, HLW.out.1, HLW.out.2, HLW.out.1, HLW.out.2⟩
        clear HB4
        go_wp2_with (refine wpList_load_blk rfl 31 (.tmp 9) rfl w.heap.size 31 (bvs r) rfl HS1.out.1 Tryd.underlying31 rfl (by rw [hrrz]; kernel_rfl) ?_)
        refine (two_any' r (N : Int) (I : Int) _ _ _ _ lf lf wy wy w4 (HT.out _ HS1.out.2.1).1 (HT.out _ HS1.out.2.1).2 hrl HS1.out.2.2.1 HS1.out.2.2.2.1 HS1.out.2.2.2.2.1 HS1.out.2.2.2.2.2 hNb hi (by omega) (by omega) (by omega) (by omega)).mono ?_
        rintro e w7 ⟨v7, u7, rfl, h7a, h7b, hb7⟩
        have HS7 : Hid (Blk w7 w.heap.size 31 (bvs r) ∧ Below w.heap.size w w7 ∧ HB w7 (.slice p1 lf.length c1) lf ∧ IdS w7 (.slice A2 wy.length c2) wy ∧ HB w7 (.slice p1 lf.length c1) lf ∧ IdS w7 (.slice A2 wy.length c2) wy) := Lib.hid ⟨HS1.out.1.below hb7 HS1.out.1.lt, HS1.out.2.1.trans (hb7.mono HS1.out.2.1.size), HS1.out.2.2.1.keep hb7, HS1.out.2.2.2.1.keep hb7, HS1.out.2.2.2.2.1.keep hb7, HS1.out.2.2.2.2.2.keep hb7⟩
        obtain ⟨t, ht⟩ : ∃ t, t = twoF r (N : Int) (I : Int) lf wy lf wy := ⟨_, rfl⟩
        rw [← ht] at h7a h7b ⊢
        obtain ⟨k1, hk1⟩ : ∃ c, c = checkF r (N : Int) (I : Int) lf wy := ⟨_, rfl⟩
        obtain ⟨k2, hk2⟩ : ∃ c, c = checkF r (N : Int) (I : Int) lf wy := ⟨_, rfl⟩
        have HTW := Lib.hid ht
        have HK1 := Lib.hid hk1
        have HK2 := Lib.hid hk2
        clear ht hk1 hk2 hb7 HS1
        have hcva := HS7.out.2.2.1.str Tryd.underlying22 Tryd.underlying5 Tryd.underlying9
        have HN : Hid (t = none) := Lib.hid (by rw [HTW.out]; exact two_no (fun h => h.2.2 rfl))
        rw [HN.out] at h7a h7b ⊢
        obtain ⟨p7, c7, rfl, -, -⟩ := (show HB w7 v7 [] from h7a).form
        obtain ⟨p8, c8, rfl, -, -⟩ := (show HB w7 u7 [] from h7b).form
        simp only [List.length_nil]
        clear h7a h7b HN
        go_wp2_with fail
        go_ret
        exact ⟨rfl, HS7.out.2.1⟩
      | false =>
        go_upto_region 16 with (fail)
        have HS1 : Hid (Blk w4 w.heap.size 31 (bvs r) ∧ Below w.heap.size w w4 ∧ HB w4 (.slice p1 lf.length c1) lf ∧ IdS w4 (.slice A2 wy.length c2) wy ∧ HB w4 (.slice pb b.length cb) b ∧ IdS w4 (.slice py y.length cy) y) := Lib.hid ⟨HB4.out.1, HB4.out.2, HLW.out.1, HLW.out.2, HB_.out.keep HB4.out.2, HY.out.keep HB4.out.2⟩
        clear HB4
        go_wp2_with (refine wpList_load_blk rfl 31 (.tmp 9) rfl w.heap.size 31 (bvs r) rfl HS1.out.1 Tryd.underlying31 rfl (by rw [hrrz]; kernel_rfl) ?_)
        refine (two_any' r (N : Int) (I : Int) _ _ _ _ lf b wy y w4 (HT.out _ HS1.out.2.1).1 (HT.out _ HS1.out.2.1).2 hrl HS1.out.2.2.1 HS1.out.2.2.2.1 HS1.out.2.2.2.2.1 HS1.out.2.2.2.2.2 hNb hi (by omega) (by omega) (by omega) (by omega)).mono ?_
        rintro e w7 ⟨v7, u7, rfl, h7a, h7b, hb7⟩
        have HS7 : Hid (Blk w7 w.heap.size 31 (bvs r) ∧ Below w.heap.size w w7 ∧ HB w7 (.slice p1 lf.length c1) lf ∧ IdS w7 (.slice A2 wy.length c2) wy ∧ HB w7 (.slice pb b.length cb) b ∧ IdS w7 (.slice py y.length cy) y) := Lib.hid ⟨HS1.out.1.below hb7 HS1.out.1.lt, HS1.out.2.1.trans (hb7.mono HS1.out.2.1.size), HS1.out.2.2.1.keep hb7, HS1.out.2.2.2.1.keep hb7, HS1.out.2.2.2.2.1.keep hb7, HS1.out.2.2.2.2.2.keep hb7⟩
        obtain ⟨t, ht⟩ : ∃ t, t = twoF r (N : Int) (I : Int) lf wy b y := ⟨_, rfl⟩
        rw [← ht] at h7a h7b ⊢
        obtain ⟨k1, hk1⟩ : ∃ c, c = checkF r (N : Int) (I : Int) lf wy := ⟨_, rfl⟩
        obtain ⟨k2, hk2⟩ : ∃ c, c = checkF r (N : Int) (I : Int) b y := ⟨_, rfl⟩
        have HTW := Lib.hid ht
        have HK1 := Lib.hid hk1
        have HK2 := Lib.hid hk2
        clear ht hk1 hk2 hb7 HS1
        have hcva := HS7.out.2.2.1.str Tryd.underlying22 Tryd.underlying5 Tryd.underlying9
        have hcvb := HS7.out.2.2.2.2.1.str Tryd.underlying22 Tryd.underlying5 Tryd.underlying9
        by_cases hab : lf = b
        · have HN0 : Hid (twoF r (N : Int) (I : Int) lf wy b y = none) := Lib.hid (two_no (fun h => h.2.2 hab))
          have HN : Hid (t = none) := Lib.hid (HTW.out.trans HN0.out)
          rw [HN.out] at h7a h7b ⊢
          obtain ⟨p7, c7, rfl, -, -⟩ := (show HB w7 v7 [] from h7a).form
          obtain ⟨p8, c8, rfl, -, -⟩ := (show HB w7 u7 [] from h7b).form
          simp only [List.length_nil]
          clear h7a h7b HN HN0 HTW
          have hbeq : ((bs lf).toList == (bs b).toList) = true := by rw [hab]; exact beq_self_eq_true _
          clear hab
          go_wp2_with fail
          go_ret
          exact ⟨rfl, HS7.out.2.1⟩
        · have hne : ((bs lf).toList == (bs b).toList) = false := beq_eq_false_iff_ne.2 (bs_ne hab)
          have HAB := Lib.hid hab
          clear hab
          by_cases e1 : k1 = 0
          · by_cases e2 : k2 = 0
            · obtain ⟨u, z, htt, huz, hsz, hul, hzl⟩ := two_some HS7.out.2.2.2.1.dig HS7.out.2.2.2.2.2.dig (HK1.out.symm.trans e1) (HK2.out.symm.trans e2) HAB.out
              have HN : Hid (t = some (u, z)) := Lib.hid (HTW.out.trans htt)
              rw [HN.out] at h7a h7b ⊢
              obtain ⟨p7, c7, rfl, -, -⟩ := (show HB w7 v7 u from h7a).form
              obtain ⟨p8, c8, rfl, -, -⟩ := (show HB w7 u7 z from h7b).form
              have HUZ := Lib.hid (And.intro (show HB w7 (.slice p7 u.length c7) u from h7a) (show HB w7 (.slice p8 z.length c8) z from h7b))
              have hnuz := bs_ne huz
              have HNUZ := Lib.hid hnuz
              have HSH := Lib.hid hsz
              subst e1
              subst e2
              clear h7a h7b HN htt huz hsz hnuz HTW
              simp only [Option.isSome_some]
              go_wp2_with (refine wpList_load_blk_g rfl 31 (.tmp 9) rfl w.heap.size 31 (bvs r) rfl HS7.out.1 Tryd.underlying31 rfl (by rw [hrrz]; kernel_rfl) ?_)
              refine (refCheck_any r (N : Int) (I : Int) _ lf wy w7 hrl HS7.out.2.2.2.1 hNb hi (by omega) (by omega)).mono ?_
              rintro e w8 ⟨rfl, hbw8⟩
              rw [← HK1.out]
              have HS8 : Hid (Blk w8 w.heap.size 31 (bvs r) ∧ Below w.heap.size w w8 ∧ HB w8 (.slice p1 lf.length c1) lf ∧ IdS w8 (.slice A2 wy.length c2) wy ∧ HB w8 (.slice pb b.length cb) b ∧ IdS w8 (.slice py y.length cy) y) := Lib.hid ⟨HS7.out.1.below hbw8 HS7.out.1.lt, HS7.out.2.1.trans (hbw8.mono HS7.out.2.1.size), HS7.out.2.2.1.keep hbw8, HS7.out.2.2.2.1.keep hbw8, HS7.out.2.2.2.2.1.keep hbw8, HS7.out.2.2.2.2.2.keep hbw8⟩
              have hcvb8 := HS8.out.2.2.2.2.1.str Tryd.underlying22 Tryd.underlying5 Tryd.underlying9
              have HUZ8 := Lib.hid (And.intro (HUZ.out.1.keep hbw8) (HUZ.out.2.keep hbw8))
              clear hbw8 HS7 hcva hcvb HUZ
              go_wp2_with (refine wpList_load_blk_g rfl 31 (.tmp 9) rfl w.heap.size 31 (bvs r) rfl HS8.out.1 Tryd.underlying31 rfl (by rw [hrrz]; kernel_rfl) ?_)
              refine (refCheck_any r (N : Int) (I : Int) _ b y w8 hrl HS8.out.2.2.2.2.2 hNb hi (by omega) (by omega)).mono ?_
              rintro e w9 ⟨rfl, hbw9⟩
              rw [← HK2.out]
              have HS9 : Hid (Blk w9 w.heap.size 31 (bvs r) ∧ Below w.heap.size w w9 ∧ HB w9 (.slice p1 lf.length c1) lf ∧ IdS w9 (.slice A2 wy.length c2) wy ∧ HB w9 (.slice pb b.length cb) b ∧ IdS w9 (.slice py y.length cy) y) := Lib.hid ⟨HS8.out.1.below hbw9 HS8.out.1.lt, HS8.out.2.1.trans (hbw9.mono HS8.out.2.1.size), HS8.out.2.2.1.keep hbw9, HS8.out.2.2.2.1.keep hbw9, HS8.out.2.2.2.2.1.keep hbw9, HS8.out.2.2.2.2.2.keep hbw9⟩
              have HU := Lib.hid (HUZ8.out.1.keep hbw9)
              have HZ := Lib.hid (HUZ8.out.2.keep hbw9)
              clear hbw9 HS8 hcvb8 HUZ8
              go_wp2_with fail
              go_upto_region 20 with (fail)
              refine wp_region_as (ys := [.eq (.bool true), .eq (.bool true), .eq (.slice p7 u.length c7), .eq (.string (bs u)), .eq (.slice p8 z.length c8), .eq (.string (bs z)), .eq (.bool true), .eq (.bool true), .eq (.bool true), .eq (.slice p7 u.length c7), .eq (.string (bs u)), .eq (.agg (bvs (sha u))), .eq (.slice p8 z.length c8), .eq (.string (bs z)), .eq (.agg (bvs (sha u))), .eq (.bool true), .eq (.bool true), .eq (.bool true)]) (by kernel_rfl) (by kernel_rfl) (by kernel_rfl) (by kernel_rfl) rfl _ (fun f => by simp only [framedL, Act.put, List.setIfInBounds_toArray, List.set_cons_zero, List.set_cons_succ, Nat.reduceAdd]; rfl) ⟨?_, ?_, ?_, ?_, ?_, ?_, ?_, ?_, ?_, ?_, ?_, ?_, ?_, ?_, ?_, ?_, ?_, ?_, trivial⟩ ?_
              · refine oweAs_pure ((.bool true)) rfl (fun f W hE hd => ?_) (fun W hE => rfl)
                go_simp
              · refine oweAs_pure ((.bool true)) rfl (fun f W hE hd => ?_) (fun W hE => rfl)
                simp only [DepAs, Region.binds, asAt, As.holds, and_true, forall_const] at hd
                go_simp
              · refine oweAs_pure ((.slice p7 u.length c7)) rfl (fun f W hE hd => ?_) (fun W hE => rfl)
                go_simp
              · refine oweAs_pure ((.string (bs u))) rfl (fun f W hE hd => ?_) (fun W hE => rfl)
                simp only [DepAs, Region.binds, asAt, As.holds, and_true, forall_const] at hd
                have hcv := (HU.out.keep hE).str Tryd.underlying22 Tryd.underlying5 Tryd.underlying9
                go_simp
              · refine oweAs_pure ((.slice p8 z.length c8)) rfl (fun f W hE hd => ?_) (fun W hE => rfl)
                go_simp
              · refine oweAs_pure ((.string (bs z))) rfl (fun f W hE hd => ?_) (fun W hE => rfl)
                simp only [DepAs, Region.binds, asAt, As.holds, and_true, forall_const] at hd
                have hcv := (HZ.out.keep hE).str Tryd.underlying22 Tryd.underlying5 Tryd.underlying9
                go_simp
              · refine oweAs_pure ((.bool true)) rfl (fun f W hE hd => ?_) (fun W hE => rfl)
                simp only [DepAs, Region.binds, asAt, As.holds, and_true, forall_const] at hd
                have h9 := HNUZ.out
                go_simp
              · refine oweAs_pure ((.bool true)) rfl (fun f W hE hd => ?_) (fun W hE => rfl)
                simp only [DepAs, Region.binds, asAt, As.holds, and_true, forall_const] at hd
                go_simp
              · refine oweAs_pure ((.bool true)) rfl (fun f W hE hd => ?_) (fun W hE => rfl)
                simp only [DepAs, Region.binds, asAt, As.holds, and_true, forall_const] at hd
                go_simp
              · refine oweAs_pure ((.slice p7 u.length c7)) rfl (fun f W hE hd => ?_) (fun W hE => rfl)
                go_simp
              · refine oweAs_pure ((.string (bs u))) rfl (fun f W hE hd => ?_) (fun W hE => rfl)
                simp only [DepAs, Region.binds, asAt, As.holds, and_true, forall_const] at hd
                have hcv := (HU.out.keep hE).str Tryd.underlying22 Tryd.underlying5 Tryd.underlying9
                go_simp
              · refine oweAs_call 20 rfl (fun f W hE hd => ?_)
                simp only [DepAs, Region.binds, asAt, As.holds, and_true, forall_const] at hd
                refine ⟨_, by (go_simp; first | exact rfl | exact ⟨rfl, rfl⟩), ?_⟩
                refine (ref_any _ W (by rw [bs_size]; omega)).mono ?_
                rintro e w' ⟨rfl, hb⟩
                exact ⟨_, rfl, by (show (_ : Value) = _; rw [sb_bs]), hb⟩
              · refine oweAs_pure ((.slice p8 z.length c8)) rfl (fun f W hE hd => ?_) (fun W hE => rfl)
                go_simp
              · refine oweAs_pure ((.string (bs z))) rfl (fun f W hE hd => ?_) (fun W hE => rfl)
                simp only [DepAs, Region.binds, asAt, As.holds, and_true, forall_const] at hd
                have hcv := (HZ.out.keep hE).str Tryd.underlying22 Tryd.underlying5 Tryd.underlying9
                go_simp
              · refine oweAs_call 20 rfl (fun f W hE hd => ?_)
                simp only [DepAs, Region.binds, asAt, As.holds, and_true, forall_const] at hd
                refine ⟨_, by (go_simp; first | exact rfl | exact ⟨rfl, rfl⟩), ?_⟩
                refine (ref_any _ W (by rw [bs_size]; omega)).mono ?_
                rintro e w' ⟨rfl, hb⟩
                exact ⟨_, rfl, by (show (_ : Value) = _; rw [sb_bs]; rw [← HSH.out]), hb⟩
              · refine oweAs_pure ((.bool true)) rfl (fun f W hE hd => ?_) (fun W hE => rfl)
                simp only [DepAs, Region.binds, asAt, As.holds, and_true, forall_const] at hd
                have l1 := sha_length u
                go_simp
              · refine oweAs_pure ((.bool true)) rfl (fun f W hE hd => ?_) (fun W hE => rfl)
                simp only [DepAs, Region.binds, asAt, As.holds, and_true, forall_const] at hd
                go_simp
              · refine oweAs_pure ((.bool true)) rfl (fun f W hE hd => ?_) (fun W hE => rfl)
                simp only [DepAs, Region.binds, asAt, As.holds, and_true, forall_const] at hd
                go_simp
              intro f W hE hA
              simp only [AllAs, As.holds, Nat.reduceAdd] at hA
              obtain ⟨-, -, -, -, -, -, -, -, -, -, -, -, -, -, -, -, -, hA17, -⟩ := hA
              go_wp2_with fail
              go_ret
              exact ⟨congrArg Ending.returned hA17, HS9.out.2.1.trans (hE.mono HS9.out.2.1.size)⟩
            · have e2i : ¬ (k2 : Int) = 0 := by omega
              have e2b : ((k2 : Int) == 0) = false := beq_eq_false_iff_ne.2 e2i
              have HN : Hid (t = none) := Lib.hid (by rw [HTW.out]; exact two_no (fun h => e2 (HK2.out.trans h.2.1)))
              rw [HN.out] at h7a h7b ⊢
              obtain ⟨p7, c7, rfl, -, -⟩ := (show HB w7 v7 [] from h7a).form
              obtain ⟨p8, c8, rfl, -, -⟩ := (show HB w7 u7 [] from h7b).form
              simp only [List.length_nil]
              clear h7a h7b HN
              subst e1
              go_wp2_with (refine wpList_load_blk_g rfl 31 (.tmp 9) rfl w.heap.size 31 (bvs r) rfl HS7.out.1 Tryd.underlying31 rfl (by rw [hrrz]; kernel_rfl) ?_)
              refine (refCheck_any r (N : Int) (I : Int) _ lf wy w7 hrl HS7.out.2.2.2.1 hNb hi (by omega) (by omega)).mono ?_
              rintro e w8 ⟨rfl, hbw8⟩
              rw [← HK1.out]
              have HS8 : Hid (Blk w8 w.heap.size 31 (bvs r) ∧ Below w.heap.size w w8 ∧ HB w8 (.slice p1 lf.length c1) lf ∧ IdS w8 (.slice A2 wy.length c2) wy ∧ HB w8 (.slice pb b.length cb) b ∧ IdS w8 (.slice py y.length cy) y) := Lib.hid ⟨HS7.out.1.below hbw8 HS7.out.1.lt, HS7.out.2.1.trans (hbw8.mono HS7.out.2.1.size), HS7.out.2.2.1.keep hbw8, HS7.out.2.2.2.1.keep hbw8, HS7.out.2.2.2.2.1.keep hbw8, HS7.out.2.2.2.2.2.keep hbw8⟩
              have hcvb8 := HS8.out.2.2.2.2.1.str Tryd.underlying22 Tryd.underlying5 Tryd.underlying9
              clear hbw8 HS7 hcva hcvb
              go_wp2_with (refine wpList_load_blk_g rfl 31 (.tmp 9) rfl w.heap.size 31 (bvs r) rfl HS8.out.1 Tryd.underlying31 rfl (by rw [hrrz]; kernel_rfl) ?_)
              refine (refCheck_any r (N : Int) (I : Int) _ b y w8 hrl HS8.out.2.2.2.2.2 hNb hi (by omega) (by omega)).mono ?_
              rintro e w9 ⟨rfl, hbw9⟩
              rw [← HK2.out]
              have HS9 : Hid (Blk w9 w.heap.size 31 (bvs r) ∧ Below w.heap.size w w9 ∧ HB w9 (.slice p1 lf.length c1) lf ∧ IdS w9 (.slice A2 wy.length c2) wy ∧ HB w9 (.slice pb b.length cb) b ∧ IdS w9 (.slice py y.length cy) y) := Lib.hid ⟨HS8.out.1.below hbw9 HS8.out.1.lt, HS8.out.2.1.trans (hbw9.mono HS8.out.2.1.size), HS8.out.2.2.1.keep hbw9, HS8.out.2.2.2.1.keep hbw9, HS8.out.2.2.2.2.1.keep hbw9, HS8.out.2.2.2.2.2.keep hbw9⟩
              clear hbw9 HS8 hcvb8
              go_wp2_with fail
              go_ret
              exact ⟨rfl, HS9.out.2.1⟩
          · have e1i : ¬ (k1 : Int) = 0 := by omega
            have e1b : ((k1 : Int) == 0) = false := beq_eq_false_iff_ne.2 e1i
            have HN : Hid (t = none) := Lib.hid (by rw [HTW.out]; exact two_no (fun h => e1 (HK1.out.trans h.1)))
            rw [HN.out] at h7a h7b ⊢
            obtain ⟨p7, c7, rfl, -, -⟩ := (show HB w7 v7 [] from h7a).form
            obtain ⟨p8, c8, rfl, -, -⟩ := (show HB w7 u7 [] from h7b).form
            simp only [List.length_nil]
            clear h7a h7b HN
            go_wp2_with (refine wpList_load_blk_g rfl 31 (.tmp 9) rfl w.heap.size 31 (bvs r) rfl HS7.out.1 Tryd.underlying31 rfl (by rw [hrrz]; kernel_rfl) ?_)
            refine (refCheck_any r (N : Int) (I : Int) _ lf wy w7 hrl HS7.out.2.2.2.1 hNb hi (by omega) (by omega)).mono ?_
            rintro e w8 ⟨rfl, hbw8⟩
            rw [← HK1.out]
            have HS8 : Hid (Blk w8 w.heap.size 31 (bvs r) ∧ Below w.heap.size w w8 ∧ HB w8 (.slice p1 lf.length c1) lf ∧ IdS w8 (.slice A2 wy.length c2) wy ∧ HB w8 (.slice pb b.length cb) b ∧ IdS w8 (.slice py y.length cy) y) := Lib.hid ⟨HS7.out.1.below hbw8 HS7.out.1.lt, HS7.out.2.1.trans (hbw8.mono HS7.out.2.1.size), HS7.out.2.2.1.keep hbw8, HS7.out.2.2.2.1.keep hbw8, HS7.out.2.2.2.2.1.keep hbw8, HS7.out.2.2.2.2.2.keep hbw8⟩
            clear hbw8 HS7 hcva hcvb
            go_wp2_with fail
            go_ret
            exact ⟨rfl, HS8.out.2.1⟩
  · skip
    go_enter Tryd.func8, Tryd.ntmps8
    go_upto_region 16 with (
      (go_at_call 9
       refine (awake6_any _ (HT.out _ ((Below.refl _ _).alloc (Nat.le_refl _) _)).1 (HT.out _ ((Below.refl _ _).alloc (Nat.le_refl _) _)).2).mono ?_
       rintro e w1 ⟨rfl, hb1⟩
       have HB1 : Hid (Blk w1 w.heap.size 31 (bvs root) ∧ Below w.heap.size w w1) := Lib.hid ⟨(Blk.new w _ _).below hb1 (Blk.new w _ _).lt, ((Below.refl _ _).alloc (Nat.le_refl _) _).trans (hb1.mono (by simp))⟩
       clear hb1))
    have HS1 : Hid (Blk w1 w.heap.size 31 (bvs root) ∧ Below w.heap.size w w1 ∧ HB w1 (.slice pa a.length ca) a ∧ IdS w1 (.slice px x.length cx) x ∧ HB w1 (.slice pb b.length cb) b ∧ IdS w1 (.slice py y.length cy) y) := Lib.hid ⟨HB1.out.1, HB1.out.2, HA.out.keep HB1.out.2, HX.out.keep HB1.out.2, HB_.out.keep HB1.out.2, HY.out.keep HB1.out.2⟩
    clear HB1
    go_wp2_with (refine wpList_load_blk rfl 31 (.tmp 9) rfl w.heap.size 31 (bvs root) rfl HS1.out.1 Tryd.underlying31 rfl (by rw [hrz]; kernel_rfl) ?_)
    refine (two_any' root n i _ _ _ _ a b x y w1 (HT.out _ HS1.out.2.1).1 (HT.out _ HS1.out.2.1).2 hr HS1.out.2.2.1 HS1.out.2.2.2.1 HS1.out.2.2.2.2.1 HS1.out.2.2.2.2.2 hn hi (by omega) (by omega) (by omega) (by omega)).mono ?_
    rintro e w7 ⟨v7, u7, rfl, h7a, h7b, hb7⟩
    have HS7 : Hid (Blk w7 w.heap.size 31 (bvs root) ∧ Below w.heap.size w w7 ∧ HB w7 (.slice pa a.length ca) a ∧ IdS w7 (.slice px x.length cx) x ∧ HB w7 (.slice pb b.length cb) b ∧ IdS w7 (.slice py y.length cy) y) := Lib.hid ⟨HS1.out.1.below hb7 HS1.out.1.lt, HS1.out.2.1.trans (hb7.mono HS1.out.2.1.size), HS1.out.2.2.1.keep hb7, HS1.out.2.2.2.1.keep hb7, HS1.out.2.2.2.2.1.keep hb7, HS1.out.2.2.2.2.2.keep hb7⟩
    obtain ⟨t, ht⟩ : ∃ t, t = twoF root n i a x b y := ⟨_, rfl⟩
    rw [← ht] at h7a h7b ⊢
    obtain ⟨k1, hk1⟩ : ∃ c, c = checkF root n i a x := ⟨_, rfl⟩
    obtain ⟨k2, hk2⟩ : ∃ c, c = checkF root n i b y := ⟨_, rfl⟩
    have HTW := Lib.hid ht
    have HK1 := Lib.hid hk1
    have HK2 := Lib.hid hk2
    clear ht hk1 hk2 hb7 HS1
    have hcva := HS7.out.2.2.1.str Tryd.underlying22 Tryd.underlying5 Tryd.underlying9
    have hcvb := HS7.out.2.2.2.2.1.str Tryd.underlying22 Tryd.underlying5 Tryd.underlying9
    by_cases hab : a = b
    · have HN0 : Hid (twoF root n i a x b y = none) := Lib.hid (two_no (fun h => h.2.2 hab))
      have HN : Hid (t = none) := Lib.hid (HTW.out.trans HN0.out)
      rw [HN.out] at h7a h7b ⊢
      obtain ⟨p7, c7, rfl, -, -⟩ := (show HB w7 v7 [] from h7a).form
      obtain ⟨p8, c8, rfl, -, -⟩ := (show HB w7 u7 [] from h7b).form
      simp only [List.length_nil]
      clear h7a h7b HN HN0 HTW
      have hbeq : ((bs a).toList == (bs b).toList) = true := by rw [hab]; exact beq_self_eq_true _
      clear hab
      go_wp2_with fail
      go_ret
      exact ⟨rfl, HS7.out.2.1⟩
    · have hne : ((bs a).toList == (bs b).toList) = false := beq_eq_false_iff_ne.2 (bs_ne hab)
      have HAB := Lib.hid hab
      clear hab
      by_cases e1 : k1 = 0
      · by_cases e2 : k2 = 0
        · obtain ⟨u, z, htt, huz, hsz, hul, hzl⟩ := two_some HS7.out.2.2.2.1.dig HS7.out.2.2.2.2.2.dig (HK1.out.symm.trans e1) (HK2.out.symm.trans e2) HAB.out
          have HN : Hid (t = some (u, z)) := Lib.hid (HTW.out.trans htt)
          rw [HN.out] at h7a h7b ⊢
          obtain ⟨p7, c7, rfl, -, -⟩ := (show HB w7 v7 u from h7a).form
          obtain ⟨p8, c8, rfl, -, -⟩ := (show HB w7 u7 z from h7b).form
          have HUZ := Lib.hid (And.intro (show HB w7 (.slice p7 u.length c7) u from h7a) (show HB w7 (.slice p8 z.length c8) z from h7b))
          have hnuz := bs_ne huz
          have HNUZ := Lib.hid hnuz
          have HSH := Lib.hid hsz
          subst e1
          subst e2
          clear h7a h7b HN htt huz hsz hnuz HTW
          simp only [Option.isSome_some]
          go_wp2_with (refine wpList_load_blk_g rfl 31 (.tmp 9) rfl w.heap.size 31 (bvs root) rfl HS7.out.1 Tryd.underlying31 rfl (by rw [hrz]; kernel_rfl) ?_)
          refine (refCheck_any root n i _ a x w7 hr HS7.out.2.2.2.1 hn hi (by omega) (by omega)).mono ?_
          rintro e w8 ⟨rfl, hbw8⟩
          rw [← HK1.out]
          have HS8 : Hid (Blk w8 w.heap.size 31 (bvs root) ∧ Below w.heap.size w w8 ∧ HB w8 (.slice pa a.length ca) a ∧ IdS w8 (.slice px x.length cx) x ∧ HB w8 (.slice pb b.length cb) b ∧ IdS w8 (.slice py y.length cy) y) := Lib.hid ⟨HS7.out.1.below hbw8 HS7.out.1.lt, HS7.out.2.1.trans (hbw8.mono HS7.out.2.1.size), HS7.out.2.2.1.keep hbw8, HS7.out.2.2.2.1.keep hbw8, HS7.out.2.2.2.2.1.keep hbw8, HS7.out.2.2.2.2.2.keep hbw8⟩
          have hcvb8 := HS8.out.2.2.2.2.1.str Tryd.underlying22 Tryd.underlying5 Tryd.underlying9
          have HUZ8 := Lib.hid (And.intro (HUZ.out.1.keep hbw8) (HUZ.out.2.keep hbw8))
          clear hbw8 HS7 hcva hcvb HUZ
          go_wp2_with (refine wpList_load_blk_g rfl 31 (.tmp 9) rfl w.heap.size 31 (bvs root) rfl HS8.out.1 Tryd.underlying31 rfl (by rw [hrz]; kernel_rfl) ?_)
          refine (refCheck_any root n i _ b y w8 hr HS8.out.2.2.2.2.2 hn hi (by omega) (by omega)).mono ?_
          rintro e w9 ⟨rfl, hbw9⟩
          rw [← HK2.out]
          have HS9 : Hid (Blk w9 w.heap.size 31 (bvs root) ∧ Below w.heap.size w w9 ∧ HB w9 (.slice pa a.length ca) a ∧ IdS w9 (.slice px x.length cx) x ∧ HB w9 (.slice pb b.length cb) b ∧ IdS w9 (.slice py y.length cy) y) := Lib.hid ⟨HS8.out.1.below hbw9 HS8.out.1.lt, HS8.out.2.1.trans (hbw9.mono HS8.out.2.1.size), HS8.out.2.2.1.keep hbw9, HS8.out.2.2.2.1.keep hbw9, HS8.out.2.2.2.2.1.keep hbw9, HS8.out.2.2.2.2.2.keep hbw9⟩
          have HU := Lib.hid (HUZ8.out.1.keep hbw9)
          have HZ := Lib.hid (HUZ8.out.2.keep hbw9)
          clear hbw9 HS8 hcvb8 HUZ8
          go_wp2_with fail
          go_upto_region 20 with (fail)
          refine wp_region_as (ys := [.eq (.bool true), .eq (.bool true), .eq (.slice p7 u.length c7), .eq (.string (bs u)), .eq (.slice p8 z.length c8), .eq (.string (bs z)), .eq (.bool true), .eq (.bool true), .eq (.bool true), .eq (.slice p7 u.length c7), .eq (.string (bs u)), .eq (.agg (bvs (sha u))), .eq (.slice p8 z.length c8), .eq (.string (bs z)), .eq (.agg (bvs (sha u))), .eq (.bool true), .eq (.bool true), .eq (.bool true)]) (by kernel_rfl) (by kernel_rfl) (by kernel_rfl) (by kernel_rfl) rfl _ (fun f => by simp only [framedL, Act.put, List.setIfInBounds_toArray, List.set_cons_zero, List.set_cons_succ, Nat.reduceAdd]; rfl) ⟨?_, ?_, ?_, ?_, ?_, ?_, ?_, ?_, ?_, ?_, ?_, ?_, ?_, ?_, ?_, ?_, ?_, ?_, trivial⟩ ?_
          · refine oweAs_pure ((.bool true)) rfl (fun f W hE hd => ?_) (fun W hE => rfl)
            go_simp
          · refine oweAs_pure ((.bool true)) rfl (fun f W hE hd => ?_) (fun W hE => rfl)
            simp only [DepAs, Region.binds, asAt, As.holds, and_true, forall_const] at hd
            go_simp
          · refine oweAs_pure ((.slice p7 u.length c7)) rfl (fun f W hE hd => ?_) (fun W hE => rfl)
            go_simp
          · refine oweAs_pure ((.string (bs u))) rfl (fun f W hE hd => ?_) (fun W hE => rfl)
            simp only [DepAs, Region.binds, asAt, As.holds, and_true, forall_const] at hd
            have hcv := (HU.out.keep hE).str Tryd.underlying22 Tryd.underlying5 Tryd.underlying9
            go_simp
          · refine oweAs_pure ((.slice p8 z.length c8)) rfl (fun f W hE hd => ?_) (fun W hE => rfl)
            go_simp
          · refine oweAs_pure ((.string (bs z))) rfl (fun f W hE hd => ?_) (fun W hE => rfl)
            simp only [DepAs, Region.binds, asAt, As.holds, and_true, forall_const] at hd
            have hcv := (HZ.out.keep hE).str Tryd.underlying22 Tryd.underlying5 Tryd.underlying9
            go_simp
          · refine oweAs_pure ((.bool true)) rfl (fun f W hE hd => ?_) (fun W hE => rfl)
            simp only [DepAs, Region.binds, asAt, As.holds, and_true, forall_const] at hd
            have h9 := HNUZ.out
            go_simp
          · refine oweAs_pure ((.bool true)) rfl (fun f W hE hd => ?_) (fun W hE => rfl)
            simp only [DepAs, Region.binds, asAt, As.holds, and_true, forall_const] at hd
            go_simp
          · refine oweAs_pure ((.bool true)) rfl (fun f W hE hd => ?_) (fun W hE => rfl)
            simp only [DepAs, Region.binds, asAt, As.holds, and_true, forall_const] at hd
            go_simp
          · refine oweAs_pure ((.slice p7 u.length c7)) rfl (fun f W hE hd => ?_) (fun W hE => rfl)
            go_simp
          · refine oweAs_pure ((.string (bs u))) rfl (fun f W hE hd => ?_) (fun W hE => rfl)
            simp only [DepAs, Region.binds, asAt, As.holds, and_true, forall_const] at hd
            have hcv := (HU.out.keep hE).str Tryd.underlying22 Tryd.underlying5 Tryd.underlying9
            go_simp
          · refine oweAs_call 20 rfl (fun f W hE hd => ?_)
            simp only [DepAs, Region.binds, asAt, As.holds, and_true, forall_const] at hd
            refine ⟨_, by (go_simp; first | exact rfl | exact ⟨rfl, rfl⟩), ?_⟩
            refine (ref_any _ W (by rw [bs_size]; omega)).mono ?_
            rintro e w' ⟨rfl, hb⟩
            exact ⟨_, rfl, by (show (_ : Value) = _; rw [sb_bs]), hb⟩
          · refine oweAs_pure ((.slice p8 z.length c8)) rfl (fun f W hE hd => ?_) (fun W hE => rfl)
            go_simp
          · refine oweAs_pure ((.string (bs z))) rfl (fun f W hE hd => ?_) (fun W hE => rfl)
            simp only [DepAs, Region.binds, asAt, As.holds, and_true, forall_const] at hd
            have hcv := (HZ.out.keep hE).str Tryd.underlying22 Tryd.underlying5 Tryd.underlying9
            go_simp
          · refine oweAs_call 20 rfl (fun f W hE hd => ?_)
            simp only [DepAs, Region.binds, asAt, As.holds, and_true, forall_const] at hd
            refine ⟨_, by (go_simp; first | exact rfl | exact ⟨rfl, rfl⟩), ?_⟩
            refine (ref_any _ W (by rw [bs_size]; omega)).mono ?_
            rintro e w' ⟨rfl, hb⟩
            exact ⟨_, rfl, by (show (_ : Value) = _; rw [sb_bs]; rw [← HSH.out]), hb⟩
          · refine oweAs_pure ((.bool true)) rfl (fun f W hE hd => ?_) (fun W hE => rfl)
            simp only [DepAs, Region.binds, asAt, As.holds, and_true, forall_const] at hd
            have l1 := sha_length u
            go_simp
          · refine oweAs_pure ((.bool true)) rfl (fun f W hE hd => ?_) (fun W hE => rfl)
            simp only [DepAs, Region.binds, asAt, As.holds, and_true, forall_const] at hd
            go_simp
          · refine oweAs_pure ((.bool true)) rfl (fun f W hE hd => ?_) (fun W hE => rfl)
            simp only [DepAs, Region.binds, asAt, As.holds, and_true, forall_const] at hd
            go_simp
          intro f W hE hA
          simp only [AllAs, As.holds, Nat.reduceAdd] at hA
          obtain ⟨-, -, -, -, -, -, -, -, -, -, -, -, -, -, -, -, -, hA17, -⟩ := hA
          go_wp2_with fail
          go_ret
          exact ⟨congrArg Ending.returned hA17, HS9.out.2.1.trans (hE.mono HS9.out.2.1.size)⟩
        · have e2i : ¬ (k2 : Int) = 0 := by omega
          have e2b : ((k2 : Int) == 0) = false := beq_eq_false_iff_ne.2 e2i
          have HN : Hid (t = none) := Lib.hid (by rw [HTW.out]; exact two_no (fun h => e2 (HK2.out.trans h.2.1)))
          rw [HN.out] at h7a h7b ⊢
          obtain ⟨p7, c7, rfl, -, -⟩ := (show HB w7 v7 [] from h7a).form
          obtain ⟨p8, c8, rfl, -, -⟩ := (show HB w7 u7 [] from h7b).form
          simp only [List.length_nil]
          clear h7a h7b HN
          subst e1
          go_wp2_with (refine wpList_load_blk_g rfl 31 (.tmp 9) rfl w.heap.size 31 (bvs root) rfl HS7.out.1 Tryd.underlying31 rfl (by rw [hrz]; kernel_rfl) ?_)
          refine (refCheck_any root n i _ a x w7 hr HS7.out.2.2.2.1 hn hi (by omega) (by omega)).mono ?_
          rintro e w8 ⟨rfl, hbw8⟩
          rw [← HK1.out]
          have HS8 : Hid (Blk w8 w.heap.size 31 (bvs root) ∧ Below w.heap.size w w8 ∧ HB w8 (.slice pa a.length ca) a ∧ IdS w8 (.slice px x.length cx) x ∧ HB w8 (.slice pb b.length cb) b ∧ IdS w8 (.slice py y.length cy) y) := Lib.hid ⟨HS7.out.1.below hbw8 HS7.out.1.lt, HS7.out.2.1.trans (hbw8.mono HS7.out.2.1.size), HS7.out.2.2.1.keep hbw8, HS7.out.2.2.2.1.keep hbw8, HS7.out.2.2.2.2.1.keep hbw8, HS7.out.2.2.2.2.2.keep hbw8⟩
          have hcvb8 := HS8.out.2.2.2.2.1.str Tryd.underlying22 Tryd.underlying5 Tryd.underlying9
          clear hbw8 HS7 hcva hcvb
          go_wp2_with (refine wpList_load_blk_g rfl 31 (.tmp 9) rfl w.heap.size 31 (bvs root) rfl HS8.out.1 Tryd.underlying31 rfl (by rw [hrz]; kernel_rfl) ?_)
          refine (refCheck_any root n i _ b y w8 hr HS8.out.2.2.2.2.2 hn hi (by omega) (by omega)).mono ?_
          rintro e w9 ⟨rfl, hbw9⟩
          rw [← HK2.out]
          have HS9 : Hid (Blk w9 w.heap.size 31 (bvs root) ∧ Below w.heap.size w w9 ∧ HB w9 (.slice pa a.length ca) a ∧ IdS w9 (.slice px x.length cx) x ∧ HB w9 (.slice pb b.length cb) b ∧ IdS w9 (.slice py y.length cy) y) := Lib.hid ⟨HS8.out.1.below hbw9 HS8.out.1.lt, HS8.out.2.1.trans (hbw9.mono HS8.out.2.1.size), HS8.out.2.2.1.keep hbw9, HS8.out.2.2.2.1.keep hbw9, HS8.out.2.2.2.2.1.keep hbw9, HS8.out.2.2.2.2.2.keep hbw9⟩
          clear hbw9 HS8 hcvb8
          go_wp2_with fail
          go_ret
          exact ⟨rfl, HS9.out.2.1⟩
      · have e1i : ¬ (k1 : Int) = 0 := by omega
        have e1b : ((k1 : Int) == 0) = false := beq_eq_false_iff_ne.2 e1i
        have HN : Hid (t = none) := Lib.hid (by rw [HTW.out]; exact two_no (fun h => e1 (HK1.out.trans h.1)))
        rw [HN.out] at h7a h7b ⊢
        obtain ⟨p7, c7, rfl, -, -⟩ := (show HB w7 v7 [] from h7a).form
        obtain ⟨p8, c8, rfl, -, -⟩ := (show HB w7 u7 [] from h7b).form
        simp only [List.length_nil]
        clear h7a h7b HN
        go_wp2_with (refine wpList_load_blk_g rfl 31 (.tmp 9) rfl w.heap.size 31 (bvs root) rfl HS7.out.1 Tryd.underlying31 rfl (by rw [hrz]; kernel_rfl) ?_)
        refine (refCheck_any root n i _ a x w7 hr HS7.out.2.2.2.1 hn hi (by omega) (by omega)).mono ?_
        rintro e w8 ⟨rfl, hbw8⟩
        rw [← HK1.out]
        have HS8 : Hid (Blk w8 w.heap.size 31 (bvs root) ∧ Below w.heap.size w w8 ∧ HB w8 (.slice pa a.length ca) a ∧ IdS w8 (.slice px x.length cx) x ∧ HB w8 (.slice pb b.length cb) b ∧ IdS w8 (.slice py y.length cy) y) := Lib.hid ⟨HS7.out.1.below hbw8 HS7.out.1.lt, HS7.out.2.1.trans (hbw8.mono HS7.out.2.1.size), HS7.out.2.2.1.keep hbw8, HS7.out.2.2.2.1.keep hbw8, HS7.out.2.2.2.2.1.keep hbw8, HS7.out.2.2.2.2.2.keep hbw8⟩
        clear hbw8 HS7 hcva hcvb
        go_wp2_with fail
        go_ret
        exact ⟨rfl, HS8.out.2.1⟩
end Go.Proofs.YtofbfkkncjcodaaDoor
