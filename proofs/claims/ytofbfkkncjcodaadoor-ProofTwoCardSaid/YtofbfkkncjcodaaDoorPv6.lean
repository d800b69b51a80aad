/-
  The walk of the law ProofSwap.
-/
import Derived.Test.YtofbfkkncjcodaaDoorPvA
import Derived.Test.YtofbfkkncjcodaaDoorRf8
namespace Go.Proofs.YtofbfkkncjcodaaDoor
open Go Go.RowKit
set_option linter.unusedSimpArgs false
set_option linter.unusedVariables false

theorem prove_in {b : List UInt8} {k : Nat} (h : k < nlF b.length) : proveF b (k : Int) = (leafF b k, wayF (rowF b) k, 0) := by
  unfold proveF; rw [if_neg (by omega)]; rfl
theorem way_le {b : List UInt8} {k n : Nat} (h : b.length ≤ 64 * n) (hn : 1 ≤ n) : (wayF (rowF b) k).length ≤ n := by
  have h1 := wayF_length (rowF b).length (rowF b) k (Nat.le_refl _)
  have h2 : hN (rowF b).length ≤ (rowF b).length := hN_le _
  rw [rowF_length] at h1 h2
  have h3 : nlF b.length ≤ n := by unfold nlF; omega
  omega

set_option maxRecDepth 100000 in
set_option maxHeartbeats 4000000 in
theorem proofSwap_any (v : Value) (b : List UInt8) (i k : Nat) (own : Bool) (w : World) (hT : Tab w) (h0 : 0 < w.heap.size) (hl : HB w v b) (hi : i < 65536) (hk : k < 65536) :
    Calls Tryd.prog 7 #[v, .int .u16 (i : Int), .int .u16 (k : Int), .bool own] w fun e w' => e = .returned (.bool true) ∧ Below w.heap.size w w' := by
  have HT : Hid (∀ W, Below w.heap.size w W → Tab W ∧ 0 < W.heap.size) := Lib.hid (fun W hb => ⟨hT.below hb h0, by have := hb.size; omega⟩)
  obtain ⟨pl, cl, rfl, hlc, hlm⟩ := hl.form
  unfold maxLen at hlm
  have HL := Lib.hid hl
  clear hl hT
  obtain ⟨r, hr⟩ : ∃ r, r = rootF b := ⟨_, rfl⟩
  have hrl : r.length = 32 := by rw [hr]; exact rootF_length _
  have hrz : (bvs r).size = 32 := by rw [bvs_size]; exact hrl
  obtain ⟨N, hN⟩ : ∃ N, N = nlF b.length := ⟨_, rfl⟩
  have hN1 : 1 ≤ N := by rw [hN]; unfold nlF; omega
  obtain ⟨p, hp⟩ : ∃ p, p = i % N := ⟨_, rfl⟩
  obtain ⟨q, hq⟩ : ∃ q, q = k % N := ⟨_, rfl⟩
  have hpN : p < N := by rw [hp]; exact Nat.mod_lt _ hN1
  have hqN : q < N := by rw [hq]; exact Nat.mod_lt _ hN1
  have hpi : (i : Int) % (N : Int) = (p : Int) := by rw [hp]; simp
  have hqi : (k : Int) % (N : Int) = (q : Int) := by rw [hq]; simp
  obtain ⟨lp, hlp⟩ : ∃ x, x = leafF b p := ⟨_, rfl⟩
  obtain ⟨lq, hlq⟩ : ∃ x, x = leafF b q := ⟨_, rfl⟩
  obtain ⟨wp, hwp⟩ : ∃ x, x = wayF (rowF b) p := ⟨_, rfl⟩
  obtain ⟨wq, hwq⟩ : ∃ x, x = wayF (rowF b) q := ⟨_, rfl⟩
  have HPP : Hid (proveF b (p : Int) = (lp, wp, 0)) := Lib.hid (by rw [prove_in (by rw [← hN]; exact hpN), hlp, hwp])
  have HPQ : Hid (proveF b (q : Int) = (lq, wq, 0)) := Lib.hid (by rw [prove_in (by rw [← hN]; exact hqN), hlq, hwq])
  have hlpl : lp.length ≤ 64 := by rw [hlp]; exact leafF_length _ _
  have hlql : lq.length ≤ 64 := by rw [hlq]; exact leafF_length _ _
  have HRR := Lib.hid (And.intro hr hN)
  have HWP := Lib.hid hwp
  have HWQ := Lib.hid hwq
  have HNZ : Hid (N = nlF b.length) := Lib.hid hN
  clear hr hp hq hlp hlq hwp hwq
  by_cases h1 : (800 : Int) < (b.length : Int)
  · clear hN
    go_enter Tryd.func7, Tryd.ntmps7
    go_wp2_with (
      (go_at_call 9
       refine (awake6_any _ (HT.out _ (Below.refl _ _)).1 (HT.out _ (Below.refl _ _)).2).mono ?_
       rintro e w1 ⟨rfl, hb1⟩
       have HB1 := Lib.hid hb1
       clear hb1))
    go_ret
    exact ⟨rfl, HB1.out⟩
  have hb1k : b.length ≤ 800 := by omega
  have hN13 : N ≤ 13 := by rw [hN]; unfold nlF; omega
  have HWL : Hid (wp.length ≤ 13 ∧ wq.length ≤ 13) := Lib.hid ⟨by rw [HWP.out]; exact way_le (by omega) (by omega), by rw [HWQ.out]; exact way_le (by omega) (by omega)⟩
  have hNz : ¬ (N : Int) = 0 := by omega
  clear hN
  go_enter Tryd.func7, Tryd.ntmps7
  go_wp2_with (
    (go_at_call 9
     refine (awake6_any _ (HT.out _ (Below.refl _ _)).1 (HT.out _ (Below.refl _ _)).2).mono ?_
     rintro e w1 ⟨rfl, hb1⟩
     have HB1 := Lib.hid hb1
     clear hb1))
  refine (leaves_any _ b w1 (HL.out.keep HB1.out) (by omega)).mono ?_
  rintro e w1' ⟨rfl, rfl⟩
  rw [← HNZ.out]
  go_wp2_with fail
  refine (root_any _ b w1 (HT.out _ HB1.out).1 (HT.out _ HB1.out).2 (HL.out.keep HB1.out) (by omega)).mono ?_
  rintro e w2 ⟨rfl, hb2⟩
  rw [← HRR.out.1]
  have HB2 := Lib.hid (HB1.out.trans (hb2.mono HB1.out.size))
  clear hb2 HB1
  go_wp2_with (
    (refine wpList_store_blk rfl 31 (.tmp 13) (.tmp 37) rfl w2.heap.size 31 _ (bvs r) rfl rfl (Blk.new _ _ _) (by rw [hrz]; rfl) (by rw [hrz]; kernel_rfl) (bvs_one _) ?_
     intro w3 hb3 hg3 hz3
     have hBV : Below w2.heap.size w2 w3 := ((Below.refl w2.heap.size w2).alloc (Nat.le_refl _) _).grown hg3 (by simp) (by intro k hk; injection hk with hk; omega)
     have HI3 : Hid (Blk w3 w2.heap.size 31 (bvs r) ∧ Below w.heap.size w w3) := Lib.hid ⟨hb3, HB2.out.trans (hBV.mono HB2.out.size)⟩
     clear hb3 hg3 hz3 hBV HB2))
  obtain ⟨F, hF⟩ : ∃ F, F = w2.heap.size := ⟨_, rfl⟩
  rw [← hF] at HI3 ⊢
  clear hF
  refine (prove_any _ b (p : Int) w3 (HT.out _ HI3.out.2).1 (HT.out _ HI3.out.2).2 (HL.out.keep HI3.out.2) (by omega)).mono ?_
  rintro e w4 ⟨v1, v2, rfl, hl4, hr4, hb4⟩
  rw [HPP.out] at hl4 hr4 ⊢
  obtain ⟨p1, c1, rfl, -, -⟩ := hl4.form
  obtain ⟨A2, c2, rfl⟩ := hr4.form
  have HI4 : Hid (Blk w4 F 31 (bvs r) ∧ Below w.heap.size w w4 ∧ HB w4 (.slice p1 lp.length c1) lp ∧ IdS w4 (.slice A2 wp.length c2) wp) := Lib.hid ⟨HI3.out.1.below hb4 HI3.out.1.lt, HI3.out.2.trans (hb4.mono HI3.out.2.size), hl4, hr4.ids⟩
  clear hl4 hr4 hb4 HI3
  go_wp2_with fail
  refine (prove_any _ b (q : Int) w4 (HT.out _ HI4.out.2.1).1 (HT.out _ HI4.out.2.1).2 (HL.out.keep HI4.out.2.1) (by omega)).mono ?_
  rintro e w5 ⟨v3, v4, rfl, hl5, hr5, hb5⟩
  rw [HPQ.out] at hl5 hr5 ⊢
  obtain ⟨p3, c3, rfl, -, -⟩ := hl5.form
  obtain ⟨A4, c4, rfl⟩ := hr5.form
  have HI5 : Hid (Blk w5 F 31 (bvs r) ∧ Below w.heap.size w w5 ∧ HB w5 (.slice p1 lp.length c1) lp ∧ IdS w5 (.slice A2 wp.length c2) wp ∧ HB w5 (.slice p3 lq.length c3) lq ∧ IdS w5 (.slice A4 wq.length c4) wq) := Lib.hid ⟨HI4.out.1.below hb5 HI4.out.1.lt, HI4.out.2.1.trans (hb5.mono HI4.out.2.1.size), HI4.out.2.2.1.keep hb5, HI4.out.2.2.2.keep hb5, hl5, hr5.ids⟩
  clear hl5 hr5 hb5 HI4
  have HLP := Lib.hid HI5.out.2.2.1
  have HLQ := Lib.hid HI5.out.2.2.2.2.1
  cases own with
  | true =>
    go_upto_region 16 with (fail)
    obtain ⟨x1, hx1⟩ : ∃ c, c = checkF r (N : Int) (q : Int) lp wp := ⟨_, rfl⟩
    obtain ⟨x2, hx2⟩ : ∃ c, c = checkF r (N : Int) (p : Int) lq wp := ⟨_, rfl⟩
    have Hx1 := Lib.hid hx1
    have Hx2 := Lib.hid hx2
    clear hx1 hx2
    refine wp_region_as (ys := [.eq (.agg (bvs r)), .eq (.int .i64 (N : Int)), .eq (.int .i64 (q : Int)), .eq (.slice p1 lp.length c1), .eq (.slice A2 wp.length c2), .eq (.int .i64 (x1 : Int)), .eq (.agg (bvs r)), .eq (.int .i64 (N : Int)), .eq (.int .i64 (q : Int)), .eq (.slice p1 lp.length c1), .eq (.string (bs lp)), .eq (.slice A2 wp.length c2), .eq (.int .i64 (x1 : Int)), .eq (.bool true), .eq (.bool true), .eq (.agg (bvs r)), .eq (.int .i64 (N : Int)), .eq (.int .i64 (p : Int)), .eq (.slice p3 lq.length c3), .eq (.slice A2 wp.length c2), .eq (.int .i64 (x2 : Int)), .eq (.agg (bvs r)), .eq (.int .i64 (N : Int)), .eq (.int .i64 (p : Int)), .eq (.slice p3 lq.length c3), .eq (.string (bs lq)), .eq (.slice A2 wp.length c2), .eq (.int .i64 (x2 : Int)), .eq (.bool true), .eq (.bool true), .eq (.bool true)]) (by kernel_rfl) (by kernel_rfl) (by kernel_rfl) (by kernel_rfl) rfl _ (fun f => by simp only [framedL, Act.put, List.setIfInBounds_toArray, List.set_cons_zero, List.set_cons_succ, Nat.reduceAdd]; rfl) ⟨?_, ?_, ?_, ?_, ?_, ?_, ?_, ?_, ?_, ?_, ?_, ?_, ?_, ?_, ?_, ?_, ?_, ?_, ?_, ?_, ?_, ?_, ?_, ?_, ?_, ?_, ?_, ?_, ?_, ?_, ?_, trivial⟩ ?_
    · exact oweAs_load 31 (.tmp 13) rfl (F) 31 (bvs r) (fun _ => rfl) (HI5.out.1) Tryd.underlying31 rfl (by rw [bvs_size, hrl]; kernel_rfl) rfl rfl
    · refine oweAs_pure ((.int .i64 (N : Int))) rfl (fun f W hE hd => ?_) (fun W hE => rfl)
      go_simp
    · refine oweAs_pure ((.int .i64 (q : Int))) rfl (fun f W hE hd => ?_) (fun W hE => rfl)
      go_simp
    · refine oweAs_pure ((.slice p1 lp.length c1)) rfl (fun f W hE hd => ?_) (fun W hE => rfl)
      go_simp
    · refine oweAs_pure ((.slice A2 wp.length c2)) rfl (fun f W hE hd => ?_) (fun W hE => rfl)
      go_simp
    · refine oweAs_call 17 rfl (fun f W hE hd => ?_)
      simp only [DepAs, Region.binds, asAt, As.holds, and_true, forall_const] at hd
      refine ⟨_, by (go_simp; first | exact rfl | exact ⟨rfl, rfl⟩), ?_⟩
      have hbw := HI5.out.2.1.trans (hE.mono HI5.out.2.1.size)
      refine (check_any r (N : Int) (q : Int) _ _ lp wp W (HT.out W hbw).1 (HT.out W hbw).2 hrl (HLP.out.keep hE) (HI5.out.2.2.2.1.keep hE) (by omega) (by omega) (by omega) (by have := HWL.out.1; omega)).mono ?_
      rintro e w' ⟨rfl, hb⟩
      exact ⟨_, rfl, by (show (_ : Value) = _; rw [Hx1.out]), hb⟩
    · exact oweAs_load 31 (.tmp 13) rfl (F) 31 (bvs r) (fun _ => rfl) (HI5.out.1) Tryd.underlying31 rfl (by rw [bvs_size, hrl]; kernel_rfl) rfl rfl
    · refine oweAs_pure ((.int .i64 (N : Int))) rfl (fun f W hE hd => ?_) (fun W hE => rfl)
      go_simp
    · refine oweAs_pure ((.int .i64 (q : Int))) rfl (fun f W hE hd => ?_) (fun W hE => rfl)
      go_simp
    · refine oweAs_pure ((.slice p1 lp.length c1)) rfl (fun f W hE hd => ?_) (fun W hE => rfl)
      go_simp
    · refine oweAs_pure ((.string (bs lp))) rfl (fun f W hE hd => ?_) (fun W hE => rfl)
      simp only [DepAs, Region.binds, asAt, As.holds, and_true, forall_const] at hd
      have hcv := (HLP.out.keep hE).str Tryd.underlying22 Tryd.underlying5 Tryd.underlying9
      go_simp
    · refine oweAs_pure ((.slice A2 wp.length c2)) rfl (fun f W hE hd => ?_) (fun W hE => rfl)
      go_simp
    · refine oweAs_call 18 rfl (fun f W hE hd => ?_)
      simp only [DepAs, Region.binds, asAt, As.holds, and_true, forall_const] at hd
      refine ⟨_, by (go_simp; first | exact rfl | exact ⟨rfl, rfl⟩), ?_⟩
      refine (refCheck_any r (N : Int) (q : Int) _ lp wp W hrl (HI5.out.2.2.2.1.keep hE) (by omega) (by omega) (by omega) (by have := HWL.out.1; omega)).mono ?_
      rintro e w' ⟨rfl, hb⟩
      exact ⟨_, rfl, by (show (_ : Value) = _; rw [Hx1.out]), hb⟩
    · refine oweAs_pure ((.bool true)) rfl (fun f W hE hd => ?_) (fun W hE => rfl)
      simp only [DepAs, Region.binds, asAt, As.holds, and_true, forall_const] at hd
      go_simp
    · refine oweAs_pure ((.bool true)) rfl (fun f W hE hd => ?_) (fun W hE => rfl)
      simp only [DepAs, Region.binds, asAt, As.holds, and_true, forall_const] at hd
      go_simp
    · exact oweAs_load 31 (.tmp 13) rfl (F) 31 (bvs r) (fun _ => rfl) (HI5.out.1) Tryd.underlying31 rfl (by rw [bvs_size, hrl]; kernel_rfl) rfl rfl
    · refine oweAs_pure ((.int .i64 (N : Int))) rfl (fun f W hE hd => ?_) (fun W hE => rfl)
      go_simp
    · refine oweAs_pure ((.int .i64 (p : Int))) rfl (fun f W hE hd => ?_) (fun W hE => rfl)
      go_simp
    · refine oweAs_pure ((.slice p3 lq.length c3)) rfl (fun f W hE hd => ?_) (fun W hE => rfl)
      go_simp
    · refine oweAs_pure ((.slice A2 wp.length c2)) rfl (fun f W hE hd => ?_) (fun W hE => rfl)
      go_simp
    · refine oweAs_call 17 rfl (fun f W hE hd => ?_)
      simp only [DepAs, Region.binds, asAt, As.holds, and_true, forall_const] at hd
      refine ⟨_, by (go_simp; first | exact rfl | exact ⟨rfl, rfl⟩), ?_⟩
      have hbw := HI5.out.2.1.trans (hE.mono HI5.out.2.1.size)
      refine (check_any r (N : Int) (p : Int) _ _ lq wp W (HT.out W hbw).1 (HT.out W hbw).2 hrl (HLQ.out.keep hE) (HI5.out.2.2.2.1.keep hE) (by omega) (by omega) (by omega) (by have := HWL.out.1; omega)).mono ?_
      rintro e w' ⟨rfl, hb⟩
      exact ⟨_, rfl, by (show (_ : Value) = _; rw [Hx2.out]), hb⟩
    · exact oweAs_load 31 (.tmp 13) rfl (F) 31 (bvs r) (fun _ => rfl) (HI5.out.1) Tryd.underlying31 rfl (by rw [bvs_size, hrl]; kernel_rfl) rfl rfl
    · refine oweAs_pure ((.int .i64 (N : Int))) rfl (fun f W hE hd => ?_) (fun W hE => rfl)
      go_simp
    · refine oweAs_pure ((.int .i64 (p : Int))) rfl (fun f W hE hd => ?_) (fun W hE => rfl)
      go_simp
    · refine oweAs_pure ((.slice p3 lq.length c3)) rfl (fun f W hE hd => ?_) (fun W hE => rfl)
      go_simp
    · refine oweAs_pure ((.string (bs lq))) rfl (fun f W hE hd => ?_) (fun W hE => rfl)
      simp only [DepAs, Region.binds, asAt, As.holds, and_true, forall_const] at hd
      have hcv := (HLQ.out.keep hE).str Tryd.underlying22 Tryd.underlying5 Tryd.underlying9
      go_simp
    · refine oweAs_pure ((.slice A2 wp.length c2)) rfl (fun f W hE hd => ?_) (fun W hE => rfl)
      go_simp
    · refine oweAs_call 18 rfl (fun f W hE hd => ?_)
      simp only [DepAs, Region.binds, asAt, As.holds, and_true, forall_const] at hd
      refine ⟨_, by (go_simp; first | exact rfl | exact ⟨rfl, rfl⟩), ?_⟩
      refine (refCheck_any r (N : Int) (p : Int) _ lq wp W hrl (HI5.out.2.2.2.1.keep hE) (by omega) (by omega) (by omega) (by have := HWL.out.1; omega)).mono ?_
      rintro e w' ⟨rfl, hb⟩
      exact ⟨_, rfl, by (show (_ : Value) = _; rw [Hx2.out]), hb⟩
    · refine oweAs_pure ((.bool true)) rfl (fun f W hE hd => ?_) (fun W hE => rfl)
      simp only [DepAs, Region.binds, asAt, As.holds, and_true, forall_const] at hd
      go_simp
    · refine oweAs_pure ((.bool true)) rfl (fun f W hE hd => ?_) (fun W hE => rfl)
      simp only [DepAs, Region.binds, asAt, As.holds, and_true, forall_const] at hd
      go_simp
    · refine oweAs_pure ((.bool true)) rfl (fun f W hE hd => ?_) (fun W hE => rfl)
      simp only [DepAs, Region.binds, asAt, As.holds, and_true, forall_const] at hd
      go_simp
    intro f W hE hA
    simp only [AllAs, As.holds, Nat.reduceAdd] at hA
    obtain ⟨-, -, -, -, -, -, -, -, -, -, -, -, -, -, -, -, -, -, -, -, -, -, -, -, -, -, -, -, -, -, hA30, -⟩ := hA
    go_wp2_with fail
    go_ret
    exact ⟨congrArg Ending.returned hA30, HI5.out.2.1.trans (hE.mono HI5.out.2.1.size)⟩
  | false =>
    go_upto_region 16 with (fail)
    obtain ⟨x1, hx1⟩ : ∃ c, c = checkF r (N : Int) (q : Int) lp wq := ⟨_, rfl⟩
    obtain ⟨x2, hx2⟩ : ∃ c, c = checkF r (N : Int) (p : Int) lq wq := ⟨_, rfl⟩
    have Hx1 := Lib.hid hx1
    have Hx2 := Lib.hid hx2
    clear hx1 hx2
    refine wp_region_as (ys := [.eq (.agg (bvs r)), .eq (.int .i64 (N : Int)), .eq (.int .i64 (q : Int)), .eq (.slice p1 lp.length c1), .eq (.slice A4 wq.length c4), .eq (.int .i64 (x1 : Int)), .eq (.agg (bvs r)), .eq (.int .i64 (N : Int)), .eq (.int .i64 (q : Int)), .eq (.slice p1 lp.length c1), .eq (.string (bs lp)), .eq (.slice A4 wq.length c4), .eq (.int .i64 (x1 : Int)), .eq (.bool true), .eq (.bool true), .eq (.agg (bvs r)), .eq (.int .i64 (N : Int)), .eq (.int .i64 (p : Int)), .eq (.slice p3 lq.length c3), .eq (.slice A4 wq.length c4), .eq (.int .i64 (x2 : Int)), .eq (.agg (bvs r)), .eq (.int .i64 (N : Int)), .eq (.int .i64 (p : Int)), .eq (.slice p3 lq.length c3), .eq (.string (bs lq)), .eq (.slice A4 wq.length c4), .eq (.int .i64 (x2 : Int)), .eq (.bool true), .eq (.bool true), .eq (.bool true)]) (by kernel_rfl) (by kernel_rfl) (by kernel_rfl) (by kernel_rfl) rfl _ (fun f => by simp only [framedL, Act.put, List.setIfInBounds_toArray, List.set_cons_zero, List.set_cons_succ, Nat.reduceAdd]; rfl) ⟨?_, ?_, ?_, ?_, ?_, ?_, ?_, ?_, ?_, ?_, ?_, ?_, ?_, ?_, ?_, ?_, ?_, ?_, ?_, ?_, ?_, ?_, ?_, ?_, ?_, ?_, ?_, ?_, ?_, ?_, ?_, trivial⟩ ?_
    · exact oweAs_load 31 (.tmp 13) rfl (F) 31 (bvs r) (fun _ => rfl) (HI5.out.1) Tryd.underlying31 rfl (by rw [bvs_size, hrl]; kernel_rfl) rfl rfl
    · refine oweAs_pure ((.int .i64 (N : Int))) rfl (fun f W hE hd => ?_) (fun W hE => rfl)
      go_simp
    · refine oweAs_pure ((.int .i64 (q : Int))) rfl (fun f W hE hd => ?_) (fun W hE => rfl)
      go_simp
    · refine oweAs_pure ((.slice p1 lp.length c1)) rfl (fun f W hE hd => ?_) (fun W hE => rfl)
      go_simp
    · refine oweAs_pure ((.slice A4 wq.length c4)) rfl (fun f W hE hd => ?_) (fun W hE => rfl)
      go_simp
    · refine oweAs_call 17 rfl (fun f W hE hd => ?_)
      simp only [DepAs, Region.binds, asAt, As.holds, and_true, forall_const] at hd
      refine ⟨_, by (go_simp; first | exact rfl | exact ⟨rfl, rfl⟩), ?_⟩
      have hbw := HI5.out.2.1.trans (hE.mono HI5.out.2.1.size)
      refine (check_any r (N : Int) (q : Int) _ _ lp wq W (HT.out W hbw).1 (HT.out W hbw).2 hrl (HLP.out.keep hE) (HI5.out.2.2.2.2.2.keep hE) (by omega) (by omega) (by omega) (by have := HWL.out.2; omega)).mono ?_
      rintro e w' ⟨rfl, hb⟩
      exact ⟨_, rfl, by (show (_ : Value) = _; rw [Hx1.out]), hb⟩
    · exact oweAs_load 31 (.tmp 13) rfl (F) 31 (bvs r) (fun _ => rfl) (HI5.out.1) Tryd.underlying31 rfl (by rw [bvs_size, hrl]; kernel_rfl) rfl rfl
    · refine oweAs_pure ((.int .i64 (N : Int))) rfl (fun f W hE hd => ?_) (fun W hE => rfl)
      go_simp
    · refine oweAs_pure ((.int .i64 (q : Int))) rfl (fun f W hE hd => ?_) (fun W hE => rfl)
      go_simp
    · refine oweAs_pure ((.slice p1 lp.length c1)) rfl (fun f W hE hd => ?_) (fun W hE => rfl)
      go_simp
    · refine oweAs_pure ((.string (bs lp))) rfl (fun f W hE hd => ?_) (fun W hE => rfl)
      simp only [DepAs, Region.binds, asAt, As.holds, and_true, forall_const] at hd
      have hcv := (HLP.out.keep hE).str Tryd.underlying22 Tryd.underlying5 Tryd.underlying9
      go_simp
    · refine oweAs_pure ((.slice A4 wq.length c4)) rfl (fun f W hE hd => ?_) (fun W hE => rfl)
      go_simp
    · refine oweAs_call 18 rfl (fun f W hE hd => ?_)
      simp only [DepAs, Region.binds, asAt, As.holds, and_true, forall_const] at hd
      refine ⟨_, by (go_simp; first | exact rfl | exact ⟨rfl, rfl⟩), ?_⟩
      refine (refCheck_any r (N : Int) (q : Int) _ lp wq W hrl (HI5.out.2.2.2.2.2.keep hE) (by omega) (by omega) (by omega) (by have := HWL.out.2; omega)).mono ?_
      rintro e w' ⟨rfl, hb⟩
      exact ⟨_, rfl, by (show (_ : Value) = _; rw [Hx1.out]), hb⟩
    · refine oweAs_pure ((.bool true)) rfl (fun f W hE hd => ?_) (fun W hE => rfl)
      simp only [DepAs, Region.binds, asAt, As.holds, and_true, forall_const] at hd
      go_simp
    · refine oweAs_pure ((.bool true)) rfl (fun f W hE hd => ?_) (fun W hE => rfl)
      simp only [DepAs, Region.binds, asAt, As.holds, and_true, forall_const] at hd
      go_simp
    · exact oweAs_load 31 (.tmp 13) rfl (F) 31 (bvs r) (fun _ => rfl) (HI5.out.1) Tryd.underlying31 rfl (by rw [bvs_size, hrl]; kernel_rfl) rfl rfl
    · refine oweAs_pure ((.int .i64 (N : Int))) rfl (fun f W hE hd => ?_) (fun W hE => rfl)
      go_simp
    · refine oweAs_pure ((.int .i64 (p : Int))) rfl (fun f W hE hd => ?_) (fun W hE => rfl)
      go_simp
    · refine oweAs_pure ((.slice p3 lq.length c3)) rfl (fun f W hE hd => ?_) (fun W hE => rfl)
      go_simp
    · refine oweAs_pure ((.slice A4 wq.length c4)) rfl (fun f W hE hd => ?_) (fun W hE => rfl)
      go_simp
    · refine oweAs_call 17 rfl (fun f W hE hd => ?_)
      simp only [DepAs, Region.binds, asAt, As.holds, and_true, forall_const] at hd
      refine ⟨_, by (go_simp; first | exact rfl | exact ⟨rfl, rfl⟩), ?_⟩
      have hbw := HI5.out.2.1.trans (hE.mono HI5.out.2.1.size)
      refine (check_any r (N : Int) (p : Int) _ _ lq wq W (HT.out W hbw).1 (HT.out W hbw).2 hrl (HLQ.out.keep hE) (HI5.out.2.2.2.2.2.keep hE) (by omega) (by omega) (by omega) (by have := HWL.out.2; omega)).mono ?_
      rintro e w' ⟨rfl, hb⟩
      exact ⟨_, rfl, by (show (_ : Value) = _; rw [Hx2.out]), hb⟩
    · exact oweAs_load 31 (.tmp 13) rfl (F) 31 (bvs r) (fun _ => rfl) (HI5.out.1) Tryd.underlying31 rfl (by rw [bvs_size, hrl]; kernel_rfl) rfl rfl
    · refine oweAs_pure ((.int .i64 (N : Int))) rfl (fun f W hE hd => ?_) (fun W hE => rfl)
      go_simp
    · refine oweAs_pure ((.int .i64 (p : Int))) rfl (fun f W hE hd => ?_) (fun W hE => rfl)
      go_simp
    · refine oweAs_pure ((.slice p3 lq.length c3)) rfl (fun f W hE hd => ?_) (fun W hE => rfl)
      go_simp
    · refine oweAs_pure ((.string (bs lq))) rfl (fun f W hE hd => ?_) (fun W hE => rfl)
      simp only [DepAs, Region.binds, asAt, As.holds, and_true, forall_const] at hd
      have hcv := (HLQ.out.keep hE).str Tryd.underlying22 Tryd.underlying5 Tryd.underlying9
      go_simp
    · refine oweAs_pure ((.slice A4 wq.length c4)) rfl (fun f W hE hd => ?_) (fun W hE => rfl)
      go_simp
    · refine oweAs_call 18 rfl (fun f W hE hd => ?_)
      simp only [DepAs, Region.binds, asAt, As.holds, and_true, forall_const] at hd
      refine ⟨_, by (go_simp; first | exact rfl | exact ⟨rfl, rfl⟩), ?_⟩
      refine (refCheck_any r (N : Int) (p : Int) _ lq wq W hrl (HI5.out.2.2.2.2.2.keep hE) (by omega) (by omega) (by omega) (by have := HWL.out.2; omega)).mono ?_
      rintro e w' ⟨rfl, hb⟩
      exact ⟨_, rfl, by (show (_ : Value) = _; rw [Hx2.out]), hb⟩
    · refine oweAs_pure ((.bool true)) rfl (fun f W hE hd => ?_) (fun W hE => rfl)
      simp only [DepAs, Region.binds, asAt, As.holds, and_true, forall_const] at hd
      go_simp
    · refine oweAs_pure ((.bool true)) rfl (fun f W hE hd => ?_) (fun W hE => rfl)
      simp only [DepAs, Region.binds, asAt, As.holds, and_true, forall_const] at hd
      go_simp
    · refine oweAs_pure ((.bool true)) rfl (fun f W hE hd => ?_) (fun W hE => rfl)
      simp only [DepAs, Region.binds, asAt, As.holds, and_true, forall_const] at hd
      go_simp
    intro f W hE hA
    simp only [AllAs, As.holds, Nat.reduceAdd] at hA
    obtain ⟨-, -, -, -, -, -, -, -, -, -, -, -, -, -, -, -, -, -, -, -, -, -, -, -, -, -, -, -, -, -, hA30, -⟩ := hA
    go_wp2_with fail
    go_ret
    exact ⟨congrArg Ending.returned hA30, HI5.out.2.1.trans (hE.mono HI5.out.2.1.size)⟩
end Go.Proofs.YtofbfkkncjcodaaDoor
