/-
  The walk of the law ProofHolds.
-/
import Derived.Test.YtofbfkkncjcodaaDoorPv6
import Derived.Test.YtofbfkkncjcodaaDoorGE
namespace Go.Proofs.YtofbfkkncjcodaaDoor
open Go Go.RowKit
set_option linter.unusedSimpArgs false
set_option linter.unusedVariables false

set_option maxRecDepth 100000 in
set_option maxHeartbeats 4000000 in
theorem proofHolds_any (v : Value) (b : List UInt8) (i : Nat) (a x : UInt8) (other : Int) (w : World) (hT : Tab w) (h0 : 0 < w.heap.size) (hl : HB w v b) (hi : i < 65536) (hot : other ≤ 9223372036854775807) :
    Calls Tryd.prog 5 #[v, .int .u16 (i : Int), .int .u8 (a.toNat : Int), .int .u8 (x.toNat : Int), .int .i64 other] w fun e w' => e = .returned (.bool true) ∧ Below w.heap.size w w' := by
  have hanb := a.toNat_lt
  generalize a.toNat = an at *
  obtain ⟨i8, hi8, hz8, hsz8, hby8⟩ := info8
  have HI8 := Lib.hid hi8; clear hi8
  have HT : Hid (∀ W, Below w.heap.size w W → Tab W ∧ 0 < W.heap.size) := Lib.hid (fun W hb => ⟨hT.below hb h0, by have := hb.size; omega⟩)
  obtain ⟨pl, cl, rfl, hlc, hlm⟩ := hl.form
  unfold maxLen at hlm
  have HL := Lib.hid hl
  clear hl hT
  obtain ⟨r, hr⟩ : ∃ r, r = rootF b := ⟨_, rfl⟩
  have hrl : r.length = 32 := by rw [hr]; exact rootF_length _
  have hrz : (bvs r).size = 32 := by rw [bvs_size]; exact hrl
  obtain ⟨N, hN⟩ : ∃ N, N = nlF b.length := ⟨_, rfl⟩
  have hN1 : 1 ≤ N := by rw [hN]; unfold nlF; omega
  obtain ⟨p, hp⟩ : ∃ p, p = i % N := ⟨_, rfl⟩
  have hpN : p < N := by rw [hp]; exact Nat.mod_lt _ hN1
  have hpi : (i : Int) % (N : Int) = (p : Int) := by rw [hp]; simp
  obtain ⟨lp, hlp⟩ : ∃ x, x = leafF b p := ⟨_, rfl⟩
  obtain ⟨wp, hwp⟩ : ∃ x, x = wayF (rowF b) p := ⟨_, rfl⟩
  have HPP : Hid (proveF b (p : Int) = (lp, wp, 0)) := Lib.hid (by rw [prove_in (by rw [← hN]; exact hpN), hlp, hwp])
  have HCK : Hid (checkF r (N : Int) (p : Int) lp wp = 0) := Lib.hid (by
    rw [hr, hN, hlp, hwp]
    exact check_prove (by rw [← hN]; exact hpN))
  have hlpl : lp.length ≤ 64 := by rw [hlp]; exact leafF_length _ _
  have HRR := Lib.hid (And.intro hr hN)
  have HWP := Lib.hid hwp
  have HNZ : Hid (N = nlF b.length) := Lib.hid hN
  clear hr hp hlp hwp
  by_cases h1 : (1000 : Int) < (b.length : Int)
  · clear hN
    go_enter Tryd.func5, Tryd.ntmps5
    go_wp2_with (
      (go_at_call 9
       refine (awake6_any _ (HT.out _ (Below.refl _ _)).1 (HT.out _ (Below.refl _ _)).2).mono ?_
       rintro e w1 ⟨rfl, hb1⟩
       have HB1 := Lib.hid hb1
       clear hb1))
    go_ret
    exact ⟨rfl, HB1.out⟩
  have hb1k : b.length ≤ 1000 := by omega
  have hN16 : N ≤ 16 := by rw [hN]; unfold nlF; omega
  have HWL : Hid (wp.length ≤ 16) := Lib.hid (by rw [HWP.out]; exact way_le (by omega) (by omega))
  have hNz : ¬ (N : Int) = 0 := by omega
  clear hN
  go_enter Tryd.func5, Tryd.ntmps5
  go_wp2_with (
    (go_at_call 9
     refine (awake6_any _ (HT.out _ (Below.refl _ _)).1 (HT.out _ (Below.refl _ _)).2).mono ?_
     rintro e w1 ⟨rfl, hb1⟩
     have HB1 := Lib.hid hb1
     clear hb1))
  refine (leaves_any _ b w1 (HL.out.keep HB1.out) (by omega)).mono ?_
  rintro e w1' ⟨rfl, rfl⟩
  rw [← HNZ.out]
  go_wp2_with fail
  refine (prove_any _ b (p : Int) w1 (HT.out _ HB1.out).1 (HT.out _ HB1.out).2 (HL.out.keep HB1.out) (by omega)).mono ?_
  rintro e w2 ⟨v1, v2, rfl, hl2, hr2, hb2⟩
  rw [HPP.out] at hl2 hr2 ⊢
  obtain ⟨p1, c1, rfl, -, -⟩ := hl2.form
  obtain ⟨A2, c2, rfl⟩ := hr2.form
  have HI2 : Hid (Below w.heap.size w w2 ∧ HB w2 (.slice p1 lp.length c1) lp ∧ IdR w2 w1.heap.size (.slice A2 wp.length c2) wp.length wp) := Lib.hid ⟨HB1.out.trans (hb2.mono HB1.out.size), hl2, hr2⟩
  clear hl2 hr2 hb2 HB1
  go_wp2_with fail
  refine (root_any _ b w2 (HT.out _ HI2.out.1).1 (HT.out _ HI2.out.1).2 (HL.out.keep HI2.out.1) (by omega)).mono ?_
  rintro e w3 ⟨rfl, hb3⟩
  rw [← HRR.out.1]
  have HI3 : Hid (Below w.heap.size w w3 ∧ HB w3 (.slice p1 lp.length c1) lp ∧ IdR w3 w1.heap.size (.slice A2 wp.length c2) wp.length wp) := Lib.hid ⟨HI2.out.1.trans (hb3.mono HI2.out.1.size), HI2.out.2.1.keep hb3, HI2.out.2.2.keep hb3⟩
  clear hb3 HI2
  go_wp2_with (first
    | (refine wpList_store_blk rfl 31 (.tmp 17) (.tmp 39) rfl w3.heap.size 31 _ (bvs r) rfl rfl (Blk.new _ _ _) (by rw [hrz]; rfl) (by rw [hrz]; kernel_rfl) (bvs_one _) ?_
       intro w4 hb4 hg4 hz4
       have hBV : Below w3.heap.size w3 w4 := ((Below.refl w3.heap.size w3).alloc (Nat.le_refl _) _).grown hg4 (by simp) (by intro k hk; injection hk with hk; omega)
       have HI4 : Hid (Blk w4 w3.heap.size 31 (bvs r) ∧ Below w.heap.size w w4 ∧ HB w4 (.slice p1 lp.length c1) lp ∧ IdR w4 w1.heap.size (.slice A2 wp.length c2) wp.length wp) := Lib.hid ⟨hb4, HI3.out.1.trans (hBV.mono HI3.out.1.size), HI3.out.2.1.keep hBV, HI3.out.2.2.keep hBV⟩
       clear hb4 hg4 hz4 hBV HI3)
    | (refine wpList_load_blk_g rfl 31 (.tmp 17) rfl w3.heap.size 31 (bvs r) rfl HI4.out.1 Tryd.underlying31 rfl (by rw [hrz]; kernel_rfl) ?_))
  obtain ⟨F, hF⟩ : ∃ F, F = w3.heap.size := ⟨_, rfl⟩
  rw [← hF] at HI4 ⊢
  clear hF
  refine (check_any r (N : Int) (p : Int) _ _ lp wp w4 (HT.out _ HI4.out.2.1).1 (HT.out _ HI4.out.2.1).2 hrl HI4.out.2.2.1 HI4.out.2.2.2.ids (by omega) (by omega) (by omega) (by have := HWL.out; omega)).mono ?_
  rintro e w5 ⟨rfl, hb5⟩
  rw [HCK.out]
  have HI5 : Hid (Blk w5 F 31 (bvs r) ∧ Below w.heap.size w w5 ∧ HB w5 (.slice p1 lp.length c1) lp ∧ IdR w5 w1.heap.size (.slice A2 wp.length c2) wp.length wp) := Lib.hid ⟨HI4.out.1.below hb5 HI4.out.1.lt, HI4.out.2.1.trans (hb5.mono HI4.out.2.1.size), HI4.out.2.2.1.keep hb5, HI4.out.2.2.2.keep hb5⟩
  have hsz5 := HI4.out.2.1.size
  have hsz55 := HI5.out.2.1.size
  clear hb5 HI4
  by_cases hL0 : lp.length = 0
  · have hL0i : (lp.length : Int) = 0 := by omega
    have hL1 : ¬ (0 : Int) < (lp.length : Int) := by omega
    have HL0 := Lib.hid hL0
    clear hL0 hL0i
    go_wp2_with (
    (at_builtin
     refine wpList_append_hb rfl (.tmp 51) (.tmp 52) 22 rfl w.heap.size 5 i8 Tryd.underlying22 HI8.out hz8 hsz8 hby8 (.slice none 0 0) (.slice p1 lp.length c1) [] lp 0 rfl (World.ownsRow_nil _ _ _ _) rfl HI5.out.2.2.1 (by omega) hsz55 ?_
     intro v6 w6 ho6 hg6
     rw [Nat.zero_add, List.nil_append] at ho6
     have hB6 : Below w5.heap.size w5 w6 := (Below.refl _ _).grown hg6 (Nat.le_refl _) (by intro k hk; cases hk)
     have HI6 : Hid (Blk w6 F 31 (bvs r) ∧ Below w.heap.size w w6 ∧ True ∧ IdR w6 w1.heap.size (.slice A2 wp.length c2) wp.length wp) := Lib.hid ⟨HI5.out.1.below hB6 HI5.out.1.lt, HI5.out.2.1.trans (hB6.mono HI5.out.2.1.size), trivial, HI5.out.2.2.2.keep hB6⟩
     obtain ⟨A6, c6, rfl⟩ := own_form ho6
     have HM : Hid (HB w6 (.slice A6 lp.length c6) lp) := Lib.hid (own_hb ho6 rfl)
     clear ho6 hg6 hB6 HI5))
    go_upto_region 16 with (fail)
    obtain ⟨x1, hx1⟩ : ∃ c, c = checkF r (N : Int) other lp wp := ⟨_, rfl⟩
    obtain ⟨x2, hx2⟩ : ∃ c, c = checkF r ((N : Int) + 1) (p : Int) lp wp := ⟨_, rfl⟩
    have Hx1 := Lib.hid hx1
    have Hx2 := Lib.hid hx2
    clear hx1 hx2
    refine wp_region_as (ys := [.eq (.agg (bvs r)), .eq (.int .i64 (N : Int)), .eq (.int .i64 other), .eq (.slice A6 lp.length c6), .eq (.slice A2 wp.length c2), .eq (.int .i64 (x1 : Int)), .eq (.agg (bvs r)), .eq (.int .i64 (N : Int)), .eq (.int .i64 other), .eq (.slice A6 lp.length c6), .eq (.string (bs lp)), .eq (.slice A2 wp.length c2), .eq (.int .i64 (x1 : Int)), .eq (.bool true), .eq (.bool true), .eq (.agg (bvs r)), .eq (.int .i64 (N : Int)), .eq (.int .i64 ((N : Int) + 1)), .eq (.int .i64 (p : Int)), .eq (.slice A6 lp.length c6), .eq (.slice A2 wp.length c2), .eq (.int .i64 (x2 : Int)), .eq (.agg (bvs r)), .eq (.int .i64 (N : Int)), .eq (.int .i64 ((N : Int) + 1)), .eq (.int .i64 (p : Int)), .eq (.slice A6 lp.length c6), .eq (.string (bs lp)), .eq (.slice A2 wp.length c2), .eq (.int .i64 (x2 : Int)), .eq (.bool true), .eq (.bool true), .eq (.bool true)]) (by kernel_rfl) (by kernel_rfl) (by kernel_rfl) (by kernel_rfl) rfl _ (fun f => by simp only [framedL, Act.put, List.setIfInBounds_toArray, List.set_cons_zero, List.set_cons_succ, Nat.reduceAdd]; rfl) ⟨?_, ?_, ?_, ?_, ?_, ?_, ?_, ?_, ?_, ?_, ?_, ?_, ?_, ?_, ?_, ?_, ?_, ?_, ?_, ?_, ?_, ?_, ?_, ?_, ?_, ?_, ?_, ?_, ?_, ?_, ?_, ?_, ?_, trivial⟩ ?_
    · exact oweAs_load 31 (.tmp 17) rfl (F) 31 (bvs r) (fun _ => rfl) (HI6.out.1) Tryd.underlying31 rfl (by rw [bvs_size, hrl]; kernel_rfl) rfl rfl
    · refine oweAs_pure ((.int .i64 (N : Int))) rfl (fun f W hE hd => ?_) (fun W hE => rfl)
      simp only [DepAs, Region.binds, asAt, As.holds, and_true, forall_const] at hd
      go_simp
    · refine oweAs_pure ((.int .i64 other)) rfl (fun f W hE hd => ?_) (fun W hE => rfl)
      go_simp
    · refine oweAs_pure ((.slice A6 lp.length c6)) rfl (fun f W hE hd => ?_) (fun W hE => rfl)
      go_simp
    · refine oweAs_pure ((.slice A2 wp.length c2)) rfl (fun f W hE hd => ?_) (fun W hE => rfl)
      go_simp
    · refine oweAs_call 17 rfl (fun f W hE hd => ?_)
      simp only [DepAs, Region.binds, asAt, As.holds, and_true, forall_const] at hd
      refine ⟨_, by (go_simp; first | exact rfl | exact ⟨rfl, rfl⟩), ?_⟩
      have hbw := HI6.out.2.1.trans (hE.mono HI6.out.2.1.size)
      refine (check_any r (N : Int) other _ _ lp wp W (HT.out W hbw).1 (HT.out W hbw).2 hrl (HM.out.keep hE) (HI6.out.2.2.2.keep hE).ids (by omega) (by omega) (by omega) (by have := HWL.out; omega)).mono ?_
      rintro e w' ⟨rfl, hb⟩
      exact ⟨_, rfl, by (show (_ : Value) = _; rw [Hx1.out]), hb⟩
    · exact oweAs_load 31 (.tmp 17) rfl (F) 31 (bvs r) (fun _ => rfl) (HI6.out.1) Tryd.underlying31 rfl (by rw [bvs_size, hrl]; kernel_rfl) rfl rfl
    · refine oweAs_pure ((.int .i64 (N : Int))) rfl (fun f W hE hd => ?_) (fun W hE => rfl)
      simp only [DepAs, Region.binds, asAt, As.holds, and_true, forall_const] at hd
      go_simp
    · refine oweAs_pure ((.int .i64 other)) rfl (fun f W hE hd => ?_) (fun W hE => rfl)
      go_simp
    · refine oweAs_pure ((.slice A6 lp.length c6)) rfl (fun f W hE hd => ?_) (fun W hE => rfl)
      go_simp
    · refine oweAs_pure ((.string (bs lp))) rfl (fun f W hE hd => ?_) (fun W hE => rfl)
      simp only [DepAs, Region.binds, asAt, As.holds, and_true, forall_const] at hd
      have hcv := (HM.out.keep hE).str Tryd.underlying22 Tryd.underlying5 Tryd.underlying9
      go_simp
    · refine oweAs_pure ((.slice A2 wp.length c2)) rfl (fun f W hE hd => ?_) (fun W hE => rfl)
      go_simp
    · refine oweAs_call 18 rfl (fun f W hE hd => ?_)
      simp only [DepAs, Region.binds, asAt, As.holds, and_true, forall_const] at hd
      refine ⟨_, by (go_simp; first | exact rfl | exact ⟨rfl, rfl⟩), ?_⟩
      refine (refCheck_any r (N : Int) other _ lp wp W hrl (HI6.out.2.2.2.keep hE).ids (by omega) (by omega) (by omega) (by have := HWL.out; omega)).mono ?_
      rintro e w' ⟨rfl, hb⟩
      exact ⟨_, rfl, by (show (_ : Value) = _; rw [Hx1.out]), hb⟩
    · refine oweAs_pure ((.bool true)) rfl (fun f W hE hd => ?_) (fun W hE => rfl)
      simp only [DepAs, Region.binds, asAt, As.holds, and_true, forall_const] at hd
      go_simp
    · refine oweAs_pure ((.bool true)) rfl (fun f W hE hd => ?_) (fun W hE => rfl)
      simp only [DepAs, Region.binds, asAt, As.holds, and_true, forall_const] at hd
      go_simp
    · exact oweAs_load 31 (.tmp 17) rfl (F) 31 (bvs r) (fun _ => rfl) (HI6.out.1) Tryd.underlying31 rfl (by rw [bvs_size, hrl]; kernel_rfl) rfl rfl
    · refine oweAs_pure ((.int .i64 (N : Int))) rfl (fun f W hE hd => ?_) (fun W hE => rfl)
      go_simp
    · refine oweAs_pure ((.int .i64 ((N : Int) + 1))) rfl (fun f W hE hd => ?_) (fun W hE => rfl)
      simp only [DepAs, Region.binds, asAt, As.holds, and_true, forall_const] at hd
      have hw : IntKind.i64.wrap ((N : Int) + 1) = (N : Int) + 1 := by rw [IntKind.wrap_i64]; omega
      go_simp
    · refine oweAs_pure ((.int .i64 (p : Int))) rfl (fun f W hE hd => ?_) (fun W hE => rfl)
      go_simp
    · refine oweAs_pure ((.slice A6 lp.length c6)) rfl (fun f W hE hd => ?_) (fun W hE => rfl)
      go_simp
    · refine oweAs_pure ((.slice A2 wp.length c2)) rfl (fun f W hE hd => ?_) (fun W hE => rfl)
      go_simp
    · refine oweAs_call 17 rfl (fun f W hE hd => ?_)
      simp only [DepAs, Region.binds, asAt, As.holds, and_true, forall_const] at hd
      refine ⟨_, by (go_simp; first | exact rfl | exact ⟨rfl, rfl⟩), ?_⟩
      have hbw := HI6.out.2.1.trans (hE.mono HI6.out.2.1.size)
      refine (check_any r ((N : Int) + 1) (p : Int) _ _ lp wp W (HT.out W hbw).1 (HT.out W hbw).2 hrl (HM.out.keep hE) (HI6.out.2.2.2.keep hE).ids (by omega) (by omega) (by omega) (by have := HWL.out; omega)).mono ?_
      rintro e w' ⟨rfl, hb⟩
      exact ⟨_, rfl, by (show (_ : Value) = _; rw [Hx2.out]), hb⟩
    · exact oweAs_load 31 (.tmp 17) rfl (F) 31 (bvs r) (fun _ => rfl) (HI6.out.1) Tryd.underlying31 rfl (by rw [bvs_size, hrl]; kernel_rfl) rfl rfl
    · refine oweAs_pure ((.int .i64 (N : Int))) rfl (fun f W hE hd => ?_) (fun W hE => rfl)
      go_simp
    · refine oweAs_pure ((.int .i64 ((N : Int) + 1))) rfl (fun f W hE hd => ?_) (fun W hE => rfl)
      simp only [DepAs, Region.binds, asAt, As.holds, and_true, forall_const] at hd
      have hw : IntKind.i64.wrap ((N : Int) + 1) = (N : Int) + 1 := by rw [IntKind.wrap_i64]; omega
      go_simp
    · refine oweAs_pure ((.int .i64 (p : Int))) rfl (fun f W hE hd => ?_) (fun W hE => rfl)
      go_simp
    · refine oweAs_pure ((.slice A6 lp.length c6)) rfl (fun f W hE hd => ?_) (fun W hE => rfl)
      go_simp
    · refine oweAs_pure ((.string (bs lp))) rfl (fun f W hE hd => ?_) (fun W hE => rfl)
      simp only [DepAs, Region.binds, asAt, As.holds, and_true, forall_const] at hd
      have hcv := (HM.out.keep hE).str Tryd.underlying22 Tryd.underlying5 Tryd.underlying9
      go_simp
    · refine oweAs_pure ((.slice A2 wp.length c2)) rfl (fun f W hE hd => ?_) (fun W hE => rfl)
      go_simp
    · refine oweAs_call 18 rfl (fun f W hE hd => ?_)
      simp only [DepAs, Region.binds, asAt, As.holds, and_true, forall_const] at hd
      refine ⟨_, by (go_simp; first | exact rfl | exact ⟨rfl, rfl⟩), ?_⟩
      refine (refCheck_any r ((N : Int) + 1) (p : Int) _ lp wp W hrl (HI6.out.2.2.2.keep hE).ids (by omega) (by omega) (by omega) (by have := HWL.out; omega)).mono ?_
      rintro e w' ⟨rfl, hb⟩
      exact ⟨_, rfl, by (show (_ : Value) = _; rw [Hx2.out]), hb⟩
    · refine oweAs_pure ((.bool true)) rfl (fun f W hE hd => ?_) (fun W hE => rfl)
      simp only [DepAs, Region.binds, asAt, As.holds, and_true, forall_const] at hd
      go_simp
    · refine oweAs_pure ((.bool true)) rfl (fun f W hE hd => ?_) (fun W hE => rfl)
      simp only [DepAs, Region.binds, asAt, As.holds, and_true, forall_const] at hd
      go_simp
    · refine oweAs_pure ((.bool true)) rfl (fun f W hE hd => ?_) (fun W hE => rfl)
      simp only [DepAs, Region.binds, asAt, As.holds, and_true, forall_const] at hd
      go_simp
    intro f W hE hA
    simp only [AllAs, As.holds, Nat.reduceAdd] at hA
    obtain ⟨-, -, -, -, -, -, -, -, -, -, -, -, -, -, -, -, -, -, -, -, -, -, -, -, -, -, -, -, -, -, -, -, hA32, -⟩ := hA
    go_wp2_with fail
    go_ret
    exact ⟨congrArg Ending.returned hA32, HI6.out.2.1.trans (hE.mono HI6.out.2.1.size)⟩
  · have hL1 : (0 : Int) < (lp.length : Int) := by omega
    have hLz : ¬ (lp.length : Int) = 0 := by omega
    obtain ⟨j, hj⟩ : ∃ j, j = an % lp.length := ⟨_, rfl⟩
    have hjL : j < lp.length := by rw [hj]; exact Nat.mod_lt _ (by omega)
    have haj : (an : Int) % (lp.length : Int) = (j : Int) := by rw [hj]; simp
    have hjLi : (j : Int) < (lp.length : Int) := by omega
    have hj0 : ¬ (j : Int) < 0 := by omega
    clear hj hL0
    go_wp2_with (
    (at_builtin
     refine wpList_append_hb rfl (.tmp 51) (.tmp 52) 22 rfl w.heap.size 5 i8 Tryd.underlying22 HI8.out hz8 hsz8 hby8 (.slice none 0 0) (.slice p1 lp.length c1) [] lp 0 rfl (World.ownsRow_nil _ _ _ _) rfl HI5.out.2.2.1 (by omega) hsz55 ?_
     intro v6 w6 ho6 hg6
     rw [Nat.zero_add, List.nil_append] at ho6
     have hB6 : Below w5.heap.size w5 w6 := (Below.refl _ _).grown hg6 (Nat.le_refl _) (by intro k hk; cases hk)
     have HI6 : Hid (Blk w6 F 31 (bvs r) ∧ Below w.heap.size w w6 ∧ True ∧ IdR w6 w1.heap.size (.slice A2 wp.length c2) wp.length wp) := Lib.hid ⟨HI5.out.1.below hB6 HI5.out.1.lt, HI5.out.2.1.trans (hB6.mono HI5.out.2.1.size), trivial, HI5.out.2.2.2.keep hB6⟩
     obtain ⟨gb, c6, rr, rfl, hgb, hcl, hcm, hcr, hblk⟩ := own_bytes ho6 rfl (by omega)
     have c0 := hblk.rbyte (i := j) (by omega)
     have f0 := hblk.frozen j
     have HG6 : Hid (w.heap.size ≤ gb ∧ c6 = lp.length + rr.length ∧ c6 ≤ maxLen ∧ Blk w6 gb 5 (bvr lp rr)) := Lib.hid ⟨hgb, hcr, hcm, hblk⟩
     clear hgb hcr hblk hcl hcm
     clear ho6 hg6 hB6 HI5))
    go_upto_region 16 with (fail)
    have e5 := xor8_rule (at8 lp j) x
    rw [e5]
    obtain ⟨w7, hw7⟩ : ∃ w7, w7 = w6.setCell ⟨gb, j, none⟩ (.int .u8 ((at8 lp j ^^^ x).toNat : Int)) := ⟨_, rfl⟩
    rw [← hw7]
    obtain ⟨m, hm⟩ : ∃ m, m = lp.set j (at8 lp j ^^^ x) := ⟨_, rfl⟩
    have hml : m.length = lp.length := by rw [hm, List.length_set]
    have HX7 : Hid ((Blk w7 F 31 (bvs r) ∧ Below w.heap.size w w7 ∧ True ∧ IdR w7 w1.heap.size (.slice A2 wp.length c2) wp.length wp) ∧ HB w7 (.slice (some ⟨gb, 0, none⟩) lp.length c6) m) := Lib.hid (by
      have hG : w6.grownBy w7 (some gb) := by rw [hw7]; exact Only.store (p := ⟨gb, j, none⟩) (World.grownBy.refl w6 (some gb)) (.inl rfl) _
      have hS := HG6.out.2.2.2.rbyte_store (at8 lp j ^^^ x) hjL
      rw [← hw7, ← hm] at hS
      refine ⟨⟨HI6.out.1.grown hG (by intro e; injection e with e; exact blk_ne HI6.out.1 HG6.out.2.2.2 (by decide) e), HI6.out.2.1.grown hG HI6.out.2.1.size (by intro k hk; injection hk with hk; have := HG6.out.1; omega), trivial, ⟨HI6.out.2.2.2.1.kept hG (.inr (fun e => own_ne_blk HI6.out.2.2.2.1 HG6.out.2.2.2 (by decide) e.symm)), HI6.out.2.2.2.2⟩⟩, ?_⟩
      exact own_hb (own_bytes_mk (n := lp.length) (Nat.zero_le gb) hS hml.symm HG6.out.2.1 HG6.out.2.2.1) hml.symm)
    have HI7 := Lib.hid HX7.out.1
    have HM := Lib.hid HX7.out.2
    rw [← hml] at HM ⊢
    have hm64 : m.length ≤ 64 := by omega
    clear hml e5 hw7 hm c0 f0 HI6 HX7
    obtain ⟨x1, hx1⟩ : ∃ c, c = checkF r (N : Int) other m wp := ⟨_, rfl⟩
    obtain ⟨x2, hx2⟩ : ∃ c, c = checkF r ((N : Int) + 1) (p : Int) m wp := ⟨_, rfl⟩
    have Hx1 := Lib.hid hx1
    have Hx2 := Lib.hid hx2
    clear hx1 hx2
    refine wp_region_as (ys := [.eq (.agg (bvs r)), .eq (.int .i64 (N : Int)), .eq (.int .i64 other), .eq (.slice (some ⟨gb, 0, none⟩) m.length c6), .eq (.slice A2 wp.length c2), .eq (.int .i64 (x1 : Int)), .eq (.agg (bvs r)), .eq (.int .i64 (N : Int)), .eq (.int .i64 other), .eq (.slice (some ⟨gb, 0, none⟩) m.length c6), .eq (.string (bs m)), .eq (.slice A2 wp.length c2), .eq (.int .i64 (x1 : Int)), .eq (.bool true), .eq (.bool true), .eq (.agg (bvs r)), .eq (.int .i64 (N : Int)), .eq (.int .i64 ((N : Int) + 1)), .eq (.int .i64 (p : Int)), .eq (.slice (some ⟨gb, 0, none⟩) m.length c6), .eq (.slice A2 wp.length c2), .eq (.int .i64 (x2 : Int)), .eq (.agg (bvs r)), .eq (.int .i64 (N : Int)), .eq (.int .i64 ((N : Int) + 1)), .eq (.int .i64 (p : Int)), .eq (.slice (some ⟨gb, 0, none⟩) m.length c6), .eq (.string (bs m)), .eq (.slice A2 wp.length c2), .eq (.int .i64 (x2 : Int)), .eq (.bool true), .eq (.bool true), .eq (.bool true)]) (by kernel_rfl) (by kernel_rfl) (by kernel_rfl) (by kernel_rfl) rfl _ (fun f => by simp only [framedL, Act.put, List.setIfInBounds_toArray, List.set_cons_zero, List.set_cons_succ, Nat.reduceAdd]; rfl) ⟨?_, ?_, ?_, ?_, ?_, ?_, ?_, ?_, ?_, ?_, ?_, ?_, ?_, ?_, ?_, ?_, ?_, ?_, ?_, ?_, ?_, ?_, ?_, ?_, ?_, ?_, ?_, ?_, ?_, ?_, ?_, ?_, ?_, trivial⟩ ?_
    · exact oweAs_load 31 (.tmp 17) rfl (F) 31 (bvs r) (fun _ => rfl) (HI7.out.1) Tryd.underlying31 rfl (by rw [bvs_size, hrl]; kernel_rfl) rfl rfl
    · refine oweAs_pure ((.int .i64 (N : Int))) rfl (fun f W hE hd => ?_) (fun W hE => rfl)
      simp only [DepAs, Region.binds, asAt, As.holds, and_true, forall_const] at hd
      go_simp
    · refine oweAs_pure ((.int .i64 other)) rfl (fun f W hE hd => ?_) (fun W hE => rfl)
      go_simp
    · refine oweAs_pure ((.slice (some ⟨gb, 0, none⟩) m.length c6)) rfl (fun f W hE hd => ?_) (fun W hE => rfl)
      go_simp
    · refine oweAs_pure ((.slice A2 wp.length c2)) rfl (fun f W hE hd => ?_) (fun W hE => rfl)
      go_simp
    · refine oweAs_call 17 rfl (fun f W hE hd => ?_)
      simp only [DepAs, Region.binds, asAt, As.holds, and_true, forall_const] at hd
      refine ⟨_, by (go_simp; first | exact rfl | exact ⟨rfl, rfl⟩), ?_⟩
      have hbw := HI7.out.2.1.trans (hE.mono HI7.out.2.1.size)
      refine (check_any r (N : Int) other _ _ m wp W (HT.out W hbw).1 (HT.out W hbw).2 hrl (HM.out.keep hE) (HI7.out.2.2.2.keep hE).ids (by omega) (by omega) (by omega) (by have := HWL.out; omega)).mono ?_
      rintro e w' ⟨rfl, hb⟩
      exact ⟨_, rfl, by (show (_ : Value) = _; rw [Hx1.out]), hb⟩
    · exact oweAs_load 31 (.tmp 17) rfl (F) 31 (bvs r) (fun _ => rfl) (HI7.out.1) Tryd.underlying31 rfl (by rw [bvs_size, hrl]; kernel_rfl) rfl rfl
    · refine oweAs_pure ((.int .i64 (N : Int))) rfl (fun f W hE hd => ?_) (fun W hE => rfl)
      simp only [DepAs, Region.binds, asAt, As.holds, and_true, forall_const] at hd
      go_simp
    · refine oweAs_pure ((.int .i64 other)) rfl (fun f W hE hd => ?_) (fun W hE => rfl)
      go_simp
    · refine oweAs_pure ((.slice (some ⟨gb, 0, none⟩) m.length c6)) rfl (fun f W hE hd => ?_) (fun W hE => rfl)
      go_simp
    · refine oweAs_pure ((.string (bs m))) rfl (fun f W hE hd => ?_) (fun W hE => rfl)
      simp only [DepAs, Region.binds, asAt, As.holds, and_true, forall_const] at hd
      have hcv := (HM.out.keep hE).str Tryd.underlying22 Tryd.underlying5 Tryd.underlying9
      go_simp
    · refine oweAs_pure ((.slice A2 wp.length c2)) rfl (fun f W hE hd => ?_) (fun W hE => rfl)
      go_simp
    · refine oweAs_call 18 rfl (fun f W hE hd => ?_)
      simp only [DepAs, Region.binds, asAt, As.holds, and_true, forall_const] at hd
      refine ⟨_, by (go_simp; first | exact rfl | exact ⟨rfl, rfl⟩), ?_⟩
      refine (refCheck_any r (N : Int) other _ m wp W hrl (HI7.out.2.2.2.keep hE).ids (by omega) (by omega) (by omega) (by have := HWL.out; omega)).mono ?_
      rintro e w' ⟨rfl, hb⟩
      exact ⟨_, rfl, by (show (_ : Value) = _; rw [Hx1.out]), hb⟩
    · refine oweAs_pure ((.bool true)) rfl (fun f W hE hd => ?_) (fun W hE => rfl)
      simp only [DepAs, Region.binds, asAt, As.holds, and_true, forall_const] at hd
      go_simp
    · refine oweAs_pure ((.bool true)) rfl (fun f W hE hd => ?_) (fun W hE => rfl)
      simp only [DepAs, Region.binds, asAt, As.holds, and_true, forall_const] at hd
      go_simp
    · exact oweAs_load 31 (.tmp 17) rfl (F) 31 (bvs r) (fun _ => rfl) (HI7.out.1) Tryd.underlying31 rfl (by rw [bvs_size, hrl]; kernel_rfl) rfl rfl
    · refine oweAs_pure ((.int .i64 (N : Int))) rfl (fun f W hE hd => ?_) (fun W hE => rfl)
      go_simp
    · refine oweAs_pure ((.int .i64 ((N : Int) + 1))) rfl (fun f W hE hd => ?_) (fun W hE => rfl)
      simp only [DepAs, Region.binds, asAt, As.holds, and_true, forall_const] at hd
      have hw : IntKind.i64.wrap ((N : Int) + 1) = (N : Int) + 1 := by rw [IntKind.wrap_i64]; omega
      go_simp
    · refine oweAs_pure ((.int .i64 (p : Int))) rfl (fun f W hE hd => ?_) (fun W hE => rfl)
      go_simp
    · refine oweAs_pure ((.slice (some ⟨gb, 0, none⟩) m.length c6)) rfl (fun f W hE hd => ?_) (fun W hE => rfl)
      go_simp
    · refine oweAs_pure ((.slice A2 wp.length c2)) rfl (fun f W hE hd => ?_) (fun W hE => rfl)
      go_simp
    · refine oweAs_call 17 rfl (fun f W hE hd => ?_)
      simp only [DepAs, Region.binds, asAt, As.holds, and_true, forall_const] at hd
      refine ⟨_, by (go_simp; first | exact rfl | exact ⟨rfl, rfl⟩), ?_⟩
      have hbw := HI7.out.2.1.trans (hE.mono HI7.out.2.1.size)
      refine (check_any r ((N : Int) + 1) (p : Int) _ _ m wp W (HT.out W hbw).1 (HT.out W hbw).2 hrl (HM.out.keep hE) (HI7.out.2.2.2.keep hE).ids (by omega) (by omega) (by omega) (by have := HWL.out; omega)).mono ?_
      rintro e w' ⟨rfl, hb⟩
      exact ⟨_, rfl, by (show (_ : Value) = _; rw [Hx2.out]), hb⟩
    · exact oweAs_load 31 (.tmp 17) rfl (F) 31 (bvs r) (fun _ => rfl) (HI7.out.1) Tryd.underlying31 rfl (by rw [bvs_size, hrl]; kernel_rfl) rfl rfl
    · refine oweAs_pure ((.int .i64 (N : Int))) rfl (fun f W hE hd => ?_) (fun W hE => rfl)
      go_simp
    · refine oweAs_pure ((.int .i64 ((N : Int) + 1))) rfl (fun f W hE hd => ?_) (fun W hE => rfl)
      simp only [DepAs, Region.binds, asAt, As.holds, and_true, forall_const] at hd
      have hw : IntKind.i64.wrap ((N : Int) + 1) = (N : Int) + 1 := by rw [IntKind.wrap_i64]; omega
      go_simp
    · refine oweAs_pure ((.int .i64 (p : Int))) rfl (fun f W hE hd => ?_) (fun W hE => rfl)
      go_simp
    · refine oweAs_pure ((.slice (some ⟨gb, 0, none⟩) m.length c6)) rfl (fun f W hE hd => ?_) (fun W hE => rfl)
      go_simp
    · refine oweAs_pure ((.string (bs m))) rfl (fun f W hE hd => ?_) (fun W hE => rfl)
      simp only [DepAs, Region.binds, asAt, As.holds, and_true, forall_const] at hd
      have hcv := (HM.out.keep hE).str Tryd.underlying22 Tryd.underlying5 Tryd.underlying9
      go_simp
    · refine oweAs_pure ((.slice A2 wp.length c2)) rfl (fun f W hE hd => ?_) (fun W hE => rfl)
      go_simp
    · refine oweAs_call 18 rfl (fun f W hE hd => ?_)
      simp only [DepAs, Region.binds, asAt, As.holds, and_true, forall_const] at hd
      refine ⟨_, by (go_simp; first | exact rfl | exact ⟨rfl, rfl⟩), ?_⟩
      refine (refCheck_any r ((N : Int) + 1) (p : Int) _ m wp W hrl (HI7.out.2.2.2.keep hE).ids (by omega) (by omega) (by omega) (by have := HWL.out; omega)).mono ?_
      rintro e w' ⟨rfl, hb⟩
      exact ⟨_, rfl, by (show (_ : Value) = _; rw [Hx2.out]), hb⟩
    · refine oweAs_pure ((.bool true)) rfl (fun f W hE hd => ?_) (fun W hE => rfl)
      simp only [DepAs, Region.binds, asAt, As.holds, and_true, forall_const] at hd
      go_simp
    · refine oweAs_pure ((.bool true)) rfl (fun f W hE hd => ?_) (fun W hE => rfl)
      simp only [DepAs, Region.binds, asAt, As.holds, and_true, forall_const] at hd
      go_simp
    · refine oweAs_pure ((.bool true)) rfl (fun f W hE hd => ?_) (fun W hE => rfl)
      simp only [DepAs, Region.binds, asAt, As.holds, and_true, forall_const] at hd
      go_simp
    intro f W hE hA
    simp only [AllAs, As.holds, Nat.reduceAdd] at hA
    obtain ⟨-, -, -, -, -, -, -, -, -, -, -, -, -, -, -, -, -, -, -, -, -, -, -, -, -, -, -, -, -, -, -, -, hA32, -⟩ := hA
    go_wp2_with fail
    go_ret
    exact ⟨congrArg Ending.returned hA32, HI7.out.2.1.trans (hE.mono HI7.out.2.1.size)⟩
end Go.Proofs.YtofbfkkncjcodaaDoor
