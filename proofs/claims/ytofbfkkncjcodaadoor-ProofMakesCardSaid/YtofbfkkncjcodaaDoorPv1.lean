/-
  The walk of the law ProofMakes.
-/
import Derived.Test.YtofbfkkncjcodaaDoorPvA
import Derived.Test.YtofbfkkncjcodaaDoorRf5
import Derived.Test.YtofbfkkncjcodaaDoorRf6
import Derived.Test.YtofbfkkncjcodaaDoorRf7
namespace Go.Proofs.YtofbfkkncjcodaaDoor
open Go Go.RowKit
set_option linter.unusedSimpArgs false
set_option linter.unusedVariables false

set_option maxRecDepth 100000 in
set_option maxHeartbeats 2000000 in
theorem proofMakes_any (v : Value) (b : List UInt8) (i : Int) (w : World) (hT : Tab w) (h0 : 0 < w.heap.size) (hl : HB w v b) :
    Calls Tryd.prog 3 #[v, .int .i64 i] w fun e w' => e = .returned (.bool true) ∧ Below w.heap.size w w' := by
  have HT : Hid (∀ W, Below w.heap.size w W → Tab W ∧ 0 < W.heap.size) := Lib.hid (fun W hb => ⟨hT.below hb h0, by have := hb.size; omega⟩)
  obtain ⟨pl, cl, rfl, hlc, hlm⟩ := hl.form
  unfold maxLen at hlm
  have HL := Lib.hid hl
  clear hl hT
  obtain ⟨r, hr⟩ : ∃ r, r = rootF b := ⟨_, rfl⟩
  have hrl : r.length = 32 := by rw [hr]; exact rootF_length _
  obtain ⟨N, hN⟩ : ∃ N, N = nlF b.length := ⟨_, rfl⟩
  obtain ⟨lf, hlf⟩ : ∃ x, x = (proveF b i).1 := ⟨_, rfl⟩
  obtain ⟨wy, hwy⟩ : ∃ x, x = (proveF b i).2.1 := ⟨_, rfl⟩
  obtain ⟨ec, hec⟩ : ∃ x, x = (proveF b i).2.2 := ⟨_, rfl⟩
  have HF := Lib.hid (And.intro hr (And.intro hN (And.intro hlf (And.intro hwy hec))))
  clear hr hN hlf hwy hec
  by_cases h1 : (1000 : Int) < (b.length : Int)
  · skip
    go_enter Tryd.func3, Tryd.ntmps3
    go_wp2_with (
      (go_at_call 9
       refine (awake6_any _ (HT.out _ (Below.refl _ _)).1 (HT.out _ (Below.refl _ _)).2).mono ?_
       rintro e w1 ⟨rfl, hb1⟩
       have HB1 := Lib.hid hb1
       have hcv := (HL.out.keep hb1).str Tryd.underlying22 Tryd.underlying5 Tryd.underlying9
       clear hb1))
    go_ret
    exact ⟨rfl, HB1.out⟩
  have hb1k : b.length ≤ 1000 := by omega
  go_enter Tryd.func3, Tryd.ntmps3
  go_wp2_with (
    (go_at_call 9
     refine (awake6_any _ (HT.out _ (Below.refl _ _)).1 (HT.out _ (Below.refl _ _)).2).mono ?_
     rintro e w1 ⟨rfl, hb1⟩
     have HB1 := Lib.hid hb1
     have hcv := (HL.out.keep hb1).str Tryd.underlying22 Tryd.underlying5 Tryd.underlying9
     clear hb1))
  clear hcv
  refine (prove_any _ b i w1 (HT.out _ HB1.out).1 (HT.out _ HB1.out).2 (HL.out.keep HB1.out) (by omega)).mono ?_
  rintro e w2 ⟨v1, v2, rfl, hl2, hr2, hb2⟩
  rw [← HF.out.2.2.2.2]
  rw [← HF.out.2.2.1] at hl2
  rw [← HF.out.2.2.2.1] at hr2
  obtain ⟨p1, c1, rfl, -, -⟩ := hl2.form
  obtain ⟨A2, c2, rfl⟩ := hr2.form
  have HI2 : Hid (Below w.heap.size w w2 ∧ HB w2 (.slice p1 lf.length c1) lf ∧ IdR w2 w1.heap.size (.slice A2 wy.length c2) wy.length wy) := Lib.hid ⟨HB1.out.trans (hb2.mono HB1.out.size), hl2, hr2⟩
  have hcv2 := (HL.out.keep HI2.out.1).str Tryd.underlying22 Tryd.underlying5 Tryd.underlying9
  clear hl2 hr2 hb2
  go_wp2_with fail
  refine (refProve_any b i w2 (by omega)).mono ?_
  rintro e w3 ⟨v3, rfl, hr3, hb3⟩
  rw [← HF.out.2.2.2.2, ← HF.out.2.2.1]
  rw [← HF.out.2.2.2.1] at hr3
  obtain ⟨A3, c3, rfl⟩ := hr3.form
  have HI3 : Hid (Below w.heap.size w w3 ∧ HB w3 (.slice p1 lf.length c1) lf ∧ IdS w3 (.slice A2 wy.length c2) wy ∧ IdS w3 (.slice A3 wy.length c3) wy) := Lib.hid ⟨HI2.out.1.trans (hb3.mono HI2.out.1.size), HI2.out.2.1.keep hb3, (HI2.out.2.2.keep hb3).ids, hr3.ids⟩
  have HL3 := Lib.hid (HL.out.keep HI3.out.1)
  have HLF := Lib.hid HI3.out.2.1
  have hwl : wy.length ≤ 1000000 := by
    have h := wayF_length (rowF b).length (rowF b) i.toNat (Nat.le_refl _)
    have h2 : hN (rowF b).length ≤ (rowF b).length := hN_le _
    rw [rowF_length] at h h2
    have h3 : nlF b.length ≤ 1000 := by unfold nlF; omega
    rw [HF.out.2.2.2.1, proveF]
    split
    · simp
    · show (wayF (rowF b) i.toNat).length ≤ _
      omega
  clear hr3 hb3 hcv2 HI2
  go_wp2_with fail
  go_upto_region 8 with (fail)
  refine wp_region_as (ys := [.eq (.slice pl b.length cl), .eq (.agg (bvs r)), .eq (.slice pl b.length cl), .eq (.string (bs b)), .eq (.agg (bvs r)), .eq (.bool true), .eq (.bool true), .eq (.slice pl b.length cl), .eq (.int .i64 (N : Int)), .eq (.slice pl b.length cl), .eq (.string (bs b)), .st (fun v W => ∃ A c, v = .slice A N c) (fun v W W' h _ => h), .eq (.int .i64 (N : Int)), .eq (.bool true), .eq (.bool true), .eq (.bool true), .eq (.slice p1 lf.length c1), .eq (.string (bs lf)), .eq (.string (bs lf)), .eq (.bool true), .eq (.bool true), .eq (.bool true), .eq (.slice A2 wy.length c2), .eq (.slice A3 wy.length c3), .eq (.bool true), .eq (.bool true), .eq (.bool true), .eq (.int .i64 (ec : Int)), .eq (.int .i64 (ec : Int)), .eq (.bool true), .eq (.bool true), .eq (.bool true)]) (by kernel_rfl) (by kernel_rfl) (by kernel_rfl) (by kernel_rfl) rfl _ (fun f => by simp only [framedL, Act.put, List.setIfInBounds_toArray, List.set_cons_zero, List.set_cons_succ, Nat.reduceAdd]; rfl) ⟨?_, ?_, ?_, ?_, ?_, ?_, ?_, ?_, ?_, ?_, ?_, ?_, ?_, ?_, ?_, ?_, ?_, ?_, ?_, ?_, ?_, ?_, ?_, ?_, ?_, ?_, ?_, ?_, ?_, ?_, ?_, ?_, trivial⟩ ?_
  · refine oweAs_pure ((.slice pl b.length cl)) rfl (fun f W hE hd => ?_) (fun W hE => rfl)
    go_simp
  · refine oweAs_call 12 rfl (fun f W hE hd => ?_)
    simp only [DepAs, Region.binds, asAt, As.holds, and_true, forall_const] at hd
    refine ⟨_, by (go_simp; first | exact rfl | exact ⟨rfl, rfl⟩), ?_⟩
    have hbw := HI3.out.1.trans (hE.mono HI3.out.1.size)
    refine (root_any _ b W (HT.out W hbw).1 (HT.out W hbw).2 (HL3.out.keep hE) (by omega)).mono ?_
    rintro e w' ⟨rfl, hb⟩
    exact ⟨_, rfl, by (show (_ : Value) = _; rw [HF.out.1]), hb⟩
  · refine oweAs_pure ((.slice pl b.length cl)) rfl (fun f W hE hd => ?_) (fun W hE => rfl)
    go_simp
  · refine oweAs_pure ((.string (bs b))) rfl (fun f W hE hd => ?_) (fun W hE => rfl)
    simp only [DepAs, Region.binds, asAt, As.holds, and_true, forall_const] at hd
    have hcv := (HL3.out.keep hE).str Tryd.underlying22 Tryd.underlying5 Tryd.underlying9
    go_simp
  · refine oweAs_call 13 rfl (fun f W hE hd => ?_)
    simp only [DepAs, Region.binds, asAt, As.holds, and_true, forall_const] at hd
    refine ⟨_, by (go_simp; first | exact rfl | exact ⟨rfl, rfl⟩), ?_⟩
    refine (refRoot_any b W (by omega)).mono ?_
    rintro e w' ⟨rfl, hb⟩
    exact ⟨_, rfl, by (show (_ : Value) = _; rw [HF.out.1]), hb⟩
  · refine oweAs_pure ((.bool true)) rfl (fun f W hE hd => ?_) (fun W hE => rfl)
    simp only [DepAs, Region.binds, asAt, As.holds, and_true, forall_const] at hd
    go_simp
  · refine oweAs_pure ((.bool true)) rfl (fun f W hE hd => ?_) (fun W hE => rfl)
    simp only [DepAs, Region.binds, asAt, As.holds, and_true, forall_const] at hd
    go_simp
  · refine oweAs_pure ((.slice pl b.length cl)) rfl (fun f W hE hd => ?_) (fun W hE => rfl)
    go_simp
  · refine oweAs_call 14 rfl (fun f W hE hd => ?_)
    simp only [DepAs, Region.binds, asAt, As.holds, and_true, forall_const] at hd
    refine ⟨_, by (go_simp; first | exact rfl | exact ⟨rfl, rfl⟩), ?_⟩
    refine (leaves_any _ b W (HL3.out.keep hE) (by omega)).mono ?_
    rintro e w' ⟨rfl, rfl⟩
    exact ⟨_, rfl, by (show (_ : Value) = _; rw [HF.out.2.1]), Below.refl _ _⟩
  · refine oweAs_pure ((.slice pl b.length cl)) rfl (fun f W hE hd => ?_) (fun W hE => rfl)
    go_simp
  · refine oweAs_pure ((.string (bs b))) rfl (fun f W hE hd => ?_) (fun W hE => rfl)
    simp only [DepAs, Region.binds, asAt, As.holds, and_true, forall_const] at hd
    have hcv := (HL3.out.keep hE).str Tryd.underlying22 Tryd.underlying5 Tryd.underlying9
    go_simp
  · refine oweAs_call 15 rfl (fun f W hE hd => ?_)
    simp only [DepAs, Region.binds, asAt, As.holds, and_true, forall_const] at hd
    refine ⟨_, by (go_simp; first | exact rfl | exact ⟨rfl, rfl⟩), ?_⟩
    refine (refSplit_any b W (by omega)).mono ?_
    rintro e w' ⟨v', rfl, hr, hb⟩
    rw [← HF.out.2.1] at hr
    obtain ⟨A, c, hf⟩ := hr.form
    exact ⟨_, rfl, ⟨A, c, hf⟩, hb⟩
  · refine oweAs_made rfl (fun f W hE hd => ?_)
    simp only [DepAs, Region.binds, asAt, As.holds, and_true, forall_const] at hd
    obtain ⟨A, c, hf⟩ := (by first | exact hd | exact hd.1 : ∃ A c, f 11 = .slice A N c)
    clear hd
    refine ⟨_, _, by first | (go_simp; done) | (go_simp; exact rfl) | (go_simp; exact ⟨rfl, rfl⟩), rfl, Below.refl _ _⟩
  · refine oweAs_pure ((.bool true)) rfl (fun f W hE hd => ?_) (fun W hE => rfl)
    simp only [DepAs, Region.binds, asAt, As.holds, and_true, forall_const] at hd
    go_simp
  · refine oweAs_pure ((.bool true)) rfl (fun f W hE hd => ?_) (fun W hE => rfl)
    simp only [DepAs, Region.binds, asAt, As.holds, and_true, forall_const] at hd
    go_simp
  · refine oweAs_pure ((.bool true)) rfl (fun f W hE hd => ?_) (fun W hE => rfl)
    simp only [DepAs, Region.binds, asAt, As.holds, and_true, forall_const] at hd
    go_simp
  · refine oweAs_pure ((.slice p1 lf.length c1)) rfl (fun f W hE hd => ?_) (fun W hE => rfl)
    go_simp
  · refine oweAs_pure ((.string (bs lf))) rfl (fun f W hE hd => ?_) (fun W hE => rfl)
    simp only [DepAs, Region.binds, asAt, As.holds, and_true, forall_const] at hd
    have hcv := (HLF.out.keep hE).str Tryd.underlying22 Tryd.underlying5 Tryd.underlying9
    go_simp
  · refine oweAs_pure ((.string (bs lf))) rfl (fun f W hE hd => ?_) (fun W hE => rfl)
    go_simp
  · refine oweAs_pure ((.bool true)) rfl (fun f W hE hd => ?_) (fun W hE => rfl)
    simp only [DepAs, Region.binds, asAt, As.holds, and_true, forall_const] at hd
    go_simp
  · refine oweAs_pure ((.bool true)) rfl (fun f W hE hd => ?_) (fun W hE => rfl)
    simp only [DepAs, Region.binds, asAt, As.holds, and_true, forall_const] at hd
    go_simp
  · refine oweAs_pure ((.bool true)) rfl (fun f W hE hd => ?_) (fun W hE => rfl)
    simp only [DepAs, Region.binds, asAt, As.holds, and_true, forall_const] at hd
    go_simp
  · refine oweAs_pure ((.slice A2 wy.length c2)) rfl (fun f W hE hd => ?_) (fun W hE => rfl)
    go_simp
  · refine oweAs_pure ((.slice A3 wy.length c3)) rfl (fun f W hE hd => ?_) (fun W hE => rfl)
    go_simp
  · refine oweAs_call 16 rfl (fun f W hE hd => ?_)
    simp only [DepAs, Region.binds, asAt, As.holds, and_true, forall_const] at hd
    refine ⟨_, by (go_simp; first | exact rfl | exact ⟨rfl, rfl⟩), ?_⟩
    refine (refSame_any _ _ wy wy W (HI3.out.2.2.1.keep hE) (HI3.out.2.2.2.keep hE) hwl).mono ?_
    rintro e w' ⟨rfl, hb⟩
    exact ⟨_, rfl, by (show (_ : Value) = _; simp), hb⟩
  · refine oweAs_pure ((.bool true)) rfl (fun f W hE hd => ?_) (fun W hE => rfl)
    simp only [DepAs, Region.binds, asAt, As.holds, and_true, forall_const] at hd
    go_simp
  · refine oweAs_pure ((.bool true)) rfl (fun f W hE hd => ?_) (fun W hE => rfl)
    simp only [DepAs, Region.binds, asAt, As.holds, and_true, forall_const] at hd
    go_simp
  · refine oweAs_pure ((.int .i64 (ec : Int))) rfl (fun f W hE hd => ?_) (fun W hE => rfl)
    go_simp
  · refine oweAs_pure ((.int .i64 (ec : Int))) rfl (fun f W hE hd => ?_) (fun W hE => rfl)
    go_simp
  · refine oweAs_pure ((.bool true)) rfl (fun f W hE hd => ?_) (fun W hE => rfl)
    simp only [DepAs, Region.binds, asAt, As.holds, and_true, forall_const] at hd
    go_simp
  · refine oweAs_pure ((.bool true)) rfl (fun f W hE hd => ?_) (fun W hE => rfl)
    simp only [DepAs, Region.binds, asAt, As.holds, and_true, forall_const] at hd
    go_simp
  · refine oweAs_pure ((.bool true)) rfl (fun f W hE hd => ?_) (fun W hE => rfl)
    simp only [DepAs, Region.binds, asAt, As.holds, and_true, forall_const] at hd
    go_simp
  intro f W hE hA
  simp only [AllAs, As.holds, Nat.reduceAdd] at hA
  obtain ⟨-, -, -, -, -, -, -, -, -, -, -, -, -, -, -, -, -, -, -, -, -, -, -, -, -, -, -, -, -, -, -, hA31, -⟩ := hA
  go_wp2_with fail
  go_ret
  exact ⟨congrArg Ending.returned hA31, HI3.out.1.trans (hE.mono HI3.out.1.size)⟩
end Go.Proofs.YtofbfkkncjcodaaDoor
