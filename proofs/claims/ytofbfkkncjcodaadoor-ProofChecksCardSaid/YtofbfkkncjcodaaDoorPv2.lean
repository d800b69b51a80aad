/-
  The walk of the law ProofChecks.
-/
import Derived.Test.YtofbfkkncjcodaaDoorPvA
import Derived.Test.YtofbfkkncjcodaaDoorRf8
namespace Go.Proofs.YtofbfkkncjcodaaDoor
open Go Go.RowKit
set_option linter.unusedSimpArgs false
set_option linter.unusedVariables false

set_option maxRecDepth 100000 in
set_option maxHeartbeats 2000000 in
theorem proofChecks_any (root : Dig) (n i : Int) (v vw : Value) (l : List UInt8) (way : List Dig) (w : World) (hT : Tab w) (h0 : 0 < w.heap.size) (hr : root.length = 32) (hl : HB w v l) (hw : IdS w vw way) (hn : n ≤ 9223372036854775807) (hi : i ≤ 9223372036854775807) :
    Calls Tryd.prog 4 #[.agg (bvs root), .int .i64 n, .int .i64 i, v, vw] w fun e w' => e = .returned (.bool true) ∧ Below w.heap.size w w' := by
  have HT : Hid (∀ W, Below w.heap.size w W → Tab W ∧ 0 < W.heap.size) := Lib.hid (fun W hb => ⟨hT.below hb h0, by have := hb.size; omega⟩)
  obtain ⟨pl, cl, rfl, hlc, hlm⟩ := hl.form
  obtain ⟨pw, cw, rfl, hwc, hwm⟩ := hw.form
  unfold maxLen at hlm hwm
  have HL := Lib.hid hl
  have HW := Lib.hid hw
  have hrz : (bvs root).size = 32 := by rw [bvs_size]; exact hr
  clear hl hw hT
  by_cases h1 : (100 : Int) < (l.length : Int)
  · skip
    go_enter Tryd.func4, Tryd.ntmps4
    go_wp2_with (
      (go_at_call 9
       refine (awake6_any _ (HT.out _ ((Below.refl _ _).alloc (Nat.le_refl _) _)).1 (HT.out _ ((Below.refl _ _).alloc (Nat.le_refl _) _)).2).mono ?_
       rintro e w1 ⟨rfl, hb1⟩
       have HB1 : Hid (Blk w1 w.heap.size 31 (bvs root) ∧ Below w.heap.size w w1) := Lib.hid ⟨(Blk.new w _ _).below hb1 (Blk.new w _ _).lt, ((Below.refl _ _).alloc (Nat.le_refl _) _).trans (hb1.mono (by simp))⟩
       clear hb1))
    go_ret
    exact ⟨rfl, HB1.out.2⟩
  by_cases h2 : (70 : Int) < (way.length : Int)
  · skip
    go_enter Tryd.func4, Tryd.ntmps4
    go_wp2_with (
      (go_at_call 9
       refine (awake6_any _ (HT.out _ ((Below.refl _ _).alloc (Nat.le_refl _) _)).1 (HT.out _ ((Below.refl _ _).alloc (Nat.le_refl _) _)).2).mono ?_
       rintro e w1 ⟨rfl, hb1⟩
       have HB1 : Hid (Blk w1 w.heap.size 31 (bvs root) ∧ Below w.heap.size w w1) := Lib.hid ⟨(Blk.new w _ _).below hb1 (Blk.new w _ _).lt, ((Below.refl _ _).alloc (Nat.le_refl _) _).trans (hb1.mono (by simp))⟩
       clear hb1))
    go_ret
    exact ⟨rfl, HB1.out.2⟩
  obtain ⟨c, hc⟩ : ∃ c, c = checkF root n i l way := ⟨_, rfl⟩
  have HC := Lib.hid hc
  clear hc
  go_enter Tryd.func4, Tryd.ntmps4
  go_wp2_with (
    (go_at_call 9
     refine (awake6_any _ (HT.out _ ((Below.refl _ _).alloc (Nat.le_refl _) _)).1 (HT.out _ ((Below.refl _ _).alloc (Nat.le_refl _) _)).2).mono ?_
     rintro e w1 ⟨rfl, hb1⟩
     have HB1 : Hid (Blk w1 w.heap.size 31 (bvs root) ∧ Below w.heap.size w w1) := Lib.hid ⟨(Blk.new w _ _).below hb1 (Blk.new w _ _).lt, ((Below.refl _ _).alloc (Nat.le_refl _) _).trans (hb1.mono (by simp))⟩
     clear hb1))
  go_upto_region 6 with (fail)
  have HL1 := Lib.hid (HL.out.keep HB1.out.2)
  have HW1 := Lib.hid (HW.out.keep HB1.out.2)
  refine wp_region_as (ys := [.eq (.agg (bvs root)), .eq (.int .i64 n), .eq (.int .i64 i), .eq (.slice pl l.length cl), .eq (.slice pw way.length cw), .eq (.int .i64 (c : Int)), .eq (.agg (bvs root)), .eq (.int .i64 n), .eq (.int .i64 i), .eq (.slice pl l.length cl), .eq (.string (bs l)), .eq (.slice pw way.length cw), .eq (.int .i64 (c : Int)), .eq (.bool true), .eq (.bool true)]) (by kernel_rfl) (by kernel_rfl) (by kernel_rfl) (by kernel_rfl) rfl _ (fun f => by simp only [framedL, Act.put, List.setIfInBounds_toArray, List.set_cons_zero, List.set_cons_succ, Nat.reduceAdd]; rfl) ⟨?_, ?_, ?_, ?_, ?_, ?_, ?_, ?_, ?_, ?_, ?_, ?_, ?_, ?_, ?_, trivial⟩ ?_
  · exact oweAs_load 31 (.tmp 5) rfl (w.heap.size) 31 (bvs root) (fun _ => rfl) (HB1.out.1) Tryd.underlying31 rfl (by rw [bvs_size, hr]; kernel_rfl) rfl rfl
  · refine oweAs_pure ((.int .i64 n)) rfl (fun f W hE hd => ?_) (fun W hE => rfl)
    go_simp
  · refine oweAs_pure ((.int .i64 i)) rfl (fun f W hE hd => ?_) (fun W hE => rfl)
    go_simp
  · refine oweAs_pure ((.slice pl l.length cl)) rfl (fun f W hE hd => ?_) (fun W hE => rfl)
    go_simp
  · refine oweAs_pure ((.slice pw way.length cw)) rfl (fun f W hE hd => ?_) (fun W hE => rfl)
    go_simp
  · refine oweAs_call 17 rfl (fun f W hE hd => ?_)
    simp only [DepAs, Region.binds, asAt, As.holds, and_true, forall_const] at hd
    refine ⟨_, by (go_simp; first | exact rfl | exact ⟨rfl, rfl⟩), ?_⟩
    have hbw := HB1.out.2.trans (hE.mono HB1.out.2.size)
    refine (check_any root n i _ _ l way W (HT.out W hbw).1 (HT.out W hbw).2 hr (HL1.out.keep hE) (HW1.out.keep hE) hn hi (by omega) (by omega)).mono ?_
    rintro e w' ⟨rfl, hb⟩
    exact ⟨_, rfl, by (show (_ : Value) = _; rw [HC.out]), hb⟩
  · exact oweAs_load 31 (.tmp 5) rfl (w.heap.size) 31 (bvs root) (fun _ => rfl) (HB1.out.1) Tryd.underlying31 rfl (by rw [bvs_size, hr]; kernel_rfl) rfl rfl
  · refine oweAs_pure ((.int .i64 n)) rfl (fun f W hE hd => ?_) (fun W hE => rfl)
    go_simp
  · refine oweAs_pure ((.int .i64 i)) rfl (fun f W hE hd => ?_) (fun W hE => rfl)
    go_simp
  · refine oweAs_pure ((.slice pl l.length cl)) rfl (fun f W hE hd => ?_) (fun W hE => rfl)
    go_simp
  · refine oweAs_pure ((.string (bs l))) rfl (fun f W hE hd => ?_) (fun W hE => rfl)
    simp only [DepAs, Region.binds, asAt, As.holds, and_true, forall_const] at hd
    have hcv := (HL1.out.keep hE).str Tryd.underlying22 Tryd.underlying5 Tryd.underlying9
    go_simp
  · refine oweAs_pure ((.slice pw way.length cw)) rfl (fun f W hE hd => ?_) (fun W hE => rfl)
    go_simp
  · refine oweAs_call 18 rfl (fun f W hE hd => ?_)
    simp only [DepAs, Region.binds, asAt, As.holds, and_true, forall_const] at hd
    refine ⟨_, by (go_simp; first | exact rfl | exact ⟨rfl, rfl⟩), ?_⟩
    refine (refCheck_any root n i _ l way W hr (HW1.out.keep hE) hn hi (by omega) (by omega)).mono ?_
    rintro e w' ⟨rfl, hb⟩
    exact ⟨_, rfl, by (show (_ : Value) = _; rw [HC.out]), hb⟩
  · refine oweAs_pure ((.bool true)) rfl (fun f W hE hd => ?_) (fun W hE => rfl)
    simp only [DepAs, Region.binds, asAt, As.holds, and_true, forall_const] at hd
    go_simp
  · refine oweAs_pure ((.bool true)) rfl (fun f W hE hd => ?_) (fun W hE => rfl)
    simp only [DepAs, Region.binds, asAt, As.holds, and_true, forall_const] at hd
    go_simp
  intro f W hE hA
  simp only [AllAs, As.holds, Nat.reduceAdd] at hA
  obtain ⟨-, -, -, -, -, -, -, -, -, -, -, -, -, -, hA14, -⟩ := hA
  go_wp2_with fail
  go_ret
  exact ⟨congrArg Ending.returned hA14, HB1.out.2.trans (hE.mono HB1.out.2.size)⟩
end Go.Proofs.YtofbfkkncjcodaaDoor
