/-
  The walk of the law DigestCuts.
-/
import Derived.Test.YtjgleonbkipidaaDoorDg10
import Derived.Test.YtjgleonbkipidaaDoorBt2
import Derived.Test.YtjgleonbkipidaaDoorReg2
namespace Go.Proofs.YtjgleonbkipidaaDoor
open Go Go.RowKit

set_option maxRecDepth 100000 in
set_option maxHeartbeats 1000000 in
theorem digestCuts_any (v : Value) (l : List UInt8) (at_ : Nat) (w : World) (hT : Tab w) (h0 : 0 < w.heap.size) (hL : HB w v l) (ha : at_ < 65536) :
    Calls Tryd.prog 4 #[v, .int .u16 (at_ : Int)] w fun e w' => e = .returned (.bool true) ∧ Below w.heap.size w w' := by
  obtain ⟨p, cap, rfl, hl, hm⟩ := hL.form
  unfold maxLen at hm
  have HT := Lib.hid hT; have HL := Lib.hid hL
  clear hT hL
  by_cases h10 : (500 : Int) < (l.length : Int)
  · go_enter Tryd.func4, Tryd.ntmps4
    go_wp2_with (go_at_call 14; refine (awake2_any _ HT.out h0).mono ?_; rintro e w1 ⟨rfl, hb1⟩; have HB1 := Lib.hid hb1; clear hb1)
    go_ret
    exact ⟨rfl, HB1.out⟩
  · go_enter Tryd.func4, Tryd.ntmps4
    go_wp2_with (go_at_call 14; refine (awake2_any _ HT.out h0).mono ?_; rintro e w1 ⟨rfl, hb1⟩; have HB1 := Lib.hid hb1; clear hb1; have hcv := (HL.out.keep HB1.out).str Tryd.underlying24 Tryd.underlying5 Tryd.underlying9)
    have HL1 := Lib.hid (HL.out.keep HB1.out)
    have hk : ((at_ : Int) % ((l.length : Int) + 1)) = ((at_ % (l.length + 1) : Nat) : Int) := by simp
    rw [hk]
    obtain ⟨k, hkl⟩ : ∃ k, k = at_ % (l.length + 1) := ⟨_, rfl⟩
    have hk1 : k ≤ l.length := by have := Nat.mod_lt at_ (show 0 < l.length + 1 by omega); omega
    rw [← hkl]
    clear hk hkl
    have hk2 : (k : Int) ≤ (l.length : Int) := by omega
    have hk3 : (k : Int) ≤ (cap : Int) := by omega
    refine wp_region_as (ys := [.eq (.slice p l.length cap), .eq (.int .i64 (k : Int)), .hb (l.take k), .eq (.slice p l.length cap), .eq (.int .i64 (k : Int)), .hb (l.drop k), .parts [l.take k, l.drop k], .eq (.agg (bvs (sha l))), .eq (.slice p l.length cap), .parts [l], .eq (.agg (bvs (sha l))), .eq (.bool true), .eq (.bool true), .eq (.slice p l.length cap), .parts [[], l, []], .eq (.agg (bvs (sha l))), .eq (.slice p l.length cap), .parts [l], .eq (.agg (bvs (sha l))), .eq (.bool true), .eq (.bool true), .eq (.bool true), .eq (.slice p l.length cap), .eq (.string (bs l)), .eq (.string (bs l)), .eq (.bool true), .eq (.bool true), .eq (.bool true)]) (by kernel_rfl) (by kernel_rfl) (by kernel_rfl) (by kernel_rfl) rfl _ (fun f => by simp only [framedL, Act.put, List.setIfInBounds_toArray, List.set_cons_zero, List.set_cons_succ, Nat.reduceAdd]; rfl) ⟨?_, ?_, ?_, ?_, ?_, ?_, ?_, ?_, ?_, ?_, ?_, ?_, ?_, ?_, ?_, ?_, ?_, ?_, ?_, ?_, ?_, ?_, ?_, ?_, ?_, ?_, ?_, ?_, trivial⟩ ?_
    · refine oweAs_pure ((.slice p l.length cap)) rfl (fun f W hE hd => ?_) (fun W hE => rfl)
      go_simp
    · refine oweAs_pure ((.int .i64 (k : Int))) rfl (fun f W hE hd => ?_) (fun W hE => rfl)
      go_simp
    · refine oweAs_made rfl (fun f W hE hd => ?_)
      simp only [DepAs, Region.binds, asAt, As.holds, and_true, forall_const] at hd
      refine ⟨_, _, by (go_simp; first | exact rfl | exact ⟨rfl, rfl⟩), ?_, Below.refl _ _⟩
      exact (HL1.out.keep hE).take hk1
    · refine oweAs_pure ((.slice p l.length cap)) rfl (fun f W hE hd => ?_) (fun W hE => rfl)
      go_simp
    · refine oweAs_pure ((.int .i64 (k : Int))) rfl (fun f W hE hd => ?_) (fun W hE => rfl)
      go_simp
    · refine oweAs_made rfl (fun f W hE hd => ?_)
      simp only [DepAs, Region.binds, asAt, As.holds, and_true, forall_const] at hd
      refine ⟨_, _, by (go_simp; first | exact rfl | exact ⟨rfl, rfl⟩), ?_, Below.refl _ _⟩
      exact (HL1.out.keep hE).drop hk1
    · refine oweAs_made rfl (fun f W hE hd => ?_)
      simp only [DepAs, Region.binds, asAt, As.holds, and_true, forall_const] at hd
      obtain ⟨⟨p1, c1, e1, _⟩, ⟨p2, c2, e2, _⟩⟩ := And.intro (id hd.1) (id hd.2)
      have hP := parts_new2 (w := W) (t := 24) rfl hd.1 hd.2
      rw [e1, e2] at hP
      generalize (List.take k l).length = n1 at *
      generalize (List.drop k l).length = n2 at *
      refine ⟨_, _, by (go_simp; first | exact rfl | exact ⟨rfl, rfl⟩), ?_, (Below.refl W.heap.size W).alloc (Nat.le_refl _) _⟩
      exact hP
    · refine oweAs_call 15 rfl (fun f W hE hd => ?_)
      simp only [DepAs, Region.binds, asAt, As.holds, and_true, forall_const] at hd
      refine ⟨_, by (go_simp; first | exact rfl | exact ⟨rfl, rfl⟩), ?_⟩
      have hl := HB1.out.size
      have hz := hE.size
      refine (of_any _ _ W ((HT.out.below HB1.out h0).below hE (by omega)) (by omega) (by first | exact hd | exact hd.1) (by simp) (by simp; omega)).mono ?_
      rintro e w' ⟨rfl, hb⟩
      exact ⟨_, rfl, by (show (_ : Value) = _; simp), hb⟩
    · refine oweAs_pure ((.slice p l.length cap)) rfl (fun f W hE hd => ?_) (fun W hE => rfl)
      go_simp
    · refine oweAs_made rfl (fun f W hE hd => ?_)
      simp only [DepAs, Region.binds, asAt, As.holds, and_true, forall_const] at hd
      have hz := hE.size
      have hP := parts_new1 (w := W) (t := 24) rfl (HL1.out.keep hE)
      refine ⟨_, _, by (go_simp; first | exact rfl | exact ⟨rfl, rfl⟩), ?_, (Below.refl W.heap.size W).alloc (Nat.le_refl _) _⟩
      exact hP
    · refine oweAs_call 15 rfl (fun f W hE hd => ?_)
      simp only [DepAs, Region.binds, asAt, As.holds, and_true, forall_const] at hd
      refine ⟨_, by (go_simp; first | exact rfl | exact ⟨rfl, rfl⟩), ?_⟩
      have hl := HB1.out.size
      have hz := hE.size
      refine (of_any _ _ W ((HT.out.below HB1.out h0).below hE (by omega)) (by omega) (by first | exact hd | exact hd.1) (by simp) (by simp; omega)).mono ?_
      rintro e w' ⟨rfl, hb⟩
      exact ⟨_, rfl, by (show (_ : Value) = _; simp), hb⟩
    · refine oweAs_pure ((.bool true)) rfl (fun f W hE hd => ?_) (fun W hE => rfl)
      simp only [DepAs, Region.binds, asAt, As.holds, and_true, forall_const] at hd
      have hsl := sha_length l
      go_simp
    · refine oweAs_pure ((.bool true)) rfl (fun f W hE hd => ?_) (fun W hE => rfl)
      simp only [DepAs, Region.binds, asAt, As.holds, and_true, forall_const] at hd
      go_simp
    · refine oweAs_pure ((.slice p l.length cap)) rfl (fun f W hE hd => ?_) (fun W hE => rfl)
      go_simp
    · refine oweAs_made rfl (fun f W hE hd => ?_)
      simp only [DepAs, Region.binds, asAt, As.holds, and_true, forall_const] at hd
      have hz := hE.size
      have hP := parts_new3 (w := W) (t := 24) rfl (HB.nil W) (HL1.out.keep hE) (HB.nil W)
      refine ⟨_, _, by (go_simp; first | exact rfl | exact ⟨rfl, rfl⟩), ?_, (Below.refl W.heap.size W).alloc (Nat.le_refl _) _⟩
      exact hP
    · refine oweAs_call 15 rfl (fun f W hE hd => ?_)
      simp only [DepAs, Region.binds, asAt, As.holds, and_true, forall_const] at hd
      refine ⟨_, by (go_simp; first | exact rfl | exact ⟨rfl, rfl⟩), ?_⟩
      have hl := HB1.out.size
      have hz := hE.size
      refine (of_any _ _ W ((HT.out.below HB1.out h0).below hE (by omega)) (by omega) (by first | exact hd | exact hd.1) (by simp) (by simp; omega)).mono ?_
      rintro e w' ⟨rfl, hb⟩
      exact ⟨_, rfl, by (show (_ : Value) = _; simp), hb⟩
    · refine oweAs_pure ((.slice p l.length cap)) rfl (fun f W hE hd => ?_) (fun W hE => rfl)
      go_simp
    · refine oweAs_made rfl (fun f W hE hd => ?_)
      simp only [DepAs, Region.binds, asAt, As.holds, and_true, forall_const] at hd
      have hz := hE.size
      have hP := parts_new1 (w := W) (t := 24) rfl (HL1.out.keep hE)
      refine ⟨_, _, by (go_simp; first | exact rfl | exact ⟨rfl, rfl⟩), ?_, (Below.refl W.heap.size W).alloc (Nat.le_refl _) _⟩
      exact hP
    · refine oweAs_call 15 rfl (fun f W hE hd => ?_)
      simp only [DepAs, Region.binds, asAt, As.holds, and_true, forall_const] at hd
      refine ⟨_, by (go_simp; first | exact rfl | exact ⟨rfl, rfl⟩), ?_⟩
      have hl := HB1.out.size
      have hz := hE.size
      refine (of_any _ _ W ((HT.out.below HB1.out h0).below hE (by omega)) (by omega) (by first | exact hd | exact hd.1) (by simp) (by simp; omega)).mono ?_
      rintro e w' ⟨rfl, hb⟩
      exact ⟨_, rfl, by (show (_ : Value) = _; simp), hb⟩
    · refine oweAs_pure ((.bool true)) rfl (fun f W hE hd => ?_) (fun W hE => rfl)
      simp only [DepAs, Region.binds, asAt, As.holds, and_true, forall_const] at hd
      have hsl := sha_length l
      go_simp
    · refine oweAs_pure ((.bool true)) rfl (fun f W hE hd => ?_) (fun W hE => rfl)
      simp only [DepAs, Region.binds, asAt, As.holds, and_true, forall_const] at hd
      go_simp
    · refine oweAs_pure ((.bool true)) rfl (fun f W hE hd => ?_) (fun W hE => rfl)
      simp only [DepAs, Region.binds, asAt, As.holds, and_true, forall_const] at hd
      go_simp
    · refine oweAs_pure ((.slice p l.length cap)) rfl (fun f W hE hd => ?_) (fun W hE => rfl)
      go_simp
    · refine oweAs_pure ((.string (bs l))) rfl (fun f W hE hd => ?_) (fun W hE => rfl)
      simp only [DepAs, Region.binds, asAt, As.holds, and_true, forall_const] at hd
      have hcv2 := (HL1.out.keep hE).str Tryd.underlying24 Tryd.underlying5 Tryd.underlying9
      go_simp
    · refine oweAs_pure ((.string (bs l))) rfl (fun f W hE hd => ?_) (fun W hE => rfl)
      simp only [DepAs, Region.binds, asAt, As.holds, and_true, forall_const] at hd
      go_simp
    · refine oweAs_pure ((.bool true)) rfl (fun f W hE hd => ?_) (fun W hE => rfl)
      simp only [DepAs, Region.binds, asAt, As.holds, and_true, forall_const] at hd
      go_simp
    · refine oweAs_pure ((.bool true)) rfl (fun f W hE hd => ?_) (fun W hE => rfl)
      simp only [DepAs, Region.binds, asAt, As.holds, and_true, forall_const] at hd
      go_simp
    · refine oweAs_pure ((.bool true)) rfl (fun f W hE hd => ?_) (fun W hE => rfl)
      simp only [DepAs, Region.binds, asAt, As.holds, and_true, forall_const] at hd
      go_simp
    intro f W hE hA
    simp only [AllAs, As.holds, Nat.reduceAdd] at hA
    obtain ⟨-, -, -, -, -, -, -, -, -, -, -, -, -, -, -, -, -, -, -, -, -, -, -, -, -, -, -, hA27, -⟩ := hA
    go_wp2_with fail
    go_ret
    exact ⟨congrArg Ending.returned hA27, HB1.out.trans (hE.mono HB1.out.size)⟩
end Go.Proofs.YtjgleonbkipidaaDoor
