/-
  The walk of the law DigestTwo.
-/
import Derived.Test.YtjgleonbkipidaaDoorDg10
import Derived.Test.YtjgleonbkipidaaDoorBt2
import Derived.Test.YtjgleonbkipidaaDoorReg2
namespace Go.Proofs.YtjgleonbkipidaaDoor
open Go Go.RowKit

set_option maxRecDepth 100000 in
set_option maxHeartbeats 1000000 in
theorem digestTwo_any (v1 v2 : Value) (a b : List UInt8) (same : Bool) (w : World) (hT : Tab w) (h0 : 0 < w.heap.size) (hL1 : HB w v1 a) (hL2 : HB w v2 b) :
    Calls Tryd.prog 5 #[v1, v2, .bool same] w fun e w' => e = .returned (.bool true) ∧ Below w.heap.size w w' := by
  obtain ⟨p1, c1, rfl, hl1, hm1⟩ := hL1.form
  obtain ⟨p2, c2, rfl, hl2, hm2⟩ := hL2.form
  unfold maxLen at hm1 hm2
  have HT := Lib.hid hT; have HA := Lib.hid hL1; have HB2 := Lib.hid hL2
  clear hT hL1 hL2
  by_cases ha : (300 : Int) < (a.length : Int)
  · go_enter Tryd.func5, Tryd.ntmps5
    go_wp2_with (go_at_call 14; refine (awake2_any _ HT.out h0).mono ?_; rintro e w1 ⟨rfl, hb1⟩; have HB1 := Lib.hid hb1; clear hb1)
    go_ret
    exact ⟨rfl, HB1.out⟩
  · by_cases hb : (300 : Int) < (b.length : Int)
    · go_enter Tryd.func5, Tryd.ntmps5
      go_wp2_with (go_at_call 14; refine (awake2_any _ HT.out h0).mono ?_; rintro e w1 ⟨rfl, hb1⟩; have HB1 := Lib.hid hb1; clear hb1)
      go_ret
      exact ⟨rfl, HB1.out⟩
    · cases same with
      | true =>
        go_enter Tryd.func5, Tryd.ntmps5
        go_wp2_with (go_at_call 14; refine (awake2_any _ HT.out h0).mono ?_; rintro e w1 ⟨rfl, hb1⟩; have HB1 := Lib.hid hb1; clear hb1)
        have HA1 := Lib.hid (HA.out.keep HB1.out)
        have HA2 := Lib.hid (HB2.out.keep HB1.out)
        refine wp_region_as (ys := [.eq (.slice p1 a.length c1), .eq (.slice p1 a.length c1), .eq (.bool false), .eq (.slice p1 a.length c1), .eq (.string (bs a)), .eq (.slice p1 a.length c1), .eq (.string (bs a)), .eq (.bool false), .eq (.bool false), .any, .any, .any, .any, .any, .any, .any, .eq (.bool false), .eq (.bool true), .eq (.bool true)]) (by kernel_rfl) (by kernel_rfl) (by kernel_rfl) (by kernel_rfl) rfl _ (fun f => by simp only [framedL, Act.put, List.setIfInBounds_toArray, List.set_cons_zero, List.set_cons_succ, Nat.reduceAdd]; rfl) ⟨?_, ?_, ?_, ?_, ?_, ?_, ?_, ?_, ?_, ?_, ?_, ?_, ?_, ?_, ?_, ?_, ?_, ?_, ?_, trivial⟩ ?_
        · refine oweAs_pure ((.slice p1 a.length c1)) rfl (fun f W hE hd => ?_) (fun W hE => rfl)
          go_simp
        · refine oweAs_pure ((.slice p1 a.length c1)) rfl (fun f W hE hd => ?_) (fun W hE => rfl)
          go_simp
        · refine oweAs_call 17 rfl (fun f W hE hd => ?_)
          simp only [DepAs, Region.binds, asAt, As.holds, and_true, forall_const] at hd
          obtain ⟨h1, h2⟩ := hd
          refine ⟨_, by (go_simp; first | exact rfl | exact ⟨rfl, rfl⟩), ?_⟩
          have hl := HB1.out.size
          have hz := hE.size
          refine (two_any _ _ _ _ W ((HT.out.below HB1.out h0).below hE (by omega)) (by omega) (HA1.out.keep hE) (HA1.out.keep hE) (by omega) (by omega)).mono ?_
          rintro e w' ⟨rfl, hb⟩
          exact ⟨_, rfl, by (show (_ : Value) = _; simp), hb⟩
        · refine oweAs_pure ((.slice p1 a.length c1)) rfl (fun f W hE hd => ?_) (fun W hE => rfl)
          go_simp
        · refine oweAs_pure ((.string (bs a))) rfl (fun f W hE hd => ?_) (fun W hE => rfl)
          simp only [DepAs, Region.binds, asAt, As.holds, and_true, forall_const] at hd
          have hcv := (HA1.out.keep hE).str Tryd.underlying24 Tryd.underlying5 Tryd.underlying9
          go_simp
        · refine oweAs_pure ((.slice p1 a.length c1)) rfl (fun f W hE hd => ?_) (fun W hE => rfl)
          go_simp
        · refine oweAs_pure ((.string (bs a))) rfl (fun f W hE hd => ?_) (fun W hE => rfl)
          simp only [DepAs, Region.binds, asAt, As.holds, and_true, forall_const] at hd
          have hcv := (HA1.out.keep hE).str Tryd.underlying24 Tryd.underlying5 Tryd.underlying9
          go_simp
        · refine oweAs_pure ((.bool false)) rfl (fun f W hE hd => ?_) (fun W hE => rfl)
          simp only [DepAs, Region.binds, asAt, As.holds, and_true, forall_const] at hd
          go_simp
        · refine oweAs_pure ((.bool false)) rfl (fun f W hE hd => ?_) (fun W hE => rfl)
          simp only [DepAs, Region.binds, asAt, As.holds, and_true, forall_const] at hd
          go_simp
        · exact oweAs_skip rfl (fun _ => trivial)
        · exact oweAs_skip rfl (fun _ => trivial)
        · exact oweAs_skip rfl (fun _ => trivial)
        · exact oweAs_skip rfl (fun _ => trivial)
        · exact oweAs_skip rfl (fun _ => trivial)
        · exact oweAs_skip rfl (fun _ => trivial)
        · exact oweAs_skip rfl (fun _ => trivial)
        · refine oweAs_pure ((.bool false)) rfl (fun f W hE hd => ?_) (fun W hE => rfl)
          simp only [DepAs, Region.binds, asAt, As.holds, and_true, forall_const] at hd
          go_simp
        · refine oweAs_pure ((.bool true)) rfl (fun f W hE hd => ?_) (fun W hE => rfl)
          simp only [DepAs, Region.binds, asAt, As.holds, and_true, forall_const] at hd
          go_simp
        · refine oweAs_pure ((.bool true)) rfl (fun f W hE hd => ?_) (fun W hE => rfl)
          simp only [DepAs, Region.binds, asAt, As.holds, and_true, forall_const] at hd
          go_simp
        intro f W hE hA
        simp only [AllAs, As.holds, Nat.reduceAdd] at hA
        obtain ⟨-, -, -, -, -, -, -, -, -, -, -, -, -, -, -, -, -, -, hA18, -⟩ := hA
        go_wp2_with fail
        go_ret
        exact ⟨congrArg Ending.returned hA18, HB1.out.trans (hE.mono HB1.out.size)⟩
      | false =>
        by_cases hab : a = b
        · subst hab
          go_enter Tryd.func5, Tryd.ntmps5
          go_wp2_with (go_at_call 14; refine (awake2_any _ HT.out h0).mono ?_; rintro e w1 ⟨rfl, hb1⟩; have HB1 := Lib.hid hb1; clear hb1)
          have HA1 := Lib.hid (HA.out.keep HB1.out)
          have HA2 := Lib.hid (HB2.out.keep HB1.out)
          refine wp_region_as (ys := [.eq (.slice p1 a.length c1), .eq (.slice p2 a.length c2), .eq (.bool false), .eq (.slice p1 a.length c1), .eq (.string (bs a)), .eq (.slice p2 a.length c2), .eq (.string (bs a)), .eq (.bool false), .eq (.bool false), .any, .any, .any, .any, .any, .any, .any, .eq (.bool false), .eq (.bool true), .eq (.bool true)]) (by kernel_rfl) (by kernel_rfl) (by kernel_rfl) (by kernel_rfl) rfl _ (fun f => by simp only [framedL, Act.put, List.setIfInBounds_toArray, List.set_cons_zero, List.set_cons_succ, Nat.reduceAdd]; rfl) ⟨?_, ?_, ?_, ?_, ?_, ?_, ?_, ?_, ?_, ?_, ?_, ?_, ?_, ?_, ?_, ?_, ?_, ?_, ?_, trivial⟩ ?_
          · refine oweAs_pure ((.slice p1 a.length c1)) rfl (fun f W hE hd => ?_) (fun W hE => rfl)
            go_simp
          · refine oweAs_pure ((.slice p2 a.length c2)) rfl (fun f W hE hd => ?_) (fun W hE => rfl)
            go_simp
          · refine oweAs_call 17 rfl (fun f W hE hd => ?_)
            simp only [DepAs, Region.binds, asAt, As.holds, and_true, forall_const] at hd
            obtain ⟨h1, h2⟩ := hd
            refine ⟨_, by (go_simp; first | exact rfl | exact ⟨rfl, rfl⟩), ?_⟩
            have hl := HB1.out.size
            have hz := hE.size
            refine (two_any _ _ _ _ W ((HT.out.below HB1.out h0).below hE (by omega)) (by omega) (HA1.out.keep hE) (HA2.out.keep hE) (by omega) (by omega)).mono ?_
            rintro e w' ⟨rfl, hb⟩
            exact ⟨_, rfl, by (show (_ : Value) = _; simp), hb⟩
          · refine oweAs_pure ((.slice p1 a.length c1)) rfl (fun f W hE hd => ?_) (fun W hE => rfl)
            go_simp
          · refine oweAs_pure ((.string (bs a))) rfl (fun f W hE hd => ?_) (fun W hE => rfl)
            simp only [DepAs, Region.binds, asAt, As.holds, and_true, forall_const] at hd
            have hcv := (HA1.out.keep hE).str Tryd.underlying24 Tryd.underlying5 Tryd.underlying9
            go_simp
          · refine oweAs_pure ((.slice p2 a.length c2)) rfl (fun f W hE hd => ?_) (fun W hE => rfl)
            go_simp
          · refine oweAs_pure ((.string (bs a))) rfl (fun f W hE hd => ?_) (fun W hE => rfl)
            simp only [DepAs, Region.binds, asAt, As.holds, and_true, forall_const] at hd
            have hcv := (HA2.out.keep hE).str Tryd.underlying24 Tryd.underlying5 Tryd.underlying9
            go_simp
          · refine oweAs_pure ((.bool false)) rfl (fun f W hE hd => ?_) (fun W hE => rfl)
            simp only [DepAs, Region.binds, asAt, As.holds, and_true, forall_const] at hd
            go_simp
          · refine oweAs_pure ((.bool false)) rfl (fun f W hE hd => ?_) (fun W hE => rfl)
            simp only [DepAs, Region.binds, asAt, As.holds, and_true, forall_const] at hd
            go_simp
          · exact oweAs_skip rfl (fun _ => trivial)
          · exact oweAs_skip rfl (fun _ => trivial)
          · exact oweAs_skip rfl (fun _ => trivial)
          · exact oweAs_skip rfl (fun _ => trivial)
          · exact oweAs_skip rfl (fun _ => trivial)
          · exact oweAs_skip rfl (fun _ => trivial)
          · exact oweAs_skip rfl (fun _ => trivial)
          · refine oweAs_pure ((.bool false)) rfl (fun f W hE hd => ?_) (fun W hE => rfl)
            simp only [DepAs, Region.binds, asAt, As.holds, and_true, forall_const] at hd
            go_simp
          · refine oweAs_pure ((.bool true)) rfl (fun f W hE hd => ?_) (fun W hE => rfl)
            simp only [DepAs, Region.binds, asAt, As.holds, and_true, forall_const] at hd
            go_simp
          · refine oweAs_pure ((.bool true)) rfl (fun f W hE hd => ?_) (fun W hE => rfl)
            simp only [DepAs, Region.binds, asAt, As.holds, and_true, forall_const] at hd
            go_simp
          intro f W hE hA
          simp only [AllAs, As.holds, Nat.reduceAdd] at hA
          obtain ⟨-, -, -, -, -, -, -, -, -, -, -, -, -, -, -, -, -, -, hA18, -⟩ := hA
          go_wp2_with fail
          go_ret
          exact ⟨congrArg Ending.returned hA18, HB1.out.trans (hE.mono HB1.out.size)⟩
        · have HN := Lib.hid hab
          clear hab
          go_enter Tryd.func5, Tryd.ntmps5
          go_wp2_with (go_at_call 14; refine (awake2_any _ HT.out h0).mono ?_; rintro e w1 ⟨rfl, hb1⟩; have HB1 := Lib.hid hb1; clear hb1)
          have HA1 := Lib.hid (HA.out.keep HB1.out)
          have HA2 := Lib.hid (HB2.out.keep HB1.out)
          refine wp_region_as (ys := [.eq (.slice p1 a.length c1), .eq (.slice p2 b.length c2), .eq (.bool (sha a == sha b)), .eq (.slice p1 a.length c1), .eq (.string (bs a)), .eq (.slice p2 b.length c2), .eq (.string (bs b)), .eq (.bool true), .eq (.bool true), .eq (.slice p1 a.length c1), .eq (.string (bs a)), .eq (.agg (bvs (sha a))), .eq (.slice p2 b.length c2), .eq (.string (bs b)), .eq (.agg (bvs (sha b))), .eq (.bool (sha a == sha b)), .eq (.bool (sha a == sha b)), .eq (.bool true), .eq (.bool true)]) (by kernel_rfl) (by kernel_rfl) (by kernel_rfl) (by kernel_rfl) rfl _ (fun f => by simp only [framedL, Act.put, List.setIfInBounds_toArray, List.set_cons_zero, List.set_cons_succ, Nat.reduceAdd]; rfl) ⟨?_, ?_, ?_, ?_, ?_, ?_, ?_, ?_, ?_, ?_, ?_, ?_, ?_, ?_, ?_, ?_, ?_, ?_, ?_, trivial⟩ ?_
          · refine oweAs_pure ((.slice p1 a.length c1)) rfl (fun f W hE hd => ?_) (fun W hE => rfl)
            go_simp
          · refine oweAs_pure ((.slice p2 b.length c2)) rfl (fun f W hE hd => ?_) (fun W hE => rfl)
            go_simp
          · refine oweAs_call 17 rfl (fun f W hE hd => ?_)
            simp only [DepAs, Region.binds, asAt, As.holds, and_true, forall_const] at hd
            obtain ⟨h1, h2⟩ := hd
            refine ⟨_, by (go_simp; first | exact rfl | exact ⟨rfl, rfl⟩), ?_⟩
            have hl := HB1.out.size
            have hz := hE.size
            refine (two_any _ _ _ _ W ((HT.out.below HB1.out h0).below hE (by omega)) (by omega) (HA1.out.keep hE) (HA2.out.keep hE) (by omega) (by omega)).mono ?_
            rintro e w' ⟨rfl, hb⟩
            exact ⟨_, rfl, by (show (_ : Value) = _; simp [HN.out]), hb⟩
          · refine oweAs_pure ((.slice p1 a.length c1)) rfl (fun f W hE hd => ?_) (fun W hE => rfl)
            go_simp
          · refine oweAs_pure ((.string (bs a))) rfl (fun f W hE hd => ?_) (fun W hE => rfl)
            simp only [DepAs, Region.binds, asAt, As.holds, and_true, forall_const] at hd
            have hcv := (HA1.out.keep hE).str Tryd.underlying24 Tryd.underlying5 Tryd.underlying9
            go_simp
          · refine oweAs_pure ((.slice p2 b.length c2)) rfl (fun f W hE hd => ?_) (fun W hE => rfl)
            go_simp
          · refine oweAs_pure ((.string (bs b))) rfl (fun f W hE hd => ?_) (fun W hE => rfl)
            simp only [DepAs, Region.binds, asAt, As.holds, and_true, forall_const] at hd
            have hcv := (HA2.out.keep hE).str Tryd.underlying24 Tryd.underlying5 Tryd.underlying9
            go_simp
          · refine oweAs_pure ((.bool true)) rfl (fun f W hE hd => ?_) (fun W hE => rfl)
            simp only [DepAs, Region.binds, asAt, As.holds, and_true, forall_const] at hd
            have hbn := bs_ne HN.out
            go_simp
          · refine oweAs_pure ((.bool true)) rfl (fun f W hE hd => ?_) (fun W hE => rfl)
            simp only [DepAs, Region.binds, asAt, As.holds, and_true, forall_const] at hd
            go_simp
          · refine oweAs_pure ((.slice p1 a.length c1)) rfl (fun f W hE hd => ?_) (fun W hE => rfl)
            go_simp
          · refine oweAs_pure ((.string (bs a))) rfl (fun f W hE hd => ?_) (fun W hE => rfl)
            simp only [DepAs, Region.binds, asAt, As.holds, and_true, forall_const] at hd
            have hcv := (HA1.out.keep hE).str Tryd.underlying24 Tryd.underlying5 Tryd.underlying9
            go_simp
          · refine oweAs_call 16 rfl (fun f W hE hd => ?_)
            simp only [DepAs, Region.binds, asAt, As.holds, and_true, forall_const] at hd
            refine ⟨_, by (go_simp; first | exact rfl | exact ⟨rfl, rfl⟩), ?_⟩
            refine (ref_any _ W (by rw [bs_size]; omega)).mono ?_
            rintro e w' ⟨rfl, hb⟩
            exact ⟨_, rfl, by (show (_ : Value) = _; rw [sb_bs]), hb⟩
          · refine oweAs_pure ((.slice p2 b.length c2)) rfl (fun f W hE hd => ?_) (fun W hE => rfl)
            go_simp
          · refine oweAs_pure ((.string (bs b))) rfl (fun f W hE hd => ?_) (fun W hE => rfl)
            simp only [DepAs, Region.binds, asAt, As.holds, and_true, forall_const] at hd
            have hcv := (HA2.out.keep hE).str Tryd.underlying24 Tryd.underlying5 Tryd.underlying9
            go_simp
          · refine oweAs_call 16 rfl (fun f W hE hd => ?_)
            simp only [DepAs, Region.binds, asAt, As.holds, and_true, forall_const] at hd
            refine ⟨_, by (go_simp; first | exact rfl | exact ⟨rfl, rfl⟩), ?_⟩
            refine (ref_any _ W (by rw [bs_size]; omega)).mono ?_
            rintro e w' ⟨rfl, hb⟩
            exact ⟨_, rfl, by (show (_ : Value) = _; rw [sb_bs]), hb⟩
          · refine oweAs_pure ((.bool (sha a == sha b))) rfl (fun f W hE hd => ?_) (fun W hE => rfl)
            simp only [DepAs, Region.binds, asAt, As.holds, and_true, forall_const] at hd
            have hsa := sha_length a
            have hsb := sha_length b
            go_simp
          · refine oweAs_pure ((.bool (sha a == sha b))) rfl (fun f W hE hd => ?_) (fun W hE => rfl)
            simp only [DepAs, Region.binds, asAt, As.holds, and_true, forall_const] at hd
            go_simp
          · refine oweAs_pure ((.bool true)) rfl (fun f W hE hd => ?_) (fun W hE => rfl)
            simp only [DepAs, Region.binds, asAt, As.holds, and_true, forall_const] at hd
            go_simp
          · refine oweAs_pure ((.bool true)) rfl (fun f W hE hd => ?_) (fun W hE => rfl)
            simp only [DepAs, Region.binds, asAt, As.holds, and_true, forall_const] at hd
            go_simp
          intro f W hE hA
          simp only [AllAs, As.holds, Nat.reduceAdd] at hA
          obtain ⟨-, -, -, -, -, -, -, -, -, -, -, -, -, -, -, -, -, -, hA18, -⟩ := hA
          go_wp2_with fail
          go_ret
          exact ⟨congrArg Ending.returned hA18, HB1.out.trans (hE.mono HB1.out.size)⟩
end Go.Proofs.YtjgleonbkipidaaDoor
