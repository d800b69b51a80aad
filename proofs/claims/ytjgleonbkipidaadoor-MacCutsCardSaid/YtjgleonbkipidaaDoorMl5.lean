/-
  The walk of the law MacCuts.
-/
import Derived.Test.YtjgleonbkipidaaDoorMl1
import Derived.Test.YtjgleonbkipidaaDoorBt2
namespace Go.Proofs.YtjgleonbkipidaaDoor
open Go Go.RowKit

set_option maxRecDepth 100000 in
set_option maxHeartbeats 1000000 in
theorem macCuts_any (key : List UInt8) (v : Value) (l : List UInt8) (at_ : Nat) (w : World) (hT : Tab w) (h0 : 0 < w.heap.size) (hk : key.length = 32) (hL : HB w v l) (ha : at_ < 65536) :
    Calls Tryd.prog 12 #[.agg (bvs key), v, .int .u16 (at_ : Int)] w fun e w' => e = .returned (.bool true) ∧ Below w.heap.size w w' := by
  have hbz : (bvs key).size = 32 := by rw [bvs_size]; exact hk
  obtain ⟨p, cap, rfl, hl, hm⟩ := hL.form
  unfold maxLen at hm
  have HT := Lib.hid hT; have HL := Lib.hid hL
  clear hT hL
  by_cases h10 : (300 : Int) < (l.length : Int)
  · go_enter Tryd.func12, Tryd.ntmps12
    go_wp2_with (first
        | (go_at_call 18
           refine (awake3_any _ (HT.out.below ((Below.refl w.heap.size w).alloc (Nat.le_refl _) _) h0) (by simp)).mono ?_
           rintro e w1 ⟨rfl, hb1⟩
           have HI : Hid (Blk w1 w.heap.size 38 (bvs key) ∧ Below w.heap.size w w1) := Lib.hid ⟨(Blk.new w _ _).below hb1 (by simp), ((Below.refl w.heap.size w).alloc (Nat.le_refl _) _).trans (hb1.mono (by simp))⟩
           have HB1 := Lib.hid HI.out.2
           clear hb1)
        | (refine wpList_load_blk rfl 38 (.tmp 3) rfl w.heap.size 38 (bvs key) rfl HI.out.1 Tryd.underlying38 rfl (by rw [hbz]; kernel_rfl) ?_))
    go_ret
    exact ⟨rfl, HB1.out⟩
  · go_enter Tryd.func12, Tryd.ntmps12
    go_wp2_with (first
        | (go_at_call 18
           refine (awake3_any _ (HT.out.below ((Below.refl w.heap.size w).alloc (Nat.le_refl _) _) h0) (by simp)).mono ?_
           rintro e w1 ⟨rfl, hb1⟩
           have HI : Hid (Blk w1 w.heap.size 38 (bvs key) ∧ Below w.heap.size w w1) := Lib.hid ⟨(Blk.new w _ _).below hb1 (by simp), ((Below.refl w.heap.size w).alloc (Nat.le_refl _) _).trans (hb1.mono (by simp))⟩
           have HB1 := Lib.hid HI.out.2
           clear hb1
           have hcv := (HL.out.keep HB1.out).str Tryd.underlying24 Tryd.underlying5 Tryd.underlying9)
        | (refine wpList_load_blk rfl 38 (.tmp 3) rfl w.heap.size 38 (bvs key) rfl HI.out.1 Tryd.underlying38 rfl (by rw [hbz]; kernel_rfl) ?_))
    have HL1 := Lib.hid (HL.out.keep HB1.out)
    obtain ⟨k, hkl⟩ : ∃ k, k = at_ % (l.length + 1) := ⟨_, rfl⟩
    have hk1 : k ≤ l.length := by have := Nat.mod_lt at_ (show 0 < l.length + 1 by omega); omega
    have hkk : ((at_ : Int) % ((l.length : Int) + 1)) = (k : Int) := by rw [hkl]; simp
    rw [hkk]
    clear hkk hkl
    have hk2 : (k : Int) ≤ (l.length : Int) := by omega
    have hk3 : (k : Int) ≤ (cap : Int) := by omega
    obtain ⟨m, hm2⟩ : ∃ m, m = macF key l := ⟨_, rfl⟩
    have hml : m.length = 32 := by rw [hm2]; exact macF_length _ _
    have HM := Lib.hid hm2
    clear hm2
    obtain ⟨g, hg⟩ : ∃ g, g = w.heap.size := ⟨_, rfl⟩
    have HI0 := Lib.hid (hg ▸ HI.out.1 : Blk w1 g 38 (bvs key))
    rw [← hg]
    have HG := Lib.hid hg
    clear hg
    refine wp_region_as (ys := [.eq (.agg (bvs key)), .eq (.slice p l.length cap), .eq (.int .i64 (k : Int)), .hb (l.take k), .eq (.slice p l.length cap), .eq (.int .i64 (k : Int)), .hb (l.drop k), .parts [l.take k, l.drop k], .eq (.agg (bvs m)), .eq (.agg (bvs key)), .eq (.slice p l.length cap), .parts [l], .eq (.agg (bvs m)), .eq (.bool true), .eq (.bool true), .eq (.agg (bvs key)), .eq (.slice p l.length cap), .parts [[], l], .eq (.agg (bvs m)), .eq (.agg (bvs key)), .eq (.slice p l.length cap), .parts [l], .eq (.agg (bvs m)), .eq (.bool true), .eq (.bool true), .eq (.bool true), .eq (.slice p l.length cap), .eq (.string (bs l)), .eq (.string (bs l)), .eq (.bool true), .eq (.bool true), .eq (.bool true)]) (by kernel_rfl) (by kernel_rfl) (by kernel_rfl) (by kernel_rfl) rfl _ (fun f => by simp only [framedL, Act.put, List.setIfInBounds_toArray, List.set_cons_zero, List.set_cons_succ, Nat.reduceAdd]; rfl) ⟨?_, ?_, ?_, ?_, ?_, ?_, ?_, ?_, ?_, ?_, ?_, ?_, ?_, ?_, ?_, ?_, ?_, ?_, ?_, ?_, ?_, ?_, ?_, ?_, ?_, ?_, ?_, ?_, ?_, ?_, ?_, ?_, trivial⟩ ?_
    · exact oweAs_load 38 (.tmp 3) rfl (g) 38 (bvs key) (fun _ => rfl) (HI0.out) Tryd.underlying38 rfl (by rw [bvs_size, hk]; kernel_rfl) rfl rfl
    · refine oweAs_pure ((.slice p l.length cap)) rfl (fun f W hE hd => ?_) (fun W hE => rfl)
      go_simp
    · refine oweAs_pure ((.int .i64 (k : Int))) rfl (fun f W hE hd => ?_) (fun W hE => rfl)
      go_simp
    · refine oweAs_made rfl (fun f W hE hd => ?_)
      simp only [DepAs, Region.binds, asAt, As.holds, and_true, forall_const] at hd
      refine ⟨_, _, by (go_simp; first | exact rfl | exact ⟨rfl, rfl⟩), ?_, Below.refl _ _⟩
      exact (HL1.out.keep hE).take hk1
    · refine oweAs_pure ((.slice p l.length cap)) rfl (fun f W hE hd => ?_) (fun W hE => rfl)
      go_simp
    · refine oweAs_pure ((.int .i64 (k : Int))) rfl (fun f W hE hd => ?_) (fun W hE => rfl)
      go_simp
    · refine oweAs_made rfl (fun f W hE hd => ?_)
      simp only [DepAs, Region.binds, asAt, As.holds, and_true, forall_const] at hd
      refine ⟨_, _, by (go_simp; first | exact rfl | exact ⟨rfl, rfl⟩), ?_, Below.refl _ _⟩
      exact (HL1.out.keep hE).drop hk1
    · refine oweAs_made rfl (fun f W hE hd => ?_)
      simp only [DepAs, Region.binds, asAt, As.holds, and_true, forall_const] at hd
      obtain ⟨⟨p1, c1, e1, _⟩, ⟨p2, c2, e2, _⟩⟩ := And.intro (id hd.1) (id hd.2)
      have hP := parts_new2 (w := W) (t := 24) rfl hd.1 hd.2
      rw [e1, e2] at hP
      generalize (List.take k l).length = n1 at *
      generalize (List.drop k l).length = n2 at *
      refine ⟨_, _, by (go_simp; first | exact rfl | exact ⟨rfl, rfl⟩), ?_, (Below.refl W.heap.size W).alloc (Nat.le_refl _) _⟩
      exact hP
    · refine oweAs_call 19 rfl (fun f W hE hd => ?_)
      simp only [DepAs, Region.binds, asAt, As.holds, and_true, forall_const] at hd
      refine ⟨_, by (go_simp; first | exact rfl | exact ⟨rfl, rfl⟩), ?_⟩
      have hl := HB1.out.size
      have hz := hE.size
      refine (macOf_any key _ [l.take k, l.drop k] W hk ((HT.out.below HB1.out h0).below hE (by omega)) (by omega) (by first | exact hd.2 | exact hd.2.1) (by first | omega | (simp; done) | (simp; omega)) (by first | omega | (simp; done) | (simp; omega))).mono ?_
      rintro e w' ⟨rfl, hb⟩
      exact ⟨_, rfl, by (show (_ : Value) = _; simp [HM.out]), hb⟩
    · exact oweAs_load 38 (.tmp 3) rfl (g) 38 (bvs key) (fun _ => rfl) (HI0.out) Tryd.underlying38 rfl (by rw [bvs_size, hk]; kernel_rfl) rfl rfl
    · refine oweAs_pure ((.slice p l.length cap)) rfl (fun f W hE hd => ?_) (fun W hE => rfl)
      go_simp
    · refine oweAs_made rfl (fun f W hE hd => ?_)
      simp only [DepAs, Region.binds, asAt, As.holds, and_true, forall_const] at hd
      have hP := parts_new1 (w := W) (t := 24) rfl (HL1.out.keep hE)
      refine ⟨_, _, by (go_simp; first | exact rfl | exact ⟨rfl, rfl⟩), ?_, (Below.refl W.heap.size W).alloc (Nat.le_refl _) _⟩
      exact hP
    · refine oweAs_call 19 rfl (fun f W hE hd => ?_)
      simp only [DepAs, Region.binds, asAt, As.holds, and_true, forall_const] at hd
      refine ⟨_, by (go_simp; first | exact rfl | exact ⟨rfl, rfl⟩), ?_⟩
      have hl := HB1.out.size
      have hz := hE.size
      refine (macOf_any key _ [l] W hk ((HT.out.below HB1.out h0).below hE (by omega)) (by omega) (by first | exact hd.2 | exact hd.2.1) (by first | omega | (simp; done) | (simp; omega)) (by first | omega | (simp; done) | (simp; omega))).mono ?_
      rintro e w' ⟨rfl, hb⟩
      exact ⟨_, rfl, by (show (_ : Value) = _; simp [HM.out]), hb⟩
    · refine oweAs_pure ((.bool true)) rfl (fun f W hE hd => ?_) (fun W hE => rfl)
      simp only [DepAs, Region.binds, asAt, As.holds, and_true, forall_const] at hd
      go_simp
    · refine oweAs_pure ((.bool true)) rfl (fun f W hE hd => ?_) (fun W hE => rfl)
      simp only [DepAs, Region.binds, asAt, As.holds, and_true, forall_const] at hd
      go_simp
    · exact oweAs_load 38 (.tmp 3) rfl (g) 38 (bvs key) (fun _ => rfl) (HI0.out) Tryd.underlying38 rfl (by rw [bvs_size, hk]; kernel_rfl) rfl rfl
    · refine oweAs_pure ((.slice p l.length cap)) rfl (fun f W hE hd => ?_) (fun W hE => rfl)
      go_simp
    · refine oweAs_made rfl (fun f W hE hd => ?_)
      simp only [DepAs, Region.binds, asAt, As.holds, and_true, forall_const] at hd
      have hP := parts_new2 (w := W) (t := 24) rfl (HB.nil W) (HL1.out.keep hE)
      refine ⟨_, _, by (go_simp; first | exact rfl | exact ⟨rfl, rfl⟩), ?_, (Below.refl W.heap.size W).alloc (Nat.le_refl _) _⟩
      exact hP
    · refine oweAs_call 19 rfl (fun f W hE hd => ?_)
      simp only [DepAs, Region.binds, asAt, As.holds, and_true, forall_const] at hd
      refine ⟨_, by (go_simp; first | exact rfl | exact ⟨rfl, rfl⟩), ?_⟩
      have hl := HB1.out.size
      have hz := hE.size
      refine (macOf_any key _ [[], l] W hk ((HT.out.below HB1.out h0).below hE (by omega)) (by omega) (by first | exact hd.2 | exact hd.2.1) (by first | omega | (simp; done) | (simp; omega)) (by first | omega | (simp; done) | (simp; omega))).mono ?_
      rintro e w' ⟨rfl, hb⟩
      exact ⟨_, rfl, by (show (_ : Value) = _; simp [HM.out]), hb⟩
    · exact oweAs_load 38 (.tmp 3) rfl (g) 38 (bvs key) (fun _ => rfl) (HI0.out) Tryd.underlying38 rfl (by rw [bvs_size, hk]; kernel_rfl) rfl rfl
    · refine oweAs_pure ((.slice p l.length cap)) rfl (fun f W hE hd => ?_) (fun W hE => rfl)
      go_simp
    · refine oweAs_made rfl (fun f W hE hd => ?_)
      simp only [DepAs, Region.binds, asAt, As.holds, and_true, forall_const] at hd
      have hP := parts_new1 (w := W) (t := 24) rfl (HL1.out.keep hE)
      refine ⟨_, _, by (go_simp; first | exact rfl | exact ⟨rfl, rfl⟩), ?_, (Below.refl W.heap.size W).alloc (Nat.le_refl _) _⟩
      exact hP
    · refine oweAs_call 19 rfl (fun f W hE hd => ?_)
      simp only [DepAs, Region.binds, asAt, As.holds, and_true, forall_const] at hd
      refine ⟨_, by (go_simp; first | exact rfl | exact ⟨rfl, rfl⟩), ?_⟩
      have hl := HB1.out.size
      have hz := hE.size
      refine (macOf_any key _ [l] W hk ((HT.out.below HB1.out h0).below hE (by omega)) (by omega) (by first | exact hd.2 | exact hd.2.1) (by first | omega | (simp; done) | (simp; omega)) (by first | omega | (simp; done) | (simp; omega))).mono ?_
      rintro e w' ⟨rfl, hb⟩
      exact ⟨_, rfl, by (show (_ : Value) = _; simp [HM.out]), hb⟩
    · refine oweAs_pure ((.bool true)) rfl (fun f W hE hd => ?_) (fun W hE => rfl)
      simp only [DepAs, Region.binds, asAt, As.holds, and_true, forall_const] at hd
      go_simp
    · refine oweAs_pure ((.bool true)) rfl (fun f W hE hd => ?_) (fun W hE => rfl)
      simp only [DepAs, Region.binds, asAt, As.holds, and_true, forall_const] at hd
      go_simp
    · refine oweAs_pure ((.bool true)) rfl (fun f W hE hd => ?_) (fun W hE => rfl)
      simp only [DepAs, Region.binds, asAt, As.holds, and_true, forall_const] at hd
      go_simp
    · refine oweAs_pure ((.slice p l.length cap)) rfl (fun f W hE hd => ?_) (fun W hE => rfl)
      go_simp
    · refine oweAs_pure ((.string (bs l))) rfl (fun f W hE hd => ?_) (fun W hE => rfl)
      simp only [DepAs, Region.binds, asAt, As.holds, and_true, forall_const] at hd
      have hcv2 := (HL1.out.keep hE).str Tryd.underlying24 Tryd.underlying5 Tryd.underlying9
      go_simp
    · refine oweAs_pure ((.string (bs l))) rfl (fun f W hE hd => ?_) (fun W hE => rfl)
      simp only [DepAs, Region.binds, asAt, As.holds, and_true, forall_const] at hd
      go_simp
    · refine oweAs_pure ((.bool true)) rfl (fun f W hE hd => ?_) (fun W hE => rfl)
      simp only [DepAs, Region.binds, asAt, As.holds, and_true, forall_const] at hd
      go_simp
    · refine oweAs_pure ((.bool true)) rfl (fun f W hE hd => ?_) (fun W hE => rfl)
      simp only [DepAs, Region.binds, asAt, As.holds, and_true, forall_const] at hd
      go_simp
    · refine oweAs_pure ((.bool true)) rfl (fun f W hE hd => ?_) (fun W hE => rfl)
      simp only [DepAs, Region.binds, asAt, As.holds, and_true, forall_const] at hd
      go_simp
    intro f W hE hA
    simp only [AllAs, As.holds, Nat.reduceAdd] at hA
    obtain ⟨-, -, -, -, -, -, -, -, -, -, -, -, -, -, -, -, -, -, -, -, -, -, -, -, -, -, -, -, -, -, -, hA31, -⟩ := hA
    go_wp2_with fail
    go_ret
    exact ⟨congrArg Ending.returned hA31, HB1.out.trans (hE.mono HB1.out.size)⟩
end Go.Proofs.YtjgleonbkipidaaDoor
