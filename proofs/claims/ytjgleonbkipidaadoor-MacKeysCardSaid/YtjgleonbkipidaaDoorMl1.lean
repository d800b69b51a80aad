/-
  The walk of awake (03).
-/
import Derived.Test.YtjgleonbkipidaaDoorMc5
import Derived.Test.YtjgleonbkipidaaDoorMcV
import Derived.Test.YtjgleonbkipidaaDoorReg5
import Derived.Test.YtjgleonbkipidaaDoorEq
namespace Go.Proofs.YtjgleonbkipidaaDoor
open Go Go.RowKit

@[go_sem] theorem eq_key (w : World) (xs ys : List UInt8) (hx : xs.length = 32) (hy : ys.length = 32) : (Op.equalIn 10000 38 (.agg (bvs xs)) (.agg (bvs ys))).run Tryd.prog w = .ok (xs == ys) w := by
  obtain ⟨i, hi⟩ : ∃ i, Tryd.prog.info? 5 = some i := by
    have h : (Tryd.prog.info? 5).isSome = true := by kernel_rfl
    exact Option.isSome_iff_exists.1 h
  rw [run_equalIn_array w 9999 (bvs xs) (bvs ys) Tryd.underlying38 hi, eqItems_bytes 9998 w xs ys (List.range 32) (fun i hi => by simp at hi; omega), all_at8 xs ys hx hy]

set_option maxRecDepth 100000 in
set_option maxHeartbeats 1000000 in
theorem awake3_any (w : World) (hT : Tab w) (h0 : 0 < w.heap.size) :
    Calls Tryd.prog 18 #[] w fun e w' => e = .returned (.bool true) ∧ Below w.heap.size w w' := by
  have HT := Lib.hid hT
  clear hT
  have hk : key1.length = 32 := rfl
  have hbz : (bvs key1).size = 32 := rfl
  obtain ⟨x, hx⟩ : ∃ x, x = macF key1 [97, 98] := ⟨_, rfl⟩
  have hxl : x.length = 32 := by rw [hx]; exact macF_length _ _
  have hxz : (bvs x).size = 32 := by rw [bvs_size]; exact hxl
  obtain ⟨d1, hd1⟩ : ∃ d1, d1 = derF key1 [97] 1 := ⟨_, rfl⟩
  have hdl1 : d1.length = 32 := by rw [hd1]; exact derF_length _ _ _
  obtain ⟨d2, hd2⟩ : ∃ d2, d2 = derF key1 [97] 2 := ⟨_, rfl⟩
  have hdl2 : d2.length = 32 := by rw [hd2]; exact derF_length _ _ _
  obtain ⟨z, hz⟩ : ∃ z : List UInt8, z = List.replicate 32 0 := ⟨_, rfl⟩
  have hzl : z.length = 32 := by rw [hz]; rfl
  have hxz0 : (x == z) = false := by rw [hx, hz]; exact mac_ab
  have hd12 : (d1 == d2) = false := by rw [hd1, hd2]; exact der_12
  have HX := Lib.hid hx
  have HD1 := Lib.hid hd1
  have HD2 := Lib.hid hd2
  have HZ := Lib.hid hz
  clear hx hd1 hd2 hz
  go_enter Tryd.func18, Tryd.ntmps18
  go_wp2_with (first
    | (go_at_call 19
       have hP := parts_new1 (t := 24) (g := w2.heap.size + 1) (w := w2.alloc (.cells #[.int .u8 97, .int .u8 98] 5 (2, 3))) (by simp) (HB.new w2 [97, 98] 5 (2, 3) rfl rfl (by decide))
       have hB : Below w2.heap.size w2 ((w2.alloc (.cells #[.int .u8 97, .int .u8 98] 5 (2, 3))).alloc (.cells #[.slice (some ⟨w2.heap.size, 0, none⟩) 2 2] 24)) := ((Below.refl _ _).alloc (Nat.le_refl _) _).alloc (by simp) _
       have h1 := HI.out.2.size
       have h2 := hB.size
       refine (macOf_any key1 _ [[97, 98]] _ hk ((HT.out.below HI.out.2 h0).below hB (by omega)) (by omega) hP (by simp) (by simp)).mono ?_
       rintro e w3 ⟨rfl, hb3⟩
       rw [show macF key1 [[97, 98]].flatten = x from HX.out.symm]
       have HI3 : Hid (Blk w3 w.heap.size 38 (bvs key1) ∧ Below w.heap.size w w3) := Lib.hid ⟨(HI.out.1.below hB HI.out.1.lt).below hb3 (by have := HI.out.1.lt; omega), (HI.out.2.trans (hB.mono h1)).trans (hb3.mono (by omega))⟩
       clear hP hB h1 h2 hb3 HI k1)
    | (refine wpList_load_blk rfl 38 (.tmp 1) rfl w.heap.size 38 (bvs key1) rfl HI.out.1 Tryd.underlying38 rfl (by rw [hbz]; kernel_rfl) ?_)
    | (refine wpList_store_blk rfl 38 (.tmp 1) (.tmp 3) rfl w.heap.size 38 _ (bvs key1) rfl rfl (Blk.new _ _ _) (by rw [hbz]; rfl) (by rw [hbz]; kernel_rfl) (bvs_one _) ?_
       intro w2 hb2 hg2 hz2
       have HI : Hid (Blk w2 w.heap.size 38 (bvs key1) ∧ Below w.heap.size w w2) := Lib.hid ⟨hb2, ((Below.refl w.heap.size w).alloc (Nat.le_refl _) _).grown hg2 (by simp) (by intro k hk; injection hk with hk; omega)⟩
       have k1 := lit_at Tryd.underlying24 Tryd.underlying5 w2 #[.int .u8 97, .int .u8 98] 2 2 w2.heap.size 2 3 rfl rfl rfl
       clear hb2 hg2 hz2)
    | (refine wpList_store_blk rfl 26 (.tmp 2) (.tmp 8) rfl w3.heap.size 26 _ (bvs x) rfl rfl (Blk.new _ _ _) (by rw [hxz]; rfl) (by rw [hxz]; kernel_rfl) (bvs_one _) ?_
       intro w4 hb4 hg4 hz4
       have HI4 : Hid (∃ g q, g = w.heap.size ∧ q = w3.heap.size ∧ Blk w4 g 38 (bvs key1) ∧ Blk w4 q 26 (bvs x) ∧ Below w.heap.size w w4) := by
         have h1 := HI3.out.1.lt
         have h2 := HI3.out.2.size
         exact Lib.hid ⟨_, _, rfl, rfl, (HI3.out.1.alloc _).grown hg4 (by intro h; injection h with h; omega), hb4, (HI3.out.2.alloc h2 _).grown hg4 (by simp; omega) (by intro k hk; injection hk with hk; omega)⟩
       clear hb4 hg4 hz4 HI3))
  obtain ⟨g, q, hg, hq, hI⟩ := HI4.out
  rw [← hg, ← hq]
  have HI := Lib.hid hI
  have HB1 := Lib.hid hI.2.2
  clear HI4 hI hg hq
  have hsb : sb ⟨#[97]⟩ = [97] := rfl
  refine wp_region_mk (ys := [.eq (.agg (bvs x)), .eq (.agg (bvs key1)), .lit w4.heap.size [97], .hb [97], .lit w4.heap.size [98], .hb [98], .parts [[97], [98]], .eq (.agg (bvs x)), .eq (.bool true), .eq (.bool true), .eq (.agg (bvs x)), .eq (.agg (bvs z)), .eq (.bool true), .eq (.bool true), .eq (.bool true), .eq (.agg (bvs x)), .eq (.agg (bvs x)), .eq (.bool true), .eq (.bool true), .eq (.bool true), .eq (.agg (bvs x)), .eq (.agg (bvs z)), .eq (.bool false), .eq (.bool true), .eq (.bool true), .eq (.bool true), .eq (.agg (bvs key1)), .eq (.agg (bvs d1)), .eq (.agg (bvs key1)), .eq (.agg (bvs d2)), .eq (.bool true), .eq (.bool true), .eq (.bool true)]) (by kernel_rfl) (by kernel_rfl) (by kernel_rfl) (by kernel_rfl) rfl _ (fun f => by simp only [framedL, Act.put, List.setIfInBounds_toArray, List.set_cons_zero, List.set_cons_succ, Nat.reduceAdd]; rfl) ⟨?_, ?_, ?_, ?_, ?_, ?_, ?_, ?_, ?_, ?_, ?_, ?_, ?_, ?_, ?_, ?_, ?_, ?_, ?_, ?_, ?_, ?_, ?_, ?_, ?_, ?_, ?_, ?_, ?_, ?_, ?_, ?_, ?_, trivial⟩ ?_
  · exact oweM_load 26 (.tmp 2) rfl (q) 26 (bvs x) (fun _ => rfl) (HI.out.2.1) Tryd.underlying26 rfl (by rw [bvs_size, hxl]; kernel_rfl) rfl rfl
  · exact oweM_load 38 (.tmp 1) rfl (g) 38 (bvs key1) (fun _ => rfl) (HI.out.1) Tryd.underlying38 rfl (by rw [bvs_size, hk]; kernel_rfl) rfl rfl
  · refine oweM_made rfl (fun f W hE hd => ?_)
    refine ⟨_, _, by (go_simp; first | exact rfl | exact ⟨rfl, rfl⟩), ?_, (Below.refl W.heap.size W).alloc (Nat.le_refl _) _⟩
    exact lit_new W [97] _ rfl rfl (by decide) hE.size
  · refine oweM_mark [97] rfl 24 5 Tryd.underlying24 Tryd.underlying5 (.tmp 11) rfl (fun f W hd => ?_) rfl
    simp only [DepM, Region.binds, asAtM, AsM.holds, and_true, forall_const] at hd
    exact hd
  · refine oweM_made rfl (fun f W hE hd => ?_)
    refine ⟨_, _, by (go_simp; first | exact rfl | exact ⟨rfl, rfl⟩), ?_, (Below.refl W.heap.size W).alloc (Nat.le_refl _) _⟩
    exact lit_new W [98] _ rfl rfl (by decide) hE.size
  · refine oweM_mark [98] rfl 24 5 Tryd.underlying24 Tryd.underlying5 (.tmp 13) rfl (fun f W hd => ?_) rfl
    simp only [DepM, Region.binds, asAtM, AsM.holds, and_true, forall_const] at hd
    exact hd
  · refine oweM_made rfl (fun f W hE hd => ?_)
    simp only [DepM, Region.binds, asAtM, AsM.holds, and_true, forall_const] at hd
    obtain ⟨⟨p1, c1, e1, hr1⟩, ⟨p2, c2, e2, hr2⟩⟩ := And.intro (id hd.1) (id hd.2)
    have hP := parts_new2 (w := W) (t := 24) rfl (⟨p1, c1, rfl, hr1⟩ : HB W (.slice p1 ([97] : List UInt8).length c1) [97]) (⟨p2, c2, rfl, hr2⟩ : HB W (.slice p2 ([98] : List UInt8).length c2) [98])
    refine ⟨_, _, by (go_simp; first | exact rfl | exact ⟨rfl, rfl⟩), ?_, (Below.refl W.heap.size W).alloc (Nat.le_refl _) _⟩
    exact hP
  · refine oweM_call 19 rfl (fun f W hE hd => ?_)
    simp only [DepM, Region.binds, asAtM, AsM.holds, and_true, forall_const] at hd
    refine ⟨_, by (go_simp; first | exact rfl | exact ⟨rfl, rfl⟩), ?_⟩
    have hl := HB1.out.size
    have hz := hE.size
    refine (macOf_any key1 _ [[97], [98]] W hk ((HT.out.below HB1.out h0).below hE (by omega)) (by omega) (by first | exact hd.2 | exact hd.2.1) (by first | (simp; done) | (simp; omega)) (by first | (simp; done) | (simp; omega))).mono ?_
    rintro e w' ⟨rfl, hb⟩
    exact ⟨_, rfl, by (show (_ : Value) = _; rw [show macF key1 [[97], [98]].flatten = x from HX.out.symm]), hb⟩
  · refine oweM_pure ((.bool true)) rfl (fun f W hE hd => ?_) (fun W hE => rfl)
    simp only [DepM, Region.binds, asAtM, AsM.holds, and_true, forall_const] at hd
    go_simp
  · refine oweM_pure ((.bool true)) rfl (fun f W hE hd => ?_) (fun W hE => rfl)
    simp only [DepM, Region.binds, asAtM, AsM.holds, and_true, forall_const] at hd
    go_simp
  · exact oweM_load 26 (.tmp 2) rfl (q) 26 (bvs x) (fun _ => rfl) (HI.out.2.1) Tryd.underlying26 rfl (by rw [bvs_size, hxl]; kernel_rfl) rfl rfl
  · refine oweM_pure ((.agg (bvs z))) rfl (fun f W hE hd => ?_) (fun W hE => rfl)
    rw [HZ.out]
    go_simp
    rfl
  · refine oweM_pure ((.bool true)) rfl (fun f W hE hd => ?_) (fun W hE => rfl)
    simp only [DepM, Region.binds, asAtM, AsM.holds, and_true, forall_const] at hd
    go_simp
  · refine oweM_pure ((.bool true)) rfl (fun f W hE hd => ?_) (fun W hE => rfl)
    simp only [DepM, Region.binds, asAtM, AsM.holds, and_true, forall_const] at hd
    go_simp
  · refine oweM_pure ((.bool true)) rfl (fun f W hE hd => ?_) (fun W hE => rfl)
    simp only [DepM, Region.binds, asAtM, AsM.holds, and_true, forall_const] at hd
    go_simp
  · exact oweM_load 26 (.tmp 2) rfl (q) 26 (bvs x) (fun _ => rfl) (HI.out.2.1) Tryd.underlying26 rfl (by rw [bvs_size, hxl]; kernel_rfl) rfl rfl
  · exact oweM_load 26 (.tmp 2) rfl (q) 26 (bvs x) (fun _ => rfl) (HI.out.2.1) Tryd.underlying26 rfl (by rw [bvs_size, hxl]; kernel_rfl) rfl rfl
  · refine oweM_call 23 rfl (fun f W hE hd => ?_)
    simp only [DepM, Region.binds, asAtM, AsM.holds, and_true, forall_const] at hd
    refine ⟨_, by (go_simp; first | exact rfl | exact ⟨rfl, rfl⟩), ?_⟩
    refine (same_any x x W hxl hxl).mono ?_
    rintro e w' ⟨rfl, hb⟩
    exact ⟨_, rfl, by (show (_ : Value) = _; simp), hb⟩
  · refine oweM_pure ((.bool true)) rfl (fun f W hE hd => ?_) (fun W hE => rfl)
    simp only [DepM, Region.binds, asAtM, AsM.holds, and_true, forall_const] at hd
    go_simp
  · refine oweM_pure ((.bool true)) rfl (fun f W hE hd => ?_) (fun W hE => rfl)
    simp only [DepM, Region.binds, asAtM, AsM.holds, and_true, forall_const] at hd
    go_simp
  · exact oweM_load 26 (.tmp 2) rfl (q) 26 (bvs x) (fun _ => rfl) (HI.out.2.1) Tryd.underlying26 rfl (by rw [bvs_size, hxl]; kernel_rfl) rfl rfl
  · refine oweM_pure ((.agg (bvs z))) rfl (fun f W hE hd => ?_) (fun W hE => rfl)
    rw [HZ.out]
    go_simp
    rfl
  · refine oweM_call 23 rfl (fun f W hE hd => ?_)
    simp only [DepM, Region.binds, asAtM, AsM.holds, and_true, forall_const] at hd
    refine ⟨_, by (go_simp; first | exact rfl | exact ⟨rfl, rfl⟩), ?_⟩
    refine (same_any x z W hxl hzl).mono ?_
    rintro e w' ⟨rfl, hb⟩
    exact ⟨_, rfl, by (show (_ : Value) = _; rw [hxz0]), hb⟩
  · refine oweM_pure ((.bool true)) rfl (fun f W hE hd => ?_) (fun W hE => rfl)
    simp only [DepM, Region.binds, asAtM, AsM.holds, and_true, forall_const] at hd
    go_simp
  · refine oweM_pure ((.bool true)) rfl (fun f W hE hd => ?_) (fun W hE => rfl)
    simp only [DepM, Region.binds, asAtM, AsM.holds, and_true, forall_const] at hd
    go_simp
  · refine oweM_pure ((.bool true)) rfl (fun f W hE hd => ?_) (fun W hE => rfl)
    simp only [DepM, Region.binds, asAtM, AsM.holds, and_true, forall_const] at hd
    go_simp
  · exact oweM_load 38 (.tmp 1) rfl (g) 38 (bvs key1) (fun _ => rfl) (HI.out.1) Tryd.underlying38 rfl (by rw [bvs_size, hk]; kernel_rfl) rfl rfl
  · refine oweM_call 21 rfl (fun f W hE hd => ?_)
    simp only [DepM, Region.binds, asAtM, AsM.holds, and_true, forall_const] at hd
    refine ⟨_, by (go_simp; first | exact rfl | exact ⟨rfl, rfl⟩), ?_⟩
    have hl := HB1.out.size
    have hz := hE.size
    refine (macDer_any key1 ⟨#[97]⟩ 1 W ((HT.out.below HB1.out h0).below hE (by omega)) (by omega) hk (by decide) (by omega)).mono ?_
    rintro e w' ⟨rfl, hb⟩
    exact ⟨_, rfl, by (show (_ : Value) = _; rw [hsb, HD1.out]), hb⟩
  · exact oweM_load 38 (.tmp 1) rfl (g) 38 (bvs key1) (fun _ => rfl) (HI.out.1) Tryd.underlying38 rfl (by rw [bvs_size, hk]; kernel_rfl) rfl rfl
  · refine oweM_call 21 rfl (fun f W hE hd => ?_)
    simp only [DepM, Region.binds, asAtM, AsM.holds, and_true, forall_const] at hd
    refine ⟨_, by (go_simp; first | exact rfl | exact ⟨rfl, rfl⟩), ?_⟩
    have hl := HB1.out.size
    have hz := hE.size
    refine (macDer_any key1 ⟨#[97]⟩ 2 W ((HT.out.below HB1.out h0).below hE (by omega)) (by omega) hk (by decide) (by omega)).mono ?_
    rintro e w' ⟨rfl, hb⟩
    exact ⟨_, rfl, by (show (_ : Value) = _; rw [hsb, HD2.out]), hb⟩
  · refine oweM_pure ((.bool true)) rfl (fun f W hE hd => ?_) (fun W hE => rfl)
    simp only [DepM, Region.binds, asAtM, AsM.holds, and_true, forall_const] at hd
    go_simp
  · refine oweM_pure ((.bool true)) rfl (fun f W hE hd => ?_) (fun W hE => rfl)
    simp only [DepM, Region.binds, asAtM, AsM.holds, and_true, forall_const] at hd
    go_simp
  · refine oweM_pure ((.bool true)) rfl (fun f W hE hd => ?_) (fun W hE => rfl)
    simp only [DepM, Region.binds, asAtM, AsM.holds, and_true, forall_const] at hd
    go_simp
  intro f W hE hA
  simp only [AllM, AsM.holds, Nat.reduceAdd] at hA
  obtain ⟨-, -, -, -, -, -, -, -, -, -, -, -, -, -, -, -, -, -, -, -, -, -, -, -, -, -, -, -, -, -, -, -, hA32, -⟩ := hA
  go_wp2_with fail
  go_ret
  exact ⟨congrArg Ending.returned hA32, HB1.out.trans (hE.mono HB1.out.size)⟩
end Go.Proofs.YtjgleonbkipidaaDoor
