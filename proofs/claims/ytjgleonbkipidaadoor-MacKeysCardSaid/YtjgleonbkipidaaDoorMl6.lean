/-
  The walk of the law MacKeys.
-/
import Derived.Test.YtjgleonbkipidaaDoorMl1
import Derived.Test.YtjgleonbkipidaaDoorMl3
import Derived.Test.YtjgleonbkipidaaDoorBt2
namespace Go.Proofs.YtjgleonbkipidaaDoor
open Go Go.RowKit

set_option maxRecDepth 100000 in
set_option maxHeartbeats 2000000 in
theorem macKeys_any (key : List UInt8) (q : Nat) (v : Value) (l : List UInt8) (n : Nat) (w : World) (hT : Tab w) (h0 : 0 < w.heap.size) (hk : key.length = 32) (hq : q < 256) (hL : HB w v l) (hn : n < 18446744073709551616) :
    Calls Tryd.prog 13 #[.agg (bvs key), .int .u8 (q : Int), v, .int .u64 (n : Int)] w fun e w' => e = .returned (.bool true) ∧ Below w.heap.size w w' := by
  have hbz : (bvs key).size = 32 := by rw [bvs_size]; exact hk
  obtain ⟨p, cap, rfl, hl, hm⟩ := hL.form
  unfold maxLen at hm
  have HT := Lib.hid hT; have HL := Lib.hid hL
  clear hT hL
  obtain ⟨j, hj⟩ : ∃ j, j = q / 8 := ⟨_, rfl⟩
  obtain ⟨b8, hb8⟩ : ∃ b8, b8 = q % 8 := ⟨_, rfl⟩
  have hj32 : j < 32 := by omega
  have hb88 : b8 < 8 := by omega
  have hq4 : (q : Int) / 8 = (j : Int) := by omega
  have hq5 : (q : Int).tdiv 8 = (j : Int) := by rw [Int.tdiv_eq_ediv_of_nonneg (by omega)]; omega
  have hm4 : (q : Int) % 8 = (b8 : Int) := by omega
  have hm5 : (j : Int) % 32 = (j : Int) := by omega
  clear hj hb8
  obtain ⟨y, hy⟩ : ∃ y, y = UInt8.ofNat (2 ^ b8) := ⟨_, rfl⟩
  obtain ⟨other, ho⟩ : ∃ other, other = key.set j (at8 key j ^^^ y) := ⟨_, rfl⟩
  have hol : other.length = 32 := by rw [ho, List.length_set]; exact hk
  have hoz : (bvs other).size = 32 := by rw [bvs_size]; exact hol
  have HY : Hid ((2 : Int) ^ b8 % 256 = (y.toNat : Int)) := Lib.hid (by rw [hy]; simp [UInt8.toNat_ofNat'])
  have HO := Lib.hid ho
  obtain ⟨x, hx⟩ : ∃ x, x = macF key l := ⟨_, rfl⟩
  have hxl : x.length = 32 := by rw [hx]; exact macF_length _ _
  have hxz : (bvs x).size = 32 := by rw [bvs_size]; exact hxl
  obtain ⟨z, hz⟩ : ∃ z, z = macF other l := ⟨_, rfl⟩
  have hzl : z.length = 32 := by rw [hz]; exact macF_length _ _
  have hzz : (bvs z).size = 32 := by rw [bvs_size]; exact hzl
  have HX := Lib.hid hx
  have HZ := Lib.hid hz
  clear hx hz
  clear hy ho
  by_cases h10 : (150 : Int) < (l.length : Int)
  · go_enter Tryd.func13, Tryd.ntmps13
    go_wp2_with (first
        | (go_at_call 18
           refine (awake3_any _ (HT.out.below ((Below.refl w.heap.size w).alloc (Nat.le_refl _) _) h0) (by simp)).mono ?_
           rintro e w1 ⟨rfl, hb1⟩
           have HI : Hid (Blk w1 w.heap.size 38 (bvs key) ∧ Below w.heap.size w w1) := Lib.hid ⟨(Blk.new w _ _).below hb1 (by simp), ((Below.refl w.heap.size w).alloc (Nat.le_refl _) _).trans (hb1.mono (by simp))⟩
           have HB1 := Lib.hid HI.out.2
           clear hb1)
        | (refine wpList_load_blk rfl 38 (.tmp 4) rfl w.heap.size 38 (bvs key) rfl HI.out.1 Tryd.underlying38 rfl (by rw [hbz]; kernel_rfl) ?_))
    go_ret
    exact ⟨rfl, HB1.out⟩
  · go_enter Tryd.func13, Tryd.ntmps13
    go_wp2_with (first
        | (go_at_call 18
           refine (awake3_any _ (HT.out.below ((Below.refl w.heap.size w).alloc (Nat.le_refl _) _) h0) (by simp)).mono ?_
           rintro e w1 ⟨rfl, hb1⟩
           have HI : Hid (Blk w1 w.heap.size 38 (bvs key) ∧ Below w.heap.size w w1) := Lib.hid ⟨(Blk.new w _ _).below hb1 (by simp), ((Below.refl w.heap.size w).alloc (Nat.le_refl _) _).trans (hb1.mono (by simp))⟩
           have HB1 := Lib.hid HI.out.2
           clear hb1)
        | (refine wpList_load_blk rfl 38 (.tmp 4) rfl w.heap.size 38 (bvs key) rfl HI.out.1 Tryd.underlying38 rfl (by rw [hbz]; kernel_rfl) ?_)
        | (refine wpList_store_blk rfl 26 (.tmp 12) (.tmp 39) rfl w8.heap.size 26 _ (bvs z) rfl rfl (Blk.new _ _ _) (by rw [hzz]; rfl) (by rw [hzz]; kernel_rfl) (bvs_one _) ?_
           intro w9 hb9 hg9 hz9
           have HI9 : Hid (∃ g g1 g2 g3, g = w.heap.size ∧ g1 = w1.heap.size ∧ g2 = w6.heap.size ∧ g3 = w8.heap.size ∧ Blk w9 g 38 (bvs key) ∧ Blk w9 g1 38 (bvs other) ∧ Blk w9 g2 26 (bvs x) ∧ Blk w9 g3 26 (bvs z) ∧ Below w.heap.size w w9) := by
             have h1 := HI8.out.1.lt
             have h2 := HI8.out.2.1.lt
             have h3 := HI8.out.2.2.1.lt
             have h4 := HI8.out.2.2.2.size
             exact Lib.hid ⟨_, _, _, _, rfl, rfl, rfl, rfl, (HI8.out.1.alloc _).grown hg9 (by intro h; injection h with h; omega), (HI8.out.2.1.alloc _).grown hg9 (by intro h; injection h with h; omega), (HI8.out.2.2.1.alloc _).grown hg9 (by intro h; injection h with h; omega), hb9, (HI8.out.2.2.2.alloc (by omega) _).grown hg9 (by simp; omega) (by intro k hk; injection hk with hk; omega)⟩
           clear hb9 hg9 hz9 HI8)
        | (go_at_call 19
           have hP := parts_new1 (w := w7) (t := 24) rfl (HL.out.keep HI7.out.2.2.2)
           have hB : Below w7.heap.size w7 (w7.alloc (.cells #[.slice p l.length cap] 24)) := (Below.refl _ _).alloc (Nat.le_refl _) _
           have h1 := HI7.out.2.2.2.size
           have h2 := hB.size
           refine (macOf_any other _ [l] _ hol ((HT.out.below HI7.out.2.2.2 h0).below hB (by omega)) (by omega) hP (by simp) (by simp; omega)).mono ?_
           rintro e w8 ⟨rfl, hb8⟩
           rw [show macF other [l].flatten = z by rw [HZ.out]; simp]
           have HI8 : Hid (Blk w8 w.heap.size 38 (bvs key) ∧ Blk w8 w1.heap.size 38 (bvs other) ∧ Blk w8 w6.heap.size 26 (bvs x) ∧ Below w.heap.size w w8) := Lib.hid ⟨(HI7.out.1.below hB HI7.out.1.lt).below hb8 (by have := HI7.out.1.lt; omega), (HI7.out.2.1.below hB HI7.out.2.1.lt).below hb8 (by have := HI7.out.2.1.lt; omega), (HI7.out.2.2.1.below hB HI7.out.2.2.1.lt).below hb8 (by have := HI7.out.2.2.1.lt; omega), (HI7.out.2.2.2.trans (hB.mono h1)).trans (hb8.mono (by omega))⟩
           clear hP hB h1 h2 hb8 HI7)
        | (refine wpList_load_blk rfl 38 (.tmp 10) rfl w1.heap.size 38 (bvs other) rfl HI7.out.2.1 Tryd.underlying38 rfl (by rw [hoz]; kernel_rfl) ?_)
        | (refine wpList_store_blk rfl 26 (.tmp 11) (.tmp 35) rfl w6.heap.size 26 _ (bvs x) rfl rfl (Blk.new _ _ _) (by rw [hxz]; rfl) (by rw [hxz]; kernel_rfl) (bvs_one _) ?_
           intro w7 hb7 hg7 hz7
           have HI7 : Hid (Blk w7 w.heap.size 38 (bvs key) ∧ Blk w7 w1.heap.size 38 (bvs other) ∧ Blk w7 w6.heap.size 26 (bvs x) ∧ Below w.heap.size w w7) := by
             have h1 := HI6.out.1.lt
             have h2 := HI6.out.2.1.lt
             have h4 := HI6.out.2.2.size
             exact Lib.hid ⟨(HI6.out.1.alloc _).grown hg7 (by intro h; injection h with h; omega), (HI6.out.2.1.alloc _).grown hg7 (by intro h; injection h with h; omega), hb7, (HI6.out.2.2.alloc (by omega) _).grown hg7 (by simp; omega) (by intro k hk; injection hk with hk; omega)⟩
           clear hb7 hg7 hz7 HI6)
        | (go_at_call 19
           have hP := parts_new1 (w := w5) (t := 24) rfl (HL.out.keep HI5.out.2.2)
           have hB : Below w5.heap.size w5 (w5.alloc (.cells #[.slice p l.length cap] 24)) := (Below.refl _ _).alloc (Nat.le_refl _) _
           have h1 := HI5.out.2.2.size
           have h2 := hB.size
           refine (macOf_any key _ [l] _ hk ((HT.out.below HI5.out.2.2 h0).below hB (by omega)) (by omega) hP (by simp) (by simp; omega)).mono ?_
           rintro e w6 ⟨rfl, hb6⟩
           rw [show macF key [l].flatten = x by rw [HX.out]; simp]
           have HI6 : Hid (Blk w6 w.heap.size 38 (bvs key) ∧ Blk w6 w1.heap.size 38 (bvs other) ∧ Below w.heap.size w w6) := Lib.hid ⟨(HI5.out.1.below hB HI5.out.1.lt).below hb6 (by have := HI5.out.1.lt; omega), (HI5.out.2.1.below hB HI5.out.2.1.lt).below hb6 (by have := HI5.out.2.1.lt; omega), (HI5.out.2.2.trans (hB.mono h1)).trans (hb6.mono (by omega))⟩
           clear hP hB h1 h2 hb6 HI5)
        | (rw [HY.out, xor8_rule (at8 key j) y]
           have HI5 : Hid (Blk (w3.setCell ⟨w1.heap.size, j, none⟩ (.int .u8 ((at8 key j ^^^ y).toNat : Int))) w.heap.size 38 (bvs key) ∧ Blk (w3.setCell ⟨w1.heap.size, j, none⟩ (.int .u8 ((at8 key j ^^^ y).toNat : Int))) w1.heap.size 38 (bvs other) ∧ Below w.heap.size w (w3.setCell ⟨w1.heap.size, j, none⟩ (.int .u8 ((at8 key j ^^^ y).toNat : Int)))) := by
             have h9 := HI3.out.2.2.2
             refine Lib.hid ⟨HI3.out.1.other (by show w.heap.size ≠ w1.heap.size; omega) _, ?_, HI3.out.2.2.1.setCell (show w.heap.size ≤ w1.heap.size by omega) _⟩
             rw [HO.out]
             exact HI3.out.2.1.byte_store _ _
           generalize w3.setCell ⟨w1.heap.size, j, none⟩ (.int .u8 ((at8 key j ^^^ y).toNat : Int)) = w5 at *
           refine wpList_load_blk rfl 38 (.tmp 4) rfl w.heap.size 38 (bvs key) rfl HI5.out.1 Tryd.underlying38 rfl (by rw [hbz]; kernel_rfl) ?_
           clear HI3 c0 f0)
        | (refine wpList_store_blk rfl 38 (.tmp 10) (.tmp 19) rfl w1.heap.size 38 _ (bvs key) rfl rfl (Blk.new _ _ _) (by rw [hbz]; rfl) (by rw [hbz]; kernel_rfl) (bvs_one _) ?_
           intro w3 hb3 hg3 hz3
           have HI3 : Hid (Blk w3 w.heap.size 38 (bvs key) ∧ Blk w3 w1.heap.size 38 (bvs key) ∧ Below w.heap.size w w3 ∧ w.heap.size < w1.heap.size) := by
             have h1 := HI.out.1.lt
             exact Lib.hid ⟨(HI.out.1.alloc _).grown hg3 (by intro h; injection h with h; omega), hb3, (HI.out.2.alloc (by omega) _).grown hg3 (by simp; omega) (by intro k hk; injection hk with hk; omega), h1⟩
           have c0 := hb3.byte (i := j) (by omega)
           have f0 := hb3.frozen j
           clear hb3 hg3 hz3 HI))
    obtain ⟨g, g1, g2, g3, hg, hg1, hg2, hg3, hI⟩ := HI9.out
    rw [← hg, ← hg1, ← hg2, ← hg3]
    have HI := Lib.hid hI
    have HB0 := HB1
    clear HI9 hI hg hg1 hg2 hg3 HB1
    have HB1 := Lib.hid HI.out.2.2.2.2
    have HL9 := Lib.hid (HL.out.keep HI.out.2.2.2.2)
    obtain ⟨r, hr⟩ : ∃ r, r = (x == z) := ⟨_, rfl⟩
    have HR := Lib.hid hr.symm
    obtain ⟨d, hd⟩ : ∃ d, d = derF other l n := ⟨_, rfl⟩
    have hdl : d.length = 32 := by rw [hd]; exact derF_length _ _ _
    have HD := Lib.hid hd
    clear hr hd
    refine wp_region_as (ys := [.eq (.agg (bvs x)), .eq (.agg (bvs key)), .eq (.slice p l.length cap), .eq (.string (bs l)), .eq (.agg (bvs x)), .eq (.bool true), .eq (.bool true), .eq (.agg (bvs z)), .eq (.agg (bvs other)), .eq (.slice p l.length cap), .eq (.string (bs l)), .eq (.agg (bvs z)), .eq (.bool true), .eq (.bool true), .eq (.bool true), .eq (.agg (bvs other)), .eq (.slice p l.length cap), .eq (.string (bs l)), .eq (.int .u64 (n : Int)), .eq (.agg (bvs d)), .eq (.agg (bvs other)), .eq (.slice p l.length cap), .eq (.string (bs l)), .eq (.int .u64 (n : Int)), .eq (.agg (bvs d)), .eq (.bool true), .eq (.bool true), .eq (.bool true), .eq (.agg (bvs x)), .eq (.agg (bvs z)), .eq (.bool r), .eq (.agg (bvs x)), .eq (.agg (bvs z)), .eq (.bool r), .eq (.bool true), .eq (.bool true), .eq (.bool true)]) (by kernel_rfl) (by kernel_rfl) (by kernel_rfl) (by kernel_rfl) rfl _ (fun f => by simp only [framedL, Act.put, List.setIfInBounds_toArray, List.set_cons_zero, List.set_cons_succ, Nat.reduceAdd]; rfl) ⟨?_, ?_, ?_, ?_, ?_, ?_, ?_, ?_, ?_, ?_, ?_, ?_, ?_, ?_, ?_, ?_, ?_, ?_, ?_, ?_, ?_, ?_, ?_, ?_, ?_, ?_, ?_, ?_, ?_, ?_, ?_, ?_, ?_, ?_, ?_, ?_, ?_, trivial⟩ ?_
    · exact oweAs_load 26 (.tmp 11) rfl (g2) 26 (bvs x) (fun _ => rfl) (HI.out.2.2.1) Tryd.underlying26 rfl (by rw [bvs_size, hxl]; kernel_rfl) rfl rfl
    · exact oweAs_load 38 (.tmp 4) rfl (g) 38 (bvs key) (fun _ => rfl) (HI.out.1) Tryd.underlying38 rfl (by rw [bvs_size, hk]; kernel_rfl) rfl rfl
    · refine oweAs_pure ((.slice p l.length cap)) rfl (fun f W hE hd => ?_) (fun W hE => rfl)
      go_simp
    · refine oweAs_pure ((.string (bs l))) rfl (fun f W hE hd => ?_) (fun W hE => rfl)
      simp only [DepAs, Region.binds, asAt, As.holds, and_true, forall_const] at hd
      have hcv := (HL9.out.keep hE).str Tryd.underlying24 Tryd.underlying5 Tryd.underlying9
      go_simp
    · refine oweAs_call 20 rfl (fun f W hE hd => ?_)
      simp only [DepAs, Region.binds, asAt, As.holds, and_true, forall_const] at hd
      refine ⟨_, by (go_simp; first | exact rfl | exact ⟨rfl, rfl⟩), ?_⟩
      refine (refOf3_any key (bs l) W hk (by rw [bs_size]; omega)).mono ?_
      rintro e w' ⟨rfl, hb⟩
      exact ⟨_, rfl, by (show (_ : Value) = _; rw [sb_bs, HX.out]), hb⟩
    · refine oweAs_pure ((.bool true)) rfl (fun f W hE hd => ?_) (fun W hE => rfl)
      simp only [DepAs, Region.binds, asAt, As.holds, and_true, forall_const] at hd
      go_simp
    · refine oweAs_pure ((.bool true)) rfl (fun f W hE hd => ?_) (fun W hE => rfl)
      simp only [DepAs, Region.binds, asAt, As.holds, and_true, forall_const] at hd
      go_simp
    · exact oweAs_load 26 (.tmp 12) rfl (g3) 26 (bvs z) (fun _ => rfl) (HI.out.2.2.2.1) Tryd.underlying26 rfl (by rw [bvs_size, hzl]; kernel_rfl) rfl rfl
    · exact oweAs_load 38 (.tmp 10) rfl (g1) 38 (bvs other) (fun _ => rfl) (HI.out.2.1) Tryd.underlying38 rfl (by rw [bvs_size, hol]; kernel_rfl) rfl rfl
    · refine oweAs_pure ((.slice p l.length cap)) rfl (fun f W hE hd => ?_) (fun W hE => rfl)
      go_simp
    · refine oweAs_pure ((.string (bs l))) rfl (fun f W hE hd => ?_) (fun W hE => rfl)
      simp only [DepAs, Region.binds, asAt, As.holds, and_true, forall_const] at hd
      have hcv := (HL9.out.keep hE).str Tryd.underlying24 Tryd.underlying5 Tryd.underlying9
      go_simp
    · refine oweAs_call 20 rfl (fun f W hE hd => ?_)
      simp only [DepAs, Region.binds, asAt, As.holds, and_true, forall_const] at hd
      refine ⟨_, by (go_simp; first | exact rfl | exact ⟨rfl, rfl⟩), ?_⟩
      refine (refOf3_any other (bs l) W hol (by rw [bs_size]; omega)).mono ?_
      rintro e w' ⟨rfl, hb⟩
      exact ⟨_, rfl, by (show (_ : Value) = _; rw [sb_bs, HZ.out]), hb⟩
    · refine oweAs_pure ((.bool true)) rfl (fun f W hE hd => ?_) (fun W hE => rfl)
      simp only [DepAs, Region.binds, asAt, As.holds, and_true, forall_const] at hd
      go_simp
    · refine oweAs_pure ((.bool true)) rfl (fun f W hE hd => ?_) (fun W hE => rfl)
      simp only [DepAs, Region.binds, asAt, As.holds, and_true, forall_const] at hd
      go_simp
    · refine oweAs_pure ((.bool true)) rfl (fun f W hE hd => ?_) (fun W hE => rfl)
      simp only [DepAs, Region.binds, asAt, As.holds, and_true, forall_const] at hd
      go_simp
    · exact oweAs_load 38 (.tmp 10) rfl (g1) 38 (bvs other) (fun _ => rfl) (HI.out.2.1) Tryd.underlying38 rfl (by rw [bvs_size, hol]; kernel_rfl) rfl rfl
    · refine oweAs_pure ((.slice p l.length cap)) rfl (fun f W hE hd => ?_) (fun W hE => rfl)
      go_simp
    · refine oweAs_pure ((.string (bs l))) rfl (fun f W hE hd => ?_) (fun W hE => rfl)
      simp only [DepAs, Region.binds, asAt, As.holds, and_true, forall_const] at hd
      have hcv := (HL9.out.keep hE).str Tryd.underlying24 Tryd.underlying5 Tryd.underlying9
      go_simp
    · refine oweAs_pure ((.int .u64 (n : Int))) rfl (fun f W hE hd => ?_) (fun W hE => rfl)
      go_simp
    · refine oweAs_call 21 rfl (fun f W hE hd => ?_)
      simp only [DepAs, Region.binds, asAt, As.holds, and_true, forall_const] at hd
      refine ⟨_, by (go_simp; first | exact rfl | exact ⟨rfl, rfl⟩), ?_⟩
      have hl := HB1.out.size
      have hz := hE.size
      refine (macDer_any other (bs l) n W ((HT.out.below HB1.out h0).below hE (by omega)) (by omega) hol (by rw [bs_size]; omega) (hn)).mono ?_
      rintro e w' ⟨rfl, hb⟩
      exact ⟨_, rfl, by (show (_ : Value) = _; rw [sb_bs, HD.out]), hb⟩
    · exact oweAs_load 38 (.tmp 10) rfl (g1) 38 (bvs other) (fun _ => rfl) (HI.out.2.1) Tryd.underlying38 rfl (by rw [bvs_size, hol]; kernel_rfl) rfl rfl
    · refine oweAs_pure ((.slice p l.length cap)) rfl (fun f W hE hd => ?_) (fun W hE => rfl)
      go_simp
    · refine oweAs_pure ((.string (bs l))) rfl (fun f W hE hd => ?_) (fun W hE => rfl)
      simp only [DepAs, Region.binds, asAt, As.holds, and_true, forall_const] at hd
      have hcv := (HL9.out.keep hE).str Tryd.underlying24 Tryd.underlying5 Tryd.underlying9
      go_simp
    · refine oweAs_pure ((.int .u64 (n : Int))) rfl (fun f W hE hd => ?_) (fun W hE => rfl)
      go_simp
    · refine oweAs_call 22 rfl (fun f W hE hd => ?_)
      simp only [DepAs, Region.binds, asAt, As.holds, and_true, forall_const] at hd
      refine ⟨_, by (go_simp; first | exact rfl | exact ⟨rfl, rfl⟩), ?_⟩
      refine (refDer_any other (bs l) n W hol (by rw [bs_size]; omega) (hn)).mono ?_
      rintro e w' ⟨rfl, hb⟩
      exact ⟨_, rfl, by (show (_ : Value) = _; rw [sb_bs, HD.out]), hb⟩
    · refine oweAs_pure ((.bool true)) rfl (fun f W hE hd => ?_) (fun W hE => rfl)
      simp only [DepAs, Region.binds, asAt, As.holds, and_true, forall_const] at hd
      go_simp
    · refine oweAs_pure ((.bool true)) rfl (fun f W hE hd => ?_) (fun W hE => rfl)
      simp only [DepAs, Region.binds, asAt, As.holds, and_true, forall_const] at hd
      go_simp
    · refine oweAs_pure ((.bool true)) rfl (fun f W hE hd => ?_) (fun W hE => rfl)
      simp only [DepAs, Region.binds, asAt, As.holds, and_true, forall_const] at hd
      go_simp
    · exact oweAs_load 26 (.tmp 11) rfl (g2) 26 (bvs x) (fun _ => rfl) (HI.out.2.2.1) Tryd.underlying26 rfl (by rw [bvs_size, hxl]; kernel_rfl) rfl rfl
    · exact oweAs_load 26 (.tmp 12) rfl (g3) 26 (bvs z) (fun _ => rfl) (HI.out.2.2.2.1) Tryd.underlying26 rfl (by rw [bvs_size, hzl]; kernel_rfl) rfl rfl
    · refine oweAs_call 23 rfl (fun f W hE hd => ?_)
      simp only [DepAs, Region.binds, asAt, As.holds, and_true, forall_const] at hd
      refine ⟨_, by (go_simp; first | exact rfl | exact ⟨rfl, rfl⟩), ?_⟩
      refine (same_any x z W hxl hzl).mono ?_
      rintro e w' ⟨rfl, hb⟩
      exact ⟨_, rfl, by (show (_ : Value) = _; rw [HR.out]), hb⟩
    · exact oweAs_load 26 (.tmp 11) rfl (g2) 26 (bvs x) (fun _ => rfl) (HI.out.2.2.1) Tryd.underlying26 rfl (by rw [bvs_size, hxl]; kernel_rfl) rfl rfl
    · exact oweAs_load 26 (.tmp 12) rfl (g3) 26 (bvs z) (fun _ => rfl) (HI.out.2.2.2.1) Tryd.underlying26 rfl (by rw [bvs_size, hzl]; kernel_rfl) rfl rfl
    · refine oweAs_pure ((.bool r)) rfl (fun f W hE hd => ?_) (fun W hE => rfl)
      simp only [DepAs, Region.binds, asAt, As.holds, and_true, forall_const] at hd
      have hr := HR.out
      go_simp
    · refine oweAs_pure ((.bool true)) rfl (fun f W hE hd => ?_) (fun W hE => rfl)
      simp only [DepAs, Region.binds, asAt, As.holds, and_true, forall_const] at hd
      go_simp
    · refine oweAs_pure ((.bool true)) rfl (fun f W hE hd => ?_) (fun W hE => rfl)
      simp only [DepAs, Region.binds, asAt, As.holds, and_true, forall_const] at hd
      go_simp
    · refine oweAs_pure ((.bool true)) rfl (fun f W hE hd => ?_) (fun W hE => rfl)
      simp only [DepAs, Region.binds, asAt, As.holds, and_true, forall_const] at hd
      go_simp
    intro f W hE hA
    simp only [AllAs, As.holds, Nat.reduceAdd] at hA
    obtain ⟨-, -, -, -, -, -, -, -, -, -, -, -, -, -, -, -, -, -, -, -, -, -, -, -, -, -, -, -, -, -, -, -, -, -, -, -, hA36, -⟩ := hA
    go_wp2_with fail
    go_ret
    exact ⟨congrArg Ending.returned hA36, HB1.out.trans (hE.mono HB1.out.size)⟩
end Go.Proofs.YtjgleonbkipidaaDoor
