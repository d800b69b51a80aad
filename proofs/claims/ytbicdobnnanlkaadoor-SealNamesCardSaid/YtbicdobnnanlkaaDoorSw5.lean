/-
  The walk of the law SealNames.
-/
import Derived.Test.YtbicdobnnanlkaaDoorSaA
namespace Go.Proofs.YtbicdobnnanlkaaDoor
open Go Go.RowKit
set_option linter.unusedSimpArgs false
set_option linter.unusedVariables false

set_option maxRecDepth 100000 in
set_option maxHeartbeats 2000000 in
theorem sealNames_any (key other b : List UInt8) (kd : UInt8) (v : Value) (w : World) (hT : Tabs w) (hk : key.length = 32) (hk2 : other.length = 32) (hv : HB w v b) :
    Calls Tryd.prog 7 #[.agg (bvs key), .agg (bvs other), v, .int .u8 (kd.toNat : Int)] w fun e w' => e = .returned (.bool true) ∧ Below w.heap.size w w' := by
  obtain ⟨p, cap, rfl, hl, hm⟩ := hv.form
  unfold maxLen at hm
  have HV := Lib.hid hv
  clear hv
  have hkd := kd.toNat_lt
  have hbz : (bvs key).size = 32 := by rw [bvs_size]; exact hk
  have hbo : (bvs other).size = 32 := by rw [bvs_size]; exact hk2
  have HT := Lib.hid hT
  clear hT
  obtain ⟨n, hnb⟩ : ∃ n, n = b.length := ⟨_, rfl⟩
  rw [← hnb] at HV hl ⊢
  have HN := Lib.hid hnb
  clear hnb
  by_cases h200 : (200 : Int) < (n : Int)
  · skip
    go_enter Tryd.func7, Tryd.ntmps7
    go_wp2_with (first
      | (go_at_call 8
         refine (awake5_any _ (HT.out.below (((Below.refl w.heap.size w).alloc (Nat.le_refl _) _).alloc (by simp) _))).mono ?_
         rintro e w1 ⟨rfl, hb1⟩
         have HI : Hid (Blk w1 w.heap.size 23 (bvs key) ∧ Blk w1 (w.heap.size + 1) 23 (bvs other) ∧ Below w.heap.size w w1 ∧ w.heap.size + 2 ≤ w1.heap.size) := Lib.hid ⟨((Blk.new w _ _).alloc _).below hb1 (by simp <;> omega), (Blk.new' (w := w.alloc _) (by simp) _ _).below hb1 (by simp), (((Below.refl w.heap.size w).alloc (Nat.le_refl _) _).alloc (by simp) _).trans (hb1.mono (by simp <;> omega)), by have := hb1.size; simpa using this⟩
         have HB1 := Lib.hid HI.out.2.2.1
         clear hb1)
      | (refine wpList_load_blk rfl 23 (.tmp 4) rfl w.heap.size 23 (bvs key) rfl HI.out.1 Tryd.underlying23 rfl (by rw [hbz]; kernel_rfl) ?_))
    go_ret
    exact ⟨rfl, HB1.out⟩
  · obtain ⟨B, hB⟩ : ∃ B, B = sealS key kd 1 b := ⟨_, rfl⟩
    have hBl : B.length = n + 41 := by rw [hB, sealS_length, HN.out]
    obtain ⟨P, hP⟩ : ∃ P, P = (openS other B).1 := ⟨_, rfl⟩
    obtain ⟨K, hK⟩ : ∃ K, K = (openS other B).2.1 := ⟨_, rfl⟩
    obtain ⟨M, hM⟩ : ∃ M, M = (openS other B).2.2.1 := ⟨_, rfl⟩
    obtain ⟨E, hE⟩ : ∃ E, E = (openS other B).2.2.2 := ⟨_, rfl⟩
    have HP := Lib.hid hP
    have HK := Lib.hid hK
    have HM := Lib.hid hM
    have HE := Lib.hid hE
    clear hP hK hM hE
    obtain ⟨y, hy⟩ : ∃ y, y = nameS key b := ⟨_, rfl⟩
    have hyl : y.length = 32 := by rw [hy]; exact nameS_length _ _
    obtain ⟨z, hz⟩ : ∃ z, z = nameS other b := ⟨_, rfl⟩
    have hzl : z.length = 32 := by rw [hz]; exact nameS_length _ _
    have HBL := Lib.hid hBl
    have HS := Lib.hid hB
    have HY := Lib.hid hy
    have HZ := Lib.hid hz
    clear hB hy hz hBl
    go_enter Tryd.func7, Tryd.ntmps7
    go_wp2_with (first
      | (go_at_call 8
         refine (awake5_any _ (HT.out.below (((Below.refl w.heap.size w).alloc (Nat.le_refl _) _).alloc (by simp) _))).mono ?_
         rintro e w1 ⟨rfl, hb1⟩
         have HI : Hid (Blk w1 w.heap.size 23 (bvs key) ∧ Blk w1 (w.heap.size + 1) 23 (bvs other) ∧ Below w.heap.size w w1 ∧ w.heap.size + 2 ≤ w1.heap.size) := Lib.hid ⟨((Blk.new w _ _).alloc _).below hb1 (by simp <;> omega), (Blk.new' (w := w.alloc _) (by simp) _ _).below hb1 (by simp), (((Below.refl w.heap.size w).alloc (Nat.le_refl _) _).alloc (by simp) _).trans (hb1.mono (by simp <;> omega)), by have := hb1.size; simpa using this⟩
         have HB1 := Lib.hid HI.out.2.2.1
         have HV1 := Lib.hid (HV.out.keep HB1.out)
         clear hb1)
      | (refine wpList_load_blk rfl 23 (.tmp 4) rfl w.heap.size 23 (bvs key) rfl HI.out.1 Tryd.underlying23 rfl (by rw [hbz]; kernel_rfl) ?_)
      | (go_at_call 9
         refine (seal_any key b kd 1 _ w1 (HT.out.below HB1.out) hk (by decide) HV1.out (by have := HN.out; omega)).mono ?_
         rintro e w2 ⟨v2, rfl, ho, hb2⟩
         rw [← HS.out] at ho
         have HI2 : Hid (Blk w2 w.heap.size 23 (bvs key) ∧ Blk w2 (w.heap.size + 1) 23 (bvs other) ∧ Below w.heap.size w w2 ∧ HB w2 (.slice p n cap) b ∧ HB w2 v2 B) := Lib.hid ⟨HI.out.1.below hb2 (by have := HI.out.2.2.2; omega), HI.out.2.1.below hb2 (by have := HI.out.2.2.2; omega), HB1.out.trans (hb2.mono HB1.out.size), HV1.out.keep hb2, own_hb ho (by rw [HBL.out, HN.out])⟩
         clear ho hb2 HB1 HI HV1)
      | (refine wpList_load_blk rfl 23 (.tmp 5) rfl (w.heap.size + 1) 23 (bvs other) rfl HI2.out.2.1 Tryd.underlying23 rfl (by rw [hbo]; kernel_rfl) ?_)
      | (refine wpList_load_blk rfl 23 (.tmp 5) rfl (w.heap.size + 1) 23 (bvs other) rfl HI3.out.2.1 Tryd.underlying23 rfl (by rw [hbo]; kernel_rfl) ?_)
      | (go_at_call 11
         refine (open_any other B _ w2 (HT.out.below HI2.out.2.2.1) hk2 HI2.out.2.2.2.2 (by rw [HBL.out]; omega)).mono ?_
         rintro e w3 ⟨v3, rfl, -, hb3⟩
         rw [← HK.out, ← HM.out, ← HE.out]
         have HI3 : Hid (Blk w3 w.heap.size 23 (bvs key) ∧ Blk w3 (w.heap.size + 1) 23 (bvs other) ∧ Below w.heap.size w w3 ∧ HB w3 (.slice p n cap) b) := Lib.hid ⟨HI2.out.1.below hb3 HI2.out.1.lt, HI2.out.2.1.below hb3 HI2.out.2.1.lt, HI2.out.2.2.1.trans (hb3.mono HI2.out.2.2.1.size), HI2.out.2.2.2.1.keep hb3⟩
         have hcv3 := (HI2.out.2.2.2.2.keep hb3).str Tryd.underlying25 Tryd.underlying5 Tryd.underlying9
         clear hb3 HI2)
      | (go_at_call 14
         refine (refOpen_any other (bs B) w3 hk2 (by rw [bs_size, HBL.out]; omega)).mono ?_
         rintro e w4 ⟨rfl, hb4⟩
         rw [sb_bs, ← HP.out, ← HK.out, ← HM.out, ← HE.out]
         have HI4 : Hid (∃ g, g = w.heap.size ∧ Blk w4 g 23 (bvs key) ∧ Blk w4 (g + 1) 23 (bvs other) ∧ Below g w w4 ∧ HB w4 (.slice p n cap) b) := Lib.hid ⟨_, rfl, HI3.out.1.below hb4 HI3.out.1.lt, HI3.out.2.1.below hb4 HI3.out.2.1.lt, HI3.out.2.2.1.trans (hb4.mono HI3.out.2.2.1.size), HI3.out.2.2.2.keep hb4⟩
         clear hb4 HI3 hcv3))
    obtain ⟨g, hg, hJ⟩ := HI4.out
    rw [← hg]
    have HI0 := Lib.hid hJ
    have HB1 : Hid (Below w.heap.size w w4) := Lib.hid (hg ▸ hJ.2.2.1)
    have HTW : Hid (Tabs w4) := Lib.hid (HT.out.below HB1.out)
    clear HI4 hJ hg
    refine wp_region_as (ys := [.eq (.int .i64 0), .eq (.bool true), .eq (.bool true), .eq (.int .i64 (E : Int)), .eq (.int .i64 (E : Int)), .eq (.bool true), .eq (.bool true), .eq (.bool true), .eq (.agg (bvs key)), .eq (.slice p n cap), .eq (.agg (bvs y)), .eq (.agg (bvs key)), .eq (.slice p n cap), .eq (.string (bs b)), .eq (.agg (bvs y)), .eq (.bool true), .eq (.bool true), .eq (.bool true), .eq (.agg (bvs other)), .eq (.slice p n cap), .eq (.agg (bvs z)), .eq (.agg (bvs other)), .eq (.slice p n cap), .eq (.string (bs b)), .eq (.agg (bvs z)), .eq (.bool true), .eq (.bool true), .eq (.bool true)]) (by kernel_rfl) (by kernel_rfl) (by kernel_rfl) (by kernel_rfl) rfl _ (fun f => by simp only [framedL, Act.put, List.setIfInBounds_toArray, List.set_cons_zero, List.set_cons_succ, Nat.reduceAdd]; rfl) ⟨?_, ?_, ?_, ?_, ?_, ?_, ?_, ?_, ?_, ?_, ?_, ?_, ?_, ?_, ?_, ?_, ?_, ?_, ?_, ?_, ?_, ?_, ?_, ?_, ?_, ?_, ?_, ?_, trivial⟩ ?_
    · refine oweAs_pure ((.int .i64 0)) rfl (fun f W hE hd => ?_) (fun W hE => rfl)
      go_simp
    · refine oweAs_pure ((.bool true)) rfl (fun f W hE hd => ?_) (fun W hE => rfl)
      simp only [DepAs, Region.binds, asAt, As.holds, and_true, forall_const] at hd
      go_simp
    · refine oweAs_pure ((.bool true)) rfl (fun f W hE hd => ?_) (fun W hE => rfl)
      simp only [DepAs, Region.binds, asAt, As.holds, and_true, forall_const] at hd
      go_simp
    · refine oweAs_pure ((.int .i64 (E : Int))) rfl (fun f W hE hd => ?_) (fun W hE => rfl)
      go_simp
    · refine oweAs_pure ((.int .i64 (E : Int))) rfl (fun f W hE hd => ?_) (fun W hE => rfl)
      go_simp
    · refine oweAs_pure ((.bool true)) rfl (fun f W hE hd => ?_) (fun W hE => rfl)
      simp only [DepAs, Region.binds, asAt, As.holds, and_true, forall_const] at hd
      go_simp
    · refine oweAs_pure ((.bool true)) rfl (fun f W hE hd => ?_) (fun W hE => rfl)
      simp only [DepAs, Region.binds, asAt, As.holds, and_true, forall_const] at hd
      go_simp
    · refine oweAs_pure ((.bool true)) rfl (fun f W hE hd => ?_) (fun W hE => rfl)
      simp only [DepAs, Region.binds, asAt, As.holds, and_true, forall_const] at hd
      go_simp
    · exact oweAs_load 23 (.tmp 4) rfl (g) 23 (bvs key) (fun _ => rfl) (HI0.out.1) Tryd.underlying23 rfl (by rw [bvs_size, hk]; kernel_rfl) rfl rfl
    · refine oweAs_pure ((.slice p n cap)) rfl (fun f W hE hd => ?_) (fun W hE => rfl)
      go_simp
    · refine oweAs_call 12 rfl (fun f W hE hd => ?_)
      simp only [DepAs, Region.binds, asAt, As.holds, and_true, forall_const] at hd
      refine ⟨_, by (go_simp; first | exact rfl | exact ⟨rfl, rfl⟩), ?_⟩
      have hTT := HTW.out.below hE
      refine (name_any key b _ W hTT hk (HI0.out.2.2.2.keep hE) (by have := HN.out; omega)).mono ?_
      rintro e w' ⟨rfl, hb⟩
      exact ⟨_, rfl, by (show (_ : Value) = _; rw [HY.out]), hb⟩
    · exact oweAs_load 23 (.tmp 4) rfl (g) 23 (bvs key) (fun _ => rfl) (HI0.out.1) Tryd.underlying23 rfl (by rw [bvs_size, hk]; kernel_rfl) rfl rfl
    · refine oweAs_pure ((.slice p n cap)) rfl (fun f W hE hd => ?_) (fun W hE => rfl)
      go_simp
    · refine oweAs_pure ((.string (bs b))) rfl (fun f W hE hd => ?_) (fun W hE => rfl)
      simp only [DepAs, Region.binds, asAt, As.holds, and_true, forall_const] at hd
      have hcv := (HI0.out.2.2.2.keep hE).str Tryd.underlying25 Tryd.underlying5 Tryd.underlying9
      go_simp
    · refine oweAs_call 13 rfl (fun f W hE hd => ?_)
      simp only [DepAs, Region.binds, asAt, As.holds, and_true, forall_const] at hd
      refine ⟨_, by (go_simp; first | exact rfl | exact ⟨rfl, rfl⟩), ?_⟩
      refine (refName_any key (bs b) W hk (by rw [bs_size]; have := HN.out; omega)).mono ?_
      rintro e w' ⟨rfl, hb⟩
      exact ⟨_, rfl, by (show (_ : Value) = _; rw [sb_bs, HY.out]), hb⟩
    · refine oweAs_pure ((.bool true)) rfl (fun f W hE hd => ?_) (fun W hE => rfl)
      simp only [DepAs, Region.binds, asAt, As.holds, and_true, forall_const] at hd
      go_simp
    · refine oweAs_pure ((.bool true)) rfl (fun f W hE hd => ?_) (fun W hE => rfl)
      simp only [DepAs, Region.binds, asAt, As.holds, and_true, forall_const] at hd
      go_simp
    · refine oweAs_pure ((.bool true)) rfl (fun f W hE hd => ?_) (fun W hE => rfl)
      simp only [DepAs, Region.binds, asAt, As.holds, and_true, forall_const] at hd
      go_simp
    · exact oweAs_load 23 (.tmp 5) rfl (g + 1) 23 (bvs other) (fun _ => rfl) (HI0.out.2.1) Tryd.underlying23 rfl (by rw [bvs_size, hk2]; kernel_rfl) rfl rfl
    · refine oweAs_pure ((.slice p n cap)) rfl (fun f W hE hd => ?_) (fun W hE => rfl)
      go_simp
    · refine oweAs_call 12 rfl (fun f W hE hd => ?_)
      simp only [DepAs, Region.binds, asAt, As.holds, and_true, forall_const] at hd
      refine ⟨_, by (go_simp; first | exact rfl | exact ⟨rfl, rfl⟩), ?_⟩
      have hTT := HTW.out.below hE
      refine (name_any other b _ W hTT hk2 (HI0.out.2.2.2.keep hE) (by have := HN.out; omega)).mono ?_
      rintro e w' ⟨rfl, hb⟩
      exact ⟨_, rfl, by (show (_ : Value) = _; rw [HZ.out]), hb⟩
    · exact oweAs_load 23 (.tmp 5) rfl (g + 1) 23 (bvs other) (fun _ => rfl) (HI0.out.2.1) Tryd.underlying23 rfl (by rw [bvs_size, hk2]; kernel_rfl) rfl rfl
    · refine oweAs_pure ((.slice p n cap)) rfl (fun f W hE hd => ?_) (fun W hE => rfl)
      go_simp
    · refine oweAs_pure ((.string (bs b))) rfl (fun f W hE hd => ?_) (fun W hE => rfl)
      simp only [DepAs, Region.binds, asAt, As.holds, and_true, forall_const] at hd
      have hcv := (HI0.out.2.2.2.keep hE).str Tryd.underlying25 Tryd.underlying5 Tryd.underlying9
      go_simp
    · refine oweAs_call 13 rfl (fun f W hE hd => ?_)
      simp only [DepAs, Region.binds, asAt, As.holds, and_true, forall_const] at hd
      refine ⟨_, by (go_simp; first | exact rfl | exact ⟨rfl, rfl⟩), ?_⟩
      refine (refName_any other (bs b) W hk2 (by rw [bs_size]; have := HN.out; omega)).mono ?_
      rintro e w' ⟨rfl, hb⟩
      exact ⟨_, rfl, by (show (_ : Value) = _; rw [sb_bs, HZ.out]), hb⟩
    · refine oweAs_pure ((.bool true)) rfl (fun f W hE hd => ?_) (fun W hE => rfl)
      simp only [DepAs, Region.binds, asAt, As.holds, and_true, forall_const] at hd
      go_simp
    · refine oweAs_pure ((.bool true)) rfl (fun f W hE hd => ?_) (fun W hE => rfl)
      simp only [DepAs, Region.binds, asAt, As.holds, and_true, forall_const] at hd
      go_simp
    · refine oweAs_pure ((.bool true)) rfl (fun f W hE hd => ?_) (fun W hE => rfl)
      simp only [DepAs, Region.binds, asAt, As.holds, and_true, forall_const] at hd
      go_simp
    intro f W hE hA
    simp only [AllAs, As.holds, Nat.reduceAdd] at hA
    obtain ⟨-, -, -, -, -, -, -, -, -, -, -, -, -, -, -, -, -, -, -, -, -, -, -, -, -, -, -, hA27, -⟩ := hA
    go_wp2_with fail
    go_ret
    exact ⟨congrArg Ending.returned hA27, HB1.out.trans (hE.mono HB1.out.size)⟩
end Go.Proofs.YtbicdobnnanlkaaDoor
