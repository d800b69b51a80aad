/-
  The walk of the law SealMakes.
-/
import Derived.Test.YtbicdobnnanlkaaDoorSaA
namespace Go.Proofs.YtbicdobnnanlkaaDoor
open Go Go.RowKit
set_option linter.unusedSimpArgs false
set_option linter.unusedVariables false

set_option maxRecDepth 100000 in
set_option maxHeartbeats 2000000 in
theorem sealMakes_any (key b : List UInt8) (kd : UInt8) (q : Nat) (v : Value) (w : World) (hT : Tabs w) (hk : key.length = 32) (hq : q < 18446744073709551616) (hv : HB w v b) :
    Calls Tryd.prog 3 #[.agg (bvs key), .int .u8 (kd.toNat : Int), .int .u64 (q : Int), v] w fun e w' => e = .returned (.bool true) ∧ Below w.heap.size w w' := by
  obtain ⟨p, cap, rfl, hl, hm⟩ := hv.form
  unfold maxLen at hm
  have HV := Lib.hid hv
  clear hv
  have hkd := kd.toNat_lt
  have hbz : (bvs key).size = 32 := by rw [bvs_size]; exact hk
  have HT := Lib.hid hT
  clear hT
  obtain ⟨n, hnb⟩ : ∃ n, n = b.length := ⟨_, rfl⟩
  rw [← hnb] at HV hl ⊢
  have HN := Lib.hid hnb
  clear hnb
  by_cases h300 : (300 : Int) < (n : Int)
  · skip
    go_enter Tryd.func3, Tryd.ntmps3
    go_wp2_with (first
      | (go_at_call 8
         refine (awake5_any _ (HT.out.below ((Below.refl w.heap.size w).alloc (Nat.le_refl _) _))).mono ?_
         rintro e w1 ⟨rfl, hb1⟩
         have HI : Hid (Blk w1 w.heap.size 23 (bvs key) ∧ Below w.heap.size w w1 ∧ w.heap.size + 1 ≤ w1.heap.size) := Lib.hid ⟨(Blk.new w _ _).below hb1 (by simp <;> omega), ((Below.refl w.heap.size w).alloc (Nat.le_refl _) _).trans (hb1.mono (by simp <;> omega)), by have := hb1.size; simpa using this⟩
         have HB1 := Lib.hid HI.out.2.1
         clear hb1)
      | (refine wpList_load_blk rfl 23 (.tmp 4) rfl w.heap.size 23 (bvs key) rfl HI.out.1 Tryd.underlying23 rfl (by rw [hbz]; kernel_rfl) ?_))
    go_ret
    exact ⟨rfl, HB1.out⟩
  · obtain ⟨B, hB⟩ : ∃ B, B = sealS key kd q b := ⟨_, rfl⟩
    have hBl : B.length = n + 41 := by rw [hB, sealS_length, HN.out]
    have hO : openS key B = (b, kd, q, 0) := by rw [hB]; exact open_seal _ _ _ _ hq
    obtain ⟨y, hy⟩ : ∃ y, y = nameS key b := ⟨_, rfl⟩
    have hyl : y.length = 32 := by rw [hy]; exact nameS_length _ _
    have HBL := Lib.hid hBl
    have HS := Lib.hid hB
    have HO := Lib.hid hO
    have HY := Lib.hid hy
    clear hB hO hy hBl
    go_enter Tryd.func3, Tryd.ntmps3
    go_wp2_with (first
      | (go_at_call 8
         refine (awake5_any _ (HT.out.below ((Below.refl w.heap.size w).alloc (Nat.le_refl _) _))).mono ?_
         rintro e w1 ⟨rfl, hb1⟩
         have HI : Hid (Blk w1 w.heap.size 23 (bvs key) ∧ Below w.heap.size w w1 ∧ w.heap.size + 1 ≤ w1.heap.size) := Lib.hid ⟨(Blk.new w _ _).below hb1 (by simp <;> omega), ((Below.refl w.heap.size w).alloc (Nat.le_refl _) _).trans (hb1.mono (by simp <;> omega)), by have := hb1.size; simpa using this⟩
         have HB1 := Lib.hid HI.out.2.1
         have HV1 := Lib.hid (HV.out.keep HB1.out)
         clear hb1)
      | (refine wpList_load_blk rfl 23 (.tmp 4) rfl w.heap.size 23 (bvs key) rfl HI.out.1 Tryd.underlying23 rfl (by rw [hbz]; kernel_rfl) ?_)
      | (go_at_call 9
         refine (seal_any key b kd q _ w1 (HT.out.below HB1.out) hk hq HV1.out (by have := HN.out; omega)).mono ?_
         rintro e w2 ⟨v2, rfl, ho, hb2⟩
         rw [← HS.out] at ho
         have HI2 : Hid (Blk w2 w.heap.size 23 (bvs key) ∧ Below w.heap.size w w2 ∧ HB w2 (.slice p n cap) b ∧ HB w2 v2 B) := Lib.hid ⟨HI.out.1.below hb2 (by have := HI.out.2.2; omega), HB1.out.trans (hb2.mono HB1.out.size), HV1.out.keep hb2, own_hb ho (by rw [HBL.out, HN.out])⟩
         have hcv2 := HI2.out.2.2.1.str Tryd.underlying25 Tryd.underlying5 Tryd.underlying9
         clear ho hb2 HB1 HI HV1)
      | (refine wpList_load_blk rfl 23 (.tmp 4) rfl w.heap.size 23 (bvs key) rfl HI2.out.1 Tryd.underlying23 rfl (by rw [hbz]; kernel_rfl) ?_)
      | (refine wpList_load_blk rfl 23 (.tmp 4) rfl w.heap.size 23 (bvs key) rfl HI3.out.1 Tryd.underlying23 rfl (by rw [hbz]; kernel_rfl) ?_)
      | (go_at_call 10
         refine (refSeal_any key kd q (bs b) w2 hk hq (by rw [bs_size]; have := HN.out; omega)).mono ?_
         rintro e w3 ⟨rfl, hb3⟩
         rw [sb_bs, ← HS.out]
         have HI3 : Hid (Blk w3 w.heap.size 23 (bvs key) ∧ Below w.heap.size w w3 ∧ HB w3 (.slice p n cap) b ∧ HB w3 v2 B) := Lib.hid ⟨HI2.out.1.below hb3 HI2.out.1.lt, HI2.out.2.1.trans (hb3.mono HI2.out.2.1.size), HI2.out.2.2.1.keep hb3, HI2.out.2.2.2.keep hb3⟩
         clear hb3 HI2 hcv2)
      | (go_at_call 11
         refine (open_any key B _ w3 (HT.out.below HI3.out.2.1) hk HI3.out.2.2.2 (by rw [HBL.out]; omega)).mono ?_
         rintro e w4 ⟨v4, rfl, ho, hb4⟩
         rw [HO.out] at ho ⊢
         have HI4 : Hid (∃ g, g = w.heap.size ∧ Blk w4 g 23 (bvs key) ∧ Below g w w4 ∧ HB w4 (.slice p n cap) b ∧ HB w4 v2 B ∧ HB w4 v4 b) := Lib.hid ⟨_, rfl, HI3.out.1.below hb4 HI3.out.1.lt, HI3.out.2.1.trans (hb4.mono HI3.out.2.1.size), HI3.out.2.2.1.keep hb4, HI3.out.2.2.2.keep hb4, ho⟩
         clear ho hb4 HI3))
    obtain ⟨g, hg, hJ⟩ := HI4.out
    rw [← hg]
    have HI0 := Lib.hid hJ
    have HB1 : Hid (Below w.heap.size w w4) := Lib.hid (hg ▸ hJ.2.1)
    have HTW : Hid (Tabs w4) := Lib.hid (HT.out.below HB1.out)
    clear HI4 hJ hg
    refine wp_region_as (ys := [.eq (v2), .eq (.string (bs B)), .eq (.string (bs B)), .eq (.bool true), .eq (.bool true), .eq (.int .i64 0), .eq (.int .i64 0), .eq (.bool true), .eq (.bool true), .eq (.bool true), .eq (.int .i64 0), .eq (.bool true), .eq (.bool true), .eq (.bool true), .eq (.int .i64 0), .eq (.bool true), .eq (.bool true), .eq (.bool true), .eq (v4), .eq (.string (bs b)), .eq (.slice p n cap), .eq (.string (bs b)), .eq (.bool true), .eq (.bool true), .eq (.bool true), .eq (.int .u8 (kd.toNat : Int)), .eq (.int .u8 (kd.toNat : Int)), .eq (.bool true), .eq (.bool true), .eq (.bool true), .eq (.int .u64 (q : Int)), .eq (.int .u64 (q : Int)), .eq (.bool true), .eq (.bool true), .eq (.bool true), .eq (.agg (bvs key)), .eq (.slice p n cap), .eq (.agg (bvs y)), .eq (.agg (bvs key)), .eq (.slice p n cap), .eq (.string (bs b)), .eq (.agg (bvs y)), .eq (.bool true), .eq (.bool true), .eq (.bool true)]) (by kernel_rfl) (by kernel_rfl) (by kernel_rfl) (by kernel_rfl) rfl _ (fun f => by simp only [framedL, Act.put, List.setIfInBounds_toArray, List.set_cons_zero, List.set_cons_succ, Nat.reduceAdd]; rfl) ⟨?_, ?_, ?_, ?_, ?_, ?_, ?_, ?_, ?_, ?_, ?_, ?_, ?_, ?_, ?_, ?_, ?_, ?_, ?_, ?_, ?_, ?_, ?_, ?_, ?_, ?_, ?_, ?_, ?_, ?_, ?_, ?_, ?_, ?_, ?_, ?_, ?_, ?_, ?_, ?_, ?_, ?_, ?_, ?_, ?_, trivial⟩ ?_
    · refine oweAs_pure ((v2)) rfl (fun f W hE hd => ?_) (fun W hE => rfl)
      go_simp
    · refine oweAs_pure ((.string (bs B))) rfl (fun f W hE hd => ?_) (fun W hE => rfl)
      simp only [DepAs, Region.binds, asAt, As.holds, and_true, forall_const] at hd
      have hcv := (HI0.out.2.2.2.1.keep hE).str Tryd.underlying25 Tryd.underlying5 Tryd.underlying9
      go_simp
    · refine oweAs_pure ((.string (bs B))) rfl (fun f W hE hd => ?_) (fun W hE => rfl)
      go_simp
    · refine oweAs_pure ((.bool true)) rfl (fun f W hE hd => ?_) (fun W hE => rfl)
      simp only [DepAs, Region.binds, asAt, As.holds, and_true, forall_const] at hd
      go_simp
    · refine oweAs_pure ((.bool true)) rfl (fun f W hE hd => ?_) (fun W hE => rfl)
      simp only [DepAs, Region.binds, asAt, As.holds, and_true, forall_const] at hd
      go_simp
    · refine oweAs_pure ((.int .i64 0)) rfl (fun f W hE hd => ?_) (fun W hE => rfl)
      go_simp
    · refine oweAs_pure ((.int .i64 0)) rfl (fun f W hE hd => ?_) (fun W hE => rfl)
      go_simp
    · refine oweAs_pure ((.bool true)) rfl (fun f W hE hd => ?_) (fun W hE => rfl)
      simp only [DepAs, Region.binds, asAt, As.holds, and_true, forall_const] at hd
      go_simp
    · refine oweAs_pure ((.bool true)) rfl (fun f W hE hd => ?_) (fun W hE => rfl)
      simp only [DepAs, Region.binds, asAt, As.holds, and_true, forall_const] at hd
      go_simp
    · refine oweAs_pure ((.bool true)) rfl (fun f W hE hd => ?_) (fun W hE => rfl)
      simp only [DepAs, Region.binds, asAt, As.holds, and_true, forall_const] at hd
      go_simp
    · refine oweAs_pure ((.int .i64 0)) rfl (fun f W hE hd => ?_) (fun W hE => rfl)
      go_simp
    · refine oweAs_pure ((.bool true)) rfl (fun f W hE hd => ?_) (fun W hE => rfl)
      simp only [DepAs, Region.binds, asAt, As.holds, and_true, forall_const] at hd
      go_simp
    · refine oweAs_pure ((.bool true)) rfl (fun f W hE hd => ?_) (fun W hE => rfl)
      simp only [DepAs, Region.binds, asAt, As.holds, and_true, forall_const] at hd
      go_simp
    · refine oweAs_pure ((.bool true)) rfl (fun f W hE hd => ?_) (fun W hE => rfl)
      simp only [DepAs, Region.binds, asAt, As.holds, and_true, forall_const] at hd
      go_simp
    · refine oweAs_pure ((.int .i64 0)) rfl (fun f W hE hd => ?_) (fun W hE => rfl)
      go_simp
    · refine oweAs_pure ((.bool true)) rfl (fun f W hE hd => ?_) (fun W hE => rfl)
      simp only [DepAs, Region.binds, asAt, As.holds, and_true, forall_const] at hd
      go_simp
    · refine oweAs_pure ((.bool true)) rfl (fun f W hE hd => ?_) (fun W hE => rfl)
      simp only [DepAs, Region.binds, asAt, As.holds, and_true, forall_const] at hd
      go_simp
    · refine oweAs_pure ((.bool true)) rfl (fun f W hE hd => ?_) (fun W hE => rfl)
      simp only [DepAs, Region.binds, asAt, As.holds, and_true, forall_const] at hd
      go_simp
    · refine oweAs_pure ((v4)) rfl (fun f W hE hd => ?_) (fun W hE => rfl)
      go_simp
    · refine oweAs_pure ((.string (bs b))) rfl (fun f W hE hd => ?_) (fun W hE => rfl)
      simp only [DepAs, Region.binds, asAt, As.holds, and_true, forall_const] at hd
      have hcv := (HI0.out.2.2.2.2.keep hE).str Tryd.underlying25 Tryd.underlying5 Tryd.underlying9
      go_simp
    · refine oweAs_pure ((.slice p n cap)) rfl (fun f W hE hd => ?_) (fun W hE => rfl)
      go_simp
    · refine oweAs_pure ((.string (bs b))) rfl (fun f W hE hd => ?_) (fun W hE => rfl)
      simp only [DepAs, Region.binds, asAt, As.holds, and_true, forall_const] at hd
      have hcv := (HI0.out.2.2.1.keep hE).str Tryd.underlying25 Tryd.underlying5 Tryd.underlying9
      go_simp
    · refine oweAs_pure ((.bool true)) rfl (fun f W hE hd => ?_) (fun W hE => rfl)
      simp only [DepAs, Region.binds, asAt, As.holds, and_true, forall_const] at hd
      go_simp
    · refine oweAs_pure ((.bool true)) rfl (fun f W hE hd => ?_) (fun W hE => rfl)
      simp only [DepAs, Region.binds, asAt, As.holds, and_true, forall_const] at hd
      go_simp
    · refine oweAs_pure ((.bool true)) rfl (fun f W hE hd => ?_) (fun W hE => rfl)
      simp only [DepAs, Region.binds, asAt, As.holds, and_true, forall_const] at hd
      go_simp
    · refine oweAs_pure ((.int .u8 (kd.toNat : Int))) rfl (fun f W hE hd => ?_) (fun W hE => rfl)
      go_simp
    · refine oweAs_pure ((.int .u8 (kd.toNat : Int))) rfl (fun f W hE hd => ?_) (fun W hE => rfl)
      go_simp
    · refine oweAs_pure ((.bool true)) rfl (fun f W hE hd => ?_) (fun W hE => rfl)
      simp only [DepAs, Region.binds, asAt, As.holds, and_true, forall_const] at hd
      go_simp
    · refine oweAs_pure ((.bool true)) rfl (fun f W hE hd => ?_) (fun W hE => rfl)
      simp only [DepAs, Region.binds, asAt, As.holds, and_true, forall_const] at hd
      go_simp
    · refine oweAs_pure ((.bool true)) rfl (fun f W hE hd => ?_) (fun W hE => rfl)
      simp only [DepAs, Region.binds, asAt, As.holds, and_true, forall_const] at hd
      go_simp
    · refine oweAs_pure ((.int .u64 (q : Int))) rfl (fun f W hE hd => ?_) (fun W hE => rfl)
      go_simp
    · refine oweAs_pure ((.int .u64 (q : Int))) rfl (fun f W hE hd => ?_) (fun W hE => rfl)
      go_simp
    · refine oweAs_pure ((.bool true)) rfl (fun f W hE hd => ?_) (fun W hE => rfl)
      simp only [DepAs, Region.binds, asAt, As.holds, and_true, forall_const] at hd
      go_simp
    · refine oweAs_pure ((.bool true)) rfl (fun f W hE hd => ?_) (fun W hE => rfl)
      simp only [DepAs, Region.binds, asAt, As.holds, and_true, forall_const] at hd
      go_simp
    · refine oweAs_pure ((.bool true)) rfl (fun f W hE hd => ?_) (fun W hE => rfl)
      simp only [DepAs, Region.binds, asAt, As.holds, and_true, forall_const] at hd
      go_simp
    · exact oweAs_load 23 (.tmp 4) rfl (g) 23 (bvs key) (fun _ => rfl) (HI0.out.1) Tryd.underlying23 rfl (by rw [bvs_size, hk]; kernel_rfl) rfl rfl
    · refine oweAs_pure ((.slice p n cap)) rfl (fun f W hE hd => ?_) (fun W hE => rfl)
      go_simp
    · refine oweAs_call 12 rfl (fun f W hE hd => ?_)
      simp only [DepAs, Region.binds, asAt, As.holds, and_true, forall_const] at hd
      refine ⟨_, by (go_simp; first | exact rfl | exact ⟨rfl, rfl⟩), ?_⟩
      have hTT := HTW.out.below hE
      refine (name_any key b _ W hTT hk (HI0.out.2.2.1.keep hE) (by have := HN.out; omega)).mono ?_
      rintro e w' ⟨rfl, hb⟩
      exact ⟨_, rfl, by (show (_ : Value) = _; rw [HY.out]), hb⟩
    · exact oweAs_load 23 (.tmp 4) rfl (g) 23 (bvs key) (fun _ => rfl) (HI0.out.1) Tryd.underlying23 rfl (by rw [bvs_size, hk]; kernel_rfl) rfl rfl
    · refine oweAs_pure ((.slice p n cap)) rfl (fun f W hE hd => ?_) (fun W hE => rfl)
      go_simp
    · refine oweAs_pure ((.string (bs b))) rfl (fun f W hE hd => ?_) (fun W hE => rfl)
      simp only [DepAs, Region.binds, asAt, As.holds, and_true, forall_const] at hd
      have hcv := (HI0.out.2.2.1.keep hE).str Tryd.underlying25 Tryd.underlying5 Tryd.underlying9
      go_simp
    · refine oweAs_call 13 rfl (fun f W hE hd => ?_)
      simp only [DepAs, Region.binds, asAt, As.holds, and_true, forall_const] at hd
      refine ⟨_, by (go_simp; first | exact rfl | exact ⟨rfl, rfl⟩), ?_⟩
      refine (refName_any key (bs b) W hk (by rw [bs_size]; have := HN.out; omega)).mono ?_
      rintro e w' ⟨rfl, hb⟩
      exact ⟨_, rfl, by (show (_ : Value) = _; rw [sb_bs, HY.out]), hb⟩
    · refine oweAs_pure ((.bool true)) rfl (fun f W hE hd => ?_) (fun W hE => rfl)
      simp only [DepAs, Region.binds, asAt, As.holds, and_true, forall_const] at hd
      go_simp
    · refine oweAs_pure ((.bool true)) rfl (fun f W hE hd => ?_) (fun W hE => rfl)
      simp only [DepAs, Region.binds, asAt, As.holds, and_true, forall_const] at hd
      go_simp
    · refine oweAs_pure ((.bool true)) rfl (fun f W hE hd => ?_) (fun W hE => rfl)
      simp only [DepAs, Region.binds, asAt, As.holds, and_true, forall_const] at hd
      go_simp
    intro f W hE hA
    simp only [AllAs, As.holds, Nat.reduceAdd] at hA
    obtain ⟨-, -, -, -, -, -, -, -, -, -, -, -, -, -, -, -, -, -, -, -, -, -, -, -, -, -, -, -, -, -, -, -, -, -, -, -, -, -, -, -, -, -, -, -, hA44, -⟩ := hA
    go_wp2_with fail
    go_ret
    exact ⟨congrArg Ending.returned hA44, HB1.out.trans (hE.mono HB1.out.size)⟩
end Go.Proofs.YtbicdobnnanlkaaDoor
