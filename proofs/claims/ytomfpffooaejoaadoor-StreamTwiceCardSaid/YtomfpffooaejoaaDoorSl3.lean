/-
  The walk of the law StreamTwice.
-/
import Derived.Test.YtomfpffooaejoaaDoorSlA
namespace Go.Proofs.YtomfpffooaejoaaDoor
open Go Go.RowKit
set_option linter.unusedSimpArgs false
set_option linter.unusedVariables false

set_option maxRecDepth 100000 in
set_option maxHeartbeats 2000000 in
theorem streamTwice_any (key nonce b : List UInt8) (v : Value) (x : Nat) (w : World) (hT : TabQ w) (h0 : 0 < w.heap.size) (hk : key.length = 32) (hn : nonce.length = 12) (hv : HB w v b) (hx : x < 65536) :
    Calls Tryd.prog 5 #[.agg (bvs key), .agg (bvs nonce), v, .int .u16 (x : Int)] w fun e w' => e = .returned (.bool true) ∧ Below w.heap.size w w' := by
  obtain ⟨p, cap, rfl, hl, hm⟩ := hv.form
  unfold maxLen at hm
  have HV := Lib.hid hv
  clear hv
  have hbz : (bvs key).size = 32 := by rw [bvs_size]; exact hk
  have hnz : (bvs nonce).size = 12 := by rw [bvs_size]; exact hn
  have HT := Lib.hid hT
  clear hT
  by_cases h800 : (800 : Int) < (b.length : Int)
  · skip
    go_enter Tryd.func5, Tryd.ntmps5
    go_wp2_with (first
      | (go_at_call 8
         refine (awake4_any _ (HT.out.below (((Below.refl w.heap.size w).alloc (Nat.le_refl _) _).alloc (by simp) _) h0) (by simp <;> omega)).mono ?_
         rintro e w1 ⟨rfl, hb1⟩
         have HI : Hid (Blk w1 w.heap.size 23 (bvs key) ∧ Blk w1 (w.heap.size + 1) 24 (bvs nonce) ∧ Below w.heap.size w w1 ∧ w.heap.size + 2 ≤ w1.heap.size) := Lib.hid ⟨((Blk.new w _ _).alloc _).below hb1 (by simp <;> omega), (Blk.new' (w := w.alloc _) (by simp) _ _).below hb1 (by simp), (((Below.refl w.heap.size w).alloc (Nat.le_refl _) _).alloc (by simp) _).trans (hb1.mono (by simp <;> omega)), by have := hb1.size; simpa using this⟩
         have HB1 := Lib.hid HI.out.2.2.1
         clear hb1))
    go_ret
    exact ⟨rfl, HB1.out⟩
  · obtain ⟨n, hnb⟩ : ∃ n, n = b.length := ⟨_, rfl⟩
    obtain ⟨k, hkx⟩ : ∃ k, k = x % (n + 1) := ⟨_, rfl⟩
    have hkn : k ≤ n := by have := Nat.mod_lt x (show 0 < n + 1 by omega); omega
    have hk1 : (x : Int) % ((n : Int) + 1) = (k : Int) := by rw [hkx]; simp
    have hk2 : (x : Int).tmod ((n : Int) + 1) = (k : Int) := by rw [Int.tmod_eq_emod_of_nonneg (by omega)]; exact hk1
    obtain ⟨m, hmm⟩ : ∃ m, m = overS key nonce b := ⟨_, rfl⟩
    have hml : m.length = n := by rw [hmm, overS_length, hnb]
    rw [← hnb] at HV hl h800 ⊢
    have hbt : overS key nonce m = b := by rw [hmm]; exact overS_twice _ _ _
    have hmt : m.take k = overS key nonce (b.take k) := by rw [hmm]; exact overS_take _ _ _ (by omega)
    have HN := Lib.hid hnb
    have HM := Lib.hid hmm
    have HML := Lib.hid hml
    have HBT := Lib.hid hbt
    have HMT := Lib.hid hmt
    clear hnb hkx hmm hml hbt hmt
    go_enter Tryd.func5, Tryd.ntmps5
    go_wp2_with (first
      | (go_at_call 8
         refine (awake4_any _ (HT.out.below (((Below.refl w.heap.size w).alloc (Nat.le_refl _) _).alloc (by simp) _) h0) (by simp <;> omega)).mono ?_
         rintro e w1 ⟨rfl, hb1⟩
         have HI : Hid (Blk w1 w.heap.size 23 (bvs key) ∧ Blk w1 (w.heap.size + 1) 24 (bvs nonce) ∧ Below w.heap.size w w1 ∧ w.heap.size + 2 ≤ w1.heap.size) := Lib.hid ⟨((Blk.new w _ _).alloc _).below hb1 (by simp <;> omega), (Blk.new' (w := w.alloc _) (by simp) _ _).below hb1 (by simp), (((Below.refl w.heap.size w).alloc (Nat.le_refl _) _).alloc (by simp) _).trans (hb1.mono (by simp <;> omega)), by have := hb1.size; simpa using this⟩
         have HB1 := Lib.hid HI.out.2.2.1
         have HV1 := Lib.hid (HV.out.keep HB1.out)
         clear hb1)
      | (refine wpList_load_blk rfl 23 (.tmp 4) rfl w.heap.size 23 (bvs key) rfl HI.out.1 Tryd.underlying23 rfl (by rw [hbz]; kernel_rfl) ?_)
      | (refine wpList_load_blk rfl 24 (.tmp 5) rfl (w.heap.size + 1) 24 (bvs nonce) rfl HI.out.2.1 Tryd.underlying24 rfl (by rw [hnz]; kernel_rfl) ?_)
      | (go_at_call 11
         refine (streamOver_any key nonce b _ w1 (HT.out.below HB1.out h0) (by have := HB1.out.size; omega) hk hn HV1.out (by have := HN.out; omega)).mono ?_
         rintro e w2 ⟨v2, rfl, ho, hb2⟩
         rw [← HM.out, ← HN.out] at ho
         obtain ⟨p1, c1, rfl⟩ := own_form ho
         have HJ : Hid (∃ g, g = w.heap.size ∧ Blk w2 g 23 (bvs key) ∧ Blk w2 (g + 1) 24 (bvs nonce) ∧ Below g w w2 ∧ HB w2 (.slice p n cap) b ∧ HB w2 (.slice p1 n c1) m) := Lib.hid ⟨_, rfl, HI.out.1.below hb2 HI.out.1.lt, HI.out.2.1.below hb2 HI.out.2.1.lt, HB1.out.trans (hb2.mono HB1.out.size), HV1.out.keep hb2, own_hb ho HML.out.symm⟩
         clear ho hb2 HB1 HI HV1))
    obtain ⟨g, hg, hJ⟩ := HJ.out
    rw [← hg]
    have HI0 := Lib.hid hJ
    have HG := Lib.hid hg
    have HB1 : Hid (Below w.heap.size w w2) := Lib.hid (hg ▸ hJ.2.2.1)
    obtain ⟨-, hnc1, hcm1⟩ := hJ.2.2.2.2.caps
    unfold maxLen at hcm1
    clear HJ hJ hg
    refine wp_region_as (ys := [.eq (.agg (bvs key)), .eq (.agg (bvs nonce)), .eq (.slice p n cap), .eq (.int .i64 (k : Int)), .eq (.slice p k cap), .hb (overS key nonce (b.take k)), .hb (overS key nonce (b.take k))]) (by kernel_rfl) (by kernel_rfl) (by kernel_rfl) (by kernel_rfl) rfl _ (fun f => by simp only [framedL, Act.put, List.setIfInBounds_toArray, List.set_cons_zero, List.set_cons_succ, Nat.reduceAdd]; rfl) ⟨?_, ?_, ?_, ?_, ?_, ?_, ?_, trivial⟩ ?_
    · exact oweAs_load 23 (.tmp 4) rfl (g) 23 (bvs key) (fun _ => rfl) (HI0.out.1) Tryd.underlying23 rfl (by rw [bvs_size, hk]; kernel_rfl) rfl rfl
    · exact oweAs_load 24 (.tmp 5) rfl (g + 1) 24 (bvs nonce) (fun _ => rfl) (HI0.out.2.1) Tryd.underlying24 rfl (by rw [bvs_size, hn]; kernel_rfl) rfl rfl
    · refine oweAs_pure ((.slice p n cap)) rfl (fun f W hE hd => ?_) (fun W hE => rfl)
      go_simp
    · refine oweAs_pure ((.int .i64 (k : Int))) rfl (fun f W hE hd => ?_) (fun W hE => rfl)
      go_simp
    · refine oweAs_pure ((.slice p k cap)) rfl (fun f W hE hd => ?_) (fun W hE => rfl)
      simp only [DepAs, Region.binds, asAt, As.holds, and_true, forall_const] at hd
      have hck : ¬ cap < k := by omega
      go_simp
    · refine oweAs_call 11 rfl (fun f W hE hd => ?_)
      simp only [DepAs, Region.binds, asAt, As.holds, and_true, forall_const] at hd
      refine ⟨_, by (go_simp; first | exact rfl | exact ⟨rfl, rfl⟩), ?_⟩
      have hl := HB1.out.size
      have hz := hE.size
      refine (streamOver_any key nonce (b.take k) _ W ((HT.out.below HB1.out h0).below hE (by have := HB1.out.size; omega)) (by omega) hk hn (HI0.out.2.2.2.1.take hkn |>.keep hE) (by rw [List.length_take]; omega)).mono ?_
      rintro e w' ⟨v', rfl, ho, hb⟩
      exact ⟨_, rfl, (own_hb ho (by rw [overS_length])), hb⟩
    · refine oweAs_made rfl (fun f W hE hd => ?_)
      simp only [DepAs, Region.binds, asAt, As.holds, and_true, forall_const] at hd
      exact ⟨_, W, by (go_simp; first | exact rfl | exact ⟨rfl, rfl⟩), (by first | exact hd | exact hd.1), Below.refl _ _⟩
    intro f W hE hA
    simp only [AllAs, As.holds, Nat.reduceAdd] at hA
    obtain ⟨-, -, -, -, -, -, hA6, -⟩ := hA
    have HC := Lib.hid hA6
    generalize f 6 = vc at *
    have HI1 : Hid (Blk W g 23 (bvs key) ∧ Blk W (g + 1) 24 (bvs nonce) ∧ HB W (.slice p n cap) b ∧ HB W (.slice p1 n c1) m) := Lib.hid ⟨HI0.out.1.below hE HI0.out.1.lt, HI0.out.2.1.below hE HI0.out.2.1.lt, HI0.out.2.2.2.1.keep hE, HI0.out.2.2.2.2.keep hE⟩
    have HB2 : Hid (Below w.heap.size w W) := Lib.hid (HB1.out.trans (hE.mono HB1.out.size))
    clear HI0 HB1 hA6 hE
    have HI0 := HI1
    have HB1 := HB2
    clear HI1 HB2
    obtain ⟨w8, hw8⟩ : ∃ w8, w8 = W := ⟨_, rfl⟩
    rw [← hw8] at HI0 HB1 HC ⊢
    clear hw8
    go_wp2
    refine wp_region_as (ys := [.eq (.agg (bvs key)), .eq (.agg (bvs nonce)), .eq (.slice p1 n c1), .hb b, .eq (.string (bs b)), .eq (.slice p n cap), .eq (.string (bs b)), .eq (.bool true), .eq (.bool true), .eq (.slice p1 n c1), .eq (.int .i64 (n : Int)), .eq (.slice p n cap), .eq (.int .i64 (n : Int)), .eq (.bool true), .eq (.bool true), .eq (.bool true), .eq (.slice p1 n c1), .eq (.int .i64 (k : Int)), .eq (.slice p1 k c1), .eq (.string (bs (m.take k))), .eq (vc), .eq (.string (bs (m.take k))), .eq (.bool true), .eq (.bool true), .eq (.bool true)]) (by kernel_rfl) (by kernel_rfl) (by kernel_rfl) (by kernel_rfl) rfl _ (fun f => by simp only [framedL, Act.put, List.setIfInBounds_toArray, List.set_cons_zero, List.set_cons_succ, Nat.reduceAdd]; rfl) ⟨?_, ?_, ?_, ?_, ?_, ?_, ?_, ?_, ?_, ?_, ?_, ?_, ?_, ?_, ?_, ?_, ?_, ?_, ?_, ?_, ?_, ?_, ?_, ?_, ?_, trivial⟩ ?_
    · exact oweAs_load 23 (.tmp 4) rfl (g) 23 (bvs key) (fun _ => rfl) (HI0.out.1) Tryd.underlying23 rfl (by rw [bvs_size, hk]; kernel_rfl) rfl rfl
    · exact oweAs_load 24 (.tmp 5) rfl (g + 1) 24 (bvs nonce) (fun _ => rfl) (HI0.out.2.1) Tryd.underlying24 rfl (by rw [bvs_size, hn]; kernel_rfl) rfl rfl
    · refine oweAs_pure ((.slice p1 n c1)) rfl (fun f W hE hd => ?_) (fun W hE => rfl)
      go_simp
    · refine oweAs_call 11 rfl (fun f W hE hd => ?_)
      simp only [DepAs, Region.binds, asAt, As.holds, and_true, forall_const] at hd
      refine ⟨_, by (go_simp; first | exact rfl | exact ⟨rfl, rfl⟩), ?_⟩
      have hl := HB1.out.size
      have hz := hE.size
      refine (streamOver_any key nonce m _ W ((HT.out.below HB1.out h0).below hE (by have := HB1.out.size; omega)) (by omega) hk hn (HI0.out.2.2.2.keep hE) (by have := HML.out; omega)).mono ?_
      rintro e w' ⟨v', rfl, ho, hb⟩
      exact ⟨_, rfl, (own_hb ho (by rw [overS_length])).mk_eq HBT.out, hb⟩
    · refine oweAs_pure ((.string (bs b))) rfl (fun f W hE hd => ?_) (fun W hE => rfl)
      simp only [DepAs, Region.binds, asAt, As.holds, and_true, forall_const] at hd
      have hcv := (show HB W _ b from hd).str Tryd.underlying30 Tryd.underlying5 Tryd.underlying9
      go_simp
    · refine oweAs_pure ((.slice p n cap)) rfl (fun f W hE hd => ?_) (fun W hE => rfl)
      go_simp
    · refine oweAs_pure ((.string (bs b))) rfl (fun f W hE hd => ?_) (fun W hE => rfl)
      simp only [DepAs, Region.binds, asAt, As.holds, and_true, forall_const] at hd
      have hcv := (HI0.out.2.2.1.keep hE).str Tryd.underlying30 Tryd.underlying5 Tryd.underlying9
      go_simp
    · refine oweAs_pure ((.bool true)) rfl (fun f W hE hd => ?_) (fun W hE => rfl)
      simp only [DepAs, Region.binds, asAt, As.holds, and_true, forall_const] at hd
      go_simp
    · refine oweAs_pure ((.bool true)) rfl (fun f W hE hd => ?_) (fun W hE => rfl)
      simp only [DepAs, Region.binds, asAt, As.holds, and_true, forall_const] at hd
      go_simp
    · refine oweAs_pure ((.slice p1 n c1)) rfl (fun f W hE hd => ?_) (fun W hE => rfl)
      go_simp
    · refine oweAs_pure ((.int .i64 (n : Int))) rfl (fun f W hE hd => ?_) (fun W hE => rfl)
      simp only [DepAs, Region.binds, asAt, As.holds, and_true, forall_const] at hd
      go_simp
    · refine oweAs_pure ((.slice p n cap)) rfl (fun f W hE hd => ?_) (fun W hE => rfl)
      go_simp
    · refine oweAs_pure ((.int .i64 (n : Int))) rfl (fun f W hE hd => ?_) (fun W hE => rfl)
      simp only [DepAs, Region.binds, asAt, As.holds, and_true, forall_const] at hd
      go_simp
    · refine oweAs_pure ((.bool true)) rfl (fun f W hE hd => ?_) (fun W hE => rfl)
      simp only [DepAs, Region.binds, asAt, As.holds, and_true, forall_const] at hd
      go_simp
    · refine oweAs_pure ((.bool true)) rfl (fun f W hE hd => ?_) (fun W hE => rfl)
      simp only [DepAs, Region.binds, asAt, As.holds, and_true, forall_const] at hd
      go_simp
    · refine oweAs_pure ((.bool true)) rfl (fun f W hE hd => ?_) (fun W hE => rfl)
      simp only [DepAs, Region.binds, asAt, As.holds, and_true, forall_const] at hd
      go_simp
    · refine oweAs_pure ((.slice p1 n c1)) rfl (fun f W hE hd => ?_) (fun W hE => rfl)
      go_simp
    · refine oweAs_pure ((.int .i64 (k : Int))) rfl (fun f W hE hd => ?_) (fun W hE => rfl)
      go_simp
    · refine oweAs_pure ((.slice p1 k c1)) rfl (fun f W hE hd => ?_) (fun W hE => rfl)
      simp only [DepAs, Region.binds, asAt, As.holds, and_true, forall_const] at hd
      have hck : ¬ c1 < k := by omega
      go_simp
    · refine oweAs_pure ((.string (bs (m.take k)))) rfl (fun f W hE hd => ?_) (fun W hE => rfl)
      simp only [DepAs, Region.binds, asAt, As.holds, and_true, forall_const] at hd
      have hcv := (show HB W _ (m.take k) from (HI0.out.2.2.2.take hkn |>.keep hE)).str Tryd.underlying30 Tryd.underlying5 Tryd.underlying9
      go_simp
    · refine oweAs_pure ((vc)) rfl (fun f W hE hd => ?_) (fun W hE => rfl)
      go_simp
    · refine oweAs_pure ((.string (bs (m.take k)))) rfl (fun f W hE hd => ?_) (fun W hE => rfl)
      simp only [DepAs, Region.binds, asAt, As.holds, and_true, forall_const] at hd
      have hcv := (HC.out.keep hE).str Tryd.underlying30 Tryd.underlying5 Tryd.underlying9
      rw [← HMT.out] at hcv
      go_simp
    · refine oweAs_pure ((.bool true)) rfl (fun f W hE hd => ?_) (fun W hE => rfl)
      simp only [DepAs, Region.binds, asAt, As.holds, and_true, forall_const] at hd
      go_simp
    · refine oweAs_pure ((.bool true)) rfl (fun f W hE hd => ?_) (fun W hE => rfl)
      simp only [DepAs, Region.binds, asAt, As.holds, and_true, forall_const] at hd
      go_simp
    · refine oweAs_pure ((.bool true)) rfl (fun f W hE hd => ?_) (fun W hE => rfl)
      simp only [DepAs, Region.binds, asAt, As.holds, and_true, forall_const] at hd
      go_simp
    intro f W hE hA
    simp only [AllAs, As.holds, Nat.reduceAdd] at hA
    obtain ⟨-, -, -, -, -, -, -, -, -, -, -, -, -, -, -, -, -, -, -, -, -, -, -, -, hA24, -⟩ := hA
    go_wp2_with fail
    go_ret
    exact ⟨congrArg Ending.returned hA24, HB1.out.trans (hE.mono HB1.out.size)⟩
end Go.Proofs.YtomfpffooaejoaaDoor
