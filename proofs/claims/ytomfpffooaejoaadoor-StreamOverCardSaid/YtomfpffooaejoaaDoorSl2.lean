/-
  The walk of the law StreamOver.
-/
import Derived.Test.YtomfpffooaejoaaDoorSlA
namespace Go.Proofs.YtomfpffooaejoaaDoor
open Go Go.RowKit
set_option linter.unusedSimpArgs false
set_option linter.unusedVariables false

set_option maxRecDepth 100000 in
set_option maxHeartbeats 1000000 in
theorem streamOverLaw_any (key nonce b : List UInt8) (v : Value) (w : World) (hT : TabQ w) (h0 : 0 < w.heap.size) (hk : key.length = 32) (hn : nonce.length = 12) (hv : HB w v b) :
    Calls Tryd.prog 4 #[.agg (bvs key), .agg (bvs nonce), v] w fun e w' => e = .returned (.bool true) ∧ Below w.heap.size w w' := by
  obtain ⟨p, cap, rfl, hl, hm⟩ := hv.form
  unfold maxLen at hm
  have HV := Lib.hid hv
  clear hv
  have hbz : (bvs key).size = 32 := by rw [bvs_size]; exact hk
  have hnz : (bvs nonce).size = 12 := by rw [bvs_size]; exact hn
  have HT := Lib.hid hT
  clear hT
  by_cases h500 : (500 : Int) < (b.length : Int)
  · skip
    go_enter Tryd.func4, Tryd.ntmps4
    go_wp2_with (first
      | (go_at_call 8
         refine (awake4_any _ (HT.out.below (((Below.refl w.heap.size w).alloc (Nat.le_refl _) _).alloc (by simp) _) h0) (by simp <;> omega)).mono ?_
         rintro e w1 ⟨rfl, hb1⟩
         have HI : Hid (Blk w1 w.heap.size 23 (bvs key) ∧ Blk w1 (w.heap.size + 1) 24 (bvs nonce) ∧ Below w.heap.size w w1 ∧ w.heap.size + 2 ≤ w1.heap.size) := Lib.hid ⟨((Blk.new w _ _).alloc _).below hb1 (by simp <;> omega), (Blk.new' (w := w.alloc _) (by simp) _ _).below hb1 (by simp), (((Below.refl w.heap.size w).alloc (Nat.le_refl _) _).alloc (by simp) _).trans (hb1.mono (by simp <;> omega)), by have := hb1.size; simpa using this⟩
         have HB1 := Lib.hid HI.out.2.2.1
         clear hb1))
    go_ret
    exact ⟨rfl, HB1.out⟩
  · skip
    go_enter Tryd.func4, Tryd.ntmps4
    go_wp2_with (first
      | (go_at_call 8
         refine (awake4_any _ (HT.out.below (((Below.refl w.heap.size w).alloc (Nat.le_refl _) _).alloc (by simp) _) h0) (by simp <;> omega)).mono ?_
         rintro e w1 ⟨rfl, hb1⟩
         have HI : Hid (Blk w1 w.heap.size 23 (bvs key) ∧ Blk w1 (w.heap.size + 1) 24 (bvs nonce) ∧ Below w.heap.size w w1 ∧ w.heap.size + 2 ≤ w1.heap.size) := Lib.hid ⟨((Blk.new w _ _).alloc _).below hb1 (by simp <;> omega), (Blk.new' (w := w.alloc _) (by simp) _ _).below hb1 (by simp), (((Below.refl w.heap.size w).alloc (Nat.le_refl _) _).alloc (by simp) _).trans (hb1.mono (by simp <;> omega)), by have := hb1.size; simpa using this⟩
         have HB1 := Lib.hid HI.out.2.2.1
         have HV1 := Lib.hid (HV.out.keep HB1.out)
         have hcv := HV1.out.str Tryd.underlying30 Tryd.underlying5 Tryd.underlying9
         clear hb1))
    obtain ⟨g, hg⟩ : ∃ g, g = w.heap.size := ⟨_, rfl⟩
    have HI0 := Lib.hid (hg ▸ HI.out : Blk w1 g 23 (bvs key) ∧ Blk w1 (g + 1) 24 (bvs nonce) ∧ Below g w w1 ∧ g + 2 ≤ w1.heap.size)
    rw [← hg]
    have HG := Lib.hid hg
    clear hg HI
    refine wp_region_as (ys := [.eq (.agg (bvs key)), .eq (.agg (bvs nonce)), .eq (.slice p b.length cap), .hb (overS key nonce b), .eq (.string (bs (overS key nonce b))), .eq (.agg (bvs key)), .eq (.agg (bvs nonce)), .eq (.string (bs b)), .eq (.string (bs (overS key nonce b))), .eq (.bool true), .eq (.bool true), .eq (.slice p b.length cap), .eq (.string (bs b)), .eq (.string (bs b)), .eq (.bool true), .eq (.bool true), .eq (.bool true)]) (by kernel_rfl) (by kernel_rfl) (by kernel_rfl) (by kernel_rfl) rfl _ (fun f => by simp only [framedL, Act.put, List.setIfInBounds_toArray, List.set_cons_zero, List.set_cons_succ, Nat.reduceAdd]; rfl) ⟨?_, ?_, ?_, ?_, ?_, ?_, ?_, ?_, ?_, ?_, ?_, ?_, ?_, ?_, ?_, ?_, ?_, trivial⟩ ?_
    · exact oweAs_load 23 (.tmp 3) rfl (g) 23 (bvs key) (fun _ => rfl) (HI0.out.1) Tryd.underlying23 rfl (by rw [bvs_size, hk]; kernel_rfl) rfl rfl
    · exact oweAs_load 24 (.tmp 4) rfl (g + 1) 24 (bvs nonce) (fun _ => rfl) (HI0.out.2.1) Tryd.underlying24 rfl (by rw [bvs_size, hn]; kernel_rfl) rfl rfl
    · refine oweAs_pure ((.slice p b.length cap)) rfl (fun f W hE hd => ?_) (fun W hE => rfl)
      go_simp
    · refine oweAs_call 11 rfl (fun f W hE hd => ?_)
      simp only [DepAs, Region.binds, asAt, As.holds, and_true, forall_const] at hd
      refine ⟨_, by (go_simp; first | exact rfl | exact ⟨rfl, rfl⟩), ?_⟩
      have hl := HB1.out.size
      have hz := hE.size
      refine (streamOver_any key nonce b _ W ((HT.out.below HB1.out h0).below hE (by have := HB1.out.size; omega)) (by omega) hk hn (HV1.out.keep hE) (by omega)).mono ?_
      rintro e w' ⟨v', rfl, ho, hb⟩
      exact ⟨_, rfl, (own_hb ho (by rw [overS_length])), hb⟩
    · refine oweAs_pure ((.string (bs (overS key nonce b)))) rfl (fun f W hE hd => ?_) (fun W hE => rfl)
      simp only [DepAs, Region.binds, asAt, As.holds, and_true, forall_const] at hd
      have hcv := (show HB W _ (overS key nonce b) from hd).str Tryd.underlying30 Tryd.underlying5 Tryd.underlying9
      go_simp
    · exact oweAs_load 23 (.tmp 3) rfl (g) 23 (bvs key) (fun _ => rfl) (HI0.out.1) Tryd.underlying23 rfl (by rw [bvs_size, hk]; kernel_rfl) rfl rfl
    · exact oweAs_load 24 (.tmp 4) rfl (g + 1) 24 (bvs nonce) (fun _ => rfl) (HI0.out.2.1) Tryd.underlying24 rfl (by rw [bvs_size, hn]; kernel_rfl) rfl rfl
    · refine oweAs_pure ((.string (bs b))) rfl (fun f W hE hd => ?_) (fun W hE => rfl)
      go_simp
    · refine oweAs_call 12 rfl (fun f W hE hd => ?_)
      simp only [DepAs, Region.binds, asAt, As.holds, and_true, forall_const] at hd
      refine ⟨_, by (go_simp; first | exact rfl | exact ⟨rfl, rfl⟩), ?_⟩
      refine (refOver_any key nonce (bs b) W hk hn (by rw [bs_size]; omega)).mono ?_
      rintro e w' ⟨rfl, hb⟩
      exact ⟨_, rfl, by (show (_ : Value) = _; rw [sb_bs]), hb⟩
    · refine oweAs_pure ((.bool true)) rfl (fun f W hE hd => ?_) (fun W hE => rfl)
      simp only [DepAs, Region.binds, asAt, As.holds, and_true, forall_const] at hd
      go_simp
    · refine oweAs_pure ((.bool true)) rfl (fun f W hE hd => ?_) (fun W hE => rfl)
      simp only [DepAs, Region.binds, asAt, As.holds, and_true, forall_const] at hd
      go_simp
    · refine oweAs_pure ((.slice p b.length cap)) rfl (fun f W hE hd => ?_) (fun W hE => rfl)
      go_simp
    · refine oweAs_pure ((.string (bs b))) rfl (fun f W hE hd => ?_) (fun W hE => rfl)
      simp only [DepAs, Region.binds, asAt, As.holds, and_true, forall_const] at hd
      have hcv := (HV1.out.keep hE).str Tryd.underlying30 Tryd.underlying5 Tryd.underlying9
      go_simp
    · refine oweAs_pure ((.string (bs b))) rfl (fun f W hE hd => ?_) (fun W hE => rfl)
      go_simp
    · refine oweAs_pure ((.bool true)) rfl (fun f W hE hd => ?_) (fun W hE => rfl)
      simp only [DepAs, Region.binds, asAt, As.holds, and_true, forall_const] at hd
      go_simp
    · refine oweAs_pure ((.bool true)) rfl (fun f W hE hd => ?_) (fun W hE => rfl)
      simp only [DepAs, Region.binds, asAt, As.holds, and_true, forall_const] at hd
      go_simp
    · refine oweAs_pure ((.bool true)) rfl (fun f W hE hd => ?_) (fun W hE => rfl)
      simp only [DepAs, Region.binds, asAt, As.holds, and_true, forall_const] at hd
      go_simp
    intro f W hE hA
    simp only [AllAs, As.holds, Nat.reduceAdd] at hA
    obtain ⟨-, -, -, -, -, -, -, -, -, -, -, -, -, -, -, -, hA16, -⟩ := hA
    go_wp2_with fail
    go_ret
    exact ⟨congrArg Ending.returned hA16, HB1.out.trans (hE.mono HB1.out.size)⟩
end Go.Proofs.YtomfpffooaejoaaDoor
