/-
  The walk of the law MacDerive.
-/
import Derived.Test.YtjgleonbkipidaaDoorMl1
namespace Go.Proofs.YtjgleonbkipidaaDoor
open Go Go.RowKit

set_option maxRecDepth 100000 in
set_option maxHeartbeats 1000000 in
theorem macDerive_any (key : List UInt8) (s : ByteArray) (n : Nat) (w : World) (hT : Tab w) (h0 : 0 < w.heap.size) (hk : key.length = 32) (hn : n < 18446744073709551616) (hs63 : s.size ≤ 9223372036854775807) :
    Calls Tryd.prog 10 #[.agg (bvs key), .string s, .int .u64 (n : Int)] w fun e w' => e = .returned (.bool true) ∧ Below w.heap.size w w' := by
  have hbz : (bvs key).size = 32 := by rw [bvs_size]; exact hk
  have HT := Lib.hid hT
  clear hT
  by_cases h200 : (200 : Int) < (s.size : Int)
  · go_enter Tryd.func10, Tryd.ntmps10
    go_wp2_with (first
        | (go_at_call 18
           refine (awake3_any _ (HT.out.below ((Below.refl w.heap.size w).alloc (Nat.le_refl _) _) h0) (by simp)).mono ?_
           rintro e w1 ⟨rfl, hb1⟩
           have HI : Hid (Blk w1 w.heap.size 38 (bvs key) ∧ Below w.heap.size w w1) := Lib.hid ⟨(Blk.new w _ _).below hb1 (by simp), ((Below.refl w.heap.size w).alloc (Nat.le_refl _) _).trans (hb1.mono (by simp))⟩
           have HB1 := Lib.hid HI.out.2
           clear hb1)
        | (refine wpList_load_blk rfl 38 (.tmp 3) rfl w.heap.size 38 (bvs key) rfl HI.out.1 Tryd.underlying38 rfl (by rw [hbz]; kernel_rfl) ?_))
    go_ret
    exact ⟨rfl, HB1.out⟩
  · go_enter Tryd.func10, Tryd.ntmps10
    obtain ⟨m, hm⟩ : ∃ m, m = derF key (sb s) n := ⟨_, rfl⟩
    have hml : m.length = 32 := by rw [hm]; exact derF_length _ _ _
    have HM := Lib.hid hm
    clear hm
    go_wp2_with (first
        | (go_at_call 18
           refine (awake3_any _ (HT.out.below ((Below.refl w.heap.size w).alloc (Nat.le_refl _) _) h0) (by simp)).mono ?_
           rintro e w1 ⟨rfl, hb1⟩
           have HI : Hid (Blk w1 w.heap.size 38 (bvs key) ∧ Below w.heap.size w w1) := Lib.hid ⟨(Blk.new w _ _).below hb1 (by simp), ((Below.refl w.heap.size w).alloc (Nat.le_refl _) _).trans (hb1.mono (by simp))⟩
           have HB1 := Lib.hid HI.out.2
           clear hb1)
        | (refine wpList_load_blk rfl 38 (.tmp 3) rfl w.heap.size 38 (bvs key) rfl HI.out.1 Tryd.underlying38 rfl (by rw [hbz]; kernel_rfl) ?_))
    obtain ⟨g, hg⟩ : ∃ g, g = w.heap.size := ⟨_, rfl⟩
    have HI0 := Lib.hid (hg ▸ HI.out.1 : Blk w1 g 38 (bvs key))
    rw [← hg]
    have HG := Lib.hid hg
    clear hg
    refine wp_region_as (ys := [.eq (.agg (bvs key)), .eq (.string s), .eq (.int .u64 (n : Int)), .eq (.agg (bvs m)), .eq (.agg (bvs key)), .eq (.string s), .eq (.int .u64 (n : Int)), .eq (.agg (bvs m)), .eq (.bool true), .eq (.bool true)]) (by kernel_rfl) (by kernel_rfl) (by kernel_rfl) (by kernel_rfl) rfl _ (fun f => by simp only [framedL, Act.put, List.setIfInBounds_toArray, List.set_cons_zero, List.set_cons_succ, Nat.reduceAdd]; rfl) ⟨?_, ?_, ?_, ?_, ?_, ?_, ?_, ?_, ?_, ?_, trivial⟩ ?_
    · exact oweAs_load 38 (.tmp 3) rfl (g) 38 (bvs key) (fun _ => rfl) (HI0.out) Tryd.underlying38 rfl (by rw [bvs_size, hk]; kernel_rfl) rfl rfl
    · refine oweAs_pure ((.string s)) rfl (fun f W hE hd => ?_) (fun W hE => rfl)
      go_simp
    · refine oweAs_pure ((.int .u64 (n : Int))) rfl (fun f W hE hd => ?_) (fun W hE => rfl)
      go_simp
    · refine oweAs_call 21 rfl (fun f W hE hd => ?_)
      simp only [DepAs, Region.binds, asAt, As.holds, and_true, forall_const] at hd
      refine ⟨_, by (go_simp; first | exact rfl | exact ⟨rfl, rfl⟩), ?_⟩
      have hl := HB1.out.size
      have hz := hE.size
      refine (macDer_any key s n W ((HT.out.below HB1.out h0).below hE (by omega)) (by omega) hk (by omega) (by omega)).mono ?_
      rintro e w' ⟨rfl, hb⟩
      exact ⟨_, rfl, by (show (_ : Value) = _; rw [HM.out]), hb⟩
    · exact oweAs_load 38 (.tmp 3) rfl (g) 38 (bvs key) (fun _ => rfl) (HI0.out) Tryd.underlying38 rfl (by rw [bvs_size, hk]; kernel_rfl) rfl rfl
    · refine oweAs_pure ((.string s)) rfl (fun f W hE hd => ?_) (fun W hE => rfl)
      go_simp
    · refine oweAs_pure ((.int .u64 (n : Int))) rfl (fun f W hE hd => ?_) (fun W hE => rfl)
      go_simp
    · refine oweAs_call 22 rfl (fun f W hE hd => ?_)
      simp only [DepAs, Region.binds, asAt, As.holds, and_true, forall_const] at hd
      refine ⟨_, by (go_simp; first | exact rfl | exact ⟨rfl, rfl⟩), ?_⟩
      refine (refDer_any key s n W hk (by omega) (by omega)).mono ?_
      rintro e w' ⟨rfl, hb⟩
      exact ⟨_, rfl, by (show (_ : Value) = _; rw [HM.out]), hb⟩
    · refine oweAs_pure ((.bool true)) rfl (fun f W hE hd => ?_) (fun W hE => rfl)
      simp only [DepAs, Region.binds, asAt, As.holds, and_true, forall_const] at hd
      go_simp
    · refine oweAs_pure ((.bool true)) rfl (fun f W hE hd => ?_) (fun W hE => rfl)
      simp only [DepAs, Region.binds, asAt, As.holds, and_true, forall_const] at hd
      go_simp
    intro f W hE hA
    simp only [AllAs, As.holds, Nat.reduceAdd] at hA
    obtain ⟨-, -, -, -, -, -, -, -, -, hA9, -⟩ := hA
    go_wp2_with fail
    go_ret
    exact ⟨congrArg Ending.returned hA9, HB1.out.trans (hE.mono HB1.out.size)⟩
end Go.Proofs.YtjgleonbkipidaaDoor
