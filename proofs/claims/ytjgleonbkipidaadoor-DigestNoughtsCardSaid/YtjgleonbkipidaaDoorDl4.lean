/-
  The walk of the law DigestNoughts.
-/
import Derived.Test.YtjgleonbkipidaaDoorDg10
import Derived.Test.YtjgleonbkipidaaDoorBt2
import Derived.Test.YtjgleonbkipidaaDoorReg2
namespace Go.Proofs.YtjgleonbkipidaaDoor
open Go Go.RowKit

/-- the first k of n bytes are c -/
def fillC (c : UInt8) (n k : Nat) : List UInt8 := List.replicate k c ++ List.replicate (n - k) 0
theorem fillC_length (c : UInt8) {n k : Nat} (h : k ≤ n) : (fillC c n k).length = n := by simp [fillC]; omega
theorem fillC_set (c : UInt8) {n k : Nat} (h : k < n) : (fillC c n k).set k c = fillC c n (k + 1) := by
  unfold fillC
  rw [List.set_append_right _ _ (by simp)]
  simp only [List.length_replicate, Nat.sub_self]
  obtain ⟨m, hm⟩ : ∃ m, n - k = m + 1 := ⟨n - k - 1, by omega⟩
  rw [hm, show n - (k + 1) = m by omega, List.replicate_succ, List.set_cons_zero, List.replicate_succ']
  simp

set_option maxRecDepth 100000 in
set_option maxHeartbeats 1000000 in
theorem digestNoughts_any (c n : UInt8) (w : World) (hT : Tab w) (h0 : 0 < w.heap.size) :
    Calls Tryd.prog 6 #[.int .u8 (c.toNat : Int), .int .u8 (n.toNat : Int)] w fun e w' => e = .returned (.bool true) ∧ Below w.heap.size w w' := by
  have HT := Lib.hid hT
  clear hT
  have hn := n.toNat_lt
  obtain ⟨m, hm⟩ : ∃ m, m = n.toNat := ⟨_, rfl⟩
  rw [← hm]
  rw [← hm] at hn
  clear hm
  obtain ⟨i8, hi8, hz8, hsz8, hby8⟩ := info8
  go_enter Tryd.func6, Tryd.ntmps6
  go_wp2_with (go_at_call 14; refine (awake2_any _ HT.out h0).mono ?_; rintro e w1 ⟨rfl, hb1⟩; have HB1 := Lib.hid hb1; clear hb1; have hmk := run_make_bytes Tryd.underlying24 hi8 hz8 hsz8 hby8 m (by omega) w1; clear hi8 hz8 hsz8 hby8)
  have START : Hid (Blk (w1.alloc (.cells (bvs (List.replicate m 0)) 5)) w1.heap.size 5 (bvs (fillC c m 0)) ∧ Below w1.heap.size w1 (w1.alloc (.cells (bvs (List.replicate m 0)) 5))) := Lib.hid ⟨Blk.new _ _ _, (Below.refl _ _).alloc (Nat.le_refl _) _⟩
  go_loopw [7] (fun i wr => ∃ k : Nat, k ≤ m ∧ i = .int .i64 k ∧ Blk wr w1.heap.size 5 (bvs (fillC c m k)) ∧ Below w1.heap.size w1 wr) (fun i _ => m - (intOf i).toNat)
  case atStart => exact ⟨0, by omega, rfl, START.out⟩
  case round =>
    clear START hmk
    obtain ⟨k, hk, rfl, hI⟩ := hrel
    by_cases hlt : k < m
    · have c0 := hI.1.byte (i := k) (by rw [fillC_length c hk]; exact hlt)
      have f0 := hI.1.frozen k
      have HI := Lib.hid hI; clear hI
      go_wp2_with fail
      have HI2 : Hid (Blk (wr.setCell ⟨w1.heap.size, k, none⟩ (.int .u8 (c.toNat : Int))) w1.heap.size 5 (bvs (fillC c m (k + 1))) ∧ Below w1.heap.size w1 (wr.setCell ⟨w1.heap.size, k, none⟩ (.int .u8 (c.toNat : Int)))) := 
        Lib.hid ⟨by rw [← fillC_set c hlt]; exact HI.out.1.byte_store k c, HI.out.2.setCell (p := ⟨w1.heap.size, k, none⟩) (Nat.le_refl _) _⟩
      go_roundw
      case rel => exact ⟨k + 1, by omega, by go_num, HI2.out⟩
      case measure => simp [intOf]; omega
    · obtain rfl : k = m := by omega
      obtain ⟨L, hL⟩ : ∃ L, L = fillC c k k := ⟨_, rfl⟩
      rw [← hL] at hI
      have hLl : L.length = k := by rw [hL]; exact fillC_length c hk
      have HA1 : Hid (HB wr (.slice (some ⟨w1.heap.size, 0, none⟩) k k) L) := Lib.hid (HB.blk hI.1 hLl (by simp only [maxLen]; omega))
      have HB0 := HB1
      have HBr : Hid (Below w.heap.size w wr) := Lib.hid (HB1.out.trans (hI.2.mono HB1.out.size))
      have HLl := Lib.hid hLl
      clear hI HB1 hL hLl
      have HB1 := HBr
      go_wp2_with fail
      refine wp_region_as (ys := [.eq (.slice (some ⟨w1.heap.size, 0, none⟩) k k), .parts [L], .eq (.agg (bvs (sha L))), .eq (.slice (some ⟨w1.heap.size, 0, none⟩) k k), .eq (.string (bs L)), .eq (.agg (bvs (sha L))), .eq (.bool true), .eq (.bool true), .eq (.agg (bvs (sha ([] : List UInt8)))), .eq (.agg (bvs (sha ([] : List UInt8)))), .eq (.bool true), .eq (.bool true), .eq (.bool true)]) (by kernel_rfl) (by kernel_rfl) (by kernel_rfl) (by kernel_rfl) rfl _ (fun f => by simp only [framedL, Act.put, List.setIfInBounds_toArray, List.set_cons_zero, List.set_cons_succ, Nat.reduceAdd]; rfl) ⟨?_, ?_, ?_, ?_, ?_, ?_, ?_, ?_, ?_, ?_, ?_, ?_, ?_, trivial⟩ ?_
      · refine oweAs_pure ((.slice (some ⟨w1.heap.size, 0, none⟩) k k)) rfl (fun f W hE hd => ?_) (fun W hE => rfl)
        go_simp
      · refine oweAs_made rfl (fun f W hE hd => ?_)
        simp only [DepAs, Region.binds, asAt, As.holds, and_true, forall_const] at hd
        have hP := parts_new1 (w := W) (t := 24) rfl (HA1.out.keep hE)
        refine ⟨_, _, by (go_simp; first | exact rfl | exact ⟨rfl, rfl⟩), ?_, (Below.refl W.heap.size W).alloc (Nat.le_refl _) _⟩
        exact hP
      · refine oweAs_call 15 rfl (fun f W hE hd => ?_)
        simp only [DepAs, Region.binds, asAt, As.holds, and_true, forall_const] at hd
        refine ⟨_, by (go_simp; first | exact rfl | exact ⟨rfl, rfl⟩), ?_⟩
        have hl := HB1.out.size
        have hz := hE.size
        refine (of_any _ _ W ((HT.out.below HB1.out h0).below hE (by omega)) (by omega) (by first | exact hd | exact hd.1) (by first | (simp; done) | (simp; omega)) (by have := HLl.out; simp; omega)).mono ?_
        rintro e w' ⟨rfl, hb⟩
        exact ⟨_, rfl, by (show (_ : Value) = _; simp), hb⟩
      · refine oweAs_pure ((.slice (some ⟨w1.heap.size, 0, none⟩) k k)) rfl (fun f W hE hd => ?_) (fun W hE => rfl)
        go_simp
      · refine oweAs_pure ((.string (bs L))) rfl (fun f W hE hd => ?_) (fun W hE => rfl)
        simp only [DepAs, Region.binds, asAt, As.holds, and_true, forall_const] at hd
        have hcv := (HA1.out.keep hE).str Tryd.underlying24 Tryd.underlying5 Tryd.underlying9
        go_simp
      · refine oweAs_call 16 rfl (fun f W hE hd => ?_)
        simp only [DepAs, Region.binds, asAt, As.holds, and_true, forall_const] at hd
        refine ⟨_, by (go_simp; first | exact rfl | exact ⟨rfl, rfl⟩), ?_⟩
        refine (ref_any _ W (by have := HLl.out; rw [bs_size]; omega)).mono ?_
        rintro e w' ⟨rfl, hb⟩
        exact ⟨_, rfl, by (show (_ : Value) = _; rw [sb_bs]), hb⟩
      · refine oweAs_pure ((.bool true)) rfl (fun f W hE hd => ?_) (fun W hE => rfl)
        simp only [DepAs, Region.binds, asAt, As.holds, and_true, forall_const] at hd
        have hsl := sha_length L
        go_simp
      · refine oweAs_pure ((.bool true)) rfl (fun f W hE hd => ?_) (fun W hE => rfl)
        simp only [DepAs, Region.binds, asAt, As.holds, and_true, forall_const] at hd
        go_simp
      · refine oweAs_call 15 rfl (fun f W hE hd => ?_)
        simp only [DepAs, Region.binds, asAt, As.holds, and_true, forall_const] at hd
        refine ⟨_, by (go_simp; first | exact rfl | exact ⟨rfl, rfl⟩), ?_⟩
        have hl := HB1.out.size
        have hz := hE.size
        refine (of_any _ _ W ((HT.out.below HB1.out h0).below hE (by omega)) (by omega) (.inl ⟨none, 0, rfl, rfl⟩) (by first | (simp; done) | (simp; omega)) (by simp)).mono ?_
        rintro e w' ⟨rfl, hb⟩
        exact ⟨_, rfl, by (show (_ : Value) = _; rfl), hb⟩
      · refine oweAs_call 16 rfl (fun f W hE hd => ?_)
        simp only [DepAs, Region.binds, asAt, As.holds, and_true, forall_const] at hd
        refine ⟨_, by (go_simp; first | exact rfl | exact ⟨rfl, rfl⟩), ?_⟩
        refine (ref_any _ W (by decide)).mono ?_
        rintro e w' ⟨rfl, hb⟩
        exact ⟨_, rfl, by (show (_ : Value) = _; rfl), hb⟩
      · refine oweAs_pure ((.bool true)) rfl (fun f W hE hd => ?_) (fun W hE => rfl)
        simp only [DepAs, Region.binds, asAt, As.holds, and_true, forall_const] at hd
        have hsl := sha_length ([] : List UInt8)
        go_simp
      · refine oweAs_pure ((.bool true)) rfl (fun f W hE hd => ?_) (fun W hE => rfl)
        simp only [DepAs, Region.binds, asAt, As.holds, and_true, forall_const] at hd
        go_simp
      · refine oweAs_pure ((.bool true)) rfl (fun f W hE hd => ?_) (fun W hE => rfl)
        simp only [DepAs, Region.binds, asAt, As.holds, and_true, forall_const] at hd
        go_simp
      intro f W hE hA
      simp only [AllAs, As.holds, Nat.reduceAdd] at hA
      obtain ⟨-, -, -, -, -, -, -, -, -, -, -, -, hA12, -⟩ := hA
      go_wp2_with fail
      go_ret
      exact ⟨congrArg Ending.returned hA12, HB1.out.trans (hE.mono HB1.out.size)⟩
end Go.Proofs.YtjgleonbkipidaaDoor
