/-
  The walk of the law DigestBits.
-/
import Derived.Test.YtjgleonbkipidaaDoorDg10
import Derived.Test.YtjgleonbkipidaaDoorBt2
import Derived.Test.YtjgleonbkipidaaDoorReg2
namespace Go.Proofs.YtjgleonbkipidaaDoor
open Go Go.RowKit

set_option maxRecDepth 100000 in
set_option maxHeartbeats 1000000 in
theorem digestBits_any (n : UInt8) (at_ : Nat) (w : World) (hT : Tab w) (h0 : 0 < w.heap.size) (ha : at_ < 65536) :
    Calls Tryd.prog 8 #[.int .u8 (n.toNat : Int), .int .u16 (at_ : Int)] w fun e w' => e = .returned (.bool true) ∧ Below w.heap.size w w' := by
  have HT := Lib.hid hT
  clear hT
  have hn := n.toNat_lt
  obtain ⟨q, hq⟩ : ∃ q, q = n.toNat := ⟨_, rfl⟩
  rw [← hq]
  rw [← hq] at hn
  clear hq
  obtain ⟨m, hm⟩ : ∃ m, m = q % 140 + 1 := ⟨_, rfl⟩
  have hm1 : m ≤ 140 := by omega
  have hm2 : 0 < m := by omega
  obtain ⟨i8, hi8, hz8, hsz8, hby8⟩ := info8
  have hqm : (q : Int) % 140 + 1 = (m : Int) := by omega
  have HQM := Lib.hid hqm
  clear hqm hm
  obtain ⟨k, hk⟩ : ∃ k, k = at_ % (8 * m) := ⟨_, rfl⟩
  have hk8 : k < 8 * m := by rw [hk]; exact Nat.mod_lt _ (by omega)
  have hkm : (at_ : Int) % (8 * (m : Int)) = (k : Int) := by rw [hk]; simp
  clear hk
  have hg : (bvs (List.replicate m 0))[k / 8]? = some (.int .u8 0) := by
    rw [bvs_at _ (by simp; omega)]
    have : at8 (List.replicate m 0) (k / 8) = 0 := by simp [at8, List.getD, List.getElem?_replicate]; split <;> rfl
    rw [this]; rfl
  have hq4 : (k : Int).tdiv 8 = ((k / 8 : Nat) : Int) := by rw [Int.tdiv_eq_ediv_of_nonneg (by omega)]; omega
  have hm4 : (k : Int).tmod 8 = ((k % 8 : Nat) : Int) := by rw [Int.tmod_eq_emod_of_nonneg (by omega)]; omega
  go_enter Tryd.func8, Tryd.ntmps8
  go_wp2_with (go_at_call 14; refine (awake2_any _ HT.out h0).mono ?_; rintro e w1 ⟨rfl, hb1⟩; have HB1 := Lib.hid hb1; clear hb1; have hmk := run_make_bytes Tryd.underlying24 hi8 hz8 hsz8 hby8 m (by omega) w1; rw [← HQM.out] at hmk; clear hi8 hz8 hsz8 hby8)
  have hy : ((2 : Int) ^ (k % 8) % 256) = ((UInt8.ofNat (2 ^ (k % 8))).toNat : Int) := by simp [UInt8.toNat_ofNat']
  rw [hy, bvs_set]
  obtain ⟨L, hL⟩ : ∃ L, L = (List.replicate m (0 : UInt8)).set (k / 8) (UInt8.ofNat (2 ^ (k % 8))) := ⟨_, rfl⟩
  rw [← hL]
  have hLl : L.length = m := by rw [hL]; simp
  have HLl := Lib.hid hLl
  have HA1 : Hid (HB (w1.alloc (.cells (bvs L) 5)) (.slice (some ⟨w1.heap.size, 0, none⟩) m m) L) := Lib.hid (HB.blk (Blk.new _ _ _) hLl (by simp only [maxLen]; omega))
  have HB0 := HB1
  have HBr : Hid (Below w.heap.size w (w1.alloc (.cells (bvs L) 5))) := Lib.hid (HB1.out.alloc HB1.out.size _)
  clear hL hLl hy HB1 hmk hg hq4 hm4 hkm
  have HB1 := HBr
  generalize w1.alloc (.cells (bvs L) 5) = w2 at *
  refine wp_region_as (ys := [.eq (.slice (some ⟨w1.heap.size, 0, none⟩) m m), .parts [L], .eq (.agg (bvs (sha L))), .eq (.slice (some ⟨w1.heap.size, 0, none⟩) m m), .eq (.string (bs L)), .eq (.agg (bvs (sha L))), .eq (.bool true), .eq (.bool true)]) (by kernel_rfl) (by kernel_rfl) (by kernel_rfl) (by kernel_rfl) rfl _ (fun f => by simp only [framedL, Act.put, List.setIfInBounds_toArray, List.set_cons_zero, List.set_cons_succ, Nat.reduceAdd]; rfl) ⟨?_, ?_, ?_, ?_, ?_, ?_, ?_, ?_, trivial⟩ ?_
  · refine oweAs_pure ((.slice (some ⟨w1.heap.size, 0, none⟩) m m)) rfl (fun f W hE hd => ?_) (fun W hE => rfl)
    go_simp
  · refine oweAs_made rfl (fun f W hE hd => ?_)
    simp only [DepAs, Region.binds, asAt, As.holds, and_true, forall_const] at hd
    have hP := parts_new1 (w := W) (t := 24) rfl (HA1.out.keep hE)
    refine ⟨_, _, by (go_simp; first | exact rfl | exact ⟨rfl, rfl⟩), ?_, (Below.refl W.heap.size W).alloc (Nat.le_refl _) _⟩
    exact hP
  · refine oweAs_call 15 rfl (fun f W hE hd => ?_)
    simp only [DepAs, Region.binds, asAt, As.holds, and_true, forall_const] at hd
    refine ⟨_, by (go_simp; first | exact rfl | exact ⟨rfl, rfl⟩), ?_⟩
    have hl := HB1.out.size
    have hz := hE.size
    refine (of_any _ _ W ((HT.out.below HB1.out h0).below hE (by omega)) (by omega) (by first | exact hd | exact hd.1) (by first | (simp; done) | (simp; omega)) (by have := HLl.out; simp; omega)).mono ?_
    rintro e w' ⟨rfl, hb⟩
    exact ⟨_, rfl, by (show (_ : Value) = _; simp), hb⟩
  · refine oweAs_pure ((.slice (some ⟨w1.heap.size, 0, none⟩) m m)) rfl (fun f W hE hd => ?_) (fun W hE => rfl)
    go_simp
  · refine oweAs_pure ((.string (bs L))) rfl (fun f W hE hd => ?_) (fun W hE => rfl)
    simp only [DepAs, Region.binds, asAt, As.holds, and_true, forall_const] at hd
    have hcv := (HA1.out.keep hE).str Tryd.underlying24 Tryd.underlying5 Tryd.underlying9
    go_simp
  · refine oweAs_call 16 rfl (fun f W hE hd => ?_)
    simp only [DepAs, Region.binds, asAt, As.holds, and_true, forall_const] at hd
    refine ⟨_, by (go_simp; first | exact rfl | exact ⟨rfl, rfl⟩), ?_⟩
    refine (ref_any _ W (by have := HLl.out; rw [bs_size]; omega)).mono ?_
    rintro e w' ⟨rfl, hb⟩
    exact ⟨_, rfl, by (show (_ : Value) = _; rw [sb_bs]), hb⟩
  · refine oweAs_pure ((.bool true)) rfl (fun f W hE hd => ?_) (fun W hE => rfl)
    simp only [DepAs, Region.binds, asAt, As.holds, and_true, forall_const] at hd
    have hsl := sha_length L
    go_simp
  · refine oweAs_pure ((.bool true)) rfl (fun f W hE hd => ?_) (fun W hE => rfl)
    simp only [DepAs, Region.binds, asAt, As.holds, and_true, forall_const] at hd
    go_simp
  intro f W hE hA
  simp only [AllAs, As.holds, Nat.reduceAdd] at hA
  obtain ⟨-, -, -, -, -, -, -, hA7, -⟩ := hA
  go_wp2_with fail
  go_ret
  exact ⟨congrArg Ending.returned hA7, HB1.out.trans (hE.mono HB1.out.size)⟩
end Go.Proofs.YtjgleonbkipidaaDoor
