/-
  The walks of the stream's add and quarter.
-/
import Derived.Test.YtbicdobnnanlkaaDoorGA
import Derived.Test.YtbicdobnnanlkaaDoorGB
import Derived.Test.YtbicdobnnanlkaaDoorRows
namespace Go.Proofs.YtbicdobnnanlkaaDoor
open Go Go.RowKit

theorem and31 (n : Nat) (hn : n < 32) : bits .and .u64 (n : Int) 31 = (n : Int) := by
  have h := u64_and_nat n 31 (by omega) (by omega)
  rw [show ((31 : Nat) : Int) = 31 from rfl] at h
  rw [h]
  have h2 := Nat.and_two_pow_sub_one_eq_mod n 5
  rw [show (2 ^ 5 - 1 : Nat) = 31 from rfl, show (2 ^ 5 : Nat) = 32 from rfl] at h2
  rw [h2]
  omega
set_option maxHeartbeats 400000 in
theorem rotl_pos (x : UInt32) (n : Nat) (w : World) (h0 : 0 < n) (hn : n < 32) :
    Calls Tryd.prog 58 #[.int .u32 x.toNat, .int .i64 (n : Int)] w fun e w' => e = .returned (.int .u32 (rotl x n).toNat) ∧ w = w' := by
  have ha := and31 n hn
  have hv := rotl_value x (32 - n) (by omega) (by omega)
  rw [show 32 - (32 - n) = n by omega] at hv
  have HV := Lib.hid hv
  clear hv
  go_enter Tryd.func58, Tryd.ntmps58
  go_wp2
  go_ret
  refine ⟨ret_int ?_, rfl⟩
  unfold rotl
  rw [← HV.out, IntKind.wrap_u32']

set_option maxRecDepth 100000 in
set_option maxHeartbeats 1000000 in
theorem add_any (g : Nat) (s : List UInt32) (a b d n : Nat) (w : World) (hs : s.length = 16) (ha : a < 16) (hb : b < 16) (hd : d < 16) (h0 : 0 < n) (hn : n < 32) (hB : Blk w g 77 (wvs s)) :
    Calls Tryd.prog 52 #[.pointer (some ⟨g, 0, none⟩), .int .i64 (a : Int), .int .i64 (b : Int), .int .i64 (d : Int), .int .i64 (n : Int)] w fun e w' => (∃ v, e = .returned v) ∧ Blk w' g 77 (wvs (addS s a b d n)) ∧ w.grownBy w' (some g) := by
  have HB := Lib.hid hB
  clear hB
  go_enter Tryd.func52, Tryd.ntmps52
  go_wp2_with fail
  have ha1 : (a : Int) < 16 := by omega
  have hb1 : (b : Int) < 16 := by omega
  have hd1 : (d : Int) < 16 := by omega
  refine wp_region_tail 13 [.eq (.pointer (some ⟨g, 0, none⟩)), .eq (.int .i64 (a : Int)), .eq (.pointer (some ⟨g, 0, none⟩)), .eq (.pointer (some ⟨g, a, none⟩)), .eq (.int .u32 (at32 s a).toNat), .eq (.pointer (some ⟨g, 0, none⟩)), .eq (.int .i64 (b : Int)), .eq (.pointer (some ⟨g, 0, none⟩)), .eq (.pointer (some ⟨g, b, none⟩)), .eq (.int .u32 (at32 s b).toNat), .eq (.int .u32 (add32 (at32 s a) (at32 s b)).toNat), .eq (.pointer (some ⟨g, 0, none⟩)), .eq (.pointer (some ⟨g, a, none⟩))] (by kernel_rfl) (by kernel_rfl) (by kernel_rfl) (by kernel_rfl) rfl (by decide) (by kernel_rfl) _ (fun f => by simp only [framedL, Act.put, List.setIfInBounds_toArray, List.set_cons_zero, List.set_cons_succ, Nat.reduceAdd]; rfl) ⟨?_, ?_, ?_, ?_, ?_, ?_, ?_, ?_, ?_, ?_, ?_, ?_, ?_, trivial⟩ ?_
  · refine oweAs_pure ((.pointer (some ⟨g, 0, none⟩))) rfl (fun f W hE hd => ?_) (fun W hE => rfl)
    go_simp
  · refine oweAs_pure ((.int .i64 (a : Int))) rfl (fun f W hE hd => ?_) (fun W hE => rfl)
    go_simp
  · refine oweAs_pure ((.pointer (some ⟨g, 0, none⟩))) rfl (fun f W hE hd => ?_) (fun W hE => rfl)
    simp only [DepAs, Region.binds, asAt, As.holds, and_true, forall_const] at hd
    go_simp
  · refine oweAs_pure ((.pointer (some ⟨g, a, none⟩))) rfl (fun f W hE hd => ?_) (fun W hE => rfl)
    simp only [DepAs, Region.binds, asAt, As.holds, and_true, forall_const] at hd
    go_simp
  · refine oweAs_pure ((.int .u32 (at32 s a).toNat)) rfl (fun f W hE hd => ?_) (fun W hE => rfl)
    simp only [DepAs, Region.binds, asAt, As.holds, and_true, forall_const] at hd
    have c0 := (HB.out.below hE HB.out.lt).word (i := a) (by omega)
    go_simp
  · refine oweAs_pure ((.pointer (some ⟨g, 0, none⟩))) rfl (fun f W hE hd => ?_) (fun W hE => rfl)
    go_simp
  · refine oweAs_pure ((.int .i64 (b : Int))) rfl (fun f W hE hd => ?_) (fun W hE => rfl)
    go_simp
  · refine oweAs_pure ((.pointer (some ⟨g, 0, none⟩))) rfl (fun f W hE hd => ?_) (fun W hE => rfl)
    simp only [DepAs, Region.binds, asAt, As.holds, and_true, forall_const] at hd
    go_simp
  · refine oweAs_pure ((.pointer (some ⟨g, b, none⟩))) rfl (fun f W hE hd => ?_) (fun W hE => rfl)
    simp only [DepAs, Region.binds, asAt, As.holds, and_true, forall_const] at hd
    go_simp
  · refine oweAs_pure ((.int .u32 (at32 s b).toNat)) rfl (fun f W hE hd => ?_) (fun W hE => rfl)
    simp only [DepAs, Region.binds, asAt, As.holds, and_true, forall_const] at hd
    have c0 := (HB.out.below hE HB.out.lt).word (i := b) (by omega)
    go_simp
  · refine oweAs_pure ((.int .u32 (add32 (at32 s a) (at32 s b)).toNat)) rfl (fun f W hE hd => ?_) (fun W hE => rfl)
    simp only [DepAs, Region.binds, asAt, As.holds, and_true, forall_const] at hd
    go_simp
  · refine oweAs_pure ((.pointer (some ⟨g, 0, none⟩))) rfl (fun f W hE hd => ?_) (fun W hE => rfl)
    simp only [DepAs, Region.binds, asAt, As.holds, and_true, forall_const] at hd
    go_simp
  · refine oweAs_pure ((.pointer (some ⟨g, a, none⟩))) rfl (fun f W hE hd => ?_) (fun W hE => rfl)
    simp only [DepAs, Region.binds, asAt, As.holds, and_true, forall_const] at hd
    go_simp
  intro f W hE hA
  simp only [AllAs, As.holds, Nat.reduceAdd] at hA
  obtain ⟨-, -, -, -, -, -, -, -, -, -, hA10, -, hA12, -⟩ := hA
  simp only [List.drop_succ_cons, List.drop_zero]
  rw [hA10, hA12]
  have hl0 := HB.out.lt
  have c0 := (HB.out.below hE hl0).word (i := a) (by omega)
  have f0 := (HB.out.below hE hl0).frozen a
  obtain ⟨s1, hs1⟩ : ∃ s1, s1 = s.set a (add32 (at32 s a) (at32 s b)) := ⟨_, rfl⟩
  have hs1l : s1.length = 16 := by rw [hs1, List.length_set]; exact hs
  have HE := Lib.hid hE
  clear hE hA10 hA12
  go_wp2_with fail
  have HB1 : Hid (Blk (W.setCell ⟨g, a, none⟩ (.int .u32 (add32 (at32 s a) (at32 s b)).toNat)) g 77 (wvs s1)) := Lib.hid (by rw [hs1]; exact (HB.out.below HE.out hl0).word_store _ _)
  have HG1 : Hid (w.grownBy (W.setCell ⟨g, a, none⟩ (.int .u32 (add32 (at32 s a) (at32 s b)).toNat)) (some g)) := Lib.hid (Only.store (Only.below (World.grownBy.refl w (some g)) HE.out (Nat.le_refl _)) (.inl rfl) _)
  have HS1 := Lib.hid hs1
  clear c0 f0 hs1 HE
  generalize W.setCell ⟨g, a, none⟩ (.int .u32 (add32 (at32 s a) (at32 s b)).toNat) = w1 at *
  obtain ⟨y, hy⟩ : ∃ y, y = xor32 (at32 s1 d) (at32 s1 a) := ⟨_, rfl⟩
  have HY := Lib.hid hy
  clear hy
  refine wp_region_tail 17 [.eq (.pointer (some ⟨g, 0, none⟩)), .eq (.int .i64 (d : Int)), .eq (.pointer (some ⟨g, 0, none⟩)), .eq (.int .i64 (d : Int)), .eq (.pointer (some ⟨g, 0, none⟩)), .eq (.pointer (some ⟨g, d, none⟩)), .eq (.int .u32 (at32 s1 d).toNat), .eq (.pointer (some ⟨g, 0, none⟩)), .eq (.int .i64 (a : Int)), .eq (.pointer (some ⟨g, 0, none⟩)), .eq (.pointer (some ⟨g, a, none⟩)), .eq (.int .u32 (at32 s1 a).toNat), .eq (.int .u32 y.toNat), .eq (.int .i64 (n : Int)), .eq (.int .u32 (rotl y n).toNat), .eq (.pointer (some ⟨g, 0, none⟩)), .eq (.pointer (some ⟨g, d, none⟩))] (by kernel_rfl) (by kernel_rfl) (by kernel_rfl) (by kernel_rfl) rfl (by decide) (by kernel_rfl) _ (fun f => by simp only [framedL, Act.put, List.setIfInBounds_toArray, List.set_cons_zero, List.set_cons_succ, Nat.reduceAdd]; rfl) ⟨?_, ?_, ?_, ?_, ?_, ?_, ?_, ?_, ?_, ?_, ?_, ?_, ?_, ?_, ?_, ?_, ?_, trivial⟩ ?_
  · refine oweAs_pure ((.pointer (some ⟨g, 0, none⟩))) rfl (fun f W hE hd => ?_) (fun W hE => rfl)
    go_simp
  · refine oweAs_pure ((.int .i64 (d : Int))) rfl (fun f W hE hd => ?_) (fun W hE => rfl)
    go_simp
  · refine oweAs_pure ((.pointer (some ⟨g, 0, none⟩))) rfl (fun f W hE hd => ?_) (fun W hE => rfl)
    go_simp
  · refine oweAs_pure ((.int .i64 (d : Int))) rfl (fun f W hE hd => ?_) (fun W hE => rfl)
    go_simp
  · refine oweAs_pure ((.pointer (some ⟨g, 0, none⟩))) rfl (fun f W hE hd => ?_) (fun W hE => rfl)
    simp only [DepAs, Region.binds, asAt, As.holds, and_true, forall_const] at hd
    go_simp
  · refine oweAs_pure ((.pointer (some ⟨g, d, none⟩))) rfl (fun f W hE hd => ?_) (fun W hE => rfl)
    simp only [DepAs, Region.binds, asAt, As.holds, and_true, forall_const] at hd
    go_simp
  · refine oweAs_pure ((.int .u32 (at32 s1 d).toNat)) rfl (fun f W hE hd => ?_) (fun W hE => rfl)
    simp only [DepAs, Region.binds, asAt, As.holds, and_true, forall_const] at hd
    have c0 := (HB1.out.below hE HB1.out.lt).word (i := d) (by omega)
    go_simp
  · refine oweAs_pure ((.pointer (some ⟨g, 0, none⟩))) rfl (fun f W hE hd => ?_) (fun W hE => rfl)
    go_simp
  · refine oweAs_pure ((.int .i64 (a : Int))) rfl (fun f W hE hd => ?_) (fun W hE => rfl)
    go_simp
  · refine oweAs_pure ((.pointer (some ⟨g, 0, none⟩))) rfl (fun f W hE hd => ?_) (fun W hE => rfl)
    simp only [DepAs, Region.binds, asAt, As.holds, and_true, forall_const] at hd
    go_simp
  · refine oweAs_pure ((.pointer (some ⟨g, a, none⟩))) rfl (fun f W hE hd => ?_) (fun W hE => rfl)
    simp only [DepAs, Region.binds, asAt, As.holds, and_true, forall_const] at hd
    go_simp
  · refine oweAs_pure ((.int .u32 (at32 s1 a).toNat)) rfl (fun f W hE hd => ?_) (fun W hE => rfl)
    simp only [DepAs, Region.binds, asAt, As.holds, and_true, forall_const] at hd
    have c0 := (HB1.out.below hE HB1.out.lt).word (i := a) (by omega)
    go_simp
  · refine oweAs_pure ((.int .u32 y.toNat)) rfl (fun f W hE hd => ?_) (fun W hE => rfl)
    simp only [DepAs, Region.binds, asAt, As.holds, and_true, forall_const] at hd
    rw [HY.out]
    go_simp
  · refine oweAs_pure ((.int .i64 (n : Int))) rfl (fun f W hE hd => ?_) (fun W hE => rfl)
    go_simp
  · refine oweAs_call 58 rfl (fun f W hE hd => ?_)
    simp only [DepAs, Region.binds, asAt, As.holds, and_true, forall_const] at hd
    refine ⟨_, by (go_simp; first | exact rfl | exact ⟨rfl, rfl⟩), ?_⟩
    refine (rotl_pos y n W h0 hn).mono ?_
    rintro e w' ⟨rfl, rfl⟩
    exact ⟨_, rfl, rfl, Below.refl _ _⟩
  · refine oweAs_pure ((.pointer (some ⟨g, 0, none⟩))) rfl (fun f W hE hd => ?_) (fun W hE => rfl)
    simp only [DepAs, Region.binds, asAt, As.holds, and_true, forall_const] at hd
    go_simp
  · refine oweAs_pure ((.pointer (some ⟨g, d, none⟩))) rfl (fun f W hE hd => ?_) (fun W hE => rfl)
    simp only [DepAs, Region.binds, asAt, As.holds, and_true, forall_const] at hd
    go_simp
  intro f W hE hA
  simp only [AllAs, As.holds, Nat.reduceAdd] at hA
  obtain ⟨-, -, -, -, -, -, -, -, -, -, -, -, -, -, hA14, -, hA16, -⟩ := hA
  simp only [List.drop_succ_cons, List.drop_zero]
  rw [hA14, hA16]
  have hl1 := HB1.out.lt
  have c0 := (HB1.out.below hE hl1).word (i := d) (by omega)
  have f0 := (HB1.out.below hE hl1).frozen d
  have HE := Lib.hid hE
  clear hE hA14 hA16
  go_wp2_with fail
  go_end0
  refine ⟨⟨_, rfl⟩, ?_, Only.store (Only.below HG1.out HE.out HG1.out.size) (.inl rfl) _⟩
  unfold addS
  rw [← HS1.out, ← HY.out]
  exact (HB1.out.below HE.out hl1).word_store _ _
end Go.Proofs.YtbicdobnnanlkaaDoor
