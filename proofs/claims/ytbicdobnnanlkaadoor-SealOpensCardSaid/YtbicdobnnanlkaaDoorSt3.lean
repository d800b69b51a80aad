/-
  The walks of the stream's begin.
-/
import Derived.Test.YtbicdobnnanlkaaDoorSt2
import Derived.Test.YtbicdobnnanlkaaDoorGA
namespace Go.Proofs.YtbicdobnnanlkaaDoor
open Go Go.RowKit

/-- a byte, n places up -/
def sh8 (b : UInt8) (n : Nat) : UInt32 := UInt32.ofNat (b.toNat * 2 ^ n)
theorem sh8_toNat (b : UInt8) {n : Nat} (hn : n ≤ 24) : (sh8 b n).toNat = b.toNat * 2 ^ n := by
  have := b.toNat_lt
  unfold sh8
  rw [UInt32.toNat_ofNat']
  apply Nat.mod_eq_of_lt
  calc b.toNat * 2 ^ n ≤ 255 * 2 ^ n := Nat.mul_le_mul_right _ (by omega)
    _ ≤ 255 * 2 ^ 24 := Nat.mul_le_mul_left _ (Nat.pow_le_pow_right (by decide) hn)
    _ < 2 ^ 32 := by decide
theorem join_low (a b : Nat) (n : Nat) (ha : a < 2 ^ n) : a ||| b * 2 ^ n = a + b * 2 ^ n := by
  have h := Nat.shiftLeft_add_eq_or_of_lt ha b
  rw [Nat.shiftLeft_eq] at h
  rw [Nat.or_comm, ← h, Nat.add_comm]
theorem le32_join (l : List UInt8) (i : Nat) : or32 (or32 (or32 (sh8 (at8 l i) 0) (sh8 (at8 l (i + 1)) 8)) (sh8 (at8 l (i + 2)) 16)) (sh8 (at8 l (i + 3)) 24) = le32 l i := by
  have h0 := (at8 l i).toNat_lt
  have h1 := (at8 l (i + 1)).toNat_lt
  have h2 := (at8 l (i + 2)).toNat_lt
  have h3 := (at8 l (i + 3)).toNat_lt
  apply UInt32.toNat_inj.1
  unfold le32 or32
  rw [UInt32.toNat_or, UInt32.toNat_or, UInt32.toNat_or, sh8_toNat _ (by omega), sh8_toNat _ (by omega), sh8_toNat _ (by omega), sh8_toNat _ (by omega), UInt32.toNat_ofNat',
    join_low _ _ 8 (by omega), join_low _ _ 16 (by omega), join_low _ _ 24 (by omega)]
  omega

set_option maxRecDepth 100000 in
set_option maxHeartbeats 1000000 in
theorem word_any (g o n : Nat) (b0 b1 b2 b3 : UInt8) (w : World) (hn : 4 ≤ n) (hm : n ≤ 1000) (c0 : w.cell? ⟨g, o, none⟩ = some (.int .u8 (b0.toNat : Int))) (c1 : w.cell? ⟨g, o + 1, none⟩ = some (.int .u8 (b1.toNat : Int))) (c2 : w.cell? ⟨g, o + 2, none⟩ = some (.int .u8 (b2.toNat : Int))) (c3 : w.cell? ⟨g, o + 3, none⟩ = some (.int .u8 (b3.toNat : Int))) :
    Calls Tryd.prog 51 #[.slice (some ⟨g, o, none⟩) n n] w fun e w' => e = .returned (.int .u32 (or32 (or32 (or32 (sh8 b0 0) (sh8 b1 8)) (sh8 b2 16)) (sh8 b3 24)).toNat) ∧ Below w.heap.size w w' := by
  have HC0 := Lib.hid c0; have HC1 := Lib.hid c1; have HC2 := Lib.hid c2; have HC3 := Lib.hid c3
  clear c0 c1 c2 c3
  have hi0 : (0 : Int) < (n : Int) := by omega
  have hi1 : (1 : Int) < (n : Int) := by omega
  have hi2 : (2 : Int) < (n : Int) := by omega
  have hi3 : (3 : Int) < (n : Int) := by omega
  go_enter Tryd.func51, Tryd.ntmps51
  go_wp2_with fail
  refine wp_region_as (ys := [.eq (.slice (some ⟨g, o, none⟩) n n), .eq (.pointer (some ⟨g, o, none⟩)), .eq (.int .u8 (b0.toNat : Int)), .eq (.int .u32 (sh8 b0 0).toNat), .eq (.slice (some ⟨g, o, none⟩) n n), .eq (.pointer (some ⟨g, o + 1, none⟩)), .eq (.int .u8 (b1.toNat : Int)), .eq (.int .u32 (b1.toNat : Int)), .eq (.int .u32 (sh8 b1 8).toNat), .eq (.int .u32 (or32 (sh8 b0 0) (sh8 b1 8)).toNat), .eq (.slice (some ⟨g, o, none⟩) n n), .eq (.pointer (some ⟨g, o + 2, none⟩)), .eq (.int .u8 (b2.toNat : Int)), .eq (.int .u32 (b2.toNat : Int)), .eq (.int .u32 (sh8 b2 16).toNat), .eq (.int .u32 (or32 (or32 (sh8 b0 0) (sh8 b1 8)) (sh8 b2 16)).toNat), .eq (.slice (some ⟨g, o, none⟩) n n), .eq (.pointer (some ⟨g, o + 3, none⟩)), .eq (.int .u8 (b3.toNat : Int)), .eq (.int .u32 (b3.toNat : Int)), .eq (.int .u32 (sh8 b3 24).toNat), .eq (.int .u32 (or32 (or32 (or32 (sh8 b0 0) (sh8 b1 8)) (sh8 b2 16)) (sh8 b3 24)).toNat), .eq (.int .u32 (or32 (or32 (or32 (sh8 b0 0) (sh8 b1 8)) (sh8 b2 16)) (sh8 b3 24)).toNat)]) (by kernel_rfl) (by kernel_rfl) (by kernel_rfl) (by kernel_rfl) rfl _ (fun f => by simp only [framedL, Act.put, List.setIfInBounds_toArray, List.set_cons_zero, List.set_cons_succ, Nat.reduceAdd]; rfl) ⟨?_, ?_, ?_, ?_, ?_, ?_, ?_, ?_, ?_, ?_, ?_, ?_, ?_, ?_, ?_, ?_, ?_, ?_, ?_, ?_, ?_, ?_, ?_, trivial⟩ ?_
  · refine oweAs_pure ((.slice (some ⟨g, o, none⟩) n n)) rfl (fun f W hE hd => ?_) (fun W hE => rfl)
    go_simp
  · refine oweAs_pure ((.pointer (some ⟨g, o, none⟩))) rfl (fun f W hE hd => ?_) (fun W hE => rfl)
    simp only [DepAs, Region.binds, asAt, As.holds, and_true, forall_const] at hd
    have hn0 : ¬ n = 0 := by omega
    go_simp
  · refine oweAs_pure ((.int .u8 (b0.toNat : Int))) rfl (fun f W hE hd => ?_) (fun W hE => rfl)
    simp only [DepAs, Region.binds, asAt, As.holds, and_true, forall_const] at hd
    have c0 := (hE.cell (block_lt_of_cell HC0.out)).trans HC0.out
    go_simp
  · refine oweAs_pure ((.int .u32 (sh8 b0 0).toNat)) rfl (fun f W hE hd => ?_) (fun W hE => rfl)
    simp only [DepAs, Region.binds, asAt, As.holds, and_true, forall_const] at hd
    have hw : IntKind.u32.wrap (b0.toNat : Int) = (b0.toNat : Int) := by have := b0.toNat_lt; rw [IntKind.wrap_u32']; omega
    have hs : ((sh8 b0 0).toNat : Int) = (b0.toNat : Int) := by rw [sh8_toNat _ (by omega)]; omega
    rw [hs]
    go_simp
  · refine oweAs_pure ((.slice (some ⟨g, o, none⟩) n n)) rfl (fun f W hE hd => ?_) (fun W hE => rfl)
    go_simp
  · refine oweAs_pure ((.pointer (some ⟨g, o + 1, none⟩))) rfl (fun f W hE hd => ?_) (fun W hE => rfl)
    simp only [DepAs, Region.binds, asAt, As.holds, and_true, forall_const] at hd
    go_simp
  · refine oweAs_pure ((.int .u8 (b1.toNat : Int))) rfl (fun f W hE hd => ?_) (fun W hE => rfl)
    simp only [DepAs, Region.binds, asAt, As.holds, and_true, forall_const] at hd
    have c0 := (hE.cell (block_lt_of_cell HC1.out)).trans HC1.out
    go_simp
  · refine oweAs_pure ((.int .u32 (b1.toNat : Int))) rfl (fun f W hE hd => ?_) (fun W hE => rfl)
    simp only [DepAs, Region.binds, asAt, As.holds, and_true, forall_const] at hd
    have hw : IntKind.u32.wrap (b1.toNat : Int) = (b1.toNat : Int) := by have := b1.toNat_lt; rw [IntKind.wrap_u32']; omega
    go_simp
  · refine oweAs_pure ((.int .u32 (sh8 b1 8).toNat)) rfl (fun f W hE hd => ?_) (fun W hE => rfl)
    simp only [DepAs, Region.binds, asAt, As.holds, and_true, forall_const] at hd
    have hs : ((sh8 b1 8).toNat : Int) = (b1.toNat : Int) * 256 := by rw [sh8_toNat _ (by omega)]; omega
    have hw : IntKind.u32.wrap ((b1.toNat : Int) * 256) = (b1.toNat : Int) * 256 := by have := b1.toNat_lt; rw [IntKind.wrap_u32']; omega
    rw [hs]
    go_simp
  · refine oweAs_pure ((.int .u32 (or32 (sh8 b0 0) (sh8 b1 8)).toNat)) rfl (fun f W hE hd => ?_) (fun W hE => rfl)
    simp only [DepAs, Region.binds, asAt, As.holds, and_true, forall_const] at hd
    go_simp
  · refine oweAs_pure ((.slice (some ⟨g, o, none⟩) n n)) rfl (fun f W hE hd => ?_) (fun W hE => rfl)
    go_simp
  · refine oweAs_pure ((.pointer (some ⟨g, o + 2, none⟩))) rfl (fun f W hE hd => ?_) (fun W hE => rfl)
    simp only [DepAs, Region.binds, asAt, As.holds, and_true, forall_const] at hd
    go_simp
  · refine oweAs_pure ((.int .u8 (b2.toNat : Int))) rfl (fun f W hE hd => ?_) (fun W hE => rfl)
    simp only [DepAs, Region.binds, asAt, As.holds, and_true, forall_const] at hd
    have c0 := (hE.cell (block_lt_of_cell HC2.out)).trans HC2.out
    go_simp
  · refine oweAs_pure ((.int .u32 (b2.toNat : Int))) rfl (fun f W hE hd => ?_) (fun W hE => rfl)
    simp only [DepAs, Region.binds, asAt, As.holds, and_true, forall_const] at hd
    have hw : IntKind.u32.wrap (b2.toNat : Int) = (b2.toNat : Int) := by have := b2.toNat_lt; rw [IntKind.wrap_u32']; omega
    go_simp
  · refine oweAs_pure ((.int .u32 (sh8 b2 16).toNat)) rfl (fun f W hE hd => ?_) (fun W hE => rfl)
    simp only [DepAs, Region.binds, asAt, As.holds, and_true, forall_const] at hd
    have hs : ((sh8 b2 16).toNat : Int) = (b2.toNat : Int) * 65536 := by rw [sh8_toNat _ (by omega)]; omega
    have hw : IntKind.u32.wrap ((b2.toNat : Int) * 65536) = (b2.toNat : Int) * 65536 := by have := b2.toNat_lt; rw [IntKind.wrap_u32']; omega
    rw [hs]
    go_simp
  · refine oweAs_pure ((.int .u32 (or32 (or32 (sh8 b0 0) (sh8 b1 8)) (sh8 b2 16)).toNat)) rfl (fun f W hE hd => ?_) (fun W hE => rfl)
    simp only [DepAs, Region.binds, asAt, As.holds, and_true, forall_const] at hd
    go_simp
  · refine oweAs_pure ((.slice (some ⟨g, o, none⟩) n n)) rfl (fun f W hE hd => ?_) (fun W hE => rfl)
    go_simp
  · refine oweAs_pure ((.pointer (some ⟨g, o + 3, none⟩))) rfl (fun f W hE hd => ?_) (fun W hE => rfl)
    simp only [DepAs, Region.binds, asAt, As.holds, and_true, forall_const] at hd
    go_simp
  · refine oweAs_pure ((.int .u8 (b3.toNat : Int))) rfl (fun f W hE hd => ?_) (fun W hE => rfl)
    simp only [DepAs, Region.binds, asAt, As.holds, and_true, forall_const] at hd
    have c0 := (hE.cell (block_lt_of_cell HC3.out)).trans HC3.out
    go_simp
  · refine oweAs_pure ((.int .u32 (b3.toNat : Int))) rfl (fun f W hE hd => ?_) (fun W hE => rfl)
    simp only [DepAs, Region.binds, asAt, As.holds, and_true, forall_const] at hd
    have hw : IntKind.u32.wrap (b3.toNat : Int) = (b3.toNat : Int) := by have := b3.toNat_lt; rw [IntKind.wrap_u32']; omega
    go_simp
  · refine oweAs_pure ((.int .u32 (sh8 b3 24).toNat)) rfl (fun f W hE hd => ?_) (fun W hE => rfl)
    simp only [DepAs, Region.binds, asAt, As.holds, and_true, forall_const] at hd
    have hs : ((sh8 b3 24).toNat : Int) = (b3.toNat : Int) * 16777216 := by rw [sh8_toNat _ (by omega)]; omega
    have hw : IntKind.u32.wrap ((b3.toNat : Int) * 16777216) = (b3.toNat : Int) * 16777216 := by have := b3.toNat_lt; rw [IntKind.wrap_u32']; omega
    rw [hs]
    go_simp
  · refine oweAs_pure ((.int .u32 (or32 (or32 (or32 (sh8 b0 0) (sh8 b1 8)) (sh8 b2 16)) (sh8 b3 24)).toNat)) rfl (fun f W hE hd => ?_) (fun W hE => rfl)
    simp only [DepAs, Region.binds, asAt, As.holds, and_true, forall_const] at hd
    go_simp
  · refine oweAs_pure ((.int .u32 (or32 (or32 (or32 (sh8 b0 0) (sh8 b1 8)) (sh8 b2 16)) (sh8 b3 24)).toNat)) rfl (fun f W hE hd => ?_) (fun W hE => rfl)
    simp only [DepAs, Region.binds, asAt, As.holds, and_true, forall_const] at hd
    go_simp
  intro f W hE hA
  simp only [AllAs, As.holds, Nat.reduceAdd] at hA
  obtain ⟨-, -, -, -, -, -, -, -, -, -, -, -, -, -, -, -, -, -, -, -, -, -, hA22, -⟩ := hA
  go_wp2_with fail
  go_ret
  exact ⟨congrArg Ending.returned hA22, hE⟩
end Go.Proofs.YtbicdobnnanlkaaDoor
