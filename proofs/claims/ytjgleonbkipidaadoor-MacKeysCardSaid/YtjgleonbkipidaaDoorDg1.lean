/-
  The walks of the digest's small functions: turns of a word's bits, and the words that a walk needs for numbers of 32 bits.
-/
import Derived.Test.YtjgleonbkipidaaDoorRows
import Derived.Test.YtjgleonbkipidaaDoorMem
import Derived.Test.YtjgleonbkipidaaDoorSha
import Derived.Deep.RegionHeld3
import Derived.BigRegion
import Derived.StillTailTactics
namespace Go.Proofs.YtjgleonbkipidaaDoor
open Go Go.RowKit

theorem add32_rule (a b : UInt32) : IntKind.u32.wrap ((a.toNat : Int) + (b.toNat : Int)) = ((add32 a b).toNat : Int) := by
  unfold add32
  rw [UInt32.toNat_add, IntKind.wrap_u32']
  omega
theorem xor32_rule (a b : UInt32) : bits .xor .u32 (a.toNat : Int) (b.toNat : Int) = ((xor32 a b).toNat : Int) := by
  rw [u32_xor_nat _ _ a.toNat_lt b.toNat_lt]; unfold xor32; rw [UInt32.toNat_xor]
theorem and32_rule (a b : UInt32) : bits .and .u32 (a.toNat : Int) (b.toNat : Int) = ((and32 a b).toNat : Int) := by
  rw [u32_and_nat _ _ a.toNat_lt b.toNat_lt]; unfold and32; rw [UInt32.toNat_and]
theorem or32_rule (a b : UInt32) : bits .or .u32 (a.toNat : Int) (b.toNat : Int) = ((or32 a b).toNat : Int) := by
  rw [u32_or_nat _ _ a.toNat_lt b.toNat_lt]; unfold or32; rw [UInt32.toNat_or]
theorem shr3_rule (x : UInt32) : (x.toNat : Int) / 8 = ((shr32 x 3).toNat : Int) := by
  unfold shr32
  have := x.toNat_lt
  rw [UInt32.toNat_ofNat', show (2 : Nat) ^ 3 = 8 from rfl, Nat.mod_eq_of_lt (by omega)]
  omega
theorem shr10_rule (x : UInt32) : (x.toNat : Int) / 1024 = ((shr32 x 10).toNat : Int) := by
  unfold shr32
  have := x.toNat_lt
  rw [UInt32.toNat_ofNat', show (2 : Nat) ^ 10 = 1024 from rfl, Nat.mod_eq_of_lt (by omega)]
  omega
attribute [go_sem] shr3_rule shr10_rule
attribute [go_sem] add32_rule xor32_rule and32_rule or32_rule

theorem neg_and (n : Nat) (h0 : 0 < n) (hn : n < 32) : bits .and .u64 (IntKind.u64.wrap (-(n : Int))) 31 = ((32 - n : Nat) : Int) := by
  have e : IntKind.u64.wrap (-(n : Int)) = ((18446744073709551616 - n : Nat) : Int) := by rw [IntKind.wrap_u64]; omega
  rw [e]
  have h := u64_and_nat (18446744073709551616 - n) 31 (by omega) (by omega)
  rw [show ((31 : Nat) : Int) = 31 from rfl] at h
  rw [h]
  have h2 := Nat.and_two_pow_sub_one_eq_mod (18446744073709551616 - n) 5
  rw [show (2 ^ 5 - 1 : Nat) = 31 from rfl, show (2 ^ 5 : Nat) = 32 from rfl] at h2
  rw [h2]
  omega
theorem rotl_value (x : UInt32) (n : Nat) (h0 : 0 < n) (hn : n < 32) : bits .or .u32 (IntKind.u32.wrap ((x.toNat : Int) * 2 ^ (32 - n))) ((x.toNat : Int) / 2 ^ n) = ((rotr x n).toNat : Int) := by
  rw [rotr_toNat x (by omega)]
  have e1 : IntKind.u32.wrap ((x.toNat : Int) * 2 ^ (32 - n)) = ((x.toNat % 2 ^ n * 2 ^ (32 - n) : Nat) : Int) := by
    have h1 : ((x.toNat : Int) * 2 ^ (32 - n)) = ((x.toNat * 2 ^ (32 - n) : Nat) : Int) := by simp
    have h2 : x.toNat * 2 ^ (32 - n) % 4294967296 = x.toNat % 2 ^ n * 2 ^ (32 - n) := by
      have h3 : (4294967296 : Nat) = 2 ^ n * 2 ^ (32 - n) := by rw [← Nat.pow_add, Nat.add_sub_cancel' (by omega)]
      rw [h3, Nat.mul_mod_mul_right]
    rw [h1, IntKind.wrap_u32', ← h2]
    omega
  have e2 : ((x.toNat : Int) / 2 ^ n) = ((x.toNat / 2 ^ n : Nat) : Int) := by simp
  have b1 := rotr_lt x (n := n) (by omega)
  rw [e1, e2, u32_or_nat _ _ (Nat.lt_of_le_of_lt (Nat.le_add_left _ _) b1) (Nat.lt_of_le_of_lt (Nat.le_add_right _ _) b1)]
  have hlt : x.toNat / 2 ^ n < 2 ^ (32 - n) := by
    rw [Nat.div_lt_iff_lt_mul (Nat.pow_pos (by omega)), ← Nat.pow_add, Nat.sub_add_cancel (by omega)]
    exact x.toNat_lt
  have h4 := Nat.shiftLeft_add_eq_or_of_lt hlt (x.toNat % 2 ^ n)
  rw [Nat.shiftLeft_eq] at h4
  rw [← h4, Nat.add_comm]

set_option maxHeartbeats 400000 in
theorem rotl_any (x : UInt32) (n : Nat) (w : World) (h0 : 0 < n) (hn : n < 32) :
    Calls Tryd.prog 43 #[.int .u32 x.toNat, .int .i64 (-(n : Int))] w fun e w' => e = .returned (.int .u32 (rotr x n).toNat) ∧ w = w' := by
  have ha := neg_and n h0 hn
  have hv := Lib.hid (rotl_value x n h0 hn)
  go_enter Tryd.func43, Tryd.ntmps43
  go_wp2
  go_ret
  refine ⟨ret_int ?_, rfl⟩
  rw [show 32 - (32 - n) = n by omega, ← hv.out, IntKind.wrap_u32']

set_option maxHeartbeats 400000 in
theorem turn_any (x : UInt32) (n : Nat) (w : World) (h0 : 0 < n) (hn : n < 32) :
    Calls Tryd.prog 41 #[.int .u32 x.toNat, .int .i64 (n : Int)] w fun e w' => e = .returned (.int .u32 (rotr x n).toNat) ∧ w = w' := by
  go_enter Tryd.func41, Tryd.ntmps41
  go_wp2_with (go_at_call 43; refine (rotl_any x n _ h0 hn).mono ?_; rintro e w' ⟨rfl, rfl⟩)
  go_ret
  exact ⟨rfl, rfl⟩

set_option maxHeartbeats 400000 in
theorem three_any (x : UInt32) (a b c : Nat) (w : World) (ha : 0 < a ∧ a < 32) (hb : 0 < b ∧ b < 32) (hc : 0 < c ∧ c < 32) :
    Calls Tryd.prog 38 #[.int .u32 x.toNat, .int .i64 (a : Int), .int .i64 (b : Int), .int .i64 (c : Int)] w fun e w' =>
      e = .returned (.int .u32 (xor32 (xor32 (rotr x a) (rotr x b)) (rotr x c)).toNat) ∧ w = w' := by
  go_enter Tryd.func38, Tryd.ntmps38
  go_wp2_with fail
  refine (turn_any x a _ ha.1 ha.2).mono ?_
  rintro e w' ⟨rfl, rfl⟩
  go_wp2_with fail
  refine (turn_any x b _ hb.1 hb.2).mono ?_
  rintro e w' ⟨rfl, rfl⟩
  go_wp2_with fail
  refine (turn_any x c _ hc.1 hc.2).mono ?_
  rintro e w' ⟨rfl, rfl⟩
  go_wp2_with fail
  go_ret
  exact ⟨rfl, rfl⟩

/-! The reference's turn goes a place at a time. -/
theorem half32 (y : UInt32) : ((y.toNat : Int) / 2 % 4294967296 + (y.toNat : Int) % 2 * 2147483648) % 4294967296 = ((y.toNat / 2 + y.toNat % 2 * 2147483648 : Nat) : Int) := by
  have := y.toNat_lt
  omega
set_option maxHeartbeats 400000 in
theorem turnR_any (x : UInt32) (n : Nat) (w : World) (hn : n < 32) :
    Calls Tryd.prog 29 #[.int .u32 x.toNat, .int .i64 (n : Int)] w fun e w' => e = .returned (.int .u32 (rotr x n).toNat) ∧ w = w' := by
  go_enter Tryd.func29, Tryd.ntmps29
  go_wp2
  go_loop [0, 5] (fun v i => ∃ j : Nat, j ≤ n ∧ i = .int .i64 j ∧ v = .int .u32 (rotr x j).toNat) (fun _ i => n - (intOf i).toNat)
  case atStart => exact ⟨0, Nat.zero_le _, rfl, by rw [rotr_zero]⟩
  case round =>
    obtain ⟨j, hj, rfl, rfl⟩ := hrel
    by_cases hlt : j < n
    · have hs := Lib.hid (rotr_succ x (n := j) (by omega))
      go_wp2
      go_round
      case rel => exact ⟨j + 1, by omega, by go_num, by rw [half32, hs.out]⟩
      case measure => simp [intOf]; omega
    · obtain rfl : j = n := by omega
      go_wp2
      go_ret
      exact ⟨rfl, rfl⟩
/-! The same at a place that is a number of Int's. -/
theorem turn_int (x : UInt32) (k : Int) (w : World) (h0 : 0 < k) (hn : k < 32) :
    Calls Tryd.prog 41 #[.int .u32 x.toNat, .int .i64 k] w fun e w' => e = .returned (.int .u32 (rotr x k.toNat).toNat) ∧ w = w' := by
  obtain ⟨n, rfl⟩ := Int.eq_ofNat_of_zero_le (Int.le_of_lt h0)
  rw [Int.toNat_natCast]
  exact turn_any x n w (by omega) (by omega)
theorem turnR_int (x : UInt32) (k : Int) (w : World) (h0 : 0 ≤ k) (hn : k < 32) :
    Calls Tryd.prog 29 #[.int .u32 x.toNat, .int .i64 k] w fun e w' => e = .returned (.int .u32 (rotr x k.toNat).toNat) ∧ w = w' := by
  obtain ⟨n, rfl⟩ := Int.eq_ofNat_of_zero_le h0
  rw [Int.toNat_natCast]
  exact turnR_any x n w (by omega)
theorem three_S1 (x : UInt32) (w : World) : Calls Tryd.prog 38 #[.int .u32 x.toNat, .int .i64 6, .int .i64 11, .int .i64 25] w fun e w' => e = .returned (.int .u32 (S1 x).toNat) ∧ w = w' :=
  three_any x 6 11 25 w (by omega) (by omega) (by omega)
theorem three_S0 (x : UInt32) (w : World) : Calls Tryd.prog 38 #[.int .u32 x.toNat, .int .i64 2, .int .i64 13, .int .i64 22] w fun e w' => e = .returned (.int .u32 (S0 x).toNat) ∧ w = w' :=
  three_any x 2 13 22 w (by omega) (by omega) (by omega)
end Go.Proofs.YtjgleonbkipidaaDoor
