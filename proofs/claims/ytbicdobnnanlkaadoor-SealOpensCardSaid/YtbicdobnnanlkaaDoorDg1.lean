/-
  The walks of the digest's small functions: turns of a word's bits, and the words that a walk needs for numbers of 32 bits.
-/
import Derived.Test.YtbicdobnnanlkaaDoorRows
import Derived.Test.YtbicdobnnanlkaaDoorGA
import Derived.Deep.RegionHeld3
import Derived.BigRegion
import Derived.StillTailTactics
namespace Go.Proofs.YtbicdobnnanlkaaDoor
open Go Go.RowKit

set_option maxHeartbeats 400000 in
theorem rotl_any (x : UInt32) (n : Nat) (w : World) (h0 : 0 < n) (hn : n < 32) :
    Calls Tryd.prog 58 #[.int .u32 x.toNat, .int .i64 (-(n : Int))] w fun e w' => e = .returned (.int .u32 (rotr x n).toNat) ∧ w = w' := by
  have ha := neg_and n h0 hn
  have hv := Lib.hid (rotl_value x n h0 hn)
  go_enter Tryd.func58, Tryd.ntmps58
  go_wp2
  go_ret
  refine ⟨ret_int ?_, rfl⟩
  rw [show 32 - (32 - n) = n by omega, ← hv.out, IntKind.wrap_u32']

set_option maxHeartbeats 400000 in
theorem turn_any (x : UInt32) (n : Nat) (w : World) (h0 : 0 < n) (hn : n < 32) :
    Calls Tryd.prog 59 #[.int .u32 x.toNat, .int .i64 (n : Int)] w fun e w' => e = .returned (.int .u32 (rotr x n).toNat) ∧ w = w' := by
  go_enter Tryd.func59, Tryd.ntmps59
  go_wp2_with (go_at_call 58; refine (rotl_any x n _ h0 hn).mono ?_; rintro e w' ⟨rfl, rfl⟩)
  go_ret
  exact ⟨rfl, rfl⟩

set_option maxHeartbeats 400000 in
theorem three_any (x : UInt32) (a b c : Nat) (w : World) (ha : 0 < a ∧ a < 32) (hb : 0 < b ∧ b < 32) (hc : 0 < c ∧ c < 32) :
    Calls Tryd.prog 55 #[.int .u32 x.toNat, .int .i64 (a : Int), .int .i64 (b : Int), .int .i64 (c : Int)] w fun e w' =>
      e = .returned (.int .u32 (xor32 (xor32 (rotr x a) (rotr x b)) (rotr x c)).toNat) ∧ w = w' := by
  go_enter Tryd.func55, Tryd.ntmps55
  go_wp2_with fail
  refine (turn_any x a _ ha.1 ha.2).mono ?_
  rintro e w' ⟨rfl, rfl⟩
  go_wp2_with fail
  refine (turn_any x b _ hb.1 hb.2).mono ?_
  rintro e w' ⟨rfl, rfl⟩
  go_wp2_with fail
  refine (turn_any x c _ hc.1 hc.2).mono ?_
  rintro e w' ⟨rfl, rfl⟩
  go_wp2_with fail
  go_ret
  exact ⟨rfl, rfl⟩

/-! The reference's turn goes a place at a time. -/
theorem half32 (y : UInt32) : ((y.toNat : Int) / 2 % 4294967296 + (y.toNat : Int) % 2 * 2147483648) % 4294967296 = ((y.toNat / 2 + y.toNat % 2 * 2147483648 : Nat) : Int) := by
  have := y.toNat_lt
  omega
set_option maxHeartbeats 400000 in
theorem turnR_any (x : UInt32) (n : Nat) (w : World) (hn : n < 32) :
    Calls Tryd.prog 50 #[.int .u32 x.toNat, .int .i64 (n : Int)] w fun e w' => e = .returned (.int .u32 (rotr x n).toNat) ∧ w = w' := by
  go_enter Tryd.func50, Tryd.ntmps50
  go_wp2
  go_loop [0, 5] (fun v i => ∃ j : Nat, j ≤ n ∧ i = .int .i64 j ∧ v = .int .u32 (rotr x j).toNat) (fun _ i => n - (intOf i).toNat)
  case atStart => exact ⟨0, Nat.zero_le _, rfl, by rw [rotr_zero]⟩
  case round =>
    obtain ⟨j, hj, rfl, rfl⟩ := hrel
    by_cases hlt : j < n
    · have hs := Lib.hid (rotr_succ x (n := j) (by omega))
      go_wp2
      go_round
      case rel => exact ⟨j + 1, by omega, by go_num, by rw [half32, hs.out]⟩
      case measure => simp [intOf]; omega
    · obtain rfl : j = n := by omega
      go_wp2
      go_ret
      exact ⟨rfl, rfl⟩
/-! The same at a place that is a number of Int's. -/
theorem turn_int (x : UInt32) (k : Int) (w : World) (h0 : 0 < k) (hn : k < 32) :
    Calls Tryd.prog 59 #[.int .u32 x.toNat, .int .i64 k] w fun e w' => e = .returned (.int .u32 (rotr x k.toNat).toNat) ∧ w = w' := by
  obtain ⟨n, rfl⟩ := Int.eq_ofNat_of_zero_le (Int.le_of_lt h0)
  rw [Int.toNat_natCast]
  exact turn_any x n w (by omega) (by omega)
theorem turnR_int (x : UInt32) (k : Int) (w : World) (h0 : 0 ≤ k) (hn : k < 32) :
    Calls Tryd.prog 50 #[.int .u32 x.toNat, .int .i64 k] w fun e w' => e = .returned (.int .u32 (rotr x k.toNat).toNat) ∧ w = w' := by
  obtain ⟨n, rfl⟩ := Int.eq_ofNat_of_zero_le h0
  rw [Int.toNat_natCast]
  exact turnR_any x n w (by omega)
theorem three_S1 (x : UInt32) (w : World) : Calls Tryd.prog 55 #[.int .u32 x.toNat, .int .i64 6, .int .i64 11, .int .i64 25] w fun e w' => e = .returned (.int .u32 (S1 x).toNat) ∧ w = w' :=
  three_any x 6 11 25 w (by omega) (by omega) (by omega)
theorem three_S0 (x : UInt32) (w : World) : Calls Tryd.prog 55 #[.int .u32 x.toNat, .int .i64 2, .int .i64 13, .int .i64 22] w fun e w' => e = .returned (.int .u32 (S0 x).toNat) ∧ w = w' :=
  three_any x 2 13 22 w (by omega) (by omega) (by omega)
end Go.Proofs.YtbicdobnnanlkaaDoor
