/-
  The walks of the reference's up, quarter and laid.
-/
import Derived.Test.YtbicdobnnanlkaaDoorSt4
namespace Go.Proofs.YtbicdobnnanlkaaDoor
open Go Go.RowKit

theorem rotl_zero (x : UInt32) : rotl x 0 = x := by
  apply UInt32.toNat_inj.1
  have := x.toNat_lt
  unfold rotl
  rw [rotr_toNat x (by omega)]
  simp; omega
theorem rotl_succ (x : UInt32) {n : Nat} (hn : n < 32) : ((rotl x n).toNat * 2 % 4294967296 + (rotl x n).toNat / 2147483648) % 4294967296 = (rotl x (n + 1)).toNat := by
  have h := rotr_succ x (n := 32 - (n + 1)) (by omega)
  rw [show 32 - (n + 1) + 1 = 32 - n by omega] at h
  have hy := (rotr x (32 - (n + 1))).toNat_lt
  unfold rotl
  rw [← h]
  generalize (rotr x (32 - (n + 1))).toNat = y at *
  clear h
  obtain ⟨H, hH⟩ : ∃ H, H = y / 2 := ⟨_, rfl⟩
  have hy2 : y < 4294967296 := hy
  rcases Nat.mod_two_eq_zero_or_one y with e | e
  · have e1 : y / 2 + y % 2 * 2147483648 = H := by omega
    rw [e1, Nat.mod_eq_of_lt (show H * 2 < 4294967296 by omega), Nat.div_eq_of_lt (show H < 2147483648 by omega), Nat.mod_eq_of_lt (by omega)]; omega
  · have e1 : y / 2 + y % 2 * 2147483648 = H + 2147483648 := by omega
    rw [e1, show (H + 2147483648) * 2 % 4294967296 = H * 2 by omega, show (H + 2147483648) / 2147483648 = 1 by omega, Nat.mod_eq_of_lt (by omega)]; omega
theorem twice32 (y : UInt32) : (((y.toNat : Int) * 2 % 4294967296 + (y.toNat : Int) / 2147483648 % 4294967296) % 4294967296) = (((y.toNat * 2 % 4294967296 + y.toNat / 2147483648) % 4294967296 : Nat) : Int) := by
  have := y.toNat_lt
  omega
set_option maxHeartbeats 400000 in
theorem up_any (x : UInt32) (n : Nat) (w : World) (hn : n ≤ 32) :
    Calls Tryd.prog 61 #[.int .u32 x.toNat, .int .i64 (n : Int)] w fun e w' => e = .returned (.int .u32 (rotl x n).toNat) ∧ w = w' := by
  go_enter Tryd.func61, Tryd.ntmps61
  go_wp2
  go_loop [0, 5] (fun v i => ∃ j : Nat, j ≤ n ∧ i = .int .i64 j ∧ v = .int .u32 (rotl x j).toNat) (fun _ i => n - (intOf i).toNat)
  case atStart => exact ⟨0, Nat.zero_le _, rfl, by rw [rotl_zero]⟩
  case round =>
    obtain ⟨j, hj, rfl, rfl⟩ := hrel
    by_cases hlt : j < n
    · have hs := Lib.hid (rotl_succ x (n := j) (by omega))
      go_wp2
      go_round
      case rel => exact ⟨j + 1, by omega, by go_num, by rw [← hs.out, ← twice32]⟩
      case measure => simp [intOf]; omega
    · obtain rfl : j = n := by omega
      go_wp2
      go_ret
      exact ⟨rfl, rfl⟩
theorem up_at (x : UInt32) (k : Int) (n : Nat) (w : World) (hk : k = (n : Int)) (hn : n ≤ 32) :
    Calls Tryd.prog 61 #[.int .u32 x.toNat, .int .i64 k] w fun e w' => e = .returned (.int .u32 (rotl x n).toNat) ∧ w = w' := by
  subst hk; exact up_any x n w hn

theorem results_tmp4 {fn : Func} {t u v x : Tmp} (h : fn.results = #[.tmp t, .tmp u, .tmp v, .tmp x]) (tmps : Array Value) (P : Program) (w : World) :
    (results fn tmps).run P w = .ok (.tuple #[tmps.getD t undef, tmps.getD u undef, tmps.getD v undef, tmps.getD x undef]) w := by
  simp [results, h]
/-- a quarter of four numbers -/
def q4 (a b c d : UInt32) : UInt32 × UInt32 × UInt32 × UInt32 :=
  let a1 := add32 a b
  let d1 := rotl (xor32 d a1) 16
  let c1 := add32 c d1
  let b1 := rotl (xor32 b c1) 12
  let a2 := add32 a1 b1
  let d2 := rotl (xor32 d1 a2) 8
  let c2 := add32 c1 d2
  let b2 := rotl (xor32 b1 c2) 7
  (a2, b2, c2, d2)
set_option maxRecDepth 100000 in
set_option maxHeartbeats 1000000 in
theorem q4_any (a b c d : UInt32) (w : World) :
    Calls Tryd.prog 57 #[.int .u32 a.toNat, .int .u32 b.toNat, .int .u32 c.toNat, .int .u32 d.toNat] w fun e w' =>
      e = .returned (.tuple #[.int .u32 (q4 a b c d).1.toNat, .int .u32 (q4 a b c d).2.1.toNat, .int .u32 (q4 a b c d).2.2.1.toNat, .int .u32 (q4 a b c d).2.2.2.toNat]) ∧ w = w' := by
  go_enter Tryd.func57, Tryd.ntmps57
  have T0 : True := trivial
  go_wp2_with (first
    | (go_at_call 61; clear T3; refine (up_at _ 7 7 _ rfl (by decide)).mono ?_; rintro e w' ⟨rfl, rfl⟩; have T4 : True := trivial)
    | (go_at_call 61; clear T2; refine (up_at _ 8 8 _ rfl (by decide)).mono ?_; rintro e w' ⟨rfl, rfl⟩; have T3 : True := trivial)
    | (go_at_call 61; clear T1; refine (up_at _ 12 12 _ rfl (by decide)).mono ?_; rintro e w' ⟨rfl, rfl⟩; have T2 : True := trivial)
    | (go_at_call 61; clear T0; refine (up_at _ 16 16 _ rfl (by decide)).mono ?_; rintro e w' ⟨rfl, rfl⟩; have T1 : True := trivial))
  refine bodyPost_ret (results_tmp4 rfl _ _ _) rfl ?_
  exact ⟨rfl, rfl⟩
end Go.Proofs.YtbicdobnnanlkaaDoor
