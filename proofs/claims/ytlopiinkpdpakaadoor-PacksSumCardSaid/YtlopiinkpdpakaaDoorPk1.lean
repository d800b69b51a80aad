/-
  The walks of packs.may, digits, room, and of the reference's may.
-/
import Derived.Test.YtlopiinkpdpakaaDoorCd4
import Derived.Test.YtlopiinkpdpakaaDoorFlP
namespace Go.Proofs.YtlopiinkpdpakaaDoor
open Go Go.RowKit
set_option linter.unusedSimpArgs false
set_option linter.unusedVariables false

set_option maxRecDepth 100000 in
theorem may_any (n : Int) (w : World) : Calls Tryd.prog 16 #[.int .i64 n] w fun e w' => e = .returned (.bool (mayB n)) ∧ w = w' := by
  by_cases h1 : 41 ≤ n
  · by_cases h2 : n ≤ 65577
    · have HB := Lib.hid (mayB_mk h1 h2)
      have a1 : decide (41 ≤ n) = true := decide_eq_true h1
      have a2 : decide (n ≤ 65577) = true := decide_eq_true h2
      go_enter Tryd.func16, Tryd.ntmps16
      go_wp2_with fail
      go_ret
      exact ⟨by rw [HB.out]; rfl, rfl⟩
    · have HB := Lib.hid (mayB_hi h2)
      have a1 : decide (41 ≤ n) = true := decide_eq_true h1
      have a2 : decide (n ≤ 65577) = false := decide_eq_false h2
      go_enter Tryd.func16, Tryd.ntmps16
      go_wp2_with fail
      go_ret
      exact ⟨by rw [HB.out]; rfl, rfl⟩
  · have HB := Lib.hid (mayB_lo h1)
    have a1 : decide (41 ≤ n) = false := decide_eq_false h1
    go_enter Tryd.func16, Tryd.ntmps16
    go_wp2_with fail
    go_ret
    exact ⟨by rw [HB.out]; rfl, rfl⟩

set_option maxRecDepth 100000 in
theorem refMay_any (n : Int) (w : World) : Calls Tryd.prog 19 #[.int .i64 n] w fun e w' => e = .returned (.bool (mayB n)) ∧ w = w' := by
  by_cases h1 : 41 ≤ n
  · by_cases h2 : n ≤ 65577
    · have HB := Lib.hid (mayB_mk h1 h2)
      have a1 : decide (41 ≤ n) = true := decide_eq_true h1
      have a2 : decide (n ≤ 65577) = true := decide_eq_true h2
      go_enter Tryd.func19, Tryd.ntmps19
      go_wp2_with fail
      go_ret
      exact ⟨by rw [HB.out]; rfl, rfl⟩
    · have HB := Lib.hid (mayB_hi h2)
      have a1 : decide (41 ≤ n) = true := decide_eq_true h1
      have a2 : decide (n ≤ 65577) = false := decide_eq_false h2
      go_enter Tryd.func19, Tryd.ntmps19
      go_wp2_with fail
      go_ret
      exact ⟨by rw [HB.out]; rfl, rfl⟩
  · have HB := Lib.hid (mayB_lo h1)
    have a1 : decide (41 ≤ n) = false := decide_eq_false h1
    go_enter Tryd.func19, Tryd.ntmps19
    go_wp2_with fail
    go_ret
    exact ⟨by rw [HB.out]; rfl, rfl⟩
set_option maxRecDepth 100000 in
set_option maxHeartbeats 1000000 in
theorem digits_any (n : Nat) (w : World) (hn : n < 4611686018427387904) : Calls Tryd.prog 29 #[.int .i64 (n : Int)] w fun e w' => e = .returned (.int .i64 (digF n : Int)) ∧ w = w' := by
  have hd := digF_le10 (n := n) (by omega)
  go_enter Tryd.func29, Tryd.ntmps29
  go_wp2_with fail
  go_loop [0, 3] (fun x k => ∃ (m j : Nat), m ≤ n ∧ 1 ≤ j ∧ x = .int .i64 (m : Int) ∧ k = .int .i64 (j : Int) ∧ Hid (digF n + 1 = j + digF m)) (fun x _ => (intOf x).toNat)
  case atStart => exact ⟨n, 1, Nat.le_refl _, Nat.le_refl _, rfl, rfl, Lib.hid (by omega)⟩
  case round =>
    obtain ⟨m, j, hm, hj, rfl, rfl, HD⟩ := hrel
    have hj11 : j ≤ 10 := by have := HD.out; have := digF_pos m; omega
    by_cases hlt : m < 128
    · have hdn : decide (128 ≤ (m : Int)) = false := decide_eq_false (by omega)
      have HF : Hid (j = digF n) := Lib.hid (by have := HD.out; rw [digF_lt hlt] at this; omega)
      clear hd
      go_wp2_with fail
      go_ret
      exact ⟨by rw [← HF.out]; rfl, rfl⟩
    · have hdn : decide (128 ≤ (m : Int)) = true := decide_eq_true (by omega)
      have HF : Hid (digF n + 1 = (j + 1) + digF (m / 128)) := Lib.hid (by have := HD.out; rw [digF_ge (n := m) (by omega)] at this; omega)
      clear hd
      go_wp2_with fail
      go_round
      case rel => exact ⟨m / 128, j + 1, by omega, by omega, congrArg (Value.int .i64) (by omega), by go_num, HF⟩
      case measure => simp [intOf]; omega

set_option maxRecDepth 100000 in
set_option maxHeartbeats 1000000 in
theorem room_any (n a : Nat) (w : World) (hn : n < 4611686018427387904) (ha : a < 4611686018427387904) : Calls Tryd.prog 28 #[.int .i64 (n : Int), .int .i64 (a : Int)] w fun e w' => e = .returned (.int .i64 ((digF n + a : Nat) : Int)) ∧ w = w' := by
  have hd := digF_le10 (n := n) (by omega)
  go_enter Tryd.func28, Tryd.ntmps28
  go_wp2_with fail
  refine (digits_any n w hn).mono ?_
  rintro e w1 ⟨rfl, rfl⟩
  go_wp2_with fail
  go_ret
  exact ⟨rfl, rfl⟩
end Go.Proofs.YtlopiinkpdpakaaDoor
