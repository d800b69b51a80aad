/-
  The document's example of replay.
-/
import Derived.Test.YtfgbkigeejlahaaRp
namespace Go.Proofs.Ytfgbkigeejlahaa
open Go Go.RowKit

theorem seen5 : seenF 0 0 5 = false := by decide +kernel
theorem with5 : withF 0 0 5 = (5, 1) := by decide +kernel
theorem seen55 : seenF 5 1 5 = true := by decide +kernel
theorem seen3 : seenF 5 1 3 = false := by decide +kernel
theorem with3 : withF 5 1 3 = (5, 5) := by decide +kernel
theorem seen0 : seenF 5 5 0 = true := by decide +kernel
theorem seen4 : seenF 5 5 4 = false := by decide +kernel

theorem take_first (g : Nat) (w : World) (hw : Blk w g 24 #[.int .u64 0, .int .u64 0]) :
    Calls Try.prog 9 #[.pointer (some ⟨g, 0, none⟩), .int .u64 5] w fun e w' => e = .returned (.int .i64 0) ∧ w.grownBy w' (some g) ∧ Blk w' g 24 #[.int .u64 5, .int .u64 1] :=
  (take_new 0 0 5 g w hw seen5).mono fun e w' h => by rw [with5] at h; exact h
theorem take_again (g : Nat) (w : World) (hw : Blk w g 24 #[.int .u64 5, .int .u64 1]) :
    Calls Try.prog 9 #[.pointer (some ⟨g, 0, none⟩), .int .u64 5] w fun e w' => e = .returned (.int .i64 22) ∧ Below w.heap.size w w' :=
  take_old 5 1 5 g w hw seen55
theorem take_third (g : Nat) (w : World) (hw : Blk w g 24 #[.int .u64 5, .int .u64 1]) :
    Calls Try.prog 9 #[.pointer (some ⟨g, 0, none⟩), .int .u64 3] w fun e w' => e = .returned (.int .i64 0) ∧ w.grownBy w' (some g) ∧ Blk w' g 24 #[.int .u64 5, .int .u64 5] :=
  (take_new 5 1 3 g w hw seen3).mono fun e w' h => by rw [with3] at h; exact h
theorem seen_no (w : World) : Calls Try.prog 7 #[.agg #[.int .u64 5, .int .u64 5], .int .u64 0] w fun e w' => e = .returned (.bool true) ∧ Below w.heap.size w w' :=
  (seen_any 5 5 0 w).mono fun e w' h => by rw [seen0] at h; exact h
theorem seen_four (w : World) : Calls Try.prog 7 #[.agg #[.int .u64 5, .int .u64 5], .int .u64 4] w fun e w' => e = .returned (.bool false) ∧ Below w.heap.size w w' :=
  (seen_any 5 5 4 w).mono fun e w' h => by rw [seen4] at h; exact h

set_option maxHeartbeats 800000 in
theorem awake_any (w : World) : Calls Try.prog 6 #[] w fun e w' => e = .returned (.bool true) ∧ Below w.heap.size w w' := by
  go_enter Try.func6, Try.ntmps6
  go_wp2_with fail
  have hw0 := Blk.new w 24 #[.int .u64 0, .int .u64 0]
  refine (take_first _ _ hw0).mono ?_
  rintro e w1 ⟨rfl, hg1, hw1⟩
  go_wp2_with fail
  refine (take_again _ _ hw1).mono ?_
  rintro e w2 ⟨rfl, hb2⟩
  have hw2 := hw1.below hb2 hw1.lt
  go_wp2_with fail
  refine (take_third _ _ hw2).mono ?_
  rintro e w3 ⟨rfl, hg3, hw3⟩
  have hB : Below w.heap.size w w3 := ((((Below.refl w.heap.size w).alloc (Nat.le_refl _) _).grown hg1 (by simp) (by intro k hk; cases hk; exact Nat.le_refl _)).trans (hb2.mono (by have := hg1.size; simp at this; omega))).grown hg3 (by have := hg1.size; have := hb2.size; simp at *; omega) (by intro k hk; cases hk; exact Nat.le_refl _)
  have hc0 := hw3.cell 0
  have hc1 := hw3.cell 1
  have hl3 := hw3.lt
  have HW := Lib.hid hw3
  clear hw3 hw2 hw1 hw0 hg1 hb2 hg3
  go_wp2_with fail
  refine (seen_no _).mono ?_
  rintro e w4 ⟨rfl, hb4⟩
  have hw4 := (HW.out).below hb4 hl3
  have hd0 := hw4.cell 0
  have hd1 := hw4.cell 1
  clear hw4
  go_wp2_with fail
  refine (seen_four _).mono ?_
  rintro e w5 ⟨rfl, hb5⟩
  go_wp2_with fail
  go_ret
  exact ⟨rfl, (hB.trans (hb4.mono hB.size)).trans (hb5.mono (Nat.le_trans hB.size hb4.size))⟩
end Go.Proofs.Ytfgbkigeejlahaa
