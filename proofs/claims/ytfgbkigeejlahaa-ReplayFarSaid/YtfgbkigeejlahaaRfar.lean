/-
  ReplayFar: its walk.
-/
import Derived.Test.YtfgbkigeejlahaaRaw
namespace Go.Proofs.Ytfgbkigeejlahaa
open Go Go.RowKit

theorem sub64_toNat {a b : UInt64} (h : b.toNat ≤ a.toNat) : (sub64 a b).toNat = a.toNat - b.toNat := by
  unfold sub64
  rw [UInt64.toNat_sub]
  have := a.toNat_lt
  have := b.toNat_lt
  omega

theorem seen_empty {n : UInt64} (h : n.toNat ≠ 0) : seenF 0 0 n = false := seenF_new h (by rw [UInt64.toNat_zero]; omega)
theorem with_empty {n : UInt64} (h : n.toNat ≠ 0) : withF 0 0 n = (n, 1) := by
  rw [withF_lt (by rw [UInt64.toNat_zero]; omega)]
  have : shl64 0 (sub64 n 0).toNat = 0 := by unfold shl64; simp
  rw [this]; rfl

/-- the number d behind, in a window that holds one number -/
def behindF (t : UInt64) (d : Nat) : UInt64 := sub64 t (UInt64.ofNat d)
theorem behindF_toNat {t : UInt64} {d : Nat} (h : d < t.toNat) (hd : d < 130) : (behindF t d).toNat = t.toNat - d := by
  unfold behindF
  have e : (UInt64.ofNat d).toNat = d := by simp [UInt64.toNat_ofNat']; omega
  rw [sub64_toNat (by rw [e]; omega), e]
theorem behind_rule (t : UInt64) (d : Nat) (hd : d < 130) : IntKind.u64.wrap ((t.toNat : Int) - (d : Int)) = ((behindF t d).toNat : Int) := by
  unfold behindF
  have e : (UInt64.ofNat d).toNat = d := by simp [UInt64.toNat_ofNat']; omega
  rw [← sub64_rule, e]
theorem sub_behind {t : UInt64} {d : Nat} (h : d < t.toNat) (hd : d < 130) : (sub64 t (behindF t d)).toNat = d := by
  rw [sub64_toNat (by rw [behindF_toNat h hd]; omega), behindF_toNat h hd]; omega

theorem far_seen {t : UInt64} {d : Nat} (h : d < t.toNat) (hd : d < 130) (h2 : d = 0 ∨ 64 ≤ d) : seenF t 1 (behindF t d) = true := by
  rw [seen_eq]
  have e := behindF_toNat h hd
  have e2 := sub_behind h hd
  rcases h2 with rfl | h2
  · rw [seenR_near (by omega) (by omega) (by omega), e2]; rfl
  · exact seenR_far (by omega) (by omega) (by omega)
theorem near_not_seen {t : UInt64} {d : Nat} (h : d < t.toNat) (hd : d < 64) (h2 : 0 < d) : seenF t 1 (behindF t d) = false := by
  rw [seen_eq]
  have e := behindF_toNat h (by omega)
  have e2 := sub_behind h (by omega)
  rw [seenR_near (by omega) (by omega) (by omega), e2]
  have : (1 : UInt64).toNat / 2 ^ d = 0 := by
    rw [UInt64.toNat_one]
    exact Nat.div_eq_of_lt (Nat.one_lt_two_pow (by omega))
  rw [this]; rfl
theorem near_with {t : UInt64} {d : Nat} (h : d < t.toNat) (hd : d < 64) : withF t 1 (behindF t d) = (t, or64 1 (shl64 1 d)) := by
  have e := behindF_toNat h (by omega)
  rw [withF_ge (by omega), sub_behind h (by omega)]
theorem near_twice {t : UInt64} {d : Nat} (h : d < t.toNat) (hd : d < 64) : seenF t (or64 1 (shl64 1 d)) (behindF t d) = true := by
  rw [seen_eq]
  have e := behindF_toNat h (by omega)
  have e2 := sub_behind h (by omega)
  rw [seenR_near (by omega) (by omega) (by omega), e2]
  have hb : (or64 1 (shl64 1 d)).toNat.testBit d = true := by
    unfold or64
    rw [UInt64.toNat_or, shl64_one_toNat hd, Nat.testBit_or, Nat.testBit_two_pow_self, Bool.or_true]
  rw [Nat.testBit_eq_decide_div_mod_eq] at hb
  have := of_decide_eq_true hb
  generalize (or64 1 (shl64 1 d)).toNat / 2 ^ d = y at *
  rw [beq_iff_eq]
  omega

theorem far_take0 (t b : UInt64) (g : Nat) (w : World) (hw : Win w g t b) :
    Calls Try.prog 9 #[.pointer (some ⟨g, 0, none⟩), .int .u64 0] w fun e w' => e = .returned (.int .i64 22) ∧ Below w.heap.size w w' :=
  take_old t b 0 g w hw (seenF_zero rfl)

set_option maxHeartbeats 1000000 in
theorem far_any (top behind : UInt64) (w : World) :
    Calls Try.prog 5 #[.int .u64 top.toNat, .int .u64 behind.toNat] w fun e w' => e = .returned (.bool true) ∧ Below w.heap.size w w' := by
  by_cases h0 : top.toNat = 0
  · go_enter Try.func5, Try.ntmps5
    go_wp2_with (go_at_call 6; refine (awake_any _).mono ?_; rintro e w1 ⟨rfl, hb1⟩)
    go_ret
    exact ⟨rfl, hb1⟩
  have hq : ((top.toNat : Int) == 0) = false := by simpa using h0
  obtain ⟨d, hd⟩ : ∃ d, behind.toNat % 130 = d := ⟨_, rfl⟩
  have hd130 : d < 130 := by omega
  have hdd : (behind.toNat : Int) % 130 = (d : Int) := by omega
  have H1 := Lib.hid (behind_rule top d hd130)
  by_cases hge : top.toNat ≤ d
  · go_enter Try.func5, Try.ntmps5
    go_wp2_with (go_at_call 6; refine (awake_any _).mono ?_; rintro e w1 ⟨rfl, hb1⟩)
    refine (take_new 0 0 top _ _ (Blk.new _ _ _) (seen_empty h0)).mono ?_
    rintro e w2 ⟨rfl, hg2, hw2⟩
    go_wp2_with fail
    refine (far_take0 _ _ _ _ hw2).mono ?_
    rintro e w3 ⟨rfl, hb3⟩
    go_wp2_with fail
    go_ret
    refine ⟨rfl, ?_⟩
    exact ((hb1.alloc hb1.size _).grown hg2 (by have := hb1.size; simp; omega) (by intro k hk; cases hk; exact hb1.size)).trans (hb3.mono (by have := hg2.size; have := hb1.size; simp at *; omega))
  by_cases hnear : 0 < d ∧ d < 64
  · obtain ⟨hn1, hn2⟩ := hnear
    have H2 := H1.out
    have hs1 := Lib.hid (near_not_seen (t := top) (by omega) hn2 hn1)
    have hs2 := Lib.hid (near_twice (t := top) (by omega) hn2)
    have hwt := Lib.hid (near_with (t := top) (by omega) hn2)
    go_enter Try.func5, Try.ntmps5
    go_wp2_with (go_at_call 6; refine (awake_any _).mono ?_; rintro e w1 ⟨rfl, hb1⟩)
    refine (take_new 0 0 top _ _ (Blk.new _ _ _) (seen_empty h0)).mono ?_
    rw [with_empty h0]
    rintro e w2 ⟨rfl, hg2, hw2⟩
    have HW2 := Lib.hid hw2; clear hw2
    go_wp2_with fail
    refine (take_new top 1 (behindF top d) _ _ HW2.out hs1.out).mono ?_
    rw [hwt.out]
    rintro e w3 ⟨rfl, hg3, hw3⟩
    have HW3 := Lib.hid hw3; clear hw3
    go_wp2_with fail
    refine (take_old _ _ _ _ _ HW3.out hs2.out).mono ?_
    rintro e w4 ⟨rfl, hb4⟩
    have hw4 := (HW3.out).below hb4 HW3.out.lt
    have hc0 := hw4.cell 0
    clear hw4
    go_wp2_with fail
    go_ret
    refine ⟨rfl, ?_⟩
    have h1 : Below w.heap.size w w2 := (hb1.alloc hb1.size _).grown hg2 (by have := hb1.size; simp; omega) (by intro k hk; cases hk; exact hb1.size)
    have h2 : Below w.heap.size w w3 := h1.grown hg3 h1.size (by intro k hk; cases hk; exact hb1.size)
    exact h2.trans (hb4.mono h2.size)
  · have hfar : d = 0 ∨ 64 ≤ d := by omega
    have H2 := H1.out
    have hs1 := Lib.hid (far_seen (t := top) (by omega) hd130 hfar)
    clear hnear
    rcases hfar with hz | hz
    · have hz' : ¬ 0 < d := by omega
      clear hz
      go_enter Try.func5, Try.ntmps5
      go_wp2_with (go_at_call 6; refine (awake_any _).mono ?_; rintro e w1 ⟨rfl, hb1⟩)
      refine (take_new 0 0 top _ _ (Blk.new _ _ _) (seen_empty h0)).mono ?_
      rw [with_empty h0]
      rintro e w2 ⟨rfl, hg2, hw2⟩
      have HW2 := Lib.hid hw2; clear hw2
      go_wp2_with fail
      refine (take_old top 1 (behindF top d) _ _ HW2.out hs1.out).mono ?_
      rintro e w3 ⟨rfl, hb3⟩
      have HW3 := Lib.hid ((HW2.out).below hb3 HW2.out.lt)
      go_wp2_with fail
      refine (take_old top 1 (behindF top d) _ _ HW3.out hs1.out).mono ?_
      rintro e w4 ⟨rfl, hb4⟩
      have hw4 := (HW3.out).below hb4 HW3.out.lt
      have hc0 := hw4.cell 0
      clear hw4
      go_wp2_with fail
      go_ret
      refine ⟨rfl, ?_⟩
      have h1 : Below w.heap.size w w2 := (hb1.alloc hb1.size _).grown hg2 (by have := hb1.size; simp; omega) (by intro k hk; cases hk; exact hb1.size)
      exact (h1.trans (hb3.mono h1.size)).trans (hb4.mono (Nat.le_trans h1.size hb3.size))
    · have hz' : decide ((d : Int) < 64) = false := decide_eq_false (by omega)
      have hz2 : 0 < d := by omega
      clear hz
      go_enter Try.func5, Try.ntmps5
      go_wp2_with (go_at_call 6; refine (awake_any _).mono ?_; rintro e w1 ⟨rfl, hb1⟩)
      refine (take_new 0 0 top _ _ (Blk.new _ _ _) (seen_empty h0)).mono ?_
      rw [with_empty h0]
      rintro e w2 ⟨rfl, hg2, hw2⟩
      have HW2 := Lib.hid hw2; clear hw2
      go_wp2_with fail
      refine (take_old top 1 (behindF top d) _ _ HW2.out hs1.out).mono ?_
      rintro e w3 ⟨rfl, hb3⟩
      have HW3 := Lib.hid ((HW2.out).below hb3 HW2.out.lt)
      go_wp2_with fail
      refine (take_old top 1 (behindF top d) _ _ HW3.out hs1.out).mono ?_
      rintro e w4 ⟨rfl, hb4⟩
      have hw4 := (HW3.out).below hb4 HW3.out.lt
      have hc0 := hw4.cell 0
      clear hw4
      go_wp2_with fail
      go_ret
      refine ⟨rfl, ?_⟩
      have h1 : Below w.heap.size w w2 := (hb1.alloc hb1.size _).grown hg2 (by have := hb1.size; simp; omega) (by intro k hk; cases hk; exact hb1.size)
      exact (h1.trans (hb3.mono h1.size)).trans (hb4.mono (Nat.le_trans h1.size hb3.size))
end Go.Proofs.Ytfgbkigeejlahaa
