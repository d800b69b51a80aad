/-
  What a window that began empty has seen: plain laws on numbers and lists.
-/
import Derived.Test.YtlkhbfafednegaaDoorRp
namespace Go.Proofs.YtlkhbfafednegaaDoor
open Go Go.RowKit

/-- 64 behind, or more -/
def farB (t n : UInt64) : Bool := decide (64 ≤ t.toNat) && decide (n.toNat ≤ t.toNat - 64)
/-- t is the greatest of T, and bit k of b tells whether t less k is in T -/
def Held (t b : UInt64) (T : List UInt64) : Prop :=
  (∀ x ∈ T, 0 < x.toNat ∧ x.toNat ≤ t.toNat) ∧ ∀ k, k < 64 → ∀ x : UInt64, x.toNat + k = t.toNat → 0 < x.toNat → (b.toNat.testBit k = true ↔ x ∈ T)
def wasB (T : List UInt64) (n : UInt64) : Bool := (n.toNat == 0) || T.contains n

theorem held_empty : Held 0 0 [] := ⟨fun x hx => by simp at hx, fun k _ x h1 h2 => by rw [UInt64.toNat_zero] at h1; omega⟩

theorem held_seen {t b : UInt64} {T : List UInt64} (h : Held t b T) (n : UInt64) : seenF t b n = (wasB T n || farB t n) := by
  rw [seen_eq]
  unfold wasB farB
  by_cases h0 : n.toNat = 0
  · rw [seenR_zero h0]; simp [h0]
  by_cases h1 : t.toNat < n.toNat
  · rw [seenR_new h0 h1]
    have hn : n ∉ T := fun hm => by have := (h.1 n hm).2; omega
    have hc : T.contains n = false := by simpa using hn
    have hf : decide (n.toNat ≤ t.toNat - 64) = false := decide_eq_false (by omega)
    have h0' : (n.toNat == 0) = false := by simpa using h0
    rw [hc, hf, h0']; simp
  have hd : (sub64 t n).toNat = t.toNat - n.toNat := by
    unfold sub64; rw [UInt64.toNat_sub]
    have := t.toNat_lt
    have := n.toNat_lt
    omega
  have h0' : (n.toNat == 0) = false := by simpa using h0
  by_cases h2 : 64 ≤ (sub64 t n).toNat
  · rw [seenR_far h0 h1 h2]
    have ha : decide (64 ≤ t.toNat) = true := decide_eq_true (by omega)
    have hb : decide (n.toNat ≤ t.toNat - 64) = true := decide_eq_true (by omega)
    rw [ha, hb]; simp
  · rw [seenR_near h0 h1 h2, hd]
    have hf : (decide (64 ≤ t.toNat) && decide (n.toNat ≤ t.toNat - 64)) = false := by
      rw [hd] at h2
      by_cases ha : 64 ≤ t.toNat
      · rw [decide_eq_false (show ¬ n.toNat ≤ t.toNat - 64 by omega)]; simp
      · rw [decide_eq_false ha]; simp
    rw [hf, h0', Bool.or_false, Bool.false_or]
    have hk := h.2 (t.toNat - n.toNat) (by omega) n (by omega) (by omega)
    rw [Nat.testBit_eq_decide_div_mod_eq] at hk
    generalize b.toNat / 2 ^ (t.toNat - n.toNat) = y at *
    by_cases hy : y % 2 = 1
    · have hm : n ∈ T := hk.1 (decide_eq_true hy)
      have e1 : ((y : Int) % 2 == 1) = true := by rw [beq_iff_eq]; omega
      have e2 : T.contains n = true := by simpa using hm
      rw [e1, e2]
    · have hm : n ∉ T := fun hm => hy (of_decide_eq_true (hk.2 hm))
      have e1 : ((y : Int) % 2 == 1) = false := by rw [beq_eq_false_iff_ne]; omega
      have e2 : T.contains n = false := by simpa using hm
      rw [e1, e2]

theorem shl_bit (b : UInt64) (d k : Nat) (hk : k < 64) : (or64 (shl64 b d) 1).toNat.testBit k = (decide (k = 0) || (decide (d ≤ k) && b.toNat.testBit (k - d))) := by
  unfold or64 shl64
  rw [UInt64.toNat_or, Nat.testBit_or, UInt64.toNat_ofNat', UInt64.toNat_one, Nat.testBit_mod_two_pow, Nat.testBit_mul_two_pow]
  have h1 : Nat.testBit 1 k = decide (k = 0) := by
    have := @Nat.testBit_two_pow 0 k
    rw [Nat.pow_zero] at this
    rw [this]
    by_cases h : k = 0
    · simp [h]
    · have h' : ¬ 0 = k := fun e => h e.symm
      simp [h, h']
  rw [h1, decide_eq_true hk, Bool.true_and, Bool.or_comm]
  congr 1
  by_cases h : d ≤ 64
  · rw [Nat.min_eq_left h]
  · rw [Nat.min_eq_right (by omega), decide_eq_false (show ¬ 64 ≤ k by omega), decide_eq_false (show ¬ d ≤ k by omega)]; simp

theorem held_take {t b n : UInt64} {T : List UInt64} (h : Held t b T) (hs : seenF t b n = false) (S : List UInt64) (hS : ∀ x, x ∈ S ↔ x = n ∨ x ∈ T) : Held (withF t b n).1 (withF t b n).2 S ∧ ((withF t b n).1 = if t.toNat < n.toNat then n else t) := by
  have hn0 : 0 < n.toNat := by
    rcases Nat.eq_zero_or_pos n.toNat with h0 | h0
    · rw [seenF_zero h0] at hs; cases hs
    · exact h0
  rcases withF_new hs with h1 | ⟨h1, h2, hd, hb⟩
  · rw [withF_lt h1, if_pos h1]
    have hsub : (sub64 n t).toNat = n.toNat - t.toNat := by
      unfold sub64; rw [UInt64.toNat_sub]
      have := t.toNat_lt
      have := n.toNat_lt
      omega
    refine ⟨⟨fun x hx => ?_, fun k hk x hx hx0 => ?_⟩, rfl⟩
    · rcases (hS x).1 hx with rfl | hx
      · exact ⟨hn0, Nat.le_refl _⟩
      · have := h.1 x hx
        show _ ∧ _ ≤ n.toNat
        omega
    · have hx' : x.toNat + k = n.toNat := hx
      rw [shl_bit _ _ _ hk, hsub, hS]
      by_cases hk0 : k = 0
      · have : x = n := UInt64.toNat_inj.1 (by omega)
        simp [hk0, this]
      · have hne : x ≠ n := fun e => by rw [e] at hx'; omega
        by_cases hdk : n.toNat - t.toNat ≤ k
        · have := h.2 (k - (n.toNat - t.toNat)) (by omega) x (by omega) hx0
          simp [hk0, hdk, hne, this]
        · have hnm : x ∉ T := fun hm => by have := (h.1 x hm).2; omega
          simp [hk0, hdk, hne, hnm]
  · rw [withF_ge (by omega), if_neg (by omega)]
    refine ⟨⟨fun x hx => ?_, fun k hk x hx hx0 => ?_⟩, rfl⟩
    · rcases (hS x).1 hx with rfl | hx
      · exact ⟨hn0, h1⟩
      · exact h.1 x hx
    · have hx' : x.toNat + k = t.toNat := hx
      rw [hS]
      have hb' : (or64 b (shl64 1 (sub64 t n).toNat)).toNat.testBit k = (b.toNat.testBit k || decide (t.toNat - n.toNat = k)) := by
        unfold or64
        rw [UInt64.toNat_or, hd, shl64_one_toNat h2, Nat.testBit_or, Nat.testBit_two_pow]
      rw [hb']
      have hk' := h.2 k hk x hx' hx0
      by_cases hkn : t.toNat - n.toNat = k
      · have : x = n := UInt64.toNat_inj.1 (by omega)
        simp [hkn, this]
      · have hne : x ≠ n := fun e => by rw [e] at hx'; omega
        simp [hkn, hne, hk']
end Go.Proofs.YtlkhbfafednegaaDoor
