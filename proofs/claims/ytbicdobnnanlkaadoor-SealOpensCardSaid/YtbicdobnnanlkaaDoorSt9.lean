/-
  How the reference lays words out of bytes, byte by byte. No program is named here.
-/
import Derived.Test.YtbicdobnnanlkaaDoorSt4
namespace Go.Proofs.YtbicdobnnanlkaaDoor

/-- i bytes are summed into words, from a place on -/
def accS (s : List UInt32) (base : Nat) (l : List UInt8) : Nat → List UInt32
  | 0 => s
  | i + 1 => (accS s base l i).set (base + i / 4) (add32 (at32 (accS s base l i) (base + i / 4)) (sh8 (at8 l i) (8 * (i % 4))))
theorem accS_length (s : List UInt32) (base : Nat) (l : List UInt8) (i : Nat) : (accS s base l i).length = s.length := by
  induction i with
  | zero => rfl
  | succ i ih => rw [accS, List.length_set, ih]
theorem at32_set_same (l : List UInt32) (i : Nat) (x : UInt32) (hi : i < l.length) : at32 (l.set i x) i = x := by
  rw [at32_set _ _ _ _ hi, if_pos rfl]
theorem le32_sum (l : List UInt8) (m : Nat) : add32 (add32 (add32 (add32 0 (sh8 (at8 l (4 * m)) 0)) (sh8 (at8 l (4 * m + 1)) 8)) (sh8 (at8 l (4 * m + 2)) 16)) (sh8 (at8 l (4 * m + 3)) 24) = le32 l (4 * m) := by
  have h0 := (at8 l (4 * m)).toNat_lt
  have h1 := (at8 l (4 * m + 1)).toNat_lt
  have h2 := (at8 l (4 * m + 2)).toNat_lt
  have h3 := (at8 l (4 * m + 3)).toNat_lt
  apply UInt32.toNat_inj.1
  unfold le32 add32
  simp only [UInt32.toNat_add, sh8_toNat _ (show 0 ≤ 24 by omega), sh8_toNat _ (show 8 ≤ 24 by omega), sh8_toNat _ (show 16 ≤ 24 by omega), sh8_toNat _ (show 24 ≤ 24 by omega), UInt32.toNat_ofNat', UInt32.toNat_zero]
  omega
/-- four bytes more are a word more -/
theorem accS_four (s : List UInt32) (base : Nat) (l : List UInt8) (m : Nat) (hz : at32 (accS s base l (4 * m)) (base + m) = 0) (hl : base + m < s.length) :
    accS s base l (4 * (m + 1)) = (accS s base l (4 * m)).set (base + m) (le32 l (4 * m)) := by
  rw [show 4 * (m + 1) = 4 * m + 1 + 1 + 1 + 1 by omega]
  simp only [accS]
  rw [show (4 * m) / 4 = m by omega, show (4 * m + 1) / 4 = m by omega, show (4 * m + 1 + 1) / 4 = m by omega, show (4 * m + 1 + 1 + 1) / 4 = m by omega,
    show (4 * m) % 4 = 0 by omega, show (4 * m + 1) % 4 = 1 by omega, show (4 * m + 1 + 1) % 4 = 2 by omega, show (4 * m + 1 + 1 + 1) % 4 = 3 by omega]
  have hlen : base + m < (accS s base l (4 * m)).length := by rw [accS_length]; exact hl
  generalize accS s base l (4 * m) = t at *
  rw [at32_set_same _ _ _ (by simpa using hlen), at32_set_same _ _ _ (by simpa using hlen), at32_set_same _ _ _ (by simpa using hlen), hz]
  simp only [List.set_set]
  rw [← le32_sum]
/-- all bytes of k words -/
theorem accS_setW (s : List UInt32) (base : Nat) (l : List UInt8) : ∀ k, base + k ≤ s.length → (∀ j, base ≤ j → j < base + k → at32 s j = 0) → accS s base l (4 * k) = setW s base l k ∧ ∀ j, base + k ≤ j → at32 (setW s base l k) j = at32 s j := by
  intro k
  induction k with
  | zero => intro _ _; exact ⟨rfl, fun _ _ => rfl⟩
  | succ k ih =>
    intro hk hz
    obtain ⟨h1, h2⟩ := ih (by omega) (fun j hj hj2 => hz j hj (by omega))
    refine ⟨?_, fun j hj => ?_⟩
    · rw [accS_four s base l k (by rw [h1, h2 _ (by omega)]; exact hz _ (by omega) (by omega)) (by omega), h1]
      rfl
    · rw [setW, at32_set _ _ _ _ (by rw [setW_length]; omega), if_neg (by omega)]
      exact h2 j (by omega)
end Go.Proofs.YtbicdobnnanlkaaDoor
