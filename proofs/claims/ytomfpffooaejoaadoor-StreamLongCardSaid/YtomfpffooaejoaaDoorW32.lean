/-
  Numbers of 32 bits, rows of them, and turns of their bits, as a walk meets them. No program is named here.
-/
import Derived.Test.YtomfpffooaejoaaDoorMem
import Derived.Test.YtomfpffooaejoaaDoorSha
import Derived.Deep.RegionHeld3
import Derived.BigRegion
import Derived.StillTailTactics
namespace Go.Proofs.YtomfpffooaejoaaDoor
open Go Go.RowKit

theorem add32_rule (a b : UInt32) : IntKind.u32.wrap ((a.toNat : Int) + (b.toNat : Int)) = ((add32 a b).toNat : Int) := by
  unfold add32
  rw [UInt32.toNat_add, IntKind.wrap_u32']
  omega
theorem xor32_rule (a b : UInt32) : bits .xor .u32 (a.toNat : Int) (b.toNat : Int) = ((xor32 a b).toNat : Int) := by
  rw [u32_xor_nat _ _ a.toNat_lt b.toNat_lt]; unfold xor32; rw [UInt32.toNat_xor]
theorem and32_rule (a b : UInt32) : bits .and .u32 (a.toNat : Int) (b.toNat : Int) = ((and32 a b).toNat : Int) := by
  rw [u32_and_nat _ _ a.toNat_lt b.toNat_lt]; unfold and32; rw [UInt32.toNat_and]
theorem or32_rule (a b : UInt32) : bits .or .u32 (a.toNat : Int) (b.toNat : Int) = ((or32 a b).toNat : Int) := by
  rw [u32_or_nat _ _ a.toNat_lt b.toNat_lt]; unfold or32; rw [UInt32.toNat_or]
theorem shr3_rule (x : UInt32) : (x.toNat : Int) / 8 = ((shr32 x 3).toNat : Int) := by
  unfold shr32
  have := x.toNat_lt
  rw [UInt32.toNat_ofNat', show (2 : Nat) ^ 3 = 8 from rfl, Nat.mod_eq_of_lt (by omega)]
  omega
theorem shr10_rule (x : UInt32) : (x.toNat : Int) / 1024 = ((shr32 x 10).toNat : Int) := by
  unfold shr32
  have := x.toNat_lt
  rw [UInt32.toNat_ofNat', show (2 : Nat) ^ 10 = 1024 from rfl, Nat.mod_eq_of_lt (by omega)]
  omega
attribute [go_sem] shr3_rule shr10_rule
attribute [go_sem] add32_rule xor32_rule and32_rule or32_rule

theorem neg_and (n : Nat) (h0 : 0 < n) (hn : n < 32) : bits .and .u64 (IntKind.u64.wrap (-(n : Int))) 31 = ((32 - n : Nat) : Int) := by
  have e : IntKind.u64.wrap (-(n : Int)) = ((18446744073709551616 - n : Nat) : Int) := by rw [IntKind.wrap_u64]; omega
  rw [e]
  have h := u64_and_nat (18446744073709551616 - n) 31 (by omega) (by omega)
  rw [show ((31 : Nat) : Int) = 31 from rfl] at h
  rw [h]
  have h2 := Nat.and_two_pow_sub_one_eq_mod (18446744073709551616 - n) 5
  rw [show (2 ^ 5 - 1 : Nat) = 31 from rfl, show (2 ^ 5 : Nat) = 32 from rfl] at h2
  rw [h2]
  omega
theorem rotl_value (x : UInt32) (n : Nat) (h0 : 0 < n) (hn : n < 32) : bits .or .u32 (IntKind.u32.wrap ((x.toNat : Int) * 2 ^ (32 - n))) ((x.toNat : Int) / 2 ^ n) = ((rotr x n).toNat : Int) := by
  rw [rotr_toNat x (by omega)]
  have e1 : IntKind.u32.wrap ((x.toNat : Int) * 2 ^ (32 - n)) = ((x.toNat % 2 ^ n * 2 ^ (32 - n) : Nat) : Int) := by
    have h1 : ((x.toNat : Int) * 2 ^ (32 - n)) = ((x.toNat * 2 ^ (32 - n) : Nat) : Int) := by simp
    have h2 : x.toNat * 2 ^ (32 - n) % 4294967296 = x.toNat % 2 ^ n * 2 ^ (32 - n) := by
      have h3 : (4294967296 : Nat) = 2 ^ n * 2 ^ (32 - n) := by rw [← Nat.pow_add, Nat.add_sub_cancel' (by omega)]
      rw [h3, Nat.mul_mod_mul_right]
    rw [h1, IntKind.wrap_u32', ← h2]
    omega
  have e2 : ((x.toNat : Int) / 2 ^ n) = ((x.toNat / 2 ^ n : Nat) : Int) := by simp
  have b1 := rotr_lt x (n := n) (by omega)
  rw [e1, e2, u32_or_nat _ _ (Nat.lt_of_le_of_lt (Nat.le_add_left _ _) b1) (Nat.lt_of_le_of_lt (Nat.le_add_right _ _) b1)]
  have hlt : x.toNat / 2 ^ n < 2 ^ (32 - n) := by
    rw [Nat.div_lt_iff_lt_mul (Nat.pow_pos (by omega)), ← Nat.pow_add, Nat.sub_add_cancel (by omega)]
    exact x.toNat_lt
  have h4 := Nat.shiftLeft_add_eq_or_of_lt hlt (x.toNat % 2 ^ n)
  rw [Nat.shiftLeft_eq] at h4
  rw [← h4, Nat.add_comm]

/-- a word as a cell -/
def wv (x : UInt32) : Value := .int .u32 x.toNat
/-- the i-th word of a row -/
def at32 (l : List UInt32) (i : Nat) : UInt32 := l.getD i 0
/-- a row of words as an array's cells -/
def wvs (l : List UInt32) : Array Value := (l.map wv).toArray
theorem wvs_size (l : List UInt32) : (wvs l).size = l.length := by simp [wvs]
theorem wvs_at (l : List UInt32) {i : Nat} (h : i < l.length) : (wvs l)[i]? = some (.int .u32 (at32 l i).toNat) := by
  simp [wvs, at32, wv, List.getD, h]
theorem wvs_set (l : List UInt32) (i : Nat) (x : UInt32) : (wvs l).setIfInBounds i (.int .u32 x.toNat) = wvs (l.set i x) := by
  simp [wvs, wv, List.map_set]
theorem Blk.word {w : World} {g : Nat} {t : TypeId} {l : List UInt32} (h : Blk w g t (wvs l)) {i : Nat} (hi : i < l.length) : w.cell? ⟨g, i, none⟩ = some (.int .u32 (at32 l i).toNat) := (h.cell i).trans (wvs_at l hi)
theorem Blk.word_store {w : World} {g : Nat} {t : TypeId} {l : List UInt32} (h : Blk w g t (wvs l)) (i : Nat) (x : UInt32) : Blk (w.setCell ⟨g, i, none⟩ (.int .u32 x.toNat)) g t (wvs (l.set i x)) := by
  have := h.store i (.int .u32 x.toNat)
  rwa [wvs_set] at this
theorem at32_set (l : List UInt32) (i j : Nat) (x : UInt32) (hi : i < l.length) : at32 (l.set i x) j = if i = j then x else at32 l j := by
  unfold at32
  rw [List.getD_eq_getElem?_getD, List.getD_eq_getElem?_getD, List.getElem?_set]
  split
  · first | rfl | (rw [if_pos (by omega)]; rfl)
  · rfl

end Go.Proofs.YtomfpffooaejoaaDoor
