/-
  The plain laws for the walk of 'take': the ring's words, bytes into words.
-/
import Derived.Test.YtbicdobnnanlkaaDoorDg4
namespace Go.Proofs.YtbicdobnnanlkaaDoor
open Go Go.RowKit

def u8v (c : UInt8) : Value := .int .u8 c.toNat
/-- a byte more of a word -/
def bw (x : UInt32) (c : UInt8) : UInt32 := UInt32.ofNat (x.toNat * 256 + c.toNat)
/-- the first j bytes of the k-th word -/
def pw (b : List UInt8) (k : Nat) : Nat → UInt32
  | 0 => 0
  | j + 1 => bw (pw b k j) (byteAt b (4 * k + j))
theorem pw_four (b : List UInt8) (k : Nat) : pw b k 4 = beW b k := by
  have h0 := (byteAt b (4 * k)).toNat_lt
  have h1 := (byteAt b (4 * k + 1)).toNat_lt
  have h2 := (byteAt b (4 * k + 2)).toNat_lt
  have h3 := (byteAt b (4 * k + 3)).toNat_lt
  apply UInt32.toNat_inj.1
  simp only [pw, bw, beW, Nat.add_zero, UInt32.toNat_ofNat', UInt32.toNat_zero]
  omega
theorem bw_int (x : UInt32) (c : UInt8) : bits .or .u32 (IntKind.u32.wrap ((x.toNat : Int) * 256)) (c.toNat : Int) = ((bw x c).toNat : Int) := by
  have hc := c.toNat_lt
  have e : IntKind.u32.wrap ((x.toNat : Int) * 256) = ((x.toNat % 16777216 * 256 : Nat) : Int) := by rw [IntKind.wrap_u32']; omega
  rw [e, u32_or_nat _ _ (by omega) (by omega)]
  have h := Nat.shiftLeft_add_eq_or_of_lt (b := c.toNat) (i := 8) (by omega) (x.toNat % 16777216)
  rw [Nat.shiftLeft_eq, show (2 : Nat) ^ 8 = 256 from rfl] at h
  rw [← h]
  unfold bw
  rw [UInt32.toNat_ofNat']
  omega

/-- the ring while it is filled -/
def ringFill (b : List UInt8) (k : Nat) : List UInt32 := (List.range 16).map fun j => if j < k then beW b j else 0
theorem ringFill_length (b : List UInt8) (k : Nat) : (ringFill b k).length = 16 := by simp [ringFill]
theorem ringFill_at (b : List UInt8) {k : Nat} (h : k < 16) : at32 (ringFill b k) k = 0 := by
  simp [at32, ringFill, List.getD, h]
theorem ringFill_set (b : List UInt8) {k : Nat} (h : k < 16) : (ringFill b k).set k (beW b k) = ringFill b (k + 1) := by
  apply List.ext_getElem?
  intro j
  rw [List.getElem?_set]
  simp only [ringFill, List.length_map, List.length_range, List.getElem?_map]
  by_cases h1 : k = j
  · subst h1; simp [h]
  · by_cases h2 : j < 16
    · rw [if_neg h1]
      simp only [h2, List.getElem?_range, Option.map_some]
      by_cases h3 : j < k
      · rw [if_pos h3, if_pos (by omega)]
      · rw [if_neg h3, if_neg (by omega)]
    · rw [if_neg h1]
      simp [h2]

/-- which word lies at place j of the ring ahead of round i -/
def idx (i j : Nat) : Nat := max i 16 - 1 - (max i 16 - 1 - j) % 16
/-- the ring ahead of round i -/
def ringAt (b : List UInt8) (i : Nat) : List UInt32 := (List.range 16).map fun j => wd b (idx i j)
theorem ringAt_length (b : List UInt8) (i : Nat) : (ringAt b i).length = 16 := by simp [ringAt]
theorem ringAt_at (b : List UInt8) (i : Nat) {j : Nat} (h : j < 16) : at32 (ringAt b i) j = wd b (idx i j) := by
  simp [at32, ringAt, List.getD, h]
theorem ringFill_full (b : List UInt8) : ringFill b 16 = ringAt b 0 := by
  apply List.map_congr_left
  intro j hj
  have hj : j < 16 := by simpa using hj
  have : idx 0 j = j := by unfold idx; omega
  rw [if_pos hj, this, wd_low b hj]
theorem ringAt_low (b : List UInt8) {i : Nat} (h : i < 16) : at32 (ringAt b i) (i % 16) = wd b i := by
  rw [ringAt_at b i (by omega), show idx i (i % 16) = i by unfold idx; omega]
theorem ringAt_step (b : List UInt8) {i : Nat} (h : i < 16) : ringAt b (i + 1) = ringAt b i := by
  apply List.map_congr_left
  intro j hj
  rw [show idx (i + 1) j = idx i j by unfold idx; omega]
theorem ringNext_eq (b : List UInt8) {i : Nat} (h : 16 ≤ i) : ringNext (ringAt b i) i = wd b i := by
  unfold ringNext
  rw [ringAt_at b i (by omega), ringAt_at b i (by omega), ringAt_at b i (by omega), ringAt_at b i (by omega)]
  rw [show idx i (i % 16) = i - 16 by unfold idx; omega, show idx i ((i + 1) % 16) = i - 15 by unfold idx; omega, show idx i ((i + 9) % 16) = i - 7 by unfold idx; omega, show idx i ((i + 14) % 16) = i - 2 by unfold idx; omega]
  rw [wd_high b h]
  unfold add32
  simp only [UInt32.add_assoc]
theorem ringAt_set (b : List UInt8) {i : Nat} (h : 16 ≤ i) : (ringAt b i).set (i % 16) (wd b i) = ringAt b (i + 1) := by
  apply List.ext_getElem?
  intro j
  rw [List.getElem?_set]
  simp only [ringAt, List.length_map, List.length_range, List.getElem?_map]
  by_cases h1 : i % 16 = j
  · subst h1
    have hj : i % 16 < 16 := by omega
    simp only [hj, if_true, List.getElem?_range, Option.map_some]
    rw [show idx (i + 1) (i % 16) = i by unfold idx; omega]
  · by_cases h2 : j < 16
    · rw [if_neg h1]
      simp only [h2, List.getElem?_range, Option.map_some]
      rw [show idx (i + 1) j = idx i j by unfold idx; omega]
    · rw [if_neg h1]
      simp [h2]

/-- the numbers while the rounds' are added to them -/
def addFill (s v : List UInt32) (i : Nat) : List UInt32 := (List.range 8).map fun j => if j < i then add32 (at32 s j) (at32 v j) else at32 s j
theorem addFill_length (s v : List UInt32) (i : Nat) : (addFill s v i).length = 8 := by simp [addFill]
theorem addFill_at (s v : List UInt32) {i : Nat} (h : i < 8) : at32 (addFill s v i) i = at32 s i := by
  simp [addFill, at32, List.getD, h]
theorem addFill_set (s v : List UInt32) {i : Nat} (h : i < 8) : (addFill s v i).set i (add32 (at32 s i) (at32 v i)) = addFill s v (i + 1) := by
  apply List.ext_getElem?
  intro j
  rw [List.getElem?_set]
  simp only [addFill, List.length_map, List.length_range, List.getElem?_map]
  by_cases h1 : i = j
  · subst h1; simp [h]
  · by_cases h2 : j < 8
    · rw [if_neg h1]
      simp only [h2, List.getElem?_range, Option.map_some]
      by_cases h3 : j < i
      · rw [if_pos h3, if_pos (by omega)]
      · rw [if_neg h3, if_neg (by omega)]
    · rw [if_neg h1]
      simp [h2]
theorem addFill_zero {s : List UInt32} (hs : s.length = 8) (v : List UInt32) : addFill s v 0 = s := by
  obtain ⟨a, b, c, d, e, f, g, k, rfl⟩ := eight hs
  rfl
theorem addFill_all (s : List UInt32) (b : List UInt8) : addFill s (rnds b s 64) 8 = comp s b := by
  apply List.map_congr_left
  intro j hj
  have hj : j < 8 := by simpa using hj
  rw [if_pos hj]; rfl

theorem kList_length : kList.length = 64 := by decide
theorem step_eq (a b c d e f g k K W : UInt32) : step [a, b, c, d, e, f, g, k] K W = [add32 (t1F e f g k K W) (t2F a b c), a, b, c, add32 d (t1F e f g k K W), e, f, g] := rfl
end Go.Proofs.YtbicdobnnanlkaaDoor
