/-
  What a key says of bytes, in plain Lean. No program is named here.
-/
import Derived.Test.YtjgleonbkipidaaDoorSha
namespace Go.Proofs.YtjgleonbkipidaaDoor

/-- a key's 64 bytes, each laid over by one -/
def padK (key : List UInt8) (x : UInt8) : List UInt8 := (List.range 64).map fun i => key.getD i 0 ^^^ x
theorem padK_length (key : List UInt8) (x : UInt8) : (padK key x).length = 64 := by simp [padK]
/-- what a key says -/
def macF (key m : List UInt8) : List UInt8 := sha (padK key 92 ++ sha (padK key 54 ++ m))
theorem macF_length (key m : List UInt8) : (macF key m).length = 32 := sha_length _
/-- a number's eight bytes, the lowest first -/
def le8 (n : Nat) : List UInt8 := (List.range 8).map fun i => UInt8.ofNat (n / 256 ^ i)
theorem le8_length (n : Nat) : (le8 n).length = 8 := by simp [le8]
theorem le8_take (n : Nat) {k : Nat} (h : k < 8) : (le8 n).take (k + 1) = (le8 n).take k ++ [UInt8.ofNat (n / 256 ^ k)] := by
  rw [List.take_add_one]
  simp [le8, h]
/-- the key of a name and a number -/
def derF (key name : List UInt8) (n : Nat) : List UInt8 := macF key (name ++ [0] ++ le8 n)
theorem derF_length (key name : List UInt8) (n : Nat) : (derF key name n).length = 32 := sha_length _

/-- the first k bytes of a pad are laid over, the key's bytes and noughts stand behind -/
def padF (key : List UInt8) (x : UInt8) (k : Nat) : List UInt8 := (List.range 64).map fun i => if i < k then key.getD i 0 ^^^ x else key.getD i 0
theorem padF_length (key : List UInt8) (x : UInt8) (k : Nat) : (padF key x k).length = 64 := by simp [padF]
theorem padF_all (key : List UInt8) (x : UInt8) : padF key x 64 = padK key x := by
  apply List.map_congr_left
  intro i hi
  have hi : i < 64 := by simpa using hi
  rw [if_pos hi]
theorem padF_zero (key : List UInt8) (x : UInt8) (h : key.length = 32) : padF key x 0 = key ++ List.replicate 32 0 := by
  apply List.ext_getElem (by simp [padF, h])
  intro i h1 h2
  simp only [padF, List.getElem_map, List.getElem_range, Nat.not_lt_zero, if_false]
  rw [List.getElem_append]
  split
  · rename_i hi; simp [List.getD, hi]
  · rename_i hi; rw [List.getElem_replicate]; simp [List.getD, hi]
theorem padF_set (key : List UInt8) (x : UInt8) {k : Nat} (h : k < 64) : (padF key x k).set k (key.getD k 0 ^^^ x) = padF key x (k + 1) := by
  apply List.ext_getElem?
  intro j
  rw [List.getElem?_set]
  simp only [padF, List.length_map, List.length_range, List.getElem?_map]
  by_cases h1 : k = j
  · subst h1; simp [h]
  · by_cases h2 : j < 64
    · rw [if_neg h1]
      simp only [h2, List.getElem?_range, Option.map_some]
      by_cases h3 : j < k
      · rw [if_pos h3, if_pos (by omega)]
      · rw [if_neg h3, if_neg (by omega)]
    · rw [if_neg h1]
      simp [h2]
theorem padF_at (key : List UInt8) (x : UInt8) {k : Nat} (h : k < 64) : (padF key x k).getD k 0 = key.getD k 0 := by
  simp [padF, List.getD, h]
end Go.Proofs.YtjgleonbkipidaaDoor
