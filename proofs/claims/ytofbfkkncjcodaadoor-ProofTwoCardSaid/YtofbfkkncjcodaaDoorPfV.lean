/-
  The document's example of a proof, by the kernel's own count. No program is named here.
-/
import Derived.Test.YtofbfkkncjcodaaDoorPfQ
namespace Go.Proofs.YtofbfkkncjcodaaDoor
def z64 : List UInt8 := List.replicate 64 0
def z65 : List UInt8 := List.replicate 65 0
theorem nl_z65 : nlF z65.length = 2 := by decide
theorem leafs_z65 : leafF z65 0 = z64 ∧ leafF z65 1 = [0] := by decide
theorem row_z65 : rowF z65 = [leafD z64, leafD [0]] := by
  have h : leafsF z65 = [z64, [0]] := by decide
  rw [rowF, h]; rfl
theorem way_z65 : wayF (rowF z65) 1 = [leafD z64] := by
  rw [row_z65, wayF_more (by simp), wayF_end (by simp [aboveF])]
  have h : besideF [leafD z64, leafD [0]].length 1 = true := by decide
  rw [if_pos h]; rfl
theorem top_z65 : topF (rowF z65) = nodeD (leafD z64) (leafD [0]) := by
  rw [row_z65, topF_more (by simp)]
  exact topF_one _
theorem crowns : (crownD 2 (nodeD (leafD [0]) (leafD z64)) == crownD 2 (nodeD (leafD z64) (leafD [0]))) = false := by decide +kernel
theorem check_z65 : checkF (rootF z65) 2 0 [0] (wayF (rowF z65) 1) = 21 := by
  have hs : stepsF 2 0 = [(0, true)] := by
    rw [stepsF_more (by decide), stepsF_end (by decide)]
    decide
  have hr : rootF z65 = crownD 2 (nodeD (leafD z64) (leafD [0])) := by rw [rootF, nl_z65, top_z65]
  have h1 : ¬ ((2 : Int) < 1 ∨ (0 : Int) < 0 ∨ (2 : Int) ≤ 0) := by decide
  have h2 : ¬ 64 < ([0] : List UInt8).length := by decide
  rw [checkF, if_neg h1, if_neg h2, way_z65, hr, show ((2 : Int).toNat) = 2 from rfl, show ((0 : Int).toNat) = 0 from rfl, hs]
  have hc : climbF [(0, true)] (leafD [0]) [leafD z64] = some ([nodeP (leafD [0]) (leafD z64)], nodeD (leafD [0]) (leafD z64), []) := rfl
  rw [hc]
  have h3 := crowns
  rw [beq_eq_false_iff_ne] at h3
  show (if ([] : List Dig) = [] ∧ _ then 0 else 21) = 21
  rw [if_neg (fun h => h3 h.2)]
theorem prove_z65 : proveF z65 1 = ([0], [leafD z64], 0) := by
  have h1 : ¬ ((1 : Int) < 0 ∨ (nlF z65.length : Int) ≤ 1) := by rw [nl_z65]; decide
  rw [proveF, if_neg h1, show ((1 : Int).toNat) = 1 from rfl, way_z65, leafs_z65.2]
end Go.Proofs.YtofbfkkncjcodaaDoor
