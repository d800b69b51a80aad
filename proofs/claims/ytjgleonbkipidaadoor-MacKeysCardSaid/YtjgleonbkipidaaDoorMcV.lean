/-
  What a given key says of given bytes, by the kernel's own count. No program is named here.
-/
import Derived.Test.YtjgleonbkipidaaDoorMcP
namespace Go.Proofs.YtjgleonbkipidaaDoor
/-- the key whose first byte is 1 -/
def key1 : List UInt8 := [1, 0, 0, 0, 0, 0, 0, 0, 0, 0, 0, 0, 0, 0, 0, 0, 0, 0, 0, 0, 0, 0, 0, 0, 0, 0, 0, 0, 0, 0, 0, 0]
theorem mac_ab : (macF key1 [97, 98] == List.replicate 32 0) = false := by decide +kernel
theorem der_12 : (derF key1 [97] 1 == derF key1 [97] 2) = false := by decide +kernel
end Go.Proofs.YtjgleonbkipidaaDoor
