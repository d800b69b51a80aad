/-
  Given blobs at given bytes, by the kernel's own count. No program is named here.
-/
import Derived.Test.YtbicdobnnanlkaaDoorGA
namespace Go.Proofs.YtbicdobnnanlkaaDoor
def key3 : List UInt8 := [3, 0, 0, 0, 0, 0, 0, 0, 0, 0, 0, 0, 0, 0, 0, 0, 0, 0, 0, 0, 0, 0, 0, 0, 0, 0, 0, 0, 0, 0, 0, 0]
def key4 : List UInt8 := [4, 0, 0, 0, 0, 0, 0, 0, 0, 0, 0, 0, 0, 0, 0, 0, 0, 0, 0, 0, 0, 0, 0, 0, 0, 0, 0, 0, 0, 0, 0, 0]
theorem name_3 : (nameS key3 [] == List.replicate 32 0) = false := by decide +kernel
theorem ok_4 : okS key4 (sealS key3 2 5 [97, 98, 99]) = false := by decide +kernel
theorem open_4 : openS key4 (sealS key3 2 5 [97, 98, 99]) = ([], 0, 0, 20) := by
  unfold openS
  rw [if_neg (by rw [sealS_length]; simp), if_neg (by rw [ok_4]; simp)]
end Go.Proofs.YtbicdobnnanlkaaDoor
