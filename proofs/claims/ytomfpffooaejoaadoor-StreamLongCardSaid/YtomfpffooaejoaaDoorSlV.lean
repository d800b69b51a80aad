/-
  Given streams at given bytes, by the kernel's own count. No program is named here.
-/
import Derived.Test.YtomfpffooaejoaaDoorStP
namespace Go.Proofs.YtomfpffooaejoaaDoor
def skey1 : List UInt8 := [1, 0, 0, 0, 0, 0, 0, 0, 0, 0, 0, 0, 0, 0, 0, 0, 0, 0, 0, 0, 0, 0, 0, 0, 0, 0, 0, 0, 0, 0, 0, 0]
def snon2 : List UInt8 := [2, 0, 0, 0, 0, 0, 0, 0, 0, 0, 0, 0]
def skey0 : List UInt8 := [0, 0, 0, 0, 0, 0, 0, 0, 0, 0, 0, 0, 0, 0, 0, 0, 0, 0, 0, 0, 0, 0, 0, 0, 0, 0, 0, 0, 0, 0, 0, 0]
def snon0 : List UInt8 := [0, 0, 0, 0, 0, 0, 0, 0, 0, 0, 0, 0]
theorem over_abc : (overS skey1 snon2 [97, 98, 99] == [97, 98, 99]) = false := by decide +kernel
theorem part_00 : at8 (partS skey0 snon0 0) 0 = 118 ∧ at8 (partS skey0 snon0 0) 1 = 184 ∧ at8 (partS skey0 snon0 0) 63 = 134 := by decide +kernel
end Go.Proofs.YtomfpffooaejoaaDoor
