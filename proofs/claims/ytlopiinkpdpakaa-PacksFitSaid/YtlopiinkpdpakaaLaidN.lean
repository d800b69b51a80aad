/-
  Facts that the rows of a seat without variables share.
-/
import Derived.Test.YtlopiinkpdpakaaGC
import Derived.Test.YtlopiinkpdpakaaRows
import Derived.ProofKit
import Derived.OpenShut
namespace Go.Proofs.Ytlopiinkpdpakaa
open Go.ChangeShapes Go.WideShapes Go.ChangeAt Go.RowKit

theorem own : ownKnob Try.prog.godebug = none := by kernel_rfl
theorem laidOut : laidOutB Try.prog = true := by kernel_rfl
theorem cellsB : Try.prog.cellsOf 5 = 1 := by kernel_rfl
theorem cellsS : Try.prog.cellsOf 22 = 1 := by kernel_rfl
theorem cellsI : Try.prog.cellsOf 3 = 1 := by kernel_rfl
end Go.Proofs.Ytlopiinkpdpakaa
