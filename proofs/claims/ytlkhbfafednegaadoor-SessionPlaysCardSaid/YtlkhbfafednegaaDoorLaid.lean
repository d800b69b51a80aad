/-
  What the tie of 'digest.rounds' gives the walks: the table lies where the program's own variable lies; the witness's heap is the one that the door's own run leaves.
-/
import Derived.Test.YtlkhbfafednegaaDoorGF
import Derived.Test.YtlkhbfafednegaaDoorLdG
import Derived.Test.YtlkhbfafednegaaDoorRows
import Derived.ProofKit
import Derived.LaidMore
import Derived.OpenShut
import Derived.Stop.Joined
import Derived.LaidHandle
namespace Go.Proofs.YtlkhbfafednegaaDoor
open Go.ChangeShapes Go.WideShapes Go.ChangeAt Go.RowKit

theorem own : ownKnob Tryd.prog.godebug = none := by kernel_rfl
theorem laidOut : laidOutB Tryd.prog = true := by kernel_rfl
theorem gRounds : Tryd.prog.globalNamed "bailee/digest.rounds" = some 0 := by kernel_rfl
theorem tRounds : (Tryd.prog.globals[0]?).map (·.type) = some 103 := by kernel_rfl
theorem cellsU32 : Tryd.prog.cellsOf 101 = 1 := by kernel_rfl
theorem cellsK : Tryd.prog.cellsOf 103 = 64 := by kernel_rfl
/-- the rounds' numbers as whole numbers -/
def kInts : List Int := kList.map fun x => (x.toNat : Int)
theorem laid_eq : (Rows.laid_bailee_digest_rounds : DataW Unit) = .agg (kInts.map fun x => .lit (.int .u32 x)) := by kernel_rfl

/-- how many steps the door's run takes -/
abbrev doorSteps : Nat := 14
theorem cellsB : Tryd.prog.cellsOf 5 = 1 := by kernel_rfl
theorem cellsS : Tryd.prog.cellsOf 24 = 1 := by kernel_rfl
def laidL : List (String × DataW Unit) := [("bailee/digest.rounds", Rows.laid_bailee_digest_rounds)]
theorem door_met (os : Os) (args : Array Value) : laidMetH Tryd.prog laidL ((World.doorLaid Tryd.prog doorSteps os).forCall (fun _ _ => 0) ⟨#[], args, []⟩).memory :=
  laidMetH_of_parts3 (fuel := 8) (laidMet_of_run' 8 (by kernel_rfl) (by kernel_rfl)) (by kernel_rfl) (by kernel_rfl)

theorem of_laid {W : World} (h : laidMetH Tryd.prog laidL W) : Tab W ∧ 0 < W.heap.size := by
  rw [MakeChecks.laidMetH_plain _ _ _ (by kernel_rfl)] at h
  obtain ⟨ps, ⟨g0, t0, cs0, f0, p0, q0, hg0, ht0, hv0, hd0, _⟩, _, _⟩ := h
  obtain rfl := Option.some.inj (gRounds.symm.trans hg0)
  obtain rfl := Option.some.inj (tRounds.symm.trans ht0)
  rw [laid_eq] at hd0
  have hcs := cells_of_array Tryd.underlying103 Tryd.underlying101 cellsU32 cellsK (by kernel_rfl) hd0
  have e : kInts.map (Value.int .u32) = (wvs kList).toList := by
    unfold kInts wvs
    rw [List.map_map]; rfl
  rw [e] at hcs
  have hcs2 : cs0 = wvs kList := Array.toList_inj.1 hcs
  subst hcs2
  simp only [World.var?, hg0, Option.bind_some] at hv0
  split at hv0
  · rename_i cs t fr hh
    injection hv0 with hv0
    subst hv0
    exact ⟨⟨t, fr, hh⟩, by have := (Array.getElem?_eq_some_iff.1 hh).1; omega⟩
  · cases hv0
end Go.Proofs.YtlkhbfafednegaaDoor
