/-
  What the tie of 'stream.quarters' gives the walks: the table lies where the program's own variable lies; the witness's heap is the one that the door's own run leaves.
-/
import Derived.Test.YtomfpffooaejoaaDoorSt5
import Derived.Test.YtomfpffooaejoaaDoorLdG
import Derived.Test.YtomfpffooaejoaaDoorRows
import Derived.ProofKit
import Derived.LaidMore
import Derived.OpenShut
import Derived.Stop.Joined
import Derived.LaidHandle
namespace Go.Proofs.YtomfpffooaejoaaDoor
open Go.ChangeShapes Go.WideShapes Go.ChangeAt Go.RowKit

theorem own : ownKnob Tryd.prog.godebug = none := by kernel_rfl
theorem laidOut : laidOutB Tryd.prog = true := by kernel_rfl
theorem gQuarters : Tryd.prog.globalNamed "bailee/stream.quarters" = some 0 := by kernel_rfl
theorem tQuarters : (Tryd.prog.globals[0]?).map (·.type) = some 42 := by kernel_rfl
theorem cellsI : Tryd.prog.cellsOf 3 = 1 := by kernel_rfl
theorem cellsQ4 : Tryd.prog.cellsOf 41 = 4 := by kernel_rfl
theorem cellsQ : Tryd.prog.cellsOf 42 = 8 * 4 := by kernel_rfl
/-- the quarters' places as whole numbers -/
def qInts : List (List Int) := (List.range 8).map fun k => [((plK k).1 : Int), ((plK k).2.1 : Int), ((plK k).2.2.1 : Int), ((plK k).2.2.2 : Int)]
theorem laid_eqQ : (Rows.laid_bailee_stream_quarters : DataW Unit) = .agg (qInts.map fun l => .agg (l.map fun x => .lit (.int .i64 x))) := by kernel_rfl

/-- how many steps the door's run takes -/
abbrev doorSteps : Nat := 14
theorem cellsB : Tryd.prog.cellsOf 5 = 1 := by kernel_rfl
theorem cellsS : Tryd.prog.cellsOf 30 = 1 := by kernel_rfl
def laidL : List (String × DataW Unit) := [("bailee/stream.quarters", Rows.laid_bailee_stream_quarters)]
theorem door_met (os : Os) (args : Array Value) : laidMetH Tryd.prog laidL ((World.doorLaid Tryd.prog doorSteps os).forCall (fun _ _ => 0) ⟨#[], args, []⟩).memory :=
  laidMetH_of_parts3 (fuel := 8) (laidMet_of_run' 8 (by kernel_rfl) (by kernel_rfl)) (by kernel_rfl) (by kernel_rfl)

theorem of_laid {W : World} (h : laidMetH Tryd.prog laidL W) : TabQ W ∧ 0 < W.heap.size := by
  rw [MakeChecks.laidMetH_plain _ _ _ (by kernel_rfl)] at h
  obtain ⟨ps, ⟨g0, t0, cs0, f0, p0, q0, hg0, ht0, hv0, hd0, _⟩, _, _⟩ := h
  obtain rfl := Option.some.inj (gQuarters.symm.trans hg0)
  obtain rfl := Option.some.inj (tQuarters.symm.trans ht0)
  rw [laid_eqQ] at hd0
  have hcs := cells_of_array2 Tryd.underlying42 Tryd.underlying41 Tryd.underlying3 cellsI cellsQ4 cellsQ (by kernel_rfl) (by decide) hd0
  have e : (qInts.flatMap fun l => l.map (Value.int .i64)) = plAll.toList := by kernel_rfl
  rw [e] at hcs
  have hcs2 : cs0 = plAll := Array.toList_inj.1 hcs
  subst hcs2
  simp only [World.var?, hg0, Option.bind_some] at hv0
  split at hv0
  · rename_i cs t fr hh
    injection hv0 with hv0
    subst hv0
    exact ⟨⟨t, fr, hh⟩, by have := (Array.getElem?_eq_some_iff.1 hh).1; omega⟩
  · cases hv0
end Go.Proofs.YtomfpffooaejoaaDoor
