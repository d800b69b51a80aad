/-
  What the ties of 'digest.rounds' and 'stream.quarters' give the walks: the tables lie where the program's own variables lie; the witness's heap is the one that the door's own run leaves.
-/
import Derived.Test.YtbicdobnnanlkaaDoorTb
import Derived.Test.YtbicdobnnanlkaaDoorGE
import Derived.Test.YtbicdobnnanlkaaDoorRows
import Derived.ProofKit
import Derived.LaidMore
import Derived.OpenShut
import Derived.Stop.Joined
import Derived.LaidHandle
namespace Go.Proofs.YtbicdobnnanlkaaDoor
open Go.ChangeShapes Go.WideShapes Go.ChangeAt Go.RowKit

theorem own : ownKnob Tryd.prog.godebug = none := by kernel_rfl
theorem laidOut : laidOutB Tryd.prog = true := by kernel_rfl
theorem gRounds : Tryd.prog.globalNamed "bailee/digest.rounds" = some 1 := by kernel_rfl
theorem tRounds : (Tryd.prog.globals[1]?).map (·.type) = some 89 := by kernel_rfl
theorem cellsU32 : Tryd.prog.cellsOf 61 = 1 := by kernel_rfl
theorem cellsK : Tryd.prog.cellsOf 89 = 64 := by kernel_rfl
/-- the rounds' numbers as whole numbers -/
def kInts : List Int := kList.map fun x => (x.toNat : Int)
theorem laid_eq : (Rows.laid_bailee_digest_rounds : DataW Unit) = .agg (kInts.map fun x => .lit (.int .u32 x)) := by kernel_rfl
theorem gQuarters : Tryd.prog.globalNamed "bailee/stream.quarters" = some 0 := by kernel_rfl
theorem tQuarters : (Tryd.prog.globals[0]?).map (·.type) = some 80 := by kernel_rfl
theorem cellsI : Tryd.prog.cellsOf 3 = 1 := by kernel_rfl
theorem cellsQ4 : Tryd.prog.cellsOf 79 = 4 := by kernel_rfl
theorem cellsQ : Tryd.prog.cellsOf 80 = 8 * 4 := by kernel_rfl
/-- the quarters' places as whole numbers -/
def qInts : List (List Int) := (List.range 8).map fun k => [((plK k).1 : Int), ((plK k).2.1 : Int), ((plK k).2.2.1 : Int), ((plK k).2.2.2 : Int)]
theorem laid_eqQ : (Rows.laid_bailee_stream_quarters : DataW Unit) = .agg (qInts.map fun l => .agg (l.map fun x => .lit (.int .i64 x))) := by kernel_rfl

/-- how many steps the door's run takes -/
abbrev doorSteps : Nat := 27
theorem cellsB : Tryd.prog.cellsOf 5 = 1 := by kernel_rfl
theorem cellsS : Tryd.prog.cellsOf 25 = 1 := by kernel_rfl
def laidL : List (String × DataW Unit) := [("bailee/stream.quarters", Rows.laid_bailee_stream_quarters), ("bailee/digest.rounds", Rows.laid_bailee_digest_rounds)]
theorem door_met (os : Os) (args : Array Value) : laidMetH Tryd.prog laidL ((World.doorLaid Tryd.prog doorSteps os).forCall (fun _ _ => 0) ⟨#[], args, []⟩).memory :=
  laidMetH_of_parts3 (fuel := 8) (laidMet_of_run' 8 (by kernel_rfl) (by kernel_rfl)) (by kernel_rfl) (by kernel_rfl)

theorem of_laid {W : World} (h : laidMetH Tryd.prog laidL W) : Tabs W := by
  rw [MakeChecks.laidMetH_plain _ _ _ (by kernel_rfl)] at h
  obtain ⟨ps, ⟨g1, t1, cs1, f1, p1, q1, hg1, ht1, hv1, hd1, ⟨g0, t0, cs0, f0, p0, q0, hg0, ht0, hv0, hd0, _⟩, _⟩, _, _⟩ := h
  obtain rfl := Option.some.inj (gRounds.symm.trans hg0)
  obtain rfl := Option.some.inj (tRounds.symm.trans ht0)
  obtain rfl := Option.some.inj (gQuarters.symm.trans hg1)
  obtain rfl := Option.some.inj (tQuarters.symm.trans ht1)
  rw [laid_eq] at hd0
  rw [laid_eqQ] at hd1
  have hcs := cells_of_array Tryd.underlying89 Tryd.underlying61 cellsU32 cellsK (by kernel_rfl) hd0
  have e : kInts.map (Value.int .u32) = (wvs kList).toList := by
    unfold kInts wvs
    rw [List.map_map]; rfl
  rw [e] at hcs
  have hcs2 : cs0 = wvs kList := Array.toList_inj.1 hcs
  subst hcs2
  have hcq := cells_of_array2 Tryd.underlying80 Tryd.underlying79 Tryd.underlying3 cellsI cellsQ4 cellsQ (by kernel_rfl) (by decide) hd1
  have eq : (qInts.flatMap fun l => l.map (Value.int .i64)) = plAll.toList := by kernel_rfl
  rw [eq] at hcq
  have hcq2 : cs1 = plAll := Array.toList_inj.1 hcq
  subst hcq2
  simp only [World.var?, hg0, Option.bind_some] at hv0
  simp only [World.var?, hg1, Option.bind_some] at hv1
  split at hv0
  · rename_i cs t fr hh
    injection hv0 with hv0
    subst hv0
    split at hv1
    · rename_i cs' t' fr' hh'
      injection hv1 with hv1
      subst hv1
      exact ⟨⟨t, fr, hh⟩, ⟨t', fr', hh'⟩, by have := (Array.getElem?_eq_some_iff.1 hh).1; omega, by have := (Array.getElem?_eq_some_iff.1 hh').1; omega⟩
    · cases hv1
  · cases hv0
end Go.Proofs.YtbicdobnnanlkaaDoor
