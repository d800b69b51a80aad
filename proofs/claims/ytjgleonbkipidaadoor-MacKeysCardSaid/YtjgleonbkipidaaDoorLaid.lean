/-
  What the tie of 'digest.rounds' gives the walks: the table lies where the program's own variable lies; the witness's heap is the one that the door's own run leaves.
-/
import Derived.Test.YtjgleonbkipidaaDoorDg6
import Derived.Test.YtjgleonbkipidaaDoorRows
import Derived.ProofKit
import Derived.LaidMore
import Derived.OpenShut
import Derived.Stop.Joined
import Derived.LaidHandle
namespace Go.Proofs.YtjgleonbkipidaaDoor
open Go.ChangeShapes Go.WideShapes Go.ChangeAt Go.RowKit

/-- an array of numbers reads as its cells -/
theorem cells_of_array {H : Type} {enc : TypeId × Value → H} {P : Program} {w : World} {base : Nat} {spare : Nat → Bool} {held : Bool} {fuel n : Nat} {t e : TypeId} {k : IntKind} {cs : List Value} {l : List Int} {ps : List MemPlace}
    (ht : P.underlying t = some (.array n e)) (he : P.underlying e = some (.int k)) (hc : P.cellsOf e = 1) (hn : P.cellsOf t = n) (hl : l.length = n)
    (h : DataW.trod enc P w base spare held fuel t cs = some (.agg (l.map fun x => .lit (.int k x)), ps)) : cs = l.map (Value.int k) := by
  obtain ⟨xs, m, rfl, hx, hlen, hxn, hel⟩ := DataW.trod_array ht h
  simp only [Prod.mk.injEq, DataW.agg.injEq] at hx
  apply List.ext_getElem (by simp; omega)
  intro i h1 h2
  have hi : i < n := by omega
  have h3 := hel i hi
  rw [hc, Nat.mul_one] at h3
  have hxi : i < xs.length := by omega
  rw [List.getElem?_eq_getElem hxi] at h3
  obtain ⟨q, e1, e2, _⟩ := DataW.trod_int he h3
  have h4 : (cs.drop i)[0]? = some (.int k q) := by
    have h5 : ((cs.drop i).take 1)[0]? = some (.int k q) := by rw [e1]; rfl
    rwa [List.getElem?_take, if_pos (by omega)] at h5
  rw [List.getElem?_drop, Nat.add_zero, List.getElem?_eq_getElem h1] at h4
  have h6 : (xs.map (·.1))[i]? = some (DataW.lit (.int k q)) := by
    rw [List.getElem?_map, List.getElem?_eq_getElem hxi, e2]; rfl
  rw [← hx.1, List.getElem?_map] at h6
  have hli : i < l.length := by omega
  rw [List.getElem?_eq_getElem hli] at h6
  simp only [Option.map_some, Option.some.injEq, DataW.lit.injEq, Lit.int.injEq, true_and] at h6
  rw [List.getElem_map, h6]
  simpa using h4

theorem own : ownKnob Tryd.prog.godebug = none := by kernel_rfl
theorem laidOut : laidOutB Tryd.prog = true := by kernel_rfl
theorem gRounds : Tryd.prog.globalNamed "bailee/digest.rounds" = some 0 := by kernel_rfl
theorem tRounds : (Tryd.prog.globals[0]?).map (·.type) = some 54 := by kernel_rfl
theorem cellsU32 : Tryd.prog.cellsOf 50 = 1 := by kernel_rfl
theorem cellsK : Tryd.prog.cellsOf 54 = 64 := by kernel_rfl
/-- the rounds' numbers as whole numbers -/
def kInts : List Int := kList.map fun x => (x.toNat : Int)
theorem laid_eq : (Rows.laid_bailee_digest_rounds : DataW Unit) = .agg (kInts.map fun x => .lit (.int .u32 x)) := by kernel_rfl

/-- how many steps the door's run takes -/
abbrev doorSteps : Nat := 14
theorem cellsB : Tryd.prog.cellsOf 5 = 1 := by kernel_rfl
theorem cellsS : Tryd.prog.cellsOf 24 = 1 := by kernel_rfl
def laidL : List (String × DataW Unit) := [("bailee/digest.rounds", Rows.laid_bailee_digest_rounds)]
theorem door_met (os : Os) (args : Array Value) : laidMetH Tryd.prog laidL ((World.doorLaid Tryd.prog doorSteps os).forCall (fun _ _ => 0) ⟨#[], args, []⟩).memory :=
  laidMetH_of_parts3 (fuel := 8) (laidMet_of_run' 8 (by kernel_rfl) (by kernel_rfl)) (by kernel_rfl) (by kernel_rfl)

theorem of_laid {W : World} (h : laidMetH Tryd.prog laidL W) : Tab W ∧ 0 < W.heap.size := by
  rw [MakeChecks.laidMetH_plain _ _ _ (by kernel_rfl)] at h
  obtain ⟨ps, ⟨g0, t0, cs0, f0, p0, q0, hg0, ht0, hv0, hd0, _⟩, _, _⟩ := h
  obtain rfl := Option.some.inj (gRounds.symm.trans hg0)
  obtain rfl := Option.some.inj (tRounds.symm.trans ht0)
  rw [laid_eq] at hd0
  have hcs := cells_of_array Tryd.underlying54 Tryd.underlying50 cellsU32 cellsK (by kernel_rfl) hd0
  have e : kInts.map (Value.int .u32) = (wvs kList).toList := by
    unfold kInts wvs
    rw [List.map_map]; rfl
  rw [e] at hcs
  have hcs2 : cs0 = wvs kList := Array.toList_inj.1 hcs
  subst hcs2
  simp only [World.var?, hg0, Option.bind_some] at hv0
  split at hv0
  · rename_i cs t fr hh
    injection hv0 with hv0
    subst hv0
    exact ⟨⟨t, fr, hh⟩, by have := (Array.getElem?_eq_some_iff.1 hh).1; omega⟩
  · cases hv0
end Go.Proofs.YtjgleonbkipidaaDoor
