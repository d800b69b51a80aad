/-
  The program's two tables lie as its text lays them.
-/
import Derived.Test.YtbicdobnnanlkaaDoorDg6
import Derived.Test.YtbicdobnnanlkaaDoorSt5
namespace Go.Proofs.YtbicdobnnanlkaaDoor
open Go Go.RowKit
def Tabs (w : World) : Prop := Tab w ∧ TabQ w ∧ 1 < w.heap.size ∧ 0 < w.heap.size
theorem Tabs.below {w w' : World} (h : Tabs w) (hb : Below w.heap.size w w') : Tabs w' :=
  ⟨h.1.below hb h.2.2.1, h.2.1.below hb h.2.2.2, Nat.lt_of_lt_of_le h.2.2.1 hb.size, Nat.lt_of_lt_of_le h.2.2.2 hb.size⟩
end Go.Proofs.YtbicdobnnanlkaaDoor
