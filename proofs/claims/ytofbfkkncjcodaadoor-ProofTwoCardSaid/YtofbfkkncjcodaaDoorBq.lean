/-
  The walk of bytes.Equal.
-/
import Derived.Test.YtofbfkkncjcodaaDoorPf1
import Derived.Test.YtofbfkkncjcodaaDoorGF
namespace Go.Proofs.YtofbfkkncjcodaaDoor
open Go Go.RowKit
set_option linter.unusedSimpArgs false
set_option linter.unusedVariables false

set_option maxRecDepth 100000 in
theorem equalB_any (v1 v2 : Value) (a b : List UInt8) (w : World) (h1 : HB w v1 a) (h2 : HB w v2 b) :
    Calls Tryd.prog 33 #[v1, v2] w fun e w' => e = .returned (.bool (decide (a = b))) ∧ Below w.heap.size w w' := by
  have hc1 := h1.str Tryd.underlying22 Tryd.underlying5 Tryd.underlying9
  have hc2 := h2.str Tryd.underlying22 Tryd.underlying5 Tryd.underlying9
  obtain ⟨p1, c1, rfl, -, -⟩ := h1.form
  obtain ⟨p2, c2, rfl, -, -⟩ := h2.form
  clear h1 h2
  by_cases hab : a = b
  · have hd : decide (a = b) = true := decide_eq_true hab
    rw [hd]
    subst hab
    clear hd
    go_enter Tryd.func33, Tryd.ntmps33
    go_wp2_with fail
    go_ret
    exact ⟨rfl, Below.refl _ _⟩
  · have hd : decide (a = b) = false := decide_eq_false hab
    have hne : ((bs a).toList == (bs b).toList) = false := beq_eq_false_iff_ne.2 (bs_ne hab)
    rw [hd]
    clear hd hab
    go_enter Tryd.func33, Tryd.ntmps33
    go_wp2_with fail
    go_ret
    exact ⟨rfl, Below.refl _ _⟩
end Go.Proofs.YtofbfkkncjcodaaDoor
