/-
  The numbers at first, and the rounds' numbers.
-/
import Derived.Test.YtbicdobnnanlkaaDoorDg2
import Derived.KernelRfl
namespace Go.Proofs.YtbicdobnnanlkaaDoor
open Go Go.RowKit

set_option maxRecDepth 100000 in
set_option maxHeartbeats 1000000 in
theorem first_any (w : World) :
    Calls Tryd.prog 43 #[] w fun e w' => e = .returned (.agg (wvs h0List)) ∧ Below w.heap.size w w' := by
  go_enter Tryd.func43, Tryd.ntmps43
  go_wp2
  refine bodyPost_ret (results_cell Tryd.results43 rfl (t := 83) (g := w.heap.size) (cs := wvs h0List) (Blk.new w _ _) Tryd.underlying83 rfl (by kernel_rfl)) rfl ⟨rfl, (Below.refl _ _).alloc (Nat.le_refl _) _⟩

theorem sizeK : (Tryd.prog.info? 89).map (·.size) = some 64 := by kernel_rfl
theorem kOne : (wvs kList).all (·.oneCell') = true := by kernel_rfl
theorem kSize : (wvs kList).size = 64 := by kernel_rfl
set_option maxRecDepth 100000 in
set_option maxHeartbeats 1000000 in
theorem numbers_any (w : World) :
    Calls Tryd.prog 48 #[] w fun e w' => e = .returned (.agg (wvs kList)) ∧ Below w.heap.size w w' := by
  go_enter Tryd.func48, Tryd.ntmps48
  go_wp2_with (refine wpList_store_blk rfl 89 (.tmp 0) (.tmp 1) rfl w.heap.size 89 _ (wvs kList) rfl (by kernel_rfl) (Blk.new w _ _) (by kernel_rfl) (by kernel_rfl) kOne ?_; intro w1 hb1 hg1 hz1)
  refine bodyPost_ret (results_cell Tryd.results48 rfl (t := 89) (g := w.heap.size) (cs := wvs kList) hb1 Tryd.underlying89 rfl (by kernel_rfl)) rfl ⟨rfl, ?_⟩
  exact ((Below.refl w.heap.size w).alloc (Nat.le_refl _) _).grown hg1 (by simp) (by intro k hk; injection hk with hk; omega)
end Go.Proofs.YtbicdobnnanlkaaDoor
