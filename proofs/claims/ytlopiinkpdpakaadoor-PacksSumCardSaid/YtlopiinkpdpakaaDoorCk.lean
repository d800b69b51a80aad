/-
  slices.Clone and slices.Chunk at rows of bytes.
-/
import Derived.Test.YtlopiinkpdpakaaDoorGA
import Derived.Test.YtlopiinkpdpakaaDoorGB
import Derived.Test.YtlopiinkpdpakaaDoorCl
import Derived.Laws.AppendOwn
import Derived.Test.YtlopiinkpdpakaaDoorRows
namespace Go.Proofs.YtlopiinkpdpakaaDoor
open Go Go.RowKit
set_option linter.unusedSimpArgs false
set_option linter.unusedVariables false

set_option maxRecDepth 100000 in
set_option maxHeartbeats 1000000 in
theorem chunkB_any (p : Option Addr) (n cap c : Nat) (w : World) (hc : 1 ≤ c) :
    Calls Tryd.prog 57 #[.slice p n cap, .int .i64 (c : Int)] w fun e w' => e = .returned (.func (.func 67) #[] #[.pointer (some ⟨w.heap.size, 0, none⟩), .pointer (some ⟨w.heap.size + 1, 0, none⟩)]) ∧ w' = (w.alloc (.cells #[.slice p n cap] 24)).alloc (.cells #[.int .i64 (c : Int)] 3) := by
  have hc1 : decide ((c : Int) < 1) = false := decide_eq_false (by omega)
  go_enter Tryd.func57, Tryd.ntmps57
  go_wp2_with fail
  go_ret
  exact ⟨rfl, rfl⟩
end Go.Proofs.YtlopiinkpdpakaaDoor
