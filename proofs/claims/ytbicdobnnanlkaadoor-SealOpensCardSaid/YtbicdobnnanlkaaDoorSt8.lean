/-
  The reference's quarters are the program's. No program is named here but for the places.
-/
import Derived.Test.YtbicdobnnanlkaaDoorSt5
import Derived.Test.YtbicdobnnanlkaaDoorSt7
namespace Go.Proofs.YtbicdobnnanlkaaDoor
open Go Go.RowKit

set_option maxRecDepth 100000 in
theorem laid_quarter (s : List UInt32) (hs : s.length = 16) (k : Nat) (hk : k < 8) : laidS s (plK k).1 (plK k).2.1 (plK k).2.2.1 (plK k).2.2.2 = quarterS s (plK k).1 (plK k).2.1 (plK k).2.2.1 (plK k).2.2.2 := by
  match s, hs with
  | [a0, a1, a2, a3, a4, a5, a6, a7, a8, a9, a10, a11, a12, a13, a14, a15], _ =>
    match k, hk with
    | 0, _ => rfl
    | 1, _ => rfl
    | 2, _ => rfl
    | 3, _ => rfl
    | 4, _ => rfl
    | 5, _ => rfl
    | 6, _ => rfl
    | 7, _ => rfl
theorem plK_apart : ∀ k, k < 8 → ¬ (plK k).1 = (plK k).2.1 ∧ ¬ (plK k).1 = (plK k).2.2.1 ∧ ¬ (plK k).1 = (plK k).2.2.2 ∧ ¬ (plK k).2.1 = (plK k).2.2.1 ∧ ¬ (plK k).2.1 = (plK k).2.2.2 ∧ ¬ (plK k).2.2.1 = (plK k).2.2.2 := by decide
/-- the reference's laid at the k-th places is the k-th quarter -/
theorem laidK_any (s : List UInt32) (k : Nat) (w : World) (hs : s.length = 16) (hk : k < 8) :
    Calls Tryd.prog 47 #[.agg (wvs s), .int .i64 ((plK k).1 : Int), .int .i64 ((plK k).2.1 : Int), .int .i64 ((plK k).2.2.1 : Int), .int .i64 ((plK k).2.2.2 : Int)] w fun e w' => e = .returned (.agg (wvs (quarterS s (plK k).1 (plK k).2.1 (plK k).2.2.1 (plK k).2.2.2))) ∧ Below w.heap.size w w' := by
  have h1 := plK_lt k hk
  have h2 := plK_apart k hk
  have h := laid_any s (plK k).1 (plK k).2.1 (plK k).2.2.1 (plK k).2.2.2 w hs h1.1 h1.2.1 h1.2.2.1 h1.2.2.2 h2.1 h2.2.1 h2.2.2.1 h2.2.2.2.1 h2.2.2.2.2.1 h2.2.2.2.2.2
  rw [laid_quarter s hs k hk] at h
  exact h
end Go.Proofs.YtbicdobnnanlkaaDoor
