/-
  Two digests are compared.
-/
import Derived.Test.YtlopiinkpdpakaaDoorEqG
namespace Go.Proofs.YtlopiinkpdpakaaDoor
open Go Go.RowKit

@[go_sem] theorem eq_id (w : World) (xs ys : List UInt8) (hx : xs.length = 32) (hy : ys.length = 32) : (Op.equalIn 10000 36 (.agg (bvs xs)) (.agg (bvs ys))).run Tryd.prog w = .ok (xs == ys) w := by
  obtain ⟨i, hi⟩ : ∃ i, Tryd.prog.info? 5 = some i := by
    have h : (Tryd.prog.info? 5).isSome = true := by kernel_rfl
    exact Option.isSome_iff_exists.1 h
  rw [run_equalIn_array w 9999 (bvs xs) (bvs ys) Tryd.underlying36 hi, eqItems_bytes 9998 w xs ys (List.range 32) (fun i hi => by simp at hi; omega), all_at8 xs ys hx hy]
end Go.Proofs.YtlopiinkpdpakaaDoor
