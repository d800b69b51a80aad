/-
  Two parts of a stream are compared.
-/
import Derived.Test.YtomfpffooaejoaaDoorEqG
namespace Go.Proofs.YtomfpffooaejoaaDoor
open Go Go.RowKit

@[go_sem] theorem eq_part (w : World) (xs ys : List UInt8) (hx : xs.length = 64) (hy : ys.length = 64) : (Op.equalIn 10000 27 (.agg (bvs xs)) (.agg (bvs ys))).run Tryd.prog w = .ok (xs == ys) w := by
  obtain ⟨i, hi⟩ : ∃ i, Tryd.prog.info? 5 = some i := by
    have h : (Tryd.prog.info? 5).isSome = true := by kernel_rfl
    exact Option.isSome_iff_exists.1 h
  rw [run_equalIn_array w 9999 (bvs xs) (bvs ys) Tryd.underlying27 hi, eqItems_bytes 9998 w xs ys (List.range 64) (fun i hi => by simp at hi; omega), all_at8 xs ys hx hy]
end Go.Proofs.YtomfpffooaejoaaDoor
