/-
  The document's two sides are laid in a slice.
-/
import Derived.Test.YtlkhbfafednegaaDoorSpI
import Derived.Test.YtlkhbfafednegaaDoorSo3
import Derived.Great.BuildSlice
namespace Go.Proofs.YtlkhbfafednegaaDoor
open Go Go.RowKit
set_option linter.unusedSimpArgs false
set_option linter.unusedVariables false

theorem built_ref0 {k : List UInt8} (hk : k.length = 32) : Tryd.prog.built 38 [(0, .agg (bvs k)), (1, .int .i64 0), (2, .int .i64 1)] = some (sideC k 0 (0, 0, 0)) := by
  rw [at8_all hk]
  generalize at8 k = f
  kernel_rfl
theorem built_ref1 {k : List UInt8} (hk : k.length = 32) : Tryd.prog.built 38 [(0, .agg (bvs k)), (1, .int .i64 1), (2, .int .i64 0)] = some (sideC k 1 (0, 0, 0)) := by
  rw [at8_all hk]
  generalize at8 k = f
  kernel_rfl
def twoC (k : List UInt8) : Array Value := ((sideC k 0 (0, 0, 0)).toList ++ (sideC k 1 (0, 0, 0)).toList).toArray
theorem fill_two {k : List UInt8} (hk : k.length = 32) : ((Tryd.prog.info? 38).bind fun i => i.zero.bind fun z => if i.size = 37 then Instr.fill (fun j => some (j * i.size, i.size)) ((Array.range (2 * i.size)).map (z.cells[· % z.cells.size]!)) [(0, .agg (sideC k 0 (0, 0, 0))), (1, .agg (sideC k 1 (0, 0, 0)))] else none) = some (twoC k) := by
  rw [at8_all hk]
  generalize at8 k = f
  kernel_rfl
section
variable {ops : Array Oper} {rest : List Oper} {o_ : Oper} {a : Act} {w : World} {Q : Exit → Act → World → Prop}
theorem wpList_build_ref0 (hg : o_.guard = none) (parts : Array (Nat × Operand)) (ho : o_.op = .build 38 parts) (k : List UInt8) (hk : k.length = 32)
    (hp : (parts.map fun (i, x) => (i, a.eval x)).toList = [(0, .agg (bvs k)), (1, .int .i64 0), (2, .int .i64 1)])
    (h : wpList Tryd.prog ops Q rest (a.put o_.dst (.agg (sideC k 0 (0, 0, 0)))) w) : wpList Tryd.prog ops Q (o_ :: rest) a w := by
  refine wpList_build hg 38 parts ho (by rw [hp, built_ref0 hk]; rfl) ?_
  rw [hp, built_ref0 hk]
  exact h
theorem wpList_build_ref1 (hg : o_.guard = none) (parts : Array (Nat × Operand)) (ho : o_.op = .build 38 parts) (k : List UInt8) (hk : k.length = 32)
    (hp : (parts.map fun (i, x) => (i, a.eval x)).toList = [(0, .agg (bvs k)), (1, .int .i64 1), (2, .int .i64 0)])
    (h : wpList Tryd.prog ops Q rest (a.put o_.dst (.agg (sideC k 1 (0, 0, 0)))) w) : wpList Tryd.prog ops Q (o_ :: rest) a w := by
  refine wpList_build hg 38 parts ho (by rw [hp, built_ref1 hk]; rfl) ?_
  rw [hp, built_ref1 hk]
  exact h
theorem wpList_build_two (hg : o_.guard = none) (parts : Array (Nat × Operand)) (ho : o_.op = .buildSlice 47 2 parts) (k : List UInt8) (hk : k.length = 32)
    (hp : (parts.map fun (i, x) => (i, a.eval x)).toList = [(0, .agg (sideC k 0 (0, 0, 0))), (1, .agg (sideC k 1 (0, 0, 0)))])
    (h : wpList Tryd.prog ops Q rest (a.put o_.dst (.slice (some ⟨w.heap.size, 0, none⟩) 2 2)) (w.alloc (.cells (twoC k) 38))) : wpList Tryd.prog ops Q (o_ :: rest) a w := by
  obtain ⟨i, hi, h1⟩ := Option.bind_eq_some_iff.1 (fill_two hk)
  obtain ⟨z, hz, h2⟩ := Option.bind_eq_some_iff.1 h1
  have hs : i.size = 37 := by
    by_cases e : i.size = 37
    · exact e
    · rw [if_neg e] at h2; cases h2
  rw [if_pos hs] at h2
  exact wpList_buildSlice hg 47 38 2 parts ho (twoC k) i z Tryd.underlying47 hi hz (by omega) (by omega) (by rw [hp]; exact h2) h
end
theorem twoC_size {k : List UInt8} (hk : k.length = 32) : (twoC k).size = 74 := by
  unfold twoC
  rw [List.size_toArray, List.length_append, Array.length_toList, Array.length_toList, sideC_size hk, sideC_size hk]
theorem twoC_range {k : List UInt8} {W : World} {gm : Nat} (hk : k.length = 32) (h : Blk W gm 38 (twoC k)) (i : Nat) (hi : i < 2) : W.rangeAt gm (i * 37) (sideC k i (0, 0, 0)).toList := by
  intro j v hv
  have hj : j < 37 := by have := (List.getElem?_eq_some_iff.1 hv).1; rw [Array.length_toList, sideC_size hk] at this; exact this
  rw [h.cell]
  unfold twoC
  rw [List.getElem?_toArray]
  have : i = 0 ∨ i = 1 := by omega
  rcases this with rfl | rfl
  · rw [List.getElem?_append_left (by rw [Array.length_toList, sideC_size hk]; omega)]
    rw [Nat.zero_mul, Nat.zero_add]
    exact hv
  · rw [List.getElem?_append_right (by rw [Array.length_toList, sideC_size hk]; omega), Array.length_toList, sideC_size hk]
    rw [show 1 * 37 + j - 37 = j by omega]
    exact hv
end Go.Proofs.YtlkhbfafednegaaDoor
