/-
  A slice of one digest is built.
-/
import Derived.Test.YtlopiinkpdpakaaDoorId
import Derived.Great.BuildSlice
namespace Go.Proofs.YtlopiinkpdpakaaDoor
open Go Go.RowKit
set_option linter.unusedSimpArgs false
set_option linter.unusedVariables false

theorem fold_set : ∀ (l : List Value) (k : Nat) (Z : Array Value), ((l.zipIdx k).foldl (fun (cs : Array Value) (x : Value × Nat) => cs.setIfInBounds x.2 x.1) Z).size = Z.size ∧ ∀ i, ((l.zipIdx k).foldl (fun (cs : Array Value) (x : Value × Nat) => cs.setIfInBounds x.2 x.1) Z)[i]? = if k ≤ i ∧ i < k + l.length ∧ i < Z.size then l[i - k]? else Z[i]? := by
  intro l
  induction l with
  | nil =>
    intro k Z
    refine ⟨rfl, fun i => ?_⟩
    rw [if_neg (by simp; omega)]
    rfl
  | cons v r ih =>
    intro k Z
    obtain ⟨h1, h2⟩ := ih (k + 1) (Z.setIfInBounds k v)
    have e : ((v :: r).zipIdx k).foldl (fun (cs : Array Value) (x : Value × Nat) => cs.setIfInBounds x.2 x.1) Z = (r.zipIdx (k + 1)).foldl (fun (cs : Array Value) (x : Value × Nat) => cs.setIfInBounds x.2 x.1) (Z.setIfInBounds k v) := by
      simp [List.zipIdx_cons]
    rw [e]
    refine ⟨by rw [h1]; simp, fun i => ?_⟩
    rw [h2 i]
    simp only [Array.size_setIfInBounds, List.length_cons]
    by_cases hi : k + 1 ≤ i ∧ i < k + 1 + r.length ∧ i < Z.size
    · rw [if_pos hi, if_pos (by omega), show i - k = (i - (k + 1)) + 1 by omega, List.getElem?_cons_succ]
    · rw [if_neg hi, Array.getElem?_setIfInBounds]
      by_cases hk : k = i
      · subst hk
        by_cases hz : k < Z.size
        · rw [if_pos rfl, if_pos hz, if_pos (by omega)]; simp
        · rw [if_pos rfl, if_neg hz, if_neg (by omega), Array.getElem?_eq_none (by omega)]
      · rw [if_neg hk, if_neg (by omega)]
theorem run_build_id {P : Program} {t e : TypeId} {i : TypeInfo} {z : Value} (ht : P.underlying t = some (.slice e)) (hi : P.info? e = some i) (hz : i.zero = some z) (hs : i.size = 32) (d : Dig) (hd : d.length = 32) (w : World) :
    (Instr.buildSlice t 1 #[(0, .agg (bvs d))]).run P w = .ok (.slice (some ⟨w.heap.size, 0, none⟩) 1 1) (w.alloc (.cells (bvs d) e)) := by
  refine run_buildSlice w t e 1 _ (bvs d) i z ht hi hz (by omega) (by omega) ?_
  have hbz : (bvs d).size = 32 := by rw [bvs_size]; exact hd
  obtain ⟨Z, hZ⟩ : ∃ Z, Z = (Array.range (1 * i.size)).map (z.cells[· % z.cells.size]!) := ⟨_, rfl⟩
  have hZs : Z.size = 32 := by rw [hZ]; simp [hs]
  rw [← hZ, hs]
  have hc : (Value.agg (bvs d)).cells = bvs d := rfl
  simp only [Instr.fill]
  rw [if_neg (by rw [hc]; simp [hbz, hZs])]
  rw [hc]
  congr 1
  have e : (bvs d).zipIdx.foldl (fun (cs : Array Value) (x : Value × Nat) => cs.setIfInBounds (0 * 32 + x.2) x.1) Z = ((bvs d).toList.zipIdx 0).foldl (fun (cs : Array Value) (x : Value × Nat) => cs.setIfInBounds x.2 x.1) Z := by
    simp [bvs, ← Array.foldl_toList]
  refine e.trans ?_
  obtain ⟨h1, h2⟩ := fold_set (bvs d).toList 0 Z
  apply Array.ext_getElem?
  intro j
  rw [h2 j]
  by_cases hj : j < 32
  · rw [if_pos (by simp [bvs]; omega)]; simp
  · rw [if_neg (by simp [bvs]; omega), Array.getElem?_eq_none (by omega), Array.getElem?_eq_none (by omega)]
section
variable {P : Program} {ops : Array Oper} {rest : List Oper} {o : Oper} {a : Act} {w : World} {Q : Exit → Act → World → Prop}
theorem wpList_build_id (hgd : o.guard = none) (x : Operand) (t e : TypeId) (i : TypeInfo) (z : Value) (ho : o.op = .buildSlice t 1 #[(0, x)]) (ht : P.underlying t = some (.slice e)) (hi : P.info? e = some i) (hz : i.zero = some z) (hs : i.size = 32)
    (d : Dig) (hd : d.length = 32) (hx : a.eval x = .agg (bvs d)) (h : wpList P ops Q rest (a.put o.dst (.slice (some ⟨w.heap.size, 0, none⟩) 1 1)) (w.alloc (.cells (bvs d) e))) : wpList P ops Q (o :: rest) a w := by
  refine wpList_plain hgd fun K hK => ?_
  unfold Oper.wp execOp
  have hr := run_build_id (P := P) ht hi hz hs d hd w
  simp only [ho, Sem.run_bind, List.map_toArray, List.map_cons, List.map_nil, hx, hr, Result.andThen_ok, Sem.run_pure]
  exact hK _ _ h
end
end Go.Proofs.YtlopiinkpdpakaaDoor
