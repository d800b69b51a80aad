/-
  What a laid variable's data say of its cells: arrays of numbers, and arrays of these. No program is named here.
-/
import Derived.Test.YtlkhbfafednegaaDoorGA
import Derived.ProofKit
import Derived.LaidMore
import Derived.OpenShut
import Derived.Stop.Joined
import Derived.LaidHandle
namespace Go.Proofs.YtlkhbfafednegaaDoor
open Go.ChangeShapes Go.WideShapes Go.ChangeAt Go.RowKit

/-- an array of numbers reads as its cells -/
theorem cells_of_array {H : Type} {enc : TypeId × Value → H} {P : Program} {w : World} {base : Nat} {spare : Nat → Bool} {held : Bool} {fuel n : Nat} {t e : TypeId} {k : IntKind} {cs : List Value} {l : List Int} {ps : List MemPlace}
    (ht : P.underlying t = some (.array n e)) (he : P.underlying e = some (.int k)) (hc : P.cellsOf e = 1) (hn : P.cellsOf t = n) (hl : l.length = n)
    (h : DataW.trod enc P w base spare held fuel t cs = some (.agg (l.map fun x => .lit (.int k x)), ps)) : cs = l.map (Value.int k) := by
  obtain ⟨xs, m, rfl, hx, hlen, hxn, hel⟩ := DataW.trod_array ht h
  simp only [Prod.mk.injEq, DataW.agg.injEq] at hx
  apply List.ext_getElem (by simp; omega)
  intro i h1 h2
  have hi : i < n := by omega
  have h3 := hel i hi
  rw [hc, Nat.mul_one] at h3
  have hxi : i < xs.length := by omega
  rw [List.getElem?_eq_getElem hxi] at h3
  obtain ⟨q, e1, e2, _⟩ := DataW.trod_int he h3
  have h4 : (cs.drop i)[0]? = some (.int k q) := by
    have h5 : ((cs.drop i).take 1)[0]? = some (.int k q) := by rw [e1]; rfl
    rwa [List.getElem?_take, if_pos (by omega)] at h5
  rw [List.getElem?_drop, Nat.add_zero, List.getElem?_eq_getElem h1] at h4
  have h6 : (xs.map (·.1))[i]? = some (DataW.lit (.int k q)) := by
    rw [List.getElem?_map, List.getElem?_eq_getElem hxi, e2]; rfl
  rw [← hx.1, List.getElem?_map] at h6
  have hli : i < l.length := by omega
  rw [List.getElem?_eq_getElem hli] at h6
  simp only [Option.map_some, Option.some.injEq, DataW.lit.injEq, Lit.int.injEq, true_and] at h6
  rw [List.getElem_map, h6]
  simpa using h4

/-- an array of arrays of numbers reads as its cells -/
theorem cells_of_array2 {H : Type} {enc : TypeId × Value → H} {P : Program} {w : World} {base : Nat} {spare : Nat → Bool} {held : Bool} {fuel m n : Nat} {t t2 e : TypeId} {k : IntKind} {cs : List Value} {ls : List (List Int)} {ps : List MemPlace}
    (ht : P.underlying t = some (.array m t2)) (ht2 : P.underlying t2 = some (.array n e)) (he : P.underlying e = some (.int k)) (hc : P.cellsOf e = 1) (hc2 : P.cellsOf t2 = n) (hn : P.cellsOf t = m * n) (hl : ls.length = m) (hln : ∀ l ∈ ls, l.length = n)
    (h : DataW.trod enc P w base spare held fuel t cs = some (.agg (ls.map fun l => .agg (l.map fun x => .lit (.int k x))), ps)) : cs = ls.flatMap fun l => l.map (Value.int k) := by
  obtain ⟨xs, q, rfl, hx, hlen, hxn, hel⟩ := DataW.trod_array ht h
  simp only [Prod.mk.injEq, DataW.agg.injEq] at hx
  have hrow : ∀ (i : Nat) (hi : i < m), (cs.drop (i * n)).take n = (ls[i]'(by omega)).map (Value.int k) := by
    intro i hi
    have h3 := hel i hi
    rw [hc2, List.getElem?_eq_getElem (by omega)] at h3
    have h6 : (xs.map (·.1))[i]? = some xs[i].1 := by rw [List.getElem?_map, List.getElem?_eq_getElem (by omega)]; rfl
    rw [← hx.1, List.getElem?_map, List.getElem?_eq_getElem (by omega)] at h6
    simp only [Option.map_some, Option.some.injEq] at h6
    have e : xs[i] = (DataW.agg (ls[i].map fun x => DataW.lit (.int k x)), xs[i].2) := by rw [h6]
    rw [e] at h3
    exact cells_of_array ht2 he hc hc2 (hln _ (List.getElem_mem (by omega))) h3
  have key : ∀ (j : Nat), j ≤ m → cs.take (j * n) = (ls.take j).flatMap fun l => l.map (Value.int k) := by
    intro j
    induction j with
    | zero => intro _; simp
    | succ j ih =>
      intro hj
      rw [Nat.succ_mul, List.take_add, ih (by omega), hrow j (by omega)]
      have e : ls.take (j + 1) = ls.take j ++ [ls[j]'(by omega)] := by rw [List.take_add_one, List.getElem?_eq_getElem (by omega)]; rfl
      rw [e, List.flatMap_append]
      simp
  have h9 := key m (Nat.le_refl _)
  rw [List.take_of_length_le (by omega), List.take_of_length_le (by omega)] at h9
  exact h9
end Go.Proofs.YtlkhbfafednegaaDoor
