/-
  Arrays of bytes that came in, opened. No program is named here.
-/
import Derived.Test.YtomfpffooaejoaaDoorOpen
import Derived.OpenShut
import Derived.ChangeMaps5
namespace Go.Proofs.YtomfpffooaejoaaDoor
open Go Go.RowKit Go.WideShapes Go.ChangeShapes

section
variable {H : Type} {enc : TypeId × Value → H} {P : Program} {W : World}
theorem open_barr {t e : TypeId} {n : Nat} {v : Value} {d : DataW H} {p : List MemPlace} {base : Nat} (ht : P.underlying t = some (.array n e)) (he : P.underlying e = some (.int .u8)) (hc : P.cellsOf e = 1) (hct : P.cellsOf t = n)
    (hv : Value.okWide P W .any base t v) (h : DataW.Trod enc P W 0 (fun _ => true) true t v d p) : ∃ l, v = .agg (bvs l) ∧ l.length = n := by
  unfold Value.okWide at hv
  simp only [ht] at hv
  obtain ⟨cs, rfl, hsz, _⟩ := hv
  obtain ⟨fuel, hf⟩ := h
  obtain ⟨xs, m, _, _, hlen, hl, hel⟩ := DataW.trod_array ht hf
  rw [hct] at hsz
  have key : ∀ i, i < n → ∃ x : UInt8, cs[i]? = some (.int .u8 (x.toNat : Int)) := by
    intro i hi
    have h1 := hel i hi
    rw [hc, Nat.mul_one] at h1
    have h2 : xs[i]? = some xs[i] := List.getElem?_eq_getElem (by omega)
    rw [h2] at h1
    obtain ⟨z, hz, _, hw⟩ := DataW.trod_int he h1
    refine ⟨u8of z, ?_⟩
    rw [u8of_eq hw]
    have h3 : (Value.agg cs).cells.toList[i]? = some (.int .u8 z) := by
      have h4 := congrArg (fun l : List Value => l[0]?) hz
      simpa [List.getElem?_take, List.getElem?_drop] using h4
    simpa [Value.cells] using h3
  obtain ⟨f, hf⟩ : ∃ f : Nat → UInt8, ∀ i, i < n → cs[i]? = some (.int .u8 ((f i).toNat : Int)) :=
    ⟨fun i => if h : i < n then (key i h).choose else 0, fun i hi => by simp only [dif_pos hi]; exact (key i hi).choose_spec⟩
  refine ⟨(List.range n).map f, ?_, by simp⟩
  congr 1
  apply Array.ext_getElem?
  intro i
  by_cases hi : i < n
  · rw [bvs_at _ (by simpa using hi), hf i hi]
    have e : at8 ((List.range n).map f) i = f i := by simp [at8, List.getD, hi]
    rw [e]
  · rw [Array.getElem?_eq_none (by omega), Array.getElem?_eq_none (by rw [bvs_size]; simp; omega)]
end
/-- a number of 64 bits that came in -/
theorem u64n_of {a : Int} (w : (Lit.int .u64 a).wf = true) : ∃ x : Nat, a = (x : Int) ∧ x < 18446744073709551616 := by
  have h := bounds_u64 w
  exact ⟨a.toNat, by omega, by omega⟩
end Go.Proofs.YtomfpffooaejoaaDoor
