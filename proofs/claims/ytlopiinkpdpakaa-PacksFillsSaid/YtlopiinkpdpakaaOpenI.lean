/-
  A slice of ints that came in, opened. No program is named here.
-/
import Derived.Test.YtlopiinkpdpakaaGC
import Derived.Test.YtlopiinkpdpakaaGE
namespace Go.Proofs.Ytlopiinkpdpakaa
open Go Go.RowKit Go.WideShapes Go.ChangeShapes

section
variable {H : Type} {enc : TypeId × Value → H} {P : Program} {W : World}
theorem open_intS {t e : TypeId} {v : Value} {d : DataW H} {p : List MemPlace} {base : Nat} (ht : P.underlying t = some (.slice e)) (he : P.underlying e = some (.int .i64)) (hc : P.cellsOf e = 1)
    (hv : Value.okWide P W .any base t v) (h : DataW.Trod enc P W 0 (fun _ => true) true t v d p) : ∃ l, IntS W v l := by
  obtain ⟨A0, len0, cap0, rfl⟩ := okWide_slice ht hv
  obtain ⟨fuel, hfu⟩ := h
  rcases open_ints ht he hc hfu with ⟨hcs, hx⟩ | ⟨a, len, cap, zs, hcs, _, hl, hm, hz, hx, hcell, hwz⟩
  · simp only [Value.cells] at hcs
    obtain ⟨h1, h2, h3⟩ : A0 = none ∧ len0 = 0 ∧ cap0 = 0 := by simpa using hcs
    subst h1; subst h2; subst h3
    exact ⟨[], none, 0, rfl, Nat.le_refl _, by simp [maxLen], fun _ => rfl, fun h => absurd rfl h⟩
  · simp only [Value.cells] at hcs
    obtain ⟨h1, h2, h3⟩ : A0 = some a ∧ len0 = len ∧ cap0 = cap := by simpa using hcs
    subst h1; subst h2; subst h3
    have hz' : zs.length = cap0 := by simpa using hz
    have hlen : (zs.take len0).length = len0 := by simp; omega
    refine ⟨zs.take len0, some a, cap0, by rw [hlen], by rw [hlen]; exact hl, hm, (fun h => by cases h), fun h0 => ?_⟩
    have hl0 : 0 < len0 := by
      rcases Nat.eq_zero_or_pos len0 with h | h
      · exfalso; apply h0; apply List.eq_nil_of_length_eq_zero; omega
      · exact h
    have hs := spot_none (hcell 0 (by omega))
    obtain ⟨b, o, sp⟩ := a
    simp only at hs; subst hs
    refine ⟨b, o, rfl, fun i x hx => ?_⟩
    have hi : i < len0 := by have := (List.getElem?_eq_some_iff.1 hx).1; omega
    have h1 := hcell i (by omega)
    rw [addi] at h1
    rw [h1]
    have hiZ : i < zs.length := by omega
    rw [List.getElem?_take, if_pos hi, List.getElem?_eq_getElem hiZ] at hx
    injection hx with hx
    rw [← hx]
    simp [List.getD, hiZ]
end
end Go.Proofs.Ytlopiinkpdpakaa
