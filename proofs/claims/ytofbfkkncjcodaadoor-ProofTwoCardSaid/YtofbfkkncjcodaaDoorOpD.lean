/-
  A slice of digests that came in, opened.
-/
import Derived.Test.YtofbfkkncjcodaaDoorGC
import Derived.Test.YtofbfkkncjcodaaDoorId
namespace Go.Proofs.YtofbfkkncjcodaaDoor
open Go Go.RowKit Go.WideShapes Go.ChangeShapes

section
variable {H : Type} {enc : TypeId × Value → H} {P : Program} {W : World}
theorem open_ids {t e q : TypeId} {v : Value} {d : DataW H} {p : List MemPlace} {base : Nat} (ht : P.underlying t = some (.slice e)) (he : P.underlying e = some (.array 32 q)) (hq : P.underlying q = some (.int .u8)) (ce : P.cellsOf e = 32) (cq : P.cellsOf q = 1)
    (hv : Value.okWide P W .any base t v) (h : DataW.Trod enc P W 0 (fun _ => true) true t v d p) : ∃ ds, IdS W v ds := by
  obtain ⟨A0, len0, cap0, rfl⟩ := okWide_slice ht hv
  obtain ⟨fuel, hfu⟩ := h
  rcases Go.Deep.open_slice ht hfu with ⟨hcs, hx⟩ | ⟨a, len, cap, m, n, D, Pl, hcs, _, hl, hm, hmm, hx, hel⟩
  · simp only [Value.cells] at hcs
    obtain ⟨h1, h2, h3⟩ : A0 = none ∧ len0 = 0 ∧ cap0 = 0 := by simpa using hcs
    subst h1; subst h2; subst h3
    exact ⟨[], fun d hd => by simp at hd, none, 0, rfl, Nat.le_refl _, by simp [maxLen], fun _ => rfl, fun h => absurd rfl h⟩
  · simp only [Value.cells] at hcs
    obtain ⟨h1, h2, h3⟩ : A0 = some a ∧ len0 = len ∧ cap0 = cap := by simpa using hcs
    subst h1; subst h2; subst h3
    simp only [if_true] at hmm
    subst hmm
    have key : ∀ i, i < len0 → ∃ g : Nat → UInt8, ∀ j, j < 32 → W.cell? (a.add (i * 32 + j)) = some (.int .u8 ((g j).toNat : Int)) := by
      intro i hi
      obtain ⟨cs', k1, k2⟩ := hel i (by omega)
      rw [ce] at k1
      obtain ⟨_, hlen, hcell⟩ := World.cells?_some k1
      obtain ⟨xs, m', _, _, hlen2, _, hel2⟩ := DataW.trod_array he k2
      have each : ∀ j, j < 32 → ∃ x : UInt8, W.cell? (a.add (i * 32 + j)) = some (.int .u8 (x.toNat : Int)) := by
        intro j hj
        have k3 := hel2 j hj
        rw [cq, Nat.mul_one] at k3
        have k4 : xs[j]? = some xs[j] := List.getElem?_eq_getElem (by omega)
        rw [k4] at k3
        obtain ⟨z, hz, _, hw⟩ := DataW.trod_int hq k3
        refine ⟨u8of z, ?_⟩
        rw [u8of_eq hw]
        have k5 : cs'[j]? = some (.int .u8 z) := by
          have k6 := congrArg (fun l : List Value => l[0]?) hz
          simpa [List.getElem?_take, List.getElem?_drop] using k6
        have k7 := hcell j (by omega)
        rw [Go.Deep.add_add] at k7
        rw [k7]
        first
          | exact k5
          | (rw [← k5]; simp [List.getD, List.getElem?_eq_getElem (show j < cs'.length by omega)])
      exact ⟨fun j => if hj : j < 32 then (each j hj).choose else 0, fun j hj => by simp only [dif_pos hj]; exact (each j hj).choose_spec⟩
    obtain ⟨g, hg⟩ : ∃ g : Nat → Nat → UInt8, ∀ i, i < len0 → ∀ j, j < 32 → W.cell? (a.add (i * 32 + j)) = some (.int .u8 ((g i j).toNat : Int)) :=
      ⟨fun i => if hi : i < len0 then (key i hi).choose else fun _ => 0, fun i hi => by simp only [dif_pos hi]; exact (key i hi).choose_spec⟩
    refine ⟨(List.range len0).map fun i => (List.range 32).map (g i), ?_, some a, m, by simp, by simpa using hl, hm, (fun h => by cases h), fun h0 => ?_⟩
    · intro d hd
      obtain ⟨i, _, rfl⟩ := List.mem_map.1 hd
      simp
    · have hl0 : 0 < len0 := by
        rcases Nat.eq_zero_or_pos len0 with h | h
        · subst h; simp at h0
        · exact h
      have hs := spot_none (hg 0 hl0 0 (by decide))
      obtain ⟨b, o, sp⟩ := a
      simp only at hs; subst hs
      refine ⟨b, o, rfl, fun i d hx j v hv => ?_⟩
      rw [List.getElem?_map] at hx
      by_cases hi : i < len0
      · rw [List.getElem?_range hi] at hx
        simp only [Option.map_some, Option.some.injEq] at hx
        subst hx
        rw [List.getElem?_map, List.getElem?_map] at hv
        by_cases hj : j < 32
        · rw [List.getElem?_range hj] at hv
          simp only [Option.map_some, Option.some.injEq] at hv
          subst hv
          have := hg i hi j hj
          rw [addi] at this
          rw [Nat.add_assoc]
          exact this
        · rw [List.getElem?_eq_none (by simp; omega)] at hv
          cases hv
      · rw [List.getElem?_eq_none (by simp; omega)] at hx
        cases hx
end
end Go.Proofs.YtofbfkkncjcodaaDoor
