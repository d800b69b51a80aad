/-
  What came in, opened: rows of bytes, rows of rows of bytes, arrays of bytes. No program is named here.
-/
import Derived.Test.YtomfpffooaejoaaDoorBt
import Derived.Test.YtomfpffooaejoaaDoorPost
import Derived.Deep.Matrix
namespace Go.Proofs.YtomfpffooaejoaaDoor
open Go Go.RowKit Go.WideShapes Go.ChangeShapes

def u8of (z : Int) : UInt8 := UInt8.ofNat z.toNat
theorem u8of_eq {z : Int} (h : (Lit.int .u8 z).wf = true) : ((u8of z).toNat : Int) = z := by
  have := bounds_u8 h
  simp only [u8of, UInt8.toNat_ofNat', Nat.reducePow]
  omega
theorem spot_none {w : World} {a : Addr} {v : Value} (h : w.cell? (a.add 0) = some v) : a.spot = none := by
  cases hs : a.spot with
  | none => rfl
  | some x =>
    exfalso
    have e0 : a.add 0 = a := by unfold Addr.add; simp
    rw [e0] at h
    simp only [World.cell?] at h
    cases hb : w.heap[a.block]? with
    | none => simp [hb] at h
    | some o => cases o <;> simp [hb, hs] at h
theorem hb_of_cells {w : World} {A : Option Addr} {L C : Nat} {Z : List Int} (hL : L ≤ C) (hm : C ≤ maxLen) (hZ : Z.length = C) (hw : ∀ n ∈ Z, (Lit.int .u8 n).wf = true) (hn : A = none → C = 0)
    (hc : ∀ a, A = some a → ∀ c, c < C → w.cell? (a.add c) = some (.int .u8 (Z.getD c 0))) : HB w (.slice A L C) ((Z.take L).map u8of) := by
  have hlen : ((Z.take L).map u8of).length = L := by simp; omega
  refine ⟨A, C, by rw [hlen], by rw [hlen]; exact hL, hm, hn, fun h0 => ?_⟩
  have hL0 : 0 < L := by
    rcases Nat.eq_zero_or_pos L with h | h
    · exfalso; apply h0; apply List.eq_nil_of_length_eq_zero; omega
    · exact h
  cases A with
  | none => have := hn rfl; omega
  | some a =>
    have hs := spot_none (hc a rfl 0 (by omega))
    obtain ⟨b, o, sp⟩ := a
    simp only at hs; subst hs
    refine ⟨b, o, rfl, fun i x hx => ?_⟩
    have hi : i < L := by have := (List.getElem?_eq_some_iff.1 hx).1; omega
    have h1 := hc _ rfl i (by omega)
    rw [addi] at h1
    rw [h1]
    have hiZ : i < Z.length := by omega
    rw [List.getElem?_map, List.getElem?_take, if_pos hi, List.getElem?_eq_getElem hiZ] at hx
    simp only [Option.map_some, Option.some.injEq] at hx
    rw [← hx, u8of_eq (hw _ (List.getElem_mem hiZ))]
    simp [List.getD, hiZ]

section
variable {H : Type} {enc : TypeId × Value → H} {P : Program} {W : World}
theorem open_bytes {t e : TypeId} {v : Value} {d : DataW H} {p : List MemPlace} {base : Nat} (ht : P.underlying t = some (.slice e)) (he : P.underlying e = some (.int .u8)) (hc : P.cellsOf e = 1)
    (hv : Value.okWide P W .any base t v) (h : DataW.Trod enc P W 0 (fun _ => true) true t v d p) : ∃ l, HB W v l := by
  obtain ⟨A0, len0, cap0, rfl⟩ := okWide_slice ht hv
  obtain ⟨fuel, hfu⟩ := h
  rcases open_ints ht he hc hfu with ⟨hcs, hx⟩ | ⟨a, len, cap, zs, hcs, _, hl, hm, hz, hx, hcell, hwz⟩
  · simp only [Value.cells] at hcs
    obtain ⟨h1, h2, h3⟩ : A0 = none ∧ len0 = 0 ∧ cap0 = 0 := by simpa using hcs
    subst h1; subst h2; subst h3
    exact ⟨[], HB.nil W⟩
  · simp only [Value.cells] at hcs
    obtain ⟨h1, h2, h3⟩ : A0 = some a ∧ len0 = len ∧ cap0 = cap := by simpa using hcs
    subst h1; subst h2; subst h3
    have hz' : zs.length = cap0 := by simpa using hz
    exact ⟨_, hb_of_cells hl hm hz' hwz (fun h => by cases h) (fun a' ha c hc => by injection ha with ha; subst ha; exact hcell c (by omega))⟩
theorem open_rows {t e q : TypeId} {v : Value} {d : DataW H} {p : List MemPlace} {base : Nat} (ht : P.underlying t = some (.slice e)) (he : P.underlying e = some (.slice q)) (hq : P.underlying q = some (.int .u8)) (ce : P.cellsOf e = 1) (cq : P.cellsOf q = 1)
    (hv : Value.okWide P W .any base t v) (h : DataW.Trod enc P W 0 (fun _ => true) true t v d p) : ∃ ls, HBs W v ls := by
  obtain ⟨A0, len0, cap0, rfl⟩ := okWide_slice ht hv
  obtain ⟨fuel, hfu⟩ := h
  rcases Go.Deep.open_int_rows ht he hq ce cq hfu with ⟨hcs, hx⟩ | ⟨a, len, cap, A, L, C, Z, hcs, _, hl, hm, hx, hrow⟩
  · simp only [Value.cells] at hcs
    obtain ⟨h1, h2, h3⟩ : A0 = none ∧ len0 = 0 ∧ cap0 = 0 := by simpa using hcs
    subst h1; subst h2; subst h3
    exact ⟨[], none, 0, rfl, Nat.le_refl _, by simp [maxLen], fun _ => rfl, fun h => absurd rfl h⟩
  · simp only [Value.cells] at hcs
    obtain ⟨h1, h2, h3⟩ : A0 = some a ∧ len0 = len ∧ cap0 = cap := by simpa using hcs
    subst h1; subst h2; subst h3
    refine ⟨(List.range len0).map fun r => ((Z r).take (L r)).map u8of, some a, cap0, by simp, by simpa using hl, hm, (fun h => by cases h), fun h0 => ?_⟩
    have hl0 : 0 < len0 := by
      rcases Nat.eq_zero_or_pos len0 with h | h
      · subst h; simp at h0
      · exact h
    have hs := spot_none (hrow 0 (by omega)).1
    obtain ⟨b, o, sp⟩ := a
    simp only at hs; subst hs
    refine ⟨b, o, rfl, fun i l hx => ?_⟩
    rw [List.getElem?_map] at hx
    by_cases hi : i < len0
    · simp [hi] at hx; subst hx
      obtain ⟨h1, h2, h3, h4, h5, h6, h7⟩ := hrow i (by omega)
      rw [addi] at h1
      have h8 := hb_of_cells (w := W) h2 h3 h4 h5 h6 (fun a' ha c hc => (h7 a' ha).2 c hc)
      rw [List.map_take] at h8
      exact ⟨_, h1, h8⟩
    · simp [hi] at hx
end
/-- a number of sixteen bits that came in -/
theorem u16_of {a : Int} (w : (Lit.int .u16 a).wf = true) : ∃ x : Nat, a = (x : Int) ∧ x < 65536 := by
  have h := bounds_u16 w
  exact ⟨a.toNat, by omega, by omega⟩
theorem u32_of {a : Int} (w : (Lit.int .u32 a).wf = true) : ∃ x : UInt32, a = (x.toNat : Int) := by
  have h := bounds_u32 w
  refine ⟨UInt32.ofNat a.toNat, ?_⟩
  simp only [UInt32.toNat_ofNat', Nat.reducePow]
  omega
end Go.Proofs.YtomfpffooaejoaaDoor
