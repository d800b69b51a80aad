/-
  RowsB of rows of bytes, each in a block of bytes, of the call's own.
-/
import Derived.Test.YtlkhbfafednegaaDoorCd2
namespace Go.Proofs.YtlkhbfafednegaaDoor
open Go Go.RowKit
set_option linter.unusedSimpArgs false
set_option linter.unusedVariables false

theorem rows_ne : 24 ≠ 5 := by decide
theorem infoRows : ∃ i, Tryd.prog.info? 24 = some i ∧ i.zero = some (.slice none 0 0) ∧ i.size = 1 ∧ i.bytes = 24 := by
  have h : (Tryd.prog.info? 24).map (fun i => (i.zero, i.size, i.bytes)) = some (some (.slice none 0 0), 1, 24) := by kernel_rfl
  obtain ⟨i, hi, he⟩ := Option.map_eq_some_iff.1 h
  simp only [Prod.mk.injEq] at he
  exact ⟨i, hi, he.1, he.2.1, he.2.2⟩

/-- v is a slice of slices of the bytes ls, in a block from base on; each one's bytes lie in a block of bytes -/
def RowsB (w : World) (base : Nat) (v : Value) (n : Nat) (ls : List (List UInt8)) : Prop :=
  ls.length = n ∧ ∃ vs, w.ownsRow base 24 1 v n vs ∧ vs.length = n ∧ ∀ (i : Nat) (u : Value) (l : List UInt8), vs[i]? = some u → ls[i]? = some l → HBT w u l
theorem RowsB.nil (w : World) (base : Nat) : RowsB w base (.slice none 0 0) 0 [] := ⟨rfl, [], World.ownsRow_nil _ _ _ _, rfl, fun i u l h => by simp at h⟩
theorem RowsB.keep {w w' : World} {base n : Nat} {v : Value} {ls : List (List UInt8)} (h : RowsB w base v n ls) (hb : Below w.heap.size w w') : RowsB w' base v n ls := by
  obtain ⟨h1, vs, h2, h3, h4⟩ := h
  exact ⟨h1, vs, own_below h2 hb, h3, fun i u l hu hl => (h4 i u l hu hl).keep hb⟩
theorem RowsB.grown {w w' : World} {base n g : Nat} {v : Value} {ls : List (List UInt8)} {t : TypeId} {cs : Array Value} (h : RowsB w base v n ls) (hb : w.grownBy w' (some g)) (hg : Blk w g t cs) (ht : t ≠ 5) (ht2 : t ≠ 24) : RowsB w' base v n ls := by
  obtain ⟨h1, vs, h2, h3, h4⟩ := h
  exact ⟨h1, vs, h2.kept hb (.inr (fun e => own_ne_blk h2 hg (Ne.symm ht2) e.symm)), h3, fun i u l hu hl => (h4 i u l hu hl).grown hb hg ht⟩
theorem RowsB.form {w : World} {base n : Nat} {v : Value} {ls : List (List UInt8)} (h : RowsB w base v n ls) : ∃ A c, v = .slice A n c := by
  obtain ⟨_, vs, h2, _⟩ := h
  exact own_form h2
theorem RowsB.base {w : World} {base base' n : Nat} {v : Value} {ls : List (List UInt8)} (h : RowsB w base v n ls) (hb : base' ≤ base) : RowsB w base' v n ls := by
  obtain ⟨h1, vs, h2, h3, h4⟩ := h
  exact ⟨h1, vs, own_base h2 hb, h3, h4⟩
/-- what a call that turns a row's own block leaves: blocks of other types -/
theorem own_turn {w w' : World} {base n : Nat} {t : TypeId} {v : Value} {vs : List Value} (ho : w.ownsRow base t 1 v n vs) (hg : w.grownBy w' v.ownBlock) (ht : t ≠ 5) :
    (∀ u l, HBT w u l → HBT w' u l) ∧ (∀ g t2 cs, Blk w g t2 cs → t2 ≠ t → Blk w' g t2 cs) := by
  rcases Nat.eq_zero_or_pos n with h0 | h0
  · subst h0
    rcases ho.2 with ⟨rfl, _⟩ | ⟨g, cap, cur, rfl, _, hh, _⟩
    · have hB : Below w.heap.size w w' := ⟨hg.os, hg.tape, hg.output, hg.size, fun i hi => hg.block i hi (by simp [Value.ownBlock])⟩
      exact ⟨fun u l h => h.keep hB, fun g t2 cs h _ => h.below hB h.lt⟩
    · have hh' : Blk w g t cur := hh
      refine ⟨fun u l h => h.grown hg hh' ht, fun g2 t2 cs h hne => h.grown hg ?_⟩
      intro e
      simp only [Value.ownBlock, Option.some.injEq] at e
      subst e
      have e2 : w.heap[g2]? = some (.cells cs t2 (0, 0)) := h
      rw [hh] at e2
      injection e2 with e2
      injection e2 with _ e2
      exact hne e2.symm
  · obtain ⟨g, cap, cur, rfl, _, hh, _⟩ := own_blk ho h0
    refine ⟨fun u l h => h.grown hg hh ht, fun g2 t2 cs h hne => h.grown hg ?_⟩
    intro e
    simp only [Value.ownBlock, Option.some.injEq] at e
    subst e
    have e2 : w.heap[g2]? = some (.cells cs t2 (0, 0)) := h
    have e3 : w.heap[g2]? = some (.cells cur t (0, 0)) := hh
    rw [e3] at e2
    injection e2 with e2
    injection e2 with _ e2
    exact hne e2.symm
/-- one more slice of bytes is laid behind -/
theorem RowsB.snoc {w w' : World} {base n : Nat} {v v' u : Value} {ls : List (List UInt8)} {l : List UInt8} {vs : List Value} (h1 : ls.length = n) (ho : w.ownsRow base 24 1 v n vs) (h3 : vs.length = n)
    (h4 : ∀ (i : Nat) (u : Value) (l : List UInt8), vs[i]? = some u → ls[i]? = some l → HBT w u l) (hu : HBT w u l) (hg : w.grownBy w' v.ownBlock) (ho' : w'.ownsRow base 24 1 v' (n + 1) (vs ++ [u])) : RowsB w' base v' (n + 1) (ls ++ [l]) := by
  have ht := (own_turn ho hg rows_ne).1
  refine ⟨by simp [h1], _, ho', by simp [h3], fun i u2 l2 hi hl => ?_⟩
  by_cases h : i < n
  · rw [List.getElem?_append_left (by omega)] at hi hl
    exact ht _ _ (h4 i u2 l2 hi hl)
  · have hi' := (List.getElem?_eq_some_iff.1 hi).1
    rw [List.length_append] at hi'
    simp only [List.length_cons, List.length_nil] at hi'
    obtain rfl : i = n := by omega
    rw [List.getElem?_append_right (by omega), h3] at hi
    rw [List.getElem?_append_right (by omega), h1] at hl
    simp at hi hl
    subst hi; subst hl
    exact ht _ _ hu
/-- a row's slices are read -/
theorem RowsB.hbs {w : World} {base n : Nat} {v : Value} {ls : List (List UInt8)} (h : RowsB w base v n ls) : HBs w v ls := by
  obtain ⟨h1, vs, h2, h3, h4⟩ := h
  rcases h2.2 with ⟨rfl, h0⟩ | ⟨g, cap, cur, rfl, hb, hg, hc, hm, hs, ht⟩
  · subst h0
    have : ls = [] := List.eq_nil_of_length_eq_zero h1
    subst this
    exact ⟨none, 0, rfl, Nat.le_refl _, by simp [maxLen], fun _ => rfl, fun h => absurd rfl h⟩
  · refine ⟨_, cap, by rw [h1], by omega, hm, (fun h => by cases h), fun h0 => ⟨g, 0, rfl, fun i l hl => ?_⟩⟩
    have hi : i < vs.length := by have := (List.getElem?_eq_some_iff.1 hl).1; omega
    have hcell := h2.cells rfl i vs[i] (List.getElem?_eq_getElem hi)
    rw [addi] at hcell
    exact ⟨vs[i], hcell, (h4 i _ l (List.getElem?_eq_getElem hi) hl).1⟩
/-- a row's slice -/
theorem RowsB.at_ {w : World} {base n c : Nat} {A : Option Addr} {ls : List (List UInt8)} (h : RowsB w base (.slice A n c) n ls) {i : Nat} {l : List UInt8} (hi : ls[i]? = some l) : ∃ g u, A = some ⟨g, 0, none⟩ ∧ w.cell? ⟨g, i, none⟩ = some u ∧ HBT w u l := by
  obtain ⟨h1, vs, h2, h3, h4⟩ := h
  have hin : i < n := by have := (List.getElem?_eq_some_iff.1 hi).1; omega
  obtain ⟨g, cap, cur, e, hb, hg, hc, hm, hs, ht, hl⟩ := own_blk h2 (by omega)
  injection e with e1 _ _
  subst e1
  have hiv : i < vs.length := by omega
  have hcell := h2.cells rfl i vs[i] (List.getElem?_eq_getElem hiv)
  rw [addi, Nat.zero_add] at hcell
  exact ⟨g, vs[i], rfl, hcell, h4 i _ l (List.getElem?_eq_getElem hiv) hi⟩
end Go.Proofs.YtlkhbfafednegaaDoor
