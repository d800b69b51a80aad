/-
  Two sides and what the document holds for them: the state of a play.
-/
import Derived.Test.YtlkhbfafednegaaDoorSr3
import Derived.Test.YtlkhbfafednegaaDoorSr
import Derived.Test.YtlkhbfafednegaaDoorSo2
import Derived.Test.YtlkhbfafednegaaDoorOpA
namespace Go.Proofs.YtlkhbfafednegaaDoor
open Go Go.RowKit
set_option linter.unusedSimpArgs false
set_option linter.unusedVariables false

/-- a side's state: how many were sent, the window -/
abbrev SidV := Nat × UInt64 × UInt64
def setK (f : Nat → SidV) (K : Nat) (x : SidV) : Nat → SidV := fun i => if i = K then x else f i
theorem setK_same (f : Nat → SidV) (K : Nat) (x : SidV) : setK f K x K = x := if_pos rfl
theorem setK_other (f : Nat → SidV) {K i : Nat} (x : SidV) (h : i ≠ K) : setK f K x i = f i := if_neg h
def sideC (k : List UInt8) (i : Nat) (x : SidV) : Array Value := sesC k ((i : Nat) : Int) ((1 - i : Nat) : Int) x.1 x.2.1 x.2.2
theorem sideC_size {k : List UInt8} {i : Nat} {x : SidV} (hk : k.length = 32) : (sideC k i x).size = 37 := sesC_size hk
theorem sideC_one (k : List UInt8) (i : Nat) (x : SidV) : (sideC k i x).all (·.oneCell') = true := sesC_one _ _ _ _ _ _

/-- the state of a play: the key's block, the sides, the document's sides -/
structure Bg (w W : World) (key dk : List UInt8) (g : Nat → Nat) (gs gm : Nat) (f h : Nat → SidV) : Prop where
  hkey : Blk W w.heap.size 23 (bvs key)
  hses : ∀ i, i < 2 → Ses W (g i) dk ((i : Nat) : Int) ((1 - i : Nat) : Int) (f i).1 (f i).2.1 (f i).2.2
  hptr : Blk W gs 27 #[.pointer (some ⟨g 0, 0, none⟩), .pointer (some ⟨g 1, 0, none⟩)]
  hm : ∃ cs, Blk W gm 38 cs ∧ cs.size = 74
  hr : ∀ i, i < 2 → W.rangeAt gm (i * 37) (sideC key i (h i)).toList
  hb : Below w.heap.size w W
  hge : (∀ i, i < 2 → w.heap.size ≤ g i) ∧ w.heap.size ≤ gm ∧ w.heap.size ≤ gs
  hne : g 0 ≠ g 1

section
variable {w W W' : World} {key dk : List UInt8} {g : Nat → Nat} {gs gm : Nat} {f h : Nat → SidV}
theorem Bg.below (H : Bg w W key dk g gs gm f h) (hb : Below W.heap.size W W') : Bg w W' key dk g gs gm f h := by
  obtain ⟨cs, h1, h2⟩ := H.hm
  exact ⟨H.hkey.below hb H.hkey.lt, fun i hi => (H.hses i hi).below hb (H.hses i hi).lt, H.hptr.below hb H.hptr.lt, ⟨cs, h1.below hb h1.lt, h2⟩, fun i hi => range_below (H.hr i hi) hb, H.hb.trans (hb.mono H.hb.size), H.hge, H.hne⟩
theorem range_grown {W W' : World} {j b o : Nat} {l : List Value} (h : W.rangeAt b o l) (hG : W.grownBy W' (some j)) (hne : b ≠ j) : W'.rangeAt b o l := fun i v hv => (cell_grown (p := ⟨b, o + i, none⟩) hG (lt_of_cell (h i v hv)) hne).trans (h i v hv)
theorem Bg.ses (H : Bg w W key dk g gs gm f h) {K : Nat} (hK : K < 2) {n : Nat} {t b : UInt64} (hG : W.grownBy W' (some (g K))) (hS : Ses W' (g K) dk ((K : Nat) : Int) ((1 - K : Nat) : Int) n t b) : Bg w W' key dk g gs gm (setK f K (n, t, b)) h := by
  obtain ⟨cs, h1, h2⟩ := H.hm
  have hs := H.hses K hK
  refine ⟨H.hkey.grown hG (fun e => by injection e with e; exact blk_ne H.hkey hs (by decide) e), fun i hi => ?_, H.hptr.grown hG (fun e => by injection e with e; exact blk_ne H.hptr hs (by decide) e), ⟨cs, h1.grown hG (fun e => by injection e with e; exact blk_ne h1 hs (by decide) e), h2⟩, fun i hi => range_grown (H.hr i hi) hG (blk_ne h1 hs (by decide)), H.hb.grown hG H.hb.size (fun j hj => by injection hj with hj; have := H.hge.1 K hK; omega), H.hge, H.hne⟩
  by_cases e : i = K
  · subst e
    rw [setK_same]; exact hS
  · rw [setK_other _ _ e]
    refine (H.hses i hi).grown hG (fun e2 => ?_)
    injection e2 with e2
    have h3 := H.hne
    have : (i = 0 ∧ K = 1) ∨ (i = 1 ∧ K = 0) := by omega
    rcases this with ⟨rfl, rfl⟩ | ⟨rfl, rfl⟩
    · exact h3 e2
    · exact h3 e2.symm
theorem Bg.moved (H : Bg w W key dk g gs gm f h) {h' : Nat → SidV} (hG : W.grownBy W' (some gm)) (hm : ∃ cs, Blk W' gm 38 cs ∧ cs.size = 74) (hr : ∀ i, i < 2 → W'.rangeAt gm (i * 37) (sideC key i (h' i)).toList) : Bg w W' key dk g gs gm f h' := by
  obtain ⟨cs, h1, h2⟩ := H.hm
  exact ⟨H.hkey.grown hG (fun e => by injection e with e; exact blk_ne H.hkey h1 (by decide) e), fun i hi => (H.hses i hi).grown hG (fun e => by injection e with e; exact blk_ne (H.hses i hi) h1 (by decide) e), H.hptr.grown hG (fun e => by injection e with e; exact blk_ne H.hptr h1 (by decide) e), hm, hr, H.hb.grown hG H.hb.size (fun j hj => by injection hj with hj; have := H.hge.2.1; omega), H.hge, H.hne⟩
theorem Bg.there (H : Bg w W key dk g gs gm f h) {K : Nat} (hK : K < 2) : W.there gm (K * 37) 37 := by
  obtain ⟨cs, h1, h2⟩ := H.hm
  intro j hj
  exact ⟨by rw [h1.cell, Array.getElem?_eq_getElem (by omega)]; rfl, h1.frozen _⟩
theorem Bg.mset (H : Bg w W key dk g gs gm f h) {K : Nat} (hK : K < 2) (hk : key.length = 32) (x : SidV) : Bg w (W.setCells gm (K * 37) (sideC key K x).toList) key dk g gs gm f (setK h K x) ∧ W.grownBy (W.setCells gm (K * 37) (sideC key K x).toList) (some gm) ∧ (W.setCells gm (K * 37) (sideC key K x).toList).heap.size = W.heap.size := by
  obtain ⟨cs, h1, h2⟩ := H.hm
  have hz : (sideC key K x).toList.length = 37 := by rw [Array.length_toList]; exact sideC_size hk
  obtain ⟨⟨cs', h3, h4, h5⟩, hG, hh⟩ := setCells_heap gm 38 (sideC key K x).toList (K * 37) W cs h1
  refine ⟨H.moved hG ⟨cs', h3, by omega⟩ (fun i hi => ?_), hG, hh⟩
  by_cases e : i = K
  · subst e
    rw [setK_same]
    exact World.rangeAt_setCells_same W gm (i * 37) _ (by rw [hz]; exact H.there hi)
  · rw [setK_other _ _ e]
    refine World.rangeAt_setCells_apart (H.hr i hi) gm (K * 37) _ (.inr ?_)
    rw [hz, Array.length_toList, sideC_size hk]
    omega
theorem Bg.mcell (H : Bg w W key dk g gs gm f h) {K : Nat} (hK : K < 2) (hk : key.length = 32) : W.cell? ⟨gm, K * 37 + 34, none⟩ = some (.int .u64 ((h K).1 : Int)) :=
  H.hr K hK 34 _ (by rw [Array.getElem?_toList]; exact (sesC_at hk).2.2.1)
theorem Bg.mfroz (H : Bg w W key dk g gs gm f h) (j : Nat) : W.frozen? ⟨gm, j, none⟩ = false := by
  obtain ⟨cs, h1, h2⟩ := H.hm
  exact h1.frozen _
theorem Bg.ptr (H : Bg w W key dk g gs gm f h) {K : Nat} (hK : K < 2) : W.cell? ⟨gs, K, none⟩ = some (.pointer (some ⟨g K, 0, none⟩)) := by
  rw [H.hptr.cell]
  have : K = 0 ∨ K = 1 := by omega
  rcases this with rfl | rfl <;> rfl
theorem Bg.msent (H : Bg w W key dk g gs gm f h) {K : Nat} (hK : K < 2) (hk : key.length = 32) (n : Nat) : Bg w (W.setCell ⟨gm, K * 37 + 34, none⟩ (.int .u64 (n : Int))) key dk g gs gm f (setK h K (n, (h K).2)) := by
  obtain ⟨cs, h1, h2⟩ := H.hm
  have hG : W.grownBy (W.setCell ⟨gm, K * 37 + 34, none⟩ (.int .u64 (n : Int))) (some gm) := Only.store (World.grownBy.refl W (some gm)) (.inl rfl) _
  refine H.moved hG ⟨_, h1.store _ _, by rw [Array.size_setIfInBounds]; exact h2⟩ (fun i hi => ?_)
  intro j v hv
  have hj : j < 37 := by have := (List.getElem?_eq_some_iff.1 hv).1; rw [Array.length_toList, sideC_size hk] at this; exact this
  rw [(h1.store (K * 37 + 34) (.int .u64 (n : Int))).cell, Array.getElem?_setIfInBounds]
  have hold : ∀ u, (sideC key i (h i)).toList[j]? = some u → cs[i * 37 + j]? = some u := fun u hu => by
    have := H.hr i hi j u hu
    rwa [h1.cell] at this
  rw [Array.getElem?_toList] at hv
  by_cases e : i = K
  · subst e
    rw [setK_same] at hv
    unfold sideC sesC at hv hold
    have hm : (key.map bcv).length = 32 := by rw [List.length_map]; exact hk
    by_cases e2 : j = 34
    · subst e2
      rw [if_pos rfl, if_pos (by omega)]
      rw [List.getElem?_toArray, List.getElem?_append_right (by omega), hm] at hv
      exact hv
    · rw [if_neg (by omega)]
      refine hold v ?_
      rw [List.getElem?_toArray] at hv
      by_cases e3 : j < 32
      · rw [List.getElem?_append_left (by omega)] at hv ⊢
        exact hv
      · rw [List.getElem?_append_right (by omega), hm] at hv ⊢
        have : j = 32 ∨ j = 33 ∨ j = 35 ∨ j = 36 := by omega
        rcases this with rfl | rfl | rfl | rfl <;> exact hv
  · rw [setK_other _ _ e] at hv
    rw [if_neg (by omega)]
    refine hold v ?_
    rw [Array.getElem?_toList]
    exact hv
theorem Bg.row (H : Bg w W key dk g gs gm f h) {base n : Nat} {v : Value} {vs : List Value} (ho : W.ownsRow base 9 1 v n vs) (hge : w.heap.size ≤ base) (hG : W.grownBy W' v.ownBlock) : Bg w W' key dk g gs gm f h := by
  have ht := (own_turn ho hG (by decide)).2
  obtain ⟨cs, h1, h2⟩ := H.hm
  refine ⟨ht _ _ _ H.hkey (by decide), fun i hi => ht _ _ _ (H.hses i hi) (by decide), ht _ _ _ H.hptr (by decide), ⟨cs, ht _ _ _ h1 (by decide), h2⟩, fun i hi => ?_, H.hb.grown hG H.hb.size (fun j hj => by have := own_ge ho j hj; omega), H.hge, H.hne⟩
  intro j v hv
  rw [(ht _ _ _ h1 (by decide)).cell, ← h1.cell]
  exact H.hr i hi j v hv
theorem StrR.grown {W W' : World} {base n j : Nat} {v : Value} {ls : List (List UInt8)} {t : TypeId} {cs : Array Value} (h : StrR W base v n ls) (hG : W.grownBy W' (some j)) (hj : Blk W j t cs) (ht : t ≠ 9) : StrR W' base v n ls :=
  World.ownsRow.kept h hG (.inr (fun e => own_ne_blk h hj ht.symm e.symm))
end
end Go.Proofs.YtlkhbfafednegaaDoor
