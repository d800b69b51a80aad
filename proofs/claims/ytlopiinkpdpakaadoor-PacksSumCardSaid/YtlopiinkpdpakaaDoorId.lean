/-
  Slices of digests; rows of digests of the call's own.
-/
import Derived.Test.YtlopiinkpdpakaaDoorPfP
import Derived.Test.YtlopiinkpdpakaaDoorGA
import Derived.Test.YtlopiinkpdpakaaDoorGB
import Derived.Test.YtlopiinkpdpakaaDoorGE
namespace Go.Proofs.YtlopiinkpdpakaaDoor
open Go Go.RowKit
set_option linter.unusedSimpArgs false
set_option linter.unusedVariables false

theorem infoId : ∃ i, Tryd.prog.info? 36 = some i ∧ i.zero = some (.agg (bvs (List.replicate 32 0))) ∧ i.size = 32 ∧ i.bytes = 32 := by
  have h : (Tryd.prog.info? 36).map (fun i => (i.zero, i.size, i.bytes)) = some (some (.agg (bvs (List.replicate 32 0))), 32, 32) := by kernel_rfl
  obtain ⟨i, hi, he⟩ := Option.map_eq_some_iff.1 h
  simp only [Prod.mk.injEq] at he
  exact ⟨i, hi, he.1, he.2.1, he.2.2⟩
theorem zeroId_cells : (Value.agg (bvs (List.replicate 32 0))).cells.size = 32 := by rfl
/-- v is a slice of the digests ds -/
def IdS (w : World) (v : Value) (ds : List Dig) : Prop :=
  (∀ d ∈ ds, d.length = 32) ∧ ∃ p cap, v = .slice p ds.length cap ∧ ds.length ≤ cap ∧ cap ≤ maxLen ∧ (p = none → cap = 0) ∧ (ds ≠ [] → ∃ b o, p = some ⟨b, o, none⟩ ∧ ∀ (i : Nat) (d : Dig), ds[i]? = some d → w.rangeAt b (o + i * 32) (d.map bcv))
theorem range_keep {w w' : World} {b o : Nat} {l : List Value} (h : w.rangeAt b o l) (hb : Below w.heap.size w w') : w'.rangeAt b o l := fun j v hv => (hb.cell (block_lt_of_cell (h j v hv))).trans (h j v hv)
theorem range_lt {w : World} {b o : Nat} {d : Dig} (h : w.rangeAt b o (d.map bcv)) (hd : d.length = 32) : b < w.heap.size := by
  have hx : (d.map bcv)[0]? = some (bcv (at8 d 0)) := by rw [List.getElem?_map, at8_get (by omega)]; rfl
  exact lt_of_cell (h 0 _ hx)
theorem IdS.dig {w : World} {v : Value} {ds : List Dig} (h : IdS w v ds) : ∀ d ∈ ds, d.length = 32 := h.1
theorem IdS.keep {w w' : World} {v : Value} {ds : List Dig} (h : IdS w v ds) (hb : Below w.heap.size w w') : IdS w' v ds := by
  obtain ⟨hd, p, cap, hv, hl, hm, hn, hc⟩ := h
  refine ⟨hd, p, cap, hv, hl, hm, hn, fun h0 => ?_⟩
  obtain ⟨b, o, hp, hc2⟩ := hc h0
  exact ⟨b, o, hp, fun i d hx => range_keep (hc2 i d hx) hb⟩
theorem IdS.form {w : World} {v : Value} {ds : List Dig} (h : IdS w v ds) : ∃ p cap, v = .slice p ds.length cap ∧ ds.length ≤ cap ∧ cap ≤ maxLen := by
  obtain ⟨_, p, cap, hv, hl, hm, _⟩ := h
  exact ⟨p, cap, hv, hl, hm⟩
theorem IdS.at_ {w : World} {p : Option Addr} {n c : Nat} {ds : List Dig} (h : IdS w (.slice p n c) ds) (h0 : 0 < n) : ∃ b o, p = some ⟨b, o, none⟩ ∧ ∀ (i : Nat) (d : Dig), ds[i]? = some d → d.length = 32 ∧ w.rangeAt b (o + i * 32) (d.map bcv) := by
  obtain ⟨hd, p', cap, hv, hl, hm, hn, hc⟩ := h
  injection hv with h1 h2 h3
  subst h1
  obtain ⟨b, o, hp, hc2⟩ := hc (List.length_pos_iff.1 (by omega))
  exact ⟨b, o, hp, fun i d hi => ⟨hd d (List.mem_of_getElem? hi), hc2 i d hi⟩⟩
theorem IdS.nil (w : World) : IdS w (.slice none 0 0) [] := ⟨fun d h => by simp at h, none, 0, rfl, Nat.le_refl _, by simp [maxLen], fun _ => rfl, fun h => absurd rfl h⟩
theorem flat_at : ∀ (ds : List Dig), (∀ d ∈ ds, d.length = 32) → ∀ (i j : Nat) (d : Dig), ds[i]? = some d → j < 32 → ds.flatten[i * 32 + j]? = d[j]?
  | [], _, i, j, d, h, _ => by simp at h
  | x :: r, hd, 0, j, d, h, hj => by
    simp at h; subst h
    have hx := hd x (by simp)
    rw [List.flatten_cons, List.getElem?_append_left (by omega)]
    congr 1; omega
  | x :: r, hd, i + 1, j, d, h, hj => by
    have hx := hd x (by simp)
    rw [List.flatten_cons, List.getElem?_append_right (by omega), hx, show (i + 1) * 32 + j - 32 = i * 32 + j by omega]
    exact flat_at r (fun y hy => hd y (by simp [hy])) i j d (by simpa using h) hj
theorem flat_length : ∀ (ds : List Dig), (∀ d ∈ ds, d.length = 32) → ds.flatten.length = ds.length * 32
  | [], _ => rfl
  | x :: r, hd => by
    rw [List.flatten_cons, List.length_append, flat_length r (fun y hy => hd y (by simp [hy])), hd x (by simp), List.length_cons]; omega
/-- a row of digests of the call's own -/
def IdR (w : World) (base : Nat) (v : Value) (n : Nat) (ds : List Dig) : Prop := w.ownsRow base 36 32 v n (ds.flatten.map bcv) ∧ ds.length = n ∧ ∀ d ∈ ds, d.length = 32
theorem IdR.nil (w : World) (base : Nat) : IdR w base (.slice none 0 0) 0 [] := ⟨World.ownsRow_nil _ _ _ _, rfl, fun d h => by simp at h⟩
theorem own_below' {w w' : World} {base n size : Nat} {e : TypeId} {v : Value} {xs : List Value} (h : w.ownsRow base e size v n xs) (hb : Below w.heap.size w w') : w'.ownsRow base e size v n xs := own_below h hb
theorem IdR.keep {w w' : World} {base n : Nat} {v : Value} {ds : List Dig} (h : IdR w base v n ds) (hb : Below w.heap.size w w') : IdR w' base v n ds := ⟨own_below h.1 hb, h.2⟩
theorem IdR.base {w : World} {base base' n : Nat} {v : Value} {ds : List Dig} (h : IdR w base v n ds) (hb : base' ≤ base) : IdR w base' v n ds := ⟨own_base h.1 hb, h.2⟩
theorem IdR.form {w : World} {base n : Nat} {v : Value} {ds : List Dig} (h : IdR w base v n ds) : ∃ A c, v = .slice A n c := own_form h.1
theorem IdR.ids {w : World} {base n : Nat} {v : Value} {ds : List Dig} (h : IdR w base v n ds) : IdS w v ds := by
  obtain ⟨ho, hl, hd⟩ := h
  refine ⟨hd, ?_⟩
  rcases id ho.2 with ⟨rfl, h0⟩ | ⟨g, cap, cur, rfl, hb, hg, hc, hm, hs, ht⟩
  · subst h0
    have : ds = [] := List.eq_nil_of_length_eq_zero hl
    subst this
    exact ⟨none, 0, rfl, Nat.le_refl _, by simp [maxLen], fun _ => rfl, fun h => absurd rfl h⟩
  · refine ⟨_, cap, by rw [hl], by omega, hm, (fun h => by cases h), fun h0 => ⟨g, 0, rfl, fun i d hi j u hu => ?_⟩⟩
    rw [List.getElem?_map] at hu
    obtain ⟨x, hx, rfl⟩ := Option.map_eq_some_iff.1 hu
    have hdl := hd d (List.mem_of_getElem? hi)
    have hj : j < 32 := by have := (List.getElem?_eq_some_iff.1 hx).1; omega
    have hf := flat_at ds hd i j d hi hj
    have hcell := World.ownsRow.cells ho rfl (i * 32 + j) (bcv x) (by rw [List.getElem?_map, hf, hx]; rfl)
    rw [addi] at hcell
    rw [show 0 + i * 32 + j = 0 + (i * 32 + j) by omega]
    exact hcell
theorem IdR.snoc {w : World} {base n : Nat} {v : Value} {ds : List Dig} {d : Dig} (h : w.ownsRow base 36 32 v (n + 1) (ds.flatten.map bcv ++ d.map bcv)) (hl : ds.length = n) (hds : ∀ x ∈ ds, x.length = 32) (hd : d.length = 32) : IdR w base v (n + 1) (ds ++ [d]) := by
  refine ⟨?_, by simp [hl], fun x hx => ?_⟩
  · rw [List.flatten_append, List.map_append]
    simpa using h
  · rcases List.mem_append.1 hx with hx | hx
    · exact hds x hx
    · simp at hx; rw [hx]; exact hd
/-- a new row of one digest, to be appended -/
theorem news_id {w : World} {g : Nat} {t : TypeId} {d : Dig} (h : Blk w g t (bvs d)) : ∀ (j : Nat) (u : Value), (d.map bcv)[j]? = some u → w.cell? ((⟨g, 0, none⟩ : Addr).add j) = some u := by
  intro j u hu
  rw [addi, Nat.zero_add, h.cell j]
  simpa [bvs] using hu
theorem one_bcv (d : List UInt8) : ∀ u ∈ d.map bcv, u.oneCell' = true := fun u hu => by obtain ⟨x, _, rfl⟩ := List.mem_map.1 hu; rfl
end Go.Proofs.YtlopiinkpdpakaaDoor
