/-
  Bytes ahead of other cells in a block of the call's own; two rows of bytes mixed at a place.
-/
import Derived.Test.YtomfpffooaejoaaDoorCom
import Derived.Test.YtomfpffooaejoaaDoorStP
namespace Go.Proofs.YtomfpffooaejoaaDoor
open Go Go.RowKit
set_option linter.unusedSimpArgs false
set_option linter.unusedVariables false

/-- the first j bytes of a, the others of b -/
def mixF (a b : List UInt8) (j : Nat) : List UInt8 := a.take j ++ b.drop j
theorem mixF_length (a b : List UInt8) (j : Nat) (h : a.length = b.length) : (mixF a b j).length = b.length := by
  simp [mixF]; omega
theorem mixF_at (a b : List UInt8) {j : Nat} (h : a.length = b.length) (hj : j < b.length) : at8 (mixF a b j) j = at8 b j := by
  simp only [at8, mixF, List.getD_eq_getElem?_getD]
  rw [List.getElem?_append_right (by simp; omega)]
  simp [show min j a.length = j by omega]
theorem mixF_set (a b : List UInt8) {j : Nat} (h : a.length = b.length) (hj : j < b.length) : (mixF a b j).set j (at8 a j) = mixF a b (j + 1) := by
  apply ext8
  · rw [List.length_set, mixF_length _ _ _ h, mixF_length _ _ _ h]
  · intro i hi
    rw [List.length_set, mixF_length _ _ _ h] at hi
    simp only [at8, mixF, List.getD_eq_getElem?_getD]
    rw [List.getElem?_set]
    by_cases e : j = i
    · subst e
      have hl : j < (a.take j ++ b.drop j).length := by simp; omega
      rw [if_pos rfl, if_pos hl, List.getElem?_append_left (by simp; omega), List.getElem?_take, if_pos (by omega)]
      simp
    · rw [if_neg e]
      by_cases h2 : i < j
      · rw [List.getElem?_append_left (by simp; omega), List.getElem?_append_left (by simp; omega), List.getElem?_take, if_pos h2, List.getElem?_take, if_pos (by omega)]
      · rw [List.getElem?_append_right (by simp; omega), List.getElem?_append_right (by simp; omega)]
        simp only [List.length_take, List.getElem?_drop, show min j a.length = j by omega, show min (j + 1) a.length = j + 1 by omega]
        congr 2; omega
theorem mixF_zero (a b : List UInt8) : mixF a b 0 = b := by simp [mixF]
theorem mixF_all (a b : List UInt8) {j : Nat} (h : a.length = b.length) (hj : b.length ≤ j) : mixF a b j = a := by
  simp [mixF, List.drop_eq_nil_of_le hj, List.take_of_length_le (show a.length ≤ j by omega)]

theorem HB.caps {w : World} {p : Option Addr} {n c : Nat} {l : List UInt8} (h : HB w (.slice p n c) l) : n = l.length ∧ n ≤ c ∧ c ≤ maxLen := by
  obtain ⟨p', c', e, h1, h2⟩ := h.form
  injection e with e1 e2 e3
  subst e2; subst e3
  exact ⟨rfl, h1, h2⟩
theorem at8_get {l : List UInt8} {i : Nat} (h : i < l.length) : l[i]? = some (at8 l i) := by simp [at8, List.getD, h]
/-- bytes ahead of other cells in one block -/
def bvr (l : List UInt8) (r : List Value) : Array Value := (l.map bcv ++ r).toArray
theorem bvr_at (l : List UInt8) (r : List Value) {i : Nat} (h : i < l.length) : (bvr l r)[i]? = some (.int .u8 (at8 l i).toNat) := by
  have := bvs_at l h
  simp only [bvs, List.getElem?_toArray] at this
  simp only [bvr, List.getElem?_toArray]
  rw [List.getElem?_append_left (by simpa using h)]
  exact this
theorem bvr_set (l : List UInt8) (r : List Value) {i : Nat} (x : UInt8) (h : i < l.length) : (bvr l r).setIfInBounds i (.int .u8 x.toNat) = bvr (l.set i x) r := by
  simp only [bvr, List.setIfInBounds_toArray, List.map_set]
  rw [List.set_append_left _ _ (by simpa using h)]
  rfl
theorem Blk.rbyte {w : World} {g : Nat} {t : TypeId} {l : List UInt8} {r : List Value} (h : Blk w g t (bvr l r)) {i : Nat} (hi : i < l.length) : w.cell? ⟨g, i, none⟩ = some (.int .u8 (at8 l i).toNat) := (h.cell i).trans (bvr_at l r hi)
theorem Blk.rbyte_store {w : World} {g : Nat} {t : TypeId} {l : List UInt8} {r : List Value} (h : Blk w g t (bvr l r)) {i : Nat} (x : UInt8) (hi : i < l.length) : Blk (w.setCell ⟨g, i, none⟩ (.int .u8 x.toNat)) g t (bvr (l.set i x) r) := by
  have := h.store i (.int .u8 x.toNat)
  rwa [bvr_set l r x hi] at this
theorem own_bytes {w : World} {base n : Nat} {v : Value} {l : List UInt8} (h : w.ownsRow base 5 1 v n (l.map bcv)) (hn : n = l.length) (h0 : 0 < n) : ∃ g cap r, v = .slice (some ⟨g, 0, none⟩) n cap ∧ base ≤ g ∧ n ≤ cap ∧ cap ≤ maxLen ∧ cap = n + r.length ∧ Blk w g 5 (bvr l r) := by
  obtain ⟨g, cap, cur, hv, hb, hg, hc, hm, hs, ht, hl⟩ := own_blk h h0
  refine ⟨g, cap, cur.toList.drop n, hv, hb, hc, hm, by simp; omega, hg.mk_eq ?_⟩
  apply Array.toList_inj.1
  show _ = l.map bcv ++ cur.toList.drop n
  rw [← ht, List.take_append_drop]
theorem own_bytes_mk {w : World} {base g n cap : Nat} {l : List UInt8} {r : List Value} (hb : base ≤ g) (h : Blk w g 5 (bvr l r)) (hn : n = l.length) (hc : cap = n + r.length) (hm : cap ≤ maxLen) : w.ownsRow base 5 1 (.slice (some ⟨g, 0, none⟩) n cap) n (l.map bcv) := by
  refine own_mk hb h (by omega) hm (by simp [bvr]; omega) ?_ (by simp; omega)
  simp [bvr, hn]
theorem own_hb {w : World} {base n : Nat} {v : Value} {l : List UInt8} (h : w.ownsRow base 5 1 v n (l.map bcv)) (hn : n = l.length) : HB w v l := by
  rcases Nat.eq_zero_or_pos n with h0 | h0
  · have hl : l = [] := List.eq_nil_of_length_eq_zero (by omega)
    subst hl
    subst h0
    rcases h.2 with ⟨rfl, _⟩ | ⟨g, cap, cur, rfl, _, _, _, hm, _⟩
    · exact HB.nil w
    · exact HB.empty w _ cap hm (fun h => by cases h)
  · obtain ⟨g, cap, r, rfl, hb, hc, hm, hr, hg⟩ := own_bytes h hn h0
    subst hn
    refine ⟨_, cap, rfl, hc, hm, (fun h => by cases h), fun _ => ⟨g, 0, rfl, fun i x hx => ?_⟩⟩
    have hi := (List.getElem?_eq_some_iff.1 hx).1
    rw [Nat.zero_add, hg.rbyte hi]
    have e : at8 l i = x := by simp [at8, List.getD, hx]
    rw [e]
end Go.Proofs.YtomfpffooaejoaaDoor
