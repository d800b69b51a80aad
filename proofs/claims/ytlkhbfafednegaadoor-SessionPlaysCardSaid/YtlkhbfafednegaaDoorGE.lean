/-
  Whole arrays loaded where a guard lets it.
-/
/-
  Bytes ahead of other cells in a block of the call's own; two rows of bytes mixed at a place.
-/
/-
  Known bytes are laid behind a row of the call's own; the row may be none, the bytes too. No program is named here.
-/
import Derived.Test.YtlkhbfafednegaaDoorGA
import Derived.Laws.AppendOwnNone
namespace Go.Proofs.YtlkhbfafednegaaDoor
open Go Go.RowKit
/-- a whole array is loaded out of a block that is known, where a guard lets it -/
theorem wpList_load_blk_g {P : Program} {ops : Array Oper} {rest : List Oper} {o : Oper} {a : Act} {w : World} {Q : Exit → Act → World → Prop} (hw : Region.wanted o (yielded ops a.tmps) = true) (ty : TypeId) (x : Operand) (ho : o.op = .load ty x) (g : Nat) (t : TypeId) (cs : Array Value)
    (hx : a.eval x = .pointer (some ⟨g, 0, none⟩)) (hb : Blk w g t cs) {d : TypeDesc} (hu : P.underlying ty = some d) (hd : (match d with | .struct _ | .array _ _ => true | _ => false) = true) (hi : (P.info? ty).map (·.size) = some cs.size)
    (h : wpList P ops Q rest (a.put o.dst (.agg cs)) w) : wpList P ops Q (o :: rest) a w := by
  unfold wpList
  rw [if_pos hw]
  exact .inl (wp_load_row ty x ho g hx t cs (0, 0) d hb hu hd hi h)
end Go.Proofs.YtlkhbfafednegaaDoor
namespace Go.Proofs.YtlkhbfafednegaaDoor
open Go Go.RowKit
set_option linter.unusedSimpArgs false
set_option linter.unusedVariables false

/-- the first j bytes of a, the others of b -/
def mixF (a b : List UInt8) (j : Nat) : List UInt8 := a.take j ++ b.drop j
theorem mixF_length (a b : List UInt8) (j : Nat) (h : a.length = b.length) : (mixF a b j).length = b.length := by
  simp [mixF]; omega
theorem mixF_at (a b : List UInt8) {j : Nat} (h : a.length = b.length) (hj : j < b.length) : at8 (mixF a b j) j = at8 b j := by
  simp only [at8, mixF, List.getD_eq_getElem?_getD]
  rw [List.getElem?_append_right (by simp; omega)]
  simp [show min j a.length = j by omega]
theorem mixF_set (a b : List UInt8) {j : Nat} (h : a.length = b.length) (hj : j < b.length) : (mixF a b j).set j (at8 a j) = mixF a b (j + 1) := by
  apply ext8
  · rw [List.length_set, mixF_length _ _ _ h, mixF_length _ _ _ h]
  · intro i hi
    rw [List.length_set, mixF_length _ _ _ h] at hi
    simp only [at8, mixF, List.getD_eq_getElem?_getD]
    rw [List.getElem?_set]
    by_cases e : j = i
    · subst e
      have hl : j < (a.take j ++ b.drop j).length := by simp; omega
      rw [if_pos rfl, if_pos hl, List.getElem?_append_left (by simp; omega), List.getElem?_take, if_pos (by omega)]
      simp
    · rw [if_neg e]
      by_cases h2 : i < j
      · rw [List.getElem?_append_left (by simp; omega), List.getElem?_append_left (by simp; omega), List.getElem?_take, if_pos h2, List.getElem?_take, if_pos (by omega)]
      · rw [List.getElem?_append_right (by simp; omega), List.getElem?_append_right (by simp; omega)]
        simp only [List.length_take, List.getElem?_drop, show min j a.length = j by omega, show min (j + 1) a.length = j + 1 by omega]
        congr 2; omega
theorem mixF_zero (a b : List UInt8) : mixF a b 0 = b := by simp [mixF]
theorem mixF_all (a b : List UInt8) {j : Nat} (h : a.length = b.length) (hj : b.length ≤ j) : mixF a b j = a := by
  simp [mixF, List.drop_eq_nil_of_le hj, List.take_of_length_le (show a.length ≤ j by omega)]

theorem HB.caps {w : World} {p : Option Addr} {n c : Nat} {l : List UInt8} (h : HB w (.slice p n c) l) : n = l.length ∧ n ≤ c ∧ c ≤ maxLen := by
  obtain ⟨p', c', e, h1, h2⟩ := h.form
  injection e with e1 e2 e3
  subst e2; subst e3
  exact ⟨rfl, h1, h2⟩
theorem at8_get {l : List UInt8} {i : Nat} (h : i < l.length) : l[i]? = some (at8 l i) := by simp [at8, List.getD, h]
/-- bytes ahead of other cells in one block -/
def bvr (l : List UInt8) (r : List Value) : Array Value := (l.map bcv ++ r).toArray
theorem bvr_at (l : List UInt8) (r : List Value) {i : Nat} (h : i < l.length) : (bvr l r)[i]? = some (.int .u8 (at8 l i).toNat) := by
  have := bvs_at l h
  simp only [bvs, List.getElem?_toArray] at this
  simp only [bvr, List.getElem?_toArray]
  rw [List.getElem?_append_left (by simpa using h)]
  exact this
theorem bvr_set (l : List UInt8) (r : List Value) {i : Nat} (x : UInt8) (h : i < l.length) : (bvr l r).setIfInBounds i (.int .u8 x.toNat) = bvr (l.set i x) r := by
  simp only [bvr, List.setIfInBounds_toArray, List.map_set]
  rw [List.set_append_left _ _ (by simpa using h)]
  rfl
theorem Blk.rbyte {w : World} {g : Nat} {t : TypeId} {l : List UInt8} {r : List Value} (h : Blk w g t (bvr l r)) {i : Nat} (hi : i < l.length) : w.cell? ⟨g, i, none⟩ = some (.int .u8 (at8 l i).toNat) := (h.cell i).trans (bvr_at l r hi)
theorem Blk.rbyte_store {w : World} {g : Nat} {t : TypeId} {l : List UInt8} {r : List Value} (h : Blk w g t (bvr l r)) {i : Nat} (x : UInt8) (hi : i < l.length) : Blk (w.setCell ⟨g, i, none⟩ (.int .u8 x.toNat)) g t (bvr (l.set i x) r) := by
  have := h.store i (.int .u8 x.toNat)
  rwa [bvr_set l r x hi] at this
theorem own_bytes {w : World} {base n : Nat} {v : Value} {l : List UInt8} (h : w.ownsRow base 5 1 v n (l.map bcv)) (hn : n = l.length) (h0 : 0 < n) : ∃ g cap r, v = .slice (some ⟨g, 0, none⟩) n cap ∧ base ≤ g ∧ n ≤ cap ∧ cap ≤ maxLen ∧ cap = n + r.length ∧ Blk w g 5 (bvr l r) := by
  obtain ⟨g, cap, cur, hv, hb, hg, hc, hm, hs, ht, hl⟩ := own_blk h h0
  refine ⟨g, cap, cur.toList.drop n, hv, hb, hc, hm, by simp; omega, hg.mk_eq ?_⟩
  apply Array.toList_inj.1
  show _ = l.map bcv ++ cur.toList.drop n
  rw [← ht, List.take_append_drop]
theorem own_bytes_mk {w : World} {base g n cap : Nat} {l : List UInt8} {r : List Value} (hb : base ≤ g) (h : Blk w g 5 (bvr l r)) (hn : n = l.length) (hc : cap = n + r.length) (hm : cap ≤ maxLen) : w.ownsRow base 5 1 (.slice (some ⟨g, 0, none⟩) n cap) n (l.map bcv) := by
  refine own_mk hb h (by omega) hm (by simp [bvr]; omega) ?_ (by simp; omega)
  simp [bvr, hn]
theorem own_hb {w : World} {base n : Nat} {v : Value} {l : List UInt8} (h : w.ownsRow base 5 1 v n (l.map bcv)) (hn : n = l.length) : HB w v l := by
  rcases Nat.eq_zero_or_pos n with h0 | h0
  · have hl : l = [] := List.eq_nil_of_length_eq_zero (by omega)
    subst hl
    subst h0
    rcases h.2 with ⟨rfl, _⟩ | ⟨g, cap, cur, rfl, _, _, _, hm, _⟩
    · exact HB.nil w
    · exact HB.empty w _ cap hm (fun h => by cases h)
  · obtain ⟨g, cap, r, rfl, hb, hc, hm, hr, hg⟩ := own_bytes h hn h0
    subst hn
    refine ⟨_, cap, rfl, hc, hm, (fun h => by cases h), fun _ => ⟨g, 0, rfl, fun i x hx => ?_⟩⟩
    have hi := (List.getElem?_eq_some_iff.1 hx).1
    rw [Nat.zero_add, hg.rbyte hi]
    have e : at8 l i = x := by simp [at8, List.getD, hx]
    rw [e]
end Go.Proofs.YtlkhbfafednegaaDoor
namespace Go.Proofs.YtlkhbfafednegaaDoor
open Go Go.RowKit

section
variable {P : Program} {ops : Array Oper} {rest : List Oper} {o : Oper} {a : Act} {w : World} {Q : Exit → Act → World → Prop}
theorem wpList_append_hb (hgd : o.guard = none) (s x : Operand) (t : TypeId)
    (ho : o.op = .call { callee := .builtin .append, args := #[s, x], argTypes := #[t, t] })
    (base : Nat) (e : TypeId) (i : TypeInfo) (ht : P.underlying t = some (.slice e)) (hi : P.info? e = some i) (hz : i.zero = some (.int .u8 0)) (hsize : i.size = 1) (hby : i.bytes = 1)
    (v u : Value) (l m : List UInt8) (n : Nat) (hs : a.eval s = v) (hown : w.ownsRow base e 1 v n (l.map bcv)) (hx : a.eval x = u) (hm : HB w u m)
    (hle : n + m.length ≤ 140737488355328) (hbase : base ≤ w.heap.size)
    (h : ∀ v' w', w'.ownsRow base e 1 v' (n + m.length) ((l ++ m).map bcv) → w.grownBy w' v.ownBlock → wpList P ops Q rest (a.put o.dst v') w') : wpList P ops Q (o :: rest) a w := by
  obtain ⟨p, cap, rfl, hlc, hcm, hnc, hcell⟩ := hm
  have h1 : ∀ y ∈ m.map bcv, y.oneCell' = true := fun y hy => by obtain ⟨z, _, rfl⟩ := List.mem_map.1 hy; rfl
  cases p with
  | none =>
    have h0 := hnc rfl
    have hm0 : m = [] := List.eq_nil_of_length_eq_zero (by omega)
    subst hm0
    subst h0
    refine wpList_append_own_none hgd s x t ho base e i 1 ht hi v n _ hs hown hx (h v w ?_ (World.grownBy.refl w _))
    simpa using hown
  | some ad =>
    refine wpList_append_own w hgd s x t ho base e i (.int .u8 0) 1 1 ht hi hz hsize hby rfl (by decide) v n _ hs hown ad m.length cap (m.map bcv) hx (by simp) (fun j y hj => ?_) h1 (by simp only [maxLen]; omega) (by omega) hbase (fun v' w' h2 h3 _ => h v' w' (by rw [List.map_append]; exact h2) h3)
    rw [List.getElem?_map] at hj
    obtain ⟨z, hz, rfl⟩ := Option.map_eq_some_iff.1 hj
    obtain ⟨b, q, hp, hc⟩ := hcell (ne_nil_of_get hz)
    injection hp with hp; subst hp
    rw [addi]; exact hc j z hz
end
/-- a new row of one byte -/
theorem own_new1 (w : World) (e : TypeId) (x : UInt8) : (w.alloc (.cells #[.int .u8 (x.toNat : Int)] e)).ownsRow w.heap.size e 1 (.slice (some ⟨w.heap.size, 0, none⟩) 1 1) 1 ([x].map bcv) := by
  refine ⟨rfl, .inr ⟨w.heap.size, 1, #[.int .u8 (x.toNat : Int)], rfl, Nat.le_refl _, Blk.new w _ _, Nat.le_refl _, by simp [maxLen], rfl, rfl⟩⟩
theorem hb_new1 (w : World) (e : TypeId) (x : UInt8) : HB (w.alloc (.cells #[.int .u8 (x.toNat : Int)] e)) (.slice (some ⟨w.heap.size, 0, none⟩) 1 1) [x] := HB.new w [x] e (0, 0) rfl rfl (by simp [maxLen])
end Go.Proofs.YtlkhbfafednegaaDoor
