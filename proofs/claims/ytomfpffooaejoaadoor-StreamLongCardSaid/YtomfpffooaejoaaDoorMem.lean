/-
  What is used by all walks of this seat: blocks that are known whole, frames, small facts on results. No program is named here.
-/
import Derived.WalkKit
import Derived.WalkSpells
import Derived.WalkLawsBesides
import Derived.Lib.Hide
import Derived.Deep.Draws
import Derived.Deep.QuietTactic
import Derived.BigQuiet
import Derived.Deep.MidRow
namespace Go.Proofs.YtomfpffooaejoaaDoor
open Go Go.RowKit

/-- Block g of w is just the cells cs of element type t; none may not be written. -/
def Blk (w : World) (g : Nat) (t : TypeId) (cs : Array Value) : Prop := w.heap[g]? = some (.cells cs t (0, 0))

section
variable {w w' : World} {g : Nat} {t : TypeId} {cs : Array Value}
theorem Blk.lt (h : Blk w g t cs) : g < w.heap.size := (Array.getElem?_eq_some_iff.1 h).1
theorem Blk.cell (h : Blk w g t cs) (i : Nat) : w.cell? ⟨g, i, none⟩ = cs[i]? := by
  have e : w.heap[g]? = some (.cells cs t (0, 0)) := h
  simp [World.cell?, e]
theorem Blk.frozen (h : Blk w g t cs) (i : Nat) : w.frozen? ⟨g, i, none⟩ = false := by
  have e : w.heap[g]? = some (.cells cs t (0, 0)) := h
  simp [World.frozen?, e]
theorem Blk.new (w : World) (t : TypeId) (cs : Array Value) : Blk (w.alloc (.cells cs t)) w.heap.size t cs := heap_alloc_new w _
theorem Blk.new' {w : World} {g : Nat} (e : w.heap.size = g) (t : TypeId) (cs : Array Value) : Blk (w.alloc (.cells cs t)) g t cs := e ▸ Blk.new w t cs
theorem Blk.alloc (h : Blk w g t cs) (o : Obj) : Blk (w.alloc o) g t cs := (Below.heap_alloc w o g h.lt).trans h
theorem Blk.drew (h : Blk w g t cs) : Blk w.drew g t cs := h
theorem Blk.drewN (h : Blk w g t cs) (n : Nat) : Blk (w.drewN n) g t cs := h
theorem Blk.store (h : Blk w g t cs) (i : Nat) (u : Value) : Blk (w.setCell ⟨g, i, none⟩ u) g t (cs.setIfInBounds i u) := by
  have e : w.heap[g]? = some (.cells cs t (0, 0)) := h
  show (w.setCell _ u).heap[g]? = _
  simp [World.setCell, Array.getElem?_modify, e]
theorem Blk.other (h : Blk w g t cs) {p : Addr} (hp : g ≠ p.block) (u : Value) : Blk (w.setCell p u) g t cs := (Below.heap_setCell w p u g hp).trans h
theorem Blk.below {B : Nat} (h : Blk w g t cs) (hb : Below B w w') (hg : g < B) : Blk w' g t cs := (hb.block g hg).trans h
theorem Blk.grown {row : Option Nat} (h : Blk w g t cs) (hb : w.grownBy w' row) (hg : some g ≠ row) : Blk w' g t cs := (hb.block g h.lt hg).trans h
theorem Blk.mk_eq (h : Blk w g t cs) {ds : Array Value} (e : cs = ds) : Blk w g t ds := e ▸ h
end

section
variable {a w w' : World} {row : Option Nat}
theorem Only.new (h : a.grownBy w row) (o : Obj) : a.grownBy (w.alloc o) row := by
  refine ⟨h.os, h.tape, h.output, Nat.le_trans h.size (by simp), fun i hi hne => ?_⟩
  rw [Below.heap_alloc w o i (Nat.lt_of_lt_of_le hi h.size)]
  exact h.block i hi hne
theorem Only.store {g : Nat} (h : a.grownBy w (some g)) {p : Addr} (hp : p.block = g ∨ a.heap.size ≤ p.block) (u : Value) : a.grownBy (w.setCell p u) (some g) := by
  refine ⟨h.os, h.tape, h.output, ?_, fun i hi hne => ?_⟩
  · simpa [World.setCell] using h.size
  · have hip : i ≠ p.block := by
      intro e
      rcases hp with hp | hp
      · exact hne (by rw [e, hp])
      · omega
    rw [Below.heap_setCell w p u i hip]
    exact h.block i hi hne
theorem Only.drewN (h : a.grownBy w row) (n : Nat) : a.grownBy (w.drewN n) row := ⟨h.os, h.tape, h.output, h.size, h.block⟩
theorem Only.drew (h : a.grownBy w row) : a.grownBy w.drew row := ⟨h.os, h.tape, h.output, h.size, h.block⟩
theorem Only.below (h : a.grownBy w row) {B : Nat} (hb : Below B w w') (hB : a.heap.size ≤ B) : a.grownBy w' row :=
  ⟨hb.os.trans h.os, hb.tape.trans h.tape, hb.output.trans h.output, Nat.le_trans h.size hb.size, fun i hi hn => (hb.block i (by omega)).trans (h.block i hi hn)⟩
/-- two calls that each turn block g alone (or what is new) -/
theorem Only.trans {g : Nat} (h : a.grownBy w (some g)) {r : Option Nat} (k : w.grownBy w' r) (hr : ∀ j, r = some j → j = g ∨ a.heap.size ≤ j) : a.grownBy w' (some g) :=
  ⟨k.os.trans h.os, k.tape.trans h.tape, k.output.trans h.output, Nat.le_trans h.size k.size, fun i hi hn => by
    have hne : some i ≠ r := by
      intro e
      rcases hr i e.symm with e2 | e2
      · exact hn (by rw [e2])
      · omega
    exact (k.block i (Nat.lt_of_lt_of_le hi h.size) hne).trans (h.block i hi hn)⟩
end

/-- a cell that has just been written, in a world that is a variable -/
@[go_sem] theorem cell_stored (w : World) (b o : Nat) (v : Value) : (w.setCell ⟨b, o, none⟩ v).cell? ⟨b, o, none⟩ = (w.cell? ⟨b, o, none⟩).map fun _ => v := by
  simp only [World.setCell, World.cell?, Array.getElem?_modify]
  cases hb : w.heap[b]? with
  | none => simp
  | some x => cases x <;> simp [Array.getElem?_setIfInBounds] <;> split <;> simp_all

section
variable {P : Program}
/-- a first result that lies in a block, a second one in a slot -/
theorem results_cell_tmp {fn : Func} {p q : Tmp} {ty : TypeId} (h : fn.results = #[.cell p ty, .tmp q]) {tmps : Array Value} {w : World} {g : Nat} {t : TypeId} {cs : Array Value}
    (hp : tmps.getD p undef = .pointer (some ⟨g, 0, none⟩)) (hg : Blk w g t cs) {d : TypeDesc}
    (hu : P.underlying ty = some d) (hd : (match d with | .struct _ | .array _ _ => true | _ => false) = true) (hi : (P.info? ty).map (·.size) = some cs.size) :
    (results fn tmps).run P w = .ok (.tuple #[.agg cs, tmps.getD q undef]) w := by
  have hp' : tmps[p]?.getD undef = .pointer (some ⟨g, 0, none⟩) := by simpa using hp
  simp [results, h, hp', asAddr, run_loadVar_row w g t ty cs (0, 0) d hg hu hd hi]
theorem results_cell {fn : Func} {p : Tmp} {ty : TypeId} (h : fn.results = #[.cell p ty]) {tmps : Array Value} {w : World} {g : Nat} {t : TypeId} {cs : Array Value}
    (hp : tmps.getD p undef = .pointer (some ⟨g, 0, none⟩)) (hg : Blk w g t cs) {d : TypeDesc}
    (hu : P.underlying ty = some d) (hd : (match d with | .struct _ | .array _ _ => true | _ => false) = true) (hi : (P.info? ty).map (·.size) = some cs.size) :
    (results fn tmps).run P w = .ok (.agg cs) w := results_cell_row h tmps w g t cs (0, 0) d hp hg hu hd hi
end

/-- A slice at A reads as the cells vs (each element one cell), below block B. -/
def Rd (w : World) (B : Nat) (A : Option Addr) (vs : List Value) : Prop :=
  vs = [] ∨ ∃ b off, A = some ⟨b, off, none⟩ ∧ b < B ∧ ∀ (i : Nat) (v : Value), vs[i]? = some v → w.cell? ⟨b, off + i, none⟩ = some v
section
variable {w w' : World} {B : Nat} {A : Option Addr} {vs : List Value}
theorem Rd.nil : Rd w B A [] := .inl rfl
theorem Rd.at_ (h : Rd w B A vs) {i : Nat} {v : Value} (hi : vs[i]? = some v) : ∃ b off, A = some ⟨b, off, none⟩ ∧ b < B ∧ w.cell? ⟨b, off + i, none⟩ = some v := by
  rcases h with rfl | ⟨b, off, hA, hb, hc⟩
  · simp at hi
  · exact ⟨b, off, hA, hb, hc i v hi⟩
theorem Rd.keep (h : Rd w B A vs) (hk : ∀ b o, b < B → w'.cell? ⟨b, o, none⟩ = w.cell? ⟨b, o, none⟩) : Rd w' B A vs := by
  rcases h with h | ⟨b, off, hA, hb, hc⟩
  · exact .inl h
  · exact .inr ⟨b, off, hA, hb, fun i v hi => (hk b _ hb).trans (hc i v hi)⟩
theorem Rd.below (h : Rd w B A vs) (hb : Below B w w') : Rd w' B A vs := h.keep fun b o hlt => hb.cell (p := ⟨b, o, none⟩) hlt
theorem Rd.more (h : Rd w B A vs) {B' : Nat} (hB : B ≤ B') : Rd w B' A vs := by
  rcases h with h | ⟨b, off, hA, hb, hc⟩
  · exact .inl h
  · exact .inr ⟨b, off, hA, by omega, hc⟩
end

/-- a row of the call's own reads as its cells -/
theorem own_rd {w : World} {base : Nat} {e : TypeId} {A : Option Addr} {n c : Nat} {xs : List Value} (h : w.ownsRow base e 1 (.slice A n c) n xs) : Rd w w.heap.size A xs := by
  rcases Nat.eq_zero_or_pos n with h0 | h0
  · left
    have := h.1
    exact List.eq_nil_of_length_eq_zero (by omega)
  · obtain ⟨g, hA, hlt⟩ : ∃ g, A = some ⟨g, 0, none⟩ ∧ g < w.heap.size := by
      rcases h.2 with ⟨_, hn⟩ | ⟨g, cap, cur, hv, _, hg, _⟩
      · omega
      · exact ⟨g, by injection hv, (Array.getElem?_eq_some_iff.1 hg).1⟩
    subst hA
    refine .inr ⟨g, 0, rfl, hlt, fun i v hi => ?_⟩
    have hc := h.cells (g := g) rfl i v hi
    have ea : (⟨g, 0, none⟩ : Addr).add i = ⟨g, 0 + i, none⟩ := by unfold Addr.add; split <;> simp_all
    rwa [ea] at hc
/-- the value of a row of the call's own is a slice of just so many -/
theorem own_form {w : World} {base : Nat} {e : TypeId} {size : Nat} {v : Value} {n : Nat} {xs : List Value} (h : w.ownsRow base e size v n xs) : ∃ A c, v = .slice A n c := by
  rcases h.2 with ⟨rfl, rfl⟩ | ⟨g, cap, cur, rfl, _⟩
  · exact ⟨none, 0, rfl⟩
  · exact ⟨_, cap, rfl⟩
/-- two rows of other element types never share a block -/
theorem own_ne_blk {w : World} {base : Nat} {e : TypeId} {size n g : Nat} {v : Value} {xs : List Value} {t : TypeId} {cs : Array Value} (h : w.ownsRow base e size v n xs) (hb : Blk w g t cs) (hne : e ≠ t) : some g ≠ v.ownBlock := by
  rcases h.2 with ⟨rfl, _⟩ | ⟨g', cap, cur, rfl, _, hh, _⟩
  · simp [Value.ownBlock]
  · intro he
    have e1 : g = g' := by simpa [Value.ownBlock] using he
    subst e1
    have e2 : w.heap[g]? = some (.cells cs t (0, 0)) := hb
    rw [e2] at hh
    injection hh with hh
    injection hh with _ ht
    exact hne ht.symm

theorem bcell {B : Nat} {W w1 : World} (hb : Below B W w1) : (∀ b o, b < B → w1.cell? ⟨b, o, none⟩ = W.cell? ⟨b, o, none⟩) ∧ (∀ b o, b < B → w1.frozen? ⟨b, o, none⟩ = W.frozen? ⟨b, o, none⟩) :=
  ⟨fun b o h => hb.cell (p := ⟨b, o, none⟩) h, fun b o h => hb.frozen (p := ⟨b, o, none⟩) h⟩
/-- old cells behind a call that turned block g alone -/
theorem gcell {W w1 : World} {row : Option Nat} (hb : W.grownBy w1 row) : (∀ b o, b < W.heap.size → some b ≠ row → w1.cell? ⟨b, o, none⟩ = W.cell? ⟨b, o, none⟩) ∧ (∀ b o, b < W.heap.size → some b ≠ row → w1.frozen? ⟨b, o, none⟩ = W.frozen? ⟨b, o, none⟩) :=
  ⟨fun b o h hn => World.cell?_of_block (a := ⟨b, o, none⟩) (hb.block b h hn), fun b o h hn => World.frozen?_of_block (a := ⟨b, o, none⟩) (hb.block b h hn)⟩
theorem lt_of_cell {w : World} {g o : Nat} {v : Value} (h : w.cell? ⟨g, o, none⟩ = some v) : g < w.heap.size := block_lt_of_cell h

/- For 'go_region_held3': what lay below the heap's size where the region began reads as it did. -/
section
variable {w V W : World}
theorem sx_start (w : World) : (∀ b o, b < w.heap.size → w.drew.cell? ⟨b, o, none⟩ = w.cell? ⟨b, o, none⟩) ∧ Below w.heap.size w w.drew := ⟨fun _ _ _ => rfl, (Below.refl _ _).drew⟩
theorem sx_call (hb : Below V.heap.size V W) (h : (∀ b o, b < w.heap.size → V.cell? ⟨b, o, none⟩ = w.cell? ⟨b, o, none⟩) ∧ Below w.heap.size w V) :
    (∀ b o, b < w.heap.size → W.cell? ⟨b, o, none⟩ = w.cell? ⟨b, o, none⟩) ∧ Below w.heap.size w W :=
  ⟨fun b o hlt => (hb.cell (p := ⟨b, o, none⟩) (Nat.lt_of_lt_of_le hlt h.2.size)).trans (h.1 b o hlt), h.2.trans (hb.mono h.2.size)⟩
theorem sx_alloc (x : Obj) (h : (∀ b o, b < w.heap.size → V.cell? ⟨b, o, none⟩ = w.cell? ⟨b, o, none⟩) ∧ Below w.heap.size w V) :
    (∀ b o, b < w.heap.size → (V.alloc x).cell? ⟨b, o, none⟩ = w.cell? ⟨b, o, none⟩) ∧ Below w.heap.size w (V.alloc x) :=
  ⟨fun b o hlt => (World.cell?_alloc_lt _ _ ⟨b, o, none⟩ (Nat.lt_of_lt_of_le hlt h.2.size)).trans (h.1 b o hlt), h.2.alloc h.2.size _⟩
theorem sx_drew (h : (∀ b o, b < w.heap.size → V.cell? ⟨b, o, none⟩ = w.cell? ⟨b, o, none⟩) ∧ Below w.heap.size w V) :
    (∀ b o, b < w.heap.size → V.drew.cell? ⟨b, o, none⟩ = w.cell? ⟨b, o, none⟩) ∧ Below w.heap.size w V.drew := ⟨h.1, h.2.drew⟩
theorem sx_store {p : Addr} (hp : w.heap.size ≤ p.block) (u : Value) (h : (∀ b o, b < w.heap.size → V.cell? ⟨b, o, none⟩ = w.cell? ⟨b, o, none⟩) ∧ Below w.heap.size w V) :
    (∀ b o, b < w.heap.size → (V.setCell p u).cell? ⟨b, o, none⟩ = w.cell? ⟨b, o, none⟩) ∧ Below w.heap.size w (V.setCell p u) :=
  ⟨fun b o hlt => (World.cell?_of_block (a := ⟨b, o, none⟩) (Below.heap_setCell V p u b (by omega))).trans (h.1 b o hlt), h.2.setCell hp _⟩
/-- a new block, behind the region's draw -/
theorem sx_alloc_drew (x : Obj) (h : (∀ b o, b < w.heap.size → V.drew.cell? ⟨b, o, none⟩ = w.cell? ⟨b, o, none⟩) ∧ Below w.heap.size w V.drew) :
    (∀ b o, b < w.heap.size → (V.alloc x).drew.cell? ⟨b, o, none⟩ = w.cell? ⟨b, o, none⟩) ∧ Below w.heap.size w (V.alloc x).drew :=
  sx_alloc (V := V.drew) x h
end

/-! Whole arrays: loaded out of a block, stored into one. -/
section
variable {P : Program} {ops : Array Oper} {rest : List Oper} {op : Oper} {a : Act} {w : World} {Q : Exit → Act → World → Prop}
theorem setCells_heap (g : Nat) (t : TypeId) : ∀ (vs : List Value) (o : Nat) (w : World) (cs : Array Value), Blk w g t cs →
    (∃ cs', Blk (w.setCells g o vs) g t cs' ∧ cs'.size = cs.size ∧ ∀ i, cs'[i]? = if o ≤ i ∧ i < o + vs.length ∧ i < cs.size then vs[i - o]? else cs[i]?) ∧ w.grownBy (w.setCells g o vs) (some g) ∧ (w.setCells g o vs).heap.size = w.heap.size := by
  intro vs
  induction vs with
  | nil =>
    intro o w cs h
    refine ⟨⟨cs, h, rfl, fun i => ?_⟩, World.grownBy.refl w _, rfl⟩
    rw [if_neg (by simp; omega)]
  | cons v vs ih =>
    intro o w cs h
    obtain ⟨⟨cs', hb, hs, hi⟩, hg, hz⟩ := ih (o + 1) (w.setCell ⟨g, o, none⟩ v) _ (h.store o v)
    have e : w.setCells g o (v :: vs) = (w.setCell ⟨g, o, none⟩ v).setCells g (o + 1) vs := by rw [World.setCells]
    rw [e]
    refine ⟨⟨cs', hb, by rw [hs]; simp, fun i => ?_⟩, Only.trans (Only.store (World.grownBy.refl w (some g)) (.inl rfl) v) hg (fun j e => .inl (by injection e with e; exact e.symm)), by rw [hz]; simp [World.setCell]⟩
    rw [hi]
    have hsz : (cs.setIfInBounds o v).size = cs.size := by simp
    rw [hsz]
    by_cases h1 : o + 1 ≤ i ∧ i < o + 1 + vs.length ∧ i < cs.size
    · rw [if_pos h1, if_pos (by simp; omega), show i - o = (i - (o + 1)) + 1 by omega, List.getElem?_cons_succ]
    · rw [if_neg h1, Array.getElem?_setIfInBounds]
      by_cases h2 : o = i
      · subst h2
        by_cases h3 : o < cs.size
        · rw [if_pos rfl, if_pos h3, if_pos (by simp; omega)]; simp
        · rw [if_pos rfl, if_neg h3, if_neg (by omega)]
          simp only [Array.size] at h3
          exact (Array.getElem?_eq_none (by simp only [Array.size]; omega)).symm
      · rw [if_neg h2, if_neg (by simp; omega)]
theorem setCells_blk {g : Nat} {t : TypeId} {cs ds : Array Value} (h : Blk w g t cs) (hs : ds.size = cs.size) : Blk (w.setCells g 0 ds.toList) g t ds ∧ w.grownBy (w.setCells g 0 ds.toList) (some g) ∧ (w.setCells g 0 ds.toList).heap.size = w.heap.size := by
  obtain ⟨⟨cs', hb, hz, hi⟩, hg, hh⟩ := setCells_heap g t ds.toList 0 w cs h
  refine ⟨?_, hg, hh⟩
  have e : cs' = ds := by
    apply Array.ext_getElem?
    intro i
    rw [hi]
    by_cases h1 : i < ds.size
    · rw [if_pos (by simp; omega)]; simp
    · rw [if_neg (by simp; omega), Array.getElem?_eq_none (by omega), Array.getElem?_eq_none (by omega)]
  exact hb.mk_eq e
/-- a whole array is stored into a block that is known -/
theorem wpList_store_blk (hgd : op.guard = none) (ty : TypeId) (x y : Operand) (ho : op.op = .store ty x y) (g : Nat) (t : TypeId) (cs ds : Array Value)
    (hx : a.eval x = .pointer (some ⟨g, 0, none⟩)) (hy : a.eval y = .agg ds) (hb : Blk w g t cs) (hs : ds.size = cs.size) (hi : (P.info? ty).map (·.size) = some ds.size) (h1 : ds.all (·.oneCell') = true)
    (h : ∀ w', Blk w' g t ds → w.grownBy w' (some g) → w'.heap.size = w.heap.size → wpList P ops Q rest (a.put op.dst undef) w') : wpList P ops Q (op :: rest) a w := by
  refine wpList_store_mid hgd ty x y ho g 0 ds hx hy ?_ hi h1 ?_
  · intro j hj
    refine ⟨?_, by rw [hb.frozen]⟩
    rw [Nat.zero_add, hb.cell, Array.getElem?_eq_getElem (by omega)]; rfl
  · obtain ⟨h2, h3, h4⟩ := setCells_blk hb hs
    exact h _ h2 h3 h4
/-- a whole array is loaded out of a block that is known -/
theorem wpList_load_blk (hgd : op.guard = none) (ty : TypeId) (x : Operand) (ho : op.op = .load ty x) (g : Nat) (t : TypeId) (cs : Array Value)
    (hx : a.eval x = .pointer (some ⟨g, 0, none⟩)) (hb : Blk w g t cs) {d : TypeDesc} (hu : P.underlying ty = some d) (hd : (match d with | .struct _ | .array _ _ => true | _ => false) = true) (hi : (P.info? ty).map (·.size) = some cs.size)
    (h : wpList P ops Q rest (a.put op.dst (.agg cs)) w) : wpList P ops Q (op :: rest) a w :=
  wpList_load_row hgd ty x ho g hx t cs (0, 0) d hb hu hd hi h
end

/-- from here on the world is a letter, of which I is known -/
theorem wp_abs {P : Program} {c : Code} {Q : Exit → Act → World → Prop} {a : Act} {w : World} (I : World → Prop) (h0 : I w) (h : ∀ W, I W → c.wp P Q a W) : c.wp P Q a w := h w h0

theorem ret_bool {a b : Bool} (h : a = b) : Ending.returned (.bool a) = .returned (.bool b) := by rw [h]
theorem ret_int {k : IntKind} {a b : Int} (h : a = b) : Ending.returned (.int k a) = .returned (.int k b) := by rw [h]

end Go.Proofs.YtomfpffooaejoaaDoor
