/-
  Rows of bytes: known slices, rows of the call's own, strings; one byte more is laid behind a row. No program is named here.
-/
import Derived.Test.YtomfpffooaejoaaDoorMem
import Derived.Laws.AppendOwn
import Derived.Laws.BytesArg
import Derived.Lib.SlBytesConst
import Derived.Shelf.Bytes.SlJoin
namespace Go.Proofs.YtomfpffooaejoaaDoor
open Go Go.RowKit

/-- v is a slice of the bytes l at the head of a block from base on (nil: no byte) -/
def OwnB (w : World) (base : Nat) (v : Value) (l : List UInt8) : Prop :=
  (v = .slice none 0 0 ∧ l = []) ∨
  ∃ g cap, v = .slice (some ⟨g, 0, none⟩) l.length cap ∧ base ≤ g ∧ l.length ≤ cap ∧ cap ≤ maxLen ∧ (∀ i, i < cap → ∃ u, w.cell? ⟨g, i, none⟩ = some u) ∧ (∀ i, i < cap → w.frozen? ⟨g, i, none⟩ = false) ∧
    ∀ (i : Nat) (x : UInt8), l[i]? = some x → w.cell? ⟨g, i, none⟩ = some (.int .u8 (x.toNat : Int))

theorem OwnB.keep {w w' : World} {base : Nat} {v : Value} {l : List UInt8} (h : OwnB w base v l) (hk : ∀ b o u, base ≤ b → w.cell? ⟨b, o, none⟩ = some u → w'.cell? ⟨b, o, none⟩ = some u ∧ w'.frozen? ⟨b, o, none⟩ = w.frozen? ⟨b, o, none⟩) : OwnB w' base v l := by
  rcases h with h | ⟨g, cap, hv, hb, hl, hm, hc, hf, hx⟩
  · exact .inl h
  · refine .inr ⟨g, cap, hv, hb, hl, hm, fun i hi => ?_, fun i hi => ?_, fun i x hi => ?_⟩
    · obtain ⟨u, hu⟩ := hc i hi
      exact ⟨u, (hk g i u hb hu).1⟩
    · obtain ⟨u, hu⟩ := hc i hi
      exact (hk g i u hb hu).2.trans (hf i hi)
    · exact (hk g i _ hb (hx i x hi)).1
theorem OwnB.below {w w' : World} {base B : Nat} {v : Value} {l : List UInt8} (h : OwnB w base v l) (hb : Below B w w') (hB : w.heap.size ≤ B) : OwnB w' base v l :=
  h.keep fun b o u _ hu => by
    have hlt := lt_of_cell hu
    exact ⟨(hb.cell (p := ⟨b, o, none⟩) (show b < B by omega)).trans hu, hb.frozen (p := ⟨b, o, none⟩) (show b < B by omega)⟩
theorem OwnB.alloc {w : World} {base : Nat} {v : Value} {l : List UInt8} (h : OwnB w base v l) (o : Obj) : OwnB (w.alloc o) base v l :=
  h.below ((Below.refl w.heap.size w).alloc (Nat.le_refl _) o) (Nat.le_refl _)
theorem OwnB.drewN {w : World} {base : Nat} {v : Value} {l : List UInt8} (h : OwnB w base v l) (n : Nat) : OwnB (w.drewN n) base v l := h
theorem OwnB.drew {w : World} {base : Nat} {v : Value} {l : List UInt8} (h : OwnB w base v l) : OwnB w.drew base v l := h
/-- the row's cells -/
theorem OwnB.form {w : World} {base : Nat} {v : Value} {l : List UInt8} (h : OwnB w base v l) (h0 : l ≠ []) : ∃ g cap, v = .slice (some ⟨g, 0, none⟩) l.length cap ∧ base ≤ g ∧ g < w.heap.size ∧ l.length ≤ cap ∧ cap ≤ maxLen ∧ ∀ (i : Nat) (x : UInt8), l[i]? = some x → w.cell? ⟨g, i, none⟩ = some (.int .u8 (x.toNat : Int)) := by
  rcases h with h | ⟨g, cap, hv, hb, hl, hm, hc, hf, hx⟩
  · exact absurd h.2 h0
  · refine ⟨g, cap, hv, hb, ?_, hl, hm, hx⟩
    cases l with
    | nil => exact absurd rfl h0
    | cons x r => exact lt_of_cell (hx 0 x rfl)
theorem OwnB.fresh {B : Nat} {w : World} {v : Value} {l : List UInt8} (h : Lib.FreshBytes B w v l) : OwnB w B v l := by
  obtain ⟨g, cap, zs, hv, hb, hl, hm, hz, hr, he, hc, hf⟩ := h
  refine .inr ⟨g, cap, hv, hb, hl, hm, fun i hi => ⟨_, hc i hi⟩, hf, fun i x hi => ?_⟩
  have hil : i < l.length := (List.getElem?_eq_some_iff.1 hi).1
  rw [hc i (by omega)]
  have hzi : i < zs.length := by omega
  have h1 : (zs.take l.length)[i]? = some zs[i] := by rw [List.getElem?_take, if_pos hil, List.getElem?_eq_getElem hzi]
  have h2 : (Lib.bytesOf (zs.take l.length))[i]? = some x := by rw [he]; exact hi
  have h3 := hr zs[i] (List.getElem_mem hzi)
  have e : zs.getD i 0 = zs[i] := by simp [List.getD, hzi]
  rw [e]
  simp only [Lib.bytesOf, List.getElem?_map, h1, Option.map_some, Option.some.injEq] at h2
  subst h2
  rw [UInt8.toNat_ofNat']
  congr 2
  omega

section
variable {P : Program}
theorem run_append_byte (w : World) (base : Nat) (t ty e : TypeId) (i : TypeInfo) (ht : P.underlying t = some (.slice e)) (hi : P.info? e = some i) (hz : i.zero = some (.int .u8 0)) (hsize : i.size = 1) (hby : i.bytes = 1)
    (v : Value) (l : List UInt8) (hown : OwnB w base v l) (a : Addr) (c : Nat) (x : UInt8) (hx : w.cell? (a.add 0) = some (.int .u8 (x.toNat : Int))) (hl : l.length + 1 ≤ 140737488355328) (hbase : base ≤ w.heap.size) :
    ∃ v' w', (Builtin.append_ #[t, t] ty #[v, .slice (some a) 1 c]).run P w = .ok v' w' ∧ OwnB w' base v' (l ++ [x]) ∧ Below base w w' := by
  have hnews : ∀ j u, [Value.int .u8 (x.toNat : Int)][j]? = some u → w.cell? (a.add j) = some u := by
    intro j u hj
    cases j with
    | zero => simp at hj; subst hj; exact hx
    | succ j => simp at hj
  have grown : ∀ (old : Nat), old < l.length + 1 → 
      OwnB (w.drew.alloc (.cells (((l.map fun y : UInt8 => Value.int .u8 (y.toNat : Int)).toArray) ++ #[Value.int .u8 (x.toNat : Int)] ++ Builtin.zeroCells (Value.int .u8 0).cells (grownCap w (l.length + 1) old e - (l.length + 1))) e)) base
        (.slice (some ⟨w.heap.size, 0, none⟩) (l.length + 1) (grownCap w (l.length + 1) old e)) (l ++ [x]) := by
    intro old ho
    have hge := grownCap_ge w (l.length + 1) old e
    have hcm : grownCap w (l.length + 1) old e ≤ maxLen := grownCap_le_maxLen w (l.length + 1) old e (by simp only [maxLen]; omega)
    have hh := heap_alloc_new w.drew (.cells (((l.map fun y : UInt8 => Value.int .u8 (y.toNat : Int)).toArray) ++ #[Value.int .u8 (x.toNat : Int)] ++ Builtin.zeroCells (Value.int .u8 0).cells (grownCap w (l.length + 1) old e - (l.length + 1))) e)
    generalize grownCap w (l.length + 1) old e = cap at *
    have hb := Blk.new w.drew e (((l.map fun y : UInt8 => Value.int .u8 (y.toNat : Int)).toArray) ++ #[Value.int .u8 (x.toNat : Int)] ++ Builtin.zeroCells (Value.int .u8 0).cells (cap - (l.length + 1)))
    generalize hcs : (((l.map fun y : UInt8 => Value.int .u8 (y.toNat : Int)).toArray) ++ #[Value.int .u8 (x.toNat : Int)] ++ Builtin.zeroCells (Value.int .u8 0).cells (cap - (l.length + 1))) = cs at *
    have hsz : cs.size = cap := by
      rw [← hcs]
      simp only [Array.size_append, List.size_toArray, List.length_map, size_zeroCells]
      simp [Value.cells]
      omega
    refine .inr ⟨w.heap.size, cap, by rw [List.length_append]; rfl, hbase, by rw [List.length_append]; exact hge, hcm, fun i hi => ⟨cs[i], ?_⟩, fun i _ => hb.frozen i, fun i y hy => ?_⟩
    · rw [show w.heap.size = w.drew.heap.size from rfl, hb.cell, Array.getElem?_eq_getElem]
    · rw [show w.heap.size = w.drew.heap.size from rfl, hb.cell, ← hcs]
      have hil : i < (l ++ [x]).length := (List.getElem?_eq_some_iff.1 hy).1
      rw [List.length_append] at hil
      simp only [List.length_cons, List.length_nil] at hil
      rw [Array.getElem?_append_left (by simp; omega)]
      have : ((l.map fun y : UInt8 => Value.int .u8 (y.toNat : Int)).toArray ++ #[Value.int .u8 (x.toNat : Int)]) = ((l ++ [x]).map fun y : UInt8 => Value.int .u8 (y.toNat : Int)).toArray := by simp
      rw [this, List.getElem?_toArray, List.getElem?_map, hy]
      rfl
  have hB : ∀ o : Obj, Below base w (w.drew.alloc o) := fun o => (Below.refl base w).drew.alloc hbase o
  have hlm : (l.map fun y : UInt8 => Value.int .u8 (y.toNat : Int)).length = l.length * i.size := by rw [hsize]; simp
  rcases hown with ⟨rfl, rfl⟩ | ⟨g, cap, rfl, hbg, hlc, hm, hc, hf, hcells⟩
  · have hr := run_append_nil (P := P) (w := w) t ty e i (.int .u8 0) ht hi hz a 1 c [.int .u8 (x.toNat : Int)] (by simp [hsize]) hnews (by omega) (by omega) (by omega)
    have hg := grown 0 (by simp)
    simp only [List.length_nil, Nat.zero_add, List.map_nil, Array.empty_append] at hg
    refine ⟨_, _, hr, ?_, hB _⟩
    simpa using hg
  · by_cases hroom : l.length + 1 ≤ cap
    · have hf1 := run_firstCells_some (P := P) (w := w) i.size 1 a 1 c [.int .u8 (x.toNat : Int)] (by simp [hsize]) hnews
      obtain ⟨u, hu⟩ := hc l.length (by omega)
      have hfz := hf l.length (by omega)
      have hadd : (⟨g, l.length, none⟩ : Addr).add 0 = ⟨g, l.length, none⟩ := by unfold Addr.add; split <;> simp_all
      have hst : (store ((⟨g, l.length, none⟩ : Addr).add 0) (.int .u8 (x.toNat : Int))).run P w = .ok () (w.setCell ⟨g, l.length, none⟩ (.int .u8 (x.toNat : Int))) := by
        rw [hadd, run_store P w _ _ _ rfl, hu]
        simp [hfz]
      have hsts : (storeCells ⟨g, l.length, none⟩ [.int .u8 (x.toNat : Int)] 0).run P w = .ok () (w.setCell ⟨g, l.length, none⟩ (.int .u8 (x.toNat : Int))) := by
        simp only [storeCells, Sem.run_bind, hst, Result.andThen_ok, Sem.run_pure]
      refine ⟨.slice (some ⟨g, 0, none⟩) (l.length + 1) cap, w.setCell ⟨g, l.length, none⟩ (.int .u8 (x.toNat : Int)), ?_, ?_, (Below.refl base w).setCell hbg _⟩
      · have e1 : l.length * i.size = l.length := by rw [hsize, Nat.mul_one]
        simp [Builtin.append_, run_underlying ht, sizeOf, typeInfo, hi, Builtin.lenOf, hroom, hf1, Addr.add_lit, e1, hsts]
      · refine .inr ⟨g, cap, by rw [List.length_append]; rfl, hbg, by rw [List.length_append]; exact hroom, hm, fun i hi => ?_, fun i hi => ?_, fun i y hy => ?_⟩
        · obtain ⟨u, hu⟩ := hc i hi
          by_cases h : l.length = i
          · subst h; exact ⟨_, by rw [cell_stored, hu]; rfl⟩
          · exact ⟨u, by rw [World.cell?_setCell_other w ⟨g, l.length, none⟩ ⟨g, i, none⟩ _ (by intro e; injection e with _ e2; exact h e2), hu]⟩
        · rw [World.frozen?_setCell]; exact hf i hi
        · by_cases h : l.length = i
          · subst h
            rw [cell_stored, hu]
            simp at hy; subst hy; rfl
          · have hil : i < (l ++ [x]).length := (List.getElem?_eq_some_iff.1 hy).1
            rw [List.length_append] at hil
            simp only [List.length_cons, List.length_nil] at hil
            rw [List.getElem?_append_left (by omega)] at hy
            rw [World.cell?_setCell_other w ⟨g, l.length, none⟩ ⟨g, i, none⟩ _ (by intro e; injection e with _ e2; exact h e2)]
            exact hcells i y hy
    · have holds : ∀ j u, (l.map fun y : UInt8 => Value.int .u8 (y.toNat : Int))[j]? = some u → w.cell? ((⟨g, 0, none⟩ : Addr).add j) = some u := by
        intro j u hj
        rw [List.getElem?_map] at hj
        obtain ⟨y, hy, rfl⟩ := Option.map_eq_some_iff.1 hj
        have hadd : (⟨g, 0, none⟩ : Addr).add j = ⟨g, j, none⟩ := by unfold Addr.add; split <;> simp_all
        rw [hadd]; exact hcells j y hy
      have hr := run_append_grow (P := P) (w := w) t ty e i (.int .u8 0) ht hi hz ⟨g, 0, none⟩ l.length cap _ hlm holds a 1 c [.int .u8 (x.toNat : Int)] (by simp [hsize]) hnews (by omega) (by omega) (growslice_fits (by omega) (by rw [hby]; omega))
      exact ⟨_, _, hr, grown cap (by omega), hB _⟩
theorem wpList_append_byte {ops : Array Oper} {rest : List Oper} {o : Oper} {ac : Act} {w : World} {Q : Exit → Act → World → Prop} (hgd : o.guard = none) (s x : Operand) (t : TypeId)
    (ho : o.op = .call { callee := .builtin .append, args := #[s, x], argTypes := #[t, t] })
    (base : Nat) (e : TypeId) (i : TypeInfo) (ht : P.underlying t = some (.slice e)) (hi : P.info? e = some i) (hz : i.zero = some (.int .u8 0)) (hsize : i.size = 1) (hby : i.bytes = 1)
    (v : Value) (l : List UInt8) (hs : ac.eval s = v) (hown : OwnB w base v l) (g c : Nat) (y : UInt8) (hx : ac.eval x = .slice (some ⟨g, 0, none⟩) 1 c) (hc : w.cell? ⟨g, 0, none⟩ = some (.int .u8 (y.toNat : Int)))
    (hl : l.length + 1 ≤ 140737488355328) (hbase : base ≤ w.heap.size)
    (h : ∀ v' w', OwnB w' base v' (l ++ [y]) → Below base w w' → wpList P ops Q rest (ac.put o.dst v') w') : wpList P ops Q (o :: rest) ac w := by
  refine wpList_plain hgd fun K hK => ?_
  have hadd : (⟨g, 0, none⟩ : Addr).add 0 = ⟨g, 0, none⟩ := by unfold Addr.add; split <;> simp_all
  obtain ⟨v', w', hr, h2, h3⟩ := run_append_byte (P := P) w base t o.type e i ht hi hz hsize hby v l hown ⟨g, 0, none⟩ c y (by rw [hadd]; exact hc) hl hbase
  unfold Oper.wp execOp
  simp only [ho, resolve, invoke, builtin, Sem.run_bind, Sem.run_pure, Result.andThen_ok, List.map_toArray, List.map_cons, List.map_nil, hs, hx, hr]
  exact hK _ _ (h v' w' h2 h3)
end

/-- v is a slice of slices of the bytes ls -/
def Parts (w : World) (v : Value) (ls : List (List UInt8)) : Prop :=
  (∃ p c, v = .slice p 0 c ∧ ls = []) ∨ ∃ b o c vs, v = .slice (some ⟨b, o, none⟩) ls.length c ∧ ls.length ≤ c ∧ Lib.PartsAt w ⟨b, o, none⟩ vs ls
theorem add0 (b o : Nat) : (⟨b, o, none⟩ : Addr).add 0 = ⟨b, o, none⟩ := by unfold Addr.add; split <;> simp_all
theorem addi (b o i : Nat) : (⟨b, o, none⟩ : Addr).add i = ⟨b, o + i, none⟩ := by unfold Addr.add; split <;> simp_all
theorem joinTail_nil (ls : List (List UInt8)) : Lib.joinTail [] ls = ls.flatten := by
  induction ls with
  | nil => rfl
  | cons l r ih => simp_all [Lib.joinTail]
theorem join_nil (ls : List (List UInt8)) : Lib.join ls [] = ls.flatten := by
  cases ls with
  | nil => rfl
  | cons l r => rw [Lib.join_cons, joinTail_nil]; simp
theorem lens_flatten (ls : List (List UInt8)) : Lib.lens ls = ls.flatten.length := by
  induction ls with
  | nil => rfl
  | cons l r ih => rw [Lib.lens_cons, ih]; simp
theorem partsAt_keep {w w' : World} {b o : Nat} {vs : List Value} {ls : List (List UInt8)} (h : Lib.PartsAt w ⟨b, o, none⟩ vs ls) (hb : Below w.heap.size w w') : Lib.PartsAt w' ⟨b, o, none⟩ vs ls := by
  refine ⟨h.1, fun i v hv => ?_, fun i v l hv hl => ?_⟩
  · have hc := h.2.1 i v hv
    exact (hb.cell (block_lt_of_cell hc)).trans hc
  · obtain ⟨p, cap, e, h1, h2⟩ := h.2.2 i v l hv hl
    refine ⟨p, cap, e, h1, fun a ha j x hx => ?_⟩
    have hc := h2 a ha j x hx
    exact (hb.cell (block_lt_of_cell hc)).trans hc
theorem Parts.keep {w w' : World} {v : Value} {ls : List (List UInt8)} (h : Parts w v ls) (hb : Below w.heap.size w w') : Parts w' v ls := by
  rcases h with h | ⟨b, o, c, vs, hv, hc, hP⟩
  · exact .inl h
  · exact .inr ⟨b, o, c, vs, hv, hc, partsAt_keep hP hb⟩
theorem OwnB.slice {w : World} {base : Nat} {v : Value} {l : List UInt8} (h : OwnB w base v l) : ∃ A c, v = .slice A l.length c := by
  rcases h with ⟨rfl, rfl⟩ | ⟨g, cap, rfl, _⟩
  · exact ⟨none, 0, rfl⟩
  · exact ⟨_, _, rfl⟩
theorem OwnB.mk_eq {w : World} {base : Nat} {v : Value} {l l' : List UInt8} (h : OwnB w base v l) (e : l = l') : OwnB w base v l' := e ▸ h

/-- a byte as a cell; rows of bytes as an array's cells -/
def bcv (x : UInt8) : Value := .int .u8 x.toNat
def bvs (l : List UInt8) : Array Value := (l.map bcv).toArray
/-- the i-th byte of a row -/
def at8 (l : List UInt8) (i : Nat) : UInt8 := l.getD i 0
theorem bvs_size (l : List UInt8) : (bvs l).size = l.length := by simp [bvs]
theorem bvs_at (l : List UInt8) {i : Nat} (h : i < l.length) : (bvs l)[i]? = some (.int .u8 (at8 l i).toNat) := by
  simp [bvs, at8, bcv, List.getD, h]
theorem bvs_set (l : List UInt8) (i : Nat) (x : UInt8) : (bvs l).setIfInBounds i (.int .u8 x.toNat) = bvs (l.set i x) := by
  simp [bvs, bcv, List.map_set]
theorem bvs_one (l : List UInt8) : (bvs l).all (·.oneCell') = true := by
  rw [Array.all_eq_true_iff_forall_mem]
  intro v hv
  simp only [bvs, List.mem_toArray, List.mem_map] at hv
  obtain ⟨x, _, rfl⟩ := hv
  rfl
theorem Blk.byte {w : World} {g : Nat} {t : TypeId} {l : List UInt8} (h : Blk w g t (bvs l)) {i : Nat} (hi : i < l.length) : w.cell? ⟨g, i, none⟩ = some (.int .u8 (at8 l i).toNat) := (h.cell i).trans (bvs_at l hi)
theorem Blk.byte_store {w : World} {g : Nat} {t : TypeId} {l : List UInt8} (h : Blk w g t (bvs l)) (i : Nat) (x : UInt8) : Blk (w.setCell ⟨g, i, none⟩ (.int .u8 x.toNat)) g t (bvs (l.set i x)) := by
  have := h.store i (.int .u8 x.toNat)
  rwa [bvs_set] at this
/-- how many elements a slice has -/
def vlen : Value → Nat
  | .slice _ n _ => n
  | _ => 0
def sb (s : ByteArray) : List UInt8 := s.data.toList
theorem sb_length (s : ByteArray) : (sb s).length = s.size := Array.length_toList
theorem sb_append (x y : ByteArray) : sb (x ++ y) = sb x ++ sb y := by
  unfold sb
  rw [ByteArray.data_append, Array.toList_append]

theorem sz_append (x y : ByteArray) : (x ++ y).size = x.size + y.size := by
  rw [← sb_length, sb_append, List.length_append, sb_length, sb_length]
theorem empty_false {y : ByteArray} (h : 64 ≤ y.size) : y.toList.isEmpty = false := by
  have h2 : y.toList.length = y.size := by rw [Lib.toList_data]; exact (Lib.size_eq y).symm
  cases hl : y.toList with
  | nil => rw [hl] at h2; simp at h2; omega
  | cons a r => rfl
theorem sb_drop (y : ByteArray) (n : Nat) : sb (y.extract n y.size) = (sb y).drop n := by
  unfold sb
  rw [ByteArray.data_extract, Array.toList_extract]
  simp only [List.extract]
  rw [List.take_of_length_le]
  rw [List.length_drop, Array.length_toList]
  exact Nat.le_refl _
/-- bytes as a string -/
def bs (l : List UInt8) : ByteArray := ⟨l.toArray⟩
theorem sb_bs (l : List UInt8) : sb (bs l) = l := by simp [sb, bs]
theorem bs_sb (s : ByteArray) : bs (sb s) = s := by
  cases s; simp [sb, bs]
/-- 'string(..)' of a slice of bytes -/
theorem conv_bytes {P : Program} {src e dst : TypeId} (hs : P.underlying src = some (.slice e)) (he : P.underlying e = some (.int .u8)) (hd : P.underlying dst = some .string) (b off cap : Nat) (l : List UInt8) (w : World)
    (hc : ∀ (i : Nat) (x : UInt8), l[i]? = some x → w.cell? ⟨b, off + i, none⟩ = some (.int .u8 (x.toNat : Int))) :
    (convert src dst (.slice (some ⟨b, off, none⟩) l.length cap)).run P w = .ok (.string (bs l)) w := by
  rw [run_convert_bytes_arg w src e hs he b off l.length cap (l.map fun x : UInt8 => (x.toNat : Int)) (by simp) (fun i hi => ?_) dst hd]
  · congr 3
    unfold strOfNums bs
    congr 2
    rw [List.map_map]
    conv => rhs; rw [← List.map_id l]
    apply List.map_congr_left
    intro x _
    simp
  · rw [hc i l[i] (List.getElem?_eq_getElem hi)]
    simp [List.getD, List.getElem?_eq_getElem hi]
/-- how long a string is -/
def slen : Value → Nat
  | .string s => s.size
  | _ => 0

/-- v is a slice of the bytes l -/
def HB (w : World) (v : Value) (l : List UInt8) : Prop :=
  ∃ p cap, v = .slice p l.length cap ∧ l.length ≤ cap ∧ cap ≤ maxLen ∧ (p = none → cap = 0) ∧ (l ≠ [] → ∃ b o, p = some ⟨b, o, none⟩ ∧ ∀ (i : Nat) (x : UInt8), l[i]? = some x → w.cell? ⟨b, o + i, none⟩ = some (.int .u8 (x.toNat : Int)))
theorem ne_nil_of_get {α : Type} {l : List α} {i : Nat} {x : α} (h : l[i]? = some x) : l ≠ [] := by
  rintro rfl; simp at h
theorem HB.holds {w : World} {v : Value} {l : List UInt8} (h : HB w v l) : Lib.HoldsBytes w v l := by
  obtain ⟨p, cap, hv, hl, _, hn, hc⟩ := h
  refine ⟨p, cap, hv, fun hp => List.eq_nil_of_length_eq_zero (by have := hn hp; omega), fun a ha i x hx => ?_⟩
  obtain ⟨b, o, hp, hc2⟩ := hc (ne_nil_of_get hx)
  rw [hp] at ha; injection ha with ha; subst ha
  rw [addi]; exact hc2 i x hx
theorem HB.keepG {w w' : World} {v : Value} {l : List UInt8} (h : HB w v l) (hb : ∀ b o u, w.cell? ⟨b, o, none⟩ = some u → w'.cell? ⟨b, o, none⟩ = some u) : HB w' v l := by
  obtain ⟨p, cap, hv, hl, hm, hn, hc⟩ := h
  refine ⟨p, cap, hv, hl, hm, hn, fun h0 => ?_⟩
  obtain ⟨b, o, hp, hc2⟩ := hc h0
  exact ⟨b, o, hp, fun i x hx => hb _ _ _ (hc2 i x hx)⟩
theorem HB.keep {w w' : World} {v : Value} {l : List UInt8} (h : HB w v l) (hb : Below w.heap.size w w') : HB w' v l :=
  h.keepG fun _ _ _ hu => (hb.cell (block_lt_of_cell hu)).trans hu
theorem HB.alloc {w : World} {v : Value} {l : List UInt8} (h : HB w v l) (o : Obj) : HB (w.alloc o) v l := h.keep ((Below.refl _ _).alloc (Nat.le_refl _) _)
theorem HB.drewN {w : World} {v : Value} {l : List UInt8} (h : HB w v l) (n : Nat) : HB (w.drewN n) v l := h
theorem HB.mk_eq {w : World} {v : Value} {l l' : List UInt8} (h : HB w v l) (e : l = l') : HB w v l' := e ▸ h
theorem HB.nil (w : World) : HB w (.slice none 0 0) [] := ⟨none, 0, rfl, Nat.le_refl _, by simp [maxLen], fun _ => rfl, fun h => absurd rfl h⟩
theorem HB.empty (w : World) (p : Option Addr) (c : Nat) (hc : c ≤ maxLen) (hn : p = none → c = 0) : HB w (.slice p 0 c) [] := ⟨p, c, rfl, Nat.zero_le _, hc, hn, fun h => absurd rfl h⟩
theorem HB.len {w : World} {v : Value} {l : List UInt8} (h : HB w v l) : l.length ≤ maxLen := by
  obtain ⟨p, cap, _, hl, hm, _⟩ := h
  omega
theorem HB.form {w : World} {v : Value} {l : List UInt8} (h : HB w v l) : ∃ p cap, v = .slice p l.length cap ∧ l.length ≤ cap ∧ cap ≤ maxLen := by
  obtain ⟨p, cap, hv, hl, hm, _⟩ := h
  exact ⟨p, cap, hv, hl, hm⟩
/-- a byte of a known slice -/
theorem HB.at_ {w : World} {p : Option Addr} {n c : Nat} {l : List UInt8} (h : HB w (.slice p n c) l) {i : Nat} {x : UInt8} (hx : l[i]? = some x) : ∃ b o, p = some ⟨b, o, none⟩ ∧ w.cell? ⟨b, o + i, none⟩ = some (.int .u8 (x.toNat : Int)) := by
  obtain ⟨p', cap, hv, hl, hm, hn, hc⟩ := h
  injection hv with h1 h2 h3
  subst h1
  obtain ⟨b, o, hp, hc2⟩ := hc (ne_nil_of_get hx)
  exact ⟨b, o, hp, hc2 i x hx⟩
theorem HB.str {P : Program} {src e dst : TypeId} (hs : P.underlying src = some (.slice e)) (he : P.underlying e = some (.int .u8)) (hd : P.underlying dst = some .string) {w : World} {v : Value} {l : List UInt8} (h : HB w v l) :
    (convert src dst v).run P w = .ok (.string (bs l)) w := by
  obtain ⟨p, cap, rfl, hl, hm, hn, hc⟩ := h
  cases p with
  | none =>
    have : l = [] := List.eq_nil_of_length_eq_zero (by have := hn rfl; omega)
    subst this
    exact run_convert_bytes_nil w src e hs he _ cap dst hd
  | some a =>
    by_cases h0 : l = []
    · subst h0
      have hl0 := run_loadCells_list (P := P) (w := w) a [] (by simp)
      rw [run_convert_bytes_string w src dst e _ _ _ hs he hd]
      simp only [List.length_nil] at hl0 ⊢
      simp only [Conv.bytesToString, Sem.run_bind, hl0, Result.andThen_ok]
      rfl
    · obtain ⟨b, o, hp, hc2⟩ := hc h0
      injection hp with hp; subst hp
      exact conv_bytes hs he hd b o cap l w hc2
/-- the parts are one slice, in a block of the call's own -/
theorem parts_one {w : World} {v : Value} {l : List UInt8} {g c : Nat} (h : HB w v l) (hc : w.cell? ⟨g, 0, none⟩ = some v) (hc1 : 1 ≤ c) : Parts w (.slice (some ⟨g, 0, none⟩) 1 c) [l] := by
  refine .inr ⟨g, 0, c, [v], rfl, hc1, rfl, fun i u hu => ?_, fun i u m hu hm => ?_⟩
  · cases i with
    | zero => simp at hu; subst hu; rw [add0]; exact hc
    | succ i => simp at hu
  · cases i with
    | zero => simp at hu hm; subst hu; subst hm; exact h.holds
    | succ i => simp at hu
/-- '[]byte("..")' of a constant -/
theorem lit_at {P : Program} {t e : TypeId} (ht : P.underlying t = some (.slice e)) (he : P.underlying e = some (.int .u8)) (w : World) (C : Array Value) (n c g a b : Nat) (hg : g = w.heap.size) (ha : C.size = a) (hb : a + 1 = b) :
    (convert t t (.slice (some ⟨g, 0, none⟩) n c)).run P (w.alloc (.cells C e)) = .ok (.slice (some ⟨g, 0, none⟩) n c) (w.alloc (.cells C e (a, b))) := by
  subst hg; subst ha; subst hb
  exact Lib.run_convert_bytes_const w t e C n c ht he
/-- a new row of bytes -/
theorem HB.new (w : World) (l : List UInt8) (t : TypeId) (fr : Nat × Nat) {g n : Nat} (hg : g = w.heap.size) (hn : n = l.length) (hm : l.length ≤ maxLen) : HB (w.alloc (.cells (bvs l) t fr)) (.slice (some ⟨g, 0, none⟩) n n) l := by
  subst hg; subst hn
  refine ⟨_, l.length, rfl, Nat.le_refl _, hm, (fun h => by cases h), fun _ => ?_⟩
  refine ⟨_, _, rfl, fun i x hx => ?_⟩
  have hh := heap_alloc_new w (.cells (bvs l) t fr)
  rw [Nat.zero_add]
  simp only [World.cell?, hh]
  have := bvs_at l (List.getElem?_eq_some_iff.1 hx).1
  have e : at8 l i = x := by simp [at8, List.getD, hx]
  rw [e] at this
  simpa using this
/-- rows of bytes in a new block -/
theorem parts_new {w : World} {vs : List Value} {ls : List (List UInt8)} {g n : Nat} {t : TypeId} (hg : g = w.heap.size) (hn : n = ls.length) (hl : vs.length = ls.length)
    (h : ∀ (i : Nat) (v : Value) (l : List UInt8), vs[i]? = some v → ls[i]? = some l → HB w v l) : Parts (w.alloc (.cells vs.toArray t)) (.slice (some ⟨g, 0, none⟩) n n) ls := by
  subst hg; subst hn
  refine .inr ⟨_, _, _, vs, rfl, Nat.le_refl _, hl, fun i u hu => ?_, fun i u m hu hm => ?_⟩
  · rw [addi, Nat.zero_add, (Blk.new w t vs.toArray).cell]; simpa using hu
  · exact ((h i u m hu hm).alloc _).holds
theorem parts_new1 {w : World} {v : Value} {l : List UInt8} {g : Nat} {t : TypeId} (hg : g = w.heap.size) (h : HB w v l) : Parts (w.alloc (.cells #[v] t)) (.slice (some ⟨g, 0, none⟩) 1 1) [l] :=
  parts_new (vs := [v]) hg rfl rfl fun i u m hu hm => by
    match i with
    | 0 => simp at hu hm; subst hu; subst hm; exact h
    | i + 1 => simp at hu
theorem parts_new2 {w : World} {v1 v2 : Value} {l1 l2 : List UInt8} {g : Nat} {t : TypeId} (hg : g = w.heap.size) (h1 : HB w v1 l1) (h2 : HB w v2 l2) : Parts (w.alloc (.cells #[v1, v2] t)) (.slice (some ⟨g, 0, none⟩) 2 2) [l1, l2] :=
  parts_new (vs := [v1, v2]) hg rfl rfl fun i u m hu hm => by
    match i with
    | 0 => simp at hu hm; subst hu; subst hm; exact h1
    | 1 => simp at hu hm; subst hu; subst hm; exact h2
    | i + 2 => simp at hu
theorem parts_new3 {w : World} {v1 v2 v3 : Value} {l1 l2 l3 : List UInt8} {g : Nat} {t : TypeId} (hg : g = w.heap.size) (h1 : HB w v1 l1) (h2 : HB w v2 l2) (h3 : HB w v3 l3) : Parts (w.alloc (.cells #[v1, v2, v3] t)) (.slice (some ⟨g, 0, none⟩) 3 3) [l1, l2, l3] :=
  parts_new (vs := [v1, v2, v3]) hg rfl rfl fun i u m hu hm => by
    match i with
    | 0 => simp at hu hm; subst hu; subst hm; exact h1
    | 1 => simp at hu hm; subst hu; subst hm; exact h2
    | 2 => simp at hu hm; subst hu; subst hm; exact h3
    | i + 3 => simp at hu
/-- a part of a known slice -/
theorem HB.sub {w : World} {p : Option Addr} {n cap : Nat} {l : List UInt8} (h : HB w (.slice p n cap) l) (lo hi m : Nat) (h1 : lo ≤ hi) (h2 : hi ≤ n) (hm1 : hi ≤ m) (hm2 : m ≤ cap) :
    HB w (.slice (if m = lo then p else p.map (·.add (lo * 1))) (hi - lo) (m - lo)) ((l.drop lo).take (hi - lo)) := by
  obtain ⟨p', cap', hv, hl, hm, hn, hc⟩ := h
  injection hv with e1 e2 e3
  subst e1; subst e2; subst e3
  have hlen : ((l.drop lo).take (hi - lo)).length = hi - lo := by simp; omega
  refine ⟨_, m - lo, by rw [hlen], by rw [hlen]; omega, by omega, fun hp => ?_, fun h0 => ?_⟩
  · cases p with
    | none => have := hn rfl; omega
    | some a =>
      split at hp
      · cases hp
      · simp at hp
  · have hlt : lo < hi := by
      rcases Nat.lt_or_ge lo hi with h | h
      · exact h
      · exfalso; apply h0; apply List.eq_nil_of_length_eq_zero; omega
    have hl0 : l ≠ [] := by rintro rfl; simp at h2; omega
    obtain ⟨b, o, hp, hc2⟩ := hc hl0
    refine ⟨b, o + lo, by rw [if_neg (by omega), hp]; simp only [Option.map_some, Nat.mul_one]; rw [addi], fun i x hx => ?_⟩
    rw [List.getElem?_take] at hx
    split at hx
    · rw [List.getElem?_drop] at hx
      rw [show o + lo + i = o + (lo + i) by omega]
      exact hc2 _ _ hx
    · cases hx

/-- v is a slice of slices of the bytes ls -/
def HBs (w : World) (v : Value) (ls : List (List UInt8)) : Prop :=
  ∃ p cap, v = .slice p ls.length cap ∧ ls.length ≤ cap ∧ cap ≤ maxLen ∧ (p = none → cap = 0) ∧ (ls ≠ [] → ∃ b o, p = some ⟨b, o, none⟩ ∧ ∀ (i : Nat) (l : List UInt8), ls[i]? = some l → ∃ u, w.cell? ⟨b, o + i, none⟩ = some u ∧ HB w u l)
theorem HBs.keep {w w' : World} {v : Value} {ls : List (List UInt8)} (h : HBs w v ls) (hb : Below w.heap.size w w') : HBs w' v ls := by
  obtain ⟨p, cap, hv, hl, hm, hn, hc⟩ := h
  refine ⟨p, cap, hv, hl, hm, hn, fun h0 => ?_⟩
  obtain ⟨b, o, hp, hc2⟩ := hc h0
  exact ⟨b, o, hp, fun i l hx => (hc2 i l hx).imp fun u hu => ⟨(hb.cell (block_lt_of_cell hu.1)).trans hu.1, hu.2.keep hb⟩⟩
theorem HBs.form {w : World} {v : Value} {ls : List (List UInt8)} (h : HBs w v ls) : ∃ p cap, v = .slice p ls.length cap ∧ ls.length ≤ cap ∧ cap ≤ maxLen := by
  obtain ⟨p, cap, hv, hl, hm, _⟩ := h
  exact ⟨p, cap, hv, hl, hm⟩
theorem HBs.at_ {w : World} {p : Option Addr} {n c : Nat} {ls : List (List UInt8)} (h : HBs w (.slice p n c) ls) {i : Nat} {l : List UInt8} (hx : ls[i]? = some l) : ∃ b o u, p = some ⟨b, o, none⟩ ∧ w.cell? ⟨b, o + i, none⟩ = some u ∧ HB w u l := by
  obtain ⟨p', cap, hv, hl, hm, hn, hc⟩ := h
  injection hv with h1 h2 h3
  subst h1
  obtain ⟨b, o, hp, hc2⟩ := hc (ne_nil_of_get hx)
  obtain ⟨u, h1, h2⟩ := hc2 i l hx
  exact ⟨b, o, u, hp, h1, h2⟩
theorem HBs.parts {w : World} {v : Value} {ls : List (List UInt8)} (h : HBs w v ls) : Parts w v ls := by
  obtain ⟨p, cap, rfl, hl, hm, hn, hc⟩ := h
  by_cases h0 : ls = []
  · subst h0; exact .inl ⟨p, cap, rfl, rfl⟩
  · obtain ⟨b, o, rfl, hc2⟩ := hc h0
    have hex : ∀ i, ∃ u, ∀ l, ls[i]? = some l → w.cell? ⟨b, o + i, none⟩ = some u ∧ HB w u l := fun i => by
      cases hi : ls[i]? with
      | none => exact ⟨undef, fun l hl => by cases hl⟩
      | some l => obtain ⟨u, hu⟩ := hc2 i l hi; exact ⟨u, fun l' hl' => by cases hl'; exact hu⟩
    obtain ⟨f, hf⟩ := Classical.axiomOfChoice hex
    refine .inr ⟨b, o, cap, (List.range ls.length).map f, rfl, hl, by simp, fun i u hu => ?_, fun i u m hu hm => ?_⟩
    · rw [List.getElem?_map] at hu
      by_cases hi : i < ls.length
      · simp [hi] at hu; subst hu
        rw [addi]; exact (hf i _ (List.getElem?_eq_getElem hi)).1
      · simp [hi] at hu
    · rw [List.getElem?_map] at hu
      have hi : i < ls.length := (List.getElem?_eq_some_iff.1 hm).1
      simp [hi] at hu; subst hu
      exact (hf i _ hm).2.holds
end Go.Proofs.YtomfpffooaejoaaDoor
