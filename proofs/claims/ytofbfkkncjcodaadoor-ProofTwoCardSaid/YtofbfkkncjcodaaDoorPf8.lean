/-
  The walk of proof.rows.
-/
import Derived.Test.YtofbfkkncjcodaaDoorPf7
import Derived.Test.YtofbfkkncjcodaaDoorPfR
import Derived.Test.YtofbfkkncjcodaaDoorRo
import Derived.Test.YtofbfkkncjcodaaDoorRgX
namespace Go.Proofs.YtofbfkkncjcodaaDoor
open Go Go.RowKit Go.Shelf
set_option linter.unusedSimpArgs false
set_option linter.unusedVariables false

attribute [local go_sem] Oper.semAt_some

theorem results_cells2 {P : Program} {fn : Func} {p q : Tmp} {ty tz : TypeId} (h : fn.results = #[.cell p ty, .cell q tz]) {tmps : Array Value} {w : World} {g1 g2 : Nat} {A : Option Addr} {n c : Nat} {b : Bool} {e : TypeId} (hu : P.underlying ty = some (.slice e)) (hv : P.underlying tz = some .bool)
    (hp : tmps.getD p undef = .pointer (some ⟨g1, 0, none⟩)) (hq : tmps.getD q undef = .pointer (some ⟨g2, 0, none⟩)) (h1 : w.cell? ⟨g1, 0, none⟩ = some (.slice A n c)) (h2 : w.cell? ⟨g2, 0, none⟩ = some (.bool b)) :
    (results fn tmps).run P w = .ok (.tuple #[.slice A n c, .bool b]) w := by
  have hp' : tmps[p]?.getD undef = .pointer (some ⟨g1, 0, none⟩) := by simpa using hp
  have hq' : tmps[q]?.getD undef = .pointer (some ⟨g2, 0, none⟩) := by simpa using hq
  simp [results, h, hp', hq', asAddr, go_sem, h1, h2, isAgg, run_underlying hu, run_underlying hv]
/-- what holds between the rounds: the boxes of the way, of the results, of what is gathered and of the digest -/
def InvR (W w : World) (G D F : Nat) (l : List UInt8) (n : Nat) (ls : List (List UInt8)) (u : Value) (x : Dig) (vm : Value) : Prop :=
  Blk W G 24 #[vm] ∧ Blk W (G + 1) 55 #[.slice none 0 0] ∧ Blk W (G + 2) 4 #[.bool false] ∧ Blk W (D + 1) 55 #[u] ∧ RowsO W G u n ls ∧ Blk W F 31 (bvs x) ∧ Below G w W
theorem InvR.below {W V w : World} {G D F : Nat} {l : List UInt8} {n : Nat} {ls : List (List UInt8)} {u : Value} {x : Dig} {vm : Value} (h : InvR W w G D F l n ls u x vm) (hb : Below W.heap.size W V) : InvR V w G D F l n ls u x vm :=
  ⟨h.1.below hb h.1.lt, h.2.1.below hb h.2.1.lt, h.2.2.1.below hb h.2.2.1.lt, h.2.2.2.1.below hb h.2.2.2.1.lt, h.2.2.2.2.1.keep hb, h.2.2.2.2.2.1.below hb h.2.2.2.2.2.1.lt, h.2.2.2.2.2.2.trans (hb.mono (by have := h.1.lt; omega))⟩
theorem InvR.turns {W V w : World} {G D F B : Nat} {l : List UInt8} {n : Nat} {ls : List (List UInt8)} {u : Value} {x : Dig} {vm : Value} (h : InvR W w G D F l n ls u x vm) (ht : Turns B W V) (hB : G ≤ B) : InvR V w G D F l n ls u x vm :=
  ⟨ht.blk h.1, ht.blk h.2.1, ht.blk h.2.2.1, ht.blk h.2.2.2.1, h.2.2.2.2.1.turn ht, ht.blk h.2.2.2.2.2.1, ht.below h.2.2.2.2.2.2 hB⟩
theorem InvR.steps {W V w : World} {G D F B : Nat} {l : List UInt8} {n : Nat} {ls : List (List UInt8)} {u : Value} {x : Dig} {vm : Value} (h : InvR W w G D F l n ls u x vm) (hb : KeepS B W V) (hB : G ≤ B) : InvR V w G D F l n ls u x vm :=
  ⟨hb.heap h.1 (by decide), hb.heap h.2.1 (by decide), hb.heap h.2.2.1 (by decide), hb.heap h.2.2.2.1 (by decide), h.2.2.2.2.1.steps hb, hb.heap h.2.2.2.2.2.1 (by decide), h.2.2.2.2.2.2.trans (hb.1.mono hB)⟩

theorem IdS.rest {w : World} {pb po N1 cm : Nat} {y : Dig} {m : List Dig} {A : Option Addr} (h : IdS w (.slice (some ⟨pb, po, none⟩) (N1 + 1) cm) (y :: m)) (hN : N1 = m.length) (hA : A = if cm = 1 then some ⟨pb, po, none⟩ else some ⟨pb, po + 32, none⟩) : IdS w (.slice A N1 (cm - 1)) m := by
  obtain ⟨hd, p, cap, hv, hl, hm, hn, hc⟩ := h
  injection hv with e1 e2 e3
  subst e1; subst e3
  rw [List.length_cons] at hl
  refine ⟨fun d hd2 => hd d (by simp [hd2]), A, cm - 1, by rw [hN], by omega, by omega, fun e => ?_, fun h0 => ?_⟩
  · rw [hA] at e; split at e <;> cases e
  · have hml : 0 < m.length := List.length_pos_iff.2 h0
    obtain ⟨b, o, hb, hat⟩ := hc (by simp)
    injection hb with hb
    injection hb with e4 e5
    subst e4; subst e5
    rw [if_neg (by omega)] at hA
    refine ⟨pb, po + 32, hA, fun i d hi => ?_⟩
    have := hat (i + 1) d (by simpa using hi)
    rw [show po + 32 + i * 32 = po + (i + 1) * 32 by omega]
    exact this
theorem blk_ne {w : World} {g g' : Nat} {t t' : TypeId} {cs cs' : Array Value} (h : Blk w g t cs) (h' : Blk w g' t' cs') (ht : t ≠ t') : g ≠ g' := by
  rintro rfl
  have e1 : w.heap[g]? = some (.cells cs t (0, 0)) := h
  have e2 : w.heap[g]? = some (.cells cs' t' (0, 0)) := h'
  rw [e1] at e2; injection e2 with e2; injection e2 with _ e2; exact ht e2
theorem parts_blk {W : World} {g : Nat} {t : TypeId} {v : Value} {l : List UInt8} (h : Blk W g t #[v]) (hv : HB W v l) : Parts W (.slice (some ⟨g, 0, none⟩) 1 1) [l] := by
  refine .inr ⟨g, 0, 1, [v], rfl, Nat.le_refl _, rfl, fun i u hu => ?_, fun i u m hu hm => ?_⟩
  · rw [addi, Nat.zero_add, h.cell]; simpa using hu
  · match i with
    | 0 => simp at hu hm; subst hu; subst hm; exact hv.holds
    | i + 1 => simp at hu
theorem wp_store_blk {P : Program} {op : Oper} {a : Act} {w : World} {K : Act → World → Prop} {Q : Exit → Act → World → Prop} (ty : TypeId) (x y : Operand) (ho : op.op = .store ty x y) (g : Nat) (t : TypeId) (cs ds : Array Value)
    (hx : a.eval x = .pointer (some ⟨g, 0, none⟩)) (hy : a.eval y = .agg ds) (hb : Blk w g t cs) (hs : ds.size = cs.size) (hi : (P.info? ty).map (·.size) = some ds.size) (h1 : ds.all (·.oneCell') = true)
    (h : ∀ w', Blk w' g t ds → w.grownBy w' (some g) → w'.heap.size = w.heap.size → K (a.put op.dst undef) w') : op.wp P a w K Q := by
  refine wp_store_mid ty x y ho g 0 ds hx hy ?_ hi h1 ?_
  · intro j hj
    refine ⟨?_, by rw [hb.frozen]⟩
    rw [Nat.zero_add, hb.cell, Array.getElem?_eq_getElem (by omega)]; rfl
  · obtain ⟨h2, h3, h4⟩ := setCells_blk hb hs
    exact h _ h2 h3 h4
theorem stepP_length {a : Nat} {x y : Dig} (hx : x.length = 32) (hy : y.length = 32) : (stepP a x y).length = 65 := by unfold stepP; split <;> simp [nodeP] <;> omega
/-- what holds in the region that gathers a row, by what has been done (3: the row is gathered; 9, 10: it and the digest are stored) -/
def RXr (V U w : World) (B5 G D F : Nat) (l : List UInt8) (ls : List (List UInt8)) (u vm bv : Value) (x : Dig) (p : List UInt8) (s : Nat → Bool) (W : World) : Prop :=
  (s 3 = false → RowsO W G u (ls.length + 1) ((0 :: l) :: ls)) ∧ Blk W G 24 #[vm] ∧ Blk W (G + 1) 55 #[.slice none 0 0] ∧ Blk W (G + 2) 4 #[.bool false] ∧
  ((s 9 = false → Blk W (D + 1) 55 #[u]) ∧ (s 9 = true → ∃ v, Blk W (D + 1) 55 #[v] ∧ RowsO W G v (ls.length + 2) (((0 :: l) :: ls) ++ [p]))) ∧
  ((s 10 = false → Blk W F 31 (bvs x)) ∧ (s 10 = true → Blk W F 31 (bvs (sha p)))) ∧ Below G w W ∧ KeepN B5 U W ∧ KeepI (F + 1) U W ∧ W.ownsRow G 5 1 bv 65 (p.map bcv) ∧ V.heap.size ≤ W.heap.size
theorem RXr.below {V U w : World} {B5 G D F : Nat} {l : List UInt8} {ls : List (List UInt8)} {u vm bv : Value} {x : Dig} {p : List UInt8} {s : Nat → Bool} {W W' : World} (h : RXr V U w B5 G D F l ls u vm bv x p s W) (hb : Below W.heap.size W W') : RXr V U w B5 G D F l ls u vm bv x p s W' :=
  ⟨fun e => (h.1 e).keep hb, h.2.1.below hb h.2.1.lt, h.2.2.1.below hb h.2.2.1.lt, h.2.2.2.1.below hb h.2.2.2.1.lt,
    ⟨fun e => (h.2.2.2.2.1.1 e).below hb (h.2.2.2.2.1.1 e).lt, fun e => by obtain ⟨v, h1, h2⟩ := h.2.2.2.2.1.2 e; exact ⟨v, h1.below hb h1.lt, h2.keep hb⟩⟩,
    ⟨fun e => (h.2.2.2.2.2.1.1 e).below hb (h.2.2.2.2.2.1.1 e).lt, fun e => (h.2.2.2.2.2.1.2 e).below hb (h.2.2.2.2.2.1.2 e).lt⟩,
    h.2.2.2.2.2.2.1.trans (hb.mono (by have := h.2.1.lt; omega)), h.2.2.2.2.2.2.2.1.trans (KeepN.below hb), h.2.2.2.2.2.2.2.2.1.trans (KeepI.below hb), own_below h.2.2.2.2.2.2.2.2.2.1 hb, Nat.le_trans h.2.2.2.2.2.2.2.2.2.2 hb.size⟩

/-- what holds in the last region, by what has been done (5: the crown is gathered; 9, 10: the results are stored) -/
def RXh (V w : World) (B5 G D F : Nat) (l : List UInt8) (ls : List (List UInt8)) (u vm : Value) (x : Dig) (b : Bool) (p : List UInt8) (s : Nat → Bool) (W : World) : Prop :=
  (s 5 = false → RowsO W G u (ls.length + 1) ((0 :: l) :: ls)) ∧ Blk W G 24 #[vm] ∧
  ((s 9 = false → Blk W (G + 1) 55 #[.slice none 0 0]) ∧ (s 9 = true → ∃ v, Blk W (G + 1) 55 #[v] ∧ RowsO W G v (ls.length + 2) (((0 :: l) :: ls) ++ [p]))) ∧
  ((s 10 = false → Blk W (G + 2) 4 #[.bool false]) ∧ (s 10 = true → Blk W (G + 2) 4 #[.bool b])) ∧
  Blk W (D + 1) 55 #[u] ∧ Blk W F 31 (bvs x) ∧ Below G w W ∧ KeepN B5 V W ∧ V.heap.size ≤ W.heap.size
theorem RXh.below {V w : World} {B5 G D F : Nat} {l : List UInt8} {ls : List (List UInt8)} {u vm : Value} {x : Dig} {b : Bool} {p : List UInt8} {s : Nat → Bool} {W W' : World} (h : RXh V w B5 G D F l ls u vm x b p s W) (hb : Below W.heap.size W W') : RXh V w B5 G D F l ls u vm x b p s W' :=
  ⟨fun e => (h.1 e).keep hb, h.2.1.below hb h.2.1.lt,
    ⟨fun e => (h.2.2.1.1 e).below hb (h.2.2.1.1 e).lt, fun e => by obtain ⟨v, h1, h2⟩ := h.2.2.1.2 e; exact ⟨v, h1.below hb h1.lt, h2.keep hb⟩⟩,
    ⟨fun e => (h.2.2.2.1.1 e).below hb (h.2.2.2.1.1 e).lt, fun e => (h.2.2.2.1.2 e).below hb (h.2.2.2.1.2 e).lt⟩,
    h.2.2.2.2.1.below hb h.2.2.2.2.1.lt, h.2.2.2.2.2.1.below hb h.2.2.2.2.2.1.lt,
    h.2.2.2.2.2.2.1.trans (hb.mono (by have := h.2.1.lt; omega)), h.2.2.2.2.2.2.2.1.trans (KeepN.below hb), Nat.le_trans h.2.2.2.2.2.2.2.2 hb.size⟩

set_option maxRecDepth 100000 in
set_option maxHeartbeats 4000000 in
theorem rows_any (n i : Nat) (vl vw : Value) (l : List UInt8) (way : List Dig) (w : World) (hT : Tab w) (h0 : 0 < w.heap.size) (hl : HB w vl l) (hw : IdS w vw way) (hn : n ≤ 9223372036854775807) (hi : i ≤ 9223372036854775807) (hll : l.length ≤ 900000) (hwl : way.length ≤ 1000000) :
    Calls Tryd.prog 31 #[.int .i64 (n : Int), .int .i64 (i : Int), vl, vw] w fun e w' => ∃ v', e = .returned (.tuple #[v', .bool (okF (climbF (stepsF n i) (leafD l) way))]) ∧ RowsH w' w.heap.size v' (allF l n (climbF (stepsF n i) (leafD l) way)).length (allF l n (climbF (stepsF n i) (leafD l) way)) ∧ Below w.heap.size w w' := by
  obtain ⟨ir, hir, hzr, hsr, hbr⟩ := infoRowsB
  have HIR := Lib.hid hir; clear hir
  have HT := Lib.hid hT
  have HL := Lib.hid hl
  have HLV := Lib.hid hl
  have HW := Lib.hid hw
  obtain ⟨pl, cl, rfl, hlc, hlm⟩ := hl.form
  obtain ⟨pw, cw, rfl, hwc, hwm⟩ := hw.form
  obtain ⟨K, hK⟩ : ∃ K, K = way.length := ⟨_, rfl⟩
  rw [← hK] at hwc hwl
  have HK := Lib.hid hK
  rw [← hK] at HW ⊢
  obtain ⟨L, hL⟩ : ∃ L, L = l.length := ⟨_, rfl⟩
  have HLL := Lib.hid hL
  rw [← hL] at HL hlc hll
  unfold maxLen at hlm hwm
  clear hT hl hw hK hL
  refine (callsIn_wide (n := 4)).1 (callsIn_of_wp_marks Tryd.func31 rfl trivial ?_ rfl)
  simp only [Tryd.ntmps31, List.size_toArray, List.length_cons, List.length_nil, Nat.reduceAdd, Nat.reduceSub, Array.replicate_succ, Array.replicate_zero, List.push_toArray, List.append_toArray, List.nil_append, List.cons_append]
  refine wpIn_wide.2 ?_
  obtain ⟨G, hG⟩ : ∃ G, G = w.heap.size := ⟨_, rfl⟩
  go_wp2_with fail
  refine calls_abs (fun W => Blk W G 24 #[.slice pw K cw] ∧ Blk W (G + 1) 55 #[.slice none 0 0] ∧ Blk W (G + 2) 4 #[.bool false] ∧ Below G w W ∧ W.heap.size = G + 3) ⟨?_, ?_, ?_, ?_, ?_⟩ ?_
  · rw [hG]; exact ((Blk.new w _ _).alloc _).alloc _
  · rw [hG]; exact (Blk.new' (w := w.alloc _) (by simp) _ _).alloc _
  · rw [hG]; exact Blk.new' (w := (w.alloc _).alloc _) (by simp) _ _
  · rw [hG]; exact (((Below.refl w.heap.size w).alloc (Nat.le_refl _) _).alloc (by simp) _).alloc (by simp; omega) _
  · rw [hG]; simp
  rw [← hG]
  have HG := Lib.hid hG
  rintro W1 hI1
  have hW1 := hI1.2.2.2.2
  have HI1 := Lib.hid hI1
  clear hI1 hG
  refine (below_any _ l W1 (HLV.out.keep (HG.out ▸ HI1.out.2.2.2.1)) (by rw [← HLL.out]; omega)).mono ?_
  rintro e w1 ⟨v1, rfl, ho1, hb1⟩
  obtain ⟨A1, c1, rfl⟩ := own_form ho1
  have hz1 := hb1.size
  have HI2 : Hid ((Blk w1 G 24 #[.slice pw K cw] ∧ Blk w1 (G + 1) 55 #[.slice none 0 0] ∧ Blk w1 (G + 2) 4 #[.bool false] ∧ Below G w w1) ∧ w1.ownsRow G 5 1 (.slice A1 (1 + l.length) c1) (0 :: l).length ((0 :: l).map bcv)) := Lib.hid ⟨⟨HI1.out.1.below hb1 HI1.out.1.lt, HI1.out.2.1.below hb1 HI1.out.2.1.lt, HI1.out.2.2.1.below hb1 HI1.out.2.2.1.lt, HI1.out.2.2.2.1.trans (hb1.mono (by omega))⟩, by
    have h1 := own_base ho1 (show G ≤ W1.heap.size by omega)
    rw [show (0 :: l).length = 1 + l.length by simp [Nat.add_comm]]
    exact h1⟩
  clear ho1 hb1 HI1
  go_wp2_with fail
  obtain ⟨D, hD⟩ : ∃ D, D = w1.heap.size := ⟨_, rfl⟩
  have hGD : G + 3 ≤ D := by omega
  obtain ⟨x0, hx0⟩ : ∃ x0, x0 = leafD l := ⟨_, rfl⟩
  have hx0l : x0.length = 32 := by rw [hx0]; exact sha_length _
  have hx0z : (bvs x0).size = 32 := by rw [bvs_size]; exact hx0l
  have HX0 := Lib.hid hx0
  clear hx0
  refine calls_abs (fun W => Hid (Blk W G 24 #[.slice pw K cw] ∧ Blk W (G + 1) 55 #[.slice none 0 0] ∧ Blk W (G + 2) 4 #[.bool false] ∧ Below G w W ∧ Blk W (D + 1) 55 #[.slice (some ⟨D, 0, none⟩) 1 1] ∧ RowsO W G (.slice (some ⟨D, 0, none⟩) 1 1) 1 [0 :: l] ∧ Parts W (.slice (some ⟨D + 2, 0, none⟩) 1 1) [0 :: l] ∧ W.heap.size = D + 3)) ?_ ?_
  · refine Lib.hid ?_
    have hA : Below w1.heap.size w1 (((w1.alloc (.cells #[.slice A1 (1 + l.length) c1] 22)).alloc (.cells #[.slice (some ⟨w1.heap.size, 0, none⟩) 1 1] 55)).alloc (.cells #[.slice A1 (1 + l.length) c1] 22)) :=
      (((Below.refl w1.heap.size w1).alloc (Nat.le_refl _) _).alloc (by simp) _).alloc (by simp; omega) _
    have hO := own_below HI2.out.2 hA
    have hn1 := (Blk.new w1 22 #[.slice A1 (1 + l.length) c1])
    have hn1' := (hn1.alloc (.cells #[.slice (some ⟨w1.heap.size, 0, none⟩) 1 1] 55)).alloc (.cells #[.slice A1 (1 + l.length) c1] 22)
    have hH : HB ((w1.alloc (.cells #[.slice A1 (1 + l.length) c1] 22)).alloc (.cells #[.slice (some ⟨w1.heap.size, 0, none⟩) 1 1] 55)) (.slice A1 (1 + l.length) c1) (0 :: l) :=
      own_hb (own_below HI2.out.2 ((((Below.refl w1.heap.size w1).alloc (Nat.le_refl _) _).alloc (by simp) _))) rfl
    have hP := parts_new1 (t := 22) rfl hH
    refine ⟨HI2.out.1.1.below hA HI2.out.1.1.lt, HI2.out.1.2.1.below hA HI2.out.1.2.1.lt, HI2.out.1.2.2.1.below hA HI2.out.1.2.2.1.lt, HI2.out.1.2.2.2.trans (hA.mono (by omega)), ?_, ⟨rfl, [.slice A1 (1 + l.length) c1], ?_, rfl, fun j u r hu hr => ?_⟩, ?_, by simp [hD]⟩
    · rw [hD]; exact (Blk.new' (w := w1.alloc _) (by simp) _ _).alloc _
    · rw [hD]; exact own_mk (by omega) hn1' (Nat.le_refl _) (by decide) rfl rfl rfl
    · match j, hu, hr with
      | 0, hu, hr => simp at hu hr; subst hu; subst hr; exact hO
    · rw [hD]
      simpa using hP
  rw [← hD]
  have HD := Lib.hid hD
  clear HI2 hD
  rintro W3 HI3
  have hW3 := HI3.out.2.2.2.2.2.2.2
  have hGw : w.heap.size = G := HG.out.symm
  have HTG : Hid (∀ W, Below G w W → Tab W ∧ 0 < W.heap.size) := Lib.hid (fun W hb => ⟨HT.out.below (HG.out ▸ hb) h0, by have := hb.size; omega⟩)
  refine (of_any _ [0 :: l] W3 (HTG.out W3 HI3.out.2.2.2.1).1 (HTG.out W3 HI3.out.2.2.2.1).2 HI3.out.2.2.2.2.2.2.1 (by simp) (by have := HLL.out; simp; omega)).mono ?_
  rintro e w4 ⟨rfl, hb4⟩
  rw [show sha ([0 :: l] : List (List UInt8)).flatten = x0 by rw [HX0.out]; simp [leafD]]
  have hz4 := hb4.size
  have HI4 : Hid (Blk w4 G 24 #[.slice pw K cw] ∧ Blk w4 (G + 1) 55 #[.slice none 0 0] ∧ Blk w4 (G + 2) 4 #[.bool false] ∧ Below G w w4 ∧ Blk w4 (D + 1) 55 #[.slice (some ⟨D, 0, none⟩) 1 1] ∧ RowsO w4 G (.slice (some ⟨D, 0, none⟩) 1 1) 1 [0 :: l]) := Lib.hid (by
    have h := HI3.out
    exact ⟨h.1.below hb4 h.1.lt, h.2.1.below hb4 h.2.1.lt, h.2.2.1.below hb4 h.2.2.1.lt, h.2.2.2.1.trans (hb4.mono (by omega)), h.2.2.2.2.1.below hb4 h.2.2.2.2.1.lt, h.2.2.2.2.2.1.keep hb4⟩)
  clear hb4 HI3
  go_wp2_with (
    (refine wpList_store_blk rfl 31 (.tmp 11) (.tmp 22) rfl w4.heap.size 31 _ (bvs x0) rfl rfl (Blk.new _ _ _) (by rw [hx0z]; rfl) (by rw [hx0z]; kernel_rfl) (bvs_one _) ?_
     intro V2 hb2 hg2 hz3
     have hBV : Below w4.heap.size w4 V2 := ((Below.refl w4.heap.size w4).alloc (Nat.le_refl _) _).grown hg2 (by simp) (by intro k hk; injection hk with hk; omega)
     have HJ2 : Hid (Blk V2 w4.heap.size 31 (bvs x0) ∧ Below w4.heap.size w4 V2 ∧ V2.heap.size = w4.heap.size + 1) := Lib.hid ⟨hb2, hBV, by rw [hz3]; simp⟩
     clear hb2 hg2 hz3 hBV))
  obtain ⟨F, hF⟩ : ∃ F, F = w4.heap.size := ⟨_, rfl⟩
  rw [← hF] at HJ2 hz4 ⊢
  have HF4 := Lib.hid hF
  clear hF
  have hDF : D + 3 ≤ F := by omega
  refine (steps_any n i V2).mono ?_
  rintro e W5 ⟨rfl, hW5⟩
  have HI5 : Hid (InvR W5 w G D F l 1 [0 :: l] (.slice (some ⟨D, 0, none⟩) 1 1) x0 (.slice pw K cw) ∧ Blk W5 (F + 1) 3 #[.int .i64 (n : Int)] ∧ Blk W5 (F + 2) 3 #[.int .i64 (i : Int)] ∧ W5.heap.size = F + 3) := Lib.hid (by
    have hA : Below V2.heap.size V2 ((V2.alloc (.cells #[.int .i64 (n : Int)] 3)).alloc (.cells #[.int .i64 (i : Int)] 3)) := ((Below.refl V2.heap.size V2).alloc (Nat.le_refl _) _).alloc (by simp) _
    rw [← hW5] at hA
    have hB := HF4.out ▸ HJ2.out.2.1
    have hz := HJ2.out.2.2
    have h := HI4.out
    have hA4 : Below w4.heap.size w4 W5 := hB.trans (hA.mono (by rw [hz, HF4.out]; omega))
    refine ⟨⟨h.1.below hA4 h.1.lt, h.2.1.below hA4 h.2.1.lt, h.2.2.1.below hA4 h.2.2.1.lt, h.2.2.2.2.1.below hA4 h.2.2.2.2.1.lt, h.2.2.2.2.2.keep hA4, HJ2.out.1.below hA HJ2.out.1.lt, h.2.2.2.1.trans (hA4.mono (by rw [HG.out]; exact h.2.2.2.1.size))⟩, ?_, ?_, ?_⟩
    · rw [hW5, ← hz]; exact (Blk.new V2 _ _).alloc _
    · rw [hW5]; exact Blk.new' (w := V2.alloc _) (by simp [hz]) _ _
    · rw [hW5]; simp [hz])
  have hFV : V2.heap.size = F + 1 := HJ2.out.2.2
  rw [hFV]
  clear hW5 HJ2 HI4 hFV
  go_wp2_with fail
  have hsz := HI5.out.2.2.2
  have hseq := steps1_seq (F + 1) n i W5 (by omega) (by omega) HI5.out.2.1 HI5.out.2.2.1
  refine (wpIn_wide (n := 2 + 2)).1 ?_
  apply wpIn_range_n (n := 2) (gf := 38) (lb := #[.pointer (some ⟨F + 1, 0, none⟩), .pointer (some ⟨F + 1 + 1, 0, none⟩)]) rfl (enters_of Tryd.func38 (by kernel_rfl) rfl) hseq (Below.refl _ _) (fun _ => rfl) (fun _ _ _ h k => KeepI.trans h k)
    (fun X Y h => KeepI.turns h) (fun X Y h => KeepS.keepN h (by omega))
    (fun q W => ∃ ls x m u vm, climbF ((stepsF n i).take q) (leafD l) way = some (ls, x, m) ∧ x.length = 32 ∧ IdS w vm m ∧ InvR W w G D F l (ls.length + 1) ((0 :: l) :: ls) u x vm)
    (fun c W => c = .ret ∧ climbF (stepsF n i) (leafD l) way = none ∧ Blk W (G + 1) 55 #[.slice none 0 0] ∧ Blk W (G + 2) 4 #[.bool false] ∧ Below G w W)
    (fun q X Y h ht => by obtain ⟨ls, x, m, u, vm, h1, h2, h3, h4⟩ := h; exact ⟨ls, x, m, u, vm, h1, h2, h3, h4.turns ht (by omega)⟩)
    (fun c X Y h ht => ⟨h.1, h.2.1, ht.blk h.2.2.1, ht.blk h.2.2.2.1, ht.below h.2.2.2.2 (by omega)⟩)
    (fun q X Y h hb => by obtain ⟨ls, x, m, u, vm, h1, h2, h3, h4⟩ := h; exact ⟨ls, x, m, u, vm, h1, h2, h3, h4.steps hb (by omega)⟩)
    (fun o1 o2 => ⟨[], x0, way, _, _, by simp [climbF, HX0.out], hx0l, HW.out, HI5.out.1.below (((Below.refl _ _).alloc (Nat.le_refl _) o1).alloc (by simp) o2)⟩)
  case hassign =>
    intro ly q V K hK
    simp only [stepV]
    gi_wp2
    exact hK
  case hstop =>
    rintro D2 cc V hD2 ⟨rfl, hcl, h1, h2, h3⟩ hK
    have ht : Turns W5.heap.size V (V.putObj D2 (.deferred none)) := ⟨D2, _, _, hD2, hK, rfl, rfl⟩
    have c1 := (ht.blk h1).cell 0
    have c2 := (ht.blk h2).cell 0
    simp only [List.getElem?_toArray, List.getElem?_cons_zero] at c1 c2
    have HB := Lib.hid (ht.below h3 (by omega))
    clear h1 h2 h3 ht
    gi_wp2
    refine ⟨by simp, .inl ⟨_, _, rfl, run_takeDeferred hK, ?_⟩⟩
    refine ⟨_, results_cells2 rfl Tryd.underlying55 Tryd.underlying4 (by first | (simp; done) | (simp; rfl)) (by first | (simp; done) | (simp; rfl)) c1 c2, .slice none 0 0, ?_, ?_, ?_⟩
    · rw [hcl]; rfl
    · rw [hcl]; exact ⟨rfl, [], World.ownsRow_nil _ _ _ _, rfl, fun i u l h => by simp at h⟩
    · rw [← HG.out]; exact HB.out
  case hdone =>
    intro D2 V hD2 hI hK
    obtain ⟨ls, x, m, u, vm, hcl, hxl, hids, hinv⟩ := hI
    rw [List.take_of_length_le (Nat.le_refl _)] at hcl
    have hcn := climb_len hcl
    rw [← HK.out] at hcn
    obtain ⟨pm, cm, rfl, hmc, hmm⟩ := hids.form
    obtain ⟨Au, cu, rfl⟩ := hinv.2.2.2.2.1.form
    have hlsb : ls.length ≤ 1000000 := by omega
    obtain ⟨N, hN⟩ : ∃ N, N = m.length := ⟨_, rfl⟩
    rw [← hN] at hinv hmc
    obtain ⟨b, hb⟩ : ∃ b, b = m.isEmpty := ⟨_, rfl⟩
    have hNb : decide ((N : Int) = 0) = b := by
      rw [hb, hN]
      cases m with
      | nil => rfl
      | cons y m => simp; omega
    have HF := Lib.hid (And.intro hcl (And.intro hb hN))
    have HV := Lib.hid hinv
    have hpl : (crownP n x).length = 41 := by rw [crownP, List.length_cons, List.length_append, le8_length, hxl]
    have hGV : G + 2 < V.heap.size := hinv.2.2.1.lt
    have HKD := Lib.hid hK
    have c0 := HV.out.1.cell 0
    have c10 := HV.out.2.2.2.1.cell 0
    simp only [List.getElem?_toArray, List.getElem?_cons_zero] at c0 c10
    have hRX0 : RXh V w W5.heap.size G D F l ls (.slice Au (ls.length + 1) cu) (.slice pm N cm) x b (crownP n x) (fun _ => false) V.drew := ⟨fun _ => HV.out.2.2.2.2.1, HV.out.1, ⟨fun _ => HV.out.2.1, fun h => by cases h⟩, ⟨fun _ => HV.out.2.2.1, fun h => by cases h⟩, HV.out.2.2.2.1, HV.out.2.2.2.2.2.1, HV.out.2.2.2.2.2.2.drew, KeepN.refl _ _, Nat.le_refl _⟩
    have hlow : ∀ j, (Value.slice Au (ls.length + 1) cu).ownBlock = some j → j < V.heap.size := fun j hj => by
      obtain ⟨_, vs, h2, _⟩ := HV.out.2.2.2.2.1
      exact own_lt h2 j hj
    have HRX := Lib.hid hRX0
    clear hRX0 hcl hids hinv hb hK hN hcn
    go_upto_region 13 with (fail)
    refine any_region_y (wp_region_any (by kernel_rfl)) (RXh V w W5.heap.size G D F l ls (.slice Au (ls.length + 1) cu) (.slice pm N cm) x b (crownP n x)) HRX.out 11 [.eq (.slice Au (ls.length + 1) cu), .eq (.int .i64 (n : Int)), .eq (.agg (bvs x)), .st (fun v W => W.ownsRow G 5 1 v 41 ((crownP n x).map bcv)) (fun v W W' h hb => own_below h hb), .st (fun v W => ∃ g z, v = .slice (some ⟨g, 0, none⟩) 1 1 ∧ Blk W g 22 #[z] ∧ V.heap.size ≤ g ∧ W.ownsRow G 5 1 z 41 ((crownP n x).map bcv)) (fun v W W' h hb => by obtain ⟨g, z, h1, h2, h3, h4⟩ := h; exact ⟨g, z, h1, h2.below hb h2.lt, h3, own_below h4 hb⟩), .st (fun v W => RowsO W G v (ls.length + 2) (((0 :: l) :: ls) ++ [crownP n x])) (fun v W W' h hb => h.keep hb), .eq (.slice pm N cm), .eq (.int .i64 (N : Int)), .eq (.bool b), .any, .any] (by kernel_rfl) (by kernel_rfl) (by kernel_rfl) rfl (by decide) (by kernel_rfl) _ (fun f => by simp only [framedL, Act.put, maskF, oldF, Nat.reduceLT, reduceIte, List.getElem?_toArray, List.getElem?_cons_succ, List.getElem?_cons_zero, Option.bind_some, Option.map_some, Option.map_none, Option.getD_some, Option.getD_none, Array.getD_eq_getD_getElem?, List.setIfInBounds_toArray, List.set_cons_zero, List.set_cons_succ, Nat.reduceAdd]; rfl) ⟨?_, ?_, ?_, ?_, ?_, ?_, ?_, ?_, ?_, ?_, ?_, trivial⟩ ?_
    · refine stepY_of (fun _ _ h => h) (fun _ _ _ h hb => RXh.below h hb) (fun sX W0 hs0 hs1 hX => ?_)
      refine oweAs_pure ((.slice Au (ls.length + 1) cu)) rfl (fun f W hE hd => ?_) (fun W hE => rfl)
      simp only [DepAs, Region.binds, asAt, As.holds, and_true, forall_const] at hd
      have d10 := ((hX.below hE).2.2.2.2.1).cell 0
      simp only [List.getElem?_toArray, List.getElem?_cons_zero] at d10
      go_simp
    · refine stepY_of (fun _ _ h => h) (fun _ _ _ h hb => RXh.below h hb) (fun sX W0 hs0 hs1 hX => ?_)
      refine oweAs_pure ((.int .i64 (n : Int))) rfl (fun f W hE hd => ?_) (fun W hE => rfl)
      go_simp
    · refine stepY_of (fun _ _ h => h) (fun _ _ _ h hb => RXh.below h hb) (fun sX W0 hs0 hs1 hX => ?_)
      exact oweAs_load 31 (.tmp 11) rfl (F) 31 (bvs x) (fun _ => rfl) (hX.2.2.2.2.2.1) Tryd.underlying31 rfl (by rw [bvs_size, hxl]; kernel_rfl) rfl rfl
    · refine stepY_of (fun _ _ h => h) (fun _ _ _ h hb => RXh.below h hb) (fun sX W0 hs0 hs1 hX => ?_)
      refine oweAs_call 29 rfl (fun f W hE hd => ?_)
      simp only [DepAs, Region.binds, asAt, As.holds, and_true, forall_const] at hd
      refine ⟨_, by first | (go_simp; done) | (go_simp; exact rfl) | (go_simp; exact ⟨rfl, rfl⟩), ?_⟩
      have hGW := (hX.below hE).2.1.lt
      refine (crown_any n x W (by omega) hxl).mono ?_
      rintro e w' ⟨v', rfl, ho, hb⟩
      exact ⟨_, rfl, own_base ho (by omega), hb⟩
    · refine stepY_of (fun _ _ h => h) (fun _ _ _ h hb => RXh.below h hb) (fun sX W0 hs0 hs1 hX => ?_)
      refine oweAs_made rfl (fun f W hE hd => ?_)
      simp only [DepAs, Region.binds, asAt, As.holds, and_true, forall_const] at hd
      have hO : W.ownsRow G 5 1 (f 3) 41 ((crownP n x).map bcv) := by first | exact hd | exact hd.1
      obtain ⟨Az, cz, hf⟩ := own_form hO
      rw [hf] at hO
      have hA : Below W.heap.size W (W.alloc (.cells #[.slice Az 41 cz] 22)) := (Below.refl W.heap.size W).alloc (Nat.le_refl _) _
      have hO2 := own_below hO hA
      have hVW := (hX.below hE).2.2.2.2.2.2.2.2
      clear hd
      refine ⟨_, _, by first | (go_simp; done) | (go_simp; exact rfl) | (go_simp; exact ⟨rfl, rfl⟩), ⟨_, _, rfl, Blk.new _ _ _, hVW, hO2⟩, hA⟩
    · refine stepY_mk rfl (fun s f W hs0 hs1 hX hd K hK => ?_)
      simp only [DepAs, Region.binds, asAt, As.holds, and_true, forall_const] at hd
      obtain ⟨h1, ⟨g, z, h2, h3, h4, h5⟩, _⟩ := hd
      obtain ⟨e1, vs, e2, e3, e4⟩ := hX.1 hs0
      have hbw := hX.2.2.2.2.2.2.1.size
      have hnew := h3.cell 0
      go_loud (refine wp_append_own (w := W) (.tmp 55) (.tmp 59) 55 rfl G 22 ir (.slice none 0 0) 1 24 Tryd.underlying55 HIR.out hzr hsr hbr rfl (by decide) (.slice Au (ls.length + 1) cu) (ls.length + 1) vs (by go_simp) e2 ⟨g, 0, none⟩ 1 1 [z] (by go_simp) rfl (fun j u hj => by (match j with | 0 => (simp at hj; subst hj; rw [add0]; exact hnew) | j + 1 => simp at hj)) (fun u hu => by (simp at hu; subst hu; obtain ⟨Az, cz, rfl⟩ := own_form h5; rfl)) (by simp only [maxLen]; omega) (by omega) (by have := HG.out; omega) ?_)
      intro v' W' g1 g2 _
      refine hK v' W' (RowsO.snoc rfl e2 e3 e4 (by rw [hpl]; exact h5) g2 g1) ?_ ?_
      · exact ⟨fun h => by simp at h, hX.2.1.grown g2 (own_ne_blk e2 hX.2.1 (by decide)), ⟨fun e => (hX.2.2.1.1 e).grown g2 (own_ne_blk e2 (hX.2.2.1.1 e) (by decide)), fun e => absurd (hs1 9 5 (by kernel_rfl) e) (by rw [show s 5 = false from hs0]; simp)⟩, ⟨fun e => (hX.2.2.2.1.1 e).grown g2 (own_ne_blk e2 (hX.2.2.2.1.1 e) (by decide)), fun e => (hX.2.2.2.1.2 e).grown g2 (own_ne_blk e2 (hX.2.2.2.1.2 e) (by decide))⟩, hX.2.2.2.2.1.grown g2 (own_ne_blk e2 hX.2.2.2.2.1 (by decide)), hX.2.2.2.2.2.1.grown g2 (own_ne_blk e2 hX.2.2.2.2.2.1 (by decide)), hX.2.2.2.2.2.2.1.grown g2 (by have := HG.out; omega) (fun j hj => own_ge e2 j hj), hX.2.2.2.2.2.2.2.1.trans (keepN_own e2 g2), Nat.le_trans hX.2.2.2.2.2.2.2.2 g2.size⟩
      · intro j hj u hu
        match j, hj, hu with
        | 0, _, hu => exact hu
        | 1, _, hu => exact hu
        | 2, _, hu => exact hu
        | 3, _, hu => exact own_apart e2 g2 hu (by decide)
        | 4, _, hu => obtain ⟨g4, z4, k1, k2, k3, k4⟩ := hu; exact ⟨g4, z4, k1, k2.grown g2 (fun e => by have := hlow g4 e.symm; omega), k3, own_apart e2 g2 k4 (by decide)⟩
        | 5, hj, _ => exact absurd rfl hj
        | 6, _, hu => exact hu
        | 7, _, hu => exact hu
        | 8, _, hu => exact hu
        | 9, _, hu => exact hu
        | 10, _, hu => exact hu
        | j + 11, _, hu => trivial
    · refine stepY_of (fun _ _ h => h) (fun _ _ _ h hb => RXh.below h hb) (fun sX W0 hs0 hs1 hX => ?_)
      refine oweAs_pure ((.slice pm N cm)) rfl (fun f W hE hd => ?_) (fun W hE => rfl)
      simp only [DepAs, Region.binds, asAt, As.holds, and_true, forall_const] at hd
      have d0 := (hX.below hE).2.1.cell 0
      simp only [List.getElem?_toArray, List.getElem?_cons_zero] at d0
      go_simp
    · refine stepY_of (fun _ _ h => h) (fun _ _ _ h hb => RXh.below h hb) (fun sX W0 hs0 hs1 hX => ?_)
      refine oweAs_pure ((.int .i64 (N : Int))) rfl (fun f W hE hd => ?_) (fun W hE => rfl)
      simp only [DepAs, Region.binds, asAt, As.holds, and_true, forall_const] at hd
      go_simp
    · refine stepY_of (fun _ _ h => h) (fun _ _ _ h hb => RXh.below h hb) (fun sX W0 hs0 hs1 hX => ?_)
      refine oweAs_made rfl (fun f W hE hd => ?_)
      simp only [DepAs, Region.binds, asAt, As.holds, and_true, forall_const] at hd
      refine ⟨_, _, by first | (go_simp; done) | (go_simp; exact rfl) | (go_simp; exact ⟨rfl, rfl⟩), ?_, Below.refl _ _⟩
      show (_ : Value) = _
      rw [← hNb]
      rfl
    · refine stepY_mk rfl (fun s f W hs0 hs1 hX hd K hK => ?_)
      simp only [DepAs, Region.binds, asAt, As.holds, and_true, forall_const] at hd
      have hr3 : RowsO W G (f 5) (ls.length + 2) (((0 :: l) :: ls) ++ [crownP n x]) := (by first | exact hd | exact hd.1)
      obtain ⟨A3, c3, h3⟩ := hr3.form
      have hB := hX.2.2.1.1 hs0
      have d10 := hB.cell 0
      have f10 := hB.frozen 0
      simp only [List.getElem?_toArray, List.getElem?_cons_zero] at d10
      rw [h3] at hr3
      have HR3 := Lib.hid hr3
      clear hd hr3
      rw [h3] at hK
      unfold Oper.wp execOp
      go_simp
      have hG : W.grownBy (W.setCell ⟨G + 1, 0, none⟩ (.slice A3 (ls.length + 2) c3)) (some (G + 1)) := Only.store (p := ⟨G + 1, 0, none⟩) (World.grownBy.refl W (some (G + 1))) (.inl rfl) _
      refine hK undef _ trivial ⟨fun e => (hX.1 e).grown hG hB (by decide) (by decide), hX.2.1.grown hG (by intro e; injection e with e; omega), ⟨fun e => by simp at e, fun _ => ⟨_, hB.store 0 _, HR3.out.grown hG hB (by decide) (by decide)⟩⟩, ⟨fun e => (hX.2.2.2.1.1 e).grown hG (by intro e; injection e with e; omega), fun e => (hX.2.2.2.1.2 e).grown hG (by intro e; injection e with e; omega)⟩, hX.2.2.2.2.1.grown hG (by intro e; injection e with e; omega), hX.2.2.2.2.2.1.grown hG (by intro e; injection e with e; omega), hX.2.2.2.2.2.2.1.setCell (p := ⟨G + 1, 0, none⟩) (by show G ≤ G + 1; omega) _, hX.2.2.2.2.2.2.2.1.trans (KeepN.grown hG hB), Nat.le_trans hX.2.2.2.2.2.2.2.2 hG.size⟩ ?_
      intro j hj u hu
      match j, hj, hu with
      | 0, _, hu => exact hu
      | 1, _, hu => exact hu
      | 2, _, hu => exact hu
      | 3, _, hu => exact World.ownsRow.kept hu hG (.inr (fun e => own_ne_blk hu hB (by decide) e.symm))
      | 4, _, hu => obtain ⟨g4, z4, n1, n2, n3, n4⟩ := hu; exact ⟨g4, z4, n1, n2.grown hG (fun e => blk_ne n2 hB (by decide) (by injection e)), n3, n4.kept hG (.inr (fun e => own_ne_blk n4 hB (by decide) e.symm))⟩
      | 5, _, hu => exact RowsO.grown hu hG hB (by decide) (by decide)
      | 6, _, hu => exact hu
      | 7, _, hu => exact hu
      | 8, _, hu => exact hu
      | 9, hj, _ => exact absurd rfl hj
      | 10, _, hu => exact hu
      | j + 11, _, hu => trivial
    · refine stepY_mk rfl (fun s f W hs0 hs1 hX hd K hK => ?_)
      simp only [DepAs, Region.binds, asAt, As.holds, and_true, forall_const] at hd
      have h6 : f 8 = .bool b := (by first | exact hd | exact hd.1)
      have hB := hX.2.2.2.1.1 hs0
      have d10 := hB.cell 0
      have f10 := hB.frozen 0
      simp only [List.getElem?_toArray, List.getElem?_cons_zero] at d10
      clear hd
      rw [h6] at hK
      unfold Oper.wp execOp
      go_simp
      have hG : W.grownBy (W.setCell ⟨G + 1 + 1, 0, none⟩ (.bool b)) (some (G + 1 + 1)) := Only.store (p := ⟨G + 1 + 1, 0, none⟩) (World.grownBy.refl W (some (G + 2))) (.inl rfl) _
      refine hK undef _ trivial ⟨fun e => (hX.1 e).grown hG hB (by decide) (by decide), hX.2.1.grown hG (by intro e; injection e with e; omega), ⟨fun e => (hX.2.2.1.1 e).grown hG (by intro e; injection e with e; omega), fun e => by obtain ⟨v, m1, m2⟩ := hX.2.2.1.2 e; exact ⟨v, m1.grown hG (by intro e; injection e with e; omega), m2.grown hG hB (by decide) (by decide)⟩⟩, ⟨fun e => by simp at e, fun _ => hB.store 0 _⟩, hX.2.2.2.2.1.grown hG (by intro e; injection e with e; omega), hX.2.2.2.2.2.1.grown hG (by intro e; injection e with e; omega), hX.2.2.2.2.2.2.1.setCell (p := ⟨G + 1 + 1, 0, none⟩) (by show G ≤ G + 1 + 1; omega) _, hX.2.2.2.2.2.2.2.1.trans (KeepN.grown hG hB), Nat.le_trans hX.2.2.2.2.2.2.2.2 hG.size⟩ ?_
      intro j hj u hu
      match j, hj, hu with
      | 0, _, hu => exact hu
      | 1, _, hu => exact hu
      | 2, _, hu => exact hu
      | 3, _, hu => exact World.ownsRow.kept hu hG (.inr (fun e => own_ne_blk hu hB (by decide) e.symm))
      | 4, _, hu => obtain ⟨g4, z4, n1, n2, n3, n4⟩ := hu; exact ⟨g4, z4, n1, n2.grown hG (fun e => blk_ne n2 hB (by decide) (by injection e)), n3, n4.kept hG (.inr (fun e => own_ne_blk n4 hB (by decide) e.symm))⟩
      | 5, _, hu => exact RowsO.grown hu hG hB (by decide) (by decide)
      | 6, _, hu => exact hu
      | 7, _, hu => exact hu
      | 8, _, hu => exact hu
      | 9, _, hu => exact hu
      | 10, hj, _ => exact absurd rfl hj
      | j + 11, _, hu => trivial
    intro f W sX hsX hE hA
    simp only [AllAs, As.holds, Nat.reduceAdd] at hA
    obtain ⟨-, -, -, -, -, -, -, -, -, -, -, -⟩ := hA
    obtain ⟨v3, hv1, hv2⟩ := hE.2.2.1.2 (hsX 9 (by decide))
    have hv4 := hE.2.2.2.1.2 (hsX 10 (by decide))
    have hK2 := hE.2.2.2.2.2.2.2.1 _ _ hD2 HKD.out rfl
    have ht : Turns W5.heap.size W (W.putObj D2 (.deferred none)) := ⟨D2, _, _, hD2, hK2, rfl, rfl⟩
    have hw1 := ht.blk hv1
    have hw2 := hv2.turn ht
    have c1 := hw1.cell 0
    have c2 := (ht.blk hv4).cell 0
    simp only [List.getElem?_toArray, List.getElem?_cons_zero] at c1 c2
    have HB := Lib.hid (ht.below hE.2.2.2.2.2.2.1 (by omega))
    obtain ⟨A3, c3, rfl⟩ := hw2.form
    have HW2 := Lib.hid hw2
    clear hE hv1 hv2 hv4 ht hw1 hw2
    go_wp2_with fail
    refine ⟨by simp, .inl ⟨_, _, rfl, run_takeDeferred hK2, ?_⟩⟩
    refine ⟨_, results_cells2 rfl Tryd.underlying55 Tryd.underlying4 (by first | (simp; done) | (simp; rfl)) (by first | (simp; done) | (simp; rfl)) c1 c2, .slice A3 (ls.length + 2) c3, ?_, ?_, ?_⟩
    · rw [HF.out.1, HF.out.2.1]; rfl
    · rw [HF.out.1]
      have h9 := HW2.out
      rw [HG.out] at h9
      have e9 : allF l n (some (ls, x, m)) = ((0 :: l) :: ls) ++ [crownP n x] := rfl
      have l9 : (allF l n (some (ls, x, m))).length = ls.length + 2 := by simp [allF]
      rw [l9, e9]
      exact h9.rows (fun p hp => by rw [← e9] at hp; exact Nat.le_trans (rows_len (sha_length _) HW.out.dig HF.out.1 p hp) (by have := HLL.out; simp only [maxLen]; omega))
    · rw [← HG.out]; exact HB.out
  case hbody =>
    intro ly q U hqN hI hz2
    obtain ⟨ls, x, m, u, vm, hcl, hxl, hids, hinv⟩ := hI
    have hat : (stepsF n i)[q]? = some (stI i q, besideF (stN n q) (stI i q)) := by rw [steps_at, if_pos ((steps_lt n i q).1 hqN)]
    have hnext : climbF ((stepsF n i).take (q + 1)) (leafD l) way = stepC (some (ls, x, m)) (stI i q, besideF (stN n q) (stI i q)) := by rw [take_next hat, climb_snoc, hcl]
    have hcn := climb_len hcl
    rw [← HK.out] at hcn
    have hai : stI i q ≤ i := stI_le i q
    obtain ⟨a, ha⟩ : ∃ a, a = stI i q := ⟨_, rfl⟩
    obtain ⟨bs', hbs⟩ : ∃ b, b = besideF (stN n q) (stI i q) := ⟨_, rfl⟩
    rw [← hbs, ← ha] at hnext ⊢
    rw [← ha] at hai
    have hxz : (bvs x).size = 32 := by rw [bvs_size]; exact hxl
    have HU := Lib.hid hinv
    have hzU : F < U.heap.size := hinv.2.2.2.2.2.1.lt
    have hGU : G + 2 < U.heap.size := hinv.2.2.1.lt
    clear hat hcl ha hbs hinv
    cases bs' with
    | false =>
      have HN := Lib.hid hnext
      clear hnext
      gi_wp2
      exact ⟨KeepN.refl _ _, KeepI.refl _ _, ls, x, m, u, vm, HN.out, hxl, hids, HU.out⟩
    | true =>
      cases m with
      | nil =>
        have hcl := climb_none _ (show climbF ((stepsF n i).take (q + 1)) (leafD l) way = none from hnext)
        have HC := Lib.hid hcl
        obtain ⟨pm, cm, rfl, -, -⟩ := hids.form
        have c0 := HU.out.1.cell 0
        have c1 := HU.out.2.1.cell 0
        have c2 := HU.out.2.2.1.cell 0
        have f1 := HU.out.2.1.frozen 0
        have f2 := HU.out.2.2.1.frozen 0
        simp only [List.getElem?_toArray, List.getElem?_cons_zero] at c0 c1 c2
        clear hnext hcl
        gi_wp2
        refine ⟨(KeepN.store HU.out.2.1 _).trans (KeepN.store (HU.out.2.2.1.other (by show G + 2 ≠ G + 1; omega) _) _), rfl, HC.out, (HU.out.2.1.store 0 _).other (by show G + 1 ≠ G + 1 + 1; omega) _, (HU.out.2.2.1.other (by show G + 2 ≠ G + 1; omega) _).store 0 _, ?_⟩
        exact (HU.out.2.2.2.2.2.2.setCell (p := ⟨G + 1, 0, none⟩) (by show G ≤ G + 1; omega) _).setCell (p := ⟨G + 1 + 1, 0, none⟩) (by show G ≤ G + 1 + 1; omega) _
      | cons y m =>
        obtain ⟨pm, cm, rfl, hmc, hmm⟩ := hids.form
        obtain ⟨Au, cu, rfl⟩ := HU.out.2.2.2.2.1.form
        have hml : m.length < 1000000 := by simp only [List.length_cons] at hcn; omega
        obtain ⟨N1, hN1⟩ : ∃ N1, N1 = m.length := ⟨_, rfl⟩
        have hN1c : (y :: m).length = N1 + 1 := by rw [hN1]; rfl
        obtain ⟨pb, po, rfl, hat⟩ := hids.at_ (by simp)
        obtain ⟨hyl, hyr⟩ := hat 0 y rfl
        have hpw : pb < w.heap.size := range_lt hyr hyl
        have hyr0 : w.rangeAt pb po (y.map bcv) := by simpa using hyr
        have HYR : Hid (U.rangeAt pb po (y.map bcv)) := Lib.hid (fun j v hv => (HU.out.2.2.2.2.2.2.cell (p := ⟨pb, po + j, none⟩) (by show pb < G; rw [HG.out]; exact hpw)).trans (hyr0 j v hv))
        rw [hN1c] at hmc hids HU
        have HIDS := Lib.hid hids
        have c0 := HU.out.1.cell 0
        simp only [List.getElem?_toArray, List.getElem?_cons_zero] at c0
        have hN1b : N1 < 1000000 := by omega
        have hN1p : (0 : Int) < ((N1 + 1 : Nat) : Int) := by omega
        have hN1z : ¬ ((N1 : Int) + 1 = 0) := by omega
        have HN := Lib.hid (And.intro hnext hN1)
        have hlsb : ls.length ≤ 1000000 := by omega
        clear hat hyr hyr0 hids hnext hN1 hml hN1c hcn
        have hand := i64_and1 a (by omega)
        gi_upto_region 9 with (fail)
        refine any_region_tail2 (wpIn_round_any (by kernel_rfl) (by rintro ⟨a, w, h⟩; exact h) (by kernel_rfl)) 6 [.eq (.agg (bvs x)), .eq (.slice (some ⟨pb, po, none⟩) (N1 + 1) cm), .eq (.pointer (some ⟨pb, po, none⟩)), .eq (.agg (bvs y)), .st (fun v W => W.ownsRow G 5 1 v 65 ((nodeP x y).map bcv)) (fun v W W' h hb => own_below h hb), .st (fun v W => W.ownsRow G 5 1 v 65 ((nodeP x y).map bcv)) (fun v W W' h hb => own_below h hb)] (by kernel_rfl) (by kernel_rfl) (by kernel_rfl) rfl (by decide) (by kernel_rfl) _ (fun f => by simp only [framedL, Act.put, maskF, oldF, Nat.reduceLT, reduceIte, List.getElem?_toArray, List.getElem?_cons_succ, List.getElem?_cons_zero, Option.bind_some, Option.map_some, Option.map_none, Option.getD_some, Option.getD_none, Array.getD_eq_getD_getElem?, List.setIfInBounds_toArray, List.set_cons_zero, List.set_cons_succ, Nat.reduceAdd]; rfl) ⟨?_, ?_, ?_, ?_, ?_, ?_, trivial⟩ ?_
        · exact oweAs_load 31 (.tmp 11) rfl (F) 31 (bvs x) (fun _ => rfl) (HU.out.2.2.2.2.2.1) Tryd.underlying31 rfl (by rw [bvs_size, hxl]; kernel_rfl) rfl rfl
        · refine oweAs_pure ((.slice (some ⟨pb, po, none⟩) (N1 + 1) cm)) rfl (fun f W hE hd => ?_) (fun W hE => rfl)
          simp only [DepAs, Region.binds, asAt, As.holds, and_true, forall_const] at hd
          have d0 := (hE.cell (p := ⟨G, 0, none⟩) (lt_of_cell c0)).trans c0
          go_simp
        · refine oweAs_pure ((.pointer (some ⟨pb, po, none⟩))) rfl (fun f W hE hd => ?_) (fun W hE => rfl)
          simp only [DepAs, Region.binds, asAt, As.holds, and_true, forall_const] at hd
          go_simp
        · refine oweAs_load_mid 31 (.tmp 35) rfl y rfl rfl Tryd.underlying31 rfl (by rw [hyl]; kernel_rfl) (fun f W hE hd => by (simp only [DepAs, Region.binds, asAt, As.holds, and_true, forall_const] at hd; exact ⟨pb, _, by go_simp, range_keep (HYR.out) hE⟩))
        · refine oweAs_call 40 rfl (fun f W hE hd => ?_)
          simp only [DepAs, Region.binds, asAt, As.holds, and_true, forall_const] at hd
          refine ⟨_, by (go_simp; first | exact rfl | exact ⟨rfl, rfl⟩), ?_⟩
          have hz := hE.size
          refine (pair_any x y W hxl hyl).mono ?_
          rintro e w' ⟨v', rfl, ho, hb⟩
          exact ⟨_, rfl, own_base ho (by omega), hb⟩
        · refine oweAs_made rfl (fun f W hE hd => ?_)
          simp only [DepAs, Region.binds, asAt, As.holds, and_true, forall_const] at hd
          refine ⟨_, _, by first | (go_simp; done) | (go_simp; exact rfl) | (go_simp; exact ⟨rfl, rfl⟩), hd.1, Below.refl _ _⟩
        intro f W hE hA
        simp only [AllAs, As.holds, Nat.reduceAdd] at hA
        obtain ⟨-, -, -, -, -, hA5, -⟩ := hA
        simp only [List.drop_succ_cons, List.drop_zero]
        obtain ⟨Ab, cb, hf⟩ := own_form hA5
        rw [hf] at hA5 ⊢
        have HV := Lib.hid (And.intro (HU.out.below hE) (And.intro hA5 hE))
        have hzE := hE.size
        clear hE hA5 hf
        go_wp2
        by_cases hodd : a % 2 = 1
        · have hrem : (a : Int) % 2 = 1 := by omega
          gi_upto_region 11 with (fail)
          obtain ⟨V8, hV8⟩ : ∃ V8, V8 = W := ⟨_, rfl⟩
          subst hV8
          have c0 := HV.out.1.1.cell 0
          simp only [List.getElem?_toArray, List.getElem?_cons_zero] at c0
          have HYR2 : Hid (V8.rangeAt pb po (y.map bcv)) := Lib.hid (range_keep HYR.out HV.out.2.2)
          refine any_region_tail2 (wpIn_round_any (by kernel_rfl) (by rintro ⟨a, w, h⟩; exact h) (by kernel_rfl)) 6 [.eq (.slice (some ⟨pb, po, none⟩) (N1 + 1) cm), .eq (.pointer (some ⟨pb, po, none⟩)), .eq (.agg (bvs y)), .eq (.agg (bvs x)), .st (fun v W => W.ownsRow G 5 1 v 65 ((nodeP y x).map bcv)) (fun v W W' h hb => own_below h hb), .st (fun v W => W.ownsRow G 5 1 v 65 ((nodeP y x).map bcv)) (fun v W W' h hb => own_below h hb)] (by kernel_rfl) (by kernel_rfl) (by kernel_rfl) rfl (by decide) (by kernel_rfl) _ (fun f => by simp only [framedL, Act.put, maskF, oldF, Nat.reduceLT, reduceIte, List.getElem?_toArray, List.getElem?_cons_succ, List.getElem?_cons_zero, Option.bind_some, Option.map_some, Option.map_none, Option.getD_some, Option.getD_none, Array.getD_eq_getD_getElem?, List.setIfInBounds_toArray, List.set_cons_zero, List.set_cons_succ, Nat.reduceAdd]; rfl) ⟨?_, ?_, ?_, ?_, ?_, ?_, trivial⟩ ?_
          · refine oweAs_pure ((.slice (some ⟨pb, po, none⟩) (N1 + 1) cm)) rfl (fun f W hE hd => ?_) (fun W hE => rfl)
            simp only [DepAs, Region.binds, asAt, As.holds, and_true, forall_const] at hd
            have d0 := (hE.cell (p := ⟨G, 0, none⟩) (lt_of_cell c0)).trans c0
            go_simp
          · refine oweAs_pure ((.pointer (some ⟨pb, po, none⟩))) rfl (fun f W hE hd => ?_) (fun W hE => rfl)
            simp only [DepAs, Region.binds, asAt, As.holds, and_true, forall_const] at hd
            go_simp
          · refine oweAs_load_mid 31 (.tmp 42) rfl y rfl rfl Tryd.underlying31 rfl (by rw [hyl]; kernel_rfl) (fun f W hE hd => by (simp only [DepAs, Region.binds, asAt, As.holds, and_true, forall_const] at hd; exact ⟨pb, _, by go_simp, range_keep (HYR2.out) hE⟩))
          · exact oweAs_load 31 (.tmp 11) rfl (F) 31 (bvs x) (fun _ => rfl) (HV.out.1.2.2.2.2.2.1) Tryd.underlying31 rfl (by rw [bvs_size, hxl]; kernel_rfl) rfl rfl
          · refine oweAs_call 40 rfl (fun f W hE hd => ?_)
            simp only [DepAs, Region.binds, asAt, As.holds, and_true, forall_const] at hd
            refine ⟨_, by (go_simp; first | exact rfl | exact ⟨rfl, rfl⟩), ?_⟩
            have hz := hE.size
            refine (pair_any y x W hyl hxl).mono ?_
            rintro e w' ⟨v', rfl, ho, hb⟩
            exact ⟨_, rfl, own_base ho (by omega), hb⟩
          · refine oweAs_made rfl (fun f W hE hd => ?_)
            simp only [DepAs, Region.binds, asAt, As.holds, and_true, forall_const] at hd
            refine ⟨_, _, by first | (go_simp; done) | (go_simp; exact rfl) | (go_simp; exact ⟨rfl, rfl⟩), hd.1, Below.refl _ _⟩
          intro f W hE hA
          simp only [AllAs, As.holds, Nat.reduceAdd] at hA
          obtain ⟨-, -, -, -, -, hA5, -⟩ := hA
          simp only [List.drop_succ_cons, List.drop_zero]
          obtain ⟨Ac, cc, hf⟩ := own_form hA5
          rw [hf] at hA5 ⊢
          have HB : Hid (InvR W w G D F l (ls.length + 1) ((0 :: l) :: ls) (.slice Au (ls.length + 1) cu) x (.slice (some ⟨pb, po, none⟩) (N1 + 1) cm) ∧ W.ownsRow G 5 1 (.slice Ac 65 cc) 65 ((stepP a x y).map bcv) ∧ Below U.heap.size U W) := Lib.hid ⟨HV.out.1.below hE, by rw [stepP, if_pos hodd]; exact hA5, HV.out.2.2.trans (hE.mono hzE)⟩
          have hzE2 := hE.size
          clear HV hE hA5 hf c0 HYR2
          go_wp2
          gi_upto_region 12 with (fail)
          obtain ⟨V9, hV9⟩ : ∃ V9, V9 = W := ⟨_, rfl⟩
          subst hV9
          have c0 := HB.out.1.1.cell 0
          have c10 := HB.out.1.2.2.2.1.cell 0
          simp only [List.getElem?_toArray, List.getElem?_cons_zero] at c0 c10
          have hRX0 : RXr V9 U w W5.heap.size G D F l ls (.slice Au (ls.length + 1) cu) (.slice (some ⟨pb, po, none⟩) (N1 + 1) cm) (.slice Ac 65 cc) x (stepP a x y) (fun _ => false) V9.drew := ⟨fun _ => HB.out.1.2.2.2.2.1, HB.out.1.1, HB.out.1.2.1, HB.out.1.2.2.1, ⟨fun _ => HB.out.1.2.2.2.1, fun h => by cases h⟩, ⟨fun _ => HB.out.1.2.2.2.2.2.1, fun h => by cases h⟩, HB.out.1.2.2.2.2.2.2.drew, KeepN.below HB.out.2.2.drew, KeepI.below HB.out.2.2.drew, HB.out.2.1, Nat.le_refl _⟩
          have hlow : ∀ j, (Value.slice Au (ls.length + 1) cu).ownBlock = some j → j < V9.heap.size := fun j hj => by
            obtain ⟨_, vs, h2, _⟩ := HB.out.1.2.2.2.2.1
            exact own_lt h2 j hj
          have HRX := Lib.hid hRX0
          obtain ⟨A8, hA8⟩ : ∃ A8, A8 = (if cm = 1 then some (⟨pb, po, none⟩ : Addr) else some ⟨pb, po + 32, none⟩) := ⟨_, rfl⟩
          have HA8 := Lib.hid hA8
          clear hRX0 hA8
          
          refine any_region_y (wpIn_round_any (by kernel_rfl) (by rintro ⟨a, w, h⟩; exact h) (by kernel_rfl)) (RXr V9 U w W5.heap.size G D F l ls (.slice Au (ls.length + 1) cu) (.slice (some ⟨pb, po, none⟩) (N1 + 1) cm) (.slice Ac 65 cc) x (stepP a x y)) HRX.out 11 [.eq (.slice Au (ls.length + 1) cu), .eq (.slice Ac 65 cc), .st (fun v W => ∃ g, v = .slice (some ⟨g, 0, none⟩) 1 1 ∧ Blk W g 22 #[.slice Ac 65 cc] ∧ V9.heap.size ≤ g) (fun v W W' h hb => by obtain ⟨g, h1, h2, h3⟩ := h; exact ⟨g, h1, h2.below hb h2.lt, h3⟩), .st (fun v W => RowsO W G v (ls.length + 2) (((0 :: l) :: ls) ++ [stepP a x y])) (fun v W W' h hb => h.keep hb), .eq (.slice Ac 65 cc), .st (fun v W => ∃ g, v = .slice (some ⟨g, 0, none⟩) 1 1 ∧ Blk W g 22 #[.slice Ac 65 cc] ∧ V9.heap.size ≤ g) (fun v W W' h hb => by obtain ⟨g, h1, h2, h3⟩ := h; exact ⟨g, h1, h2.below hb h2.lt, h3⟩), .eq (.agg (bvs (sha (stepP a x y)))), .eq (.slice (some ⟨pb, po, none⟩) (N1 + 1) cm), .eq (.slice A8 N1 (cm - 1)), .any, .any] (by kernel_rfl) (by kernel_rfl) (by kernel_rfl) rfl (by decide) (by kernel_rfl) _ (fun f => by simp only [framedL, Act.put, maskF, oldF, Nat.reduceLT, reduceIte, List.getElem?_toArray, List.getElem?_cons_succ, List.getElem?_cons_zero, Option.bind_some, Option.map_some, Option.map_none, Option.getD_some, Option.getD_none, Array.getD_eq_getD_getElem?, List.setIfInBounds_toArray, List.set_cons_zero, List.set_cons_succ, Nat.reduceAdd]; rfl) ⟨?_, ?_, ?_, ?_, ?_, ?_, ?_, ?_, ?_, ?_, ?_, trivial⟩ ?_
          · refine stepY_of (fun _ _ h => h) (fun _ _ _ h hb => RXr.below h hb) (fun sX W0 hs0 hs1 hX => ?_)
            refine oweAs_pure ((.slice Au (ls.length + 1) cu)) rfl (fun f W hE hd => ?_) (fun W hE => rfl)
            simp only [DepAs, Region.binds, asAt, As.holds, and_true, forall_const] at hd
            have h9 : sX 9 = false := by (cases h : sX 9 with | false => rfl | true => exact absurd (hs1 9 0 (by kernel_rfl) h) (by simp [hs0]))
            have d10 := ((hX.below hE).2.2.2.2.1.1 h9).cell 0
            simp only [List.getElem?_toArray, List.getElem?_cons_zero] at d10
            go_simp
          · refine stepY_of (fun _ _ h => h) (fun _ _ _ h hb => RXr.below h hb) (fun sX W0 hs0 hs1 hX => ?_)
            refine oweAs_pure ((.slice Ac 65 cc)) rfl (fun f W hE hd => ?_) (fun W hE => rfl)
            go_simp
          · refine stepY_of (fun _ _ h => h) (fun _ _ _ h hb => RXr.below h hb) (fun sX W0 hs0 hs1 hX => ?_)
            refine oweAs_made rfl (fun f W hE hd => ?_)
            simp only [DepAs, Region.binds, asAt, As.holds, and_true, forall_const] at hd
            refine ⟨_, _, by first | (go_simp; done) | (go_simp; exact rfl) | (go_simp; exact ⟨rfl, rfl⟩), ⟨_, rfl, Blk.new _ _ _, (hX.below hE).2.2.2.2.2.2.2.2.2.2⟩, (Below.refl W.heap.size W).alloc (Nat.le_refl _) _⟩
          · refine stepY_mk rfl (fun s f W hs0 hs1 hX hd K hK => ?_)
            simp only [DepAs, Region.binds, asAt, As.holds, and_true, forall_const] at hd
            obtain ⟨h1, g, h2, h3, h4⟩ := hd
            obtain ⟨e1, vs, e2, e3, e4⟩ := hX.1 hs0
            have hbw := hX.2.2.2.2.2.2.1.size
            have hnew := h3.cell 0
            go_loud (refine wp_append_own (w := W) (.tmp 46) (.tmp 48) 55 rfl G 22 ir (.slice none 0 0) 1 24 Tryd.underlying55 HIR.out hzr hsr hbr rfl (by decide) (.slice Au (ls.length + 1) cu) (ls.length + 1) vs (by go_simp) e2 ⟨g, 0, none⟩ 1 1 [.slice Ac 65 cc] (by go_simp) rfl (fun j u hj => by (match j with | 0 => (simp at hj; subst hj; rw [add0]; exact hnew) | j + 1 => simp at hj)) (fun u hu => by simp at hu; subst hu; rfl) (by simp only [maxLen]; omega) (by omega) (by have := HG.out; omega) ?_)
            intro v' W' g1 g2 _
            refine hK v' W' (RowsO.snoc rfl e2 e3 e4 (by rw [stepP_length hxl hyl]; exact hX.2.2.2.2.2.2.2.2.2.1) g2 g1) ?_ ?_
            · exact ⟨fun h => by simp at h, hX.2.1.grown g2 (own_ne_blk e2 hX.2.1 (by decide)), hX.2.2.1.grown g2 (own_ne_blk e2 hX.2.2.1 (by decide)), hX.2.2.2.1.grown g2 (own_ne_blk e2 hX.2.2.2.1 (by decide)), ⟨fun e => (hX.2.2.2.2.1.1 e).grown g2 (own_ne_blk e2 (hX.2.2.2.2.1.1 e) (by decide)), fun e => absurd (hs1 9 3 (by kernel_rfl) e) (by rw [show s 3 = false from hs0]; simp)⟩, ⟨fun e => (hX.2.2.2.2.2.1.1 e).grown g2 (own_ne_blk e2 (hX.2.2.2.2.2.1.1 e) (by decide)), fun e => (hX.2.2.2.2.2.1.2 e).grown g2 (own_ne_blk e2 (hX.2.2.2.2.2.1.2 e) (by decide))⟩, hX.2.2.2.2.2.2.1.grown g2 (by have := HG.out; omega) (fun j hj => own_ge e2 j hj), hX.2.2.2.2.2.2.2.1.trans (keepN_own e2 g2), hX.2.2.2.2.2.2.2.2.1.trans (keepI_own e2 g2 (by decide)), own_apart e2 g2 hX.2.2.2.2.2.2.2.2.2.1 (by decide), Nat.le_trans hX.2.2.2.2.2.2.2.2.2.2 g2.size⟩
            · intro j hj u hu
              have hkeep : ∀ v : Value, (∃ g, v = .slice (some ⟨g, 0, none⟩) 1 1 ∧ Blk W g 22 #[.slice Ac 65 cc] ∧ V9.heap.size ≤ g) → ∃ g, v = .slice (some ⟨g, 0, none⟩) 1 1 ∧ Blk W' g 22 #[.slice Ac 65 cc] ∧ V9.heap.size ≤ g := by
                rintro v ⟨g, k1, k2, k3⟩
                exact ⟨g, k1, k2.grown g2 (fun e => by have := hlow g e.symm; omega), k3⟩
              match j, hj, hu with
              | 0, _, hu => exact hu
              | 1, _, hu => exact hu
              | 2, _, hu => exact hkeep _ hu
              | 3, hj, _ => exact absurd rfl hj
              | 4, _, hu => exact hu
              | 5, _, hu => exact hkeep _ hu
              | 6, _, hu => exact hu
              | 7, _, hu => exact hu
              | 8, _, hu => exact hu
              | 9, _, hu => exact hu
              | 10, _, hu => exact hu
              | j + 11, _, hu => trivial
          · refine stepY_of (fun _ _ h => h) (fun _ _ _ h hb => RXr.below h hb) (fun sX W0 hs0 hs1 hX => ?_)
            refine oweAs_pure ((.slice Ac 65 cc)) rfl (fun f W hE hd => ?_) (fun W hE => rfl)
            go_simp
          · refine stepY_of (fun _ _ h => h) (fun _ _ _ h hb => RXr.below h hb) (fun sX W0 hs0 hs1 hX => ?_)
            refine oweAs_made rfl (fun f W hE hd => ?_)
            simp only [DepAs, Region.binds, asAt, As.holds, and_true, forall_const] at hd
            refine ⟨_, _, by first | (go_simp; done) | (go_simp; exact rfl) | (go_simp; exact ⟨rfl, rfl⟩), ⟨_, rfl, Blk.new _ _ _, (hX.below hE).2.2.2.2.2.2.2.2.2.2⟩, (Below.refl W.heap.size W).alloc (Nat.le_refl _) _⟩
          · refine stepY_of (fun _ _ h => h) (fun _ _ _ h hb => RXr.below h hb) (fun sX W0 hs0 hs1 hX => ?_)
            refine oweAs_call 28 rfl (fun f W hE hd => ?_)
            simp only [DepAs, Region.binds, asAt, As.holds, and_true, forall_const] at hd
            obtain ⟨g, k1, k2, k3⟩ := (by first | exact hd | exact hd.1 : ∃ g, f 5 = .slice (some ⟨g, 0, none⟩) 1 1 ∧ Blk W g 22 #[.slice Ac 65 cc] ∧ V9.heap.size ≤ g)
            have hXW := hX.below hE
            have hsl := stepP_length (a := a) hxl hyl
            refine ⟨_, by first | (go_simp; done) | (go_simp; exact rfl) | (go_simp; exact ⟨rfl, rfl⟩), ?_⟩
            refine (of_any _ [stepP a x y] W (HTG.out W hXW.2.2.2.2.2.2.1).1 (HTG.out W hXW.2.2.2.2.2.2.1).2 (parts_blk k2 (own_hb hXW.2.2.2.2.2.2.2.2.2.1 hsl.symm)) (by simp) (by simp; omega)).mono ?_
            rintro e w' ⟨rfl, hb⟩
            exact ⟨_, rfl, by (show (_ : Value) = _; simp), hb⟩
          · refine stepY_of (fun _ _ h => h) (fun _ _ _ h hb => RXr.below h hb) (fun sX W0 hs0 hs1 hX => ?_)
            refine oweAs_pure ((.slice (some ⟨pb, po, none⟩) (N1 + 1) cm)) rfl (fun f W hE hd => ?_) (fun W hE => rfl)
            simp only [DepAs, Region.binds, asAt, As.holds, and_true, forall_const] at hd
            have d0 := (hX.below hE).2.1.cell 0
            simp only [List.getElem?_toArray, List.getElem?_cons_zero] at d0
            go_simp
          · refine stepY_of (fun _ _ h => h) (fun _ _ _ h hb => RXr.below h hb) (fun sX W0 hs0 hs1 hX => ?_)
            refine oweAs_made rfl (fun f W hE hd => ?_)
            simp only [DepAs, Region.binds, asAt, As.holds, and_true, forall_const] at hd
            have hA := HA8.out
            have hN1q : (1 : Int) ≤ (N1 : Int) + 1 := by omega
            by_cases hc1 : cm = 1
            · rw [if_pos hc1] at hA
              refine ⟨_, _, by first | (go_simp; done) | (go_simp; exact rfl) | (go_simp; exact ⟨rfl, rfl⟩), ?_, Below.refl _ _⟩
              show (_ : Value) = _
              rw [hA, hc1]
            · rw [if_neg hc1] at hA
              refine ⟨_, _, by first | (go_simp; done) | (go_simp; exact rfl) | (go_simp; exact ⟨rfl, rfl⟩), ?_, Below.refl _ _⟩
              show (_ : Value) = _
              rw [hA]
          · refine stepY_mk rfl (fun s f W hs0 hs1 hX hd K hK => ?_)
            simp only [DepAs, Region.binds, asAt, As.holds, and_true, forall_const] at hd
            have hr3 : RowsO W G (f 3) (ls.length + 2) (((0 :: l) :: ls) ++ [stepP a x y]) := hd.1
            obtain ⟨A3, c3, h3⟩ := hr3.form
            have hB := hX.2.2.2.2.1.1 hs0
            have d10 := hB.cell 0
            have f10 := hB.frozen 0
            simp only [List.getElem?_toArray, List.getElem?_cons_zero] at d10
            rw [h3] at hr3
            have HR3 := Lib.hid hr3
            clear hd hr3
            rw [h3] at hK
            unfold Oper.wp execOp
            go_simp
            have hG : W.grownBy (W.setCell ⟨D + 1, 0, none⟩ (.slice A3 (ls.length + 2) c3)) (some (D + 1)) := Only.store (p := ⟨D + 1, 0, none⟩) (World.grownBy.refl W (some (D + 1))) (.inl rfl) _
            refine hK undef _ trivial ⟨fun e => (hX.1 e).grown hG hB (by decide) (by decide), hX.2.1.grown hG (by intro e; injection e with e; omega), hX.2.2.1.grown hG (by intro e; injection e with e; omega), hX.2.2.2.1.grown hG (by intro e; injection e with e; omega), ⟨fun e => by simp at e, fun _ => ⟨_, hB.store 0 _, HR3.out.grown hG hB (by decide) (by decide)⟩⟩, ⟨fun e => (hX.2.2.2.2.2.1.1 e).grown hG (by intro e; injection e with e; omega), fun e => (hX.2.2.2.2.2.1.2 e).grown hG (by intro e; injection e with e; omega)⟩, hX.2.2.2.2.2.2.1.setCell (p := ⟨D + 1, 0, none⟩) (by show G ≤ D + 1; omega) _, hX.2.2.2.2.2.2.2.1.trans (KeepN.grown hG hB), hX.2.2.2.2.2.2.2.2.1.trans (KeepI.grown hG hB (by decide)), hX.2.2.2.2.2.2.2.2.2.1.kept hG (.inr (fun e => own_ne_blk hX.2.2.2.2.2.2.2.2.2.1 hB (by decide) e.symm)), Nat.le_trans hX.2.2.2.2.2.2.2.2.2.2 hG.size⟩ ?_
            intro j hj u hu
            have hkeep : ∀ v : Value, (∃ g, v = .slice (some ⟨g, 0, none⟩) 1 1 ∧ Blk W g 22 #[.slice Ac 65 cc] ∧ V9.heap.size ≤ g) → ∃ g, v = .slice (some ⟨g, 0, none⟩) 1 1 ∧ Blk (W.setCell ⟨D + 1, 0, none⟩ (.slice A3 (ls.length + 2) c3)) g 22 #[.slice Ac 65 cc] ∧ V9.heap.size ≤ g := by
              rintro v ⟨g, n1, n2, n3⟩
              exact ⟨g, n1, n2.grown hG (fun e => blk_ne n2 hB (by decide) (by injection e)), n3⟩
            match j, hj, hu with
            | 0, _, hu => exact hu
            | 1, _, hu => exact hu
            | 2, _, hu => exact hkeep _ hu
            | 3, _, hu => exact RowsO.grown hu hG hB (by decide) (by decide)
            | 4, _, hu => exact hu
            | 5, _, hu => exact hkeep _ hu
            | 6, _, hu => exact hu
            | 7, _, hu => exact hu
            | 8, _, hu => exact hu
            | 9, hj, _ => exact absurd rfl hj
            | 10, _, hu => exact hu
            | j + 11, _, hu => trivial
          · refine stepY_mk rfl (fun s f W hs0 hs1 hX hd K hK => ?_)
            simp only [DepAs, Region.binds, asAt, As.holds, and_true, forall_const] at hd
            have h6 : f 6 = .agg (bvs (sha (stepP a x y))) := hd.1
            have hB := hX.2.2.2.2.2.1.1 hs0
            have hsz : (bvs (sha (stepP a x y))).size = 32 := by rw [bvs_size]; exact sha_length _
            refine wp_store_blk 31 (.tmp 11) (.tmp 52) rfl F 31 (bvs x) (bvs (sha (stepP a x y))) rfl (by go_simp) hB (by rw [hsz, hxz]) (by rw [hsz]; kernel_rfl) (bvs_one _) ?_
            intro W2 k1 k2 k3
            refine hK undef _ trivial ⟨fun e => (hX.1 e).grown k2 hB (by decide) (by decide), hX.2.1.grown k2 (by intro e; injection e with e; omega), hX.2.2.1.grown k2 (by intro e; injection e with e; omega), hX.2.2.2.1.grown k2 (by intro e; injection e with e; omega), ⟨fun e => (hX.2.2.2.2.1.1 e).grown k2 (by intro e; injection e with e; omega), fun e => by obtain ⟨v, m1, m2⟩ := hX.2.2.2.2.1.2 e; exact ⟨v, m1.grown k2 (by intro e; injection e with e; omega), m2.grown k2 hB (by decide) (by decide)⟩⟩, ⟨fun e => by simp at e, fun _ => k1⟩, hX.2.2.2.2.2.2.1.grown k2 (by have := HG.out; have := hB.lt; omega) (by intro k hk; injection hk with hk; omega), hX.2.2.2.2.2.2.2.1.trans (KeepN.grown k2 hB), hX.2.2.2.2.2.2.2.2.1.trans (KeepI.grown k2 hB (by decide)), hX.2.2.2.2.2.2.2.2.2.1.kept k2 (.inr (fun e => own_ne_blk hX.2.2.2.2.2.2.2.2.2.1 hB (by decide) e.symm)), Nat.le_trans hX.2.2.2.2.2.2.2.2.2.2 k2.size⟩ ?_
            intro j hj u hu
            have hkeep : ∀ v : Value, (∃ g, v = .slice (some ⟨g, 0, none⟩) 1 1 ∧ Blk W g 22 #[.slice Ac 65 cc] ∧ V9.heap.size ≤ g) → ∃ g, v = .slice (some ⟨g, 0, none⟩) 1 1 ∧ Blk W2 g 22 #[.slice Ac 65 cc] ∧ V9.heap.size ≤ g := by
              rintro v ⟨g, n1, n2, n3⟩
              exact ⟨g, n1, n2.grown k2 (fun e => blk_ne n2 hB (by decide) (by injection e)), n3⟩
            match j, hj, hu with
            | 0, _, hu => exact hu
            | 1, _, hu => exact hu
            | 2, _, hu => exact hkeep _ hu
            | 3, _, hu => exact RowsO.grown hu k2 hB (by decide) (by decide)
            | 4, _, hu => exact hu
            | 5, _, hu => exact hkeep _ hu
            | 6, _, hu => exact hu
            | 7, _, hu => exact hu
            | 8, _, hu => exact hu
            | 9, _, hu => exact hu
            | 10, hj, _ => exact absurd rfl hj
            | j + 11, _, hu => trivial
          intro f W sX hsX hE hA
          simp only [AllAs, As.holds, Nat.reduceAdd] at hA
          obtain ⟨-, -, -, hA3, -, -, hA6, -, hA8, -, -, -⟩ := hA
          rw [hA8]
          obtain ⟨v3, hv1, hv2⟩ := hE.2.2.2.2.1.2 (hsX 9 (by decide))
          have hFx := hE.2.2.2.2.2.1.2 (hsX 10 (by decide))
          have hIX : IdS w (.slice A8 N1 (cm - 1)) m := IdS.rest HIDS.out HN.out.2 HA8.out
          have hHG : W.grownBy (W.setCell ⟨G, 0, none⟩ (.slice A8 N1 (cm - 1))) (some G) := Only.store (p := ⟨G, 0, none⟩) (World.grownBy.refl W (some G)) (.inl rfl) _
          have HF : Hid (KeepN W5.heap.size U (W.setCell ⟨G, 0, none⟩ (.slice A8 N1 (cm - 1))) ∧ KeepI (F + 1) U (W.setCell ⟨G, 0, none⟩ (.slice A8 N1 (cm - 1))) ∧ InvR (W.setCell ⟨G, 0, none⟩ (.slice A8 N1 (cm - 1))) w G D F l ((ls ++ [stepP a x y]).length + 1) ((0 :: l) :: (ls ++ [stepP a x y])) v3 (sha (stepP a x y)) (.slice A8 N1 (cm - 1))) := Lib.hid (by
            refine ⟨hE.2.2.2.2.2.2.2.1.trans (KeepN.grown hHG hE.2.1), hE.2.2.2.2.2.2.2.2.1.trans (KeepI.grown hHG hE.2.1 (by decide)), hE.2.1.store 0 _, hE.2.2.1.grown hHG (by intro e; injection e with e; omega), hE.2.2.2.1.grown hHG (by intro e; injection e with e; omega), hv1.grown hHG (by intro e; injection e with e; omega), ?_, hFx.grown hHG (by intro e; injection e with e; omega), hE.2.2.2.2.2.2.1.setCell (p := ⟨G, 0, none⟩) (Nat.le_refl _) _⟩
            have h9 := hv2.grown hHG hE.2.1 (by decide) (by decide)
            rw [show (ls ++ [stepP a x y]).length + 1 = ls.length + 2 by simp]
            exact h9)
          have c9 := hE.2.1.cell 0
          have f9 := hE.2.1.frozen 0
          simp only [List.getElem?_toArray, List.getElem?_cons_zero] at c9
          have HIX := Lib.hid hIX
          clear hE hv1 hv2 hFx hIX hHG hA3 hA6 hA8
          go_wp2
          exact ⟨HF.out.1, HF.out.2.1, ls ++ [stepP a x y], sha (stepP a x y), m, v3, _, HN.out.1, sha_length _, HIX.out, HF.out.2.2⟩
        · have hrem : (a : Int) % 2 = 0 := by omega
          have HB : Hid (InvR W w G D F l (ls.length + 1) ((0 :: l) :: ls) (.slice Au (ls.length + 1) cu) x (.slice (some ⟨pb, po, none⟩) (N1 + 1) cm) ∧ W.ownsRow G 5 1 (.slice Ab 65 cb) 65 ((stepP a x y).map bcv) ∧ Below U.heap.size U W) := Lib.hid ⟨HV.out.1, by rw [stepP, if_neg (by omega)]; exact HV.out.2.1, HV.out.2.2⟩
          clear HV
          gi_upto_region 12 with (fail)
          obtain ⟨V9, hV9⟩ : ∃ V9, V9 = W := ⟨_, rfl⟩
          subst hV9
          have c0 := HB.out.1.1.cell 0
          have c10 := HB.out.1.2.2.2.1.cell 0
          simp only [List.getElem?_toArray, List.getElem?_cons_zero] at c0 c10
          have hRX0 : RXr V9 U w W5.heap.size G D F l ls (.slice Au (ls.length + 1) cu) (.slice (some ⟨pb, po, none⟩) (N1 + 1) cm) (.slice Ab 65 cb) x (stepP a x y) (fun _ => false) V9.drew := ⟨fun _ => HB.out.1.2.2.2.2.1, HB.out.1.1, HB.out.1.2.1, HB.out.1.2.2.1, ⟨fun _ => HB.out.1.2.2.2.1, fun h => by cases h⟩, ⟨fun _ => HB.out.1.2.2.2.2.2.1, fun h => by cases h⟩, HB.out.1.2.2.2.2.2.2.drew, KeepN.below HB.out.2.2.drew, KeepI.below HB.out.2.2.drew, HB.out.2.1, Nat.le_refl _⟩
          have hlow : ∀ j, (Value.slice Au (ls.length + 1) cu).ownBlock = some j → j < V9.heap.size := fun j hj => by
            obtain ⟨_, vs, h2, _⟩ := HB.out.1.2.2.2.2.1
            exact own_lt h2 j hj
          have HRX := Lib.hid hRX0
          obtain ⟨A8, hA8⟩ : ∃ A8, A8 = (if cm = 1 then some (⟨pb, po, none⟩ : Addr) else some ⟨pb, po + 32, none⟩) := ⟨_, rfl⟩
          have HA8 := Lib.hid hA8
          clear hRX0 hA8
          
          refine any_region_y (wpIn_round_any (by kernel_rfl) (by rintro ⟨a, w, h⟩; exact h) (by kernel_rfl)) (RXr V9 U w W5.heap.size G D F l ls (.slice Au (ls.length + 1) cu) (.slice (some ⟨pb, po, none⟩) (N1 + 1) cm) (.slice Ab 65 cb) x (stepP a x y)) HRX.out 11 [.eq (.slice Au (ls.length + 1) cu), .eq (.slice Ab 65 cb), .st (fun v W => ∃ g, v = .slice (some ⟨g, 0, none⟩) 1 1 ∧ Blk W g 22 #[.slice Ab 65 cb] ∧ V9.heap.size ≤ g) (fun v W W' h hb => by obtain ⟨g, h1, h2, h3⟩ := h; exact ⟨g, h1, h2.below hb h2.lt, h3⟩), .st (fun v W => RowsO W G v (ls.length + 2) (((0 :: l) :: ls) ++ [stepP a x y])) (fun v W W' h hb => h.keep hb), .eq (.slice Ab 65 cb), .st (fun v W => ∃ g, v = .slice (some ⟨g, 0, none⟩) 1 1 ∧ Blk W g 22 #[.slice Ab 65 cb] ∧ V9.heap.size ≤ g) (fun v W W' h hb => by obtain ⟨g, h1, h2, h3⟩ := h; exact ⟨g, h1, h2.below hb h2.lt, h3⟩), .eq (.agg (bvs (sha (stepP a x y)))), .eq (.slice (some ⟨pb, po, none⟩) (N1 + 1) cm), .eq (.slice A8 N1 (cm - 1)), .any, .any] (by kernel_rfl) (by kernel_rfl) (by kernel_rfl) rfl (by decide) (by kernel_rfl) _ (fun f => by simp only [framedL, Act.put, maskF, oldF, Nat.reduceLT, reduceIte, List.getElem?_toArray, List.getElem?_cons_succ, List.getElem?_cons_zero, Option.bind_some, Option.map_some, Option.map_none, Option.getD_some, Option.getD_none, Array.getD_eq_getD_getElem?, List.setIfInBounds_toArray, List.set_cons_zero, List.set_cons_succ, Nat.reduceAdd]; rfl) ⟨?_, ?_, ?_, ?_, ?_, ?_, ?_, ?_, ?_, ?_, ?_, trivial⟩ ?_
          · refine stepY_of (fun _ _ h => h) (fun _ _ _ h hb => RXr.below h hb) (fun sX W0 hs0 hs1 hX => ?_)
            refine oweAs_pure ((.slice Au (ls.length + 1) cu)) rfl (fun f W hE hd => ?_) (fun W hE => rfl)
            simp only [DepAs, Region.binds, asAt, As.holds, and_true, forall_const] at hd
            have h9 : sX 9 = false := by (cases h : sX 9 with | false => rfl | true => exact absurd (hs1 9 0 (by kernel_rfl) h) (by simp [hs0]))
            have d10 := ((hX.below hE).2.2.2.2.1.1 h9).cell 0
            simp only [List.getElem?_toArray, List.getElem?_cons_zero] at d10
            go_simp
          · refine stepY_of (fun _ _ h => h) (fun _ _ _ h hb => RXr.below h hb) (fun sX W0 hs0 hs1 hX => ?_)
            refine oweAs_pure ((.slice Ab 65 cb)) rfl (fun f W hE hd => ?_) (fun W hE => rfl)
            go_simp
          · refine stepY_of (fun _ _ h => h) (fun _ _ _ h hb => RXr.below h hb) (fun sX W0 hs0 hs1 hX => ?_)
            refine oweAs_made rfl (fun f W hE hd => ?_)
            simp only [DepAs, Region.binds, asAt, As.holds, and_true, forall_const] at hd
            refine ⟨_, _, by first | (go_simp; done) | (go_simp; exact rfl) | (go_simp; exact ⟨rfl, rfl⟩), ⟨_, rfl, Blk.new _ _ _, (hX.below hE).2.2.2.2.2.2.2.2.2.2⟩, (Below.refl W.heap.size W).alloc (Nat.le_refl _) _⟩
          · refine stepY_mk rfl (fun s f W hs0 hs1 hX hd K hK => ?_)
            simp only [DepAs, Region.binds, asAt, As.holds, and_true, forall_const] at hd
            obtain ⟨h1, g, h2, h3, h4⟩ := hd
            obtain ⟨e1, vs, e2, e3, e4⟩ := hX.1 hs0
            have hbw := hX.2.2.2.2.2.2.1.size
            have hnew := h3.cell 0
            go_loud (refine wp_append_own (w := W) (.tmp 46) (.tmp 48) 55 rfl G 22 ir (.slice none 0 0) 1 24 Tryd.underlying55 HIR.out hzr hsr hbr rfl (by decide) (.slice Au (ls.length + 1) cu) (ls.length + 1) vs (by go_simp) e2 ⟨g, 0, none⟩ 1 1 [.slice Ab 65 cb] (by go_simp) rfl (fun j u hj => by (match j with | 0 => (simp at hj; subst hj; rw [add0]; exact hnew) | j + 1 => simp at hj)) (fun u hu => by simp at hu; subst hu; rfl) (by simp only [maxLen]; omega) (by omega) (by have := HG.out; omega) ?_)
            intro v' W' g1 g2 _
            refine hK v' W' (RowsO.snoc rfl e2 e3 e4 (by rw [stepP_length hxl hyl]; exact hX.2.2.2.2.2.2.2.2.2.1) g2 g1) ?_ ?_
            · exact ⟨fun h => by simp at h, hX.2.1.grown g2 (own_ne_blk e2 hX.2.1 (by decide)), hX.2.2.1.grown g2 (own_ne_blk e2 hX.2.2.1 (by decide)), hX.2.2.2.1.grown g2 (own_ne_blk e2 hX.2.2.2.1 (by decide)), ⟨fun e => (hX.2.2.2.2.1.1 e).grown g2 (own_ne_blk e2 (hX.2.2.2.2.1.1 e) (by decide)), fun e => absurd (hs1 9 3 (by kernel_rfl) e) (by rw [show s 3 = false from hs0]; simp)⟩, ⟨fun e => (hX.2.2.2.2.2.1.1 e).grown g2 (own_ne_blk e2 (hX.2.2.2.2.2.1.1 e) (by decide)), fun e => (hX.2.2.2.2.2.1.2 e).grown g2 (own_ne_blk e2 (hX.2.2.2.2.2.1.2 e) (by decide))⟩, hX.2.2.2.2.2.2.1.grown g2 (by have := HG.out; omega) (fun j hj => own_ge e2 j hj), hX.2.2.2.2.2.2.2.1.trans (keepN_own e2 g2), hX.2.2.2.2.2.2.2.2.1.trans (keepI_own e2 g2 (by decide)), own_apart e2 g2 hX.2.2.2.2.2.2.2.2.2.1 (by decide), Nat.le_trans hX.2.2.2.2.2.2.2.2.2.2 g2.size⟩
            · intro j hj u hu
              have hkeep : ∀ v : Value, (∃ g, v = .slice (some ⟨g, 0, none⟩) 1 1 ∧ Blk W g 22 #[.slice Ab 65 cb] ∧ V9.heap.size ≤ g) → ∃ g, v = .slice (some ⟨g, 0, none⟩) 1 1 ∧ Blk W' g 22 #[.slice Ab 65 cb] ∧ V9.heap.size ≤ g := by
                rintro v ⟨g, k1, k2, k3⟩
                exact ⟨g, k1, k2.grown g2 (fun e => by have := hlow g e.symm; omega), k3⟩
              match j, hj, hu with
              | 0, _, hu => exact hu
              | 1, _, hu => exact hu
              | 2, _, hu => exact hkeep _ hu
              | 3, hj, _ => exact absurd rfl hj
              | 4, _, hu => exact hu
              | 5, _, hu => exact hkeep _ hu
              | 6, _, hu => exact hu
              | 7, _, hu => exact hu
              | 8, _, hu => exact hu
              | 9, _, hu => exact hu
              | 10, _, hu => exact hu
              | j + 11, _, hu => trivial
          · refine stepY_of (fun _ _ h => h) (fun _ _ _ h hb => RXr.below h hb) (fun sX W0 hs0 hs1 hX => ?_)
            refine oweAs_pure ((.slice Ab 65 cb)) rfl (fun f W hE hd => ?_) (fun W hE => rfl)
            go_simp
          · refine stepY_of (fun _ _ h => h) (fun _ _ _ h hb => RXr.below h hb) (fun sX W0 hs0 hs1 hX => ?_)
            refine oweAs_made rfl (fun f W hE hd => ?_)
            simp only [DepAs, Region.binds, asAt, As.holds, and_true, forall_const] at hd
            refine ⟨_, _, by first | (go_simp; done) | (go_simp; exact rfl) | (go_simp; exact ⟨rfl, rfl⟩), ⟨_, rfl, Blk.new _ _ _, (hX.below hE).2.2.2.2.2.2.2.2.2.2⟩, (Below.refl W.heap.size W).alloc (Nat.le_refl _) _⟩
          · refine stepY_of (fun _ _ h => h) (fun _ _ _ h hb => RXr.below h hb) (fun sX W0 hs0 hs1 hX => ?_)
            refine oweAs_call 28 rfl (fun f W hE hd => ?_)
            simp only [DepAs, Region.binds, asAt, As.holds, and_true, forall_const] at hd
            obtain ⟨g, k1, k2, k3⟩ := (by first | exact hd | exact hd.1 : ∃ g, f 5 = .slice (some ⟨g, 0, none⟩) 1 1 ∧ Blk W g 22 #[.slice Ab 65 cb] ∧ V9.heap.size ≤ g)
            have hXW := hX.below hE
            have hsl := stepP_length (a := a) hxl hyl
            refine ⟨_, by first | (go_simp; done) | (go_simp; exact rfl) | (go_simp; exact ⟨rfl, rfl⟩), ?_⟩
            refine (of_any _ [stepP a x y] W (HTG.out W hXW.2.2.2.2.2.2.1).1 (HTG.out W hXW.2.2.2.2.2.2.1).2 (parts_blk k2 (own_hb hXW.2.2.2.2.2.2.2.2.2.1 hsl.symm)) (by simp) (by simp; omega)).mono ?_
            rintro e w' ⟨rfl, hb⟩
            exact ⟨_, rfl, by (show (_ : Value) = _; simp), hb⟩
          · refine stepY_of (fun _ _ h => h) (fun _ _ _ h hb => RXr.below h hb) (fun sX W0 hs0 hs1 hX => ?_)
            refine oweAs_pure ((.slice (some ⟨pb, po, none⟩) (N1 + 1) cm)) rfl (fun f W hE hd => ?_) (fun W hE => rfl)
            simp only [DepAs, Region.binds, asAt, As.holds, and_true, forall_const] at hd
            have d0 := (hX.below hE).2.1.cell 0
            simp only [List.getElem?_toArray, List.getElem?_cons_zero] at d0
            go_simp
          · refine stepY_of (fun _ _ h => h) (fun _ _ _ h hb => RXr.below h hb) (fun sX W0 hs0 hs1 hX => ?_)
            refine oweAs_made rfl (fun f W hE hd => ?_)
            simp only [DepAs, Region.binds, asAt, As.holds, and_true, forall_const] at hd
            have hA := HA8.out
            have hN1q : (1 : Int) ≤ (N1 : Int) + 1 := by omega
            by_cases hc1 : cm = 1
            · rw [if_pos hc1] at hA
              refine ⟨_, _, by first | (go_simp; done) | (go_simp; exact rfl) | (go_simp; exact ⟨rfl, rfl⟩), ?_, Below.refl _ _⟩
              show (_ : Value) = _
              rw [hA, hc1]
            · rw [if_neg hc1] at hA
              refine ⟨_, _, by first | (go_simp; done) | (go_simp; exact rfl) | (go_simp; exact ⟨rfl, rfl⟩), ?_, Below.refl _ _⟩
              show (_ : Value) = _
              rw [hA]
          · refine stepY_mk rfl (fun s f W hs0 hs1 hX hd K hK => ?_)
            simp only [DepAs, Region.binds, asAt, As.holds, and_true, forall_const] at hd
            have hr3 : RowsO W G (f 3) (ls.length + 2) (((0 :: l) :: ls) ++ [stepP a x y]) := hd.1
            obtain ⟨A3, c3, h3⟩ := hr3.form
            have hB := hX.2.2.2.2.1.1 hs0
            have d10 := hB.cell 0
            have f10 := hB.frozen 0
            simp only [List.getElem?_toArray, List.getElem?_cons_zero] at d10
            rw [h3] at hr3
            have HR3 := Lib.hid hr3
            clear hd hr3
            rw [h3] at hK
            unfold Oper.wp execOp
            go_simp
            have hG : W.grownBy (W.setCell ⟨D + 1, 0, none⟩ (.slice A3 (ls.length + 2) c3)) (some (D + 1)) := Only.store (p := ⟨D + 1, 0, none⟩) (World.grownBy.refl W (some (D + 1))) (.inl rfl) _
            refine hK undef _ trivial ⟨fun e => (hX.1 e).grown hG hB (by decide) (by decide), hX.2.1.grown hG (by intro e; injection e with e; omega), hX.2.2.1.grown hG (by intro e; injection e with e; omega), hX.2.2.2.1.grown hG (by intro e; injection e with e; omega), ⟨fun e => by simp at e, fun _ => ⟨_, hB.store 0 _, HR3.out.grown hG hB (by decide) (by decide)⟩⟩, ⟨fun e => (hX.2.2.2.2.2.1.1 e).grown hG (by intro e; injection e with e; omega), fun e => (hX.2.2.2.2.2.1.2 e).grown hG (by intro e; injection e with e; omega)⟩, hX.2.2.2.2.2.2.1.setCell (p := ⟨D + 1, 0, none⟩) (by show G ≤ D + 1; omega) _, hX.2.2.2.2.2.2.2.1.trans (KeepN.grown hG hB), hX.2.2.2.2.2.2.2.2.1.trans (KeepI.grown hG hB (by decide)), hX.2.2.2.2.2.2.2.2.2.1.kept hG (.inr (fun e => own_ne_blk hX.2.2.2.2.2.2.2.2.2.1 hB (by decide) e.symm)), Nat.le_trans hX.2.2.2.2.2.2.2.2.2.2 hG.size⟩ ?_
            intro j hj u hu
            have hkeep : ∀ v : Value, (∃ g, v = .slice (some ⟨g, 0, none⟩) 1 1 ∧ Blk W g 22 #[.slice Ab 65 cb] ∧ V9.heap.size ≤ g) → ∃ g, v = .slice (some ⟨g, 0, none⟩) 1 1 ∧ Blk (W.setCell ⟨D + 1, 0, none⟩ (.slice A3 (ls.length + 2) c3)) g 22 #[.slice Ab 65 cb] ∧ V9.heap.size ≤ g := by
              rintro v ⟨g, n1, n2, n3⟩
              exact ⟨g, n1, n2.grown hG (fun e => blk_ne n2 hB (by decide) (by injection e)), n3⟩
            match j, hj, hu with
            | 0, _, hu => exact hu
            | 1, _, hu => exact hu
            | 2, _, hu => exact hkeep _ hu
            | 3, _, hu => exact RowsO.grown hu hG hB (by decide) (by decide)
            | 4, _, hu => exact hu
            | 5, _, hu => exact hkeep _ hu
            | 6, _, hu => exact hu
            | 7, _, hu => exact hu
            | 8, _, hu => exact hu
            | 9, hj, _ => exact absurd rfl hj
            | 10, _, hu => exact hu
            | j + 11, _, hu => trivial
          · refine stepY_mk rfl (fun s f W hs0 hs1 hX hd K hK => ?_)
            simp only [DepAs, Region.binds, asAt, As.holds, and_true, forall_const] at hd
            have h6 : f 6 = .agg (bvs (sha (stepP a x y))) := hd.1
            have hB := hX.2.2.2.2.2.1.1 hs0
            have hsz : (bvs (sha (stepP a x y))).size = 32 := by rw [bvs_size]; exact sha_length _
            refine wp_store_blk 31 (.tmp 11) (.tmp 52) rfl F 31 (bvs x) (bvs (sha (stepP a x y))) rfl (by go_simp) hB (by rw [hsz, hxz]) (by rw [hsz]; kernel_rfl) (bvs_one _) ?_
            intro W2 k1 k2 k3
            refine hK undef _ trivial ⟨fun e => (hX.1 e).grown k2 hB (by decide) (by decide), hX.2.1.grown k2 (by intro e; injection e with e; omega), hX.2.2.1.grown k2 (by intro e; injection e with e; omega), hX.2.2.2.1.grown k2 (by intro e; injection e with e; omega), ⟨fun e => (hX.2.2.2.2.1.1 e).grown k2 (by intro e; injection e with e; omega), fun e => by obtain ⟨v, m1, m2⟩ := hX.2.2.2.2.1.2 e; exact ⟨v, m1.grown k2 (by intro e; injection e with e; omega), m2.grown k2 hB (by decide) (by decide)⟩⟩, ⟨fun e => by simp at e, fun _ => k1⟩, hX.2.2.2.2.2.2.1.grown k2 (by have := HG.out; have := hB.lt; omega) (by intro k hk; injection hk with hk; omega), hX.2.2.2.2.2.2.2.1.trans (KeepN.grown k2 hB), hX.2.2.2.2.2.2.2.2.1.trans (KeepI.grown k2 hB (by decide)), hX.2.2.2.2.2.2.2.2.2.1.kept k2 (.inr (fun e => own_ne_blk hX.2.2.2.2.2.2.2.2.2.1 hB (by decide) e.symm)), Nat.le_trans hX.2.2.2.2.2.2.2.2.2.2 k2.size⟩ ?_
            intro j hj u hu
            have hkeep : ∀ v : Value, (∃ g, v = .slice (some ⟨g, 0, none⟩) 1 1 ∧ Blk W g 22 #[.slice Ab 65 cb] ∧ V9.heap.size ≤ g) → ∃ g, v = .slice (some ⟨g, 0, none⟩) 1 1 ∧ Blk W2 g 22 #[.slice Ab 65 cb] ∧ V9.heap.size ≤ g := by
              rintro v ⟨g, n1, n2, n3⟩
              exact ⟨g, n1, n2.grown k2 (fun e => blk_ne n2 hB (by decide) (by injection e)), n3⟩
            match j, hj, hu with
            | 0, _, hu => exact hu
            | 1, _, hu => exact hu
            | 2, _, hu => exact hkeep _ hu
            | 3, _, hu => exact RowsO.grown hu k2 hB (by decide) (by decide)
            | 4, _, hu => exact hu
            | 5, _, hu => exact hkeep _ hu
            | 6, _, hu => exact hu
            | 7, _, hu => exact hu
            | 8, _, hu => exact hu
            | 9, _, hu => exact hu
            | 10, hj, _ => exact absurd rfl hj
            | j + 11, _, hu => trivial
          intro f W sX hsX hE hA
          simp only [AllAs, As.holds, Nat.reduceAdd] at hA
          obtain ⟨-, -, -, hA3, -, -, hA6, -, hA8, -, -, -⟩ := hA
          rw [hA8]
          obtain ⟨v3, hv1, hv2⟩ := hE.2.2.2.2.1.2 (hsX 9 (by decide))
          have hFx := hE.2.2.2.2.2.1.2 (hsX 10 (by decide))
          have hIX : IdS w (.slice A8 N1 (cm - 1)) m := IdS.rest HIDS.out HN.out.2 HA8.out
          have hHG : W.grownBy (W.setCell ⟨G, 0, none⟩ (.slice A8 N1 (cm - 1))) (some G) := Only.store (p := ⟨G, 0, none⟩) (World.grownBy.refl W (some G)) (.inl rfl) _
          have HF : Hid (KeepN W5.heap.size U (W.setCell ⟨G, 0, none⟩ (.slice A8 N1 (cm - 1))) ∧ KeepI (F + 1) U (W.setCell ⟨G, 0, none⟩ (.slice A8 N1 (cm - 1))) ∧ InvR (W.setCell ⟨G, 0, none⟩ (.slice A8 N1 (cm - 1))) w G D F l ((ls ++ [stepP a x y]).length + 1) ((0 :: l) :: (ls ++ [stepP a x y])) v3 (sha (stepP a x y)) (.slice A8 N1 (cm - 1))) := Lib.hid (by
            refine ⟨hE.2.2.2.2.2.2.2.1.trans (KeepN.grown hHG hE.2.1), hE.2.2.2.2.2.2.2.2.1.trans (KeepI.grown hHG hE.2.1 (by decide)), hE.2.1.store 0 _, hE.2.2.1.grown hHG (by intro e; injection e with e; omega), hE.2.2.2.1.grown hHG (by intro e; injection e with e; omega), hv1.grown hHG (by intro e; injection e with e; omega), ?_, hFx.grown hHG (by intro e; injection e with e; omega), hE.2.2.2.2.2.2.1.setCell (p := ⟨G, 0, none⟩) (Nat.le_refl _) _⟩
            have h9 := hv2.grown hHG hE.2.1 (by decide) (by decide)
            rw [show (ls ++ [stepP a x y]).length + 1 = ls.length + 2 by simp]
            exact h9)
          have c9 := hE.2.1.cell 0
          have f9 := hE.2.1.frozen 0
          simp only [List.getElem?_toArray, List.getElem?_cons_zero] at c9
          have HIX := Lib.hid hIX
          clear hE hv1 hv2 hFx hIX hHG hA3 hA6 hA8
          go_wp2
          exact ⟨HF.out.1, HF.out.2.1, ls ++ [stepP a x y], sha (stepP a x y), m, v3, _, HN.out.1, sha_length _, HIX.out, HF.out.2.2⟩
end Go.Proofs.YtofbfkkncjcodaaDoor
