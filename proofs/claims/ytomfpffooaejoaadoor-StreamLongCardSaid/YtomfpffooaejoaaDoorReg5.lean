/-
  Regions that draw their order, where '[]byte("..")' of constants stand among the operations (they mark a block behind its cells). No program is named here.
-/
import Derived.Test.YtomfpffooaejoaaDoorReg4
import Derived.Lib.UnsafeStr
namespace Go.Proofs.YtomfpffooaejoaaDoor
open Go Go.RowKit

/-- what such a region's operations keep: what was there ahead of it, and of all else the cells and the shapes -/
def Keep (B : Nat) (w w' : World) : Prop := Below B w w' ∧ (∀ p u, w.cell? p = some u → w'.cell? p = some u) ∧ ∀ k, k < w.heap.size → w'.shape? k = w.shape? k
theorem Keep.refl (B : Nat) (w : World) : Keep B w w := ⟨Below.refl _ _, fun _ _ h => h, fun _ _ => rfl⟩
theorem Keep.drew {B : Nat} {a w : World} (h : Keep B a w) : Keep B a w.drew := ⟨h.1.drew, h.2.1, h.2.2⟩
theorem Keep.trans {B : Nat} {a b c : World} (h1 : Keep B a b) (h2 : Keep B b c) : Keep B a c :=
  ⟨h1.1.trans h2.1, fun p u h => h2.2.1 p u (h1.2.1 p u h), fun k hk => (h2.2.2 k (Nat.lt_of_lt_of_le hk h1.1.size)).trans (h1.2.2 k hk)⟩
theorem Keep.of {B : Nat} {w w' : World} (h : Below w.heap.size w w') (hB : B ≤ w.heap.size) : Keep B w w' :=
  ⟨h.mono hB, fun p _ hu => (h.cell (block_lt_of_cell hu)).trans hu, fun k hk => by unfold World.shape?; rw [h.block k hk]⟩
theorem freeze_block (w : World) (q m k : Nat) : (w.freeze ⟨q, m, none⟩ 1).heap[k]? = if q = k then (w.heap[k]?).map (fun o => match o with | .cells c elem (lo, hi) => .cells c elem (if lo == hi then (m, m + 1) else (min lo m, max hi (m + 1))) | o => o) else w.heap[k]? := by
  unfold World.freeze
  rw [if_neg (by decide)]
  show (w.heap.modify q _)[k]? = _
  rw [Array.getElem?_modify]
  rfl
theorem Keep.freeze {B : Nat} {w : World} {q m : Nat} (hq : B ≤ q) : Keep B w (w.freeze ⟨q, m, none⟩ 1) := by
  refine ⟨Lib.below_freeze (Below.refl _ _) hq 1, fun p u hu => ?_, fun k hk => ?_⟩
  · rw [← hu]
    simp only [World.cell?]
    rw [freeze_block]
    by_cases h : q = p.block
    · rw [if_pos h]
      cases w.heap[p.block]? with
      | none => rfl
      | some o => cases o <;> rfl
    · rw [if_neg h]
  · unfold World.shape?
    rw [freeze_block]
    by_cases h : q = k
    · rw [if_pos h]
      cases w.heap[k]? with
      | none => rfl
      | some o => cases o <;> rfl
    · rw [if_neg h]
theorem lit_mark {P : Program} {t e : TypeId} (ht : P.underlying t = some (.slice e)) (he : P.underlying e = some (.int .u8)) (w : World) (n c q m : Nat) (x : TypeId) (hs : w.shape? q = some (x, m)) :
    (convert t t (.slice (some ⟨q, 0, none⟩) n c)).run P w = .ok (.slice (some ⟨q, 0, none⟩) n c) (w.freeze ⟨q, m, none⟩ 1) := by
  simp [convert, run_underlying ht, run_underlying he, markStringish, hs]
theorem holds_cells {w w' : World} {v : Value} {l : List UInt8} (h : Lib.HoldsBytes w v l) (hk : ∀ a u, w.cell? a = some u → w'.cell? a = some u) : Lib.HoldsBytes w' v l := by
  obtain ⟨p, cap, e, h1, h2⟩ := h
  exact ⟨p, cap, e, h1, fun a ha j x hx => hk _ _ (h2 a ha j x hx)⟩
theorem Parts.cells {w w' : World} {v : Value} {ls : List (List UInt8)} (h : Parts w v ls) (hk : ∀ a u, w.cell? a = some u → w'.cell? a = some u) : Parts w' v ls := by
  rcases h with h | ⟨b, o, c, vs, hv, hc, h1, h2, h3⟩
  · exact .inl h
  · exact .inr ⟨b, o, c, vs, hv, hc, h1, fun i u hu => hk _ _ (h2 i u hu), fun i u l hu hl => holds_cells (h3 i u l hu hl) hk⟩
/-- a new slice of bytes, all of a block -/
def LitB (w : World) (base : Nat) (v : Value) (l : List UInt8) : Prop := ∃ q x, v = .slice (some ⟨q, 0, none⟩) l.length l.length ∧ base ≤ q ∧ w.shape? q = some (x, l.length) ∧ HB w v l
theorem lit_new (w : World) (l : List UInt8) (t : TypeId) {g n base : Nat} (hg : g = w.heap.size) (hn : n = l.length) (hm : l.length ≤ maxLen) (hb : base ≤ w.heap.size) : LitB (w.alloc (.cells (bvs l) t)) base (.slice (some ⟨g, 0, none⟩) n n) l := by
  subst hg; subst hn
  refine ⟨_, t, rfl, hb, ?_, HB.new w l t _ rfl rfl hm⟩
  have hh := heap_alloc_new w (.cells (bvs l) t)
  simp only [World.shape?, hh, bvs_size]
inductive AsM where
  | any
  | eq (v : Value)
  | hb (l : List UInt8)
  | parts (ls : List (List UInt8))
  | lit (base : Nat) (l : List UInt8)
def asAtM : List AsM → Nat → AsM
  | [], _ => .any
  | x :: _, 0 => x
  | _ :: r, n + 1 => asAtM r n
def AsM.holds (x : AsM) (v : Value) (W : World) : Prop :=
  match x with
  | .any => True
  | .eq u => v = u
  | .hb l => HB W v l
  | .parts ls => Parts W v ls
  | .lit b l => LitB W b v l
theorem AsM.stab {B : Nat} (x : AsM) (v : Value) (W W' : World) (h : x.holds v W) (hb : Keep B W W') : x.holds v W' := by
  cases x with
  | any => trivial
  | eq u => exact h
  | hb l => exact HB.keepG h fun b o u hu => hb.2.1 _ _ hu
  | parts ls => exact Parts.cells h hb.2.1
  | lit b l =>
    obtain ⟨q, x, h1, h2, h3, h4⟩ := h
    have hq : q < W.heap.size := by
      unfold World.shape? at h3
      cases e : W.heap[q]? with
      | none => rw [e] at h3; simp at h3
      | some o => exact (Array.getElem?_eq_some_iff.1 e).1
    exact ⟨q, x, h1, h2, (hb.2.2 q hq).trans h3, HB.keepG h4 fun b o u hu => hb.2.1 _ _ hu⟩
def DepM (ys : List AsM) (f : Nat → Value) (W : World) : List Edge → Prop
  | [] => True
  | e :: r => (Region.binds .any e = true → (asAtM ys e.on).holds (f e.on) W) ∧ DepM ys f W r
def AllM (f : Nat → Value) (W : World) : List AsM → Nat → Prop
  | [], _ => True
  | x :: r, k => x.holds (f k) W ∧ AllM f W r (k + 1)
theorem depM_mk {ys : List AsM} {f : Nat → Value} {W : World} : ∀ (l : List Edge), (∀ e ∈ l, Region.binds .any e = true → (asAtM ys e.on).holds (f e.on) W) → DepM ys f W l := by
  intro l
  induction l with
  | nil => intro _; trivial
  | cons e r ih => intro h; exact ⟨h e (by simp), ih fun x hx => h x (by simp [hx])⟩
theorem allM_mk {f : Nat → Value} {W : World} : ∀ (ys : List AsM) (k : Nat), (∀ i, i < ys.length → (asAtM ys i).holds (f (k + i)) W) → AllM f W ys k := by
  intro ys
  induction ys with
  | nil => intro _ _; trivial
  | cons x r ih =>
    intro k h
    refine ⟨by simpa [asAtM] using h 0 (by simp), ih (k + 1) fun i hi => ?_⟩
    have := h (i + 1) (by simp; omega)
    rw [show k + 1 + i = k + (i + 1) by omega]
    simpa [asAtM] using this
section
variable {P : Program} {ops : Array Oper} {Q : Exit → Act → World → Prop}
/-- does the operation run? (its guard's value is among the assertions) -/
def guardM (ys : List AsM) (o : Oper) : Option Bool :=
  match o.guard with
  | none => some true
  | some (g, want) => match asAtM ys g with
    | .eq (.bool b) => some (b == want)
    | _ => none
def OweM (P : Program) (Q : Exit → Act → World → Prop) (fr : (Nat → Value) → Act) (ys : List AsM) (w : World) (k : Nat) (o : Oper) : Prop :=
  match guardM ys o with
  | some true => ∀ (f : Nat → Value) (W : World), Below w.heap.size w W → DepM ys f W o.after.toList →
      ∀ K : Act → World → Prop, (∀ v W', (asAtM ys k).holds v W' → Keep w.heap.size W W' → K ((fr f).put o.dst v) W') → o.wp P (fr f) W K Q
  | some false => ∀ W : World, (asAtM ys k).holds undef W
  | none => False
def StepsM (P : Program) (Q : Exit → Act → World → Prop) (fr : (Nat → Value) → Act) (ys : List AsM) (w : World) : Nat → List Oper → Prop
  | _, [] => True
  | k, o :: r => OweM P Q fr ys w k o ∧ StepsM P Q fr ys w (k + 1) r
theorem stepsM_get {fr : (Nat → Value) → Act} {ys : List AsM} {w : World} : ∀ (l : List Oper) (k : Nat), StepsM P Q fr ys w k l → ∀ (i : Nat) (o : Oper), l[i]? = some o → OweM P Q fr ys w (k + i) o := by
  intro l
  induction l with
  | nil => intro k _ i o h; simp at h
  | cons x r ih =>
    intro k h i o hi
    cases i with
    | zero => simp at hi; subst hi; exact h.1
    | succ i => rw [show k + (i + 1) = k + 1 + i by omega]; exact ih (k + 1) h.2 i o (by simpa using hi)
theorem wantedM_of {a : Act} {fr : (Nat → Value) → Act} {ys : List AsM} {f : Nat → Value} {W : World} {i : Nat} {o : Oper} (hd : apartB ops.toList = true) (hg : guardsB a.tmps.size ops.toList = true) (hfr : ∀ f, framedL ops.toList 0 a f = fr f)
    (hol : ops.toList[i]? = some o) (hdep : ∀ e ∈ o.after, Region.binds .any e = true → (asAtM ys e.on).holds (f e.on) W) : ∀ b, guardM ys o = some b → Region.wanted o (yielded ops (fr f).tmps) = b := by
  intro b hgb
  unfold guardM at hgb
  unfold Region.wanted
  cases hgo : o.guard with
  | none => rw [hgo] at hgb; simpa using hgb
  | some gw =>
    obtain ⟨g, want⟩ := gw
    rw [hgo] at hgb
    simp only at hgb ⊢
    have hgs := (List.all_eq_true.1 hg) o (List.mem_of_getElem? hol)
    rw [hgo] at hgs
    simp only [Bool.and_eq_true] at hgs
    obtain ⟨hg1, hg2⟩ := hgs
    obtain ⟨e, he, heb⟩ := Array.any_eq_true'.1 hg2
    simp only [Bool.and_eq_true, beq_iff_eq] at heb
    have hdg := hdep e he heb.2
    rw [heb.1] at hdg
    cases hgx : ops.toList[g]? with
    | none => rw [hgx] at hg1; simp at hg1
    | some og =>
      cases hod : og.dst with
      | none => rw [hgx] at hg1; simp [hod] at hg1
      | some d =>
        rw [hgx] at hg1
        simp [hod] at hg1
        have hget := framedL_get f ops.toList g d a og hd hgx hod hg1
        rw [hfr] at hget
        have hgx2 : ops[g]? = some og := by simpa using hgx
        have hy : yielded ops (fr f).tmps g = (match f g with | .bool b => some b | _ => none) := by
          unfold yielded
          rw [hgx2]
          simp only [Option.bind_some, hod, hget]
          cases f g <;> rfl
        rw [hy]
        cases hya : asAtM ys g with
        | eq u =>
          rw [hya] at hgb hdg
          have hfu : f g = u := hdg
          rw [hfu]
          cases u <;> simp_all
        | any => rw [hya] at hgb; simp at hgb
        | hb l => rw [hya] at hgb; simp at hgb
        | parts ls => rw [hya] at hgb; simp at hgb
        | lit b l => rw [hya] at hgb; simp at hgb
theorem wp_region_mk {id : Nat} {a : Act} {w : World} (ys : List AsM) (hm : P.follows .mixedOrders = true) (hd : apartB ops.toList = true) (hb : backB ops.toList 0 = true) (hg : guardsB a.tmps.size ops.toList = true) (hn : ys.length = ops.size)
    (fr : (Nat → Value) → Act) (hfr : ∀ f, framedL ops.toList 0 a f = fr f)
    (hstep : StepsM P Q fr ys w 0 ops.toList)
    (hend : ∀ (f : Nat → Value) (W : World), Below w.heap.size w W → AllM f W ys 0 → Q .normal (fr f) W) : (Code.region id ops true).wp P Q a w := by
  refine wp_region_rel hm hd hb (fun W W' => Keep w.heap.size W W') (fun i v W => (asAtM ys i).holds v W) (fun A B C h1 h2 => h1.trans h2) (Keep.refl _ _).drew
    (fun i v W W' h hE => AsM.stab _ v W W' h hE) fr hfr (fun i o ho => ?_) (fun f W hE hR => hend f W hE.1 (allM_mk ys 0 fun i hi => by rw [Nat.zero_add]; exact hR i (by omega)))
  have hol : ops.toList[i]? = some o := by simpa using ho
  have h := stepsM_get ops.toList 0 hstep i o hol
  rw [Nat.zero_add] at h
  intro f W hE hdep K hK
  have hwant := wantedM_of (ys := ys) (fr := fr) hd hg hfr hol hdep
  unfold OweM at h
  cases hgb : guardM ys o with
  | none => rw [hgb] at h; exact h.elim
  | some b =>
    rw [hgb] at h
    rw [hwant b hgb]
    cases b with
    | true =>
      rw [if_pos rfl]
      exact h f W hE.1 (depM_mk _ fun e he hbi => hdep e (by simpa using he) hbi) K hK
    | false =>
      rw [if_neg (by simp)]
      exact hK undef W (h W) (Keep.refl _ _)

section
variable {fr : (Nat → Value) → Act} {ys : List AsM} {w : World} {k : Nat} {o : Oper}
/-- an operation that computes -/
theorem oweM_pure (v : Value) (hg : guardM ys o = some true) (h : ∀ (f : Nat → Value) (W : World), Below w.heap.size w W → DepM ys f W o.after.toList → (execOp (fr f).eval o).run P W = .ok (.value v) W) (hv : ∀ W, Below w.heap.size w W → (asAtM ys k).holds v W) :
    OweM P Q fr ys w k o := by
  unfold OweM
  rw [hg]
  intro f W hE hd K hK
  unfold Oper.wp
  rw [h f W hE hd]
  exact hK v W (hv W hE) (Keep.refl _ _)
/-- an operation whose value hangs on the world -/
theorem oweM_made (hg : guardM ys o = some true) (h : ∀ (f : Nat → Value) (W : World), Below w.heap.size w W → DepM ys f W o.after.toList → ∃ v W', (execOp (fr f).eval o).run P W = .ok (.value v) W' ∧ (asAtM ys k).holds v W' ∧ Below W.heap.size W W') :
    OweM P Q fr ys w k o := by
  unfold OweM
  rw [hg]
  intro f W hE hd K hK
  obtain ⟨v, W', hr, hv, hb⟩ := h f W hE hd
  unfold Oper.wp
  rw [hr]
  exact hK v W' hv (Keep.of hb hE.size)
/-- a call -/
theorem oweM_call (n : FuncId) (hg : guardM ys o = some true)
    (h : ∀ (f : Nat → Value) (W : World), Below w.heap.size w W → DepM ys f W o.after.toList → ∃ args, (execOp (fr f).eval o).run P W = .ok (.enter n args) W ∧ Calls P n args W fun e w' => ∃ v, e = .returned v ∧ (asAtM ys k).holds v w' ∧ Below W.heap.size W w') :
    OweM P Q fr ys w k o := by
  unfold OweM
  rw [hg]
  intro f W hE hd K hK
  obtain ⟨args, hr, hc⟩ := h f W hE hd
  unfold Oper.wp
  rw [hr]
  refine Calls.mono hc ?_
  rintro e w' ⟨v, rfl, hv, hb⟩
  exact hK v w' hv (Keep.of hb hE.size)
/-- the mark of a constant's bytes -/
theorem oweM_mark (l : List UInt8) (hg : guardM ys o = some true) (t e : TypeId) (ht : P.underlying t = some (.slice e)) (he : P.underlying e = some (.int .u8)) (x : Operand) (ho : o.op = .convert t t x)
    (hv : ∀ (f : Nat → Value) (W : World), DepM ys f W o.after.toList → LitB W w.heap.size ((fr f).eval x) l) (ha : asAtM ys k = .hb l) : OweM P Q fr ys w k o := by
  unfold OweM
  rw [hg]
  intro f W hE hd K hK
  obtain ⟨q, y, h1, h2, h3, h4⟩ := hv f W hd
  have hr := lit_mark ht he W l.length l.length q l.length y h3
  unfold Oper.wp
  have hx : (execOp (fr f).eval o).run P W = .ok (.value (.slice (some ⟨q, 0, none⟩) l.length l.length)) (W.freeze ⟨q, l.length, none⟩ 1) := by
    unfold execOp
    rw [ho]
    simp [h1, hr]
  rw [hx]
  have hkp : Keep w.heap.size W (W.freeze ⟨q, l.length, none⟩ 1) := Keep.freeze h2
  refine hK _ _ ?_ hkp
  rw [ha]
  rw [h1] at h4
  exact HB.keepG h4 fun b o u hu => hkp.2.1 _ _ hu
theorem oweM_load (ty : TypeId) (x : Operand) (ho : o.op = .load ty x) (g : Nat) (t : TypeId) (cs : Array Value) (hx : ∀ f, (fr f).eval x = .pointer (some ⟨g, 0, none⟩)) (hb : Blk w g t cs) {d : TypeDesc}
    (hu : P.underlying ty = some d) (hd : (match d with | .struct _ | .array _ _ => true | _ => false) = true) (hi : (P.info? ty).map (·.size) = some cs.size) (hg : guardM ys o = some true) (hv : asAtM ys k = .eq (.agg cs)) : OweM P Q fr ys w k o := by
  unfold OweM
  rw [hg]
  intro f W hE _ K hK
  exact wp_load_row ty x ho g (hx f) t cs (0, 0) d (hb.below hE hb.lt) hu hd hi (hK _ W (by rw [hv]; rfl) (Keep.refl _ _))
/-- an operation that is passed by -/
theorem oweM_skip (hg : guardM ys o = some false) (h : ∀ W, (asAtM ys k).holds undef W) : OweM P Q fr ys w k o := by
  unfold OweM
  rw [hg]
  exact h
end
end
end Go.Proofs.YtomfpffooaejoaaDoor
