/-
  Regions that draw their order, told by a list of assertions. No program is named here.
-/
import Derived.Test.YtomfpffooaejoaaDoorReg
import Derived.Test.YtomfpffooaejoaaDoorBt
namespace Go.Proofs.YtomfpffooaejoaaDoor
open Go Go.RowKit

/-- what may be said of a value, so that it holds in every later world -/
inductive As where
  | any
  | eq (v : Value)
  | hb (l : List UInt8)
  | parts (ls : List (List UInt8))
  | st (p : Value → World → Prop) (h : ∀ v W W', p v W → Below W.heap.size W W' → p v W')
/-- the i-th assertion -/
def asAt : List As → Nat → As
  | [], _ => .any
  | x :: _, 0 => x
  | _ :: r, n + 1 => asAt r n
def As.holds (x : As) (v : Value) (W : World) : Prop :=
  match x with
  | .any => True
  | .eq u => v = u
  | .hb l => HB W v l
  | .parts ls => Parts W v ls
  | .st p _ => p v W
theorem As.stab (x : As) (v : Value) (W W' : World) (h : x.holds v W) (hb : Below W.heap.size W W') : x.holds v W' := by
  cases x with
  | any => trivial
  | eq u => exact h
  | hb l => exact HB.keep h hb
  | parts ls => exact Parts.keep h hb
  | st p hp => exact hp v W W' h hb
def DepAs (ys : List As) (f : Nat → Value) (W : World) : List Edge → Prop
  | [] => True
  | e :: r => (Region.binds .any e = true → (asAt ys e.on).holds (f e.on) W) ∧ DepAs ys f W r
def AllAs (f : Nat → Value) (W : World) : List As → Nat → Prop
  | [], _ => True
  | x :: r, k => x.holds (f k) W ∧ AllAs f W r (k + 1)
theorem depAs_mk {ys : List As} {f : Nat → Value} {W : World} : ∀ (l : List Edge), (∀ e ∈ l, Region.binds .any e = true → (asAt ys e.on).holds (f e.on) W) → DepAs ys f W l := by
  intro l
  induction l with
  | nil => intro _; trivial
  | cons e r ih => intro h; exact ⟨h e (by simp), ih fun x hx => h x (by simp [hx])⟩
theorem allAs_mk {f : Nat → Value} {W : World} : ∀ (ys : List As) (k : Nat), (∀ i, i < ys.length → (asAt ys i).holds (f (k + i)) W) → AllAs f W ys k := by
  intro ys
  induction ys with
  | nil => intro _ _; trivial
  | cons x r ih =>
    intro k h
    refine ⟨by simpa [asAt] using h 0 (by simp), ih (k + 1) fun i hi => ?_⟩
    have := h (i + 1) (by simp; omega)
    rw [show k + 1 + i = k + (i + 1) by omega]
    simpa [asAt] using this
section
variable {P : Program} {ops : Array Oper} {Q : Exit → Act → World → Prop}
/-- does the operation run? (its guard's value is among the assertions) -/
def guardB (ys : List As) (o : Oper) : Option Bool :=
  match o.guard with
  | none => some true
  | some (g, want) => match asAt ys g with
    | .eq (.bool b) => some (b == want)
    | _ => none
def guardsB (size : Nat) (ops : List Oper) : Bool :=
  ops.all fun o => match o.guard with
    | none => true
    | some (g, _) => (match (ops[g]?).bind (·.dst) with | some d => decide (d < size) | none => false) && o.after.any fun e => e.on == g && Region.binds .any e
theorem framedL_size (f : Nat → Value) : ∀ (l : List Oper) (k : Nat) (a : Act), (framedL l k a f).tmps.size = a.tmps.size := by
  intro l
  induction l with
  | nil => intro k a; rfl
  | cons o r ih =>
    intro k a
    simp only [framedL]
    rw [ih]
    cases o.dst <;> simp [Act.put]
theorem framedL_get (f : Nat → Value) (l : List Oper) (i d : Nat) (a : Act) (o : Oper) (hd : apartB l = true) (hi : l[i]? = some o) (ho : o.dst = some d) (hs : d < a.tmps.size) : (framedL l 0 a f).tmps[d]? = some (f i) := by
  have h := framedL_upd f (f i) l 0 i a o hd hi
  have e : upd f (0 + i) (f i) = f := by
    funext j; unfold upd; split
    · rename_i hj; rw [hj, Nat.zero_add]
    · rfl
  rw [e, ho] at h
  rw [← h]
  have hz := framedL_size f l 0 a
  generalize framedL l 0 a f = b at hz
  simp only [Act.put]
  rw [Array.getElem?_setIfInBounds]
  simp [hz, hs]
def OweAs (P : Program) (Q : Exit → Act → World → Prop) (fr : (Nat → Value) → Act) (ys : List As) (w : World) (k : Nat) (o : Oper) : Prop :=
  match guardB ys o with
  | some true => ∀ (f : Nat → Value) (W : World), Below w.heap.size w W → DepAs ys f W o.after.toList →
      ∀ K : Act → World → Prop, (∀ v W', (asAt ys k).holds v W' → Below W.heap.size W W' → K ((fr f).put o.dst v) W') → o.wp P (fr f) W K Q
  | some false => ∀ W : World, (asAt ys k).holds undef W
  | none => False
def StepsAs (P : Program) (Q : Exit → Act → World → Prop) (fr : (Nat → Value) → Act) (ys : List As) (w : World) : Nat → List Oper → Prop
  | _, [] => True
  | k, o :: r => OweAs P Q fr ys w k o ∧ StepsAs P Q fr ys w (k + 1) r
theorem stepsAs_get {fr : (Nat → Value) → Act} {ys : List As} {w : World} : ∀ (l : List Oper) (k : Nat), StepsAs P Q fr ys w k l → ∀ (i : Nat) (o : Oper), l[i]? = some o → OweAs P Q fr ys w (k + i) o := by
  intro l
  induction l with
  | nil => intro k _ i o h; simp at h
  | cons x r ih =>
    intro k h i o hi
    cases i with
    | zero => simp at hi; subst hi; exact h.1
    | succ i => rw [show k + (i + 1) = k + 1 + i by omega]; exact ih (k + 1) h.2 i o (by simpa using hi)
theorem wanted_of {a : Act} {fr : (Nat → Value) → Act} {ys : List As} {f : Nat → Value} {W : World} {i : Nat} {o : Oper} (hd : apartB ops.toList = true) (hg : guardsB a.tmps.size ops.toList = true) (hfr : ∀ f, framedL ops.toList 0 a f = fr f)
    (hol : ops.toList[i]? = some o) (hdep : ∀ e ∈ o.after, Region.binds .any e = true → (asAt ys e.on).holds (f e.on) W) : ∀ b, guardB ys o = some b → Region.wanted o (yielded ops (fr f).tmps) = b := by
  intro b hgb
  unfold guardB at hgb
  unfold Region.wanted
  cases hgo : o.guard with
  | none => rw [hgo] at hgb; simpa using hgb
  | some gw =>
    obtain ⟨g, want⟩ := gw
    rw [hgo] at hgb
    simp only at hgb ⊢
    have hgs := (List.all_eq_true.1 hg) o (List.mem_of_getElem? hol)
    rw [hgo] at hgs
    simp only [Bool.and_eq_true] at hgs
    obtain ⟨hg1, hg2⟩ := hgs
    obtain ⟨e, he, heb⟩ := Array.any_eq_true'.1 hg2
    simp only [Bool.and_eq_true, beq_iff_eq] at heb
    have hdg := hdep e he heb.2
    rw [heb.1] at hdg
    cases hgx : ops.toList[g]? with
    | none => rw [hgx] at hg1; simp at hg1
    | some og =>
      cases hod : og.dst with
      | none => rw [hgx] at hg1; simp [hod] at hg1
      | some d =>
        rw [hgx] at hg1
        simp [hod] at hg1
        have hget := framedL_get f ops.toList g d a og hd hgx hod hg1
        rw [hfr] at hget
        have hgx2 : ops[g]? = some og := by simpa using hgx
        have hy : yielded ops (fr f).tmps g = (match f g with | .bool b => some b | _ => none) := by
          unfold yielded
          rw [hgx2]
          simp only [Option.bind_some, hod, hget]
          cases f g <;> rfl
        rw [hy]
        cases hya : asAt ys g with
        | eq u =>
          rw [hya] at hgb hdg
          have hfu : f g = u := hdg
          rw [hfu]
          cases u <;> simp_all
        | any => rw [hya] at hgb; simp at hgb
        | hb l => rw [hya] at hgb; simp at hgb
        | parts ls => rw [hya] at hgb; simp at hgb
        | st p hp => rw [hya] at hgb; simp at hgb
theorem wp_region_as {id : Nat} {a : Act} {w : World} (ys : List As) (hm : P.follows .mixedOrders = true) (hd : apartB ops.toList = true) (hb : backB ops.toList 0 = true) (hg : guardsB a.tmps.size ops.toList = true) (hn : ys.length = ops.size)
    (fr : (Nat → Value) → Act) (hfr : ∀ f, framedL ops.toList 0 a f = fr f)
    (hstep : StepsAs P Q fr ys w 0 ops.toList)
    (hend : ∀ (f : Nat → Value) (W : World), Below w.heap.size w W → AllAs f W ys 0 → Q .normal (fr f) W) : (Code.region id ops true).wp P Q a w := by
  refine wp_region_rel hm hd hb (fun W W' => Below W.heap.size W W') (fun i v W => (asAt ys i).holds v W) (fun A B C h1 h2 => h1.trans (h2.mono h1.size)) (Below.refl _ _).drew
    (fun i v W W' h hE => As.stab _ v W W' h hE) fr hfr (fun i o ho => ?_) (fun f W hE hR => hend f W hE (allAs_mk ys 0 fun i hi => by rw [Nat.zero_add]; exact hR i (by omega)))
  have hol : ops.toList[i]? = some o := by simpa using ho
  have h := stepsAs_get ops.toList 0 hstep i o hol
  rw [Nat.zero_add] at h
  intro f W hE hdep K hK
  have hwant := wanted_of (ys := ys) (fr := fr) hd hg hfr hol hdep
  unfold OweAs at h
  cases hgb : guardB ys o with
  | none => rw [hgb] at h; exact h.elim
  | some b =>
    rw [hgb] at h
    rw [hwant b hgb]
    cases b with
    | true =>
      rw [if_pos rfl]
      exact h f W hE (depAs_mk _ fun e he hbi => hdep e (by simpa using he) hbi) K hK
    | false =>
      rw [if_neg (by simp)]
      exact hK undef W (h W) (Below.refl _ _)

section
variable {fr : (Nat → Value) → Act} {ys : List As} {w : World} {k : Nat} {o : Oper}
/-- an operation that computes -/
theorem oweAs_pure (v : Value) (hg : guardB ys o = some true) (h : ∀ (f : Nat → Value) (W : World), Below w.heap.size w W → DepAs ys f W o.after.toList → (execOp (fr f).eval o).run P W = .ok (.value v) W) (hv : ∀ W, Below w.heap.size w W → (asAt ys k).holds v W) :
    OweAs P Q fr ys w k o := by
  unfold OweAs
  rw [hg]
  intro f W hE hd K hK
  unfold Oper.wp
  rw [h f W hE hd]
  exact hK v W (hv W hE) (Below.refl _ _)
/-- an operation whose value hangs on the world -/
theorem oweAs_made (hg : guardB ys o = some true) (h : ∀ (f : Nat → Value) (W : World), Below w.heap.size w W → DepAs ys f W o.after.toList → ∃ v W', (execOp (fr f).eval o).run P W = .ok (.value v) W' ∧ (asAt ys k).holds v W' ∧ Below W.heap.size W W') :
    OweAs P Q fr ys w k o := by
  unfold OweAs
  rw [hg]
  intro f W hE hd K hK
  obtain ⟨v, W', hr, hv, hb⟩ := h f W hE hd
  unfold Oper.wp
  rw [hr]
  exact hK v W' hv hb
/-- a call -/
theorem oweAs_call (n : FuncId) (hg : guardB ys o = some true)
    (h : ∀ (f : Nat → Value) (W : World), Below w.heap.size w W → DepAs ys f W o.after.toList → ∃ args, (execOp (fr f).eval o).run P W = .ok (.enter n args) W ∧ Calls P n args W fun e w' => ∃ v, e = .returned v ∧ (asAt ys k).holds v w' ∧ Below W.heap.size W w') :
    OweAs P Q fr ys w k o := by
  unfold OweAs
  rw [hg]
  intro f W hE hd K hK
  obtain ⟨args, hr, hc⟩ := h f W hE hd
  unfold Oper.wp
  rw [hr]
  refine Calls.mono hc ?_
  rintro e w' ⟨v, rfl, hv, hb⟩
  exact hK v w' hv hb
/-- an operation that is passed by -/
theorem oweAs_skip (hg : guardB ys o = some false) (h : ∀ W, (asAt ys k).holds undef W) : OweAs P Q fr ys w k o := by
  unfold OweAs
  rw [hg]
  exact h
end
end
end Go.Proofs.YtomfpffooaejoaaDoor
