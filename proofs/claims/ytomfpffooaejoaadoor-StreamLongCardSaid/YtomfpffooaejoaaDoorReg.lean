/-
  A region that draws its order, where each operation's value is told by what holds of it in every later world: the order does not matter. No program is named here.
-/
import Derived.Test.YtomfpffooaejoaaDoorMem
import Derived.Orders
namespace Go.Proofs.YtomfpffooaejoaaDoor
open Go Go.RowKit

/-- the frame in which the slot of the k-th operation holds f k -/
def framedL : List Oper → Nat → Act → (Nat → Value) → Act
  | [], _, a, _ => a
  | o :: r, k, a, f => framedL r (k + 1) (a.put o.dst (f k)) f
def upd (f : Nat → Value) (i : Nat) (v : Value) : Nat → Value := fun j => if j = i then v else f j

def apartB : List Oper → Bool
  | [] => true
  | o :: r => r.all (fun x => o.dst.isNone || x.dst != o.dst) && apartB r

theorem put_put (a : Act) (d : Option Tmp) (u v : Value) : (a.put d u).put d v = a.put d v := by
  cases d with
  | none => rfl
  | some d => simp [Act.put]
theorem framedL_put (d : Option Tmp) (v : Value) (f : Nat → Value) : ∀ (l : List Oper) (k : Nat) (a : Act), l.all (fun x => d.isNone || x.dst != d) = true → (framedL l k a f).put d v = framedL l k (a.put d v) f := by
  intro l
  induction l with
  | nil => intro k a _; rfl
  | cons o r ih =>
    intro k a h
    simp only [List.all_cons, Bool.and_eq_true, Bool.or_eq_true] at h
    simp only [framedL]
    rw [ih _ _ (by simpa using h.2)]
    cases d with
    | none => rfl
    | some d =>
      rw [Act.put_comm]
      intro e he
      have h1 := h.1
      simp [he] at h1
      intro h2; injection h2 with h2; exact h1 h2.symm
theorem framedL_congr (f g : Nat → Value) : ∀ (l : List Oper) (k : Nat) (a : Act), (∀ j, k ≤ j → f j = g j) → framedL l k a f = framedL l k a g := by
  intro l
  induction l with
  | nil => intro k a _; rfl
  | cons o r ih =>
    intro k a h
    simp only [framedL]
    rw [h k (Nat.le_refl _), ih (k + 1) _ (fun j hj => h j (by omega))]
theorem framedL_upd (f : Nat → Value) (v : Value) : ∀ (l : List Oper) (k i : Nat) (a : Act) (o : Oper), apartB l = true → l[i]? = some o → (framedL l k a f).put o.dst v = framedL l k a (upd f (k + i) v) := by
  intro l
  induction l with
  | nil => intro k i a o _ h; simp at h
  | cons x r ih =>
    intro k i a o h hi
    simp only [apartB, Bool.and_eq_true] at h
    cases i with
    | zero =>
      simp only [List.getElem?_cons_zero, Option.some.injEq] at hi
      subst hi
      simp only [framedL]
      rw [framedL_put x.dst v f r (k + 1) _ (by simpa using h.1), put_put, framedL_congr f (upd f (k + 0) v) r (k + 1) _ (fun j hj => by unfold upd; rw [if_neg (by omega)])]
      simp [upd]
    | succ i =>
      simp only [List.getElem?_cons_succ] at hi
      simp only [framedL]
      rw [ih (k + 1) i _ o h.2 hi, show k + 1 + i = k + (i + 1) by omega]
      congr 2
      unfold upd; rw [if_neg (by omega)]
theorem framedL_self : ∀ (l : List Oper) (k : Nat) (a : Act) (f : Nat → Value), (∀ (i : Nat) (o : Oper), l[i]? = some o → f (k + i) = (o.dst.map fun d => a.tmps.getD d undef).getD undef) → framedL l k a f = a := by
  intro l
  induction l with
  | nil => intro k a f _; rfl
  | cons o r ih =>
    intro k a f h
    have h0 := h 0 o rfl
    have e : a.put o.dst (f k) = a := by
      rw [show f k = _ from h0]
      cases hd : o.dst with
      | none => rfl
      | some d =>
        obtain ⟨tmps, defers⟩ := a
        simp only [Option.map_some, Option.getD_some, Act.put]
        congr 1
        apply Array.ext_getElem?
        intro j
        rw [Array.getElem?_setIfInBounds]
        by_cases hj : d = j
        · subst hj
          by_cases hs : d < tmps.size
          · simp [hs, Array.getD]
          · simp [hs]
        · rw [if_neg hj]
    simp only [framedL]
    rw [e]
    exact ih (k + 1) a f (fun i o ho => by rw [show k + 1 + i = k + (i + 1) by omega]; exact h (i + 1) o ho)

/-- edges lead back -/
def backB : List Oper → Nat → Bool
  | [], _ => true
  | o :: r, k => o.after.all (fun e => !Region.binds .any e || decide (e.on < k)) && backB r (k + 1)
theorem backB_spec : ∀ (l : List Oper) (k : Nat), backB l k = true → ∀ (i : Nat) (o : Oper), l[i]? = some o → ∀ e ∈ o.after, Region.binds .any e = true → e.on < k + i := by
  intro l
  induction l with
  | nil => intro k _ i o h; simp at h
  | cons x r ih =>
    intro k h i o hi e he hb
    simp only [backB, Bool.and_eq_true] at h
    cases i with
    | zero =>
      simp only [List.getElem?_cons_zero, Option.some.injEq] at hi
      subst hi
      have := Array.all_eq_true_iff_forall_mem.1 h.1 e he
      simpa [hb] using this
    | succ i =>
      have := ih (k + 1) h.2 i o (by simpa using hi) e he hb
      omega

def unl (l : Array Bool) : Nat := l.toList.countP (· == false)
theorem unl_set {l : Array Bool} {i : Nat} (h : l.getD i true = false) : unl (l.setIfInBounds i true) + 1 = unl l := by
  have hi : i < l.size := by
    rcases Nat.lt_or_ge i l.size with h' | h'
    · exact h'
    · simp [Array.getD, Nat.not_lt.2 h'] at h
  have hv : l.toList[i]? = some false := by
    simp [Array.getD, hi] at h
    simp [hi, h]
  unfold unl
  rw [Array.toList_setIfInBounds]
  revert hv
  generalize l.toList = x
  clear h hi
  induction x generalizing i with
  | nil => intro h; simp at h
  | cons b r ih =>
    intro h
    cases i with
    | zero => simp at h; subst h; simp
    | succ i =>
      have := ih (i := i) (by simpa using h)
      simp only [List.set_cons_succ, List.countP_cons]
      omega

section
variable {P : Program} {ops : Array Oper} {Q : Exit → Act → World → Prop}
/-- what operation o owes: from its operands' assertions to its own -/
def Owes (P : Program) (ops : Array Oper) (Q : Exit → Act → World → Prop) (fr : (Nat → Value) → Act) (Ext : World → World → Prop) (R : Nat → Value → World → Prop) (w : World) (i : Nat) (o : Oper) : Prop :=
  ∀ (f : Nat → Value) (W : World), Ext w W → (∀ e ∈ o.after, Region.binds .any e = true → R e.on (f e.on) W) →
    ∀ K : Act → World → Prop, (∀ v W', R i v W' → Ext W W' → K ((fr f).put o.dst v) W') →
      if Region.wanted o (yielded ops (fr f).tmps) = true then o.wp P (fr f) W K Q else K ((fr f).put o.dst undef) W
theorem wp_region_rel {id : Nat} {a : Act} {w : World} (hm : P.follows .mixedOrders = true) (hd : apartB ops.toList = true) (hb : backB ops.toList 0 = true)
    (Ext : World → World → Prop) (R : Nat → Value → World → Prop) (htrans : ∀ A B C, Ext A B → Ext B C → Ext A C) (hdrew : Ext w w.drew)
    (hstab : ∀ i v W W', R i v W → Ext W W' → R i v W')
    (fr : (Nat → Value) → Act) (hfr : ∀ f, framedL ops.toList 0 a f = fr f)
    (hstep : ∀ (i : Nat) (o : Oper), ops[i]? = some o → Owes P ops Q fr Ext R w i o)
    (hend : ∀ (f : Nat → Value) (W : World), Ext w W → (∀ i, i < ops.size → R i (f i) W) → Q .normal (fr f) W) : (Code.region id ops true).wp P Q a w := by
  refine wp_region_any hm ?_
  have key : ∀ (fuel : Nat) (listed : Array Bool) (f : Nat → Value) (W : World), listed.size = ops.size → unl listed = fuel → Ext w W → (∀ i, listed.getD i false = true → R i (f i) W) →
      wpAny P .any ops Q fuel listed (fr f) W := by
    intro fuel
    induction fuel with
    | zero =>
      intro listed f W hs hu hE hR
      have hall : ∀ i, i < ops.size → listed.getD i false = true := by
        intro i hi
        unfold unl at hu
        rw [List.countP_eq_zero] at hu
        have hi2 : i < listed.size := by omega
        have := hu listed[i] (by simp)
        simpa [Array.getD, hi2] using this
      refine ⟨?_, hend f W hE (fun i hi => hR i (hall i hi))⟩
      unfold Region.ready
      rw [List.filter_eq_nil_iff]
      intro i hi
      have hi : i < ops.size := by simpa using hi
      have := hall i hi
      have hi2 : i < listed.size := by omega
      simp [Array.getD, hi2] at this
      simp [Array.getD, hi2, this]
    | succ fuel ih =>
      intro listed f W hs hu hE hR
      refine ⟨fun h0 => ?_, fun i hi => ?_⟩
      · -- not all are listed: the least of the others is ready
        exfalso
        have hex : ∃ i, i < ops.size ∧ listed.getD i true = false := by
          have : 0 < listed.toList.countP (· == false) := by unfold unl at hu; omega
          rw [List.countP_pos_iff] at this
          obtain ⟨b, hb1, hb2⟩ := this
          obtain ⟨i, hi, e⟩ := List.getElem_of_mem hb1
          have hi2 : i < listed.size := by simpa using hi
          refine ⟨i, by omega, ?_⟩
          have : b = false := by simpa using hb2
          subst this
          simp only [Array.getElem_toList] at e
          simp [Array.getD, hi2, e]
        have hmin : ∀ n i, i < n → i < ops.size → listed.getD i true = false → False := by
          intro n
          induction n with
          | zero => intro i h; omega
          | succ n ihn =>
            intro i _ hi hl
            have hnr : i ∉ Region.ready .any ops listed := by rw [h0]; simp
            apply hnr
            refine mem_ready.2 ⟨?_, ops[i], Array.getElem?_eq_getElem hi, ?_⟩
            · have hi2 : i < listed.size := by omega
              simpa [Array.getD, hi2] using hl
            · intro e he hbi
              have hlt := backB_spec ops.toList 0 hb i ops[i] (by simp [hi]) e he hbi
              have hes : e.on < ops.size := by omega
              cases hv : listed.getD e.on false with
              | true => rfl
              | false =>
                exfalso
                refine ihn e.on (by omega) hes ?_
                have hi2 : e.on < listed.size := by omega
                simpa [Array.getD, hi2] using hv
        obtain ⟨i, hi, hl⟩ := hex
        exact hmin (i + 1) i (by omega) hi hl
      · obtain ⟨hun, oi, hoi, hall⟩ := mem_ready.1 hi
        have hilt : i < ops.size := (Array.getElem?_eq_some_iff.1 hoi).1
        have hil : i < listed.size := by omega
        have hstep' := hstep i oi hoi f W hE (fun e he hbi => hR e.on (hall e he hbi)) (wpAny P .any ops Q fuel (listed.setIfInBounds i true))
          (fun v W' hv hE' => by
            rw [← hfr, framedL_upd f v ops.toList 0 i a oi hd (by simpa using hoi), hfr, Nat.zero_add]
            refine ih (listed.setIfInBounds i true) (upd f i v) W' (by simpa using hs) ?_ (htrans _ _ _ hE hE') (fun j hj => ?_)
            · have := unl_set (l := listed) (i := i) (by simpa [Array.getD, hil] using hun)
              omega
            · unfold upd
              by_cases e : j = i
              · subst e; rw [if_pos rfl]; exact hv
              · rw [if_neg e]
                rw [getD_set_ne false (Ne.symm e)] at hj
                exact hstab j _ W W' (hR j hj) hE')
        unfold wpOp
        rw [hoi]
        simp only
        split
        · rename_i hw
          rw [if_pos hw] at hstep'
          exact .inl hstep'
        · rename_i hw
          rw [if_neg hw] at hstep'
          exact hstep'
  obtain ⟨f0, h0⟩ : ∃ f0, a = fr f0 := by
    refine ⟨fun i => ((ops[i]?).bind fun o => o.dst.map fun d => a.tmps.getD d undef).getD undef, ?_⟩
    rw [← hfr]
    refine (framedL_self ops.toList 0 a _ (fun i o ho => ?_)).symm
    have ho' : ops[i]? = some o := by simpa using ho
    simp [ho']
  have hk := key ops.size (Array.replicate ops.size false) f0 w.drew (by simp) (by simp [unl, List.countP_replicate]) hdrew (fun i hi => by
    exfalso
    rcases Nat.lt_or_ge i ops.size with h | h
    · simp [Array.getD, h] at hi
    · simp [Array.getD, Nat.not_lt.2 h] at hi)
  rw [← h0] at hk
  exact hk
end
end Go.Proofs.YtomfpffooaejoaaDoor
