/-
  Regions that draw their order, where one operation takes the others' rows for its own (it may write into them).
-/
/-
  Regions that draw their order, where '[]byte("..")' of constants stand among the operations (they mark a block behind its cells). No program is named here.
-/
/-
  As wp_region_tail, but what the tail's operations write stays as it was while the others are drawn. No program is named here.
-/
/-
  As wp_region_tail2, with whatever conclusion follows from 'wpAny': for the rounds of a range over a function. No program is named here.
-/
/-
  As any_region_tail2, where some operations make new blocks: these are apart. No program is named here.
-/
/-
  As any_region_tail3, where the x-th operation may be put off: it only computes, and the tail does not wait for it. No program is named here.
-/
/-
  An array is loaded out of the midst of a block, by a pointer that a region's operation has made. No program is named here.
-/
/-
  Rounds of a range over a function, at the fence that asks nothing: what is shown of a region outside a round holds inside one. No program is named here.
-/
/-
  A range over a function whose iterator tells N known items, the k-th at the k-th round: what is owed of the body is owed at that item alone. No program is named here.
-/
/-
  A range over a function that is a method value (values ahead of the yield): the iterator tells N known items. No program is named here.
-/
import Derived.Test.YtlkhbfafednegaaDoorGA
import Derived.Lib.UnsafeStr
import Derived.Deep.MidRow
import Derived.RangeFuncNested
import Derived.RangeFuncBound
import Derived.RangeFuncCalls
import Derived.RangeFuncLeaves
import Derived.RangeFuncBox
import Derived.OwnWalkIn
import Derived.TacticsInMore
import Derived.LoopNIn
import Derived.LoopIn
import Derived.Shelf.Abstract
namespace Go.Proofs.YtlkhbfafednegaaDoor
open Go Go.RowKit

section
variable {P : Program} {Q : Exit → Act → World → Prop} {fr : (Nat → Value) → Act} {ys : List As} {w : World} {k : Nat} {o : Oper}
/-- a whole array is loaded out of a block that is known -/
theorem oweAs_load (ty : TypeId) (x : Operand) (ho : o.op = .load ty x) (g : Nat) (t : TypeId) (cs : Array Value) (hx : ∀ f, (fr f).eval x = .pointer (some ⟨g, 0, none⟩)) (hb : Blk w g t cs) {d : TypeDesc}
    (hu : P.underlying ty = some d) (hd : (match d with | .struct _ | .array _ _ => true | _ => false) = true) (hi : (P.info? ty).map (·.size) = some cs.size) (hg : guardB ys o = some true) (hv : asAt ys k = .eq (.agg cs)) : OweAs P Q fr ys w k o := by
  unfold OweAs
  rw [hg]
  intro f W hE _ K hK
  exact wp_load_row ty x ho g (hx f) t cs (0, 0) d (hb.below hE hb.lt) hu hd hi (hK _ W (by rw [hv]; rfl) (Below.refl _ _))
end

/-- 2: it takes the rows; 1: it stands ahead of that one, in its list; 0: the rest -/
def flagsB (ops : List Oper) (n c : Nat) (cons flags : List Nat) : Bool :=
  (List.range n).all fun i => match flags[i]?, ops[i]? with
    | some 2, some o => i == c && o.guard.isNone && !cons.contains i
    | some 1, some _ => (match ops[c]? with | some oc => oc.after.any fun e => e.on == i && Region.binds .any e | none => false) && i != c
    | some 0, some _ => !cons.contains i && i != c
    | _, _ => false
theorem flagsB_spec (ops : List Oper) (n c : Nat) (cons flags : List Nat) (h : flagsB ops n c cons flags = true) (i : Nat) (hi : i < n) :
    ∃ fl, flags[i]? = some fl ∧ (fl = 1 → ∃ oc, ops[c]? = some oc ∧ ∃ e ∈ oc.after, e.on = i ∧ Region.binds .any e = true) ∧ (fl = 0 ∨ fl = 1 ∨ fl = 2) ∧ (i ∈ cons → fl = 1) ∧ (fl = 2 → i = c) ∧ (i = c → ∀ o, ops[i]? = some o → o.guard = none) := by
  have h1 := List.all_eq_true.1 h i (by simp; omega)
  cases hf : flags[i]? with
  | none => rw [hf] at h1; simp at h1
  | some fl =>
    cases ho : ops[i]? with
    | none => rw [hf, ho] at h1; match fl with
      | 0 => simp at h1
      | 1 => simp at h1
      | 2 => simp at h1
      | m + 3 => simp at h1
    | some o =>
      rw [hf, ho] at h1
      match fl with
      | 0 =>
        simp only [Bool.and_eq_true, bne_iff_ne] at h1
        exact ⟨0, rfl, (fun h => by omega), .inl rfl, (fun hh => by simp [hh] at h1), (fun h => by omega), fun hc => absurd hc h1.2⟩
      | 1 =>
        simp only [Bool.and_eq_true, bne_iff_ne] at h1
        refine ⟨1, rfl, (fun _ => ?_), .inr (.inl rfl), (fun _ => rfl), (fun h => by omega), fun hc => absurd hc h1.2⟩
        cases hoc : ops[c]? with
        | none => rw [hoc] at h1; simp at h1
        | some oc =>
          rw [hoc] at h1
          obtain ⟨e, he, h3⟩ := Array.any_eq_true'.1 h1.1
          simp only [Bool.and_eq_true, beq_iff_eq] at h3
          exact ⟨oc, rfl, e, he, h3.1, h3.2⟩
      | 2 =>
        simp only [Bool.and_eq_true, beq_iff_eq] at h1
        exact ⟨2, rfl, (fun h => by omega), .inr (.inr rfl), (fun hh => by simp [hh] at h1), (fun _ => h1.1.1), fun _ o' ho' => by injection ho' with ho'; subst ho'; simpa using h1.1.2⟩
      | m + 3 => simp at h1
def StepsC (P : Program) (Q : Exit → Act → World → Prop) (fr : (Nat → Value) → Act) (ys ym : List As) (w : World) : Nat → List Nat → List Oper → Prop
  | _, _, [] => True
  | k, 1 :: bs, o :: r => OweAs P Q fr ys w k o ∧ StepsC P Q fr ys ym w (k + 1) bs r
  | k, 0 :: bs, o :: r => OweAs P Q fr ym w k o ∧ StepsC P Q fr ys ym w (k + 1) bs r
  | k, _ :: bs, _ :: r => True ∧ StepsC P Q fr ys ym w (k + 1) bs r
  | _, [], _ :: _ => True
theorem stepsC_get {P : Program} {Q : Exit → Act → World → Prop} {fr : (Nat → Value) → Act} {ys ym : List As} {w : World} : ∀ (l : List Oper) (k : Nat) (flags : List Nat), StepsC P Q fr ys ym w k flags l → ∀ (i : Nat) (o : Oper) (fl : Nat), l[i]? = some o → flags[i]? = some fl →
    (match fl with | 1 => OweAs P Q fr ys w (k + i) o | 0 => OweAs P Q fr ym w (k + i) o | _ => True) := by
  intro l
  induction l with
  | nil => intro k flags _ i o fl h; simp at h
  | cons x r ih =>
    intro k flags h i o fl hi hf
    cases flags with
    | nil => simp at hf
    | cons b bs =>
      cases i with
      | zero =>
        simp at hi hf
        subst hi; subst hf
        match b, h with
        | 0, h => exact h.1
        | 1, h => exact h.1
        | m + 2, h => trivial
      | succ i =>
        rw [show k + (i + 1) = k + 1 + i by omega]
        have h2 : StepsC P Q fr ys ym w (k + 1) bs r := by
          match b, h with
          | 0, h => exact h.2
          | 1, h => exact h.2
          | m + 2, h => exact h.2
        exact ih (k + 1) bs h2 i o fl (by simpa using hi) (by simpa using hf)
section
variable {P : Program} {ops : Array Oper} {Q : Exit → Act → World → Prop}
theorem wp_region_cons {id : Nat} {a : Act} {w : World} (n c : Nat) (ys ym : List As) (cons flags : List Nat) (ExtC : World → World → Prop) (hm : P.follows .mixedOrders = true) (hd : apartB ops.toList = true) (hb : backB ops.toList 0 = true) (hg : guardsB a.tmps.size ops.toList = true) (hn : ym.length = n) (hns : n ≤ ops.size) (hck : flagsB ops.toList n c cons flags = true) (hym : ∀ j, j ∉ cons → asAt ym j = asAt ys j) (hyc : ∀ j, j ∈ cons → asAt ym j = .any) (ht : tailB ops.toList n = true)
    (fr : (Nat → Value) → Act) (hfr : ∀ f, framedL ops.toList 0 a f = fr f)
    (hstep : StepsC P Q fr ys ym w 0 flags (ops.toList.take n))
    (hcons : ∀ (oc : Oper), ops[c]? = some oc → ∀ (f : Nat → Value) (W : World), Below w.heap.size w W → DepAs ys f W oc.after.toList →
      ∀ K : Act → World → Prop, (∀ v W', (asAt ys c).holds v W' → ExtC W W' → K ((fr f).put oc.dst v) W') → oc.wp P (fr f) W K Q)
    (hextC : ∀ W W', Below w.heap.size w W → ExtC W W' → Below w.heap.size W W')
    (hstabC : ∀ j, j ∉ cons → j ≠ c → ∀ v W W', Below w.heap.size w W → (asAt ys j).holds v W → ExtC W W' → (asAt ys j).holds v W')
    (hend : ∀ (f : Nat → Value) (W : World), Below w.heap.size w W → AllAs f W ym 0 → wpList P ops Q (ops.toList.drop n) (fr f) W) : (Code.region id ops true).wp P Q a w := by
  refine wp_region_any hm ?_
  have key : ∀ (fuel : Nat) (listed : Array Bool) (f : Nat → Value) (W : World), listed.size = ops.size → unl listed = fuel → Below w.heap.size w W → (∀ i, i < ops.size → n ≤ i → listed.getD i true = false) → (∀ i, listed.getD i false = true → ∀ o, ops[i]? = some o → ∀ e ∈ o.after, Region.binds .any e = true → listed.getD e.on false = true) → (∀ i, listed.getD i false = true → (i ∈ cons → listed.getD c false = false) → (asAt ys i).holds (f i) W) →
      wpAny P .any ops Q fuel listed (fr f) W := by
    intro fuel
    induction fuel with
    | zero =>
      intro listed f W hs hu hE hT hL hR
      have hall : ∀ i, i < ops.size → listed.getD i true = true := by
        intro i hi
        unfold unl at hu
        rw [List.countP_eq_zero] at hu
        have hi2 : i < listed.size := by omega
        have := hu listed[i] (by simp)
        simpa [Array.getD, hi2] using this
      have hnn : n = ops.size := by
        rcases Nat.lt_or_ge n ops.size with h | h
        · have h1 := hT n h (Nat.le_refl _); rw [hall n h] at h1; cases h1
        · omega
      refine wpAny_tail hb ht 0 n listed (fr f) W hs (Nat.le_refl _) (by omega) (fun i hi => by rw [hall i hi]; simp; omega) (hend f W hE (allAs_mk ym 0 fun i hi => ?_))
      rw [Nat.zero_add]
      by_cases hic : i ∈ cons
      · rw [hyc i hic]; trivial
      rw [hym i hic]
      refine hR i ?_ (fun h => absurd h hic)
      have hi2 : i < listed.size := by omega
      have := hall i (by omega)
      simpa [Array.getD, hi2] using this
    | succ fuel ih =>
      intro listed f W hs hu hE hT hL hR
      by_cases hfull : ∀ i, i < n → listed.getD i true = true
      · have hl : ∀ i, i < ops.size → listed.getD i true = decide (i < n) := by
          intro i hi
          by_cases h : i < n
          · rw [hfull i h]; simp [h]
          · rw [hT i hi (by omega)]; simp [h]
        have hcnt : unl listed = ops.size - n := by
          have e : listed = (List.replicate n true ++ List.replicate (ops.size - n) false).toArray := by
            apply Array.ext
            · simp; omega
            · intro i h1 h2
              have := hl i (by omega)
              simp [Array.getD, h1] at this
              rw [this]
              simp [List.getElem_append]
          rw [e]
          simp [unl, List.countP_replicate]
        refine wpAny_tail hb ht (fuel + 1) n listed (fr f) W hs (Nat.le_refl _) (by omega) hl (hend f W hE (allAs_mk ym 0 fun i hi => ?_))
        rw [Nat.zero_add]
        by_cases hic : i ∈ cons
        · rw [hyc i hic]; trivial
        rw [hym i hic]
        refine hR i ?_ (fun h => absurd h hic)
        have hi2 : i < listed.size := by omega
        have := hfull i (by omega)
        simpa [Array.getD, hi2] using this
      · have hex : ∃ i, i < n ∧ listed.getD i true = false := by
          refine Classical.byContradiction fun h => hfull fun i hi => ?_
          cases hv : listed.getD i true with
          | true => rfl
          | false => exact absurd ⟨i, hi, hv⟩ h
        refine ⟨fun h0 => ?_, fun i hi => ?_⟩
        · exfalso
          have hmin : ∀ m i, i < m → i < n → listed.getD i true = false → False := by
            intro m
            induction m with
            | zero => intro i h; omega
            | succ m ihm =>
              intro i _ hi hl
              have his : i < ops.size := by omega
              have hnr : i ∉ Region.ready .any ops listed := by rw [h0]; simp
              apply hnr
              refine mem_ready.2 ⟨?_, ops[i], Array.getElem?_eq_getElem his, ?_⟩
              · have hi2 : i < listed.size := by omega
                simpa [Array.getD, hi2] using hl
              · intro e he hbi
                have hlt := backB_spec ops.toList 0 hb i ops[i] (by simp [his]) e he hbi
                cases hv : listed.getD e.on false with
                | true => rfl
                | false =>
                  exfalso
                  refine ihm e.on (by omega) (by omega) ?_
                  have hi2 : e.on < listed.size := by omega
                  simpa [Array.getD, hi2] using hv
          obtain ⟨i, hi, hl⟩ := hex
          exact hmin (i + 1) i (by omega) hi hl
        · obtain ⟨hun, oi, hoi, hall⟩ := mem_ready.1 hi
          have hilt : i < ops.size := (Array.getElem?_eq_some_iff.1 hoi).1
          have hil : i < listed.size := by omega
          have hin : i < n := by
            rcases Nat.lt_or_ge i n with h | h
            · exact h
            · exfalso
              obtain ⟨j, hj, hjl⟩ := hex
              have h6 := tailB_spec ops.toList n ht (fun k => listed.getD k false = true) (fun k ok hk hok e he hbi => hL k hk ok (by simpa using hok) e he hbi) i oi (by simpa using hoi) h hall j (by omega)
              have hj2 : j < listed.size := by omega
              simp [Array.getD, hj2] at h6 hjl
              rw [h6] at hjl; cases hjl
          have hol : ops.toList[i]? = some oi := by simpa using hoi
          have hnext : ∀ v W', (asAt ys i).holds v W' → Below w.heap.size w W' → (∀ j, j ≠ i → listed.getD j false = true → (j ∈ cons → (listed.setIfInBounds i true).getD c false = false) → (asAt ys j).holds (f j) W') → wpAny P .any ops Q fuel (listed.setIfInBounds i true) ((fr f).put oi.dst v) W' := by
            intro v W' hv hE' hR'
            rw [← hfr, framedL_upd f v ops.toList 0 i a oi hd hol, hfr, Nat.zero_add]
            refine ih (listed.setIfInBounds i true) (upd f i v) W' (by simpa using hs) ?_ hE' (fun j hj hnj => ?_) (fun j hj o ho e he hbi => ?_) (fun j hj hjc => ?_)
            · have := unl_set (l := listed) (i := i) (by simpa [Array.getD, hil] using hun)
              omega
            · have hne := getD_set_ne (listed := listed) (i := i) (j := j) true (by omega)
              rw [hne]; exact hT j hj hnj
            · by_cases e1 : j = i
              · subst e1
                rw [hoi] at ho; injection ho with ho; subst ho
                exact getD_set_true (hall e he hbi)
              · rw [getD_set_ne false (Ne.symm e1)] at hj
                exact getD_set_true (hL j hj o ho e he hbi)
            · unfold upd
              by_cases e : j = i
              · subst e; rw [if_pos rfl]; exact hv
              · rw [if_neg e]
                rw [getD_set_ne false (Ne.symm e)] at hj
                exact hR' j e hj hjc
          obtain ⟨fl, hfl, hfspec⟩ := flagsB_spec ops.toList n c cons flags hck i hin
          have hcun : fl = 1 → listed.getD c false = false := by
            intro h1
            cases hv : listed.getD c false with
            | false => rfl
            | true =>
              exfalso
              obtain ⟨oc, hoc, e, he, he1, he2⟩ := hfspec.1 h1
              -- c is listed, so what it waits for is listed
              have hcl := hL c hv oc (by simpa using hoc) e he he2
              rw [he1] at hcl
              have : listed.getD i true = false := by simpa [Array.getD, hil] using hun
              simp [Array.getD, hil] at hcl this
              rw [hcl] at this; cases this
          by_cases hic : i = c
          · subst hic
            have hgn : oi.guard = none := hfspec.2.2.2.2 rfl oi hol
            have hdep : DepAs ys f W oi.after.toList := depAs_mk _ fun e he hbi => hR e.on (hall e (by simpa using he) hbi) (fun _ => by
              have : listed.getD i true = false := by simpa [Array.getD, hil] using hun
              simpa [Array.getD, hil] using this)
            have hw : Region.wanted oi (yielded ops (fr f).tmps) = true := by simp [Region.wanted, hgn]
            unfold wpOp
            rw [hoi]
            simp only
            rw [if_pos hw]
            refine .inl (hcons oi hoi f W hE hdep _ (fun v W' hv hC => hnext v W' hv (hE.trans (hextC W W' hE hC)) (fun j hji hj hjc => ?_)))
            by_cases hjcons : j ∈ cons
            · exfalso
              have h1 := hjc hjcons
              have h2 : (listed.setIfInBounds i true).getD i false = true := by simp [Array.getD, hil]
              rw [h2] at h1; cases h1
            · exact hstabC j hjcons hji _ W W' hE (hR j hj (fun h => absurd h hjcons)) hC
          · -- another operation
            have hall2 : ∀ (zs : List As), (zs = ys ∧ fl = 1 ∨ zs = ym) → (∀ e ∈ oi.after, Region.binds .any e = true → (asAt zs e.on).holds (f e.on) W) := by
              intro zs hz e he hbi
              rcases hz with ⟨rfl, h1⟩ | rfl
              · exact hR e.on (hall e he hbi) (fun _ => hcun h1)
              · by_cases hec : e.on ∈ cons
                · rw [hyc _ hec]; trivial
                · rw [hym _ hec]; exact hR e.on (hall e he hbi) (fun h => absurd h hec)
            obtain ⟨zs, hz, hzr, h⟩ : ∃ zs : List As, (zs = ys ∧ fl = 1 ∨ zs = ym) ∧ asAt zs i = asAt ys i ∧ OweAs P Q fr zs w i oi := by
              have h := stepsC_get (ops.toList.take n) 0 flags hstep i oi fl (by rw [List.getElem?_take, if_pos hin]; exact hol) hfl
              rw [Nat.zero_add] at h
              rcases hfspec.2.1 with h0 | h1 | h2
              · refine ⟨ym, .inr rfl, hym i (fun hh => ?_), by subst h0; exact h⟩
                have := hfspec.2.2.1 hh
                omega
              · exact ⟨ys, .inl ⟨rfl, h1⟩, rfl, by subst h1; exact h⟩
              · exact absurd (hfspec.2.2.2.1 h2) hic
            have hdep := hall2 zs hz
            have hnext' : ∀ v W', (asAt zs i).holds v W' → Below W.heap.size W W' → wpAny P .any ops Q fuel (listed.setIfInBounds i true) ((fr f).put oi.dst v) W' := by
              intro v W' hv hE'
              rw [hzr] at hv
              refine hnext v W' hv (hE.trans (hE'.mono hE.size)) (fun j hji hj hjc => ?_)
              refine As.stab _ _ W W' (hR j hj (fun hh => ?_)) hE'
              have h1 := hjc hh
              rwa [getD_set_ne false hic] at h1
            have hwant := wanted_of (ys := zs) (fr := fr) hd hg hfr hol hdep
            unfold wpOp
            rw [hoi]
            simp only
            unfold OweAs at h
            cases hgb : guardB zs oi with
            | none => rw [hgb] at h; exact h.elim
            | some b =>
              rw [hgb] at h
              rw [hwant b hgb]
              cases b with
              | true =>
                rw [if_pos rfl]
                exact .inl (h f W hE (depAs_mk _ fun e he hbi => hdep e (by simpa using he) hbi) _ hnext')
              | false =>
                rw [if_neg (by simp)]
                exact hnext' undef W (h W) (Below.refl _ _)
  obtain ⟨f0, h0⟩ : ∃ f0, a = fr f0 := by
    refine ⟨fun i => ((ops[i]?).bind fun o => o.dst.map fun d => a.tmps.getD d undef).getD undef, ?_⟩
    rw [← hfr]
    refine (framedL_self ops.toList 0 a _ (fun i o ho => ?_)).symm
    have ho' : ops[i]? = some o := by simpa using ho
    simp [ho']
  have hk := key ops.size (Array.replicate ops.size false) f0 w.drew (by simp) (by simp [unl, List.countP_replicate]) (Below.refl _ _).drew (fun i hi _ => by simp [Array.getD, hi]) (fun i hi => by
    exfalso
    rcases Nat.lt_or_ge i ops.size with h | h
    · simp [Array.getD, h] at hi
    · simp [Array.getD, Nat.not_lt.2 h] at hi) (fun i hi _ => by
    exfalso
    rcases Nat.lt_or_ge i ops.size with h | h
    · simp [Array.getD, h] at hi
    · simp [Array.getD, Nat.not_lt.2 h] at hi)
  rw [← h0] at hk
  exact hk
end
end Go.Proofs.YtlkhbfafednegaaDoor
namespace Go.Proofs.YtlkhbfafednegaaDoor
open Go Go.RowKit

/-- what such a region's operations keep: what was there ahead of it, and of all else the cells and the shapes -/
def Keep (B : Nat) (w w' : World) : Prop := Below B w w' ∧ (∀ p u, w.cell? p = some u → w'.cell? p = some u) ∧ ∀ k, k < w.heap.size → w'.shape? k = w.shape? k
theorem Keep.refl (B : Nat) (w : World) : Keep B w w := ⟨Below.refl _ _, fun _ _ h => h, fun _ _ => rfl⟩
theorem Keep.drew {B : Nat} {a w : World} (h : Keep B a w) : Keep B a w.drew := ⟨h.1.drew, h.2.1, h.2.2⟩
theorem Keep.trans {B : Nat} {a b c : World} (h1 : Keep B a b) (h2 : Keep B b c) : Keep B a c :=
  ⟨h1.1.trans h2.1, fun p u h => h2.2.1 p u (h1.2.1 p u h), fun k hk => (h2.2.2 k (Nat.lt_of_lt_of_le hk h1.1.size)).trans (h1.2.2 k hk)⟩
theorem Keep.of {B : Nat} {w w' : World} (h : Below w.heap.size w w') (hB : B ≤ w.heap.size) : Keep B w w' :=
  ⟨h.mono hB, fun p _ hu => (h.cell (block_lt_of_cell hu)).trans hu, fun k hk => by unfold World.shape?; rw [h.block k hk]⟩
theorem freeze_block (w : World) (q m k : Nat) : (w.freeze ⟨q, m, none⟩ 1).heap[k]? = if q = k then (w.heap[k]?).map (fun o => match o with | .cells c elem (lo, hi) => .cells c elem (if lo == hi then (m, m + 1) else (min lo m, max hi (m + 1))) | o => o) else w.heap[k]? := by
  unfold World.freeze
  rw [if_neg (by decide)]
  show (w.heap.modify q _)[k]? = _
  rw [Array.getElem?_modify]
  rfl
theorem Keep.freeze {B : Nat} {w : World} {q m : Nat} (hq : B ≤ q) : Keep B w (w.freeze ⟨q, m, none⟩ 1) := by
  refine ⟨Lib.below_freeze (Below.refl _ _) hq 1, fun p u hu => ?_, fun k hk => ?_⟩
  · rw [← hu]
    simp only [World.cell?]
    rw [freeze_block]
    by_cases h : q = p.block
    · rw [if_pos h]
      cases w.heap[p.block]? with
      | none => rfl
      | some o => cases o <;> rfl
    · rw [if_neg h]
  · unfold World.shape?
    rw [freeze_block]
    by_cases h : q = k
    · rw [if_pos h]
      cases w.heap[k]? with
      | none => rfl
      | some o => cases o <;> rfl
    · rw [if_neg h]
theorem lit_mark {P : Program} {t e : TypeId} (ht : P.underlying t = some (.slice e)) (he : P.underlying e = some (.int .u8)) (w : World) (n c q m : Nat) (x : TypeId) (hs : w.shape? q = some (x, m)) :
    (convert t t (.slice (some ⟨q, 0, none⟩) n c)).run P w = .ok (.slice (some ⟨q, 0, none⟩) n c) (w.freeze ⟨q, m, none⟩ 1) := by
  simp [convert, run_underlying ht, run_underlying he, markStringish, hs]
theorem holds_cells {w w' : World} {v : Value} {l : List UInt8} (h : Lib.HoldsBytes w v l) (hk : ∀ a u, w.cell? a = some u → w'.cell? a = some u) : Lib.HoldsBytes w' v l := by
  obtain ⟨p, cap, e, h1, h2⟩ := h
  exact ⟨p, cap, e, h1, fun a ha j x hx => hk _ _ (h2 a ha j x hx)⟩
theorem Parts.cells {w w' : World} {v : Value} {ls : List (List UInt8)} (h : Parts w v ls) (hk : ∀ a u, w.cell? a = some u → w'.cell? a = some u) : Parts w' v ls := by
  rcases h with h | ⟨b, o, c, vs, hv, hc, h1, h2, h3⟩
  · exact .inl h
  · exact .inr ⟨b, o, c, vs, hv, hc, h1, fun i u hu => hk _ _ (h2 i u hu), fun i u l hu hl => holds_cells (h3 i u l hu hl) hk⟩
/-- a new slice of bytes, all of a block -/
def LitB (w : World) (base : Nat) (v : Value) (l : List UInt8) : Prop := ∃ q x, v = .slice (some ⟨q, 0, none⟩) l.length l.length ∧ base ≤ q ∧ w.shape? q = some (x, l.length) ∧ HB w v l
theorem lit_new (w : World) (l : List UInt8) (t : TypeId) {g n base : Nat} (hg : g = w.heap.size) (hn : n = l.length) (hm : l.length ≤ maxLen) (hb : base ≤ w.heap.size) : LitB (w.alloc (.cells (bvs l) t)) base (.slice (some ⟨g, 0, none⟩) n n) l := by
  subst hg; subst hn
  refine ⟨_, t, rfl, hb, ?_, HB.new w l t _ rfl rfl hm⟩
  have hh := heap_alloc_new w (.cells (bvs l) t)
  simp only [World.shape?, hh, bvs_size]
inductive AsM where
  | any
  | eq (v : Value)
  | hb (l : List UInt8)
  | parts (ls : List (List UInt8))
  | lit (base : Nat) (l : List UInt8)
def asAtM : List AsM → Nat → AsM
  | [], _ => .any
  | x :: _, 0 => x
  | _ :: r, n + 1 => asAtM r n
def AsM.holds (x : AsM) (v : Value) (W : World) : Prop :=
  match x with
  | .any => True
  | .eq u => v = u
  | .hb l => HB W v l
  | .parts ls => Parts W v ls
  | .lit b l => LitB W b v l
theorem AsM.stab {B : Nat} (x : AsM) (v : Value) (W W' : World) (h : x.holds v W) (hb : Keep B W W') : x.holds v W' := by
  cases x with
  | any => trivial
  | eq u => exact h
  | hb l => exact HB.keepG h fun b o u hu => hb.2.1 _ _ hu
  | parts ls => exact Parts.cells h hb.2.1
  | lit b l =>
    obtain ⟨q, x, h1, h2, h3, h4⟩ := h
    have hq : q < W.heap.size := by
      unfold World.shape? at h3
      cases e : W.heap[q]? with
      | none => rw [e] at h3; simp at h3
      | some o => exact (Array.getElem?_eq_some_iff.1 e).1
    exact ⟨q, x, h1, h2, (hb.2.2 q hq).trans h3, HB.keepG h4 fun b o u hu => hb.2.1 _ _ hu⟩
def DepM (ys : List AsM) (f : Nat → Value) (W : World) : List Edge → Prop
  | [] => True
  | e :: r => (Region.binds .any e = true → (asAtM ys e.on).holds (f e.on) W) ∧ DepM ys f W r
def AllM (f : Nat → Value) (W : World) : List AsM → Nat → Prop
  | [], _ => True
  | x :: r, k => x.holds (f k) W ∧ AllM f W r (k + 1)
theorem depM_mk {ys : List AsM} {f : Nat → Value} {W : World} : ∀ (l : List Edge), (∀ e ∈ l, Region.binds .any e = true → (asAtM ys e.on).holds (f e.on) W) → DepM ys f W l := by
  intro l
  induction l with
  | nil => intro _; trivial
  | cons e r ih => intro h; exact ⟨h e (by simp), ih fun x hx => h x (by simp [hx])⟩
theorem allM_mk {f : Nat → Value} {W : World} : ∀ (ys : List AsM) (k : Nat), (∀ i, i < ys.length → (asAtM ys i).holds (f (k + i)) W) → AllM f W ys k := by
  intro ys
  induction ys with
  | nil => intro _ _; trivial
  | cons x r ih =>
    intro k h
    refine ⟨by simpa [asAtM] using h 0 (by simp), ih (k + 1) fun i hi => ?_⟩
    have := h (i + 1) (by simp; omega)
    rw [show k + 1 + i = k + (i + 1) by omega]
    simpa [asAtM] using this
section
variable {P : Program} {ops : Array Oper} {Q : Exit → Act → World → Prop}
/-- does the operation run? (its guard's value is among the assertions) -/
def guardM (ys : List AsM) (o : Oper) : Option Bool :=
  match o.guard with
  | none => some true
  | some (g, want) => match asAtM ys g with
    | .eq (.bool b) => some (b == want)
    | _ => none
def OweM (P : Program) (Q : Exit → Act → World → Prop) (fr : (Nat → Value) → Act) (ys : List AsM) (w : World) (k : Nat) (o : Oper) : Prop :=
  match guardM ys o with
  | some true => ∀ (f : Nat → Value) (W : World), Below w.heap.size w W → DepM ys f W o.after.toList →
      ∀ K : Act → World → Prop, (∀ v W', (asAtM ys k).holds v W' → Keep w.heap.size W W' → K ((fr f).put o.dst v) W') → o.wp P (fr f) W K Q
  | some false => ∀ W : World, (asAtM ys k).holds undef W
  | none => False
def StepsM (P : Program) (Q : Exit → Act → World → Prop) (fr : (Nat → Value) → Act) (ys : List AsM) (w : World) : Nat → List Oper → Prop
  | _, [] => True
  | k, o :: r => OweM P Q fr ys w k o ∧ StepsM P Q fr ys w (k + 1) r
theorem stepsM_get {fr : (Nat → Value) → Act} {ys : List AsM} {w : World} : ∀ (l : List Oper) (k : Nat), StepsM P Q fr ys w k l → ∀ (i : Nat) (o : Oper), l[i]? = some o → OweM P Q fr ys w (k + i) o := by
  intro l
  induction l with
  | nil => intro k _ i o h; simp at h
  | cons x r ih =>
    intro k h i o hi
    cases i with
    | zero => simp at hi; subst hi; exact h.1
    | succ i => rw [show k + (i + 1) = k + 1 + i by omega]; exact ih (k + 1) h.2 i o (by simpa using hi)
theorem wantedM_of {a : Act} {fr : (Nat → Value) → Act} {ys : List AsM} {f : Nat → Value} {W : World} {i : Nat} {o : Oper} (hd : apartB ops.toList = true) (hg : guardsB a.tmps.size ops.toList = true) (hfr : ∀ f, framedL ops.toList 0 a f = fr f)
    (hol : ops.toList[i]? = some o) (hdep : ∀ e ∈ o.after, Region.binds .any e = true → (asAtM ys e.on).holds (f e.on) W) : ∀ b, guardM ys o = some b → Region.wanted o (yielded ops (fr f).tmps) = b := by
  intro b hgb
  unfold guardM at hgb
  unfold Region.wanted
  cases hgo : o.guard with
  | none => rw [hgo] at hgb; simpa using hgb
  | some gw =>
    obtain ⟨g, want⟩ := gw
    rw [hgo] at hgb
    simp only at hgb ⊢
    have hgs := (List.all_eq_true.1 hg) o (List.mem_of_getElem? hol)
    rw [hgo] at hgs
    simp only [Bool.and_eq_true] at hgs
    obtain ⟨hg1, hg2⟩ := hgs
    obtain ⟨e, he, heb⟩ := Array.any_eq_true'.1 hg2
    simp only [Bool.and_eq_true, beq_iff_eq] at heb
    have hdg := hdep e he heb.2
    rw [heb.1] at hdg
    cases hgx : ops.toList[g]? with
    | none => rw [hgx] at hg1; simp at hg1
    | some og =>
      cases hod : og.dst with
      | none => rw [hgx] at hg1; simp [hod] at hg1
      | some d =>
        rw [hgx] at hg1
        simp [hod] at hg1
        have hget := framedL_get f ops.toList g d a og hd hgx hod hg1
        rw [hfr] at hget
        have hgx2 : ops[g]? = some og := by simpa using hgx
        have hy : yielded ops (fr f).tmps g = (match f g with | .bool b => some b | _ => none) := by
          unfold yielded
          rw [hgx2]
          simp only [Option.bind_some, hod, hget]
          cases f g <;> rfl
        rw [hy]
        cases hya : asAtM ys g with
        | eq u =>
          rw [hya] at hgb hdg
          have hfu : f g = u := hdg
          rw [hfu]
          cases u <;> simp_all
        | any => rw [hya] at hgb; simp at hgb
        | hb l => rw [hya] at hgb; simp at hgb
        | parts ls => rw [hya] at hgb; simp at hgb
        | lit b l => rw [hya] at hgb; simp at hgb
theorem wp_region_mk {id : Nat} {a : Act} {w : World} (ys : List AsM) (hm : P.follows .mixedOrders = true) (hd : apartB ops.toList = true) (hb : backB ops.toList 0 = true) (hg : guardsB a.tmps.size ops.toList = true) (hn : ys.length = ops.size)
    (fr : (Nat → Value) → Act) (hfr : ∀ f, framedL ops.toList 0 a f = fr f)
    (hstep : StepsM P Q fr ys w 0 ops.toList)
    (hend : ∀ (f : Nat → Value) (W : World), Below w.heap.size w W → AllM f W ys 0 → Q .normal (fr f) W) : (Code.region id ops true).wp P Q a w := by
  refine wp_region_rel hm hd hb (fun W W' => Keep w.heap.size W W') (fun i v W => (asAtM ys i).holds v W) (fun A B C h1 h2 => h1.trans h2) (Keep.refl _ _).drew
    (fun i v W W' h hE => AsM.stab _ v W W' h hE) fr hfr (fun i o ho => ?_) (fun f W hE hR => hend f W hE.1 (allM_mk ys 0 fun i hi => by rw [Nat.zero_add]; exact hR i (by omega)))
  have hol : ops.toList[i]? = some o := by simpa using ho
  have h := stepsM_get ops.toList 0 hstep i o hol
  rw [Nat.zero_add] at h
  intro f W hE hdep K hK
  have hwant := wantedM_of (ys := ys) (fr := fr) hd hg hfr hol hdep
  unfold OweM at h
  cases hgb : guardM ys o with
  | none => rw [hgb] at h; exact h.elim
  | some b =>
    rw [hgb] at h
    rw [hwant b hgb]
    cases b with
    | true =>
      rw [if_pos rfl]
      exact h f W hE.1 (depM_mk _ fun e he hbi => hdep e (by simpa using he) hbi) K hK
    | false =>
      rw [if_neg (by simp)]
      exact hK undef W (h W) (Keep.refl _ _)

section
variable {fr : (Nat → Value) → Act} {ys : List AsM} {w : World} {k : Nat} {o : Oper}
/-- an operation that computes -/
theorem oweM_pure (v : Value) (hg : guardM ys o = some true) (h : ∀ (f : Nat → Value) (W : World), Below w.heap.size w W → DepM ys f W o.after.toList → (execOp (fr f).eval o).run P W = .ok (.value v) W) (hv : ∀ W, Below w.heap.size w W → (asAtM ys k).holds v W) :
    OweM P Q fr ys w k o := by
  unfold OweM
  rw [hg]
  intro f W hE hd K hK
  unfold Oper.wp
  rw [h f W hE hd]
  exact hK v W (hv W hE) (Keep.refl _ _)
/-- an operation whose value hangs on the world -/
theorem oweM_made (hg : guardM ys o = some true) (h : ∀ (f : Nat → Value) (W : World), Below w.heap.size w W → DepM ys f W o.after.toList → ∃ v W', (execOp (fr f).eval o).run P W = .ok (.value v) W' ∧ (asAtM ys k).holds v W' ∧ Below W.heap.size W W') :
    OweM P Q fr ys w k o := by
  unfold OweM
  rw [hg]
  intro f W hE hd K hK
  obtain ⟨v, W', hr, hv, hb⟩ := h f W hE hd
  unfold Oper.wp
  rw [hr]
  exact hK v W' hv (Keep.of hb hE.size)
/-- a call -/
theorem oweM_call (n : FuncId) (hg : guardM ys o = some true)
    (h : ∀ (f : Nat → Value) (W : World), Below w.heap.size w W → DepM ys f W o.after.toList → ∃ args, (execOp (fr f).eval o).run P W = .ok (.enter n args) W ∧ Calls P n args W fun e w' => ∃ v, e = .returned v ∧ (asAtM ys k).holds v w' ∧ Below W.heap.size W w') :
    OweM P Q fr ys w k o := by
  unfold OweM
  rw [hg]
  intro f W hE hd K hK
  obtain ⟨args, hr, hc⟩ := h f W hE hd
  unfold Oper.wp
  rw [hr]
  refine Calls.mono hc ?_
  rintro e w' ⟨v, rfl, hv, hb⟩
  exact hK v w' hv (Keep.of hb hE.size)
/-- the mark of a constant's bytes -/
theorem oweM_mark (l : List UInt8) (hg : guardM ys o = some true) (t e : TypeId) (ht : P.underlying t = some (.slice e)) (he : P.underlying e = some (.int .u8)) (x : Operand) (ho : o.op = .convert t t x)
    (hv : ∀ (f : Nat → Value) (W : World), DepM ys f W o.after.toList → LitB W w.heap.size ((fr f).eval x) l) (ha : asAtM ys k = .hb l) : OweM P Q fr ys w k o := by
  unfold OweM
  rw [hg]
  intro f W hE hd K hK
  obtain ⟨q, y, h1, h2, h3, h4⟩ := hv f W hd
  have hr := lit_mark ht he W l.length l.length q l.length y h3
  unfold Oper.wp
  have hx : (execOp (fr f).eval o).run P W = .ok (.value (.slice (some ⟨q, 0, none⟩) l.length l.length)) (W.freeze ⟨q, l.length, none⟩ 1) := by
    unfold execOp
    rw [ho]
    simp [h1, hr]
  rw [hx]
  have hkp : Keep w.heap.size W (W.freeze ⟨q, l.length, none⟩ 1) := Keep.freeze h2
  refine hK _ _ ?_ hkp
  rw [ha]
  rw [h1] at h4
  exact HB.keepG h4 fun b o u hu => hkp.2.1 _ _ hu
theorem oweM_load (ty : TypeId) (x : Operand) (ho : o.op = .load ty x) (g : Nat) (t : TypeId) (cs : Array Value) (hx : ∀ f, (fr f).eval x = .pointer (some ⟨g, 0, none⟩)) (hb : Blk w g t cs) {d : TypeDesc}
    (hu : P.underlying ty = some d) (hd : (match d with | .struct _ | .array _ _ => true | _ => false) = true) (hi : (P.info? ty).map (·.size) = some cs.size) (hg : guardM ys o = some true) (hv : asAtM ys k = .eq (.agg cs)) : OweM P Q fr ys w k o := by
  unfold OweM
  rw [hg]
  intro f W hE _ K hK
  exact wp_load_row ty x ho g (hx f) t cs (0, 0) d (hb.below hE hb.lt) hu hd hi (hK _ W (by rw [hv]; rfl) (Keep.refl _ _))
/-- an operation that is passed by -/
theorem oweM_skip (hg : guardM ys o = some false) (h : ∀ W, (asAtM ys k).holds undef W) : OweM P Q fr ys w k o := by
  unfold OweM
  rw [hg]
  exact h
end
end
end Go.Proofs.YtlkhbfafednegaaDoor
namespace Go.Proofs.YtlkhbfafednegaaDoor
open Go Go.RowKit
/-- what stands in the operations' places ahead of the region -/
def oldF (ops : Array Oper) (a : Act) (i : Nat) : Value := ((ops[i]?).bind fun o => o.dst.map fun d => a.tmps.getD d undef).getD undef
def maskF (n : Nat) (o f : Nat → Value) (i : Nat) : Value := if i < n then f i else o i
theorem mask_old (n : Nat) (o : Nat → Value) : maskF n o o = o := by funext i; unfold maskF; split <;> rfl
theorem upd_mask {n i : Nat} {o f : Nat → Value} {v : Value} (hi : i < n) : upd (maskF n o f) i v = maskF n o (upd f i v) := by
  funext j
  unfold upd maskF
  by_cases h : j = i
  · subst h; simp [hi]
  · simp [h]
section
variable {P : Program} {ops : Array Oper} {Q : Exit → Act → World → Prop}
theorem wp_region_tail2 {id : Nat} {a : Act} {w : World} (n : Nat) (ys : List As) (hm : P.follows .mixedOrders = true) (hd : apartB ops.toList = true) (hb : backB ops.toList 0 = true) (hg : guardsB a.tmps.size ops.toList = true) (hn : ys.length = n) (hns : n ≤ ops.size) (ht : tailB ops.toList n = true)
    (fr : (Nat → Value) → Act) (hfr : ∀ f, framedL ops.toList 0 a (maskF n (oldF ops a) f) = fr f)
    (hstep : StepsAs P Q fr ys w 0 (ops.toList.take n))
    (hend : ∀ (f : Nat → Value) (W : World), Below w.heap.size w W → AllAs f W ys 0 → wpList P ops Q (ops.toList.drop n) (fr f) W) : (Code.region id ops true).wp P Q a w := by
  refine wp_region_any hm ?_
  have key : ∀ (fuel : Nat) (listed : Array Bool) (f : Nat → Value) (W : World), listed.size = ops.size → unl listed = fuel → Below w.heap.size w W → (∀ i, i < ops.size → n ≤ i → listed.getD i true = false) → (∀ i, listed.getD i false = true → ∀ o, ops[i]? = some o → ∀ e ∈ o.after, Region.binds .any e = true → listed.getD e.on false = true) → (∀ i, listed.getD i false = true → (asAt ys i).holds (f i) W) →
      wpAny P .any ops Q fuel listed (fr f) W := by
    intro fuel
    induction fuel with
    | zero =>
      intro listed f W hs hu hE hT hL hR
      have hall : ∀ i, i < ops.size → listed.getD i true = true := by
        intro i hi
        unfold unl at hu
        rw [List.countP_eq_zero] at hu
        have hi2 : i < listed.size := by omega
        have := hu listed[i] (by simp)
        simpa [Array.getD, hi2] using this
      have hnn : n = ops.size := by
        rcases Nat.lt_or_ge n ops.size with h | h
        · have h1 := hT n h (Nat.le_refl _); rw [hall n h] at h1; cases h1
        · omega
      refine wpAny_tail hb ht 0 n listed (fr f) W hs (Nat.le_refl _) (by omega) (fun i hi => by rw [hall i hi]; simp; omega) (hend f W hE (allAs_mk ys 0 fun i hi => ?_))
      rw [Nat.zero_add]
      refine hR i ?_
      have hi2 : i < listed.size := by omega
      have := hall i (by omega)
      simpa [Array.getD, hi2] using this
    | succ fuel ih =>
      intro listed f W hs hu hE hT hL hR
      by_cases hfull : ∀ i, i < n → listed.getD i true = true
      · have hl : ∀ i, i < ops.size → listed.getD i true = decide (i < n) := by
          intro i hi
          by_cases h : i < n
          · rw [hfull i h]; simp [h]
          · rw [hT i hi (by omega)]; simp [h]
        have hcnt : unl listed = ops.size - n := by
          have e : listed = (List.replicate n true ++ List.replicate (ops.size - n) false).toArray := by
            apply Array.ext
            · simp; omega
            · intro i h1 h2
              have := hl i (by omega)
              simp [Array.getD, h1] at this
              rw [this]
              simp [List.getElem_append]
          rw [e]
          simp [unl, List.countP_replicate]
        refine wpAny_tail hb ht (fuel + 1) n listed (fr f) W hs (Nat.le_refl _) (by omega) hl (hend f W hE (allAs_mk ys 0 fun i hi => ?_))
        rw [Nat.zero_add]
        refine hR i ?_
        have hi2 : i < listed.size := by omega
        have := hfull i (by omega)
        simpa [Array.getD, hi2] using this
      · have hex : ∃ i, i < n ∧ listed.getD i true = false := by
          refine Classical.byContradiction fun h => hfull fun i hi => ?_
          cases hv : listed.getD i true with
          | true => rfl
          | false => exact absurd ⟨i, hi, hv⟩ h
        refine ⟨fun h0 => ?_, fun i hi => ?_⟩
        · exfalso
          have hmin : ∀ m i, i < m → i < n → listed.getD i true = false → False := by
            intro m
            induction m with
            | zero => intro i h; omega
            | succ m ihm =>
              intro i _ hi hl
              have his : i < ops.size := by omega
              have hnr : i ∉ Region.ready .any ops listed := by rw [h0]; simp
              apply hnr
              refine mem_ready.2 ⟨?_, ops[i], Array.getElem?_eq_getElem his, ?_⟩
              · have hi2 : i < listed.size := by omega
                simpa [Array.getD, hi2] using hl
              · intro e he hbi
                have hlt := backB_spec ops.toList 0 hb i ops[i] (by simp [his]) e he hbi
                cases hv : listed.getD e.on false with
                | true => rfl
                | false =>
                  exfalso
                  refine ihm e.on (by omega) (by omega) ?_
                  have hi2 : e.on < listed.size := by omega
                  simpa [Array.getD, hi2] using hv
          obtain ⟨i, hi, hl⟩ := hex
          exact hmin (i + 1) i (by omega) hi hl
        · obtain ⟨hun, oi, hoi, hall⟩ := mem_ready.1 hi
          have hilt : i < ops.size := (Array.getElem?_eq_some_iff.1 hoi).1
          have hil : i < listed.size := by omega
          have hin : i < n := by
            rcases Nat.lt_or_ge i n with h | h
            · exact h
            · exfalso
              obtain ⟨j, hj, hjl⟩ := hex
              have h6 := tailB_spec ops.toList n ht (fun k => listed.getD k false = true) (fun k ok hk hok e he hbi => hL k hk ok (by simpa using hok) e he hbi) i oi (by simpa using hoi) h hall j (by omega)
              have hj2 : j < listed.size := by omega
              simp [Array.getD, hj2] at h6 hjl
              rw [h6] at hjl; cases hjl
          have hol : ops.toList[i]? = some oi := by simpa using hoi
          have h := stepsAs_get (ops.toList.take n) 0 hstep i oi (by rw [List.getElem?_take, if_pos hin]; exact hol)
          rw [Nat.zero_add] at h
          have hdep : ∀ e ∈ oi.after, Region.binds .any e = true → (asAt ys e.on).holds (f e.on) W := fun e he hbi => hR e.on (hall e he hbi)
          have hnext : ∀ v W', (asAt ys i).holds v W' → Below W.heap.size W W' → wpAny P .any ops Q fuel (listed.setIfInBounds i true) ((fr f).put oi.dst v) W' := by
            intro v W' hv hE'
            rw [← hfr, framedL_upd _ v ops.toList 0 i a oi hd hol, Nat.zero_add, upd_mask hin, hfr]
            refine ih (listed.setIfInBounds i true) (upd f i v) W' (by simpa using hs) ?_ (hE.trans (hE'.mono hE.size)) (fun j hj hnj => ?_) (fun j hj o ho e he hbi => ?_) (fun j hj => ?_)
            · have := unl_set (l := listed) (i := i) (by simpa [Array.getD, hil] using hun)
              omega
            · have hne := getD_set_ne (listed := listed) (i := i) (j := j) true (by omega)
              rw [hne]; exact hT j hj hnj
            · by_cases e1 : j = i
              · subst e1
                rw [hoi] at ho; injection ho with ho; subst ho
                exact getD_set_true (hall e he hbi)
              · rw [getD_set_ne false (Ne.symm e1)] at hj
                exact getD_set_true (hL j hj o ho e he hbi)
            · unfold upd
              by_cases e : j = i
              · subst e; rw [if_pos rfl]; exact hv
              · rw [if_neg e]
                rw [getD_set_ne false (Ne.symm e)] at hj
                exact As.stab _ _ W W' (hR j hj) hE'
          have hwant : ∀ b, guardB ys oi = some b → Region.wanted oi (yielded ops (fr f).tmps) = b := by
            rw [← hfr]
            exact wanted_of (ys := ys) (f := maskF n (oldF ops a) f) (W := W) (fr := fun f' => framedL ops.toList 0 a f') hd hg (fun _ => rfl) hol (fun e he hbi => by
              have hlt := backB_spec ops.toList 0 hb i oi hol e he hbi
              have e1 : maskF n (oldF ops a) f e.on = f e.on := if_pos (by omega)
              rw [e1]
              exact hdep e he hbi)
          unfold wpOp
          rw [hoi]
          simp only
          unfold OweAs at h
          cases hgb : guardB ys oi with
          | none => rw [hgb] at h; exact h.elim
          | some b =>
            rw [hgb] at h
            rw [hwant b hgb]
            cases b with
            | true =>
              rw [if_pos rfl]
              exact .inl (h f W hE (depAs_mk _ fun e he hbi => hdep e (by simpa using he) hbi) _ hnext)
            | false =>
              rw [if_neg (by simp)]
              exact hnext undef W (h W) (Below.refl _ _)
  obtain ⟨f0, h0⟩ : ∃ f0, a = fr f0 := by
    refine ⟨oldF ops a, ?_⟩
    rw [← hfr, mask_old]
    refine (framedL_self ops.toList 0 a _ (fun i o ho => ?_)).symm
    have ho' : ops[i]? = some o := by simpa using ho
    simp [oldF, ho']
  have hk := key ops.size (Array.replicate ops.size false) f0 w.drew (by simp) (by simp [unl, List.countP_replicate]) (Below.refl _ _).drew (fun i hi _ => by simp [Array.getD, hi]) (fun i hi => by
    exfalso
    rcases Nat.lt_or_ge i ops.size with h | h
    · simp [Array.getD, h] at hi
    · simp [Array.getD, Nat.not_lt.2 h] at hi) (fun i hi => by
    exfalso
    rcases Nat.lt_or_ge i ops.size with h | h
    · simp [Array.getD, h] at hi
    · simp [Array.getD, Nat.not_lt.2 h] at hi)
  rw [← h0] at hk
  exact hk
end
end Go.Proofs.YtlkhbfafednegaaDoor
namespace Go.Proofs.YtlkhbfafednegaaDoor
open Go Go.RowKit
section
variable {P : Program} {ops : Array Oper} {Q : Exit → Act → World → Prop}
theorem any_region_tail2 {G : Prop} {a : Act} {w : World} (hG : wpAny P .any ops Q ops.size (Array.replicate ops.size false) a w.drew → G) (n : Nat) (ys : List As) (hd : apartB ops.toList = true) (hb : backB ops.toList 0 = true) (hg : guardsB a.tmps.size ops.toList = true) (hn : ys.length = n) (hns : n ≤ ops.size) (ht : tailB ops.toList n = true)
    (fr : (Nat → Value) → Act) (hfr : ∀ f, framedL ops.toList 0 a (maskF n (oldF ops a) f) = fr f)
    (hstep : StepsAs P Q fr ys w 0 (ops.toList.take n))
    (hend : ∀ (f : Nat → Value) (W : World), Below w.heap.size w W → AllAs f W ys 0 → wpList P ops Q (ops.toList.drop n) (fr f) W) : G := by
  refine hG ?_
  have key : ∀ (fuel : Nat) (listed : Array Bool) (f : Nat → Value) (W : World), listed.size = ops.size → unl listed = fuel → Below w.heap.size w W → (∀ i, i < ops.size → n ≤ i → listed.getD i true = false) → (∀ i, listed.getD i false = true → ∀ o, ops[i]? = some o → ∀ e ∈ o.after, Region.binds .any e = true → listed.getD e.on false = true) → (∀ i, listed.getD i false = true → (asAt ys i).holds (f i) W) →
      wpAny P .any ops Q fuel listed (fr f) W := by
    intro fuel
    induction fuel with
    | zero =>
      intro listed f W hs hu hE hT hL hR
      have hall : ∀ i, i < ops.size → listed.getD i true = true := by
        intro i hi
        unfold unl at hu
        rw [List.countP_eq_zero] at hu
        have hi2 : i < listed.size := by omega
        have := hu listed[i] (by simp)
        simpa [Array.getD, hi2] using this
      have hnn : n = ops.size := by
        rcases Nat.lt_or_ge n ops.size with h | h
        · have h1 := hT n h (Nat.le_refl _); rw [hall n h] at h1; cases h1
        · omega
      refine wpAny_tail hb ht 0 n listed (fr f) W hs (Nat.le_refl _) (by omega) (fun i hi => by rw [hall i hi]; simp; omega) (hend f W hE (allAs_mk ys 0 fun i hi => ?_))
      rw [Nat.zero_add]
      refine hR i ?_
      have hi2 : i < listed.size := by omega
      have := hall i (by omega)
      simpa [Array.getD, hi2] using this
    | succ fuel ih =>
      intro listed f W hs hu hE hT hL hR
      by_cases hfull : ∀ i, i < n → listed.getD i true = true
      · have hl : ∀ i, i < ops.size → listed.getD i true = decide (i < n) := by
          intro i hi
          by_cases h : i < n
          · rw [hfull i h]; simp [h]
          · rw [hT i hi (by omega)]; simp [h]
        have hcnt : unl listed = ops.size - n := by
          have e : listed = (List.replicate n true ++ List.replicate (ops.size - n) false).toArray := by
            apply Array.ext
            · simp; omega
            · intro i h1 h2
              have := hl i (by omega)
              simp [Array.getD, h1] at this
              rw [this]
              simp [List.getElem_append]
          rw [e]
          simp [unl, List.countP_replicate]
        refine wpAny_tail hb ht (fuel + 1) n listed (fr f) W hs (Nat.le_refl _) (by omega) hl (hend f W hE (allAs_mk ys 0 fun i hi => ?_))
        rw [Nat.zero_add]
        refine hR i ?_
        have hi2 : i < listed.size := by omega
        have := hfull i (by omega)
        simpa [Array.getD, hi2] using this
      · have hex : ∃ i, i < n ∧ listed.getD i true = false := by
          refine Classical.byContradiction fun h => hfull fun i hi => ?_
          cases hv : listed.getD i true with
          | true => rfl
          | false => exact absurd ⟨i, hi, hv⟩ h
        refine ⟨fun h0 => ?_, fun i hi => ?_⟩
        · exfalso
          have hmin : ∀ m i, i < m → i < n → listed.getD i true = false → False := by
            intro m
            induction m with
            | zero => intro i h; omega
            | succ m ihm =>
              intro i _ hi hl
              have his : i < ops.size := by omega
              have hnr : i ∉ Region.ready .any ops listed := by rw [h0]; simp
              apply hnr
              refine mem_ready.2 ⟨?_, ops[i], Array.getElem?_eq_getElem his, ?_⟩
              · have hi2 : i < listed.size := by omega
                simpa [Array.getD, hi2] using hl
              · intro e he hbi
                have hlt := backB_spec ops.toList 0 hb i ops[i] (by simp [his]) e he hbi
                cases hv : listed.getD e.on false with
                | true => rfl
                | false =>
                  exfalso
                  refine ihm e.on (by omega) (by omega) ?_
                  have hi2 : e.on < listed.size := by omega
                  simpa [Array.getD, hi2] using hv
          obtain ⟨i, hi, hl⟩ := hex
          exact hmin (i + 1) i (by omega) hi hl
        · obtain ⟨hun, oi, hoi, hall⟩ := mem_ready.1 hi
          have hilt : i < ops.size := (Array.getElem?_eq_some_iff.1 hoi).1
          have hil : i < listed.size := by omega
          have hin : i < n := by
            rcases Nat.lt_or_ge i n with h | h
            · exact h
            · exfalso
              obtain ⟨j, hj, hjl⟩ := hex
              have h6 := tailB_spec ops.toList n ht (fun k => listed.getD k false = true) (fun k ok hk hok e he hbi => hL k hk ok (by simpa using hok) e he hbi) i oi (by simpa using hoi) h hall j (by omega)
              have hj2 : j < listed.size := by omega
              simp [Array.getD, hj2] at h6 hjl
              rw [h6] at hjl; cases hjl
          have hol : ops.toList[i]? = some oi := by simpa using hoi
          have h := stepsAs_get (ops.toList.take n) 0 hstep i oi (by rw [List.getElem?_take, if_pos hin]; exact hol)
          rw [Nat.zero_add] at h
          have hdep : ∀ e ∈ oi.after, Region.binds .any e = true → (asAt ys e.on).holds (f e.on) W := fun e he hbi => hR e.on (hall e he hbi)
          have hnext : ∀ v W', (asAt ys i).holds v W' → Below W.heap.size W W' → wpAny P .any ops Q fuel (listed.setIfInBounds i true) ((fr f).put oi.dst v) W' := by
            intro v W' hv hE'
            rw [← hfr, framedL_upd _ v ops.toList 0 i a oi hd hol, Nat.zero_add, upd_mask hin, hfr]
            refine ih (listed.setIfInBounds i true) (upd f i v) W' (by simpa using hs) ?_ (hE.trans (hE'.mono hE.size)) (fun j hj hnj => ?_) (fun j hj o ho e he hbi => ?_) (fun j hj => ?_)
            · have := unl_set (l := listed) (i := i) (by simpa [Array.getD, hil] using hun)
              omega
            · have hne := getD_set_ne (listed := listed) (i := i) (j := j) true (by omega)
              rw [hne]; exact hT j hj hnj
            · by_cases e1 : j = i
              · subst e1
                rw [hoi] at ho; injection ho with ho; subst ho
                exact getD_set_true (hall e he hbi)
              · rw [getD_set_ne false (Ne.symm e1)] at hj
                exact getD_set_true (hL j hj o ho e he hbi)
            · unfold upd
              by_cases e : j = i
              · subst e; rw [if_pos rfl]; exact hv
              · rw [if_neg e]
                rw [getD_set_ne false (Ne.symm e)] at hj
                exact As.stab _ _ W W' (hR j hj) hE'
          have hwant : ∀ b, guardB ys oi = some b → Region.wanted oi (yielded ops (fr f).tmps) = b := by
            rw [← hfr]
            exact wanted_of (ys := ys) (f := maskF n (oldF ops a) f) (W := W) (fr := fun f' => framedL ops.toList 0 a f') hd hg (fun _ => rfl) hol (fun e he hbi => by
              have hlt := backB_spec ops.toList 0 hb i oi hol e he hbi
              have e1 : maskF n (oldF ops a) f e.on = f e.on := if_pos (by omega)
              rw [e1]
              exact hdep e he hbi)
          unfold wpOp
          rw [hoi]
          simp only
          unfold OweAs at h
          cases hgb : guardB ys oi with
          | none => rw [hgb] at h; exact h.elim
          | some b =>
            rw [hgb] at h
            rw [hwant b hgb]
            cases b with
            | true =>
              rw [if_pos rfl]
              exact .inl (h f W hE (depAs_mk _ fun e he hbi => hdep e (by simpa using he) hbi) _ hnext)
            | false =>
              rw [if_neg (by simp)]
              exact hnext undef W (h W) (Below.refl _ _)
  obtain ⟨f0, h0⟩ : ∃ f0, a = fr f0 := by
    refine ⟨oldF ops a, ?_⟩
    rw [← hfr, mask_old]
    refine (framedL_self ops.toList 0 a _ (fun i o ho => ?_)).symm
    have ho' : ops[i]? = some o := by simpa using ho
    simp [oldF, ho']
  have hk := key ops.size (Array.replicate ops.size false) f0 w.drew (by simp) (by simp [unl, List.countP_replicate]) (Below.refl _ _).drew (fun i hi _ => by simp [Array.getD, hi]) (fun i hi => by
    exfalso
    rcases Nat.lt_or_ge i ops.size with h | h
    · simp [Array.getD, h] at hi
    · simp [Array.getD, Nat.not_lt.2 h] at hi) (fun i hi => by
    exfalso
    rcases Nat.lt_or_ge i ops.size with h | h
    · simp [Array.getD, h] at hi
    · simp [Array.getD, Nat.not_lt.2 h] at hi)
  rw [← h0] at hk
  exact hk
end
end Go.Proofs.YtlkhbfafednegaaDoor
namespace Go.Proofs.YtlkhbfafednegaaDoor
open Go Go.RowKit
/-- what operation k owes; where D says so its value points at a new block -/
def OweD (P : Program) (Q : Exit → Act → World → Prop) (fr : (Nat → Value) → Act) (ys : List As) (D : Nat → Bool) (w : World) (k : Nat) (o : Oper) : Prop :=
  match guardB ys o with
  | some true => ∀ (f : Nat → Value) (W : World), Below w.heap.size w W → DepAs ys f W o.after.toList →
      ∀ K : Act → World → Prop, (∀ v W', (asAt ys k).holds v W' → Below W.heap.size W W' → (D k = true → ∃ q, v = .pointer (some ⟨q, 0, none⟩) ∧ W.heap.size ≤ q ∧ q < W'.heap.size) → K ((fr f).put o.dst v) W') → o.wp P (fr f) W K Q
  | some false => (∀ W : World, (asAt ys k).holds undef W) ∧ D k = false
  | none => False
def StepsD (P : Program) (Q : Exit → Act → World → Prop) (fr : (Nat → Value) → Act) (ys : List As) (D : Nat → Bool) (w : World) : Nat → List Oper → Prop
  | _, [] => True
  | k, o :: r => OweD P Q fr ys D w k o ∧ StepsD P Q fr ys D w (k + 1) r
/-- the pointers that are listed are apart -/
def Apart (D : Nat → Bool) (L : Nat → Prop) (f : Nat → Value) (W : World) : Prop :=
  (∀ i, L i → D i = true → ∃ q, f i = .pointer (some ⟨q, 0, none⟩) ∧ q < W.heap.size) ∧
  ∀ i j, L i → L j → D i = true → D j = true → i ≠ j → ∀ p q, f i = .pointer (some ⟨p, 0, none⟩) → f j = .pointer (some ⟨q, 0, none⟩) → p ≠ q
section
variable {P : Program} {Q : Exit → Act → World → Prop} {fr : (Nat → Value) → Act} {ys : List As} {D : Nat → Bool} {w : World}
theorem stepsD_get : ∀ (l : List Oper) (k : Nat), StepsD P Q fr ys D w k l → ∀ (i : Nat) (o : Oper), l[i]? = some o → OweD P Q fr ys D w (k + i) o := by
  intro l
  induction l with
  | nil => intro k _ i o h; simp at h
  | cons x r ih =>
    intro k h i o hi
    cases i with
    | zero => simp at hi; subst hi; exact h.1
    | succ i => rw [show k + (i + 1) = k + 1 + i by omega]; exact ih (k + 1) h.2 i o (by simpa using hi)
theorem oweD_of {k : Nat} {o : Oper} (hD : D k = false) (h : OweAs P Q fr ys w k o) : OweD P Q fr ys D w k o := by
  unfold OweAs at h
  unfold OweD
  split
  · rename_i hg
    rw [hg] at h
    intro f W hE hd K hK
    exact h f W hE hd K (fun v W' hv hb => hK v W' hv hb (fun e => by rw [hD] at e; cases e))
  · rename_i hg
    rw [hg] at h
    exact ⟨h, hD⟩
  · rename_i hg
    rw [hg] at h; exact h
theorem oweD_alloc {k : Nat} {o : Oper} (hg : guardB ys o = some true) (ob : Obj)
    (h : ∀ (f : Nat → Value) (W : World), Below w.heap.size w W → DepAs ys f W o.after.toList → (execOp (fr f).eval o).run P W = .ok (.value (.pointer (some ⟨W.heap.size, 0, none⟩))) (W.alloc ob) ∧ (asAt ys k).holds (.pointer (some ⟨W.heap.size, 0, none⟩)) (W.alloc ob)) : OweD P Q fr ys D w k o := by
  unfold OweD
  rw [hg]
  intro f W hE hd K hK
  obtain ⟨h1, h2⟩ := h f W hE hd
  unfold Oper.wp
  rw [h1]
  exact hK _ _ h2 ((Below.refl _ _).alloc (Nat.le_refl _) _) (fun _ => ⟨_, rfl, Nat.le_refl _, by simp⟩)
end
section
variable {P : Program} {ops : Array Oper} {Q : Exit → Act → World → Prop}
theorem any_region_tail3 {G : Prop} {a : Act} {w : World} (hG : wpAny P .any ops Q ops.size (Array.replicate ops.size false) a w.drew → G) (n : Nat) (ys : List As) (D : Nat → Bool) (hd : apartB ops.toList = true) (hb : backB ops.toList 0 = true) (hg : guardsB a.tmps.size ops.toList = true) (hn : ys.length = n) (hns : n ≤ ops.size) (ht : tailB ops.toList n = true)
    (fr : (Nat → Value) → Act) (hfr : ∀ f, framedL ops.toList 0 a (maskF n (oldF ops a) f) = fr f)
    (hstep : StepsD P Q fr ys D w 0 (ops.toList.take n))
    (hend : ∀ (f : Nat → Value) (W : World), Below w.heap.size w W → AllAs f W ys 0 → Apart D (fun i => i < n) f W → wpList P ops Q (ops.toList.drop n) (fr f) W) : G := by
  refine hG ?_
  have key : ∀ (fuel : Nat) (listed : Array Bool) (f : Nat → Value) (W : World), listed.size = ops.size → unl listed = fuel → Below w.heap.size w W → (∀ i, i < ops.size → n ≤ i → listed.getD i true = false) → (∀ i, listed.getD i false = true → ∀ o, ops[i]? = some o → ∀ e ∈ o.after, Region.binds .any e = true → listed.getD e.on false = true) → (∀ i, listed.getD i false = true → (asAt ys i).holds (f i) W) → Apart D (fun i => listed.getD i false = true) f W →
      wpAny P .any ops Q fuel listed (fr f) W := by
    intro fuel
    induction fuel with
    | zero =>
      intro listed f W hs hu hE hT hL hR hA
      have hall : ∀ i, i < ops.size → listed.getD i true = true := by
        intro i hi
        unfold unl at hu
        rw [List.countP_eq_zero] at hu
        have hi2 : i < listed.size := by omega
        have := hu listed[i] (by simp)
        simpa [Array.getD, hi2] using this
      have hnn : n = ops.size := by
        rcases Nat.lt_or_ge n ops.size with h | h
        · have h1 := hT n h (Nat.le_refl _); rw [hall n h] at h1; cases h1
        · omega
      refine wpAny_tail hb ht 0 n listed (fr f) W hs (Nat.le_refl _) (by omega) (fun i hi => by rw [hall i hi]; simp; omega) (hend f W hE (allAs_mk ys 0 fun i hi => ?_) ?_)
      · rw [Nat.zero_add]
        refine hR i ?_
        have hi2 : i < listed.size := by omega
        have := hall i (by omega)
        simpa [Array.getD, hi2] using this
      · have hli : ∀ i, i < n → listed.getD i false = true := fun i hi => by
          have hi2 : i < listed.size := by omega
          have := hall i (by omega)
          simpa [Array.getD, hi2] using this
        exact ⟨fun i hi => hA.1 i (hli i hi), fun i j hi hj => hA.2 i j (hli i hi) (hli j hj)⟩
    | succ fuel ih =>
      intro listed f W hs hu hE hT hL hR hA
      by_cases hfull : ∀ i, i < n → listed.getD i true = true
      · have hl : ∀ i, i < ops.size → listed.getD i true = decide (i < n) := by
          intro i hi
          by_cases h : i < n
          · rw [hfull i h]; simp [h]
          · rw [hT i hi (by omega)]; simp [h]
        have hcnt : unl listed = ops.size - n := by
          have e : listed = (List.replicate n true ++ List.replicate (ops.size - n) false).toArray := by
            apply Array.ext
            · simp; omega
            · intro i h1 h2
              have := hl i (by omega)
              simp [Array.getD, h1] at this
              rw [this]
              simp [List.getElem_append]
          rw [e]
          simp [unl, List.countP_replicate]
        refine wpAny_tail hb ht (fuel + 1) n listed (fr f) W hs (Nat.le_refl _) (by omega) hl (hend f W hE (allAs_mk ys 0 fun i hi => ?_) ?_)
        · rw [Nat.zero_add]
          refine hR i ?_
          have hi2 : i < listed.size := by omega
          have := hfull i (by omega)
          simpa [Array.getD, hi2] using this
        · have hli : ∀ i, i < n → listed.getD i false = true := fun i hi => by
            have hi2 : i < listed.size := by omega
            have := hfull i (by omega)
            simpa [Array.getD, hi2] using this
          exact ⟨fun i hi => hA.1 i (hli i hi), fun i j hi hj => hA.2 i j (hli i hi) (hli j hj)⟩
      · have hex : ∃ i, i < n ∧ listed.getD i true = false := by
          refine Classical.byContradiction fun h => hfull fun i hi => ?_
          cases hv : listed.getD i true with
          | true => rfl
          | false => exact absurd ⟨i, hi, hv⟩ h
        refine ⟨fun h0 => ?_, fun i hi => ?_⟩
        · exfalso
          have hmin : ∀ m i, i < m → i < n → listed.getD i true = false → False := by
            intro m
            induction m with
            | zero => intro i h; omega
            | succ m ihm =>
              intro i _ hi hl
              have his : i < ops.size := by omega
              have hnr : i ∉ Region.ready .any ops listed := by rw [h0]; simp
              apply hnr
              refine mem_ready.2 ⟨?_, ops[i], Array.getElem?_eq_getElem his, ?_⟩
              · have hi2 : i < listed.size := by omega
                simpa [Array.getD, hi2] using hl
              · intro e he hbi
                have hlt := backB_spec ops.toList 0 hb i ops[i] (by simp [his]) e he hbi
                cases hv : listed.getD e.on false with
                | true => rfl
                | false =>
                  exfalso
                  refine ihm e.on (by omega) (by omega) ?_
                  have hi2 : e.on < listed.size := by omega
                  simpa [Array.getD, hi2] using hv
          obtain ⟨i, hi, hl⟩ := hex
          exact hmin (i + 1) i (by omega) hi hl
        · obtain ⟨hun, oi, hoi, hall⟩ := mem_ready.1 hi
          have hilt : i < ops.size := (Array.getElem?_eq_some_iff.1 hoi).1
          have hil : i < listed.size := by omega
          have hin : i < n := by
            rcases Nat.lt_or_ge i n with h | h
            · exact h
            · exfalso
              obtain ⟨j, hj, hjl⟩ := hex
              have h6 := tailB_spec ops.toList n ht (fun k => listed.getD k false = true) (fun k ok hk hok e he hbi => hL k hk ok (by simpa using hok) e he hbi) i oi (by simpa using hoi) h hall j (by omega)
              have hj2 : j < listed.size := by omega
              simp [Array.getD, hj2] at h6 hjl
              rw [h6] at hjl; cases hjl
          have hol : ops.toList[i]? = some oi := by simpa using hoi
          have h := stepsD_get (ops.toList.take n) 0 hstep i oi (by rw [List.getElem?_take, if_pos hin]; exact hol)
          rw [Nat.zero_add] at h
          have hdep : ∀ e ∈ oi.after, Region.binds .any e = true → (asAt ys e.on).holds (f e.on) W := fun e he hbi => hR e.on (hall e he hbi)
          have hnext : ∀ v W', (asAt ys i).holds v W' → Below W.heap.size W W' → (D i = true → ∃ q, v = .pointer (some ⟨q, 0, none⟩) ∧ W.heap.size ≤ q ∧ q < W'.heap.size) → wpAny P .any ops Q fuel (listed.setIfInBounds i true) ((fr f).put oi.dst v) W' := by
            intro v W' hv hE' hDv
            rw [← hfr, framedL_upd _ v ops.toList 0 i a oi hd hol, Nat.zero_add, upd_mask hin, hfr]
            refine ih (listed.setIfInBounds i true) (upd f i v) W' (by simpa using hs) ?_ (hE.trans (hE'.mono hE.size)) (fun j hj hnj => ?_) (fun j hj o ho e he hbi => ?_) (fun j hj => ?_) ?_
            · have := unl_set (l := listed) (i := i) (by simpa [Array.getD, hil] using hun)
              omega
            · have hne := getD_set_ne (listed := listed) (i := i) (j := j) true (by omega)
              rw [hne]; exact hT j hj hnj
            · by_cases e1 : j = i
              · subst e1
                rw [hoi] at ho; injection ho with ho; subst ho
                exact getD_set_true (hall e he hbi)
              · rw [getD_set_ne false (Ne.symm e1)] at hj
                exact getD_set_true (hL j hj o ho e he hbi)
            · unfold upd
              by_cases e : j = i
              · subst e; rw [if_pos rfl]; exact hv
              · rw [if_neg e]
                rw [getD_set_ne false (Ne.symm e)] at hj
                exact As.stab _ _ W W' (hR j hj) hE'
            · have old : ∀ j, j ≠ i → (listed.setIfInBounds i true).getD j false = true → listed.getD j false = true := fun j hj h => by rwa [getD_set_ne false (Ne.symm hj)] at h
              refine ⟨fun j hj hDj => ?_, fun j k hj hk hDj hDk hjk p q hp hq => ?_⟩
              · unfold upd
                by_cases e : j = i
                · subst e; rw [if_pos rfl]
                  obtain ⟨q, h1, _, h3⟩ := hDv hDj
                  exact ⟨q, h1, h3⟩
                · rw [if_neg e]
                  obtain ⟨q, h1, h2⟩ := hA.1 j (old j e hj) hDj
                  exact ⟨q, h1, Nat.lt_of_lt_of_le h2 hE'.size⟩
              · unfold upd at hp hq
                by_cases e : j = i
                · subst e
                  rw [if_pos rfl] at hp
                  rw [if_neg (Ne.symm hjk)] at hq
                  obtain ⟨p2, h1, h2, _⟩ := hDv hDj
                  obtain ⟨q2, h3, h4⟩ := hA.1 k (old k (Ne.symm hjk) hk) hDk
                  rw [hp] at h1; rw [hq] at h3
                  injection h1 with h1; injection h1 with h1; injection h1 with h1
                  injection h3 with h3; injection h3 with h3; injection h3 with h3
                  omega
                · rw [if_neg e] at hp
                  by_cases e2 : k = i
                  · subst e2
                    rw [if_pos rfl] at hq
                    obtain ⟨p2, h1, h2, _⟩ := hDv hDk
                    obtain ⟨q2, h3, h4⟩ := hA.1 j (old j e hj) hDj
                    rw [hq] at h1; rw [hp] at h3
                    injection h1 with h1; injection h1 with h1; injection h1 with h1
                    injection h3 with h3; injection h3 with h3; injection h3 with h3
                    omega
                  · rw [if_neg e2] at hq
                    exact hA.2 j k (old j e hj) (old k e2 hk) hDj hDk hjk p q hp hq
          have hwant : ∀ b, guardB ys oi = some b → Region.wanted oi (yielded ops (fr f).tmps) = b := by
            rw [← hfr]
            exact wanted_of (ys := ys) (f := maskF n (oldF ops a) f) (W := W) (fr := fun f' => framedL ops.toList 0 a f') hd hg (fun _ => rfl) hol (fun e he hbi => by
              have hlt := backB_spec ops.toList 0 hb i oi hol e he hbi
              have e1 : maskF n (oldF ops a) f e.on = f e.on := if_pos (by omega)
              rw [e1]
              exact hdep e he hbi)
          unfold wpOp
          rw [hoi]
          simp only
          unfold OweD at h
          cases hgb : guardB ys oi with
          | none => rw [hgb] at h; exact h.elim
          | some b =>
            rw [hgb] at h
            rw [hwant b hgb]
            cases b with
            | true =>
              rw [if_pos rfl]
              exact .inl (h f W hE (depAs_mk _ fun e he hbi => hdep e (by simpa using he) hbi) _ hnext)
            | false =>
              rw [if_neg (by simp)]
              exact hnext undef W (h.1 W) (Below.refl _ _) (fun e => by rw [h.2] at e; cases e)
  obtain ⟨f0, h0⟩ : ∃ f0, a = fr f0 := by
    refine ⟨oldF ops a, ?_⟩
    rw [← hfr, mask_old]
    refine (framedL_self ops.toList 0 a _ (fun i o ho => ?_)).symm
    have ho' : ops[i]? = some o := by simpa using ho
    simp [oldF, ho']
  have hk := key ops.size (Array.replicate ops.size false) f0 w.drew (by simp) (by simp [unl, List.countP_replicate]) (Below.refl _ _).drew (fun i hi _ => by simp [Array.getD, hi]) (fun i hi => by
    exfalso
    rcases Nat.lt_or_ge i ops.size with h | h
    · simp [Array.getD, h] at hi
    · simp [Array.getD, Nat.not_lt.2 h] at hi) (fun i hi => by
    exfalso
    rcases Nat.lt_or_ge i ops.size with h | h
    · simp [Array.getD, h] at hi
    · simp [Array.getD, Nat.not_lt.2 h] at hi) (by
    have no : ∀ i, ¬ (Array.replicate ops.size false).getD i false = true := fun i hi => by
      rcases Nat.lt_or_ge i ops.size with h | h
      · simp [Array.getD, h] at hi
      · simp [Array.getD, Nat.not_lt.2 h] at hi
    exact ⟨fun i hi => absurd hi (no i), fun i j hi => absurd hi (no i)⟩)
  rw [← h0] at hk
  exact hk
end
end Go.Proofs.YtlkhbfafednegaaDoor
namespace Go.Proofs.YtlkhbfafednegaaDoor
open Go Go.RowKit

/-- from the n-th on each operation waits for all ahead of it but for the x-th -/
def tailE (ops : List Oper) (n x : Nat) : Bool :=
  (List.range ops.length).all fun i => decide (i < n) || (List.range i).all fun j => decide (j = x) || reachB ops ops.length i j
theorem tailE_spec (ops : List Oper) (n x : Nat) (h : tailE ops n x = true) (S : Nat → Prop) (hS : ∀ (i : Nat) (o : Oper), S i → ops[i]? = some o → ∀ e ∈ o.after, Region.binds .any e = true → S e.on)
    (i : Nat) (o : Oper) (ho : ops[i]? = some o) (hn : n ≤ i) (hd : ∀ e ∈ o.after, Region.binds .any e = true → S e.on) (j : Nat) (hj : j < i) (hjx : j ≠ x) : S j := by
  have hi : i < ops.length := (List.getElem?_eq_some_iff.1 ho).1
  have h1 := List.all_eq_true.1 h i (by simp; omega)
  simp only [Bool.or_eq_true, decide_eq_true_eq] at h1
  rcases h1 with h1 | h1
  · omega
  · have h2 := List.all_eq_true.1 h1 j (by simp; omega)
    simp only [Bool.or_eq_true, decide_eq_true_eq] at h2
    rcases h2 with h2 | h2
    · exact absurd h2 hjx
    · exact reachB_spec ops S hS _ i j o h2 ho hd
/-- the x-th operation touches no other one but those that wait for it -/
def freeB (ops : Array Oper) (x : Nat) : Bool :=
  match ops[x]? with
  | none => false
  | some o => (List.range ops.size).all fun j => j == x || o.after.any (fun e => Region.binds .any e && e.on == j) || match ops[j]? with
    | some oj => oj.after.any (fun e => Region.binds .any e && e.on == x) || o.apart ops oj
    | none => true

/-- as Q, but that no panic is let by -/
def QN (Q : Exit → Act → World → Prop) : Exit → Act → World → Prop
  | .panic _, _, _ => False
  | e, a, w => Q e a w
theorem QN_le {Q : Exit → Act → World → Prop} (e : Exit) (a : Act) (w : World) (h : QN Q e a w) : Q e a w := by
  cases e <;> first | exact h | exact h.elim
theorem QN_normal {Q : Exit → Act → World → Prop} {a : Act} {w : World} (h : Q .normal a w) : QN Q .normal a w := h
section
variable {P : Program} {ops : Array Oper} {Q : Exit → Act → World → Prop}
theorem wpAny_tailE {n x : Nat} (hxn : x < n) (hb : backB ops.toList 0 = true) (ht : tailE ops.toList n x = true) : ∀ (fuel m : Nat) (listed : Array Bool) (a : Act) (w : World), listed.size = ops.size → n ≤ m → m + fuel = ops.size →
    (∀ i, i < ops.size → listed.getD i true = decide (i < m)) → wpList P ops Q (ops.toList.drop m) a w → wpAny P .any ops Q fuel listed a w := by
  intro fuel
  induction fuel with
  | zero =>
    intro m listed a w hs hn hm hl h
    have e : ops.toList.drop m = [] := by apply List.drop_eq_nil_of_le; simp; omega
    rw [e] at h
    refine ⟨?_, h⟩
    unfold Region.ready
    rw [List.filter_eq_nil_iff]
    intro i hi
    have hi : i < ops.size := by simpa using hi
    have := hl i hi
    rw [this]
    simp
    intro hh; omega
  | succ fuel ih =>
    intro m listed a w hs hn hm hl h
    have hmlt : m < ops.size := by omega
    have hml : m < ops.toList.length := by simpa using hmlt
    have hmo : ops[m]? = some ops[m] := Array.getElem?_eq_getElem hmlt
    have hready : ∀ i, i ∈ Region.ready .any ops listed ↔ i = m := by
      intro i
      constructor
      · intro hi
        obtain ⟨hun, oi, hoi, hall⟩ := mem_ready.1 hi
        have hilt : i < ops.size := (Array.getElem?_eq_some_iff.1 hoi).1
        have h1 := hl i hilt
        have hun2 : listed.getD i true = false := by
          have hi2 : i < listed.size := by omega
          simpa [Array.getD, hi2] using hun
        rw [hun2] at h1
        have h2 : m ≤ i := by simpa using h1.symm
        rcases Nat.eq_or_lt_of_le h2 with h3 | h3
        · exact h3.symm
        · exfalso
          have h6 := tailE_spec ops.toList n x ht (· < m) (fun k ok hk hok e he hbi => by have := backB_spec ops.toList 0 hb k ok hok e he hbi; omega) i oi (by simpa using hoi) (by omega) (fun e he hbi => by
            have h7 := hall e he hbi
            have h8 : e.on < ops.size := by have := backB_spec ops.toList 0 hb i oi (by simpa using hoi) e he hbi; omega
            have h9 := hl e.on h8
            have hm2 : e.on < listed.size := by omega
            simp [Array.getD, hm2] at h7 h9
            rw [h7] at h9
            simpa using h9) m h3
          exact absurd h6 (by omega)
      · rintro rfl
        refine mem_ready.2 ⟨?_, _, hmo, ?_⟩
        · have h1 := hl i hmlt
          have hi2 : i < listed.size := by omega
          simpa [Array.getD, hi2] using h1
        · intro e he hbi
          have hlt := backB_spec ops.toList 0 hb i ops[i] (by simp [hmlt]) e he hbi
          have h1 := hl e.on (by omega)
          have hi2 : e.on < listed.size := by omega
          have : e.on < i := by omega
          simpa [Array.getD, hi2, this] using h1
    refine ⟨fun h0 => ?_, fun i hi => ?_⟩
    · exfalso
      have := (hready m).2 rfl
      rw [h0] at this; cases this
    · obtain rfl := (hready i).1 hi
      have hd : ops.toList.drop i = ops[i] :: ops.toList.drop (i + 1) := by
        rw [List.drop_eq_getElem_cons hml]; simp
      rw [hd] at h
      have hnext : ∀ a' w', wpList P ops Q (ops.toList.drop (i + 1)) a' w' → wpAny P .any ops Q fuel (listed.setIfInBounds i true) a' w' := by
        intro a' w' h'
        refine ih (i + 1) _ a' w' (by simpa using hs) (by omega) (by omega) (fun j hj => ?_) h'
        by_cases e : j = i
        · subst e
          have hj2 : j < listed.size := by omega
          simp [Array.getD, hj2]
        · have hne := getD_set_ne (listed := listed) true (Ne.symm e)
          rw [hne, hl j hj]
          have : (j < i) = (j < i + 1) := by apply propext; omega
          simp [this]
      unfold wpOp
      rw [hmo]
      simp only
      unfold wpList at h
      split
      · rename_i hw
        rw [if_pos hw] at h
        rcases h with h | h
        · exact .inl (Oper.wp_mono (fun a' w' h' => hnext a' w' h') h)
        · exact .inr h
      · rename_i hw
        rw [if_neg hw] at h
        exact hnext _ _ h

theorem any_region_tail4 {G : Prop} {a : Act} {w : World} (hG : wpAny P .any ops Q ops.size (Array.replicate ops.size false) a w.drew → G) (n : Nat) (ys : List As) (D : Nat → Bool) (hd : apartB ops.toList = true) (hb : backB ops.toList 0 = true) (hg : guardsB a.tmps.size ops.toList = true) (hn : ys.length = n) (hns : n ≤ ops.size) (x : Nat) (ox : Oper) (vx : Value) (hox : ops[x]? = some ox) (hxn : x < n) (hgx : ox.guard = none) (hns2 : Region.noSelect ops = true) (hfx : freeB ops x = true) (hyx : asAt ys x = .eq vx) (hDx : D x = false) (ht : tailE ops.toList n x = true)
    (fr : (Nat → Value) → Act) (hfr : ∀ f, framedL ops.toList 0 a (maskF n (oldF ops a) f) = fr f)
    (hQ : ∀ c a w v, Q (.panic c) (a.put ox.dst v) w → Q (.panic c) a w)
    (hpx : ∀ (f : Nat → Value) (W : World), DepAs ys f W ox.after.toList → ∀ V : World, (execOp (fr f).eval ox).run P V = .ok (.value vx) V)
    (hstep : StepsD P Q fr ys D w 0 (ops.toList.take n))
    (hend : ∀ (f : Nat → Value) (W : World), Below w.heap.size w W → AllAs f W ys 0 → Apart D (fun i => i < n) f W → wpList P ops Q (ops.toList.drop n) (fr f) W) : G := by
  refine hG ?_
  have key : ∀ (fuel : Nat) (listed : Array Bool) (f : Nat → Value) (W : World), listed.size = ops.size → unl listed = fuel → Below w.heap.size w W → (∀ i, i < ops.size → n ≤ i → listed.getD i true = false) → (∀ i, listed.getD i false = true → ∀ o, ops[i]? = some o → ∀ e ∈ o.after, Region.binds .any e = true → listed.getD e.on false = true) → (∀ i, listed.getD i false = true → (asAt ys i).holds (f i) W) → Apart D (fun i => listed.getD i false = true) f W →
      wpAny P .any ops Q fuel listed (fr f) W := by
    intro fuel
    induction fuel with
    | zero =>
      intro listed f W hs hu hE hT hL hR hA
      have hall : ∀ i, i < ops.size → listed.getD i true = true := by
        intro i hi
        unfold unl at hu
        rw [List.countP_eq_zero] at hu
        have hi2 : i < listed.size := by omega
        have := hu listed[i] (by simp)
        simpa [Array.getD, hi2] using this
      have hnn : n = ops.size := by
        rcases Nat.lt_or_ge n ops.size with h | h
        · have h1 := hT n h (Nat.le_refl _); rw [hall n h] at h1; cases h1
        · omega
      refine wpAny_tailE hxn hb ht 0 n listed (fr f) W hs (Nat.le_refl _) (by omega) (fun i hi => by rw [hall i hi]; simp; omega) (hend f W hE (allAs_mk ys 0 fun i hi => ?_) ?_)
      · rw [Nat.zero_add]
        refine hR i ?_
        have hi2 : i < listed.size := by omega
        have := hall i (by omega)
        simpa [Array.getD, hi2] using this
      · have hli : ∀ i, i < n → listed.getD i false = true := fun i hi => by
          have hi2 : i < listed.size := by omega
          have := hall i (by omega)
          simpa [Array.getD, hi2] using this
        exact ⟨fun i hi => hA.1 i (hli i hi), fun i j hi hj => hA.2 i j (hli i hi) (hli j hj)⟩
    | succ fuel ih =>
      intro listed f W hs hu hE hT hL hR hA
      have next : ∀ (i : Nat) (oi : Oper), ops[i]? = some oi → i < n → i < listed.size → listed.getD i true = false → (∀ e ∈ oi.after, Region.binds .any e = true → listed.getD e.on false = true) → ∀ v W', (asAt ys i).holds v W' → Below W.heap.size W W' → (D i = true → ∃ q, v = .pointer (some ⟨q, 0, none⟩) ∧ W.heap.size ≤ q ∧ q < W'.heap.size) → wpAny P .any ops Q fuel (listed.setIfInBounds i true) ((fr f).put oi.dst v) W' := by
        intro i oi hoi hin hil hun hall v W' hv hE' hDv
        have hol : ops.toList[i]? = some oi := by simpa using hoi
        rw [← hfr, framedL_upd _ v ops.toList 0 i a oi hd hol, Nat.zero_add, upd_mask hin, hfr]
        refine ih (listed.setIfInBounds i true) (upd f i v) W' (by simpa using hs) ?_ (hE.trans (hE'.mono hE.size)) (fun j hj hnj => ?_) (fun j hj o ho e he hbi => ?_) (fun j hj => ?_) ?_
        · have := unl_set (l := listed) (i := i) (by simpa [Array.getD, hil] using hun)
          omega
        · have hne := getD_set_ne (listed := listed) (i := i) (j := j) true (by omega)
          rw [hne]; exact hT j hj hnj
        · by_cases e1 : j = i
          · subst e1
            rw [hoi] at ho; injection ho with ho; subst ho
            exact getD_set_true (hall e he hbi)
          · rw [getD_set_ne false (Ne.symm e1)] at hj
            exact getD_set_true (hL j hj o ho e he hbi)
        · unfold upd
          by_cases e : j = i
          · subst e; rw [if_pos rfl]; exact hv
          · rw [if_neg e]
            rw [getD_set_ne false (Ne.symm e)] at hj
            exact As.stab _ _ W W' (hR j hj) hE'
        · have old : ∀ j, j ≠ i → (listed.setIfInBounds i true).getD j false = true → listed.getD j false = true := fun j hj h => by rwa [getD_set_ne false (Ne.symm hj)] at h
          refine ⟨fun j hj hDj => ?_, fun j k hj hk hDj hDk hjk p q hp hq => ?_⟩
          · unfold upd
            by_cases e : j = i
            · subst e; rw [if_pos rfl]
              obtain ⟨q, h1, _, h3⟩ := hDv hDj
              exact ⟨q, h1, h3⟩
            · rw [if_neg e]
              obtain ⟨q, h1, h2⟩ := hA.1 j (old j e hj) hDj
              exact ⟨q, h1, Nat.lt_of_lt_of_le h2 hE'.size⟩
          · unfold upd at hp hq
            by_cases e : j = i
            · subst e
              rw [if_pos rfl] at hp
              rw [if_neg (Ne.symm hjk)] at hq
              obtain ⟨p2, h1, h2, _⟩ := hDv hDj
              obtain ⟨q2, h3, h4⟩ := hA.1 k (old k (Ne.symm hjk) hk) hDk
              rw [hp] at h1; rw [hq] at h3
              injection h1 with h1; injection h1 with h1; injection h1 with h1
              injection h3 with h3; injection h3 with h3; injection h3 with h3
              omega
            · rw [if_neg e] at hp
              by_cases e2 : k = i
              · subst e2
                rw [if_pos rfl] at hq
                obtain ⟨p2, h1, h2, _⟩ := hDv hDk
                obtain ⟨q2, h3, h4⟩ := hA.1 j (old j e hj) hDj
                rw [hq] at h1; rw [hp] at h3
                injection h1 with h1; injection h1 with h1; injection h1 with h1
                injection h3 with h3; injection h3 with h3; injection h3 with h3
                omega
              · rw [if_neg e2] at hq
                exact hA.2 j k (old j e hj) (old k e2 hk) hDj hDk hjk p q hp hq
      have hxs : x < listed.size := by omega
      by_cases hrx : listed.getD x true = false ∧ ∀ e ∈ ox.after, Region.binds .any e = true → listed.getD e.on false = true
      · have hdx : DepAs ys f W ox.after.toList := depAs_mk _ fun e he hbi => hR e.on (hrx.2 e (by simpa using he) hbi)
        refine wpAny_first hox (Region.noSelect_spec hns2) (fun c a w h => hQ c a w vx h) fuel listed (fr f) W (fun j oj hoj hjx hun hno => ?_) (mem_ready.2 ⟨by simpa [Array.getD, hxs] using hrx.1, ox, hox, hrx.2⟩) (.inl ⟨by simp [Region.wanted, hgx], hpx f W hdx⟩) (next x ox hox hxn hxs hrx.1 hrx.2 vx W (by rw [hyx]; rfl) (Below.refl _ _) (fun h => by rw [hDx] at h; cases h))
        unfold freeB at hfx
        rw [hox] at hfx
        have h1 := List.all_eq_true.1 hfx j (by have := (Array.getElem?_eq_some_iff.1 hoj).1; simp; omega)
        rw [hoj] at h1
        simp only [Bool.or_eq_true, beq_iff_eq] at h1
        rcases h1 with (h1 | h1) | h1 | h1
        · exact absurd h1 hjx
        · obtain ⟨e, he, h2⟩ := Array.any_eq_true'.1 h1
          simp only [Bool.and_eq_true, beq_iff_eq] at h2
          have h3 := hrx.2 e he h2.1
          rw [h2.2] at h3
          have hj2 : j < listed.size := by have := (Array.getElem?_eq_some_iff.1 hoj).1; omega
          simp [Array.getD, hj2] at hun h3
          rw [hun] at h3; cases h3
        · obtain ⟨e, he, h2⟩ := Array.any_eq_true'.1 h1
          simp only [Bool.and_eq_true, beq_iff_eq] at h2
          exact absurd h2.2 (hno e he h2.1)
        · exact h1
      by_cases hfull : ∀ i, i < n → listed.getD i true = true
      · have hl : ∀ i, i < ops.size → listed.getD i true = decide (i < n) := by
          intro i hi
          by_cases h : i < n
          · rw [hfull i h]; simp [h]
          · rw [hT i hi (by omega)]; simp [h]
        have hcnt : unl listed = ops.size - n := by
          have e : listed = (List.replicate n true ++ List.replicate (ops.size - n) false).toArray := by
            apply Array.ext
            · simp; omega
            · intro i h1 h2
              have := hl i (by omega)
              simp [Array.getD, h1] at this
              rw [this]
              simp [List.getElem_append]
          rw [e]
          simp [unl, List.countP_replicate]
        refine wpAny_tailE hxn hb ht (fuel + 1) n listed (fr f) W hs (Nat.le_refl _) (by omega) hl (hend f W hE (allAs_mk ys 0 fun i hi => ?_) ?_)
        · rw [Nat.zero_add]
          refine hR i ?_
          have hi2 : i < listed.size := by omega
          have := hfull i (by omega)
          simpa [Array.getD, hi2] using this
        · have hli : ∀ i, i < n → listed.getD i false = true := fun i hi => by
            have hi2 : i < listed.size := by omega
            have := hfull i (by omega)
            simpa [Array.getD, hi2] using this
          exact ⟨fun i hi => hA.1 i (hli i hi), fun i j hi hj => hA.2 i j (hli i hi) (hli j hj)⟩
      · have hex : ∃ i, i < n ∧ listed.getD i true = false := by
          refine Classical.byContradiction fun h => hfull fun i hi => ?_
          cases hv : listed.getD i true with
          | true => rfl
          | false => exact absurd ⟨i, hi, hv⟩ h
        refine ⟨fun h0 => ?_, fun i hi => ?_⟩
        · exfalso
          have hmin : ∀ m i, i < m → i < n → listed.getD i true = false → False := by
            intro m
            induction m with
            | zero => intro i h; omega
            | succ m ihm =>
              intro i _ hi hl
              have his : i < ops.size := by omega
              have hnr : i ∉ Region.ready .any ops listed := by rw [h0]; simp
              apply hnr
              refine mem_ready.2 ⟨?_, ops[i], Array.getElem?_eq_getElem his, ?_⟩
              · have hi2 : i < listed.size := by omega
                simpa [Array.getD, hi2] using hl
              · intro e he hbi
                have hlt := backB_spec ops.toList 0 hb i ops[i] (by simp [his]) e he hbi
                cases hv : listed.getD e.on false with
                | true => rfl
                | false =>
                  exfalso
                  refine ihm e.on (by omega) (by omega) ?_
                  have hi2 : e.on < listed.size := by omega
                  simpa [Array.getD, hi2] using hv
          obtain ⟨i, hi, hl⟩ := hex
          exact hmin (i + 1) i (by omega) hi hl
        · obtain ⟨hun, oi, hoi, hall⟩ := mem_ready.1 hi
          have hilt : i < ops.size := (Array.getElem?_eq_some_iff.1 hoi).1
          have hil : i < listed.size := by omega
          have hin : i < n := by
            rcases Nat.lt_or_ge i n with h | h
            · exact h
            · exfalso
              obtain ⟨j, hj, hjl⟩ := hex
              have hS : ∀ j, j < i → j ≠ x → listed.getD j false = true := fun j hj hjx => tailE_spec ops.toList n x ht (fun k => listed.getD k false = true) (fun k ok hk hok e he hbi => hL k hk ok (by simpa using hok) e he hbi) i oi (by simpa using hoi) h hall j hj hjx
              by_cases hjx : j = x
              · subst hjx
                refine hrx ⟨hjl, fun e he hbi => hS e.on ?_ ?_⟩
                · have := backB_spec ops.toList 0 hb j ox (by simpa using hox) e he hbi; omega
                · have := backB_spec ops.toList 0 hb j ox (by simpa using hox) e he hbi; omega
              · have h6 := hS j (by omega) hjx
                have hj2 : j < listed.size := by omega
                simp [Array.getD, hj2] at h6 hjl
                rw [h6] at hjl; cases hjl
          have hol : ops.toList[i]? = some oi := by simpa using hoi
          have h := stepsD_get (ops.toList.take n) 0 hstep i oi (by rw [List.getElem?_take, if_pos hin]; exact hol)
          rw [Nat.zero_add] at h
          have hdep : ∀ e ∈ oi.after, Region.binds .any e = true → (asAt ys e.on).holds (f e.on) W := fun e he hbi => hR e.on (hall e he hbi)
          have hun' : listed.getD i true = false := by simpa [Array.getD, hil] using hun
          have hnext := next i oi hoi hin hil hun' hall
          have hwant : ∀ b, guardB ys oi = some b → Region.wanted oi (yielded ops (fr f).tmps) = b := by
            rw [← hfr]
            exact wanted_of (ys := ys) (f := maskF n (oldF ops a) f) (W := W) (fr := fun f' => framedL ops.toList 0 a f') hd hg (fun _ => rfl) hol (fun e he hbi => by
              have hlt := backB_spec ops.toList 0 hb i oi hol e he hbi
              have e1 : maskF n (oldF ops a) f e.on = f e.on := if_pos (by omega)
              rw [e1]
              exact hdep e he hbi)
          unfold wpOp
          rw [hoi]
          simp only
          unfold OweD at h
          cases hgb : guardB ys oi with
          | none => rw [hgb] at h; exact h.elim
          | some b =>
            rw [hgb] at h
            rw [hwant b hgb]
            cases b with
            | true =>
              rw [if_pos rfl]
              exact .inl (h f W hE (depAs_mk _ fun e he hbi => hdep e (by simpa using he) hbi) _ hnext)
            | false =>
              rw [if_neg (by simp)]
              exact hnext undef W (h.1 W) (Below.refl _ _) (fun e => by rw [h.2] at e; cases e)
  obtain ⟨f0, h0⟩ : ∃ f0, a = fr f0 := by
    refine ⟨oldF ops a, ?_⟩
    rw [← hfr, mask_old]
    refine (framedL_self ops.toList 0 a _ (fun i o ho => ?_)).symm
    have ho' : ops[i]? = some o := by simpa using ho
    simp [oldF, ho']
  have hk := key ops.size (Array.replicate ops.size false) f0 w.drew (by simp) (by simp [unl, List.countP_replicate]) (Below.refl _ _).drew (fun i hi _ => by simp [Array.getD, hi]) (fun i hi => by
    exfalso
    rcases Nat.lt_or_ge i ops.size with h | h
    · simp [Array.getD, h] at hi
    · simp [Array.getD, Nat.not_lt.2 h] at hi) (fun i hi => by
    exfalso
    rcases Nat.lt_or_ge i ops.size with h | h
    · simp [Array.getD, h] at hi
    · simp [Array.getD, Nat.not_lt.2 h] at hi) (by
    have no : ∀ i, ¬ (Array.replicate ops.size false).getD i false = true := fun i hi => by
      rcases Nat.lt_or_ge i ops.size with h | h
      · simp [Array.getD, h] at hi
      · simp [Array.getD, Nat.not_lt.2 h] at hi
    exact ⟨fun i hi => absurd hi (no i), fun i j hi => absurd hi (no i)⟩)
  rw [← h0] at hk
  exact hk
end
end Go.Proofs.YtlkhbfafednegaaDoor
namespace Go.Proofs.YtlkhbfafednegaaDoor
open Go Go.RowKit

theorem HB.range {w : World} {b o n c : Nat} {l : List UInt8} (h : HB w (.slice (some ⟨b, o, none⟩) n c) l) : w.rangeAt b o (l.map bcv) := by
  intro j v hv
  rw [List.getElem?_map] at hv
  obtain ⟨x, hx, rfl⟩ := Option.map_eq_some_iff.1 hv
  obtain ⟨b2, o2, e, hc⟩ := h.at_ hx
  injection e with e
  injection e with e1 e2
  subst e1; subst e2
  exact hc
@[go_sem] theorem run_arrayAt {P : Program} {t e : TypeId} {m : Nat} (ht : P.underlying t = some (.array m e)) (a : Addr) (n c : Nat) (h : ¬ n < m) (w : World) : (Instr.arrayAt t (.slice (some a) n c)).run P w = .ok (.pointer (some a)) w := by
  simp [Instr.arrayAt, run_underlying ht, h]
section
variable {P : Program} {Q : Exit → Act → World → Prop} {fr : (Nat → Value) → Act} {ys : List As} {w : World} {k : Nat} {op : Oper}
theorem oweAs_load_mid (ty : TypeId) (x : Operand) (ho : op.op = .load ty x) (l : List UInt8) (hg : guardB ys op = some true) (hv : asAt ys k = .eq (.agg (bvs l))) {d : TypeDesc}
    (hu : P.underlying ty = some d) (hd : d.isRow = true) (hi : (P.info? ty).map (·.size) = some l.length)
    (h : ∀ (f : Nat → Value) (W : World), Below w.heap.size w W → DepAs ys f W op.after.toList → ∃ b q, (fr f).eval x = .pointer (some ⟨b, q, none⟩) ∧ W.rangeAt b q (l.map bcv)) : OweAs P Q fr ys w k op := by
  unfold OweAs
  rw [hg]
  intro f W hE hdep K hK
  obtain ⟨b, q, hx, hr⟩ := h f W hE hdep
  exact wp_load_mid ty x ho b q hx (l.map bcv) d hr hu hd (by rw [List.length_map]; exact hi) (hK _ W (by rw [hv]; rfl) (Below.refl _ _))
end
end Go.Proofs.YtlkhbfafednegaaDoor
namespace Go.Proofs.YtlkhbfafednegaaDoor
open Go Go.RowKit

/-- no operation defers -/
def noDefer (l : List Oper) : Bool := l.all fun o => match o.op with | .defer _ => false | _ => true
section
variable {P : Program} {ops : Array Oper} {Q : Exit → Act → World → Prop} {a : Act} {w : World} {r n : Nat}
theorem oper_round {o : Oper} {K : Act → World → Prop} (hd : (match o.op with | .defer _ => false | _ => true) = true) (h : o.wp P a w K Q) : o.wpIn (Fence.wide.inRound r) n P a w K Q := by
  refine ⟨fun _ _ => trivial, ?_⟩
  rw [show (Fence.wide.inRound r).round = some r from rfl, Oper.semAt_some r a.eval o (fun c hc => by rw [hc] at hd; cases hd)]
  unfold Oper.wp at h
  generalize (execOp a.eval o).run P w = x at *
  have hdep : (Fence.wide.inRound r).depth.isSome = true → 1 ≤ n := fun h => by cases h
  cases x with
  | ok nx w' =>
    cases nx <;> simp only [Oper.upon, Oper.uponIn] at h ⊢ <;>
      first
        | exact h
        | exact ⟨hdep, CallsIn.inRound r (callsIn_wide.2 h)⟩
        | exact ⟨hdep, fun c cs _ => let ⟨v, w', r, s⟩ := h c cs; ⟨v, w', r, stepsIn_wide.2 s⟩⟩
        | exact h.elim
  | halt x w' => cases x <;> simp only [Oper.upon, Oper.uponIn] at h ⊢ <;> first | exact h | exact h.elim
theorem wpListIn_round (hlo : ¬ LetsOut Q) : ∀ (l : List Oper) (a : Act) (w : World), noDefer l = true → wpList P ops Q l a w → wpListIn (Fence.wide.inRound r) n P ops Q l a w := by
  intro l
  induction l with
  | nil => intro a w _ h; exact h
  | cons o l ih =>
    intro a w hn h
    simp only [noDefer, List.all_cons, Bool.and_eq_true] at hn
    unfold wpList at h
    unfold wpListIn
    split
    · rename_i hw
      rw [if_pos hw] at h
      rcases h with h | h
      · exact Oper.wpIn_mono (fun a w h => ih a w hn.2 h) (oper_round hn.1 h)
      · exact absurd h.2 hlo
    · rename_i hw
      rw [if_neg hw] at h
      exact ⟨fun _ _ => trivial, ih _ _ hn.2 h⟩
/-- a plain region in a round -/
theorem wpIn_round {id : Nat} {l : List Oper} (hlo : ¬ LetsOut Q) (hn : noDefer l = true) (h : wpList P l.toArray Q l a w) : (Code.region id l.toArray false).wpIn (Fence.wide.inRound r) n P Q a w :=
  wpIn_region_lit (wpListIn_round hlo l a w hn h)
theorem wpAnyIn_round (hlo : ¬ LetsOut Q) (hn : noDefer ops.toList = true) : ∀ (fuel : Nat) (listed : Array Bool) (a : Act) (w : World), wpAny P .any ops Q fuel listed a w → wpAnyIn (Fence.wide.inRound r) n P .any ops Q fuel listed a w := by
  intro fuel
  induction fuel with
  | zero => intro listed a w h; exact h
  | succ fuel ih =>
    intro listed a w h
    refine ⟨h.1, fun i hi => ?_⟩
    have h2 := h.2 i hi
    unfold wpOp at h2
    unfold wpOpIn
    cases ho : ops[i]? with
    | none => rw [ho] at h2; exact ih _ _ _ h2
    | some o =>
      rw [ho] at h2
      simp only at h2 ⊢
      split
      · rename_i hw
        rw [if_pos hw] at h2
        rcases h2 with h2 | h2
        · refine Oper.wpIn_mono (fun a w h => ih _ a w h) (oper_round ?_ h2)
          exact (List.all_eq_true.1 hn) o (List.mem_of_getElem? (i := i) (by simpa using ho))
        · exact absurd h2.2 hlo
      · rename_i hw
        rw [if_neg hw] at h2
        exact ⟨fun _ _ => trivial, ih _ _ _ h2⟩
/-- a region in a round that draws its order -/
theorem wpIn_round_any {id : Nat} (hm : P.follows .mixedOrders = true) (hlo : ¬ LetsOut Q) (hn : noDefer ops.toList = true) (h : wpAny P .any ops Q ops.size (Array.replicate ops.size false) a w.drew) : (Code.region id ops true).wpIn (Fence.wide.inRound r) n P Q a w :=
  wpIn_region_any hm (wpAnyIn_round hlo hn _ _ _ _ h)
end

/-- the cells of two blocks stay -/
def KeepC (B n : Nat) (w w' : World) : Prop := ∀ b o u, B ≤ b → b < B + n → w.cell? ⟨b, o, none⟩ = some u → w'.cell? ⟨b, o, none⟩ = some u
theorem KeepC.trans {B n : Nat} {x y z : World} (h : KeepC B n x y) (k : KeepC B n y z) : KeepC B n x z := fun b o u h1 h2 h3 => k b o u h1 h2 (h b o u h1 h2 h3)
theorem KeepC.refl (B n : Nat) (w : World) : KeepC B n w w := fun _ _ _ _ _ h => h
theorem KeepC.put {B n : Nat} {W : World} {l : Nat} (o' : Obj) (h : B + n ≤ l) : KeepC B n W (W.putObj l o') := fun b o u _ h2 h3 => by
  rw [World.cell?_of_block (a := ⟨b, o, none⟩) (World.putObj_heap_other (show b ≠ l by omega))]; exact h3
theorem KeepC.below {B n m : Nat} {w w' : World} (h : Below m w w') (hm : B + n ≤ m) : KeepC B n w w' := fun b o u _ h2 h3 => (h.cell (p := ⟨b, o, none⟩) (by show b < m; omega)).trans h3
end Go.Proofs.YtlkhbfafednegaaDoor
namespace Go.Proofs.YtlkhbfafednegaaDoor
open Go Go.RowKit Go.Shelf
set_option linter.unusedSimpArgs false
set_option linter.unusedVariables false

/-- what holds no cells, from block B on, lies as it lay -/
def KeepN (B : Nat) (W W' : World) : Prop := ∀ (b : Nat) (o : Obj), B ≤ b → W.heap[b]? = some o → o.isCells = false → W'.heap[b]? = some o
theorem KeepN.refl (B : Nat) (W : World) : KeepN B W W := fun _ _ _ h _ => h
theorem KeepN.trans {B : Nat} {x y z : World} (h : KeepN B x y) (k : KeepN B y z) : KeepN B x z := fun b o hb h1 h2 => k b o hb (h b o hb h1 h2) h2
theorem KeepN.below {B : Nat} {x y : World} (h : Below x.heap.size x y) : KeepN B x y := fun b o _ h1 _ => (h.block b (Array.getElem?_eq_some_iff.1 h1).1).trans h1
theorem KeepN.grown {B g : Nat} {x y : World} {t : TypeId} {cs : Array Value} (h : x.grownBy y (some g)) (hg : Blk x g t cs) : KeepN B x y := fun b o _ h1 h2 => by
  rw [h.block b (Array.getElem?_eq_some_iff.1 h1).1 (fun e => ?_)]
  · exact h1
  · injection e with e
    subst e
    have e2 : x.heap[b]? = some (.cells cs t (0, 0)) := hg
    rw [e2] at h1; injection h1 with h1; subst h1; cases h2
theorem KeepN.store {B g i : Nat} {x : World} {t : TypeId} {cs : Array Value} (hg : Blk x g t cs) (u : Value) : KeepN B x (x.setCell ⟨g, i, none⟩ u) :=
  KeepN.grown (Only.store (World.grownBy.refl x (some g)) (.inl rfl) u) hg

/-- the loop's own turns: a block from B on that holds no cells -/
def Turns (B : Nat) (W W' : World) : Prop := ∃ l o o', B ≤ l ∧ W.heap[l]? = some o ∧ o.isCells = false ∧ W' = W.putObj l o'
theorem Turns.below {B n : Nat} {w W W' : World} (h : Below n w W) (ht : Turns B W W') (hn : n ≤ B) : Below n w W' := by
  obtain ⟨l, o, o', hl, ho, hc, rfl⟩ := ht
  exact h.trans ((Below.refl n W).grown (grownBy_putObj' W l o') (by have := (Array.getElem?_eq_some_iff.1 ho).1; omega) (fun k e => by injection e with e; subst e; omega))
theorem Turns.blk {B g : Nat} {W W' : World} {t : TypeId} {cs : Array Value} (h : Blk W g t cs) (ht : Turns B W W') : Blk W' g t cs := by
  obtain ⟨l, o, o', hl, ho, hc, rfl⟩ := ht
  have e : g ≠ l := fun e => by
    have e2 : W.heap[g]? = some (.cells cs t (0, 0)) := h
    rw [e, ho] at e2; injection e2 with e2; rw [e2] at hc; cases hc
  exact (World.putObj_heap_other e).trans h
theorem Turns.size {B : Nat} {W W' : World} (ht : Turns B W W') : W'.heap.size = W.heap.size := by
  obtain ⟨l, o, o', hl, ho, hc, rfl⟩ := ht
  simp
theorem Turns.grown {B : Nat} {W W' : World} (ht : Turns B W W') : ∃ l, B ≤ l ∧ W.grownBy W' (some l) ∧ ∀ cs t fr, W.heap[l]? ≠ some (.cells cs t fr) := by
  obtain ⟨l, o, o', hl, ho, hc, rfl⟩ := ht
  exact ⟨l, hl, grownBy_putObj' W l o', fun cs t fr e => by rw [ho] at e; injection e with e; rw [e] at hc; cases hc⟩
theorem Turns.own {B base n size : Nat} {W W' : World} {e : TypeId} {v : Value} {xs : List Value} (h : W.ownsRow base e size v n xs) (ht : Turns B W W') : W'.ownsRow base e size v n xs := by
  obtain ⟨l, o, o', hl, ho, hc, rfl⟩ := ht
  obtain ⟨h1, h2⟩ := h
  refine ⟨h1, ?_⟩
  rcases h2 with h2 | ⟨g, cap, cur, hv, hbg, hg, h3⟩
  · exact .inl h2
  · refine .inr ⟨g, cap, cur, hv, hbg, (World.putObj_heap_other (fun e => ?_)).trans hg, h3⟩
    rw [e, ho] at hg; injection hg with hg; rw [hg] at hc; cases hc
theorem Turns.cell {B : Nat} {W W' : World} {a : Addr} {u : Value} (h : W.cell? a = some u) (ht : Turns B W W') (hcl : ∃ cs t fr, W.heap[a.block]? = some (.cells cs t fr)) : W'.cell? a = some u := by
  obtain ⟨l, hl, hg, hne⟩ := ht.grown
  obtain ⟨cs, t, fr, hc⟩ := hcl
  rw [World.cell?_of_block (hg.block a.block (Array.getElem?_eq_some_iff.1 hc).1 (fun e => by injection e with e; rw [e] at hc; exact hne _ _ _ hc))]
  exact h

/-- An iterator that tells N items: the k-th is enc k. Kp: what a round keeps for it; Ks: what it does itself between two rounds. -/
def SeqN (P : Program) (g : Nat) (lb : Array Value) (enc : Nat → Array Value) (Kp Ks : World → World → Prop) (N : Nat) (w : World) : Prop :=
  ∀ (l n : Nat) (J : Nat → World → Prop) (Jx : World → Prop) (W : World), Below w.heap.size w W → (∀ k A B, J k A → Ks A B → J k B) →
    (∀ k A, k < N → J k A → YieldAt Fence.wide n P l (enc k) A fun e B => (e = .returned (.bool true) ∧ J (k + 1) B ∧ Kp A B) ∨ (e = .returned (.bool false) ∧ Jx B)) →
    J 0 W → CallsIn Fence.wide (n + 1) P g (#[.func (.yield l) #[] #[]] ++ lb) W fun e B => (∃ v, e = .returned v) ∧ (J N B ∨ Jx B)

/-- how a round's body may be left -/
def postN (B : Nat) (Kp : World → World → Prop) (I : World → Prop) (Ix : Code → World → Prop) (W : World) : Exit → Act → World → Prop
  | .normal, _, V => KeepN B W V ∧ Kp W V ∧ I V
  | .ret, _, V => KeepN B W V ∧ Ix .ret V
  | .exit id, _, V => KeepN B W V ∧ Ix (.exit id) V
  | .goto t, _, V => KeepN B W V ∧ Ix (.goto t) V
  | .panic _, _, _ => False
  | .outgrown, _, _ => False
theorem postN_lets {B : Nat} {Kp : World → World → Prop} {I : World → Prop} {Ix : Code → World → Prop} {W : World} : ¬ LetsOut (postN B Kp I Ix W) := by
  rintro ⟨a, w, h⟩; exact h

section
variable {P : Program}
theorem wpIn_range_n {n : Nat} {g : Operand} {ps : Array Tmp} {assign body : Code} {Q : Exit → Act → World → Prop} {a : Act} {w : World}
    {gf : Nat} {lb : Array Value} (hg : a.eval g = .func (.func gf) #[] lb) (hgf : Enters P gf)
    {enc : Nat → Array Value} {Kp Ks : World → World → Prop} {N : Nat} {w0 : World} (hseq : SeqN P gf lb enc Kp Ks N w0) (hb0 : Below w0.heap.size w0 w) (hps : ∀ k, (enc k).size = ps.size)
    (hKt : ∀ A B C, Kp A B → Kp B C → Kp A C) (hKp : ∀ A B, Turns w.heap.size A B → Kp A B) (hKs : ∀ A B, Ks A B → KeepN w.heap.size A B)
    (I : Nat → World → Prop) (Ix : Code → World → Prop) (hI : ∀ k A B, I k A → Turns w.heap.size A B → I k B) (hIx : ∀ c A B, Ix c A → Turns w.heap.size A B → Ix c B)
    (hIs : ∀ k A B, I k A → Ks A B → I k B) (h0 : ∀ o1 o2, I 0 ((w.alloc o1).alloc o2)) (a₁ : Nat → Act)
    (hassign : ∀ (l k : Nat) (W : World) (K : Act → World → Prop), K (a₁ k) W → assign.wpIn (Fence.wide.inRound l) n P (Exit.then K (fun _ _ _ => False)) { tmps := (ps.zip (enc k)).foldl (fun t (p, v) => t.setIfInBounds p v) a.tmps, defers := [] } W)
    (hbody : ∀ (l k : Nat) (W : World), k < N → I k W → w.heap.size + 2 ≤ W.heap.size → body.wpIn (Fence.wide.inRound l) n P (postN w.heap.size Kp (I (k + 1)) Ix W) (a₁ k) W)
    (hdone : ∀ (D : Nat) (W : World), w.heap.size ≤ D → I N W → W.heap[D]? = some (.deferred (some [])) → Q .normal { a with defers := { target := .collected D, args := #[] } :: a.defers } W)
    (hstop : ∀ (D : Nat) (c : Code) (W : World), w.heap.size ≤ D → Ix c W → W.heap[D]? = some (.deferred (some [])) → c.wpIn Fence.wide (n + 2) P Q { a with defers := { target := .collected D, args := #[] } :: a.defers } W) :
    (Code.rangeFunc g ps assign body).wpIn Fence.wide (n + 2) P Q a w := by
  refine wpIn_rangeFunc fun fn _ => ?_
  let mk : LoopState → Option Code → Obj := fun st pe => .loop { state := st, pending := pe, fn, tmps := a.tmps, params := ps, assign, body, defers := w.heap.size }
  obtain ⟨V, hV⟩ : ∃ V, V = (w.alloc (.deferred (some []))).alloc (mk .ready none) := ⟨_, rfl⟩
  have hVl : V.heap[w.heap.size + 1]? = some (mk .ready none) := by
    have h := World.alloc_heap_new (w.alloc (.deferred (some []))) (mk .ready none)
    rw [World.size_alloc] at h
    rw [hV]; exact h
  have hVd : V.heap[w.heap.size]? = some (.deferred (some [])) := by
    rw [hV]; exact (Below.heap_alloc _ _ _ (by simp)).trans (World.alloc_heap_new w _)
  have hVb : Below w0.heap.size w0 V := by
    rw [hV]; exact hb0.trans ((((Below.refl _ w).alloc (Nat.le_refl _) _).alloc (by simp) _).mono hb0.size)
  have nc : ∀ st pe, (mk st pe).isCells = false := fun _ _ => rfl
  have turn : ∀ {A : World} {st : LoopState} {pe : Option Code} (o' : Obj), A.heap[w.heap.size + 1]? = some (mk st pe) → Turns w.heap.size A (A.putObj (w.heap.size + 1) o') :=
    fun o' h => ⟨_, _, o', by omega, h, nc _ _, rfl⟩
  have keep : ∀ {A : World} {st : LoopState} {pe : Option Code} (o' : Obj), A.heap[w.heap.size + 1]? = some (mk st pe) → A.heap[w.heap.size]? = some (.deferred (some [])) → (A.putObj (w.heap.size + 1) o').heap[w.heap.size + 1]? = some o' ∧ (A.putObj (w.heap.size + 1) o').heap[w.heap.size]? = some (.deferred (some [])) :=
    fun o' h1 h2 => ⟨World.putObj_heap_same (Array.getElem?_eq_some_iff.1 h1).1, (World.putObj_heap_other (by omega)).trans h2⟩
  refine ⟨w.heap.size + 1, [{ target := .collected w.heap.size, args := #[] }], V, { target := .fn (.func gf) lb, args := #[.func (.yield (w.heap.size + 1)) #[] #[]] }, V, gf, #[.func (.yield (w.heap.size + 1)) #[] #[]] ++ lb, V, ?_, ?_, fun _ _ => trivial, ?_, (fun h => by cases h), ?_⟩
  · rw [hV]; exact run_enterLoop_outer _ _ _ _ _
  · simp only [resolve, hg]
    simp [go_sem]
  · simp only [invoke]
    exact hgf _ _
  have hcall := hseq (w.heap.size + 1) n
    (fun k W => I k W ∧ W.heap[w.heap.size + 1]? = some (mk .ready none) ∧ W.heap[w.heap.size]? = some (.deferred (some [])) ∧ w.heap.size + 2 ≤ W.heap.size)
    (fun W => ∃ c, Ix c W ∧ W.heap[w.heap.size + 1]? = some (mk .done (some c)) ∧ W.heap[w.heap.size]? = some (.deferred (some []))) V hVb
    (fun k A B h hs => ⟨hIs k A B h.1 hs, hKs A B hs _ _ (by omega) h.2.1 rfl, hKs A B hs _ _ (Nat.le_refl _) h.2.2.1 rfl, by
      have := (Array.getElem?_eq_some_iff.1 (hKs A B hs _ _ (by omega) h.2.1 rfl)).1; omega⟩)
    (fun k A hk h => ?_) ⟨hV ▸ h0 _ _, hVl, hVd, by rw [hV]; simp⟩
  · refine CallsIn.mono hcall ?_
    rintro e B ⟨⟨v, rfl⟩, ⟨hi, hl, hd, hz⟩ | ⟨c, hi, hl, hd⟩⟩
    · obtain ⟨k1, k2⟩ := keep (.loop { state := .exhausted, pending := none, fn, tmps := a.tmps, params := ps, assign, body, defers := w.heap.size }) hl hd
      exact ⟨none, _, run_endLoop (P := P) hl (by simp), hdone _ _ (Nat.le_refl _) (hI _ _ _ hi (turn _ hl)) k2⟩
    · obtain ⟨k1, k2⟩ := keep (.loop { state := .exhausted, pending := some c, fn, tmps := a.tmps, params := ps, assign, body, defers := w.heap.size }) hl hd
      exact ⟨some c, _, run_endLoop (P := P) hl (by simp), hstop _ c _ (Nat.le_refl _) (hIx _ _ _ hi (turn _ hl)) k2⟩
  · obtain ⟨hi, hl, hd, hz⟩ := h
    obtain ⟨k1, k2⟩ := keep (mk .busy none) hl hd
    refine ⟨fn, _, assign, body, run_yield (P := P) hl (hps k), roundIn_of_wpIn trivial (hassign _ k A _ ⟨_, run_beginRound hl rfl, ?_⟩)⟩
    refine wpIn_mono (hbody _ k _ hk (hI _ _ _ hi (turn _ hl)) (by simpa using hz)) ?_
    have hsz : ∀ {C : World}, C.heap[w.heap.size + 1]? = some (mk .busy none) → w.heap.size + 2 ≤ C.heap.size := fun h => by
      have := (Array.getElem?_eq_some_iff.1 h).1; omega
    have leave : ∀ (c : Code) (C : World), KeepN w.heap.size (A.putObj (w.heap.size + 1) (mk .busy none)) C → Ix c C →
        ∃ v D, (Instr.endRound (w.heap.size + 1) (some c)).run P C = .ok v D ∧ ((Ending.returned v = .returned (.bool true) ∧ (I (k + 1) D ∧ D.heap[w.heap.size + 1]? = some (mk .ready none) ∧ D.heap[w.heap.size]? = some (.deferred (some [])) ∧ w.heap.size + 2 ≤ D.heap.size) ∧ Kp A D) ∨
          (Ending.returned v = .returned (.bool false) ∧ ∃ c, Ix c D ∧ D.heap[w.heap.size + 1]? = some (mk .done (some c)) ∧ D.heap[w.heap.size]? = some (.deferred (some [])))) := fun c C hk hx => by
      have hl2 := hk _ _ (by omega) k1 rfl
      have hd2 := hk _ _ (Nat.le_refl _) k2 rfl
      obtain ⟨m1, m2⟩ := keep (mk .done (some c)) hl2 hd2
      exact ⟨_, _, run_endRound (P := P) (some c) hl2, .inr ⟨rfl, c, hIx _ _ _ hx (turn _ hl2), m1, m2⟩⟩
    rintro e a' C hp
    cases e with
    | normal =>
      obtain ⟨hk, hkp, hi2⟩ := hp
      have hl2 := hk _ _ (by omega) k1 rfl
      have hd2 := hk _ _ (Nat.le_refl _) k2 rfl
      obtain ⟨m1, m2⟩ := keep (mk .ready none) hl2 hd2
      exact ⟨_, _, run_endRound (P := P) none hl2, .inl ⟨rfl, ⟨hI _ _ _ hi2 (turn _ hl2), m1, m2, by have := hsz hl2; simpa using this⟩, hKt _ _ _ (hKt _ _ _ (hKp _ _ (turn _ hl)) hkp) (hKp _ _ (turn _ hl2))⟩⟩
    | ret => exact leave _ C hp.1 hp.2
    | exit id => exact leave _ C hp.1 hp.2
    | goto t => exact leave _ C hp.1 hp.2
    | panic ch => exact hp.elim
    | outgrown => exact hp.elim
end
end Go.Proofs.YtlkhbfafednegaaDoor
namespace Go.Proofs.YtlkhbfafednegaaDoor
open Go Go.RowKit Go.Shelf
set_option linter.unusedSimpArgs false
set_option linter.unusedVariables false

/-- An iterator that is a method value and tells N items: the k-th is enc k. Kp: what a round keeps for it; Ks: what it does itself between two rounds. -/
def SeqM (P : Program) (g : Nat) (la lb : Array Value) (enc : Nat → Array Value) (Kp Ks : World → World → Prop) (N : Nat) (w : World) : Prop :=
  ∀ (l n : Nat) (J : Nat → World → Prop) (Jx : World → Prop) (W : World), Below w.heap.size w W → (∀ k A B, J k A → Ks A B → J k B) →
    (∀ k A, k < N → J k A → YieldAt Fence.wide n P l (enc k) A fun e B => (e = .returned (.bool true) ∧ J (k + 1) B ∧ Kp A B) ∨ (e = .returned (.bool false) ∧ Jx B)) →
    J 0 W → CallsIn Fence.wide (n + 1) P g (la ++ #[.func (.yield l) #[] #[]] ++ lb) W fun e B => (∃ v, e = .returned v) ∧ (J N B ∨ Jx B)

section
variable {P : Program}
theorem wpIn_range_m {n : Nat} {g : Operand} {ps : Array Tmp} {assign body : Code} {Q : Exit → Act → World → Prop} {a : Act} {w : World}
    {gf : Nat} {la lb : Array Value} (hg : a.eval g = .func (.func gf) la lb) (hgf : Enters P gf)
    {enc : Nat → Array Value} {Kp Ks : World → World → Prop} {N : Nat} {w0 : World} (hseq : SeqM P gf la lb enc Kp Ks N w0) (hb0 : Below w0.heap.size w0 w) (hps : ∀ k, (enc k).size = ps.size)
    (hKt : ∀ A B C, Kp A B → Kp B C → Kp A C) (hKp : ∀ A B, Turns w.heap.size A B → Kp A B) (hKs : ∀ A B, Ks A B → KeepN w.heap.size A B)
    (I : Nat → World → Prop) (Ix : Code → World → Prop) (hI : ∀ k A B, I k A → Turns w.heap.size A B → I k B) (hIx : ∀ c A B, Ix c A → Turns w.heap.size A B → Ix c B)
    (hIs : ∀ k A B, I k A → Ks A B → I k B) (h0 : ∀ o1 o2, I 0 ((w.alloc o1).alloc o2)) (a₁ : Nat → Act)
    (hassign : ∀ (l k : Nat) (W : World) (K : Act → World → Prop), K (a₁ k) W → assign.wpIn (Fence.wide.inRound l) n P (Exit.then K (fun _ _ _ => False)) { tmps := (ps.zip (enc k)).foldl (fun t (p, v) => t.setIfInBounds p v) a.tmps, defers := [] } W)
    (hbody : ∀ (l k : Nat) (W : World), k < N → I k W → w.heap.size + 2 ≤ W.heap.size → body.wpIn (Fence.wide.inRound l) n P (postN w.heap.size Kp (I (k + 1)) Ix W) (a₁ k) W)
    (hdone : ∀ (D : Nat) (W : World), w.heap.size ≤ D → I N W → W.heap[D]? = some (.deferred (some [])) → Q .normal { a with defers := { target := .collected D, args := #[] } :: a.defers } W)
    (hstop : ∀ (D : Nat) (c : Code) (W : World), w.heap.size ≤ D → Ix c W → W.heap[D]? = some (.deferred (some [])) → c.wpIn Fence.wide (n + 2) P Q { a with defers := { target := .collected D, args := #[] } :: a.defers } W) :
    (Code.rangeFunc g ps assign body).wpIn Fence.wide (n + 2) P Q a w := by
  refine wpIn_rangeFunc fun fn _ => ?_
  let mk : LoopState → Option Code → Obj := fun st pe => .loop { state := st, pending := pe, fn, tmps := a.tmps, params := ps, assign, body, defers := w.heap.size }
  obtain ⟨V, hV⟩ : ∃ V, V = (w.alloc (.deferred (some []))).alloc (mk .ready none) := ⟨_, rfl⟩
  have hVl : V.heap[w.heap.size + 1]? = some (mk .ready none) := by
    have h := World.alloc_heap_new (w.alloc (.deferred (some []))) (mk .ready none)
    rw [World.size_alloc] at h
    rw [hV]; exact h
  have hVd : V.heap[w.heap.size]? = some (.deferred (some [])) := by
    rw [hV]; exact (Below.heap_alloc _ _ _ (by simp)).trans (World.alloc_heap_new w _)
  have hVb : Below w0.heap.size w0 V := by
    rw [hV]; exact hb0.trans ((((Below.refl _ w).alloc (Nat.le_refl _) _).alloc (by simp) _).mono hb0.size)
  have nc : ∀ st pe, (mk st pe).isCells = false := fun _ _ => rfl
  have turn : ∀ {A : World} {st : LoopState} {pe : Option Code} (o' : Obj), A.heap[w.heap.size + 1]? = some (mk st pe) → Turns w.heap.size A (A.putObj (w.heap.size + 1) o') :=
    fun o' h => ⟨_, _, o', by omega, h, nc _ _, rfl⟩
  have keep : ∀ {A : World} {st : LoopState} {pe : Option Code} (o' : Obj), A.heap[w.heap.size + 1]? = some (mk st pe) → A.heap[w.heap.size]? = some (.deferred (some [])) → (A.putObj (w.heap.size + 1) o').heap[w.heap.size + 1]? = some o' ∧ (A.putObj (w.heap.size + 1) o').heap[w.heap.size]? = some (.deferred (some [])) :=
    fun o' h1 h2 => ⟨World.putObj_heap_same (Array.getElem?_eq_some_iff.1 h1).1, (World.putObj_heap_other (by omega)).trans h2⟩
  refine ⟨w.heap.size + 1, [{ target := .collected w.heap.size, args := #[] }], V, { target := .fn (.func gf) lb, args := la ++ #[.func (.yield (w.heap.size + 1)) #[] #[]] }, V, gf, la ++ #[.func (.yield (w.heap.size + 1)) #[] #[]] ++ lb, V, ?_, ?_, fun _ _ => trivial, ?_, (fun h => by cases h), ?_⟩
  · rw [hV]; exact run_enterLoop_outer _ _ _ _ _
  · simp only [resolve, hg]
    simp [go_sem]
  · simp only [invoke]
    exact hgf _ _
  have hcall := hseq (w.heap.size + 1) n
    (fun k W => I k W ∧ W.heap[w.heap.size + 1]? = some (mk .ready none) ∧ W.heap[w.heap.size]? = some (.deferred (some [])) ∧ w.heap.size + 2 ≤ W.heap.size)
    (fun W => ∃ c, Ix c W ∧ W.heap[w.heap.size + 1]? = some (mk .done (some c)) ∧ W.heap[w.heap.size]? = some (.deferred (some []))) V hVb
    (fun k A B h hs => ⟨hIs k A B h.1 hs, hKs A B hs _ _ (by omega) h.2.1 rfl, hKs A B hs _ _ (Nat.le_refl _) h.2.2.1 rfl, by
      have := (Array.getElem?_eq_some_iff.1 (hKs A B hs _ _ (by omega) h.2.1 rfl)).1; omega⟩)
    (fun k A hk h => ?_) ⟨hV ▸ h0 _ _, hVl, hVd, by rw [hV]; simp⟩
  · refine CallsIn.mono hcall ?_
    rintro e B ⟨⟨v, rfl⟩, ⟨hi, hl, hd, hz⟩ | ⟨c, hi, hl, hd⟩⟩
    · obtain ⟨k1, k2⟩ := keep (.loop { state := .exhausted, pending := none, fn, tmps := a.tmps, params := ps, assign, body, defers := w.heap.size }) hl hd
      exact ⟨none, _, run_endLoop (P := P) hl (by simp), hdone _ _ (Nat.le_refl _) (hI _ _ _ hi (turn _ hl)) k2⟩
    · obtain ⟨k1, k2⟩ := keep (.loop { state := .exhausted, pending := some c, fn, tmps := a.tmps, params := ps, assign, body, defers := w.heap.size }) hl hd
      exact ⟨some c, _, run_endLoop (P := P) hl (by simp), hstop _ c _ (Nat.le_refl _) (hIx _ _ _ hi (turn _ hl)) k2⟩
  · obtain ⟨hi, hl, hd, hz⟩ := h
    obtain ⟨k1, k2⟩ := keep (mk .busy none) hl hd
    refine ⟨fn, _, assign, body, run_yield (P := P) hl (hps k), roundIn_of_wpIn trivial (hassign _ k A _ ⟨_, run_beginRound hl rfl, ?_⟩)⟩
    refine wpIn_mono (hbody _ k _ hk (hI _ _ _ hi (turn _ hl)) (by simpa using hz)) ?_
    have hsz : ∀ {C : World}, C.heap[w.heap.size + 1]? = some (mk .busy none) → w.heap.size + 2 ≤ C.heap.size := fun h => by
      have := (Array.getElem?_eq_some_iff.1 h).1; omega
    have leave : ∀ (c : Code) (C : World), KeepN w.heap.size (A.putObj (w.heap.size + 1) (mk .busy none)) C → Ix c C →
        ∃ v D, (Instr.endRound (w.heap.size + 1) (some c)).run P C = .ok v D ∧ ((Ending.returned v = .returned (.bool true) ∧ (I (k + 1) D ∧ D.heap[w.heap.size + 1]? = some (mk .ready none) ∧ D.heap[w.heap.size]? = some (.deferred (some [])) ∧ w.heap.size + 2 ≤ D.heap.size) ∧ Kp A D) ∨
          (Ending.returned v = .returned (.bool false) ∧ ∃ c, Ix c D ∧ D.heap[w.heap.size + 1]? = some (mk .done (some c)) ∧ D.heap[w.heap.size]? = some (.deferred (some [])))) := fun c C hk hx => by
      have hl2 := hk _ _ (by omega) k1 rfl
      have hd2 := hk _ _ (Nat.le_refl _) k2 rfl
      obtain ⟨m1, m2⟩ := keep (mk .done (some c)) hl2 hd2
      exact ⟨_, _, run_endRound (P := P) (some c) hl2, .inr ⟨rfl, c, hIx _ _ _ hx (turn _ hl2), m1, m2⟩⟩
    rintro e a' C hp
    cases e with
    | normal =>
      obtain ⟨hk, hkp, hi2⟩ := hp
      have hl2 := hk _ _ (by omega) k1 rfl
      have hd2 := hk _ _ (Nat.le_refl _) k2 rfl
      obtain ⟨m1, m2⟩ := keep (mk .ready none) hl2 hd2
      exact ⟨_, _, run_endRound (P := P) none hl2, .inl ⟨rfl, ⟨hI _ _ _ hi2 (turn _ hl2), m1, m2, by have := hsz hl2; simpa using this⟩, hKt _ _ _ (hKt _ _ _ (hKp _ _ (turn _ hl)) hkp) (hKp _ _ (turn _ hl2))⟩⟩
    | ret => exact leave _ C hp.1 hp.2
    | exit id => exact leave _ C hp.1 hp.2
    | goto t => exact leave _ C hp.1 hp.2
    | panic ch => exact hp.elim
    | outgrown => exact hp.elim
end
end Go.Proofs.YtlkhbfafednegaaDoor
