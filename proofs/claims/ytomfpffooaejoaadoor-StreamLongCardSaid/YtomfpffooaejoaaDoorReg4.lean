/-
  Regions that draw their order, where one operation takes the others' rows for its own (it may write into them).
-/
import Derived.Test.YtomfpffooaejoaaDoorReg3
namespace Go.Proofs.YtomfpffooaejoaaDoor
open Go Go.RowKit

section
variable {P : Program} {Q : Exit → Act → World → Prop} {fr : (Nat → Value) → Act} {ys : List As} {w : World} {k : Nat} {o : Oper}
/-- a whole array is loaded out of a block that is known -/
theorem oweAs_load (ty : TypeId) (x : Operand) (ho : o.op = .load ty x) (g : Nat) (t : TypeId) (cs : Array Value) (hx : ∀ f, (fr f).eval x = .pointer (some ⟨g, 0, none⟩)) (hb : Blk w g t cs) {d : TypeDesc}
    (hu : P.underlying ty = some d) (hd : (match d with | .struct _ | .array _ _ => true | _ => false) = true) (hi : (P.info? ty).map (·.size) = some cs.size) (hg : guardB ys o = some true) (hv : asAt ys k = .eq (.agg cs)) : OweAs P Q fr ys w k o := by
  unfold OweAs
  rw [hg]
  intro f W hE _ K hK
  exact wp_load_row ty x ho g (hx f) t cs (0, 0) d (hb.below hE hb.lt) hu hd hi (hK _ W (by rw [hv]; rfl) (Below.refl _ _))
end

/-- 2: it takes the rows; 1: it stands ahead of that one, in its list; 0: the rest -/
def flagsB (ops : List Oper) (n c : Nat) (cons flags : List Nat) : Bool :=
  (List.range n).all fun i => match flags[i]?, ops[i]? with
    | some 2, some o => i == c && o.guard.isNone && !cons.contains i
    | some 1, some _ => (match ops[c]? with | some oc => oc.after.any fun e => e.on == i && Region.binds .any e | none => false) && i != c
    | some 0, some _ => !cons.contains i && i != c
    | _, _ => false
theorem flagsB_spec (ops : List Oper) (n c : Nat) (cons flags : List Nat) (h : flagsB ops n c cons flags = true) (i : Nat) (hi : i < n) :
    ∃ fl, flags[i]? = some fl ∧ (fl = 1 → ∃ oc, ops[c]? = some oc ∧ ∃ e ∈ oc.after, e.on = i ∧ Region.binds .any e = true) ∧ (fl = 0 ∨ fl = 1 ∨ fl = 2) ∧ (i ∈ cons → fl = 1) ∧ (fl = 2 → i = c) ∧ (i = c → ∀ o, ops[i]? = some o → o.guard = none) := by
  have h1 := List.all_eq_true.1 h i (by simp; omega)
  cases hf : flags[i]? with
  | none => rw [hf] at h1; simp at h1
  | some fl =>
    cases ho : ops[i]? with
    | none => rw [hf, ho] at h1; match fl with
      | 0 => simp at h1
      | 1 => simp at h1
      | 2 => simp at h1
      | m + 3 => simp at h1
    | some o =>
      rw [hf, ho] at h1
      match fl with
      | 0 =>
        simp only [Bool.and_eq_true, bne_iff_ne] at h1
        exact ⟨0, rfl, (fun h => by omega), .inl rfl, (fun hh => by simp [hh] at h1), (fun h => by omega), fun hc => absurd hc h1.2⟩
      | 1 =>
        simp only [Bool.and_eq_true, bne_iff_ne] at h1
        refine ⟨1, rfl, (fun _ => ?_), .inr (.inl rfl), (fun _ => rfl), (fun h => by omega), fun hc => absurd hc h1.2⟩
        cases hoc : ops[c]? with
        | none => rw [hoc] at h1; simp at h1
        | some oc =>
          rw [hoc] at h1
          obtain ⟨e, he, h3⟩ := Array.any_eq_true'.1 h1.1
          simp only [Bool.and_eq_true, beq_iff_eq] at h3
          exact ⟨oc, rfl, e, he, h3.1, h3.2⟩
      | 2 =>
        simp only [Bool.and_eq_true, beq_iff_eq] at h1
        exact ⟨2, rfl, (fun h => by omega), .inr (.inr rfl), (fun hh => by simp [hh] at h1), (fun _ => h1.1.1), fun _ o' ho' => by injection ho' with ho'; subst ho'; simpa using h1.1.2⟩
      | m + 3 => simp at h1
def StepsC (P : Program) (Q : Exit → Act → World → Prop) (fr : (Nat → Value) → Act) (ys ym : List As) (w : World) : Nat → List Nat → List Oper → Prop
  | _, _, [] => True
  | k, 1 :: bs, o :: r => OweAs P Q fr ys w k o ∧ StepsC P Q fr ys ym w (k + 1) bs r
  | k, 0 :: bs, o :: r => OweAs P Q fr ym w k o ∧ StepsC P Q fr ys ym w (k + 1) bs r
  | k, _ :: bs, _ :: r => True ∧ StepsC P Q fr ys ym w (k + 1) bs r
  | _, [], _ :: _ => True
theorem stepsC_get {P : Program} {Q : Exit → Act → World → Prop} {fr : (Nat → Value) → Act} {ys ym : List As} {w : World} : ∀ (l : List Oper) (k : Nat) (flags : List Nat), StepsC P Q fr ys ym w k flags l → ∀ (i : Nat) (o : Oper) (fl : Nat), l[i]? = some o → flags[i]? = some fl →
    (match fl with | 1 => OweAs P Q fr ys w (k + i) o | 0 => OweAs P Q fr ym w (k + i) o | _ => True) := by
  intro l
  induction l with
  | nil => intro k flags _ i o fl h; simp at h
  | cons x r ih =>
    intro k flags h i o fl hi hf
    cases flags with
    | nil => simp at hf
    | cons b bs =>
      cases i with
      | zero =>
        simp at hi hf
        subst hi; subst hf
        match b, h with
        | 0, h => exact h.1
        | 1, h => exact h.1
        | m + 2, h => trivial
      | succ i =>
        rw [show k + (i + 1) = k + 1 + i by omega]
        have h2 : StepsC P Q fr ys ym w (k + 1) bs r := by
          match b, h with
          | 0, h => exact h.2
          | 1, h => exact h.2
          | m + 2, h => exact h.2
        exact ih (k + 1) bs h2 i o fl (by simpa using hi) (by simpa using hf)
section
variable {P : Program} {ops : Array Oper} {Q : Exit → Act → World → Prop}
theorem wp_region_cons {id : Nat} {a : Act} {w : World} (n c : Nat) (ys ym : List As) (cons flags : List Nat) (ExtC : World → World → Prop) (hm : P.follows .mixedOrders = true) (hd : apartB ops.toList = true) (hb : backB ops.toList 0 = true) (hg : guardsB a.tmps.size ops.toList = true) (hn : ym.length = n) (hns : n ≤ ops.size) (hck : flagsB ops.toList n c cons flags = true) (hym : ∀ j, j ∉ cons → asAt ym j = asAt ys j) (hyc : ∀ j, j ∈ cons → asAt ym j = .any) (ht : tailB ops.toList n = true)
    (fr : (Nat → Value) → Act) (hfr : ∀ f, framedL ops.toList 0 a f = fr f)
    (hstep : StepsC P Q fr ys ym w 0 flags (ops.toList.take n))
    (hcons : ∀ (oc : Oper), ops[c]? = some oc → ∀ (f : Nat → Value) (W : World), Below w.heap.size w W → DepAs ys f W oc.after.toList →
      ∀ K : Act → World → Prop, (∀ v W', (asAt ys c).holds v W' → ExtC W W' → K ((fr f).put oc.dst v) W') → oc.wp P (fr f) W K Q)
    (hextC : ∀ W W', Below w.heap.size w W → ExtC W W' → Below w.heap.size W W')
    (hstabC : ∀ j, j ∉ cons → j ≠ c → ∀ v W W', Below w.heap.size w W → (asAt ys j).holds v W → ExtC W W' → (asAt ys j).holds v W')
    (hend : ∀ (f : Nat → Value) (W : World), Below w.heap.size w W → AllAs f W ym 0 → wpList P ops Q (ops.toList.drop n) (fr f) W) : (Code.region id ops true).wp P Q a w := by
  refine wp_region_any hm ?_
  have key : ∀ (fuel : Nat) (listed : Array Bool) (f : Nat → Value) (W : World), listed.size = ops.size → unl listed = fuel → Below w.heap.size w W → (∀ i, i < ops.size → n ≤ i → listed.getD i true = false) → (∀ i, listed.getD i false = true → ∀ o, ops[i]? = some o → ∀ e ∈ o.after, Region.binds .any e = true → listed.getD e.on false = true) → (∀ i, listed.getD i false = true → (i ∈ cons → listed.getD c false = false) → (asAt ys i).holds (f i) W) →
      wpAny P .any ops Q fuel listed (fr f) W := by
    intro fuel
    induction fuel with
    | zero =>
      intro listed f W hs hu hE hT hL hR
      have hall : ∀ i, i < ops.size → listed.getD i true = true := by
        intro i hi
        unfold unl at hu
        rw [List.countP_eq_zero] at hu
        have hi2 : i < listed.size := by omega
        have := hu listed[i] (by simp)
        simpa [Array.getD, hi2] using this
      have hnn : n = ops.size := by
        rcases Nat.lt_or_ge n ops.size with h | h
        · have h1 := hT n h (Nat.le_refl _); rw [hall n h] at h1; cases h1
        · omega
      refine wpAny_tail hb ht 0 n listed (fr f) W hs (Nat.le_refl _) (by omega) (fun i hi => by rw [hall i hi]; simp; omega) (hend f W hE (allAs_mk ym 0 fun i hi => ?_))
      rw [Nat.zero_add]
      by_cases hic : i ∈ cons
      · rw [hyc i hic]; trivial
      rw [hym i hic]
      refine hR i ?_ (fun h => absurd h hic)
      have hi2 : i < listed.size := by omega
      have := hall i (by omega)
      simpa [Array.getD, hi2] using this
    | succ fuel ih =>
      intro listed f W hs hu hE hT hL hR
      by_cases hfull : ∀ i, i < n → listed.getD i true = true
      · have hl : ∀ i, i < ops.size → listed.getD i true = decide (i < n) := by
          intro i hi
          by_cases h : i < n
          · rw [hfull i h]; simp [h]
          · rw [hT i hi (by omega)]; simp [h]
        have hcnt : unl listed = ops.size - n := by
          have e : listed = (List.replicate n true ++ List.replicate (ops.size - n) false).toArray := by
            apply Array.ext
            · simp; omega
            · intro i h1 h2
              have := hl i (by omega)
              simp [Array.getD, h1] at this
              rw [this]
              simp [List.getElem_append]
          rw [e]
          simp [unl, List.countP_replicate]
        refine wpAny_tail hb ht (fuel + 1) n listed (fr f) W hs (Nat.le_refl _) (by omega) hl (hend f W hE (allAs_mk ym 0 fun i hi => ?_))
        rw [Nat.zero_add]
        by_cases hic : i ∈ cons
        · rw [hyc i hic]; trivial
        rw [hym i hic]
        refine hR i ?_ (fun h => absurd h hic)
        have hi2 : i < listed.size := by omega
        have := hfull i (by omega)
        simpa [Array.getD, hi2] using this
      · have hex : ∃ i, i < n ∧ listed.getD i true = false := by
          refine Classical.byContradiction fun h => hfull fun i hi => ?_
          cases hv : listed.getD i true with
          | true => rfl
          | false => exact absurd ⟨i, hi, hv⟩ h
        refine ⟨fun h0 => ?_, fun i hi => ?_⟩
        · exfalso
          have hmin : ∀ m i, i < m → i < n → listed.getD i true = false → False := by
            intro m
            induction m with
            | zero => intro i h; omega
            | succ m ihm =>
              intro i _ hi hl
              have his : i < ops.size := by omega
              have hnr : i ∉ Region.ready .any ops listed := by rw [h0]; simp
              apply hnr
              refine mem_ready.2 ⟨?_, ops[i], Array.getElem?_eq_getElem his, ?_⟩
              · have hi2 : i < listed.size := by omega
                simpa [Array.getD, hi2] using hl
              · intro e he hbi
                have hlt := backB_spec ops.toList 0 hb i ops[i] (by simp [his]) e he hbi
                cases hv : listed.getD e.on false with
                | true => rfl
                | false =>
                  exfalso
                  refine ihm e.on (by omega) (by omega) ?_
                  have hi2 : e.on < listed.size := by omega
                  simpa [Array.getD, hi2] using hv
          obtain ⟨i, hi, hl⟩ := hex
          exact hmin (i + 1) i (by omega) hi hl
        · obtain ⟨hun, oi, hoi, hall⟩ := mem_ready.1 hi
          have hilt : i < ops.size := (Array.getElem?_eq_some_iff.1 hoi).1
          have hil : i < listed.size := by omega
          have hin : i < n := by
            rcases Nat.lt_or_ge i n with h | h
            · exact h
            · exfalso
              obtain ⟨j, hj, hjl⟩ := hex
              have h6 := tailB_spec ops.toList n ht (fun k => listed.getD k false = true) (fun k ok hk hok e he hbi => hL k hk ok (by simpa using hok) e he hbi) i oi (by simpa using hoi) h hall j (by omega)
              have hj2 : j < listed.size := by omega
              simp [Array.getD, hj2] at h6 hjl
              rw [h6] at hjl; cases hjl
          have hol : ops.toList[i]? = some oi := by simpa using hoi
          have hnext : ∀ v W', (asAt ys i).holds v W' → Below w.heap.size w W' → (∀ j, j ≠ i → listed.getD j false = true → (j ∈ cons → (listed.setIfInBounds i true).getD c false = false) → (asAt ys j).holds (f j) W') → wpAny P .any ops Q fuel (listed.setIfInBounds i true) ((fr f).put oi.dst v) W' := by
            intro v W' hv hE' hR'
            rw [← hfr, framedL_upd f v ops.toList 0 i a oi hd hol, hfr, Nat.zero_add]
            refine ih (listed.setIfInBounds i true) (upd f i v) W' (by simpa using hs) ?_ hE' (fun j hj hnj => ?_) (fun j hj o ho e he hbi => ?_) (fun j hj hjc => ?_)
            · have := unl_set (l := listed) (i := i) (by simpa [Array.getD, hil] using hun)
              omega
            · have hne := getD_set_ne (listed := listed) (i := i) (j := j) true (by omega)
              rw [hne]; exact hT j hj hnj
            · by_cases e1 : j = i
              · subst e1
                rw [hoi] at ho; injection ho with ho; subst ho
                exact getD_set_true (hall e he hbi)
              · rw [getD_set_ne false (Ne.symm e1)] at hj
                exact getD_set_true (hL j hj o ho e he hbi)
            · unfold upd
              by_cases e : j = i
              · subst e; rw [if_pos rfl]; exact hv
              · rw [if_neg e]
                rw [getD_set_ne false (Ne.symm e)] at hj
                exact hR' j e hj hjc
          obtain ⟨fl, hfl, hfspec⟩ := flagsB_spec ops.toList n c cons flags hck i hin
          have hcun : fl = 1 → listed.getD c false = false := by
            intro h1
            cases hv : listed.getD c false with
            | false => rfl
            | true =>
              exfalso
              obtain ⟨oc, hoc, e, he, he1, he2⟩ := hfspec.1 h1
              -- c is listed, so what it waits for is listed
              have hcl := hL c hv oc (by simpa using hoc) e he he2
              rw [he1] at hcl
              have : listed.getD i true = false := by simpa [Array.getD, hil] using hun
              simp [Array.getD, hil] at hcl this
              rw [hcl] at this; cases this
          by_cases hic : i = c
          · subst hic
            have hgn : oi.guard = none := hfspec.2.2.2.2 rfl oi hol
            have hdep : DepAs ys f W oi.after.toList := depAs_mk _ fun e he hbi => hR e.on (hall e (by simpa using he) hbi) (fun _ => by
              have : listed.getD i true = false := by simpa [Array.getD, hil] using hun
              simpa [Array.getD, hil] using this)
            have hw : Region.wanted oi (yielded ops (fr f).tmps) = true := by simp [Region.wanted, hgn]
            unfold wpOp
            rw [hoi]
            simp only
            rw [if_pos hw]
            refine .inl (hcons oi hoi f W hE hdep _ (fun v W' hv hC => hnext v W' hv (hE.trans (hextC W W' hE hC)) (fun j hji hj hjc => ?_)))
            by_cases hjcons : j ∈ cons
            · exfalso
              have h1 := hjc hjcons
              have h2 : (listed.setIfInBounds i true).getD i false = true := by simp [Array.getD, hil]
              rw [h2] at h1; cases h1
            · exact hstabC j hjcons hji _ W W' hE (hR j hj (fun h => absurd h hjcons)) hC
          · -- another operation
            have hall2 : ∀ (zs : List As), (zs = ys ∧ fl = 1 ∨ zs = ym) → (∀ e ∈ oi.after, Region.binds .any e = true → (asAt zs e.on).holds (f e.on) W) := by
              intro zs hz e he hbi
              rcases hz with ⟨rfl, h1⟩ | rfl
              · exact hR e.on (hall e he hbi) (fun _ => hcun h1)
              · by_cases hec : e.on ∈ cons
                · rw [hyc _ hec]; trivial
                · rw [hym _ hec]; exact hR e.on (hall e he hbi) (fun h => absurd h hec)
            obtain ⟨zs, hz, hzr, h⟩ : ∃ zs : List As, (zs = ys ∧ fl = 1 ∨ zs = ym) ∧ asAt zs i = asAt ys i ∧ OweAs P Q fr zs w i oi := by
              have h := stepsC_get (ops.toList.take n) 0 flags hstep i oi fl (by rw [List.getElem?_take, if_pos hin]; exact hol) hfl
              rw [Nat.zero_add] at h
              rcases hfspec.2.1 with h0 | h1 | h2
              · refine ⟨ym, .inr rfl, hym i (fun hh => ?_), by subst h0; exact h⟩
                have := hfspec.2.2.1 hh
                omega
              · exact ⟨ys, .inl ⟨rfl, h1⟩, rfl, by subst h1; exact h⟩
              · exact absurd (hfspec.2.2.2.1 h2) hic
            have hdep := hall2 zs hz
            have hnext' : ∀ v W', (asAt zs i).holds v W' → Below W.heap.size W W' → wpAny P .any ops Q fuel (listed.setIfInBounds i true) ((fr f).put oi.dst v) W' := by
              intro v W' hv hE'
              rw [hzr] at hv
              refine hnext v W' hv (hE.trans (hE'.mono hE.size)) (fun j hji hj hjc => ?_)
              refine As.stab _ _ W W' (hR j hj (fun hh => ?_)) hE'
              have h1 := hjc hh
              rwa [getD_set_ne false hic] at h1
            have hwant := wanted_of (ys := zs) (fr := fr) hd hg hfr hol hdep
            unfold wpOp
            rw [hoi]
            simp only
            unfold OweAs at h
            cases hgb : guardB zs oi with
            | none => rw [hgb] at h; exact h.elim
            | some b =>
              rw [hgb] at h
              rw [hwant b hgb]
              cases b with
              | true =>
                rw [if_pos rfl]
                exact .inl (h f W hE (depAs_mk _ fun e he hbi => hdep e (by simpa using he) hbi) _ hnext')
              | false =>
                rw [if_neg (by simp)]
                exact hnext' undef W (h W) (Below.refl _ _)
  obtain ⟨f0, h0⟩ : ∃ f0, a = fr f0 := by
    refine ⟨fun i => ((ops[i]?).bind fun o => o.dst.map fun d => a.tmps.getD d undef).getD undef, ?_⟩
    rw [← hfr]
    refine (framedL_self ops.toList 0 a _ (fun i o ho => ?_)).symm
    have ho' : ops[i]? = some o := by simpa using ho
    simp [ho']
  have hk := key ops.size (Array.replicate ops.size false) f0 w.drew (by simp) (by simp [unl, List.countP_replicate]) (Below.refl _ _).drew (fun i hi _ => by simp [Array.getD, hi]) (fun i hi => by
    exfalso
    rcases Nat.lt_or_ge i ops.size with h | h
    · simp [Array.getD, h] at hi
    · simp [Array.getD, Nat.not_lt.2 h] at hi) (fun i hi _ => by
    exfalso
    rcases Nat.lt_or_ge i ops.size with h | h
    · simp [Array.getD, h] at hi
    · simp [Array.getD, Nat.not_lt.2 h] at hi)
  rw [← h0] at hk
  exact hk
end
end Go.Proofs.YtomfpffooaejoaaDoor
