/-
  Regions that draw their order but for a tail: what stands behind all else is walked as it is written. No program is named here.
-/
import Derived.Test.YtomfpffooaejoaaDoorReg2
namespace Go.Proofs.YtomfpffooaejoaaDoor
open Go Go.RowKit

/-- the i-th operation waits for the j-th, by way of others too -/
def reachB (ops : List Oper) : Nat → Nat → Nat → Bool
  | 0, _, _ => false
  | fuel + 1, i, j => match ops[i]? with
    | none => false
    | some o => (o.after.any fun e => e.on == j && Region.binds .any e) || o.after.any fun e => Region.binds .any e && reachB ops fuel e.on j
theorem reachB_spec (ops : List Oper) (S : Nat → Prop) (hS : ∀ (i : Nat) (o : Oper), S i → ops[i]? = some o → ∀ e ∈ o.after, Region.binds .any e = true → S e.on) :
    ∀ (fuel i j : Nat) (o : Oper), reachB ops fuel i j = true → ops[i]? = some o → (∀ e ∈ o.after, Region.binds .any e = true → S e.on) → S j := by
  intro fuel
  induction fuel with
  | zero => intro i j o h; simp [reachB] at h
  | succ fuel ih =>
    intro i j o h ho hd
    rw [reachB, ho] at h
    simp only [Bool.or_eq_true] at h
    rcases h with h | h
    · obtain ⟨e, he, h2⟩ := Array.any_eq_true'.1 h
      simp only [Bool.and_eq_true, beq_iff_eq] at h2
      rw [← h2.1]; exact hd e he h2.2
    · obtain ⟨e, he, h2⟩ := Array.any_eq_true'.1 h
      simp only [Bool.and_eq_true] at h2
      have hse := hd e he h2.1
      cases hoe : ops[e.on]? with
      | none =>
        have h3 := h2.2
        cases fuel with
        | zero => simp [reachB] at h3
        | succ fuel => rw [reachB, hoe] at h3; simp at h3
      | some oe => exact ih e.on j oe h2.2 hoe (hS e.on oe hse hoe)
/-- from the n-th on each operation waits for all ahead of it -/
def tailB (ops : List Oper) (n : Nat) : Bool :=
  (List.range ops.length).all fun i => decide (i < n) || (List.range i).all fun j => reachB ops ops.length i j
theorem tailB_spec (ops : List Oper) (n : Nat) (h : tailB ops n = true) (S : Nat → Prop) (hS : ∀ (i : Nat) (o : Oper), S i → ops[i]? = some o → ∀ e ∈ o.after, Region.binds .any e = true → S e.on)
    (i : Nat) (o : Oper) (ho : ops[i]? = some o) (hn : n ≤ i) (hd : ∀ e ∈ o.after, Region.binds .any e = true → S e.on) (j : Nat) (hj : j < i) : S j := by
  have hi : i < ops.length := (List.getElem?_eq_some_iff.1 ho).1
  have h1 := List.all_eq_true.1 h i (by simp; omega)
  simp only [Bool.or_eq_true, decide_eq_true_eq] at h1
  rcases h1 with h1 | h1
  · omega
  · exact reachB_spec ops S hS _ i j o (List.all_eq_true.1 h1 j (by simp; omega)) ho hd

section
variable {P : Program} {ops : Array Oper} {Q : Exit → Act → World → Prop}
theorem wpAny_tail {n : Nat} (hb : backB ops.toList 0 = true) (ht : tailB ops.toList n = true) : ∀ (fuel m : Nat) (listed : Array Bool) (a : Act) (w : World), listed.size = ops.size → n ≤ m → m + fuel = ops.size →
    (∀ i, i < ops.size → listed.getD i true = decide (i < m)) → wpList P ops Q (ops.toList.drop m) a w → wpAny P .any ops Q fuel listed a w := by
  intro fuel
  induction fuel with
  | zero =>
    intro m listed a w hs hn hm hl h
    have e : ops.toList.drop m = [] := by apply List.drop_eq_nil_of_le; simp; omega
    rw [e] at h
    refine ⟨?_, h⟩
    unfold Region.ready
    rw [List.filter_eq_nil_iff]
    intro i hi
    have hi : i < ops.size := by simpa using hi
    have := hl i hi
    rw [this]
    simp
    intro hh; omega
  | succ fuel ih =>
    intro m listed a w hs hn hm hl h
    have hmlt : m < ops.size := by omega
    have hml : m < ops.toList.length := by simpa using hmlt
    have hmo : ops[m]? = some ops[m] := Array.getElem?_eq_getElem hmlt
    have hready : ∀ i, i ∈ Region.ready .any ops listed ↔ i = m := by
      intro i
      constructor
      · intro hi
        obtain ⟨hun, oi, hoi, hall⟩ := mem_ready.1 hi
        have hilt : i < ops.size := (Array.getElem?_eq_some_iff.1 hoi).1
        have h1 := hl i hilt
        have hun2 : listed.getD i true = false := by
          have hi2 : i < listed.size := by omega
          simpa [Array.getD, hi2] using hun
        rw [hun2] at h1
        have h2 : m ≤ i := by simpa using h1.symm
        rcases Nat.eq_or_lt_of_le h2 with h3 | h3
        · exact h3.symm
        · exfalso
          have h6 := tailB_spec ops.toList n ht (· < m) (fun k ok hk hok e he hbi => by have := backB_spec ops.toList 0 hb k ok hok e he hbi; omega) i oi (by simpa using hoi) (by omega) (fun e he hbi => by
            have h7 := hall e he hbi
            have h8 : e.on < ops.size := by have := backB_spec ops.toList 0 hb i oi (by simpa using hoi) e he hbi; omega
            have h9 := hl e.on h8
            have hm2 : e.on < listed.size := by omega
            simp [Array.getD, hm2] at h7 h9
            rw [h7] at h9
            simpa using h9) m h3
          exact absurd h6 (by omega)
      · rintro rfl
        refine mem_ready.2 ⟨?_, _, hmo, ?_⟩
        · have h1 := hl i hmlt
          have hi2 : i < listed.size := by omega
          simpa [Array.getD, hi2] using h1
        · intro e he hbi
          have hlt := backB_spec ops.toList 0 hb i ops[i] (by simp [hmlt]) e he hbi
          have h1 := hl e.on (by omega)
          have hi2 : e.on < listed.size := by omega
          have : e.on < i := by omega
          simpa [Array.getD, hi2, this] using h1
    refine ⟨fun h0 => ?_, fun i hi => ?_⟩
    · exfalso
      have := (hready m).2 rfl
      rw [h0] at this; cases this
    · obtain rfl := (hready i).1 hi
      have hd : ops.toList.drop i = ops[i] :: ops.toList.drop (i + 1) := by
        rw [List.drop_eq_getElem_cons hml]; simp
      rw [hd] at h
      have hnext : ∀ a' w', wpList P ops Q (ops.toList.drop (i + 1)) a' w' → wpAny P .any ops Q fuel (listed.setIfInBounds i true) a' w' := by
        intro a' w' h'
        refine ih (i + 1) _ a' w' (by simpa using hs) (by omega) (by omega) (fun j hj => ?_) h'
        by_cases e : j = i
        · subst e
          have hj2 : j < listed.size := by omega
          simp [Array.getD, hj2]
        · have hne := getD_set_ne (listed := listed) true (Ne.symm e)
          rw [hne, hl j hj]
          have : (j < i) = (j < i + 1) := by apply propext; omega
          simp [this]
      unfold wpOp
      rw [hmo]
      simp only
      unfold wpList at h
      split
      · rename_i hw
        rw [if_pos hw] at h
        rcases h with h | h
        · exact .inl (Oper.wp_mono (fun a' w' h' => hnext a' w' h') h)
        · exact .inr h
      · rename_i hw
        rw [if_neg hw] at h
        exact hnext _ _ h

theorem wp_region_tail {id : Nat} {a : Act} {w : World} (n : Nat) (ys : List As) (hm : P.follows .mixedOrders = true) (hd : apartB ops.toList = true) (hb : backB ops.toList 0 = true) (hg : guardsB a.tmps.size ops.toList = true) (hn : ys.length = n) (hns : n ≤ ops.size) (ht : tailB ops.toList n = true)
    (fr : (Nat → Value) → Act) (hfr : ∀ f, framedL ops.toList 0 a f = fr f)
    (hstep : StepsAs P Q fr ys w 0 (ops.toList.take n))
    (hend : ∀ (f : Nat → Value) (W : World), Below w.heap.size w W → AllAs f W ys 0 → wpList P ops Q (ops.toList.drop n) (fr f) W) : (Code.region id ops true).wp P Q a w := by
  refine wp_region_any hm ?_
  have key : ∀ (fuel : Nat) (listed : Array Bool) (f : Nat → Value) (W : World), listed.size = ops.size → unl listed = fuel → Below w.heap.size w W → (∀ i, i < ops.size → n ≤ i → listed.getD i true = false) → (∀ i, listed.getD i false = true → ∀ o, ops[i]? = some o → ∀ e ∈ o.after, Region.binds .any e = true → listed.getD e.on false = true) → (∀ i, listed.getD i false = true → (asAt ys i).holds (f i) W) →
      wpAny P .any ops Q fuel listed (fr f) W := by
    intro fuel
    induction fuel with
    | zero =>
      intro listed f W hs hu hE hT hL hR
      have hall : ∀ i, i < ops.size → listed.getD i true = true := by
        intro i hi
        unfold unl at hu
        rw [List.countP_eq_zero] at hu
        have hi2 : i < listed.size := by omega
        have := hu listed[i] (by simp)
        simpa [Array.getD, hi2] using this
      have hnn : n = ops.size := by
        rcases Nat.lt_or_ge n ops.size with h | h
        · have h1 := hT n h (Nat.le_refl _); rw [hall n h] at h1; cases h1
        · omega
      refine wpAny_tail hb ht 0 n listed (fr f) W hs (Nat.le_refl _) (by omega) (fun i hi => by rw [hall i hi]; simp; omega) (hend f W hE (allAs_mk ys 0 fun i hi => ?_))
      rw [Nat.zero_add]
      refine hR i ?_
      have hi2 : i < listed.size := by omega
      have := hall i (by omega)
      simpa [Array.getD, hi2] using this
    | succ fuel ih =>
      intro listed f W hs hu hE hT hL hR
      by_cases hfull : ∀ i, i < n → listed.getD i true = true
      · have hl : ∀ i, i < ops.size → listed.getD i true = decide (i < n) := by
          intro i hi
          by_cases h : i < n
          · rw [hfull i h]; simp [h]
          · rw [hT i hi (by omega)]; simp [h]
        have hcnt : unl listed = ops.size - n := by
          have e : listed = (List.replicate n true ++ List.replicate (ops.size - n) false).toArray := by
            apply Array.ext
            · simp; omega
            · intro i h1 h2
              have := hl i (by omega)
              simp [Array.getD, h1] at this
              rw [this]
              simp [List.getElem_append]
          rw [e]
          simp [unl, List.countP_replicate]
        refine wpAny_tail hb ht (fuel + 1) n listed (fr f) W hs (Nat.le_refl _) (by omega) hl (hend f W hE (allAs_mk ys 0 fun i hi => ?_))
        rw [Nat.zero_add]
        refine hR i ?_
        have hi2 : i < listed.size := by omega
        have := hfull i (by omega)
        simpa [Array.getD, hi2] using this
      · have hex : ∃ i, i < n ∧ listed.getD i true = false := by
          refine Classical.byContradiction fun h => hfull fun i hi => ?_
          cases hv : listed.getD i true with
          | true => rfl
          | false => exact absurd ⟨i, hi, hv⟩ h
        refine ⟨fun h0 => ?_, fun i hi => ?_⟩
        · exfalso
          have hmin : ∀ m i, i < m → i < n → listed.getD i true = false → False := by
            intro m
            induction m with
            | zero => intro i h; omega
            | succ m ihm =>
              intro i _ hi hl
              have his : i < ops.size := by omega
              have hnr : i ∉ Region.ready .any ops listed := by rw [h0]; simp
              apply hnr
              refine mem_ready.2 ⟨?_, ops[i], Array.getElem?_eq_getElem his, ?_⟩
              · have hi2 : i < listed.size := by omega
                simpa [Array.getD, hi2] using hl
              · intro e he hbi
                have hlt := backB_spec ops.toList 0 hb i ops[i] (by simp [his]) e he hbi
                cases hv : listed.getD e.on false with
                | true => rfl
                | false =>
                  exfalso
                  refine ihm e.on (by omega) (by omega) ?_
                  have hi2 : e.on < listed.size := by omega
                  simpa [Array.getD, hi2] using hv
          obtain ⟨i, hi, hl⟩ := hex
          exact hmin (i + 1) i (by omega) hi hl
        · obtain ⟨hun, oi, hoi, hall⟩ := mem_ready.1 hi
          have hilt : i < ops.size := (Array.getElem?_eq_some_iff.1 hoi).1
          have hil : i < listed.size := by omega
          have hin : i < n := by
            rcases Nat.lt_or_ge i n with h | h
            · exact h
            · exfalso
              obtain ⟨j, hj, hjl⟩ := hex
              have h6 := tailB_spec ops.toList n ht (fun k => listed.getD k false = true) (fun k ok hk hok e he hbi => hL k hk ok (by simpa using hok) e he hbi) i oi (by simpa using hoi) h hall j (by omega)
              have hj2 : j < listed.size := by omega
              simp [Array.getD, hj2] at h6 hjl
              rw [h6] at hjl; cases hjl
          have hol : ops.toList[i]? = some oi := by simpa using hoi
          have h := stepsAs_get (ops.toList.take n) 0 hstep i oi (by rw [List.getElem?_take, if_pos hin]; exact hol)
          rw [Nat.zero_add] at h
          have hdep : ∀ e ∈ oi.after, Region.binds .any e = true → (asAt ys e.on).holds (f e.on) W := fun e he hbi => hR e.on (hall e he hbi)
          have hnext : ∀ v W', (asAt ys i).holds v W' → Below W.heap.size W W' → wpAny P .any ops Q fuel (listed.setIfInBounds i true) ((fr f).put oi.dst v) W' := by
            intro v W' hv hE'
            rw [← hfr, framedL_upd f v ops.toList 0 i a oi hd hol, hfr, Nat.zero_add]
            refine ih (listed.setIfInBounds i true) (upd f i v) W' (by simpa using hs) ?_ (hE.trans (hE'.mono hE.size)) (fun j hj hnj => ?_) (fun j hj o ho e he hbi => ?_) (fun j hj => ?_)
            · have := unl_set (l := listed) (i := i) (by simpa [Array.getD, hil] using hun)
              omega
            · have hne := getD_set_ne (listed := listed) (i := i) (j := j) true (by omega)
              rw [hne]; exact hT j hj hnj
            · by_cases e1 : j = i
              · subst e1
                rw [hoi] at ho; injection ho with ho; subst ho
                exact getD_set_true (hall e he hbi)
              · rw [getD_set_ne false (Ne.symm e1)] at hj
                exact getD_set_true (hL j hj o ho e he hbi)
            · unfold upd
              by_cases e : j = i
              · subst e; rw [if_pos rfl]; exact hv
              · rw [if_neg e]
                rw [getD_set_ne false (Ne.symm e)] at hj
                exact As.stab _ _ W W' (hR j hj) hE'
          have hwant := wanted_of (ys := ys) (fr := fr) hd hg hfr hol hdep
          unfold wpOp
          rw [hoi]
          simp only
          unfold OweAs at h
          cases hgb : guardB ys oi with
          | none => rw [hgb] at h; exact h.elim
          | some b =>
            rw [hgb] at h
            rw [hwant b hgb]
            cases b with
            | true =>
              rw [if_pos rfl]
              exact .inl (h f W hE (depAs_mk _ fun e he hbi => hdep e (by simpa using he) hbi) _ hnext)
            | false =>
              rw [if_neg (by simp)]
              exact hnext undef W (h W) (Below.refl _ _)
  obtain ⟨f0, h0⟩ : ∃ f0, a = fr f0 := by
    refine ⟨fun i => ((ops[i]?).bind fun o => o.dst.map fun d => a.tmps.getD d undef).getD undef, ?_⟩
    rw [← hfr]
    refine (framedL_self ops.toList 0 a _ (fun i o ho => ?_)).symm
    have ho' : ops[i]? = some o := by simpa using ho
    simp [ho']
  have hk := key ops.size (Array.replicate ops.size false) f0 w.drew (by simp) (by simp [unl, List.countP_replicate]) (Below.refl _ _).drew (fun i hi _ => by simp [Array.getD, hi]) (fun i hi => by
    exfalso
    rcases Nat.lt_or_ge i ops.size with h | h
    · simp [Array.getD, h] at hi
    · simp [Array.getD, Nat.not_lt.2 h] at hi) (fun i hi => by
    exfalso
    rcases Nat.lt_or_ge i ops.size with h | h
    · simp [Array.getD, h] at hi
    · simp [Array.getD, Nat.not_lt.2 h] at hi)
  rw [← h0] at hk
  exact hk
end
end Go.Proofs.YtomfpffooaejoaaDoor
