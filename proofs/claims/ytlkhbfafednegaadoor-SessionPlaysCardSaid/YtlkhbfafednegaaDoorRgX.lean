/-
  As any_region_tail2, but that operations may write blocks that lay there ahead of the region: what holds of the world, by what has been done, is given (RX). No program is named here.
-/
import Derived.Test.YtlkhbfafednegaaDoorGB
namespace Go.Proofs.YtlkhbfafednegaaDoor
open Go Go.RowKit
/-- what the k-th operation owes: from a world of which B holds to one of which B' holds -/
def OweX (P : Program) (Q : Exit → Act → World → Prop) (fr : (Nat → Value) → Act) (ys : List As) (B B' : World → Prop) (k : Nat) (o : Oper) : Prop :=
  match guardB ys o with
  | some true => ∀ (f : Nat → Value) (W : World), B W → DepAs ys f W o.after.toList →
      ∀ K : Act → World → Prop, (∀ v W', (asAt ys k).holds v W' → B' W' → (∀ j, j ≠ k → ∀ u, (asAt ys j).holds u W → (asAt ys j).holds u W') → K ((fr f).put o.dst v) W') → o.wp P (fr f) W K Q
  | some false => ∀ W : World, B W → B' W ∧ (asAt ys k).holds undef W
  | none => ∀ W : World, B W → False
/-- the i-th operation waits for the j-th -/
def waitsB (ops : List Oper) (i j : Nat) : Bool := match ops[i]? with
  | some o => o.after.any fun e => Region.binds .any e && e.on == j
  | none => false
theorem waitsB_spec {ops : List Oper} {i j : Nat} (h : waitsB ops i j = true) : ∃ o, ops[i]? = some o ∧ ∃ e ∈ o.after, Region.binds .any e = true ∧ e.on = j := by
  unfold waitsB at h
  cases ho : ops[i]? with
  | none => rw [ho] at h; cases h
  | some o =>
    rw [ho] at h
    obtain ⟨e, he, h2⟩ := Array.any_eq_true'.1 h
    simp only [Bool.and_eq_true, beq_iff_eq] at h2
    exact ⟨o, rfl, e, he, h2.1, h2.2⟩
def StepY (l0 : List Oper) (P : Program) (Q : Exit → Act → World → Prop) (fr : (Nat → Value) → Act) (ys : List As) (RX : (Nat → Bool) → World → Prop) (k : Nat) (o : Oper) : Prop :=
  ∀ s : Nat → Bool, s k = false → (∀ i j, waitsB l0 i j = true → s i = true → s j = true) → OweX P Q fr ys (RX s) (RX (fun j => j == k || s j)) k o
def StepsY (l0 : List Oper) (P : Program) (Q : Exit → Act → World → Prop) (fr : (Nat → Value) → Act) (ys : List As) (RX : (Nat → Bool) → World → Prop) : Nat → List Oper → Prop
  | _, [] => True
  | k, o :: r => StepY l0 P Q fr ys RX k o ∧ StepsY l0 P Q fr ys RX (k + 1) r
section
variable {P : Program} {ops : Array Oper} {Q : Exit → Act → World → Prop}
theorem stepsY_get {l0 : List Oper} {fr : (Nat → Value) → Act} {ys : List As} {RX : (Nat → Bool) → World → Prop} : ∀ (l : List Oper) (k : Nat), StepsY l0 P Q fr ys RX k l → ∀ (i : Nat) (o : Oper), l[i]? = some o → StepY l0 P Q fr ys RX (k + i) o := by
  intro l
  induction l with
  | nil => intro k _ i o h; simp at h
  | cons x r ih =>
    intro k h i o hi
    cases i with
    | zero => simp at hi; subst hi; exact h.1
    | succ i =>
      rw [show k + (i + 1) = k + 1 + i by omega]
      exact ih (k + 1) h.2 i o (by simpa using hi)
/-- an operation that only reads or makes blocks of its own -/
theorem stepY_of {l0 : List Oper} {fr : (Nat → Value) → Act} {ys : List As} {RX : (Nat → Bool) → World → Prop} {k : Nat} {o : Oper} (hs : ∀ s W, RX s W → RX (fun j => j == k || s j) W) (hRb : ∀ s W W', RX s W → Below W.heap.size W W' → RX s W') (h : ∀ s W, s k = false → (∀ i j, waitsB l0 i j = true → s i = true → s j = true) → RX s W → OweAs P Q fr ys W k o) : StepY l0 P Q fr ys RX k o := by
  intro s hs0 hs1
  have h := fun W => h s W hs0 hs1
  unfold OweX
  unfold OweAs at h
  cases hg : guardB ys o with
  | none => intro W hX; have h1 := h W hX; rw [hg] at h1; exact h1
  | some b' =>
    cases b' with
    | false => intro W hX; have h1 := h W hX; rw [hg] at h1; exact ⟨hs _ _ hX, h1 W⟩
    | true =>
      intro f W hX hd K hK
      have h1 := h W hX
      rw [hg] at h1
      exact h1 f W (Below.refl _ _) hd K fun v W' hv hb => hK v W' hv (hs _ _ (hRb _ _ _ hX hb)) fun j _ u hu => As.stab _ _ _ _ hu hb
/-- an operation with an effect of its own -/
theorem stepY_mk {l0 : List Oper} {fr : (Nat → Value) → Act} {ys : List As} {RX : (Nat → Bool) → World → Prop} {k : Nat} {o : Oper} (hg : guardB ys o = some true) (h : ∀ (s : Nat → Bool) (f : Nat → Value) (W : World), s k = false → (∀ i j, waitsB l0 i j = true → s i = true → s j = true) → RX s W → DepAs ys f W o.after.toList →
      ∀ K : Act → World → Prop, (∀ v W', (asAt ys k).holds v W' → RX (fun j => j == k || s j) W' → (∀ j, j ≠ k → ∀ u, (asAt ys j).holds u W → (asAt ys j).holds u W') → K ((fr f).put o.dst v) W') → o.wp P (fr f) W K Q) : StepY l0 P Q fr ys RX k o := by
  intro s h1 h2
  unfold OweX
  rw [hg]
  intro f W hX hd K hK
  exact h s f W h1 h2 hX hd K hK
theorem any_region_y {G : Prop} {a : Act} {w : World} (hG : wpAny P .any ops Q ops.size (Array.replicate ops.size false) a w.drew → G) (RX : (Nat → Bool) → World → Prop) (hR0 : RX (fun _ => false) w.drew) (n : Nat) (ys : List As) (hd : apartB ops.toList = true) (hb : backB ops.toList 0 = true) (hg : guardsB a.tmps.size ops.toList = true) (hn : ys.length = n) (hns : n ≤ ops.size) (ht : tailB ops.toList n = true)
    (fr : (Nat → Value) → Act) (hfr : ∀ f, framedL ops.toList 0 a (maskF n (oldF ops a) f) = fr f)
    (hstep : StepsY ops.toList P Q fr ys RX 0 (ops.toList.take n))
    (hend : ∀ (f : Nat → Value) (W : World) (s : Nat → Bool), (∀ i, i < n → s i = true) → RX s W → AllAs f W ys 0 → wpList P ops Q (ops.toList.drop n) (fr f) W) : G := by
  refine hG ?_
  have key : ∀ (fuel : Nat) (listed : Array Bool) (f : Nat → Value) (W : World), listed.size = ops.size → unl listed = fuel → RX (fun j => listed.getD j false) W → (∀ i, i < ops.size → n ≤ i → listed.getD i true = false) → (∀ i, listed.getD i false = true → ∀ o, ops[i]? = some o → ∀ e ∈ o.after, Region.binds .any e = true → listed.getD e.on false = true) → (∀ i, listed.getD i false = true → (asAt ys i).holds (f i) W) →
      wpAny P .any ops Q fuel listed (fr f) W := by
    intro fuel
    induction fuel with
    | zero =>
      intro listed f W hs hu hE hT hL hR
      have hall : ∀ i, i < ops.size → listed.getD i true = true := by
        intro i hi
        unfold unl at hu
        rw [List.countP_eq_zero] at hu
        have hi2 : i < listed.size := by omega
        have := hu listed[i] (by simp)
        simpa [Array.getD, hi2] using this
      have hnn : n = ops.size := by
        rcases Nat.lt_or_ge n ops.size with h | h
        · have h1 := hT n h (Nat.le_refl _); rw [hall n h] at h1; cases h1
        · omega
      have hct : ∀ i, i < n → (fun j => listed.getD j false) i = true := fun i hi => by
        have h1 := hall i (by omega)
        have hi2 : i < listed.size := by omega
        simpa [Array.getD, hi2] using h1
      refine wpAny_tail hb ht 0 n listed (fr f) W hs (Nat.le_refl _) (by omega) (fun i hi => by rw [hall i hi]; simp; omega) (hend f W _ hct hE (allAs_mk ys 0 fun i hi => ?_))
      rw [Nat.zero_add]
      refine hR i ?_
      have hi2 : i < listed.size := by omega
      have := hall i (by omega)
      simpa [Array.getD, hi2] using this
    | succ fuel ih =>
      intro listed f W hs hu hE hT hL hR
      by_cases hfull : ∀ i, i < n → listed.getD i true = true
      · have hl : ∀ i, i < ops.size → listed.getD i true = decide (i < n) := by
          intro i hi
          by_cases h : i < n
          · rw [hfull i h]; simp [h]
          · rw [hT i hi (by omega)]; simp [h]
        have hcnt : unl listed = ops.size - n := by
          have e : listed = (List.replicate n true ++ List.replicate (ops.size - n) false).toArray := by
            apply Array.ext
            · simp; omega
            · intro i h1 h2
              have := hl i (by omega)
              simp [Array.getD, h1] at this
              rw [this]
              simp [List.getElem_append]
          rw [e]
          simp [unl, List.countP_replicate]
        have hct : ∀ i, i < n → (fun j => listed.getD j false) i = true := fun i hi => by
          have h1 := hfull i hi
          have hi2 : i < listed.size := by omega
          simpa [Array.getD, hi2] using h1
        refine wpAny_tail hb ht (fuel + 1) n listed (fr f) W hs (Nat.le_refl _) (by omega) hl (hend f W _ hct hE (allAs_mk ys 0 fun i hi => ?_))
        rw [Nat.zero_add]
        refine hR i ?_
        have hi2 : i < listed.size := by omega
        have := hfull i (by omega)
        simpa [Array.getD, hi2] using this
      · have hex : ∃ i, i < n ∧ listed.getD i true = false := by
          refine Classical.byContradiction fun h => hfull fun i hi => ?_
          cases hv : listed.getD i true with
          | true => rfl
          | false => exact absurd ⟨i, hi, hv⟩ h
        refine ⟨fun h0 => ?_, fun i hi => ?_⟩
        · exfalso
          have hmin : ∀ m i, i < m → i < n → listed.getD i true = false → False := by
            intro m
            induction m with
            | zero => intro i h; omega
            | succ m ihm =>
              intro i _ hi hl
              have his : i < ops.size := by omega
              have hnr : i ∉ Region.ready .any ops listed := by rw [h0]; simp
              apply hnr
              refine mem_ready.2 ⟨?_, ops[i], Array.getElem?_eq_getElem his, ?_⟩
              · have hi2 : i < listed.size := by omega
                simpa [Array.getD, hi2] using hl
              · intro e he hbi
                have hlt := backB_spec ops.toList 0 hb i ops[i] (by simp [his]) e he hbi
                cases hv : listed.getD e.on false with
                | true => rfl
                | false =>
                  exfalso
                  refine ihm e.on (by omega) (by omega) ?_
                  have hi2 : e.on < listed.size := by omega
                  simpa [Array.getD, hi2] using hv
          obtain ⟨i, hi, hl⟩ := hex
          exact hmin (i + 1) i (by omega) hi hl
        · obtain ⟨hun, oi, hoi, hall⟩ := mem_ready.1 hi
          have hilt : i < ops.size := (Array.getElem?_eq_some_iff.1 hoi).1
          have hil : i < listed.size := by omega
          have hin : i < n := by
            rcases Nat.lt_or_ge i n with h | h
            · exact h
            · exfalso
              obtain ⟨j, hj, hjl⟩ := hex
              have h6 := tailB_spec ops.toList n ht (fun k => listed.getD k false = true) (fun k ok hk hok e he hbi => hL k hk ok (by simpa using hok) e he hbi) i oi (by simpa using hoi) h hall j (by omega)
              have hj2 : j < listed.size := by omega
              simp [Array.getD, hj2] at h6 hjl
              rw [h6] at hjl; cases hjl
          have hol : ops.toList[i]? = some oi := by simpa using hoi
          have h := stepsY_get (ops.toList.take n) 0 hstep i oi (by rw [List.getElem?_take, if_pos hin]; exact hol)
          rw [Nat.zero_add] at h
          have hdep : ∀ e ∈ oi.after, Region.binds .any e = true → (asAt ys e.on).holds (f e.on) W := fun e he hbi => hR e.on (hall e he hbi)
          have hnext : ∀ v W', (asAt ys i).holds v W' → RX (fun j => (listed.setIfInBounds i true).getD j false) W' → (∀ j, j ≠ i → ∀ u, (asAt ys j).holds u W → (asAt ys j).holds u W') → wpAny P .any ops Q fuel (listed.setIfInBounds i true) ((fr f).put oi.dst v) W' := by
            intro v W' hv hE' hst
            rw [← hfr, framedL_upd _ v ops.toList 0 i a oi hd hol, Nat.zero_add, upd_mask hin, hfr]
            refine ih (listed.setIfInBounds i true) (upd f i v) W' (by simpa using hs) ?_ hE' (fun j hj hnj => ?_) (fun j hj o ho e he hbi => ?_) (fun j hj => ?_)
            · have := unl_set (l := listed) (i := i) (by simpa [Array.getD, hil] using hun)
              omega
            · have hne := getD_set_ne (listed := listed) (i := i) (j := j) true (by omega)
              rw [hne]; exact hT j hj hnj
            · by_cases e1 : j = i
              · subst e1
                rw [hoi] at ho; injection ho with ho; subst ho
                exact getD_set_true (hall e he hbi)
              · rw [getD_set_ne false (Ne.symm e1)] at hj
                exact getD_set_true (hL j hj o ho e he hbi)
            · unfold upd
              by_cases e : j = i
              · subst e; rw [if_pos rfl]; exact hv
              · rw [if_neg e]
                rw [getD_set_ne false (Ne.symm e)] at hj
                exact hst j e _ (hR j hj)
          have hwant : ∀ b, guardB ys oi = some b → Region.wanted oi (yielded ops (fr f).tmps) = b := by
            rw [← hfr]
            exact wanted_of (ys := ys) (f := maskF n (oldF ops a) f) (W := W) (fr := fun f' => framedL ops.toList 0 a f') hd hg (fun _ => rfl) hol (fun e he hbi => by
              have hlt := backB_spec ops.toList 0 hb i oi hol e he hbi
              have e1 : maskF n (oldF ops a) f e.on = f e.on := if_pos (by omega)
              rw [e1]
              exact hdep e he hbi)
          have hun2 : listed.getD i false = false := by
            simpa [Array.getD, hil] using hun
          unfold wpOp
          rw [hoi]
          simp only
          have h := h (fun j => listed.getD j false) hun2 (fun i' j' hw hi' => by
            obtain ⟨o', ho', e', he', hb', rfl⟩ := waitsB_spec hw
            exact hL i' hi' o' (by simpa using ho') e' he' hb')
          have hset : (fun j => (listed.setIfInBounds i true).getD j false) = fun j => j == i || listed.getD j false := by
            funext j
            by_cases hj : j = i
            · subst hj; simp [Array.getD, hil]
            · rw [getD_set_ne false (Ne.symm hj)]; simp [hj]
          rw [hset] at hnext
          unfold OweX at h
          cases hgb : guardB ys oi with
          | none => rw [hgb] at h; exact (h W hE).elim
          | some b =>
            rw [hgb] at h
            rw [hwant b hgb]
            cases b with
            | true =>
              rw [if_pos rfl]
              exact .inl (h f W hE (depAs_mk _ fun e he hbi => hdep e (by simpa using he) hbi) _ hnext)
            | false =>
              rw [if_neg (by simp)]
              exact hnext undef W (h W hE).2 (h W hE).1 (fun _ _ _ hu => hu)
  obtain ⟨f0, h0⟩ : ∃ f0, a = fr f0 := by
    refine ⟨oldF ops a, ?_⟩
    rw [← hfr, mask_old]
    refine (framedL_self ops.toList 0 a _ (fun i o ho => ?_)).symm
    have ho' : ops[i]? = some o := by simpa using ho
    simp [oldF, ho']
  have hk := key ops.size (Array.replicate ops.size false) f0 w.drew (by simp) (by simp [unl, List.countP_replicate]) (by rw [show (fun j => (Array.replicate ops.size false).getD j false) = fun _ => false by (funext j; rcases Nat.lt_or_ge j ops.size with h | h <;> simp [Array.getD])]; exact hR0) (fun i hi _ => by simp [Array.getD, hi]) (fun i hi => by
    exfalso
    rcases Nat.lt_or_ge i ops.size with h | h
    · simp [Array.getD, h] at hi
    · simp [Array.getD, Nat.not_lt.2 h] at hi) (fun i hi => by
    exfalso
    rcases Nat.lt_or_ge i ops.size with h | h
    · simp [Array.getD, h] at hi
    · simp [Array.getD, Nat.not_lt.2 h] at hi)
  rw [← h0] at hk
  exact hk
end
end Go.Proofs.YtlkhbfafednegaaDoor
