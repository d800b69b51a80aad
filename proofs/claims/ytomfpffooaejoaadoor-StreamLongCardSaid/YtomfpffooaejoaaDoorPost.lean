/-
  The last step of a row's proof, where the walk says that nothing below the heap's size at the call has turned.
-/
import Derived.Test.YtomfpffooaejoaaDoorMem
import Derived.ProofKit
import Derived.OpenShut
namespace Go.Proofs.YtomfpffooaejoaaDoor
open Go Go.RowKit Go.WideShapes Go.ChangeShapes

section
variable {H : Type} {enc : TypeId × Value → H} {P : Program}
/-- The post of a row out of 'Below': results, arguments and variables read as the specification says; old memory stands. -/
theorem post_below {f : Func} {s : ChangeSpec} {apart fresh handsOn again : Bool} {W W' : World} {args : Array Value} {v : Value} {ds gs : List (DataW H)} {before pa pv : List MemPlace}
    (hW : DataW.Whole enc P f.params.toList s.vars apart W args.toList ds gs before)
    (hres : ∀ (b : Nat) (sp : Nat → Bool) (hd : Bool), DataW.TrodAll enc P W' b sp hd f.resultTypes.toList (v.resultList f.resultTypes.size) (s.fn H (ds ++ gs)).results [])
    (hargs : ∀ sp : Nat → Bool, (∀ p ∈ before, sp p.block = true) → DataW.TrodAll enc P W' 0 sp true f.params.toList args.toList (s.fn H (ds ++ gs)).args pa)
    (hvars : ∀ sp : Nat → Bool, (∀ p ∈ before, sp p.block = true) → DataW.TrodVars enc P W' sp s.vars (s.fn H (ds ++ gs)).vars pv)
    (hps : before = pa ++ pv) (hb : Below W.heap.size W W')
    (hok : ∀ (j : Nat) (t : TypeId) (r : Value), f.resultTypes[j]? = some t → (v.resultList f.resultTypes.size)[j]? = some r → Value.okWide P W' .any 0 t r) :
    s.post enc P f apart fresh handsOn again W args v W' := by
  have hlt : ∀ p ∈ before, p.block < W.heap.size := fun p hp => hW.lt p hp
  have hold : ∀ p ∈ before, (fun b => decide (b < W.heap.size)) p.block = true := fun p hp => decide_eq_true (hlt p hp)
  refine ⟨ds, gs, before, [], pa, pv, hW, hres _ _ _, hargs _ hold, hvars _ hold, ?_, ?_⟩
  · refine World.keptBut_mono (fun p hp => ⟨hp, ?_⟩) (hb.frame (· ∈ before))
    rw [hps, List.mem_append] at hp
    exact Or.inr hp
  intro _
  obtain ⟨_, _, _, _, _, hz, hn⟩ := hW
  refine ⟨hok, _, _, ([] ++ pa) ++ pv, ⟨[] ++ pa, pv, trodAll_append (hargs _ (fun _ _ => rfl)) (hres _ _ _), hvars _ (fun _ _ => rfl), rfl, ?_, ?_⟩, ?_⟩
  · intro b off hp
    have hin : MemPlace.cell b off ∈ before := by rw [hps]; simpa using hp
    rw [hb.frozen (hlt _ hin)]
    exact hz b off hin
  · intro ha
    have hd := hn ha
    rw [hps] at hd
    simpa using hd
  · intro p hp _
    rw [hps]
    simpa using hp
end

section
variable {H : Type} {enc : TypeId × Value → H} {P : Program}
/-- Arguments read behind the call as they read before it. -/
theorem args_stay (hl : laidOutB P = true) {W W' : World} (hb : Below W.heap.size W W') :
    ∀ (ts : List TypeId), (∀ t ∈ ts, P.readableRec t = true ∧ t < P.types.size) → ∀ (vs : List Value) (ds : List (DataW H)) (p : List MemPlace),
      DataW.TrodAll enc P W 0 (fun _ => true) true ts vs ds p → (∀ x ∈ p, x.block < W.heap.size) → ∀ sp : Nat → Bool, (∀ x ∈ p, sp x.block = true) → DataW.TrodAll enc P W' 0 sp true ts vs ds p := by
  intro ts
  induction ts with
  | nil =>
    intro _ vs ds p h _ sp _
    obtain ⟨rfl, rfl, rfl⟩ := trodAll_nil h
    exact trodAll_mk0
  | cons t ts ih =>
    intro hr vs ds p h hlt sp hsp
    obtain ⟨v, vs', d, ds', p1, p2, rfl, rfl, rfl, h1, h2⟩ := trodAll_cons h
    have ht := hr t (by simp)
    exact trodAll_cons_mk (WideElems.Trod_stays hl ht.1 ht.2 h1 (fun x hx => hb.same (hlt x (by simp [hx]))) (fun x hx => hsp x (by simp [hx])))
      (ih (fun u hu => hr u (by simp [hu])) vs' ds' p2 h2 (fun x hx => hlt x (by simp [hx])) sp (fun x hx => hsp x (by simp [hx])))

/-- The post of a law: it returned true, and nothing that was there has turned. -/
theorem post_law (hl : laidOutB P = true) {f : Func} {s : ChangeSpec} {W W' : World} {args : Array Value} {ds gs : List (DataW H)} {before : List MemPlace} {tb : TypeId}
    (hr : ∀ t ∈ f.params.toList, P.readableRec t = true ∧ t < P.types.size) (hrt : f.resultTypes = #[tb]) (htb : P.underlying tb = some .bool)
    (hs : s.vars = []) (hfn : (s.fn H (ds ++ gs)).results = [.lit (.bool true)] ∧ (s.fn H (ds ++ gs)).args = ds ∧ (s.fn H (ds ++ gs)).vars = [])
    {apart fresh handsOn again : Bool} (hW : DataW.Whole enc P f.params.toList s.vars apart W args.toList ds gs before) (hb : Below W.heap.size W W') :
    s.post enc P f apart fresh handsOn again W args (.bool true) W' := by
  have hlt : ∀ p ∈ before, p.block < W.heap.size := fun p hp => hW.lt p hp
  have hW' := hW
  obtain ⟨p, q, hA, hV, rfl, hfz, hnd⟩ := hW
  rw [hs] at hV
  obtain ⟨rfl, rfl⟩ := trodVars_none hV
  rw [List.append_nil] at hlt hW'
  have hrl : (Value.bool true).resultList f.resultTypes.size = [Value.bool true] := by rw [hrt]; rfl
  refine post_below (pa := p) (pv := []) hW' ?_ ?_ ?_ (by simp) hb ?_
  · intro b sp hd
    rw [hrl, hfn.1, hrt]
    exact trodAll_cons_mk (shut_bool htb _) trodAll_mk0
  · intro sp hsp
    rw [hfn.2.1]
    exact args_stay hl hb _ hr _ _ _ hA hlt sp hsp
  · intro sp hsp
    rw [hs, hfn.2.2]
    rfl
  · rw [hrl, hrt]
    intro j t r hj hj2
    match j with
    | 0 =>
      simp only [List.getElem?_toArray, List.getElem?_cons_zero, Option.some.injEq] at hj hj2
      subst hj; subst hj2
      exact okWide_bool_mk htb _
    | j + 1 => simp at hj
end

section
variable {H : Type} {enc : TypeId × Value → H} {P : Program}
/-- A slice of integers that came in, as cells. -/
theorem open_row {α : Type} {k : IntKind} (f : α → Value) (hf : ∀ z : Int, (Lit.int k z).wf = true → ∃ x, Value.int k z = f x)
    {W : World} {t e : TypeId} {v : Value} {d : DataW H} {p : List MemPlace} {base : Nat} (ht : P.underlying t = some (.slice e)) (he : P.underlying e = some (.int k)) (hc : P.cellsOf e = 1)
    (hv : Value.okWide P W .any base t v) (h : DataW.Trod enc P W 0 (fun _ => true) true t v d p) :
    ∃ (A : Option Addr) (cap : Nat) (xs : List α), v = .slice A xs.length cap ∧ Rd W W.heap.size A (xs.map f) ∧ xs.length ≤ cap ∧ cap ≤ maxLen := by
  obtain ⟨A0, len0, cap0, rfl⟩ := okWide_slice ht hv
  obtain ⟨fuel, hfu⟩ := h
  rcases open_ints ht he hc hfu with ⟨hcs, hx⟩ | ⟨a, len, cap, zs, hcs, _, hl, hm, hz, hx, hcell, hwz⟩
  · simp only [Value.cells] at hcs
    obtain ⟨h1, h2, h3⟩ : A0 = none ∧ len0 = 0 ∧ cap0 = 0 := by simpa using hcs
    subst h1; subst h2; subst h3
    exact ⟨none, 0, [], rfl, Rd.nil, by simp, by simp [maxLen]⟩
  · simp only [Value.cells] at hcs
    obtain ⟨h1, h2, h3⟩ : A0 = some a ∧ len0 = len ∧ cap0 = cap := by simpa using hcs
    subst h1; subst h2; subst h3
    have hz' : zs.length = cap0 := by simpa using hz
    have hx : ∀ zs' : List Int, (∀ n ∈ zs', (Lit.int k n).wf = true) → ∃ xs : List α, xs.map f = zs'.map (Value.int k) := by
      intro zs'
      induction zs' with
      | nil => intro _; exact ⟨[], rfl⟩
      | cons z zs' ih =>
        intro hw
        obtain ⟨x, hx⟩ := hf z (hw z (by simp))
        obtain ⟨xs, hxs⟩ := ih (fun n hn => hw n (by simp [hn]))
        exact ⟨x :: xs, by simp [hx, hxs]⟩
    obtain ⟨xs, hxs⟩ := hx (zs.take len0) (fun n hn => hwz n (List.mem_of_mem_take hn))
    have hlen : xs.length = len0 := by
      have := congrArg List.length hxs
      simp at this
      omega
    refine ⟨some a, cap0, xs, by rw [hlen], ?_, by omega, hm⟩
    rw [hxs]
    rcases Nat.eq_zero_or_pos len0 with h0 | h0
    · subst h0; exact .inl (by simp)
    · have hc0 := hcell 0 (by omega)
      have hlt : a.block < W.heap.size := by
        have := block_lt_of_cell hc0
        rwa [block_add] at this
      have hspot : a.spot = none := by
        cases hs : a.spot with
        | none => rfl
        | some x =>
          exfalso
          have e0 : a.add 0 = a := by unfold Addr.add; simp
          rw [e0] at hc0
          simp only [World.cell?] at hc0
          cases hb : W.heap[a.block]? with
          | none => simp [hb] at hc0
          | some o => cases o <;> simp [hb, hs] at hc0
      obtain ⟨b, off, spot⟩ := a
      simp only at hspot
      subst hspot
      refine .inr ⟨b, off, rfl, hlt, fun i v hi => ?_⟩
      rw [List.getElem?_map, List.getElem?_take] at hi
      split at hi
      · rename_i hil
        have hci := hcell i (by omega)
        have ea : (⟨b, off, none⟩ : Addr).add i = ⟨b, off + i, none⟩ := add_plain _ _ _
        rw [ea] at hci
        rw [hci]
        have : zs[i]? = some (zs.getD i 0) := by simp [List.getD, show i < zs.length by omega]
        rw [this] at hi
        simpa using hi
      · simp at hi
end

/-- a uint64 that came in -/
theorem u64_of {a : Int} (w : (Lit.int .u64 a).wf = true) : ∃ x : UInt64, a = (x.toNat : Int) := by
  have h := bounds_u64 w
  refine ⟨UInt64.ofNat a.toNat, ?_⟩
  simp only [UInt64.toNat_ofNat', Nat.reducePow]
  omega
theorem u8_of {a : Int} (w : (Lit.int .u8 a).wf = true) : ∃ x : UInt8, a = (x.toNat : Int) := by
  have h := bounds_u8 w
  refine ⟨UInt8.ofNat a.toNat, ?_⟩
  simp only [UInt8.toNat_ofNat', Nat.reducePow]
  omega
end Go.Proofs.YtomfpffooaejoaaDoor
