/-
  The last step of a row's proof, where the walk says that nothing below the heap's size at the call has turned.
-/
/-
  What came in, opened: rows of bytes, rows of rows of bytes, arrays of bytes. No program is named here.
-/
/-
  Arrays of bytes that came in, opened. No program is named here.
-/
import Derived.Test.YtlkhbfafednegaaDoorGA
import Derived.ProofKit
import Derived.OpenShut
import Derived.Deep.Matrix
import Derived.ChangeMaps5
namespace Go.Proofs.YtlkhbfafednegaaDoor
open Go Go.RowKit Go.WideShapes Go.ChangeShapes

section
variable {H : Type} {enc : TypeId × Value → H} {P : Program}
/-- The post of a row out of 'Below': results, arguments and variables read as the specification says; old memory stands. -/
theorem post_below {f : Func} {s : ChangeSpec} {apart fresh handsOn again : Bool} {W W' : World} {args : Array Value} {v : Value} {ds gs : List (DataW H)} {before pa pv : List MemPlace}
    (hW : DataW.Whole enc P f.params.toList s.vars apart W args.toList ds gs before)
    (hres : ∀ (b : Nat) (sp : Nat → Bool) (hd : Bool), DataW.TrodAll enc P W' b sp hd f.resultTypes.toList (v.resultList f.resultTypes.size) (s.fn H (ds ++ gs)).results [])
    (hargs : ∀ sp : Nat → Bool, (∀ p ∈ before, sp p.block = true) → DataW.TrodAll enc P W' 0 sp true f.params.toList args.toList (s.fn H (ds ++ gs)).args pa)
    (hvars : ∀ sp : Nat → Bool, (∀ p ∈ before, sp p.block = true) → DataW.TrodVars enc P W' sp s.vars (s.fn H (ds ++ gs)).vars pv)
    (hps : before = pa ++ pv) (hb : Below W.heap.size W W')
    (hok : ∀ (j : Nat) (t : TypeId) (r : Value), f.resultTypes[j]? = some t → (v.resultList f.resultTypes.size)[j]? = some r → Value.okWide P W' .any 0 t r) :
    s.post enc P f apart fresh handsOn again W args v W' := by
  have hlt : ∀ p ∈ before, p.block < W.heap.size := fun p hp => hW.lt p hp
  have hold : ∀ p ∈ before, (fun b => decide (b < W.heap.size)) p.block = true := fun p hp => decide_eq_true (hlt p hp)
  refine ⟨ds, gs, before, [], pa, pv, hW, hres _ _ _, hargs _ hold, hvars _ hold, ?_, ?_⟩
  · refine World.keptBut_mono (fun p hp => ⟨hp, ?_⟩) (hb.frame (· ∈ before))
    rw [hps, List.mem_append] at hp
    exact Or.inr hp
  intro _
  obtain ⟨_, _, _, _, _, hz, hn⟩ := hW
  refine ⟨hok, _, _, ([] ++ pa) ++ pv, ⟨[] ++ pa, pv, trodAll_append (hargs _ (fun _ _ => rfl)) (hres _ _ _), hvars _ (fun _ _ => rfl), rfl, ?_, ?_⟩, ?_⟩
  · intro b off hp
    have hin : MemPlace.cell b off ∈ before := by rw [hps]; simpa using hp
    rw [hb.frozen (hlt _ hin)]
    exact hz b off hin
  · intro ha
    have hd := hn ha
    rw [hps] at hd
    simpa using hd
  · intro p hp _
    rw [hps]
    simpa using hp
end

section
variable {H : Type} {enc : TypeId × Value → H} {P : Program}
/-- Arguments read behind the call as they read before it. -/
theorem args_stay (hl : laidOutB P = true) {W W' : World} (hb : Below W.heap.size W W') :
    ∀ (ts : List TypeId), (∀ t ∈ ts, P.readableRec t = true ∧ t < P.types.size) → ∀ (vs : List Value) (ds : List (DataW H)) (p : List MemPlace),
      DataW.TrodAll enc P W 0 (fun _ => true) true ts vs ds p → (∀ x ∈ p, x.block < W.heap.size) → ∀ sp : Nat → Bool, (∀ x ∈ p, sp x.block = true) → DataW.TrodAll enc P W' 0 sp true ts vs ds p := by
  intro ts
  induction ts with
  | nil =>
    intro _ vs ds p h _ sp _
    obtain ⟨rfl, rfl, rfl⟩ := trodAll_nil h
    exact trodAll_mk0
  | cons t ts ih =>
    intro hr vs ds p h hlt sp hsp
    obtain ⟨v, vs', d, ds', p1, p2, rfl, rfl, rfl, h1, h2⟩ := trodAll_cons h
    have ht := hr t (by simp)
    exact trodAll_cons_mk (WideElems.Trod_stays hl ht.1 ht.2 h1 (fun x hx => hb.same (hlt x (by simp [hx]))) (fun x hx => hsp x (by simp [hx])))
      (ih (fun u hu => hr u (by simp [hu])) vs' ds' p2 h2 (fun x hx => hlt x (by simp [hx])) sp (fun x hx => hsp x (by simp [hx])))

/-- The post of a law: it returned true, and nothing that was there has turned. -/
theorem post_law (hl : laidOutB P = true) {f : Func} {s : ChangeSpec} {W W' : World} {args : Array Value} {ds gs : List (DataW H)} {before : List MemPlace} {tb : TypeId}
    (hr : ∀ t ∈ f.params.toList, P.readableRec t = true ∧ t < P.types.size) (hrt : f.resultTypes = #[tb]) (htb : P.underlying tb = some .bool)
    (hs : s.vars = []) (hfn : (s.fn H (ds ++ gs)).results = [.lit (.bool true)] ∧ (s.fn H (ds ++ gs)).args = ds ∧ (s.fn H (ds ++ gs)).vars = [])
    {apart fresh handsOn again : Bool} (hW : DataW.Whole enc P f.params.toList s.vars apart W args.toList ds gs before) (hb : Below W.heap.size W W') :
    s.post enc P f apart fresh handsOn again W args (.bool true) W' := by
  have hlt : ∀ p ∈ before, p.block < W.heap.size := fun p hp => hW.lt p hp
  have hW' := hW
  obtain ⟨p, q, hA, hV, rfl, hfz, hnd⟩ := hW
  rw [hs] at hV
  obtain ⟨rfl, rfl⟩ := trodVars_none hV
  rw [List.append_nil] at hlt hW'
  have hrl : (Value.bool true).resultList f.resultTypes.size = [Value.bool true] := by rw [hrt]; rfl
  refine post_below (pa := p) (pv := []) hW' ?_ ?_ ?_ (by simp) hb ?_
  · intro b sp hd
    rw [hrl, hfn.1, hrt]
    exact trodAll_cons_mk (shut_bool htb _) trodAll_mk0
  · intro sp hsp
    rw [hfn.2.1]
    exact args_stay hl hb _ hr _ _ _ hA hlt sp hsp
  · intro sp hsp
    rw [hs, hfn.2.2]
    rfl
  · rw [hrl, hrt]
    intro j t r hj hj2
    match j with
    | 0 =>
      simp only [List.getElem?_toArray, List.getElem?_cons_zero, Option.some.injEq] at hj hj2
      subst hj; subst hj2
      exact okWide_bool_mk htb _
    | j + 1 => simp at hj
end

section
variable {H : Type} {enc : TypeId × Value → H} {P : Program}
/-- A slice of integers that came in, as cells. -/
theorem open_row {α : Type} {k : IntKind} (f : α → Value) (hf : ∀ z : Int, (Lit.int k z).wf = true → ∃ x, Value.int k z = f x)
    {W : World} {t e : TypeId} {v : Value} {d : DataW H} {p : List MemPlace} {base : Nat} (ht : P.underlying t = some (.slice e)) (he : P.underlying e = some (.int k)) (hc : P.cellsOf e = 1)
    (hv : Value.okWide P W .any base t v) (h : DataW.Trod enc P W 0 (fun _ => true) true t v d p) :
    ∃ (A : Option Addr) (cap : Nat) (xs : List α), v = .slice A xs.length cap ∧ Rd W W.heap.size A (xs.map f) ∧ xs.length ≤ cap ∧ cap ≤ maxLen := by
  obtain ⟨A0, len0, cap0, rfl⟩ := okWide_slice ht hv
  obtain ⟨fuel, hfu⟩ := h
  rcases open_ints ht he hc hfu with ⟨hcs, hx⟩ | ⟨a, len, cap, zs, hcs, _, hl, hm, hz, hx, hcell, hwz⟩
  · simp only [Value.cells] at hcs
    obtain ⟨h1, h2, h3⟩ : A0 = none ∧ len0 = 0 ∧ cap0 = 0 := by simpa using hcs
    subst h1; subst h2; subst h3
    exact ⟨none, 0, [], rfl, Rd.nil, by simp, by simp [maxLen]⟩
  · simp only [Value.cells] at hcs
    obtain ⟨h1, h2, h3⟩ : A0 = some a ∧ len0 = len ∧ cap0 = cap := by simpa using hcs
    subst h1; subst h2; subst h3
    have hz' : zs.length = cap0 := by simpa using hz
    have hx : ∀ zs' : List Int, (∀ n ∈ zs', (Lit.int k n).wf = true) → ∃ xs : List α, xs.map f = zs'.map (Value.int k) := by
      intro zs'
      induction zs' with
      | nil => intro _; exact ⟨[], rfl⟩
      | cons z zs' ih =>
        intro hw
        obtain ⟨x, hx⟩ := hf z (hw z (by simp))
        obtain ⟨xs, hxs⟩ := ih (fun n hn => hw n (by simp [hn]))
        exact ⟨x :: xs, by simp [hx, hxs]⟩
    obtain ⟨xs, hxs⟩ := hx (zs.take len0) (fun n hn => hwz n (List.mem_of_mem_take hn))
    have hlen : xs.length = len0 := by
      have := congrArg List.length hxs
      simp at this
      omega
    refine ⟨some a, cap0, xs, by rw [hlen], ?_, by omega, hm⟩
    rw [hxs]
    rcases Nat.eq_zero_or_pos len0 with h0 | h0
    · subst h0; exact .inl (by simp)
    · have hc0 := hcell 0 (by omega)
      have hlt : a.block < W.heap.size := by
        have := block_lt_of_cell hc0
        rwa [block_add] at this
      have hspot : a.spot = none := by
        cases hs : a.spot with
        | none => rfl
        | some x =>
          exfalso
          have e0 : a.add 0 = a := by unfold Addr.add; simp
          rw [e0] at hc0
          simp only [World.cell?] at hc0
          cases hb : W.heap[a.block]? with
          | none => simp [hb] at hc0
          | some o => cases o <;> simp [hb, hs] at hc0
      obtain ⟨b, off, spot⟩ := a
      simp only at hspot
      subst hspot
      refine .inr ⟨b, off, rfl, hlt, fun i v hi => ?_⟩
      rw [List.getElem?_map, List.getElem?_take] at hi
      split at hi
      · rename_i hil
        have hci := hcell i (by omega)
        have ea : (⟨b, off, none⟩ : Addr).add i = ⟨b, off + i, none⟩ := add_plain _ _ _
        rw [ea] at hci
        rw [hci]
        have : zs[i]? = some (zs.getD i 0) := by simp [List.getD, show i < zs.length by omega]
        rw [this] at hi
        simpa using hi
      · simp at hi
end

/-- a uint64 that came in -/
theorem u64_of {a : Int} (w : (Lit.int .u64 a).wf = true) : ∃ x : UInt64, a = (x.toNat : Int) := by
  have h := bounds_u64 w
  refine ⟨UInt64.ofNat a.toNat, ?_⟩
  simp only [UInt64.toNat_ofNat', Nat.reducePow]
  omega
theorem u8_of {a : Int} (w : (Lit.int .u8 a).wf = true) : ∃ x : UInt8, a = (x.toNat : Int) := by
  have h := bounds_u8 w
  refine ⟨UInt8.ofNat a.toNat, ?_⟩
  simp only [UInt8.toNat_ofNat', Nat.reducePow]
  omega
end Go.Proofs.YtlkhbfafednegaaDoor
namespace Go.Proofs.YtlkhbfafednegaaDoor
open Go Go.RowKit Go.WideShapes Go.ChangeShapes

def u8of (z : Int) : UInt8 := UInt8.ofNat z.toNat
theorem u8of_eq {z : Int} (h : (Lit.int .u8 z).wf = true) : ((u8of z).toNat : Int) = z := by
  have := bounds_u8 h
  simp only [u8of, UInt8.toNat_ofNat', Nat.reducePow]
  omega
theorem spot_none {w : World} {a : Addr} {v : Value} (h : w.cell? (a.add 0) = some v) : a.spot = none := by
  cases hs : a.spot with
  | none => rfl
  | some x =>
    exfalso
    have e0 : a.add 0 = a := by unfold Addr.add; simp
    rw [e0] at h
    simp only [World.cell?] at h
    cases hb : w.heap[a.block]? with
    | none => simp [hb] at h
    | some o => cases o <;> simp [hb, hs] at h
theorem hb_of_cells {w : World} {A : Option Addr} {L C : Nat} {Z : List Int} (hL : L ≤ C) (hm : C ≤ maxLen) (hZ : Z.length = C) (hw : ∀ n ∈ Z, (Lit.int .u8 n).wf = true) (hn : A = none → C = 0)
    (hc : ∀ a, A = some a → ∀ c, c < C → w.cell? (a.add c) = some (.int .u8 (Z.getD c 0))) : HB w (.slice A L C) ((Z.take L).map u8of) := by
  have hlen : ((Z.take L).map u8of).length = L := by simp; omega
  refine ⟨A, C, by rw [hlen], by rw [hlen]; exact hL, hm, hn, fun h0 => ?_⟩
  have hL0 : 0 < L := by
    rcases Nat.eq_zero_or_pos L with h | h
    · exfalso; apply h0; apply List.eq_nil_of_length_eq_zero; omega
    · exact h
  cases A with
  | none => have := hn rfl; omega
  | some a =>
    have hs := spot_none (hc a rfl 0 (by omega))
    obtain ⟨b, o, sp⟩ := a
    simp only at hs; subst hs
    refine ⟨b, o, rfl, fun i x hx => ?_⟩
    have hi : i < L := by have := (List.getElem?_eq_some_iff.1 hx).1; omega
    have h1 := hc _ rfl i (by omega)
    rw [addi] at h1
    rw [h1]
    have hiZ : i < Z.length := by omega
    rw [List.getElem?_map, List.getElem?_take, if_pos hi, List.getElem?_eq_getElem hiZ] at hx
    simp only [Option.map_some, Option.some.injEq] at hx
    rw [← hx, u8of_eq (hw _ (List.getElem_mem hiZ))]
    simp [List.getD, hiZ]

section
variable {H : Type} {enc : TypeId × Value → H} {P : Program} {W : World}
theorem open_bytes {t e : TypeId} {v : Value} {d : DataW H} {p : List MemPlace} {base : Nat} (ht : P.underlying t = some (.slice e)) (he : P.underlying e = some (.int .u8)) (hc : P.cellsOf e = 1)
    (hv : Value.okWide P W .any base t v) (h : DataW.Trod enc P W 0 (fun _ => true) true t v d p) : ∃ l, HB W v l := by
  obtain ⟨A0, len0, cap0, rfl⟩ := okWide_slice ht hv
  obtain ⟨fuel, hfu⟩ := h
  rcases open_ints ht he hc hfu with ⟨hcs, hx⟩ | ⟨a, len, cap, zs, hcs, _, hl, hm, hz, hx, hcell, hwz⟩
  · simp only [Value.cells] at hcs
    obtain ⟨h1, h2, h3⟩ : A0 = none ∧ len0 = 0 ∧ cap0 = 0 := by simpa using hcs
    subst h1; subst h2; subst h3
    exact ⟨[], HB.nil W⟩
  · simp only [Value.cells] at hcs
    obtain ⟨h1, h2, h3⟩ : A0 = some a ∧ len0 = len ∧ cap0 = cap := by simpa using hcs
    subst h1; subst h2; subst h3
    have hz' : zs.length = cap0 := by simpa using hz
    exact ⟨_, hb_of_cells hl hm hz' hwz (fun h => by cases h) (fun a' ha c hc => by injection ha with ha; subst ha; exact hcell c (by omega))⟩
theorem open_rows {t e q : TypeId} {v : Value} {d : DataW H} {p : List MemPlace} {base : Nat} (ht : P.underlying t = some (.slice e)) (he : P.underlying e = some (.slice q)) (hq : P.underlying q = some (.int .u8)) (ce : P.cellsOf e = 1) (cq : P.cellsOf q = 1)
    (hv : Value.okWide P W .any base t v) (h : DataW.Trod enc P W 0 (fun _ => true) true t v d p) : ∃ ls, HBs W v ls := by
  obtain ⟨A0, len0, cap0, rfl⟩ := okWide_slice ht hv
  obtain ⟨fuel, hfu⟩ := h
  rcases Go.Deep.open_int_rows ht he hq ce cq hfu with ⟨hcs, hx⟩ | ⟨a, len, cap, A, L, C, Z, hcs, _, hl, hm, hx, hrow⟩
  · simp only [Value.cells] at hcs
    obtain ⟨h1, h2, h3⟩ : A0 = none ∧ len0 = 0 ∧ cap0 = 0 := by simpa using hcs
    subst h1; subst h2; subst h3
    exact ⟨[], none, 0, rfl, Nat.le_refl _, by simp [maxLen], fun _ => rfl, fun h => absurd rfl h⟩
  · simp only [Value.cells] at hcs
    obtain ⟨h1, h2, h3⟩ : A0 = some a ∧ len0 = len ∧ cap0 = cap := by simpa using hcs
    subst h1; subst h2; subst h3
    refine ⟨(List.range len0).map fun r => ((Z r).take (L r)).map u8of, some a, cap0, by simp, by simpa using hl, hm, (fun h => by cases h), fun h0 => ?_⟩
    have hl0 : 0 < len0 := by
      rcases Nat.eq_zero_or_pos len0 with h | h
      · subst h; simp at h0
      · exact h
    have hs := spot_none (hrow 0 (by omega)).1
    obtain ⟨b, o, sp⟩ := a
    simp only at hs; subst hs
    refine ⟨b, o, rfl, fun i l hx => ?_⟩
    rw [List.getElem?_map] at hx
    by_cases hi : i < len0
    · simp [hi] at hx; subst hx
      obtain ⟨h1, h2, h3, h4, h5, h6, h7⟩ := hrow i (by omega)
      rw [addi] at h1
      have h8 := hb_of_cells (w := W) h2 h3 h4 h5 h6 (fun a' ha c hc => (h7 a' ha).2 c hc)
      rw [List.map_take] at h8
      exact ⟨_, h1, h8⟩
    · simp [hi] at hx
end
/-- a number of sixteen bits that came in -/
theorem u16_of {a : Int} (w : (Lit.int .u16 a).wf = true) : ∃ x : Nat, a = (x : Int) ∧ x < 65536 := by
  have h := bounds_u16 w
  exact ⟨a.toNat, by omega, by omega⟩
theorem u32_of {a : Int} (w : (Lit.int .u32 a).wf = true) : ∃ x : UInt32, a = (x.toNat : Int) := by
  have h := bounds_u32 w
  refine ⟨UInt32.ofNat a.toNat, ?_⟩
  simp only [UInt32.toNat_ofNat', Nat.reducePow]
  omega
end Go.Proofs.YtlkhbfafednegaaDoor
namespace Go.Proofs.YtlkhbfafednegaaDoor
open Go Go.RowKit Go.WideShapes Go.ChangeShapes

section
variable {H : Type} {enc : TypeId × Value → H} {P : Program} {W : World}
theorem open_barr {t e : TypeId} {n : Nat} {v : Value} {d : DataW H} {p : List MemPlace} {base : Nat} (ht : P.underlying t = some (.array n e)) (he : P.underlying e = some (.int .u8)) (hc : P.cellsOf e = 1) (hct : P.cellsOf t = n)
    (hv : Value.okWide P W .any base t v) (h : DataW.Trod enc P W 0 (fun _ => true) true t v d p) : ∃ l, v = .agg (bvs l) ∧ l.length = n := by
  unfold Value.okWide at hv
  simp only [ht] at hv
  obtain ⟨cs, rfl, hsz, _⟩ := hv
  obtain ⟨fuel, hf⟩ := h
  obtain ⟨xs, m, _, _, hlen, hl, hel⟩ := DataW.trod_array ht hf
  rw [hct] at hsz
  have key : ∀ i, i < n → ∃ x : UInt8, cs[i]? = some (.int .u8 (x.toNat : Int)) := by
    intro i hi
    have h1 := hel i hi
    rw [hc, Nat.mul_one] at h1
    have h2 : xs[i]? = some xs[i] := List.getElem?_eq_getElem (by omega)
    rw [h2] at h1
    obtain ⟨z, hz, _, hw⟩ := DataW.trod_int he h1
    refine ⟨u8of z, ?_⟩
    rw [u8of_eq hw]
    have h3 : (Value.agg cs).cells.toList[i]? = some (.int .u8 z) := by
      have h4 := congrArg (fun l : List Value => l[0]?) hz
      simpa [List.getElem?_take, List.getElem?_drop] using h4
    simpa [Value.cells] using h3
  obtain ⟨f, hf⟩ : ∃ f : Nat → UInt8, ∀ i, i < n → cs[i]? = some (.int .u8 ((f i).toNat : Int)) :=
    ⟨fun i => if h : i < n then (key i h).choose else 0, fun i hi => by simp only [dif_pos hi]; exact (key i hi).choose_spec⟩
  refine ⟨(List.range n).map f, ?_, by simp⟩
  congr 1
  apply Array.ext_getElem?
  intro i
  by_cases hi : i < n
  · rw [bvs_at _ (by simpa using hi), hf i hi]
    have e : at8 ((List.range n).map f) i = f i := by simp [at8, List.getD, hi]
    rw [e]
  · rw [Array.getElem?_eq_none (by omega), Array.getElem?_eq_none (by rw [bvs_size]; simp; omega)]
end
/-- a number of 64 bits that came in -/
theorem u64n_of {a : Int} (w : (Lit.int .u64 a).wf = true) : ∃ x : Nat, a = (x : Int) ∧ x < 18446744073709551616 := by
  have h := bounds_u64 w
  exact ⟨a.toNat, by omega, by omega⟩
end Go.Proofs.YtlkhbfafednegaaDoor
