/-
  slices.Clone and slices.Insert at rows of rows of bytes: what mac.Of needs of them.
-/
import Derived.Test.YtlkhbfafednegaaDoorGA
import Derived.Test.YtlkhbfafednegaaDoorMc2
import Derived.Lib.AppendZeros
import Derived.Lib.Overlaps
import Derived.Laws.Externs
namespace Go.Proofs.YtlkhbfafednegaaDoor
open Go Go.RowKit

/-- v is a row of the call's own, of slices that are the bytes ls in the world w0 -/
def OwnL (w0 w : World) (base : Nat) (v : Value) (ls : List (List UInt8)) : Prop :=
  ∃ vs, vs.length = ls.length ∧ w.ownsRow base 24 1 v ls.length vs ∧ ∀ (i : Nat) (u : Value) (l : List UInt8), vs[i]? = some u → ls[i]? = some l → Lib.HoldsBytes w0 u l
theorem holds_keep {w w' : World} {v : Value} {l : List UInt8} (h : Lib.HoldsBytes w v l) (hk : ∀ a u, w.cell? a = some u → w'.cell? a = some u) : Lib.HoldsBytes w' v l := by
  obtain ⟨p, cap, e, h1, h2⟩ := h
  exact ⟨p, cap, e, h1, fun a ha j x hx => hk _ _ (h2 a ha j x hx)⟩
theorem holds_below {w w' : World} {v : Value} {l : List UInt8} (h : Lib.HoldsBytes w v l) (hb : Below w.heap.size w w') : Lib.HoldsBytes w' v l :=
  holds_keep h fun _ _ hu => (hb.cell (block_lt_of_cell hu)).trans hu
theorem OwnL.keep {w0 w w' : World} {base : Nat} {v : Value} {ls : List (List UInt8)} (h : OwnL w0 w base v ls) (hb : Below w.heap.size w w') : OwnL w0 w' base v ls := by
  obtain ⟨vs, h1, h2, h3⟩ := h
  exact ⟨vs, h1, own_below h2 hb, h3⟩
theorem holds_one {w : World} {v : Value} {l : List UInt8} (h : Lib.HoldsBytes w v l) : v.oneCell' = true := by
  obtain ⟨p, cap, rfl, _⟩ := h; rfl
theorem OwnL.one {w : World} {ls : List (List UInt8)} {vs : List Value} (h1 : vs.length = ls.length) (h3 : ∀ (i : Nat) (u : Value) (l : List UInt8), vs[i]? = some u → ls[i]? = some l → Lib.HoldsBytes w u l) : ∀ u ∈ vs, u.oneCell' = true := by
  intro u hu
  obtain ⟨i, hi, e⟩ := List.getElem_of_mem hu
  exact holds_one (h3 i u ls[i] (by rw [← e]; simp [hi]) (by simp [show i < ls.length by omega]))
/-- what slices.Insert may turn: what is new, and rows of slices from base on -/
def InsC (base : Nat) (w w' : World) : Prop := Below base w w' ∧ ∀ k, k < w.heap.size → (∀ cs fr, w.heap[k]? ≠ some (.cells cs 24 fr)) → w'.heap[k]? = w.heap[k]?
theorem InsC.grown {base : Nat} {a w w' : World} {row : Option Nat} (h : InsC base a w) (hg : w.grownBy w' row) (hb : base ≤ w.heap.size) (hr : ∀ k, row = some k → base ≤ k ∧ (k < a.heap.size → ∃ cs fr, a.heap[k]? = some (.cells cs 24 fr))) : InsC base a w' := by
  refine ⟨h.1.grown hg hb (fun k hk => (hr k hk).1), fun k hk hne => ?_⟩
  rw [hg.block k (Nat.lt_of_lt_of_le hk h.1.size) (fun e => by obtain ⟨cs, fr, h2⟩ := (hr k e.symm).2 hk; exact hne cs fr h2)]
  exact h.2 k hk hne

section
variable {P : Program} {w : World} {ops : Array Oper} {rest : List Oper} {o : Oper} {a : Act} {Q : Exit → Act → World → Prop}
/-- values are copied into a block that is known -/
theorem wpList_copy_vals (hgd : o.guard = none) (d s : Operand) (dT sT : TypeId)
    (ho : o.op = .call { callee := .builtin .copy, args := #[d, s], argTypes := #[dT, sT] }) (elem : TypeId) (hu : P.underlying dT = some (.slice elem)) (hsz : (P.info? elem).map (·.size) = some 1)
    (g off dLen dCap : Nat) (ad : Addr) (sLen sCap : Nat) (hd : a.eval d = .slice (some ⟨g, off, none⟩) dLen dCap) (hs : a.eval s = .slice (some ad) sLen sCap)
    (cur : List Value) (t : TypeId) (hg : Blk w g t cur.toArray) (cs : List Value) (hn : cs.length = Nat.min sLen dLen)
    (hsrc : ∀ j v, cs[j]? = some v → w.cell? (ad.add j) = some v) (hfit : off + cs.length ≤ cur.length) (h1 : ∀ v ∈ cs, v.oneCell' = true)
    (h : ∀ w', Blk w' g t (splice cur off cs).toArray → w.grownBy w' (some g) → w'.heap.size = w.heap.size → wpList P ops Q rest (a.put o.dst (goInt cs.length)) w') : wpList P ops Q (o :: rest) a w := by
  refine wpList_copy_own hgd d s dT sT ho elem hu hsz g off dLen dCap ad sLen sCap hd hs cur.toArray t hg cs hn hsrc (by simpa using hfit) h1 (h _ ?_ (grown_setRow w g _) (by simp [World.setRow]))
  exact setRow_heap w g _ _ t _ hg
/-- 'append(s[:0], make(S, n)...)' where there is no room -/
theorem run_append_zeros_grow (w : World) (t tn ty e : TypeId) (i : TypeInfo) (z : Value) (k kn : IntKind) (ht : P.underlying t = some (.slice e)) (htn : P.underlying tn = some (.int kn)) (hi : P.info? e = some i) (hz : i.zero = some z)
    (b : Addr) (c n : Nat) (h0 : c < n) (hs : 0 < i.size) (h63 : (n : Int) ≤ 9223372036854775807) (hfit : n * i.bytes ≤ 140737488355328) :
    (Builtin.append_ #[t, tn] ty #[.slice (some b) 0 c, .int k n]).run P w =
      .ok (.slice (some ⟨w.heap.size, 0, none⟩) n (grownCap w n c e)) (w.drew.alloc (.cells (Builtin.zeroCells z.cells n ++ Builtin.zeroCells z.cells (grownCap w n c e - n)) e)) := by
  have hn : n ≠ 0 := by omega
  have hnc : ¬ n ≤ c := by omega
  have hw : IntKind.i64.wrap (n : Int) = n := by rw [IntKind.wrap_i64]; omega
  have h63' : ¬ (9223372036854775807 < (n : Int)) := by omega
  have h48' : ¬ (281474976710656 < Builtin.nextslicecap n c * i.bytes) := by have := growslice_fits h0 hfit; omega
  have h48i : ¬ (281474976710656 < (n : Int) * (i.bytes : Int)) := by
    rw [← Int.natCast_mul]
    omega
  have hneg : ¬ ((n : Int) < 0) := by omega
  have hns : ¬ (n * i.size = 0) := Nat.mul_ne_zero hn (by omega)
  have hfo := run_firstCells_some (P := P) w.drew i.size 0 b 0 c [] (by simp) (by simp)
  simp [Builtin.append_, run_underlying ht, run_underlying htn, sizeOf, typeInfo, zeroValue, hi, hz, asInt, asIntOf, hw, hnc, hneg, hns, h63', h48', h48i, Question.forced, hfo, newRow, grownCap]
end

theorem splice01 {α : Type} (L xs : List α) (y : α) (h : xs.length + 1 ≤ L.length) : (splice (splice L 0 [y]) 1 xs).take (xs.length + 1) = y :: xs := by
  cases L with
  | nil => simp at h
  | cons a r =>
    simp only [splice, List.take_zero, List.nil_append, List.length_singleton, Nat.zero_add, List.singleton_append, List.drop_succ_cons, List.drop_zero, List.take_succ_cons]
    simp
theorem splice10 {α : Type} (L xs : List α) (y : α) (h : xs.length + 1 ≤ L.length) : (splice (splice L 1 xs) 0 [y]).take (xs.length + 1) = y :: xs := by
  cases L with
  | nil => simp at h
  | cons a r =>
    simp only [splice, List.take_zero, List.nil_append, List.length_singleton, Nat.zero_add, List.take_succ_cons, List.cons_append, List.drop_succ_cons, List.drop_zero]
    simp
theorem splice_length {α : Type} (L xs : List α) (off : Nat) (h : off + xs.length ≤ L.length) : (splice L off xs).length = L.length := length_splice L off xs h
theorem infoS : ∃ i, Tryd.prog.info? 24 = some i ∧ i.zero = some (.slice none 0 0) ∧ i.size = 1 ∧ i.bytes = 24 := by
  have h : (Tryd.prog.info? 24).map (fun i => (i.zero, i.size, i.bytes)) = some (some (.slice none 0 0), 1, 24) := by kernel_rfl
  obtain ⟨i, hi, he⟩ := Option.map_eq_some_iff.1 h
  simp only [Prod.mk.injEq] at he
  exact ⟨i, hi, he.1, he.2.1, he.2.2⟩

set_option maxRecDepth 100000 in
set_option maxHeartbeats 1000000 in
theorem cloneL_any (v : Value) (ls : List (List UInt8)) (w : World) (w0 : World) (hP : Parts w0 v ls) (hB0 : Below w0.heap.size w0 w) (hn : ls.length ≤ 1000000) :
    Calls Tryd.prog 53 #[v] w fun e w' => ∃ v', e = .returned v' ∧ OwnL w0 w' w.heap.size v' ls ∧ Below w.heap.size w w' := by
  have key : ∀ (p : Option Addr) (c : Nat) (vs : List Value), vs.length = ls.length → (p = none → ls = []) → (∀ a, p = some a → ∀ (j : Nat) (u : Value), vs[j]? = some u → w.cell? (a.add j) = some u) → (∀ (i : Nat) (u : Value) (l : List UInt8), vs[i]? = some u → ls[i]? = some l → Lib.HoldsBytes w0 u l) →
      Calls Tryd.prog 53 #[.slice p ls.length c] w fun e w' => ∃ v', e = .returned v' ∧ OwnL w0 w' w.heap.size v' ls ∧ Below w.heap.size w w' := by
    intro p c vs hvl hpn hcell hh
    obtain ⟨iS, hiS, hzS, hszS, hbyS⟩ := infoS
    have HIS := Lib.hid hiS; clear hiS
    cases p with
    | none =>
      have hl0 := hpn rfl
      have HL0 := Lib.hid hl0
      clear hl0 hcell hh hpn hvl
      have hq := run_eql_nil (P := Tryd.prog) w none ls.length c Tryd.underlying42
      go_enter Tryd.func53, Tryd.ntmps53
      go_wp2_with fail
      go_ret
      refine ⟨_, rfl, ?_, Below.refl _ _⟩
      rw [HL0.out]
      exact ⟨[], rfl, World.ownsRow_nil _ _ _ _, fun i u l hu => by simp at hu⟩
    | some a =>
      have HC := Lib.hid (hcell a rfl)
      have HH := Lib.hid hh
      have HVL := Lib.hid hvl
      clear hcell hh hpn hvl
      have hq := run_eql_nil (P := Tryd.prog) w (some a) ls.length c Tryd.underlying42
      go_enter Tryd.func53, Tryd.ntmps53
      go_wp2_with (at_builtin
                   have hB1 : Below w.heap.size w (w.alloc (.cells #[] 24)) := (Below.refl w.heap.size w).alloc (Nat.le_refl _) _
                   refine wpList_append_own _ rfl (.tmp 5) (.tmp 6) 42 rfl w.heap.size 24 iS (.slice none 0 0) 1 24 Tryd.underlying42 HIS.out hzS hszS hbyS rfl (by decide) _ 0 [] rfl (World.ownsRow_made w #[] 0 (Nat.le_refl _) (by decide) (by simp)) a ls.length c vs rfl (by rw [HVL.out]; simp) (fun j u hj => (hB1.cell (block_lt_of_cell (HC.out j u hj))).trans (HC.out j u hj)) (OwnL.one HVL.out HH.out) (by simp only [maxLen]; omega) (by omega) (by simp) ?_
                   intro v' w2 hown' hgrow _
                   have HO2 : Hid (OwnL w0 w2 w.heap.size v' ls) := Lib.hid (by
                     rw [Nat.zero_add, List.nil_append] at hown'
                     exact ⟨vs, HVL.out, hown', HH.out⟩)
                   have HB2 : Hid (Below w.heap.size w w2) := Lib.hid (hB1.grown hgrow (by simp) (fun j hj => by simp [Act.eval, Value.ownBlock] at hj; omega))
                   clear hown' hgrow)
      go_ret
      exact ⟨_, rfl, HO2.out, HB2.out⟩
  rcases hP with ⟨p, c, rfl, rfl⟩ | ⟨b, o, c, vs, rfl, hc, h1, h2, h3⟩
  · exact key p c [] rfl (fun _ => rfl) (fun _ _ j u hu => by simp at hu) (fun i u l hu => by simp at hu)
  · exact key _ c vs h1 (fun h => by cases h) (fun a ha j u hu => by injection ha with ha; subst ha; exact (hB0.cell (block_lt_of_cell (h2 j u hu))).trans (h2 j u hu)) h3
theorem Blk.shape {w : World} {g : Nat} {t : TypeId} {cs : Array Value} (h : Blk w g t cs) : w.shape? g = some (t, cs.size) := by
  have e : w.heap[g]? = some (.cells cs t (0, 0)) := h
  simp [World.shape?, e]

theorem InsC.of_below {base : Nat} {w w' : World} (hb : Below w.heap.size w w') (hbase : base ≤ w.heap.size) : InsC base w w' := ⟨hb.mono hbase, fun k hk _ => hb.block k hk⟩
theorem run_zeros_ex (w : World) (iS : TypeInfo) (hiS : Tryd.prog.info? 24 = some iS) (hzS : iS.zero = some (.slice none 0 0)) (hszS : iS.size = 1) (hbyS : iS.bytes = 24) (ty g cap n : Nat) (h : cap < n + 1) (hn : n ≤ 1000000) :
    ∃ (C : Nat) (Z : List Value), n + 1 ≤ C ∧ C ≤ maxLen ∧ Z.length = C ∧ (Builtin.append_ #[42, 3] ty #[.slice (some ⟨g, 0, none⟩) 0 cap, .int .i64 ((n : Int) + 1)]).run Tryd.prog w = .ok (.slice (some ⟨w.heap.size, 0, none⟩) (n + 1) C) (w.drew.alloc (.cells Z.toArray 24)) := by
  have hr := run_append_zeros_grow (P := Tryd.prog) w 42 3 ty 24 iS _ .i64 .i64 Tryd.underlying42 Tryd.underlying3 hiS hzS ⟨g, 0, none⟩ cap (n + 1) h (by omega) (by omega) (by rw [hbyS]; omega)
  have hge := grownCap_ge w (n + 1) cap 24
  have hle := grownCap_le_maxLen w (n + 1) cap 24 (by simp only [maxLen]; omega)
  generalize grownCap w (n + 1) cap 24 = C at *
  refine ⟨C, (Builtin.zeroCells (Value.slice none 0 0).cells (n + 1) ++ Builtin.zeroCells (Value.slice none 0 0).cells (C - (n + 1))).toList, hge, hle, ?_, ?_⟩
  · simp only [Array.length_toList, Array.size_append, size_zeroCells]; simp [Value.cells]; omega
  · rw [Array.toArray_toList]
    exact hr

set_option maxRecDepth 100000 in
set_option maxHeartbeats 2000000 in
theorem insert_any (base : Nat) (v y : Value) (xs : List Value) (ug : Nat) (w : World) (ho : w.ownsRow base 24 1 v xs.length xs) (hu : Blk w ug 24 #[y]) (hy : y.oneCell' = true) (h1 : ∀ x ∈ xs, x.oneCell' = true) (hn : xs.length ≤ 1000000) (hbase : base ≤ w.heap.size) :
    Calls Tryd.prog 52 #[v, .int .i64 0, .slice (some ⟨ug, 0, none⟩) 1 1] w fun e w' => ∃ v', e = .returned v' ∧ w'.ownsRow base 24 1 v' (xs.length + 1) (y :: xs) ∧ InsC base w w' := by
  obtain ⟨iS, hiS, hzS, hszS, hbyS⟩ := infoS
  have HIS := Lib.hid hiS; clear hiS
  have HU := Lib.hid hu
  have hcu : ∀ j u, [y][j]? = some u → w.cell? ((⟨ug, 0, none⟩ : Addr).add j) = some u := by
    intro j u hj
    match j with
    | 0 => simp at hj; subst hj; rw [add0, hu.cell]; rfl
    | j + 1 => simp at hj
  have HCU := Lib.hid hcu
  clear hcu
  by_cases h0 : xs = []
  · subst h0
    obtain ⟨A, cap, rfl⟩ := own_form ho
    have HO := Lib.hid ho
    clear ho hu
    simp only [List.length_nil] at HO ⊢
    go_enter Tryd.func52, Tryd.ntmps52
    go_wp2_with (at_builtin
                 refine wpList_append_own _ rfl (.tmp 23) (.tmp 24) 42 rfl base 24 iS (.slice none 0 0) 1 24 Tryd.underlying42 HIS.out hzS hszS hbyS rfl (by decide) _ 0 [] rfl HO.out ⟨ug, 0, none⟩ 1 1 [y] rfl rfl HCU.out (by simpa using hy) (by decide) (by decide) hbase ?_
                 intro v' w2 hown' hgrow _
                 have HR : Hid (w2.ownsRow base 24 1 v' 1 [y] ∧ InsC base w w2) := Lib.hid ⟨hown', InsC.grown ⟨Below.refl _ _, fun _ _ _ => rfl⟩ hgrow hbase (fun k hk => ⟨own_ge HO.out k hk, fun hlt => by
                   rcases HO.out.2 with ⟨e, _⟩ | ⟨g', cap', cur, e, _, hg, _⟩
                   · injection e with e1; subst e1; simp [Act.eval, Value.ownBlock] at hk
                   · injection e with e1; subst e1; simp [Act.eval, Value.ownBlock] at hk; subst hk; exact ⟨_, _, hg⟩⟩)⟩
                 clear hown' hgrow)
    go_ret
    exact ⟨_, rfl, HR.out.1, HR.out.2⟩
  · have hpos : 0 < xs.length := List.length_pos_iff.2 h0
    obtain ⟨g, cap, cur, rfl, hbg, hg, hnc, hcm, hcs, htk, _⟩ := own_blk ho hpos
    obtain ⟨n, hnn⟩ : ∃ n, n = xs.length := ⟨_, rfl⟩
    have HX : Hid (∀ (W : World), Blk W g 24 cur → ∀ j u, xs[j]? = some u → W.cell? ((⟨g, 0, none⟩ : Addr).add j) = some u) := Lib.hid (by
      intro W hW j u hj
      rw [addi, Nat.zero_add, hW.cell]
      rw [← htk, List.getElem?_take] at hj
      split at hj
      · simpa using hj
      · cases hj)
    have HL := Lib.hid hnn
    rw [← hnn] at hpos hn hnc ⊢
    have HG := Lib.hid hg
    have HCS := Lib.hid hcs
    have HCL : Hid (cur.toList.length = cap) := Lib.hid (by rw [Array.length_toList]; exact hcs)
    clear ho hu hg hcs htk h0 hnn
    by_cases hroom : n + 1 ≤ cap
    · have hcap1 : ¬ cap = 1 := by omega
      have hne : ug ≠ g := by
        intro e
        have h1 := HG.out; have h2 := HU.out
        rw [e] at h2
        have h3 : cur = #[y] := by
          have e1 : w.heap[g]? = some (.cells cur 24 (0, 0)) := h1
          have e2 : w.heap[g]? = some (.cells #[y] 24 (0, 0)) := h2
          rw [e1] at e2; injection e2 with e2; injection e2
        have h4 := HCS.out
        rw [h3] at h4; simp at h4; omega
      have hov : ∀ lb cb, (callFunc 62 #[.slice (some ⟨ug, 0, none⟩) 1 1, .slice (some ⟨g, 1, none⟩) lb cb]).run Tryd.prog w = .ok (.value (.bool false)) w := fun lb cb => by
        rw [run_callFunc_extern Tryd.func62 (by kernel_rfl) (by kernel_rfl) (by kernel_rfl) (e := Extern.SlicesOverlaps.overlaps #[42, 42] #[4]) (by kernel_rfl),
          Lib.run_overlaps_apart w 42 4 24 Tryd.underlying42 1 Tryd.sizeOf24 ⟨ug, 0, none⟩ ⟨g, 1, none⟩ 1 1 lb cb hne 24 24 1 cap HU.out.shape (by rw [HG.out.shape, HCS.out]) (by omega) (HU.out.frozen 0) (HU.out.frozen 1)]
        rfl
      have hm63 : cap ≤ 9223372036854775807 := by simpa [maxLen] using hcm
      go_enter Tryd.func52, Tryd.ntmps52
      go_wp2_with fail
      have hn0 : (n : Int) ≤ (cap : Int) := by omega
      refine wp_region_tail 8 [.eq (.slice (some ⟨g, 0, none⟩) (n + 1) cap), .eq (.int .i64 0), .eq (.int .i64 1), .eq (.int .i64 1), .eq (.slice (some ⟨g, 1, none⟩) n (cap - 1)), .eq (.slice (some ⟨g, 0, none⟩) (n + 1) cap), .eq (.int .i64 0), .eq (.slice (some ⟨g, 0, none⟩) (n + 1) cap)] (by kernel_rfl) (by kernel_rfl) (by kernel_rfl) (by kernel_rfl) rfl (by decide) (by kernel_rfl) _ (fun f => by simp only [framedL, Act.put, List.setIfInBounds_toArray, List.set_cons_zero, List.set_cons_succ, Nat.reduceAdd]; rfl) ⟨?_, ?_, ?_, ?_, ?_, ?_, ?_, ?_, trivial⟩ ?_
      · refine oweAs_pure ((.slice (some ⟨g, 0, none⟩) (n + 1) cap)) rfl (fun f W hE hd => ?_) (fun W hE => rfl)
        go_simp
      · refine oweAs_pure ((.int .i64 0)) rfl (fun f W hE hd => ?_) (fun W hE => rfl)
        go_simp
      · refine oweAs_pure ((.int .i64 1)) rfl (fun f W hE hd => ?_) (fun W hE => rfl)
        go_simp
      · refine oweAs_pure ((.int .i64 1)) rfl (fun f W hE hd => ?_) (fun W hE => rfl)
        simp only [DepAs, Region.binds, asAt, As.holds, and_true, forall_const] at hd
        have hw1 : IntKind.i64.wrap 1 = 1 := by decide
        go_simp
      · refine oweAs_pure ((.slice (some ⟨g, 1, none⟩) n (cap - 1))) rfl (fun f W hE hd => ?_) (fun W hE => rfl)
        simp only [DepAs, Region.binds, asAt, As.holds, and_true, forall_const] at hd
        have hs1 : ¬ ((n : Int) + 1 < 1) := by omega
        go_simp
      · refine oweAs_pure ((.slice (some ⟨g, 0, none⟩) (n + 1) cap)) rfl (fun f W hE hd => ?_) (fun W hE => rfl)
        go_simp
      · refine oweAs_pure ((.int .i64 0)) rfl (fun f W hE hd => ?_) (fun W hE => rfl)
        go_simp
      · refine oweAs_pure ((.slice (some ⟨g, 0, none⟩) (n + 1) cap)) rfl (fun f W hE hd => ?_) (fun W hE => rfl)
        simp only [DepAs, Region.binds, asAt, As.holds, and_true, forall_const] at hd
        have hs1 : ¬ ((n : Int) + 1 < 0) := by omega
        go_simp
      intro f W hE hA
      simp only [AllAs, As.holds, Nat.reduceAdd] at hA
      obtain ⟨-, -, -, -, hA4, -, -, hA7, -⟩ := hA
      simp only [List.drop_succ_cons, List.drop_zero]
      rw [hA4, hA7]
      have HE := Lib.hid hE
      have HGW := Lib.hid (HG.out.below hE HG.out.lt)
      clear hE hA4 hA7 hov
      go_wp2_with (first
        | (refine wpList_copy_vals rfl (.tmp 80) (.tmp 81) 42 42 rfl 24 Tryd.underlying42 (by kernel_rfl) g 0 (n + 1) cap ⟨ug, 0, none⟩ 1 1 rfl rfl (splice cur.toList 1 xs) 24 HW3.out.1 [y] (by show 1 = min 1 (n + 1); omega) HW3.out.2.1 (by rw [splice_length _ _ _ (by have h7 := HCL.out; have h8 := HL.out; omega), HCL.out]; simp; omega) (by simpa using hy) ?_
           intro w4 hb4 hg4 hz4
           have HW4 : Hid (Blk w4 g 24 (splice (splice cur.toList 1 xs) 0 [y]).toArray ∧ InsC base w w4) := Lib.hid ⟨hb4, HW3.out.2.2.grown hg4 (by have := HW3.out.2.2.1.size; omega) (fun k hk => by injection hk with hk; subst hk; exact ⟨hbg, fun _ => ⟨_, _, HG.out⟩⟩)⟩
           clear hb4 hg4 hz4 HW3)
        | (refine wpList_copy_vals rfl (.tmp 73) (.tmp 76) 42 42 rfl 24 Tryd.underlying42 (by kernel_rfl) g 1 n (cap - 1) ⟨g, 0, none⟩ (n + 1) cap rfl rfl cur.toList 24 HGW.out xs (by show xs.length = min (n + 1) n; rw [← HL.out]; omega) (HX.out W HGW.out) (by have h7 := HCL.out; have h8 := HL.out; omega) h1 ?_
           intro w3 hb3 hg3 hz3
           have HW3 : Hid (Blk w3 g 24 (splice cur.toList 1 xs).toArray ∧ (∀ j u, [y][j]? = some u → w3.cell? ((⟨ug, 0, none⟩ : Addr).add j) = some u) ∧ InsC base w w3) := Lib.hid ⟨hb3, fun j u hj => by
             have h5 := (HE.out.cell (p := (⟨ug, 0, none⟩ : Addr).add j) (by rw [addb]; exact HU.out.lt)).trans (HCU.out j u hj)
             exact hg3.cell h5 (by rw [addb]; intro h; injection h with h; exact hne h),
             (InsC.of_below HE.out hbase).grown hg3 (by have := HE.out.size; omega) (fun k hk => by injection hk with hk; subst hk; exact ⟨hbg, fun _ => ⟨_, _, HG.out⟩⟩)⟩
           clear hb3 hg3 hz3))
      go_ret
      refine ⟨_, rfl, ?_, HW4.out.2⟩
      refine own_mk hbg HW4.out.1 hroom hcm ?_ ?_ (by simp [HL.out])
      · rw [List.size_toArray, splice_length _ _ _ (by rw [splice_length _ _ _ (by have h7 := HCL.out; have h8 := HL.out; omega), HCL.out]; simp; omega), splice_length _ _ _ (by have h7 := HCL.out; have h8 := HL.out; omega), HCL.out]
      · have e : (splice (splice cur.toList 1 xs) 0 [y]).toArray.toList = splice (splice cur.toList 1 xs) 0 [y] := rfl
        rw [e, HL.out]
        exact splice10 _ _ _ (by have h7 := HCL.out; have h8 := HL.out; omega)
    · obtain ⟨C, Z, hC, hCm, hZ, hr⟩ := run_zeros_ex w iS HIS.out hzS hszS hbyS 42 g cap n (by omega) hn
      have HR := Lib.hid hr
      have HZ := Lib.hid hZ
      clear hr hZ
      have hm63 : cap ≤ 9223372036854775807 := by simpa [maxLen] using hcm
      have hC63 : C ≤ 9223372036854775807 := by simpa [maxLen] using hCm
      go_enter Tryd.func52, Tryd.ntmps52
      go_wp2_with (first
        | (at_builtin
           refine Lib.wpList_append_run _ rfl (.tmp 34) (.tmp 39) 42 3 rfl _ _ rfl rfl _ _ HR.out ?_
           have hb2 : Blk (w.drew.alloc (.cells Z.toArray 24)) w.heap.size 24 Z.toArray := Blk.new w.drew _ _
           have hB2 : Below w.heap.size w (w.drew.alloc (.cells Z.toArray 24)) := (Below.refl w.heap.size w).drew.alloc (Nat.le_refl _) _
           have HB2 := Lib.hid (And.intro hb2 hB2)
           clear hb2 hB2
           generalize w.drew.alloc (.cells Z.toArray 24) = w2 at *)
        | (refine wpList_copy_vals rfl (.tmp 43) (.tmp 44) 42 42 rfl 24 Tryd.underlying42 (by kernel_rfl) w.heap.size 0 (n + 1) C ⟨ug, 0, none⟩ 1 1 rfl rfl Z 24 HB2.out.1 [y] (by show 1 = min 1 (n + 1); omega) (fun j u hj => (HB2.out.2.cell (by rw [addb]; exact HU.out.lt)).trans (HCU.out j u hj)) (by rw [HZ.out]; simp; omega) (by simpa using hy) ?_
           intro w3 hb3 hg3 hz3
           have HB3 : Hid (Blk w3 w.heap.size 24 (splice Z 0 [y]).toArray ∧ Below w.heap.size w w3) := Lib.hid ⟨hb3, HB2.out.2.grown hg3 HB2.out.2.size (by intro k hk; injection hk with hk; omega)⟩
           clear hb3 hg3 hz3 HB2))
      refine wp_region_tail 8 [.eq (.slice (some ⟨w.heap.size, 0, none⟩) (n + 1) C), .eq (.int .i64 0), .eq (.int .i64 1), .eq (.int .i64 1), .eq (.slice (some ⟨w.heap.size, 1, none⟩) n (C - 1)), .eq (.slice (some ⟨g, 0, none⟩) n cap), .eq (.int .i64 0), .eq (.slice (some ⟨g, 0, none⟩) n cap)] (by kernel_rfl) (by kernel_rfl) (by kernel_rfl) (by kernel_rfl) rfl (by decide) (by kernel_rfl) _ (fun f => by simp only [framedL, Act.put, List.setIfInBounds_toArray, List.set_cons_zero, List.set_cons_succ, Nat.reduceAdd]; rfl) ⟨?_, ?_, ?_, ?_, ?_, ?_, ?_, ?_, trivial⟩ ?_
      · refine oweAs_pure ((.slice (some ⟨w.heap.size, 0, none⟩) (n + 1) C)) rfl (fun f W hE hd => ?_) (fun W hE => rfl)
        go_simp
      · refine oweAs_pure ((.int .i64 0)) rfl (fun f W hE hd => ?_) (fun W hE => rfl)
        go_simp
      · refine oweAs_pure ((.int .i64 1)) rfl (fun f W hE hd => ?_) (fun W hE => rfl)
        go_simp
      · refine oweAs_pure ((.int .i64 1)) rfl (fun f W hE hd => ?_) (fun W hE => rfl)
        simp only [DepAs, Region.binds, asAt, As.holds, and_true, forall_const] at hd
        have hw1 : IntKind.i64.wrap 1 = 1 := by decide
        go_simp
      · refine oweAs_pure ((.slice (some ⟨w.heap.size, 1, none⟩) n (C - 1))) rfl (fun f W hE hd => ?_) (fun W hE => rfl)
        simp only [DepAs, Region.binds, asAt, As.holds, and_true, forall_const] at hd
        have hC1 : ¬ C = 1 := by omega
        have hs1 : ¬ ((n : Int) + 1 < 1) := by omega
        go_simp
      · refine oweAs_pure ((.slice (some ⟨g, 0, none⟩) n cap)) rfl (fun f W hE hd => ?_) (fun W hE => rfl)
        go_simp
      · refine oweAs_pure ((.int .i64 0)) rfl (fun f W hE hd => ?_) (fun W hE => rfl)
        go_simp
      · refine oweAs_pure ((.slice (some ⟨g, 0, none⟩) n cap)) rfl (fun f W hE hd => ?_) (fun W hE => rfl)
        simp only [DepAs, Region.binds, asAt, As.holds, and_true, forall_const] at hd
        have hs1 : ¬ ((n : Int) < 0) := by omega
        go_simp
      intro f W hE hA
      simp only [AllAs, As.holds, Nat.reduceAdd] at hA
      obtain ⟨-, -, -, -, hA4, -, -, hA7, -⟩ := hA
      simp only [List.drop_succ_cons, List.drop_zero]
      rw [hA4, hA7]
      have HW : Hid (Blk W w.heap.size 24 (splice Z 0 [y]).toArray ∧ Below w.heap.size w W) := Lib.hid ⟨HB3.out.1.below hE HB3.out.1.lt, HB3.out.2.trans (hE.mono HB3.out.2.size)⟩
      clear hE hA4 hA7 HB3
      go_wp2_with (
        (refine wpList_copy_vals rfl (.tmp 50) (.tmp 53) 42 42 rfl 24 Tryd.underlying42 (by kernel_rfl) w.heap.size 1 n (C - 1) ⟨g, 0, none⟩ n cap rfl rfl (splice Z 0 [y]) 24 HW.out.1 xs (by show xs.length = min n n; rw [← HL.out]; omega) (HX.out W (HG.out.below HW.out.2 HG.out.lt)) (by rw [splice_length _ _ _ (by rw [HZ.out]; simp; omega), HZ.out]; have h8 := HL.out; omega) h1 ?_
         intro w4 hb4 hg4 hz4
         have HW4 : Hid (Blk w4 w.heap.size 24 (splice (splice Z 0 [y]) 1 xs).toArray ∧ Below w.heap.size w w4) := Lib.hid ⟨hb4, HW.out.2.grown hg4 HW.out.2.size (by intro k hk; injection hk with hk; omega)⟩
         clear hb4 hg4 hz4 HW))
      go_ret
      refine ⟨_, rfl, ?_, InsC.of_below HW4.out.2 hbase⟩
      refine own_mk hbase HW4.out.1 hC hCm ?_ ?_ (by simp [HL.out])
      · rw [List.size_toArray, splice_length _ _ _ (by rw [splice_length _ _ _ (by rw [HZ.out]; simp; omega), HZ.out]; have h8 := HL.out; omega), splice_length _ _ _ (by rw [HZ.out]; simp; omega), HZ.out]
      · have e : (splice (splice Z 0 [y]) 1 xs).toArray.toList = splice (splice Z 0 [y]) 1 xs := rfl
        rw [e, HL.out]
        exact splice01 _ _ _ (by have h7 := HZ.out; have h8 := HL.out; omega)
end Go.Proofs.YtlkhbfafednegaaDoor
