/-
  The walk of mac.Of.
-/
import Derived.Test.YtlkhbfafednegaaDoorMc3
import Derived.Test.YtlkhbfafednegaaDoorMc1
import Derived.Test.YtlkhbfafednegaaDoorGB
namespace Go.Proofs.YtlkhbfafednegaaDoor
open Go Go.RowKit

theorem own_less {w : World} {base b' n size : Nat} {e : TypeId} {v : Value} {xs : List Value} (h : w.ownsRow base e size v n xs) (hb : b' ≤ base) : w.ownsRow b' e size v n xs := by
  obtain ⟨h1, h2⟩ := h
  refine ⟨h1, ?_⟩
  rcases h2 with h2 | ⟨g, cap, cur, hv, hbg, hg⟩
  · exact .inl h2
  · exact .inr ⟨g, cap, cur, hv, by omega, hg⟩
theorem OwnL.less {w0 w : World} {base b' : Nat} {v : Value} {ls : List (List UInt8)} (h : OwnL w0 w base v ls) (hb : b' ≤ base) : OwnL w0 w b' v ls := by
  obtain ⟨vs, h1, h2, h3⟩ := h
  exact ⟨vs, h1, own_less h2 hb, h3⟩
/-- a slice of all of a pad -/
def PadL (w : World) (u : Value) (l : List UInt8) : Prop := ∃ q, u = .slice (some ⟨q, 0, none⟩) 64 64 ∧ Blk w q 113 (bvs l)
theorem PadL.keep {w w' : World} {u : Value} {l : List UInt8} (h : PadL w u l) (hb : Below w.heap.size w w') : PadL w' u l := by
  obtain ⟨q, h1, h2⟩ := h
  exact ⟨q, h1, h2.below hb h2.lt⟩
theorem blk_ins {w w' : World} {base q : Nat} {t : TypeId} {cs : Array Value} (h : Blk w q t cs) (ht : t ≠ 24) (hi : InsC base w w') : Blk w' q t cs := by
  have e : w.heap[q]? = some (.cells cs t (0, 0)) := h
  exact (hi.2 q h.lt (fun cs' fr h2 => by rw [e] at h2; injection h2 with h2; injection h2 with h3 h4 h5; exact ht h4)).trans h
theorem PadL.ins {w w' : World} {base : Nat} {u : Value} {l : List UInt8} (h : PadL w u l) (hi : InsC base w w') : PadL w' u l := by
  obtain ⟨q, h1, h2⟩ := h
  exact ⟨q, h1, blk_ins h2 (by decide) hi⟩
theorem PadL.hb {w : World} {u : Value} {l : List UInt8} (h : PadL w u l) (hl : l.length = 64) : HB w u l := by
  obtain ⟨q, rfl, h2⟩ := h
  exact HB.blk h2 hl (by decide)
/-- one new slice of a pad -/
def OneP (w : World) (u : Value) (l : List UInt8) : Prop := ∃ q y, u = .slice (some ⟨q, 0, none⟩) 1 1 ∧ Blk w q 24 #[y] ∧ PadL w y l
theorem OneP.keep {w w' : World} {u : Value} {l : List UInt8} (h : OneP w u l) (hb : Below w.heap.size w w') : OneP w' u l := by
  obtain ⟨q, y, h1, h2, h3⟩ := h
  exact ⟨q, y, h1, h2.below hb h2.lt, h3.keep hb⟩
/-- what Insert makes: a pad ahead of the call's own rows -/
def InsL (w0 w : World) (base : Nat) (u : Value) (l : List UInt8) (ls : List (List UInt8)) : Prop :=
  ∃ y vs, vs.length = ls.length ∧ w.ownsRow base 24 1 u (ls.length + 1) (y :: vs) ∧ PadL w y l ∧ ∀ (i : Nat) (u : Value) (m : List UInt8), vs[i]? = some u → ls[i]? = some m → Lib.HoldsBytes w0 u m
theorem InsL.keep {w0 w w' : World} {base : Nat} {u : Value} {l : List UInt8} {ls : List (List UInt8)} (h : InsL w0 w base u l ls) (hb : Below w.heap.size w w') : InsL w0 w' base u l ls := by
  obtain ⟨y, vs, h1, h2, h3, h4⟩ := h
  exact ⟨y, vs, h1, own_below h2 hb, h3.keep hb, h4⟩
theorem InsL.parts {w0 w : World} {base : Nat} {u : Value} {l : List UInt8} {ls : List (List UInt8)} (h : InsL w0 w base u l ls) (hl : l.length = 64) (hb : Below w0.heap.size w0 w) : Parts w u (l :: ls) := by
  obtain ⟨y, vs, h1, h2, h3, h4⟩ := h
  have e : ∀ (i : Nat) (x : Value) (m : List UInt8), (y :: vs)[i]? = some x → (l :: ls)[i]? = some m → Lib.HoldsBytes w x m := by
    intro i x m hx hm
    cases i with
    | zero => simp at hx hm; subst hx; subst hm; exact (h3.hb hl).holds
    | succ i => exact holds_below (h4 i x m (by simpa using hx) (by simpa using hm)) hb
  rcases h2.2 with ⟨_, h0⟩ | ⟨g, cap, cur, rfl, _, _, hnc, _, _, _⟩
  · omega
  · exact .inr ⟨g, 0, cap, y :: vs, by simp, by simpa using hnc, by simp [h1], h2.cells rfl, e⟩
/-- an assertion of a pointer to a new array -/
def PtrB (w : World) (base : Nat) (u : Value) : Prop := ∃ q, u = .pointer (some ⟨q, 0, none⟩) ∧ base ≤ q ∧ Blk w q 66 (bvs (List.replicate 32 0))
theorem PtrB.keep {w w' : World} {base : Nat} {u : Value} (h : PtrB w base u) (hb : Below w.heap.size w w') : PtrB w' base u := by
  obtain ⟨q, h1, h2, h3⟩ := h
  exact ⟨q, h1, h2, h3.below hb h3.lt⟩
theorem PtrB.ins {w w' : World} {base b : Nat} {u : Value} (h : PtrB w base u) (hi : InsC b w w') : PtrB w' base u := by
  obtain ⟨q, h1, h2, h3⟩ := h
  exact ⟨q, h1, h2, blk_ins h3 (by decide) hi⟩
theorem wp_of_call {P : Program} {o : Oper} {a : Act} {W : World} {K : Act → World → Prop} {Q : Exit → Act → World → Prop} {n : FuncId} {args : Array Value} (hr : (execOp a.eval o).run P W = .ok (.enter n args) W) (hc : Calls P n args W fun e w' => ∃ v, e = .returned v ∧ K (a.put o.dst v) w') : o.wp P a W K Q := by
  unfold Oper.wp
  rw [hr]
  refine Calls.mono hc ?_
  rintro e w' ⟨v, rfl, h⟩
  exact h

set_option maxRecDepth 100000 in
set_option maxHeartbeats 1000000 in
theorem macOf_any (key : List UInt8) (v : Value) (ls : List (List UInt8)) (w : World) (hk : key.length = 32) (hT : Tab w) (h0 : 0 < w.heap.size) (hP : Parts w v ls) (hn : ls.length ≤ 999999) (hs : ls.flatten.length ≤ 999900) :
    Calls Tryd.prog 37 #[.agg (bvs key), v] w fun e w' => e = .returned (.agg (bvs (macF key ls.flatten))) ∧ Below w.heap.size w w' := by
  have hbz : (bvs key).size = 32 := by rw [bvs_size]; exact hk
  have HT := Lib.hid hT
  have HP := Lib.hid hP
  clear hT hP
  go_enter Tryd.func37, Tryd.ntmps37
  go_wp2_with fail
  refine wp_abs (fun W => ∃ g, g = w.heap.size ∧ Blk W g 23 (bvs key) ∧ Blk W (g + 1) 66 (bvs (List.replicate 32 0)) ∧ Below g w W) ⟨_, rfl, ?_, ?_, ?_⟩ ?_
  · exact (Blk.new w _ _).alloc _
  · exact Blk.new' (w := w.alloc _) (by simp) _ _
  · exact ((Below.refl w.heap.size w).alloc (Nat.le_refl _) _).alloc (by simp) _
  rintro W0 ⟨g, hg, hI⟩
  rw [← hg]
  have HI := Lib.hid hI
  have HG := Lib.hid hg
  have HB1 : Hid (Below w.heap.size w W0) := Lib.hid (hg ▸ hI.2.2)
  clear hI hg
  obtain ⟨x, hx⟩ : ∃ x, x = sha (padK key 54 :: ls).flatten := ⟨_, rfl⟩
  have HX := Lib.hid hx
  have hxl : x.length = 32 := by rw [hx]; exact sha_length _
  have hxz : (bvs x).size = 32 := by rw [bvs_size]; exact hxl
  clear hx
  have hp54 := padK_length key 54
  refine wp_region_cons 8 5 [.eq v, .st (fun u W => OwnL W0 W W0.heap.size u ls) (fun _ _ _ h hb => h.keep hb), .eq (.agg (bvs key)), .st (fun u W => PadL W u (padK key 54)) (fun _ _ _ h hb => h.keep hb), .st (fun u W => OneP W u (padK key 54)) (fun _ _ _ h hb => h.keep hb), .st (fun u W => InsL W0 W W0.heap.size u (padK key 54) ls) (fun _ _ _ h hb => h.keep hb), .eq (.agg (bvs (x))), .st (fun u W => PtrB W W0.heap.size u) (fun _ _ _ h hb => h.keep hb)] [.eq v, .any, .eq (.agg (bvs key)), .any, .any, .st (fun u W => InsL W0 W W0.heap.size u (padK key 54) ls) (fun _ _ _ h hb => h.keep hb), .eq (.agg (bvs (x))), .st (fun u W => PtrB W W0.heap.size u) (fun _ _ _ h hb => h.keep hb)] [1, 3, 4] [0, 1, 0, 1, 1, 2, 0, 0] (InsC W0.heap.size) (by kernel_rfl) (by kernel_rfl) (by kernel_rfl) (by kernel_rfl) rfl (by decide) (by kernel_rfl) (by intro j hj; rcases j with _|_|_|_|_|_|_|_|_ <;> first | rfl | exact absurd (by decide) hj) (by intro j hj; simp only [List.mem_cons, List.not_mem_nil, or_false] at hj; rcases hj with rfl|rfl|rfl <;> rfl) (by kernel_rfl) _ (fun f => by simp only [framedL, Act.put, List.setIfInBounds_toArray, List.set_cons_zero, List.set_cons_succ, Nat.reduceAdd]; rfl) ⟨?_, ?_, ?_, ?_, ?_, trivial, ?_, ?_, trivial⟩ ?_ ?_ ?_ ?_
  · refine oweAs_pure (v) rfl (fun f W hE hd => ?_) (fun W hE => rfl)
    go_simp
  · refine oweAs_call 53 rfl (fun f W hE hd => ?_)
    simp only [DepAs, Region.binds, asAt, As.holds, and_true, forall_const] at hd
    refine ⟨_, by (go_simp; first | exact rfl | exact ⟨rfl, rfl⟩), ?_⟩
    refine (cloneL_any v ls W W0 (HP.out.keep HB1.out) hE (by omega)).mono ?_
    rintro e w' ⟨v', rfl, ho, hb⟩
    exact ⟨_, rfl, ho.less hE.size, hb⟩
  · exact oweAs_load 23 (.tmp 2) rfl (g) 23 (bvs key) (fun _ => rfl) (HI.out.1) Tryd.underlying23 rfl (by rw [bvs_size, hk]; kernel_rfl) rfl rfl
  · refine oweAs_call 54 rfl (fun f W hE hd => ?_)
    simp only [DepAs, Region.binds, asAt, As.holds, and_true, forall_const] at hd
    refine ⟨_, by (go_simp; first | exact rfl | exact ⟨rfl, rfl⟩), ?_⟩
    refine (pad_any key 54 W hk).mono ?_
    rintro e w' ⟨q, rfl, hq, hb⟩
    exact ⟨_, rfl, ⟨q, rfl, hq⟩, hb⟩
  · refine oweAs_made rfl (fun f W hE hd => ?_)
    simp only [DepAs, Region.binds, asAt, As.holds, and_true, forall_const] at hd
    obtain ⟨q, hq, hbq⟩ := hd
    refine ⟨_, _, by (go_simp; first | exact rfl | exact ⟨rfl, rfl⟩), ?_, (Below.refl W.heap.size W).alloc (Nat.le_refl _) _⟩
    exact ⟨_, _, rfl, Blk.new _ _ _, PadL.keep ⟨q, rfl, hbq⟩ ((Below.refl W.heap.size W).alloc (Nat.le_refl _) _)⟩
  · refine oweAs_call 51 rfl (fun f W hE hd => ?_)
    simp only [DepAs, Region.binds, asAt, As.holds, and_true, forall_const] at hd
    refine ⟨_, by (go_simp; first | exact rfl | exact ⟨rfl, rfl⟩), ?_⟩
    have hl := HB1.out.size
    have hz := hE.size
    refine (of_any _ _ W ((HT.out.below HB1.out h0).below hE (by omega)) (by omega) (by first | exact (((by first | exact hd | exact hd.1) : InsL W0 W W0.heap.size (f 5) (padK key 54) ls).parts hp54 hE) | exact (((by first | exact hd | exact hd.1) : InsL W0 W W0.heap.size (f 5) (padK key 54) ls).parts hp54 hE).1) (by first | (simp; done) | (simp; omega)) (by rw [List.flatten_cons, List.length_append, hp54]; omega)).mono ?_
    rintro e w' ⟨rfl, hb⟩
    exact ⟨_, rfl, by (show (_ : Value) = _; rw [HX.out]), hb⟩
  · refine oweAs_made rfl (fun f W hE hd => ?_)
    refine ⟨_, _, by (go_simp; first | exact rfl | exact ⟨rfl, rfl⟩), ?_, (Below.refl W.heap.size W).alloc (Nat.le_refl _) _⟩
    exact ⟨_, rfl, hE.size, Blk.new _ _ _⟩
  · intro oc hoc f W hE hd K hK
    simp only [List.getElem?_toArray, List.getElem?_cons_succ, List.getElem?_cons_zero, Option.some.injEq] at hoc
    subst hoc
    simp only [DepAs, Region.binds, asAt, As.holds, and_true, forall_const] at hd
    obtain ⟨⟨vs, hvl, hvo, hvh⟩, ⟨ug, y, hu, hub, hpy⟩⟩ : (OwnL W0 W W0.heap.size (f 1) ls) ∧ OneP W (f 4) (padK key 54) := by first | exact hd | exact ⟨hd.1, hd.2.1⟩
    refine wp_of_call (n := 52) (by (go_simp; first | exact rfl | exact ⟨rfl, rfl⟩)) ?_
    rw [hu] at hK ⊢
    rw [← hvl] at hvo
    refine (insert_any W0.heap.size (f 1) y vs ug W hvo hub (by obtain ⟨q, rfl, _⟩ := hpy; rfl) (OwnL.one hvl hvh) (by omega) hE.size).mono ?_
    rintro e w' ⟨v', rfl, ho, hi⟩
    exact ⟨_, rfl, hK v' w' ⟨y, vs, hvl, by rw [← hvl]; exact ho, hpy.ins hi, hvh⟩ hi⟩
  · intro W W' hE hX
    exact hX.1
  · intro j hj hc v W W' hE h hX
    rcases j with _|_|_|_|_|_|_|_|_ <;> first | exact absurd rfl hc | exact absurd (by decide) hj | trivial | exact h | exact PtrB.ins h hX
  intro f W hE hA
  simp only [AllAs, As.holds, Nat.reduceAdd] at hA
  obtain ⟨-, -, -, -, -, -, hA6, hA7, -⟩ := hA
  simp only [List.drop_succ_cons, List.drop_zero]
  obtain ⟨q5, hp5, hq5, hb5⟩ := hA7
  rw [hA6, hp5]
  have HE := Lib.hid hE
  have HQ := Lib.hid hb5
  clear hE hA6 hb5 hp5
  go_wp2_with (refine wpList_store_blk rfl 66 (.tmp 5) (.tmp 12) rfl q5 66 _ (bvs x) rfl rfl HQ.out (by rw [hxz]; rfl) (by rw [hxz]; kernel_rfl) (bvs_one _) ?_
               intro w3 hb3 hg3 hz3
               have HI3 : Hid (Blk w3 q5 66 (bvs x) ∧ Blk w3 g 23 (bvs key) ∧ Blk w3 (g + 1) 66 (bvs (List.replicate 32 0)) ∧ Below w.heap.size w w3) := by
                 have h1 := HI.out.1.lt
                 have h2 := HI.out.2.1.lt
                 have h3 := HG.out
                 exact Lib.hid ⟨hb3, (HI.out.1.below HE.out h1).grown hg3 (by intro h; injection h with h; omega), (HI.out.2.1.below HE.out h2).grown hg3 (by intro h; injection h with h; omega), (HB1.out.trans (HE.out.mono HB1.out.size)).grown hg3 (by have := HB1.out.size; have := HE.out.size; omega) (by intro k hk; injection hk with hk; omega)⟩
               clear hb3 hg3 hz3 HQ)
  have HB0 := HB1
  clear HB1 HI HE
  have HB1 : Hid (Below w.heap.size w w3) := Lib.hid HI3.out.2.2.2
  obtain ⟨m, hm⟩ : ∃ m, m = macF key ls.flatten := ⟨_, rfl⟩
  have hml : m.length = 32 := by rw [hm]; exact macF_length _ _
  have hmz : (bvs m).size = 32 := by rw [bvs_size]; exact hml
  have hms : sha ([padK key 92, x].flatten) = m := by
    rw [hm, HX.out]; simp [macF]
  have HM := Lib.hid hm
  have HMS := Lib.hid hms
  clear hm hms
  simp only [Act.put]
  have hp92 := padK_length key 92
  refine wp_region_tail 5 [.eq (.agg (bvs key)), .st (fun u W => PadL W u (padK key 92)) (fun _ _ _ h hb => h.keep hb), .eq (.slice (some ⟨q5, 0, none⟩) 32 32), .parts [padK key 92, x], .eq (.agg (bvs (m)))] (by kernel_rfl) (by kernel_rfl) (by kernel_rfl) (by kernel_rfl) rfl (by decide) (by kernel_rfl) _ (fun f => by simp only [framedL, Act.put, List.setIfInBounds_toArray, List.set_cons_zero, List.set_cons_succ, Nat.reduceAdd]; rfl) ⟨?_, ?_, ?_, ?_, ?_, trivial⟩ ?_
  · exact oweAs_load 23 (.tmp 2) rfl (g) 23 (bvs key) (fun _ => rfl) (HI3.out.2.1) Tryd.underlying23 rfl (by rw [bvs_size, hk]; kernel_rfl) rfl rfl
  · refine oweAs_call 54 rfl (fun f W hE hd => ?_)
    simp only [DepAs, Region.binds, asAt, As.holds, and_true, forall_const] at hd
    refine ⟨_, by (go_simp; first | exact rfl | exact ⟨rfl, rfl⟩), ?_⟩
    refine (pad_any key 92 W hk).mono ?_
    rintro e w' ⟨q, rfl, hq, hb⟩
    exact ⟨_, rfl, ⟨q, rfl, hq⟩, hb⟩
  · refine oweAs_pure ((.slice (some ⟨q5, 0, none⟩) 32 32)) rfl (fun f W hE hd => ?_) (fun W hE => rfl)
    go_simp
  · refine oweAs_made rfl (fun f W hE hd => ?_)
    simp only [DepAs, Region.binds, asAt, As.holds, and_true, forall_const] at hd
    obtain ⟨⟨q, hq, hbq⟩, hsl⟩ := hd
    have hP := parts_new2 (w := W) (t := 24) rfl (HB.blk hbq hp92 (by decide)) (HB.blk (HI3.out.1.below hE HI3.out.1.lt) hxl (by decide))
    refine ⟨_, _, by (go_simp; first | exact rfl | exact ⟨rfl, rfl⟩), ?_, (Below.refl W.heap.size W).alloc (Nat.le_refl _) _⟩
    exact hP
  · refine oweAs_call 51 rfl (fun f W hE hd => ?_)
    simp only [DepAs, Region.binds, asAt, As.holds, and_true, forall_const] at hd
    refine ⟨_, by (go_simp; first | exact rfl | exact ⟨rfl, rfl⟩), ?_⟩
    have hl := HB1.out.size
    have hz := hE.size
    refine (of_any _ _ W ((HT.out.below HB1.out h0).below hE (by omega)) (by omega) (by first | exact hd | exact hd.1) (by first | (simp; done) | (simp; omega)) (by simp [hp92, hxl])).mono ?_
    rintro e w' ⟨rfl, hb⟩
    exact ⟨_, rfl, by (show (_ : Value) = _; rw [HMS.out]), hb⟩
  intro f W hE hA
  simp only [AllAs, As.holds, Nat.reduceAdd] at hA
  obtain ⟨-, -, -, -, hA4, -⟩ := hA
  simp only [List.drop_succ_cons, List.drop_zero]
  rw [hA4]
  have HE := Lib.hid hE
  clear hE hA4
  go_wp2_with (refine wpList_store_blk rfl 66 (.tmp 4) (.tmp 17) rfl (g + 1) 66 _ (bvs m) rfl rfl (HI3.out.2.2.1.below HE.out HI3.out.2.2.1.lt) (by rw [hmz]; rfl) (by rw [hmz]; kernel_rfl) (bvs_one _) ?_
               intro w4 hb4 hg4 hz4)
  refine bodyPost_ret (results_cell Tryd.results37 rfl (t := 66) (g := g + 1) (cs := bvs m) hb4 Tryd.underlying66 rfl (by rw [hmz]; kernel_rfl)) rfl ⟨by rw [HM.out], ?_⟩
  have h1 := HI3.out.2.2.1.lt
  have h2 := HG.out
  have h3 := HE.out.size
  exact (HB1.out.trans (HE.out.mono HB1.out.size)).grown hg4 (by omega) (by intro k hk; injection hk with hk; omega)
end Go.Proofs.YtlkhbfafednegaaDoor
