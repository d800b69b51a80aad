/-
  The walk of proof.Prove.
-/
import Derived.Test.YtofbfkkncjcodaaDoorPf5
import Derived.Test.YtofbfkkncjcodaaDoorPf6
import Derived.Test.YtofbfkkncjcodaaDoorCl
import Derived.Test.YtofbfkkncjcodaaDoorIdA
import Derived.Maps.AppendAt
import Derived.OwnWalk
namespace Go.Proofs.YtofbfkkncjcodaaDoor
open Go Go.RowKit Go.Shelf
set_option linter.unusedSimpArgs false
set_option linter.unusedVariables false

attribute [local go_sem] Oper.semAt_some

/-- the i-th row above -/
def upF (l : List Dig) : Nat → List Dig
  | 0 => l
  | k + 1 => aboveF (upF l k)
theorem upF_length (l : List Dig) (k : Nat) : (upF l k).length = stN l.length k := by
  induction k with
  | zero => rfl
  | succ k ih => rw [upF, aboveF_length, ih, stN]; omega
/-- the way behind k rows -/
def wayK (l : List Dig) (i : Nat) : Nat → List Dig
  | 0 => []
  | k + 1 => wayK l i k ++ (if besideF (stN l.length k) (stI i k) = true then [(upF l k).getD (stI i k ^^^ 1) []] else [])
theorem wayK_rest (l : List Dig) (i k : Nat) (hk : k ≤ (stepsF l.length i).length) : wayK l i k ++ wayF (upF l k) (stI i k) = wayF l i := by
  induction k with
  | zero => rfl
  | succ k ih =>
    have h1 : 1 < stN l.length k := (steps_lt _ _ _).1 hk
    rw [← ih (by omega), wayF_more (l := upF l k) (by rw [upF_length]; exact h1), wayK, upF, stI, upF_length]
    simp
theorem wayK_all (l : List Dig) (i : Nat) : wayK l i (stepsF l.length i).length = wayF l i := by
  have h := wayK_rest l i _ (Nat.le_refl _)
  rw [wayF_end (l := upF l _) (by rw [upF_length, ← steps_lt _ i]; omega)] at h
  simpa using h
theorem wayK_length (l : List Dig) (i k : Nat) : (wayK l i k).length ≤ k := by
  induction k with
  | zero => exact Nat.le_refl _
  | succ k ih => rw [wayK]; split <;> simp <;> omega

theorem keepI_own {Bs base n : Nat} {t : TypeId} {size : Nat} {A B : World} {v : Value} {vs : List Value} (ho : A.ownsRow base t size v n vs) (hg : A.grownBy B v.ownBlock) (ht : t ≠ 3) : KeepI Bs A B := by
  rcases ho.2 with ⟨rfl, _⟩ | ⟨g, cap, cur, rfl, _, hh, _⟩
  · exact KeepI.below ⟨hg.os, hg.tape, hg.output, hg.size, fun i hi => hg.block i hi (by simp [Value.ownBlock])⟩
  · exact KeepI.grown (g := g) hg (show Blk A g t cur from hh) ht
/-- two rows lie in two blocks -/
def ApartV (u v : Value) : Prop := ∀ j, u.ownBlock = some j → v.ownBlock ≠ some j
theorem ApartV.nil (u : Value) : ApartV u (.slice none 0 0) := fun j _ => by simp [Value.ownBlock]
theorem own_lt {w : World} {base n size : Nat} {e : TypeId} {v : Value} {xs : List Value} (h : w.ownsRow base e size v n xs) (j : Nat) (hj : v.ownBlock = some j) : j < w.heap.size := by
  rcases h.2 with ⟨rfl, _⟩ | ⟨g, cap, cur, rfl, _, hg, _⟩
  · simp [Value.ownBlock] at hj
  · simp [Value.ownBlock] at hj
    subst hj
    exact (Array.getElem?_eq_some_iff.1 hg).1

theorem steps_len (n i : Nat) : (stepsF n i).length ≤ n := by
  induction n using Nat.strongRecOn generalizing i with
  | _ n ih =>
    by_cases h : 1 < n
    · rw [stepsF_more h, List.length_cons]
      have := ih (n - n / 2) (by omega) (i / 2)
      omega
    · rw [stepsF_end h]; exact Nat.zero_le _

theorem cell_blk {w : World} {a : Addr} {u : Value} (h : w.cell? a = some u) : ∃ cs t fr, w.heap[a.block]? = some (.cells cs t fr) := by
  unfold World.cell? at h
  cases ho : w.heap[a.block]? with
  | none => simp [ho] at h
  | some o => cases o <;> simp_all

set_option maxRecDepth 100000 in
set_option maxHeartbeats 4000000 in
theorem prove_any (v : Value) (b : List UInt8) (i : Int) (w : World) (hT : Tab w) (h0 : 0 < w.heap.size) (h : HB w v b) (hb : b.length ≤ 10000000) :
    Calls Tryd.prog 10 #[v, .int .i64 i] w fun e w' => ∃ v1 v2, e = .returned (.tuple #[v1, v2, .int .i64 ((proveF b i).2.2 : Int)]) ∧ HB w' v1 (proveF b i).1 ∧ IdR w' w.heap.size v2 (proveF b i).2.1.length (proveF b i).2.1 ∧ Below w.heap.size w w' := by
  obtain ⟨ii, hii, hzi, hsi, hbi⟩ := infoId
  have HII := Lib.hid hii; clear hii
  have HT := Lib.hid hT
  have H := Lib.hid h
  obtain ⟨p, cap, rfl, hlc, hcm⟩ := h.form
  obtain ⟨N, hN⟩ : ∃ N, N = nlF b.length := ⟨_, rfl⟩
  have hNb : N ≤ 1000000 := by rw [hN]; unfold nlF; omega
  have hN1 : 1 ≤ N := by rw [hN]; unfold nlF; omega
  have HN := Lib.hid hN
  clear hT h hN
  refine (callsIn_wide (n := 4)).1 (callsIn_of_wp_marks Tryd.func10 rfl trivial ?_ rfl)
  simp only [Tryd.ntmps10, List.size_toArray, List.length_cons, List.length_nil, Nat.reduceAdd, Nat.reduceSub, Array.replicate_succ, Array.replicate_zero, List.push_toArray, List.append_toArray, List.nil_append, List.cons_append]
  refine wpIn_wide.2 ?_
  by_cases hbad : i < 0 ∨ (N : Int) ≤ i
  · have HP : Hid (proveF b i = ([], [], 14)) := Lib.hid (by unfold proveF; rw [if_pos (by rw [← HN.out]; exact hbad)])
    by_cases h1 : i < 0
    · have a1 : decide (i < 0) = true := decide_eq_true h1
      go_wp2_with fail
      refine (leaves_any _ b w H.out (by omega)).mono ?_
      rintro e w1 ⟨rfl, rfl⟩
      rw [← HN.out]
      go_wp2_with fail
      refine ⟨_, results_tmp3 rfl _ _ _, ?_⟩
      rw [HP.out]
      exact ⟨_, _, rfl, HB.nil _, IdR.nil _ _, Below.refl _ _⟩
    · have a1 : decide (i < 0) = false := decide_eq_false h1
      have a2 : decide ((N : Int) ≤ i) = true := decide_eq_true (by omega)
      go_wp2_with fail
      refine (leaves_any _ b w H.out (by omega)).mono ?_
      rintro e w1 ⟨rfl, rfl⟩
      rw [← HN.out]
      go_wp2_with fail
      refine ⟨_, results_tmp3 rfl _ _ _, ?_⟩
      rw [HP.out]
      exact ⟨_, _, rfl, HB.nil _, IdR.nil _ _, Below.refl _ _⟩
  obtain ⟨I, rfl⟩ : ∃ I : Nat, i = (I : Int) := ⟨i.toNat, by omega⟩
  have hIN : I < N := by omega
  have a1 : decide ((I : Int) < 0) = false := decide_eq_false (by omega)
  have a2 : decide ((N : Int) ≤ (I : Int)) = false := decide_eq_false (by omega)
  have HP : Hid (proveF b (I : Int) = (leafF b I, wayF (rowF b) I, 0)) := Lib.hid (by unfold proveF; rw [if_neg (by rw [← HN.out]; exact hbad)]; rfl)
  clear hbad
  obtain ⟨G, hG⟩ : ∃ G, G = w.heap.size := ⟨_, rfl⟩
  have HG := Lib.hid hG
  go_wp2_with fail
  refine (leaves_any _ b w H.out (by omega)).mono ?_
  rintro e w1 ⟨rfl, rfl⟩
  rw [← HN.out]
  go_wp2_with fail
  refine (digests_any _ b w HT.out h0 H.out (by omega)).mono ?_
  rintro e w1 ⟨v1, rfl, hr1, hb1⟩
  rw [← HN.out] at hr1
  obtain ⟨A1, c1, rfl⟩ := hr1.form
  have HI1 := Lib.hid (And.intro hr1 hb1)
  obtain ⟨R, hR⟩ : ∃ R, R = w1.heap.size := ⟨_, rfl⟩
  have hRw : w.heap.size ≤ R := by rw [hR]; exact hb1.size
  have HI2 : Hid (∀ W, W = (((w1.alloc (.cells #[.slice A1 N c1] 24)).alloc (.cells #[.slice none 0 0] 24)).alloc (.cells #[.int .i64 (N : Int)] 3)).alloc (.cells #[.int .i64 (I : Int)] 3) →
      Blk W R 24 #[.slice A1 N c1] ∧ Blk W (R + 1) 24 #[.slice none 0 0] ∧ Blk W (R + 2) 3 #[.int .i64 (N : Int)] ∧ Blk W (R + 3) 3 #[.int .i64 (I : Int)] ∧ IdR W w.heap.size (.slice A1 N c1) N (rowF b) ∧ Below w.heap.size w W ∧ W.heap.size = R + 4) := Lib.hid (by
    rintro W rfl
    have hA : Below w1.heap.size w1 ((((w1.alloc (.cells #[.slice A1 N c1] 24)).alloc (.cells #[.slice none 0 0] 24)).alloc (.cells #[.int .i64 (N : Int)] 3)).alloc (.cells #[.int .i64 (I : Int)] 3)) :=
      ((((Below.refl w1.heap.size w1).alloc (Nat.le_refl _) _).alloc (by simp) _).alloc (by simp; omega) _).alloc (by simp; omega) _
    refine ⟨?_, ?_, ?_, ?_, hr1.keep hA, hb1.trans (hA.mono hb1.size), by simp [hR]⟩
    · rw [hR]; exact (((Blk.new w1 _ _).alloc _).alloc _).alloc _
    · rw [hR]; exact ((Blk.new' (w := w1.alloc _) (by simp) _ _).alloc _).alloc _
    · rw [hR]; exact (Blk.new' (w := (w1.alloc _).alloc _) (by simp) _ _).alloc _
    · rw [hR]; exact Blk.new' (w := ((w1.alloc _).alloc _).alloc _) (by simp) _ _)
  clear hr1 hb1
  go_wp2_with fail
  refine (steps_any N I _).mono ?_
  rintro e W2 ⟨rfl, hW2⟩
  have HI := Lib.hid (HI2.out W2 hW2)
  simp only [World.size_alloc]
  rw [← hR]
  clear hW2 HI2 hR
  go_wp2_with fail
  have hsz := HI.out.2.2.2.2.2.2
  have hseq := steps1_seq (R + 2) N I W2 (by omega) (by omega) HI.out.2.2.1 HI.out.2.2.2.1
  have HRL : Hid ((rowF b).length = N) := Lib.hid (by rw [rowF_length, HN.out])
  refine (wpIn_wide (n := 2 + 2)).1 ?_
  apply wpIn_range_n (n := 2) (gf := 38) (lb := #[.pointer (some ⟨R + 2, 0, none⟩), .pointer (some ⟨R + 2 + 1, 0, none⟩)]) rfl (enters_of Tryd.func38 (by kernel_rfl) rfl) hseq (Below.refl _ _) (fun _ => rfl) (fun _ _ _ h k => KeepI.trans h k)
    (fun X Y h => KeepI.turns h) (fun X Y h => KeepS.keepN h (by omega))
    (fun q W => ∃ u v, Blk W R 24 #[u] ∧ Blk W (R + 1) 24 #[v] ∧ IdR W w.heap.size u (stN N q) (upF (rowF b) q) ∧ IdR W w.heap.size v (wayK (rowF b) I q).length (wayK (rowF b) I q) ∧ ApartV u v ∧ Below w.heap.size w W) (fun _ _ => False)
    (fun q X Y h ht => by obtain ⟨u, v, h1, h2, h3, h4, h5, h6⟩ := h; exact ⟨u, v, ht.blk h1, ht.blk h2, ⟨ht.own h3.1, h3.2⟩, ⟨ht.own h4.1, h4.2⟩, h5, ht.below h6 (by omega)⟩) (fun _ _ _ h _ => h)
    (fun q X Y h hb => by obtain ⟨u, v, h1, h2, h3, h4, h5, h6⟩ := h; exact ⟨u, v, hb.heap h1 (by decide), hb.heap h2 (by decide), ⟨hb.own h3.1 (by decide), h3.2⟩, ⟨hb.own h4.1 (by decide), h4.2⟩, h5, h6.trans (hb.1.mono (by omega))⟩)
    (fun o1 o2 => ⟨_, _, (HI.out.1.alloc _).alloc _, (HI.out.2.1.alloc _).alloc _, ⟨(HI.out.2.2.2.2.1.1.alloc _).alloc _, HI.out.2.2.2.2.1.2⟩, IdR.nil _ _, ApartV.nil _, (HI.out.2.2.2.2.2.1.alloc (by omega) _).alloc (by simp; omega) _⟩)
  case hassign =>
    intro ly q V K hK
    simp only [stepV]
    gi_wp2
    exact hK
  case hstop =>
    rintro D cc V _ h _
    exact h.elim
  case hdone =>
    intro D V hD hI hK
    obtain ⟨u, v2, h1, h2, h3, h4, h5, h6⟩ := hI
    obtain ⟨Aw, cw, rfl⟩ := h4.form
    rw [show wayK (rowF b) I (stepsF N I).length = wayF (rowF b) I by rw [← HRL.out]; exact wayK_all _ _] at h2 h4
    obtain ⟨m, hm⟩ : ∃ m, m = (wayF (rowF b) I).length := ⟨_, rfl⟩
    have HM := Lib.hid hm
    rw [← hm] at h2 h4
    have HX : Hid (Blk V (R + 1) 24 #[.slice Aw m cw] ∧ IdR V w.heap.size (.slice Aw m cw) m (wayF (rowF b) I) ∧ Below w.heap.size w V) := Lib.hid ⟨h2, h4, h6⟩
    have c9 := HX.out.1.cell 0
    simp only [List.getElem?_toArray, List.getElem?_cons_zero] at c9
    have hIi : (I : Int) < (N : Int) := by omega
    have HBX := Lib.hid HX.out.2.2
    clear h1 h2 h3 h4 h5 h6 hm
    go_wp2_with fail
    refine wp_region_as (ys := [.eq (.slice p b.length cap), .st (fun v W => RowsH W 0 v N (leafsF b)) (fun v W W' h hb => h.keep hb), .eq (.int .i64 (I : Int)), .st (fun v W => ∃ g u, v = .pointer (some ⟨g, I, none⟩) ∧ W.cell? ⟨g, I, none⟩ = some u ∧ HB W u (leafF b I)) (fun v W W' h hb => by obtain ⟨g, u, e1, e2, e3⟩ := h; exact ⟨g, u, e1, (hb.cell (p := ⟨g, I, none⟩) (lt_of_cell e2)).trans e2, e3.keep hb⟩), .hb (leafF b I), .hb (leafF b I), .eq (.slice Aw m cw), .hb (leafF b I), .eq (.slice Aw m cw), .eq (.int .i64 0)]) (by kernel_rfl) (by kernel_rfl) (by kernel_rfl) (by kernel_rfl) rfl _ (fun f => by simp only [framedL, Act.put, List.setIfInBounds_toArray, List.set_cons_zero, List.set_cons_succ, Nat.reduceAdd]; rfl) ⟨?_, ?_, ?_, ?_, ?_, ?_, ?_, ?_, ?_, ?_, trivial⟩ ?_
    · refine oweAs_pure ((.slice p b.length cap)) rfl (fun f W hE hd => ?_) (fun W hE => rfl)
      go_simp
    · refine oweAs_call 25 rfl (fun f W hE hd => ?_)
      simp only [DepAs, Region.binds, asAt, As.holds, and_true, forall_const] at hd
      refine ⟨_, by (go_simp; first | exact rfl | exact ⟨rfl, rfl⟩), ?_⟩
      refine (split_any _ b W (H.out.keep (HBX.out.trans (hE.mono HBX.out.size))) (by omega)).mono ?_
      rintro e w' ⟨v', rfl, hr, hb⟩
      rw [← HN.out] at hr
      exact ⟨_, rfl, ⟨hr.1, by obtain ⟨_, vs, g1, g2⟩ := hr; exact ⟨vs, own_base g1 (Nat.zero_le _), g2⟩⟩, hb⟩
    · refine oweAs_pure ((.int .i64 (I : Int))) rfl (fun f W hE hd => ?_) (fun W hE => rfl)
      go_simp
    · refine oweAs_made rfl (fun f W hE hd => ?_)
      simp only [DepAs, Region.binds, asAt, As.holds, and_true, forall_const] at hd
      obtain ⟨hd1, hd2⟩ := hd
      obtain ⟨A, c, hf⟩ := RowsH.form hd1
      rw [hf] at hd1
      obtain ⟨g, u, e1, e2, e3⟩ := hd1.at_ (leafsF_at (by rw [← HN.out]; exact hIN))
      subst e1
      refine ⟨_, _, by (go_simp; first | exact rfl | exact ⟨rfl, rfl⟩), ⟨g, u, by first | rfl | simp, e2, e3⟩, Below.refl _ _⟩
    · refine oweAs_made rfl (fun f W hE hd => ?_)
      simp only [DepAs, Region.binds, asAt, As.holds, and_true, forall_const] at hd
      obtain ⟨g, u, e1, e2, e3⟩ := hd
      obtain ⟨pu, cu, rfl, -, -⟩ := e3.form
      refine ⟨_, _, by first | (go_simp; done) | (go_simp; exact rfl) | (go_simp; exact ⟨rfl, rfl⟩), e3, Below.refl _ _⟩
    · refine oweAs_call 24 rfl (fun f W hE hd => ?_)
      simp only [DepAs, Region.binds, asAt, As.holds, and_true, forall_const] at hd
      refine ⟨_, by (go_simp; first | exact rfl | exact ⟨rfl, rfl⟩), ?_⟩
      have hl := leafF_length b I
      refine (cloneB_any _ (leafF b I) W hd.1 (by omega)).mono ?_
      rintro e w' ⟨v', rfl, ho, hb⟩
      exact ⟨_, rfl, own_hb ho rfl, hb⟩
    · refine oweAs_pure ((.slice Aw m cw)) rfl (fun f W hE hd => ?_) (fun W hE => rfl)
      simp only [DepAs, Region.binds, asAt, As.holds, and_true, forall_const] at hd
      have d9 := (hE.cell (p := ⟨R + 1, 0, none⟩) (lt_of_cell c9)).trans c9
      go_simp
    · refine oweAs_made rfl (fun f W hE hd => ?_)
      simp only [DepAs, Region.binds, asAt, As.holds, and_true, forall_const] at hd
      obtain ⟨pu, cu, e1, -, -⟩ := hd.1.form
      refine ⟨_, _, by first | (go_simp; done) | (go_simp; exact rfl) | (go_simp; exact ⟨rfl, rfl⟩), hd.1, Below.refl _ _⟩
    · refine oweAs_pure ((.slice Aw m cw)) rfl (fun f W hE hd => ?_) (fun W hE => rfl)
      simp only [DepAs, Region.binds, asAt, As.holds, and_true, forall_const] at hd
      go_simp
    · refine oweAs_pure ((.int .i64 0)) rfl (fun f W hE hd => ?_) (fun W hE => rfl)
      go_simp
    intro f W hE hA
    simp only [AllAs, As.holds, Nat.reduceAdd] at hA
    obtain ⟨-, -, -, -, -, -, -, hA7, hA8, hA9, -⟩ := hA
    rw [hA8, hA9]
    have hK2 : W.heap[D]? = some (.deferred (some [])) := (hE.block D (Array.getElem?_eq_some_iff.1 hK).1).trans hK
    have ht : Turns W2.heap.size W (W.putObj D (.deferred none)) := ⟨D, _, _, hD, hK2, rfl, rfl⟩
    have HR : Hid (HB (W.putObj D (.deferred none)) (f 7) (leafF b I) ∧ IdR (W.putObj D (.deferred none)) w.heap.size (.slice Aw m cw) m (wayF (rowF b) I) ∧ Below w.heap.size w (W.putObj D (.deferred none))) := Lib.hid ⟨hA7.keepG (fun b o u hu => Turns.cell hu ht (cell_blk hu)), ⟨ht.own (own_below HX.out.2.1.1 hE), HX.out.2.1.2⟩, ht.below (HX.out.2.2.trans (hE.mono HX.out.2.2.size)) (by omega)⟩
    clear hE hA7 hA8 hA9 ht
    go_wp2
    refine ⟨by simp, .inl ⟨_, _, rfl, run_takeDeferred hK2, ?_⟩⟩
    refine ⟨_, results_tmp3 rfl _ _ _, ?_⟩
    rw [HP.out, ← HM.out]
    exact ⟨_, _, rfl, HR.out⟩
  case hbody =>
    intro ly q U hqN hI hz2
    obtain ⟨u, v2, h1, h2, h3, h4, h5, h6⟩ := hI
    obtain ⟨Au, cu, rfl⟩ := h3.form
    obtain ⟨Aw, cw, rfl⟩ := h4.form
    obtain ⟨x, hx⟩ : ∃ x, x = stI I q := ⟨_, rfl⟩
    obtain ⟨M, hM⟩ : ∃ M, M = stN N q := ⟨_, rfl⟩
    obtain ⟨m, hm⟩ : ∃ m, m = (wayK (rowF b) I q).length := ⟨_, rfl⟩
    have hM1 : 1 < M := by rw [hM]; exact (steps_lt N I q).1 hqN
    have hMN : M ≤ N := by rw [hM]; exact stN_le N q
    have hxI : x ≤ I := by rw [hx]; exact stI_le I q
    have hqN2 : (stepsF N I).length ≤ N := steps_len N I
    have hmq : m ≤ q := by rw [hm]; exact wayK_length _ _ _
    have hxor := i64_xor1 x (by omega)
    rw [← hM] at h1 h3 h5 ⊢
    rw [← hx]
    rw [← hm] at h2 h4 h5
    have HQ := Lib.hid (And.intro hx (And.intro hM hm))
    have HI4 := Lib.hid (And.intro h1 (And.intro h2 (And.intro h3 (And.intro h4 (And.intro h5 h6)))))
    have hRU := h1.lt
    have hrl : (upF (rowF b) q).length = M := h3.2.1
    have HRQ := Lib.hid hrl
    clear h1 h2 h3 h4 h5 h6 hx hM hm hrl
    by_cases hbs : besideF M x = true
    · have hxM : x ^^^ 1 < M := of_decide_eq_true hbs
      have hxMi : ((x ^^^ 1 : Nat) : Int) < (M : Int) := by omega
      obtain ⟨y, hy⟩ : ∃ y, y = x ^^^ 1 := ⟨_, rfl⟩
      rw [hbs]
      obtain ⟨d, hd⟩ : ∃ d, (upF (rowF b) q)[y]? = some d := ⟨_, List.getElem?_eq_getElem (by rw [hy, HRQ.out]; exact hxM)⟩
      obtain ⟨b1, o1, rfl, hat⟩ := HI4.out.2.2.1.ids.at_ (by omega)
      obtain ⟨hdl, hdr⟩ := hat y d hd
      have HWK : Hid (wayK (rowF b) I (q + 1) = wayK (rowF b) I q ++ [d]) := Lib.hid (by
        rw [wayK, HRL.out, ← HQ.out.1, ← HQ.out.2.1, if_pos hbs, ← hy, List.getD, hd]; rfl)
      have HDR := Lib.hid hdr
      rw [← hy] at hxM hxMi hxor
      have c9 := HI4.out.2.1.cell 0
      have c8 := HI4.out.1.cell 0
      simp only [List.getElem?_toArray, List.getElem?_cons_zero] at c8 c9
      have hmb : m ≤ 1000000 := by omega
      clear hbs hy hd hat hdr
      gi_upto_region 10 with (fail)
      refine any_region_tail2 (wpIn_round_any (by kernel_rfl) (by rintro ⟨a, w, h⟩; exact h) (by kernel_rfl)) 7 [.eq (.slice Aw m cw), .eq (.slice (some ⟨b1, o1, none⟩) M cu), .eq (.int .i64 (x : Int)), .eq (.int .i64 (y : Int)), .eq (.pointer (some ⟨b1, o1 + y * 32, none⟩)), .eq (.agg (bvs d)), .idSl 31 d] (by kernel_rfl) (by kernel_rfl) (by kernel_rfl) rfl (by decide) (by kernel_rfl) _ (fun f => by simp only [framedL, Act.put, maskF, oldF, Nat.reduceLT, reduceIte, List.getElem?_toArray, List.getElem?_cons_succ, List.getElem?_cons_zero, Option.bind_some, Option.map_some, Option.map_none, Option.getD_some, Option.getD_none, Array.getD_eq_getD_getElem?, List.setIfInBounds_toArray, List.set_cons_zero, List.set_cons_succ, Nat.reduceAdd]; rfl) ⟨?_, ?_, ?_, ?_, ?_, ?_, ?_, trivial⟩ ?_
      · refine oweAs_pure ((.slice Aw m cw)) rfl (fun f W hE hd => ?_) (fun W hE => rfl)
        simp only [DepAs, Region.binds, asAt, As.holds, and_true, forall_const] at hd
        have e9 := (hE.cell (p := ⟨R + 1, 0, none⟩) (lt_of_cell c9)).trans c9
        go_simp
      · refine oweAs_pure ((.slice (some ⟨b1, o1, none⟩) M cu)) rfl (fun f W hE hd => ?_) (fun W hE => rfl)
        simp only [DepAs, Region.binds, asAt, As.holds, and_true, forall_const] at hd
        have e8 := (hE.cell (p := ⟨R, 0, none⟩) (lt_of_cell c8)).trans c8
        go_simp
      · refine oweAs_pure ((.int .i64 (x : Int))) rfl (fun f W hE hd => ?_) (fun W hE => rfl)
        go_simp
      · refine oweAs_pure ((.int .i64 (y : Int))) rfl (fun f W hE hd => ?_) (fun W hE => rfl)
        simp only [DepAs, Region.binds, asAt, As.holds, and_true, forall_const] at hd
        go_simp
      · refine oweAs_pure ((.pointer (some ⟨b1, o1 + y * 32, none⟩))) rfl (fun f W hE hd => ?_) (fun W hE => rfl)
        simp only [DepAs, Region.binds, asAt, As.holds, and_true, forall_const] at hd
        go_simp
      · refine oweAs_load_mid 31 (.tmp 33) rfl d rfl rfl Tryd.underlying31 rfl (by rw [hdl]; kernel_rfl) (fun f W hE hd => by (simp only [DepAs, Region.binds, asAt, As.holds, and_true, forall_const] at hd; exact ⟨b1, _, by go_simp, range_keep HDR.out hE⟩))
      · refine oweAs_build_id rfl (.tmp 34) 24 31 ii _ rfl Tryd.underlying24 HII.out hzi hsi d hdl rfl (fun f W hE hd => by (simp only [DepAs, Region.binds, asAt, As.holds, and_true, forall_const] at hd; go_simp))
      intro f W hE hA
      simp only [AllAs, As.holds, Nat.reduceAdd] at hA
      obtain ⟨hA0, -, -, -, -, -, hA6, -⟩ := hA
      simp only [List.drop_succ_cons, List.drop_zero]
      obtain ⟨g, hf6, hBg⟩ := (show ∃ g, f 6 = .slice (some ⟨g, 0, none⟩) 1 1 ∧ Blk W g 31 (bvs d) from hA6)
      rw [hA0, hf6]
      have hB8 := HI4.out.1.below hE HI4.out.1.lt
      have hB9 := HI4.out.2.1.below hE HI4.out.2.1.lt
      have hwy := own_below HI4.out.2.2.2.1.1 hE
      have hur := own_below HI4.out.2.2.1.1 hE
      have HW := Lib.hid (And.intro hB8 (And.intro hB9 (And.intro hwy (And.intro hur (And.intro hE hBg)))))
      clear hB8 hB9 hwy hur hE hBg hA0 hA6 hf6 c8 c9
      go_wp2_with (
        (at_builtin
         have hzW := HW.out.2.2.2.2.1.size
         have hzw := HI4.out.2.2.2.2.2.size
         go_loud (refine wpList_append_own_at _ rfl (.tmp 29) (.tmp 35) 24 rfl w.heap.size 31 ii (.agg (bvs (List.replicate 32 0))) 32 32 Tryd.underlying24 HII.out hzi hsi hbi zeroId_cells (by decide) (.slice Aw m cw) m _ rfl HW.out.2.2.1 ⟨g, 0, none⟩ 1 1 (d.map bcv) rfl (by rw [List.length_map, hdl]) (news_id HW.out.2.2.2.2.2) (one_bcv d) (by simp only [maxLen]; omega) (by omega) (by omega) ?_)
         intro v5 w5 hown5 hgrow5 _ hob
         obtain ⟨A6, c6, rfl⟩ := own_form hown5
         go_loud (have HJ5 : Hid (Blk w5 R 24 #[.slice (some ⟨b1, o1, none⟩) M cu] ∧ Blk w5 (R + 1) 24 #[.slice Aw m cw] ∧ IdR w5 w.heap.size (.slice (some ⟨b1, o1, none⟩) M cu) M (upF (rowF b) q) ∧ IdR w5 w.heap.size (.slice A6 (m + 1) c6) (wayK (rowF b) I (q + 1)).length (wayK (rowF b) I (q + 1)) ∧ ApartV (.slice (some ⟨b1, o1, none⟩) M cu) (.slice A6 (m + 1) c6) ∧ Below w.heap.size w w5 ∧ KeepN W2.heap.size U w5 ∧ KeepI (R + 2) U w5 ∧ R < U.heap.size) := Lib.hid (by
           refine ⟨HW.out.1.grown hgrow5 (own_ne_blk HW.out.2.2.1 HW.out.1 (by decide)), HW.out.2.1.grown hgrow5 (own_ne_blk HW.out.2.2.1 HW.out.2.1 (by decide)), ⟨HW.out.2.2.2.1.kept hgrow5 (.inr (fun e => HI4.out.2.2.2.2.1 b1 rfl e.symm)), HI4.out.2.2.1.2⟩, ?_, fun j hj hj2 => ?_, (HI4.out.2.2.2.2.2.trans (HW.out.2.2.2.2.1.mono hzw)).grown hgrow5 (by omega) (fun j hj => own_ge HW.out.2.2.1 j hj), (KeepN.below HW.out.2.2.2.2.1).trans (keepN_own HW.out.2.2.1 hgrow5), (KeepI.below HW.out.2.2.2.2.1).trans (keepI_own HW.out.2.2.1 hgrow5 (by decide)), hRU⟩
           · rw [HWK.out, List.length_append, ← HQ.out.2.2]
             exact IdR.snoc hown5 HQ.out.2.2.symm HI4.out.2.2.2.1.2.2 hdl
           · rcases hob with h | h
             · exact HI4.out.2.2.2.2.1 j hj (h ▸ hj2)
             · have h1 := own_lt HW.out.2.2.2.1 j hj
               rw [hj2] at h; injection h with h; omega))
         have c9 := HJ5.out.2.1.cell 0
         have f9 := HJ5.out.2.1.frozen 0
         simp only [List.getElem?_toArray, List.getElem?_cons_zero] at c9
         clear hown5 hgrow5 hob hzW hzw HW))
      obtain ⟨V6, hV6⟩ : ∃ V6, V6 = w5.setCell ⟨R + 1, 0, none⟩ (.slice A6 (m + 1) c6) := ⟨_, rfl⟩
      rw [← hV6]
      have HJ : Hid (Blk V6 R 24 #[.slice (some ⟨b1, o1, none⟩) M cu] ∧ Blk V6 (R + 1) 24 #[.slice A6 (m + 1) c6] ∧ IdR V6 w.heap.size (.slice (some ⟨b1, o1, none⟩) M cu) M (upF (rowF b) q) ∧ IdR V6 w.heap.size (.slice A6 (m + 1) c6) (wayK (rowF b) I (q + 1)).length (wayK (rowF b) I (q + 1)) ∧ ApartV (.slice (some ⟨b1, o1, none⟩) M cu) (.slice A6 (m + 1) c6) ∧ Below w.heap.size w V6 ∧ KeepN W2.heap.size U V6 ∧ KeepI (R + 2) U V6 ∧ R < V6.heap.size) := Lib.hid (by
        have hG : w5.grownBy V6 (some (R + 1)) := by rw [hV6]; exact Only.store (p := ⟨R + 1, 0, none⟩) (World.grownBy.refl w5 (some (R + 1))) (.inl rfl) _
        have hJ := HJ5.out
        refine ⟨hJ.1.grown hG (by intro e; injection e with e; omega), by rw [hV6]; exact hJ.2.1.store 0 _, ⟨hJ.2.2.1.1.kept hG (.inr (fun e => own_ne_blk hJ.2.2.1.1 hJ.2.1 (by decide) e.symm)), hJ.2.2.1.2⟩, ⟨hJ.2.2.2.1.1.kept hG (.inr (fun e => own_ne_blk hJ.2.2.2.1.1 hJ.2.1 (by decide) e.symm)), hJ.2.2.2.1.2⟩, hJ.2.2.2.2.1, ?_, hJ.2.2.2.2.2.2.1.trans (KeepN.grown hG hJ.2.1), hJ.2.2.2.2.2.2.2.1.trans (KeepI.grown hG hJ.2.1 (by decide)), by have := hG.size; have := hJ.1.lt; omega⟩
        rw [hV6]
        exact hJ.2.2.2.2.2.1.setCell (p := ⟨R + 1, 0, none⟩) (by show w.heap.size ≤ R + 1; omega) _)
      clear HJ5 hV6 c9 f9
      gi_upto_region 11 with (fail)
      refine wpIn_round (by rintro ⟨a, w, h⟩; exact h) (by kernel_rfl) ?_
      have c8 := HJ.out.1.cell 0
      simp only [List.getElem?_toArray, List.getElem?_cons_zero] at c8
      go_wp2_with fail
      refine (above_any _ (upF (rowF b) q) V6 (HT.out.below HJ.out.2.2.2.2.2.1 h0) (by have := HJ.out.2.2.2.2.2.1.size; omega) HJ.out.2.2.1.ids (by rw [HRQ.out]; omega)).mono ?_
      rintro e w5 ⟨u5, rfl, hr5, hb5⟩
      rw [HRQ.out] at hr5
      obtain ⟨A5, c5, rfl⟩ := hr5.form
      have hM2 : (M + 1) / 2 = stN N (q + 1) := by rw [stN, ← HQ.out.2.1]; omega
      rw [hM2] at hr5 ⊢
      have hB8 := HJ.out.1.below hb5 HJ.out.1.lt
      have f8 := hB8.frozen 0
      have c8' := hB8.cell 0
      simp only [List.getElem?_toArray, List.getElem?_cons_zero] at c8'
      have hS := hB8.store 0 (.slice A5 (stN N (q + 1)) c5)
      have hG : w5.grownBy (w5.setCell ⟨R, 0, none⟩ (.slice A5 (stN N (q + 1)) c5)) (some R) := Only.store (p := ⟨R, 0, none⟩) (World.grownBy.refl w5 (some R)) (.inl rfl) _
      have hw4 := own_below HJ.out.2.2.2.1.1 hb5
      have HF : Hid (Blk (w5.setCell ⟨R, 0, none⟩ (.slice A5 (stN N (q + 1)) c5)) R 24 #[.slice A5 (stN N (q + 1)) c5] ∧ Blk (w5.setCell ⟨R, 0, none⟩ (.slice A5 (stN N (q + 1)) c5)) (R + 1) 24 #[(.slice A6 (m + 1) c6)] ∧ IdR (w5.setCell ⟨R, 0, none⟩ (.slice A5 (stN N (q + 1)) c5)) w.heap.size (.slice A5 (stN N (q + 1)) c5) (stN N (q + 1)) (upF (rowF b) (q + 1)) ∧ IdR (w5.setCell ⟨R, 0, none⟩ (.slice A5 (stN N (q + 1)) c5)) w.heap.size (.slice A6 (m + 1) c6) (wayK (rowF b) I (q + 1)).length (wayK (rowF b) I (q + 1)) ∧ ApartV (.slice A5 (stN N (q + 1)) c5) (.slice A6 (m + 1) c6) ∧ Below w.heap.size w (w5.setCell ⟨R, 0, none⟩ (.slice A5 (stN N (q + 1)) c5)) ∧ KeepN W2.heap.size U (w5.setCell ⟨R, 0, none⟩ (.slice A5 (stN N (q + 1)) c5)) ∧ KeepI (R + 2) U (w5.setCell ⟨R, 0, none⟩ (.slice A5 (stN N (q + 1)) c5))) := Lib.hid (by
        refine ⟨hS, (HJ.out.2.1.below hb5 HJ.out.2.1.lt).other (by show R + 1 ≠ R; omega) _, ⟨own_base (hr5.1.kept hG (.inr (fun e => own_ne_blk hr5.1 hB8 (by decide) e.symm))) HJ.out.2.2.2.2.2.1.size, hr5.2⟩, ⟨hw4.kept hG (.inr (fun e => own_ne_blk hw4 hB8 (by decide) e.symm)), HJ.out.2.2.2.1.2⟩, fun j hj hj2 => ?_, (HJ.out.2.2.2.2.2.1.trans (hb5.mono HJ.out.2.2.2.2.2.1.size)).setCell (p := ⟨R, 0, none⟩) (by show w.heap.size ≤ R; omega) _, (HJ.out.2.2.2.2.2.2.1.trans (KeepN.below hb5)).trans (KeepN.store hB8 _), (HJ.out.2.2.2.2.2.2.2.1.trans (KeepI.below hb5)).trans (KeepI.grown hG hB8 (by decide))⟩
        have g1 := own_ge hr5.1 j hj
        have g2 := own_lt HJ.out.2.2.2.1.1 j hj2
        omega)
      clear hr5 hb5 hM2 hB8 hS hG hw4 HJ c8
      go_wp2_with fail
      exact ⟨HF.out.2.2.2.2.2.2.1, HF.out.2.2.2.2.2.2.2, _, _, HF.out.1, HF.out.2.1, HF.out.2.2.1, HF.out.2.2.2.1, HF.out.2.2.2.2.1, HF.out.2.2.2.2.2.1⟩
    · have hbf : besideF M x = false := by simpa using hbs
      rw [hbf]
      clear hbs
      have HWK : Hid (wayK (rowF b) I (q + 1) = wayK (rowF b) I q) := Lib.hid (by
        rw [wayK, HRL.out, ← HQ.out.1, ← HQ.out.2.1, hbf]; simp)
      have HJ : Hid (Blk U R 24 #[.slice Au M cu] ∧ Blk U (R + 1) 24 #[.slice Aw m cw] ∧ IdR U w.heap.size (.slice Au M cu) M (upF (rowF b) q) ∧ IdR U w.heap.size (.slice Aw m cw) (wayK (rowF b) I (q + 1)).length (wayK (rowF b) I (q + 1)) ∧ ApartV (.slice Au M cu) (.slice Aw m cw) ∧ Below w.heap.size w U ∧ KeepN W2.heap.size U U ∧ KeepI (R + 2) U U ∧ R < U.heap.size) := Lib.hid ⟨HI4.out.1, HI4.out.2.1, HI4.out.2.2.1, by rw [HWK.out, ← HQ.out.2.2]; exact HI4.out.2.2.2.1, HI4.out.2.2.2.2.1, HI4.out.2.2.2.2.2, KeepN.refl _ _, KeepI.refl _ _, hRU⟩
      gi_upto_region 11 with (fail)
      refine wpIn_round (by rintro ⟨a, w, h⟩; exact h) (by kernel_rfl) ?_
      have c8 := HJ.out.1.cell 0
      simp only [List.getElem?_toArray, List.getElem?_cons_zero] at c8
      go_wp2_with fail
      refine (above_any _ (upF (rowF b) q) U (HT.out.below HJ.out.2.2.2.2.2.1 h0) (by have := HJ.out.2.2.2.2.2.1.size; omega) HJ.out.2.2.1.ids (by rw [HRQ.out]; omega)).mono ?_
      rintro e w5 ⟨u5, rfl, hr5, hb5⟩
      rw [HRQ.out] at hr5
      obtain ⟨A5, c5, rfl⟩ := hr5.form
      have hM2 : (M + 1) / 2 = stN N (q + 1) := by rw [stN, ← HQ.out.2.1]; omega
      rw [hM2] at hr5 ⊢
      have hB8 := HJ.out.1.below hb5 HJ.out.1.lt
      have f8 := hB8.frozen 0
      have c8' := hB8.cell 0
      simp only [List.getElem?_toArray, List.getElem?_cons_zero] at c8'
      have hS := hB8.store 0 (.slice A5 (stN N (q + 1)) c5)
      have hG : w5.grownBy (w5.setCell ⟨R, 0, none⟩ (.slice A5 (stN N (q + 1)) c5)) (some R) := Only.store (p := ⟨R, 0, none⟩) (World.grownBy.refl w5 (some R)) (.inl rfl) _
      have hw4 := own_below HJ.out.2.2.2.1.1 hb5
      have HF : Hid (Blk (w5.setCell ⟨R, 0, none⟩ (.slice A5 (stN N (q + 1)) c5)) R 24 #[.slice A5 (stN N (q + 1)) c5] ∧ Blk (w5.setCell ⟨R, 0, none⟩ (.slice A5 (stN N (q + 1)) c5)) (R + 1) 24 #[(.slice Aw m cw)] ∧ IdR (w5.setCell ⟨R, 0, none⟩ (.slice A5 (stN N (q + 1)) c5)) w.heap.size (.slice A5 (stN N (q + 1)) c5) (stN N (q + 1)) (upF (rowF b) (q + 1)) ∧ IdR (w5.setCell ⟨R, 0, none⟩ (.slice A5 (stN N (q + 1)) c5)) w.heap.size (.slice Aw m cw) (wayK (rowF b) I (q + 1)).length (wayK (rowF b) I (q + 1)) ∧ ApartV (.slice A5 (stN N (q + 1)) c5) (.slice Aw m cw) ∧ Below w.heap.size w (w5.setCell ⟨R, 0, none⟩ (.slice A5 (stN N (q + 1)) c5)) ∧ KeepN W2.heap.size U (w5.setCell ⟨R, 0, none⟩ (.slice A5 (stN N (q + 1)) c5)) ∧ KeepI (R + 2) U (w5.setCell ⟨R, 0, none⟩ (.slice A5 (stN N (q + 1)) c5))) := Lib.hid (by
        refine ⟨hS, (HJ.out.2.1.below hb5 HJ.out.2.1.lt).other (by show R + 1 ≠ R; omega) _, ⟨own_base (hr5.1.kept hG (.inr (fun e => own_ne_blk hr5.1 hB8 (by decide) e.symm))) HJ.out.2.2.2.2.2.1.size, hr5.2⟩, ⟨hw4.kept hG (.inr (fun e => own_ne_blk hw4 hB8 (by decide) e.symm)), HJ.out.2.2.2.1.2⟩, fun j hj hj2 => ?_, (HJ.out.2.2.2.2.2.1.trans (hb5.mono HJ.out.2.2.2.2.2.1.size)).setCell (p := ⟨R, 0, none⟩) (by show w.heap.size ≤ R; omega) _, (HJ.out.2.2.2.2.2.2.1.trans (KeepN.below hb5)).trans (KeepN.store hB8 _), (HJ.out.2.2.2.2.2.2.2.1.trans (KeepI.below hb5)).trans (KeepI.grown hG hB8 (by decide))⟩
        have g1 := own_ge hr5.1 j hj
        have g2 := own_lt HJ.out.2.2.2.1.1 j hj2
        omega)
      clear hr5 hb5 hM2 hB8 hS hG hw4 HJ c8
      go_wp2_with fail
      exact ⟨HF.out.2.2.2.2.2.2.1, HF.out.2.2.2.2.2.2.2, _, _, HF.out.1, HF.out.2.1, HF.out.2.2.1, HF.out.2.2.2.1, HF.out.2.2.2.2.1, HF.out.2.2.2.2.2.1⟩
end Go.Proofs.YtofbfkkncjcodaaDoor
