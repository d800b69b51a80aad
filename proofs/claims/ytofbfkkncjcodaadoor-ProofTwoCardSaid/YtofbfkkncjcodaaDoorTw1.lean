/-
  The walk of proof.Two.
-/
import Derived.Test.YtofbfkkncjcodaaDoorPf9
import Derived.Test.YtofbfkkncjcodaaDoorBq
namespace Go.Proofs.YtofbfkkncjcodaaDoor
open Go Go.RowKit
set_option linter.unusedSimpArgs false
set_option linter.unusedVariables false

/-- two rows of bytes with one digest, out of two leaves that are both proved at one place -/
def twoF (root : Dig) (n i : Int) (a : List UInt8) (x : List Dig) (b : List UInt8) (y : List Dig) : Option (List UInt8 × List UInt8) :=
  if checkF root n i a x = 0 ∧ checkF root n i b y = 0 ∧ a ≠ b then findF (rowsF n.toNat i.toNat a x) (rowsF n.toNat i.toNat b y) else none
def oneF : Option (List UInt8 × List UInt8) → List UInt8
  | none => []
  | some t => t.1
def twoS : Option (List UInt8 × List UInt8) → List UInt8
  | none => []
  | some t => t.2
theorem findF_step {p q : List (List UInt8)} {k : Nat} {u v : List UInt8} (h1 : p[k]? = some u) (h2 : q[k]? = some v) : findF (p.drop k) (q.drop k) = if u ≠ v ∧ sha u = sha v then some (u, v) else findF (p.drop (k + 1)) (q.drop (k + 1)) := by
  obtain ⟨a1, a2⟩ := List.getElem?_eq_some_iff.1 h1
  obtain ⟨b1, b2⟩ := List.getElem?_eq_some_iff.1 h2
  rw [List.drop_eq_getElem_cons a1, List.drop_eq_getElem_cons b1, a2, b2]
  rfl
theorem rowsF_len {root : Dig} {n i : Nat} {l : List UInt8} {way : List Dig} (hw : ∀ d ∈ way, d.length = 32) (h : checkF root (n : Int) (i : Int) l way = 0) : (∀ p ∈ rowsF n i l way, p.length ≤ l.length + 65) ∧ (rowsF n i l way).length ≤ way.length + 2 := by
  obtain ⟨ls, d, hc, _, _, _⟩ := check_zero h
  unfold rowsF
  rw [hc]
  refine ⟨rows_len (sha_length _) hw hc, ?_⟩
  have := climb_len hc
  rw [(allF_last l n ls d []).1]
  simp at this; omega

theorem check_zero' {root : Dig} {n i : Int} {l : List UInt8} {way : List Dig} (h : checkF root n i l way = 0) : ¬ (n < 1 ∨ i < 0 ∨ n ≤ i) := by
  intro h2
  rw [check_range h2] at h
  cases h

set_option maxRecDepth 100000 in
set_option maxHeartbeats 4000000 in
theorem two_any' (root : Dig) (n i : Int) (va vx vb vy : Value) (a b : List UInt8) (x y : List Dig) (w : World) (hT : Tab w) (h0 : 0 < w.heap.size) (hr : root.length = 32) (ha : HB w va a) (hx : IdS w vx x) (hb : HB w vb b) (hy : IdS w vy y) (hn : n ≤ 9223372036854775807) (hi : i ≤ 9223372036854775807)
    (hal : a.length ≤ 900000) (hbl : b.length ≤ 900000) (hxl : x.length ≤ 900000) (hyl : y.length ≤ 900000) :
    Calls Tryd.prog 19 #[.agg (bvs root), .int .i64 n, .int .i64 i, va, vx, vb, vy] w fun e w' => ∃ v1 v2, e = .returned (.tuple #[v1, v2, .bool (twoF root n i a x b y).isSome]) ∧ HB w' v1 (oneF (twoF root n i a x b y)) ∧ HB w' v2 (twoS (twoF root n i a x b y)) ∧ Below w.heap.size w w' := by
  have HT : Hid (∀ W, Below w.heap.size w W → Tab W ∧ 0 < W.heap.size) := Lib.hid (fun W hb => ⟨hT.below hb h0, by have := hb.size; omega⟩)
  obtain ⟨pa, ca, rfl, hac, ham⟩ := ha.form
  obtain ⟨pb, cb, rfl, hbc, hbm⟩ := hb.form
  obtain ⟨px, cx, rfl, hxc, hxm⟩ := hx.form
  obtain ⟨py, cy, rfl, hyc, hym⟩ := hy.form
  unfold maxLen at ham hbm hxm hym
  have HA := Lib.hid ha
  have HB_ := Lib.hid hb
  have HX := Lib.hid hx
  have HY := Lib.hid hy
  have hrz : (bvs root).size = 32 := by rw [bvs_size]; exact hr
  clear ha hb hx hy hT
  obtain ⟨G, hG⟩ : ∃ G, G = w.heap.size := ⟨_, rfl⟩
  have hB0 : Below w.heap.size w (w.alloc (.cells (bvs root) 31)) := (Below.refl _ _).alloc (Nat.le_refl _) _
  obtain ⟨t, ht⟩ : ∃ t, t = twoF root n i a x b y := ⟨_, rfl⟩
  rw [← ht]
  have HTW := Lib.hid ht
  obtain ⟨k1, hk1⟩ : ∃ c, c = checkF root n i a x := ⟨_, rfl⟩
  obtain ⟨k2, hk2⟩ : ∃ c, c = checkF root n i b y := ⟨_, rfl⟩
  have HK1 := Lib.hid hk1
  have HK2 := Lib.hid hk2
  clear ht hk1 hk2
  by_cases e1 : k1 = 0
  · by_cases e2 : k2 = 0
    · by_cases hab : a = b
      · have HN : Hid (t = none) := Lib.hid (by rw [HTW.out, twoF, if_neg (fun h => h.2.2 hab)])
        have hd : decide (a = b) = true := decide_eq_true hab
        subst e1
        subst e2
        clear hab
        go_enter Tryd.func19, Tryd.ntmps19
        go_wp2_with (refine wpList_load_blk rfl 31 (.tmp 7) rfl w.heap.size 31 (bvs root) rfl (Blk.new w _ _) Tryd.underlying31 rfl (by rw [hrz]; kernel_rfl) ?_)
        refine (check_any root _ _ _ _ a x _ (HT.out _ hB0).1 (HT.out _ hB0).2 hr (HA.out.keep hB0) (HX.out.keep hB0) hn hi hal (by omega)).mono ?_
        rintro e w1 ⟨rfl, hb1⟩
        rw [← HK1.out]
        have HI1 : Hid (Blk w1 w.heap.size 31 (bvs root) ∧ Below w.heap.size w w1) := Lib.hid ⟨(Blk.new w _ _).below hb1 (Blk.new w _ _).lt, hB0.trans (hb1.mono (by simp))⟩
        clear hb1
        go_wp2_with (refine wpList_load_blk_g rfl 31 (.tmp 7) rfl w.heap.size 31 (bvs root) rfl HI1.out.1 Tryd.underlying31 rfl (by rw [hrz]; kernel_rfl) ?_)
        refine (check_any root _ _ _ _ b y _ (HT.out _ HI1.out.2).1 (HT.out _ HI1.out.2).2 hr (HB_.out.keep HI1.out.2) (HY.out.keep HI1.out.2) hn hi hbl (by omega)).mono ?_
        rintro e w2 ⟨rfl, hb2⟩
        rw [← HK2.out]
        have HI2 : Hid (Below w.heap.size w w2) := Lib.hid (HI1.out.2.trans (hb2.mono HI1.out.2.size))
        clear hb2 HI1
        go_wp2_with fail
        refine (equalB_any _ _ a b w2 (HA.out.keep HI2.out) (HB_.out.keep HI2.out)).mono ?_
        rintro e w3 ⟨rfl, hb3⟩
        rw [hd]
        have HI3 : Hid (Below w.heap.size w w3) := Lib.hid (HI2.out.trans (hb3.mono HI2.out.size))
        clear hb3 hd
        go_wp2_with fail
        refine bodyPost_ret (results_tmp3 rfl _ _ _) rfl ?_
        rw [HN.out]
        exact ⟨_, _, rfl, HB.nil _, HB.nil _, HI3.out⟩
      · have hd : decide (a = b) = false := decide_eq_false hab
        have hrange := check_zero' (HK1.out.symm.trans e1)
        obtain ⟨N, rfl⟩ : ∃ N : Nat, n = (N : Int) := ⟨n.toNat, by omega⟩
        obtain ⟨I, rfl⟩ : ∃ I : Nat, i = (I : Int) := ⟨i.toNat, by omega⟩
        obtain ⟨P, hP⟩ : ∃ P, P = rowsF N I a x := ⟨_, rfl⟩
        obtain ⟨Q, hQ⟩ : ∃ Q, Q = rowsF N I b y := ⟨_, rfl⟩
        have hc1 : checkF root (N : Int) (I : Int) a x = 0 := HK1.out.symm.trans e1
        have hc2 : checkF root (N : Int) (I : Int) b y = 0 := HK2.out.symm.trans e2
        have HF : Hid ((∃ s, findF P Q = some s) ∧ P.length = Q.length) := Lib.hid (by rw [hP, hQ]; exact two_find HX.out.dig HY.out.dig hc1 hc2 hab)
        have HTF : Hid (t = findF P Q) := Lib.hid (by rw [HTW.out, twoF, if_pos ⟨hc1, hc2, hab⟩, hP, hQ]; rfl)
        have HLP : Hid ((∀ p ∈ P, p.length ≤ a.length + 65) ∧ P.length ≤ x.length + 2) := Lib.hid (by rw [hP]; exact rowsF_len HX.out.dig hc1)
        have HLQ : Hid ((∀ p ∈ Q, p.length ≤ b.length + 65) ∧ Q.length ≤ y.length + 2) := Lib.hid (by rw [hQ]; exact rowsF_len HY.out.dig hc2)
        have HPQ := Lib.hid (And.intro hP hQ)
        obtain ⟨M, hM⟩ : ∃ M, M = P.length := ⟨_, rfl⟩
        have HM := Lib.hid hM
        have hMb : M ≤ 1000000 := by rw [hM]; have := HLP.out.2; omega
        subst e1
        subst e2
        clear hab hP hQ hc1 hc2 hrange hM
        go_enter Tryd.func19, Tryd.ntmps19
        go_wp2_with (refine wpList_load_blk rfl 31 (.tmp 7) rfl w.heap.size 31 (bvs root) rfl (Blk.new w _ _) Tryd.underlying31 rfl (by rw [hrz]; kernel_rfl) ?_)
        refine (check_any root _ _ _ _ a x _ (HT.out _ hB0).1 (HT.out _ hB0).2 hr (HA.out.keep hB0) (HX.out.keep hB0) hn hi hal (by omega)).mono ?_
        rintro e w1 ⟨rfl, hb1⟩
        rw [← HK1.out]
        have HI1 : Hid (Blk w1 w.heap.size 31 (bvs root) ∧ Below w.heap.size w w1) := Lib.hid ⟨(Blk.new w _ _).below hb1 (Blk.new w _ _).lt, hB0.trans (hb1.mono (by simp))⟩
        clear hb1
        go_wp2_with (refine wpList_load_blk_g rfl 31 (.tmp 7) rfl w.heap.size 31 (bvs root) rfl HI1.out.1 Tryd.underlying31 rfl (by rw [hrz]; kernel_rfl) ?_)
        refine (check_any root _ _ _ _ b y _ (HT.out _ HI1.out.2).1 (HT.out _ HI1.out.2).2 hr (HB_.out.keep HI1.out.2) (HY.out.keep HI1.out.2) hn hi hbl (by omega)).mono ?_
        rintro e w2 ⟨rfl, hb2⟩
        rw [← HK2.out]
        have HI2 : Hid (Below w.heap.size w w2) := Lib.hid (HI1.out.2.trans (hb2.mono HI1.out.2.size))
        clear hb2 HI1
        go_wp2_with fail
        refine (equalB_any _ _ a b w2 (HA.out.keep HI2.out) (HB_.out.keep HI2.out)).mono ?_
        rintro e w3 ⟨rfl, hb3⟩
        rw [hd]
        have HI3 : Hid (Below w.heap.size w w3) := Lib.hid (HI2.out.trans (hb3.mono HI2.out.size))
        clear hb3 hd HI2
        go_wp2_with fail
        refine (rows_any N I _ _ a x w3 (HT.out _ HI3.out).1 (HT.out _ HI3.out).2 (HA.out.keep HI3.out) (HX.out.keep HI3.out) (by omega) (by omega) hal (by omega)).mono ?_
        rintro e w4 ⟨v4, rfl, hr4, hb4⟩
        rw [show allF a N (climbF (stepsF N I) (leafD a) x) = P from HPQ.out.1.symm] at hr4
        obtain ⟨A4, c4, rfl⟩ := hr4.form
        rw [← HM.out] at hr4 ⊢
        have HI4 : Hid (Below w.heap.size w w4 ∧ RowsH w4 w3.heap.size (.slice A4 M c4) M P) := Lib.hid ⟨HI3.out.trans (hb4.mono HI3.out.size), hr4⟩
        clear hr4 hb4
        go_wp2_with fail
        refine (rows_any N I _ _ b y w4 (HT.out _ HI4.out.1).1 (HT.out _ HI4.out.1).2 (HB_.out.keep HI4.out.1) (HY.out.keep HI4.out.1) (by omega) (by omega) hbl (by omega)).mono ?_
        rintro e w5 ⟨v5, rfl, hr5, hb5⟩
        rw [show allF b N (climbF (stepsF N I) (leafD b) y) = Q from HPQ.out.2.symm, ← HF.out.2, ← HM.out] at hr5
        obtain ⟨A5, c5, rfl⟩ := hr5.form
        have HI5 : Hid (Below w.heap.size w w5 ∧ RowsH w5 w3.heap.size (.slice A4 M c4) M P ∧ RowsH w5 w4.heap.size (.slice A5 M c5) M Q) := Lib.hid ⟨HI4.out.1.trans (hb5.mono HI4.out.1.size), HI4.out.2.keep hb5, hr5⟩
        clear hr5 hb5 HI4 HI3
        go_wp2_with fail
        go_loopw [61] (fun i W => ∃ k : Nat, k ≤ M ∧ i = .int .i64 (k : Int) ∧ Hid (findF P Q = findF (P.drop k) (Q.drop k)) ∧ Below w5.heap.size w5 W) (fun i _ => M - (intOf i).toNat)
        case atStart => exact ⟨0, Nat.zero_le _, rfl, Lib.hid rfl, Below.refl _ _⟩
        case round =>
          obtain ⟨k, hk, rfl, HFK, hbw⟩ := hrel
          have HBW := Lib.hid hbw
          have hz5 : w5.heap.size ≤ wr.heap.size := hbw.size
          clear hbw
          by_cases hlt : k < M
          · obtain ⟨u, hu⟩ : ∃ u, P[k]? = some u := ⟨_, List.getElem?_eq_getElem (by rw [← HM.out]; exact hlt)⟩
            obtain ⟨v, hv⟩ : ∃ v, Q[k]? = some v := ⟨_, List.getElem?_eq_getElem (by rw [← HF.out.2, ← HM.out]; exact hlt)⟩
            obtain ⟨g1, u1, rfl, hc1, hu1⟩ := HI5.out.2.1.at_ hu
            obtain ⟨g2, u2, rfl, hc2, hu2⟩ := HI5.out.2.2.at_ hv
            obtain ⟨p1, q1, rfl, -, -⟩ := hu1.form
            obtain ⟨p2, q2, rfl, -, -⟩ := hu2.form
            have HST := Lib.hid (findF_step hu hv)
            have hul : u.length ≤ a.length + 65 := HLP.out.1 u (List.mem_of_getElem? hu)
            have hvl : v.length ≤ b.length + 65 := HLQ.out.1 v (List.mem_of_getElem? hv)
            have HU := Lib.hid hu1
            have HV := Lib.hid hu2
            have HC := Lib.hid (And.intro ((HBW.out.cell (p := ⟨g1, k, none⟩) (lt_of_cell hc1)).trans hc1) ((HBW.out.cell (p := ⟨g2, k, none⟩) (lt_of_cell hc2)).trans hc2))
            have hki : (k : Int) < (M : Int) := by omega
            have hk0 : ¬ (k : Int) < 0 := by omega
            clear hu hv hc1 hc2 hu1 hu2
            have HU5 := Lib.hid (HU.out.keep HBW.out)
            have HV5 := Lib.hid (HV.out.keep HBW.out)
            by_cases huv : u = v
            · have hd : decide (u = v) = true := decide_eq_true huv
              have HN2 : Hid (findF P Q = findF (P.drop (k + 1)) (Q.drop (k + 1))) := Lib.hid (by rw [HFK.out, HST.out, if_neg (fun h => h.1 huv)])
              have HD := Lib.hid hd
              clear hd huv
              go_upto_region 8 with (fail)
              refine wp_region_as (ys := [.eq (.slice (some ⟨g1, 0, none⟩) M c4), .eq (.int .i64 (k : Int)), .eq (.pointer (some ⟨g1, k, none⟩)), .eq (.slice p1 u.length q1), .eq (.slice (some ⟨g2, 0, none⟩) M c5), .eq (.int .i64 (k : Int)), .eq (.pointer (some ⟨g2, k, none⟩)), .eq (.slice p2 v.length q2), .eq (.bool true), .eq (.bool false), .eq (.bool false), .any, .any, .any, .any, .any, .any, .any, .any, .any, .any, .any, .any, .any, .eq (.bool false)]) (by kernel_rfl) (by kernel_rfl) (by kernel_rfl) (by kernel_rfl) rfl _ (fun f => by simp only [framedL, Act.put, List.setIfInBounds_toArray, List.set_cons_zero, List.set_cons_succ, Nat.reduceAdd]; rfl) ⟨?_, ?_, ?_, ?_, ?_, ?_, ?_, ?_, ?_, ?_, ?_, ?_, ?_, ?_, ?_, ?_, ?_, ?_, ?_, ?_, ?_, ?_, ?_, ?_, ?_, trivial⟩ ?_
              · refine oweAs_pure ((.slice (some ⟨g1, 0, none⟩) M c4)) rfl (fun f W hE hd => ?_) (fun W hE => rfl)
                go_simp
              · refine oweAs_pure ((.int .i64 (k : Int))) rfl (fun f W hE hd => ?_) (fun W hE => rfl)
                go_simp
              · refine oweAs_pure ((.pointer (some ⟨g1, k, none⟩))) rfl (fun f W hE hd => ?_) (fun W hE => rfl)
                simp only [DepAs, Region.binds, asAt, As.holds, and_true, forall_const] at hd
                go_simp
              · refine oweAs_pure ((.slice p1 u.length q1)) rfl (fun f W hE hd => ?_) (fun W hE => rfl)
                simp only [DepAs, Region.binds, asAt, As.holds, and_true, forall_const] at hd
                have d0 := (hE.cell (p := ⟨g1, k, none⟩) (lt_of_cell HC.out.1)).trans HC.out.1
                go_simp
              · refine oweAs_pure ((.slice (some ⟨g2, 0, none⟩) M c5)) rfl (fun f W hE hd => ?_) (fun W hE => rfl)
                go_simp
              · refine oweAs_pure ((.int .i64 (k : Int))) rfl (fun f W hE hd => ?_) (fun W hE => rfl)
                go_simp
              · refine oweAs_pure ((.pointer (some ⟨g2, k, none⟩))) rfl (fun f W hE hd => ?_) (fun W hE => rfl)
                simp only [DepAs, Region.binds, asAt, As.holds, and_true, forall_const] at hd
                go_simp
              · refine oweAs_pure ((.slice p2 v.length q2)) rfl (fun f W hE hd => ?_) (fun W hE => rfl)
                simp only [DepAs, Region.binds, asAt, As.holds, and_true, forall_const] at hd
                have d0 := (hE.cell (p := ⟨g2, k, none⟩) (lt_of_cell HC.out.2)).trans HC.out.2
                go_simp
              · refine oweAs_call 33 rfl (fun f W hE hd => ?_)
                simp only [DepAs, Region.binds, asAt, As.holds, and_true, forall_const] at hd
                refine ⟨_, by (go_simp; first | exact rfl | exact ⟨rfl, rfl⟩), ?_⟩
                refine (equalB_any _ _ u v W (HU5.out.keep hE) (HV5.out.keep hE)).mono ?_
                rintro e w' ⟨rfl, hb⟩
                exact ⟨_, rfl, by (show (_ : Value) = _; rw [HD.out]), hb⟩
              · refine oweAs_pure ((.bool false)) rfl (fun f W hE hd => ?_) (fun W hE => rfl)
                simp only [DepAs, Region.binds, asAt, As.holds, and_true, forall_const] at hd
                go_simp
              · refine oweAs_pure ((.bool false)) rfl (fun f W hE hd => ?_) (fun W hE => rfl)
                simp only [DepAs, Region.binds, asAt, As.holds, and_true, forall_const] at hd
                go_simp
              · exact oweAs_skip rfl (fun _ => trivial)
              · exact oweAs_skip rfl (fun _ => trivial)
              · exact oweAs_skip rfl (fun _ => trivial)
              · exact oweAs_skip rfl (fun _ => trivial)
              · exact oweAs_skip rfl (fun _ => trivial)
              · exact oweAs_skip rfl (fun _ => trivial)
              · exact oweAs_skip rfl (fun _ => trivial)
              · exact oweAs_skip rfl (fun _ => trivial)
              · exact oweAs_skip rfl (fun _ => trivial)
              · exact oweAs_skip rfl (fun _ => trivial)
              · exact oweAs_skip rfl (fun _ => trivial)
              · exact oweAs_skip rfl (fun _ => trivial)
              · exact oweAs_skip rfl (fun _ => trivial)
              · refine oweAs_pure ((.bool false)) rfl (fun f W hE hd => ?_) (fun W hE => rfl)
                simp only [DepAs, Region.binds, asAt, As.holds, and_true, forall_const] at hd
                go_simp
              intro f W hE hA
              simp only [AllAs, As.holds, Nat.reduceAdd] at hA
              obtain ⟨-, -, -, -, -, -, -, -, -, -, -, -, -, -, -, -, -, -, -, -, -, -, -, -, hA24, -⟩ := hA
              rw [hA24]
              have HB6 := Lib.hid (HBW.out.trans (hE.mono hz5))
              clear hE HBW
              go_wp2_with fail
              go_roundw
              case rel => exact ⟨k + 1, by omega, by go_num, HN2, HB6.out⟩
              case measure => simp [intOf]; omega
            · have hd : decide (u = v) = false := decide_eq_false huv
              have HD := Lib.hid hd
              by_cases hs : sha u = sha v
              · have HS : Hid (findF P Q = some (u, v)) := Lib.hid (by rw [HFK.out, HST.out, if_pos ⟨huv, hs⟩])
                have hbe : (sha u == sha v) = true := beq_iff_eq.2 hs
                have HE_ := Lib.hid hbe
                clear hd huv hs hbe
                go_upto_region 8 with (fail)
                refine wp_region_as (ys := [.eq (.slice (some ⟨g1, 0, none⟩) M c4), .eq (.int .i64 (k : Int)), .eq (.pointer (some ⟨g1, k, none⟩)), .eq (.slice p1 u.length q1), .eq (.slice (some ⟨g2, 0, none⟩) M c5), .eq (.int .i64 (k : Int)), .eq (.pointer (some ⟨g2, k, none⟩)), .eq (.slice p2 v.length q2), .eq (.bool false), .eq (.bool true), .eq (.bool true), .eq (.slice (some ⟨g1, 0, none⟩) M c4), .eq (.int .i64 (k : Int)), .eq (.pointer (some ⟨g1, k, none⟩)), .eq (.slice p1 u.length q1), .parts [u], .eq (.agg (bvs (sha u))), .eq (.slice (some ⟨g2, 0, none⟩) M c5), .eq (.int .i64 (k : Int)), .eq (.pointer (some ⟨g2, k, none⟩)), .eq (.slice p2 v.length q2), .parts [v], .eq (.agg (bvs (sha v))), .eq (.bool true), .eq (.bool true)]) (by kernel_rfl) (by kernel_rfl) (by kernel_rfl) (by kernel_rfl) rfl _ (fun f => by simp only [framedL, Act.put, List.setIfInBounds_toArray, List.set_cons_zero, List.set_cons_succ, Nat.reduceAdd]; rfl) ⟨?_, ?_, ?_, ?_, ?_, ?_, ?_, ?_, ?_, ?_, ?_, ?_, ?_, ?_, ?_, ?_, ?_, ?_, ?_, ?_, ?_, ?_, ?_, ?_, ?_, trivial⟩ ?_
                · refine oweAs_pure ((.slice (some ⟨g1, 0, none⟩) M c4)) rfl (fun f W hE hd => ?_) (fun W hE => rfl)
                  go_simp
                · refine oweAs_pure ((.int .i64 (k : Int))) rfl (fun f W hE hd => ?_) (fun W hE => rfl)
                  go_simp
                · refine oweAs_pure ((.pointer (some ⟨g1, k, none⟩))) rfl (fun f W hE hd => ?_) (fun W hE => rfl)
                  simp only [DepAs, Region.binds, asAt, As.holds, and_true, forall_const] at hd
                  go_simp
                · refine oweAs_pure ((.slice p1 u.length q1)) rfl (fun f W hE hd => ?_) (fun W hE => rfl)
                  simp only [DepAs, Region.binds, asAt, As.holds, and_true, forall_const] at hd
                  have d0 := (hE.cell (p := ⟨g1, k, none⟩) (lt_of_cell HC.out.1)).trans HC.out.1
                  go_simp
                · refine oweAs_pure ((.slice (some ⟨g2, 0, none⟩) M c5)) rfl (fun f W hE hd => ?_) (fun W hE => rfl)
                  go_simp
                · refine oweAs_pure ((.int .i64 (k : Int))) rfl (fun f W hE hd => ?_) (fun W hE => rfl)
                  go_simp
                · refine oweAs_pure ((.pointer (some ⟨g2, k, none⟩))) rfl (fun f W hE hd => ?_) (fun W hE => rfl)
                  simp only [DepAs, Region.binds, asAt, As.holds, and_true, forall_const] at hd
                  go_simp
                · refine oweAs_pure ((.slice p2 v.length q2)) rfl (fun f W hE hd => ?_) (fun W hE => rfl)
                  simp only [DepAs, Region.binds, asAt, As.holds, and_true, forall_const] at hd
                  have d0 := (hE.cell (p := ⟨g2, k, none⟩) (lt_of_cell HC.out.2)).trans HC.out.2
                  go_simp
                · refine oweAs_call 33 rfl (fun f W hE hd => ?_)
                  simp only [DepAs, Region.binds, asAt, As.holds, and_true, forall_const] at hd
                  refine ⟨_, by (go_simp; first | exact rfl | exact ⟨rfl, rfl⟩), ?_⟩
                  refine (equalB_any _ _ u v W (HU5.out.keep hE) (HV5.out.keep hE)).mono ?_
                  rintro e w' ⟨rfl, hb⟩
                  exact ⟨_, rfl, by (show (_ : Value) = _; rw [HD.out]), hb⟩
                · refine oweAs_pure ((.bool true)) rfl (fun f W hE hd => ?_) (fun W hE => rfl)
                  simp only [DepAs, Region.binds, asAt, As.holds, and_true, forall_const] at hd
                  go_simp
                · refine oweAs_pure ((.bool true)) rfl (fun f W hE hd => ?_) (fun W hE => rfl)
                  simp only [DepAs, Region.binds, asAt, As.holds, and_true, forall_const] at hd
                  go_simp
                · refine oweAs_pure ((.slice (some ⟨g1, 0, none⟩) M c4)) rfl (fun f W hE hd => ?_) (fun W hE => rfl)
                  go_simp
                · refine oweAs_pure ((.int .i64 (k : Int))) rfl (fun f W hE hd => ?_) (fun W hE => rfl)
                  go_simp
                · refine oweAs_pure ((.pointer (some ⟨g1, k, none⟩))) rfl (fun f W hE hd => ?_) (fun W hE => rfl)
                  simp only [DepAs, Region.binds, asAt, As.holds, and_true, forall_const] at hd
                  go_simp
                · refine oweAs_pure ((.slice p1 u.length q1)) rfl (fun f W hE hd => ?_) (fun W hE => rfl)
                  simp only [DepAs, Region.binds, asAt, As.holds, and_true, forall_const] at hd
                  have d0 := (hE.cell (p := ⟨g1, k, none⟩) (lt_of_cell HC.out.1)).trans HC.out.1
                  go_simp
                · refine oweAs_made rfl (fun f W hE hd => ?_)
                  simp only [DepAs, Region.binds, asAt, As.holds, and_true, forall_const] at hd
                  have hP := parts_new1 (w := W) (t := 22) rfl (HU5.out.keep hE)
                  refine ⟨_, _, by (go_simp; first | exact rfl | exact ⟨rfl, rfl⟩), ?_, (Below.refl W.heap.size W).alloc (Nat.le_refl _) _⟩
                  exact hP
                · refine oweAs_call 28 rfl (fun f W hE hd => ?_)
                  simp only [DepAs, Region.binds, asAt, As.holds, and_true, forall_const] at hd
                  refine ⟨_, by (go_simp; first | exact rfl | exact ⟨rfl, rfl⟩), ?_⟩
                  have hbw := HI5.out.1.trans ((HBW.out.trans (hE.mono hz5)).mono HI5.out.1.size)
                  refine (of_any _ [u] W (HT.out W hbw).1 (HT.out W hbw).2 (by first | exact hd | exact hd.1) (by simp) (by simp; omega)).mono ?_
                  rintro e w' ⟨rfl, hb⟩
                  exact ⟨_, rfl, by (show (_ : Value) = _; simp), hb⟩
                · refine oweAs_pure ((.slice (some ⟨g2, 0, none⟩) M c5)) rfl (fun f W hE hd => ?_) (fun W hE => rfl)
                  go_simp
                · refine oweAs_pure ((.int .i64 (k : Int))) rfl (fun f W hE hd => ?_) (fun W hE => rfl)
                  go_simp
                · refine oweAs_pure ((.pointer (some ⟨g2, k, none⟩))) rfl (fun f W hE hd => ?_) (fun W hE => rfl)
                  simp only [DepAs, Region.binds, asAt, As.holds, and_true, forall_const] at hd
                  go_simp
                · refine oweAs_pure ((.slice p2 v.length q2)) rfl (fun f W hE hd => ?_) (fun W hE => rfl)
                  simp only [DepAs, Region.binds, asAt, As.holds, and_true, forall_const] at hd
                  have d0 := (hE.cell (p := ⟨g2, k, none⟩) (lt_of_cell HC.out.2)).trans HC.out.2
                  go_simp
                · refine oweAs_made rfl (fun f W hE hd => ?_)
                  simp only [DepAs, Region.binds, asAt, As.holds, and_true, forall_const] at hd
                  have hP := parts_new1 (w := W) (t := 22) rfl (HV5.out.keep hE)
                  refine ⟨_, _, by (go_simp; first | exact rfl | exact ⟨rfl, rfl⟩), ?_, (Below.refl W.heap.size W).alloc (Nat.le_refl _) _⟩
                  exact hP
                · refine oweAs_call 28 rfl (fun f W hE hd => ?_)
                  simp only [DepAs, Region.binds, asAt, As.holds, and_true, forall_const] at hd
                  refine ⟨_, by (go_simp; first | exact rfl | exact ⟨rfl, rfl⟩), ?_⟩
                  have hbw := HI5.out.1.trans ((HBW.out.trans (hE.mono hz5)).mono HI5.out.1.size)
                  refine (of_any _ [v] W (HT.out W hbw).1 (HT.out W hbw).2 (by first | exact hd | exact hd.1) (by simp) (by simp; omega)).mono ?_
                  rintro e w' ⟨rfl, hb⟩
                  exact ⟨_, rfl, by (show (_ : Value) = _; simp), hb⟩
                · refine oweAs_pure ((.bool true)) rfl (fun f W hE hd => ?_) (fun W hE => rfl)
                  simp only [DepAs, Region.binds, asAt, As.holds, and_true, forall_const] at hd
                  have l1 := sha_length u
                  have l2 := sha_length v
                  have h9 := HE_.out
                  go_simp
                · refine oweAs_pure ((.bool true)) rfl (fun f W hE hd => ?_) (fun W hE => rfl)
                  simp only [DepAs, Region.binds, asAt, As.holds, and_true, forall_const] at hd
                  go_simp
                intro f W hE hA
                simp only [AllAs, As.holds, Nat.reduceAdd] at hA
                obtain ⟨-, -, -, -, -, -, -, -, -, -, -, -, -, -, -, -, -, -, -, -, -, -, -, -, hA24, -⟩ := hA
                rw [hA24]
                have HB6 := Lib.hid (HBW.out.trans (hE.mono hz5))
                have d1 := (hE.cell (p := ⟨g1, k, none⟩) (lt_of_cell HC.out.1)).trans HC.out.1
                have d2 := (hE.cell (p := ⟨g2, k, none⟩) (lt_of_cell HC.out.2)).trans HC.out.2
                have HUV := Lib.hid (And.intro (HU5.out.keep hE) (HV5.out.keep hE))
                have HC9 := Lib.hid (And.intro d1 d2)
                have hz6 := HB6.out.size
                clear hE HBW d1 d2
                go_wp2_with fail
                go_upto_region 9 with (fail)
                refine wp_region_as (ys := [.eq (.slice (some ⟨g1, 0, none⟩) M c4), .eq (.int .i64 (k : Int)), .eq (.pointer (some ⟨g1, k, none⟩)), .eq (.slice p1 u.length q1), .eq (.slice (some ⟨g2, 0, none⟩) M c5), .eq (.int .i64 (k : Int)), .eq (.pointer (some ⟨g2, k, none⟩)), .eq (.slice p2 v.length q2), .eq (.slice p1 u.length q1), .eq (.slice p2 v.length q2), .eq (.bool true)]) (by kernel_rfl) (by kernel_rfl) (by kernel_rfl) (by kernel_rfl) rfl _ (fun f => by simp only [framedL, Act.put, List.setIfInBounds_toArray, List.set_cons_zero, List.set_cons_succ, Nat.reduceAdd]; rfl) ⟨?_, ?_, ?_, ?_, ?_, ?_, ?_, ?_, ?_, ?_, ?_, trivial⟩ ?_
                · refine oweAs_pure ((.slice (some ⟨g1, 0, none⟩) M c4)) rfl (fun f W hE hd => ?_) (fun W hE => rfl)
                  go_simp
                · refine oweAs_pure ((.int .i64 (k : Int))) rfl (fun f W hE hd => ?_) (fun W hE => rfl)
                  go_simp
                · refine oweAs_pure ((.pointer (some ⟨g1, k, none⟩))) rfl (fun f W hE hd => ?_) (fun W hE => rfl)
                  simp only [DepAs, Region.binds, asAt, As.holds, and_true, forall_const] at hd
                  go_simp
                · refine oweAs_pure ((.slice p1 u.length q1)) rfl (fun f W hE hd => ?_) (fun W hE => rfl)
                  simp only [DepAs, Region.binds, asAt, As.holds, and_true, forall_const] at hd
                  have d0 := (hE.cell (p := ⟨g1, k, none⟩) (lt_of_cell HC9.out.1)).trans HC9.out.1
                  go_simp
                · refine oweAs_pure ((.slice (some ⟨g2, 0, none⟩) M c5)) rfl (fun f W hE hd => ?_) (fun W hE => rfl)
                  go_simp
                · refine oweAs_pure ((.int .i64 (k : Int))) rfl (fun f W hE hd => ?_) (fun W hE => rfl)
                  go_simp
                · refine oweAs_pure ((.pointer (some ⟨g2, k, none⟩))) rfl (fun f W hE hd => ?_) (fun W hE => rfl)
                  simp only [DepAs, Region.binds, asAt, As.holds, and_true, forall_const] at hd
                  go_simp
                · refine oweAs_pure ((.slice p2 v.length q2)) rfl (fun f W hE hd => ?_) (fun W hE => rfl)
                  simp only [DepAs, Region.binds, asAt, As.holds, and_true, forall_const] at hd
                  have d0 := (hE.cell (p := ⟨g2, k, none⟩) (lt_of_cell HC9.out.2)).trans HC9.out.2
                  go_simp
                · refine oweAs_pure ((.slice p1 u.length q1)) rfl (fun f W hE hd => ?_) (fun W hE => rfl)
                  simp only [DepAs, Region.binds, asAt, As.holds, and_true, forall_const] at hd
                  go_simp
                · refine oweAs_pure ((.slice p2 v.length q2)) rfl (fun f W hE hd => ?_) (fun W hE => rfl)
                  simp only [DepAs, Region.binds, asAt, As.holds, and_true, forall_const] at hd
                  go_simp
                · refine oweAs_pure ((.bool true)) rfl (fun f W hE hd => ?_) (fun W hE => rfl)
                  go_simp
                intro f W hE hA
                simp only [AllAs, As.holds, Nat.reduceAdd] at hA
                obtain ⟨-, -, -, -, -, -, -, -, hA8, hA9, hA10, -⟩ := hA
                rw [hA8, hA9, hA10]
                have HB7 := Lib.hid (HB6.out.trans (hE.mono hz6))
                have HUV7 := Lib.hid (And.intro (HUV.out.1.keep hE) (HUV.out.2.keep hE))
                clear hE HB6 HUV
                go_wp2_with fail
                refine bodyPost_ret (results_tmp3 rfl _ _ _) rfl ?_
                rw [HTF.out, HS.out]
                exact ⟨_, _, rfl, HUV7.out.1, HUV7.out.2, HI5.out.1.trans (HB7.out.mono HI5.out.1.size)⟩
              · have HN2 : Hid (findF P Q = findF (P.drop (k + 1)) (Q.drop (k + 1))) := Lib.hid (by rw [HFK.out, HST.out, if_neg (fun h => hs h.2)])
                have hbe : (sha u == sha v) = false := beq_eq_false_iff_ne.2 hs
                have HE_ := Lib.hid hbe
                clear hd huv hs hbe
                go_upto_region 8 with (fail)
                refine wp_region_as (ys := [.eq (.slice (some ⟨g1, 0, none⟩) M c4), .eq (.int .i64 (k : Int)), .eq (.pointer (some ⟨g1, k, none⟩)), .eq (.slice p1 u.length q1), .eq (.slice (some ⟨g2, 0, none⟩) M c5), .eq (.int .i64 (k : Int)), .eq (.pointer (some ⟨g2, k, none⟩)), .eq (.slice p2 v.length q2), .eq (.bool false), .eq (.bool true), .eq (.bool true), .eq (.slice (some ⟨g1, 0, none⟩) M c4), .eq (.int .i64 (k : Int)), .eq (.pointer (some ⟨g1, k, none⟩)), .eq (.slice p1 u.length q1), .parts [u], .eq (.agg (bvs (sha u))), .eq (.slice (some ⟨g2, 0, none⟩) M c5), .eq (.int .i64 (k : Int)), .eq (.pointer (some ⟨g2, k, none⟩)), .eq (.slice p2 v.length q2), .parts [v], .eq (.agg (bvs (sha v))), .eq (.bool false), .eq (.bool false)]) (by kernel_rfl) (by kernel_rfl) (by kernel_rfl) (by kernel_rfl) rfl _ (fun f => by simp only [framedL, Act.put, List.setIfInBounds_toArray, List.set_cons_zero, List.set_cons_succ, Nat.reduceAdd]; rfl) ⟨?_, ?_, ?_, ?_, ?_, ?_, ?_, ?_, ?_, ?_, ?_, ?_, ?_, ?_, ?_, ?_, ?_, ?_, ?_, ?_, ?_, ?_, ?_, ?_, ?_, trivial⟩ ?_
                · refine oweAs_pure ((.slice (some ⟨g1, 0, none⟩) M c4)) rfl (fun f W hE hd => ?_) (fun W hE => rfl)
                  go_simp
                · refine oweAs_pure ((.int .i64 (k : Int))) rfl (fun f W hE hd => ?_) (fun W hE => rfl)
                  go_simp
                · refine oweAs_pure ((.pointer (some ⟨g1, k, none⟩))) rfl (fun f W hE hd => ?_) (fun W hE => rfl)
                  simp only [DepAs, Region.binds, asAt, As.holds, and_true, forall_const] at hd
                  go_simp
                · refine oweAs_pure ((.slice p1 u.length q1)) rfl (fun f W hE hd => ?_) (fun W hE => rfl)
                  simp only [DepAs, Region.binds, asAt, As.holds, and_true, forall_const] at hd
                  have d0 := (hE.cell (p := ⟨g1, k, none⟩) (lt_of_cell HC.out.1)).trans HC.out.1
                  go_simp
                · refine oweAs_pure ((.slice (some ⟨g2, 0, none⟩) M c5)) rfl (fun f W hE hd => ?_) (fun W hE => rfl)
                  go_simp
                · refine oweAs_pure ((.int .i64 (k : Int))) rfl (fun f W hE hd => ?_) (fun W hE => rfl)
                  go_simp
                · refine oweAs_pure ((.pointer (some ⟨g2, k, none⟩))) rfl (fun f W hE hd => ?_) (fun W hE => rfl)
                  simp only [DepAs, Region.binds, asAt, As.holds, and_true, forall_const] at hd
                  go_simp
                · refine oweAs_pure ((.slice p2 v.length q2)) rfl (fun f W hE hd => ?_) (fun W hE => rfl)
                  simp only [DepAs, Region.binds, asAt, As.holds, and_true, forall_const] at hd
                  have d0 := (hE.cell (p := ⟨g2, k, none⟩) (lt_of_cell HC.out.2)).trans HC.out.2
                  go_simp
                · refine oweAs_call 33 rfl (fun f W hE hd => ?_)
                  simp only [DepAs, Region.binds, asAt, As.holds, and_true, forall_const] at hd
                  refine ⟨_, by (go_simp; first | exact rfl | exact ⟨rfl, rfl⟩), ?_⟩
                  refine (equalB_any _ _ u v W (HU5.out.keep hE) (HV5.out.keep hE)).mono ?_
                  rintro e w' ⟨rfl, hb⟩
                  exact ⟨_, rfl, by (show (_ : Value) = _; rw [HD.out]), hb⟩
                · refine oweAs_pure ((.bool true)) rfl (fun f W hE hd => ?_) (fun W hE => rfl)
                  simp only [DepAs, Region.binds, asAt, As.holds, and_true, forall_const] at hd
                  go_simp
                · refine oweAs_pure ((.bool true)) rfl (fun f W hE hd => ?_) (fun W hE => rfl)
                  simp only [DepAs, Region.binds, asAt, As.holds, and_true, forall_const] at hd
                  go_simp
                · refine oweAs_pure ((.slice (some ⟨g1, 0, none⟩) M c4)) rfl (fun f W hE hd => ?_) (fun W hE => rfl)
                  go_simp
                · refine oweAs_pure ((.int .i64 (k : Int))) rfl (fun f W hE hd => ?_) (fun W hE => rfl)
                  go_simp
                · refine oweAs_pure ((.pointer (some ⟨g1, k, none⟩))) rfl (fun f W hE hd => ?_) (fun W hE => rfl)
                  simp only [DepAs, Region.binds, asAt, As.holds, and_true, forall_const] at hd
                  go_simp
                · refine oweAs_pure ((.slice p1 u.length q1)) rfl (fun f W hE hd => ?_) (fun W hE => rfl)
                  simp only [DepAs, Region.binds, asAt, As.holds, and_true, forall_const] at hd
                  have d0 := (hE.cell (p := ⟨g1, k, none⟩) (lt_of_cell HC.out.1)).trans HC.out.1
                  go_simp
                · refine oweAs_made rfl (fun f W hE hd => ?_)
                  simp only [DepAs, Region.binds, asAt, As.holds, and_true, forall_const] at hd
                  have hP := parts_new1 (w := W) (t := 22) rfl (HU5.out.keep hE)
                  refine ⟨_, _, by (go_simp; first | exact rfl | exact ⟨rfl, rfl⟩), ?_, (Below.refl W.heap.size W).alloc (Nat.le_refl _) _⟩
                  exact hP
                · refine oweAs_call 28 rfl (fun f W hE hd => ?_)
                  simp only [DepAs, Region.binds, asAt, As.holds, and_true, forall_const] at hd
                  refine ⟨_, by (go_simp; first | exact rfl | exact ⟨rfl, rfl⟩), ?_⟩
                  have hbw := HI5.out.1.trans ((HBW.out.trans (hE.mono hz5)).mono HI5.out.1.size)
                  refine (of_any _ [u] W (HT.out W hbw).1 (HT.out W hbw).2 (by first | exact hd | exact hd.1) (by simp) (by simp; omega)).mono ?_
                  rintro e w' ⟨rfl, hb⟩
                  exact ⟨_, rfl, by (show (_ : Value) = _; simp), hb⟩
                · refine oweAs_pure ((.slice (some ⟨g2, 0, none⟩) M c5)) rfl (fun f W hE hd => ?_) (fun W hE => rfl)
                  go_simp
                · refine oweAs_pure ((.int .i64 (k : Int))) rfl (fun f W hE hd => ?_) (fun W hE => rfl)
                  go_simp
                · refine oweAs_pure ((.pointer (some ⟨g2, k, none⟩))) rfl (fun f W hE hd => ?_) (fun W hE => rfl)
                  simp only [DepAs, Region.binds, asAt, As.holds, and_true, forall_const] at hd
                  go_simp
                · refine oweAs_pure ((.slice p2 v.length q2)) rfl (fun f W hE hd => ?_) (fun W hE => rfl)
                  simp only [DepAs, Region.binds, asAt, As.holds, and_true, forall_const] at hd
                  have d0 := (hE.cell (p := ⟨g2, k, none⟩) (lt_of_cell HC.out.2)).trans HC.out.2
                  go_simp
                · refine oweAs_made rfl (fun f W hE hd => ?_)
                  simp only [DepAs, Region.binds, asAt, As.holds, and_true, forall_const] at hd
                  have hP := parts_new1 (w := W) (t := 22) rfl (HV5.out.keep hE)
                  refine ⟨_, _, by (go_simp; first | exact rfl | exact ⟨rfl, rfl⟩), ?_, (Below.refl W.heap.size W).alloc (Nat.le_refl _) _⟩
                  exact hP
                · refine oweAs_call 28 rfl (fun f W hE hd => ?_)
                  simp only [DepAs, Region.binds, asAt, As.holds, and_true, forall_const] at hd
                  refine ⟨_, by (go_simp; first | exact rfl | exact ⟨rfl, rfl⟩), ?_⟩
                  have hbw := HI5.out.1.trans ((HBW.out.trans (hE.mono hz5)).mono HI5.out.1.size)
                  refine (of_any _ [v] W (HT.out W hbw).1 (HT.out W hbw).2 (by first | exact hd | exact hd.1) (by simp) (by simp; omega)).mono ?_
                  rintro e w' ⟨rfl, hb⟩
                  exact ⟨_, rfl, by (show (_ : Value) = _; simp), hb⟩
                · refine oweAs_pure ((.bool false)) rfl (fun f W hE hd => ?_) (fun W hE => rfl)
                  simp only [DepAs, Region.binds, asAt, As.holds, and_true, forall_const] at hd
                  have l1 := sha_length u
                  have l2 := sha_length v
                  have h9 := HE_.out
                  go_simp
                · refine oweAs_pure ((.bool false)) rfl (fun f W hE hd => ?_) (fun W hE => rfl)
                  simp only [DepAs, Region.binds, asAt, As.holds, and_true, forall_const] at hd
                  go_simp
                intro f W hE hA
                simp only [AllAs, As.holds, Nat.reduceAdd] at hA
                obtain ⟨-, -, -, -, -, -, -, -, -, -, -, -, -, -, -, -, -, -, -, -, -, -, -, -, hA24, -⟩ := hA
                rw [hA24]
                have HB6 := Lib.hid (HBW.out.trans (hE.mono hz5))
                clear hE HBW
                go_wp2_with fail
                go_roundw
                case rel => exact ⟨k + 1, by omega, by go_num, HN2, HB6.out⟩
                case measure => simp [intOf]; omega
          · obtain rfl : k = M := by omega
            exfalso
            obtain ⟨s, hs⟩ := HF.out.1
            rw [HFK.out, List.drop_eq_nil_of_le (by rw [← HM.out]; exact Nat.le_refl _)] at hs
            simp [findF] at hs
    · have HN : Hid (t = none) := Lib.hid (by rw [HTW.out, twoF, if_neg (fun h => e2 (HK2.out.trans h.2.1))])
      have e2i : ¬ (k2 : Int) = 0 := by omega
      subst e1
      go_enter Tryd.func19, Tryd.ntmps19
      go_wp2_with (refine wpList_load_blk rfl 31 (.tmp 7) rfl w.heap.size 31 (bvs root) rfl (Blk.new w _ _) Tryd.underlying31 rfl (by rw [hrz]; kernel_rfl) ?_)
      refine (check_any root _ _ _ _ a x _ (HT.out _ hB0).1 (HT.out _ hB0).2 hr (HA.out.keep hB0) (HX.out.keep hB0) hn hi hal (by omega)).mono ?_
      rintro e w1 ⟨rfl, hb1⟩
      rw [← HK1.out]
      have HI1 : Hid (Blk w1 w.heap.size 31 (bvs root) ∧ Below w.heap.size w w1) := Lib.hid ⟨(Blk.new w _ _).below hb1 (Blk.new w _ _).lt, hB0.trans (hb1.mono (by simp))⟩
      clear hb1
      go_wp2_with (refine wpList_load_blk_g rfl 31 (.tmp 7) rfl w.heap.size 31 (bvs root) rfl HI1.out.1 Tryd.underlying31 rfl (by rw [hrz]; kernel_rfl) ?_)
      refine (check_any root _ _ _ _ b y _ (HT.out _ HI1.out.2).1 (HT.out _ HI1.out.2).2 hr (HB_.out.keep HI1.out.2) (HY.out.keep HI1.out.2) hn hi hbl (by omega)).mono ?_
      rintro e w2 ⟨rfl, hb2⟩
      rw [← HK2.out]
      have HI2 : Hid (Below w.heap.size w w2) := Lib.hid (HI1.out.2.trans (hb2.mono HI1.out.2.size))
      clear hb2 HI1
      go_wp2_with fail
      refine bodyPost_ret (results_tmp3 rfl _ _ _) rfl ?_
      rw [HN.out]
      exact ⟨_, _, rfl, HB.nil _, HB.nil _, HI2.out⟩
  · have HN : Hid (t = none) := Lib.hid (by rw [HTW.out, twoF, if_neg (fun h => e1 (HK1.out.trans h.1))])
    have e1i : ¬ (k1 : Int) = 0 := by omega
    go_enter Tryd.func19, Tryd.ntmps19
    go_wp2_with (refine wpList_load_blk rfl 31 (.tmp 7) rfl w.heap.size 31 (bvs root) rfl (Blk.new w _ _) Tryd.underlying31 rfl (by rw [hrz]; kernel_rfl) ?_)
    refine (check_any root _ _ _ _ a x _ (HT.out _ hB0).1 (HT.out _ hB0).2 hr (HA.out.keep hB0) (HX.out.keep hB0) hn hi hal (by omega)).mono ?_
    rintro e w1 ⟨rfl, hb1⟩
    rw [← HK1.out]
    have HI1 : Hid (Blk w1 w.heap.size 31 (bvs root) ∧ Below w.heap.size w w1) := Lib.hid ⟨(Blk.new w _ _).below hb1 (Blk.new w _ _).lt, hB0.trans (hb1.mono (by simp))⟩
    clear hb1
    go_wp2_with fail
    refine bodyPost_ret (results_tmp3 rfl _ _ _) rfl ?_
    rw [HN.out]
    exact ⟨_, _, rfl, HB.nil _, HB.nil _, HI1.out.2⟩
end Go.Proofs.YtofbfkkncjcodaaDoor
