/-
  The walk of proof.Check.
-/
import Derived.Test.YtofbfkkncjcodaaDoorPf8
import Derived.Test.YtofbfkkncjcodaaDoorEq
namespace Go.Proofs.YtofbfkkncjcodaaDoor
open Go Go.RowKit
set_option linter.unusedSimpArgs false
set_option linter.unusedVariables false

theorem allF_last (l : List UInt8) (n : Nat) (ls : List (List UInt8)) (x : Dig) (m : List Dig) : (allF l n (some (ls, x, m))).length = ls.length + 2 ∧ (allF l n (some (ls, x, m)))[ls.length + 1]? = some (crownP n x) := by
  constructor
  · simp [allF]
  · simp [allF]
theorem check_range {root : Dig} {n i : Int} {l : List UInt8} {way : List Dig} (h : n < 1 ∨ i < 0 ∨ n ≤ i) : checkF root n i l way = 14 := by unfold checkF; rw [if_pos h]
theorem check_in {root : Dig} {n i : Nat} {l : List UInt8} {way : List Dig} (h : ¬ ((n : Int) < 1 ∨ (i : Int) < 0 ∨ (n : Int) ≤ (i : Int))) : checkF root (n : Int) (i : Int) l way = if 64 < l.length then 21 else
    match climbF (stepsF n i) (leafD l) way with
    | none => 21
    | some (_, x, m) => if m = [] ∧ crownD n x = root then 0 else 21 := by
  unfold checkF; rw [if_neg h]; rfl

set_option maxRecDepth 100000 in
set_option maxHeartbeats 4000000 in
theorem check_any (root : Dig) (n i : Int) (vl vw : Value) (l : List UInt8) (way : List Dig) (w : World) (hT : Tab w) (h0 : 0 < w.heap.size) (hr : root.length = 32) (hl : HB w vl l) (hw : IdS w vw way) (hn : n ≤ 9223372036854775807) (hi : i ≤ 9223372036854775807) (hll : l.length ≤ 900000) (hwl : way.length ≤ 1000000) :
    Calls Tryd.prog 17 #[.agg (bvs root), .int .i64 n, .int .i64 i, vl, vw] w fun e w' => e = .returned (.int .i64 (checkF root n i l way : Int)) ∧ Below w.heap.size w w' := by
  have HT := Lib.hid hT
  have HL := Lib.hid hl
  have HW := Lib.hid hw
  obtain ⟨pl, cl, rfl, hlc, hlm⟩ := hl.form
  obtain ⟨pw, cw, rfl, hwc, hwm⟩ := hw.form
  unfold maxLen at hlm hwm
  clear hT hl hw
  have hbz : (bvs root).size = 32 := by rw [bvs_size]; exact hr
  by_cases hbad : n < 1 ∨ i < 0 ∨ n ≤ i
  · have HP := Lib.hid (check_range (root := root) (l := l) (way := way) hbad)
    by_cases h1 : n < 1
    · have a1 : decide (n < 1) = true := decide_eq_true h1
      clear hbad
      go_enter Tryd.func17, Tryd.ntmps17
      go_wp2_with fail
      go_ret
      rw [HP.out]
      exact ⟨rfl, (Below.refl _ _).alloc (Nat.le_refl _) _⟩
    · have a1 : decide (n < 1) = false := decide_eq_false h1
      by_cases h2 : i < 0
      · have a2 : decide (i < 0) = true := decide_eq_true h2
        clear hbad
        go_enter Tryd.func17, Tryd.ntmps17
        go_wp2_with fail
        go_ret
        rw [HP.out]
        exact ⟨rfl, (Below.refl _ _).alloc (Nat.le_refl _) _⟩
      · have a2 : decide (i < 0) = false := decide_eq_false h2
        have a3 : decide (n ≤ i) = true := decide_eq_true (by omega)
        clear hbad
        go_enter Tryd.func17, Tryd.ntmps17
        go_wp2_with fail
        go_ret
        rw [HP.out]
        exact ⟨rfl, (Below.refl _ _).alloc (Nat.le_refl _) _⟩
  obtain ⟨N, rfl⟩ : ∃ N : Nat, n = (N : Int) := ⟨n.toNat, by omega⟩
  obtain ⟨I, rfl⟩ : ∃ I : Nat, i = (I : Int) := ⟨i.toNat, by omega⟩
  have a1 : decide ((N : Int) < 1) = false := decide_eq_false (by omega)
  have a2 : decide ((I : Int) < 0) = false := decide_eq_false (by omega)
  have a3 : decide ((N : Int) ≤ (I : Int)) = false := decide_eq_false (by omega)
  have a4 : ¬ N ≤ I := by omega
  have HP := Lib.hid (check_in (root := root) (l := l) (way := way) hbad)
  have hNb : N ≤ 9223372036854775807 := by omega
  have hIb : I ≤ 9223372036854775807 := by omega
  have HLl : Hid (l.length ≤ 900000) := Lib.hid hll
  obtain ⟨L, hL⟩ : ∃ L, L = l.length := ⟨_, rfl⟩
  have HLL := Lib.hid hL
  rw [← hL] at hlc hll ⊢
  obtain ⟨K, hK⟩ : ∃ K, K = way.length := ⟨_, rfl⟩
  have HWl : Hid (way.length ≤ 1000000) := Lib.hid hwl
  rw [← hK] at hwc hwl ⊢
  have HKK := Lib.hid hK
  clear hbad hn hi hL hK
  go_enter Tryd.func17, Tryd.ntmps17
  go_wp2_with fail
  obtain ⟨G, hG⟩ : ∃ G, G = w.heap.size := ⟨_, rfl⟩
  refine calls_abs (fun W => Hid (Blk W G 31 (bvs root) ∧ Below G w W)) (Lib.hid ⟨by rw [hG]; exact Blk.new w _ _, by rw [hG]; exact (Below.refl _ _).alloc (Nat.le_refl _) _⟩) ?_
  rw [← hG]
  have HG := Lib.hid hG
  clear hG
  intro W1 HI1
  have hz1 := HI1.out.2.size
  have hgw : w.heap.size = G := HG.out.symm
  have hTW : Tab W1 := HT.out.below (HG.out ▸ HI1.out.2) h0
  have HL1 : HB W1 (.slice pl L cl) l := by rw [HLL.out]; exact HL.out.keep (HG.out ▸ HI1.out.2)
  have HW1 : IdS W1 (.slice pw K cw) way := by rw [HKK.out]; exact HW.out.keep (HG.out ▸ HI1.out.2)
  refine (rows_any N I _ _ l way W1 hTW (by omega) HL1 HW1 hNb hIb HLl.out HWl.out).mono ?_
  rintro e W2 ⟨v2, rfl, hrow, hb2⟩
  clear hTW HL1 HW1
  obtain ⟨A2, c2, rfl⟩ := hrow.form
  have HI2 : Hid (Blk W2 G 31 (bvs root) ∧ Below G w W2) := Lib.hid ⟨HI1.out.1.below hb2 HI1.out.1.lt, HI1.out.2.trans (hb2.mono (by omega))⟩
  have hz2 := HI2.out.2.size
  clear HI1 hb2
  have HT2 : Hid (∀ W, Below W2.heap.size W2 W → Tab W ∧ 0 < W.heap.size) := Lib.hid (fun W hb => ⟨HT.out.below (HG.out ▸ (HI2.out.2.trans (hb.mono (by omega)))) h0, by have := hb.size; omega⟩)
  obtain ⟨r, hr2⟩ : ∃ r, r = climbF (stepsF N I) (leafD l) way := ⟨_, rfl⟩
  rw [← hr2] at hrow HP ⊢
  have HR := Lib.hid hr2
  clear hr2
  by_cases hok : okF r = true
  · obtain ⟨ls, x, rfl⟩ : ∃ ls x, r = some (ls, x, []) := by
      match r, hok with
      | some (ls, x, []), _ => exact ⟨ls, x, rfl⟩
    obtain ⟨hlen, hlast⟩ := allF_last l N ls x []
    rw [hok]
    obtain ⟨M, hM⟩ : ∃ M, M = (allF l N (some (ls, x, []))).length := ⟨_, rfl⟩
    rw [← hM] at hlen hrow ⊢
    have hxl : x.length = 32 := climb_dig _ _ _ _ _ _ (sha_length _) HR.out.symm
    have hpl : (crownP N x).length = 41 := by rw [crownP, List.length_cons, List.length_append, le8_length, hxl]
    obtain ⟨g2, u2, rfl, hc2, hu2⟩ := hrow.at_ hlast
    obtain ⟨pu, cu, rfl, -, -⟩ := hu2.form
    rw [hpl] at hc2 hu2
    have HC2 := Lib.hid hc2
    have HU2 := Lib.hid hu2
    have hlsb : ls.length ≤ 1000000 := by
      have := climb_len HR.out.symm
      have := HWl.out
      omega
    have HX := Lib.hid (And.intro hM (And.intro hlast (And.intro hxl hpl)))
    clear hlast hM hrow hok hxl hc2 hu2
    by_cases hlb : 64 < L
    · have hlbi : (64 : Int) < (L : Int) := by omega
      have HF : Hid (checkF root (N : Int) (I : Int) l way = 21) := Lib.hid (by rw [HP.out, if_pos (by rw [← HLL.out]; exact hlb)])
      go_upto_region 4 with (fail)
      refine wp_region_as (ys := [.eq (.bool true), .eq (.bool false), .eq (.bool false), .eq (.slice pl L cl), .eq (.int .i64 (L : Int)), .eq (.bool true), .eq (.bool true), .eq (.bool true), .any, .any, .any, .any, .any, .any, .any, .any, .any, .any, .eq (.bool true)]) (by kernel_rfl) (by kernel_rfl) (by kernel_rfl) (by kernel_rfl) rfl _ (fun f => by simp only [framedL, Act.put, List.setIfInBounds_toArray, List.set_cons_zero, List.set_cons_succ, Nat.reduceAdd]; rfl) ⟨?_, ?_, ?_, ?_, ?_, ?_, ?_, ?_, ?_, ?_, ?_, ?_, ?_, ?_, ?_, ?_, ?_, ?_, ?_, trivial⟩ ?_
      · refine oweAs_pure ((.bool true)) rfl (fun f W hE hd => ?_) (fun W hE => rfl)
        go_simp
      · refine oweAs_pure ((.bool false)) rfl (fun f W hE hd => ?_) (fun W hE => rfl)
        simp only [DepAs, Region.binds, asAt, As.holds, and_true, forall_const] at hd
        go_simp
      · refine oweAs_pure ((.bool false)) rfl (fun f W hE hd => ?_) (fun W hE => rfl)
        simp only [DepAs, Region.binds, asAt, As.holds, and_true, forall_const] at hd
        go_simp
      · refine oweAs_pure ((.slice pl L cl)) rfl (fun f W hE hd => ?_) (fun W hE => rfl)
        go_simp
      · refine oweAs_pure ((.int .i64 (L : Int))) rfl (fun f W hE hd => ?_) (fun W hE => rfl)
        simp only [DepAs, Region.binds, asAt, As.holds, and_true, forall_const] at hd
        go_simp
      · refine oweAs_pure ((.bool true)) rfl (fun f W hE hd => ?_) (fun W hE => rfl)
        simp only [DepAs, Region.binds, asAt, As.holds, and_true, forall_const] at hd
        go_simp
      · refine oweAs_pure ((.bool true)) rfl (fun f W hE hd => ?_) (fun W hE => rfl)
        simp only [DepAs, Region.binds, asAt, As.holds, and_true, forall_const] at hd
        go_simp
      · refine oweAs_pure ((.bool true)) rfl (fun f W hE hd => ?_) (fun W hE => rfl)
        simp only [DepAs, Region.binds, asAt, As.holds, and_true, forall_const] at hd
        go_simp
      · exact oweAs_skip rfl (fun _ => trivial)
      · exact oweAs_skip rfl (fun _ => trivial)
      · exact oweAs_skip rfl (fun _ => trivial)
      · exact oweAs_skip rfl (fun _ => trivial)
      · exact oweAs_skip rfl (fun _ => trivial)
      · exact oweAs_skip rfl (fun _ => trivial)
      · exact oweAs_skip rfl (fun _ => trivial)
      · exact oweAs_skip rfl (fun _ => trivial)
      · exact oweAs_skip rfl (fun _ => trivial)
      · exact oweAs_skip rfl (fun _ => trivial)
      · refine oweAs_pure ((.bool true)) rfl (fun f W hE hd => ?_) (fun W hE => rfl)
        simp only [DepAs, Region.binds, asAt, As.holds, and_true, forall_const] at hd
        go_simp
      intro f W hE hA
      simp only [AllAs, As.holds, Nat.reduceAdd] at hA
      obtain ⟨-, -, -, -, -, -, -, -, -, -, -, -, -, -, -, -, -, -, hA18, -⟩ := hA
      rw [hA18]
      go_wp2_with fail
      go_ret
      rw [HF.out]
      exact ⟨rfl, HG.out ▸ (HI2.out.2.trans (hE.mono (by omega)))⟩
    · have hlbi : ¬ (64 : Int) < (L : Int) := by omega
      have hxl := HX.out.2.2.1
      obtain ⟨b, hb⟩ : ∃ b, b = (sha (crownP N x) == root) := ⟨_, rfl⟩
      have HBB := Lib.hid hb
      have HF : Hid (checkF root (N : Int) (I : Int) l way = if b = true then 0 else 21) := Lib.hid (by
        rw [HP.out, if_neg (by rw [← HLL.out]; exact hlb), hb]
        by_cases e : sha (crownP N x) = root
        · rw [if_pos (beq_iff_eq.2 e)]; show (if _ then _ else _) = _; rw [if_pos ⟨rfl, e⟩]
        · rw [if_neg (fun h => e (beq_iff_eq.1 h))]; show (if _ then _ else _) = _; rw [if_neg (fun h => e h.2)])
      clear hb
      obtain ⟨c, hc⟩ : ∃ c, c = ls.length + 1 := ⟨_, rfl⟩
      rw [← hc] at HC2
      have hMl : (M : Int) - 1 = (c : Int) := by omega
      have hcM : (c : Int) < (M : Int) := by omega
      have hc0 : ¬ (c : Int) < 0 := by omega
      have hcb : c ≤ 1000001 := by omega
      clear hc hlen
      go_upto_region 4 with (fail)
      refine wp_region_as (ys := [.eq (.bool true), .eq (.bool false), .eq (.bool false), .eq (.slice pl L cl), .eq (.int .i64 (L : Int)), .eq (.bool false), .eq (.bool false), .eq (.bool false), .eq (.slice (some ⟨g2, 0, none⟩) M c2), .eq (.slice (some ⟨g2, 0, none⟩) M c2), .eq (.int .i64 (M : Int)), .eq (.int .i64 (c : Int)), .eq (.pointer (some ⟨g2, c, none⟩)), .eq (.slice pu 41 cu), .parts [crownP N x], .eq (.agg (bvs (sha (crownP N x)))), .eq (.agg (bvs root)), .eq (.bool (!b)), .eq (.bool (!b))]) (by kernel_rfl) (by kernel_rfl) (by kernel_rfl) (by kernel_rfl) rfl _ (fun f => by simp only [framedL, Act.put, List.setIfInBounds_toArray, List.set_cons_zero, List.set_cons_succ, Nat.reduceAdd]; rfl) ⟨?_, ?_, ?_, ?_, ?_, ?_, ?_, ?_, ?_, ?_, ?_, ?_, ?_, ?_, ?_, ?_, ?_, ?_, ?_, trivial⟩ ?_
      · refine oweAs_pure ((.bool true)) rfl (fun f W hE hd => ?_) (fun W hE => rfl)
        go_simp
      · refine oweAs_pure ((.bool false)) rfl (fun f W hE hd => ?_) (fun W hE => rfl)
        simp only [DepAs, Region.binds, asAt, As.holds, and_true, forall_const] at hd
        go_simp
      · refine oweAs_pure ((.bool false)) rfl (fun f W hE hd => ?_) (fun W hE => rfl)
        simp only [DepAs, Region.binds, asAt, As.holds, and_true, forall_const] at hd
        go_simp
      · refine oweAs_pure ((.slice pl L cl)) rfl (fun f W hE hd => ?_) (fun W hE => rfl)
        go_simp
      · refine oweAs_pure ((.int .i64 (L : Int))) rfl (fun f W hE hd => ?_) (fun W hE => rfl)
        simp only [DepAs, Region.binds, asAt, As.holds, and_true, forall_const] at hd
        go_simp
      · refine oweAs_pure ((.bool false)) rfl (fun f W hE hd => ?_) (fun W hE => rfl)
        simp only [DepAs, Region.binds, asAt, As.holds, and_true, forall_const] at hd
        go_simp
      · refine oweAs_pure ((.bool false)) rfl (fun f W hE hd => ?_) (fun W hE => rfl)
        simp only [DepAs, Region.binds, asAt, As.holds, and_true, forall_const] at hd
        go_simp
      · refine oweAs_pure ((.bool false)) rfl (fun f W hE hd => ?_) (fun W hE => rfl)
        simp only [DepAs, Region.binds, asAt, As.holds, and_true, forall_const] at hd
        go_simp
      · refine oweAs_pure ((.slice (some ⟨g2, 0, none⟩) M c2)) rfl (fun f W hE hd => ?_) (fun W hE => rfl)
        go_simp
      · refine oweAs_pure ((.slice (some ⟨g2, 0, none⟩) M c2)) rfl (fun f W hE hd => ?_) (fun W hE => rfl)
        go_simp
      · refine oweAs_pure ((.int .i64 (M : Int))) rfl (fun f W hE hd => ?_) (fun W hE => rfl)
        simp only [DepAs, Region.binds, asAt, As.holds, and_true, forall_const] at hd
        go_simp
      · refine oweAs_pure ((.int .i64 (c : Int))) rfl (fun f W hE hd => ?_) (fun W hE => rfl)
        simp only [DepAs, Region.binds, asAt, As.holds, and_true, forall_const] at hd
        have hw : IntKind.i64.wrap (c : Int) = (c : Int) := by rw [IntKind.wrap_i64]; omega
        go_simp
      · refine oweAs_pure ((.pointer (some ⟨g2, c, none⟩))) rfl (fun f W hE hd => ?_) (fun W hE => rfl)
        simp only [DepAs, Region.binds, asAt, As.holds, and_true, forall_const] at hd
        go_simp
      · refine oweAs_pure ((.slice pu 41 cu)) rfl (fun f W hE hd => ?_) (fun W hE => rfl)
        simp only [DepAs, Region.binds, asAt, As.holds, and_true, forall_const] at hd
        have d2 := (hE.cell (p := ⟨g2, c, none⟩) (lt_of_cell HC2.out)).trans HC2.out
        go_simp
      · refine oweAs_made rfl (fun f W hE hd => ?_)
        simp only [DepAs, Region.binds, asAt, As.holds, and_true, forall_const] at hd
        have hP := parts_new1 (w := W) (t := 22) rfl (HU2.out.keep hE)
        refine ⟨_, _, by (go_simp; first | exact rfl | exact ⟨rfl, rfl⟩), ?_, (Below.refl W.heap.size W).alloc (Nat.le_refl _) _⟩
        exact hP
      · refine oweAs_call 28 rfl (fun f W hE hd => ?_)
        simp only [DepAs, Region.binds, asAt, As.holds, and_true, forall_const] at hd
        refine ⟨_, by (go_simp; first | exact rfl | exact ⟨rfl, rfl⟩), ?_⟩
        have hpl := HX.out.2.2.2
        refine (of_any _ [crownP N x] W (HT2.out W hE).1 (HT2.out W hE).2 (by first | exact hd | exact hd.1) (by simp) (by simp; omega)).mono ?_
        rintro e w' ⟨rfl, hb⟩
        exact ⟨_, rfl, by (show (_ : Value) = _; simp), hb⟩
      · exact oweAs_load 31 (.tmp 5) rfl (G) 31 (bvs root) (fun _ => rfl) (HI2.out.1) Tryd.underlying31 rfl (by rw [bvs_size, hr]; kernel_rfl) rfl rfl
      · refine oweAs_pure ((.bool (!b))) rfl (fun f W hE hd => ?_) (fun W hE => rfl)
        simp only [DepAs, Region.binds, asAt, As.holds, and_true, forall_const] at hd
        have hcl3 : (sha (crownP N x)).length = 32 := sha_length _
        have hbb := HBB.out.symm
        go_simp
      · refine oweAs_pure ((.bool (!b))) rfl (fun f W hE hd => ?_) (fun W hE => rfl)
        simp only [DepAs, Region.binds, asAt, As.holds, and_true, forall_const] at hd
        go_simp
      intro f W hE hA
      simp only [AllAs, As.holds, Nat.reduceAdd] at hA
      obtain ⟨-, -, -, -, -, -, -, -, -, -, -, -, -, -, -, -, -, -, hA18, -⟩ := hA
      rw [hA18]
      have HE := Lib.hid (HI2.out.2.trans (hE.mono (by omega)))
      clear hE
      cases b with
      | true =>
        go_wp2_with fail
        go_ret
        rw [HF.out]
        exact ⟨rfl, HG.out ▸ HE.out⟩
      | false =>
        go_wp2_with fail
        go_ret
        rw [HF.out]
        exact ⟨rfl, HG.out ▸ HE.out⟩
  · have hok2 : okF r = false := by cases h : okF r with | false => rfl | true => exact absurd h hok
    have HF : Hid (checkF root (N : Int) (I : Int) l way = 21) := Lib.hid (by
      rw [HP.out]
      by_cases h : 64 < l.length
      · rw [if_pos h]
      · rw [if_neg h]
        match r, hok2 with
        | none, _ => rfl
        | some (ls, x, []), h => simp [okF] at h
        | some (ls, x, y :: m), _ => show (if _ then _ else _) = _; rw [if_neg (fun h => by simp at h)])
    rw [hok2]
    obtain ⟨M, hM⟩ : ∃ M, M = (allF l N r).length := ⟨_, rfl⟩
    rw [← hM]
    clear hok hok2 hM hrow
    go_upto_region 4 with (fail)
    refine wp_region_as (ys := [.eq (.bool false), .eq (.bool true), .eq (.bool true), .any, .any, .any, .eq (.bool true), .eq (.bool true), .any, .any, .any, .any, .any, .any, .any, .any, .any, .any, .eq (.bool true)]) (by kernel_rfl) (by kernel_rfl) (by kernel_rfl) (by kernel_rfl) rfl _ (fun f => by simp only [framedL, Act.put, List.setIfInBounds_toArray, List.set_cons_zero, List.set_cons_succ, Nat.reduceAdd]; rfl) ⟨?_, ?_, ?_, ?_, ?_, ?_, ?_, ?_, ?_, ?_, ?_, ?_, ?_, ?_, ?_, ?_, ?_, ?_, ?_, trivial⟩ ?_
    · refine oweAs_pure ((.bool false)) rfl (fun f W hE hd => ?_) (fun W hE => rfl)
      go_simp
    · refine oweAs_pure ((.bool true)) rfl (fun f W hE hd => ?_) (fun W hE => rfl)
      simp only [DepAs, Region.binds, asAt, As.holds, and_true, forall_const] at hd
      go_simp
    · refine oweAs_pure ((.bool true)) rfl (fun f W hE hd => ?_) (fun W hE => rfl)
      simp only [DepAs, Region.binds, asAt, As.holds, and_true, forall_const] at hd
      go_simp
    · exact oweAs_skip rfl (fun _ => trivial)
    · exact oweAs_skip rfl (fun _ => trivial)
    · exact oweAs_skip rfl (fun _ => trivial)
    · refine oweAs_pure ((.bool true)) rfl (fun f W hE hd => ?_) (fun W hE => rfl)
      simp only [DepAs, Region.binds, asAt, As.holds, and_true, forall_const] at hd
      go_simp
    · refine oweAs_pure ((.bool true)) rfl (fun f W hE hd => ?_) (fun W hE => rfl)
      simp only [DepAs, Region.binds, asAt, As.holds, and_true, forall_const] at hd
      go_simp
    · exact oweAs_skip rfl (fun _ => trivial)
    · exact oweAs_skip rfl (fun _ => trivial)
    · exact oweAs_skip rfl (fun _ => trivial)
    · exact oweAs_skip rfl (fun _ => trivial)
    · exact oweAs_skip rfl (fun _ => trivial)
    · exact oweAs_skip rfl (fun _ => trivial)
    · exact oweAs_skip rfl (fun _ => trivial)
    · exact oweAs_skip rfl (fun _ => trivial)
    · exact oweAs_skip rfl (fun _ => trivial)
    · exact oweAs_skip rfl (fun _ => trivial)
    · refine oweAs_pure ((.bool true)) rfl (fun f W hE hd => ?_) (fun W hE => rfl)
      simp only [DepAs, Region.binds, asAt, As.holds, and_true, forall_const] at hd
      go_simp
    intro f W hE hA
    simp only [AllAs, As.holds, Nat.reduceAdd] at hA
    obtain ⟨-, -, -, -, -, -, -, -, -, -, -, -, -, -, -, -, -, -, hA18, -⟩ := hA
    rw [hA18]
    go_wp2_with fail
    go_ret
    rw [HF.out]
    exact ⟨rfl, HG.out ▸ (HI2.out.2.trans (hE.mono (by omega)))⟩
end Go.Proofs.YtofbfkkncjcodaaDoor
