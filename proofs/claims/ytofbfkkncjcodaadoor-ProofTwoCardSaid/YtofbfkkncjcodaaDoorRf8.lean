/-
  The document's check of a proof.
-/
import Derived.Test.YtofbfkkncjcodaaDoorRf6
import Derived.Test.YtofbfkkncjcodaaDoorPfR
import Derived.Test.YtofbfkkncjcodaaDoorEq
namespace Go.Proofs.YtofbfkkncjcodaaDoor
open Go Go.RowKit
set_option linter.unusedSimpArgs false
set_option linter.unusedVariables false

theorem checkR_range {root : Dig} {n i : Int} {l : List UInt8} {way : List Dig} (h : n < 1 ∨ i < 0 ∨ n ≤ i) : checkF root n i l way = 14 := by unfold checkF; rw [if_pos h]
theorem checkR_in {root : Dig} {n i : Nat} {l : List UInt8} {way : List Dig} (h : ¬ ((n : Int) < 1 ∨ (i : Int) < 0 ∨ (n : Int) ≤ (i : Int))) : checkF root (n : Int) (i : Int) l way = if 64 < l.length then 21 else
    match climbF (stepsF n i) (leafD l) way with
    | none => 21
    | some (_, x, m) => if m = [] ∧ crownD n x = root then 0 else 21 := by
  unfold checkF; rw [if_neg h]; rfl
set_option maxRecDepth 100000 in
set_option maxHeartbeats 4000000 in
theorem refCheck_any (root : Dig) (n i : Int) (vw : Value) (l : List UInt8) (way : List Dig) (w : World) (hr : root.length = 32) (hw : IdS w vw way) (hn : n ≤ 9223372036854775807) (hi : i ≤ 9223372036854775807) (hll : l.length ≤ 900000) (hwl : way.length ≤ 1000000) :
    Calls Tryd.prog 18 #[.agg (bvs root), .int .i64 n, .int .i64 i, .string (bs l), vw] w fun e w' => e = .returned (.int .i64 (checkF root n i l way : Int)) ∧ Below w.heap.size w w' := by
  have HW := Lib.hid hw
  obtain ⟨pw, cw, rfl, hwc, hwm⟩ := hw.form
  unfold maxLen at hwm
  clear hw
  have hbz : (bvs root).size = 32 := by rw [bvs_size]; exact hr
  by_cases hbad : n < 1 ∨ i < 0 ∨ n ≤ i
  · have HP := Lib.hid (checkR_range (root := root) (l := l) (way := way) hbad)
    by_cases h1 : n < 1
    · have a1 : decide (n < 1) = true := decide_eq_true h1
      clear hbad
      go_enter Tryd.func18, Tryd.ntmps18
      go_wp2_with fail
      go_ret
      rw [HP.out]
      exact ⟨rfl, (Below.refl _ _).alloc (Nat.le_refl _) _⟩
    · have a1 : decide (n < 1) = false := decide_eq_false h1
      by_cases h2 : i < 0
      · have a2 : decide (i < 0) = true := decide_eq_true h2
        clear hbad
        go_enter Tryd.func18, Tryd.ntmps18
        go_wp2_with fail
        go_ret
        rw [HP.out]
        exact ⟨rfl, (Below.refl _ _).alloc (Nat.le_refl _) _⟩
      · have a2 : decide (i < 0) = false := decide_eq_false h2
        have a3 : decide (n ≤ i) = true := decide_eq_true (by omega)
        clear hbad
        go_enter Tryd.func18, Tryd.ntmps18
        go_wp2_with fail
        go_ret
        rw [HP.out]
        exact ⟨rfl, (Below.refl _ _).alloc (Nat.le_refl _) _⟩
  obtain ⟨N, rfl⟩ : ∃ N : Nat, n = (N : Int) := ⟨n.toNat, by omega⟩
  obtain ⟨I, rfl⟩ : ∃ I : Nat, i = (I : Int) := ⟨i.toNat, by omega⟩
  have a1 : decide ((N : Int) < 1) = false := decide_eq_false (by omega)
  have a2 : decide ((I : Int) < 0) = false := decide_eq_false (by omega)
  have a3 : decide ((N : Int) ≤ (I : Int)) = false := decide_eq_false (by omega)
  have HP := Lib.hid (checkR_in (root := root) (l := l) (way := way) hbad)
  have hNb : N ≤ 9223372036854775807 := by omega
  have hIb : I ≤ 9223372036854775807 := by omega
  have hIN : I < N := by omega
  have hls : (bs l).size = l.length := bs_size l
  obtain ⟨L, hL⟩ : ∃ L, L = l.length := ⟨_, rfl⟩
  rw [← hL] at hls hll
  have HLL := Lib.hid hL
  obtain ⟨K, hK⟩ : ∃ K, K = way.length := ⟨_, rfl⟩
  rw [← hK] at hwc hwl ⊢
  have HKK := Lib.hid hK
  rw [← hK] at HW
  clear hbad hn hi hL hK
  by_cases hlb : 64 < L
  · have hlbi : (64 : Int) < (L : Int) := by omega
    have HF : Hid (checkF root (N : Int) (I : Int) l way = 21) := Lib.hid (by rw [HP.out, if_pos (by rw [← HLL.out]; exact hlb)])
    go_enter Tryd.func18, Tryd.ntmps18
    go_wp2_with fail
    go_ret
    rw [HF.out]
    exact ⟨rfl, (Below.refl _ _).alloc (Nat.le_refl _) _⟩
  have hlbi : ¬ (64 : Int) < (L : Int) := by omega
  have HF : Hid (∀ z, z = climbF (stepsF N I) (leafD l) way → checkF root (N : Int) (I : Int) l way = match z with
    | none => 21
    | some (_, x, m) => if m = [] ∧ crownD N x = root then 0 else 21) := Lib.hid (by rintro z rfl; rw [HP.out, if_neg (by rw [← HLL.out]; exact hlb)])
  have hs1 : (⟨#[0]⟩ : ByteArray) ++ bs l = bs (0 :: l) := bs_add [0] l
  clear HP
  obtain ⟨G, hG⟩ : ∃ G, G = w.heap.size := ⟨_, rfl⟩
  have HG := Lib.hid hG
  have hgw : w.heap.size = G := hG.symm
  clear hG
  go_enter Tryd.func18, Tryd.ntmps18
  go_wp2_with (first
    | (go_at_call 20
       refine (ref_any _ _ (by rw [bs_size, List.length_cons]; have := HLL.out; omega)).mono ?_
       rintro e w3 ⟨rfl, hb3⟩
       rw [sb_bs]
       obtain ⟨d, hd⟩ : ∃ d, d = sha (0 :: l) := ⟨_, rfl⟩
       have hdl : d.length = 32 := by rw [hd]; exact sha_length _
       have hdz : (bvs d).size = 32 := by rw [bvs_size]; exact hdl
       rw [← hd]
       have HI1 : Hid (Blk w3 G 31 (bvs root) ∧ Below G w w3 ∧ G < w3.heap.size ∧ d = leafD l ∧ d.length = 32) := Lib.hid (by
         have hA : Below G w (w.alloc (.cells (bvs root) 31)) := by rw [← hgw]; exact (Below.refl _ _).alloc (Nat.le_refl _) _
         have hB : Blk (w.alloc (.cells (bvs root) 31)) G 31 (bvs root) := by rw [← hgw]; exact Blk.new w _ _
         refine ⟨hB.below hb3 hB.lt, hA.trans (hb3.mono (by simp; omega)), by have := hb3.size; simp at this; omega, by rw [hd]; rfl, hdl⟩)
       clear hb3 hd hdl)
    | (refine wpList_store_blk rfl 31 (.tmp 11) (.tmp 30) rfl w3.heap.size 31 _ (bvs d) rfl rfl (Blk.new _ _ _) (by rw [hdz]; rfl) (by rw [hdz]; kernel_rfl) (bvs_one _) ?_
       intro V2 hb2 hg2 hz3
       have hBV : Below w3.heap.size w3 V2 := ((Below.refl w3.heap.size w3).alloc (Nat.le_refl _) _).grown hg2 (by simp) (by intro k hk; injection hk with hk; omega)
       have HJ : Hid (Blk V2 w3.heap.size 31 (bvs d) ∧ Blk V2 G 31 (bvs root) ∧ Below G w V2 ∧ G < w3.heap.size ∧ d = leafD l ∧ d.length = 32) := Lib.hid ⟨hb2, HI1.out.1.below hBV HI1.out.1.lt, HI1.out.2.1.trans (hBV.mono (by have := HI1.out.2.2.1; omega)), HI1.out.2.2.1, HI1.out.2.2.2.1, HI1.out.2.2.2.2⟩
       clear hb2 hg2 hz3 hBV HI1))
  have hGD3 : G < w3.heap.size := HJ.out.2.2.2.1
  obtain ⟨D, hD⟩ : ∃ D, D = w3.heap.size := ⟨_, rfl⟩
  rw [← hD] at HJ hGD3 ⊢
  clear hD
  go_loopw [2, 12, 13] (fun i k m W => ∃ (q c : Nat) (ls : List (List UInt8)) (x : Dig), q ≤ (stepsF N I).length ∧ i = .int .i64 (stI I q : Int) ∧ k = .int .i64 (c : Int) ∧ m = .int .i64 (stN N q : Int) ∧ climbF ((stepsF N I).take q) (leafD l) way = some (ls, x, way.drop c) ∧ ls.length = c ∧ x.length = 32 ∧ Blk W D 31 (bvs x) ∧ Blk W G 31 (bvs root) ∧ Below G w W) (fun _ _ m _ => (intOf m).toNat)
  case atStart => exact ⟨0, 0, [], d, Nat.zero_le _, rfl, rfl, rfl, by simp [climbF, HJ.out.2.2.2.2.1], rfl, HJ.out.2.2.2.2.2, HJ.out.1, HJ.out.2.1, HJ.out.2.2.1⟩
  case round =>
    clear HJ
    obtain ⟨q, c, ls, x, hq, rfl, rfl, rfl, hcl, hlc, hxl, hbx, hbr, hbw⟩ := hrel
    obtain ⟨y, hy⟩ : ∃ y, y = stI I q := ⟨_, rfl⟩
    obtain ⟨M, hM⟩ : ∃ M, M = stN N q := ⟨_, rfl⟩
    rw [← hM, ← hy]
    have hMN : M ≤ N := by rw [hM]; exact stN_le N q
    have hyI : y ≤ I := by rw [hy]; exact stI_le I q
    have hyM : y < M := by rw [hy, hM]; exact stI_lt I N q hIN hq
    have hcK : c ≤ K := by
      have := climb_len hcl
      rw [← HKK.out, hlc] at this; omega
    have hxz : (bvs x).size = 32 := by rw [bvs_size]; exact hxl
    have HX := Lib.hid (And.intro hcl (And.intro hlc (And.intro hbx (And.intro hbr hbw))))
    have HXL := Lib.hid hxl
    have HQ := Lib.hid (And.intro hy (And.intro hM hq))
    have hGW : G ≤ wr.heap.size := by have := hbr.lt; omega
    clear hcl hlc hbx hbr hbw hy hM hq
    by_cases hlt : 1 < M
    · have hMi : (1 : Int) < (M : Int) := by omega
      have hqs : q < (stepsF N I).length := by rw [steps_lt, ← HQ.out.2.1]; exact hlt
      have HNX : Hid ((M : Int) / 2 + (M : Int) % 2 = (stN N (q + 1) : Int) ∧ (y : Int) / 2 = (stI I (q + 1) : Int) ∧ stN N (q + 1) < M) := Lib.hid ⟨by rw [stN, ← HQ.out.2.1]; omega, by rw [stI, ← HQ.out.1]; simp, by rw [HQ.out.2.1]; exact stN_lt (by rw [← HQ.out.2.1]; exact hlt)⟩
      have HCN := Lib.hid (climb_next hqs HX.out.1 HX.out.2.1)
      rw [← HQ.out.1, ← HQ.out.2.1] at HCN
      by_cases hodd : y % 2 = 1
      · have hrem : (y : Int) % 2 = 1 := by omega
        have hbe : besideF M y = true := beside_odd hodd hyM
        by_cases hcl2 : c < K
        · skip
          obtain ⟨z, hz⟩ : ∃ z, way[c]? = some z := ⟨_, List.getElem?_eq_getElem (by rw [← HKK.out]; exact hcl2)⟩
          obtain ⟨pb, po, rfl, hat⟩ := HW.out.at_ (by omega)
          obtain ⟨hzl, hzr⟩ := hat c z hz
          have hpw : pb < w.heap.size := range_lt hzr hzl
          have HZR : Hid (wr.rangeAt pb (po + c * 32) (z.map bcv)) := Lib.hid (fun j v hv => (HX.out.2.2.2.2.cell (p := ⟨pb, po + c * 32 + j, none⟩) (by show pb < G; omega)).trans (hzr j v hv))
          have HZ := Lib.hid hz
          have hcKi : (c : Int) < (K : Int) := by omega
          have hcg : ¬ (c : Int) < 0 := by omega
          clear hat hzr hz
          go_upto_region 14 with (fail)
          refine wp_region_tail2 6 [.eq (.slice (some ⟨pb, po, none⟩) K cw), .eq (.int .i64 (c : Int)), .eq (.pointer (some ⟨pb, po + c * 32, none⟩)), .eq (.agg (bvs z)), .eq (.agg (bvs x)), .eq (.agg (bvs (nodeD z x)))] (by kernel_rfl) (by kernel_rfl) (by kernel_rfl) (by kernel_rfl) rfl (by decide) (by kernel_rfl) _ (fun f => by simp only [framedL, Act.put, maskF, oldF, Nat.reduceLT, reduceIte, List.getElem?_toArray, List.getElem?_cons_succ, List.getElem?_cons_zero, Option.bind_some, Option.map_some, Option.map_none, Option.getD_some, Option.getD_none, Array.getD_eq_getD_getElem?, List.setIfInBounds_toArray, List.set_cons_zero, List.set_cons_succ, Nat.reduceAdd]; rfl) ⟨?_, ?_, ?_, ?_, ?_, ?_, trivial⟩ ?_
          · refine oweAs_pure ((.slice (some ⟨pb, po, none⟩) K cw)) rfl (fun f W hE hd => ?_) (fun W hE => rfl)
            go_simp
          · refine oweAs_pure ((.int .i64 (c : Int))) rfl (fun f W hE hd => ?_) (fun W hE => rfl)
            go_simp
          · refine oweAs_pure ((.pointer (some ⟨pb, po + c * 32, none⟩))) rfl (fun f W hE hd => ?_) (fun W hE => rfl)
            simp only [DepAs, Region.binds, asAt, As.holds, and_true, forall_const] at hd
            go_simp
          · refine oweAs_load_mid 31 (.tmp 57) rfl z rfl rfl Tryd.underlying31 rfl (by rw [hzl]; kernel_rfl) (fun f W hE hd => by (simp only [DepAs, Region.binds, asAt, As.holds, and_true, forall_const] at hd; exact ⟨pb, _, by go_simp, range_keep (HZR.out) hE⟩))
          · exact oweAs_load 31 (.tmp 11) rfl (D) 31 (bvs x) (fun _ => rfl) (HX.out.2.2.1) Tryd.underlying31 rfl (by rw [bvs_size, HXL.out]; kernel_rfl) rfl rfl
          · refine oweAs_call 32 rfl (fun f W hE hd => ?_)
            simp only [DepAs, Region.binds, asAt, As.holds, and_true, forall_const] at hd
            refine ⟨_, by (go_simp; first | exact rfl | exact ⟨rfl, rfl⟩), ?_⟩
            refine (refNode_any z x W hzl HXL.out).mono ?_
            rintro e w' ⟨rfl, hb⟩
            exact ⟨_, rfl, rfl, hb⟩
          intro f W hE hA
          simp only [AllAs, As.holds, Nat.reduceAdd] at hA
          obtain ⟨-, -, -, -, -, hA5, -⟩ := hA
          simp only [List.drop_succ_cons, List.drop_zero]
          rw [hA5]
          obtain ⟨dd, hdd⟩ : ∃ dd, dd = sha (stepP y x z) := ⟨_, rfl⟩
          have hdn : nodeD z x = dd := by rw [hdd, stepP, if_pos hodd]; rfl
          rw [hdn]
          have hddl : dd.length = 32 := by rw [hdd]; exact sha_length _
          have hddz : (bvs dd).size = 32 := by rw [bvs_size]; exact hddl
          have HD2 := Lib.hid (And.intro hdd hddl)
          have HBX : Hid (Blk W D 31 (bvs x) ∧ Blk W G 31 (bvs root) ∧ Below G w W) := Lib.hid ⟨HX.out.2.2.1.below hE HX.out.2.2.1.lt, HX.out.2.2.2.1.below hE HX.out.2.2.2.1.lt, HX.out.2.2.2.2.trans (hE.mono hGW)⟩
          clear hE hdd hddl hdn hA5
          go_wp2_with (
            (refine wpList_store_blk rfl 31 (.tmp 11) (.tmp 60) rfl D 31 (bvs x) (bvs dd) rfl rfl HBX.out.1 (by rw [hddz, hxz]) (by rw [hddz]; kernel_rfl) (bvs_one _) ?_
             intro W2 hb2 hg2 hz3
             have HW2 : Hid (Blk W2 D 31 (bvs dd) ∧ Blk W2 G 31 (bvs root) ∧ Below G w W2) := Lib.hid ⟨hb2, HBX.out.2.1.grown hg2 (by intro e; injection e with e; omega), HBX.out.2.2.grown hg2 (by have := HBX.out.2.1.lt; omega) (by intro k hk; injection hk with hk; omega)⟩
             clear hb2 hg2 hz3 HBX))
          go_roundw
          case rel => exact ⟨q + 1, c + 1, _, dd, hqs, congrArg (Value.int .i64) HNX.out.2.1, by go_num, congrArg (Value.int .i64) HNX.out.1, (by have h := (HCN.out.2.2 z hbe HZ.out).1; rw [← HD2.out.1] at h; exact h), (HCN.out.2.2 z hbe HZ.out).2, HD2.out.2, HW2.out.1, HW2.out.2.1, HW2.out.2.2⟩
          case measure => have := HNX.out.2.2; have := HNX.out.1; simp [intOf]; omega
        · have hcKi : (K : Int) ≤ (c : Int) := by omega
          have HN := Lib.hid (HCN.out.2.1 hbe (by have := HKK.out; omega))
          go_wp2_with fail
          go_ret
          rw [HF.out _ HN.out.symm]
          exact ⟨rfl, HG.out ▸ HX.out.2.2.2.2⟩
      · have hrem : (y : Int) % 2 = 0 := by omega
        by_cases hnx : y + 1 < M
        · have hni : (y : Int) + 1 < (M : Int) := by omega
          have hbe : besideF M y = true := by rw [beside_even (by omega)]; exact decide_eq_true hnx
          by_cases hcl2 : c < K
          · skip
            obtain ⟨z, hz⟩ : ∃ z, way[c]? = some z := ⟨_, List.getElem?_eq_getElem (by rw [← HKK.out]; exact hcl2)⟩
            obtain ⟨pb, po, rfl, hat⟩ := HW.out.at_ (by omega)
            obtain ⟨hzl, hzr⟩ := hat c z hz
            have hpw : pb < w.heap.size := range_lt hzr hzl
            have HZR : Hid (wr.rangeAt pb (po + c * 32) (z.map bcv)) := Lib.hid (fun j v hv => (HX.out.2.2.2.2.cell (p := ⟨pb, po + c * 32 + j, none⟩) (by show pb < G; omega)).trans (hzr j v hv))
            have HZ := Lib.hid hz
            have hcKi : (c : Int) < (K : Int) := by omega
            have hcg : ¬ (c : Int) < 0 := by omega
            clear hat hzr hz
            go_upto_region 15 with (fail)
            refine wp_region_tail2 6 [.eq (.agg (bvs x)), .eq (.slice (some ⟨pb, po, none⟩) K cw), .eq (.int .i64 (c : Int)), .eq (.pointer (some ⟨pb, po + c * 32, none⟩)), .eq (.agg (bvs z)), .eq (.agg (bvs (nodeD x z)))] (by kernel_rfl) (by kernel_rfl) (by kernel_rfl) (by kernel_rfl) rfl (by decide) (by kernel_rfl) _ (fun f => by simp only [framedL, Act.put, maskF, oldF, Nat.reduceLT, reduceIte, List.getElem?_toArray, List.getElem?_cons_succ, List.getElem?_cons_zero, Option.bind_some, Option.map_some, Option.map_none, Option.getD_some, Option.getD_none, Array.getD_eq_getD_getElem?, List.setIfInBounds_toArray, List.set_cons_zero, List.set_cons_succ, Nat.reduceAdd]; rfl) ⟨?_, ?_, ?_, ?_, ?_, ?_, trivial⟩ ?_
            · exact oweAs_load 31 (.tmp 11) rfl (D) 31 (bvs x) (fun _ => rfl) (HX.out.2.2.1) Tryd.underlying31 rfl (by rw [bvs_size, HXL.out]; kernel_rfl) rfl rfl
            · refine oweAs_pure ((.slice (some ⟨pb, po, none⟩) K cw)) rfl (fun f W hE hd => ?_) (fun W hE => rfl)
              go_simp
            · refine oweAs_pure ((.int .i64 (c : Int))) rfl (fun f W hE hd => ?_) (fun W hE => rfl)
              go_simp
            · refine oweAs_pure ((.pointer (some ⟨pb, po + c * 32, none⟩))) rfl (fun f W hE hd => ?_) (fun W hE => rfl)
              simp only [DepAs, Region.binds, asAt, As.holds, and_true, forall_const] at hd
              go_simp
            · refine oweAs_load_mid 31 (.tmp 64) rfl z rfl rfl Tryd.underlying31 rfl (by rw [hzl]; kernel_rfl) (fun f W hE hd => by (simp only [DepAs, Region.binds, asAt, As.holds, and_true, forall_const] at hd; exact ⟨pb, _, by go_simp, range_keep (HZR.out) hE⟩))
            · refine oweAs_call 32 rfl (fun f W hE hd => ?_)
              simp only [DepAs, Region.binds, asAt, As.holds, and_true, forall_const] at hd
              refine ⟨_, by (go_simp; first | exact rfl | exact ⟨rfl, rfl⟩), ?_⟩
              refine (refNode_any x z W HXL.out hzl).mono ?_
              rintro e w' ⟨rfl, hb⟩
              exact ⟨_, rfl, rfl, hb⟩
            intro f W hE hA
            simp only [AllAs, As.holds, Nat.reduceAdd] at hA
            obtain ⟨-, -, -, -, -, hA5, -⟩ := hA
            simp only [List.drop_succ_cons, List.drop_zero]
            rw [hA5]
            obtain ⟨dd, hdd⟩ : ∃ dd, dd = sha (stepP y x z) := ⟨_, rfl⟩
            have hdn : nodeD x z = dd := by rw [hdd, stepP, if_neg hodd]; rfl
            rw [hdn]
            have hddl : dd.length = 32 := by rw [hdd]; exact sha_length _
            have hddz : (bvs dd).size = 32 := by rw [bvs_size]; exact hddl
            have HD2 := Lib.hid (And.intro hdd hddl)
            have HBX : Hid (Blk W D 31 (bvs x) ∧ Blk W G 31 (bvs root) ∧ Below G w W) := Lib.hid ⟨HX.out.2.2.1.below hE HX.out.2.2.1.lt, HX.out.2.2.2.1.below hE HX.out.2.2.2.1.lt, HX.out.2.2.2.2.trans (hE.mono hGW)⟩
            clear hE hdd hddl hdn hA5
            go_wp2_with (
              (refine wpList_store_blk rfl 31 (.tmp 11) (.tmp 66) rfl D 31 (bvs x) (bvs dd) rfl rfl HBX.out.1 (by rw [hddz, hxz]) (by rw [hddz]; kernel_rfl) (bvs_one _) ?_
               intro W2 hb2 hg2 hz3
               have HW2 : Hid (Blk W2 D 31 (bvs dd) ∧ Blk W2 G 31 (bvs root) ∧ Below G w W2) := Lib.hid ⟨hb2, HBX.out.2.1.grown hg2 (by intro e; injection e with e; omega), HBX.out.2.2.grown hg2 (by have := HBX.out.2.1.lt; omega) (by intro k hk; injection hk with hk; omega)⟩
               clear hb2 hg2 hz3 HBX))
            go_roundw
            case rel => exact ⟨q + 1, c + 1, _, dd, hqs, congrArg (Value.int .i64) HNX.out.2.1, by go_num, congrArg (Value.int .i64) HNX.out.1, (by have h := (HCN.out.2.2 z hbe HZ.out).1; rw [← HD2.out.1] at h; exact h), (HCN.out.2.2 z hbe HZ.out).2, HD2.out.2, HW2.out.1, HW2.out.2.1, HW2.out.2.2⟩
            case measure => have := HNX.out.2.2; have := HNX.out.1; simp [intOf]; omega
          · have hcKi : (K : Int) ≤ (c : Int) := by omega
            have HN := Lib.hid (HCN.out.2.1 hbe (by have := HKK.out; omega))
            go_wp2_with fail
            go_ret
            rw [HF.out _ HN.out.symm]
            exact ⟨rfl, HG.out ▸ HX.out.2.2.2.2⟩
        · have hni : ¬ (y : Int) + 1 < (M : Int) := by omega
          have hbe : besideF M y = false := by rw [beside_even (by omega)]; exact decide_eq_false hnx
          go_wp2_with fail
          go_roundw
          case rel => exact ⟨q + 1, c, ls, x, hqs, congrArg (Value.int .i64) HNX.out.2.1, rfl, congrArg (Value.int .i64) HNX.out.1, HCN.out.1 hbe, HX.out.2.1, HXL.out, HX.out.2.2⟩
          case measure => have := HNX.out.2.2; have := HNX.out.1; simp [intOf]; omega
    · have hMi : ¬ (1 : Int) < (M : Int) := by omega
      have hqe := steps_end HQ.out.2.2 (by rw [← HQ.out.2.1]; exact hlt)
      have HC : Hid (some (ls, x, way.drop c) = climbF (stepsF N I) (leafD l) way) := Lib.hid (by rw [← HX.out.1, List.take_of_length_le (by omega)])
      have HV := Lib.hid (HF.out _ HC.out)
      by_cases hcK2 : c = K
      · obtain ⟨b, hb⟩ : ∃ b, b = (crownD N x == root) := ⟨_, rfl⟩
        have hnc : way.drop c = [] := List.drop_eq_nil_of_le (by rw [← HKK.out]; omega)
        have HFB : Hid (checkF root (N : Int) (I : Int) l way = if b = true then 0 else 21) := Lib.hid (by
          rw [HV.out, hb]
          show (if _ then _ else _) = _
          by_cases e : crownD N x = root
          · rw [if_pos (beq_iff_eq.2 e), if_pos ⟨hnc, e⟩]
          · rw [if_neg (fun h => e (beq_iff_eq.1 h)), if_neg (fun h => e h.2)])
        have HBB := Lib.hid hb
        have hcKe : ((c : Int) = (K : Int)) := by omega
        clear hb hnc hqe
        go_upto_region 18 with (fail)
        subst hcK2
        clear hcKe
        refine wp_region_as (ys := [.eq (.int .i64 (c : Int)), .eq (.slice pw c cw), .eq (.int .i64 (c : Int)), .eq (.bool false), .eq (.bool false), .eq (.int .i64 (N : Int)), .eq (.agg (bvs x)), .eq (.agg (bvs (crownD N x))), .eq (.agg (bvs root)), .eq (.bool (!b)), .eq (.bool (!b))]) (by kernel_rfl) (by kernel_rfl) (by kernel_rfl) (by kernel_rfl) rfl _ (fun f => by simp only [framedL, Act.put, List.setIfInBounds_toArray, List.set_cons_zero, List.set_cons_succ, Nat.reduceAdd]; rfl) ⟨?_, ?_, ?_, ?_, ?_, ?_, ?_, ?_, ?_, ?_, ?_, trivial⟩ ?_
        · refine oweAs_pure ((.int .i64 (c : Int))) rfl (fun f W hE hd => ?_) (fun W hE => rfl)
          go_simp
        · refine oweAs_pure ((.slice pw c cw)) rfl (fun f W hE hd => ?_) (fun W hE => rfl)
          go_simp
        · refine oweAs_pure ((.int .i64 (c : Int))) rfl (fun f W hE hd => ?_) (fun W hE => rfl)
          simp only [DepAs, Region.binds, asAt, As.holds, and_true, forall_const] at hd
          go_simp
        · refine oweAs_pure ((.bool false)) rfl (fun f W hE hd => ?_) (fun W hE => rfl)
          simp only [DepAs, Region.binds, asAt, As.holds, and_true, forall_const] at hd
          go_simp
        · refine oweAs_pure ((.bool false)) rfl (fun f W hE hd => ?_) (fun W hE => rfl)
          simp only [DepAs, Region.binds, asAt, As.holds, and_true, forall_const] at hd
          go_simp
        · refine oweAs_pure ((.int .i64 (N : Int))) rfl (fun f W hE hd => ?_) (fun W hE => rfl)
          go_simp
        · exact oweAs_load 31 (.tmp 11) rfl (D) 31 (bvs x) (fun _ => rfl) (HX.out.2.2.1) Tryd.underlying31 rfl (by rw [bvs_size, HXL.out]; kernel_rfl) rfl rfl
        · refine oweAs_call 30 rfl (fun f W hE hd => ?_)
          simp only [DepAs, Region.binds, asAt, As.holds, and_true, forall_const] at hd
          refine ⟨_, by (go_simp; first | exact rfl | exact ⟨rfl, rfl⟩), ?_⟩
          refine (refCrown_any N x W hNb HXL.out).mono ?_
          rintro e w' ⟨rfl, hb⟩
          exact ⟨_, rfl, rfl, hb⟩
        · exact oweAs_load 31 (.tmp 5) rfl (G) 31 (bvs root) (fun _ => rfl) (HX.out.2.2.2.1) Tryd.underlying31 rfl (by rw [bvs_size, hr]; kernel_rfl) rfl rfl
        · refine oweAs_pure ((.bool (!b))) rfl (fun f W hE hd => ?_) (fun W hE => rfl)
          simp only [DepAs, Region.binds, asAt, As.holds, and_true, forall_const] at hd
          have hcl3 : (crownD N x).length = 32 := sha_length _
          have hbb := HBB.out.symm
          go_simp
        · refine oweAs_pure ((.bool (!b))) rfl (fun f W hE hd => ?_) (fun W hE => rfl)
          simp only [DepAs, Region.binds, asAt, As.holds, and_true, forall_const] at hd
          go_simp
        intro f W hE hA
        simp only [AllAs, As.holds, Nat.reduceAdd] at hA
        obtain ⟨-, -, -, -, -, -, -, -, -, -, hA10, -⟩ := hA
        rw [hA10]
        have HE := Lib.hid (HX.out.2.2.2.2.trans (hE.mono hGW))
        clear hE
        cases b with
        | true =>
          go_wp2_with fail
          go_ret
          rw [HFB.out]
          exact ⟨rfl, HE.out⟩
        | false =>
          go_wp2_with fail
          go_ret
          rw [HFB.out]
          exact ⟨rfl, HE.out⟩
      · have hcKe : ¬ ((c : Int) = (K : Int)) := by omega
        have HFB : Hid (checkF root (N : Int) (I : Int) l way = 21) := Lib.hid (by
          rw [HV.out]
          show (if _ then _ else _) = _
          rw [if_neg (fun h => by have := congrArg List.length h.1; rw [List.length_drop, ← HKK.out] at this; simp at this; omega)])
        clear hqe
        go_upto_region 18 with (fail)
        refine wp_region_as (ys := [.eq (.int .i64 (c : Int)), .eq (.slice pw K cw), .eq (.int .i64 (K : Int)), .eq (.bool true), .eq (.bool true), .any, .any, .any, .any, .any, .eq (.bool true)]) (by kernel_rfl) (by kernel_rfl) (by kernel_rfl) (by kernel_rfl) rfl _ (fun f => by simp only [framedL, Act.put, List.setIfInBounds_toArray, List.set_cons_zero, List.set_cons_succ, Nat.reduceAdd]; rfl) ⟨?_, ?_, ?_, ?_, ?_, ?_, ?_, ?_, ?_, ?_, ?_, trivial⟩ ?_
        · refine oweAs_pure ((.int .i64 (c : Int))) rfl (fun f W hE hd => ?_) (fun W hE => rfl)
          go_simp
        · refine oweAs_pure ((.slice pw K cw)) rfl (fun f W hE hd => ?_) (fun W hE => rfl)
          go_simp
        · refine oweAs_pure ((.int .i64 (K : Int))) rfl (fun f W hE hd => ?_) (fun W hE => rfl)
          simp only [DepAs, Region.binds, asAt, As.holds, and_true, forall_const] at hd
          go_simp
        · refine oweAs_pure ((.bool true)) rfl (fun f W hE hd => ?_) (fun W hE => rfl)
          simp only [DepAs, Region.binds, asAt, As.holds, and_true, forall_const] at hd
          go_simp
        · refine oweAs_pure ((.bool true)) rfl (fun f W hE hd => ?_) (fun W hE => rfl)
          simp only [DepAs, Region.binds, asAt, As.holds, and_true, forall_const] at hd
          go_simp
        · exact oweAs_skip rfl (fun _ => trivial)
        · exact oweAs_skip rfl (fun _ => trivial)
        · exact oweAs_skip rfl (fun _ => trivial)
        · exact oweAs_skip rfl (fun _ => trivial)
        · exact oweAs_skip rfl (fun _ => trivial)
        · refine oweAs_pure ((.bool true)) rfl (fun f W hE hd => ?_) (fun W hE => rfl)
          simp only [DepAs, Region.binds, asAt, As.holds, and_true, forall_const] at hd
          go_simp
        intro f W hE hA
        simp only [AllAs, As.holds, Nat.reduceAdd] at hA
        obtain ⟨-, -, -, -, -, -, -, -, -, -, hA10, -⟩ := hA
        rw [hA10]
        have HE := Lib.hid (HX.out.2.2.2.2.trans (hE.mono hGW))
        clear hE
        go_wp2_with fail
        go_ret
        rw [HFB.out]
        exact ⟨rfl, HE.out⟩
end Go.Proofs.YtofbfkkncjcodaaDoor
