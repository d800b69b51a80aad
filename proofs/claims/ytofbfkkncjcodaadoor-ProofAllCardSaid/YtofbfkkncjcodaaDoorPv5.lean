/-
  The walk of the law ProofAll.
-/
import Derived.Test.YtofbfkkncjcodaaDoorPv6
namespace Go.Proofs.YtofbfkkncjcodaaDoor
open Go Go.RowKit
set_option linter.unusedSimpArgs false
set_option linter.unusedVariables false

theorem take_leaf (b : List UInt8) (k : Nat) : b.take (64 * (k + 1)) = b.take (64 * k) ++ leafF b k := by
  rw [leafF, show 64 * (k + 1) = 64 * k + 64 by omega, List.take_add]
theorem prove_out {b : List UInt8} : proveF b ((nlF b.length : Nat) : Int) = ([], [], 14) := by
  unfold proveF; rw [if_pos (by omega)]
theorem check_out {r : Dig} {N : Nat} {l : List UInt8} {way : List Dig} : checkF r (N : Int) (N : Int) l way = 14 := by
  unfold checkF; rw [if_pos (by omega)]
theorem ids_nil (w : World) : IdS w (.slice none 0 0) [] := ⟨fun d hd => by simp at hd, none, 0, rfl, Nat.le_refl _, by simp [maxLen], fun _ => rfl, fun h => absurd rfl h⟩

set_option maxRecDepth 100000 in
set_option maxHeartbeats 4000000 in
theorem proofAll_any (v : Value) (b : List UInt8) (w : World) (hT : Tab w) (h0 : 0 < w.heap.size) (hl : HB w v b) :
    Calls Tryd.prog 6 #[v] w fun e w' => e = .returned (.bool true) ∧ Below w.heap.size w w' := by
  have HT : Hid (∀ W, Below w.heap.size w W → Tab W ∧ 0 < W.heap.size) := Lib.hid (fun W hb => ⟨hT.below hb h0, by have := hb.size; omega⟩)
  obtain ⟨pl, cl, rfl, hlc, hlm⟩ := hl.form
  unfold maxLen at hlm
  have HL := Lib.hid hl
  clear hl hT
  obtain ⟨r, hr⟩ : ∃ r, r = rootF b := ⟨_, rfl⟩
  have hrl : r.length = 32 := by rw [hr]; exact rootF_length _
  have hrz : (bvs r).size = 32 := by rw [bvs_size]; exact hrl
  obtain ⟨N, hN⟩ : ∃ N, N = nlF b.length := ⟨_, rfl⟩
  have hN1 : 1 ≤ N := by rw [hN]; unfold nlF; omega
  have HRR := Lib.hid (And.intro hr hN)
  have HNZ : Hid (N = nlF b.length) := Lib.hid hN
  clear hr
  by_cases h1 : (800 : Int) < (b.length : Int)
  · clear hN
    go_enter Tryd.func6, Tryd.ntmps6
    go_wp2_with (
      (go_at_call 9
       refine (awake6_any _ (HT.out _ (Below.refl _ _)).1 (HT.out _ (Below.refl _ _)).2).mono ?_
       rintro e w1 ⟨rfl, hb1⟩
       have HB1 := Lib.hid hb1
       clear hb1))
    go_ret
    exact ⟨rfl, HB1.out⟩
  have hb1k : b.length ≤ 800 := by omega
  have hN13 : N ≤ 13 := by rw [hN]; unfold nlF; omega
  have HTK : Hid (b.take (64 * N) = b) := Lib.hid (List.take_of_length_le (by rw [hN]; unfold nlF; omega))
  clear hN
  go_enter Tryd.func6, Tryd.ntmps6
  go_wp2_with (
    (go_at_call 9
     refine (awake6_any _ (HT.out _ (Below.refl _ _)).1 (HT.out _ (Below.refl _ _)).2).mono ?_
     rintro e w1 ⟨rfl, hb1⟩
     have HB1 := Lib.hid hb1
     clear hb1))
  refine (root_any _ b w1 (HT.out _ HB1.out).1 (HT.out _ HB1.out).2 (HL.out.keep HB1.out) (by omega)).mono ?_
  rintro e w2 ⟨rfl, hb2⟩
  rw [← HRR.out.1]
  have HB2 := Lib.hid (HB1.out.trans (hb2.mono HB1.out.size))
  clear hb2 HB1
  go_wp2_with (
    (refine wpList_store_blk rfl 31 (.tmp 4) (.tmp 23) rfl w2.heap.size 31 _ (bvs r) rfl rfl (Blk.new _ _ _) (by rw [hrz]; rfl) (by rw [hrz]; kernel_rfl) (bvs_one _) ?_
     intro w3 hb3 hg3 hz3
     have hBV : Below w2.heap.size w2 w3 := ((Below.refl w2.heap.size w2).alloc (Nat.le_refl _) _).grown hg3 (by simp) (by intro k hk; injection hk with hk; omega)
     have HI3 : Hid (Blk w3 w2.heap.size 31 (bvs r) ∧ Below w.heap.size w w3) := Lib.hid ⟨hb3, HB2.out.trans (hBV.mono HB2.out.size)⟩
     clear hb3 hg3 hz3 hBV HB2))
  obtain ⟨F, hF⟩ : ∃ F, F = w2.heap.size := ⟨_, rfl⟩
  rw [← hF] at HI3 ⊢
  clear hF
  refine (leaves_any _ b w3 (HL.out.keep HI3.out.2) (by omega)).mono ?_
  rintro e w3' ⟨rfl, rfl⟩
  rw [← HNZ.out]
  go_wp2_with fail
  go_loopw [6, 7] (fun all i W => ∃ k : Nat, k ≤ N ∧ all = .string (bs (b.take (64 * k))) ∧ i = .int .i64 (k : Int) ∧ Blk W F 31 (bvs r) ∧ Below w.heap.size w W) (fun _ i _ => N - (intOf i).toNat)
  case atStart => exact ⟨0, Nat.zero_le _, by simp [bs], rfl, HI3.out⟩
  case round =>
    clear HI3
    obtain ⟨k, hk, rfl, rfl, hbr, hbw⟩ := hrel
    have HI := Lib.hid (And.intro hbr hbw)
    clear hbr hbw
    by_cases hlt : k < N
    · have hki : (k : Int) < (N : Int) := by omega
      obtain ⟨lp, hlp⟩ : ∃ x, x = leafF b k := ⟨_, rfl⟩
      obtain ⟨wp, hwp⟩ : ∃ x, x = wayF (rowF b) k := ⟨_, rfl⟩
      have HPP : Hid (proveF b (k : Int) = (lp, wp, 0)) := Lib.hid (by rw [prove_in (by rw [← HNZ.out]; exact hlt), hlp, hwp])
      have HCK : Hid (checkF r (N : Int) (k : Int) lp wp = 0) := Lib.hid (by
        rw [HRR.out.1, HNZ.out, hlp, hwp]
        exact check_prove (by rw [← HNZ.out]; exact hlt))
      have hlpl : lp.length ≤ 64 := by rw [hlp]; exact leafF_length _ _
      have HTL : Hid (b.take (64 * (k + 1)) = b.take (64 * k) ++ lp) := Lib.hid (by rw [hlp]; exact take_leaf b k)
      have HWN : Hid (wp.length ≤ hN N) := Lib.hid (by
        have h := wayF_length (rowF b).length (rowF b) k (Nat.le_refl _)
        rw [rowF_length, ← HNZ.out] at h
        rw [hwp]; exact h)
      have HNN : Hid (hN N ≤ N) := Lib.hid (hN_le N)
      have hl64 : ¬ (64 : Int) < (lp.length : Int) := by omega
      clear hlp hwp
      obtain ⟨tk, htk⟩ : ∃ x, x = b.take (64 * k) := ⟨_, rfl⟩
      rw [← htk] at HTL ⊢
      have htl : tk.length ≤ 800 := by rw [htk, List.length_take]; omega
      clear htk
      go_wp2_with fail
      refine (prove_any _ b (k : Int) wr (HT.out _ HI.out.2).1 (HT.out _ HI.out.2).2 (HL.out.keep HI.out.2) (by omega)).mono ?_
      rintro e w4 ⟨v1, v2, rfl, hl4, hr4, hb4⟩
      rw [HPP.out] at hl4 hr4 ⊢
      obtain ⟨p1, c1, rfl, -, -⟩ := hl4.form
      obtain ⟨A2, c2, rfl⟩ := hr4.form
      have HI4 : Hid (Blk w4 F 31 (bvs r) ∧ Below w.heap.size w w4 ∧ HB w4 (.slice p1 lp.length c1) lp ∧ IdS w4 (.slice A2 wp.length c2) wp) := Lib.hid ⟨HI.out.1.below hb4 HI.out.1.lt, HI.out.2.trans (hb4.mono HI.out.2.size), hl4, hr4.ids⟩
      clear hl4 hr4 hb4 HI
      go_wp2_with (refine wpList_load_blk_g rfl 31 (.tmp 4) rfl F 31 (bvs r) rfl HI4.out.1 Tryd.underlying31 rfl (by rw [hrz]; kernel_rfl) ?_)
      refine (check_any r (N : Int) (k : Int) _ _ lp wp w4 (HT.out _ HI4.out.2.1).1 (HT.out _ HI4.out.2.1).2 hrl HI4.out.2.2.1 HI4.out.2.2.2 (by omega) (by omega) (by omega) (by have := HWN.out; have := HNN.out; omega)).mono ?_
      rintro e w5 ⟨rfl, hb5⟩
      rw [HCK.out]
      have HI5 : Hid (Blk w5 F 31 (bvs r) ∧ Below w.heap.size w w5 ∧ HB w5 (.slice p1 lp.length c1) lp) := Lib.hid ⟨HI4.out.1.below hb5 HI4.out.1.lt, HI4.out.2.1.trans (hb5.mono HI4.out.2.1.size), HI4.out.2.2.1.keep hb5⟩
      have hcv := HI5.out.2.2.str Tryd.underlying22 Tryd.underlying5 Tryd.underlying9
      clear hb5 HI4
      go_wp2_with fail
      go_loop [11, 12] (fun c m => ∃ (q n : Nat), n ≤ N ∧ q + hN n = hN N ∧ c = .int .i64 (q : Int) ∧ m = .int .i64 (n : Int)) (fun _ m => (intOf m).toNat)
      case atStart => exact ⟨0, N, Nat.le_refl _, Nat.zero_add _, rfl, rfl⟩
      case round =>
        obtain ⟨q, n, hn, hq, rfl, rfl⟩ := hrel
        have HQ := Lib.hid hq
        have hqN : q ≤ N := by have := HNN.out; omega
        clear hq
        by_cases h1n : 1 < n
        · have h1i : (1 : Int) < (n : Int) := by omega
          have HS : Hid ((q + 1) + hN ((n + 1) / 2) = hN N ∧ (((n : Int) + 1) / 2 = (((n + 1) / 2 : Nat) : Int))) := Lib.hid ⟨by have := HQ.out; rw [hN_more h1n] at this; omega, by simp⟩
          go_wp2_with fail
          go_round
          case rel => exact ⟨q + 1, (n + 1) / 2, by omega, HS.out.1, by go_num, congrArg (Value.int .i64) HS.out.2⟩
          case measure => have := HS.out.2; simp [intOf]; omega
        · have h1i : ¬ (1 : Int) < (n : Int) := by omega
          have hqe : q = hN N := by have := HQ.out; rw [hN_end h1n] at this; omega
          have hwq : ¬ (q : Int) < (wp.length : Int) := by have := HWN.out; omega
          have hadd : bs tk ++ bs lp = bs (tk ++ lp) := bs_add tk lp
          have hsz1 : (bs tk).size ≤ 800 := by rw [bs_size]; exact htl
          have hsz2 : (bs lp).size ≤ 64 := by rw [bs_size]; exact hlpl
          clear hqe
          go_wp2_with fail
          go_roundw
          case rel => exact ⟨k + 1, hlt, by rw [HTL.out], by go_num, HI5.out.1, HI5.out.2.1⟩
          case measure => simp [intOf]; omega
    · obtain rfl : k = N := by omega
      rw [HTK.out]
      have HPO : Hid (proveF b (k : Int) = ([], [], 14)) := Lib.hid (by rw [HNZ.out]; exact prove_out)
      have HCO : Hid (checkF r (k : Int) (k : Int) [] [] = 14) := Lib.hid check_out
      go_wp2_with fail
      refine (prove_any _ b (k : Int) wr (HT.out _ HI.out.2).1 (HT.out _ HI.out.2).2 (HL.out.keep HI.out.2) (by omega)).mono ?_
      rintro e w4 ⟨v1, v2, rfl, hl4, hr4, hb4⟩
      rw [HPO.out]
      have HI4 : Hid (Blk w4 F 31 (bvs r) ∧ Below w.heap.size w w4) := Lib.hid ⟨HI.out.1.below hb4 HI.out.1.lt, HI.out.2.trans (hb4.mono HI.out.2.size)⟩
      have hcv := (HL.out.keep HI4.out.2).str Tryd.underlying22 Tryd.underlying5 Tryd.underlying9
      clear hl4 hr4 hb4 HI
      go_wp2_with (refine wpList_load_blk_g rfl 31 (.tmp 4) rfl F 31 (bvs r) rfl HI4.out.1 Tryd.underlying31 rfl (by rw [hrz]; kernel_rfl) ?_)
      refine (check_any r (k : Int) (k : Int) _ _ [] [] w4 (HT.out _ HI4.out.2).1 (HT.out _ HI4.out.2).2 hrl (HB.nil _) (ids_nil _) (by omega) (by omega) (by simp) (by simp)).mono ?_
      rintro e w5 ⟨rfl, hb5⟩
      rw [HCO.out]
      have HI5 := Lib.hid (HI4.out.2.trans (hb5.mono HI4.out.2.size))
      clear hb5 HI4
      go_wp2_with fail
      go_ret
      exact ⟨rfl, HI5.out⟩
end Go.Proofs.YtofbfkkncjcodaaDoor
