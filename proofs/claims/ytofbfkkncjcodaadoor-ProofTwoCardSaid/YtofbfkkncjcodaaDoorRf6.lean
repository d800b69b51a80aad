/-
  The document's proof of a leaf.
-/
import Derived.Test.YtofbfkkncjcodaaDoorRf4
import Derived.Test.YtofbfkkncjcodaaDoorPf7
namespace Go.Proofs.YtofbfkkncjcodaaDoor
open Go Go.RowKit
set_option linter.unusedSimpArgs false
set_option linter.unusedVariables false

theorem stN_lt {n k : Nat} (h : 1 < stN n k) : stN n (k + 1) < stN n k := by rw [stN]; omega

theorem stI_lt (I N k : Nat) (h : I < N) (hk : k ≤ (stepsF N I).length) : stI I k < stN N k := by
  induction k with
  | zero => exact h
  | succ k ih =>
    have h1 := ih (by omega)
    have h2 := (steps_lt N I k).1 hk
    rw [stI, stN]; omega

set_option maxRecDepth 100000 in
set_option maxHeartbeats 4000000 in
theorem refProve_any (b : List UInt8) (i : Int) (w : World) (hb : b.length ≤ 10000000) :
    Calls Tryd.prog 11 #[.string (bs b), .int .i64 i] w fun e w' => ∃ v2, e = .returned (.tuple #[.string (bs (proveF b i).1), v2, .int .i64 ((proveF b i).2.2 : Int)]) ∧ IdR w' w.heap.size v2 (proveF b i).2.1.length (proveF b i).2.1 ∧ Below w.heap.size w w' := by
  obtain ⟨ii, hii, hzi, hsi, hbi⟩ := infoId
  have HII := Lib.hid hii; clear hii
  obtain ⟨N, hN⟩ : ∃ N, N = nlF b.length := ⟨_, rfl⟩
  have hNb : N ≤ 1000000 := by rw [hN]; unfold nlF; omega
  have HN := Lib.hid hN
  clear hN
  go_enter Tryd.func11, Tryd.ntmps11
  go_wp2_with fail
  refine (refRow_any b w (by omega)).mono ?_
  rintro e w1 ⟨v1, rfl, hr1, hb1⟩
  rw [← HN.out] at hr1
  obtain ⟨A1, c1, rfl⟩ := hr1.form
  have HI1 := Lib.hid (And.intro hr1 hb1)
  have hz1 := hb1.size
  clear hr1 hb1
  by_cases hbad : i < 0 ∨ (N : Int) ≤ i
  · have HP : Hid (proveF b i = ([], [], 14)) := Lib.hid (by unfold proveF; rw [if_pos (by rw [← HN.out]; exact hbad)])
    by_cases h1 : i < 0
    · have a1 : decide (i < 0) = true := decide_eq_true h1
      clear hbad
      go_wp2_with fail
      refine bodyPost_ret (results_tmp3 rfl _ _ _) rfl ?_
      rw [HP.out]
      exact ⟨_, rfl, IdR.nil _ _, HI1.out.2⟩
    · have a1 : decide (i < 0) = false := decide_eq_false h1
      have a2 : decide ((N : Int) ≤ i) = true := decide_eq_true (by omega)
      clear hbad
      go_wp2_with fail
      refine bodyPost_ret (results_tmp3 rfl _ _ _) rfl ?_
      rw [HP.out]
      exact ⟨_, rfl, IdR.nil _ _, HI1.out.2⟩
  obtain ⟨I, rfl⟩ : ∃ I : Nat, i = (I : Int) := ⟨i.toNat, by omega⟩
  have hIN : I < N := by omega
  have a1 : decide ((I : Int) < 0) = false := decide_eq_false (by omega)
  have a2 : decide ((N : Int) ≤ (I : Int)) = false := decide_eq_false (by omega)
  have HP : Hid (proveF b (I : Int) = (leafF b I, wayF (rowF b) I, 0)) := Lib.hid (by unfold proveF; rw [if_neg (by rw [← HN.out]; exact hbad)]; rfl)
  clear hbad
  go_wp2_with fail
  refine (refSplit_any b w1 (by omega)).mono ?_
  rintro e w2 ⟨v2, rfl, hr2, hb2⟩
  rw [← HN.out] at hr2
  obtain ⟨A2, c2, rfl⟩ := hr2.form
  have hlf : (leafsF b)[I]? = some (leafF b I) := leafsF_at (by rw [← HN.out]; exact hIN)
  obtain ⟨g2, rfl, hc2⟩ := hr2.at_ hlf
  rw [strV] at hc2
  have HI2 : Hid (IdR w2 w.heap.size (.slice A1 N c1) N (rowF b) ∧ Below w.heap.size w w2) := Lib.hid ⟨HI1.out.1.keep hb2, HI1.out.2.trans (hb2.mono hz1)⟩
  have hIi : (I : Int) < (N : Int) := by omega
  have HRL : Hid ((rowF b).length = N) := Lib.hid (by rw [rowF_length, HN.out])
  clear hr2 hb2 hlf HI1
  go_wp2_with fail
  clear hc2
  go_loopw [1, 7, 9] (fun x u v W => ∃ k : Nat, k ≤ (stepsF N I).length ∧ x = .int .i64 (stI I k : Int) ∧ IdR W w.heap.size u (stN N k) (upF (rowF b) k) ∧ IdR W w.heap.size v (wayK (rowF b) I k).length (wayK (rowF b) I k) ∧ ApartV u v ∧ Below w.heap.size w W) (fun _ u _ _ => vlen u)
  case atStart => exact ⟨0, Nat.zero_le _, rfl, HI2.out.1, IdR.nil _ _, ApartV.nil _, HI2.out.2⟩
  case round =>
    clear HI2
    obtain ⟨q, hq, rfl, h3, h4, h5, h6⟩ := hrel
    obtain ⟨Au, cu, rfl⟩ := h3.form
    obtain ⟨Aw, cw, rfl⟩ := h4.form
    obtain ⟨x, hx⟩ : ∃ x, x = stI I q := ⟨_, rfl⟩
    obtain ⟨M, hM⟩ : ∃ M, M = stN N q := ⟨_, rfl⟩
    obtain ⟨m, hm⟩ : ∃ m, m = (wayK (rowF b) I q).length := ⟨_, rfl⟩
    have hMN : M ≤ N := by rw [hM]; exact stN_le N q
    have hxI : x ≤ I := by rw [hx]; exact stI_le I q
    have hqN2 : (stepsF N I).length ≤ N := steps_len N I
    have hmq : m ≤ q := by rw [hm]; exact wayK_length _ _ _
    rw [← hM] at h3 h5 ⊢
    rw [← hx]
    rw [← hm] at h4 h5 ⊢
    have HQ := Lib.hid (And.intro hx (And.intro hM hm))
    have HI4 := Lib.hid (And.intro h3 (And.intro h4 (And.intro h5 h6)))
    have hrl : (upF (rowF b) q).length = M := h3.2.1
    have HRQ := Lib.hid hrl
    have hww := h6.size
    have hmb : m ≤ 1000000 := by omega
    clear h3 h4 h5 h6 hx hM hm hrl
    by_cases hlt : 1 < M
    · have hMi : (1 : Int) < (M : Int) := by omega
      have hqs : q < (stepsF N I).length := by rw [steps_lt, ← HQ.out.2.1]; exact hlt
      have HNX : Hid ((M + 1) / 2 = stN N (q + 1) ∧ (x : Int) / 2 = (stI I (q + 1) : Int) ∧ stN N (q + 1) < M) := Lib.hid ⟨by rw [stN, ← HQ.out.2.1]; omega, by rw [stI, ← HQ.out.1]; simp, by rw [HQ.out.2.1]; exact stN_lt (by rw [← HQ.out.2.1]; exact hlt)⟩
      by_cases hodd : x % 2 = 1
      · obtain ⟨y, rfl⟩ : ∃ y, x = y + 1 := ⟨x - 1, by omega⟩
        have hrem : ((y : Int) + 1) % 2 = 1 := by omega
        have hym : (y : Int) < (M : Int) := by
          have h1 : stI I q < stN N q := stI_lt I N q hIN hq
          have h2 := HQ.out.1
          have h3 := HQ.out.2.1
          omega
        have hyn : y < M := by omega
        obtain ⟨d, hd⟩ : ∃ d, (upF (rowF b) q)[y]? = some d := ⟨_, List.getElem?_eq_getElem (by rw [HRQ.out]; omega)⟩
        obtain ⟨b1, o1, rfl, hat⟩ := HI4.out.1.ids.at_ (by omega)
        obtain ⟨hdl, hdr⟩ := hat y d hd
        have HDR := Lib.hid hdr
        have hb1r : b1 < wr.heap.size := range_lt hdr hdl
        have HWK : Hid (wayK (rowF b) I (q + 1) = wayK (rowF b) I q ++ [d]) := Lib.hid (by
          rw [wayK, HRL.out, ← HQ.out.1, ← HQ.out.2.1, xor_odd hodd, if_pos (by rw [besideF, xor_odd hodd]; exact decide_eq_true (by omega)), show y + 1 - 1 = y by omega, List.getD, hd]; rfl)
        clear hat hdr hd
        go_wp2_with (first
                | (refine wpList_load_mid rfl 31 (.tmp 35) rfl b1 (o1 + y * 32) rfl (d.map bcv) _ HDR.out Tryd.underlying31 rfl (by rw [List.length_map, hdl]; kernel_rfl) ?_)
                | (refine wpList_build_id rfl (.tmp 36) 24 31 ii _ rfl Tryd.underlying24 HII.out hzi hsi d hdl rfl ?_)
                | (at_builtin
                   refine wpList_append_own_at _ rfl (.tmp 31) (.tmp 37) 24 rfl w.heap.size 31 ii (.agg (bvs (List.replicate 32 0))) 32 32 Tryd.underlying24 HII.out hzi hsi hbi zeroId_cells (by decide) (.slice Aw m cw) m _ rfl (HI4.out.2.1.1.alloc _) ⟨wr.heap.size, 0, none⟩ 1 1 (d.map bcv) rfl (by rw [List.length_map, hdl]) (news_id (Blk.new wr _ _)) (one_bcv d) (by simp only [maxLen]; omega) (by omega) (by simp; omega) ?_
                   intro v5 w5 hown5 hgrow5 _ hob
                   obtain ⟨A6, c6, rfl⟩ := own_form hown5
                   have HJ : Hid (IdR w5 w.heap.size (.slice (some ⟨b1, o1, none⟩) M cu) M (upF (rowF b) q) ∧ IdR w5 w.heap.size (.slice A6 (m + 1) c6) (m + 1) (wayK (rowF b) I (q + 1)) ∧ ApartV (.slice (some ⟨b1, o1, none⟩) M cu) (.slice A6 (m + 1) c6) ∧ Below w.heap.size w w5) := Lib.hid (by
                     refine ⟨⟨(HI4.out.1.1.alloc _).kept hgrow5 (.inr (fun e => HI4.out.2.2.1 b1 rfl e.symm)), HI4.out.1.2⟩, by rw [HWK.out]; exact IdR.snoc hown5 HQ.out.2.2.symm HI4.out.2.1.2.2 hdl, fun j hj hj2 => ?_, (HI4.out.2.2.2.alloc hww _).grown hgrow5 (by simp; omega) (fun j hj => own_ge HI4.out.2.1.1 j hj)⟩
                     rcases hob with h | h
                     · exact HI4.out.2.2.1 j hj (h ▸ hj2)
                     · have h1 := own_lt HI4.out.1.1 j hj
                       rw [hj2] at h; injection h with h; simp only [World.size_alloc] at h; omega)
                   clear hown5 hgrow5 hob HI4 HDR))
        have hwL : (wayK (rowF b) I (q + 1)).length = (m + 1) := HJ.out.2.1.2.1
        have HWL := Lib.hid hwL
        clear hwL
        refine (refAbove_any _ (upF (rowF b) q) w5 HJ.out.1.ids (by rw [HRQ.out]; omega)).mono ?_
        rintro e w6 ⟨u6, rfl, hr6, hb6⟩
        rw [HRQ.out] at hr6
        obtain ⟨A7, c7, rfl⟩ := hr6.form
        rw [HNX.out.1] at hr6 ⊢
        have HF : Hid (IdR w6 w.heap.size (.slice A7 (stN N (q + 1)) c7) (stN N (q + 1)) (upF (rowF b) (q + 1)) ∧ IdR w6 w.heap.size (.slice A6 (m + 1) c6) (m + 1) (wayK (rowF b) I (q + 1)) ∧ ApartV (.slice A7 (stN N (q + 1)) c7) (.slice A6 (m + 1) c6) ∧ Below w.heap.size w w6) := Lib.hid (by
          refine ⟨hr6.base HJ.out.2.2.2.size, HJ.out.2.1.keep hb6, fun j hj hj2 => ?_, HJ.out.2.2.2.trans (hb6.mono HJ.out.2.2.2.size)⟩
          have g1 := own_ge hr6.1 j hj
          have g2 := own_lt HJ.out.2.1.1 j hj2
          omega)
        clear hr6 hb6 HJ
        go_wp2_with fail
        go_roundw
        case rel => exact ⟨q + 1, hqs, congrArg (Value.int .i64) HNX.out.2.1, HF.out.1, by rw [HWL.out]; exact HF.out.2.1, HF.out.2.2⟩
        case measure => have := HNX.out.2.2; simp [vlen]; omega
      · have hrem : (x : Int) % 2 = 0 := by omega
        by_cases hnx : x + 1 < M
        · have hni : (x : Int) + 1 < (M : Int) := by omega
          have hng : ¬ (x : Int) + 1 < 0 := by omega
          obtain ⟨d, hd⟩ : ∃ d, (upF (rowF b) q)[(x + 1)]? = some d := ⟨_, List.getElem?_eq_getElem (by rw [HRQ.out]; omega)⟩
          obtain ⟨b1, o1, rfl, hat⟩ := HI4.out.1.ids.at_ (by omega)
          obtain ⟨hdl, hdr⟩ := hat (x + 1) d hd
          have HDR := Lib.hid hdr
          have hb1r : b1 < wr.heap.size := range_lt hdr hdl
          have HWK : Hid (wayK (rowF b) I (q + 1) = wayK (rowF b) I q ++ [d]) := Lib.hid (by
            rw [wayK, HRL.out, ← HQ.out.1, ← HQ.out.2.1, xor_even (by omega), if_pos (by rw [besideF, xor_even (by omega)]; exact decide_eq_true (by omega)), List.getD, hd]; rfl)
          clear hat hdr hd
          go_wp2_with (first
                  | (refine wpList_load_mid rfl 31 (.tmp 48) rfl b1 (o1 + (x + 1) * 32) rfl (d.map bcv) _ HDR.out Tryd.underlying31 rfl (by rw [List.length_map, hdl]; kernel_rfl) ?_)
                  | (refine wpList_build_id rfl (.tmp 49) 24 31 ii _ rfl Tryd.underlying24 HII.out hzi hsi d hdl rfl ?_)
                  | (at_builtin
                     refine wpList_append_own_at _ rfl (.tmp 44) (.tmp 50) 24 rfl w.heap.size 31 ii (.agg (bvs (List.replicate 32 0))) 32 32 Tryd.underlying24 HII.out hzi hsi hbi zeroId_cells (by decide) (.slice Aw m cw) m _ rfl (HI4.out.2.1.1.alloc _) ⟨wr.heap.size, 0, none⟩ 1 1 (d.map bcv) rfl (by rw [List.length_map, hdl]) (news_id (Blk.new wr _ _)) (one_bcv d) (by simp only [maxLen]; omega) (by omega) (by simp; omega) ?_
                     intro v5 w5 hown5 hgrow5 _ hob
                     obtain ⟨A6, c6, rfl⟩ := own_form hown5
                     have HJ : Hid (IdR w5 w.heap.size (.slice (some ⟨b1, o1, none⟩) M cu) M (upF (rowF b) q) ∧ IdR w5 w.heap.size (.slice A6 (m + 1) c6) (m + 1) (wayK (rowF b) I (q + 1)) ∧ ApartV (.slice (some ⟨b1, o1, none⟩) M cu) (.slice A6 (m + 1) c6) ∧ Below w.heap.size w w5) := Lib.hid (by
                       refine ⟨⟨(HI4.out.1.1.alloc _).kept hgrow5 (.inr (fun e => HI4.out.2.2.1 b1 rfl e.symm)), HI4.out.1.2⟩, by rw [HWK.out]; exact IdR.snoc hown5 HQ.out.2.2.symm HI4.out.2.1.2.2 hdl, fun j hj hj2 => ?_, (HI4.out.2.2.2.alloc hww _).grown hgrow5 (by simp; omega) (fun j hj => own_ge HI4.out.2.1.1 j hj)⟩
                       rcases hob with h | h
                       · exact HI4.out.2.2.1 j hj (h ▸ hj2)
                       · have h1 := own_lt HI4.out.1.1 j hj
                         rw [hj2] at h; injection h with h; simp only [World.size_alloc] at h; omega)
                     clear hown5 hgrow5 hob HI4 HDR))
          have hwL : (wayK (rowF b) I (q + 1)).length = (m + 1) := HJ.out.2.1.2.1
          have HWL := Lib.hid hwL
          clear hwL
          refine (refAbove_any _ (upF (rowF b) q) w5 HJ.out.1.ids (by rw [HRQ.out]; omega)).mono ?_
          rintro e w6 ⟨u6, rfl, hr6, hb6⟩
          rw [HRQ.out] at hr6
          obtain ⟨A7, c7, rfl⟩ := hr6.form
          rw [HNX.out.1] at hr6 ⊢
          have HF : Hid (IdR w6 w.heap.size (.slice A7 (stN N (q + 1)) c7) (stN N (q + 1)) (upF (rowF b) (q + 1)) ∧ IdR w6 w.heap.size (.slice A6 (m + 1) c6) (m + 1) (wayK (rowF b) I (q + 1)) ∧ ApartV (.slice A7 (stN N (q + 1)) c7) (.slice A6 (m + 1) c6) ∧ Below w.heap.size w w6) := Lib.hid (by
            refine ⟨hr6.base HJ.out.2.2.2.size, HJ.out.2.1.keep hb6, fun j hj hj2 => ?_, HJ.out.2.2.2.trans (hb6.mono HJ.out.2.2.2.size)⟩
            have g1 := own_ge hr6.1 j hj
            have g2 := own_lt HJ.out.2.1.1 j hj2
            omega)
          clear hr6 hb6 HJ
          go_wp2_with fail
          go_roundw
          case rel => exact ⟨q + 1, hqs, congrArg (Value.int .i64) HNX.out.2.1, HF.out.1, by rw [HWL.out]; exact HF.out.2.1, HF.out.2.2⟩
          case measure => have := HNX.out.2.2; simp [vlen]; omega
        · have hni : ¬ (x : Int) + 1 < (M : Int) := by omega
          have HWK : Hid (wayK (rowF b) I (q + 1) = wayK (rowF b) I q) := Lib.hid (by
            rw [wayK, HRL.out, ← HQ.out.1, ← HQ.out.2.1, if_neg (by rw [besideF, xor_even (by omega)]; simp; omega), List.append_nil])
          have HJ : Hid (IdR wr w.heap.size (.slice Au M cu) M (upF (rowF b) q) ∧ IdR wr w.heap.size (.slice Aw m cw) m (wayK (rowF b) I (q + 1)) ∧ ApartV (.slice Au M cu) (.slice Aw m cw) ∧ Below w.heap.size w wr) := Lib.hid (by rw [HWK.out]; exact HI4.out)
          clear HI4
          go_wp2_with fail
          have hwL : (wayK (rowF b) I (q + 1)).length = m := HJ.out.2.1.2.1
          have HWL := Lib.hid hwL
          clear hwL
          refine (refAbove_any _ (upF (rowF b) q) wr HJ.out.1.ids (by rw [HRQ.out]; omega)).mono ?_
          rintro e w6 ⟨u6, rfl, hr6, hb6⟩
          rw [HRQ.out] at hr6
          obtain ⟨A7, c7, rfl⟩ := hr6.form
          rw [HNX.out.1] at hr6 ⊢
          have HF : Hid (IdR w6 w.heap.size (.slice A7 (stN N (q + 1)) c7) (stN N (q + 1)) (upF (rowF b) (q + 1)) ∧ IdR w6 w.heap.size (.slice Aw m cw) m (wayK (rowF b) I (q + 1)) ∧ ApartV (.slice A7 (stN N (q + 1)) c7) (.slice Aw m cw) ∧ Below w.heap.size w w6) := Lib.hid (by
            refine ⟨hr6.base HJ.out.2.2.2.size, HJ.out.2.1.keep hb6, fun j hj hj2 => ?_, HJ.out.2.2.2.trans (hb6.mono HJ.out.2.2.2.size)⟩
            have g1 := own_ge hr6.1 j hj
            have g2 := own_lt HJ.out.2.1.1 j hj2
            omega)
          clear hr6 hb6 HJ
          go_wp2_with fail
          go_roundw
          case rel => exact ⟨q + 1, hqs, congrArg (Value.int .i64) HNX.out.2.1, HF.out.1, by rw [HWL.out]; exact HF.out.2.1, HF.out.2.2⟩
          case measure => have := HNX.out.2.2; simp [vlen]; omega
    · have hMi : ¬ (1 : Int) < (M : Int) := by omega
      have hqe := steps_end hq (by rw [← HQ.out.2.1]; exact hlt)
      have HE : Hid (wayK (rowF b) I q = wayF (rowF b) I) := Lib.hid (by rw [hqe, ← HRL.out]; exact wayK_all _ _)
      clear hqe
      go_wp2_with fail
      refine bodyPost_ret (results_tmp3 rfl _ _ _) rfl ?_
      rw [HP.out]
      have h1 := HI4.out
      rw [HE.out] at h1
      refine ⟨_, rfl, ?_, h1.2.2.2⟩
      show IdR wr w.heap.size (.slice Aw m cw) (wayF (rowF b) I).length (wayF (rowF b) I)
      rw [← HE.out, ← HQ.out.2.2, HE.out]
      exact h1.2.1
end Go.Proofs.YtofbfkkncjcodaaDoor
