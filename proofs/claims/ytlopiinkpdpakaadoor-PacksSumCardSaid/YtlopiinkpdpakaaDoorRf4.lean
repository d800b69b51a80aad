/-
  The document's row above one.
-/
import Derived.Test.YtlopiinkpdpakaaDoorRf3
import Derived.Test.YtlopiinkpdpakaaDoorIdA
import Derived.Test.YtlopiinkpdpakaaDoorGB
namespace Go.Proofs.YtlopiinkpdpakaaDoor
open Go Go.RowKit
set_option linter.unusedSimpArgs false
set_option linter.unusedVariables false

set_option maxRecDepth 100000 in
set_option maxHeartbeats 2000000 in
theorem refAbove_any (v : Value) (ds : List Dig) (w : World) (h : IdS w v ds) (hn : ds.length ≤ 1000000) :
    Calls Tryd.prog 43 #[v] w fun e w' => ∃ v', e = .returned v' ∧ IdR w' w.heap.size v' ((ds.length + 1) / 2) (aboveF ds) ∧ Below w.heap.size w w' := by
  obtain ⟨ii, hii, hzi, hsi, hbi⟩ := infoId
  have HII := Lib.hid hii; clear hii
  obtain ⟨p, cap, rfl, hlc, hcm⟩ := h.form
  obtain ⟨n, hnn⟩ : ∃ n, n = ds.length := ⟨_, rfl⟩
  rw [← hnn] at hlc hn h ⊢
  have H := Lib.hid h
  have HN := Lib.hid hnn
  obtain ⟨N, hN⟩ : ∃ N, N = (n + 1) / 2 := ⟨_, rfl⟩
  have HAL : Hid ((aboveF ds).length = N) := Lib.hid (by rw [aboveF_length, ← hnn, hN])
  rw [← hN]
  have hN1 : n ≤ 2 * N := by omega
  have hN2 : 2 * N ≤ n + 1 := by omega
  unfold maxLen at hcm
  clear h hnn hN
  go_enter Tryd.func43, Tryd.ntmps43
  go_wp2_with fail
  go_loopw [3, 4] (fun out i W => ∃ k : Nat, k ≤ N ∧ i = .int .i64 ((2 * k : Nat) : Int) ∧ IdR W w.heap.size out k ((aboveF ds).take k) ∧ Below w.heap.size w W) (fun _ i _ => (n + 2) - (intOf i).toNat)
  case atStart => exact ⟨0, Nat.zero_le _, rfl, IdR.nil _ _, Below.refl _ _⟩
  case round =>
    obtain ⟨k, hk, rfl, hrow, hb⟩ := hrel
    obtain ⟨A, c, rfl⟩ := hrow.form
    have hbz := hb.size
    have HI := Lib.hid (And.intro hrow hb)
    obtain ⟨t, ht⟩ : ∃ t, t = 2 * k := ⟨_, rfl⟩
    have HT := Lib.hid ht
    rw [← ht]
    clear hrow hb
    by_cases hlt : t < n
    · have hti : (t : Int) < (n : Int) := by omega
      have hkN : k + 1 ≤ N := by omega
      have hk6 : k ≤ 1000000 := by omega
      have HLK : Hid (((aboveF ds).take k).length = k) := Lib.hid (by rw [List.length_take, HAL.out]; omega)
      obtain ⟨b, o, rfl, hat⟩ := H.out.at_ (by omega)
      obtain ⟨d0, hd0⟩ : ∃ d0, ds[t]? = some d0 := ⟨_, List.getElem?_eq_getElem (by rw [← HN.out]; exact hlt)⟩
      obtain ⟨hl0, hr0⟩ := hat _ _ hd0
      have hbz0 : (bvs d0).size = 32 := by rw [bvs_size]; exact hl0
      have hbw : b < w.heap.size := range_lt hr0 hl0
      have HR0 : Hid (wr.rangeAt b (o + t * 32) (d0.map bcv)) := Lib.hid (range_keep hr0 HI.out.2)
      by_cases hp : t + 1 < n
      · obtain ⟨d1, hd1⟩ : ∃ d1, ds[t + 1]? = some d1 := ⟨_, List.getElem?_eq_getElem (by rw [← HN.out]; exact hp)⟩
        obtain ⟨hl1, hr1⟩ := hat _ _ hd1
        have HR1 : Hid (wr.rangeAt b (o + (t + 1) * 32) (d1.map bcv)) := Lib.hid (range_keep hr1 HI.out.2)
        obtain ⟨dn, hdn⟩ : ∃ dn, dn = nodeD d0 d1 := ⟨_, rfl⟩
        have hdl : dn.length = 32 := by rw [hdn]; exact sha_length _
        have HDN := Lib.hid hdn
        have HTK : Hid ((aboveF ds).take (k + 1) = (aboveF ds).take k ++ [dn]) := Lib.hid (by
          rw [ht] at hd0 hd1
          rw [hdn]; exact take_next (aboveF_pair _ _ _ _ hd0 hd1))
        have hpi2 : (t : Int) + 1 < (n : Int) := by omega
        clear hat hd0 hd1 hr0 hr1 hdn ht
        go_upto_region 6 with (fail)
        refine wp_region_tail2 12 [.eq (.slice A k c), .eq (.slice (some ⟨b, o, none⟩) n cap), .eq (.int .i64 (t : Int)), .eq (.pointer (some ⟨b, o + t * 32, none⟩)), .eq (.agg (bvs d0)), .eq (.slice (some ⟨b, o, none⟩) n cap), .eq (.int .i64 (t : Int)), .eq (.int .i64 ((t + 1 : Nat) : Int)), .eq (.pointer (some ⟨b, o + (t + 1) * 32, none⟩)), .eq (.agg (bvs d1)), .eq (.agg (bvs dn)), .idSl 36 dn] (by kernel_rfl) (by kernel_rfl) (by kernel_rfl) (by kernel_rfl) rfl (by decide) (by kernel_rfl) _ (fun f => by simp only [framedL, Act.put, maskF, oldF, Nat.reduceLT, reduceIte, List.getElem?_toArray, List.getElem?_cons_succ, List.getElem?_cons_zero, Option.bind_some, Option.map_some, Option.map_none, Option.getD_some, Option.getD_none, Array.getD_eq_getD_getElem?, List.setIfInBounds_toArray, List.set_cons_zero, List.set_cons_succ, Nat.reduceAdd]; rfl) ⟨?_, ?_, ?_, ?_, ?_, ?_, ?_, ?_, ?_, ?_, ?_, ?_, trivial⟩ ?_
        · refine oweAs_pure ((.slice A k c)) rfl (fun f W hE hd => ?_) (fun W hE => rfl)
          go_simp
        · refine oweAs_pure ((.slice (some ⟨b, o, none⟩) n cap)) rfl (fun f W hE hd => ?_) (fun W hE => rfl)
          go_simp
        · refine oweAs_pure ((.int .i64 (t : Int))) rfl (fun f W hE hd => ?_) (fun W hE => rfl)
          go_simp
        · refine oweAs_pure ((.pointer (some ⟨b, o + t * 32, none⟩))) rfl (fun f W hE hd => ?_) (fun W hE => rfl)
          simp only [DepAs, Region.binds, asAt, As.holds, and_true, forall_const] at hd
          go_simp
        · refine oweAs_load_mid 36 (.tmp 19) rfl d0 rfl rfl Tryd.underlying36 rfl (by rw [hl0]; kernel_rfl) (fun f W hE hd => by (simp only [DepAs, Region.binds, asAt, As.holds, and_true, forall_const] at hd; exact ⟨b, _, by go_simp, range_keep (HR0.out) hE⟩))
        · refine oweAs_pure ((.slice (some ⟨b, o, none⟩) n cap)) rfl (fun f W hE hd => ?_) (fun W hE => rfl)
          go_simp
        · refine oweAs_pure ((.int .i64 (t : Int))) rfl (fun f W hE hd => ?_) (fun W hE => rfl)
          go_simp
        · refine oweAs_pure ((.int .i64 ((t + 1 : Nat) : Int))) rfl (fun f W hE hd => ?_) (fun W hE => rfl)
          simp only [DepAs, Region.binds, asAt, As.holds, and_true, forall_const] at hd
          have hw1 : IntKind.i64.wrap ((t : Int) + 1) = (t : Int) + 1 := by rw [IntKind.wrap_i64]; omega
          go_simp
        · refine oweAs_pure ((.pointer (some ⟨b, o + (t + 1) * 32, none⟩))) rfl (fun f W hE hd => ?_) (fun W hE => rfl)
          simp only [DepAs, Region.binds, asAt, As.holds, and_true, forall_const] at hd
          have hng : ¬ (t : Int) + 1 < 0 := by omega
          go_simp
        · refine oweAs_load_mid 36 (.tmp 24) rfl d1 rfl rfl Tryd.underlying36 rfl (by rw [hl1]; kernel_rfl) (fun f W hE hd => by (simp only [DepAs, Region.binds, asAt, As.holds, and_true, forall_const] at hd; exact ⟨b, _, by go_simp, range_keep (HR1.out) hE⟩))
        · refine oweAs_call 54 rfl (fun f W hE hd => ?_)
          simp only [DepAs, Region.binds, asAt, As.holds, and_true, forall_const] at hd
          refine ⟨_, by (go_simp; first | exact rfl | exact ⟨rfl, rfl⟩), ?_⟩
          refine (refNode_any d0 d1 W hl0 hl1).mono ?_
          rintro e w' ⟨rfl, hb⟩
          exact ⟨_, rfl, by (show (_ : Value) = _; rw [HDN.out]), hb⟩
        · refine oweAs_build_id rfl (.tmp 26) 72 36 ii _ rfl Tryd.underlying72 HII.out hzi hsi dn hdl rfl (fun f W hE hd => by (simp only [DepAs, Region.binds, asAt, As.holds, and_true, forall_const] at hd; go_simp))
        intro f W hE hA
        simp only [AllAs, As.holds, Nat.reduceAdd] at hA
        obtain ⟨hA0, -, -, -, -, -, -, -, -, -, -, hA11, -⟩ := hA
        simp only [List.drop_succ_cons, List.drop_zero]
        obtain ⟨g, hf, hBg⟩ := (show ∃ g, f 11 = .slice (some ⟨g, 0, none⟩) 1 1 ∧ Blk W g 36 (bvs dn) from hA11)
        rw [hA0, hf]
        have HW := Lib.hid (And.intro (HI.out.1.keep hE) (And.intro hE hBg))
        clear hE hBg hA0 hA11 hf
        go_wp2_with (
          (at_builtin
           have hzW := HW.out.2.1.size
           refine wpList_append_own _ rfl (.tmp 16) (.tmp 27) 72 rfl w.heap.size 36 ii (.agg (bvs (List.replicate 32 0))) 32 32 Tryd.underlying72 HII.out hzi hsi hbi zeroId_cells (by decide) (.slice A k c) k _ rfl HW.out.1.1 ⟨g, 0, none⟩ 1 1 (dn.map bcv) rfl (by rw [List.length_map, hdl]) (news_id HW.out.2.2) (one_bcv dn) (by simp only [maxLen]; omega) (by omega) (by omega) ?_
           intro v5 w5 hown5 hgrow5 _
           have HR5 : Hid (IdR w5 w.heap.size v5 (k + 1) ((aboveF ds).take (k + 1)) ∧ Below w.heap.size w w5) := Lib.hid ⟨by rw [HTK.out]; exact IdR.snoc hown5 HLK.out HW.out.1.2.2 hdl, (HI.out.2.trans (HW.out.2.1.mono hbz)).grown hgrow5 (by omega) (fun j hj => own_ge HW.out.1.1 j hj)⟩
           clear hown5 hgrow5 hzW HW HI))
        go_roundw
        case rel => exact ⟨k + 1, hkN, congrArg (Value.int .i64) (by have := HT.out; omega), HR5.out⟩
        case measure => simp [intOf]; omega
      · have hpi2 : ¬ (t : Int) + 1 < (n : Int) := by omega
        have HTK : Hid ((aboveF ds).take (k + 1) = (aboveF ds).take k ++ [d0]) := Lib.hid (by
          rw [ht] at hd0
          exact take_next (aboveF_last _ _ _ hd0 (by rw [← HN.out]; omega)))
        clear hat hd0 hr0 ht
        go_wp2_with (first
          | (refine wpList_load_mid rfl 36 (.tmp 32) rfl b (o + t * 32) rfl (d0.map bcv) _ HR0.out Tryd.underlying36 rfl (by rw [List.length_map, hl0]; kernel_rfl) ?_)
          | (refine wpList_build_id rfl (.tmp 33) 72 36 ii _ rfl Tryd.underlying72 HII.out hzi hsi d0 hl0 rfl ?_)
          | (at_builtin
             refine wpList_append_own _ rfl (.tmp 29) (.tmp 34) 72 rfl w.heap.size 36 ii (.agg (bvs (List.replicate 32 0))) 32 32 Tryd.underlying72 HII.out hzi hsi hbi zeroId_cells (by decide) (.slice A k c) k _ rfl (HI.out.1.1.alloc _) ⟨wr.heap.size, 0, none⟩ 1 1 (d0.map bcv) rfl (by rw [List.length_map, hl0]) (news_id (Blk.new wr _ _)) (one_bcv d0) (by simp only [maxLen]; omega) (by omega) (by simp; omega) ?_
             intro v5 w5 hown5 hgrow5 _
             have HR5 : Hid (IdR w5 w.heap.size v5 (k + 1) ((aboveF ds).take (k + 1)) ∧ Below w.heap.size w w5) := Lib.hid ⟨by rw [HTK.out]; exact IdR.snoc hown5 HLK.out HI.out.1.2.2 hl0, (HI.out.2.alloc (by omega) _).grown hgrow5 (by simp; omega) (fun j hj => own_ge HI.out.1.1 j hj)⟩
             clear hown5 hgrow5 HI))
        go_roundw
        case rel => exact ⟨k + 1, hkN, congrArg (Value.int .i64) (by have := HT.out; omega), HR5.out⟩
        case measure => simp [intOf]; omega
    · have hti : ¬ (t : Int) < (n : Int) := by omega
      obtain rfl : k = N := by omega
      have HE : Hid ((aboveF ds).take k = aboveF ds) := Lib.hid (List.take_of_length_le (by rw [HAL.out]; exact Nat.le_refl _))
      go_wp2_with fail
      go_ret
      have h1 := HI.out
      rw [HE.out] at h1
      exact ⟨_, rfl, h1⟩
end Go.Proofs.YtlopiinkpdpakaaDoor
