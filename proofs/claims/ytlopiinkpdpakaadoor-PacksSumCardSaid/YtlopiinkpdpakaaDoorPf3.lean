/-
  The walk of proof.digests.
-/
import Derived.Test.YtlopiinkpdpakaaDoorPf2
import Derived.Test.YtlopiinkpdpakaaDoorGF
import Derived.Test.YtlopiinkpdpakaaDoorBd
namespace Go.Proofs.YtlopiinkpdpakaaDoor
open Go Go.RowKit
set_option linter.unusedSimpArgs false
set_option linter.unusedVariables false

set_option maxRecDepth 100000 in
set_option maxHeartbeats 2000000 in
theorem digests_any (v : Value) (b : List UInt8) (w : World) (hT : Tab w) (h0 : 0 < w.heap.size) (h : HB w v b) (hb : b.length ≤ 10000000) :
    Calls Tryd.prog 38 #[v] w fun e w' => ∃ v', e = .returned v' ∧ IdR w' w.heap.size v' (nlF b.length) (rowF b) ∧ Below w.heap.size w w' := by
  obtain ⟨ii, hii, hzi, hsi, hbi⟩ := infoId
  have HII := Lib.hid hii; clear hii
  have HT := Lib.hid hT
  have H := Lib.hid h
  obtain ⟨p, cap, rfl, hlc, hcm⟩ := h.form
  obtain ⟨N, hN⟩ : ∃ N, N = nlF b.length := ⟨_, rfl⟩
  have hNb : N ≤ 1000000 := by rw [hN]; unfold nlF; omega
  rw [← hN]
  have HN := Lib.hid hN
  clear hT h hN
  go_enter Tryd.func38, Tryd.ntmps38
  go_wp2_with fail
  refine (split_any _ b w H.out (by omega)).mono ?_
  rintro e w1 ⟨v1, rfl, hr1, hb1⟩
  rw [← HN.out] at hr1
  obtain ⟨A1, c1, rfl⟩ := hr1.form
  have HI1 := Lib.hid (And.intro hr1 hb1)
  have hz1 := hb1.size
  clear hr1 hb1
  go_wp2_with fail
  go_loopw [3, 9] (fun out i W => ∃ k : Nat, k ≤ N ∧ i = .int .i64 (k : Int) ∧ IdR W w1.heap.size out k ((rowF b).take k) ∧ Below w1.heap.size w1 W) (fun _ i _ => N - (intOf i).toNat)
  case atStart => exact ⟨0, Nat.zero_le _, rfl, IdR.nil _ _, Below.refl _ _⟩
  case round =>
    obtain ⟨k, hk, rfl, hrow, hb⟩ := hrel
    obtain ⟨A, c, rfl⟩ := hrow.form
    have hbz := hb.size
    have HI := Lib.hid (And.intro hrow hb)
    clear hrow hb
    by_cases hlt : k < N
    · have hkl : (leafsF b)[k]? = some (leafF b k) := leafsF_at (by rw [← HN.out]; exact hlt)
      obtain ⟨g1, u1, rfl, hc1, hu1⟩ := HI1.out.1.at_ hkl
      obtain ⟨pu, cu, rfl, -, -⟩ := hu1.form
      have d1 := (HI.out.2.cell (p := ⟨g1, k, none⟩) (lt_of_cell hc1)).trans hc1
      obtain ⟨l, hl⟩ : ∃ l, l = leafF b k := ⟨_, rfl⟩
      rw [← hl] at hu1 d1
      obtain ⟨m, hm⟩ : ∃ m, m = l.length := ⟨_, rfl⟩
      have hm64 : m ≤ 64 := by rw [hm, hl]; exact leafF_length _ _
      rw [← hm] at hu1 d1
      have HU := Lib.hid (hu1.keep HI.out.2)
      have HM := Lib.hid hm
      have HTK : Hid ((rowF b).take (k + 1) = (rowF b).take k ++ [sha (0 :: l)]) := Lib.hid (by
        refine take_next ?_
        rw [rowF, List.getElem?_map, hkl, hl]; rfl)
      have HLK : Hid (((rowF b).take k).length = k) := Lib.hid (by rw [List.length_take, rowF_length, ← HN.out]; omega)
      have hki : (k : Int) < (N : Int) := by omega
      clear hkl hc1 hu1 hm hl
      go_wp2_with fail
      refine (below_any _ l wr HU.out (by rw [← HM.out]; omega)).mono ?_
      rintro e w2 ⟨v2, rfl, ho2, hb2⟩
      rw [← HM.out] at ho2
      obtain ⟨A2, c2, rfl⟩ := own_form ho2
      have hb2z := hb2.size
      have HI2 := Lib.hid (And.intro (own_hb ho2 (by have := HM.out; simp only [List.length_cons]; omega)) hb2)
      clear ho2 hb2
      go_wp2_with fail
      have hB3 : Below w2.heap.size w2 (w2.alloc (.cells #[.slice A2 (1 + m) c2] 24)) := (Below.refl _ _).alloc (Nat.le_refl _) _
      have hB03 : Below wr.heap.size wr (w2.alloc (.cells #[.slice A2 (1 + m) c2] 24)) := HI2.out.2.trans (hB3.mono hb2z)
      have hTT : Tab (w2.alloc (.cells #[.slice A2 (1 + m) c2] 24)) := ((HT.out.below HI1.out.2 h0).below HI.out.2 (by omega)).below hB03 (by omega)
      refine (of_any _ [0 :: l] _ hTT (by first | (simp; done) | (simp; omega)) (parts_new1 rfl HI2.out.1) (by simp) (by simp; rw [← HM.out]; omega)).mono ?_
      rintro e w3 ⟨rfl, hb3⟩
      rw [show ([0 :: l] : List (List UInt8)).flatten = 0 :: l by simp]
      obtain ⟨d, hd⟩ : ∃ d, d = sha (0 :: l) := ⟨_, rfl⟩
      have hdl : d.length = 32 := by rw [hd]; exact sha_length _
      rw [← hd] at HTK ⊢
      have HB3 := Lib.hid (hB03.trans (hb3.mono (by simp; omega)))
      have HDL := Lib.hid hdl
      clear hB3 hB03 hTT hb3 HI2 hd hdl
      go_wp2_with (first
        | (refine wpList_build_id rfl (.tmp 17) 72 36 ii _ rfl Tryd.underlying72 HII.out hzi hsi d HDL.out rfl ?_)
        | (at_builtin
           have hb3z := HB3.out.size
           have hrow2 := HI.out.1.keep HB3.out
           refine wpList_append_own _ rfl (.tmp 13) (.tmp 18) 72 rfl w1.heap.size 36 ii (.agg (bvs (List.replicate 32 0))) 32 32 Tryd.underlying72 HII.out hzi hsi hbi zeroId_cells (by decide) (.slice A k c) k _ rfl (hrow2.1.alloc _) ⟨w3.heap.size, 0, none⟩ 1 1 (d.map bcv) rfl (by rw [List.length_map, HDL.out]) (news_id (Blk.new w3 _ _)) (one_bcv d) (by simp only [maxLen]; omega) (by omega) (by simp; omega) ?_
           intro v5 w5 hown5 hgrow5 _
           have HR5 : Hid (IdR w5 w1.heap.size v5 (k + 1) ((rowF b).take (k + 1)) ∧ Below w1.heap.size w1 w5) := Lib.hid ⟨by rw [HTK.out]; exact IdR.snoc hown5 HLK.out hrow2.2.2 HDL.out, ((HI.out.2.trans (HB3.out.mono hbz)).alloc (by omega) _).grown hgrow5 (by simp; omega) (fun j hj => own_ge hrow2.1 j hj)⟩
           clear hown5 hgrow5 hrow2 HI HB3))
      go_roundw
      case rel => exact ⟨k + 1, by omega, by go_num, HR5.out⟩
      case measure => simp [intOf]; omega
    · obtain rfl : k = N := by omega
      have HE : Hid ((rowF b).take k = rowF b) := Lib.hid (List.take_of_length_le (by rw [rowF_length, ← HN.out]; exact Nat.le_refl _))
      go_wp2_with fail
      go_ret
      have h1 := HI.out.1
      rw [HE.out] at h1
      exact ⟨_, rfl, h1.base hz1, HI1.out.2.trans (HI.out.2.mono hz1)⟩
end Go.Proofs.YtlopiinkpdpakaaDoor
