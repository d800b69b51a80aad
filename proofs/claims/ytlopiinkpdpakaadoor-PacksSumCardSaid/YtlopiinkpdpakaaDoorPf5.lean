/-
  The walk of proof.Root.
-/
import Derived.Test.YtlopiinkpdpakaaDoorPf4
namespace Go.Proofs.YtlopiinkpdpakaaDoor
open Go Go.RowKit
set_option linter.unusedSimpArgs false
set_option linter.unusedVariables false

theorem calls_abs {P : Program} {n : FuncId} {args : Array Value} {Q : Ending → World → Prop} {w : World} (R : World → Prop) (h : R w) (k : ∀ W, R W → Calls P n args W Q) : Calls P n args w Q := k w h

set_option maxRecDepth 100000 in
set_option maxHeartbeats 2000000 in
theorem root_any (v : Value) (b : List UInt8) (w : World) (hT : Tab w) (h0 : 0 < w.heap.size) (h : HB w v b) (hb : b.length ≤ 10000000) :
    Calls Tryd.prog 26 #[v] w fun e w' => e = .returned (.agg (bvs (rootF b))) ∧ Below w.heap.size w w' := by
  have HT := Lib.hid hT
  have H := Lib.hid h
  obtain ⟨p, cap, rfl, hlc, hcm⟩ := h.form
  obtain ⟨N, hN⟩ : ∃ N, N = nlF b.length := ⟨_, rfl⟩
  have hNb : N ≤ 1000000 := by rw [hN]; unfold nlF; omega
  have hN1 : 1 ≤ N := by rw [hN]; unfold nlF; omega
  have HN := Lib.hid hN
  obtain ⟨z, hz⟩ : ∃ z, z = rootF b := ⟨_, rfl⟩
  have hzl : z.length = 32 := by rw [hz]; exact rootF_length b
  have hzz : (bvs z).size = 32 := by rw [bvs_size]; exact hzl
  rw [← hz]
  have HZ := Lib.hid hz
  clear hT h hN hz
  obtain ⟨B, hB⟩ : ∃ B, B = w.heap.size := ⟨_, rfl⟩
  go_enter Tryd.func26, Tryd.ntmps26
  go_wp2_with fail
  refine calls_abs (fun W => Blk W B 36 (bvs (List.replicate 32 0)) ∧ Below B w W ∧ B + 1 ≤ W.heap.size) ⟨?_, ?_, ?_⟩ ?_
  · rw [hB]; exact Blk.new w _ _
  · rw [hB]; exact (Below.refl w.heap.size w).alloc (Nat.le_refl _) _
  · rw [hB]; simp
  rintro W0 ⟨hI1, hI2, hsz⟩
  rw [← hB] at h0 ⊢
  have HBB := Lib.hid hB
  have HI := Lib.hid (And.intro hI1 hI2)
  have HH0 : Hid (HB W0 (.slice p b.length cap) b) := Lib.hid (H.out.keep (hB ▸ hI2))
  clear hI1 hI2 hB
  refine (digests_any _ b W0 (HT.out.below HI.out.2 h0) (by omega) HH0.out (by omega)).mono ?_
  rintro e w1 ⟨v1, rfl, hr1, hb1⟩
  rw [← HN.out] at hr1
  obtain ⟨A1, c1, rfl⟩ := hr1.form
  have HI1 : Hid (IdR w1 (B + 1) (.slice A1 N c1) N (rowF b) ∧ Blk w1 B 36 (bvs (List.replicate 32 0)) ∧ Below B w w1 ∧ B + 1 ≤ w1.heap.size) := Lib.hid ⟨hr1.base hsz, HI.out.1.below hb1 HI.out.1.lt, HI.out.2.trans (hb1.mono (by omega)), by have := hb1.size; omega⟩
  clear hr1 hb1 HI HH0
  go_wp2_with fail
  go_loopw [3] (fun l W => ∃ (m : Nat) (row : List Dig), 1 ≤ m ∧ m ≤ N ∧ Hid (topF row = topF (rowF b)) ∧ IdR W (B + 1) l m row ∧ Blk W B 36 (bvs (List.replicate 32 0)) ∧ Below B w W ∧ B + 1 ≤ W.heap.size) (fun l _ => vlen l)
  case atStart => exact ⟨N, rowF b, hN1, Nat.le_refl _, Lib.hid rfl, HI1.out⟩
  case round =>
    clear HI1
    obtain ⟨m, row, hm1, hmN, HTP, hrow, hbl, hb, hsz1⟩ := hrel
    obtain ⟨A, c, rfl⟩ := hrow.form
    have hml : row.length = m := hrow.2.1
    have HML := Lib.hid hml
    have HI := Lib.hid (And.intro hrow (And.intro hbl hb))
    clear hrow hbl hb hml
    by_cases hlt : 1 < m
    · have hmi : (1 : Int) < (m : Int) := by omega
      go_wp2_with fail
      refine (above_any _ row wr (HT.out.below HI.out.2.2 h0) (by omega) HI.out.1.ids (by rw [HML.out]; omega)).mono ?_
      rintro e w2 ⟨v2, rfl, hr2, hb2⟩
      rw [HML.out] at hr2
      obtain ⟨A2, c2, rfl⟩ := hr2.form
      obtain ⟨q, hq⟩ : ∃ q, q = (m + 1) / 2 := ⟨_, rfl⟩
      rw [← hq] at hr2 ⊢
      have HI2 : Hid (topF (aboveF row) = topF (rowF b) ∧ IdR w2 (B + 1) (.slice A2 q c2) q (aboveF row) ∧ Blk w2 B 36 (bvs (List.replicate 32 0)) ∧ Below B w w2 ∧ B + 1 ≤ w2.heap.size) := Lib.hid ⟨by rw [← topF_more (by rw [HML.out]; exact hlt)]; exact HTP.out, hr2.base hsz1, HI.out.2.1.below hb2 HI.out.2.1.lt, HI.out.2.2.trans (hb2.mono (by omega)), by have := hb2.size; omega⟩
      have HQ := Lib.hid hq
      clear hr2 hb2 HI hq
      go_wp2_with fail
      go_roundw
      case rel => exact ⟨q, aboveF row, by have := HQ.out; omega, by have := HQ.out; omega, Lib.hid HI2.out.1, HI2.out.2⟩
      case measure => have := HQ.out; simp [vlen]; omega
    · obtain rfl : m = 1 := by omega
      obtain ⟨d, hd⟩ : ∃ d, row = [d] := List.length_eq_one_iff.1 HML.out
      have hat := HI.out.1.ids.at_ (by omega)
      obtain ⟨b1, o1, rfl, hat⟩ := hat
      obtain ⟨hdl, hdr⟩ := hat 0 d (by rw [hd]; rfl)
      have hdr' : wr.rangeAt b1 o1 (d.map bcv) := by simpa using hdr
      have HDR := Lib.hid hdr'
      have HTD : Hid (crownD N d = z) := Lib.hid (by
        have h1 := HTP.out
        rw [hd, topF_one] at h1
        rw [h1, HZ.out, rootF, HN.out])
      have hmi : ¬ (1 : Int) < ((1 : Nat) : Int) := by omega
      clear hd hat hdr hdr'
      go_wp2_with (first
        | (refine wpList_load_mid rfl 36 (.tmp 16) rfl b1 o1 rfl (d.map bcv) _ HDR.out Tryd.underlying36 rfl (by rw [List.length_map, hdl]; kernel_rfl) ?_)
        | (go_at_call 41
           refine (crown_any N d wr (by omega) hdl).mono ?_
           rintro e w2 ⟨v2, rfl, ho2, hb2⟩
           obtain ⟨A2, c2, rfl⟩ := own_form ho2
           have HI2 : Hid (HB w2 (.slice A2 41 c2) (crownP N d) ∧ Below wr.heap.size wr w2) := Lib.hid ⟨own_hb ho2 (by simp [crownP, le8_length]; omega), hb2⟩
           clear ho2 hb2)
        | (go_at_call 40
           have hB3 : Below w2.heap.size w2 (w2.alloc (.cells #[.slice A2 41 c2] 24)) := (Below.refl _ _).alloc (Nat.le_refl _) _
           have hB03 : Below wr.heap.size wr (w2.alloc (.cells #[.slice A2 41 c2] 24)) := HI2.out.2.trans (hB3.mono HI2.out.2.size)
           refine (of_any _ [crownP N d] _ ((HT.out.below HI.out.2.2 h0).below hB03 (by omega)) (by have := HI2.out.2.size; simp <;> omega) (parts_new1 rfl HI2.out.1) (by simp) (by simp [crownP, le8_length]; omega)).mono ?_
           rintro e w3 ⟨rfl, hb3⟩
           rw [show sha ([crownP N d] : List (List UInt8)).flatten = z by rw [← HTD.out]; simp [crownD]]
           have HI3 : Hid (Blk w3 B 36 (bvs (List.replicate 32 0)) ∧ Below B w w3) := Lib.hid (by
             have hx := hB03.trans (hb3.mono (by have := HI2.out.2.size; simp; omega))
             exact ⟨HI.out.2.1.below hx HI.out.2.1.lt, HI.out.2.2.trans (hx.mono (by omega))⟩)
           clear hB3 hB03 hb3 HI2 HI)
        | (refine wpList_store_blk rfl 36 (.tmp 2) (.tmp 20) rfl B 36 _ (bvs z) rfl rfl HI3.out.1 (by rw [hzz]; rfl) (by rw [hzz]; kernel_rfl) (bvs_one _) ?_
           intro w4 hb4 hg4 hz4))
      refine bodyPost_ret (results_cell Tryd.results26 rfl (t := 36) (g := B) (cs := bvs z) hb4 Tryd.underlying36 rfl (by rw [hzz]; kernel_rfl)) rfl ⟨rfl, ?_⟩
      rw [← HBB.out]
      exact HI3.out.2.grown hg4 (by have := HI3.out.1.lt; omega) (by intro k hk; injection hk with hk; omega)
end Go.Proofs.YtlopiinkpdpakaaDoor
