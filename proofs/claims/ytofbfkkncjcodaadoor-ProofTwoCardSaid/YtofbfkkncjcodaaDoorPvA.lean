/-
  The walk of awake (06).
-/
import Derived.Test.YtofbfkkncjcodaaDoorPf9
import Derived.Test.YtofbfkkncjcodaaDoorPfV
namespace Go.Proofs.YtofbfkkncjcodaaDoor
open Go Go.RowKit
set_option linter.unusedSimpArgs false
set_option linter.unusedVariables false

theorem hN_le : ∀ n, hN n ≤ n
  | n => by
    by_cases h : 1 < n
    · rw [hN_more h]
      have := hN_le ((n + 1) / 2)
      omega
    · rw [hN_end h]; omega
termination_by n => n
decreasing_by omega

set_option maxRecDepth 100000 in
set_option maxHeartbeats 2000000 in
theorem awake6_any (w : World) (hT : Tab w) (h0 : 0 < w.heap.size) :
    Calls Tryd.prog 9 #[] w fun e w' => e = .returned (.bool true) ∧ Below w.heap.size w w' := by
  have HT : Hid (∀ W, Below w.heap.size w W → Tab W ∧ 0 < W.heap.size) := Lib.hid (fun W hb => ⟨hT.below hb h0, by have := hb.size; omega⟩)
  obtain ⟨i8, hi8, hz8, hsz8, hby8⟩ := info8
  have hmk := fun W => run_make_bytes Tryd.underlying22 hi8 hz8 hsz8 hby8 65 (by decide) W
  obtain ⟨Z, hZ⟩ : ∃ Z : List UInt8, Z = z65 := ⟨_, rfl⟩
  rw [show List.replicate 65 (0 : UInt8) = Z from hZ.symm] at hmk
  have hzl : Z.length = 65 := by rw [hZ]; rfl
  have HZL := Lib.hid hzl
  obtain ⟨d, hd⟩ : ∃ d, d = leafD z64 := ⟨_, rfl⟩
  obtain ⟨r, hr⟩ : ∃ r, r = rootF Z := ⟨_, rfl⟩
  have hrl : r.length = 32 := by rw [hr]; exact rootF_length _
  have hrz : (bvs r).size = 32 := by rw [bvs_size]; exact hrl
  have hpv : proveF Z 1 = ([0], [d], 0) := by rw [hZ, hd]; exact prove_z65
  have hnl : nlF Z.length = 2 := by rw [hZ]; exact nl_z65
  have hc1 : checkF r 2 1 [0] [d] = 0 := by
    have h := check_prove (b := z65) (k := 1) (by rw [nl_z65]; decide)
    rw [nl_z65, leafs_z65.2, way_z65, ← hd, ← hZ, ← hr] at h
    exact h
  have hc2 : checkF r 2 0 [0] [d] = 21 := by
    have h := check_z65
    rw [way_z65, ← hd, ← hZ, ← hr] at h
    exact h
  have HF := Lib.hid (And.intro hpv (And.intro hnl (And.intro hc1 hc2)))
  have HR := Lib.hid hr
  have HN0 : Hid (nlF ([] : List UInt8).length = 1) := Lib.hid rfl
  clear hi8 hZ hd hr hpv hnl hc1 hc2 hT hzl
  have h65 : ((65 : Nat) : Int) = 65 := rfl
  rw [h65] at hmk
  go_enter Tryd.func9, Tryd.ntmps9
  go_wp2_with fail
  obtain ⟨V0, hV0⟩ : ∃ V0, V0 = w.alloc (.cells (bvs Z) 5) := ⟨_, rfl⟩
  have HB0 : Hid (HB V0 (.slice (some ⟨w.heap.size, 0, none⟩) 65 65) Z ∧ Below w.heap.size w V0) := Lib.hid (by
    rw [hV0]
    exact ⟨HB.blk (Blk.new w 5 (bvs Z)) HZL.out (by decide), (Below.refl _ _).alloc (Nat.le_refl _) _⟩)
  rw [← hV0]
  clear hV0 hmk
  refine (prove_any _ Z 1 V0 (HT.out _ HB0.out.2).1 (HT.out _ HB0.out.2).2 HB0.out.1 (by rw [HZL.out]; omega)).mono ?_
  rintro e w1 ⟨v1, v2, rfl, hl1, hr1, hb1⟩
  rw [HF.out.1] at hl1 hr1 ⊢
  obtain ⟨p1, c1, rfl, -, -⟩ := hl1.form
  obtain ⟨A2, c2, rfl⟩ := hr1.form
  have HI1 : Hid (HB w1 (.slice (some ⟨w.heap.size, 0, none⟩) 65 65) Z ∧ Below w.heap.size w w1 ∧ HB w1 (.slice p1 1 c1) [0] ∧ IdS w1 (.slice A2 1 c2) [d]) := Lib.hid ⟨HB0.out.1.keep hb1, HB0.out.2.trans (hb1.mono HB0.out.2.size), hl1, hr1.ids⟩
  clear hl1 hr1 hb1 HB0
  simp only [List.length_cons, List.length_nil, Nat.zero_add]
  go_wp2_with fail
  refine (root_any _ Z w1 (HT.out _ HI1.out.2.1).1 (HT.out _ HI1.out.2.1).2 HI1.out.1 (by rw [HZL.out]; omega)).mono ?_
  rintro e w2 ⟨rfl, hb2⟩
  rw [← HR.out]
  have HI2 : Hid (HB w2 (.slice (some ⟨w.heap.size, 0, none⟩) 65 65) Z ∧ Below w.heap.size w w2 ∧ HB w2 (.slice p1 1 c1) [0] ∧ IdS w2 (.slice A2 1 c2) [d]) := Lib.hid ⟨HI1.out.1.keep hb2, HI1.out.2.1.trans (hb2.mono HI1.out.2.1.size), HI1.out.2.2.1.keep hb2, HI1.out.2.2.2.keep hb2⟩
  clear hb2 HI1
  go_wp2_with (
    (refine wpList_store_blk rfl 31 (.tmp 5) (.tmp 14) rfl w2.heap.size 31 _ (bvs r) rfl rfl (Blk.new _ _ _) (by rw [hrz]; rfl) (by rw [hrz]; kernel_rfl) (bvs_one _) ?_
     intro w3 hb2 hg2 hz3
     have hBV : Below w2.heap.size w2 w3 := ((Below.refl w2.heap.size w2).alloc (Nat.le_refl _) _).grown hg2 (by simp) (by intro k hk; injection hk with hk; omega)
     have HI3 : Hid (Blk w3 w2.heap.size 31 (bvs r) ∧ HB w3 (.slice (some ⟨w.heap.size, 0, none⟩) 65 65) Z ∧ Below w.heap.size w w3 ∧ HB w3 (.slice p1 1 c1) [0] ∧ IdS w3 (.slice A2 1 c2) [d]) := Lib.hid ⟨hb2, HI2.out.1.keep hBV, HI2.out.2.1.trans (hBV.mono HI2.out.2.1.size), HI2.out.2.2.1.keep hBV, HI2.out.2.2.2.keep hBV⟩
     clear hb2 hg2 hz3 hBV HI2))
  obtain ⟨F, hF⟩ : ∃ F, F = w2.heap.size := ⟨_, rfl⟩
  rw [← hF] at HI3 ⊢
  clear hF
  refine (leaves_any _ Z w3 HI3.out.2.1 (by rw [HZL.out]; omega)).mono ?_
  rintro e w4 ⟨rfl, rfl⟩
  rw [HF.out.2.1]
  go_wp2_with (refine wpList_load_blk_g rfl 31 (.tmp 5) rfl F 31 (bvs r) rfl HI3.out.1 Tryd.underlying31 rfl (by rw [hrz]; kernel_rfl) ?_)
  refine (check_any r 2 1 _ _ [0] [d] w3 (HT.out _ HI3.out.2.2.1).1 (HT.out _ HI3.out.2.2.1).2 hrl HI3.out.2.2.2.1 HI3.out.2.2.2.2 (by decide) (by decide) (by decide) (by simp)).mono ?_
  rintro e w5 ⟨rfl, hb5⟩
  rw [HF.out.2.2.1]
  have HI5 : Hid (Blk w5 F 31 (bvs r) ∧ Below w.heap.size w w5 ∧ HB w5 (.slice p1 1 c1) [0] ∧ IdS w5 (.slice A2 1 c2) [d]) := Lib.hid ⟨HI3.out.1.below hb5 HI3.out.1.lt, HI3.out.2.2.1.trans (hb5.mono HI3.out.2.2.1.size), HI3.out.2.2.2.1.keep hb5, HI3.out.2.2.2.2.keep hb5⟩
  clear hb5 HI3
  go_wp2_with (refine wpList_load_blk_g rfl 31 (.tmp 5) rfl F 31 (bvs r) rfl HI5.out.1 Tryd.underlying31 rfl (by rw [hrz]; kernel_rfl) ?_)
  refine (check_any r 2 0 _ _ [0] [d] w5 (HT.out _ HI5.out.2.1).1 (HT.out _ HI5.out.2.1).2 hrl HI5.out.2.2.1 HI5.out.2.2.2 (by decide) (by decide) (by decide) (by simp)).mono ?_
  rintro e w6 ⟨rfl, hb6⟩
  rw [HF.out.2.2.2]
  have HI6 := Lib.hid (HI5.out.2.1.trans (hb6.mono HI5.out.2.1.size))
  clear hb6 HI5
  go_wp2_with fail
  refine (leaves_any _ [] w6 (HB.nil _) (by decide)).mono ?_
  rintro e w7 ⟨rfl, rfl⟩
  rw [HN0.out]
  go_wp2_with fail
  go_ret
  exact ⟨rfl, HI6.out⟩
end Go.Proofs.YtofbfkkncjcodaaDoor
