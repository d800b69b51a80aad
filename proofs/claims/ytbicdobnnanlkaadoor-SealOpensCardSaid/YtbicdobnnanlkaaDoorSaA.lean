/-
  The walk of awake (05).
-/
import Derived.Test.YtbicdobnnanlkaaDoorSe8
import Derived.Test.YtbicdobnnanlkaaDoorSaV
import Derived.Test.YtbicdobnnanlkaaDoorGE
import Derived.Test.YtbicdobnnanlkaaDoorGB
namespace Go.Proofs.YtbicdobnnanlkaaDoor
open Go Go.RowKit
set_option linter.unusedSimpArgs false
set_option linter.unusedVariables false

set_option maxRecDepth 100000 in
set_option maxHeartbeats 1000000 in
theorem awake5_any (w : World) (hT : Tabs w) :
    Calls Tryd.prog 8 #[] w fun e w' => e = .returned (.bool true) ∧ Below w.heap.size w w' := by
  have HT := Lib.hid hT
  clear hT
  obtain ⟨x, hx⟩ : ∃ x, x = sealS key3 2 5 [97, 98, 99] := ⟨_, rfl⟩
  have hxl : x.length = 44 := by rw [hx, sealS_length]; rfl
  have hx3 : openS key3 x = ([97, 98, 99], 2, 5, 0) := by rw [hx]; exact open_seal _ _ _ _ (by decide)
  have hx4 : openS key4 x = ([], 0, 0, 20) := by rw [hx]; exact open_4
  obtain ⟨y, hy⟩ : ∃ y, y = nameS key3 [] := ⟨_, rfl⟩
  have hyl : y.length = 32 := by rw [hy]; exact nameS_length _ _
  obtain ⟨z, hz⟩ : ∃ z : List UInt8, z = List.replicate 32 0 := ⟨_, rfl⟩
  have hzl : z.length = 32 := by rw [hz]; rfl
  have hyz : (y == z) = false := by rw [hy, hz]; exact name_3
  have hzz : (#[.int .u8 0, .int .u8 0, .int .u8 0, .int .u8 0, .int .u8 0, .int .u8 0, .int .u8 0, .int .u8 0, .int .u8 0, .int .u8 0, .int .u8 0, .int .u8 0, .int .u8 0, .int .u8 0, .int .u8 0, .int .u8 0, .int .u8 0, .int .u8 0, .int .u8 0, .int .u8 0, .int .u8 0, .int .u8 0, .int .u8 0, .int .u8 0, .int .u8 0, .int .u8 0, .int .u8 0, .int .u8 0, .int .u8 0, .int .u8 0, .int .u8 0, .int .u8 0] : Array Value) = bvs z := by rw [hz]; rfl
  have HX := Lib.hid hx
  have HX3 := Lib.hid hx3
  have HX4 := Lib.hid hx4
  have HY := Lib.hid hy
  have HZZ := Lib.hid hzz
  clear hx hx3 hx4 hy hz hzz
  have hbz : (bvs key3).size = 32 := rfl
  go_enter Tryd.func8, Tryd.ntmps8
  go_wp2_with (first
    | (refine wpList_store_blk rfl 23 (.tmp 1) (.tmp 12) rfl w.heap.size 23 _ (bvs key3) rfl rfl (Blk.new _ _ _) (by rw [hbz]; rfl) (by rw [hbz]; kernel_rfl) (bvs_one _) ?_
       intro w2 hb2 hg2 hz2
       have HI : Hid (Blk w2 w.heap.size 23 (bvs key3) ∧ Below w.heap.size w w2 ∧ w.heap.size < w2.heap.size) := Lib.hid ⟨hb2, ((Below.refl w.heap.size w).alloc (Nat.le_refl _) _).grown hg2 (by simp) (by intro k hk; injection hk with hk; omega), by rw [hz2]; simp⟩
       have k1 := lit_at Tryd.underlying25 Tryd.underlying5 w2 #[.int .u8 97, .int .u8 98, .int .u8 99] 3 3 w2.heap.size 3 4 rfl rfl rfl
       clear hb2 hg2 hz2)
    | (refine wpList_load_blk rfl 23 (.tmp 1) rfl w.heap.size 23 (bvs key3) rfl HI.out.1 Tryd.underlying23 rfl (by rw [hbz]; kernel_rfl) ?_))
  have hB : Below w2.heap.size w2 (w2.alloc (.cells #[.int .u8 97, .int .u8 98, .int .u8 99] 5 (3, 4))) := (Below.refl _ _).alloc (Nat.le_refl _) _
  refine (seal_any key3 [97, 98, 99] 2 5 _ _ ((HT.out.below HI.out.2.1).below hB) rfl (by decide) (HB.new w2 [97, 98, 99] 5 (3, 4) rfl rfl (by decide)) (by decide)).mono ?_
  rintro e w3 ⟨v3, rfl, ho3, hb3⟩
  rw [← HX.out] at ho3
  have HI3 : Hid (∃ c q, v3 = .slice q 44 c ∧ Blk w3 w.heap.size 23 (bvs key3) ∧ Below w.heap.size w w3 ∧ w.heap.size < w3.heap.size ∧ HB w3 v3 x) := by
    obtain ⟨q, c, rfl⟩ := own_form ho3
    exact Lib.hid ⟨_, _, rfl, (HI.out.1.below hB HI.out.1.lt).below hb3 (by have := HI.out.1.lt; simp <;> omega), (HI.out.2.1.trans (hB.mono HI.out.2.1.size)).trans (hb3.mono (by have := HI.out.2.1.size; simp; omega)), by have := HI.out.2.2; have := hb3.size; simp at this; omega, own_hb ho3 hxl.symm⟩
  clear hB ho3 hb3 HI k1
  obtain ⟨c, q, rfl, hI3⟩ := HI3.out
  have HI := Lib.hid hI3
  clear HI3 hI3
  go_wp2_with (refine wpList_load_blk rfl 23 (.tmp 1) rfl w.heap.size 23 (bvs key3) rfl HI.out.1 Tryd.underlying23 rfl (by rw [hbz]; kernel_rfl) ?_)
  refine (open_any key3 x _ w3 (HT.out.below HI.out.2.1) rfl HI.out.2.2.2 (by omega)).mono ?_
  rintro e w4 ⟨v4, rfl, ho4, hb4⟩
  rw [HX3.out] at ho4 ⊢
  have HI4 : Hid (Blk w4 w.heap.size 23 (bvs key3) ∧ Below w.heap.size w w4 ∧ w.heap.size < w4.heap.size ∧ HB w4 (.slice q 44 c) x ∧ HB w4 v4 [97, 98, 99]) := Lib.hid ⟨HI.out.1.below hb4 HI.out.1.lt, HI.out.2.1.trans (hb4.mono HI.out.2.1.size), by have := HI.out.2.2.1; have := hb4.size; omega, HI.out.2.2.2.keep hb4, ho4⟩
  clear ho4 hb4 HI
  simp only [show ((2 : UInt8).toNat : Int) = 2 from rfl, show (((5 : Nat) : Int)) = 5 from rfl, show (((0 : Nat) : Int)) = 0 from rfl]
  go_wp2_with fail
  refine (open_any key4 x _ w4 (HT.out.below HI4.out.2.1) rfl HI4.out.2.2.2.1 (by omega)).mono ?_
  rintro e w5 ⟨v5, rfl, ho5, hb5⟩
  rw [HX4.out] at ho5 ⊢
  have HI5 : Hid (Blk w5 w.heap.size 23 (bvs key3) ∧ Below w.heap.size w w5 ∧ w.heap.size < w5.heap.size) := Lib.hid ⟨HI4.out.1.below hb5 HI4.out.1.lt, HI4.out.2.1.trans (hb5.mono HI4.out.2.1.size), by have := HI4.out.2.2.1; have := hb5.size; omega⟩
  have hcv := (HI4.out.2.2.2.2.keep hb5).str Tryd.underlying25 Tryd.underlying5 Tryd.underlying9
  have hys : (bs [97, 98, 99]).toList = [97, 98, 99] := bs_toList _
  clear ho5 hb5 HI4
  go_wp2_with (refine wpList_load_blk_g rfl 23 (.tmp 1) rfl w.heap.size 23 (bvs key3) rfl HI5.out.1 Tryd.underlying23 rfl (by rw [hbz]; kernel_rfl) ?_)
  refine (name_any key3 [] _ w5 (HT.out.below HI5.out.2.1) rfl (HB.nil _) (by decide)).mono ?_
  rintro e w6 ⟨rfl, hb6⟩
  rw [← HY.out]
  have HI6 : Hid (Below w.heap.size w w6) := Lib.hid (HI5.out.2.1.trans (hb6.mono HI5.out.2.1.size))
  have hne := eq_id w6 y z hyl hzl
  rw [← HZZ.out, hyz] at hne
  clear hb6
  go_wp2_with fail
  go_ret
  exact ⟨rfl, HI6.out⟩
end Go.Proofs.YtbicdobnnanlkaaDoor
