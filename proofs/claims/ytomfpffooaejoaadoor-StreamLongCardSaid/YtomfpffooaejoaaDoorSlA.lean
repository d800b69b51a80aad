/-
  The walk of awake (04).
-/
import Derived.Test.YtomfpffooaejoaaDoorSt12
import Derived.Test.YtomfpffooaejoaaDoorSlV
import Derived.Test.YtomfpffooaejoaaDoorReg5
namespace Go.Proofs.YtomfpffooaejoaaDoor
open Go Go.RowKit
set_option linter.unusedSimpArgs false
set_option linter.unusedVariables false

set_option maxRecDepth 100000 in
set_option maxHeartbeats 1000000 in
theorem awake4_any (w : World) (hT : TabQ w) (h0 : 0 < w.heap.size) :
    Calls Tryd.prog 8 #[] w fun e w' => e = .returned (.bool true) ∧ Below w.heap.size w w' := by
  have HT := Lib.hid hT
  clear hT
  obtain ⟨x, hx⟩ : ∃ x, x = overS skey1 snon2 [97, 98, 99] := ⟨_, rfl⟩
  have hxl : x.length = 3 := by rw [hx, overS_length]; rfl
  have hx2 : overS skey1 snon2 x = [97, 98, 99] := by rw [hx]; exact overS_twice _ _ _
  have hxn : ¬ x = [97, 98, 99] := by
    intro e
    have h := over_abc
    rw [← hx, e] at h
    simp at h
  obtain ⟨p, hp⟩ : ∃ p, p = partS skey0 snon0 0 := ⟨_, rfl⟩
  have hpl : p.length = 64 := by rw [hp]; exact partS_length _ _ _
  have hpz : (bvs p).size = 64 := by rw [bvs_size]; exact hpl
  have hp0 : at8 p 0 = 118 ∧ at8 p 1 = 184 ∧ at8 p 63 = 134 := by rw [hp]; exact part_00
  have HX := Lib.hid hx
  have HX2 := Lib.hid hx2
  have HXN := Lib.hid hxn
  have HP := Lib.hid hp
  have HP0 := Lib.hid hp0
  clear hx hx2 hxn hp hp0
  have hbz : (bvs skey1).size = 32 := rfl
  go_enter Tryd.func8, Tryd.ntmps8
  go_wp2_with (first
    | (refine wpList_store_blk rfl 23 (.tmp 1) (.tmp 5) rfl w.heap.size 23 _ (bvs skey1) rfl rfl (Blk.new _ _ _) (by rw [hbz]; rfl) (by rw [hbz]; kernel_rfl) (bvs_one _) ?_
       intro w2 hb2 hg2 hz2
       have HI : Hid (Blk w2 w.heap.size 23 (bvs skey1) ∧ Below w.heap.size w w2 ∧ w.heap.size < w2.heap.size) := Lib.hid ⟨hb2, ((Below.refl w.heap.size w).alloc (Nat.le_refl _) _).grown hg2 (by simp) (by intro k hk; injection hk with hk; omega), by rw [hz2]; simp⟩
       have k1 := lit_at Tryd.underlying30 Tryd.underlying5 w2 #[.int .u8 97, .int .u8 98, .int .u8 99] 3 3 w2.heap.size 3 4 rfl rfl rfl
       clear hb2 hg2 hz2)
    | (refine wpList_load_blk rfl 23 (.tmp 1) rfl w.heap.size 23 (bvs skey1) rfl HI.out.1 Tryd.underlying23 rfl (by rw [hbz]; kernel_rfl) ?_))
  have hB : Below w2.heap.size w2 (w2.alloc (.cells #[.int .u8 97, .int .u8 98, .int .u8 99] 5 (3, 4))) := (Below.refl _ _).alloc (Nat.le_refl _) _
  refine (streamOver_any skey1 snon2 [97, 98, 99] _ _ ((HT.out.below HI.out.2.1 h0).below hB (by have := HI.out.2.1.size; omega)) (by have := HI.out.2.2; simp <;> omega) rfl rfl (HB.new w2 [97, 98, 99] 5 (3, 4) rfl rfl (by decide)) (by decide)).mono ?_
  rintro e w3 ⟨v3, rfl, ho3, hb3⟩
  rw [← HX.out] at ho3
  have HI3 : Hid (Blk w3 w.heap.size 23 (bvs skey1) ∧ Below w.heap.size w w3 ∧ w.heap.size < w3.heap.size ∧ HB w3 v3 x) := Lib.hid ⟨(HI.out.1.below hB HI.out.1.lt).below hb3 (by have := HI.out.1.lt; simp <;> omega), (HI.out.2.1.trans (hB.mono HI.out.2.1.size)).trans (hb3.mono (by have := HI.out.2.1.size; simp; omega)), by have := HI.out.2.2; have := hb3.size; simp at this; omega, own_hb ho3 hxl.symm⟩
  clear hB ho3 hb3 HI k1
  go_wp2_with (refine wpList_load_blk rfl 23 (.tmp 1) rfl w.heap.size 23 (bvs skey1) rfl HI3.out.1 Tryd.underlying23 rfl (by rw [hbz]; kernel_rfl) ?_)
  refine (streamOver_any skey1 snon2 x _ _ (HT.out.below HI3.out.2.1 h0) (by have := HI3.out.2.2.1; omega) rfl rfl HI3.out.2.2.2 (by omega)).mono ?_
  rintro e w4 ⟨v4, rfl, ho4, hb4⟩
  rw [HX2.out] at ho4
  have HI4 : Hid (Below w.heap.size w w4 ∧ w.heap.size < w4.heap.size ∧ HB w4 v3 x ∧ HB w4 v4 [97, 98, 99]) := Lib.hid ⟨HI3.out.2.1.trans (hb4.mono HI3.out.2.1.size), by have := HI3.out.2.2.1; have := hb4.size; omega, HI3.out.2.2.2.keep hb4, own_hb ho4 (by rw [hxl]; rfl)⟩
  clear ho4 hb4 HI3
  go_wp2_with fail
  refine (part_any skey0 snon0 0 _ (HT.out.below HI4.out.1 h0) (by have := HI4.out.2.1; omega) rfl rfl).mono ?_
  rintro e w5 ⟨rfl, hb5⟩
  rw [← HP.out]
  have HI5 : Hid (Below w.heap.size w w5 ∧ w.heap.size < w5.heap.size ∧ HB w5 v3 x ∧ HB w5 v4 [97, 98, 99]) := Lib.hid ⟨HI4.out.1.trans (hb5.mono HI4.out.1.size), by have := HI4.out.2.1; have := hb5.size; omega, HI4.out.2.2.1.keep hb5, HI4.out.2.2.2.keep hb5⟩
  clear hb5 HI4
  go_wp2_with (refine wpList_store_blk rfl 27 (.tmp 4) (.tmp 17) rfl w5.heap.size 27 _ (bvs p) rfl rfl (Blk.new _ _ _) (by rw [hpz]; rfl) (by rw [hpz]; kernel_rfl) (bvs_one _) ?_
               intro w6 hb6 hg6 hz6
               have hB56 : Below w5.heap.size w5 w6 := ((Below.refl w5.heap.size w5).alloc (Nat.le_refl _) _).grown hg6 (by simp) (by intro k hk; injection hk with hk; omega)
               have HI6 : Hid (Below w.heap.size w w6) := Lib.hid (HI5.out.1.trans (hB56.mono (by have := HI5.out.2.1; omega)))
               have hcv3 := (HI5.out.2.2.1.keep hB56).str Tryd.underlying30 Tryd.underlying5 Tryd.underlying9
               have hcv4 := (HI5.out.2.2.2.keep hB56).str Tryd.underlying30 Tryd.underlying5 Tryd.underlying9
               have hc0 := hb6.byte (i := 0) (by omega)
               have hc1 := hb6.byte (i := 1) (by omega)
               have hc63 := hb6.byte (i := 63) (by omega)
               rw [HP0.out.1] at hc0
               rw [HP0.out.2.1] at hc1
               rw [HP0.out.2.2] at hc63
               have hxs : ((bs x).toList == [97, 98, 99]) = false := by rw [bs_toList]; simpa using HXN.out
               have hys : (bs [97, 98, 99]).toList = [97, 98, 99] := bs_toList _
               clear hb6 hg6 hz6 hB56)
  go_ret
  exact ⟨rfl, HI6.out⟩
end Go.Proofs.YtomfpffooaejoaaDoor
