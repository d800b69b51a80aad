/-
  The walks of seal.Name and of the reference's Name and Seal.
-/
import Derived.Test.YtbicdobnnanlkaaDoorSe5
namespace Go.Proofs.YtbicdobnnanlkaaDoor
open Go Go.RowKit
set_option linter.unusedSimpArgs false
set_option linter.unusedVariables false

/-- what is opened, in every case -/
theorem open_any (key b : List UInt8) (v : Value) (w : World) (hT : Tabs w) (hk : key.length = 32) (hv : HB w v b) (hb : b.length ≤ 60000) :
    Calls Tryd.prog 11 #[.agg (bvs key), v] w fun e w' => ∃ v', e = .returned (.tuple #[v', .int .u8 ((openS key b).2.1.toNat : Int), .int .u64 ((openS key b).2.2.1 : Int), .int .i64 ((openS key b).2.2.2 : Int)]) ∧ HB w' v' (openS key b).1 ∧ Below w.heap.size w w' := by
  unfold openS
  by_cases h41 : b.length < 41
  · rw [if_pos h41]
    refine (open_short key b v w hk hv h41).mono ?_
    rintro e w' ⟨rfl, hb⟩
    exact ⟨_, rfl, HB.nil _, hb⟩
  · rw [if_neg h41]
    cases hok : okS key b with
    | true =>
      rw [if_pos rfl]
      refine (open_good key b v w hT hk hv hb (by omega) hok).mono ?_
      rintro e w' ⟨v', rfl, h1, h2⟩
      exact ⟨_, rfl, h1, h2⟩
    | false =>
      rw [if_neg (by simp)]
      refine (open_bad key b v w hT hk hv hb (by omega) hok).mono ?_
      rintro e w' ⟨rfl, hb⟩
      exact ⟨_, rfl, HB.nil _, hb⟩

set_option maxRecDepth 100000 in
set_option maxHeartbeats 1000000 in
theorem name_any (key plain : List UInt8) (v : Value) (w : World) (hT : Tabs w) (hk : key.length = 32) (hv : HB w v plain) (hp : plain.length ≤ 900000) :
    Calls Tryd.prog 12 #[.agg (bvs key), v] w fun e w' => e = .returned (.agg (bvs (nameS key plain))) ∧ Below w.heap.size w w' := by
  obtain ⟨p, c, rfl, hl, hm⟩ := hv.form
  have HV := Lib.hid hv
  have HT := Lib.hid hT
  have hbz : (bvs key).size = 32 := by rw [bvs_size]; exact hk
  obtain ⟨x, hx⟩ : ∃ x, x = derF key [110, 97, 109, 101] 0 := ⟨_, rfl⟩
  have hxl : x.length = 32 := by rw [hx]; exact derF_length _ _ _
  obtain ⟨m, hm2⟩ : ∃ m, m = macF x plain := ⟨_, rfl⟩
  have hml : m.length = 32 := by rw [hm2]; exact macF_length _ _
  have hmz : (bvs m).size = 32 := by rw [bvs_size]; exact hml
  have HX := Lib.hid hx
  have HM := Lib.hid hm2
  have HR : Hid (m = nameS key plain) := Lib.hid (by rw [hm2, hx]; rfl)
  obtain ⟨n, hnn⟩ : ∃ n, n = plain.length := ⟨_, rfl⟩
  have HN := Lib.hid hnn
  rw [← hnn] at HV ⊢
  clear hT hv hx hm2 hl hnn
  go_enter Tryd.func12, Tryd.ntmps12
  go_wp2_with (first
    | (refine wpList_load_blk rfl 23 (.tmp 2) rfl w.heap.size 23 (bvs key) rfl ((Blk.new w _ _).alloc _) Tryd.underlying23 rfl (by rw [hbz]; kernel_rfl) ?_)
    | (go_at_call 26
       have hB : Below w.heap.size w ((w.alloc (.cells (bvs key) 23)).alloc (.cells (bvs (List.replicate 32 0)) 34)) := ((Below.refl w.heap.size w).alloc (Nat.le_refl _) _).alloc (by simp) _
       have b1 : Blk ((w.alloc (.cells (bvs key) 23)).alloc (.cells (bvs (List.replicate 32 0)) 34)) (w.heap.size + 1) 34 (bvs (List.replicate 32 0)) := Blk.new' (w := w.alloc _) (by simp) _ _
       have hTT := HT.out.below hB
       refine (macDer_any key ⟨#[110, 97, 109, 101]⟩ 0 _ hTT.1 hTT.2.2.1 hk (by decide) (by decide)).mono ?_
       rintro e w1 ⟨rfl, hb1⟩
       rw [show derF key (sb ⟨#[110, 97, 109, 101]⟩) 0 = x from HX.out.symm]
       have HI : Hid (Blk w1 (w.heap.size + 1) 34 (bvs (List.replicate 32 0)) ∧ Below w.heap.size w w1) := Lib.hid ⟨b1.below hb1 b1.lt, hB.trans (hb1.mono hB.size)⟩
       clear hb1 hB b1 hTT)
    | (go_at_call 18
       have hB : Below w1.heap.size w1 (w1.alloc (.cells #[.slice p n c] 25)) := (Below.refl _ _).alloc (Nat.le_refl _) _
       have hTT := (HT.out.below HI.out.2).below hB
       refine (macOf_any x _ [plain] _ hxl hTT.1 hTT.2.2.1 (parts_new1 (w := w1) (t := 25) rfl (HV.out.keep HI.out.2)) (by simp) (by simp; omega)).mono ?_
       rintro e w2 ⟨rfl, hb2⟩
       rw [show macF x [plain].flatten = m from by rw [HM.out]; simp]
       have HI2 : Hid (Blk w2 (w.heap.size + 1) 34 (bvs (List.replicate 32 0)) ∧ Below w.heap.size w w2) := Lib.hid ⟨(HI.out.1.below hB HI.out.1.lt).below hb2 (by have := HI.out.1.lt; have := hB.size; omega), (HI.out.2.trans (hB.mono HI.out.2.size)).trans (hb2.mono (by have := HI.out.2.size; have := hB.size; omega))⟩
       clear hb2 hB hTT HI)
    | (refine wpList_store_blk rfl 34 (.tmp 4) (.tmp 9) rfl (w.heap.size + 1) 34 _ (bvs m) rfl rfl HI2.out.1 (by rw [hmz]; rfl) (by rw [hmz]; kernel_rfl) (bvs_one _) ?_
       intro w3 hb3 hg3 hz3))
  refine bodyPost_ret (results_cell Tryd.results12 rfl (t := 34) (g := w.heap.size + 1) (cs := bvs m) hb3 Tryd.underlying34 rfl (by rw [hmz]; kernel_rfl)) rfl ⟨by rw [HR.out], ?_⟩
  exact HI2.out.2.grown hg3 HI2.out.2.size (by intro k hk; injection hk with hk; omega)

set_option maxRecDepth 100000 in
set_option maxHeartbeats 1000000 in
theorem refName_any (key : List UInt8) (s : ByteArray) (w : World) (hk : key.length = 32) (hp : s.size ≤ 900000) :
    Calls Tryd.prog 13 #[.agg (bvs key), .string s] w fun e w' => e = .returned (.agg (bvs (nameS key (sb s)))) ∧ Below w.heap.size w w' := by
  have hbz : (bvs key).size = 32 := by rw [bvs_size]; exact hk
  obtain ⟨x, hx⟩ : ∃ x, x = derF key [110, 97, 109, 101] 0 := ⟨_, rfl⟩
  have hxl : x.length = 32 := by rw [hx]; exact derF_length _ _ _
  obtain ⟨m, hm2⟩ : ∃ m, m = macF x (sb s) := ⟨_, rfl⟩
  have hml : m.length = 32 := by rw [hm2]; exact macF_length _ _
  have hmz : (bvs m).size = 32 := by rw [bvs_size]; exact hml
  have HX := Lib.hid hx
  have HM := Lib.hid hm2
  have HR : Hid (m = nameS key (sb s)) := Lib.hid (by rw [hm2, hx]; rfl)
  clear hx hm2
  go_enter Tryd.func13, Tryd.ntmps13
  go_wp2_with (first
    | (refine wpList_load_blk rfl 23 (.tmp 2) rfl w.heap.size 23 (bvs key) rfl ((Blk.new w _ _).alloc _) Tryd.underlying23 rfl (by rw [hbz]; kernel_rfl) ?_)
    | (go_at_call 21
       have hB : Below w.heap.size w ((w.alloc (.cells (bvs key) 23)).alloc (.cells (bvs (List.replicate 32 0)) 34)) := ((Below.refl w.heap.size w).alloc (Nat.le_refl _) _).alloc (by simp) _
       have b1 : Blk ((w.alloc (.cells (bvs key) 23)).alloc (.cells (bvs (List.replicate 32 0)) 34)) (w.heap.size + 1) 34 (bvs (List.replicate 32 0)) := Blk.new' (w := w.alloc _) (by simp) _ _
       refine (refDer_any key ⟨#[110, 97, 109, 101]⟩ 0 _ hk (by decide) (by decide)).mono ?_
       rintro e w1 ⟨rfl, hb1⟩
       rw [show derF key (sb ⟨#[110, 97, 109, 101]⟩) 0 = x from HX.out.symm]
       have HI : Hid (Blk w1 (w.heap.size + 1) 34 (bvs (List.replicate 32 0)) ∧ Below w.heap.size w w1) := Lib.hid ⟨b1.below hb1 b1.lt, hB.trans (hb1.mono hB.size)⟩
       clear hb1 hB b1)
    | (go_at_call 23
       refine (refOf3_any x s _ hxl (by omega)).mono ?_
       rintro e w2 ⟨rfl, hb2⟩
       rw [← HM.out]
       have HI2 : Hid (Blk w2 (w.heap.size + 1) 34 (bvs (List.replicate 32 0)) ∧ Below w.heap.size w w2) := Lib.hid ⟨HI.out.1.below hb2 HI.out.1.lt, HI.out.2.trans (hb2.mono HI.out.2.size)⟩
       clear hb2 HI)
    | (refine wpList_store_blk rfl 34 (.tmp 4) (.tmp 8) rfl (w.heap.size + 1) 34 _ (bvs m) rfl rfl HI2.out.1 (by rw [hmz]; rfl) (by rw [hmz]; kernel_rfl) (bvs_one _) ?_
       intro w3 hb3 hg3 hz3))
  refine bodyPost_ret (results_cell Tryd.results13 rfl (t := 34) (g := w.heap.size + 1) (cs := bvs m) hb3 Tryd.underlying34 rfl (by rw [hmz]; kernel_rfl)) rfl ⟨by rw [HR.out], ?_⟩
  exact HI2.out.2.grown hg3 HI2.out.2.size (by intro k hk; injection hk with hk; omega)
end Go.Proofs.YtbicdobnnanlkaaDoor
