/-
  The walk of the law SealOpens.
-/
import Derived.Test.YtbicdobnnanlkaaDoorSaA
import Derived.Test.YtbicdobnnanlkaaDoorGE
namespace Go.Proofs.YtbicdobnnanlkaaDoor
open Go Go.RowKit
set_option linter.unusedSimpArgs false
set_option linter.unusedVariables false

theorem open_facts (k b : List UInt8) : ((openS k b).2.2.2 ≠ 0 → (openS k b).1 = []) ∧ ((openS k b).2.2.2 = 0 → sealS k (openS k b).2.1 (openS k b).2.2.1 (openS k b).1 = b) ∧ (openS k b).2.2.1 < 18446744073709551616 ∧ (openS k b).1.length ≤ b.length := by
  unfold openS
  by_cases h41 : b.length < 41
  · rw [if_pos h41]; simp
  · rw [if_neg h41]
    cases hok : okS k b with
    | true =>
      rw [if_pos rfl]
      exact ⟨by simp, fun _ => seal_open (by omega) hok, numS_lt b, by show (innerS k b).length ≤ _; rw [innerS_length (by omega)]; omega⟩
    | false => rw [if_neg (by simp)]; simp


set_option maxRecDepth 100000 in
set_option maxHeartbeats 4000000 in
theorem sealOpens_so (key other b : List UInt8) (kd x : UInt8) (q a u : Nat) (v : Value) (w : World) (hT : Tabs w) (hk : key.length = 32) (hk2 : other.length = 32) (hq : q < 18446744073709551616) (ha : a < 65536) (hu : u < 65536) (hv : HB w v b) (h300 : ¬ (300 : Int) < (b.length : Int)) (hcut : u % 2 = 1) :
    Calls Tryd.prog 4 #[.agg (bvs key), .agg (bvs other), v, .int .u8 (kd.toNat : Int), .int .u64 (q : Int), .int .u16 (a : Int), .int .u8 (x.toNat : Int), .int .u16 (u : Int), .bool true] w fun e w' => e = .returned (.bool true) ∧ Below w.heap.size w w' := by
  obtain ⟨p, cap, rfl, hl, hm⟩ := hv.form
  unfold maxLen at hm
  have HV := Lib.hid hv
  clear hv
  have hkd := kd.toNat_lt
  have hbz : (bvs key).size = 32 := by rw [bvs_size]; exact hk
  have hbo : (bvs other).size = 32 := by rw [bvs_size]; exact hk2
  have HT := Lib.hid hT
  clear hT
  obtain ⟨n, hnb⟩ : ∃ n, n = b.length := ⟨_, rfl⟩
  rw [← hnb] at HV hl h300 ⊢
  have HN := Lib.hid hnb
  clear hnb
  obtain ⟨B, hB⟩ : ∃ B, B = sealS key kd q b := ⟨_, rfl⟩
  have hBl : B.length = n + 41 := by rw [hB, sealS_length, HN.out]
  obtain ⟨j, hj⟩ : ∃ j, j = a % (n + 41) := ⟨_, rfl⟩
  have hjn : j < n + 41 := by rw [hj]; exact Nat.mod_lt _ (by omega)
  have hj1 : (a : Int) % ((n : Int) + 41) = (j : Int) := by rw [hj]; simp
  have hj2 : (a : Int).tmod ((n : Int) + 41) = (j : Int) := by rw [Int.tmod_eq_emod_of_nonneg (by omega)]; exact hj1
  have hand : bits .and .u16 (u : Int) 1 = 1 := by
    have h := u16_and_nat u 1 hu (by decide)
    rw [Nat.and_one_is_mod, hcut] at h
    simpa using h
  obtain ⟨c, hc⟩ : ∃ c, c = u / 2 % (n + 41) := ⟨_, rfl⟩
  have hcn : c ≤ n + 41 := by have := Nat.mod_lt (u / 2) (show 0 < n + 41 by omega); omega
  have hc1 : ((u : Int) / 2) % ((n : Int) + 41) = (c : Int) := by rw [hc]; simp
  have hc2 : ((u : Int) / 2).tmod ((n : Int) + 41) = (c : Int) := by rw [Int.tmod_eq_emod_of_nonneg (by omega)]; exact hc1
  clear hc
  obtain ⟨B2, hB2⟩ : ∃ B2, B2 = B.set j (at8 B j ^^^ x) := ⟨_, rfl⟩
  have hB2l : B2.length = n + 41 := by rw [hB2, List.length_set]; exact hBl
  obtain ⟨D, hD⟩ : ∃ D, D = B2.take (c) := ⟨_, rfl⟩
  have hDl : D.length ≤ 341 := by rw [hD, List.length_take, hB2l]; omega
  obtain ⟨hf1, hf2, hf3, hf4⟩ := open_facts key D
  obtain ⟨P, hP⟩ : ∃ P, P = (openS key D).1 := ⟨_, rfl⟩
  obtain ⟨KK, hKK⟩ : ∃ KK, KK = (openS key D).2.1 := ⟨_, rfl⟩
  obtain ⟨M, hM⟩ : ∃ M, M = (openS key D).2.2.1 := ⟨_, rfl⟩
  obtain ⟨E, hE⟩ : ∃ E, E = (openS key D).2.2.2 := ⟨_, rfl⟩
  rw [← hP, ← hE] at hf1
  rw [← hE, ← hP, ← hKK, ← hM] at hf2
  rw [← hM] at hf3
  rw [← hP] at hf4
  obtain ⟨m, hm2⟩ : ∃ m, m = P.length := ⟨_, rfl⟩
  have hm3 : m ≤ 341 := by omega
  have hkk := KK.toNat_lt
  have HBL := Lib.hid hBl
  have HB2 := Lib.hid hB2
  have HB2L := Lib.hid hB2l
  have HD := Lib.hid hD
  have HDL := Lib.hid hDl
  have HS := Lib.hid hB
  have HP := Lib.hid hP
  have HPL := Lib.hid hm2.symm
  have HK := Lib.hid hKK
  have HM := Lib.hid hM
  have HE := Lib.hid hE
  have HM64 := Lib.hid hf3
  clear hB hBl hB2 hB2l hD hDl hP hKK hM hE hj hf4
  by_cases hE0 : E = 0
  · have HSE := Lib.hid (hf2 hE0)
    have HPD : Hid (P.length + 41 = D.length) := Lib.hid (by rw [← hf2 hE0, sealS_length])
    clear hf1 hf2 hm2
    subst hE0
    go_enter Tryd.func4, Tryd.ntmps4
    go_wp2_with (first
      | (go_at_call 8
         refine (awake5_any _ (HT.out.below (((Below.refl w.heap.size w).alloc (Nat.le_refl _) _).alloc (by simp) _))).mono ?_
         rintro e w1 ⟨rfl, hb1⟩
         have HI : Hid (Blk w1 w.heap.size 23 (bvs key) ∧ Blk w1 (w.heap.size + 1) 23 (bvs other) ∧ Below w.heap.size w w1 ∧ w.heap.size + 2 ≤ w1.heap.size) := Lib.hid ⟨((Blk.new w _ _).alloc _).below hb1 (by simp <;> omega), (Blk.new' (w := w.alloc _) (by simp) _ _).below hb1 (by simp), (((Below.refl w.heap.size w).alloc (Nat.le_refl _) _).alloc (by simp) _).trans (hb1.mono (by simp <;> omega)), by have := hb1.size; simpa using this⟩
         have HB1 := Lib.hid HI.out.2.2.1
         have HV1 := Lib.hid (HV.out.keep HB1.out)
         clear hb1)
      | (refine wpList_load_blk rfl 23 (.tmp 9) rfl w.heap.size 23 (bvs key) rfl HI.out.1 Tryd.underlying23 rfl (by rw [hbz]; kernel_rfl) ?_)
          | (go_at_call 9
             refine (seal_any key b kd q _ w1 (HT.out.below HB1.out) hk hq HV1.out (by have := HN.out; omega)).mono ?_
             rintro e w2 ⟨v2, rfl, ho, hb2⟩
             rw [← HS.out] at ho
             obtain ⟨gb, c1, r, rfl, hgb, hcl, hcm, hcr, hblk⟩ := own_bytes ho (by rw [HBL.out, HN.out]) (by omega)
             rw [← HN.out] at hcl hcr ⊢
             have c0 := hblk.rbyte (i := j) (by rw [HBL.out]; omega)
             have f0 := hblk.frozen j
             have HI2 : Hid (Blk w2 w.heap.size 23 (bvs key) ∧ Blk w2 (w.heap.size + 1) 23 (bvs other) ∧ Below w.heap.size w w2 ∧ Blk w2 gb 5 (bvr B r)) := Lib.hid ⟨HI.out.1.below hb2 (by have := HI.out.2.2.2; omega), HI.out.2.1.below hb2 (by have := HI.out.2.2.2; omega), HB1.out.trans (hb2.mono HB1.out.size), hblk⟩
             have HNUM : Hid (w.heap.size + 2 ≤ gb ∧ c1 = n + 41 + r.length ∧ c1 ≤ maxLen) := Lib.hid ⟨by have := HI.out.2.2.2; omega, hcr, hcm⟩
             have hcc : ¬ c1 < c := by omega
             unfold maxLen at hcm
             clear ho hb2 hgb hcr hblk HB1 HI HV1)
          | (have e5 := xor8_rule (at8 B j) x
             rw [e5]
             have hS := HI2.out.2.2.2.rbyte_store (at8 B j ^^^ x) (show j < B.length by rw [HBL.out]; omega)
             rw [← HB2.out] at hS
             have hgb := HNUM.out.1
             have HI5 : Hid (Blk (w2.setCell ⟨gb, j, none⟩ (.int .u8 ((at8 B j ^^^ x).toNat : Int))) w.heap.size 23 (bvs key) ∧ Blk (w2.setCell ⟨gb, j, none⟩ (.int .u8 ((at8 B j ^^^ x).toNat : Int))) (w.heap.size + 1) 23 (bvs other) ∧ Below w.heap.size w (w2.setCell ⟨gb, j, none⟩ (.int .u8 ((at8 B j ^^^ x).toNat : Int))) ∧ Blk (w2.setCell ⟨gb, j, none⟩ (.int .u8 ((at8 B j ^^^ x).toNat : Int))) gb 5 (bvr B2 r)) := Lib.hid ⟨HI2.out.1.other (by show w.heap.size ≠ gb; omega) _, HI2.out.2.1.other (by show w.heap.size + 1 ≠ gb; omega) _, HI2.out.2.2.1.setCell (show w.heap.size ≤ gb by omega) _, hS⟩
             generalize (w2.setCell ⟨gb, j, none⟩ (.int .u8 ((at8 B j ^^^ x).toNat : Int))) = w5 at *
             refine wpList_load_blk rfl 23 (.tmp 9) rfl w.heap.size 23 (bvs key) rfl HI5.out.1 Tryd.underlying23 rfl (by rw [hbz]; kernel_rfl) ?_
             clear HI2 c0 f0 e5 hS hgb)
          | (refine wpList_store_blk rfl 23 (.tmp 10) (.tmp 76) rfl (w.heap.size + 1) 23 _ (bvs key) rfl rfl HI5.out.2.1 (by rw [hbz, hbo]) (by rw [hbz]; kernel_rfl) (bvs_one _) ?_
             intro w6 hb6 hg6 hz6
             have hgb := HNUM.out.1
             have HI6 : Hid (Blk w6 (w.heap.size + 1) 23 (bvs key) ∧ Below w.heap.size w w6 ∧ Blk w6 gb 5 (bvr B2 r)) := Lib.hid ⟨hb6, HI5.out.2.2.1.grown hg6 HI5.out.2.2.1.size (by intro k hk; injection hk with hk; omega), HI5.out.2.2.2.grown hg6 (by intro h; injection h with h; omega)⟩
             clear hb6 hg6 hz6 hgb HI5)
          | (refine wpList_load_blk rfl 23 (.tmp 10) rfl (w.heap.size + 1) 23 (bvs key) rfl HI6.out.1 Tryd.underlying23 rfl (by rw [hbz]; kernel_rfl) ?_)
          | (go_at_call 11
             have hD6 : HB w6 (.slice (some ⟨gb, 0, none⟩) c c1) D := by
               rw [HD.out]
               exact (own_hb (own_bytes_mk (n := n + 41) (Nat.zero_le gb) HI6.out.2.2 HB2L.out.symm HNUM.out.2.1 HNUM.out.2.2) HB2L.out.symm).take (by omega)
             refine (open_any key D _ w6 (HT.out.below HI6.out.2.1) hk hD6 (by have := HDL.out; omega)).mono ?_
             rintro e w7 ⟨v7, rfl, ho, hb7⟩
             rw [← HP.out] at ho
             rw [← HK.out, ← HM.out, ← HE.out]
             obtain ⟨p7, c7, rfl, hl7, hm7⟩ := ho.form
             rw [HPL.out] at ho hl7 ⊢
             have HI7 : Hid (Blk w7 (w.heap.size + 1) 23 (bvs key) ∧ Below w.heap.size w w7 ∧ HB w7 (.slice (some ⟨gb, 0, none⟩) c c1) D ∧ HB w7 (.slice p7 m c7) P) := Lib.hid ⟨HI6.out.1.below hb7 HI6.out.1.lt, HI6.out.2.1.trans (hb7.mono HI6.out.2.1.size), hD6.keep hb7, ho⟩
             have hcv7 := HI7.out.2.2.1.str Tryd.underlying25 Tryd.underlying5 Tryd.underlying9
             clear hD6 ho hb7 hm7 HI6)
          | (refine wpList_load_blk rfl 23 (.tmp 10) rfl (w.heap.size + 1) 23 (bvs key) rfl HI7.out.1 Tryd.underlying23 rfl (by rw [hbz]; kernel_rfl) ?_)
          | (refine wpList_load_blk rfl 23 (.tmp 10) rfl (w.heap.size + 1) 23 (bvs key) rfl HI8.out.1 Tryd.underlying23 rfl (by rw [hbz]; kernel_rfl) ?_)
          | (go_at_call 14
             refine (refOpen_any key (bs D) w7 hk (by rw [bs_size]; have := HDL.out; omega)).mono ?_
             rintro e w8 ⟨rfl, hb8⟩
             rw [sb_bs, ← HP.out, ← HK.out, ← HM.out, ← HE.out]
             have HI8 : Hid (Blk w8 (w.heap.size + 1) 23 (bvs key) ∧ Below w.heap.size w w8 ∧ HB w8 (.slice (some ⟨gb, 0, none⟩) c c1) D ∧ HB w8 (.slice p7 m c7) P) := Lib.hid ⟨HI7.out.1.below hb8 HI7.out.1.lt, HI7.out.2.1.trans (hb8.mono HI7.out.2.1.size), HI7.out.2.2.1.keep hb8, HI7.out.2.2.2.keep hb8⟩
             have hcv8 := HI8.out.2.2.2.str Tryd.underlying25 Tryd.underlying5 Tryd.underlying9
             clear hcv7 hb8 HI7)
          | (go_at_call 9
             refine (seal_any key P KK M _ w8 (HT.out.below HI8.out.2.1) hk HM64.out HI8.out.2.2.2 (by rw [HPL.out]; omega)).mono ?_
             rintro e w9 ⟨v9, rfl, ho9, hb9⟩
             rw [HSE.out] at ho9
             have HI9 : Hid (Below w.heap.size w w9) := Lib.hid (HI8.out.2.1.trans (hb9.mono HI8.out.2.1.size))
             have hcv9 := (own_hb ho9 HPD.out).str Tryd.underlying25 Tryd.underlying5 Tryd.underlying9
             have hcd9 := (HI8.out.2.2.1.keep hb9).str Tryd.underlying25 Tryd.underlying5 Tryd.underlying9
             clear ho9 hb9 hcv8 HI8))
    go_ret
    exact ⟨rfl, HI9.out⟩
  · have hP0 := hf1 hE0
    have hm0 : m = 0 := by rw [hm2, hP0]; rfl
    subst hm0
    have hEi : ¬ (E : Int) = 0 := by omega
    clear hf1 hf2 hm2 hP0
    go_enter Tryd.func4, Tryd.ntmps4
    go_wp2_with (first
      | (go_at_call 8
         refine (awake5_any _ (HT.out.below (((Below.refl w.heap.size w).alloc (Nat.le_refl _) _).alloc (by simp) _))).mono ?_
         rintro e w1 ⟨rfl, hb1⟩
         have HI : Hid (Blk w1 w.heap.size 23 (bvs key) ∧ Blk w1 (w.heap.size + 1) 23 (bvs other) ∧ Below w.heap.size w w1 ∧ w.heap.size + 2 ≤ w1.heap.size) := Lib.hid ⟨((Blk.new w _ _).alloc _).below hb1 (by simp <;> omega), (Blk.new' (w := w.alloc _) (by simp) _ _).below hb1 (by simp), (((Below.refl w.heap.size w).alloc (Nat.le_refl _) _).alloc (by simp) _).trans (hb1.mono (by simp <;> omega)), by have := hb1.size; simpa using this⟩
         have HB1 := Lib.hid HI.out.2.2.1
         have HV1 := Lib.hid (HV.out.keep HB1.out)
         clear hb1)
      | (refine wpList_load_blk rfl 23 (.tmp 9) rfl w.heap.size 23 (bvs key) rfl HI.out.1 Tryd.underlying23 rfl (by rw [hbz]; kernel_rfl) ?_)
          | (go_at_call 9
             refine (seal_any key b kd q _ w1 (HT.out.below HB1.out) hk hq HV1.out (by have := HN.out; omega)).mono ?_
             rintro e w2 ⟨v2, rfl, ho, hb2⟩
             rw [← HS.out] at ho
             obtain ⟨gb, c1, r, rfl, hgb, hcl, hcm, hcr, hblk⟩ := own_bytes ho (by rw [HBL.out, HN.out]) (by omega)
             rw [← HN.out] at hcl hcr ⊢
             have c0 := hblk.rbyte (i := j) (by rw [HBL.out]; omega)
             have f0 := hblk.frozen j
             have HI2 : Hid (Blk w2 w.heap.size 23 (bvs key) ∧ Blk w2 (w.heap.size + 1) 23 (bvs other) ∧ Below w.heap.size w w2 ∧ Blk w2 gb 5 (bvr B r)) := Lib.hid ⟨HI.out.1.below hb2 (by have := HI.out.2.2.2; omega), HI.out.2.1.below hb2 (by have := HI.out.2.2.2; omega), HB1.out.trans (hb2.mono HB1.out.size), hblk⟩
             have HNUM : Hid (w.heap.size + 2 ≤ gb ∧ c1 = n + 41 + r.length ∧ c1 ≤ maxLen) := Lib.hid ⟨by have := HI.out.2.2.2; omega, hcr, hcm⟩
             have hcc : ¬ c1 < c := by omega
             unfold maxLen at hcm
             clear ho hb2 hgb hcr hblk HB1 HI HV1)
          | (have e5 := xor8_rule (at8 B j) x
             rw [e5]
             have hS := HI2.out.2.2.2.rbyte_store (at8 B j ^^^ x) (show j < B.length by rw [HBL.out]; omega)
             rw [← HB2.out] at hS
             have hgb := HNUM.out.1
             have HI5 : Hid (Blk (w2.setCell ⟨gb, j, none⟩ (.int .u8 ((at8 B j ^^^ x).toNat : Int))) w.heap.size 23 (bvs key) ∧ Blk (w2.setCell ⟨gb, j, none⟩ (.int .u8 ((at8 B j ^^^ x).toNat : Int))) (w.heap.size + 1) 23 (bvs other) ∧ Below w.heap.size w (w2.setCell ⟨gb, j, none⟩ (.int .u8 ((at8 B j ^^^ x).toNat : Int))) ∧ Blk (w2.setCell ⟨gb, j, none⟩ (.int .u8 ((at8 B j ^^^ x).toNat : Int))) gb 5 (bvr B2 r)) := Lib.hid ⟨HI2.out.1.other (by show w.heap.size ≠ gb; omega) _, HI2.out.2.1.other (by show w.heap.size + 1 ≠ gb; omega) _, HI2.out.2.2.1.setCell (show w.heap.size ≤ gb by omega) _, hS⟩
             generalize (w2.setCell ⟨gb, j, none⟩ (.int .u8 ((at8 B j ^^^ x).toNat : Int))) = w5 at *
             refine wpList_load_blk rfl 23 (.tmp 9) rfl w.heap.size 23 (bvs key) rfl HI5.out.1 Tryd.underlying23 rfl (by rw [hbz]; kernel_rfl) ?_
             clear HI2 c0 f0 e5 hS hgb)
          | (refine wpList_store_blk rfl 23 (.tmp 10) (.tmp 76) rfl (w.heap.size + 1) 23 _ (bvs key) rfl rfl HI5.out.2.1 (by rw [hbz, hbo]) (by rw [hbz]; kernel_rfl) (bvs_one _) ?_
             intro w6 hb6 hg6 hz6
             have hgb := HNUM.out.1
             have HI6 : Hid (Blk w6 (w.heap.size + 1) 23 (bvs key) ∧ Below w.heap.size w w6 ∧ Blk w6 gb 5 (bvr B2 r)) := Lib.hid ⟨hb6, HI5.out.2.2.1.grown hg6 HI5.out.2.2.1.size (by intro k hk; injection hk with hk; omega), HI5.out.2.2.2.grown hg6 (by intro h; injection h with h; omega)⟩
             clear hb6 hg6 hz6 hgb HI5)
          | (refine wpList_load_blk rfl 23 (.tmp 10) rfl (w.heap.size + 1) 23 (bvs key) rfl HI6.out.1 Tryd.underlying23 rfl (by rw [hbz]; kernel_rfl) ?_)
          | (go_at_call 11
             have hD6 : HB w6 (.slice (some ⟨gb, 0, none⟩) c c1) D := by
               rw [HD.out]
               exact (own_hb (own_bytes_mk (n := n + 41) (Nat.zero_le gb) HI6.out.2.2 HB2L.out.symm HNUM.out.2.1 HNUM.out.2.2) HB2L.out.symm).take (by omega)
             refine (open_any key D _ w6 (HT.out.below HI6.out.2.1) hk hD6 (by have := HDL.out; omega)).mono ?_
             rintro e w7 ⟨v7, rfl, ho, hb7⟩
             rw [← HP.out] at ho
             rw [← HK.out, ← HM.out, ← HE.out]
             obtain ⟨p7, c7, rfl, hl7, hm7⟩ := ho.form
             rw [HPL.out] at ho hl7 ⊢
             have HI7 : Hid (Blk w7 (w.heap.size + 1) 23 (bvs key) ∧ Below w.heap.size w w7 ∧ HB w7 (.slice (some ⟨gb, 0, none⟩) c c1) D ∧ HB w7 (.slice p7 0 c7) P) := Lib.hid ⟨HI6.out.1.below hb7 HI6.out.1.lt, HI6.out.2.1.trans (hb7.mono HI6.out.2.1.size), hD6.keep hb7, ho⟩
             have hcv7 := HI7.out.2.2.1.str Tryd.underlying25 Tryd.underlying5 Tryd.underlying9
             clear hD6 ho hb7 hm7 HI6)
          | (refine wpList_load_blk rfl 23 (.tmp 10) rfl (w.heap.size + 1) 23 (bvs key) rfl HI7.out.1 Tryd.underlying23 rfl (by rw [hbz]; kernel_rfl) ?_)
          | (refine wpList_load_blk rfl 23 (.tmp 10) rfl (w.heap.size + 1) 23 (bvs key) rfl HI8.out.1 Tryd.underlying23 rfl (by rw [hbz]; kernel_rfl) ?_)
          | (go_at_call 14
             refine (refOpen_any key (bs D) w7 hk (by rw [bs_size]; have := HDL.out; omega)).mono ?_
             rintro e w8 ⟨rfl, hb8⟩
             rw [sb_bs, ← HP.out, ← HK.out, ← HM.out, ← HE.out]
             have HI8 : Hid (Blk w8 (w.heap.size + 1) 23 (bvs key) ∧ Below w.heap.size w w8 ∧ HB w8 (.slice (some ⟨gb, 0, none⟩) c c1) D ∧ HB w8 (.slice p7 0 c7) P) := Lib.hid ⟨HI7.out.1.below hb8 HI7.out.1.lt, HI7.out.2.1.trans (hb8.mono HI7.out.2.1.size), HI7.out.2.2.1.keep hb8, HI7.out.2.2.2.keep hb8⟩
             have hcv8 := HI8.out.2.2.2.str Tryd.underlying25 Tryd.underlying5 Tryd.underlying9
             clear hcv7 hb8 HI7))
    go_ret
    exact ⟨rfl, HI8.out.2.1⟩


set_option maxRecDepth 100000 in
set_option maxHeartbeats 4000000 in
theorem sealOpens_se (key other b : List UInt8) (kd x : UInt8) (q a u : Nat) (v : Value) (w : World) (hT : Tabs w) (hk : key.length = 32) (hk2 : other.length = 32) (hq : q < 18446744073709551616) (ha : a < 65536) (hu : u < 65536) (hv : HB w v b) (h300 : ¬ (300 : Int) < (b.length : Int)) (hcut : u % 2 = 0) :
    Calls Tryd.prog 4 #[.agg (bvs key), .agg (bvs other), v, .int .u8 (kd.toNat : Int), .int .u64 (q : Int), .int .u16 (a : Int), .int .u8 (x.toNat : Int), .int .u16 (u : Int), .bool true] w fun e w' => e = .returned (.bool true) ∧ Below w.heap.size w w' := by
  obtain ⟨p, cap, rfl, hl, hm⟩ := hv.form
  unfold maxLen at hm
  have HV := Lib.hid hv
  clear hv
  have hkd := kd.toNat_lt
  have hbz : (bvs key).size = 32 := by rw [bvs_size]; exact hk
  have hbo : (bvs other).size = 32 := by rw [bvs_size]; exact hk2
  have HT := Lib.hid hT
  clear hT
  obtain ⟨n, hnb⟩ : ∃ n, n = b.length := ⟨_, rfl⟩
  rw [← hnb] at HV hl h300 ⊢
  have HN := Lib.hid hnb
  clear hnb
  obtain ⟨B, hB⟩ : ∃ B, B = sealS key kd q b := ⟨_, rfl⟩
  have hBl : B.length = n + 41 := by rw [hB, sealS_length, HN.out]
  obtain ⟨j, hj⟩ : ∃ j, j = a % (n + 41) := ⟨_, rfl⟩
  have hjn : j < n + 41 := by rw [hj]; exact Nat.mod_lt _ (by omega)
  have hj1 : (a : Int) % ((n : Int) + 41) = (j : Int) := by rw [hj]; simp
  have hj2 : (a : Int).tmod ((n : Int) + 41) = (j : Int) := by rw [Int.tmod_eq_emod_of_nonneg (by omega)]; exact hj1
  have hand : bits .and .u16 (u : Int) 1 = 0 := by
    have h := u16_and_nat u 1 hu (by decide)
    rw [Nat.and_one_is_mod, hcut] at h
    simpa using h
  obtain ⟨c, hc⟩ : ∃ c, c = n + 41 := ⟨_, rfl⟩
  have hcn : c ≤ n + 41 := by omega
  subst hc
  obtain ⟨B2, hB2⟩ : ∃ B2, B2 = B.set j (at8 B j ^^^ x) := ⟨_, rfl⟩
  have hB2l : B2.length = n + 41 := by rw [hB2, List.length_set]; exact hBl
  obtain ⟨D, hD⟩ : ∃ D, D = B2.take (n + 41) := ⟨_, rfl⟩
  have hDl : D.length ≤ 341 := by rw [hD, List.length_take, hB2l]; omega
  obtain ⟨hf1, hf2, hf3, hf4⟩ := open_facts key D
  obtain ⟨P, hP⟩ : ∃ P, P = (openS key D).1 := ⟨_, rfl⟩
  obtain ⟨KK, hKK⟩ : ∃ KK, KK = (openS key D).2.1 := ⟨_, rfl⟩
  obtain ⟨M, hM⟩ : ∃ M, M = (openS key D).2.2.1 := ⟨_, rfl⟩
  obtain ⟨E, hE⟩ : ∃ E, E = (openS key D).2.2.2 := ⟨_, rfl⟩
  rw [← hP, ← hE] at hf1
  rw [← hE, ← hP, ← hKK, ← hM] at hf2
  rw [← hM] at hf3
  rw [← hP] at hf4
  obtain ⟨m, hm2⟩ : ∃ m, m = P.length := ⟨_, rfl⟩
  have hm3 : m ≤ 341 := by omega
  have hkk := KK.toNat_lt
  have HBL := Lib.hid hBl
  have HB2 := Lib.hid hB2
  have HB2L := Lib.hid hB2l
  have HD := Lib.hid hD
  have HDL := Lib.hid hDl
  have HS := Lib.hid hB
  have HP := Lib.hid hP
  have HPL := Lib.hid hm2.symm
  have HK := Lib.hid hKK
  have HM := Lib.hid hM
  have HE := Lib.hid hE
  have HM64 := Lib.hid hf3
  clear hB hBl hB2 hB2l hD hDl hP hKK hM hE hj hf4
  by_cases hE0 : E = 0
  · have HSE := Lib.hid (hf2 hE0)
    have HPD : Hid (P.length + 41 = D.length) := Lib.hid (by rw [← hf2 hE0, sealS_length])
    clear hf1 hf2 hm2
    subst hE0
    go_enter Tryd.func4, Tryd.ntmps4
    go_wp2_with (first
      | (go_at_call 8
         refine (awake5_any _ (HT.out.below (((Below.refl w.heap.size w).alloc (Nat.le_refl _) _).alloc (by simp) _))).mono ?_
         rintro e w1 ⟨rfl, hb1⟩
         have HI : Hid (Blk w1 w.heap.size 23 (bvs key) ∧ Blk w1 (w.heap.size + 1) 23 (bvs other) ∧ Below w.heap.size w w1 ∧ w.heap.size + 2 ≤ w1.heap.size) := Lib.hid ⟨((Blk.new w _ _).alloc _).below hb1 (by simp <;> omega), (Blk.new' (w := w.alloc _) (by simp) _ _).below hb1 (by simp), (((Below.refl w.heap.size w).alloc (Nat.le_refl _) _).alloc (by simp) _).trans (hb1.mono (by simp <;> omega)), by have := hb1.size; simpa using this⟩
         have HB1 := Lib.hid HI.out.2.2.1
         have HV1 := Lib.hid (HV.out.keep HB1.out)
         clear hb1)
      | (refine wpList_load_blk rfl 23 (.tmp 9) rfl w.heap.size 23 (bvs key) rfl HI.out.1 Tryd.underlying23 rfl (by rw [hbz]; kernel_rfl) ?_)
          | (go_at_call 9
             refine (seal_any key b kd q _ w1 (HT.out.below HB1.out) hk hq HV1.out (by have := HN.out; omega)).mono ?_
             rintro e w2 ⟨v2, rfl, ho, hb2⟩
             rw [← HS.out] at ho
             obtain ⟨gb, c1, r, rfl, hgb, hcl, hcm, hcr, hblk⟩ := own_bytes ho (by rw [HBL.out, HN.out]) (by omega)
             rw [← HN.out] at hcl hcr ⊢
             have c0 := hblk.rbyte (i := j) (by rw [HBL.out]; omega)
             have f0 := hblk.frozen j
             have HI2 : Hid (Blk w2 w.heap.size 23 (bvs key) ∧ Blk w2 (w.heap.size + 1) 23 (bvs other) ∧ Below w.heap.size w w2 ∧ Blk w2 gb 5 (bvr B r)) := Lib.hid ⟨HI.out.1.below hb2 (by have := HI.out.2.2.2; omega), HI.out.2.1.below hb2 (by have := HI.out.2.2.2; omega), HB1.out.trans (hb2.mono HB1.out.size), hblk⟩
             have HNUM : Hid (w.heap.size + 2 ≤ gb ∧ c1 = n + 41 + r.length ∧ c1 ≤ maxLen) := Lib.hid ⟨by have := HI.out.2.2.2; omega, hcr, hcm⟩
             have hcc : ¬ c1 < n + 41 := by omega
             unfold maxLen at hcm
             clear ho hb2 hgb hcr hblk HB1 HI HV1)
          | (have e5 := xor8_rule (at8 B j) x
             rw [e5]
             have hS := HI2.out.2.2.2.rbyte_store (at8 B j ^^^ x) (show j < B.length by rw [HBL.out]; omega)
             rw [← HB2.out] at hS
             have hgb := HNUM.out.1
             have HI5 : Hid (Blk (w2.setCell ⟨gb, j, none⟩ (.int .u8 ((at8 B j ^^^ x).toNat : Int))) w.heap.size 23 (bvs key) ∧ Blk (w2.setCell ⟨gb, j, none⟩ (.int .u8 ((at8 B j ^^^ x).toNat : Int))) (w.heap.size + 1) 23 (bvs other) ∧ Below w.heap.size w (w2.setCell ⟨gb, j, none⟩ (.int .u8 ((at8 B j ^^^ x).toNat : Int))) ∧ Blk (w2.setCell ⟨gb, j, none⟩ (.int .u8 ((at8 B j ^^^ x).toNat : Int))) gb 5 (bvr B2 r)) := Lib.hid ⟨HI2.out.1.other (by show w.heap.size ≠ gb; omega) _, HI2.out.2.1.other (by show w.heap.size + 1 ≠ gb; omega) _, HI2.out.2.2.1.setCell (show w.heap.size ≤ gb by omega) _, hS⟩
             generalize (w2.setCell ⟨gb, j, none⟩ (.int .u8 ((at8 B j ^^^ x).toNat : Int))) = w5 at *
             refine wpList_load_blk rfl 23 (.tmp 9) rfl w.heap.size 23 (bvs key) rfl HI5.out.1 Tryd.underlying23 rfl (by rw [hbz]; kernel_rfl) ?_
             clear HI2 c0 f0 e5 hS hgb)
          | (refine wpList_store_blk rfl 23 (.tmp 10) (.tmp 76) rfl (w.heap.size + 1) 23 _ (bvs key) rfl rfl HI5.out.2.1 (by rw [hbz, hbo]) (by rw [hbz]; kernel_rfl) (bvs_one _) ?_
             intro w6 hb6 hg6 hz6
             have hgb := HNUM.out.1
             have HI6 : Hid (Blk w6 (w.heap.size + 1) 23 (bvs key) ∧ Below w.heap.size w w6 ∧ Blk w6 gb 5 (bvr B2 r)) := Lib.hid ⟨hb6, HI5.out.2.2.1.grown hg6 HI5.out.2.2.1.size (by intro k hk; injection hk with hk; omega), HI5.out.2.2.2.grown hg6 (by intro h; injection h with h; omega)⟩
             clear hb6 hg6 hz6 hgb HI5)
          | (refine wpList_load_blk rfl 23 (.tmp 10) rfl (w.heap.size + 1) 23 (bvs key) rfl HI6.out.1 Tryd.underlying23 rfl (by rw [hbz]; kernel_rfl) ?_)
          | (go_at_call 11
             have hD6 : HB w6 (.slice (some ⟨gb, 0, none⟩) (n + 41) c1) D := by
               rw [HD.out]
               exact (own_hb (own_bytes_mk (n := n + 41) (Nat.zero_le gb) HI6.out.2.2 HB2L.out.symm HNUM.out.2.1 HNUM.out.2.2) HB2L.out.symm).take (by omega)
             refine (open_any key D _ w6 (HT.out.below HI6.out.2.1) hk hD6 (by have := HDL.out; omega)).mono ?_
             rintro e w7 ⟨v7, rfl, ho, hb7⟩
             rw [← HP.out] at ho
             rw [← HK.out, ← HM.out, ← HE.out]
             obtain ⟨p7, c7, rfl, hl7, hm7⟩ := ho.form
             rw [HPL.out] at ho hl7 ⊢
             have HI7 : Hid (Blk w7 (w.heap.size + 1) 23 (bvs key) ∧ Below w.heap.size w w7 ∧ HB w7 (.slice (some ⟨gb, 0, none⟩) (n + 41) c1) D ∧ HB w7 (.slice p7 m c7) P) := Lib.hid ⟨HI6.out.1.below hb7 HI6.out.1.lt, HI6.out.2.1.trans (hb7.mono HI6.out.2.1.size), hD6.keep hb7, ho⟩
             have hcv7 := HI7.out.2.2.1.str Tryd.underlying25 Tryd.underlying5 Tryd.underlying9
             clear hD6 ho hb7 hm7 HI6)
          | (refine wpList_load_blk rfl 23 (.tmp 10) rfl (w.heap.size + 1) 23 (bvs key) rfl HI7.out.1 Tryd.underlying23 rfl (by rw [hbz]; kernel_rfl) ?_)
          | (refine wpList_load_blk rfl 23 (.tmp 10) rfl (w.heap.size + 1) 23 (bvs key) rfl HI8.out.1 Tryd.underlying23 rfl (by rw [hbz]; kernel_rfl) ?_)
          | (go_at_call 14
             refine (refOpen_any key (bs D) w7 hk (by rw [bs_size]; have := HDL.out; omega)).mono ?_
             rintro e w8 ⟨rfl, hb8⟩
             rw [sb_bs, ← HP.out, ← HK.out, ← HM.out, ← HE.out]
             have HI8 : Hid (Blk w8 (w.heap.size + 1) 23 (bvs key) ∧ Below w.heap.size w w8 ∧ HB w8 (.slice (some ⟨gb, 0, none⟩) (n + 41) c1) D ∧ HB w8 (.slice p7 m c7) P) := Lib.hid ⟨HI7.out.1.below hb8 HI7.out.1.lt, HI7.out.2.1.trans (hb8.mono HI7.out.2.1.size), HI7.out.2.2.1.keep hb8, HI7.out.2.2.2.keep hb8⟩
             have hcv8 := HI8.out.2.2.2.str Tryd.underlying25 Tryd.underlying5 Tryd.underlying9
             clear hcv7 hb8 HI7)
          | (go_at_call 9
             refine (seal_any key P KK M _ w8 (HT.out.below HI8.out.2.1) hk HM64.out HI8.out.2.2.2 (by rw [HPL.out]; omega)).mono ?_
             rintro e w9 ⟨v9, rfl, ho9, hb9⟩
             rw [HSE.out] at ho9
             have HI9 : Hid (Below w.heap.size w w9) := Lib.hid (HI8.out.2.1.trans (hb9.mono HI8.out.2.1.size))
             have hcv9 := (own_hb ho9 HPD.out).str Tryd.underlying25 Tryd.underlying5 Tryd.underlying9
             have hcd9 := (HI8.out.2.2.1.keep hb9).str Tryd.underlying25 Tryd.underlying5 Tryd.underlying9
             clear ho9 hb9 hcv8 HI8))
    go_ret
    exact ⟨rfl, HI9.out⟩
  · have hP0 := hf1 hE0
    have hm0 : m = 0 := by rw [hm2, hP0]; rfl
    subst hm0
    have hEi : ¬ (E : Int) = 0 := by omega
    clear hf1 hf2 hm2 hP0
    go_enter Tryd.func4, Tryd.ntmps4
    go_wp2_with (first
      | (go_at_call 8
         refine (awake5_any _ (HT.out.below (((Below.refl w.heap.size w).alloc (Nat.le_refl _) _).alloc (by simp) _))).mono ?_
         rintro e w1 ⟨rfl, hb1⟩
         have HI : Hid (Blk w1 w.heap.size 23 (bvs key) ∧ Blk w1 (w.heap.size + 1) 23 (bvs other) ∧ Below w.heap.size w w1 ∧ w.heap.size + 2 ≤ w1.heap.size) := Lib.hid ⟨((Blk.new w _ _).alloc _).below hb1 (by simp <;> omega), (Blk.new' (w := w.alloc _) (by simp) _ _).below hb1 (by simp), (((Below.refl w.heap.size w).alloc (Nat.le_refl _) _).alloc (by simp) _).trans (hb1.mono (by simp <;> omega)), by have := hb1.size; simpa using this⟩
         have HB1 := Lib.hid HI.out.2.2.1
         have HV1 := Lib.hid (HV.out.keep HB1.out)
         clear hb1)
      | (refine wpList_load_blk rfl 23 (.tmp 9) rfl w.heap.size 23 (bvs key) rfl HI.out.1 Tryd.underlying23 rfl (by rw [hbz]; kernel_rfl) ?_)
          | (go_at_call 9
             refine (seal_any key b kd q _ w1 (HT.out.below HB1.out) hk hq HV1.out (by have := HN.out; omega)).mono ?_
             rintro e w2 ⟨v2, rfl, ho, hb2⟩
             rw [← HS.out] at ho
             obtain ⟨gb, c1, r, rfl, hgb, hcl, hcm, hcr, hblk⟩ := own_bytes ho (by rw [HBL.out, HN.out]) (by omega)
             rw [← HN.out] at hcl hcr ⊢
             have c0 := hblk.rbyte (i := j) (by rw [HBL.out]; omega)
             have f0 := hblk.frozen j
             have HI2 : Hid (Blk w2 w.heap.size 23 (bvs key) ∧ Blk w2 (w.heap.size + 1) 23 (bvs other) ∧ Below w.heap.size w w2 ∧ Blk w2 gb 5 (bvr B r)) := Lib.hid ⟨HI.out.1.below hb2 (by have := HI.out.2.2.2; omega), HI.out.2.1.below hb2 (by have := HI.out.2.2.2; omega), HB1.out.trans (hb2.mono HB1.out.size), hblk⟩
             have HNUM : Hid (w.heap.size + 2 ≤ gb ∧ c1 = n + 41 + r.length ∧ c1 ≤ maxLen) := Lib.hid ⟨by have := HI.out.2.2.2; omega, hcr, hcm⟩
             have hcc : ¬ c1 < n + 41 := by omega
             unfold maxLen at hcm
             clear ho hb2 hgb hcr hblk HB1 HI HV1)
          | (have e5 := xor8_rule (at8 B j) x
             rw [e5]
             have hS := HI2.out.2.2.2.rbyte_store (at8 B j ^^^ x) (show j < B.length by rw [HBL.out]; omega)
             rw [← HB2.out] at hS
             have hgb := HNUM.out.1
             have HI5 : Hid (Blk (w2.setCell ⟨gb, j, none⟩ (.int .u8 ((at8 B j ^^^ x).toNat : Int))) w.heap.size 23 (bvs key) ∧ Blk (w2.setCell ⟨gb, j, none⟩ (.int .u8 ((at8 B j ^^^ x).toNat : Int))) (w.heap.size + 1) 23 (bvs other) ∧ Below w.heap.size w (w2.setCell ⟨gb, j, none⟩ (.int .u8 ((at8 B j ^^^ x).toNat : Int))) ∧ Blk (w2.setCell ⟨gb, j, none⟩ (.int .u8 ((at8 B j ^^^ x).toNat : Int))) gb 5 (bvr B2 r)) := Lib.hid ⟨HI2.out.1.other (by show w.heap.size ≠ gb; omega) _, HI2.out.2.1.other (by show w.heap.size + 1 ≠ gb; omega) _, HI2.out.2.2.1.setCell (show w.heap.size ≤ gb by omega) _, hS⟩
             generalize (w2.setCell ⟨gb, j, none⟩ (.int .u8 ((at8 B j ^^^ x).toNat : Int))) = w5 at *
             refine wpList_load_blk rfl 23 (.tmp 9) rfl w.heap.size 23 (bvs key) rfl HI5.out.1 Tryd.underlying23 rfl (by rw [hbz]; kernel_rfl) ?_
             clear HI2 c0 f0 e5 hS hgb)
          | (refine wpList_store_blk rfl 23 (.tmp 10) (.tmp 76) rfl (w.heap.size + 1) 23 _ (bvs key) rfl rfl HI5.out.2.1 (by rw [hbz, hbo]) (by rw [hbz]; kernel_rfl) (bvs_one _) ?_
             intro w6 hb6 hg6 hz6
             have hgb := HNUM.out.1
             have HI6 : Hid (Blk w6 (w.heap.size + 1) 23 (bvs key) ∧ Below w.heap.size w w6 ∧ Blk w6 gb 5 (bvr B2 r)) := Lib.hid ⟨hb6, HI5.out.2.2.1.grown hg6 HI5.out.2.2.1.size (by intro k hk; injection hk with hk; omega), HI5.out.2.2.2.grown hg6 (by intro h; injection h with h; omega)⟩
             clear hb6 hg6 hz6 hgb HI5)
          | (refine wpList_load_blk rfl 23 (.tmp 10) rfl (w.heap.size + 1) 23 (bvs key) rfl HI6.out.1 Tryd.underlying23 rfl (by rw [hbz]; kernel_rfl) ?_)
          | (go_at_call 11
             have hD6 : HB w6 (.slice (some ⟨gb, 0, none⟩) (n + 41) c1) D := by
               rw [HD.out]
               exact (own_hb (own_bytes_mk (n := n + 41) (Nat.zero_le gb) HI6.out.2.2 HB2L.out.symm HNUM.out.2.1 HNUM.out.2.2) HB2L.out.symm).take (by omega)
             refine (open_any key D _ w6 (HT.out.below HI6.out.2.1) hk hD6 (by have := HDL.out; omega)).mono ?_
             rintro e w7 ⟨v7, rfl, ho, hb7⟩
             rw [← HP.out] at ho
             rw [← HK.out, ← HM.out, ← HE.out]
             obtain ⟨p7, c7, rfl, hl7, hm7⟩ := ho.form
             rw [HPL.out] at ho hl7 ⊢
             have HI7 : Hid (Blk w7 (w.heap.size + 1) 23 (bvs key) ∧ Below w.heap.size w w7 ∧ HB w7 (.slice (some ⟨gb, 0, none⟩) (n + 41) c1) D ∧ HB w7 (.slice p7 0 c7) P) := Lib.hid ⟨HI6.out.1.below hb7 HI6.out.1.lt, HI6.out.2.1.trans (hb7.mono HI6.out.2.1.size), hD6.keep hb7, ho⟩
             have hcv7 := HI7.out.2.2.1.str Tryd.underlying25 Tryd.underlying5 Tryd.underlying9
             clear hD6 ho hb7 hm7 HI6)
          | (refine wpList_load_blk rfl 23 (.tmp 10) rfl (w.heap.size + 1) 23 (bvs key) rfl HI7.out.1 Tryd.underlying23 rfl (by rw [hbz]; kernel_rfl) ?_)
          | (refine wpList_load_blk rfl 23 (.tmp 10) rfl (w.heap.size + 1) 23 (bvs key) rfl HI8.out.1 Tryd.underlying23 rfl (by rw [hbz]; kernel_rfl) ?_)
          | (go_at_call 14
             refine (refOpen_any key (bs D) w7 hk (by rw [bs_size]; have := HDL.out; omega)).mono ?_
             rintro e w8 ⟨rfl, hb8⟩
             rw [sb_bs, ← HP.out, ← HK.out, ← HM.out, ← HE.out]
             have HI8 : Hid (Blk w8 (w.heap.size + 1) 23 (bvs key) ∧ Below w.heap.size w w8 ∧ HB w8 (.slice (some ⟨gb, 0, none⟩) (n + 41) c1) D ∧ HB w8 (.slice p7 0 c7) P) := Lib.hid ⟨HI7.out.1.below hb8 HI7.out.1.lt, HI7.out.2.1.trans (hb8.mono HI7.out.2.1.size), HI7.out.2.2.1.keep hb8, HI7.out.2.2.2.keep hb8⟩
             have hcv8 := HI8.out.2.2.2.str Tryd.underlying25 Tryd.underlying5 Tryd.underlying9
             clear hcv7 hb8 HI7))
    go_ret
    exact ⟨rfl, HI8.out.2.1⟩


set_option maxRecDepth 100000 in
set_option maxHeartbeats 4000000 in
theorem sealOpens_do (key other b : List UInt8) (kd x : UInt8) (q a u : Nat) (v : Value) (w : World) (hT : Tabs w) (hk : key.length = 32) (hk2 : other.length = 32) (hq : q < 18446744073709551616) (ha : a < 65536) (hu : u < 65536) (hv : HB w v b) (h300 : ¬ (300 : Int) < (b.length : Int)) (hcut : u % 2 = 1) :
    Calls Tryd.prog 4 #[.agg (bvs key), .agg (bvs other), v, .int .u8 (kd.toNat : Int), .int .u64 (q : Int), .int .u16 (a : Int), .int .u8 (x.toNat : Int), .int .u16 (u : Int), .bool false] w fun e w' => e = .returned (.bool true) ∧ Below w.heap.size w w' := by
  obtain ⟨p, cap, rfl, hl, hm⟩ := hv.form
  unfold maxLen at hm
  have HV := Lib.hid hv
  clear hv
  have hkd := kd.toNat_lt
  have hbz : (bvs key).size = 32 := by rw [bvs_size]; exact hk
  have hbo : (bvs other).size = 32 := by rw [bvs_size]; exact hk2
  have HT := Lib.hid hT
  clear hT
  obtain ⟨n, hnb⟩ : ∃ n, n = b.length := ⟨_, rfl⟩
  rw [← hnb] at HV hl h300 ⊢
  have HN := Lib.hid hnb
  clear hnb
  obtain ⟨B, hB⟩ : ∃ B, B = sealS key kd q b := ⟨_, rfl⟩
  have hBl : B.length = n + 41 := by rw [hB, sealS_length, HN.out]
  obtain ⟨j, hj⟩ : ∃ j, j = a % (n + 41) := ⟨_, rfl⟩
  have hjn : j < n + 41 := by rw [hj]; exact Nat.mod_lt _ (by omega)
  have hj1 : (a : Int) % ((n : Int) + 41) = (j : Int) := by rw [hj]; simp
  have hj2 : (a : Int).tmod ((n : Int) + 41) = (j : Int) := by rw [Int.tmod_eq_emod_of_nonneg (by omega)]; exact hj1
  have hand : bits .and .u16 (u : Int) 1 = 1 := by
    have h := u16_and_nat u 1 hu (by decide)
    rw [Nat.and_one_is_mod, hcut] at h
    simpa using h
  obtain ⟨c, hc⟩ : ∃ c, c = u / 2 % (n + 41) := ⟨_, rfl⟩
  have hcn : c ≤ n + 41 := by have := Nat.mod_lt (u / 2) (show 0 < n + 41 by omega); omega
  have hc1 : ((u : Int) / 2) % ((n : Int) + 41) = (c : Int) := by rw [hc]; simp
  have hc2 : ((u : Int) / 2).tmod ((n : Int) + 41) = (c : Int) := by rw [Int.tmod_eq_emod_of_nonneg (by omega)]; exact hc1
  clear hc
  obtain ⟨B2, hB2⟩ : ∃ B2, B2 = B.set j (at8 B j ^^^ x) := ⟨_, rfl⟩
  have hB2l : B2.length = n + 41 := by rw [hB2, List.length_set]; exact hBl
  obtain ⟨D, hD⟩ : ∃ D, D = B2.take (c) := ⟨_, rfl⟩
  have hDl : D.length ≤ 341 := by rw [hD, List.length_take, hB2l]; omega
  obtain ⟨hf1, hf2, hf3, hf4⟩ := open_facts other D
  obtain ⟨P, hP⟩ : ∃ P, P = (openS other D).1 := ⟨_, rfl⟩
  obtain ⟨KK, hKK⟩ : ∃ KK, KK = (openS other D).2.1 := ⟨_, rfl⟩
  obtain ⟨M, hM⟩ : ∃ M, M = (openS other D).2.2.1 := ⟨_, rfl⟩
  obtain ⟨E, hE⟩ : ∃ E, E = (openS other D).2.2.2 := ⟨_, rfl⟩
  rw [← hP, ← hE] at hf1
  rw [← hE, ← hP, ← hKK, ← hM] at hf2
  rw [← hM] at hf3
  rw [← hP] at hf4
  obtain ⟨m, hm2⟩ : ∃ m, m = P.length := ⟨_, rfl⟩
  have hm3 : m ≤ 341 := by omega
  have hkk := KK.toNat_lt
  have HBL := Lib.hid hBl
  have HB2 := Lib.hid hB2
  have HB2L := Lib.hid hB2l
  have HD := Lib.hid hD
  have HDL := Lib.hid hDl
  have HS := Lib.hid hB
  have HP := Lib.hid hP
  have HPL := Lib.hid hm2.symm
  have HK := Lib.hid hKK
  have HM := Lib.hid hM
  have HE := Lib.hid hE
  have HM64 := Lib.hid hf3
  clear hB hBl hB2 hB2l hD hDl hP hKK hM hE hj hf4
  by_cases hE0 : E = 0
  · have HSE := Lib.hid (hf2 hE0)
    have HPD : Hid (P.length + 41 = D.length) := Lib.hid (by rw [← hf2 hE0, sealS_length])
    clear hf1 hf2 hm2
    subst hE0
    go_enter Tryd.func4, Tryd.ntmps4
    go_wp2_with (first
      | (go_at_call 8
         refine (awake5_any _ (HT.out.below (((Below.refl w.heap.size w).alloc (Nat.le_refl _) _).alloc (by simp) _))).mono ?_
         rintro e w1 ⟨rfl, hb1⟩
         have HI : Hid (Blk w1 w.heap.size 23 (bvs key) ∧ Blk w1 (w.heap.size + 1) 23 (bvs other) ∧ Below w.heap.size w w1 ∧ w.heap.size + 2 ≤ w1.heap.size) := Lib.hid ⟨((Blk.new w _ _).alloc _).below hb1 (by simp <;> omega), (Blk.new' (w := w.alloc _) (by simp) _ _).below hb1 (by simp), (((Below.refl w.heap.size w).alloc (Nat.le_refl _) _).alloc (by simp) _).trans (hb1.mono (by simp <;> omega)), by have := hb1.size; simpa using this⟩
         have HB1 := Lib.hid HI.out.2.2.1
         have HV1 := Lib.hid (HV.out.keep HB1.out)
         clear hb1)
      | (refine wpList_load_blk rfl 23 (.tmp 9) rfl w.heap.size 23 (bvs key) rfl HI.out.1 Tryd.underlying23 rfl (by rw [hbz]; kernel_rfl) ?_)
          | (go_at_call 9
             refine (seal_any key b kd q _ w1 (HT.out.below HB1.out) hk hq HV1.out (by have := HN.out; omega)).mono ?_
             rintro e w2 ⟨v2, rfl, ho, hb2⟩
             rw [← HS.out] at ho
             obtain ⟨gb, c1, r, rfl, hgb, hcl, hcm, hcr, hblk⟩ := own_bytes ho (by rw [HBL.out, HN.out]) (by omega)
             rw [← HN.out] at hcl hcr ⊢
             have c0 := hblk.rbyte (i := j) (by rw [HBL.out]; omega)
             have f0 := hblk.frozen j
             have HI2 : Hid (Blk w2 w.heap.size 23 (bvs key) ∧ Blk w2 (w.heap.size + 1) 23 (bvs other) ∧ Below w.heap.size w w2 ∧ Blk w2 gb 5 (bvr B r)) := Lib.hid ⟨HI.out.1.below hb2 (by have := HI.out.2.2.2; omega), HI.out.2.1.below hb2 (by have := HI.out.2.2.2; omega), HB1.out.trans (hb2.mono HB1.out.size), hblk⟩
             have HNUM : Hid (w.heap.size + 2 ≤ gb ∧ c1 = n + 41 + r.length ∧ c1 ≤ maxLen) := Lib.hid ⟨by have := HI.out.2.2.2; omega, hcr, hcm⟩
             have hcc : ¬ c1 < c := by omega
             unfold maxLen at hcm
             clear ho hb2 hgb hcr hblk HB1 HI HV1)
          | (have e5 := xor8_rule (at8 B j) x
             rw [e5]
             have hS := HI2.out.2.2.2.rbyte_store (at8 B j ^^^ x) (show j < B.length by rw [HBL.out]; omega)
             rw [← HB2.out] at hS
             have hgb := HNUM.out.1
             have HI5 : Hid (Blk (w2.setCell ⟨gb, j, none⟩ (.int .u8 ((at8 B j ^^^ x).toNat : Int))) w.heap.size 23 (bvs key) ∧ Blk (w2.setCell ⟨gb, j, none⟩ (.int .u8 ((at8 B j ^^^ x).toNat : Int))) (w.heap.size + 1) 23 (bvs other) ∧ Below w.heap.size w (w2.setCell ⟨gb, j, none⟩ (.int .u8 ((at8 B j ^^^ x).toNat : Int))) ∧ Blk (w2.setCell ⟨gb, j, none⟩ (.int .u8 ((at8 B j ^^^ x).toNat : Int))) gb 5 (bvr B2 r)) := Lib.hid ⟨HI2.out.1.other (by show w.heap.size ≠ gb; omega) _, HI2.out.2.1.other (by show w.heap.size + 1 ≠ gb; omega) _, HI2.out.2.2.1.setCell (show w.heap.size ≤ gb by omega) _, hS⟩
             generalize (w2.setCell ⟨gb, j, none⟩ (.int .u8 ((at8 B j ^^^ x).toNat : Int))) = w6 at *
             have HI6 : Hid (Blk w6 (w.heap.size + 1) 23 (bvs other) ∧ Below w.heap.size w w6 ∧ Blk w6 gb 5 (bvr B2 r)) := Lib.hid ⟨HI5.out.2.1, HI5.out.2.2.1, HI5.out.2.2.2⟩
             refine wpList_load_blk rfl 23 (.tmp 10) rfl (w.heap.size + 1) 23 (bvs other) rfl HI6.out.1 Tryd.underlying23 rfl (by rw [hbo]; kernel_rfl) ?_
             clear HI2 c0 f0 e5 hS hgb HI5)
          | (go_at_call 11
             have hD6 : HB w6 (.slice (some ⟨gb, 0, none⟩) c c1) D := by
               rw [HD.out]
               exact (own_hb (own_bytes_mk (n := n + 41) (Nat.zero_le gb) HI6.out.2.2 HB2L.out.symm HNUM.out.2.1 HNUM.out.2.2) HB2L.out.symm).take (by omega)
             refine (open_any other D _ w6 (HT.out.below HI6.out.2.1) hk2 hD6 (by have := HDL.out; omega)).mono ?_
             rintro e w7 ⟨v7, rfl, ho, hb7⟩
             rw [← HP.out] at ho
             rw [← HK.out, ← HM.out, ← HE.out]
             obtain ⟨p7, c7, rfl, hl7, hm7⟩ := ho.form
             rw [HPL.out] at ho hl7 ⊢
             have HI7 : Hid (Blk w7 (w.heap.size + 1) 23 (bvs other) ∧ Below w.heap.size w w7 ∧ HB w7 (.slice (some ⟨gb, 0, none⟩) c c1) D ∧ HB w7 (.slice p7 m c7) P) := Lib.hid ⟨HI6.out.1.below hb7 HI6.out.1.lt, HI6.out.2.1.trans (hb7.mono HI6.out.2.1.size), hD6.keep hb7, ho⟩
             have hcv7 := HI7.out.2.2.1.str Tryd.underlying25 Tryd.underlying5 Tryd.underlying9
             clear hD6 ho hb7 hm7 HI6)
          | (refine wpList_load_blk rfl 23 (.tmp 10) rfl (w.heap.size + 1) 23 (bvs other) rfl HI7.out.1 Tryd.underlying23 rfl (by rw [hbo]; kernel_rfl) ?_)
          | (refine wpList_load_blk rfl 23 (.tmp 10) rfl (w.heap.size + 1) 23 (bvs other) rfl HI8.out.1 Tryd.underlying23 rfl (by rw [hbo]; kernel_rfl) ?_)
          | (go_at_call 14
             refine (refOpen_any other (bs D) w7 hk2 (by rw [bs_size]; have := HDL.out; omega)).mono ?_
             rintro e w8 ⟨rfl, hb8⟩
             rw [sb_bs, ← HP.out, ← HK.out, ← HM.out, ← HE.out]
             have HI8 : Hid (Blk w8 (w.heap.size + 1) 23 (bvs other) ∧ Below w.heap.size w w8 ∧ HB w8 (.slice (some ⟨gb, 0, none⟩) c c1) D ∧ HB w8 (.slice p7 m c7) P) := Lib.hid ⟨HI7.out.1.below hb8 HI7.out.1.lt, HI7.out.2.1.trans (hb8.mono HI7.out.2.1.size), HI7.out.2.2.1.keep hb8, HI7.out.2.2.2.keep hb8⟩
             have hcv8 := HI8.out.2.2.2.str Tryd.underlying25 Tryd.underlying5 Tryd.underlying9
             clear hcv7 hb8 HI7)
          | (go_at_call 9
             refine (seal_any other P KK M _ w8 (HT.out.below HI8.out.2.1) hk2 HM64.out HI8.out.2.2.2 (by rw [HPL.out]; omega)).mono ?_
             rintro e w9 ⟨v9, rfl, ho9, hb9⟩
             rw [HSE.out] at ho9
             have HI9 : Hid (Below w.heap.size w w9) := Lib.hid (HI8.out.2.1.trans (hb9.mono HI8.out.2.1.size))
             have hcv9 := (own_hb ho9 HPD.out).str Tryd.underlying25 Tryd.underlying5 Tryd.underlying9
             have hcd9 := (HI8.out.2.2.1.keep hb9).str Tryd.underlying25 Tryd.underlying5 Tryd.underlying9
             clear ho9 hb9 hcv8 HI8))
    go_ret
    exact ⟨rfl, HI9.out⟩
  · have hP0 := hf1 hE0
    have hm0 : m = 0 := by rw [hm2, hP0]; rfl
    subst hm0
    have hEi : ¬ (E : Int) = 0 := by omega
    clear hf1 hf2 hm2 hP0
    go_enter Tryd.func4, Tryd.ntmps4
    go_wp2_with (first
      | (go_at_call 8
         refine (awake5_any _ (HT.out.below (((Below.refl w.heap.size w).alloc (Nat.le_refl _) _).alloc (by simp) _))).mono ?_
         rintro e w1 ⟨rfl, hb1⟩
         have HI : Hid (Blk w1 w.heap.size 23 (bvs key) ∧ Blk w1 (w.heap.size + 1) 23 (bvs other) ∧ Below w.heap.size w w1 ∧ w.heap.size + 2 ≤ w1.heap.size) := Lib.hid ⟨((Blk.new w _ _).alloc _).below hb1 (by simp <;> omega), (Blk.new' (w := w.alloc _) (by simp) _ _).below hb1 (by simp), (((Below.refl w.heap.size w).alloc (Nat.le_refl _) _).alloc (by simp) _).trans (hb1.mono (by simp <;> omega)), by have := hb1.size; simpa using this⟩
         have HB1 := Lib.hid HI.out.2.2.1
         have HV1 := Lib.hid (HV.out.keep HB1.out)
         clear hb1)
      | (refine wpList_load_blk rfl 23 (.tmp 9) rfl w.heap.size 23 (bvs key) rfl HI.out.1 Tryd.underlying23 rfl (by rw [hbz]; kernel_rfl) ?_)
          | (go_at_call 9
             refine (seal_any key b kd q _ w1 (HT.out.below HB1.out) hk hq HV1.out (by have := HN.out; omega)).mono ?_
             rintro e w2 ⟨v2, rfl, ho, hb2⟩
             rw [← HS.out] at ho
             obtain ⟨gb, c1, r, rfl, hgb, hcl, hcm, hcr, hblk⟩ := own_bytes ho (by rw [HBL.out, HN.out]) (by omega)
             rw [← HN.out] at hcl hcr ⊢
             have c0 := hblk.rbyte (i := j) (by rw [HBL.out]; omega)
             have f0 := hblk.frozen j
             have HI2 : Hid (Blk w2 w.heap.size 23 (bvs key) ∧ Blk w2 (w.heap.size + 1) 23 (bvs other) ∧ Below w.heap.size w w2 ∧ Blk w2 gb 5 (bvr B r)) := Lib.hid ⟨HI.out.1.below hb2 (by have := HI.out.2.2.2; omega), HI.out.2.1.below hb2 (by have := HI.out.2.2.2; omega), HB1.out.trans (hb2.mono HB1.out.size), hblk⟩
             have HNUM : Hid (w.heap.size + 2 ≤ gb ∧ c1 = n + 41 + r.length ∧ c1 ≤ maxLen) := Lib.hid ⟨by have := HI.out.2.2.2; omega, hcr, hcm⟩
             have hcc : ¬ c1 < c := by omega
             unfold maxLen at hcm
             clear ho hb2 hgb hcr hblk HB1 HI HV1)
          | (have e5 := xor8_rule (at8 B j) x
             rw [e5]
             have hS := HI2.out.2.2.2.rbyte_store (at8 B j ^^^ x) (show j < B.length by rw [HBL.out]; omega)
             rw [← HB2.out] at hS
             have hgb := HNUM.out.1
             have HI5 : Hid (Blk (w2.setCell ⟨gb, j, none⟩ (.int .u8 ((at8 B j ^^^ x).toNat : Int))) w.heap.size 23 (bvs key) ∧ Blk (w2.setCell ⟨gb, j, none⟩ (.int .u8 ((at8 B j ^^^ x).toNat : Int))) (w.heap.size + 1) 23 (bvs other) ∧ Below w.heap.size w (w2.setCell ⟨gb, j, none⟩ (.int .u8 ((at8 B j ^^^ x).toNat : Int))) ∧ Blk (w2.setCell ⟨gb, j, none⟩ (.int .u8 ((at8 B j ^^^ x).toNat : Int))) gb 5 (bvr B2 r)) := Lib.hid ⟨HI2.out.1.other (by show w.heap.size ≠ gb; omega) _, HI2.out.2.1.other (by show w.heap.size + 1 ≠ gb; omega) _, HI2.out.2.2.1.setCell (show w.heap.size ≤ gb by omega) _, hS⟩
             generalize (w2.setCell ⟨gb, j, none⟩ (.int .u8 ((at8 B j ^^^ x).toNat : Int))) = w6 at *
             have HI6 : Hid (Blk w6 (w.heap.size + 1) 23 (bvs other) ∧ Below w.heap.size w w6 ∧ Blk w6 gb 5 (bvr B2 r)) := Lib.hid ⟨HI5.out.2.1, HI5.out.2.2.1, HI5.out.2.2.2⟩
             refine wpList_load_blk rfl 23 (.tmp 10) rfl (w.heap.size + 1) 23 (bvs other) rfl HI6.out.1 Tryd.underlying23 rfl (by rw [hbo]; kernel_rfl) ?_
             clear HI2 c0 f0 e5 hS hgb HI5)
          | (go_at_call 11
             have hD6 : HB w6 (.slice (some ⟨gb, 0, none⟩) c c1) D := by
               rw [HD.out]
               exact (own_hb (own_bytes_mk (n := n + 41) (Nat.zero_le gb) HI6.out.2.2 HB2L.out.symm HNUM.out.2.1 HNUM.out.2.2) HB2L.out.symm).take (by omega)
             refine (open_any other D _ w6 (HT.out.below HI6.out.2.1) hk2 hD6 (by have := HDL.out; omega)).mono ?_
             rintro e w7 ⟨v7, rfl, ho, hb7⟩
             rw [← HP.out] at ho
             rw [← HK.out, ← HM.out, ← HE.out]
             obtain ⟨p7, c7, rfl, hl7, hm7⟩ := ho.form
             rw [HPL.out] at ho hl7 ⊢
             have HI7 : Hid (Blk w7 (w.heap.size + 1) 23 (bvs other) ∧ Below w.heap.size w w7 ∧ HB w7 (.slice (some ⟨gb, 0, none⟩) c c1) D ∧ HB w7 (.slice p7 0 c7) P) := Lib.hid ⟨HI6.out.1.below hb7 HI6.out.1.lt, HI6.out.2.1.trans (hb7.mono HI6.out.2.1.size), hD6.keep hb7, ho⟩
             have hcv7 := HI7.out.2.2.1.str Tryd.underlying25 Tryd.underlying5 Tryd.underlying9
             clear hD6 ho hb7 hm7 HI6)
          | (refine wpList_load_blk rfl 23 (.tmp 10) rfl (w.heap.size + 1) 23 (bvs other) rfl HI7.out.1 Tryd.underlying23 rfl (by rw [hbo]; kernel_rfl) ?_)
          | (refine wpList_load_blk rfl 23 (.tmp 10) rfl (w.heap.size + 1) 23 (bvs other) rfl HI8.out.1 Tryd.underlying23 rfl (by rw [hbo]; kernel_rfl) ?_)
          | (go_at_call 14
             refine (refOpen_any other (bs D) w7 hk2 (by rw [bs_size]; have := HDL.out; omega)).mono ?_
             rintro e w8 ⟨rfl, hb8⟩
             rw [sb_bs, ← HP.out, ← HK.out, ← HM.out, ← HE.out]
             have HI8 : Hid (Blk w8 (w.heap.size + 1) 23 (bvs other) ∧ Below w.heap.size w w8 ∧ HB w8 (.slice (some ⟨gb, 0, none⟩) c c1) D ∧ HB w8 (.slice p7 0 c7) P) := Lib.hid ⟨HI7.out.1.below hb8 HI7.out.1.lt, HI7.out.2.1.trans (hb8.mono HI7.out.2.1.size), HI7.out.2.2.1.keep hb8, HI7.out.2.2.2.keep hb8⟩
             have hcv8 := HI8.out.2.2.2.str Tryd.underlying25 Tryd.underlying5 Tryd.underlying9
             clear hcv7 hb8 HI7))
    go_ret
    exact ⟨rfl, HI8.out.2.1⟩


set_option maxRecDepth 100000 in
set_option maxHeartbeats 4000000 in
theorem sealOpens_de (key other b : List UInt8) (kd x : UInt8) (q a u : Nat) (v : Value) (w : World) (hT : Tabs w) (hk : key.length = 32) (hk2 : other.length = 32) (hq : q < 18446744073709551616) (ha : a < 65536) (hu : u < 65536) (hv : HB w v b) (h300 : ¬ (300 : Int) < (b.length : Int)) (hcut : u % 2 = 0) :
    Calls Tryd.prog 4 #[.agg (bvs key), .agg (bvs other), v, .int .u8 (kd.toNat : Int), .int .u64 (q : Int), .int .u16 (a : Int), .int .u8 (x.toNat : Int), .int .u16 (u : Int), .bool false] w fun e w' => e = .returned (.bool true) ∧ Below w.heap.size w w' := by
  obtain ⟨p, cap, rfl, hl, hm⟩ := hv.form
  unfold maxLen at hm
  have HV := Lib.hid hv
  clear hv
  have hkd := kd.toNat_lt
  have hbz : (bvs key).size = 32 := by rw [bvs_size]; exact hk
  have hbo : (bvs other).size = 32 := by rw [bvs_size]; exact hk2
  have HT := Lib.hid hT
  clear hT
  obtain ⟨n, hnb⟩ : ∃ n, n = b.length := ⟨_, rfl⟩
  rw [← hnb] at HV hl h300 ⊢
  have HN := Lib.hid hnb
  clear hnb
  obtain ⟨B, hB⟩ : ∃ B, B = sealS key kd q b := ⟨_, rfl⟩
  have hBl : B.length = n + 41 := by rw [hB, sealS_length, HN.out]
  obtain ⟨j, hj⟩ : ∃ j, j = a % (n + 41) := ⟨_, rfl⟩
  have hjn : j < n + 41 := by rw [hj]; exact Nat.mod_lt _ (by omega)
  have hj1 : (a : Int) % ((n : Int) + 41) = (j : Int) := by rw [hj]; simp
  have hj2 : (a : Int).tmod ((n : Int) + 41) = (j : Int) := by rw [Int.tmod_eq_emod_of_nonneg (by omega)]; exact hj1
  have hand : bits .and .u16 (u : Int) 1 = 0 := by
    have h := u16_and_nat u 1 hu (by decide)
    rw [Nat.and_one_is_mod, hcut] at h
    simpa using h
  obtain ⟨c, hc⟩ : ∃ c, c = n + 41 := ⟨_, rfl⟩
  have hcn : c ≤ n + 41 := by omega
  subst hc
  obtain ⟨B2, hB2⟩ : ∃ B2, B2 = B.set j (at8 B j ^^^ x) := ⟨_, rfl⟩
  have hB2l : B2.length = n + 41 := by rw [hB2, List.length_set]; exact hBl
  obtain ⟨D, hD⟩ : ∃ D, D = B2.take (n + 41) := ⟨_, rfl⟩
  have hDl : D.length ≤ 341 := by rw [hD, List.length_take, hB2l]; omega
  obtain ⟨hf1, hf2, hf3, hf4⟩ := open_facts other D
  obtain ⟨P, hP⟩ : ∃ P, P = (openS other D).1 := ⟨_, rfl⟩
  obtain ⟨KK, hKK⟩ : ∃ KK, KK = (openS other D).2.1 := ⟨_, rfl⟩
  obtain ⟨M, hM⟩ : ∃ M, M = (openS other D).2.2.1 := ⟨_, rfl⟩
  obtain ⟨E, hE⟩ : ∃ E, E = (openS other D).2.2.2 := ⟨_, rfl⟩
  rw [← hP, ← hE] at hf1
  rw [← hE, ← hP, ← hKK, ← hM] at hf2
  rw [← hM] at hf3
  rw [← hP] at hf4
  obtain ⟨m, hm2⟩ : ∃ m, m = P.length := ⟨_, rfl⟩
  have hm3 : m ≤ 341 := by omega
  have hkk := KK.toNat_lt
  have HBL := Lib.hid hBl
  have HB2 := Lib.hid hB2
  have HB2L := Lib.hid hB2l
  have HD := Lib.hid hD
  have HDL := Lib.hid hDl
  have HS := Lib.hid hB
  have HP := Lib.hid hP
  have HPL := Lib.hid hm2.symm
  have HK := Lib.hid hKK
  have HM := Lib.hid hM
  have HE := Lib.hid hE
  have HM64 := Lib.hid hf3
  clear hB hBl hB2 hB2l hD hDl hP hKK hM hE hj hf4
  by_cases hE0 : E = 0
  · have HSE := Lib.hid (hf2 hE0)
    have HPD : Hid (P.length + 41 = D.length) := Lib.hid (by rw [← hf2 hE0, sealS_length])
    clear hf1 hf2 hm2
    subst hE0
    go_enter Tryd.func4, Tryd.ntmps4
    go_wp2_with (first
      | (go_at_call 8
         refine (awake5_any _ (HT.out.below (((Below.refl w.heap.size w).alloc (Nat.le_refl _) _).alloc (by simp) _))).mono ?_
         rintro e w1 ⟨rfl, hb1⟩
         have HI : Hid (Blk w1 w.heap.size 23 (bvs key) ∧ Blk w1 (w.heap.size + 1) 23 (bvs other) ∧ Below w.heap.size w w1 ∧ w.heap.size + 2 ≤ w1.heap.size) := Lib.hid ⟨((Blk.new w _ _).alloc _).below hb1 (by simp <;> omega), (Blk.new' (w := w.alloc _) (by simp) _ _).below hb1 (by simp), (((Below.refl w.heap.size w).alloc (Nat.le_refl _) _).alloc (by simp) _).trans (hb1.mono (by simp <;> omega)), by have := hb1.size; simpa using this⟩
         have HB1 := Lib.hid HI.out.2.2.1
         have HV1 := Lib.hid (HV.out.keep HB1.out)
         clear hb1)
      | (refine wpList_load_blk rfl 23 (.tmp 9) rfl w.heap.size 23 (bvs key) rfl HI.out.1 Tryd.underlying23 rfl (by rw [hbz]; kernel_rfl) ?_)
          | (go_at_call 9
             refine (seal_any key b kd q _ w1 (HT.out.below HB1.out) hk hq HV1.out (by have := HN.out; omega)).mono ?_
             rintro e w2 ⟨v2, rfl, ho, hb2⟩
             rw [← HS.out] at ho
             obtain ⟨gb, c1, r, rfl, hgb, hcl, hcm, hcr, hblk⟩ := own_bytes ho (by rw [HBL.out, HN.out]) (by omega)
             rw [← HN.out] at hcl hcr ⊢
             have c0 := hblk.rbyte (i := j) (by rw [HBL.out]; omega)
             have f0 := hblk.frozen j
             have HI2 : Hid (Blk w2 w.heap.size 23 (bvs key) ∧ Blk w2 (w.heap.size + 1) 23 (bvs other) ∧ Below w.heap.size w w2 ∧ Blk w2 gb 5 (bvr B r)) := Lib.hid ⟨HI.out.1.below hb2 (by have := HI.out.2.2.2; omega), HI.out.2.1.below hb2 (by have := HI.out.2.2.2; omega), HB1.out.trans (hb2.mono HB1.out.size), hblk⟩
             have HNUM : Hid (w.heap.size + 2 ≤ gb ∧ c1 = n + 41 + r.length ∧ c1 ≤ maxLen) := Lib.hid ⟨by have := HI.out.2.2.2; omega, hcr, hcm⟩
             have hcc : ¬ c1 < n + 41 := by omega
             unfold maxLen at hcm
             clear ho hb2 hgb hcr hblk HB1 HI HV1)
          | (have e5 := xor8_rule (at8 B j) x
             rw [e5]
             have hS := HI2.out.2.2.2.rbyte_store (at8 B j ^^^ x) (show j < B.length by rw [HBL.out]; omega)
             rw [← HB2.out] at hS
             have hgb := HNUM.out.1
             have HI5 : Hid (Blk (w2.setCell ⟨gb, j, none⟩ (.int .u8 ((at8 B j ^^^ x).toNat : Int))) w.heap.size 23 (bvs key) ∧ Blk (w2.setCell ⟨gb, j, none⟩ (.int .u8 ((at8 B j ^^^ x).toNat : Int))) (w.heap.size + 1) 23 (bvs other) ∧ Below w.heap.size w (w2.setCell ⟨gb, j, none⟩ (.int .u8 ((at8 B j ^^^ x).toNat : Int))) ∧ Blk (w2.setCell ⟨gb, j, none⟩ (.int .u8 ((at8 B j ^^^ x).toNat : Int))) gb 5 (bvr B2 r)) := Lib.hid ⟨HI2.out.1.other (by show w.heap.size ≠ gb; omega) _, HI2.out.2.1.other (by show w.heap.size + 1 ≠ gb; omega) _, HI2.out.2.2.1.setCell (show w.heap.size ≤ gb by omega) _, hS⟩
             generalize (w2.setCell ⟨gb, j, none⟩ (.int .u8 ((at8 B j ^^^ x).toNat : Int))) = w6 at *
             have HI6 : Hid (Blk w6 (w.heap.size + 1) 23 (bvs other) ∧ Below w.heap.size w w6 ∧ Blk w6 gb 5 (bvr B2 r)) := Lib.hid ⟨HI5.out.2.1, HI5.out.2.2.1, HI5.out.2.2.2⟩
             refine wpList_load_blk rfl 23 (.tmp 10) rfl (w.heap.size + 1) 23 (bvs other) rfl HI6.out.1 Tryd.underlying23 rfl (by rw [hbo]; kernel_rfl) ?_
             clear HI2 c0 f0 e5 hS hgb HI5)
          | (go_at_call 11
             have hD6 : HB w6 (.slice (some ⟨gb, 0, none⟩) (n + 41) c1) D := by
               rw [HD.out]
               exact (own_hb (own_bytes_mk (n := n + 41) (Nat.zero_le gb) HI6.out.2.2 HB2L.out.symm HNUM.out.2.1 HNUM.out.2.2) HB2L.out.symm).take (by omega)
             refine (open_any other D _ w6 (HT.out.below HI6.out.2.1) hk2 hD6 (by have := HDL.out; omega)).mono ?_
             rintro e w7 ⟨v7, rfl, ho, hb7⟩
             rw [← HP.out] at ho
             rw [← HK.out, ← HM.out, ← HE.out]
             obtain ⟨p7, c7, rfl, hl7, hm7⟩ := ho.form
             rw [HPL.out] at ho hl7 ⊢
             have HI7 : Hid (Blk w7 (w.heap.size + 1) 23 (bvs other) ∧ Below w.heap.size w w7 ∧ HB w7 (.slice (some ⟨gb, 0, none⟩) (n + 41) c1) D ∧ HB w7 (.slice p7 m c7) P) := Lib.hid ⟨HI6.out.1.below hb7 HI6.out.1.lt, HI6.out.2.1.trans (hb7.mono HI6.out.2.1.size), hD6.keep hb7, ho⟩
             have hcv7 := HI7.out.2.2.1.str Tryd.underlying25 Tryd.underlying5 Tryd.underlying9
             clear hD6 ho hb7 hm7 HI6)
          | (refine wpList_load_blk rfl 23 (.tmp 10) rfl (w.heap.size + 1) 23 (bvs other) rfl HI7.out.1 Tryd.underlying23 rfl (by rw [hbo]; kernel_rfl) ?_)
          | (refine wpList_load_blk rfl 23 (.tmp 10) rfl (w.heap.size + 1) 23 (bvs other) rfl HI8.out.1 Tryd.underlying23 rfl (by rw [hbo]; kernel_rfl) ?_)
          | (go_at_call 14
             refine (refOpen_any other (bs D) w7 hk2 (by rw [bs_size]; have := HDL.out; omega)).mono ?_
             rintro e w8 ⟨rfl, hb8⟩
             rw [sb_bs, ← HP.out, ← HK.out, ← HM.out, ← HE.out]
             have HI8 : Hid (Blk w8 (w.heap.size + 1) 23 (bvs other) ∧ Below w.heap.size w w8 ∧ HB w8 (.slice (some ⟨gb, 0, none⟩) (n + 41) c1) D ∧ HB w8 (.slice p7 m c7) P) := Lib.hid ⟨HI7.out.1.below hb8 HI7.out.1.lt, HI7.out.2.1.trans (hb8.mono HI7.out.2.1.size), HI7.out.2.2.1.keep hb8, HI7.out.2.2.2.keep hb8⟩
             have hcv8 := HI8.out.2.2.2.str Tryd.underlying25 Tryd.underlying5 Tryd.underlying9
             clear hcv7 hb8 HI7)
          | (go_at_call 9
             refine (seal_any other P KK M _ w8 (HT.out.below HI8.out.2.1) hk2 HM64.out HI8.out.2.2.2 (by rw [HPL.out]; omega)).mono ?_
             rintro e w9 ⟨v9, rfl, ho9, hb9⟩
             rw [HSE.out] at ho9
             have HI9 : Hid (Below w.heap.size w w9) := Lib.hid (HI8.out.2.1.trans (hb9.mono HI8.out.2.1.size))
             have hcv9 := (own_hb ho9 HPD.out).str Tryd.underlying25 Tryd.underlying5 Tryd.underlying9
             have hcd9 := (HI8.out.2.2.1.keep hb9).str Tryd.underlying25 Tryd.underlying5 Tryd.underlying9
             clear ho9 hb9 hcv8 HI8))
    go_ret
    exact ⟨rfl, HI9.out⟩
  · have hP0 := hf1 hE0
    have hm0 : m = 0 := by rw [hm2, hP0]; rfl
    subst hm0
    have hEi : ¬ (E : Int) = 0 := by omega
    clear hf1 hf2 hm2 hP0
    go_enter Tryd.func4, Tryd.ntmps4
    go_wp2_with (first
      | (go_at_call 8
         refine (awake5_any _ (HT.out.below (((Below.refl w.heap.size w).alloc (Nat.le_refl _) _).alloc (by simp) _))).mono ?_
         rintro e w1 ⟨rfl, hb1⟩
         have HI : Hid (Blk w1 w.heap.size 23 (bvs key) ∧ Blk w1 (w.heap.size + 1) 23 (bvs other) ∧ Below w.heap.size w w1 ∧ w.heap.size + 2 ≤ w1.heap.size) := Lib.hid ⟨((Blk.new w _ _).alloc _).below hb1 (by simp <;> omega), (Blk.new' (w := w.alloc _) (by simp) _ _).below hb1 (by simp), (((Below.refl w.heap.size w).alloc (Nat.le_refl _) _).alloc (by simp) _).trans (hb1.mono (by simp <;> omega)), by have := hb1.size; simpa using this⟩
         have HB1 := Lib.hid HI.out.2.2.1
         have HV1 := Lib.hid (HV.out.keep HB1.out)
         clear hb1)
      | (refine wpList_load_blk rfl 23 (.tmp 9) rfl w.heap.size 23 (bvs key) rfl HI.out.1 Tryd.underlying23 rfl (by rw [hbz]; kernel_rfl) ?_)
          | (go_at_call 9
             refine (seal_any key b kd q _ w1 (HT.out.below HB1.out) hk hq HV1.out (by have := HN.out; omega)).mono ?_
             rintro e w2 ⟨v2, rfl, ho, hb2⟩
             rw [← HS.out] at ho
             obtain ⟨gb, c1, r, rfl, hgb, hcl, hcm, hcr, hblk⟩ := own_bytes ho (by rw [HBL.out, HN.out]) (by omega)
             rw [← HN.out] at hcl hcr ⊢
             have c0 := hblk.rbyte (i := j) (by rw [HBL.out]; omega)
             have f0 := hblk.frozen j
             have HI2 : Hid (Blk w2 w.heap.size 23 (bvs key) ∧ Blk w2 (w.heap.size + 1) 23 (bvs other) ∧ Below w.heap.size w w2 ∧ Blk w2 gb 5 (bvr B r)) := Lib.hid ⟨HI.out.1.below hb2 (by have := HI.out.2.2.2; omega), HI.out.2.1.below hb2 (by have := HI.out.2.2.2; omega), HB1.out.trans (hb2.mono HB1.out.size), hblk⟩
             have HNUM : Hid (w.heap.size + 2 ≤ gb ∧ c1 = n + 41 + r.length ∧ c1 ≤ maxLen) := Lib.hid ⟨by have := HI.out.2.2.2; omega, hcr, hcm⟩
             have hcc : ¬ c1 < n + 41 := by omega
             unfold maxLen at hcm
             clear ho hb2 hgb hcr hblk HB1 HI HV1)
          | (have e5 := xor8_rule (at8 B j) x
             rw [e5]
             have hS := HI2.out.2.2.2.rbyte_store (at8 B j ^^^ x) (show j < B.length by rw [HBL.out]; omega)
             rw [← HB2.out] at hS
             have hgb := HNUM.out.1
             have HI5 : Hid (Blk (w2.setCell ⟨gb, j, none⟩ (.int .u8 ((at8 B j ^^^ x).toNat : Int))) w.heap.size 23 (bvs key) ∧ Blk (w2.setCell ⟨gb, j, none⟩ (.int .u8 ((at8 B j ^^^ x).toNat : Int))) (w.heap.size + 1) 23 (bvs other) ∧ Below w.heap.size w (w2.setCell ⟨gb, j, none⟩ (.int .u8 ((at8 B j ^^^ x).toNat : Int))) ∧ Blk (w2.setCell ⟨gb, j, none⟩ (.int .u8 ((at8 B j ^^^ x).toNat : Int))) gb 5 (bvr B2 r)) := Lib.hid ⟨HI2.out.1.other (by show w.heap.size ≠ gb; omega) _, HI2.out.2.1.other (by show w.heap.size + 1 ≠ gb; omega) _, HI2.out.2.2.1.setCell (show w.heap.size ≤ gb by omega) _, hS⟩
             generalize (w2.setCell ⟨gb, j, none⟩ (.int .u8 ((at8 B j ^^^ x).toNat : Int))) = w6 at *
             have HI6 : Hid (Blk w6 (w.heap.size + 1) 23 (bvs other) ∧ Below w.heap.size w w6 ∧ Blk w6 gb 5 (bvr B2 r)) := Lib.hid ⟨HI5.out.2.1, HI5.out.2.2.1, HI5.out.2.2.2⟩
             refine wpList_load_blk rfl 23 (.tmp 10) rfl (w.heap.size + 1) 23 (bvs other) rfl HI6.out.1 Tryd.underlying23 rfl (by rw [hbo]; kernel_rfl) ?_
             clear HI2 c0 f0 e5 hS hgb HI5)
          | (go_at_call 11
             have hD6 : HB w6 (.slice (some ⟨gb, 0, none⟩) (n + 41) c1) D := by
               rw [HD.out]
               exact (own_hb (own_bytes_mk (n := n + 41) (Nat.zero_le gb) HI6.out.2.2 HB2L.out.symm HNUM.out.2.1 HNUM.out.2.2) HB2L.out.symm).take (by omega)
             refine (open_any other D _ w6 (HT.out.below HI6.out.2.1) hk2 hD6 (by have := HDL.out; omega)).mono ?_
             rintro e w7 ⟨v7, rfl, ho, hb7⟩
             rw [← HP.out] at ho
             rw [← HK.out, ← HM.out, ← HE.out]
             obtain ⟨p7, c7, rfl, hl7, hm7⟩ := ho.form
             rw [HPL.out] at ho hl7 ⊢
             have HI7 : Hid (Blk w7 (w.heap.size + 1) 23 (bvs other) ∧ Below w.heap.size w w7 ∧ HB w7 (.slice (some ⟨gb, 0, none⟩) (n + 41) c1) D ∧ HB w7 (.slice p7 0 c7) P) := Lib.hid ⟨HI6.out.1.below hb7 HI6.out.1.lt, HI6.out.2.1.trans (hb7.mono HI6.out.2.1.size), hD6.keep hb7, ho⟩
             have hcv7 := HI7.out.2.2.1.str Tryd.underlying25 Tryd.underlying5 Tryd.underlying9
             clear hD6 ho hb7 hm7 HI6)
          | (refine wpList_load_blk rfl 23 (.tmp 10) rfl (w.heap.size + 1) 23 (bvs other) rfl HI7.out.1 Tryd.underlying23 rfl (by rw [hbo]; kernel_rfl) ?_)
          | (refine wpList_load_blk rfl 23 (.tmp 10) rfl (w.heap.size + 1) 23 (bvs other) rfl HI8.out.1 Tryd.underlying23 rfl (by rw [hbo]; kernel_rfl) ?_)
          | (go_at_call 14
             refine (refOpen_any other (bs D) w7 hk2 (by rw [bs_size]; have := HDL.out; omega)).mono ?_
             rintro e w8 ⟨rfl, hb8⟩
             rw [sb_bs, ← HP.out, ← HK.out, ← HM.out, ← HE.out]
             have HI8 : Hid (Blk w8 (w.heap.size + 1) 23 (bvs other) ∧ Below w.heap.size w w8 ∧ HB w8 (.slice (some ⟨gb, 0, none⟩) (n + 41) c1) D ∧ HB w8 (.slice p7 0 c7) P) := Lib.hid ⟨HI7.out.1.below hb8 HI7.out.1.lt, HI7.out.2.1.trans (hb8.mono HI7.out.2.1.size), HI7.out.2.2.1.keep hb8, HI7.out.2.2.2.keep hb8⟩
             have hcv8 := HI8.out.2.2.2.str Tryd.underlying25 Tryd.underlying5 Tryd.underlying9
             clear hcv7 hb8 HI7))
    go_ret
    exact ⟨rfl, HI8.out.2.1⟩

set_option maxRecDepth 100000 in
set_option maxHeartbeats 1000000 in
theorem sealOpens_far (key other b : List UInt8) (kd x : UInt8) (q a u : Nat) (same : Bool) (v : Value) (w : World) (hT : Tabs w) (hv : HB w v b) (h300 : (300 : Int) < (b.length : Int)) :
    Calls Tryd.prog 4 #[.agg (bvs key), .agg (bvs other), v, .int .u8 (kd.toNat : Int), .int .u64 (q : Int), .int .u16 (a : Int), .int .u8 (x.toNat : Int), .int .u16 (u : Int), .bool same] w fun e w' => e = .returned (.bool true) ∧ Below w.heap.size w w' := by
  obtain ⟨p, cap, rfl, hl, hm⟩ := hv.form
  unfold maxLen at hm
  have HV := Lib.hid hv
  clear hv
  have hbz : (bvs key).size = (bvs key).size := rfl
  have HT := Lib.hid hT
  clear hT
  obtain ⟨n, hnb⟩ : ∃ n, n = b.length := ⟨_, rfl⟩
  rw [← hnb] at HV hl h300 ⊢
  clear hnb
  go_enter Tryd.func4, Tryd.ntmps4
  go_wp2_with (first
    | (go_at_call 8
       refine (awake5_any _ (HT.out.below (((Below.refl w.heap.size w).alloc (Nat.le_refl _) _).alloc (by simp) _))).mono ?_
       rintro e w1 ⟨rfl, hb1⟩
       have HI : Hid (Blk w1 w.heap.size 23 (bvs key) ∧ Blk w1 (w.heap.size + 1) 23 (bvs other) ∧ Below w.heap.size w w1 ∧ w.heap.size + 2 ≤ w1.heap.size) := Lib.hid ⟨((Blk.new w _ _).alloc _).below hb1 (by simp <;> omega), (Blk.new' (w := w.alloc _) (by simp) _ _).below hb1 (by simp), (((Below.refl w.heap.size w).alloc (Nat.le_refl _) _).alloc (by simp) _).trans (hb1.mono (by simp <;> omega)), by have := hb1.size; simpa using this⟩
       have HB1 := Lib.hid HI.out.2.2.1
       clear hb1)
    | (refine wpList_load_blk rfl 23 (.tmp 9) rfl w.heap.size 23 (bvs key) rfl HI.out.1 Tryd.underlying23 rfl (by rw [hbz]; kernel_rfl) ?_))
  go_ret
  exact ⟨rfl, HB1.out⟩

theorem sealOpens_any (key other b : List UInt8) (kd x : UInt8) (q a u : Nat) (same : Bool) (v : Value) (w : World) (hT : Tabs w) (hk : key.length = 32) (hk2 : other.length = 32) (hq : q < 18446744073709551616) (ha : a < 65536) (hu : u < 65536) (hv : HB w v b) :
    Calls Tryd.prog 4 #[.agg (bvs key), .agg (bvs other), v, .int .u8 (kd.toNat : Int), .int .u64 (q : Int), .int .u16 (a : Int), .int .u8 (x.toNat : Int), .int .u16 (u : Int), .bool same] w fun e w' => e = .returned (.bool true) ∧ Below w.heap.size w w' := by
  by_cases h300 : (300 : Int) < (b.length : Int)
  · exact sealOpens_far key other b kd x q a u same v w hT hv h300
  · rcases Nat.mod_two_eq_zero_or_one u with h | h
    · cases same with
      | true => exact sealOpens_se key other b kd x q a u v w hT hk hk2 hq ha hu hv h300 h
      | false => exact sealOpens_de key other b kd x q a u v w hT hk hk2 hq ha hu hv h300 h
    · cases same with
      | true => exact sealOpens_so key other b kd x q a u v w hT hk hk2 hq ha hu hv h300 h
      | false => exact sealOpens_do key other b kd x q a u v w hT hk hk2 hq ha hu hv h300 h
end Go.Proofs.YtbicdobnnanlkaaDoor
