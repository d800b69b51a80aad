/-
  The walk of the law SealHides.
-/
import Derived.Test.YtbicdobnnanlkaaDoorSaA
import Derived.RangeFuncBox
namespace Go.Proofs.YtbicdobnnanlkaaDoor
open Go Go.RowKit
set_option linter.unusedSimpArgs false
set_option linter.unusedVariables false

theorem seal_at (key b : List UInt8) (kd : UInt8) (q i : Nat) (h : i < 8) : at8 (sealS key kd q b) (1 + i) = UInt8.ofNat (q / 256 ^ i) := by
  have e : sealS key kd q b = kd :: (le8 q ++ (overS (hideK key kd) (nonceS (le8 q)) b ++ macF (vouchK key kd) (bodyS key kd q b))) := by
    simp [sealS, bodyS, headS]
  rw [e, le8_cons]
  match i, h with
  | 0, _ => simp [at8]
  | 1, _ => simp [at8]
  | 2, _ => simp [at8]
  | 3, _ => simp [at8]
  | 4, _ => simp [at8]
  | 5, _ => simp [at8]
  | 6, _ => simp [at8]
  | 7, _ => simp [at8]
  | i + 8, h => omega

set_option maxRecDepth 100000 in
set_option maxHeartbeats 2000000 in
theorem sealHides_any (key b : List UInt8) (kd : UInt8) (q : Nat) (v : Value) (w : World) (hT : Tabs w) (hk : key.length = 32) (hq : q < 18446744073709551616) (hv : HB w v b) :
    Calls Tryd.prog 6 #[.agg (bvs key), .int .u8 (kd.toNat : Int), .int .u64 (q : Int), v] w fun e w' => e = .returned (.bool true) ∧ Below w.heap.size w w' := by
  obtain ⟨p, cap, rfl, hl, hm⟩ := hv.form
  unfold maxLen at hm
  have HV := Lib.hid hv
  clear hv
  have hkd := kd.toNat_lt
  have hbz : (bvs key).size = 32 := by rw [bvs_size]; exact hk
  have HT := Lib.hid hT
  clear hT
  obtain ⟨n, hnb⟩ : ∃ n, n = b.length := ⟨_, rfl⟩
  rw [← hnb] at HV hl ⊢
  have HN := Lib.hid hnb
  clear hnb
  by_cases h300 : (300 : Int) < (n : Int)
  · skip
    go_enter Tryd.func6, Tryd.ntmps6
    go_wp2_with (first
      | (go_at_call 8
         refine (awake5_any _ (HT.out.below ((Below.refl w.heap.size w).alloc (Nat.le_refl _) _))).mono ?_
         rintro e w1 ⟨rfl, hb1⟩
         have HI : Hid (Blk w1 w.heap.size 23 (bvs key) ∧ Below w.heap.size w w1 ∧ w.heap.size + 1 ≤ w1.heap.size) := Lib.hid ⟨(Blk.new w _ _).below hb1 (by simp <;> omega), ((Below.refl w.heap.size w).alloc (Nat.le_refl _) _).trans (hb1.mono (by simp <;> omega)), by have := hb1.size; simpa using this⟩
         have HB1 := Lib.hid HI.out.2.1
         clear hb1)
      | (refine wpList_load_blk rfl 23 (.tmp 4) rfl w.heap.size 23 (bvs key) rfl HI.out.1 Tryd.underlying23 rfl (by rw [hbz]; kernel_rfl) ?_))
    go_ret
    exact ⟨rfl, HB1.out⟩
  · obtain ⟨B, hB⟩ : ∃ B, B = sealS key kd q b := ⟨_, rfl⟩
    have hBl : B.length = n + 41 := by rw [hB, sealS_length, HN.out]
    have hB0 : at8 B 0 = kd := by rw [hB, seal_at0]
    have hBi : ∀ i, i < 8 → at8 B (1 + i) = UInt8.ofNat (q / 256 ^ i) := by rw [hB]; exact fun i h => seal_at _ _ _ _ _ h
    have HBL := Lib.hid hBl
    have HS := Lib.hid hB
    have HB0 := Lib.hid hB0
    have HBI := Lib.hid hBi
    clear hB hB0 hBi hBl
    go_enter Tryd.func6, Tryd.ntmps6
    go_wp2_with (first
      | (go_at_call 8
         refine (awake5_any _ (HT.out.below ((Below.refl w.heap.size w).alloc (Nat.le_refl _) _))).mono ?_
         rintro e w1 ⟨rfl, hb1⟩
         have HI : Hid (Blk w1 w.heap.size 23 (bvs key) ∧ Below w.heap.size w w1 ∧ w.heap.size + 1 ≤ w1.heap.size) := Lib.hid ⟨(Blk.new w _ _).below hb1 (by simp <;> omega), ((Below.refl w.heap.size w).alloc (Nat.le_refl _) _).trans (hb1.mono (by simp <;> omega)), by have := hb1.size; simpa using this⟩
         have HB1 := Lib.hid HI.out.2.1
         have HV1 := Lib.hid (HV.out.keep HB1.out)
         have hcv1 := HV1.out.str Tryd.underlying25 Tryd.underlying5 Tryd.underlying9
         clear hb1)
      | (refine wpList_load_blk rfl 23 (.tmp 4) rfl w.heap.size 23 (bvs key) rfl HI.out.1 Tryd.underlying23 rfl (by rw [hbz]; kernel_rfl) ?_)
      | (go_at_call 9
         refine (seal_any key b kd q _ w1 (HT.out.below HB1.out) hk hq HV1.out (by have := HN.out; omega)).mono ?_
         rintro e w2 ⟨v2, rfl, ho, hb2⟩
         rw [← HS.out] at ho
         have hb0 := own_hb ho (by rw [HBL.out, HN.out])
         rw [← HN.out] at ho
         obtain ⟨p1, c1, rfl⟩ := own_form ho
         obtain ⟨b0, o0, rfl, hc0⟩ := hb0.at_ (at8_get (l := B) (i := 0) (by rw [HBL.out]; omega))
         rw [Nat.add_zero, HB0.out] at hc0
         have hcap1 := hb0.caps
         have HI2 : Hid (Below w.heap.size w w2 ∧ HB w2 (.slice (some ⟨b0, o0, none⟩) (n + 41) c1) B) := Lib.hid ⟨HB1.out.trans (hb2.mono HB1.out.size), hb0⟩
         have hcv2 := (HV1.out.keep hb2).str Tryd.underlying25 Tryd.underlying5 Tryd.underlying9
         clear ho hb0 hb2 HB1 HI HV1 hcv1 hcap1))
    clear hc0 hcv2
    go_loopw [13, 14] (fun x i wr => ∃ k : Nat, k ≤ 8 ∧ x = .int .u64 ((q / 256 ^ k : Nat) : Int) ∧ i = .int .i64 k ∧ wr = w2) (fun _ i _ => 8 - (intOf i).toNat)
    case atStart => exact ⟨0, by omega, by simp, rfl, rfl⟩
    case round =>
      obtain ⟨k, hk8, rfl, rfl, rfl⟩ := hrel
      by_cases hlt : k < 8
      · obtain ⟨x, hx⟩ : ∃ x, x = q / 256 ^ k := ⟨_, rfl⟩
        have hxs : q / 256 ^ (k + 1) = x / 256 := by rw [Nat.pow_succ, ← Nat.div_div_eq_div_mul, hx]
        have hxb : x < 18446744073709551616 := by rw [hx]; exact Nat.lt_of_le_of_lt (Nat.div_le_self _ _) hq
        obtain ⟨b2, o2, e2, hc2⟩ := HI2.out.2.at_ (at8_get (l := B) (i := 1 + k) (by rw [HBL.out]; omega))
        injection e2 with e2
        injection e2 with e3 e4
        subst e3; subst e4
        rw [HBI.out k hlt, ← hx] at hc2
        rw [← hx]
        have HX := Lib.hid hx
        have HXS := Lib.hid hxs
        clear hx hxs
        have hk8' : (k : Int) < 8 := by omega
        go_wp2_with fail
        exact ⟨⟨k + 1, by omega, by rw [HXS.out]; simp, by simp, trivial⟩, by simp [intOf]; omega⟩
      · have e8 : k = 8 := by omega
        subst e8
        go_wp2_with fail
        go_ret
        exact ⟨rfl, HI2.out.1⟩
end Go.Proofs.YtbicdobnnanlkaaDoor
