/-
  A reader: the next number.
-/
import Derived.Test.YtlkhbfafednegaaDoorCd2
namespace Go.Proofs.YtlkhbfafednegaaDoor
open Go Go.RowKit
set_option linter.unusedSimpArgs false
set_option linter.unusedVariables false

theorem or_rule {k y m : Nat} (hk : k ≤ 9) (hy : y < 128 ^ k) (hm : m < 128) (h9 : k = 9 → m ≤ 1) : bits .or .u64 (y : Int) (IntKind.u64.wrap ((m : Int) * 2 ^ (7 * k))) = ((y + m * 128 ^ k : Nat) : Int) := by
  have h1 := step_lt hk hy hm h9
  have h2 := or_step (q := m) hy
  have e : ((m : Int) * 2 ^ (7 * k)) = ((m * 128 ^ k : Nat) : Int) := by
    rw [show (128 : Nat) ^ k = 2 ^ (7 * k) by rw [Nat.pow_mul]]
    simp
  have e2 : IntKind.u64.wrap ((m * 128 ^ k : Nat) : Int) = ((m * 128 ^ k : Nat) : Int) := by
    rw [IntKind.wrap_u64]; omega
  rw [e, e2, u64_or_nat _ _ (by omega) (by omega), h2]

set_option maxRecDepth 100000 in
set_option maxHeartbeats 2000000 in
theorem rdUint_any (g : Nat) (s : Rst) (w : World) (h : RdS w g s) :
    Calls Tryd.prog 25 #[.pointer (some ⟨g, 0, none⟩)] w fun e w' => e = .returned (.int .u64 ((uintR s).1 : Int)) ∧ w.grownBy w' (some g) ∧ RdS w' g (uintR s).2 := by
  obtain ⟨l, e0⟩ := s
  by_cases h0 : e0 = 0
  · subst h0
    have HU : Hid (uintR (l, 0) = uintG 0 0 l) := Lib.hid (by simp [uintR])
    have H := Lib.hid h
    clear h
    go_enter Tryd.func25, Tryd.ntmps25
    go_wp2_with fail
    go_step3
    go_wp2_with fail
    go_step3
    go_wp2_with fail
    go_loopw [3, 4] (fun x i wr => ∃ (k y : Nat) (L : List UInt8), k ≤ 9 ∧ y < 128 ^ k ∧ x = .int .u64 (y : Int) ∧ i = .int .i64 (k : Int) ∧ Hid (uintG 0 0 l = uintG k y L ∧ w.grownBy wr (some g) ∧ RdS wr g (L, 0))) (fun _ i _ => 10 - (intOf i).toNat)
    case atStart => exact ⟨0, 0, l, by omega, by decide, rfl, rfl, Lib.hid ⟨rfl, World.grownBy.refl w _, H.out⟩⟩
    case round =>
      clear H
      obtain ⟨k, y, L, hk, hy, rfl, rfl, HI⟩ := hrel
      cases L with
      | nil =>
        go_wp2_with fail
        refine (rdTake_any g 1 ([], 0) wr HI.out.2.2 (by omega)).mono ?_
        rintro e w1 ⟨v1, rfl, hg1, hr1, hv1, hn1⟩
        obtain rfl := hn1 (by decide)
        have hq := run_eql_nil (P := Tryd.prog) w1 none 0 0 Tryd.underlying24
        have HJ : Hid (w.grownBy w1 (some g) ∧ RdS w1 g ([], 10)) := Lib.hid ⟨Only.trans HI.out.2.1 hg1 (fun j hj => by injection hj with hj; exact .inl hj.symm), hr1⟩
        clear hg1 hr1 hv1 hn1
        go_wp2_with fail
        rw [Exit.noGoto_ret]
        go_ret
        rw [HU.out, HI.out.1, uintG_nil]
        exact ⟨rfl, HJ.out⟩
      | cons c r =>
        go_wp2_with fail
        refine (rdTake_any g 1 (c :: r, 0) wr HI.out.2.2 (by omega)).mono ?_
        rintro e w1 ⟨v1, rfl, hg1, hr1, hv1, -⟩
        obtain ⟨p, cp, rfl, -, -⟩ := hv1.1.form
        obtain ⟨b, o, rfl, hc0⟩ := hv1.1.at_ (i := 0) (x := c) rfl
        rw [Nat.add_zero] at hc0
        obtain ⟨q, hqc⟩ : ∃ q, q = c.toNat := ⟨_, rfl⟩
        have hq8 : q < 256 := by rw [hqc]; exact c.toNat_lt
        rw [← hqc] at hc0
        have HQC := Lib.hid hqc
        have hq := run_eql_nil (P := Tryd.prog) w1 (some ⟨b, o, none⟩) 1 cp Tryd.underlying24
        have HJ : Hid (w.grownBy w1 (some g) ∧ RdS w1 g (r, 0)) := Lib.hid ⟨Only.trans HI.out.2.1 hg1 (fun j hj => by injection hj with hj; exact .inl hj.symm), hr1⟩
        clear hg1 hr1 hv1 hqc
        have hlen : (takC 1 (c :: r, 0)).1.length = 1 := rfl
        rw [hlen]
        obtain ⟨m, hm⟩ : ∃ m, m = q % 128 := ⟨_, rfl⟩
        have hm7 : m < 128 := by omega
        have hand : bits .and .u8 (q : Int) 127 = (m : Int) := by
          have h := u8_and_nat q 127 hq8 (by decide)
          rw [show ((127 : Nat) : Int) = 127 from rfl] at h
          rw [h, hm]
          have h2 := Nat.and_two_pow_sub_one_eq_mod q 7
          rw [show (2 ^ 7 - 1 : Nat) = 127 from rfl] at h2
          rw [h2]
        have HM := Lib.hid hm
        clear hm
        by_cases hbad : (k = 9 ∧ 1 < q) ∨ (0 < k ∧ q = 0)
        · have HE : Hid (uintG k y (c :: r) = (0, r, 11)) := Lib.hid (uintG_bad (by rw [← HQC.out]; exact hbad))
          by_cases h9 : k = 9
          · by_cases h1 : 1 < q
            · have a1 : ((k : Int) == 9) = true := beq_iff_eq.2 (by omega)
              have a4 : decide (1 < (q : Int)) = true := decide_eq_true (by omega)
              go_wp2_with fail
              refine (rdFail_any g (r, 0) 11 w1 HJ.out.2 rfl).mono ?_
              rintro e w2 ⟨rfl, hg2, hr2⟩
              have HK : Hid (w.grownBy w2 (some g) ∧ RdS w2 g (r, 11)) := Lib.hid ⟨Only.trans HJ.out.1 hg2 (fun j hj => by injection hj with hj; exact .inl hj.symm), hr2⟩
              clear hg2 hr2
              go_wp2_with fail
              rw [Exit.noGoto_ret]
              go_ret
              rw [HU.out, HI.out.1, HE.out]
              exact ⟨rfl, HK.out⟩
            · have a1 : ((k : Int) == 9) = true := beq_iff_eq.2 (by omega)
              have a4 : decide (1 < (q : Int)) = false := decide_eq_false (by omega)
              have a2 : decide (0 < (k : Int)) = true := decide_eq_true (by omega)
              have a3 : ((q : Int) == 0) = true := beq_iff_eq.2 (by omega)
              go_wp2_with fail
              refine (rdFail_any g (r, 0) 11 w1 HJ.out.2 rfl).mono ?_
              rintro e w2 ⟨rfl, hg2, hr2⟩
              have HK : Hid (w.grownBy w2 (some g) ∧ RdS w2 g (r, 11)) := Lib.hid ⟨Only.trans HJ.out.1 hg2 (fun j hj => by injection hj with hj; exact .inl hj.symm), hr2⟩
              clear hg2 hr2
              go_wp2_with fail
              rw [Exit.noGoto_ret]
              go_ret
              rw [HU.out, HI.out.1, HE.out]
              exact ⟨rfl, HK.out⟩
          · have a1 : ((k : Int) == 9) = false := beq_eq_false_iff_ne.2 (by omega)
            have a2 : decide (0 < (k : Int)) = true := decide_eq_true (by omega)
            have a3 : ((q : Int) == 0) = true := beq_iff_eq.2 (by omega)
            go_wp2_with fail
            refine (rdFail_any g (r, 0) 11 w1 HJ.out.2 rfl).mono ?_
            rintro e w2 ⟨rfl, hg2, hr2⟩
            have HK : Hid (w.grownBy w2 (some g) ∧ RdS w2 g (r, 11)) := Lib.hid ⟨Only.trans HJ.out.1 hg2 (fun j hj => by injection hj with hj; exact .inl hj.symm), hr2⟩
            clear hg2 hr2
            go_wp2_with fail
            rw [Exit.noGoto_ret]
            go_ret
            rw [HU.out, HI.out.1, HE.out]
            exact ⟨rfl, HK.out⟩
        · have HB : Hid (¬ ((k = 9 ∧ 1 < c.toNat) ∨ (0 < k ∧ c.toNat = 0))) := Lib.hid (by rw [← HQC.out]; exact hbad)
          have HOR : Hid (bits .or .u64 (y : Int) (IntKind.u64.wrap ((m : Int) * 2 ^ (7 * k))) = ((y + m * 128 ^ k : Nat) : Int)) := Lib.hid (or_rule hk hy hm7 (by have := HM.out; omega))
          by_cases h9 : k = 9
          · have h7 : q < 128 := by omega
            have HE : Hid (uintG k y (c :: r) = (y + m * 128 ^ k, r, 0)) := Lib.hid (by rw [HM.out, Nat.mod_eq_of_lt h7, HQC.out] at *; exact uintG_end HB.out (by rw [← HQC.out]; exact h7))
            have h7i : (q : Int) < 128 := by omega
            have a1 : ((k : Int) == 9) = true := beq_iff_eq.2 (by omega)
            have a4 : decide (1 < (q : Int)) = false := decide_eq_false (by omega)
            have a2 : decide (0 < (k : Int)) = true := decide_eq_true (by omega)
            have a3 : ((q : Int) == 0) = false := beq_eq_false_iff_ne.2 (by omega)
            go_wp2_with fail
            rw [Exit.noGoto_ret]
            rw [show (9223372036854775808 : Int) = 2 ^ (7 * k) by rw [h9]; rfl, HOR.out]
            go_ret
            rw [HU.out, HI.out.1, HE.out]
            exact ⟨rfl, HJ.out⟩
          · by_cases hk0 : 0 < k
            · by_cases h7 : q < 128
              · have HE : Hid (uintG k y (c :: r) = (y + m * 128 ^ k, r, 0)) := Lib.hid (by rw [HM.out, Nat.mod_eq_of_lt h7, HQC.out] at *; exact uintG_end HB.out (by rw [← HQC.out]; exact h7))
                have h7i : (q : Int) < 128 := by omega
                have a1 : ((k : Int) == 9) = false := beq_eq_false_iff_ne.2 (by omega)
                have a2 : decide (0 < (k : Int)) = true := decide_eq_true (by omega)
                have a3 : ((q : Int) == 0) = false := beq_eq_false_iff_ne.2 (by omega)
                go_wp2_with fail
                rw [Exit.noGoto_ret]
                rw [HOR.out]
                go_ret
                rw [HU.out, HI.out.1, HE.out]
                exact ⟨rfl, HJ.out⟩
              · have HE : Hid (uintG k y (c :: r) = uintG (k + 1) (y + m * 128 ^ k) r) := Lib.hid (by have e : m = q - 128 := (by rw [HM.out]; omega); rw [e, HQC.out]; exact uintG_more HB.out (by rw [← HQC.out]; exact h7))
                have h7i : ¬ (q : Int) < 128 := by omega
                have hnx := step_next (q := m) hy hm7
                have HNX := Lib.hid hnx
                clear hnx
                have a1 : ((k : Int) == 9) = false := beq_eq_false_iff_ne.2 (by omega)
                have a2 : decide (0 < (k : Int)) = true := decide_eq_true (by omega)
                have a3 : ((q : Int) == 0) = false := beq_eq_false_iff_ne.2 (by omega)
                go_wp2_with fail
                rw [HOR.out]
                refine ⟨⟨k + 1, y + m * 128 ^ k, r, by omega, HNX.out, rfl, by go_num, Lib.hid ⟨by rw [HI.out.1, HE.out], HJ.out⟩⟩, by simp [intOf]; omega⟩
            · by_cases h7 : q < 128
              · have HE : Hid (uintG k y (c :: r) = (y + m * 128 ^ k, r, 0)) := Lib.hid (by rw [HM.out, Nat.mod_eq_of_lt h7, HQC.out] at *; exact uintG_end HB.out (by rw [← HQC.out]; exact h7))
                have h7i : (q : Int) < 128 := by omega
                have a1 : ((k : Int) == 9) = false := beq_eq_false_iff_ne.2 (by omega)
                have a2 : decide (0 < (k : Int)) = false := decide_eq_false (by omega)
                go_wp2_with fail
                rw [Exit.noGoto_ret]
                rw [HOR.out]
                go_ret
                rw [HU.out, HI.out.1, HE.out]
                exact ⟨rfl, HJ.out⟩
              · have HE : Hid (uintG k y (c :: r) = uintG (k + 1) (y + m * 128 ^ k) r) := Lib.hid (by have e : m = q - 128 := (by rw [HM.out]; omega); rw [e, HQC.out]; exact uintG_more HB.out (by rw [← HQC.out]; exact h7))
                have h7i : ¬ (q : Int) < 128 := by omega
                have hnx := step_next (q := m) hy hm7
                have HNX := Lib.hid hnx
                clear hnx
                have a1 : ((k : Int) == 9) = false := beq_eq_false_iff_ne.2 (by omega)
                have a2 : decide (0 < (k : Int)) = false := decide_eq_false (by omega)
                go_wp2_with fail
                rw [HOR.out]
                refine ⟨⟨k + 1, y + m * 128 ^ k, r, by omega, HNX.out, rfl, by go_num, Lib.hid ⟨by rw [HI.out.1, HE.out], HJ.out⟩⟩, by simp [intOf]; omega⟩
  · have hU : uintR (l, e0) = (0, (l, e0)) := by simp [uintR, h0]
    have HU := Lib.hid hU
    have H := Lib.hid h
    clear h hU
    go_enter Tryd.func25, Tryd.ntmps25
    go_wp2_with fail
    go_step3
    go_wp2_with fail
    go_step3
    go_wp2_with fail
    go_loopw [3, 4] (fun x i wr => x = .int .u64 0 ∧ i = .int .i64 0 ∧ wr = w) (fun _ i _ => 10 - (intOf i).toNat)
    case atStart => exact ⟨rfl, rfl, rfl⟩
    case round =>
      obtain ⟨rfl, rfl, rfl⟩ := hrel
      go_wp2_with fail
      refine (rdTake_any g 1 (l, e0) wr H.out (by omega)).mono ?_
      rintro e w1 ⟨v1, rfl, hg1, hr1, hv1, hn1⟩
      have ht : takC 1 (l, e0) = ([], (l, e0)) := by simp [takC, h0]
      rw [ht] at hr1 hn1
      obtain rfl := hn1 h0
      have hq := run_eql_nil (P := Tryd.prog) w1 none 0 0 Tryd.underlying24
      have HJ : Hid (wr.grownBy w1 (some g) ∧ RdS w1 g (l, e0)) := Lib.hid ⟨hg1, hr1⟩
      clear hg1 hr1 hv1 hn1 ht
      go_wp2_with fail
      rw [Exit.noGoto_ret]
      go_ret
      rw [HU.out]
      exact ⟨rfl, HJ.out⟩

set_option maxRecDepth 100000 in
set_option maxHeartbeats 2000000 in
theorem rdBytes_any (g most : Nat) (s : Rst) (w : World) (h : RdS w g s) (hm : most < 140737488351232) :
    Calls Tryd.prog 26 #[.pointer (some ⟨g, 0, none⟩), .int .i64 (most : Int)] w fun e w' => ∃ v', e = .returned v' ∧ w.grownBy w' (some g) ∧ RdS w' g (bytesR most s).2 ∧ w'.ownsRow w.heap.size 5 1 v' (bytesR most s).1.length ((bytesR most s).1.map bcv) := by
  have H := Lib.hid h
  clear h
  obtain ⟨n, hn⟩ : ∃ n, n = (uintR s).1 := ⟨_, rfl⟩
  obtain ⟨S, hS⟩ : ∃ S, S = (uintR s).2 := ⟨_, rfl⟩
  have hn64 : n < 18446744073709551616 := by rw [hn]; exact uintR_lt s
  have hb : bytesR most s = if S.2 = 0 then (if most < n then ([], S.1, 13) else takC n S) else ([], S) := by rw [hn, hS]; rfl
  have a1 : decide ((most : Int) < 0) = false := decide_eq_false (by omega)
  have hmw : IntKind.u64.wrap (most : Int) = (most : Int) := by rw [IntKind.wrap_u64]; omega
  have HN := Lib.hid hn
  have HS := Lib.hid hS
  by_cases h0 : S.2 = 0
  · rw [if_pos h0] at hb
    by_cases hl : most < n
    · rw [if_pos hl] at hb
      have HB := Lib.hid hb
      have hli : (most : Int) < (n : Int) := by omega
      clear hb hn hS
      go_enter Tryd.func26, Tryd.ntmps26
      go_wp2_with fail
      refine (rdUint_any g s w H.out).mono ?_
      rintro e w1 ⟨rfl, hg1, hr1⟩
      rw [← HN.out]
      rw [← HS.out] at hr1
      have HJ : Hid (w.grownBy w1 (some g) ∧ RdS w1 g S) := Lib.hid ⟨hg1, hr1⟩
      clear hg1 hr1
      go_wp2_with fail
      refine (rdErr_any g S w1 HJ.out.2).mono ?_
      rintro e w2 ⟨rfl, hb2⟩
      rw [h0, show ((0 : Nat) : Int) = 0 from rfl]
      have HK : Hid (w.grownBy w2 (some g) ∧ RdS w2 g S) := Lib.hid ⟨Only.below HJ.out.1 hb2 HJ.out.1.size, HJ.out.2.keep hb2⟩
      clear hb2 HJ
      go_wp2_with fail
      refine (rdFail_any g S 13 w2 HK.out.2 h0).mono ?_
      rintro e w3 ⟨rfl, hg3, hr3⟩
      have HL : Hid (w.grownBy w3 (some g) ∧ RdS w3 g (S.1, 13)) := Lib.hid ⟨Only.trans HK.out.1 hg3 (fun j hj => by injection hj with hj; exact .inl hj.symm), hr3⟩
      clear hg3 hr3 HK
      go_wp2_with fail
      go_ret
      rw [HB.out]
      exact ⟨_, rfl, HL.out.1, HL.out.2, World.ownsRow_nil _ _ _ _⟩
    · rw [if_neg hl] at hb
      have HB := Lib.hid hb
      have hli : ¬ (most : Int) < (n : Int) := by omega
      have hnb : n < 140737488351232 := by omega
      clear hb hn hS
      go_enter Tryd.func26, Tryd.ntmps26
      go_wp2_with fail
      refine (rdUint_any g s w H.out).mono ?_
      rintro e w1 ⟨rfl, hg1, hr1⟩
      rw [← HN.out]
      rw [← HS.out] at hr1
      have HJ : Hid (w.grownBy w1 (some g) ∧ RdS w1 g S) := Lib.hid ⟨hg1, hr1⟩
      clear hg1 hr1
      go_wp2_with fail
      refine (rdErr_any g S w1 HJ.out.2).mono ?_
      rintro e w2 ⟨rfl, hb2⟩
      rw [h0, show ((0 : Nat) : Int) = 0 from rfl]
      have HK : Hid (w.grownBy w2 (some g) ∧ RdS w2 g S) := Lib.hid ⟨Only.below HJ.out.1 hb2 HJ.out.1.size, HJ.out.2.keep hb2⟩
      clear hb2 HJ
      go_wp2_with fail
      refine (rdFixed_any g n S w2 HK.out.2 hnb).mono ?_
      rintro e w3 ⟨v3, rfl, hg3, hr3, ho3⟩
      have HL : Hid (w.grownBy w3 (some g) ∧ RdS w3 g (takC n S).2 ∧ w3.ownsRow w.heap.size 5 1 v3 (takC n S).1.length ((takC n S).1.map bcv)) := Lib.hid ⟨Only.trans HK.out.1 hg3 (fun j hj => by injection hj with hj; exact .inl hj.symm), hr3, own_base ho3 HK.out.1.size⟩
      clear hg3 hr3 ho3 HK
      go_wp2_with fail
      go_ret
      rw [HB.out]
      exact ⟨_, rfl, HL.out.1, HL.out.2.1, HL.out.2.2⟩
  · rw [if_neg h0] at hb
    have HB := Lib.hid hb
    have h0i : ¬ (S.2 : Int) = 0 := by omega
    clear hb hn hS
    go_enter Tryd.func26, Tryd.ntmps26
    go_wp2_with fail
    refine (rdUint_any g s w H.out).mono ?_
    rintro e w1 ⟨rfl, hg1, hr1⟩
    rw [← HN.out]
    rw [← HS.out] at hr1
    have HJ : Hid (w.grownBy w1 (some g) ∧ RdS w1 g S) := Lib.hid ⟨hg1, hr1⟩
    clear hg1 hr1
    go_wp2_with fail
    refine (rdErr_any g S w1 HJ.out.2).mono ?_
    rintro e w2 ⟨rfl, hb2⟩
    have HK : Hid (w.grownBy w2 (some g) ∧ RdS w2 g S) := Lib.hid ⟨Only.below HJ.out.1 hb2 HJ.out.1.size, HJ.out.2.keep hb2⟩
    clear hb2 HJ
    go_wp2_with fail
    go_ret
    rw [HB.out]
    exact ⟨_, rfl, HK.out.1, HK.out.2, World.ownsRow_nil _ _ _ _⟩
end Go.Proofs.YtlkhbfafednegaaDoor
