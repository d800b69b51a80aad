/-
  The walk of the law PacksPuts.
-/
import Derived.Test.YtlopiinkpdpakaaDoorPkA
import Derived.Test.YtlopiinkpdpakaaDoorPk5
import Derived.Test.YtlopiinkpdpakaaDoorPk6
import Derived.Test.YtlopiinkpdpakaaDoorEq
namespace Go.Proofs.YtlopiinkpdpakaaDoor
open Go Go.RowKit
set_option linter.unusedSimpArgs false
set_option linter.unusedVariables false

theorem putP_big {ls b : List (List UInt8)} : (putP ls).1.length ≤ 1048576 := by
  unfold putP
  split
  · simp
  · split
    · split
      · simp
      · simp; omega
    · simp

set_option maxRecDepth 100000 in
set_option maxHeartbeats 4000000 in
theorem packsPuts_any (v : Value) (ls : List (List UInt8)) (w : World) (hT : Tab w) (h0 : 0 < w.heap.size) (h : HBs w v ls) :
    Calls Tryd.prog 3 #[v] w fun e w' => e = .returned (.bool true) ∧ Below w.heap.size w w' := by
  have HT : Hid (∀ W, Below w.heap.size w W → Tab W ∧ 0 < W.heap.size) := Lib.hid (fun W hb => ⟨hT.below hb h0, by have := hb.size; omega⟩)
  obtain ⟨p, cap, rfl, hlc, hcm⟩ := h.form
  have H := Lib.hid h
  obtain ⟨n, hnn⟩ : ∃ n, n = ls.length := ⟨_, rfl⟩
  rw [← hnn] at hlc H ⊢
  have HN := Lib.hid hnn
  have HLS : Hid (∀ l ∈ ls, l.length ≤ 9223372036854775807) := Lib.hid (fun l hl => by
    obtain ⟨i, hi⟩ := List.mem_iff_getElem?.1 hl
    obtain ⟨b, o, u, _, _, hu⟩ := h.at_ hi
    obtain ⟨_, c, _, h1, h2⟩ := hu.form
    unfold maxLen at h2
    omega)
  unfold maxLen at hcm
  clear h hnn hT
  go_enter Tryd.func3, Tryd.ntmps3
  go_wp2_with fail
  refine (awake13_any w).mono ?_
  rintro e w1 ⟨rfl, hb1⟩
  have HB1 := Lib.hid hb1
  have H1 := Lib.hid (H.out.keep hb1)
  clear hb1
  go_wp2_with fail
  go_loop [4, 5] (fun s i => ∃ (k : Nat) (z : Int), k ≤ n ∧ s = .int .i64 z ∧ i = .int .i64 (k : Int) ∧ -9223372036854775808 ≤ z ∧ z ≤ 9223372036854775807) (fun _ i => n - (intOf i).toNat)
  case atStart => exact ⟨0, 0, Nat.zero_le _, rfl, rfl, by decide, by decide⟩
  case round =>
    obtain ⟨k, z, hk, rfl, rfl, hz1, hz2⟩ := hrel
    by_cases hlt : k < n
    · obtain ⟨l, hl⟩ : ∃ l, ls[k]? = some l := ⟨_, List.getElem?_eq_getElem (by rw [← HN.out]; exact hlt)⟩
      obtain ⟨b, o, u, rfl, hc, hu⟩ := H1.out.at_ hl
      obtain ⟨pu, cu, rfl, hul, hum⟩ := hu.form
      unfold maxLen at hum
      have hki : (k : Int) < (n : Int) := by omega
      have hk0 : ¬ (k : Int) < 0 := by omega
      clear hl hu
      go_wp2_with fail
      go_round
      case rel => exact ⟨k + 1, _, by omega, rfl, by go_num, by first | (rw [IntKind.wrap_i64]; omega) | (unfold wrap64; omega), by first | (rw [IntKind.wrap_i64]; omega) | (unfold wrap64; omega)⟩
      case measure => simp [intOf]; omega
    · obtain rfl : k = n := by omega
      by_cases h20 : (20 : Int) < (k : Int)
      · go_wp2_with fail
        go_ret
        exact ⟨rfl, HB1.out⟩
      by_cases hz : (2000 : Int) < z
      · go_wp2_with fail
        go_ret
        exact ⟨rfl, HB1.out⟩
      have hk20 : k ≤ 20 := by omega
      clear hz1 hz2
      go_wp2_with fail
      refine (put_any _ ls w1 H1.out).mono ?_
      rintro e w2 ⟨v2, rfl, ho2, hb2⟩
      obtain ⟨B, hB⟩ : ∃ B, B = (putP ls).1 := ⟨_, rfl⟩
      obtain ⟨E, hE⟩ : ∃ E, E = (putP ls).2 := ⟨_, rfl⟩
      have hBl : B.length ≤ 1048576 := by rw [hB]; exact putP_big (b := [])
      have HPP : Hid (putP ls = (B, E)) := Lib.hid (by rw [hB, hE])
      rw [← hE]
      rw [← hB] at ho2
      obtain ⟨A2, c2, rfl⟩ := own_form ho2
      have HI2 : Hid (Below w.heap.size w w2 ∧ HB w2 (.slice A2 B.length c2) B ∧ HBs w2 (.slice p k cap) ls) := Lib.hid ⟨HB1.out.trans (hb2.mono HB1.out.size), own_hb ho2 rfl, H1.out.keep hb2⟩
      clear ho2 hb2 hB hE H1
      go_wp2_with fail
      refine (texts_any _ ls w2 HI2.out.2.2 (by rw [← HN.out]; omega)).mono ?_
      rintro e w3 ⟨v3, rfl, hr3, hb3⟩
      have HI3 : Hid (Below w.heap.size w w3 ∧ HB w3 (.slice A2 B.length c2) B ∧ HBs w3 (.slice p k cap) ls) := Lib.hid ⟨HI2.out.1.trans (hb3.mono HI2.out.1.size), HI2.out.2.1.keep hb3, HI2.out.2.2.keep hb3⟩
      clear hb3
      rw [← HN.out] at hr3
      go_wp2_with fail
      refine (refPut13_any _ _ k ls w3 hr3 (by omega) HLS.out).mono ?_
      rw [HPP.out]
      rintro e w4 ⟨rfl, hb4⟩
      have HI4 : Hid (Below w.heap.size w w4 ∧ HB w4 (.slice A2 B.length c2) B ∧ HBs w4 (.slice p k cap) ls) := Lib.hid ⟨HI3.out.1.trans (hb4.mono HI3.out.1.size), HI3.out.2.1.keep hb4, HI3.out.2.2.keep hb4⟩
      have hcv := HI4.out.2.1.str Tryd.underlying24 Tryd.underlying5 Tryd.underlying9
      clear hb4 hr3 HI2 HI3
      by_cases hE0 : E = 0
      · subst hE0
        have HGP := Lib.hid (get_put HPP.out)
        rw [show ((0 : Nat) : Int) = 0 from rfl]
        go_wp2_with fail
        refine (get_any _ B w4 HI4.out.2.1 (by omega)).mono ?_
        rw [HGP.out]
        rintro e w5 ⟨v5, rfl, hr5, hb5⟩
        obtain ⟨A5, c5, rfl⟩ := hr5.form
        have HI5 : Hid (Below w.heap.size w w5 ∧ HB w5 (.slice A2 B.length c2) B ∧ HBs w5 (.slice p k cap) ls ∧ HBs w5 (.slice A5 ls.length c5) ls) := Lib.hid ⟨HI4.out.1.trans (hb5.mono HI4.out.1.size), HI4.out.2.1.keep hb5, HI4.out.2.2.keep hb5, hr5.hbs⟩
        clear hb5 hr5 hcv HI4
        go_wp2_with fail
        refine (texts_any _ ls w5 HI5.out.2.2.2 (by rw [← HN.out]; omega)).mono ?_
        rintro e w6 ⟨v6, rfl, hr6, hb6⟩
        obtain ⟨A6, c6, rfl⟩ := own_form hr6
        have HI6 : Hid (Below w.heap.size w w6 ∧ HB w6 (.slice A2 B.length c2) B ∧ HBs w6 (.slice p k cap) ls ∧ StrR w6 w5.heap.size (.slice A6 ls.length c6) ls.length ls) := Lib.hid ⟨HI5.out.1.trans (hb6.mono HI5.out.1.size), HI5.out.2.1.keep hb6, HI5.out.2.2.1.keep hb6, hr6⟩
        clear hb6 hr6 HI5
        go_wp2_with fail
        refine (texts_any _ ls w6 HI6.out.2.2.1 (by rw [← HN.out]; omega)).mono ?_
        rintro e w7 ⟨v7, rfl, hr7, hb7⟩
        obtain ⟨A7, c7, rfl⟩ := own_form hr7
        have HI7 : Hid (Below w.heap.size w w7 ∧ HB w7 (.slice A2 B.length c2) B ∧ StrR w7 w5.heap.size (.slice A6 ls.length c6) ls.length ls ∧ StrR w7 w6.heap.size (.slice A7 ls.length c7) ls.length ls) := Lib.hid ⟨HI6.out.1.trans (hb7.mono HI6.out.1.size), HI6.out.2.1.keep hb7, HI6.out.2.2.2.keep hb7, hr7⟩
        clear hb7 hr7 HI6
        go_wp2_with fail
        refine (same13_any _ _ _ _ _ _ ls ls w7 HI7.out.2.2.1 HI7.out.2.2.2 (by rw [← HN.out]; omega)).mono ?_
        rintro e w8 ⟨rfl, hb8⟩
        rw [show (ls == ls) = true from beq_self_eq_true ls]
        have HI8 : Hid (Below w.heap.size w w8 ∧ HB w8 (.slice A2 B.length c2) B) := Lib.hid ⟨HI7.out.1.trans (hb8.mono HI7.out.1.size), HI7.out.2.1.keep hb8⟩
        clear hb8 HI7
        go_wp2_with fail
        obtain ⟨r, hr⟩ : ∃ r, r = rootF B := ⟨_, rfl⟩
        have hrl : r.length = 32 := by rw [hr]; exact rootF_length _
        have HRR := Lib.hid hr
        clear hr
        refine (packId_any _ B w8 (HT.out _ HI8.out.1).1 (HT.out _ HI8.out.1).2 HI8.out.2 (by omega)).mono ?_
        rintro e w9 ⟨rfl, hb9⟩
        rw [← HRR.out]
        have HI9 := Lib.hid (HI8.out.1.trans (hb9.mono HI8.out.1.size))
        clear hb9 HI8
        go_wp2_with fail
        refine (refId13_any B w9 (by omega)).mono ?_
        rintro e w10 ⟨rfl, hb10⟩
        rw [← HRR.out]
        have HI10 := Lib.hid (HI9.out.trans (hb10.mono HI9.out.size))
        have heq := eq_id w10 r r hrl hrl
        rw [beq_self_eq_true] at heq
        clear hb10 HI9
        go_wp2_with fail
        go_ret
        exact ⟨rfl, HI10.out⟩
      · have hEi : ¬ (E : Int) = 0 := by omega
        have hEb : ((E : Int) == 0) = false := beq_eq_false_iff_ne.2 hEi
        go_wp2_with fail
        go_ret
        exact ⟨rfl, HI4.out.1⟩
end Go.Proofs.YtlopiinkpdpakaaDoor
