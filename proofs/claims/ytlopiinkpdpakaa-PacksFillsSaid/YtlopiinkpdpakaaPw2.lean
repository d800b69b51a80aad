/-
  The walk of the law PacksFills.
-/
import Derived.Test.YtlopiinkpdpakaaPkA
import Derived.Test.YtlopiinkpdpakaaFl4
namespace Go.Proofs.Ytlopiinkpdpakaa
open Go Go.RowKit
set_option linter.unusedSimpArgs false
set_option linter.unusedVariables false

set_option maxRecDepth 100000 in
set_option maxHeartbeats 4000000 in
theorem packsFills_any (l : List Int) (most : Int) (v : Value) (w : World) (h : IntS w v l) :
    Calls Try.prog 4 #[v, .int .i64 most] w fun e w' => e = .returned (.bool true) ∧ Below w.heap.size w w' := by
  obtain ⟨p, cap, rfl, hlc, hcm⟩ := h.form
  obtain ⟨n, hnn⟩ : ∃ n, n = l.length := ⟨_, rfl⟩
  have h' := h
  rw [← hnn] at hlc h' ⊢
  have H := Lib.hid h'
  have HN := Lib.hid hnn
  unfold maxLen at hcm
  clear h h' hnn
  go_enter Try.func4, Try.ntmps4
  go_wp2_with fail
  refine (awake13_any w).mono ?_
  rintro e w1 ⟨rfl, hb1⟩
  have HB1 := Lib.hid hb1
  clear hb1
  by_cases hbig : 200 < n
  · have hbi : (200 : Int) < (n : Int) := by omega
    go_wp2_with fail
    go_ret
    exact ⟨rfl, HB1.out⟩
  have hbi : ¬ (200 : Int) < (n : Int) := by omega
  have H1 := Lib.hid (H.out.keep HB1.out)
  go_wp2_with fail
  refine (fill_any _ l most w1 H1.out (by rw [← HN.out]; omega)).mono ?_
  rintro e w2 ⟨v2, rfl, hr2, hb2⟩
  obtain ⟨ls, hls⟩ : ∃ ls, ls = (fillF l most).1 := ⟨_, rfl⟩
  obtain ⟨E, hE⟩ : ∃ E, E = (fillF l most).2 := ⟨_, rfl⟩
  have HFE : Hid (fillF l most = (ls, E)) := Lib.hid (by rw [hls, hE])
  rw [← hE]
  rw [← hls] at hr2
  obtain ⟨A2, c2, rfl⟩ := hr2.form
  have HI2 : Hid (RowsI w2 w1.heap.size (.slice A2 ls.length c2) ls.length ls ∧ Below w.heap.size w w2 ∧ IntS w2 (.slice p n cap) l) := Lib.hid ⟨hr2, HB1.out.trans (hb2.mono HB1.out.size), H1.out.keep hb2⟩
  clear hr2 hb2 H1 hls hE
  go_wp2_with fail
  refine (refFill_any _ l most w2 HI2.out.2.2 (by rw [← HN.out]; omega)).mono ?_
  rw [HFE.out]
  rintro e w3 ⟨v3, rfl, hr3, hb3⟩
  obtain ⟨A3, c3, rfl⟩ := hr3.form
  obtain ⟨N, hNN⟩ : ∃ N, N = ls.length := ⟨_, rfl⟩
  have HI3 : Hid (RowsI w3 w1.heap.size (.slice A2 N c2) N ls ∧ RowsI w3 w2.heap.size (.slice A3 N c3) N ls ∧ Below w.heap.size w w3) := Lib.hid (by rw [hNN]; exact ⟨HI2.out.1.keep hb3, hr3, HI2.out.2.1.trans (hb3.mono HI2.out.2.1.size)⟩)
  have hN6 : N ≤ 1000000 := by
    have h1 : (fillF l most).1.length ≤ l.length := by
      unfold fillF
      split
      · exact Nat.zero_le _
      · split
        · split
          · exact Nat.zero_le _
          · rw [List.length_map]
            have h2 := cutsF_length (l.map Int.toNat) most.toNat 0
            rw [List.length_map] at h2
            exact h2
        · exact Nat.zero_le _
    rw [HFE.out, ← hNN, ← HN.out] at h1
    have h3 : N ≤ n := h1
    omega
  have HNN := Lib.hid hNN
  rw [show ((ls, E) : List (List Nat) × Nat).1.length = N from hNN.symm]
  simp only [← hNN]
  clear hr3 hb3 HI2 hNN
  go_wp2_with fail
  go_loopw [10] (fun i W => ∃ k : Nat, k ≤ N ∧ i = .int .i64 (k : Int) ∧ Below w3.heap.size w3 W) (fun i _ => N - (intOf i).toNat)
  case atStart => exact ⟨0, Nat.zero_le _, rfl, Below.refl _ _⟩
  case round =>
    obtain ⟨k, hk, rfl, hb⟩ := hrel
    have HB := Lib.hid hb
    clear hb
    by_cases hkN : k < N
    · obtain ⟨l1, hl1⟩ : ∃ l1, ls[k]? = some l1 := ⟨_, List.getElem?_eq_getElem (by rw [← HNN.out]; exact hkN)⟩
      obtain ⟨g1, u1, rfl, hc1, hu1⟩ := HI3.out.1.at_ hl1
      obtain ⟨g2, u2, rfl, hc2, hu2⟩ := HI3.out.2.1.at_ hl1
      obtain ⟨B1, e1, rfl⟩ := own_form hu1
      obtain ⟨B2, e2, rfl⟩ := own_form hu2
      obtain ⟨m, hm⟩ : ∃ m, m = l1.length := ⟨_, rfl⟩
      rw [← hm] at hc1 hc2 hu1 hu2
      have HU := Lib.hid (And.intro hu1 hu2)
      have HC := Lib.hid (And.intro hc1 hc2)
      have HMM := Lib.hid hm
      have d1 := (HB.out.cell (p := ⟨g1, k, none⟩) (lt_of_cell hc1)).trans hc1
      have d2 := (HB.out.cell (p := ⟨g2, k, none⟩) (lt_of_cell hc2)).trans hc2
      have hki : (k : Int) < (N : Int) := by omega
      have hk0 : (0 : Int) ≤ (k : Int) := by omega
      have hm6 : m ≤ 9223372036854775807 := by
        obtain ⟨h1, h2⟩ := HU.out.1
        rcases h2 with ⟨h3, h4⟩ | ⟨g', cap', cur, h3, _, _, h4, h5, _⟩
        · omega
        · unfold maxLen at h5; omega
      clear hl1 hc1 hc2 hu1 hu2 hm
      go_wp2_with fail
      go_quiet (fail)
      have HB5 := Lib.hid (below_drewN HB.out nq)
      clear d1 d2 HB
      generalize wr.drewN nq = w5 at *
      go_wp2_with fail
      go_loopw [11] (fun i W => ∃ j : Nat, j ≤ m ∧ i = .int .i64 (j : Int) ∧ Below w3.heap.size w3 W) (fun i _ => m - (intOf i).toNat)
      case atStart => exact ⟨0, Nat.zero_le _, rfl, HB5.out⟩
      case round =>
        clear HB5
        obtain ⟨j, hj, rfl, hb⟩ := hrel
        have HB := Lib.hid hb
        clear hb
        have d1 := (HB.out.cell (p := ⟨g1, k, none⟩) (lt_of_cell HC.out.1)).trans HC.out.1
        have d2 := (HB.out.cell (p := ⟨g2, k, none⟩) (lt_of_cell HC.out.2)).trans HC.out.2
        by_cases hjm : j < m
        · obtain ⟨x, hx⟩ : ∃ x, l1[j]? = some x := ⟨_, List.getElem?_eq_getElem (by rw [← HMM.out]; exact hjm)⟩
          obtain ⟨q1, rfl, hc1⟩ := ints_at HU.out.1 hx
          obtain ⟨q2, rfl, hc2⟩ := ints_at HU.out.2 hx
          have d3 := (HB.out.cell (p := ⟨q1, j, none⟩) (lt_of_cell hc1)).trans hc1
          have d4 := (HB.out.cell (p := ⟨q2, j, none⟩) (lt_of_cell hc2)).trans hc2
          have hji : (j : Int) < (m : Int) := by omega
          have hj0 : (0 : Int) ≤ (j : Int) := by omega
          clear hc1 hc2 hx
          go_wp2_with fail
          go_quiet (fail)
          have HB5 := Lib.hid (below_drewN HB.out nq)
          clear d1 d2 d3 d4 HB
          generalize wr.drewN nq = w6 at *
          go_wp2_with fail
          go_roundw
          case rel => exact ⟨j + 1, by omega, by go_num, HB5.out⟩
          case measure => simp [intOf]; omega
        · obtain rfl : j = m := by omega
          go_wp2_with fail
          go_roundw
          case rel => exact ⟨k + 1, by omega, by go_num, HB.out⟩
          case measure => simp [intOf]; omega
    · obtain rfl : k = N := by omega
      go_wp2_with fail
      go_ret
      exact ⟨rfl, HI3.out.2.2.trans (HB.out.mono HI3.out.2.2.size)⟩
end Go.Proofs.Ytlopiinkpdpakaa
