/-
  The reference's reader and writer: by values.
-/
import Derived.Test.YtlkhbfafednegaaDoorCd3
namespace Go.Proofs.YtlkhbfafednegaaDoor
open Go Go.RowKit
set_option linter.unusedSimpArgs false
set_option linter.unusedVariables false

/-- a reader of the reference's, as a value -/
def rfV (s : Rst) : Value := .agg #[.string (bs s.1), .int .i64 (s.2 : Int)]

set_option maxRecDepth 100000 in
set_option maxHeartbeats 1000000 in
theorem refEnd_any (s : ByteArray) (n : Nat) (w : World) :
    Calls Tryd.prog 33 #[.agg #[.string s, .int .i64 (n : Int)]] w fun e w' => e = .returned (.int .i64 (endR (sb s, n) : Int)) ∧ Below w.heap.size w w' := by
  have hB := (Below.refl w.heap.size w).alloc (Nat.le_refl _) (.cells #[.string s, .int .i64 (n : Int)] 74)
  by_cases h0 : n = 0
  · subst h0
    by_cases hs : s.size = 0
    · have h1 : s.toList = [] := by rw [Lib.toList_data]; exact List.eq_nil_of_length_eq_zero (by rw [Array.length_toList]; exact hs)
      have HE : Hid (endR (sb s, 0) = 0) := Lib.hid (by simp [endR, sb_length, hs])
      have h2 : (s.toList == []) = true := by rw [h1]; rfl
      clear hs
      go_enter Tryd.func33, Tryd.ntmps33
      go_wp2_with fail
      go_ret
      exact ⟨by rw [HE.out]; rfl, hB⟩
    · have h1 : ¬ s.toList = [] := by
        rw [Lib.toList_data]; intro e
        have := congrArg List.length e
        rw [Array.length_toList] at this
        exact hs this
      have HE : Hid (endR (sb s, 0) = 12) := Lib.hid (by simp only [endR, ↓reduceIte, sb_length]; rw [if_pos (by omega)])
      have h2 : s.toList.isEmpty = false := by cases hh : s.toList with | nil => exact absurd hh h1 | cons a r => rfl
      clear hs
      go_enter Tryd.func33, Tryd.ntmps33
      go_wp2_with fail
      go_ret
      exact ⟨by rw [HE.out]; rfl, hB⟩
  · have HE : Hid (endR (sb s, n) = n) := Lib.hid (by simp [endR, h0])
    have h1 : ¬ (n : Int) = 0 := by omega
    go_enter Tryd.func33, Tryd.ntmps33
    go_wp2_with fail
    go_ret
    exact ⟨by rw [HE.out]; rfl, hB⟩

theorem isEmpty_iff (s : ByteArray) : s.toList.isEmpty = decide (s.size = 0) := by
  have h : s.toList.length = s.size := by rw [Lib.toList_data]; exact (Lib.size_eq s).symm
  cases hl : s.toList with
  | nil => rw [hl] at h; simp at h; simp [← h]
  | cons a r => rw [hl] at h; simp at h; have h2 : ¬ s.size = 0 := (by omega); simp [h2]

theorem two_store {w : World} {g : Nat} {t : TypeId} {A B : Value} (h : Blk w g t #[A, B]) (a b : Value) : Blk ((w.setCell ⟨g, 0, none⟩ a).setCell ⟨g, 1, none⟩ b) g t #[a, b] := by
  have := (h.store 0 a).store 1 b
  simpa using this

set_option maxRecDepth 100000 in
set_option maxHeartbeats 4000000 in
theorem refUint_any (s : ByteArray) (n : Nat) (w : World) (hz : s.size ≤ 1000000000) :
    Calls Tryd.prog 31 #[.agg #[.string s, .int .i64 (n : Int)]] w fun e w' => e = .returned (.tuple #[rfV (uintR (sb s, n)).2, .int .u64 ((uintR (sb s, n)).1 : Int)]) ∧ Below w.heap.size w w' := by
  by_cases h0 : n = 0
  · subst h0
    have HU : Hid (uintR (sb s, 0) = uintG 0 0 (sb s)) := Lib.hid (by simp [uintR])
    go_enter Tryd.func31, Tryd.ntmps31
    go_wp2_with fail
    refine wp_abs (fun W => ∃ g, g = w.heap.size ∧ Blk W g 74 #[.string s, .int .i64 0] ∧ Blk W (g + 1) 74 #[.string ByteArray.empty, .int .i64 0] ∧ Below g w W) ⟨_, rfl, ?_, ?_, ?_⟩ ?_
    · exact (Blk.new w _ _).alloc _
    · exact Blk.new' (w := w.alloc _) (by simp) _ _
    · exact ((Below.refl w.heap.size w).alloc (Nat.le_refl _) _).alloc (by simp) _
    rintro W0 ⟨g, hg, hI⟩
    rw [← hg]
    have HI := Lib.hid hI
    have HG := Lib.hid hg
    clear hI hg
    go_loopw [4, 5, 6] (fun x m i wr => ∃ (k y p : Nat) (s' : ByteArray), k ≤ 9 ∧ y < p ∧ Hid (p = 128 ^ k) ∧ p ≤ 9223372036854775808 ∧ s'.size ≤ 1000000000 ∧ x = .int .u64 (y : Int) ∧ m = .int .u64 (p : Int) ∧ i = .int .i64 (k : Int) ∧ Hid (uintG 0 0 (sb s) = uintG k y (sb s')) ∧ Blk wr g 74 #[.string s', .int .i64 0] ∧ Blk wr (g + 1) 74 #[.string ByteArray.empty, .int .i64 0] ∧ Below g w wr) (fun _ _ i _ => 10 - (intOf i).toNat)
    case atStart => exact ⟨0, 0, 1, s, by omega, by omega, Lib.hid rfl, by omega, hz, rfl, rfl, rfl, Lib.hid rfl, HI.out⟩
    case round =>
      clear HI
      obtain ⟨k, y, p, s', hk, hy, HP, hp, hz', rfl, rfl, rfl, HE, hI⟩ := hrel
      have c0 := hI.1.cell 0
      have c1 := hI.1.cell 1
      have f0 := hI.1.frozen 0
      have f1 := hI.1.frozen 1
      have d0 := hI.2.1.cell 0
      have d1 := hI.2.1.cell 1
      have e0 := hI.2.1.frozen 0
      have e1 := hI.2.1.frozen 1
      simp only [List.getElem?_toArray, List.getElem?_cons_succ, List.getElem?_cons_zero] at c0 c1 d0 d1
      have HI := Lib.hid hI; clear hI
      by_cases hs : s'.size = 0
      · have h2 : s'.toList.isEmpty = true := by rw [isEmpty_iff]; exact decide_eq_true hs
        have h3 : s'.toList = [] := by simpa using h2
        have HEN : Hid (uintG k y (sb s') = (0, [], 10)) := Lib.hid (by rw [show sb s' = [] from List.eq_nil_of_length_eq_zero (by rw [sb_length]; exact hs)]; rfl)
        have HSN : Hid (s' = bs []) := Lib.hid (by rw [← bs_sb s', show sb s' = [] from List.eq_nil_of_length_eq_zero (by rw [sb_length]; exact hs)])
        clear hs
        go_wp2_with fail
        refine bodyPost_ret (results_cell_tmp Tryd.results31 rfl (t := 74) (g := g + 1) (cs := #[.string s', .int .i64 10]) ?_ Tryd.underlying74 rfl (by kernel_rfl)) rfl ⟨?_, ?_⟩
        · exact two_store (HI.out.2.1.other (p := ⟨g, 1, none⟩) (by show g + 1 ≠ g; omega) _) _ _
        · rw [HU.out, HE.out, HEN.out, HSN.out]; rfl
        · rw [← HG.out]; exact ((HI.out.2.2.setCell (p := ⟨g, 1, none⟩) (Nat.le_refl _) _).setCell (p := ⟨g + 1, 0, none⟩) (by show g ≤ g + 1; omega) _).setCell (p := ⟨g + 1, 1, none⟩) (by show g ≤ g + 1; omega) _
      · have h2 : s'.toList.isEmpty = false := by rw [isEmpty_iff]; exact decide_eq_false hs
        have h3 : ¬ s'.toList = [] := by simpa using h2
        have hs0 : 0 < s'.size := by omega
        have hs1 : 1 ≤ s'.size := by omega
        obtain ⟨c, r, hcr⟩ : ∃ c r, sb s' = c :: r := by
          cases hh : sb s' with
          | nil => have := sb_length s'; rw [hh] at this; simp at this; omega
          | cons c r => exact ⟨c, r, rfl⟩
        obtain ⟨q, hqc⟩ : ∃ q, q = c.toNat := ⟨_, rfl⟩
        have hq8 : q < 256 := by rw [hqc]; exact c.toNat_lt
        have hx0 : ((s'[0]).toNat : Int) = (q : Int) := by
          rw [hqc, ← sb_get s' hs0, hcr]; rfl
        have HXT : Hid (s'.extract 1 s'.size = bs r ∧ sb (bs r) = r ∧ (s'.extract 1 s'.size).size ≤ 1000000000) := Lib.hid (by
          have e : s'.extract 1 s'.size = bs r := by rw [← bs_sb (s'.extract 1 s'.size), sb_drop, hcr]; rfl
          refine ⟨e, sb_bs r, ?_⟩
          rw [e, bs_size]
          have h := sb_length s'
          rw [hcr] at h
          simp at h
          omega)
        rw [hcr] at HE
        have HQC := Lib.hid hqc
        obtain ⟨m, hm⟩ : ∃ m, m = q % 128 := ⟨_, rfl⟩
        have hm7 : m < 128 := by omega
        have HM := Lib.hid hm
        have hmi : (q : Int) % 128 = (m : Int) := by omega
        obtain ⟨t, ht⟩ : ∃ t, t = m * p := ⟨_, rfl⟩
        have HT : Hid (t = m * 128 ^ k) := Lib.hid (by rw [ht, HP.out])
        clear hm hqc hcr hs
        by_cases hbad : (k = 9 ∧ 1 < q) ∨ (0 < k ∧ q = 0)
        · have HEN : Hid (uintG k y (c :: r) = (0, r, 11)) := Lib.hid (uintG_bad (by rw [← HQC.out]; exact hbad))
          clear ht
          by_cases h9 : k = 9
          · by_cases h1 : 1 < q
            · have a1 : ((k : Int) == 9) = true := beq_iff_eq.2 (by omega)
              have a4 : decide (1 < (q : Int)) = true := decide_eq_true (by omega)
              go_wp2_with fail
              refine bodyPost_ret (results_cell_tmp Tryd.results31 rfl (t := 74) (g := g + 1) (cs := #[.string (s'.extract 1 s'.size), .int .i64 11]) ?_ Tryd.underlying74 rfl (by kernel_rfl)) rfl ⟨?_, ?_⟩
              · exact two_store ((HI.out.2.1.other (p := ⟨g, 0, none⟩) (by show g + 1 ≠ g; omega) _).other (p := ⟨g, 1, none⟩) (by show g + 1 ≠ g; omega) _) _ _
              · rw [HU.out, HE.out, HEN.out, HXT.out.1]; rfl
              · rw [← HG.out]; exact (((HI.out.2.2.setCell (p := ⟨g, 0, none⟩) (Nat.le_refl _) _).setCell (p := ⟨g, 1, none⟩) (Nat.le_refl _) _).setCell (p := ⟨g + 1, 0, none⟩) (by show g ≤ g + 1; omega) _).setCell (p := ⟨g + 1, 1, none⟩) (by show g ≤ g + 1; omega) _
            · have a1 : ((k : Int) == 9) = true := beq_iff_eq.2 (by omega)
              have a4 : decide (1 < (q : Int)) = false := decide_eq_false (by omega)
              have a2 : decide (0 < (k : Int)) = true := decide_eq_true (by omega)
              have a3 : ((q : Int) == 0) = true := beq_iff_eq.2 (by omega)
              go_wp2_with fail
              refine bodyPost_ret (results_cell_tmp Tryd.results31 rfl (t := 74) (g := g + 1) (cs := #[.string (s'.extract 1 s'.size), .int .i64 11]) ?_ Tryd.underlying74 rfl (by kernel_rfl)) rfl ⟨?_, ?_⟩
              · exact two_store ((HI.out.2.1.other (p := ⟨g, 0, none⟩) (by show g + 1 ≠ g; omega) _).other (p := ⟨g, 1, none⟩) (by show g + 1 ≠ g; omega) _) _ _
              · rw [HU.out, HE.out, HEN.out, HXT.out.1]; rfl
              · rw [← HG.out]; exact (((HI.out.2.2.setCell (p := ⟨g, 0, none⟩) (Nat.le_refl _) _).setCell (p := ⟨g, 1, none⟩) (Nat.le_refl _) _).setCell (p := ⟨g + 1, 0, none⟩) (by show g ≤ g + 1; omega) _).setCell (p := ⟨g + 1, 1, none⟩) (by show g ≤ g + 1; omega) _
          · have a1 : ((k : Int) == 9) = false := beq_eq_false_iff_ne.2 (by omega)
            have a2 : decide (0 < (k : Int)) = true := decide_eq_true (by omega)
            have a3 : ((q : Int) == 0) = true := beq_iff_eq.2 (by omega)
            go_wp2_with fail
            refine bodyPost_ret (results_cell_tmp Tryd.results31 rfl (t := 74) (g := g + 1) (cs := #[.string (s'.extract 1 s'.size), .int .i64 11]) ?_ Tryd.underlying74 rfl (by kernel_rfl)) rfl ⟨?_, ?_⟩
            · exact two_store ((HI.out.2.1.other (p := ⟨g, 0, none⟩) (by show g + 1 ≠ g; omega) _).other (p := ⟨g, 1, none⟩) (by show g + 1 ≠ g; omega) _) _ _
            · rw [HU.out, HE.out, HEN.out, HXT.out.1]; rfl
            · rw [← HG.out]; exact (((HI.out.2.2.setCell (p := ⟨g, 0, none⟩) (Nat.le_refl _) _).setCell (p := ⟨g, 1, none⟩) (Nat.le_refl _) _).setCell (p := ⟨g + 1, 0, none⟩) (by show g ≤ g + 1; omega) _).setCell (p := ⟨g + 1, 1, none⟩) (by show g ≤ g + 1; omega) _
        · have HB : Hid (¬ ((k = 9 ∧ 1 < c.toNat) ∨ (0 < k ∧ c.toNat = 0))) := Lib.hid (by rw [← HQC.out]; exact hbad)
          by_cases h9 : k = 9
          · have h7 : q < 128 := by omega
            have HEN : Hid (uintG k y (c :: r) = (y + t, r, 0)) := Lib.hid (by rw [HT.out, HM.out, Nat.mod_eq_of_lt h7, HQC.out] at *; exact uintG_end HB.out (by rw [← HQC.out]; exact h7))
            have h7i : (q : Int) < 128 := by omega
            have hst := step_lt hk (HP.out ▸ hy) hm7 (by have := HM.out; omega)
            rw [← HT.out] at hst
            have hmul : IntKind.u64.wrap ((p : Int) * (m : Int)) = (t : Int) := (by rw [show (p : Int) * (m : Int) = ((m * p : Nat) : Int) by rw [Int.mul_comm]; simp, ← ht, IntKind.wrap_u64]; omega)
            clear ht
            have a1 : ((k : Int) == 9) = true := beq_iff_eq.2 (by omega)
            have a4 : decide (1 < (q : Int)) = false := decide_eq_false (by omega)
            have a2 : decide (0 < (k : Int)) = true := decide_eq_true (by omega)
            have a3 : ((q : Int) == 0) = false := beq_eq_false_iff_ne.2 (by omega)
            go_wp2_with fail
            refine bodyPost_ret (results_cell_tmp Tryd.results31 rfl (t := 74) (g := g + 1) (cs := #[.string (s'.extract 1 s'.size), .int .i64 0]) ?_ Tryd.underlying74 rfl (by kernel_rfl)) rfl ⟨?_, ?_⟩
            · exact two_store (HI.out.2.1.other (p := ⟨g, 0, none⟩) (by show g + 1 ≠ g; omega) _) _ _
            · rw [HU.out, HE.out, HEN.out, HXT.out.1]; rfl
            · rw [← HG.out]; exact ((HI.out.2.2.setCell (p := ⟨g, 0, none⟩) (Nat.le_refl _) _).setCell (p := ⟨g + 1, 0, none⟩) (by show g ≤ g + 1; omega) _).setCell (p := ⟨g + 1, 1, none⟩) (by show g ≤ g + 1; omega) _
          · by_cases hk0 : 0 < k
            · by_cases h7 : q < 128
              · have HEN : Hid (uintG k y (c :: r) = (y + t, r, 0)) := Lib.hid (by rw [HT.out, HM.out, Nat.mod_eq_of_lt h7, HQC.out] at *; exact uintG_end HB.out (by rw [← HQC.out]; exact h7))
                have h7i : (q : Int) < 128 := by omega
                have hst := step_lt hk (HP.out ▸ hy) hm7 (by have := HM.out; omega)
                rw [← HT.out] at hst
                have hmul : IntKind.u64.wrap ((p : Int) * (m : Int)) = (t : Int) := (by rw [show (p : Int) * (m : Int) = ((m * p : Nat) : Int) by rw [Int.mul_comm]; simp, ← ht, IntKind.wrap_u64]; omega)
                clear ht
                have a1 : ((k : Int) == 9) = false := beq_eq_false_iff_ne.2 (by omega)
                have a2 : decide (0 < (k : Int)) = true := decide_eq_true (by omega)
                have a3 : ((q : Int) == 0) = false := beq_eq_false_iff_ne.2 (by omega)
                go_wp2_with fail
                refine bodyPost_ret (results_cell_tmp Tryd.results31 rfl (t := 74) (g := g + 1) (cs := #[.string (s'.extract 1 s'.size), .int .i64 0]) ?_ Tryd.underlying74 rfl (by kernel_rfl)) rfl ⟨?_, ?_⟩
                · exact two_store (HI.out.2.1.other (p := ⟨g, 0, none⟩) (by show g + 1 ≠ g; omega) _) _ _
                · rw [HU.out, HE.out, HEN.out, HXT.out.1]; rfl
                · rw [← HG.out]; exact ((HI.out.2.2.setCell (p := ⟨g, 0, none⟩) (Nat.le_refl _) _).setCell (p := ⟨g + 1, 0, none⟩) (by show g ≤ g + 1; omega) _).setCell (p := ⟨g + 1, 1, none⟩) (by show g ≤ g + 1; omega) _
              · have HEN : Hid (uintG k y (c :: r) = uintG (k + 1) (y + t) r) := Lib.hid (by rw [HT.out]; have e : m = q - 128 := (by rw [HM.out]; omega); rw [e, HQC.out]; exact uintG_more HB.out (by rw [← HQC.out]; exact h7))
                have h7i : ¬ (q : Int) < 128 := by omega
                have hnx := step_next (k := k) (q := m) (HP.out ▸ hy) hm7
                rw [← HT.out] at hnx
                have hp8 := (pow_le9 (i := k + 1) (by omega)).2
                have HNX : Hid (y + t < p * 128) := Lib.hid (by rw [HP.out, ← Nat.pow_succ]; exact hnx)
                have HP2 : Hid (p * 128 = 128 ^ (k + 1)) := Lib.hid (by rw [HP.out, ← Nat.pow_succ])
                have hp9 : p * 128 ≤ 9223372036854775808 := by rw [HP2.out]; exact hp8
                clear hnx hp8
                have hst := step_lt hk (HP.out ▸ hy) hm7 (by have := HM.out; omega)
                rw [← HT.out] at hst
                have hmul : IntKind.u64.wrap ((p : Int) * (m : Int)) = (t : Int) := (by rw [show (p : Int) * (m : Int) = ((m * p : Nat) : Int) by rw [Int.mul_comm]; simp, ← ht, IntKind.wrap_u64]; omega)
                clear ht
                have a1 : ((k : Int) == 9) = false := beq_eq_false_iff_ne.2 (by omega)
                have a2 : decide (0 < (k : Int)) = true := decide_eq_true (by omega)
                have a3 : ((q : Int) == 0) = false := beq_eq_false_iff_ne.2 (by omega)
                go_wp2_with fail
                refine ⟨⟨k + 1, y + t, p * 128, s'.extract 1 s'.size, by omega, HNX.out, HP2.out, hp9, HXT.out.2.2, by go_num, by go_num, by go_num, Lib.hid (by rw [HE.out, HEN.out, HXT.out.1, HXT.out.2.1]), ?_, HI.out.2.1.other (p := ⟨g, 0, none⟩) (by show g + 1 ≠ g; omega) _, HI.out.2.2.setCell (p := ⟨g, 0, none⟩) (Nat.le_refl _) _⟩, by simp [intOf]; omega⟩
                have := HI.out.1.store 0 (.string (s'.extract 1 s'.size))
                simpa using this
            · by_cases h7 : q < 128
              · have HEN : Hid (uintG k y (c :: r) = (y + t, r, 0)) := Lib.hid (by rw [HT.out, HM.out, Nat.mod_eq_of_lt h7, HQC.out] at *; exact uintG_end HB.out (by rw [← HQC.out]; exact h7))
                have h7i : (q : Int) < 128 := by omega
                have hst := step_lt hk (HP.out ▸ hy) hm7 (by have := HM.out; omega)
                rw [← HT.out] at hst
                have hmul : IntKind.u64.wrap ((p : Int) * (m : Int)) = (t : Int) := (by rw [show (p : Int) * (m : Int) = ((m * p : Nat) : Int) by rw [Int.mul_comm]; simp, ← ht, IntKind.wrap_u64]; omega)
                clear ht
                have a1 : ((k : Int) == 9) = false := beq_eq_false_iff_ne.2 (by omega)
                have a2 : decide (0 < (k : Int)) = false := decide_eq_false (by omega)
                go_wp2_with fail
                refine bodyPost_ret (results_cell_tmp Tryd.results31 rfl (t := 74) (g := g + 1) (cs := #[.string (s'.extract 1 s'.size), .int .i64 0]) ?_ Tryd.underlying74 rfl (by kernel_rfl)) rfl ⟨?_, ?_⟩
                · exact two_store (HI.out.2.1.other (p := ⟨g, 0, none⟩) (by show g + 1 ≠ g; omega) _) _ _
                · rw [HU.out, HE.out, HEN.out, HXT.out.1]; rfl
                · rw [← HG.out]; exact ((HI.out.2.2.setCell (p := ⟨g, 0, none⟩) (Nat.le_refl _) _).setCell (p := ⟨g + 1, 0, none⟩) (by show g ≤ g + 1; omega) _).setCell (p := ⟨g + 1, 1, none⟩) (by show g ≤ g + 1; omega) _
              · have HEN : Hid (uintG k y (c :: r) = uintG (k + 1) (y + t) r) := Lib.hid (by rw [HT.out]; have e : m = q - 128 := (by rw [HM.out]; omega); rw [e, HQC.out]; exact uintG_more HB.out (by rw [← HQC.out]; exact h7))
                have h7i : ¬ (q : Int) < 128 := by omega
                have hnx := step_next (k := k) (q := m) (HP.out ▸ hy) hm7
                rw [← HT.out] at hnx
                have hp8 := (pow_le9 (i := k + 1) (by omega)).2
                have HNX : Hid (y + t < p * 128) := Lib.hid (by rw [HP.out, ← Nat.pow_succ]; exact hnx)
                have HP2 : Hid (p * 128 = 128 ^ (k + 1)) := Lib.hid (by rw [HP.out, ← Nat.pow_succ])
                have hp9 : p * 128 ≤ 9223372036854775808 := by rw [HP2.out]; exact hp8
                clear hnx hp8
                have hst := step_lt hk (HP.out ▸ hy) hm7 (by have := HM.out; omega)
                rw [← HT.out] at hst
                have hmul : IntKind.u64.wrap ((p : Int) * (m : Int)) = (t : Int) := (by rw [show (p : Int) * (m : Int) = ((m * p : Nat) : Int) by rw [Int.mul_comm]; simp, ← ht, IntKind.wrap_u64]; omega)
                clear ht
                have a1 : ((k : Int) == 9) = false := beq_eq_false_iff_ne.2 (by omega)
                have a2 : decide (0 < (k : Int)) = false := decide_eq_false (by omega)
                go_wp2_with fail
                refine ⟨⟨k + 1, y + t, p * 128, s'.extract 1 s'.size, by omega, HNX.out, HP2.out, hp9, HXT.out.2.2, by go_num, by go_num, by go_num, Lib.hid (by rw [HE.out, HEN.out, HXT.out.1, HXT.out.2.1]), ?_, HI.out.2.1.other (p := ⟨g, 0, none⟩) (by show g + 1 ≠ g; omega) _, HI.out.2.2.setCell (p := ⟨g, 0, none⟩) (Nat.le_refl _) _⟩, by simp [intOf]; omega⟩
                have := HI.out.1.store 0 (.string (s'.extract 1 s'.size))
                simpa using this
  · have HU : Hid (uintR (sb s, n) = (0, (sb s, n))) := Lib.hid (by simp [uintR, h0])
    have h1 : ¬ (n : Int) = 0 := by omega
    go_enter Tryd.func31, Tryd.ntmps31
    go_wp2_with fail
    refine bodyPost_ret (results_cell_tmp Tryd.results31 rfl (t := 74) (g := w.heap.size + 1) (cs := #[.string s, .int .i64 (n : Int)]) ?_ Tryd.underlying74 rfl (by kernel_rfl)) rfl ⟨?_, ?_⟩
    · exact Blk.new' (w := w.alloc _) (by simp) _ _
    · rw [HU.out, rfV, bs_sb]; rfl
    · exact ((Below.refl w.heap.size w).alloc (Nat.le_refl _) _).alloc (by simp) _

theorem sb_take (y : ByteArray) (n : Nat) : sb (y.extract 0 n) = (sb y).take n := by
  unfold sb
  rw [ByteArray.data_extract, Array.toList_extract]
  simp [List.extract]

set_option maxRecDepth 100000 in
set_option maxHeartbeats 2000000 in
theorem refFixed_any (s : ByteArray) (n k : Nat) (w : World) (hz : s.size ≤ 1000000000) (hk : k ≤ 140737488351232) :
    Calls Tryd.prog 49 #[.agg #[.string s, .int .i64 (n : Int)], .int .i64 (k : Int)] w fun e w' => e = .returned (.tuple #[rfV (takC k (sb s, n)).2, .string (bs (takC k (sb s, n)).1)]) ∧ Below w.heap.size w w' := by
  have hB := ((Below.refl w.heap.size w).alloc (Nat.le_refl _) (.cells #[.string s, .int .i64 (n : Int)] 74)).alloc (by simp) (.cells #[.string s, .int .i64 (n : Int)] 74)
  by_cases h0 : n = 0
  · subst h0
    by_cases hl : s.size < k
    · have HU : Hid (takC k (sb s, 0) = ([], (sb s, 10))) := Lib.hid (by simp only [takC, ↓reduceIte, sb_length]; rw [if_pos hl])
      have hli : (s.size : Int) < (k : Int) := by omega
      have hkn : ¬ (k : Int) < 0 := by omega
      go_enter Tryd.func49, Tryd.ntmps49
      go_wp2_with fail
      refine bodyPost_ret (results_cell_tmp Tryd.results49 rfl (t := 74) (g := w.heap.size + 1) (cs := #[.string s, .int .i64 10]) ?_ Tryd.underlying74 rfl (by kernel_rfl)) rfl ⟨?_, ?_⟩
      · exact Blk.new' (w := w.alloc _) (by simp) _ _
      · rw [HU.out, rfV, bs_sb]; rfl
      · exact ((Below.refl w.heap.size w).alloc (Nat.le_refl _) _).alloc (by simp) _
    · have HU : Hid (takC k (sb s, 0) = ((sb s).take k, ((sb s).drop k, 0))) := Lib.hid (by simp only [takC, ↓reduceIte, sb_length]; rw [if_neg hl])
      have hli : ¬ (s.size : Int) < (k : Int) := by omega
      have hkn : ¬ (k : Int) < 0 := by omega
      go_enter Tryd.func49, Tryd.ntmps49
      go_wp2_with fail
      refine bodyPost_ret (results_cell_tmp Tryd.results49 rfl (t := 74) (g := w.heap.size + 1) (cs := #[.string (s.extract k s.size), .int .i64 0]) ?_ Tryd.underlying74 rfl (by kernel_rfl)) rfl ⟨?_, ?_⟩
      · exact Blk.new' (w := w.alloc _) (by simp) _ _
      · rw [HU.out, rfV, ← sb_drop, bs_sb, ← sb_take, bs_sb]; rfl
      · exact ((Below.refl w.heap.size w).alloc (Nat.le_refl _) _).alloc (by simp) _
  · have HU : Hid (takC k (sb s, n) = ([], (sb s, n))) := Lib.hid (by simp [takC, h0])
    have h1 : ¬ (n : Int) = 0 := by omega
    go_enter Tryd.func49, Tryd.ntmps49
    go_wp2_with fail
    refine bodyPost_ret (results_cell_tmp Tryd.results49 rfl (t := 74) (g := w.heap.size + 1) (cs := #[.string s, .int .i64 (n : Int)]) ?_ Tryd.underlying74 rfl (by kernel_rfl)) rfl ⟨?_, ?_⟩
    · exact Blk.new' (w := w.alloc _) (by simp) _ _
    · rw [HU.out, rfV, bs_sb]; rfl
    · exact ((Below.refl w.heap.size w).alloc (Nat.le_refl _) _).alloc (by simp) _

set_option maxRecDepth 100000 in
set_option maxHeartbeats 2000000 in
theorem refBytes_any (s : ByteArray) (n most : Nat) (w : World) (hz : s.size ≤ 1000000000) (hk : most < 140737488351232) :
    Calls Tryd.prog 32 #[.agg #[.string s, .int .i64 (n : Int)], .int .i64 (most : Int)] w fun e w' => e = .returned (.tuple #[rfV (bytesR most (sb s, n)).2, .string (bs (bytesR most (sb s, n)).1)]) ∧ Below w.heap.size w w' := by
  obtain ⟨x, hx⟩ : ∃ x, x = (uintR (sb s, n)).1 := ⟨_, rfl⟩
  obtain ⟨L, hL⟩ : ∃ L, L = (uintR (sb s, n)).2.1 := ⟨_, rfl⟩
  obtain ⟨E, hE⟩ : ∃ E, E = (uintR (sb s, n)).2.2 := ⟨_, rfl⟩
  have hx64 : x < 18446744073709551616 := by rw [hx]; exact uintR_lt _
  have hLs : L.length ≤ s.size := by
    rw [hL, ← sb_length]
    unfold uintR
    split
    · obtain ⟨j, hj, e⟩ := uintG_left 0 0 (sb s)
      rw [e, List.length_drop]; omega
    · exact Nat.le_refl _
  have hU : rfV (uintR (sb s, n)).2 = .agg #[.string (bs L), .int .i64 (E : Int)] := by rw [hL, hE]; rfl
  have hb : bytesR most (sb s, n) = if E = 0 then (if most < x then ([], L, 13) else takC x (L, E)) else ([], (L, E)) := by rw [hx, hL, hE]; rfl
  have HX := Lib.hid hx
  have HU := Lib.hid hU
  have a1 : decide ((most : Int) < 0) = false := decide_eq_false (by omega)
  have hmw : IntKind.u64.wrap (most : Int) = (most : Int) := by rw [IntKind.wrap_u64]; omega
  clear hx hL hE hU
  by_cases h0 : E = 0
  · subst h0
    rw [if_pos rfl] at hb
    by_cases hl : most < x
    · rw [if_pos hl] at hb
      have HB := Lib.hid hb
      have hli : (most : Int) < (x : Int) := by omega
      clear hb
      go_enter Tryd.func32, Tryd.ntmps32
      go_wp2_with fail
      refine (refUint_any s n _ hz).mono ?_
      rintro e w1 ⟨rfl, hb1⟩
      rw [HU.out, ← HX.out]
      have HI : Hid (∃ g, g = w.heap.size ∧ Blk w1 g 74 #[.string s, .int .i64 (n : Int)] ∧ Blk w1 (g + 1) 74 #[.string ByteArray.empty, .int .i64 0] ∧ Below g w w1) := Lib.hid ⟨_, rfl, ((Blk.new w _ _).alloc _).below hb1 (by simp; omega), (Blk.new' (w := w.alloc _) (by simp) _ _).below hb1 (by simp), (((Below.refl w.heap.size w).alloc (Nat.le_refl _) _).alloc (by simp) _).trans (hb1.mono (by simp; omega))⟩
      clear hb1
      obtain ⟨g, hg, hI⟩ := HI.out
      rw [← hg]
      have HG := Lib.hid hg
      have c0 := hI.1.cell 0
      have c1 := hI.1.cell 1
      have f0 := hI.1.frozen 0
      have f1 := hI.1.frozen 1
      have d0 := hI.2.1.cell 0
      have d1 := hI.2.1.cell 1
      have e0 := hI.2.1.frozen 0
      have e1 := hI.2.1.frozen 1
      simp only [List.getElem?_toArray, List.getElem?_cons_succ, List.getElem?_cons_zero] at c0 c1 d0 d1
      have HJ := Lib.hid hI
      clear hI HI hg
      go_wp2_with fail
      refine bodyPost_ret (results_cell_tmp Tryd.results32 rfl (t := 74) (g := g + 1) (cs := #[.string (bs L), .int .i64 13]) ?_ Tryd.underlying74 rfl (by kernel_rfl)) rfl ⟨?_, ?_⟩
      · exact two_store (((HJ.out.2.1.other (p := ⟨g, 0, none⟩) (by show g + 1 ≠ g; omega) _).other (p := ⟨g, 1, none⟩) (by show g + 1 ≠ g; omega) _).other (p := ⟨g, 1, none⟩) (by show g + 1 ≠ g; omega) _) _ _
      · rw [HB.out]; rfl
      · rw [← HG.out]; exact ((((HJ.out.2.2.setCell (p := ⟨g, 0, none⟩) (Nat.le_refl _) _).setCell (p := ⟨g, 1, none⟩) (Nat.le_refl _) _).setCell (p := ⟨g, 1, none⟩) (Nat.le_refl _) _).setCell (p := ⟨g + 1, 0, none⟩) (by show g ≤ g + 1; omega) _).setCell (p := ⟨g + 1, 1, none⟩) (by show g ≤ g + 1; omega) _
    · rw [if_neg hl] at hb
      have HB := Lib.hid hb
      have hli : ¬ (most : Int) < (x : Int) := by omega
      have hxb : x ≤ 140737488351232 := by omega
      clear hb
      go_enter Tryd.func32, Tryd.ntmps32
      go_wp2_with fail
      refine (refUint_any s n _ hz).mono ?_
      rintro e w1 ⟨rfl, hb1⟩
      rw [HU.out, ← HX.out]
      have HI : Hid (∃ g, g = w.heap.size ∧ Blk w1 g 74 #[.string s, .int .i64 (n : Int)] ∧ Blk w1 (g + 1) 74 #[.string ByteArray.empty, .int .i64 0] ∧ Below g w w1) := Lib.hid ⟨_, rfl, ((Blk.new w _ _).alloc _).below hb1 (by simp; omega), (Blk.new' (w := w.alloc _) (by simp) _ _).below hb1 (by simp), (((Below.refl w.heap.size w).alloc (Nat.le_refl _) _).alloc (by simp) _).trans (hb1.mono (by simp; omega))⟩
      clear hb1
      obtain ⟨g, hg, hI⟩ := HI.out
      rw [← hg]
      have HG := Lib.hid hg
      have c0 := hI.1.cell 0
      have c1 := hI.1.cell 1
      have f0 := hI.1.frozen 0
      have f1 := hI.1.frozen 1
      have d0 := hI.2.1.cell 0
      have d1 := hI.2.1.cell 1
      have e0 := hI.2.1.frozen 0
      have e1 := hI.2.1.frozen 1
      simp only [List.getElem?_toArray, List.getElem?_cons_succ, List.getElem?_cons_zero] at c0 c1 d0 d1
      have HJ := Lib.hid hI
      clear hI HI hg
      go_wp2_with fail
      refine (refFixed_any (bs L) 0 x _ (by rw [bs_size]; omega) hxb).mono ?_
      rintro e w2 ⟨rfl, hb2⟩
      obtain ⟨T, hT⟩ : ∃ T, T = takC x (sb (bs L), 0) := ⟨_, rfl⟩
      rw [← hT]
      have HT : Hid (T = takC x (L, 0)) := Lib.hid (by rw [hT, sb_bs])
      have HE : Hid (rfV T.2 = .agg #[.string (bs T.2.1), .int .i64 (T.2.2 : Int)]) := Lib.hid rfl
      rw [HE.out]
      have hB2 : Blk w2 (g + 1) 74 #[.string ByteArray.empty, .int .i64 0] := ((HJ.out.2.1.other (p := ⟨g, 0, none⟩) (by show g + 1 ≠ g; omega) _).other (p := ⟨g, 1, none⟩) (by show g + 1 ≠ g; omega) _).below hb2 (by have := HJ.out.2.1.lt; simpa [World.setCell] using this)
      have hbb := ((HJ.out.2.2.setCell (p := ⟨g, 0, none⟩) (Nat.le_refl _) _).setCell (p := ⟨g, 1, none⟩) (Nat.le_refl _) _).trans (hb2.mono (by have := HJ.out.1.lt; simp [World.setCell]; omega))
      have d0' := hB2.cell 0
      have d1' := hB2.cell 1
      have e0' := hB2.frozen 0
      have e1' := hB2.frozen 1
      simp only [List.getElem?_toArray, List.getElem?_cons_succ, List.getElem?_cons_zero] at d0' d1'
      have HK := Lib.hid (And.intro hB2 hbb)
      clear hT hb2 hB2 hbb
      go_wp2_with fail
      refine bodyPost_ret (results_cell_tmp Tryd.results32 rfl (t := 74) (g := g + 1) (cs := #[.string (bs T.2.1), .int .i64 (T.2.2 : Int)]) ?_ Tryd.underlying74 rfl (by kernel_rfl)) rfl ⟨?_, ?_⟩
      · exact two_store HK.out.1 _ _
      · rw [HB.out, ← HT.out]; rfl
      · rw [← HG.out]; exact (HK.out.2.setCell (p := ⟨g + 1, 0, none⟩) (by show g ≤ g + 1; omega) _).setCell (p := ⟨g + 1, 1, none⟩) (by show g ≤ g + 1; omega) _
  · rw [if_neg h0] at hb
    have HB := Lib.hid hb
    have h0i : ¬ (E : Int) = 0 := by omega
    clear hb
    go_enter Tryd.func32, Tryd.ntmps32
    go_wp2_with fail
    refine (refUint_any s n _ hz).mono ?_
    rintro e w1 ⟨rfl, hb1⟩
    rw [HU.out, ← HX.out]
    have HI : Hid (∃ g, g = w.heap.size ∧ Blk w1 g 74 #[.string s, .int .i64 (n : Int)] ∧ Blk w1 (g + 1) 74 #[.string ByteArray.empty, .int .i64 0] ∧ Below g w w1) := Lib.hid ⟨_, rfl, ((Blk.new w _ _).alloc _).below hb1 (by simp; omega), (Blk.new' (w := w.alloc _) (by simp) _ _).below hb1 (by simp), (((Below.refl w.heap.size w).alloc (Nat.le_refl _) _).alloc (by simp) _).trans (hb1.mono (by simp; omega))⟩
    clear hb1
    obtain ⟨g, hg, hI⟩ := HI.out
    rw [← hg]
    have HG := Lib.hid hg
    have c0 := hI.1.cell 0
    have c1 := hI.1.cell 1
    have f0 := hI.1.frozen 0
    have f1 := hI.1.frozen 1
    have d0 := hI.2.1.cell 0
    have d1 := hI.2.1.cell 1
    have e0 := hI.2.1.frozen 0
    have e1 := hI.2.1.frozen 1
    simp only [List.getElem?_toArray, List.getElem?_cons_succ, List.getElem?_cons_zero] at c0 c1 d0 d1
    have HJ := Lib.hid hI
    clear hI HI hg
    go_wp2_with fail
    refine bodyPost_ret (results_cell_tmp Tryd.results32 rfl (t := 74) (g := g + 1) (cs := #[.string (bs L), .int .i64 (E : Int)]) ?_ Tryd.underlying74 rfl (by kernel_rfl)) rfl ⟨?_, ?_⟩
    · exact two_store ((HJ.out.2.1.other (p := ⟨g, 0, none⟩) (by show g + 1 ≠ g; omega) _).other (p := ⟨g, 1, none⟩) (by show g + 1 ≠ g; omega) _) _ _
    · rw [HB.out]; rfl
    · rw [← HG.out]; exact (((HJ.out.2.2.setCell (p := ⟨g, 0, none⟩) (Nat.le_refl _) _).setCell (p := ⟨g, 1, none⟩) (Nat.le_refl _) _).setCell (p := ⟨g + 1, 0, none⟩) (by show g ≤ g + 1; omega) _).setCell (p := ⟨g + 1, 1, none⟩) (by show g ≤ g + 1; omega) _
end Go.Proofs.YtlkhbfafednegaaDoor
