/-
  The walk of the law PacksGets.
-/
import Derived.Test.YtlopiinkpdpakaaPkA
import Derived.Test.YtlopiinkpdpakaaPk5
namespace Go.Proofs.Ytlopiinkpdpakaa
open Go Go.RowKit
set_option linter.unusedSimpArgs false
set_option linter.unusedVariables false

theorem getP_length (b : List UInt8) : (getP b).1.length ≤ 1024 := by
  have hn : (uintR (b, 0)).2.2 = 0 ∨ (uintR (b, 0)).1 = 0 := by
    have e : uintR (b, 0) = uintG 0 0 b := by simp [uintR]
    rw [e]
    exact uintG_err 0 0 b
  unfold getP
  split
  · exact Nat.zero_le _
  · split
    · exact Nat.zero_le _
    · rename_i h
      split
      · split
        · rw [readN_length]
          rcases hn with h0 | h0
          · rcases Nat.lt_or_ge 1024 (uintR (b, 0)).1 with h1 | h1
            · exact absurd ⟨h0, .inr h1⟩ h
            · exact h1
          · rw [h0]; exact Nat.zero_le _
        · exact Nat.zero_le _
      · exact Nat.zero_le _

set_option maxRecDepth 100000 in
set_option maxHeartbeats 2000000 in
theorem packsGets_any (b : List UInt8) (v : Value) (w : World) (h : HB w v b) :
    Calls Try.prog 3 #[v] w fun e w' => e = .returned (.bool true) ∧ Below w.heap.size w w' := by
  obtain ⟨p, cap, rfl, hlc, hcm⟩ := h.form
  obtain ⟨n, hnn⟩ : ∃ n, n = b.length := ⟨_, rfl⟩
  have h' := h
  rw [← hnn] at hlc h' ⊢
  have H := Lib.hid h'
  have HN := Lib.hid hnn
  unfold maxLen at hcm
  clear h h' hnn
  go_enter Try.func3, Try.ntmps3
  go_wp2_with fail
  refine (awake13_any w).mono ?_
  rintro e w1 ⟨rfl, hb1⟩
  have HB1 := Lib.hid hb1
  clear hb1
  by_cases hbig : 1000 < n
  · have hbi : (1000 : Int) < (n : Int) := by omega
    go_wp2_with fail
    go_ret
    exact ⟨rfl, HB1.out⟩
  have hbi : ¬ (1000 : Int) < (n : Int) := by omega
  have H1 := Lib.hid (H.out.keep HB1.out)
  go_wp2_with fail
  refine (get_any _ b w1 H1.out (by rw [← HN.out]; omega)).mono ?_
  rintro e w2 ⟨v2, rfl, hr2, hb2⟩
  obtain ⟨ls, hls⟩ : ∃ ls, ls = (getP b).1 := ⟨_, rfl⟩
  obtain ⟨E, hE⟩ : ∃ E, E = (getP b).2 := ⟨_, rfl⟩
  have hGP : getP b = (ls, E) := by rw [hls, hE]
  have HGP := Lib.hid hGP
  rw [← hE]
  rw [← hls] at hr2
  have hln : ls.length ≤ 1000000 := by
    have h1 := getP_length b
    rw [hGP] at h1
    exact Nat.le_trans h1 (by decide)
  obtain ⟨A2, c2, rfl⟩ := hr2.form
  have HI2 : Hid (RowsB w2 w1.heap.size (.slice A2 ls.length c2) ls.length ls ∧ Below w.heap.size w w2 ∧ HB w2 (.slice p n cap) b) := Lib.hid ⟨hr2, HB1.out.trans (hb2.mono HB1.out.size), H1.out.keep hb2⟩
  have hcv := HI2.out.2.2.str Try.underlying22 Try.underlying5 Try.underlying9
  clear hr2 hb2 H1 hls hE hGP
  go_wp2_with fail
  refine (refGet_any (bs b) w2 (by rw [bs_size, ← HN.out]; omega)).mono ?_
  rw [sb_bs, HGP.out]
  rintro e w3 ⟨v3, rfl, hr3, hb3⟩
  obtain ⟨A3, c3, rfl⟩ := own_form hr3
  have HI3 : Hid (RowsB w3 w1.heap.size (.slice A2 ls.length c2) ls.length ls ∧ Below w.heap.size w w3 ∧ HB w3 (.slice p n cap) b ∧ StrR w3 w2.heap.size (.slice A3 ls.length c3) ls.length ls) := Lib.hid ⟨HI2.out.1.keep hb3, HI2.out.2.1.trans (hb3.mono HI2.out.2.1.size), HI2.out.2.2.keep hb3, hr3⟩
  clear hr3 hb3 HI2 hcv
  go_wp2_with fail
  refine (texts_any _ ls w3 HI3.out.1.hbs hln).mono ?_
  rintro e w4 ⟨v4, rfl, hr4, hb4⟩
  obtain ⟨A4, c4, rfl⟩ := own_form hr4
  have HI4 : Hid (RowsB w4 w1.heap.size (.slice A2 ls.length c2) ls.length ls ∧ Below w.heap.size w w4 ∧ HB w4 (.slice p n cap) b ∧ StrR w4 w2.heap.size (.slice A3 ls.length c3) ls.length ls ∧ StrR w4 w3.heap.size (.slice A4 ls.length c4) ls.length ls) := Lib.hid ⟨HI3.out.1.keep hb4, HI3.out.2.1.trans (hb4.mono HI3.out.2.1.size), HI3.out.2.2.1.keep hb4, HI3.out.2.2.2.keep hb4, hr4⟩
  clear hr4 hb4 HI3
  go_wp2_with fail
  refine (same13_any _ _ _ _ _ _ ls ls w4 HI4.out.2.2.2.2 HI4.out.2.2.2.1 hln).mono ?_
  rintro e w5 ⟨rfl, hb5⟩
  rw [show (ls == ls) = true from beq_self_eq_true ls]
  have HI5 : Hid (RowsB w5 w1.heap.size (.slice A2 ls.length c2) ls.length ls ∧ Below w.heap.size w w5 ∧ HB w5 (.slice p n cap) b) := Lib.hid ⟨HI4.out.1.keep hb5, HI4.out.2.1.trans (hb5.mono HI4.out.2.1.size), HI4.out.2.2.1.keep hb5⟩
  clear hb5 HI4
  by_cases hE0 : E = 0
  · subst hE0
    have HPG := Lib.hid (put_get HGP.out)
    rw [show ((0 : Nat) : Int) = 0 from rfl]
    go_wp2_with fail
    refine (put_any _ ls w5 HI5.out.1.hbs).mono ?_
    rw [HPG.out]
    rintro e w6 ⟨v6, rfl, ho6, hb6⟩
    have ho6' := own_hb ho6 rfl
    obtain ⟨A6, c6, rfl⟩ := own_form ho6
    have HI6 : Hid (Below w.heap.size w w6) := Lib.hid (HI5.out.2.1.trans (hb6.mono HI5.out.2.1.size))
    have hcv := (HI5.out.2.2.keep hb6).str Try.underlying22 Try.underlying5 Try.underlying9
    have hcv2 := ho6'.str Try.underlying22 Try.underlying5 Try.underlying9
    clear ho6 ho6' hb6 HI5
    go_wp2_with fail
    go_ret
    exact ⟨rfl, HI6.out⟩
  · have hEi : ¬ (E : Int) = 0 := by omega
    go_wp2_with fail
    go_ret
    exact ⟨rfl, HI5.out.2.1⟩
end Go.Proofs.Ytlopiinkpdpakaa
