/-
  ReplayTakes: its walk.
-/
import Derived.Test.YtfgbkigeejlahaaRaw
import Derived.Deep.RegionHeld3
namespace Go.Proofs.Ytfgbkigeejlahaa
open Go Go.RowKit

def u64v (x : UInt64) : Value := .int .u64 x.toNat

theorem refSeen (t b n : UInt64) (w : World) :
    Calls Try.prog 8 #[.agg #[.int .u64 t.toNat, .int .u64 b.toNat], .int .u64 n.toNat] w fun e w' =>
      e = .returned (.bool (seenF t b n)) ∧ Below w.heap.size w w' := by
  rw [seen_eq]; exact seenR_any t b n w

set_option maxHeartbeats 2000000 in
theorem takes_any (t b : UInt64) (A : Option Addr) (cap : Nat) (xs : List UInt64) (w : World) (hx : Rd w w.heap.size A (xs.map u64v)) (hlen : xs.length ≤ 9223372036854775807) :
    Calls Try.prog 3 #[.agg #[.int .u64 t.toNat, .int .u64 b.toNat], .slice A xs.length cap] w fun e w' => e = .returned (.bool true) ∧ Below w.heap.size w w' := by
  have HX := Lib.hid hx; clear hx
  go_enter Try.func3, Try.ntmps3
  go_wp2_with (go_at_call 6; refine (awake_any _).mono ?_; rintro e w1 ⟨rfl, hb1⟩; obtain ⟨hcc, hff⟩ := bcell hb1)
  have hs1 : w.heap.size < w1.heap.size := by have := hb1.size; simp at this; omega
  have hW0 := (Blk.new w 24 #[.int .u64 t.toNat, .int .u64 b.toNat]).below hb1 (by simp)
  have hB0 : Below w.heap.size w w1 := ((Below.refl w.heap.size w).alloc (Nat.le_refl _) _).trans (hb1.mono (by simp))
  have START : Hid (Win (w1.alloc (.cells #[.int .u64 t.toNat, .int .u64 b.toNat] 27)) w.heap.size t b ∧ Blk (w1.alloc (.cells #[.int .u64 t.toNat, .int .u64 b.toNat] 27)) w1.heap.size 27 #[.int .u64 t.toNat, .int .u64 b.toNat] ∧ Below w.heap.size w (w1.alloc (.cells #[.int .u64 t.toNat, .int .u64 b.toNat] 27))) :=
    Lib.hid ⟨hW0.alloc _, Blk.new _ _ _, hB0.alloc (by omega) _⟩
  generalize hg1 : w1.heap.size = g1 at *
  generalize hg0 : w.heap.size = g0 at *
  have HG0 := Lib.hid hg0; clear hg0
  have HG1 := Lib.hid hg1; clear hg1
  clear hW0 hcc hff hb1 hB0
  go_loopw [7] (fun i wr => ∃ (k : Nat) (t b : UInt64), k ≤ xs.length ∧ k ≤ 60 ∧ i = .int .i64 k ∧ Win wr g0 t b ∧ Blk wr g1 27 #[.int .u64 t.toNat, .int .u64 b.toNat] ∧ Below g0 w wr) (fun i _ => 60 - (intOf i).toNat)
  case atStart => exact ⟨0, t, b, by omega, by omega, rfl, START.out.1, START.out.2.1, START.out.2.2⟩
  case round =>
    clear START
    obtain ⟨k, t', b', hk1, hk2, rfl, hW, hM, hB⟩ := hrel
    have hl0 := hW.lt
    have hl1 := hM.lt
    have a0 := hW.cell 0
    have a1 := hW.cell 1
    have m0 := hM.cell 0
    have m1 := hM.cell 1
    have HB := Lib.hid hB; have HW := Lib.hid hW; have HM := Lib.hid hM
    clear hB hW hM
    by_cases hlt : k < xs.length
    · by_cases hl2 : k < 60
      · obtain ⟨n, hn⟩ : ∃ n, xs[k]? = some n := ⟨xs[k], by simp [hlt]⟩
        obtain ⟨ab, aoff, rfl, hab, hcell⟩ := ((HX.out).below HB.out).at_ (i := k) (v := .int .u64 n.toNat) (by simp [hn, u64v])
        have hab2 : ab < wr.heap.size := by omega
        have hd : decide ((k : Int) < 60) = true := decide_eq_true (by omega)
        have hi0 : (0 : Int) ≤ (k : Int) := by omega
        have hi1 : (k : Int) < (xs.length : Int) := by omega
        clear hn
        go_wp2_with fail
        go_region_held3 (fun W => W.cell? ⟨g0, 0, none⟩ = some (.int .u64 t'.toNat) ∧ W.cell? ⟨g0, 1, none⟩ = some (.int .u64 b'.toNat) ∧ W.cell? ⟨g1, 0, none⟩ = some (.int .u64 t'.toNat) ∧ W.cell? ⟨g1, 1, none⟩ = some (.int .u64 b'.toNat) ∧ W.cell? ⟨ab, aoff + k, none⟩ = some (.int .u64 n.toNat) ∧ Below wr.heap.size wr W)
          (first
            | exact ⟨a0, a1, m0, m1, hcell, (Below.refl _ _).drew⟩
            | (have hq := s5.size; exact ⟨(hb2.cell (p := ⟨g0, 0, none⟩) (show g0 < _ from by omega)).trans s0, (hb2.cell (p := ⟨g0, 1, none⟩) (show g0 < _ from by omega)).trans s1, (hb2.cell (p := ⟨g1, 0, none⟩) (show g1 < _ from by omega)).trans s2, (hb2.cell (p := ⟨g1, 1, none⟩) (show g1 < _ from by omega)).trans s3, (hb2.cell (p := ⟨ab, aoff + k, none⟩) (show ab < _ from by omega)).trans s4, s5.trans (hb2.mono hq)⟩))
          (first
            | (go_at_call 7; refine (seen_any _ _ _ _).mono ?_; rintro e w2 ⟨rfl, hb2⟩; go_split_ands; rename_i s0 s1 s2 s3 s4 s5)
            | (go_at_call 8; refine (refSeen _ _ _ _).mono ?_; rintro e w2 ⟨rfl, hb2⟩; go_split_ands; rename_i s0 s1 s2 s3 s4 s5))
        obtain ⟨-, -, -, -, hcell2, hr2⟩ := ‹_ ∧ _ ∧ _ ∧ _ ∧ _ ∧ Below wr.heap.size wr w2›
        have hW2 := (HW.out).below hr2 hl0
        have hM2 := (HM.out).below hr2 hl1
        have hB2 := (HB.out).trans (hr2.mono (by omega))
        have hz2 := hr2.size
        clear a0 a1 m0 m1 HB HW HM hcell s0 s1 s2 s3 s4 s5 hb2
        have hgl0 := hW2.lt
        have hgl1 := hM2.lt
        have hgl2 : ab < w2.heap.size := by omega
        cases hs : seenF t' b' n with
        | true =>
          go_wp2_with fail
          refine (take_old _ _ _ _ _ hW2 hs).mono ?_
          rintro e w3 ⟨rfl, hb3⟩
          have hW3 := hW2.below hb3 hgl0
          have hM3 := hM2.below hb3 hgl1
          have hB3 := hB2.trans (hb3.mono (by omega))
          have hcell3 := (hb3.cell (p := ⟨ab, aoff + k, none⟩) hgl2).trans hcell2
          have hz3 := hb3.size
          clear hW2 hM2 hB2 hcell2 hb3
          have m0 := hM3.cell 0
          have m1 := hM3.cell 1
          have HW := Lib.hid hW3; have HM := Lib.hid hM3; have HB := Lib.hid hB3
          clear hW3 hM3 hB3
          go_wp2_with fail
          have hm1 : g1 < w3.heap.size := by omega
          have hm2 : ab < w3.heap.size := by omega
          go_region_held3 (fun W => (∀ b o, b < w3.heap.size → W.cell? ⟨b, o, none⟩ = w3.cell? ⟨b, o, none⟩) ∧ Below w3.heap.size w3 W)
            (first | exact sx_start _ | exact hS4 | exact sx_alloc _ hS4 | exact sx_alloc_drew _ (sx_start _) | exact sx_store (Nat.le_refl _) _ (sx_store (Nat.le_refl _) _ hS4))
            (first
              | (go_at_call 10; refine (refTake_old _ _ _ _ hs).mono ?_; rintro e w4 ⟨rfl, hb4⟩; have hS4 := sx_call hb4 (w := w3) (by assumption); obtain ⟨hcc4, hff4⟩ := bcell hb4))
          · have hv5 := Blk.new w4 27 #[.int .u64 t'.toNat, .int .u64 b'.toNat]
            have hS5 : Below w3.heap.size w3 (w4.alloc (.cells #[.int .u64 t'.toNat, .int .u64 b'.toNat] 27)) := hS4.2.alloc hS4.2.size _
            have hg5 := hS4.2.size
            rename_i hH
            clear hb4 hcc4 hff4 hS4 hH
            generalize w4.alloc (.cells #[.int .u64 t'.toNat, .int .u64 b'.toNat] 27) = w5 at *
            generalize w4.heap.size = g5 at *
            have hk5 := hS5.size
            have hW5 := (HW.out).below hS5 (by omega)
            have hM5 := (HM.out).below hS5 hm1
            have hB5 := (HB.out).trans (hS5.mono (by omega))
            have hne : g1 ≠ g5 := by omega
            have hne0 : g0 ≠ g1 := by omega
            have hW6 := (hW5.other (p := ⟨g1, 0, none⟩) hne0 (.int .u64 t'.toNat)).other (p := ⟨g1, 1, none⟩) hne0 (.int .u64 b'.toNat)
            have hM6 := (hM5.store 0 (.int .u64 t'.toNat)).store 1 (.int .u64 b'.toNat)
            have hB6 := (hB5.setCell (p := ⟨g1, 0, none⟩) (show g0 ≤ g1 from by omega) (.int .u64 t'.toNat)).setCell (p := ⟨g1, 1, none⟩) (show g0 ≤ g1 from by omega) (.int .u64 b'.toNat)
            have v0 := hv5.cell 0
            have v1 := hv5.cell 1
            have c0 := hM5.cell 0
            have c1 := hM5.cell 1
            have f0 := hM5.frozen 0
            have f1 := hM5.frozen 1
            have d0 := hW6.cell 0
            have d1 := hW6.cell 1
            have HW6 := Lib.hid hW6; have HM6 := Lib.hid hM6; have HB6 := Lib.hid hB6
            clear hW5 hM5 hB5 hv5 hW6 hM6 hB6 hS5 HW HM HB m0 m1 hcell3
            go_wp2_with fail
            go_roundw
            case rel => exact ⟨k + 1, t', b', by omega, by omega, by go_num, HW6.out, HM6.out, HB6.out⟩
            case measure => simp [intOf]; omega
          · have hv5 := (((Blk.new w3 27 #[.int .u64 0, .int .u64 0]).drew.below hb4 (by simp)).store 0 (.int .u64 t'.toNat)).store 1 (.int .u64 b'.toNat)
            have hS5 : Below w3.heap.size w3 ((w4.setCell ⟨w3.heap.size, 0, none⟩ (.int .u64 t'.toNat)).setCell ⟨w3.heap.size, 1, none⟩ (.int .u64 b'.toNat)) := (hS4.2.setCell (Nat.le_refl _) _).setCell (Nat.le_refl _) _
            have hg5 := Nat.le_refl w3.heap.size
            rename_i hH
            clear hb4 hcc4 hff4 hS4 hH
            generalize (w4.setCell ⟨w3.heap.size, 0, none⟩ (.int .u64 t'.toNat)).setCell ⟨w3.heap.size, 1, none⟩ (.int .u64 b'.toNat) = w5 at *
            obtain ⟨g5, hg5'⟩ : ∃ g5, w3.heap.size = g5 := ⟨_, rfl⟩
            rw [hg5'] at hv5 hg5 ⊢
            have hg5'' : w3.heap.size ≤ g5 := by omega
            clear hg5'
            have hk5 := hS5.size
            have hW5 := (HW.out).below hS5 (by omega)
            have hM5 := (HM.out).below hS5 hm1
            have hB5 := (HB.out).trans (hS5.mono (by omega))
            have hne : g1 ≠ g5 := by omega
            have hne0 : g0 ≠ g1 := by omega
            have hW6 := (hW5.other (p := ⟨g1, 0, none⟩) hne0 (.int .u64 t'.toNat)).other (p := ⟨g1, 1, none⟩) hne0 (.int .u64 b'.toNat)
            have hM6 := (hM5.store 0 (.int .u64 t'.toNat)).store 1 (.int .u64 b'.toNat)
            have hB6 := (hB5.setCell (p := ⟨g1, 0, none⟩) (show g0 ≤ g1 from by omega) (.int .u64 t'.toNat)).setCell (p := ⟨g1, 1, none⟩) (show g0 ≤ g1 from by omega) (.int .u64 b'.toNat)
            have v0 := hv5.cell 0
            have v1 := hv5.cell 1
            have c0 := hM5.cell 0
            have c1 := hM5.cell 1
            have f0 := hM5.frozen 0
            have f1 := hM5.frozen 1
            have d0 := hW6.cell 0
            have d1 := hW6.cell 1
            have HW6 := Lib.hid hW6; have HM6 := Lib.hid hM6; have HB6 := Lib.hid hB6
            clear hW5 hM5 hB5 hv5 hW6 hM6 hB6 hS5 HW HM HB m0 m1 hcell3
            go_wp2_with fail
            go_roundw
            case rel => exact ⟨k + 1, t', b', by omega, by omega, by go_num, HW6.out, HM6.out, HB6.out⟩
            case measure => simp [intOf]; omega
        | false =>
          go_wp2_with fail
          refine (take_new _ _ _ _ _ hW2 hs).mono ?_
          rintro e w3 ⟨rfl, hb3, hW3⟩
          have hM3 := hM2.grown hb3 (by intro e; injection e with e; omega)
          have hB3 := hB2.grown hb3 (by omega) (by intro j e; injection e with e; omega)
          have hcell3 := (World.cell?_of_block (a := ⟨ab, aoff + k, none⟩) (hb3.block ab hgl2 (by intro e; injection e with e; omega))).trans hcell2
          have hz3 := hb3.size
          clear hW2 hM2 hB2 hcell2 hb3
          have m0 := hM3.cell 0
          have m1 := hM3.cell 1
          have HW := Lib.hid hW3; have HM := Lib.hid hM3; have HB := Lib.hid hB3
          clear hW3 hM3 hB3
          go_wp2_with fail
          have hm1 : g1 < w3.heap.size := by omega
          have hm2 : ab < w3.heap.size := by omega
          go_region_held3 (fun W => (∀ b o, b < w3.heap.size → W.cell? ⟨b, o, none⟩ = w3.cell? ⟨b, o, none⟩) ∧ Below w3.heap.size w3 W)
            (first | exact sx_start _ | exact hS4 | exact sx_alloc _ hS4 | exact sx_alloc_drew _ (sx_start _) | exact sx_store (Nat.le_refl _) _ (sx_store (Nat.le_refl _) _ hS4))
            (first
              | (go_at_call 10; refine (refTake_new _ _ _ _ hs).mono ?_; rintro e w4 ⟨rfl, hb4⟩; have hS4 := sx_call hb4 (w := w3) (by assumption); obtain ⟨hcc4, hff4⟩ := bcell hb4))
          · have hv5 := Blk.new w4 27 #[.int .u64 (withF t' b' n).1.toNat, .int .u64 (withF t' b' n).2.toNat]
            have hS5 : Below w3.heap.size w3 (w4.alloc (.cells #[.int .u64 (withF t' b' n).1.toNat, .int .u64 (withF t' b' n).2.toNat] 27)) := hS4.2.alloc hS4.2.size _
            have hg5 := hS4.2.size
            rename_i hH
            clear hb4 hcc4 hff4 hS4 hH
            generalize w4.alloc (.cells #[.int .u64 (withF t' b' n).1.toNat, .int .u64 (withF t' b' n).2.toNat] 27) = w5 at *
            generalize w4.heap.size = g5 at *
            have hk5 := hS5.size
            have hW5 := (HW.out).below hS5 (by omega)
            have hM5 := (HM.out).below hS5 hm1
            have hB5 := (HB.out).trans (hS5.mono (by omega))
            have hne : g1 ≠ g5 := by omega
            have hne0 : g0 ≠ g1 := by omega
            have hW6 := (hW5.other (p := ⟨g1, 0, none⟩) hne0 (.int .u64 (withF t' b' n).1.toNat)).other (p := ⟨g1, 1, none⟩) hne0 (.int .u64 (withF t' b' n).2.toNat)
            have hM6 := (hM5.store 0 (.int .u64 (withF t' b' n).1.toNat)).store 1 (.int .u64 (withF t' b' n).2.toNat)
            have hB6 := (hB5.setCell (p := ⟨g1, 0, none⟩) (show g0 ≤ g1 from by omega) (.int .u64 (withF t' b' n).1.toNat)).setCell (p := ⟨g1, 1, none⟩) (show g0 ≤ g1 from by omega) (.int .u64 (withF t' b' n).2.toNat)
            have v0 := hv5.cell 0
            have v1 := hv5.cell 1
            have c0 := hM5.cell 0
            have c1 := hM5.cell 1
            have f0 := hM5.frozen 0
            have f1 := hM5.frozen 1
            have d0 := hW6.cell 0
            have d1 := hW6.cell 1
            have HW6 := Lib.hid hW6; have HM6 := Lib.hid hM6; have HB6 := Lib.hid hB6
            clear hW5 hM5 hB5 hv5 hW6 hM6 hB6 hS5 HW HM HB m0 m1 hcell3
            go_wp2_with fail
            go_roundw
            case rel => exact ⟨k + 1, (withF t' b' n).1, (withF t' b' n).2, by omega, by omega, by go_num, HW6.out, HM6.out, HB6.out⟩
            case measure => simp [intOf]; omega
          · have hv5 := (((Blk.new w3 27 #[.int .u64 0, .int .u64 0]).drew.below hb4 (by simp)).store 0 (.int .u64 (withF t' b' n).1.toNat)).store 1 (.int .u64 (withF t' b' n).2.toNat)
            have hS5 : Below w3.heap.size w3 ((w4.setCell ⟨w3.heap.size, 0, none⟩ (.int .u64 (withF t' b' n).1.toNat)).setCell ⟨w3.heap.size, 1, none⟩ (.int .u64 (withF t' b' n).2.toNat)) := (hS4.2.setCell (Nat.le_refl _) _).setCell (Nat.le_refl _) _
            have hg5 := Nat.le_refl w3.heap.size
            rename_i hH
            clear hb4 hcc4 hff4 hS4 hH
            generalize (w4.setCell ⟨w3.heap.size, 0, none⟩ (.int .u64 (withF t' b' n).1.toNat)).setCell ⟨w3.heap.size, 1, none⟩ (.int .u64 (withF t' b' n).2.toNat) = w5 at *
            obtain ⟨g5, hg5'⟩ : ∃ g5, w3.heap.size = g5 := ⟨_, rfl⟩
            rw [hg5'] at hv5 hg5 ⊢
            have hg5'' : w3.heap.size ≤ g5 := by omega
            clear hg5'
            have hk5 := hS5.size
            have hW5 := (HW.out).below hS5 (by omega)
            have hM5 := (HM.out).below hS5 hm1
            have hB5 := (HB.out).trans (hS5.mono (by omega))
            have hne : g1 ≠ g5 := by omega
            have hne0 : g0 ≠ g1 := by omega
            have hW6 := (hW5.other (p := ⟨g1, 0, none⟩) hne0 (.int .u64 (withF t' b' n).1.toNat)).other (p := ⟨g1, 1, none⟩) hne0 (.int .u64 (withF t' b' n).2.toNat)
            have hM6 := (hM5.store 0 (.int .u64 (withF t' b' n).1.toNat)).store 1 (.int .u64 (withF t' b' n).2.toNat)
            have hB6 := (hB5.setCell (p := ⟨g1, 0, none⟩) (show g0 ≤ g1 from by omega) (.int .u64 (withF t' b' n).1.toNat)).setCell (p := ⟨g1, 1, none⟩) (show g0 ≤ g1 from by omega) (.int .u64 (withF t' b' n).2.toNat)
            have v0 := hv5.cell 0
            have v1 := hv5.cell 1
            have c0 := hM5.cell 0
            have c1 := hM5.cell 1
            have f0 := hM5.frozen 0
            have f1 := hM5.frozen 1
            have d0 := hW6.cell 0
            have d1 := hW6.cell 1
            have HW6 := Lib.hid hW6; have HM6 := Lib.hid hM6; have HB6 := Lib.hid hB6
            clear hW5 hM5 hB5 hv5 hW6 hM6 hB6 hS5 HW HM HB m0 m1 hcell3
            go_wp2_with fail
            go_roundw
            case rel => exact ⟨k + 1, (withF t' b' n).1, (withF t' b' n).2, by omega, by omega, by go_num, HW6.out, HM6.out, HB6.out⟩
            case measure => simp [intOf]; omega
      · have hd : decide ((k : Int) < 60) = false := decide_eq_false (by omega)
        go_wp2_with fail
        go_ret
        exact ⟨rfl, by rw [HG0.out]; exact HB.out⟩
    · go_wp2_with fail
      go_ret
      exact ⟨rfl, by rw [HG0.out]; exact HB.out⟩
end Go.Proofs.Ytfgbkigeejlahaa
