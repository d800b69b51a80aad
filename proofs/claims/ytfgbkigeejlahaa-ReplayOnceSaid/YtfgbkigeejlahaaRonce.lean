/-
  ReplayOnce: its walk.
-/
import Derived.Test.YtfgbkigeejlahaaRaw
import Derived.Test.YtfgbkigeejlahaaRonceL
import Derived.Deep.RegionHeld3
import Derived.Maps.AppendAt
import Derived.OwnWalk
import Derived.KernelRfl
namespace Go.Proofs.Ytfgbkigeejlahaa
open Go Go.RowKit

def u64w (x : UInt64) : Value := .int .u64 x.toNat
theorem infoU : (Try.prog.info? 22).map (fun i => (i.zero, i.size, i.bytes)) = some (some (.int .u64 0), 1, 8) := by kernel_rfl

theorem was_nil (n : UInt64) : wasB [] n = ((n.toNat : Int) == 0) := by
  unfold wasB
  rw [List.contains_nil, Bool.or_false]
  by_cases h : n.toNat = 0
  · simp [h]
  · have h1 : (n.toNat == 0) = false := by simpa using h
    have h2 : ((n.toNat : Int) == 0) = false := by rw [beq_eq_false_iff_ne]; omega
    rw [h1, h2]
theorem was_succ {T : List UInt64} {j : Nat} {x : UInt64} (n : UInt64) (hx : T[j]? = some x) : wasB (T.take (j + 1)) n = (wasB (T.take j) n || ((x.toNat : Int) == (n.toNat : Int))) := by
  unfold wasB
  rw [List.take_add_one, hx]
  have : ((x.toNat : Int) == (n.toNat : Int)) = (n == x) := by
    by_cases h : n = x
    · subst h; simp
    · have h2 : ((x.toNat : Int) == (n.toNat : Int)) = false := by
        rw [beq_eq_false_iff_ne]
        intro e
        exact h (UInt64.toNat_inj.1 (by omega))
      rw [h2]; simp [h]
  rw [this]
  by_cases h : n = x
  · subst h; simp
  · have h' : (n == x) = false := by simpa using h
    rw [h']; simp [h]
theorem far_yes {t n : UInt64} (h : 64 ≤ t.toNat) : decide ((n.toNat : Int) ≤ IntKind.u64.wrap ((t.toNat : Int) - 64)) = farB t n := by
  unfold farB
  rw [decide_eq_true h, Bool.true_and, IntKind.wrap_u64]
  have := t.toNat_lt
  by_cases h2 : n.toNat ≤ t.toNat - 64
  · rw [decide_eq_true h2, decide_eq_true (by omega)]
  · rw [decide_eq_false h2, decide_eq_false (by omega)]
theorem far_no {t n : UInt64} (h : ¬ 64 ≤ t.toNat) : farB t n = false := by
  unfold farB; rw [decide_eq_false h]; rfl
theorem not_above {t b n : UInt64} (h : seenF t b n = true) : ¬ t.toNat < n.toNat := by
  intro hlt
  rw [seenF_new (by omega) hlt] at h
  cases h

set_option maxRecDepth 100000 in
set_option maxHeartbeats 4000000 in
theorem once_any (A : Option Addr) (cap : Nat) (xs : List UInt64) (w : World) (hx : Rd w w.heap.size A (xs.map u64w)) (hlen : xs.length ≤ 9223372036854775807) :
    Calls Try.prog 4 #[.slice A xs.length cap] w fun e w' => e = .returned (.bool true) ∧ Below w.heap.size w w' := by
  have HX := Lib.hid hx; clear hx
  by_cases h60 : 60 < xs.length
  · go_enter Try.func4, Try.ntmps4
    go_wp2_with (go_at_call 6; refine (awake_any _).mono ?_; rintro e w1 ⟨rfl, hb1⟩)
    go_ret
    exact ⟨rfl, hb1⟩
  obtain ⟨i0, hi, hz0, hz1, hz2⟩ := info_parts infoU
  have HI := Lib.hid hi; have HZ0 := Lib.hid hz0; have HZ1 := Lib.hid hz1; have HZ2 := Lib.hid hz2
  clear hi hz0 hz1 hz2
  go_enter Try.func4, Try.ntmps4
  go_wp2_with (go_at_call 6; refine (awake_any _).mono ?_; rintro e w1 ⟨rfl, hb1⟩; obtain ⟨hcc, hff⟩ := bcell hb1)
  have hs1 : w.heap.size ≤ w1.heap.size := hb1.size
  have START : Hid (Win (w1.alloc (.cells #[.int .u64 0, .int .u64 0] 24)) w1.heap.size 0 0 ∧ Below w.heap.size w (w1.alloc (.cells #[.int .u64 0, .int .u64 0] 24)) ∧ w.heap.size ≤ (w1.alloc (.cells #[.int .u64 0, .int .u64 0] 24)).heap.size) :=
    Lib.hid ⟨Blk.new _ _ _, hb1.alloc hs1 _, by simp; omega⟩
  generalize hg1 : w1.heap.size = g1 at *
  generalize hg0 : w.heap.size = g0 at *
  have HG0 := Lib.hid hg0; clear hg0
  have HG1 := Lib.hid hg1; clear hg1
  clear hcc hff hb1
  go_loopw [5, 6, 7] (fun v tp i wr => ∃ (k : Nat) (T : List UInt64) (t b : UInt64) (A : Option Addr) (c : Nat), k ≤ xs.length ∧ T.length ≤ k ∧ v = .slice A T.length c ∧ tp = .int .u64 t.toNat ∧ i = .int .i64 k ∧ Held t b T ∧ Win wr g1 t b ∧ wr.ownsRow g0 22 1 (.slice A T.length c) T.length (T.map u64w) ∧ Below g0 w wr) (fun _ _ i _ => xs.length - (intOf i).toNat)
  case atStart => exact ⟨0, [], 0, 0, none, 0, by omega, by simp, rfl, rfl, rfl, held_empty, START.out.1, World.ownsRow_nil _ _ _ _, START.out.2.1⟩
  case round =>
    clear START
    obtain ⟨k, T, t, b, A2, c2, hk1, hTk, rfl, rfl, rfl, hH, hW, hO, hB⟩ := hrel
    have hl1 := hW.lt
    have HB := Lib.hid hB; have HW := Lib.hid hW; have HO := Lib.hid hO; have HH := Lib.hid hH
    clear hB hW hO hH
    by_cases hlt : k < xs.length
    · obtain ⟨n, hn⟩ : ∃ n, xs[k]? = some n := ⟨xs[k], by simp [hlt]⟩
      obtain ⟨ab, aoff, rfl, hab, hcell⟩ := ((HX.out).below HB.out).at_ (i := k) (v := .int .u64 n.toNat) (by simp [hn, u64w])
      have hab2 : ab < wr.heap.size := by omega
      have hi0 : (0 : Int) ≤ (k : Int) := by omega
      have hi1 : (k : Int) < (xs.length : Int) := by omega
      clear hn
      go_wp2_with fail
      go_loopw [8, 9] (fun was kk W => ∃ (j m : Nat), j ≤ T.length ∧ kk = .int .i64 j ∧ was = .bool (wasB (T.take j) n) ∧ W = wr.drewN m) (fun _ kk _ => T.length - (intOf kk).toNat)
      case atStart => exact ⟨0, 0, by omega, rfl, by rw [List.take_zero, was_nil], rfl⟩
      case round =>
        obtain ⟨j, m, hj, rfl, rfl, rfl⟩ := hrel
        by_cases hjl : j < T.length
        · obtain ⟨x, hx⟩ : ∃ x, T[j]? = some x := ⟨T[j], by simp [hjl]⟩
          obtain ⟨tb, toff, rfl, htb, htc⟩ := (own_rd HO.out).at_ (i := j) (v := .int .u64 x.toNat) (by simp [hx, u64w])
          have HS := Lib.hid (was_succ n hx)
          have hj0 : (0 : Int) ≤ (j : Int) := by omega
          have hj1 : (j : Int) < (T.length : Int) := by omega
          clear hx
          cases hwas : wasB (T.take j) n with
          | true =>
            rw [hwas] at HS
            go_wp2_with fail
            go_quiet (fail)
            go_wp2_with fail
            go_roundw
            case rel => exact ⟨j + 1, _, by omega, by go_num, by rw [HS.out]; rfl, rfl⟩
            case measure => simp [intOf]; omega
          | false =>
            rw [hwas] at HS
            go_wp2_with fail
            go_quiet (fail)
            go_wp2_with fail
            go_roundw
            case rel => exact ⟨j + 1, _, by omega, by go_num, by rw [HS.out, Bool.false_or], rfl⟩
            case measure => simp [intOf]; omega
        · obtain rfl : j = T.length := by omega
          rw [List.take_length]
          have hW2 := (HW.out).drewN m
          have hO2 := (HO.out).kept (w' := wr.drewN m) (row := none) (Only.drewN (World.grownBy.refl wr none) m) (by cases hv : (Value.slice A2 T.length c2).ownBlock <;> simp)
          have hB2 : Below g0 w (wr.drewN m) := below_drewN HB.out m
          have hcell2 : (wr.drewN m).cell? ⟨ab, aoff + k, none⟩ = some (.int .u64 n.toNat) := hcell
          have hsz2 : (wr.drewN m).heap.size = wr.heap.size := rfl
          clear hcell
          generalize wr.drewN m = w2 at *
          have hl2 := hW2.lt
          have hab3 : ab < w2.heap.size := by omega
          have hseen := held_seen HH.out n
          clear HB HW HO
          clear hsz2
          by_cases hge : 64 ≤ t.toNat
          · have hfe := far_yes (n := n) hge
            have hge' : decide (64 ≤ (t.toNat : Int)) = true := decide_eq_true (by omega)
            cases hfar : farB t n with
            | true =>
              rw [hfar] at hfe
              cases hwas : wasB T n with
              | true =>
                have hs : seenF t b n = true := by rw [hseen, hwas, hfar]; rfl
                have hna := not_above hs
                have HSN := Lib.hid hs
                clear hseen hs
                go_wp2_with fail
                refine (take_old _ _ _ _ _ hW2 HSN.out).mono ?_
                rintro e w3 ⟨rfl, hb3⟩
                have hW3 := hW2.below hb3 hl2
                have hO3 := hO2.kept (World.grownBy.mk hb3.os hb3.tape hb3.output hb3.size (fun q hq _ => hb3.block q hq) : w2.grownBy w3 none) (by cases hv : (Value.slice A2 T.length c2).ownBlock <;> simp)
                have hB3 := hB2.trans (hb3.mono (by omega))
                have hcell3 := (hb3.cell (p := ⟨ab, aoff + k, none⟩) hab3).trans hcell2
                have c0 := hW3.cell 0
                have HW := Lib.hid hW3; have HO := Lib.hid hO3; have HB := Lib.hid hB3
                clear hW2 hO2 hB2 hcell2 hb3 hW3 hO3 hB3
                go_wp2_with fail
                go_roundw
                case rel => exact ⟨k + 1, T, t, b, A2, c2, by omega, by omega, rfl, rfl, by go_num, HH.out, HW.out, HO.out, HB.out⟩
                case measure => simp [intOf]; omega
              | false =>
                have hs : seenF t b n = true := by rw [hseen, hwas, hfar]; rfl
                have hna := not_above hs
                have HSN := Lib.hid hs
                clear hseen hs
                go_wp2_with fail
                refine (take_old _ _ _ _ _ hW2 HSN.out).mono ?_
                rintro e w3 ⟨rfl, hb3⟩
                have hW3 := hW2.below hb3 hl2
                have hO3 := hO2.kept (World.grownBy.mk hb3.os hb3.tape hb3.output hb3.size (fun q hq _ => hb3.block q hq) : w2.grownBy w3 none) (by cases hv : (Value.slice A2 T.length c2).ownBlock <;> simp)
                have hB3 := hB2.trans (hb3.mono (by omega))
                have hcell3 := (hb3.cell (p := ⟨ab, aoff + k, none⟩) hab3).trans hcell2
                have c0 := hW3.cell 0
                have HW := Lib.hid hW3; have HO := Lib.hid hO3; have HB := Lib.hid hB3
                clear hW2 hO2 hB2 hcell2 hb3 hW3 hO3 hB3
                go_wp2_with fail
                go_roundw
                case rel => exact ⟨k + 1, T, t, b, A2, c2, by omega, by omega, rfl, rfl, by go_num, HH.out, HW.out, HO.out, HB.out⟩
                case measure => simp [intOf]; omega
            | false =>
              rw [hfar] at hfe
              cases hwas : wasB T n with
              | true =>
                have hs : seenF t b n = true := by rw [hseen, hwas, hfar]; rfl
                have hna := not_above hs
                have HSN := Lib.hid hs
                clear hseen hs
                go_wp2_with fail
                refine (take_old _ _ _ _ _ hW2 HSN.out).mono ?_
                rintro e w3 ⟨rfl, hb3⟩
                have hW3 := hW2.below hb3 hl2
                have hO3 := hO2.kept (World.grownBy.mk hb3.os hb3.tape hb3.output hb3.size (fun q hq _ => hb3.block q hq) : w2.grownBy w3 none) (by cases hv : (Value.slice A2 T.length c2).ownBlock <;> simp)
                have hB3 := hB2.trans (hb3.mono (by omega))
                have hcell3 := (hb3.cell (p := ⟨ab, aoff + k, none⟩) hab3).trans hcell2
                have c0 := hW3.cell 0
                have HW := Lib.hid hW3; have HO := Lib.hid hO3; have HB := Lib.hid hB3
                clear hW2 hO2 hB2 hcell2 hb3 hW3 hO3 hB3
                go_wp2_with fail
                go_roundw
                case rel => exact ⟨k + 1, T, t, b, A2, c2, by omega, by omega, rfl, rfl, by go_num, HH.out, HW.out, HO.out, HB.out⟩
                case measure => simp [intOf]; omega
              | false =>
                by_cases hgt : t.toNat < n.toNat
                · have hs : seenF t b n = false := by rw [hseen, hwas, hfar]; rfl
                  have HSN := Lib.hid hs
                  obtain ⟨hH3, ht3⟩ := held_take HH.out hs (T ++ [n]) (fun x => by simp [or_comm])
                  rw [if_pos hgt] at ht3
                  have HT3 := Lib.hid ht3
                  have HH3 := Lib.hid hH3
                  clear hseen hs hH3 ht3
                  go_wp2_with fail
                  refine (take_new _ _ _ _ _ hW2 HSN.out).mono ?_
                  rintro e w3 ⟨rfl, hb3, hW3⟩
                  have hO3 := hO2.kept hb3 (.inr (own_ne_blk hO2 hW2 (by decide)).symm)
                  have hB3 := hB2.grown hb3 (by omega) (by intro j e; injection e with e; omega)
                  have hcell3 := (World.cell?_of_block (a := ⟨ab, aoff + k, none⟩) (hb3.block ab hab3 (by intro e; injection e with e; omega))).trans hcell2
                  have hz3 := hb3.size
                  have hab4 : ab < w3.heap.size := by omega
                  rw [HT3.out] at hW3
                  have HW := Lib.hid hW3; have HB := Lib.hid hB3
                  clear hW2 hO2 hB2 hcell2 hb3 hW3 hB3
                  go_wp2_with (
                    (at_builtin
                     refine wpList_append_own _ rfl _ _ 25 rfl g0 22 i0 (.int .u64 0) 1 8 Try.underlying25 HI.out HZ0.out HZ1.out HZ2.out rfl (by decide) _ _ _ rfl (hO3.alloc _) ⟨w3.heap.size, 0, none⟩ 1 1 [.int .u64 n.toNat] rfl rfl (cell_one_new _ _ _) (by simp [Value.oneCell']) (by unfold maxLen; omega) (by omega) (by simp; omega) ?_
                     intro v' w5 hown' hgrow _
                     have hne5 := own_ne_blk (hO3.alloc (.cells #[.int .u64 n.toNat] 22)) ((HW.out).alloc (.cells #[.int .u64 n.toNat] 22)) (by decide)
                     have hW5 := ((HW.out).alloc (.cells #[.int .u64 n.toNat] 22)).grown hgrow hne5
                     have hB5 := ((HB.out).alloc (by omega) (.cells #[.int .u64 n.toNat] 22)).grown hgrow (by simp; omega) (fun q hq => ((hO3.alloc (.cells #[.int .u64 n.toNat] 22)).lt q hq).1)
                     have hcell5 : w5.cell? ⟨ab, aoff + k, none⟩ = some (.int .u64 n.toNat) := (World.cell?_of_block (a := ⟨ab, aoff + k, none⟩) (hgrow.block ab (by simp; omega) (by intro e; have := ((hO3.alloc (.cells #[.int .u64 n.toNat] 22)).lt ab e.symm).1; omega))).trans ((World.cell?_alloc_lt _ _ ⟨ab, aoff + k, none⟩ hab4).trans hcell3)
                     obtain ⟨A5, c5, rfl⟩ := own_form hown'
                     have hO5 : w5.ownsRow g0 22 1 (.slice A5 (T ++ [n]).length c5) (T ++ [n]).length ((T ++ [n]).map u64w) := by simpa [u64w] using hown'
                     have c0 := hW5.cell 0
                     have HW5 := Lib.hid hW5; have HO5 := Lib.hid hO5; have HB5 := Lib.hid hB5
                     clear HW HB hO3 hcell3 hown' hgrow hne5 hW5 hO5 hB5))
                  go_roundw
                  case rel => exact ⟨k + 1, T ++ [n], n, (withF t b n).2, A5, c5, by omega, by simp; omega, by simp, rfl, by go_num, by have h := HH3.out; rw [HT3.out] at h; exact h, HW5.out, HO5.out, HB5.out⟩
                  case measure => simp [intOf]; omega
                · have hs : seenF t b n = false := by rw [hseen, hwas, hfar]; rfl
                  have HSN := Lib.hid hs
                  obtain ⟨hH3, ht3⟩ := held_take HH.out hs (T ++ [n]) (fun x => by simp [or_comm])
                  rw [if_neg hgt] at ht3
                  have HT3 := Lib.hid ht3
                  have HH3 := Lib.hid hH3
                  clear hseen hs hH3 ht3
                  go_wp2_with fail
                  refine (take_new _ _ _ _ _ hW2 HSN.out).mono ?_
                  rintro e w3 ⟨rfl, hb3, hW3⟩
                  have hO3 := hO2.kept hb3 (.inr (own_ne_blk hO2 hW2 (by decide)).symm)
                  have hB3 := hB2.grown hb3 (by omega) (by intro j e; injection e with e; omega)
                  have hcell3 := (World.cell?_of_block (a := ⟨ab, aoff + k, none⟩) (hb3.block ab hab3 (by intro e; injection e with e; omega))).trans hcell2
                  have hz3 := hb3.size
                  have hab4 : ab < w3.heap.size := by omega
                  rw [HT3.out] at hW3
                  have HW := Lib.hid hW3; have HB := Lib.hid hB3
                  clear hW2 hO2 hB2 hcell2 hb3 hW3 hB3
                  go_wp2_with (
                    (at_builtin
                     refine wpList_append_own _ rfl _ _ 25 rfl g0 22 i0 (.int .u64 0) 1 8 Try.underlying25 HI.out HZ0.out HZ1.out HZ2.out rfl (by decide) _ _ _ rfl (hO3.alloc _) ⟨w3.heap.size, 0, none⟩ 1 1 [.int .u64 n.toNat] rfl rfl (cell_one_new _ _ _) (by simp [Value.oneCell']) (by unfold maxLen; omega) (by omega) (by simp; omega) ?_
                     intro v' w5 hown' hgrow _
                     have hne5 := own_ne_blk (hO3.alloc (.cells #[.int .u64 n.toNat] 22)) ((HW.out).alloc (.cells #[.int .u64 n.toNat] 22)) (by decide)
                     have hW5 := ((HW.out).alloc (.cells #[.int .u64 n.toNat] 22)).grown hgrow hne5
                     have hB5 := ((HB.out).alloc (by omega) (.cells #[.int .u64 n.toNat] 22)).grown hgrow (by simp; omega) (fun q hq => ((hO3.alloc (.cells #[.int .u64 n.toNat] 22)).lt q hq).1)
                     have hcell5 : w5.cell? ⟨ab, aoff + k, none⟩ = some (.int .u64 n.toNat) := (World.cell?_of_block (a := ⟨ab, aoff + k, none⟩) (hgrow.block ab (by simp; omega) (by intro e; have := ((hO3.alloc (.cells #[.int .u64 n.toNat] 22)).lt ab e.symm).1; omega))).trans ((World.cell?_alloc_lt _ _ ⟨ab, aoff + k, none⟩ hab4).trans hcell3)
                     obtain ⟨A5, c5, rfl⟩ := own_form hown'
                     have hO5 : w5.ownsRow g0 22 1 (.slice A5 (T ++ [n]).length c5) (T ++ [n]).length ((T ++ [n]).map u64w) := by simpa [u64w] using hown'
                     have c0 := hW5.cell 0
                     have HW5 := Lib.hid hW5; have HO5 := Lib.hid hO5; have HB5 := Lib.hid hB5
                     clear HW HB hO3 hcell3 hown' hgrow hne5 hW5 hO5 hB5))
                  go_roundw
                  case rel => exact ⟨k + 1, T ++ [n], t, (withF t b n).2, A5, c5, by omega, by simp; omega, by simp, rfl, by go_num, by have h := HH3.out; rw [HT3.out] at h; exact h, HW5.out, HO5.out, HB5.out⟩
                  case measure => simp [intOf]; omega
          · have hfar := far_no (n := n) hge
            have hge' : decide (64 ≤ (t.toNat : Int)) = false := decide_eq_false (by omega)
            cases hwas : wasB T n with
            | true =>
              have hs : seenF t b n = true := by rw [hseen, hwas, hfar]; rfl
              have hna := not_above hs
              have HSN := Lib.hid hs
              clear hseen hs
              go_wp2_with fail
              refine (take_old _ _ _ _ _ hW2 HSN.out).mono ?_
              rintro e w3 ⟨rfl, hb3⟩
              have hW3 := hW2.below hb3 hl2
              have hO3 := hO2.kept (World.grownBy.mk hb3.os hb3.tape hb3.output hb3.size (fun q hq _ => hb3.block q hq) : w2.grownBy w3 none) (by cases hv : (Value.slice A2 T.length c2).ownBlock <;> simp)
              have hB3 := hB2.trans (hb3.mono (by omega))
              have hcell3 := (hb3.cell (p := ⟨ab, aoff + k, none⟩) hab3).trans hcell2
              have c0 := hW3.cell 0
              have HW := Lib.hid hW3; have HO := Lib.hid hO3; have HB := Lib.hid hB3
              clear hW2 hO2 hB2 hcell2 hb3 hW3 hO3 hB3
              go_wp2_with fail
              go_roundw
              case rel => exact ⟨k + 1, T, t, b, A2, c2, by omega, by omega, rfl, rfl, by go_num, HH.out, HW.out, HO.out, HB.out⟩
              case measure => simp [intOf]; omega
            | false =>
              by_cases hgt : t.toNat < n.toNat
              · have hs : seenF t b n = false := by rw [hseen, hwas, hfar]; rfl
                have HSN := Lib.hid hs
                obtain ⟨hH3, ht3⟩ := held_take HH.out hs (T ++ [n]) (fun x => by simp [or_comm])
                rw [if_pos hgt] at ht3
                have HT3 := Lib.hid ht3
                have HH3 := Lib.hid hH3
                clear hseen hs hH3 ht3
                go_wp2_with fail
                refine (take_new _ _ _ _ _ hW2 HSN.out).mono ?_
                rintro e w3 ⟨rfl, hb3, hW3⟩
                have hO3 := hO2.kept hb3 (.inr (own_ne_blk hO2 hW2 (by decide)).symm)
                have hB3 := hB2.grown hb3 (by omega) (by intro j e; injection e with e; omega)
                have hcell3 := (World.cell?_of_block (a := ⟨ab, aoff + k, none⟩) (hb3.block ab hab3 (by intro e; injection e with e; omega))).trans hcell2
                have hz3 := hb3.size
                have hab4 : ab < w3.heap.size := by omega
                rw [HT3.out] at hW3
                have HW := Lib.hid hW3; have HB := Lib.hid hB3
                clear hW2 hO2 hB2 hcell2 hb3 hW3 hB3
                go_wp2_with (
                  (at_builtin
                   refine wpList_append_own _ rfl _ _ 25 rfl g0 22 i0 (.int .u64 0) 1 8 Try.underlying25 HI.out HZ0.out HZ1.out HZ2.out rfl (by decide) _ _ _ rfl (hO3.alloc _) ⟨w3.heap.size, 0, none⟩ 1 1 [.int .u64 n.toNat] rfl rfl (cell_one_new _ _ _) (by simp [Value.oneCell']) (by unfold maxLen; omega) (by omega) (by simp; omega) ?_
                   intro v' w5 hown' hgrow _
                   have hne5 := own_ne_blk (hO3.alloc (.cells #[.int .u64 n.toNat] 22)) ((HW.out).alloc (.cells #[.int .u64 n.toNat] 22)) (by decide)
                   have hW5 := ((HW.out).alloc (.cells #[.int .u64 n.toNat] 22)).grown hgrow hne5
                   have hB5 := ((HB.out).alloc (by omega) (.cells #[.int .u64 n.toNat] 22)).grown hgrow (by simp; omega) (fun q hq => ((hO3.alloc (.cells #[.int .u64 n.toNat] 22)).lt q hq).1)
                   have hcell5 : w5.cell? ⟨ab, aoff + k, none⟩ = some (.int .u64 n.toNat) := (World.cell?_of_block (a := ⟨ab, aoff + k, none⟩) (hgrow.block ab (by simp; omega) (by intro e; have := ((hO3.alloc (.cells #[.int .u64 n.toNat] 22)).lt ab e.symm).1; omega))).trans ((World.cell?_alloc_lt _ _ ⟨ab, aoff + k, none⟩ hab4).trans hcell3)
                   obtain ⟨A5, c5, rfl⟩ := own_form hown'
                   have hO5 : w5.ownsRow g0 22 1 (.slice A5 (T ++ [n]).length c5) (T ++ [n]).length ((T ++ [n]).map u64w) := by simpa [u64w] using hown'
                   have c0 := hW5.cell 0
                   have HW5 := Lib.hid hW5; have HO5 := Lib.hid hO5; have HB5 := Lib.hid hB5
                   clear HW HB hO3 hcell3 hown' hgrow hne5 hW5 hO5 hB5))
                go_roundw
                case rel => exact ⟨k + 1, T ++ [n], n, (withF t b n).2, A5, c5, by omega, by simp; omega, by simp, rfl, by go_num, by have h := HH3.out; rw [HT3.out] at h; exact h, HW5.out, HO5.out, HB5.out⟩
                case measure => simp [intOf]; omega
              · have hs : seenF t b n = false := by rw [hseen, hwas, hfar]; rfl
                have HSN := Lib.hid hs
                obtain ⟨hH3, ht3⟩ := held_take HH.out hs (T ++ [n]) (fun x => by simp [or_comm])
                rw [if_neg hgt] at ht3
                have HT3 := Lib.hid ht3
                have HH3 := Lib.hid hH3
                clear hseen hs hH3 ht3
                go_wp2_with fail
                refine (take_new _ _ _ _ _ hW2 HSN.out).mono ?_
                rintro e w3 ⟨rfl, hb3, hW3⟩
                have hO3 := hO2.kept hb3 (.inr (own_ne_blk hO2 hW2 (by decide)).symm)
                have hB3 := hB2.grown hb3 (by omega) (by intro j e; injection e with e; omega)
                have hcell3 := (World.cell?_of_block (a := ⟨ab, aoff + k, none⟩) (hb3.block ab hab3 (by intro e; injection e with e; omega))).trans hcell2
                have hz3 := hb3.size
                have hab4 : ab < w3.heap.size := by omega
                rw [HT3.out] at hW3
                have HW := Lib.hid hW3; have HB := Lib.hid hB3
                clear hW2 hO2 hB2 hcell2 hb3 hW3 hB3
                go_wp2_with (
                  (at_builtin
                   refine wpList_append_own _ rfl _ _ 25 rfl g0 22 i0 (.int .u64 0) 1 8 Try.underlying25 HI.out HZ0.out HZ1.out HZ2.out rfl (by decide) _ _ _ rfl (hO3.alloc _) ⟨w3.heap.size, 0, none⟩ 1 1 [.int .u64 n.toNat] rfl rfl (cell_one_new _ _ _) (by simp [Value.oneCell']) (by unfold maxLen; omega) (by omega) (by simp; omega) ?_
                   intro v' w5 hown' hgrow _
                   have hne5 := own_ne_blk (hO3.alloc (.cells #[.int .u64 n.toNat] 22)) ((HW.out).alloc (.cells #[.int .u64 n.toNat] 22)) (by decide)
                   have hW5 := ((HW.out).alloc (.cells #[.int .u64 n.toNat] 22)).grown hgrow hne5
                   have hB5 := ((HB.out).alloc (by omega) (.cells #[.int .u64 n.toNat] 22)).grown hgrow (by simp; omega) (fun q hq => ((hO3.alloc (.cells #[.int .u64 n.toNat] 22)).lt q hq).1)
                   have hcell5 : w5.cell? ⟨ab, aoff + k, none⟩ = some (.int .u64 n.toNat) := (World.cell?_of_block (a := ⟨ab, aoff + k, none⟩) (hgrow.block ab (by simp; omega) (by intro e; have := ((hO3.alloc (.cells #[.int .u64 n.toNat] 22)).lt ab e.symm).1; omega))).trans ((World.cell?_alloc_lt _ _ ⟨ab, aoff + k, none⟩ hab4).trans hcell3)
                   obtain ⟨A5, c5, rfl⟩ := own_form hown'
                   have hO5 : w5.ownsRow g0 22 1 (.slice A5 (T ++ [n]).length c5) (T ++ [n]).length ((T ++ [n]).map u64w) := by simpa [u64w] using hown'
                   have c0 := hW5.cell 0
                   have HW5 := Lib.hid hW5; have HO5 := Lib.hid hO5; have HB5 := Lib.hid hB5
                   clear HW HB hO3 hcell3 hown' hgrow hne5 hW5 hO5 hB5))
                go_roundw
                case rel => exact ⟨k + 1, T ++ [n], t, (withF t b n).2, A5, c5, by omega, by simp; omega, by simp, rfl, by go_num, by have h := HH3.out; rw [HT3.out] at h; exact h, HW5.out, HO5.out, HB5.out⟩
                case measure => simp [intOf]; omega
    · obtain rfl : k = xs.length := by omega
      go_wp2_with (go_at_call 9; refine (take_nil 1 _).mono ?_; rintro e w3 ⟨rfl, rfl⟩)
      go_ret
      exact ⟨rfl, by rw [HG0.out]; exact HB.out⟩
end Go.Proofs.Ytfgbkigeejlahaa
