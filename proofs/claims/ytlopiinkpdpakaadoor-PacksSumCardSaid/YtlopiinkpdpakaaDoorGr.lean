/-
  slices.Grow and slices.Concat at bytes.
-/
import Derived.Test.YtlopiinkpdpakaaDoorGA
import Derived.Test.YtlopiinkpdpakaaDoorGE
import Derived.Lib.AppendZeros
namespace Go.Proofs.YtlopiinkpdpakaaDoor
open Go Go.RowKit
set_option linter.unusedSimpArgs false
set_option linter.unusedVariables false

set_option maxRecDepth 100000 in
set_option maxHeartbeats 1000000 in
theorem grow_any (n : Nat) (w : World) (h0 : 0 < n) (hn : n ≤ 1000000) :
    Calls Tryd.prog 68 #[.slice none 0 0, .int .i64 (n : Int)] w fun e w' => ∃ v', e = .returned v' ∧ w'.ownsRow w.heap.size 5 1 v' 0 (([] : List UInt8).map bcv) ∧ Below w.heap.size w w' := by
  obtain ⟨i8, hi8, hz8, hsz8, hby8⟩ := info8
  have hr := Lib.run_append_nil_zeros (P := Tryd.prog) w 24 3 24 5 i8 (.int .u8 0) .i64 .i64 Tryd.underlying24 Tryd.underlying3 hi8 hz8 n h0 (by omega) (by omega) (by rw [hby8]; omega)
  have hge := grownCap_ge w n 0 5
  have hle := grownCap_le_maxLen w n 0 5 (by simp only [maxLen]; omega)
  obtain ⟨Z, hZ⟩ : ∃ Z, Z = Builtin.zeroCells (Value.int .u8 0).cells n ++ Builtin.zeroCells (Value.int .u8 0).cells (grownCap w n 0 5 - n) := ⟨_, rfl⟩
  have hzs : Z.size = grownCap w n 0 5 := by
    rw [hZ, Array.size_append, size_zeroCells, size_zeroCells]
    simp [Value.cells]
    omega
  rw [← hZ] at hr
  obtain ⟨C, hC⟩ : ∃ C, C = grownCap w n 0 5 := ⟨_, rfl⟩
  rw [← hC] at hr hge hle hzs
  have HR := Lib.hid hr
  have HZ := Lib.hid hzs
  have hni : (0 : Int) < (n : Int) := by omega
  clear hr hZ hC hzs
  go_enter Tryd.func68, Tryd.ntmps68
  go_wp2_with (at_builtin
               refine Lib.wpList_append_run _ rfl (.tmp 20) (.tmp 21) 24 3 rfl _ _ rfl rfl _ _ HR.out ?_
               have hb2 : Blk (w.drew.alloc (.cells Z 5)) w.heap.size 5 Z := Blk.new w.drew _ _
               have hB2 : Below w.heap.size w (w.drew.alloc (.cells Z 5)) := (Below.refl w.heap.size w).drew.alloc (Nat.le_refl _) _
               have HB2 := Lib.hid (And.intro hb2 hB2)
               clear hb2 hB2
               generalize w.drew.alloc (.cells Z 5) = w2 at *)
  go_ret
  refine ⟨_, rfl, ?_, HB2.out.2⟩
  exact own_mk (Nat.le_refl _) HB2.out.1 (Nat.zero_le _) hle HZ.out rfl rfl

theorem lens_take {ls : List (List UInt8)} {k : Nat} {l : List UInt8} (h : ls[k]? = some l) : ((ls.take (k + 1)).flatten).length = ((ls.take k).flatten).length + l.length := by
  rw [List.take_add_one, h]; simp
theorem lens_le (ls : List (List UInt8)) (k : Nat) : ((ls.take k).flatten).length ≤ ls.flatten.length := by
  conv => rhs; rw [← List.take_append_drop k ls]
  rw [List.flatten_append, List.length_append]
  omega

set_option maxRecDepth 100000 in
set_option maxHeartbeats 1000000 in
theorem concat_any (v : Value) (ls : List (List UInt8)) (w : World) (h : HBs w v ls) (h0 : 0 < ls.flatten.length) (hn : ls.flatten.length ≤ 1000000) (hl : ls.length ≤ 1000000) :
    Calls Tryd.prog 59 #[v] w fun e w' => ∃ v', e = .returned v' ∧ w'.ownsRow w.heap.size 5 1 v' ls.flatten.length (ls.flatten.map bcv) ∧ Below w.heap.size w w' := by
  obtain ⟨i8, hi8, hz8, hsz8, hby8⟩ := info8
  have HI8 := Lib.hid hi8; clear hi8
  obtain ⟨p, cap, rfl, hlc, hcm⟩ := h.form
  obtain ⟨n, hnn⟩ : ∃ n, n = ls.length := ⟨_, rfl⟩
  rw [← hnn] at hlc hl ⊢
  have H : Hid (HBs w (.slice p n cap) ls) := Lib.hid (hnn ▸ h)
  have HN := Lib.hid hnn
  obtain ⟨T, hT⟩ : ∃ T, T = ls.flatten.length := ⟨_, rfl⟩
  rw [← hT] at h0 hn ⊢
  have HT := Lib.hid hT
  have HLE : Hid (∀ k, ((ls.take k).flatten).length ≤ T) := Lib.hid (fun k => hT ▸ lens_le ls k)
  unfold maxLen at hcm
  clear h hnn hT
  go_enter Tryd.func59, Tryd.ntmps59
  go_wp2_with fail
  go_loopw [3, 11] (fun s i W => ∃ k : Nat, k ≤ n ∧ s = .int .i64 ((((ls.take k).flatten).length : Nat) : Int) ∧ i = .int .i64 (k : Int) ∧ W = w) (fun _ i _ => n - (intOf i).toNat)
  case atStart => exact ⟨0, Nat.zero_le _, by simp, rfl, rfl⟩
  case round =>
    obtain ⟨k, hk, rfl, rfl, rfl⟩ := hrel
    obtain ⟨A, hA⟩ : ∃ A, A = ((ls.take k).flatten).length := ⟨_, rfl⟩
    have hAT : A ≤ T := by rw [hA]; exact HLE.out k
    rw [← hA]
    by_cases hlt : k < n
    · obtain ⟨l, hl⟩ : ∃ l, ls[k]? = some l := ⟨_, List.getElem?_eq_getElem (by rw [← HN.out]; exact hlt)⟩
      obtain ⟨b, o, u, rfl, hc, hu⟩ := H.out.at_ hl
      obtain ⟨pu, cu, rfl, hul, hum⟩ := hu.form
      obtain ⟨m, hm⟩ : ∃ m, m = l.length := ⟨_, rfl⟩
      have hnx : A + m ≤ T := by
        have := HLE.out (k + 1)
        rw [lens_take hl, ← hA, ← hm] at this
        exact this
      have HNX : Hid (((ls.take (k + 1)).flatten).length = A + m) := Lib.hid (by rw [lens_take hl, ← hA, ← hm])
      rw [← hm] at hc
      have hki : (k : Int) < (n : Int) := by omega
      have hneg : ¬ (A : Int) + (m : Int) < 0 := by omega
      clear hl hu hm hA hul
      go_wp2_with fail
      go_roundw
      case rel => exact ⟨k + 1, by omega, by rw [HNX.out]; go_num, by go_num, by first | trivial | rfl⟩
      case measure => simp [intOf]; omega
    · obtain rfl : k = n := by omega
      have hAT2 : A = T := by rw [hA, List.take_of_length_le (by rw [← HN.out]; exact Nat.le_refl _), HT.out]
      subst hAT2
      clear hA
      go_wp2_with fail
      refine (grow_any A wr h0 hn).mono ?_
      rintro e w1 ⟨v1, rfl, ho1, hb1⟩
      have HI := Lib.hid (And.intro ho1 hb1)
      clear ho1 hb1
      go_wp2_with fail
      obtain ⟨w0, rfl⟩ : ∃ w0 : World, w0 = wr := ⟨_, rfl⟩
      go_loopw [6, 27] (fun r i W => ∃ j : Nat, j ≤ k ∧ i = .int .i64 (j : Int) ∧ W.ownsRow w0.heap.size 5 1 r ((ls.take j).flatten).length (((ls.take j).flatten).map bcv) ∧ Below w0.heap.size w0 W) (fun _ i _ => k - (intOf i).toNat)
      case atStart => exact ⟨0, Nat.zero_le _, rfl, HI.out⟩
      case round =>
        clear HI
        obtain ⟨j, hj, rfl, ho, hb⟩ := hrel
        obtain ⟨Ar, cr, rfl⟩ := own_form ho
        have hbz := hb.size
        obtain ⟨B, hB⟩ : ∃ B, B = ((ls.take j).flatten).length := ⟨_, rfl⟩
        rw [← hB] at ho ⊢
        have hBT : B ≤ A := by rw [hB]; exact HLE.out j
        have HI := Lib.hid (And.intro ho hb)
        clear ho hb
        by_cases hlt2 : j < k
        · obtain ⟨l, hl⟩ : ∃ l, ls[j]? = some l := ⟨_, List.getElem?_eq_getElem (by rw [← HN.out]; exact hlt2)⟩
          obtain ⟨b, o, u, rfl, hc, hu⟩ := H.out.at_ hl
          obtain ⟨pu, cu, rfl, hul, hum⟩ := hu.form
          have hc0 := (HI.out.2.cell (p := ⟨b, o + j, none⟩) (lt_of_cell hc)).trans hc
          obtain ⟨m, hm⟩ : ∃ m, m = l.length := ⟨_, rfl⟩
          have hnx : B + m ≤ A := by
            have := HLE.out (j + 1)
            rw [lens_take hl, ← hB, ← hm] at this
            exact this
          have HNX : Hid (((ls.take (j + 1)).flatten).length = B + m ∧ (ls.take (j + 1)).flatten = (ls.take j).flatten ++ l) := Lib.hid ⟨by rw [lens_take hl, ← hB, ← hm], by rw [List.take_add_one, hl]; simp⟩
          have hu2 := hu.keep HI.out.2
          rw [← hm] at hc0 hu2
          have HU := Lib.hid hu2
          have HM := Lib.hid hm
          have hji : (j : Int) < (k : Int) := by omega
          clear hl hu hu2 hm hB hul hc
          go_wp2_with (
            (at_builtin
             refine wpList_append_hb rfl (.tmp 31) (.tmp 32) 24 rfl w0.heap.size 5 i8 Tryd.underlying24 HI8.out hz8 hsz8 hby8 (.slice Ar B cr) (.slice pu m cu) ((ls.take j).flatten) l B rfl HI.out.1 rfl HU.out (by rw [← HM.out]; omega) hbz ?_
             intro v2 w2 ho2 hg2
             rw [← HM.out, ← HNX.out.2] at ho2
             have HI2 : Hid (w2.ownsRow w0.heap.size 5 1 v2 ((ls.take (j + 1)).flatten).length (((ls.take (j + 1)).flatten).map bcv) ∧ Below w0.heap.size w0 w2) := Lib.hid ⟨by rw [HNX.out.1]; exact ho2, HI.out.2.grown hg2 hbz (fun q hq => own_ge HI.out.1 q hq)⟩
             clear ho2 hg2 HI HU))
          go_roundw
          case rel => exact ⟨j + 1, by omega, by go_num, HI2.out⟩
          case measure => simp [intOf]; omega
        · obtain rfl : j = k := by omega
          have HE : Hid ((ls.take j).flatten = ls.flatten) := Lib.hid (by rw [List.take_of_length_le (by rw [← HN.out]; exact Nat.le_refl _)])
          have HBA : Hid (B = A) := Lib.hid (by rw [hB, HE.out, HT.out])
          go_wp2_with fail
          go_ret
          have h1 := HI.out.1
          rw [HE.out, HBA.out] at h1
          rw [HBA.out]
          exact ⟨_, rfl, h1, HI.out.2⟩
end Go.Proofs.YtlopiinkpdpakaaDoor
