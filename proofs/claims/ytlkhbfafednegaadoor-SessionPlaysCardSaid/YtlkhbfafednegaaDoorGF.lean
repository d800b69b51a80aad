/-
  The walk of 'take'.
-/
/-
  The walk of 'digest.Of'.
-/
/-
  The walk of the reference's 'Of'.
-/
import Derived.Test.YtlkhbfafednegaaDoorGD
import Derived.Test.YtlkhbfafednegaaDoorGA
import Derived.Test.YtlkhbfafednegaaDoorBy
namespace Go.Proofs.YtlkhbfafednegaaDoor
open Go Go.RowKit

/-- the rounds' numbers lie where the program's own variable lies -/
def Tab (w : World) : Prop := ∃ t fr, w.heap[0]? = some (.cells (wvs kList) t fr)
theorem Tab.below {w w' : World} {B : Nat} (h : Tab w) (hb : Below B w w') (hB : 0 < B) : Tab w' := by
  obtain ⟨t, fr, h⟩ := h
  exact ⟨t, fr, (hb.block 0 hB).trans h⟩

theorem three_S1b (x : UInt32) (w : World) : Calls Tryd.prog 66 #[.int .u32 x.toNat, .int .i64 6, .int .i64 11, .int .i64 25] w fun e w' => e = .returned (.int .u32 (S1 x).toNat) ∧ w' = w :=
  (three_S1 x w).mono fun _ _ ⟨he, hw⟩ => ⟨he, hw.symm⟩
theorem three_S0b (x : UInt32) (w : World) : Calls Tryd.prog 66 #[.int .u32 x.toNat, .int .i64 2, .int .i64 13, .int .i64 22] w fun e w' => e = .returned (.int .u32 (S0 x).toNat) ∧ w' = w :=
  (three_S0 x w).mono fun _ _ ⟨he, hw⟩ => ⟨he, hw.symm⟩

theorem below_drewN {B : Nat} {w w' : World} (h : Below B w w') (n : Nat) : Below B w (w'.drewN n) := by
  refine ⟨h.os, h.tape, h.output, h.size, h.block⟩
theorem step_eq2 (a b c d e f g k K W : UInt32) : step [a, b, c, d, e, f, g, k] K W = [add32 (t1F e f g k K W) (add32 (S0 a) (xor32 (xor32 (and32 a b) (and32 a c)) (and32 b c))), a, b, c, add32 d (t1F e f g k K W), e, f, g] := rfl
theorem not_rule (x : UInt32) : bits .xor .u32 (if IntKind.u32.signed = true then -1 else IntKind.u32.max) (x.toNat : Int) = ((not32 x).toNat : Int) := by
  rw [show (if IntKind.u32.signed = true then (-1 : Int) else IntKind.u32.max) = ((4294967295 : UInt32).toNat : Int) from rfl, xor32_rule]
  have e : xor32 4294967295 x = not32 x := by
    apply UInt32.toBitVec_inj.1
    exact BitVec.allOnes_xor
  rw [e]
theorem t_int (a4 a5 a6 a7 K W : UInt32) : (((((add32 a7 (S1 a4)).toNat : Int) + bits .xor .u32 ((and32 a4 a5).toNat : Int) (bits .and .u32 (bits .xor .u32 (if IntKind.u32.signed = true then -1 else IntKind.u32.max) (a4.toNat : Int)) (a6.toNat : Int)) + (K.toNat : Int)) % 4294967296 + (W.toNat : Int)) % 4294967296) = ((t1F a4 a5 a6 a7 K W).toNat : Int) := by
  rw [not_rule, and32_rule, xor32_rule]
  unfold t1F
  rw [show xor32 (and32 a4 a5) (and32 (not32 a4) a6) = chF a4 a5 a6 from rfl]
  generalize chF a4 a5 a6 = c
  generalize add32 a7 (S1 a4) = x
  unfold add32
  simp only [UInt32.toNat_add]
  omega

theorem kAt_index {k : Nat} (hlt : k < 64) (W : World) : (Instr.index 103 (.agg (wvs kList)) (.int .i64 (k : Int))).run Tryd.prog W = .ok (.int .u32 (kAt k).toNat) W := by
  have e : (wvs kList)[k]? = some (.int .u32 (kAt k).toNat) := wvs_at kList hlt
  have hz : (wvs kList).size = 64 := kSize
  have h2 : (k : Int) < ((wvs kList).size : Int) := by rw [hz]; omega
  generalize wvs kList = vs at *
  simp only [Instr.index, Sem.run_bind, run_underlying Tryd.underlying103, Result.andThen, asIntOf, Sem.run_pure, Int.natCast_nonneg, if_true, Int.toNat_natCast, true_and]
  have h3 : (k : Int) < ((64 : Nat) : Int) := by omega
  rw [if_pos (by simpa using h3)]
  unfold part
  go_simp
  exact (Array.getElem?_eq_some_iff.1 e).2

set_option maxRecDepth 100000 in
set_option maxHeartbeats 4000000 in
theorem take_any (s : List UInt32) (b : List UInt8) (bb off n c : Nat) (w : World) (hs : s.length = 8) (hT : Tab w) (h0 : 0 < w.heap.size) (hbb : bb < w.heap.size) (hn : 64 ≤ n) (hc : n ≤ c)
    (hr : ∀ i, i < 64 → w.cell? ⟨bb, off + i, none⟩ = some (.int .u8 (byteAt b i).toNat)) :
    Calls Tryd.prog 61 #[.agg (wvs s), .slice (some ⟨bb, off, none⟩) n c] w fun e w' => e = .returned (.agg (wvs (comp s b))) ∧ Below w.heap.size w w' := by
  have h1 := wvs_one s
  have hsz : (wvs s).size = 8 := by rw [wvs_size]; exact hs
  go_enter Tryd.func61, Tryd.ntmps61
  go_wp2_with fail
  refine wp_abs (fun W => Blk W w.heap.size 102 (wvs s) ∧ Blk W (w.heap.size + 1) 102 (wvs (List.replicate 8 0)) ∧ Blk W (w.heap.size + 1 + 1) 115 (wvs (ringFill b 0)) ∧ Below w.heap.size w W ∧ W.heap.size = w.heap.size + 3) ⟨?_, ?_, ?_, ?_, ?_⟩ ?_
  · exact ((Blk.new w _ _).alloc _).alloc _
  · exact ((Blk.new' (w := w.alloc _) (by simp) _ _).alloc _).mk_eq (by kernel_rfl)
  · exact (Blk.new' (w := (w.alloc _).alloc _) (by simp) _ _).mk_eq (by unfold ringFill wvs; rfl)
  · exact (((Below.refl w.heap.size w).alloc (Nat.le_refl _) _).alloc (by simp) _).alloc (by simp; omega) _
  · simp
  rintro W START
  have START := Lib.hid START
  generalize hg : w.heap.size = g at *
  have HG := Lib.hid hg; clear hg
  have hr := Lib.hid hr
  go_loopw [16] (fun i wr => ∃ k : Nat, k ≤ 16 ∧ i = .int .i64 k ∧ Blk wr g 102 (wvs s) ∧ Blk wr (g + 1) 102 (wvs (List.replicate 8 0)) ∧ Blk wr (g + 1 + 1) 115 (wvs (ringFill b k)) ∧ Below g w wr ∧ wr.heap.size = g + 3) (fun i _ => 16 - (intOf i).toNat)
  case atStart => exact ⟨0, by omega, rfl, START.out⟩
  case round =>
    clear START
    obtain ⟨k, hk, rfl, hI⟩ := hrel
    by_cases hlt : k < 16
    · have HI := Lib.hid hI; clear hI
      have hw : IntKind.i64.wrap (4 * (k : Int)) = 4 * (k : Int) := IntWalk.i64_in _ (by omega)
      have hw4 : IntKind.i64.wrap (4 * (k : Int) + 4) = 4 * (k : Int) + 4 := IntWalk.i64_in _ (by omega)
      go_wp2_with fail
      go_loopw [27] (fun j wr => ∃ m : Nat, m ≤ 4 ∧ j = .int .i64 m ∧ Blk wr g 102 (wvs s) ∧ Blk wr (g + 1) 102 (wvs (List.replicate 8 0)) ∧ Blk wr (g + 1 + 1) 115 (wvs ((ringFill b k).set k (pw b k m))) ∧ Below g w wr ∧ wr.heap.size = g + 3) (fun j _ => 4 - (intOf j).toNat)
      case atStart =>
        refine ⟨0, by omega, rfl, HI.out.1, HI.out.2.1, ?_, HI.out.2.2.2⟩
        have e : (ringFill b k).set k (pw b k 0) = ringFill b k := by
          rw [pw]
          have h0 := ringFill_at b hlt
          apply List.ext_getElem?
          intro j
          rw [List.getElem?_set]
          split
          · rename_i hj; subst hj
            rw [if_pos (by rw [ringFill_length]; omega)]
            simp [ringFill, hlt]
          · rfl
        rw [e]; exact HI.out.2.2.1
      case round =>
        clear HI
        rename_i wr0 _
        obtain ⟨m, hm, rfl, hI⟩ := hrel
        by_cases hlt4 : m < 4
        · have c0 := hI.2.2.1.word (i := k) (by rw [List.length_set, ringFill_length]; omega)
          rw [at32_set _ _ _ _ (by rw [ringFill_length]; omega), if_pos rfl] at c0
          have f0 := hI.2.2.1.frozen k
          have x0 : wr.cell? ⟨bb, off + 4 * k + m, none⟩ = some (.int .u8 (byteAt b (4 * k + m)).toNat) := by
            rw [show off + 4 * k + m = off + (4 * k + m) by omega]
            exact (hI.2.2.2.1.cell (p := ⟨bb, off + (4 * k + m), none⟩) hbb).trans (hr.out (4 * k + m) (by omega))
          have HI := Lib.hid hI; clear hI
          go_wp2_with fail
          have e : bits .or .u32 (((pw b k m).toNat : Int) * 256 % 4294967296) (((byteAt b (4 * k + m)).toNat : Int) % 4294967296) = ((pw b k (m + 1)).toNat : Int) := by
            have h := bw_int (pw b k m) (byteAt b (4 * k + m))
            rw [IntKind.wrap_u32'] at h
            have h2 := (byteAt b (4 * k + m)).toNat_lt
            rw [show ((byteAt b (4 * k + m)).toNat : Int) % 4294967296 = ((byteAt b (4 * k + m)).toNat : Int) by omega, h, pw]
          rw [e]
          go_roundw
          case rel =>
            refine ⟨m + 1, by omega, by go_num, HI.out.1.other (p := ⟨g + 1 + 1, k, none⟩) (show g ≠ g + 1 + 1 by omega) _, HI.out.2.1.other (p := ⟨g + 1 + 1, k, none⟩) (show g + 1 ≠ g + 1 + 1 by omega) _, ?_, HI.out.2.2.2.1.setCell (p := ⟨g + 1 + 1, k, none⟩) (show g ≤ g + 1 + 1 by omega) _, by have := HI.out.2.2.2.2; simpa [World.setCell] using this⟩
            have h := HI.out.2.2.1.word_store k (pw b k (m + 1))
            rwa [List.set_set] at h
          case measure => simp [intOf]; omega
        · obtain rfl : m = 4 := by omega
          have HI := Lib.hid hI; clear hI
          go_wp2_with fail
          go_roundw
          case rel =>
            refine ⟨k + 1, by omega, by go_num, HI.out.1, HI.out.2.1, ?_, HI.out.2.2.2⟩
            have h1 := HI.out.2.2.1
            rw [pw_four, ringFill_set b hlt] at h1
            exact h1
          case measure => simp [intOf]; omega
    · obtain rfl : k = 16 := by omega
      obtain ⟨hS, hO, hR, hB, hz⟩ := hI
      have HS := Lib.hid hS; have HO := Lib.hid hO; have HR := Lib.hid hR; have HB := Lib.hid hB
      clear hS hO hR hB
      go_wp2_with (first | (refine wpList_load_blk rfl 102 (.tmp 2) rfl g 102 (wvs s) rfl HS.out Tryd.underlying102 rfl (by rw [hsz]; kernel_rfl) ?_) | (refine wpList_store_blk rfl 102 (.tmp 9) (.tmp 42) rfl (g + 3) 102 _ (wvs s) rfl rfl (Blk.new' hz _ _) (by rw [hsz]; rfl) (by rw [hsz]; kernel_rfl) h1 ?_; intro w1 hb1 hg1 hz1; obtain ⟨tk, fk, hK⟩ : Tab w1 := hT.below ((HB.out.alloc (by omega) _).grown hg1 (by simp; omega) (by intro k hk; injection hk with hk; omega)) (by omega)) | (refine wpList_load_row rfl 103 (.global 0) rfl 0 rfl tk (wvs kList) fk _ hK Tryd.underlying103 rfl (by rw [kSize]; exact sizeK) ?_))
      have START : Hid (Blk w1 g 102 (wvs s) ∧ Blk w1 (g + 1) 102 (wvs (List.replicate 8 0)) ∧ Blk w1 (g + 1 + 1) 115 (wvs (ringAt b 0)) ∧ Blk w1 (g + 3) 102 (wvs (rnds b s 0)) ∧ Below g w w1) := by
        refine Lib.hid ⟨(HS.out.alloc _).grown hg1 (by intro h; injection h with h; omega), (HO.out.alloc _).grown hg1 (by intro h; injection h with h; omega), ?_, hb1, (HB.out.alloc (by omega) _).grown hg1 (by simp; omega) (by intro k hk; injection hk with hk; omega)⟩
        rw [← ringFill_full]
        exact (HR.out.alloc _).grown hg1 (by intro h; injection h with h; omega)
      clear hb1 hg1 hz1 hK HS HO HR HB hz
      go_loopw [44] (fun i wr => ∃ k : Nat, k ≤ 64 ∧ i = .int .i64 k ∧ Blk wr g 102 (wvs s) ∧ Blk wr (g + 1) 102 (wvs (List.replicate 8 0)) ∧ Blk wr (g + 1 + 1) 115 (wvs (ringAt b k)) ∧ Blk wr (g + 3) 102 (wvs (rnds b s k)) ∧ Below g w wr) (fun j _ => 64 - (intOf j).toNat)
      case atStart => exact ⟨0, by omega, rfl, START.out⟩
      case round =>
        clear START
        obtain ⟨k, hk, rfl, hI⟩ := hrel
        by_cases hlt : k < 64
        · have x0 : ∀ W, (Instr.index 103 (.agg (wvs kList)) (.int .i64 (k : Int))).run Tryd.prog W = .ok (.int .u32 (kAt k).toNat) W := by
            exact fun W => kAt_index hlt W
          have hi0 : (0 : Int) ≤ (k : Int) := by omega
          have hm0 : (k : Int).tmod 16 = ((k % 16 : Nat) : Int) := by rw [Int.tmod_eq_emod_of_nonneg hi0]; omega
          have c0 := hI.2.2.1.word (i := k % 16) (by rw [ringAt_length]; omega)
          have HI := Lib.hid hI; clear hI
          rcases Nat.lt_or_ge k 16 with h16 | h16
          case' inl =>
            go_wp2_with fail
            refine wp_abs (fun W => Blk W g 102 (wvs s) ∧ Blk W (g + 1) 102 (wvs (List.replicate 8 0)) ∧ Blk W (g + 1 + 1) 115 (wvs (ringAt b (k + 1))) ∧ Blk W (g + 3) 102 (wvs (rnds b s k)) ∧ Below g w W) (by rw [ringAt_step b h16]; exact HI.out) ?_
            rw [ringAt_low b h16]
          case' inr =>
            go_wp2_with (go_at_call 65; refine (next_any (g + 1 + 1) (ringAt b k) k _ (ringAt_length b k) (by omega) HI.out.2.2.1).mono ?_; rintro e w2 ⟨rfl, hg2, hb2⟩)
            rw [ringNext_eq b h16, ringAt_set b h16] at hb2
            rw [ringNext_eq b h16]
            refine wp_abs (fun W => Blk W g 102 (wvs s) ∧ Blk W (g + 1) 102 (wvs (List.replicate 8 0)) ∧ Blk W (g + 1 + 1) 115 (wvs (ringAt b (k + 1))) ∧ Blk W (g + 3) 102 (wvs (rnds b s k)) ∧ Below g w W)
              ⟨HI.out.1.grown hg2 (by intro h; injection h with h; omega), HI.out.2.1.grown hg2 (by intro h; injection h with h; omega), hb2, HI.out.2.2.2.1.grown hg2 (by intro h; injection h with h; omega), HI.out.2.2.2.2.grown hg2 (by have := HI.out.2.2.1.lt; omega) (by intro k hk; injection hk with hk; omega)⟩ ?_
            clear hg2 hb2
          all_goals (
            clear HI c0
            rintro W2 HI2
            obtain ⟨a0, a1, a2, a3, a4, a5, a6, a7, he⟩ := eight (rnds_length b hs k)
            have HV := HI2.2.2.2.1
            have hst : rnds b s (k + 1) = step (rnds b s k) (kAt k) (wd b k) := rfl
            rw [he] at HV
            rw [he, step_eq2] at hst
            have HST := Lib.hid hst
            rw [he] at HI2
            clear he hst
            have d0 : W2.cell? ⟨g + 3, 0, none⟩ = some (.int .u32 a0.toNat) := HV.cell 0
            have d1 : W2.cell? ⟨g + 3, 1, none⟩ = some (.int .u32 a1.toNat) := HV.cell 1
            have d2 : W2.cell? ⟨g + 3, 2, none⟩ = some (.int .u32 a2.toNat) := HV.cell 2
            have d3 : W2.cell? ⟨g + 3, 3, none⟩ = some (.int .u32 a3.toNat) := HV.cell 3
            have d4 : W2.cell? ⟨g + 3, 4, none⟩ = some (.int .u32 a4.toNat) := HV.cell 4
            have d5 : W2.cell? ⟨g + 3, 5, none⟩ = some (.int .u32 a5.toNat) := HV.cell 5
            have d6 : W2.cell? ⟨g + 3, 6, none⟩ = some (.int .u32 a6.toNat) := HV.cell 6
            have d7 : W2.cell? ⟨g + 3, 7, none⟩ = some (.int .u32 a7.toNat) := HV.cell 7
            have HI3 := Lib.hid HI2
            clear HI2 HV
            clear x0
            go_quiet (first | (go_at_call 66; refine Calls.quiet_of_same (three_S1b _ _)))
            rw [t_int]
            go_wp2_with fail
            refine wp_abs (fun W => Blk W g 102 (wvs s) ∧ Blk W (g + 1) 102 (wvs (List.replicate 8 0)) ∧ Blk W (g + 1 + 1) 115 (wvs (ringAt b (k + 1))) ∧ Blk W (g + 3) 102 (wvs [a0, a1, a2, a3, a4, a5, a6, a7]) ∧ Below g w W) ⟨HI3.out.1.drewN _, HI3.out.2.1.drewN _, HI3.out.2.2.1.drewN _, HI3.out.2.2.2.1.drewN _, below_drewN HI3.out.2.2.2.2 _⟩ ?_
            clear d0 d1 d2 d3 d4 d5 d6 d7 HI3
            clear W2
            rintro W2 HI2
            have HV := HI2.2.2.2.1
            have d0 : W2.cell? ⟨g + 3, 0, none⟩ = some (.int .u32 a0.toNat) := HV.cell 0
            have d1 : W2.cell? ⟨g + 3, 1, none⟩ = some (.int .u32 a1.toNat) := HV.cell 1
            have d2 : W2.cell? ⟨g + 3, 2, none⟩ = some (.int .u32 a2.toNat) := HV.cell 2
            have d3 : W2.cell? ⟨g + 3, 3, none⟩ = some (.int .u32 a3.toNat) := HV.cell 3
            have d4 : W2.cell? ⟨g + 3, 4, none⟩ = some (.int .u32 a4.toNat) := HV.cell 4
            have d5 : W2.cell? ⟨g + 3, 5, none⟩ = some (.int .u32 a5.toNat) := HV.cell 5
            have d6 : W2.cell? ⟨g + 3, 6, none⟩ = some (.int .u32 a6.toNat) := HV.cell 6
            have d7 : W2.cell? ⟨g + 3, 7, none⟩ = some (.int .u32 a7.toNat) := HV.cell 7
            have HI3 := Lib.hid HI2
            clear HI2 HV
            go_quiet (first | (go_at_call 66; refine Calls.quiet_of_same (three_S0b _ _)))
            have HI4 : Hid (Blk (W2.drewN nq) g 102 (wvs s) ∧ Blk (W2.drewN nq) (g + 1) 102 (wvs (List.replicate 8 0)) ∧ Blk (W2.drewN nq) (g + 1 + 1) 115 (wvs (ringAt b (k + 1))) ∧ Blk (W2.drewN nq) (g + 3) 102 (wvs [a0, a1, a2, a3, a4, a5, a6, a7]) ∧ Below g w (W2.drewN nq)) := Lib.hid ⟨HI3.out.1.drewN _, HI3.out.2.1.drewN _, HI3.out.2.2.1.drewN _, HI3.out.2.2.2.1.drewN _, below_drewN HI3.out.2.2.2.2 _⟩
            clear d0 d1 d2 d3 d4 d5 d6 d7 HI3
            generalize W2.drewN nq = W3 at *
            have HV := HI4.out.2.2.2.1
            have d0 : W3.cell? ⟨g + 3, 0, none⟩ = some (.int .u32 a0.toNat) := HV.cell 0
            have d1 : W3.cell? ⟨g + 3, 1, none⟩ = some (.int .u32 a1.toNat) := HV.cell 1
            have d2 : W3.cell? ⟨g + 3, 2, none⟩ = some (.int .u32 a2.toNat) := HV.cell 2
            have d3 : W3.cell? ⟨g + 3, 3, none⟩ = some (.int .u32 a3.toNat) := HV.cell 3
            have d4 : W3.cell? ⟨g + 3, 4, none⟩ = some (.int .u32 a4.toNat) := HV.cell 4
            have d5 : W3.cell? ⟨g + 3, 5, none⟩ = some (.int .u32 a5.toNat) := HV.cell 5
            have d6 : W3.cell? ⟨g + 3, 6, none⟩ = some (.int .u32 a6.toNat) := HV.cell 6
            have d7 : W3.cell? ⟨g + 3, 7, none⟩ = some (.int .u32 a7.toNat) := HV.cell 7
            clear HV
            generalize t1F a4 a5 a6 a7 (kAt k) (wd b k) = T at *
            generalize add32 (S0 a0) (xor32 (xor32 (and32 a0 a1) (and32 a0 a2)) (and32 a1 a2)) = U at *
            have hz8 : ∀ x0 x1 x2 x3 x4 x5 x6 x7 : UInt32, (wvs [x0, x1, x2, x3, x4, x5, x6, x7]).size = 8 := fun _ _ _ _ _ _ _ _ => rfl
            go_wp2_with (refine wpList_store_blk rfl 102 (.tmp 9) (.tmp 119) rfl (g + 3) 102 _ (wvs [add32 T U, a0, a1, a2, add32 a3 T, a4, a5, a6]) rfl rfl HI4.out.2.2.2.1 (by rw [hz8, hz8]) (by rw [hz8]; kernel_rfl) (wvs_one _) ?_; intro w4 hb4 hg4 hz4)
            go_roundw
            case rel =>
              refine ⟨k + 1, by omega, by go_num, HI4.out.1.grown hg4 (by intro h; injection h with h; omega), HI4.out.2.1.grown hg4 (by intro h; injection h with h; omega), HI4.out.2.2.1.grown hg4 (by intro h; injection h with h; omega), by rw [HST.out]; exact hb4, HI4.out.2.2.2.2.grown hg4 (by have := HI4.out.2.2.1.lt; omega) (by intro k hk; injection hk with hk; omega)⟩
            case measure => simp [intOf]; omega)
        · obtain rfl : k = 64 := by omega
          have HI := Lib.hid hI; clear hI
          have START := HI
          go_wp2_with fail
          have START : Hid (Blk wr g 102 (wvs (addFill s (rnds b s 64) 0)) ∧ Blk wr (g + 1) 102 (wvs (List.replicate 8 0)) ∧ Blk wr (g + 3) 102 (wvs (rnds b s 64)) ∧ Below g w wr) := Lib.hid ⟨by rw [addFill_zero hs]; exact HI.out.1, HI.out.2.1, HI.out.2.2.2.1, HI.out.2.2.2.2⟩
          clear HI
          go_loopw [121] (fun i wr => ∃ k : Nat, k ≤ 8 ∧ i = .int .i64 k ∧ Blk wr g 102 (wvs (addFill s (rnds b s 64) k)) ∧ Blk wr (g + 1) 102 (wvs (List.replicate 8 0)) ∧ Blk wr (g + 3) 102 (wvs (rnds b s 64)) ∧ Below g w wr) (fun j _ => 8 - (intOf j).toNat)
          case atStart => exact ⟨0, by omega, rfl, START.out⟩
          case round =>
            clear START
            obtain ⟨k, hk, rfl, hI⟩ := hrel
            by_cases hlt : k < 8
            · have c0 := hI.1.word (i := k) (by rw [addFill_length]; omega)
              rw [addFill_at _ _ hlt] at c0
              have f0 := hI.1.frozen k
              have c1 := hI.2.2.1.word (i := k) (by rw [rnds_length b hs]; omega)
              have HI := Lib.hid hI; clear hI
              go_wp2_with fail
              go_region
              have HI2 : Hid (Blk ((wr.setCell ⟨g, k, none⟩ (.int .u32 (add32 (at32 s k) (at32 (rnds b s 64) k)).toNat)).drew) g 102 (wvs (addFill s (rnds b s 64) (k + 1))) ∧ Blk ((wr.setCell ⟨g, k, none⟩ (.int .u32 (add32 (at32 s k) (at32 (rnds b s 64) k)).toNat)).drew) (g + 1) 102 (wvs (List.replicate 8 0)) ∧ Blk ((wr.setCell ⟨g, k, none⟩ (.int .u32 (add32 (at32 s k) (at32 (rnds b s 64) k)).toNat)).drew) (g + 3) 102 (wvs (rnds b s 64)) ∧ Below g w ((wr.setCell ⟨g, k, none⟩ (.int .u32 (add32 (at32 s k) (at32 (rnds b s 64) k)).toNat)).drew)) := by
                refine Lib.hid ⟨?_, (HI.out.2.1.other (p := ⟨g, k, none⟩) (show g + 1 ≠ g by omega) _).drew, (HI.out.2.2.1.other (p := ⟨g, k, none⟩) (show g + 3 ≠ g by omega) _).drew, (HI.out.2.2.2.setCell (p := ⟨g, k, none⟩) (show g ≤ g by omega) _).drew⟩
                rw [← addFill_set s (rnds b s 64) hlt]
                exact (HI.out.1.word_store _ _).drew
              clear c0 c1 f0 HI
              generalize (wr.setCell ⟨g, k, none⟩ (.int .u32 (add32 (at32 s k) (at32 (rnds b s 64) k)).toNat)).drew = w2 at *
              go_wp2_with fail
              go_roundw
              case rel => exact ⟨k + 1, by omega, by go_num, HI2.out⟩
              case measure => simp [intOf]; omega
            · obtain rfl : k = 8 := by omega
              have HI := Lib.hid hI; clear hI
              rw [addFill_all] at HI
              have e8 : (wvs (comp s b)).size = 8 := by rw [wvs_size]; exact comp_length s b
              go_wp2_with (first | (refine wpList_load_blk rfl 102 (.tmp 2) rfl g 102 (wvs (comp s b)) rfl HI.out.1 Tryd.underlying102 rfl (by rw [e8]; kernel_rfl) ?_) | (refine wpList_store_blk rfl 102 (.tmp 4) (.tmp 133) rfl (g + 1) 102 _ (wvs (comp s b)) rfl rfl HI.out.2.1 (by rw [e8]; rfl) (by rw [e8]; kernel_rfl) (wvs_one _) ?_; intro w1 hb1 hg1 hz1))
              refine bodyPost_ret (results_cell Tryd.results61 rfl (t := 102) (g := g + 1) (cs := wvs (comp s b)) hb1 Tryd.underlying102 rfl (by rw [e8]; kernel_rfl)) rfl ⟨rfl, ?_⟩
              rw [HG.out]
              exact (HI.out.2.2.2).grown hg1 (by have := HI.out.1.lt; omega) (by intro k hk; injection hk with hk; omega)
end Go.Proofs.YtlkhbfafednegaaDoor
namespace Go.Proofs.YtlkhbfafednegaaDoor
open Go Go.RowKit

/-- the digest's bytes while they are laid -/
def outF (S : List UInt32) (i : Nat) : List UInt8 := (List.range 32).map fun j => if j < i then UInt8.ofNat ((S.getD (j / 4) 0).toNat / 2 ^ (24 - j % 4 * 8)) else 0
theorem outF_length (S : List UInt32) (i : Nat) : (outF S i).length = 32 := by simp [outF]
theorem outF_zero (S : List UInt32) : outF S 0 = List.replicate 32 0 := by
  unfold outF
  simp only [Nat.not_lt_zero, if_false]
  rfl
theorem outF_all (S : List UInt32) : outF S 32 = outB S := by
  apply List.map_congr_left
  intro j hj
  have hj : j < 32 := by simpa using hj
  rw [if_pos hj]
theorem outF_set (S : List UInt32) {i : Nat} (h : i < 32) : (outF S i).set i (UInt8.ofNat ((S.getD (i / 4) 0).toNat / 2 ^ (24 - i % 4 * 8))) = outF S (i + 1) := by
  apply List.ext_getElem?
  intro j
  rw [List.getElem?_set]
  simp only [outF, List.length_map, List.length_range, List.getElem?_map]
  by_cases h1 : i = j
  · subst h1; simp [h]
  · by_cases h2 : j < 32
    · rw [if_neg h1]
      simp only [h2, List.getElem?_range, Option.map_some]
      by_cases h3 : j < i
      · rw [if_pos h3, if_pos (by omega)]
      · rw [if_neg h3, if_neg (by omega)]
    · rw [if_neg h1]
      simp [h2]

set_option maxRecDepth 100000 in
set_option maxHeartbeats 1000000 in
theorem of_any (v : Value) (ls : List (List UInt8)) (w : World) (hT : Tab w) (h0 : 0 < w.heap.size) (hP : Parts w v ls) (hn : ls.length ≤ 1000000) (hs : ls.flatten.length ≤ 1000000) :
    Calls Tryd.prog 51 #[v] w fun e w' => e = .returned (.agg (bvs (sha ls.flatten))) ∧ Below w.heap.size w w' := by
  obtain ⟨i8, hi8, hz8, hsz8, hby8⟩ := info8
  have HI8 := Lib.hid hi8; clear hi8
  have hP1 : Parts (w.alloc (.cells (bvs (List.replicate 32 0)) 66)) v ls := hP.keep ((Below.refl _ _).alloc (Nat.le_refl _) _)
  have hz1 : (w.alloc (.cells (bvs (List.replicate 32 0)) 66)).heap.size = w.heap.size + 1 := by simp
  generalize hm : ls.flatten = m at *
  generalize hg : w.heap.size = g at *
  have HG := Lib.hid hg; clear hg
  go_enter Tryd.func51, Tryd.ntmps51
  go_wp2_with (first
    | (go_at_call 59
       refine (join_any v ls _ hP1 (by omega) (by rw [hm]; omega)).mono ?_
       rintro e w1 ⟨v1, rfl, ho, hb⟩
       rw [hm, show (w.alloc (.cells (bvs (List.replicate 32 0)) 66)).heap.size = g + 1 from hz1] at ho
       have hb1 : Blk w1 g 66 (bvs (List.replicate 32 0)) := (Blk.new' HG.out _ _).below hb (by rw [hz1]; omega)
       have hbw : Below g w w1 := ((Below.refl g w).alloc (by rw [HG.out]; omega) _).trans (hb.mono (by rw [hz1]; omega))
       have hsz : g + 1 ≤ w1.heap.size := by have := hb.size; rw [hz1] at this; exact this
       obtain ⟨A1, c1, rfl⟩ := ho.slice
       have HO := Lib.hid ho
       have HF := Lib.hid (And.intro hb1 hbw)
       clear ho hb1 hbw hb)
    | (at_builtin
       refine wpList_append_byte rfl (.tmp 15) (.tmp 16) 24 rfl (g + 1) 5 i8 Tryd.underlying24 HI8.out hz8 hsz8 hby8 _ m rfl (HO.out.alloc _) w1.heap.size 1 128 rfl ((Blk.new _ _ _).cell 0) (by omega) (by simp; omega) ?_
       intro v2 w2 ho2 hb2
       have hb3 : Blk w2 g 66 (bvs (List.replicate 32 0)) := (HF.out.1.alloc _).below hb2 (by omega)
       have hbw : Below g w w2 := (HF.out.2.alloc (by omega) _).trans (hb2.mono (by omega))
       have hsz2 : g + 1 ≤ w2.heap.size := by have := hb2.size; simp at this; omega
       have HS : Hid (OwnB w2 (g + 1) v2 (m ++ [128] ++ List.replicate 0 0) ∧ Blk w2 g 66 (bvs (List.replicate 32 0)) ∧ Below g w w2 ∧ g + 1 ≤ w2.heap.size) := Lib.hid ⟨ho2.mk_eq (by simp), hb3, hbw, hsz2⟩
       clear HO HF ho2 hb2 hb3 hbw hsz2 hsz))
  rw [HG.out]
  go_loopw [3] (fun x wr => ∃ k, k ≤ zeros m.length ∧ OwnB wr (g + 1) x (m ++ [128] ++ List.replicate k 0) ∧ Blk wr g 66 (bvs (List.replicate 32 0)) ∧ Below g w wr ∧ g + 1 ≤ wr.heap.size) (fun x _ => 1000100 - vlen x)
  case atStart => exact ⟨0, by omega, HS.out⟩
  case round =>
    clear HS
    obtain ⟨k, hk, hI⟩ := hrel
    obtain ⟨A2, c2, rfl⟩ := hI.1.slice
    have hlen : (m ++ [128] ++ List.replicate k (0 : UInt8)).length = m.length + 1 + k := by simp; omega
    have hzl : zeros m.length < 64 := by unfold zeros; omega
    rw [hlen] at hI ⊢
    have hm0 : ((m.length + 1 + k : Nat) : Int).tmod 64 = (((m.length + 1 + k) % 64 : Nat) : Int) := by rw [Int.tmod_eq_emod_of_nonneg (by omega)]; omega
    by_cases hlt : k < zeros m.length
    · have h56 := zeros_least hlt
      have h56' : (((m.length + 1 + k) % 64 : Nat) : Int) ≠ 56 := by omega
      have HI := Lib.hid hI; clear hI
      go_wp2_with (
        (at_builtin
         refine wpList_append_byte rfl (.tmp 22) (.tmp 23) 24 rfl (g + 1) 5 i8 Tryd.underlying24 HI8.out hz8 hsz8 hby8 _ _ rfl (HI.out.1.alloc _) _ 1 0 rfl ((Blk.new _ _ _).cell 0) (by rw [hlen]; omega) (by have := HI.out.2.2.2; simp; omega) ?_
         intro v2 w2 ho2 hb2
         have hz := HI.out.2.2.2
         have hb3 : Blk w2 g 66 (bvs (List.replicate 32 0)) := (HI.out.2.1.alloc _).below hb2 (by omega)
         have hbw : Below g w w2 := (HI.out.2.2.1.alloc (by omega) _).trans (hb2.mono (by omega))
         have hsz2 : g + 1 ≤ w2.heap.size := by have := hb2.size; simp at this; omega
         have HS : Hid (OwnB w2 (g + 1) v2 (m ++ [128] ++ List.replicate (k + 1) 0) ∧ Blk w2 g 66 (bvs (List.replicate 32 0)) ∧ Below g w w2 ∧ g + 1 ≤ w2.heap.size) := Lib.hid ⟨ho2.mk_eq (by rw [List.replicate_succ']; simp), hb3, hbw, hsz2⟩
         clear HI ho2 hb2 hb3 hbw hsz2 hz))
      go_roundw
      case rel => exact ⟨k + 1, by omega, HS.out⟩
      case measure =>
        obtain ⟨A3, c3, rfl⟩ := HS.out.1.slice
        simp [vlen]; omega
    · obtain rfl : k = zeros m.length := by omega
      have h56 := zeros_spec m.length
      have h56' : (((m.length + 1 + zeros m.length) % 64 : Nat) : Int) = 56 := by omega
      have HI := Lib.hid hI; clear hI
      go_wp2_with fail
      have hne : (((m.length : Int) + 1 + (zeros m.length : Int)) % 64 != 56) = false := by assumption
      rw [hne]
      clear hne
      generalize hp : m ++ [128] ++ List.replicate (zeros m.length) 0 = p at *
      generalize hN : m.length * 8 = N
      have hpl : p.length % 64 = 56 := by rw [hlen]; exact h56
      have HP : Hid (m ++ [128] ++ List.replicate (zeros m.length) 0 = p) := Lib.hid hp
      rw [← hlen] at HI ⊢
      have hpb : p.length ≤ 1000100 := by omega
      have hNi : (m.length : Int) * 8 = (N : Int) := by omega
      rw [hNi]
      have hNb : N ≤ 8000000 := by omega
      clear hlen hm0 h56 h56' hp hlt hk
      go_loopw [3, 5] (fun x y wr => ∃ j : Nat, j ≤ 8 ∧ y = .int .i64 (56 - 8 * (j : Int)) ∧ OwnB wr (g + 1) x (p ++ (be8 N).take j) ∧ Blk wr g 66 (bvs (List.replicate 32 0)) ∧ Below g w wr ∧ g + 1 ≤ wr.heap.size) (fun _ y _ => (intOf y + 8).toNat)
      case atStart => exact ⟨0, by omega, rfl, by simpa using HI.out⟩
      case round =>
        clear HI
        obtain ⟨j, hj, rfl, hI⟩ := hrel
        obtain ⟨A3, c3, rfl⟩ := hI.1.slice
        have hlen : (p ++ (be8 N).take j).length = p.length + j := by rw [List.length_append, List.length_take, be8_length]; omega
        rw [hlen] at hI ⊢
        by_cases hlt : j < 8
        · have HI := Lib.hid hI; clear hI
          obtain ⟨y, hy⟩ : ∃ y : UInt8, y = UInt8.ofNat (N / 256 ^ (7 - j)) := ⟨_, rfl⟩
          have hyv : ((N : Int) / 2 ^ (56 - 8 * j) % 256) = (y.toNat : Int) := by
            rw [hy, UInt8.toNat_ofNat', show (256 : Nat) = 2 ^ 8 from rfl, ← Nat.pow_mul, show 8 * (7 - j) = 56 - 8 * j by omega]
            simp
          have hye : (be8 N).take (j + 1) = (be8 N).take j ++ [y] := by
            rw [List.take_add_one, hy]
            simp [be8, hlt]
          have HY := Lib.hid hye
          have HYV := Lib.hid hyv
          clear hy hye hyv
          go_wp2_with (
            (at_builtin
             refine wpList_append_byte rfl (.tmp 29) (.tmp 34) 24 rfl (g + 1) 5 i8 Tryd.underlying24 HI8.out hz8 hsz8 hby8 _ _ rfl (HI.out.1.alloc _) wr.heap.size 1 y rfl (((Blk.new _ _ _).cell 0).trans (congrArg (fun z => some (Value.int .u8 z)) HYV.out)) (by rw [hlen]; omega) (by have := HI.out.2.2.2; simp; omega) ?_
             intro v2 w2 ho2 hb2
             have hz := HI.out.2.2.2
             have hb3 : Blk w2 g 66 (bvs (List.replicate 32 0)) := (HI.out.2.1.alloc _).below hb2 (by omega)
             have hbw : Below g w w2 := (HI.out.2.2.1.alloc (by omega) _).trans (hb2.mono (by omega))
             have hsz2 : g + 1 ≤ w2.heap.size := by have := hb2.size; simp at this; omega
             have HS : Hid (OwnB w2 (g + 1) v2 (p ++ (be8 N).take (j + 1)) ∧ Blk w2 g 66 (bvs (List.replicate 32 0)) ∧ Below g w w2 ∧ g + 1 ≤ w2.heap.size) := Lib.hid ⟨ho2.mk_eq (by rw [HY.out, List.append_assoc]), hb3, hbw, hsz2⟩
             clear HI HY HYV ho2 hb2 hb3 hbw hsz2 hz))
          go_roundw
          case rel => exact ⟨j + 1, by omega, by go_num, HS.out⟩
          case measure => simp [intOf]; omega
        · obtain rfl : j = 8 := by omega
          have hfin : p ++ (be8 N).take 8 = padM m := by
            rw [List.take_of_length_le (by rw [be8_length]; omega), ← HP.out, ← hN]
            rfl
          have hI2 := hI
          rw [hfin] at hI2
          have hPl : (padM m).length = p.length + 8 := by rw [← hfin, hlen]
          rw [← hPl] at hI2 ⊢
          have hpm : (padM m).length % 64 = 0 := padM_mod m
          obtain ⟨K, hK⟩ : ∃ K, (padM m).length = 64 * K := ⟨(padM m).length / 64, by omega⟩
          have hKb : K ≤ 20000 := by omega
          have hform := hI2.1.form (by intro h; rw [h] at hPl; simp at hPl)
          have HI := Lib.hid hI2; clear hI hI2 hfin hlen
          obtain ⟨gb, cb, hv3, hgb1, hgb2, hcb, hcm, hcell⟩ := hform
          injection hv3 with hA3 _ hc3
          subst hA3 hc3
          have HC := Lib.hid hcell
          clear hcell
          go_wp2_with (first
            | (go_at_call 60
               refine (first_any wr).mono ?_
               rintro e w3 ⟨rfl, hb3⟩)
            | (refine wpList_store_blk rfl 102 (.tmp 6) (.tmp 36) rfl w3.heap.size 102 _ (wvs h0List) rfl rfl (Blk.new _ _ _) (by kernel_rfl) (by kernel_rfl) (wvs_one _) ?_
               intro w4 hb4 hg4 hz4
               have hz := HI.out.2.2.2
               have hs3 := hb3.size
               have hB4 : Below wr.heap.size wr w4 := (hb3.alloc hs3 _).grown hg4 (by simp; omega) (by intro k hk; injection hk with hk; omega)
               have HL : Hid (∃ gs, gs = w3.heap.size ∧ (g + 1 ≤ gs ∧ gb < gs) ∧ Blk w4 gs 102 (wvs h0List) ∧ Blk w4 g 66 (bvs (List.replicate 32 0)) ∧ Below g w w4 ∧ (∀ (i : Nat) (x : UInt8), (padM m)[i]? = some x → w4.cell? ⟨gb, i, none⟩ = some (Value.int IntKind.u8 (x.toNat : Int)))) := 
                 Lib.hid ⟨_, rfl, ⟨by omega, by omega⟩, hb4, HI.out.2.1.below hB4 (by omega), HI.out.2.2.1.trans (hB4.mono (by omega)), fun i x hx => (hB4.cell (p := ⟨gb, i, none⟩) hgb2).trans (HC.out i x hx)⟩
               clear hb3 hb4 hg4 hz4 hz hs3 hB4 HI HC))
          rw [← hPl]
          obtain ⟨gs, hgs, ⟨hgs1, hgs2⟩, hL⟩ := HL.out
          rw [← hgs]
          have HL2 := Lib.hid hL
          clear HL hL hgs
          rw [hK]
          simp only [Act.put]
          go_loopw [3] (fun x wr => ∃ k o c : Nat, k ≤ K ∧ x = .slice (some ⟨gb, o, none⟩) (64 * (K - k)) c ∧ 64 * (K - k) ≤ c ∧ c ≤ maxLen ∧ (k < K → o = 64 * k) ∧ Blk wr gs 102 (wvs (parts (padM m) k)) ∧ Blk wr g 66 (bvs (List.replicate 32 0)) ∧ Below g w wr ∧ (∀ (i : Nat) (x : UInt8), (padM m)[i]? = some x → wr.cell? ⟨gb, i, none⟩ = some (Value.int .u8 (x.toNat : Int)))) (fun x _ => vlen x)
          case atStart => exact ⟨0, 0, c3, by omega, rfl, by omega, hcm, fun _ => by omega, HL2.out⟩
          case round =>
            clear HL2
            obtain ⟨k, o, c, hk, rfl, hc, hcm2, ho, hI⟩ := hrel
            by_cases hlt : k < K
            · obtain rfl := ho hlt
              have hpos : (0 : Int) < ((64 * (K - k) : Nat) : Int) := by omega
              have HI := Lib.hid hI; clear hI
              have hk64 : 64 ≤ 64 * (K - k) := by omega
              obtain ⟨S1, hS1⟩ : ∃ S1, S1 = parts (padM m) k := ⟨_, rfl⟩
              obtain ⟨S2, hS2⟩ : ∃ S2, S2 = comp S1 ((padM m).drop (64 * k)) := ⟨_, rfl⟩
              have hS3 : parts (padM m) (k + 1) = S2 := by rw [hS2, hS1]; rfl
              rw [← hS1] at HI
              have hl1 : S1.length = 8 := by rw [hS1]; exact parts_length _ _
              have hl2 : S2.length = 8 := by rw [hS2]; exact comp_length _ _
              have hps : (wvs S1).size = 8 := by rw [wvs_size]; exact hl1
              have hps1 : (wvs S2).size = 8 := by rw [wvs_size]; exact hl2
              have hPb : ∀ i, i < 64 → wr.cell? ⟨gb, 64 * k + i, none⟩ = some (.int .u8 (byteAt ((padM m).drop (64 * k)) i).toNat) := by
                intro i hi
                have hil : 64 * k + i < (padM m).length := by omega
                have h1 := HI.out.2.2.2 (64 * k + i) (padM m)[64 * k + i] (List.getElem?_eq_getElem hil)
                rw [h1]
                have h2 : byteAt ((padM m).drop (64 * k)) i = (padM m)[64 * k + i] := by
                  unfold byteAt
                  rw [List.getD_eq_getElem?_getD, List.getElem?_drop, List.getElem?_eq_getElem hil]
                  rfl
                rw [h2]
              have hgb3 : gb < wr.heap.size := by
                have h := hPb 0 (by omega)
                exact lt_of_cell h
              have HPB := Lib.hid hPb
              clear hPb
              have HS3 := Lib.hid hS3
              have HS2 := Lib.hid hS2
              clear hS1 hS3 hS2
              go_wp2_with (first
                | (refine wpList_load_blk rfl 102 (.tmp 6) rfl gs 102 (wvs S1) rfl HI.out.1 Tryd.underlying102 rfl (by rw [hps]; kernel_rfl) ?_)
                | (go_at_call 61
                   refine (take_any S1 ((padM m).drop (64 * k)) gb (64 * k) _ _ wr hl1 (hT.below HI.out.2.2.1 h0) (Nat.lt_trans h0 HI.out.2.1.lt) hgb3 (by omega) hc HPB.out).mono ?_
                   rintro e w3 ⟨rfl, hb3⟩
                   rw [← HS2.out])
                | (refine wpList_store_blk rfl 102 (.tmp 6) (.tmp 44) rfl gs 102 _ (wvs S2) rfl rfl (HI.out.1.below hb3 HI.out.1.lt) (by rw [hps, hps1]) (by rw [hps1]; kernel_rfl) (wvs_one _) ?_
                   intro w4 hb4 hg4 hz4
                   have hs3 := hb3.size
                   have hgs := HI.out.1.lt
                   have HL : Hid (Blk w4 gs 102 (wvs (parts (padM m) (k + 1))) ∧ Blk w4 g 66 (bvs (List.replicate 32 0)) ∧ Below g w w4 ∧ (∀ (i : Nat) (x : UInt8), (padM m)[i]? = some x → w4.cell? ⟨gb, i, none⟩ = some (Value.int .u8 (x.toNat : Int)))) := by
                     refine Lib.hid ⟨by rw [HS3.out]; exact hb4, (HI.out.2.1.below hb3 HI.out.2.1.lt).grown hg4 (by intro h; injection h with h; omega), (HI.out.2.2.1.trans (hb3.mono (by omega))).grown hg4 (by omega) (by intro k hk; injection hk with hk; omega), fun i x hx => ?_⟩
                     have h := (hb3.cell (p := ⟨gb, i, none⟩) hgb3).trans (HI.out.2.2.2 i x hx)
                     exact hg4.cell h (by intro h; injection h with h; simp only at h; omega)
                   clear hb3 hb4 hg4 hz4 HI))
              go_roundw
              case rel =>
                have e64 : 64 * (K - k) - 64 = 64 * (K - (k + 1)) := by omega
                rw [e64]
                by_cases h64 : c = 64
                · rw [if_pos h64]
                  exact ⟨k + 1, 64 * k, c - 64, by omega, rfl, by omega, by omega, fun h => by omega, HL.out⟩
                · rw [if_neg h64]
                  exact ⟨k + 1, 64 * k + 64, c - 64, by omega, rfl, by omega, by omega, fun h => by omega, HL.out⟩
              case measure => simp [vlen]; omega
            · obtain rfl : k = K := by omega
              have hz0 : 64 * (k - k) = 0 := by omega
              rw [hz0] at hc ⊢
              have HI := Lib.hid hI; clear hI
              go_wp2_with fail
              refine wp_abs (fun W => ∃ go, go = wr.heap.size ∧ gs < go ∧ Blk W go 66 (bvs (outF (parts (padM m) k) 0)) ∧ Blk W gs 102 (wvs (parts (padM m) k)) ∧ Blk W g 66 (bvs (List.replicate 32 0)) ∧ Below g w W) ⟨_, rfl, HI.out.1.lt, ?_, HI.out.1.alloc _, HI.out.2.1.alloc _, HI.out.2.2.1.alloc (by have := HI.out.1.lt; omega) _⟩ ?_
              · rw [outF_zero]; exact Blk.new _ _ _
              rintro W ⟨go, hgo, hgo1, hI⟩
              rw [← hgo]
              have START := Lib.hid hI
              clear HI hI hgo
              obtain ⟨S, hS⟩ : ∃ S, S = parts (padM m) k := ⟨_, rfl⟩
              rw [← hS] at START
              have hSl : S.length = 8 := by rw [hS]; exact parts_length _ _
              have HSF : Hid (sha m = outB S) := Lib.hid (by unfold sha; rw [hK, Nat.mul_div_cancel_left _ (by omega), hS])
              clear hS
              go_loopw [45] (fun x wr => ∃ i : Nat, i ≤ 32 ∧ x = .int .i64 i ∧ Blk wr go 66 (bvs (outF S i)) ∧ Blk wr gs 102 (wvs S) ∧ Blk wr g 66 (bvs (List.replicate 32 0)) ∧ Below g w wr) (fun x _ => 32 - (intOf x).toNat)
              case atStart => exact ⟨0, by omega, rfl, START.out⟩
              case round =>
                clear START
                obtain ⟨i, hi, rfl, hI⟩ := hrel
                by_cases hlt : i < 32
                · have hi0 : (0 : Int) ≤ (i : Int) := by omega
                  have hm4 : (i : Int).tmod 4 = ((i % 4 : Nat) : Int) := by rw [Int.tmod_eq_emod_of_nonneg hi0]; omega
                  have hq4 : (i : Int).tdiv 4 = ((i / 4 : Nat) : Int) := by rw [Int.tdiv_eq_ediv_of_nonneg hi0]; omega
                  have c0 := hI.2.1.word (i := i / 4) (by omega)
                  have c1 := hI.1.byte (i := i) (by rw [outF_length]; omega)
                  have f1 := hI.1.frozen i
                  have HI := Lib.hid hI; clear hI
                  go_wp2_with fail
                  have ey : ((at32 S (i / 4)).toNat : Int) / 2 ^ (24 - i % 4 * 8) % 256 = ((UInt8.ofNat ((S.getD (i / 4) 0).toNat / 2 ^ (24 - i % 4 * 8))).toNat : Int) := by
                    rw [UInt8.toNat_ofNat']
                    unfold at32
                    simp
                  rw [ey]
                  go_roundw
                  case rel =>
                    refine ⟨i + 1, by omega, by go_num, ?_, HI.out.2.1.other (p := ⟨go, i, none⟩) (show gs ≠ go by omega) _, HI.out.2.2.1.other (p := ⟨go, i, none⟩) (show g ≠ go by omega) _, HI.out.2.2.2.setCell (p := ⟨go, i, none⟩) (show g ≤ go by omega) _⟩
                    rw [← outF_set S hlt]
                    exact HI.out.1.byte_store _ _
                  case measure => simp [intOf]; omega
                · obtain rfl : i = 32 := by omega
                  have HI := Lib.hid hI; clear hI
                  rw [outF_all, ← HSF.out] at HI
                  have e8 : (bvs (sha m)).size = 32 := by rw [bvs_size]; exact sha_length m
                  have e9 : (bvs (List.replicate 32 (0 : UInt8))).size = 32 := rfl
                  go_wp2_with (first | (refine wpList_load_blk rfl 66 (.tmp 7) rfl go 66 (bvs (sha m)) rfl HI.out.1 Tryd.underlying66 rfl (by rw [e8]; kernel_rfl) ?_) | (refine wpList_store_blk rfl 66 (.tmp 2) (.tmp 61) rfl g 66 _ (bvs (sha m)) rfl rfl HI.out.2.2.1 (by rw [e8, e9]) (by rw [e8]; kernel_rfl) (bvs_one _) ?_; intro w1 hb1 hg1 hz1))
                  refine bodyPost_ret (results_cell Tryd.results51 rfl (t := 66) (g := g) (cs := bvs (sha m)) hb1 Tryd.underlying66 rfl (by rw [e8]; kernel_rfl)) rfl ⟨rfl, ?_⟩
                  exact (HI.out.2.2.2).grown hg1 (by have := HI.out.2.2.1.lt; omega) (by intro k hk; injection hk with hk; omega)
end Go.Proofs.YtlkhbfafednegaaDoor
namespace Go.Proofs.YtlkhbfafednegaaDoor
open Go Go.RowKit

theorem be8_step (N : Nat) {i : Nat} (h : i < 8) : (be8 N).drop (8 - (i + 1)) = UInt8.ofNat (N / 256 ^ i) :: (be8 N).drop (8 - i) := by
  rw [List.drop_eq_getElem_cons (by rw [be8_length]; omega), show 8 - (i + 1) + 1 = 8 - i by omega]
  congr 1
  simp only [be8, List.getElem_map, List.getElem_range]
  rw [show 7 - (8 - (i + 1)) = i by omega]
theorem t_int2 (a4 a5 a6 a7 K W : UInt32) : (((((add32 a7 (xor32 (xor32 (rotr a4 6) (rotr a4 11)) (rotr a4 25))).toNat : Int) + bits .xor .u32 ((and32 a4 a5).toNat : Int) (bits .and .u32 (bits .xor .u32 (if IntKind.u32.signed = true then -1 else IntKind.u32.max) (a4.toNat : Int)) (a6.toNat : Int)) + (K.toNat : Int)) % 4294967296 + (W.toNat : Int)) % 4294967296) = ((t1F a4 a5 a6 a7 K W).toNat : Int) := t_int a4 a5 a6 a7 K W
theorem step_eq3 (a b c d e f g k K W : UInt32) : step [a, b, c, d, e, f, g, k] K W = [add32 (t1F e f g k K W) (add32 (xor32 (xor32 (rotr a 2) (rotr a 13)) (rotr a 22)) (xor32 (xor32 (and32 a b) (and32 a c)) (and32 b c))), a, b, c, add32 d (t1F e f g k K W), e, f, g] := rfl
/-- the numbers while they are moved up -/
def shiftF (l : List UInt32) (j : Nat) : List UInt32 := (List.range 8).map fun i => if j < i then at32 l (i - 1) else at32 l i
theorem shiftF_length (l : List UInt32) (j : Nat) : (shiftF l j).length = 8 := by simp [shiftF]
theorem shiftF_at (l : List UInt32) {i j : Nat} (h : i ≤ j) (h8 : i < 8) : at32 (shiftF l j) i = at32 l i := by
  have h2 : ¬ j < i := by omega
  simp [shiftF, at32, List.getD, h8, h2]
theorem shiftF_set (l : List UInt32) {j : Nat} (h : 0 < j) (h8 : j < 8) : (shiftF l j).set j (at32 l (j - 1)) = shiftF l (j - 1) := by
  apply List.ext_getElem?
  intro i
  rw [List.getElem?_set]
  simp only [shiftF, List.length_map, List.length_range, List.getElem?_map]
  by_cases h1 : j = i
  · subst h1
    have : j - 1 < j := by omega
    simp [h8, this]
  · by_cases h2 : i < 8
    · rw [if_neg h1]
      simp only [h2, List.getElem?_range, Option.map_some]
      by_cases h3 : j < i
      · rw [if_pos h3, if_pos (by omega)]
      · rw [if_neg h3, if_neg (by omega)]
    · rw [if_neg h1]
      simp [h2]
/-- the j-th byte of the digest -/
def ob (S : List UInt32) (j : Nat) : UInt8 := UInt8.ofNat ((S.getD (j / 4) 0).toNat / 2 ^ (24 - j % 4 * 8))
theorem outF_ob (S : List UInt32) {i : Nat} (h : i < 32) : (outF S i).set i (ob S i) = outF S (i + 1) := outF_set S h
theorem ob_eq (S : List UInt32) (i r : Nat) (hr : r < 4) : (ob S (4 * i + r)).toNat = (at32 S i).toNat / 2 ^ (24 - r * 8) % 256 := by
  unfold ob
  rw [show (4 * i + r) / 4 = i by omega, show (4 * i + r) % 4 = r by omega, UInt8.toNat_ofNat']
  rfl
set_option maxRecDepth 100000 in
set_option maxHeartbeats 1000000 in
theorem ref_any (s : ByteArray) (w : World) (hs : s.size ≤ 1000000) :
    Calls Tryd.prog 46 #[.string s] w fun e w' => e = .returned (.agg (bvs (sha (sb s)))) ∧ Below w.heap.size w w' := by
  go_enter Tryd.func46, Tryd.ntmps46
  go_wp2_with fail
  refine wp_abs (fun W => ∃ g, g = w.heap.size ∧ Blk W g 66 (bvs (List.replicate 32 0)) ∧ Blk W (g + 1) 102 (wvs h0List) ∧ Below g w W) ⟨_, rfl, ?_, ?_, ?_⟩ ?_
  · exact ((Blk.new w _ _).alloc _)
  · exact (Blk.new' (w := w.alloc _) (by simp) _ _).mk_eq (by kernel_rfl)
  · exact ((Below.refl w.heap.size w).alloc (Nat.le_refl _) _).alloc (by simp) _
  rintro W ⟨g, hg, hI⟩
  rw [← hg]
  have HI := Lib.hid hI
  have HG := Lib.hid hg
  clear hI hg
  go_loopw [4] (fun x wr => ∃ k b, k ≤ zeros s.size ∧ x = .string b ∧ Hid (sb b = sb s ++ [128] ++ List.replicate k 0) ∧ wr = W) (fun x _ => 1000100 - slen x)
  case atStart => exact ⟨0, _, by omega, rfl, Lib.hid (by rw [sb_append]; simp [sb]), rfl⟩
  case round =>
    obtain ⟨k, b, hk, rfl, hB, rfl⟩ := hrel
    have hzl : zeros s.size < 64 := by unfold zeros; omega
    have hbs : b.size = s.size + 1 + k := by
      have h := congrArg List.length hB.out
      rw [sb_length] at h
      simp only [List.length_append, List.length_cons, List.length_nil, List.length_replicate, sb_length] at h
      exact h
    have hm0 : (b.size : Int).tmod 64 = (((s.size + 1 + k) % 64 : Nat) : Int) := by rw [hbs, Int.tmod_eq_emod_of_nonneg (by omega)]; omega
    by_cases hlt : k < zeros s.size
    · have h56 := zeros_least hlt
      have h56' : (((s.size + 1 + k) % 64 : Nat) : Int) ≠ 56 := by omega
      go_wp2_with fail
      go_roundw
      case rel => exact ⟨k + 1, _, by omega, rfl, Lib.hid (by rw [sb_append, hB.out, List.replicate_succ']; simp [sb]), by first | rfl | trivial⟩
      case measure => simp only [slen, sz_append]; have : (ByteArray.mk #[0]).size = 1 := rfl; omega
    · obtain rfl : k = zeros s.size := by omega
      have h56 := zeros_spec s.size
      have h56' : (((s.size + 1 + zeros s.size) % 64 : Nat) : Int) = 56 := by omega
      go_wp2_with fail
      have hne : (((s.size : Int) + 1 + (zeros s.size : Int)) % 64 != 56) = false := by assumption
      rw [hne]
      obtain ⟨N, hN⟩ : ∃ N, N = s.size * 8 := ⟨_, rfl⟩
      rw [show (s.size : Int) * 8 = (N : Int) by omega]
      have hNb : N ≤ 8000000 := by omega
      clear hne hm0 h56 h56' hlt hk
      have hz : g + 1 < wr.heap.size := HI.out.2.1.lt
      go_loopw [5, 6, 7] (fun n l i wr => ∃ (j : Nat) (t : ByteArray), j ≤ 8 ∧ n = .int .u64 ((N / 256 ^ j : Nat) : Int) ∧ l = .string t ∧ Hid (sb t = (be8 N).drop (8 - j)) ∧ i = .int .i64 j ∧ Blk wr g 66 (bvs (List.replicate 32 0)) ∧ Blk wr (g + 1) 102 (wvs h0List) ∧ Below g w wr) (fun _ _ i _ => 8 - (intOf i).toNat)
      case atStart => exact ⟨0, _, by omega, by simp, rfl, Lib.hid (by rw [List.drop_eq_nil_of_le (by rw [be8_length]; omega)]; rfl), rfl, HI.out⟩
      case round =>
        clear HI
        obtain ⟨j, t, hj, rfl, rfl, hT, rfl, hI⟩ := hrel
        by_cases hlt : j < 8
        · have HI := Lib.hid hI; clear hI
          generalize hq : N / 256 ^ j = q at *
          have hqb : q ≤ 8000000 := by rw [← hq]; exact Nat.le_trans (Nat.div_le_self _ _) hNb
          have htl : t.size = j := by rw [← sb_length, hT.out, List.length_drop, be8_length]; omega
          have hcv : (convert 24 9 (.slice (some ⟨wr.heap.size, 0, none⟩) 1 1)).run Tryd.prog (wr.alloc (.cells #[.int .u8 ((q : Int) % 256)] 5)) = .ok (.string (bs [UInt8.ofNat q])) (wr.alloc (.cells #[.int .u8 ((q : Int) % 256)] 5)) := by
            refine conv_bytes Tryd.underlying24 Tryd.underlying5 Tryd.underlying9 wr.heap.size 0 1 [UInt8.ofNat q] _ ?_
            intro i x hx
            cases i with
            | zero =>
              simp at hx; subst hx
              rw [(Blk.new wr _ _).cell, UInt8.toNat_ofNat']
              rfl
            | succ i => simp at hx
          have hsz1 : (bs [UInt8.ofNat q]).size = 1 := rfl
          have HQ := Lib.hid hq
          clear hq
          go_wp2_with fail
          have hq1 : (q : Int) / 256 = ((N / 256 ^ (j + 1) : Nat) : Int) := by
            rw [Nat.pow_succ, ← Nat.div_div_eq_div_mul, HQ.out]
            omega
          rw [hq1]
          have HI2 : Hid (Blk (wr.alloc (.cells #[.int .u8 ((q : Int) % 256)] 5)) g 66 (bvs (List.replicate 32 0)) ∧ Blk (wr.alloc (.cells #[.int .u8 ((q : Int) % 256)] 5)) (g + 1) 102 (wvs h0List) ∧ Below g w (wr.alloc (.cells #[.int .u8 ((q : Int) % 256)] 5))) := Lib.hid ⟨HI.out.1.alloc _, HI.out.2.1.alloc _, HI.out.2.2.alloc (by have := HI.out.2.1.lt; omega) _⟩
          go_roundw
          case rel => exact ⟨j + 1, _, by omega, rfl, rfl, Lib.hid (by rw [sb_append, sb_bs, hT.out, be8_step N hlt, HQ.out]; rfl), by go_num, HI2.out⟩
          case measure => simp [intOf]; omega
        · obtain rfl : j = 8 := by omega
          have htl : t.size = 8 := by rw [← sb_length, hT.out, List.length_drop, be8_length]
          have HP : Hid (sb (b ++ t) = padM (sb s)) := Lib.hid (by rw [sb_append, hB.out, hT.out, hN]; unfold padM; rw [sb_length]; rfl)
          have hPl : (b ++ t).size = (padM (sb s)).length := by rw [← sb_length, HP.out]
          have hpm : (padM (sb s)).length % 64 = 0 := padM_mod (sb s)
          have hbt : (b ++ t).size = b.size + 8 := by rw [sz_append, htl]
          obtain ⟨K, hK⟩ : ∃ K, (padM (sb s)).length = 64 * K := ⟨(padM (sb s)).length / 64, by omega⟩
          have hKb : K ≤ 20000 := by omega
          clear hpm hbt
          have HI := Lib.hid hI; clear hI
          go_wp2_with (first
            | (go_at_call 55
               refine (numbers_any wr).mono ?_
               rintro e w3 ⟨rfl, hb3⟩)
            | (refine wpList_store_blk rfl 103 (.tmp 8) (.tmp 47) rfl w3.heap.size 103 _ (wvs kList) rfl rfl (Blk.new _ _ _) (by kernel_rfl) (by kernel_rfl) kOne ?_
               intro w4 hb4 hg4 hz4
               have hs3 := hb3.size
               have hgz := HI.out.2.1.lt
               have hB4 : Below wr.heap.size wr w4 := (hb3.alloc hs3 _).grown hg4 (by simp; omega) (by intro k hk; injection hk with hk; omega)
               have HL : Hid (∃ gk, gk = w3.heap.size ∧ g + 1 < gk ∧ Blk w4 gk 103 (wvs kList) ∧ Blk w4 g 66 (bvs (List.replicate 32 0)) ∧ Blk w4 (g + 1) 102 (wvs h0List) ∧ Below g w w4) := Lib.hid ⟨_, rfl, by omega, hb4, HI.out.1.below hB4 (by omega), HI.out.2.1.below hB4 (by omega), HI.out.2.2.trans (hB4.mono (by omega))⟩
               clear hb3 hb4 hg4 hz4 hs3 hgz hB4 HI))
          simp only [Act.put]
          generalize b ++ t = bt at *
          obtain ⟨gk, hgk, hgk1, hL⟩ := HL.out
          rw [← hgk]
          have HL2 := Lib.hid hL
          clear HL hL hgk
          go_loopw [4] (fun x wr => ∃ (k : Nat) (y : ByteArray), k ≤ K ∧ x = .string y ∧ Hid (sb y = (padM (sb s)).drop (64 * k)) ∧ Blk wr gk 103 (wvs kList) ∧ Blk wr g 66 (bvs (List.replicate 32 0)) ∧ Blk wr (g + 1) 102 (wvs (parts (padM (sb s)) k)) ∧ Below g w wr) (fun x _ => slen x)
          case atStart => exact ⟨0, _, by omega, rfl, Lib.hid (by rw [HP.out]; simp), HL2.out⟩
          case round =>
            clear HL2
            obtain ⟨k, y, hk, rfl, hy, hI⟩ := hrel
            have hyl : y.size = 64 * (K - k) := by rw [← sb_length, hy.out, List.length_drop, hK]; omega
            by_cases hlt : k < K
            · have hy64 : 64 ≤ y.size := by omega
              have hyne := empty_false hy64
              have hex : (y.extract 0 64).size = 64 := by rw [ByteArray.size_extract]; omega
              have hsx : sb (y.extract 0 64) = ((padM (sb s)).drop (64 * k)).take 64 := by
                rw [← hy.out]
                unfold sb
                simp
              clear hyl
              obtain ⟨S1, hS1⟩ : ∃ S1, S1 = parts (padM (sb s)) k := ⟨_, rfl⟩
              rw [← hS1] at hI
              have hl1 : S1.length = 8 := by rw [hS1]; exact parts_length _ _
              have hps : (wvs S1).size = 8 := by rw [wvs_size]; exact hl1
              obtain ⟨Wl, hWl⟩ : ∃ Wl, Wl = filled (sb (y.extract 0 64)) 64 := ⟨_, rfl⟩
              have hWz : (wvs Wl).size = 64 := by rw [wvs_size, hWl]; exact filled_length _ _
              have HW : Hid (∀ i, i < 64 → at32 Wl i = wd ((padM (sb s)).drop (64 * k)) i) := Lib.hid (fun i hi => by rw [hWl, filled_at _ hi hi, hsx, wd_take])
              have HWl := Lib.hid hWl
              have HS1 := Lib.hid hS1
              clear hS1 hsx hWl
              have HI := Lib.hid hI; clear hI
              go_wp2_with (first
                | (go_at_call 56
                   refine (schedule_any (y.extract 0 64) wr hex).mono ?_
                   rintro e w3 ⟨rfl, hb3⟩
                   rw [← HWl.out])
                | (refine wpList_store_blk rfl 103 (.tmp 9) (.tmp 52) rfl w3.heap.size 103 _ (wvs Wl) rfl rfl (Blk.new _ _ _) (by rw [hWz]; rfl) (by rw [hWz]; exact sizeK) (wvs_one _) ?_
                   intro w4 hb4 hg4 hz4
                   have hs3 := hb3.size
                   have hgz := HI.out.2.2.1.lt
                   have hB4 : Below wr.heap.size wr w4 := (hb3.alloc hs3 _).grown hg4 (by simp; omega) (by intro k hk; injection hk with hk; omega)
                   have hz5 : w4.heap.size = w3.heap.size + 1 := by rw [hz4]; simp
                   have HL : Hid (∃ gw, gw = w3.heap.size ∧ (gk < gw ∧ w4.heap.size = gw + 1) ∧ Blk w4 gw 103 (wvs Wl) ∧ Blk w4 gk 103 (wvs kList) ∧ Blk w4 g 66 (bvs (List.replicate 32 0)) ∧ Blk w4 (g + 1) 102 (wvs S1) ∧ Below g w w4) := 
                     Lib.hid ⟨_, rfl, ⟨by have := HI.out.1.lt; omega, hz5⟩, hb4, HI.out.1.below hB4 HI.out.1.lt, HI.out.2.1.below hB4 HI.out.2.1.lt, HI.out.2.2.1.below hB4 (by omega), HI.out.2.2.2.trans (hB4.mono (by omega))⟩
                   clear hb3 hb4 hg4 hz4 hs3 hgz hB4 HI)
                | (refine wpList_load_blk rfl 102 (.tmp 3) rfl (g + 1) 102 (wvs S1) rfl (by obtain ⟨gw, _, _, h⟩ := HL.out; exact h.2.2.2.1) Tryd.underlying102 rfl (by rw [hps]; kernel_rfl) ?_)
                | (refine wpList_store_blk rfl 102 (.tmp 10) (.tmp 53) rfl (w3.heap.size + 1) 102 _ (wvs S1) rfl rfl (Blk.new' hz5 _ _) (by rw [hps]; rfl) (by rw [hps]; kernel_rfl) (wvs_one _) ?_
                   intro w6 hb6 hg6 hz6
                   have HM : Hid (∃ gw, gw = w3.heap.size ∧ gk < gw ∧ Blk w6 (gw + 1) 102 (wvs (rnds ((padM (sb s)).drop (64 * k)) S1 0)) ∧ Blk w6 gw 103 (wvs Wl) ∧ Blk w6 gk 103 (wvs kList) ∧ Blk w6 g 66 (bvs (List.replicate 32 0)) ∧ Blk w6 (g + 1) 102 (wvs S1) ∧ Below g w w6) := by
                     obtain ⟨gw, hgw, ⟨hgw1, hgw2⟩, h1, h2, h3, h4, h5⟩ := HL.out
                     refine Lib.hid ⟨gw, hgw, hgw1, by rw [hgw]; exact hb6, (h1.alloc _).grown hg6 (by intro h; injection h with h; omega), (h2.alloc _).grown hg6 (by intro h; injection h with h; omega), (h3.alloc _).grown hg6 (by intro h; injection h with h; omega), (h4.alloc _).grown hg6 (by intro h; injection h with h; omega), (h5.alloc (by omega) _).grown hg6 (by simp; omega) (by intro k hk; injection hk with hk; omega)⟩
                   clear hb6 hg6 hz6 HL))
              try simp only [Act.put]
              obtain ⟨gw, hgw, hgw1, hM⟩ := HM.out
              rw [← hgw]
              have HM2 := Lib.hid hM
              clear HM hM hgw
              have hyd : Hid (sb (y.extract 64 y.size) = (padM (sb s)).drop (64 * (k + 1))) := Lib.hid (by rw [sb_drop, hy.out, List.drop_drop]; congr 1)
              generalize hR : (padM (sb s)).drop (64 * k) = R at *
              have HR := Lib.hid hR
              clear hR hyne hex
              go_loopw [11] (fun x wr => ∃ i : Nat, i ≤ 64 ∧ x = .int .i64 i ∧ Blk wr (gw + 1) 102 (wvs (rnds R S1 i)) ∧ Blk wr gw 103 (wvs Wl) ∧ Blk wr gk 103 (wvs kList) ∧ Blk wr g 66 (bvs (List.replicate 32 0)) ∧ Blk wr (g + 1) 102 (wvs S1) ∧ Below g w wr) (fun x _ => 64 - (intOf x).toNat)
              case atStart => exact ⟨0, by omega, rfl, HM2.out⟩
              case round =>
                clear HM2
                obtain ⟨i, hi, rfl, hI⟩ := hrel
                by_cases hi64 : i < 64
                · have ck := hI.2.2.1.word (i := i) (by rw [kList_length]; omega)
                  have cw := hI.2.1.word (i := i) (by rw [wvs_size] at hWz; omega)
                  rw [HW.out i hi64] at cw
                  obtain ⟨a0, a1, a2, a3, a4, a5, a6, a7, he⟩ := eight (rnds_length R hl1 i)
                  have hst : rnds R S1 (i + 1) = step (rnds R S1 i) (at32 kList i) (wd R i) := rfl
                  rw [he] at hI
                  rw [he, step_eq3] at hst
                  have HST := Lib.hid hst
                  clear he hst
                  have HV := hI.1
                  have d0 : wr.cell? ⟨gw + 1, 0, none⟩ = some (.int .u32 a0.toNat) := HV.cell 0
                  have d1 : wr.cell? ⟨gw + 1, 1, none⟩ = some (.int .u32 a1.toNat) := HV.cell 1
                  have d2 : wr.cell? ⟨gw + 1, 2, none⟩ = some (.int .u32 a2.toNat) := HV.cell 2
                  have d3 : wr.cell? ⟨gw + 1, 3, none⟩ = some (.int .u32 a3.toNat) := HV.cell 3
                  have d4 : wr.cell? ⟨gw + 1, 4, none⟩ = some (.int .u32 a4.toNat) := HV.cell 4
                  have d5 : wr.cell? ⟨gw + 1, 5, none⟩ = some (.int .u32 a5.toNat) := HV.cell 5
                  have d6 : wr.cell? ⟨gw + 1, 6, none⟩ = some (.int .u32 a6.toNat) := HV.cell 6
                  have d7 : wr.cell? ⟨gw + 1, 7, none⟩ = some (.int .u32 a7.toNat) := HV.cell 7
                  have HI := Lib.hid hI; clear hI HV
                  go_wp2_with fail
                  go_quiet (first | (go_at_call 57; refine Calls.quiet_of_same (turnR_back _ _ _ (by omega) (by omega))))
                  rw [t_int2]
                  go_wp2_with fail
                  refine wp_abs (fun W => Blk W (gw + 1) 102 (wvs [a0, a1, a2, a3, a4, a5, a6, a7]) ∧ Blk W gw 103 (wvs Wl) ∧ Blk W gk 103 (wvs kList) ∧ Blk W g 66 (bvs (List.replicate 32 0)) ∧ Blk W (g + 1) 102 (wvs S1) ∧ Below g w W) ⟨HI.out.1.drewN _, HI.out.2.1.drewN _, HI.out.2.2.1.drewN _, HI.out.2.2.2.1.drewN _, HI.out.2.2.2.2.1.drewN _, below_drewN HI.out.2.2.2.2.2 _⟩ ?_
                  clear d0 d1 d2 d3 d4 d5 d6 d7 ck cw HI
                  rintro W2 HI2
                  have HV := HI2.1
                  have d0 : W2.cell? ⟨gw + 1, 0, none⟩ = some (.int .u32 a0.toNat) := HV.cell 0
                  have d1 : W2.cell? ⟨gw + 1, 1, none⟩ = some (.int .u32 a1.toNat) := HV.cell 1
                  have d2 : W2.cell? ⟨gw + 1, 2, none⟩ = some (.int .u32 a2.toNat) := HV.cell 2
                  have HI3 := Lib.hid HI2
                  clear HI2 HV
                  go_quiet (first | (go_at_call 57; refine Calls.quiet_of_same (turnR_back _ _ _ (by omega) (by omega))))
                  generalize t1F a4 a5 a6 a7 (at32 kList i) (wd R i) = T at *
                  generalize add32 (xor32 (xor32 (rotr a0 2) (rotr a0 13)) (rotr a0 22)) (xor32 (xor32 (and32 a0 a1) (and32 a0 a2)) (and32 a1 a2)) = U at *
                  clear d0 d1 d2
                  go_wp2_with fail
                  refine wp_abs (fun W => Blk W (gw + 1) 102 (wvs (shiftF [a0, a1, a2, a3, a4, a5, a6, a7] 7)) ∧ Blk W gw 103 (wvs Wl) ∧ Blk W gk 103 (wvs kList) ∧ Blk W g 66 (bvs (List.replicate 32 0)) ∧ Blk W (g + 1) 102 (wvs S1) ∧ Below g w W) ⟨HI3.out.1.drewN _, HI3.out.2.1.drewN _, HI3.out.2.2.1.drewN _, HI3.out.2.2.2.1.drewN _, HI3.out.2.2.2.2.1.drewN _, below_drewN HI3.out.2.2.2.2.2 _⟩ ?_
                  clear HI3
                  rintro W3 HI4
                  have HI5 := Lib.hid HI4
                  clear HI4
                  go_loopw [14] (fun x wr => ∃ j : Nat, j ≤ 7 ∧ x = .int .i64 j ∧ Blk wr (gw + 1) 102 (wvs (shiftF [a0, a1, a2, a3, a4, a5, a6, a7] j)) ∧ Blk wr gw 103 (wvs Wl) ∧ Blk wr gk 103 (wvs kList) ∧ Blk wr g 66 (bvs (List.replicate 32 0)) ∧ Blk wr (g + 1) 102 (wvs S1) ∧ Below g w wr) (fun x _ => (intOf x).toNat)
                  case atStart => exact ⟨7, by omega, rfl, HI5.out⟩
                  case round =>
                    clear HI5
                    obtain ⟨j, hj, rfl, hI⟩ := hrel
                    by_cases hj0 : 0 < j
                    · have c0 := hI.1.word (i := j - 1) (by rw [shiftF_length]; omega)
                      rw [shiftF_at _ (by omega) (by omega)] at c0
                      have c1 := hI.1.word (i := j) (by rw [shiftF_length]; omega)
                      have f1 := hI.1.frozen j
                      have hw1 : IntKind.i64.wrap ((j : Int) - 1) = ((j - 1 : Nat) : Int) := by rw [IntWalk.i64_in _ (by omega)]; omega
                      have hw2 : ((j - 1 : Nat) : Int) < 8 := by omega
                      have HI := Lib.hid hI; clear hI
                      go_wp2_with fail
                      go_roundw
                      case rel =>
                        refine ⟨j - 1, by omega, rfl, ?_, HI.out.2.1.other (p := ⟨gw + 1, j, none⟩) (show gw ≠ gw + 1 by omega) _, HI.out.2.2.1.other (p := ⟨gw + 1, j, none⟩) (show gk ≠ gw + 1 by omega) _, HI.out.2.2.2.1.other (p := ⟨gw + 1, j, none⟩) (show g ≠ gw + 1 by omega) _, HI.out.2.2.2.2.1.other (p := ⟨gw + 1, j, none⟩) (show g + 1 ≠ gw + 1 by omega) _, HI.out.2.2.2.2.2.setCell (p := ⟨gw + 1, j, none⟩) (show g ≤ gw + 1 by omega) _⟩
                        rw [← shiftF_set _ hj0 (by omega)]
                        exact HI.out.1.word_store _ _
                      case measure => simp [intOf]; omega
                    · obtain rfl : j = 0 := by omega
                      have HV := hI.1
                      have d3 : wr.cell? ⟨gw + 1, 4, none⟩ = some (.int .u32 a3.toNat) := HV.cell 4
                      have d0 : wr.cell? ⟨gw + 1, 0, none⟩ = some (.int .u32 a0.toNat) := HV.cell 0
                      have f4 := HV.frozen 4
                      have f0 := HV.frozen 0
                      have HI := Lib.hid hI; clear hI HV
                      go_wp2_with fail
                      go_roundw
                      case rel =>
                        refine ⟨i + 1, by omega, by go_num, ?_, (HI.out.2.1.other (p := ⟨gw + 1, 4, none⟩) (show gw ≠ gw + 1 by omega) _).other (p := ⟨gw + 1, 0, none⟩) (show gw ≠ gw + 1 by omega) _, (HI.out.2.2.1.other (p := ⟨gw + 1, 4, none⟩) (show gk ≠ gw + 1 by omega) _).other (p := ⟨gw + 1, 0, none⟩) (show gk ≠ gw + 1 by omega) _, (HI.out.2.2.2.1.other (p := ⟨gw + 1, 4, none⟩) (show g ≠ gw + 1 by omega) _).other (p := ⟨gw + 1, 0, none⟩) (show g ≠ gw + 1 by omega) _, (HI.out.2.2.2.2.1.other (p := ⟨gw + 1, 4, none⟩) (show g + 1 ≠ gw + 1 by omega) _).other (p := ⟨gw + 1, 0, none⟩) (show g + 1 ≠ gw + 1 by omega) _, (HI.out.2.2.2.2.2.setCell (p := ⟨gw + 1, 4, none⟩) (show g ≤ gw + 1 by omega) _).setCell (p := ⟨gw + 1, 0, none⟩) (show g ≤ gw + 1 by omega) _⟩
                        rw [HST.out]
                        exact (HI.out.1.word_store 4 (add32 a3 T)).word_store 0 (add32 T U)
                      case measure => simp [intOf]; omega
                · obtain rfl : i = 64 := by omega
                  have HI := Lib.hid hI; clear hI
                  go_wp2_with fail
                  have START : Hid (Blk wr (g + 1) 102 (wvs (addFill S1 (rnds R S1 64) 0)) ∧ Blk wr (gw + 1) 102 (wvs (rnds R S1 64)) ∧ Blk wr gk 103 (wvs kList) ∧ Blk wr g 66 (bvs (List.replicate 32 0)) ∧ Below g w wr) := Lib.hid ⟨by rw [addFill_zero hl1]; exact HI.out.2.2.2.2.1, HI.out.1, HI.out.2.2.1, HI.out.2.2.2.1, HI.out.2.2.2.2.2⟩
                  clear HI
                  go_loopw [15] (fun x wr => ∃ i : Nat, i ≤ 8 ∧ x = .int .i64 i ∧ Blk wr (g + 1) 102 (wvs (addFill S1 (rnds R S1 64) i)) ∧ Blk wr (gw + 1) 102 (wvs (rnds R S1 64)) ∧ Blk wr gk 103 (wvs kList) ∧ Blk wr g 66 (bvs (List.replicate 32 0)) ∧ Below g w wr) (fun x _ => 8 - (intOf x).toNat)
                  case atStart => exact ⟨0, by omega, rfl, START.out⟩
                  case round =>
                    clear START
                    obtain ⟨i, hi, rfl, hI⟩ := hrel
                    by_cases hi8 : i < 8
                    · have c0 := hI.1.word (i := i) (by rw [addFill_length]; omega)
                      rw [addFill_at _ _ hi8] at c0
                      have f0 := hI.1.frozen i
                      have c1 := hI.2.1.word (i := i) (by rw [rnds_length R hl1]; omega)
                      have HI := Lib.hid hI; clear hI
                      go_wp2_with fail
                      go_region
                      have HI2 : Hid (Blk ((wr.setCell ⟨g + 1, i, none⟩ (.int .u32 (add32 (at32 S1 i) (at32 (rnds R S1 64) i)).toNat)).drew) (g + 1) 102 (wvs (addFill S1 (rnds R S1 64) (i + 1))) ∧ Blk ((wr.setCell ⟨g + 1, i, none⟩ (.int .u32 (add32 (at32 S1 i) (at32 (rnds R S1 64) i)).toNat)).drew) (gw + 1) 102 (wvs (rnds R S1 64)) ∧ Blk ((wr.setCell ⟨g + 1, i, none⟩ (.int .u32 (add32 (at32 S1 i) (at32 (rnds R S1 64) i)).toNat)).drew) gk 103 (wvs kList) ∧ Blk ((wr.setCell ⟨g + 1, i, none⟩ (.int .u32 (add32 (at32 S1 i) (at32 (rnds R S1 64) i)).toNat)).drew) g 66 (bvs (List.replicate 32 0)) ∧ Below g w ((wr.setCell ⟨g + 1, i, none⟩ (.int .u32 (add32 (at32 S1 i) (at32 (rnds R S1 64) i)).toNat)).drew)) := by
                        refine Lib.hid ⟨?_, (HI.out.2.1.other (p := ⟨g + 1, i, none⟩) (show gw + 1 ≠ g + 1 by omega) _).drew, (HI.out.2.2.1.other (p := ⟨g + 1, i, none⟩) (show gk ≠ g + 1 by omega) _).drew, (HI.out.2.2.2.1.other (p := ⟨g + 1, i, none⟩) (show g ≠ g + 1 by omega) _).drew, (HI.out.2.2.2.2.setCell (p := ⟨g + 1, i, none⟩) (show g ≤ g + 1 by omega) _).drew⟩
                        rw [← addFill_set S1 (rnds R S1 64) hi8]
                        exact (HI.out.1.word_store _ _).drew
                      clear c0 c1 f0 HI
                      generalize (wr.setCell ⟨g + 1, i, none⟩ (.int .u32 (add32 (at32 S1 i) (at32 (rnds R S1 64) i)).toNat)).drew = w2 at *
                      go_wp2_with fail
                      go_roundw
                      case rel => exact ⟨i + 1, by omega, by go_num, HI2.out⟩
                      case measure => simp [intOf]; omega
                    · obtain rfl : i = 8 := by omega
                      have HI := Lib.hid hI; clear hI
                      rw [addFill_all] at HI
                      have hsl : (64 : Int) ≤ (y.size : Int) := by omega
                      go_wp2_with fail
                      go_roundw
                      case rel =>
                        refine ⟨k + 1, _, by omega, rfl, Lib.hid ?_, HI.out.2.2.1, HI.out.2.2.2.1, ?_, HI.out.2.2.2.2⟩
                        · exact hyd.out
                        · have e : parts (padM (sb s)) (k + 1) = comp S1 R := by rw [HS1.out, ← HR.out]; rfl
                          rw [e]; exact HI.out.1
                      case measure => simp only [slen, ByteArray.size_extract]; omega
            · obtain rfl : k = K := by omega
              have hyz : y = ⟨#[]⟩ := by
                cases y with
                | mk d => 
                  have : d.size = 0 := by have h : d.size = 64 * (k - k) := hyl; omega
                  rw [Array.eq_empty_of_size_eq_zero this]
              subst hyz
              have HI := Lib.hid hI; clear hI
              obtain ⟨S, hS⟩ : ∃ S, S = parts (padM (sb s)) k := ⟨_, rfl⟩
              rw [← hS] at HI
              have hSl : S.length = 8 := by rw [hS]; exact parts_length _ _
              have HSF : Hid (sha (sb s) = outB S) := Lib.hid (by unfold sha; rw [hK, Nat.mul_div_cancel_left _ (by omega), hS])
              clear hS
              go_wp2_with fail
              refine wp_abs (fun W => ∃ go, go = wr.heap.size ∧ g + 1 < go ∧ Blk W go 66 (bvs (outF S (4 * 0))) ∧ Blk W (g + 1) 102 (wvs S) ∧ Blk W g 66 (bvs (List.replicate 32 0)) ∧ Below g w W) ⟨_, rfl, HI.out.2.2.1.lt, ?_, HI.out.2.2.1.alloc _, HI.out.2.1.alloc _, HI.out.2.2.2.alloc (by have := HI.out.2.2.1.lt; omega) _⟩ ?_
              · rw [Nat.mul_zero, outF_zero]; exact Blk.new _ _ _
              rintro W ⟨go, hgo, hgo1, hI⟩
              rw [← hgo]
              have START := Lib.hid hI
              clear HI hI hgo
              go_loopw [17] (fun x wr => ∃ i : Nat, i ≤ 8 ∧ x = .int .i64 i ∧ Blk wr go 66 (bvs (outF S (4 * i))) ∧ Blk wr (g + 1) 102 (wvs S) ∧ Blk wr g 66 (bvs (List.replicate 32 0)) ∧ Below g w wr) (fun x _ => 8 - (intOf x).toNat)
              case atStart => exact ⟨0, by omega, rfl, START.out⟩
              case round =>
                clear START
                obtain ⟨i, hi, rfl, hI⟩ := hrel
                by_cases hlt8 : i < 8
                · have c0 := hI.2.1.word (i := i) (by omega)
                  have hw : IntKind.i64.wrap (4 * (i : Int)) = 4 * (i : Int) := IntWalk.i64_in _ (by omega)
                  have b0 := hI.1.byte (i := 4 * i) (by rw [outF_length]; omega)
                  have b1 := hI.1.byte (i := 4 * i + 1) (by rw [outF_length]; omega)
                  have b2 := hI.1.byte (i := 4 * i + 2) (by rw [outF_length]; omega)
                  have b3 := hI.1.byte (i := 4 * i + 3) (by rw [outF_length]; omega)
                  have f0 := hI.1.frozen (4 * i)
                  have f1 := hI.1.frozen (4 * i + 1)
                  have f2 := hI.1.frozen (4 * i + 2)
                  have f3 := hI.1.frozen (4 * i + 3)
                  have hne1 : g + 1 ≠ go := by omega
                  have HI := Lib.hid hI; clear hI
                  go_wp2_with fail
                  have e0 : ((at32 S i).toNat : Int) / 16777216 % 256 = ((ob S (4 * i)).toNat : Int) := by
                    have h := ob_eq S i 0 (by omega)
                    rw [Nat.add_zero] at h
                    rw [h]; simp
                  have e1 : ((at32 S i).toNat : Int) / 65536 % 256 = ((ob S (4 * i + 1)).toNat : Int) := by
                    rw [ob_eq S i 1 (by omega)]; simp
                  have e2 : ((at32 S i).toNat : Int) / 256 % 256 = ((ob S (4 * i + 2)).toNat : Int) := by
                    rw [ob_eq S i 2 (by omega)]; simp
                  have e3 : ((at32 S i).toNat : Int) % 256 = ((ob S (4 * i + 3)).toNat : Int) := by
                    rw [ob_eq S i 3 (by omega)]; simp
                  rw [e0, e1, e2, e3]
                  have h0 := HI.out.1.byte_store (4 * i) (ob S (4 * i))
                  rw [outF_ob S (by omega)] at h0
                  have h1 := h0.byte_store (4 * i + 1) (ob S (4 * i + 1))
                  rw [outF_ob S (by omega)] at h1
                  have h2 := h1.byte_store (4 * i + 1 + 1) (ob S (4 * i + 2))
                  rw [show 4 * i + 1 + 1 = 4 * i + 2 by omega, outF_ob S (by omega)] at h2
                  have h3 := h2.byte_store (4 * i + 3) (ob S (4 * i + 3))
                  rw [show 4 * i + 2 + 1 = 4 * i + 3 by omega, outF_ob S (by omega), show 4 * i + 3 + 1 = 4 * (i + 1) by omega] at h3
                  go_roundw
                  case rel =>
                    exact ⟨i + 1, by omega, by go_num, h3, (((HI.out.2.1.other (p := ⟨go, 4 * i, none⟩) (show g + 1 ≠ go by omega) _).other (p := ⟨go, 4 * i + 1, none⟩) (show g + 1 ≠ go by omega) _).other (p := ⟨go, 4 * i + 2, none⟩) (show g + 1 ≠ go by omega) _).other (p := ⟨go, 4 * i + 3, none⟩) (show g + 1 ≠ go by omega) _, (((HI.out.2.2.1.other (p := ⟨go, 4 * i, none⟩) (show g ≠ go by omega) _).other (p := ⟨go, 4 * i + 1, none⟩) (show g ≠ go by omega) _).other (p := ⟨go, 4 * i + 2, none⟩) (show g ≠ go by omega) _).other (p := ⟨go, 4 * i + 3, none⟩) (show g ≠ go by omega) _, (((HI.out.2.2.2.setCell (p := ⟨go, 4 * i, none⟩) (show g ≤ go by omega) _).setCell (p := ⟨go, 4 * i + 1, none⟩) (show g ≤ go by omega) _).setCell (p := ⟨go, 4 * i + 2, none⟩) (show g ≤ go by omega) _).setCell (p := ⟨go, 4 * i + 3, none⟩) (show g ≤ go by omega) _⟩
                  case measure => simp [intOf]; omega
                · obtain rfl : i = 8 := by omega
                  have HI := Lib.hid hI; clear hI
                  rw [show 4 * 8 = 32 from rfl, outF_all, ← HSF.out] at HI
                  have e8 : (bvs (sha (sb s))).size = 32 := by rw [bvs_size]; exact sha_length _
                  have e9 : (bvs (List.replicate 32 (0 : UInt8))).size = 32 := rfl
                  go_wp2_with (first | (refine wpList_load_blk rfl 66 (.tmp 16) rfl go 66 (bvs (sha (sb s))) rfl HI.out.1 Tryd.underlying66 rfl (by rw [e8]; kernel_rfl) ?_) | (refine wpList_store_blk rfl 66 (.tmp 2) (.tmp 193) rfl g 66 _ (bvs (sha (sb s))) rfl rfl HI.out.2.2.1 (by rw [e8, e9]) (by rw [e8]; kernel_rfl) (bvs_one _) ?_; intro w1 hb1 hg1 hz1))
                  refine bodyPost_ret (results_cell Tryd.results46 rfl (t := 66) (g := g) (cs := bvs (sha (sb s))) hb1 Tryd.underlying66 rfl (by rw [e8]; kernel_rfl)) rfl ⟨rfl, ?_⟩
                  rw [← HG.out]
                  exact (HI.out.2.2.2).grown hg1 (by have := HI.out.2.2.1.lt; omega) (by intro k hk; injection hk with hk; omega)
end Go.Proofs.YtlkhbfafednegaaDoor
