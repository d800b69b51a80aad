/-
  The walk of 'take'.
-/
import Derived.Test.YtbicdobnnanlkaaDoorDg5
namespace Go.Proofs.YtbicdobnnanlkaaDoor
open Go Go.RowKit

/-- the rounds' numbers lie where the program's own variable lies -/
def Tab (w : World) : Prop := ∃ t fr, w.heap[1]? = some (.cells (wvs kList) t fr)
theorem Tab.below {w w' : World} {B : Nat} (h : Tab w) (hb : Below B w w') (hB : 1 < B) : Tab w' := by
  obtain ⟨t, fr, h⟩ := h
  exact ⟨t, fr, (hb.block 1 hB).trans h⟩

theorem three_S1b (x : UInt32) (w : World) : Calls Tryd.prog 55 #[.int .u32 x.toNat, .int .i64 6, .int .i64 11, .int .i64 25] w fun e w' => e = .returned (.int .u32 (S1 x).toNat) ∧ w' = w :=
  (three_S1 x w).mono fun _ _ ⟨he, hw⟩ => ⟨he, hw.symm⟩
theorem three_S0b (x : UInt32) (w : World) : Calls Tryd.prog 55 #[.int .u32 x.toNat, .int .i64 2, .int .i64 13, .int .i64 22] w fun e w' => e = .returned (.int .u32 (S0 x).toNat) ∧ w' = w :=
  (three_S0 x w).mono fun _ _ ⟨he, hw⟩ => ⟨he, hw.symm⟩

theorem below_drewN {B : Nat} {w w' : World} (h : Below B w w') (n : Nat) : Below B w (w'.drewN n) := by
  refine ⟨h.os, h.tape, h.output, h.size, h.block⟩
theorem step_eq2 (a b c d e f g k K W : UInt32) : step [a, b, c, d, e, f, g, k] K W = [add32 (t1F e f g k K W) (add32 (S0 a) (xor32 (xor32 (and32 a b) (and32 a c)) (and32 b c))), a, b, c, add32 d (t1F e f g k K W), e, f, g] := rfl
theorem not_rule (x : UInt32) : bits .xor .u32 (if IntKind.u32.signed = true then -1 else IntKind.u32.max) (x.toNat : Int) = ((not32 x).toNat : Int) := by
  rw [show (if IntKind.u32.signed = true then (-1 : Int) else IntKind.u32.max) = ((4294967295 : UInt32).toNat : Int) from rfl, xor32_rule]
  have e : xor32 4294967295 x = not32 x := by
    apply UInt32.toBitVec_inj.1
    exact BitVec.allOnes_xor
  rw [e]
theorem t_int (a4 a5 a6 a7 K W : UInt32) : (((((add32 a7 (S1 a4)).toNat : Int) + bits .xor .u32 ((and32 a4 a5).toNat : Int) (bits .and .u32 (bits .xor .u32 (if IntKind.u32.signed = true then -1 else IntKind.u32.max) (a4.toNat : Int)) (a6.toNat : Int)) + (K.toNat : Int)) % 4294967296 + (W.toNat : Int)) % 4294967296) = ((t1F a4 a5 a6 a7 K W).toNat : Int) := by
  rw [not_rule, and32_rule, xor32_rule]
  unfold t1F
  rw [show xor32 (and32 a4 a5) (and32 (not32 a4) a6) = chF a4 a5 a6 from rfl]
  generalize chF a4 a5 a6 = c
  generalize add32 a7 (S1 a4) = x
  unfold add32
  simp only [UInt32.toNat_add]
  omega

theorem kAt_index {k : Nat} (hlt : k < 64) (W : World) : (Instr.index 89 (.agg (wvs kList)) (.int .i64 (k : Int))).run Tryd.prog W = .ok (.int .u32 (kAt k).toNat) W := by
  have e : (wvs kList)[k]? = some (.int .u32 (kAt k).toNat) := wvs_at kList hlt
  have hz : (wvs kList).size = 64 := kSize
  have h2 : (k : Int) < ((wvs kList).size : Int) := by rw [hz]; omega
  generalize wvs kList = vs at *
  simp only [Instr.index, Sem.run_bind, run_underlying Tryd.underlying89, Result.andThen, asIntOf, Sem.run_pure, Int.natCast_nonneg, if_true, Int.toNat_natCast, true_and]
  have h3 : (k : Int) < ((64 : Nat) : Int) := by omega
  rw [if_pos (by simpa using h3)]
  unfold part
  go_simp
  exact (Array.getElem?_eq_some_iff.1 e).2

set_option maxRecDepth 100000 in
set_option maxHeartbeats 4000000 in
theorem take_any (s : List UInt32) (b : List UInt8) (bb off n c : Nat) (w : World) (hs : s.length = 8) (hT : Tab w) (h0 : 1 < w.heap.size) (hbb : bb < w.heap.size) (hn : 64 ≤ n) (hc : n ≤ c)
    (hr : ∀ i, i < 64 → w.cell? ⟨bb, off + i, none⟩ = some (.int .u8 (byteAt b i).toNat)) :
    Calls Tryd.prog 44 #[.agg (wvs s), .slice (some ⟨bb, off, none⟩) n c] w fun e w' => e = .returned (.agg (wvs (comp s b))) ∧ Below w.heap.size w w' := by
  have h1 := wvs_one s
  have hsz : (wvs s).size = 8 := by rw [wvs_size]; exact hs
  go_enter Tryd.func44, Tryd.ntmps44
  go_wp2_with fail
  refine wp_abs (fun W => Blk W w.heap.size 83 (wvs s) ∧ Blk W (w.heap.size + 1) 83 (wvs (List.replicate 8 0)) ∧ Blk W (w.heap.size + 1 + 1) 97 (wvs (ringFill b 0)) ∧ Below w.heap.size w W ∧ W.heap.size = w.heap.size + 3) ⟨?_, ?_, ?_, ?_, ?_⟩ ?_
  · exact ((Blk.new w _ _).alloc _).alloc _
  · exact ((Blk.new' (w := w.alloc _) (by simp) _ _).alloc _).mk_eq (by kernel_rfl)
  · exact (Blk.new' (w := (w.alloc _).alloc _) (by simp) _ _).mk_eq (by unfold ringFill wvs; rfl)
  · exact (((Below.refl w.heap.size w).alloc (Nat.le_refl _) _).alloc (by simp) _).alloc (by simp; omega) _
  · simp
  rintro W START
  have START := Lib.hid START
  generalize hg : w.heap.size = g at *
  have HG := Lib.hid hg; clear hg
  have hr := Lib.hid hr
  go_loopw [16] (fun i wr => ∃ k : Nat, k ≤ 16 ∧ i = .int .i64 k ∧ Blk wr g 83 (wvs s) ∧ Blk wr (g + 1) 83 (wvs (List.replicate 8 0)) ∧ Blk wr (g + 1 + 1) 97 (wvs (ringFill b k)) ∧ Below g w wr ∧ wr.heap.size = g + 3) (fun i _ => 16 - (intOf i).toNat)
  case atStart => exact ⟨0, by omega, rfl, START.out⟩
  case round =>
    clear START
    obtain ⟨k, hk, rfl, hI⟩ := hrel
    by_cases hlt : k < 16
    · have HI := Lib.hid hI; clear hI
      have hw : IntKind.i64.wrap (4 * (k : Int)) = 4 * (k : Int) := IntWalk.i64_in _ (by omega)
      have hw4 : IntKind.i64.wrap (4 * (k : Int) + 4) = 4 * (k : Int) + 4 := IntWalk.i64_in _ (by omega)
      go_wp2_with fail
      go_loopw [27] (fun j wr => ∃ m : Nat, m ≤ 4 ∧ j = .int .i64 m ∧ Blk wr g 83 (wvs s) ∧ Blk wr (g + 1) 83 (wvs (List.replicate 8 0)) ∧ Blk wr (g + 1 + 1) 97 (wvs ((ringFill b k).set k (pw b k m))) ∧ Below g w wr ∧ wr.heap.size = g + 3) (fun j _ => 4 - (intOf j).toNat)
      case atStart =>
        refine ⟨0, by omega, rfl, HI.out.1, HI.out.2.1, ?_, HI.out.2.2.2⟩
        have e : (ringFill b k).set k (pw b k 0) = ringFill b k := by
          rw [pw]
          have h0 := ringFill_at b hlt
          apply List.ext_getElem?
          intro j
          rw [List.getElem?_set]
          split
          · rename_i hj; subst hj
            rw [if_pos (by rw [ringFill_length]; omega)]
            simp [ringFill, hlt]
          · rfl
        rw [e]; exact HI.out.2.2.1
      case round =>
        clear HI
        rename_i wr0 _
        obtain ⟨m, hm, rfl, hI⟩ := hrel
        by_cases hlt4 : m < 4
        · have c0 := hI.2.2.1.word (i := k) (by rw [List.length_set, ringFill_length]; omega)
          rw [at32_set _ _ _ _ (by rw [ringFill_length]; omega), if_pos rfl] at c0
          have f0 := hI.2.2.1.frozen k
          have x0 : wr.cell? ⟨bb, off + 4 * k + m, none⟩ = some (.int .u8 (byteAt b (4 * k + m)).toNat) := by
            rw [show off + 4 * k + m = off + (4 * k + m) by omega]
            exact (hI.2.2.2.1.cell (p := ⟨bb, off + (4 * k + m), none⟩) hbb).trans (hr.out (4 * k + m) (by omega))
          have HI := Lib.hid hI; clear hI
          go_wp2_with fail
          have e : bits .or .u32 (((pw b k m).toNat : Int) * 256 % 4294967296) (((byteAt b (4 * k + m)).toNat : Int) % 4294967296) = ((pw b k (m + 1)).toNat : Int) := by
            have h := bw_int (pw b k m) (byteAt b (4 * k + m))
            rw [IntKind.wrap_u32'] at h
            have h2 := (byteAt b (4 * k + m)).toNat_lt
            rw [show ((byteAt b (4 * k + m)).toNat : Int) % 4294967296 = ((byteAt b (4 * k + m)).toNat : Int) by omega, h, pw]
          rw [e]
          go_roundw
          case rel =>
            refine ⟨m + 1, by omega, by go_num, HI.out.1.other (p := ⟨g + 1 + 1, k, none⟩) (show g ≠ g + 1 + 1 by omega) _, HI.out.2.1.other (p := ⟨g + 1 + 1, k, none⟩) (show g + 1 ≠ g + 1 + 1 by omega) _, ?_, HI.out.2.2.2.1.setCell (p := ⟨g + 1 + 1, k, none⟩) (show g ≤ g + 1 + 1 by omega) _, by have := HI.out.2.2.2.2; simpa [World.setCell] using this⟩
            have h := HI.out.2.2.1.word_store k (pw b k (m + 1))
            rwa [List.set_set] at h
          case measure => simp [intOf]; omega
        · obtain rfl : m = 4 := by omega
          have HI := Lib.hid hI; clear hI
          go_wp2_with fail
          go_roundw
          case rel =>
            refine ⟨k + 1, by omega, by go_num, HI.out.1, HI.out.2.1, ?_, HI.out.2.2.2⟩
            have h1 := HI.out.2.2.1
            rw [pw_four, ringFill_set b hlt] at h1
            exact h1
          case measure => simp [intOf]; omega
    · obtain rfl : k = 16 := by omega
      obtain ⟨hS, hO, hR, hB, hz⟩ := hI
      have HS := Lib.hid hS; have HO := Lib.hid hO; have HR := Lib.hid hR; have HB := Lib.hid hB
      clear hS hO hR hB
      go_wp2_with (first | (refine wpList_load_blk rfl 83 (.tmp 2) rfl g 83 (wvs s) rfl HS.out Tryd.underlying83 rfl (by rw [hsz]; kernel_rfl) ?_) | (refine wpList_store_blk rfl 83 (.tmp 9) (.tmp 42) rfl (g + 3) 83 _ (wvs s) rfl rfl (Blk.new' hz _ _) (by rw [hsz]; rfl) (by rw [hsz]; kernel_rfl) h1 ?_; intro w1 hb1 hg1 hz1; obtain ⟨tk, fk, hK⟩ : Tab w1 := hT.below ((HB.out.alloc (by omega) _).grown hg1 (by simp; omega) (by intro k hk; injection hk with hk; omega)) (by omega)) | (refine wpList_load_row rfl 89 (.global 1) rfl 1 rfl tk (wvs kList) fk _ hK Tryd.underlying89 rfl (by rw [kSize]; exact sizeK) ?_))
      have START : Hid (Blk w1 g 83 (wvs s) ∧ Blk w1 (g + 1) 83 (wvs (List.replicate 8 0)) ∧ Blk w1 (g + 1 + 1) 97 (wvs (ringAt b 0)) ∧ Blk w1 (g + 3) 83 (wvs (rnds b s 0)) ∧ Below g w w1) := by
        refine Lib.hid ⟨(HS.out.alloc _).grown hg1 (by intro h; injection h with h; omega), (HO.out.alloc _).grown hg1 (by intro h; injection h with h; omega), ?_, hb1, (HB.out.alloc (by omega) _).grown hg1 (by simp; omega) (by intro k hk; injection hk with hk; omega)⟩
        rw [← ringFill_full]
        exact (HR.out.alloc _).grown hg1 (by intro h; injection h with h; omega)
      clear hb1 hg1 hz1 hK HS HO HR HB hz
      go_loopw [44] (fun i wr => ∃ k : Nat, k ≤ 64 ∧ i = .int .i64 k ∧ Blk wr g 83 (wvs s) ∧ Blk wr (g + 1) 83 (wvs (List.replicate 8 0)) ∧ Blk wr (g + 1 + 1) 97 (wvs (ringAt b k)) ∧ Blk wr (g + 3) 83 (wvs (rnds b s k)) ∧ Below g w wr) (fun j _ => 64 - (intOf j).toNat)
      case atStart => exact ⟨0, by omega, rfl, START.out⟩
      case round =>
        clear START
        obtain ⟨k, hk, rfl, hI⟩ := hrel
        by_cases hlt : k < 64
        · have x0 : ∀ W, (Instr.index 89 (.agg (wvs kList)) (.int .i64 (k : Int))).run Tryd.prog W = .ok (.int .u32 (kAt k).toNat) W := by
            exact fun W => kAt_index hlt W
          have hi0 : (0 : Int) ≤ (k : Int) := by omega
          have hm0 : (k : Int).tmod 16 = ((k % 16 : Nat) : Int) := by rw [Int.tmod_eq_emod_of_nonneg hi0]; omega
          have c0 := hI.2.2.1.word (i := k % 16) (by rw [ringAt_length]; omega)
          have HI := Lib.hid hI; clear hI
          rcases Nat.lt_or_ge k 16 with h16 | h16
          case' inl =>
            go_wp2_with fail
            refine wp_abs (fun W => Blk W g 83 (wvs s) ∧ Blk W (g + 1) 83 (wvs (List.replicate 8 0)) ∧ Blk W (g + 1 + 1) 97 (wvs (ringAt b (k + 1))) ∧ Blk W (g + 3) 83 (wvs (rnds b s k)) ∧ Below g w W) (by rw [ringAt_step b h16]; exact HI.out) ?_
            rw [ringAt_low b h16]
          case' inr =>
            go_wp2_with (go_at_call 54; refine (next_any (g + 1 + 1) (ringAt b k) k _ (ringAt_length b k) (by omega) HI.out.2.2.1).mono ?_; rintro e w2 ⟨rfl, hg2, hb2⟩)
            rw [ringNext_eq b h16, ringAt_set b h16] at hb2
            rw [ringNext_eq b h16]
            refine wp_abs (fun W => Blk W g 83 (wvs s) ∧ Blk W (g + 1) 83 (wvs (List.replicate 8 0)) ∧ Blk W (g + 1 + 1) 97 (wvs (ringAt b (k + 1))) ∧ Blk W (g + 3) 83 (wvs (rnds b s k)) ∧ Below g w W)
              ⟨HI.out.1.grown hg2 (by intro h; injection h with h; omega), HI.out.2.1.grown hg2 (by intro h; injection h with h; omega), hb2, HI.out.2.2.2.1.grown hg2 (by intro h; injection h with h; omega), HI.out.2.2.2.2.grown hg2 (by have := HI.out.2.2.1.lt; omega) (by intro k hk; injection hk with hk; omega)⟩ ?_
            clear hg2 hb2
          all_goals (
            clear HI c0
            rintro W2 HI2
            obtain ⟨a0, a1, a2, a3, a4, a5, a6, a7, he⟩ := eight (rnds_length b hs k)
            have HV := HI2.2.2.2.1
            have hst : rnds b s (k + 1) = step (rnds b s k) (kAt k) (wd b k) := rfl
            rw [he] at HV
            rw [he, step_eq2] at hst
            have HST := Lib.hid hst
            rw [he] at HI2
            clear he hst
            have d0 : W2.cell? ⟨g + 3, 0, none⟩ = some (.int .u32 a0.toNat) := HV.cell 0
            have d1 : W2.cell? ⟨g + 3, 1, none⟩ = some (.int .u32 a1.toNat) := HV.cell 1
            have d2 : W2.cell? ⟨g + 3, 2, none⟩ = some (.int .u32 a2.toNat) := HV.cell 2
            have d3 : W2.cell? ⟨g + 3, 3, none⟩ = some (.int .u32 a3.toNat) := HV.cell 3
            have d4 : W2.cell? ⟨g + 3, 4, none⟩ = some (.int .u32 a4.toNat) := HV.cell 4
            have d5 : W2.cell? ⟨g + 3, 5, none⟩ = some (.int .u32 a5.toNat) := HV.cell 5
            have d6 : W2.cell? ⟨g + 3, 6, none⟩ = some (.int .u32 a6.toNat) := HV.cell 6
            have d7 : W2.cell? ⟨g + 3, 7, none⟩ = some (.int .u32 a7.toNat) := HV.cell 7
            have HI3 := Lib.hid HI2
            clear HI2 HV
            clear x0
            go_quiet (first | (go_at_call 55; refine Calls.quiet_of_same (three_S1b _ _)))
            rw [t_int]
            go_wp2_with fail
            refine wp_abs (fun W => Blk W g 83 (wvs s) ∧ Blk W (g + 1) 83 (wvs (List.replicate 8 0)) ∧ Blk W (g + 1 + 1) 97 (wvs (ringAt b (k + 1))) ∧ Blk W (g + 3) 83 (wvs [a0, a1, a2, a3, a4, a5, a6, a7]) ∧ Below g w W) ⟨HI3.out.1.drewN _, HI3.out.2.1.drewN _, HI3.out.2.2.1.drewN _, HI3.out.2.2.2.1.drewN _, below_drewN HI3.out.2.2.2.2 _⟩ ?_
            clear d0 d1 d2 d3 d4 d5 d6 d7 HI3
            clear W2
            rintro W2 HI2
            have HV := HI2.2.2.2.1
            have d0 : W2.cell? ⟨g + 3, 0, none⟩ = some (.int .u32 a0.toNat) := HV.cell 0
            have d1 : W2.cell? ⟨g + 3, 1, none⟩ = some (.int .u32 a1.toNat) := HV.cell 1
            have d2 : W2.cell? ⟨g + 3, 2, none⟩ = some (.int .u32 a2.toNat) := HV.cell 2
            have d3 : W2.cell? ⟨g + 3, 3, none⟩ = some (.int .u32 a3.toNat) := HV.cell 3
            have d4 : W2.cell? ⟨g + 3, 4, none⟩ = some (.int .u32 a4.toNat) := HV.cell 4
            have d5 : W2.cell? ⟨g + 3, 5, none⟩ = some (.int .u32 a5.toNat) := HV.cell 5
            have d6 : W2.cell? ⟨g + 3, 6, none⟩ = some (.int .u32 a6.toNat) := HV.cell 6
            have d7 : W2.cell? ⟨g + 3, 7, none⟩ = some (.int .u32 a7.toNat) := HV.cell 7
            have HI3 := Lib.hid HI2
            clear HI2 HV
            go_quiet (first | (go_at_call 55; refine Calls.quiet_of_same (three_S0b _ _)))
            have HI4 : Hid (Blk (W2.drewN nq) g 83 (wvs s) ∧ Blk (W2.drewN nq) (g + 1) 83 (wvs (List.replicate 8 0)) ∧ Blk (W2.drewN nq) (g + 1 + 1) 97 (wvs (ringAt b (k + 1))) ∧ Blk (W2.drewN nq) (g + 3) 83 (wvs [a0, a1, a2, a3, a4, a5, a6, a7]) ∧ Below g w (W2.drewN nq)) := Lib.hid ⟨HI3.out.1.drewN _, HI3.out.2.1.drewN _, HI3.out.2.2.1.drewN _, HI3.out.2.2.2.1.drewN _, below_drewN HI3.out.2.2.2.2 _⟩
            clear d0 d1 d2 d3 d4 d5 d6 d7 HI3
            generalize W2.drewN nq = W3 at *
            have HV := HI4.out.2.2.2.1
            have d0 : W3.cell? ⟨g + 3, 0, none⟩ = some (.int .u32 a0.toNat) := HV.cell 0
            have d1 : W3.cell? ⟨g + 3, 1, none⟩ = some (.int .u32 a1.toNat) := HV.cell 1
            have d2 : W3.cell? ⟨g + 3, 2, none⟩ = some (.int .u32 a2.toNat) := HV.cell 2
            have d3 : W3.cell? ⟨g + 3, 3, none⟩ = some (.int .u32 a3.toNat) := HV.cell 3
            have d4 : W3.cell? ⟨g + 3, 4, none⟩ = some (.int .u32 a4.toNat) := HV.cell 4
            have d5 : W3.cell? ⟨g + 3, 5, none⟩ = some (.int .u32 a5.toNat) := HV.cell 5
            have d6 : W3.cell? ⟨g + 3, 6, none⟩ = some (.int .u32 a6.toNat) := HV.cell 6
            have d7 : W3.cell? ⟨g + 3, 7, none⟩ = some (.int .u32 a7.toNat) := HV.cell 7
            clear HV
            generalize t1F a4 a5 a6 a7 (kAt k) (wd b k) = T at *
            generalize add32 (S0 a0) (xor32 (xor32 (and32 a0 a1) (and32 a0 a2)) (and32 a1 a2)) = U at *
            have hz8 : ∀ x0 x1 x2 x3 x4 x5 x6 x7 : UInt32, (wvs [x0, x1, x2, x3, x4, x5, x6, x7]).size = 8 := fun _ _ _ _ _ _ _ _ => rfl
            go_wp2_with (refine wpList_store_blk rfl 83 (.tmp 9) (.tmp 119) rfl (g + 3) 83 _ (wvs [add32 T U, a0, a1, a2, add32 a3 T, a4, a5, a6]) rfl rfl HI4.out.2.2.2.1 (by rw [hz8, hz8]) (by rw [hz8]; kernel_rfl) (wvs_one _) ?_; intro w4 hb4 hg4 hz4)
            go_roundw
            case rel =>
              refine ⟨k + 1, by omega, by go_num, HI4.out.1.grown hg4 (by intro h; injection h with h; omega), HI4.out.2.1.grown hg4 (by intro h; injection h with h; omega), HI4.out.2.2.1.grown hg4 (by intro h; injection h with h; omega), by rw [HST.out]; exact hb4, HI4.out.2.2.2.2.grown hg4 (by have := HI4.out.2.2.1.lt; omega) (by intro k hk; injection hk with hk; omega)⟩
            case measure => simp [intOf]; omega)
        · obtain rfl : k = 64 := by omega
          have HI := Lib.hid hI; clear hI
          have START := HI
          go_wp2_with fail
          have START : Hid (Blk wr g 83 (wvs (addFill s (rnds b s 64) 0)) ∧ Blk wr (g + 1) 83 (wvs (List.replicate 8 0)) ∧ Blk wr (g + 3) 83 (wvs (rnds b s 64)) ∧ Below g w wr) := Lib.hid ⟨by rw [addFill_zero hs]; exact HI.out.1, HI.out.2.1, HI.out.2.2.2.1, HI.out.2.2.2.2⟩
          clear HI
          go_loopw [121] (fun i wr => ∃ k : Nat, k ≤ 8 ∧ i = .int .i64 k ∧ Blk wr g 83 (wvs (addFill s (rnds b s 64) k)) ∧ Blk wr (g + 1) 83 (wvs (List.replicate 8 0)) ∧ Blk wr (g + 3) 83 (wvs (rnds b s 64)) ∧ Below g w wr) (fun j _ => 8 - (intOf j).toNat)
          case atStart => exact ⟨0, by omega, rfl, START.out⟩
          case round =>
            clear START
            obtain ⟨k, hk, rfl, hI⟩ := hrel
            by_cases hlt : k < 8
            · have c0 := hI.1.word (i := k) (by rw [addFill_length]; omega)
              rw [addFill_at _ _ hlt] at c0
              have f0 := hI.1.frozen k
              have c1 := hI.2.2.1.word (i := k) (by rw [rnds_length b hs]; omega)
              have HI := Lib.hid hI; clear hI
              go_wp2_with fail
              go_region
              have HI2 : Hid (Blk ((wr.setCell ⟨g, k, none⟩ (.int .u32 (add32 (at32 s k) (at32 (rnds b s 64) k)).toNat)).drew) g 83 (wvs (addFill s (rnds b s 64) (k + 1))) ∧ Blk ((wr.setCell ⟨g, k, none⟩ (.int .u32 (add32 (at32 s k) (at32 (rnds b s 64) k)).toNat)).drew) (g + 1) 83 (wvs (List.replicate 8 0)) ∧ Blk ((wr.setCell ⟨g, k, none⟩ (.int .u32 (add32 (at32 s k) (at32 (rnds b s 64) k)).toNat)).drew) (g + 3) 83 (wvs (rnds b s 64)) ∧ Below g w ((wr.setCell ⟨g, k, none⟩ (.int .u32 (add32 (at32 s k) (at32 (rnds b s 64) k)).toNat)).drew)) := by
                refine Lib.hid ⟨?_, (HI.out.2.1.other (p := ⟨g, k, none⟩) (show g + 1 ≠ g by omega) _).drew, (HI.out.2.2.1.other (p := ⟨g, k, none⟩) (show g + 3 ≠ g by omega) _).drew, (HI.out.2.2.2.setCell (p := ⟨g, k, none⟩) (show g ≤ g by omega) _).drew⟩
                rw [← addFill_set s (rnds b s 64) hlt]
                exact (HI.out.1.word_store _ _).drew
              clear c0 c1 f0 HI
              generalize (wr.setCell ⟨g, k, none⟩ (.int .u32 (add32 (at32 s k) (at32 (rnds b s 64) k)).toNat)).drew = w2 at *
              go_wp2_with fail
              go_roundw
              case rel => exact ⟨k + 1, by omega, by go_num, HI2.out⟩
              case measure => simp [intOf]; omega
            · obtain rfl : k = 8 := by omega
              have HI := Lib.hid hI; clear hI
              rw [addFill_all] at HI
              have e8 : (wvs (comp s b)).size = 8 := by rw [wvs_size]; exact comp_length s b
              go_wp2_with (first | (refine wpList_load_blk rfl 83 (.tmp 2) rfl g 83 (wvs (comp s b)) rfl HI.out.1 Tryd.underlying83 rfl (by rw [e8]; kernel_rfl) ?_) | (refine wpList_store_blk rfl 83 (.tmp 4) (.tmp 133) rfl (g + 1) 83 _ (wvs (comp s b)) rfl rfl HI.out.2.1 (by rw [e8]; rfl) (by rw [e8]; kernel_rfl) (wvs_one _) ?_; intro w1 hb1 hg1 hz1))
              refine bodyPost_ret (results_cell Tryd.results44 rfl (t := 83) (g := g + 1) (cs := wvs (comp s b)) hb1 Tryd.underlying83 rfl (by rw [e8]; kernel_rfl)) rfl ⟨rfl, ?_⟩
              rw [HG.out]
              exact (HI.out.2.2.2).grown hg1 (by have := HI.out.1.lt; omega) (by intro k hk; injection hk with hk; omega)
end Go.Proofs.YtbicdobnnanlkaaDoor
