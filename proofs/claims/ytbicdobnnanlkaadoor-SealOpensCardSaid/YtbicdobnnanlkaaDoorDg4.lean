/-
  The reference's schedule.
-/
import Derived.Test.YtbicdobnnanlkaaDoorDg3
import Derived.Test.YtbicdobnnanlkaaDoorGA
namespace Go.Proofs.YtbicdobnnanlkaaDoor
open Go Go.RowKit

theorem turnR_back (x : UInt32) (k : Int) (w : World) (h0 : 0 ≤ k) (hn : k < 32) :
    Calls Tryd.prog 50 #[.int .u32 x.toNat, .int .i64 k] w fun e w' => e = .returned (.int .u32 (rotr x k.toNat).toNat) ∧ w' = w :=
  (turnR_int x k w h0 hn).mono fun _ _ ⟨he, hw⟩ => ⟨he, hw.symm⟩
/-- the first i words of a schedule, noughts behind them -/
def filled (b : List UInt8) (i : Nat) : List UInt32 := (List.range 64).map fun j => if j < i then wd b j else 0
theorem filled_length (b : List UInt8) (i : Nat) : (filled b i).length = 64 := by simp [filled]
theorem filled_at (b : List UInt8) {i j : Nat} (h : j < i) (h64 : j < 64) : at32 (filled b i) j = wd b j := by
  simp [at32, filled, List.getD, h, h64]
theorem filled_set (b : List UInt8) {i : Nat} (h : i < 64) : (filled b i).set i (wd b i) = filled b (i + 1) := by
  apply List.ext_getElem?
  intro j
  rw [List.getElem?_set]
  simp only [filled, List.length_map, List.length_range, List.getElem?_map]
  by_cases h1 : i = j
  · subst h1; simp [h]
  · by_cases h2 : j < 64
    · rw [if_neg h1]
      simp only [h2, List.getElem?_range, Option.map_some]
      by_cases h3 : j < i
      · rw [if_pos h3, if_pos (by omega)]
      · rw [if_neg h3, if_neg (by omega)]
    · rw [if_neg h1]
      simp [h2]
theorem filled_zero (b : List UInt8) : wvs (filled b 0) = wvs (List.replicate 64 0) := by
  unfold filled wvs
  congr 1

theorem wvs_one (l : List UInt32) : (wvs l).all (·.oneCell') = true := by
  rw [Array.all_eq_true_iff_forall_mem]
  intro v hv
  simp only [wvs, List.mem_toArray, List.mem_map] at hv
  obtain ⟨x, _, rfl⟩ := hv
  rfl
/-- a byte of a string, by its place -/
theorem run_str_index {P : Program} {T : TypeId} (hT : P.underlying T = some .string) (s : ByteArray) (j : Nat) (h : j < s.size) (i : Int) (hi : i = (j : Int)) (W : World) :
    (Instr.index T (.string s) (.int .i64 i)).run P W = .ok (.int .u8 ((byteAt (sb s) j).toNat : Int)) W := by
  subst hi
  have e : (byteAt (sb s) j) = s[j] := by
    unfold byteAt sb
    rw [List.getD_eq_getElem?_getD, Array.getElem?_toList]
    have : s.data[j]? = some s[j] := by
      rw [Array.getElem?_eq_getElem (show j < s.data.size from h)]; rfl
    rw [this]; rfl
  have h2 : (j : Int) < (s.size : Int) := by omega
  rw [e]
  have e2 : s[((j : Int)).toNat]? = some s[j] := by rw [Int.toNat_natCast]; exact getElem?_pos s j h
  simp only [Instr.index, Sem.run_bind, run_underlying hT, Result.andThen, asIntOf, Sem.run_pure, Int.natCast_nonneg, if_true, e2]

theorem sched_int (a c X Y p q : UInt32) : ((a.toNat : Int) + bits .xor .u32 (X.toNat : Int) ((p.toNat : Int) % 4294967296) + (c.toNat : Int) + bits .xor .u32 (Y.toNat : Int) ((q.toNat : Int) % 4294967296)) % 4294967296 = ((add32 (add32 (add32 a (xor32 X p)) c) (xor32 Y q)).toNat : Int) := by
  have hp := p.toNat_lt
  have hq := q.toNat_lt
  rw [show (p.toNat : Int) % 4294967296 = (p.toNat : Int) by omega, show (q.toNat : Int) % 4294967296 = (q.toNat : Int) by omega, xor32_rule, xor32_rule]
  unfold add32
  simp only [UInt32.toNat_add]
  omega
theorem beW_int (b : List UInt8) (k : Nat) : ((((byteAt b (4 * k)).toNat : Int) % 4294967296 * 16777216 + ((byteAt b (4 * k + 1)).toNat : Int) % 4294967296 * 65536 + ((byteAt b (4 * k + 2)).toNat : Int) % 4294967296 * 256 + ((byteAt b (4 * k + 3)).toNat : Int)) % 4294967296) = ((beW b k).toNat : Int) := by
  unfold beW
  rw [UInt32.toNat_ofNat']
  have h0 := (byteAt b (4 * k)).toNat_lt
  have h1 := (byteAt b (4 * k + 1)).toNat_lt
  have h2 := (byteAt b (4 * k + 2)).toNat_lt
  have h3 := (byteAt b (4 * k + 3)).toNat_lt
  omega

set_option maxRecDepth 100000 in
set_option maxHeartbeats 2000000 in
theorem schedule_any (s : ByteArray) (w : World) (hs : s.size = 64) :
    Calls Tryd.prog 49 #[.string s] w fun e w' => e = .returned (.agg (wvs (filled (sb s) 64))) ∧ Below w.heap.size w w' := by
  go_enter Tryd.func49, Tryd.ntmps49
  go_wp2_with fail
  refine wp_abs (fun W => Blk W w.heap.size 89 (wvs (List.replicate 64 0)) ∧ Blk W (w.heap.size + 1) 89 (wvs (filled (sb s) 0)) ∧ Below w.heap.size w W) ⟨?_, ?_, ?_⟩ ?_
  · exact ((Blk.new w _ _).alloc _).mk_eq (by kernel_rfl)
  · rw [filled_zero]
    exact (Blk.new' (w := w.alloc _) (by simp) _ _).mk_eq (by kernel_rfl)
  · exact ((Below.refl w.heap.size w).alloc (Nat.le_refl _) _).alloc (by simp) _
  rintro W ⟨hR, hS, hB⟩
  have START : Hid (Blk W w.heap.size 89 (wvs (List.replicate 64 0)) ∧ Blk W (w.heap.size + 1) 89 (wvs (filled (sb s) 0)) ∧ Below w.heap.size w W) := Lib.hid ⟨hR, hS, hB⟩
  clear hR hS hB
  generalize hg : w.heap.size = g at *
  have HG := Lib.hid hg; clear hg
  go_loopw [4] (fun i wr => ∃ k : Nat, k ≤ 64 ∧ i = .int .i64 k ∧ Blk wr g 89 (wvs (List.replicate 64 0)) ∧ Blk wr (g + 1) 89 (wvs (filled (sb s) k)) ∧ Below g w wr) (fun i _ => 64 - (intOf i).toNat)
  case atStart => exact ⟨0, by omega, rfl, START.out⟩
  case round =>
    clear START
    obtain ⟨k, hk, rfl, hR, hS, hB⟩ := hrel
    by_cases hlt : k < 64
    · by_cases h16 : k < 16
      · have c0 := hS.word (i := k) (by rw [filled_length]; omega)
        have f0 := hS.frozen k
        have HR := Lib.hid hR; have HS := Lib.hid hS; have HB := Lib.hid hB
        clear hR hS hB
        have hw : IntKind.i64.wrap (4 * (k : Int)) = 4 * (k : Int) := IntWalk.i64_in _ (by omega)
        have x0 := run_str_index (P := Tryd.prog) Tryd.underlying9 s (4 * k) (by omega) (4 * (k : Int)) (by omega)
        have x1 := run_str_index (P := Tryd.prog) Tryd.underlying9 s (4 * k + 1) (by omega) (4 * (k : Int) + 1) (by omega)
        have x2 := run_str_index (P := Tryd.prog) Tryd.underlying9 s (4 * k + 2) (by omega) (4 * (k : Int) + 2) (by omega)
        have x3 := run_str_index (P := Tryd.prog) Tryd.underlying9 s (4 * k + 3) (by omega) (4 * (k : Int) + 3) (by omega)
        go_wp2_with fail
        go_region
        rw [beW_int, ← wd_low (sb s) h16]
        have HR1 : Hid (Blk ((wr.setCell ⟨g + 1, k, none⟩ (.int .u32 (wd (sb s) k).toNat)).drew) g 89 (wvs (List.replicate 64 0))) := Lib.hid ((HR.out).other (p := ⟨g + 1, k, none⟩) (show g ≠ g + 1 by omega) _).drew
        have HS1 : Hid (Blk ((wr.setCell ⟨g + 1, k, none⟩ (.int .u32 (wd (sb s) k).toNat)).drew) (g + 1) 89 (wvs (filled (sb s) (k + 1)))) := Lib.hid (by rw [← filled_set _ hlt]; exact ((HS.out).word_store _ _).drew)
        have HB1 : Hid (Below g w ((wr.setCell ⟨g + 1, k, none⟩ (.int .u32 (wd (sb s) k).toNat)).drew)) := Lib.hid ((HB.out).setCell (p := ⟨g + 1, k, none⟩) (show g ≤ g + 1 by omega) _).drew
        generalize (wr.setCell ⟨g + 1, k, none⟩ (.int .u32 (wd (sb s) k).toNat)).drew = w2 at *
        clear c0 f0 HR HS HB x0 x1 x2 x3
        go_wp2_with fail
        go_roundw
        case rel => exact ⟨k + 1, by omega, by go_num, HR1.out, HS1.out, HB1.out⟩
        case measure => simp [intOf]; omega
      · have c0 := hS.word (i := k) (by rw [filled_length]; omega)
        have f0 := hS.frozen k
        have c2 := hS.word (i := k - 2) (by rw [filled_length]; omega)
        have c7 := hS.word (i := k - 7) (by rw [filled_length]; omega)
        have c15 := hS.word (i := k - 15) (by rw [filled_length]; omega)
        have c16 := hS.word (i := k - 16) (by rw [filled_length]; omega)
        rw [filled_at _ (by omega) (by omega)] at c2 c7 c15 c16
        have HR := Lib.hid hR; have HS := Lib.hid hS; have HB := Lib.hid hB
        clear hR hS hB
        have HW := Lib.hid (wd_high (sb s) (i := k) (by omega))
        go_wp2_with fail
        have hw16 : IntKind.i64.wrap ((k : Int) - 16) = ((k - 16 : Nat) : Int) := by rw [IntWalk.i64_in _ (by omega)]; omega
        have hw7 : IntKind.i64.wrap ((k : Int) - 7) = ((k - 7 : Nat) : Int) := by rw [IntWalk.i64_in _ (by omega)]; omega
        have hb16 : ((k - 16 : Nat) : Int) < 64 := by omega
        have hb7 : ((k - 7 : Nat) : Int) < 64 := by omega
        refine wp_region_still_tail 29 (by kernel_rfl) (by kernel_rfl) ?_
        simp only [List.take_succ_cons, List.take_zero, List.drop_succ_cons, List.drop_zero]
        repeat (first | still_step | (still_call (turnR_back _ _ _ (by omega) (by omega))))
        try refine wpStill_nil ?_
        change wpList _ _ _ _ _ wr.drew
        go_wp2_with fail
        have e : (((wd (sb s) (k - 16)).toNat : Int) + bits .xor .u32 ((xor32 (rotr (wd (sb s) (k - 15)) 7) (rotr (wd (sb s) (k - 15)) 18)).toNat : Int) (((shr32 (wd (sb s) (k - 15)) 3).toNat : Int) % 4294967296) + ((wd (sb s) (k - 7)).toNat : Int) + bits .xor .u32 ((xor32 (rotr (wd (sb s) (k - 2)) 17) (rotr (wd (sb s) (k - 2)) 19)).toNat : Int) (((shr32 (wd (sb s) (k - 2)) 10).toNat : Int) % 4294967296)) % 4294967296 = ((wd (sb s) k).toNat : Int) := by
          rw [sched_int, HW.out]; rfl
        rw [e]
        go_roundw
        case rel =>
          refine ⟨k + 1, by omega, by go_num, ((HR.out).other (p := ⟨g + 1, k, none⟩) (show g ≠ g + 1 by omega) _).drew, ?_, ((HB.out).setCell (p := ⟨g + 1, k, none⟩) (show g ≤ g + 1 by omega) _).drew⟩
          rw [← filled_set _ hlt]
          exact ((HS.out).word_store _ _).drew
        case measure => simp [intOf]; omega
    · obtain rfl : k = 64 := by omega
      have HR := Lib.hid hR; have HB := Lib.hid hB; have HS := Lib.hid hS
      clear hR hB hS
      go_wp2_with (first | (refine wpList_load_blk rfl 89 (.tmp 3) rfl (g + 1) 89 (wvs (filled (sb s) 64)) rfl HS.out Tryd.underlying89 rfl (by rw [wvs_size, filled_length]; exact sizeK) ?_) | (refine wpList_store_blk rfl 89 (.tmp 2) (.tmp 81) rfl g 89 _ (wvs (filled (sb s) 64)) rfl rfl HR.out (by rw [wvs_size, wvs_size, filled_length]; rfl) (by rw [wvs_size, filled_length]; exact sizeK) (wvs_one _) ?_; intro w1 hb1 hg1 hz1))
      refine bodyPost_ret (results_cell Tryd.results49 rfl (t := 89) (g := g) (cs := wvs (filled (sb s) 64)) hb1 Tryd.underlying89 rfl (by rw [wvs_size, filled_length]; exact sizeK)) rfl ⟨rfl, ?_⟩
      rw [HG.out]
      exact (HB.out).grown hg1 (by have := HR.out.lt; omega) (by intro k hk; injection hk with hk; omega)
end Go.Proofs.YtbicdobnnanlkaaDoor
