/-
  The walks of the digest's small functions: turns of a word's bits, and the words that a walk needs for numbers of 32 bits.
-/
/-
  The walks of the ring of words, of the numbers at first, and of the rounds' numbers.
-/
/-
  The numbers at first, and the rounds' numbers.
-/
/-
  The reference's schedule.
-/
/-
  The plain laws for the walk of 'take': the ring's words, bytes into words.
-/
import Derived.Test.YtlkhbfafednegaaDoorRows
import Derived.Test.YtlkhbfafednegaaDoorGA
import Derived.Deep.RegionHeld3
import Derived.BigRegion
import Derived.StillTailTactics
import Derived.KernelRfl
namespace Go.Proofs.YtlkhbfafednegaaDoor
open Go Go.RowKit

set_option maxHeartbeats 400000 in
theorem rotl_any (x : UInt32) (n : Nat) (w : World) (h0 : 0 < n) (hn : n < 32) :
    Calls Tryd.prog 70 #[.int .u32 x.toNat, .int .i64 (-(n : Int))] w fun e w' => e = .returned (.int .u32 (rotr x n).toNat) ∧ w = w' := by
  have ha := neg_and n h0 hn
  have hv := Lib.hid (rotl_value x n h0 hn)
  go_enter Tryd.func70, Tryd.ntmps70
  go_wp2
  go_ret
  refine ⟨ret_int ?_, rfl⟩
  rw [show 32 - (32 - n) = n by omega, ← hv.out, IntKind.wrap_u32']

set_option maxHeartbeats 400000 in
theorem turn_any (x : UInt32) (n : Nat) (w : World) (h0 : 0 < n) (hn : n < 32) :
    Calls Tryd.prog 68 #[.int .u32 x.toNat, .int .i64 (n : Int)] w fun e w' => e = .returned (.int .u32 (rotr x n).toNat) ∧ w = w' := by
  go_enter Tryd.func68, Tryd.ntmps68
  go_wp2_with (go_at_call 70; refine (rotl_any x n _ h0 hn).mono ?_; rintro e w' ⟨rfl, rfl⟩)
  go_ret
  exact ⟨rfl, rfl⟩

set_option maxHeartbeats 400000 in
theorem three_any (x : UInt32) (a b c : Nat) (w : World) (ha : 0 < a ∧ a < 32) (hb : 0 < b ∧ b < 32) (hc : 0 < c ∧ c < 32) :
    Calls Tryd.prog 66 #[.int .u32 x.toNat, .int .i64 (a : Int), .int .i64 (b : Int), .int .i64 (c : Int)] w fun e w' =>
      e = .returned (.int .u32 (xor32 (xor32 (rotr x a) (rotr x b)) (rotr x c)).toNat) ∧ w = w' := by
  go_enter Tryd.func66, Tryd.ntmps66
  go_wp2_with fail
  refine (turn_any x a _ ha.1 ha.2).mono ?_
  rintro e w' ⟨rfl, rfl⟩
  go_wp2_with fail
  refine (turn_any x b _ hb.1 hb.2).mono ?_
  rintro e w' ⟨rfl, rfl⟩
  go_wp2_with fail
  refine (turn_any x c _ hc.1 hc.2).mono ?_
  rintro e w' ⟨rfl, rfl⟩
  go_wp2_with fail
  go_ret
  exact ⟨rfl, rfl⟩

/-! The reference's turn goes a place at a time. -/
theorem half32 (y : UInt32) : ((y.toNat : Int) / 2 % 4294967296 + (y.toNat : Int) % 2 * 2147483648) % 4294967296 = ((y.toNat / 2 + y.toNat % 2 * 2147483648 : Nat) : Int) := by
  have := y.toNat_lt
  omega
set_option maxHeartbeats 400000 in
theorem turnR_any (x : UInt32) (n : Nat) (w : World) (hn : n < 32) :
    Calls Tryd.prog 57 #[.int .u32 x.toNat, .int .i64 (n : Int)] w fun e w' => e = .returned (.int .u32 (rotr x n).toNat) ∧ w = w' := by
  go_enter Tryd.func57, Tryd.ntmps57
  go_wp2
  go_loop [0, 5] (fun v i => ∃ j : Nat, j ≤ n ∧ i = .int .i64 j ∧ v = .int .u32 (rotr x j).toNat) (fun _ i => n - (intOf i).toNat)
  case atStart => exact ⟨0, Nat.zero_le _, rfl, by rw [rotr_zero]⟩
  case round =>
    obtain ⟨j, hj, rfl, rfl⟩ := hrel
    by_cases hlt : j < n
    · have hs := Lib.hid (rotr_succ x (n := j) (by omega))
      go_wp2
      go_round
      case rel => exact ⟨j + 1, by omega, by go_num, by rw [half32, hs.out]⟩
      case measure => simp [intOf]; omega
    · obtain rfl : j = n := by omega
      go_wp2
      go_ret
      exact ⟨rfl, rfl⟩
/-! The same at a place that is a number of Int's. -/
theorem turn_int (x : UInt32) (k : Int) (w : World) (h0 : 0 < k) (hn : k < 32) :
    Calls Tryd.prog 68 #[.int .u32 x.toNat, .int .i64 k] w fun e w' => e = .returned (.int .u32 (rotr x k.toNat).toNat) ∧ w = w' := by
  obtain ⟨n, rfl⟩ := Int.eq_ofNat_of_zero_le (Int.le_of_lt h0)
  rw [Int.toNat_natCast]
  exact turn_any x n w (by omega) (by omega)
theorem turnR_int (x : UInt32) (k : Int) (w : World) (h0 : 0 ≤ k) (hn : k < 32) :
    Calls Tryd.prog 57 #[.int .u32 x.toNat, .int .i64 k] w fun e w' => e = .returned (.int .u32 (rotr x k.toNat).toNat) ∧ w = w' := by
  obtain ⟨n, rfl⟩ := Int.eq_ofNat_of_zero_le h0
  rw [Int.toNat_natCast]
  exact turnR_any x n w (by omega)
theorem three_S1 (x : UInt32) (w : World) : Calls Tryd.prog 66 #[.int .u32 x.toNat, .int .i64 6, .int .i64 11, .int .i64 25] w fun e w' => e = .returned (.int .u32 (S1 x).toNat) ∧ w = w' :=
  three_any x 6 11 25 w (by omega) (by omega) (by omega)
theorem three_S0 (x : UInt32) (w : World) : Calls Tryd.prog 66 #[.int .u32 x.toNat, .int .i64 2, .int .i64 13, .int .i64 22] w fun e w' => e = .returned (.int .u32 (S0 x).toNat) ∧ w = w' :=
  three_any x 2 13 22 w (by omega) (by omega) (by omega)
end Go.Proofs.YtlkhbfafednegaaDoor
namespace Go.Proofs.YtlkhbfafednegaaDoor
open Go Go.RowKit

/-- the word of a round out of the ring -/
def ringNext (r : List UInt32) (i : Nat) : UInt32 :=
  add32 (at32 r (i % 16)) (add32 (add32 (s0 (at32 r ((i + 1) % 16))) (at32 r ((i + 9) % 16))) (s1 (at32 r ((i + 14) % 16))))

set_option maxHeartbeats 1000000 in
theorem next_any (g : Nat) (r : List UInt32) (i : Nat) (w : World) (hr : r.length = 16) (hi : i < 1000) (hb : Blk w g 115 (wvs r)) :
    Calls Tryd.prog 65 #[.pointer (some ⟨g, 0, none⟩), .int .i64 (i : Int)] w fun e w' =>
      e = .returned (.int .u32 (ringNext r i).toNat) ∧ w.grownBy w' (some g) ∧ Blk w' g 115 (wvs (r.set (i % 16) (ringNext r i))) := by
  have c0 := hb.word (i := i % 16) (by omega)
  have c1 := hb.word (i := (i + 1) % 16) (by omega)
  have c9 := hb.word (i := (i + 9) % 16) (by omega)
  have c14 := hb.word (i := (i + 14) % 16) (by omega)
  have f0 := hb.frozen (i % 16)
  have HB := Lib.hid hb; clear hb
  go_enter Tryd.func65, Tryd.ntmps65
  go_wp2_with fail
  go_quiet (fail)
  go_wp2_with (go_at_call 68; refine (turn_int _ _ _ (by omega) (by omega)).mono ?_; rintro e w' ⟨rfl, rfl⟩)
  generalize hW : w.drewN nq = w1
  have HB1 : Hid (Blk w1 g 115 (wvs r)) := Lib.hid (by rw [← hW]; exact (HB.out).drewN nq)
  have HG1 : Hid (w.grownBy w1 (some g)) := Lib.hid (by rw [← hW]; exact Only.drewN (World.grownBy.refl w (some g)) nq)
  clear hW c0 c1 c9 c14 f0 HB
  have c0 := HB1.out.word (i := i % 16) (by omega)
  have c9 := HB1.out.word (i := (i + 9) % 16) (by omega)
  have f0 := HB1.out.frozen (i % 16)
  have hi0 : (0 : Int) ≤ (i : Int) := by omega
  have hm0 : (i : Int).tmod 16 = ((i % 16 : Nat) : Int) := by rw [Int.tmod_eq_emod_of_nonneg hi0]; omega
  have hw9 : IntKind.i64.wrap ((i : Int) + 9) = (i : Int) + 9 := IntWalk.i64_in _ (by omega)
  have hm9 : ((i : Int) + 9).tmod 16 = (((i + 9) % 16 : Nat) : Int) := by rw [Int.tmod_eq_emod_of_nonneg (by omega)]; omega
  go_region
  generalize hN : (add32 (at32 r (i % 16)) (add32 (add32 (xor32 (xor32 (rotr (at32 r ((i + 1) % 16)) 7) (rotr (at32 r ((i + 1) % 16)) 18)) (shr32 (at32 r ((i + 1) % 16)) 3)) (at32 r ((i + 9) % 16))) (xor32 (xor32 (rotr (at32 r ((i + 14) % 16)) 17) (rotr (at32 r ((i + 14) % 16)) 19)) (shr32 (at32 r ((i + 14) % 16)) 10)))) = N
  have HN : Hid (ringNext r i = N) := Lib.hid hN
  clear hN
  have HB2 : Hid (Blk ((w1.setCell ⟨g, i % 16, none⟩ (.int .u32 N.toNat)).drew) g 115 (wvs (r.set (i % 16) N))) := Lib.hid ((HB1.out).word_store _ _).drew
  have HG2 : Hid (w.grownBy ((w1.setCell ⟨g, i % 16, none⟩ (.int .u32 N.toNat)).drew) (some g)) := Lib.hid (Only.drew (Only.store (HG1.out) (.inl rfl) _))
  generalize (w1.setCell ⟨g, i % 16, none⟩ (.int .u32 N.toNat)).drew = w2 at *
  have d0 := HB2.out.word (i := i % 16) (by rw [List.length_set]; omega)
  rw [at32_set _ _ _ _ (by omega), if_pos rfl] at d0
  clear c0 c9 f0
  go_wp2_with fail
  go_ret
  rw [HN.out]
  exact ⟨rfl, HG2.out, HB2.out⟩
end Go.Proofs.YtlkhbfafednegaaDoor
namespace Go.Proofs.YtlkhbfafednegaaDoor
open Go Go.RowKit

set_option maxRecDepth 100000 in
set_option maxHeartbeats 1000000 in
theorem first_any (w : World) :
    Calls Tryd.prog 60 #[] w fun e w' => e = .returned (.agg (wvs h0List)) ∧ Below w.heap.size w w' := by
  go_enter Tryd.func60, Tryd.ntmps60
  go_wp2
  refine bodyPost_ret (results_cell Tryd.results60 rfl (t := 102) (g := w.heap.size) (cs := wvs h0List) (Blk.new w _ _) Tryd.underlying102 rfl (by kernel_rfl)) rfl ⟨rfl, (Below.refl _ _).alloc (Nat.le_refl _) _⟩

theorem sizeK : (Tryd.prog.info? 103).map (·.size) = some 64 := by kernel_rfl
theorem kOne : (wvs kList).all (·.oneCell') = true := by kernel_rfl
theorem kSize : (wvs kList).size = 64 := by kernel_rfl
set_option maxRecDepth 100000 in
set_option maxHeartbeats 1000000 in
theorem numbers_any (w : World) :
    Calls Tryd.prog 55 #[] w fun e w' => e = .returned (.agg (wvs kList)) ∧ Below w.heap.size w w' := by
  go_enter Tryd.func55, Tryd.ntmps55
  go_wp2_with (refine wpList_store_blk rfl 103 (.tmp 0) (.tmp 1) rfl w.heap.size 103 _ (wvs kList) rfl (by kernel_rfl) (Blk.new w _ _) (by kernel_rfl) (by kernel_rfl) kOne ?_; intro w1 hb1 hg1 hz1)
  refine bodyPost_ret (results_cell Tryd.results55 rfl (t := 103) (g := w.heap.size) (cs := wvs kList) hb1 Tryd.underlying103 rfl (by kernel_rfl)) rfl ⟨rfl, ?_⟩
  exact ((Below.refl w.heap.size w).alloc (Nat.le_refl _) _).grown hg1 (by simp) (by intro k hk; injection hk with hk; omega)
end Go.Proofs.YtlkhbfafednegaaDoor
namespace Go.Proofs.YtlkhbfafednegaaDoor
open Go Go.RowKit

theorem turnR_back (x : UInt32) (k : Int) (w : World) (h0 : 0 ≤ k) (hn : k < 32) :
    Calls Tryd.prog 57 #[.int .u32 x.toNat, .int .i64 k] w fun e w' => e = .returned (.int .u32 (rotr x k.toNat).toNat) ∧ w' = w :=
  (turnR_int x k w h0 hn).mono fun _ _ ⟨he, hw⟩ => ⟨he, hw.symm⟩
/-- the first i words of a schedule, noughts behind them -/
def filled (b : List UInt8) (i : Nat) : List UInt32 := (List.range 64).map fun j => if j < i then wd b j else 0
theorem filled_length (b : List UInt8) (i : Nat) : (filled b i).length = 64 := by simp [filled]
theorem filled_at (b : List UInt8) {i j : Nat} (h : j < i) (h64 : j < 64) : at32 (filled b i) j = wd b j := by
  simp [at32, filled, List.getD, h, h64]
theorem filled_set (b : List UInt8) {i : Nat} (h : i < 64) : (filled b i).set i (wd b i) = filled b (i + 1) := by
  apply List.ext_getElem?
  intro j
  rw [List.getElem?_set]
  simp only [filled, List.length_map, List.length_range, List.getElem?_map]
  by_cases h1 : i = j
  · subst h1; simp [h]
  · by_cases h2 : j < 64
    · rw [if_neg h1]
      simp only [h2, List.getElem?_range, Option.map_some]
      by_cases h3 : j < i
      · rw [if_pos h3, if_pos (by omega)]
      · rw [if_neg h3, if_neg (by omega)]
    · rw [if_neg h1]
      simp [h2]
theorem filled_zero (b : List UInt8) : wvs (filled b 0) = wvs (List.replicate 64 0) := by
  unfold filled wvs
  congr 1

theorem wvs_one (l : List UInt32) : (wvs l).all (·.oneCell') = true := by
  rw [Array.all_eq_true_iff_forall_mem]
  intro v hv
  simp only [wvs, List.mem_toArray, List.mem_map] at hv
  obtain ⟨x, _, rfl⟩ := hv
  rfl
/-- a byte of a string, by its place -/
theorem run_str_index {P : Program} {T : TypeId} (hT : P.underlying T = some .string) (s : ByteArray) (j : Nat) (h : j < s.size) (i : Int) (hi : i = (j : Int)) (W : World) :
    (Instr.index T (.string s) (.int .i64 i)).run P W = .ok (.int .u8 ((byteAt (sb s) j).toNat : Int)) W := by
  subst hi
  have e : (byteAt (sb s) j) = s[j] := by
    unfold byteAt sb
    rw [List.getD_eq_getElem?_getD, Array.getElem?_toList]
    have : s.data[j]? = some s[j] := by
      rw [Array.getElem?_eq_getElem (show j < s.data.size from h)]; rfl
    rw [this]; rfl
  have h2 : (j : Int) < (s.size : Int) := by omega
  rw [e]
  have e2 : s[((j : Int)).toNat]? = some s[j] := by rw [Int.toNat_natCast]; exact getElem?_pos s j h
  simp only [Instr.index, Sem.run_bind, run_underlying hT, Result.andThen, asIntOf, Sem.run_pure, Int.natCast_nonneg, if_true, e2]

theorem sched_int (a c X Y p q : UInt32) : ((a.toNat : Int) + bits .xor .u32 (X.toNat : Int) ((p.toNat : Int) % 4294967296) + (c.toNat : Int) + bits .xor .u32 (Y.toNat : Int) ((q.toNat : Int) % 4294967296)) % 4294967296 = ((add32 (add32 (add32 a (xor32 X p)) c) (xor32 Y q)).toNat : Int) := by
  have hp := p.toNat_lt
  have hq := q.toNat_lt
  rw [show (p.toNat : Int) % 4294967296 = (p.toNat : Int) by omega, show (q.toNat : Int) % 4294967296 = (q.toNat : Int) by omega, xor32_rule, xor32_rule]
  unfold add32
  simp only [UInt32.toNat_add]
  omega
theorem beW_int (b : List UInt8) (k : Nat) : ((((byteAt b (4 * k)).toNat : Int) % 4294967296 * 16777216 + ((byteAt b (4 * k + 1)).toNat : Int) % 4294967296 * 65536 + ((byteAt b (4 * k + 2)).toNat : Int) % 4294967296 * 256 + ((byteAt b (4 * k + 3)).toNat : Int)) % 4294967296) = ((beW b k).toNat : Int) := by
  unfold beW
  rw [UInt32.toNat_ofNat']
  have h0 := (byteAt b (4 * k)).toNat_lt
  have h1 := (byteAt b (4 * k + 1)).toNat_lt
  have h2 := (byteAt b (4 * k + 2)).toNat_lt
  have h3 := (byteAt b (4 * k + 3)).toNat_lt
  omega

set_option maxRecDepth 100000 in
set_option maxHeartbeats 2000000 in
theorem schedule_any (s : ByteArray) (w : World) (hs : s.size = 64) :
    Calls Tryd.prog 56 #[.string s] w fun e w' => e = .returned (.agg (wvs (filled (sb s) 64))) ∧ Below w.heap.size w w' := by
  go_enter Tryd.func56, Tryd.ntmps56
  go_wp2_with fail
  refine wp_abs (fun W => Blk W w.heap.size 103 (wvs (List.replicate 64 0)) ∧ Blk W (w.heap.size + 1) 103 (wvs (filled (sb s) 0)) ∧ Below w.heap.size w W) ⟨?_, ?_, ?_⟩ ?_
  · exact ((Blk.new w _ _).alloc _).mk_eq (by kernel_rfl)
  · rw [filled_zero]
    exact (Blk.new' (w := w.alloc _) (by simp) _ _).mk_eq (by kernel_rfl)
  · exact ((Below.refl w.heap.size w).alloc (Nat.le_refl _) _).alloc (by simp) _
  rintro W ⟨hR, hS, hB⟩
  have START : Hid (Blk W w.heap.size 103 (wvs (List.replicate 64 0)) ∧ Blk W (w.heap.size + 1) 103 (wvs (filled (sb s) 0)) ∧ Below w.heap.size w W) := Lib.hid ⟨hR, hS, hB⟩
  clear hR hS hB
  generalize hg : w.heap.size = g at *
  have HG := Lib.hid hg; clear hg
  go_loopw [4] (fun i wr => ∃ k : Nat, k ≤ 64 ∧ i = .int .i64 k ∧ Blk wr g 103 (wvs (List.replicate 64 0)) ∧ Blk wr (g + 1) 103 (wvs (filled (sb s) k)) ∧ Below g w wr) (fun i _ => 64 - (intOf i).toNat)
  case atStart => exact ⟨0, by omega, rfl, START.out⟩
  case round =>
    clear START
    obtain ⟨k, hk, rfl, hR, hS, hB⟩ := hrel
    by_cases hlt : k < 64
    · by_cases h16 : k < 16
      · have c0 := hS.word (i := k) (by rw [filled_length]; omega)
        have f0 := hS.frozen k
        have HR := Lib.hid hR; have HS := Lib.hid hS; have HB := Lib.hid hB
        clear hR hS hB
        have hw : IntKind.i64.wrap (4 * (k : Int)) = 4 * (k : Int) := IntWalk.i64_in _ (by omega)
        have x0 := run_str_index (P := Tryd.prog) Tryd.underlying9 s (4 * k) (by omega) (4 * (k : Int)) (by omega)
        have x1 := run_str_index (P := Tryd.prog) Tryd.underlying9 s (4 * k + 1) (by omega) (4 * (k : Int) + 1) (by omega)
        have x2 := run_str_index (P := Tryd.prog) Tryd.underlying9 s (4 * k + 2) (by omega) (4 * (k : Int) + 2) (by omega)
        have x3 := run_str_index (P := Tryd.prog) Tryd.underlying9 s (4 * k + 3) (by omega) (4 * (k : Int) + 3) (by omega)
        go_wp2_with fail
        go_region
        rw [beW_int, ← wd_low (sb s) h16]
        have HR1 : Hid (Blk ((wr.setCell ⟨g + 1, k, none⟩ (.int .u32 (wd (sb s) k).toNat)).drew) g 103 (wvs (List.replicate 64 0))) := Lib.hid ((HR.out).other (p := ⟨g + 1, k, none⟩) (show g ≠ g + 1 by omega) _).drew
        have HS1 : Hid (Blk ((wr.setCell ⟨g + 1, k, none⟩ (.int .u32 (wd (sb s) k).toNat)).drew) (g + 1) 103 (wvs (filled (sb s) (k + 1)))) := Lib.hid (by rw [← filled_set _ hlt]; exact ((HS.out).word_store _ _).drew)
        have HB1 : Hid (Below g w ((wr.setCell ⟨g + 1, k, none⟩ (.int .u32 (wd (sb s) k).toNat)).drew)) := Lib.hid ((HB.out).setCell (p := ⟨g + 1, k, none⟩) (show g ≤ g + 1 by omega) _).drew
        generalize (wr.setCell ⟨g + 1, k, none⟩ (.int .u32 (wd (sb s) k).toNat)).drew = w2 at *
        clear c0 f0 HR HS HB x0 x1 x2 x3
        go_wp2_with fail
        go_roundw
        case rel => exact ⟨k + 1, by omega, by go_num, HR1.out, HS1.out, HB1.out⟩
        case measure => simp [intOf]; omega
      · have c0 := hS.word (i := k) (by rw [filled_length]; omega)
        have f0 := hS.frozen k
        have c2 := hS.word (i := k - 2) (by rw [filled_length]; omega)
        have c7 := hS.word (i := k - 7) (by rw [filled_length]; omega)
        have c15 := hS.word (i := k - 15) (by rw [filled_length]; omega)
        have c16 := hS.word (i := k - 16) (by rw [filled_length]; omega)
        rw [filled_at _ (by omega) (by omega)] at c2 c7 c15 c16
        have HR := Lib.hid hR; have HS := Lib.hid hS; have HB := Lib.hid hB
        clear hR hS hB
        have HW := Lib.hid (wd_high (sb s) (i := k) (by omega))
        go_wp2_with fail
        have hw16 : IntKind.i64.wrap ((k : Int) - 16) = ((k - 16 : Nat) : Int) := by rw [IntWalk.i64_in _ (by omega)]; omega
        have hw7 : IntKind.i64.wrap ((k : Int) - 7) = ((k - 7 : Nat) : Int) := by rw [IntWalk.i64_in _ (by omega)]; omega
        have hb16 : ((k - 16 : Nat) : Int) < 64 := by omega
        have hb7 : ((k - 7 : Nat) : Int) < 64 := by omega
        refine wp_region_still_tail 29 (by kernel_rfl) (by kernel_rfl) ?_
        simp only [List.take_succ_cons, List.take_zero, List.drop_succ_cons, List.drop_zero]
        repeat (first | still_step | (still_call (turnR_back _ _ _ (by omega) (by omega))))
        try refine wpStill_nil ?_
        change wpList _ _ _ _ _ wr.drew
        go_wp2_with fail
        have e : (((wd (sb s) (k - 16)).toNat : Int) + bits .xor .u32 ((xor32 (rotr (wd (sb s) (k - 15)) 7) (rotr (wd (sb s) (k - 15)) 18)).toNat : Int) (((shr32 (wd (sb s) (k - 15)) 3).toNat : Int) % 4294967296) + ((wd (sb s) (k - 7)).toNat : Int) + bits .xor .u32 ((xor32 (rotr (wd (sb s) (k - 2)) 17) (rotr (wd (sb s) (k - 2)) 19)).toNat : Int) (((shr32 (wd (sb s) (k - 2)) 10).toNat : Int) % 4294967296)) % 4294967296 = ((wd (sb s) k).toNat : Int) := by
          rw [sched_int, HW.out]; rfl
        rw [e]
        go_roundw
        case rel =>
          refine ⟨k + 1, by omega, by go_num, ((HR.out).other (p := ⟨g + 1, k, none⟩) (show g ≠ g + 1 by omega) _).drew, ?_, ((HB.out).setCell (p := ⟨g + 1, k, none⟩) (show g ≤ g + 1 by omega) _).drew⟩
          rw [← filled_set _ hlt]
          exact ((HS.out).word_store _ _).drew
        case measure => simp [intOf]; omega
    · obtain rfl : k = 64 := by omega
      have HR := Lib.hid hR; have HB := Lib.hid hB; have HS := Lib.hid hS
      clear hR hB hS
      go_wp2_with (first | (refine wpList_load_blk rfl 103 (.tmp 3) rfl (g + 1) 103 (wvs (filled (sb s) 64)) rfl HS.out Tryd.underlying103 rfl (by rw [wvs_size, filled_length]; exact sizeK) ?_) | (refine wpList_store_blk rfl 103 (.tmp 2) (.tmp 81) rfl g 103 _ (wvs (filled (sb s) 64)) rfl rfl HR.out (by rw [wvs_size, wvs_size, filled_length]; rfl) (by rw [wvs_size, filled_length]; exact sizeK) (wvs_one _) ?_; intro w1 hb1 hg1 hz1))
      refine bodyPost_ret (results_cell Tryd.results56 rfl (t := 103) (g := g) (cs := wvs (filled (sb s) 64)) hb1 Tryd.underlying103 rfl (by rw [wvs_size, filled_length]; exact sizeK)) rfl ⟨rfl, ?_⟩
      rw [HG.out]
      exact (HB.out).grown hg1 (by have := HR.out.lt; omega) (by intro k hk; injection hk with hk; omega)
end Go.Proofs.YtlkhbfafednegaaDoor
namespace Go.Proofs.YtlkhbfafednegaaDoor
open Go Go.RowKit

def u8v (c : UInt8) : Value := .int .u8 c.toNat
/-- a byte more of a word -/
def bw (x : UInt32) (c : UInt8) : UInt32 := UInt32.ofNat (x.toNat * 256 + c.toNat)
/-- the first j bytes of the k-th word -/
def pw (b : List UInt8) (k : Nat) : Nat → UInt32
  | 0 => 0
  | j + 1 => bw (pw b k j) (byteAt b (4 * k + j))
theorem pw_four (b : List UInt8) (k : Nat) : pw b k 4 = beW b k := by
  have h0 := (byteAt b (4 * k)).toNat_lt
  have h1 := (byteAt b (4 * k + 1)).toNat_lt
  have h2 := (byteAt b (4 * k + 2)).toNat_lt
  have h3 := (byteAt b (4 * k + 3)).toNat_lt
  apply UInt32.toNat_inj.1
  simp only [pw, bw, beW, Nat.add_zero, UInt32.toNat_ofNat', UInt32.toNat_zero]
  omega
theorem bw_int (x : UInt32) (c : UInt8) : bits .or .u32 (IntKind.u32.wrap ((x.toNat : Int) * 256)) (c.toNat : Int) = ((bw x c).toNat : Int) := by
  have hc := c.toNat_lt
  have e : IntKind.u32.wrap ((x.toNat : Int) * 256) = ((x.toNat % 16777216 * 256 : Nat) : Int) := by rw [IntKind.wrap_u32']; omega
  rw [e, u32_or_nat _ _ (by omega) (by omega)]
  have h := Nat.shiftLeft_add_eq_or_of_lt (b := c.toNat) (i := 8) (by omega) (x.toNat % 16777216)
  rw [Nat.shiftLeft_eq, show (2 : Nat) ^ 8 = 256 from rfl] at h
  rw [← h]
  unfold bw
  rw [UInt32.toNat_ofNat']
  omega

/-- the ring while it is filled -/
def ringFill (b : List UInt8) (k : Nat) : List UInt32 := (List.range 16).map fun j => if j < k then beW b j else 0
theorem ringFill_length (b : List UInt8) (k : Nat) : (ringFill b k).length = 16 := by simp [ringFill]
theorem ringFill_at (b : List UInt8) {k : Nat} (h : k < 16) : at32 (ringFill b k) k = 0 := by
  simp [at32, ringFill, List.getD, h]
theorem ringFill_set (b : List UInt8) {k : Nat} (h : k < 16) : (ringFill b k).set k (beW b k) = ringFill b (k + 1) := by
  apply List.ext_getElem?
  intro j
  rw [List.getElem?_set]
  simp only [ringFill, List.length_map, List.length_range, List.getElem?_map]
  by_cases h1 : k = j
  · subst h1; simp [h]
  · by_cases h2 : j < 16
    · rw [if_neg h1]
      simp only [h2, List.getElem?_range, Option.map_some]
      by_cases h3 : j < k
      · rw [if_pos h3, if_pos (by omega)]
      · rw [if_neg h3, if_neg (by omega)]
    · rw [if_neg h1]
      simp [h2]

/-- which word lies at place j of the ring ahead of round i -/
def idx (i j : Nat) : Nat := max i 16 - 1 - (max i 16 - 1 - j) % 16
/-- the ring ahead of round i -/
def ringAt (b : List UInt8) (i : Nat) : List UInt32 := (List.range 16).map fun j => wd b (idx i j)
theorem ringAt_length (b : List UInt8) (i : Nat) : (ringAt b i).length = 16 := by simp [ringAt]
theorem ringAt_at (b : List UInt8) (i : Nat) {j : Nat} (h : j < 16) : at32 (ringAt b i) j = wd b (idx i j) := by
  simp [at32, ringAt, List.getD, h]
theorem ringFill_full (b : List UInt8) : ringFill b 16 = ringAt b 0 := by
  apply List.map_congr_left
  intro j hj
  have hj : j < 16 := by simpa using hj
  have : idx 0 j = j := by unfold idx; omega
  rw [if_pos hj, this, wd_low b hj]
theorem ringAt_low (b : List UInt8) {i : Nat} (h : i < 16) : at32 (ringAt b i) (i % 16) = wd b i := by
  rw [ringAt_at b i (by omega), show idx i (i % 16) = i by unfold idx; omega]
theorem ringAt_step (b : List UInt8) {i : Nat} (h : i < 16) : ringAt b (i + 1) = ringAt b i := by
  apply List.map_congr_left
  intro j hj
  rw [show idx (i + 1) j = idx i j by unfold idx; omega]
theorem ringNext_eq (b : List UInt8) {i : Nat} (h : 16 ≤ i) : ringNext (ringAt b i) i = wd b i := by
  unfold ringNext
  rw [ringAt_at b i (by omega), ringAt_at b i (by omega), ringAt_at b i (by omega), ringAt_at b i (by omega)]
  rw [show idx i (i % 16) = i - 16 by unfold idx; omega, show idx i ((i + 1) % 16) = i - 15 by unfold idx; omega, show idx i ((i + 9) % 16) = i - 7 by unfold idx; omega, show idx i ((i + 14) % 16) = i - 2 by unfold idx; omega]
  rw [wd_high b h]
  unfold add32
  simp only [UInt32.add_assoc]
theorem ringAt_set (b : List UInt8) {i : Nat} (h : 16 ≤ i) : (ringAt b i).set (i % 16) (wd b i) = ringAt b (i + 1) := by
  apply List.ext_getElem?
  intro j
  rw [List.getElem?_set]
  simp only [ringAt, List.length_map, List.length_range, List.getElem?_map]
  by_cases h1 : i % 16 = j
  · subst h1
    have hj : i % 16 < 16 := by omega
    simp only [hj, if_true, List.getElem?_range, Option.map_some]
    rw [show idx (i + 1) (i % 16) = i by unfold idx; omega]
  · by_cases h2 : j < 16
    · rw [if_neg h1]
      simp only [h2, List.getElem?_range, Option.map_some]
      rw [show idx (i + 1) j = idx i j by unfold idx; omega]
    · rw [if_neg h1]
      simp [h2]

/-- the numbers while the rounds' are added to them -/
def addFill (s v : List UInt32) (i : Nat) : List UInt32 := (List.range 8).map fun j => if j < i then add32 (at32 s j) (at32 v j) else at32 s j
theorem addFill_length (s v : List UInt32) (i : Nat) : (addFill s v i).length = 8 := by simp [addFill]
theorem addFill_at (s v : List UInt32) {i : Nat} (h : i < 8) : at32 (addFill s v i) i = at32 s i := by
  simp [addFill, at32, List.getD, h]
theorem addFill_set (s v : List UInt32) {i : Nat} (h : i < 8) : (addFill s v i).set i (add32 (at32 s i) (at32 v i)) = addFill s v (i + 1) := by
  apply List.ext_getElem?
  intro j
  rw [List.getElem?_set]
  simp only [addFill, List.length_map, List.length_range, List.getElem?_map]
  by_cases h1 : i = j
  · subst h1; simp [h]
  · by_cases h2 : j < 8
    · rw [if_neg h1]
      simp only [h2, List.getElem?_range, Option.map_some]
      by_cases h3 : j < i
      · rw [if_pos h3, if_pos (by omega)]
      · rw [if_neg h3, if_neg (by omega)]
    · rw [if_neg h1]
      simp [h2]
theorem addFill_zero {s : List UInt32} (hs : s.length = 8) (v : List UInt32) : addFill s v 0 = s := by
  obtain ⟨a, b, c, d, e, f, g, k, rfl⟩ := eight hs
  rfl
theorem addFill_all (s : List UInt32) (b : List UInt8) : addFill s (rnds b s 64) 8 = comp s b := by
  apply List.map_congr_left
  intro j hj
  have hj : j < 8 := by simpa using hj
  rw [if_pos hj]; rfl

theorem kList_length : kList.length = 64 := by decide
theorem step_eq (a b c d e f g k K W : UInt32) : step [a, b, c, d, e, f, g, k] K W = [add32 (t1F e f g k K W) (t2F a b c), a, b, c, add32 d (t1F e f g k K W), e, f, g] := rfl
end Go.Proofs.YtlkhbfafednegaaDoor
