/-
  The walks of mac.pad, of the reference's 'over' and 'Number'.
-/
import Derived.Test.YtlkhbfafednegaaDoorGA
import Derived.Test.YtlkhbfafednegaaDoorGF
namespace Go.Proofs.YtlkhbfafednegaaDoor
open Go Go.RowKit

set_option maxRecDepth 100000 in
set_option maxHeartbeats 1000000 in
theorem pad_any (key : List UInt8) (x : UInt8) (w : World) (hk : key.length = 32) :
    Calls Tryd.prog 54 #[.agg (bvs key), .int .u8 (x.toNat : Int)] w fun e w' => ∃ q, e = .returned (.slice (some ⟨q, 0, none⟩) 64 64) ∧ Blk w' q 113 (bvs (padK key x)) ∧ Below w.heap.size w w' := by
  have hbz : (bvs key).size = 32 := by rw [bvs_size]; exact hk
  go_enter Tryd.func54, Tryd.ntmps54
  go_wp2_with fail
  refine wp_abs (fun W => ∃ g, g = w.heap.size ∧ Blk W g 23 (bvs key) ∧ Blk W (g + 1) 113 (bvs (List.replicate 64 0)) ∧ Below g w W) ⟨_, rfl, ?_, ?_, ?_⟩ ?_
  · exact (Blk.new w _ _).alloc _
  · exact Blk.new' (w := w.alloc _) (by simp) _ _
  · exact ((Below.refl w.heap.size w).alloc (Nat.le_refl _) _).alloc (by simp) _
  rintro W0 ⟨g, hg, hI⟩
  rw [← hg]
  have HI := Lib.hid hI
  have HG := Lib.hid hg
  clear hI hg
  refine wp_region_tail 2 [.eq (.slice (some ⟨g + 1, 0, none⟩) 64 64), .eq (.slice (some ⟨g, 0, none⟩) 32 32)] (by kernel_rfl) (by kernel_rfl) (by kernel_rfl) (by kernel_rfl) rfl (by decide) (by kernel_rfl) _ (fun f => by simp only [framedL, Act.put, List.setIfInBounds_toArray, List.set_cons_zero, List.set_cons_succ, Nat.reduceAdd]; rfl) ⟨?_, ?_, trivial⟩ ?_
  · refine oweAs_pure ((.slice (some ⟨g + 1, 0, none⟩) 64 64)) rfl (fun f W hE hd => ?_) (fun W hE => rfl)
    go_simp
  · refine oweAs_pure ((.slice (some ⟨g, 0, none⟩) 32 32)) rfl (fun f W hE hd => ?_) (fun W hE => rfl)
    go_simp
  intro f W hE hA
  simp only [AllAs, As.holds, Nat.reduceAdd] at hA
  obtain ⟨hA0, hA1, -⟩ := hA
  simp only [List.drop_succ_cons, List.drop_zero]
  rw [hA0, hA1]
  have HE := Lib.hid hE
  have hgl := HI.out.2.1.lt
  have HK := Lib.hid (HB.blk (HI.out.1.below hE (by omega)) hk (by simp only [maxLen]; omega))
  clear hE hA0 hA1
  go_wp2_with (refine wpList_copy_blk rfl (.tmp 7) (.tmp 8) 24 24 rfl 5 Tryd.underlying24 (by kernel_rfl) 64 64 _ (g + 1) 0 113 (List.replicate 64 0) key rfl rfl (HI.out.2.1.below HE.out hgl) HK.out (by omega) (by rw [hk]; decide) ?_
               intro w2 hb2 hg2 hz2
               have START : Hid (Blk w2 (g + 1) 113 (bvs (padF key x 0)) ∧ Below g w w2) := Lib.hid ⟨by
                 have e : padF key x 0 = splice (List.replicate 64 0) 0 key := by rw [padF_zero key x hk]; simp [splice, hk]
                 rw [e]; exact hb2, (HI.out.2.2.trans (HE.out.mono (by omega))).grown hg2 (by have := HE.out.size; omega) (by intro k hk; injection hk with hk; omega)⟩
               clear hb2 hg2 hz2)
  clear HK HE HI
  go_loopw [10] (fun i wr => ∃ k : Nat, k ≤ 64 ∧ i = .int .i64 k ∧ Blk wr (g + 1) 113 (bvs (padF key x k)) ∧ Below g w wr) (fun i _ => 64 - (intOf i).toNat)
  case atStart => exact ⟨0, by omega, rfl, START.out⟩
  case round =>
    clear START
    obtain ⟨k, hk, rfl, hI⟩ := hrel
    by_cases hlt : k < 64
    · have c0 := hI.1.byte (i := k) (by rw [padF_length]; exact hlt)
      have e0 : at8 (padF key x k) k = key.getD k 0 := padF_at key x hlt
      rw [e0] at c0
      have f0 := hI.1.frozen k
      have HI := Lib.hid hI; clear hI e0
      go_wp2_with fail
      rw [xor8_rule]
      go_roundw
      case rel =>
        refine ⟨k + 1, by omega, by go_num, ?_, HI.out.2.setCell (p := ⟨g + 1, k, none⟩) (show g ≤ g + 1 by omega) _⟩
        rw [← padF_set key x hlt]
        exact HI.out.1.byte_store _ _
      case measure => simp [intOf]; omega
    · obtain rfl : k = 64 := by omega
      rw [padF_all] at hI
      have HI := Lib.hid hI; clear hI
      go_wp2_with fail
      go_ret
      rw [← HG.out]
      exact ⟨_, rfl, HI.out.1, HI.out.2⟩

theorem padK_take (key : List UInt8) (x : UInt8) {k : Nat} (h : k < 64) : (padK key x).take (k + 1) = (padK key x).take k ++ [key.getD k 0 ^^^ x] := by
  rw [List.take_add_one]
  simp [padK, h]

set_option maxRecDepth 100000 in
set_option maxHeartbeats 1000000 in
theorem over_any (key : List UInt8) (x : UInt8) (w : World) (hk : key.length = 32) :
    Calls Tryd.prog 47 #[.agg (bvs key), .int .u8 (x.toNat : Int)] w fun e w' => e = .returned (.string (bs (padK key x))) ∧ Below w.heap.size w w' := by
  have hbz : (bvs key).size = 32 := by rw [bvs_size]; exact hk
  obtain ⟨i8, hi8, hz8, hsz8, hby8⟩ := info8
  have HI8 := Lib.hid hi8; clear hi8
  go_enter Tryd.func47, Tryd.ntmps47
  go_wp2_with fail
  have START : Hid (OwnB (w.alloc (.cells (bvs key) 23)) (w.heap.size + 1) (.slice none 0 0) ((padK key x).take 0) ∧ Blk (w.alloc (.cells (bvs key) 23)) w.heap.size 23 (bvs key) ∧ Below w.heap.size w (w.alloc (.cells (bvs key) 23)) ∧ w.heap.size + 1 ≤ (w.alloc (.cells (bvs key) 23)).heap.size) :=
    Lib.hid ⟨.inl ⟨rfl, by simp⟩, Blk.new _ _ _, (Below.refl _ _).alloc (Nat.le_refl _) _, by simp⟩
  generalize hg : w.heap.size = g at *
  have HG := Lib.hid hg; clear hg
  go_loopw [5, 6] (fun v i wr => ∃ k : Nat, k ≤ 64 ∧ i = .int .i64 k ∧ OwnB wr (g + 1) v ((padK key x).take k) ∧ Blk wr g 23 (bvs key) ∧ Below g w wr ∧ g + 1 ≤ wr.heap.size) (fun _ i _ => 64 - (intOf i).toNat)
  case atStart => exact ⟨0, by omega, rfl, START.out⟩
  case round =>
    clear START
    obtain ⟨k, hk, rfl, hI⟩ := hrel
    obtain ⟨A, c, rfl⟩ := hI.1.slice
    have hlen : ((padK key x).take k).length = k := by rw [List.length_take, padK_length]; omega
    rw [hlen] at hI ⊢
    by_cases hlt : k < 64
    · have HT := Lib.hid (padK_take key x hlt)
      obtain ⟨y, hy⟩ : ∃ y, y = key.getD k 0 := ⟨_, rfl⟩
      rw [← hy] at HT
      have HY : Hid (bits .xor .u8 (y.toNat : Int) (x.toNat : Int) = ((y ^^^ x).toNat : Int)) := Lib.hid (xor8_rule _ _)
      by_cases h32 : k < 32
      case' pos =>
        have c0 := hI.2.1.byte (i := k) (by omega)
        have e0 : at8 key k = y := hy.symm
        rw [e0] at c0
        clear e0 hy
      case' neg =>
        have e1 : key.getD k 0 = 0 := by
          rw [List.getD_eq_getElem?_getD, List.getElem?_eq_none (by omega)]; rfl
        rw [e1] at hy
        subst hy
        clear e1
      all_goals
        have HI := Lib.hid hI; clear hI
        go_wp2_with (
          (at_builtin
           refine wpList_append_byte rfl (.tmp 17) (.tmp 21) 24 rfl (g + 1) 5 i8 Tryd.underlying24 HI8.out hz8 hsz8 hby8 _ _ rfl (HI.out.1.alloc _) wr.heap.size 1 _ rfl (((Blk.new _ _ _).cell 0).trans (congrArg (fun z => some (Value.int .u8 z)) HY.out)) (by rw [hlen]; omega) (by have := HI.out.2.2.2; simp; omega) ?_
           intro v2 w2 ho2 hb2
           have hz := HI.out.2.2.2
           have HS : Hid (OwnB w2 (g + 1) v2 ((padK key x).take (k + 1)) ∧ Blk w2 g 23 (bvs key) ∧ Below g w w2 ∧ g + 1 ≤ w2.heap.size) := Lib.hid ⟨ho2.mk_eq HT.out.symm, (HI.out.2.1.alloc _).below hb2 (by omega), (HI.out.2.2.1.alloc (by omega) _).trans (hb2.mono (by omega)), by have := hb2.size; simp at this; omega⟩
           clear HI HY HT ho2 hb2 hz))
        go_roundw
        case rel => exact ⟨k + 1, by omega, by go_num, HS.out⟩
        case measure => simp [intOf]; omega
    · obtain rfl : k = 64 := by omega
      have hfull : (padK key x).take 64 = padK key x := List.take_of_length_le (by rw [padK_length]; omega)
      rw [hfull] at hI
      have hcv := (hI.1.hb).str Tryd.underlying24 Tryd.underlying5 Tryd.underlying9
      have HI := Lib.hid hI; clear hI hfull hlen
      go_wp2_with fail
      go_ret
      rw [HG.out]
      exact ⟨rfl, HI.out.2.2.1⟩

set_option maxRecDepth 100000 in
set_option maxHeartbeats 1000000 in
theorem number_any (n : Nat) (w : World) (hn : n < 18446744073709551616) :
    Calls Tryd.prog 48 #[.int .u64 (n : Int)] w fun e w' => e = .returned (.string (bs (le8 n))) ∧ Below w.heap.size w w' := by
  obtain ⟨i8, hi8, hz8, hsz8, hby8⟩ := info8
  have HI8 := Lib.hid hi8; clear hi8
  go_enter Tryd.func48, Tryd.ntmps48
  go_wp2_with fail
  generalize hg : w.heap.size = g at *
  have HG := Lib.hid hg; clear hg
  go_loopw [0, 3, 4] (fun m v i wr => ∃ k : Nat, k ≤ 8 ∧ m = .int .u64 ((n / 256 ^ k : Nat) : Int) ∧ i = .int .i64 k ∧ OwnB wr g v ((le8 n).take k) ∧ Below g w wr ∧ g ≤ wr.heap.size) (fun _ _ i _ => 8 - (intOf i).toNat)
  case atStart => exact ⟨0, by omega, by simp, rfl, .inl ⟨rfl, by simp⟩, Below.refl _ _, by rw [HG.out]; exact Nat.le_refl _⟩
  case round =>
    obtain ⟨k, hk, rfl, rfl, hI⟩ := hrel
    obtain ⟨A, c, rfl⟩ := hI.1.slice
    have hlen : ((le8 n).take k).length = k := by rw [List.length_take, le8_length]; omega
    rw [hlen] at hI ⊢
    obtain ⟨q, hq⟩ : ∃ q, q = n / 256 ^ k := ⟨_, rfl⟩
    have hqb : q < 18446744073709551616 := by rw [hq]; exact Nat.lt_of_le_of_lt (Nat.div_le_self _ _) hn
    have hq1 : n / 256 ^ (k + 1) = q / 256 := by rw [hq, Nat.pow_succ, Nat.div_div_eq_div_mul]
    have HQ1 := Lib.hid hq1
    have HQ := Lib.hid hq
    rw [← hq]
    clear hq hq1
    by_cases hlt : k < 8
    · have HT := Lib.hid (le8_take n hlt)
      have HY : Hid ((q : Int) % 256 = ((UInt8.ofNat q).toNat : Int)) := Lib.hid (by rw [UInt8.toNat_ofNat']; omega)
      have HI := Lib.hid hI; clear hI
      go_wp2_with (
        (at_builtin
         refine wpList_append_byte rfl (.tmp 9) (.tmp 13) 24 rfl g 5 i8 Tryd.underlying24 HI8.out hz8 hsz8 hby8 _ _ rfl (HI.out.1.alloc _) wr.heap.size 1 (UInt8.ofNat q) rfl (((Blk.new _ _ _).cell 0).trans (congrArg (fun z => some (Value.int .u8 z)) HY.out)) (by rw [hlen]; omega) (by have := HI.out.2.2; simp; omega) ?_
         intro v2 w2 ho2 hb2
         have hz := HI.out.2.2
         have HS : Hid (OwnB w2 g v2 ((le8 n).take (k + 1)) ∧ Below g w w2 ∧ g ≤ w2.heap.size) := Lib.hid ⟨ho2.mk_eq (by rw [HT.out, HQ.out]), (HI.out.2.1.alloc (by omega) _).trans (hb2.mono (by omega)), by have := hb2.size; simp at this; omega⟩
         clear HI HY HT ho2 hb2 hz))
      go_roundw
      case rel => exact ⟨k + 1, by omega, by rw [HQ1.out]; first | rfl | simp, by go_num, HS.out⟩
      case measure => simp [intOf]; omega
    · obtain rfl : k = 8 := by omega
      have hfull : (le8 n).take 8 = le8 n := List.take_of_length_le (by rw [le8_length]; omega)
      rw [hfull] at hI
      have hcv := (hI.1.hb).str Tryd.underlying24 Tryd.underlying5 Tryd.underlying9
      have HI := Lib.hid hI; clear hI hfull hlen
      go_wp2_with fail
      go_ret
      rw [HG.out]
      exact ⟨rfl, HI.out.2.1⟩
end Go.Proofs.YtlkhbfafednegaaDoor
