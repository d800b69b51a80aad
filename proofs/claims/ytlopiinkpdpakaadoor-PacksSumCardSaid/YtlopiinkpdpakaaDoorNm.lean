/-
  The walk of baileeref03.Number, where no key is about.
-/
import Derived.Test.YtlopiinkpdpakaaDoorGA
namespace Go.Proofs.YtlopiinkpdpakaaDoor
open Go Go.RowKit

set_option maxRecDepth 100000 in
set_option maxHeartbeats 1000000 in
theorem number_any (n : Nat) (w : World) (hn : n < 18446744073709551616) :
    Calls Tryd.prog 55 #[.int .u64 (n : Int)] w fun e w' => e = .returned (.string (bs (le8 n))) ∧ Below w.heap.size w w' := by
  obtain ⟨i8, hi8, hz8, hsz8, hby8⟩ := info8
  have HI8 := Lib.hid hi8; clear hi8
  go_enter Tryd.func55, Tryd.ntmps55
  go_wp2_with fail
  generalize hg : w.heap.size = g at *
  have HG := Lib.hid hg; clear hg
  go_loopw [0, 3, 4] (fun m v i wr => ∃ k : Nat, k ≤ 8 ∧ m = .int .u64 ((n / 256 ^ k : Nat) : Int) ∧ i = .int .i64 k ∧ OwnB wr g v ((le8 n).take k) ∧ Below g w wr ∧ g ≤ wr.heap.size) (fun _ _ i _ => 8 - (intOf i).toNat)
  case atStart => exact ⟨0, by omega, by simp, rfl, .inl ⟨rfl, by simp⟩, Below.refl _ _, by rw [HG.out]; exact Nat.le_refl _⟩
  case round =>
    obtain ⟨k, hk, rfl, rfl, hI⟩ := hrel
    obtain ⟨A, c, rfl⟩ := hI.1.slice
    have hlen : ((le8 n).take k).length = k := by rw [List.length_take, le8_length]; omega
    rw [hlen] at hI ⊢
    obtain ⟨q, hq⟩ : ∃ q, q = n / 256 ^ k := ⟨_, rfl⟩
    have hqb : q < 18446744073709551616 := by rw [hq]; exact Nat.lt_of_le_of_lt (Nat.div_le_self _ _) hn
    have hq1 : n / 256 ^ (k + 1) = q / 256 := by rw [hq, Nat.pow_succ, Nat.div_div_eq_div_mul]
    have HQ1 := Lib.hid hq1
    have HQ := Lib.hid hq
    rw [← hq]
    clear hq hq1
    by_cases hlt : k < 8
    · have HT := Lib.hid (le8_take n hlt)
      have HY : Hid ((q : Int) % 256 = ((UInt8.ofNat q).toNat : Int)) := Lib.hid (by rw [UInt8.toNat_ofNat']; omega)
      have HI := Lib.hid hI; clear hI
      go_wp2_with (
        (at_builtin
         refine wpList_append_byte rfl (.tmp 9) (.tmp 13) 24 rfl g 5 i8 Tryd.underlying24 HI8.out hz8 hsz8 hby8 _ _ rfl (HI.out.1.alloc _) wr.heap.size 1 (UInt8.ofNat q) rfl (((Blk.new _ _ _).cell 0).trans (congrArg (fun z => some (Value.int .u8 z)) HY.out)) (by rw [hlen]; omega) (by have := HI.out.2.2; simp; omega) ?_
         intro v2 w2 ho2 hb2
         have hz := HI.out.2.2
         have HS : Hid (OwnB w2 g v2 ((le8 n).take (k + 1)) ∧ Below g w w2 ∧ g ≤ w2.heap.size) := Lib.hid ⟨ho2.mk_eq (by rw [HT.out, HQ.out]), (HI.out.2.1.alloc (by omega) _).trans (hb2.mono (by omega)), by have := hb2.size; simp at this; omega⟩
         clear HI HY HT ho2 hb2 hz))
      go_roundw
      case rel => exact ⟨k + 1, by omega, by rw [HQ1.out]; first | rfl | simp, by go_num, HS.out⟩
      case measure => simp [intOf]; omega
    · obtain rfl : k = 8 := by omega
      have hfull : (le8 n).take 8 = le8 n := List.take_of_length_le (by rw [le8_length]; omega)
      rw [hfull] at hI
      have hcv := (hI.1.hb).str Tryd.underlying24 Tryd.underlying5 Tryd.underlying9
      have HI := Lib.hid hI; clear hI hfull hlen
      go_wp2_with fail
      go_ret
      rw [HG.out]
      exact ⟨rfl, HI.out.2.1⟩
end Go.Proofs.YtlopiinkpdpakaaDoor
