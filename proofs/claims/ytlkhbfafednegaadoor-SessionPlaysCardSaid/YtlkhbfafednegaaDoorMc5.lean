/-
  The walk of mac.Derive.
-/
import Derived.Test.YtlkhbfafednegaaDoorMc4
import Derived.Test.YtlkhbfafednegaaDoorMc2
import Derived.Laws.IdiomStrings
namespace Go.Proofs.YtlkhbfafednegaaDoor
open Go Go.RowKit

/-- '[]byte(s)' -/
theorem conv_str_any {P : Program} {src dst e : TypeId} (hs : P.underlying src = some .string) (hd : P.underlying dst = some (.slice e)) (he : P.underlying e = some (.int .u8)) (s : ByteArray) (w : World) (hz : s.size ≤ 1000000) :
    ∃ v w', (convert src dst (.string s)).run P w = .ok v w' ∧ HB w' v (sb s) ∧ Below w.heap.size w w' := by
  refine ⟨_, _, run_bytes_of_string w src dst e s hs hd he, ?_, (Below.refl w.heap.size w).drew.alloc (Nat.le_refl _) _⟩
  have hge := grownCap_ge w s.size 0 e
  have hle := grownCap_le_maxLen w s.size 0 e (by simp only [maxLen]; omega)
  generalize grownCap w s.size 0 e = C at *
  refine ⟨_, C, by rw [sb_length], by rw [sb_length]; exact hge, hle, (fun h => by cases h), fun _ => ⟨_, 0, rfl, fun i x hx => ?_⟩⟩
  rw [Nat.zero_add]
  have hi : i < s.size := by have := (List.getElem?_eq_some_iff.1 hx).1; rwa [sb_length] at this
  have hb : (w.drew.alloc (.cells (bytesRow s C) e ((bytesRow s C).size, (bytesRow s C).size + 1))).heap[w.heap.size]? = some (.cells (bytesRow s C) e ((bytesRow s C).size, (bytesRow s C).size + 1)) := heap_alloc_new w.drew _
  have hc : (bytesRow s C)[i]? = some (.int .u8 (x.toNat : Int)) := by
    unfold bytesRow
    have hx2 : s.data[i]? = some x := by simpa [sb] using hx
    rw [Array.getElem?_append_left (by simpa using hi), Array.getElem?_map, hx2]
    rfl
  simp only [World.cell?, hb]
  exact hc

theorem own_one {w : World} {base q : Nat} {t : TypeId} {x : UInt8} (h : Blk w q t #[.int .u8 (x.toNat : Int)]) (hb : base ≤ q) : OwnB w base (.slice (some ⟨q, 0, none⟩) 1 1) [x] := by
  refine .inr ⟨q, 1, rfl, hb, Nat.le_refl _, by decide, fun i hi => ⟨.int .u8 (x.toNat : Int), ?_⟩, fun i _ => h.frozen i, fun i y hy => ?_⟩
  · obtain rfl : i = 0 := by omega
    exact h.cell 0
  · match i with
    | 0 => simp at hy; subst hy; exact h.cell 0
    | i + 1 => simp at hy

set_option maxRecDepth 100000 in
set_option maxHeartbeats 1000000 in
theorem macDer_any (key : List UInt8) (s : ByteArray) (n : Nat) (w : World) (hT : Tab w) (h0 : 0 < w.heap.size) (hk : key.length = 32) (hs : s.size ≤ 900000) (hn : n < 18446744073709551616) :
    Calls Tryd.prog 16 #[.agg (bvs key), .string s, .int .u64 (n : Int)] w fun e w' => e = .returned (.agg (bvs (derF key (sb s) n))) ∧ Below w.heap.size w w' := by
  have hbz : (bvs key).size = 32 := by rw [bvs_size]; exact hk
  obtain ⟨m, hm⟩ : ∃ m, m = derF key (sb s) n := ⟨_, rfl⟩
  have hml : m.length = 32 := by rw [hm]; exact derF_length _ _ _
  have hmz : (bvs m).size = 32 := by rw [bvs_size]; exact hml
  have hms : macF key ([sb s, 0 :: le8 n].flatten) = m := by rw [hm]; simp [derF]
  have HMS := Lib.hid hms
  rw [← hm]
  clear hm hms
  have HT := Lib.hid hT
  clear hT
  obtain ⟨i8, hi8, hz8, hsz8, hby8⟩ := info8
  have HI8 := Lib.hid hi8; clear hi8
  go_enter Tryd.func16, Tryd.ntmps16
  go_wp2_with fail
  refine wp_abs (fun W => ∃ g, g = w.heap.size ∧ OwnB W (g + 2) (.slice (some ⟨g + 2, 0, none⟩) 1 1) [0] ∧ Blk W g 23 (bvs key) ∧ Blk W (g + 1) 23 (bvs (List.replicate 32 0)) ∧ Below g w W ∧ g + 2 ≤ W.heap.size) ⟨_, rfl, ?_, ?_, ?_, ?_, ?_⟩ ?_
  · exact own_one (x := 0) (Blk.new' (w := (w.alloc _).alloc _) (by simp) _ _) (Nat.le_refl _)
  · exact ((Blk.new w _ _).alloc _).alloc _
  · exact (Blk.new' (w := w.alloc _) (by simp) _ _).alloc _
  · exact (((Below.refl w.heap.size w).alloc (Nat.le_refl _) _).alloc (by simp) _).alloc (by simp; omega) _
  · simp
  rintro W0 ⟨g, hg, hI⟩
  rw [← hg]
  have HI := Lib.hid hI
  have HG := Lib.hid hg
  clear hI hg
  go_loopw [2, 7, 9] (fun x v i wr => ∃ k : Nat, k ≤ 8 ∧ x = .int .u64 ((n / 256 ^ k : Nat) : Int) ∧ i = .int .i64 k ∧ OwnB wr (g + 2) v ([0] ++ (le8 n).take k) ∧ Blk wr g 23 (bvs key) ∧ Blk wr (g + 1) 23 (bvs (List.replicate 32 0)) ∧ Below g w wr ∧ g + 2 ≤ wr.heap.size) (fun _ _ i _ => 8 - (intOf i).toNat)
  case atStart => exact ⟨0, by omega, by simp, rfl, by rw [List.take_zero, List.append_nil]; exact HI.out.1, HI.out.2⟩
  case round =>
    clear HI
    obtain ⟨k, hk8, rfl, rfl, hI⟩ := hrel
    obtain ⟨A, c, rfl⟩ := hI.1.slice
    have hlen : ([0] ++ (le8 n).take k).length = k + 1 := by rw [List.length_append, List.length_take, le8_length]; simp; omega
    rw [hlen] at hI ⊢
    obtain ⟨q, hq⟩ : ∃ q, q = n / 256 ^ k := ⟨_, rfl⟩
    have hqb : q < 18446744073709551616 := by rw [hq]; exact Nat.lt_of_le_of_lt (Nat.div_le_self _ _) hn
    have hq1 : n / 256 ^ (k + 1) = q / 256 := by rw [hq, Nat.pow_succ, Nat.div_div_eq_div_mul]
    have HQ1 := Lib.hid hq1
    have HQ := Lib.hid hq
    rw [← hq]
    clear hq hq1
    by_cases hlt : k < 8
    · have HTk := Lib.hid (le8_take n hlt)
      have HY : Hid ((q : Int) % 256 = ((UInt8.ofNat q).toNat : Int)) := Lib.hid (by rw [UInt8.toNat_ofNat']; omega)
      have HI := Lib.hid hI; clear hI
      go_wp2_with (
        (at_builtin
         refine wpList_append_byte rfl (.tmp 11) (.tmp 14) 24 rfl (g + 2) 5 i8 Tryd.underlying24 HI8.out hz8 hsz8 hby8 _ _ rfl (HI.out.1.alloc _) wr.heap.size 1 (UInt8.ofNat q) rfl (((Blk.new _ _ _).cell 0).trans (congrArg (fun z => some (Value.int .u8 z)) HY.out)) (by rw [hlen]; omega) (by have := HI.out.2.2.2.2; simp; omega) ?_
         intro v2 w2 ho2 hb2
         have hz := HI.out.2.2.2.2
         have HS : Hid (OwnB w2 (g + 2) v2 ([0] ++ (le8 n).take (k + 1)) ∧ Blk w2 g 23 (bvs key) ∧ Blk w2 (g + 1) 23 (bvs (List.replicate 32 0)) ∧ Below g w w2 ∧ g + 2 ≤ w2.heap.size) := Lib.hid ⟨ho2.mk_eq (by rw [HTk.out, HQ.out, List.append_assoc]), (HI.out.2.1.alloc _).below hb2 (by omega), (HI.out.2.2.1.alloc _).below hb2 (by omega), (HI.out.2.2.2.1.alloc (by omega) _).trans (hb2.mono (by omega)), by have := hb2.size; simp at this; omega⟩
         clear HI HY HTk ho2 hb2 hz))
      go_roundw
      case rel => exact ⟨k + 1, by omega, by rw [HQ1.out]; first | rfl | simp, by go_num, HS.out⟩
      case measure => simp [intOf]; omega
    · obtain rfl : k = 8 := by omega
      have hfull : [0] ++ (le8 n).take 8 = 0 :: le8 n := by rw [List.take_of_length_le (by rw [le8_length]; omega)]; rfl
      rw [hfull] at hI
      have HI := Lib.hid hI; clear hI hfull hlen
      have HB1 : Hid (Below w.heap.size w wr) := Lib.hid (HG.out ▸ HI.out.2.2.2.1)
      obtain ⟨v, W2, hcv, hv, hb2⟩ := conv_str_any Tryd.underlying9 Tryd.underlying24 Tryd.underlying5 s wr (by omega)
      obtain ⟨p, cap, rfl, hr⟩ := hv
      have hP := parts_new2 (w := W2) (t := 24) rfl (⟨p, cap, rfl, hr⟩ : HB W2 (.slice p (sb s).length cap) (sb s)) ((HI.out.1.hb).keep hb2)
      have HW := Lib.hid (And.intro hb2 hP)
      clear hb2 hP hr
      go_wp2_with (first
        | (go_at_call 37
           have h1 := HB1.out.size
           have h2 := HW.out.1.size
           refine (macOf_any key _ _ _ hk (((HT.out.below HB1.out h0).below HW.out.1 (by omega)).below ((Below.refl W2.heap.size W2).alloc (Nat.le_refl _) _) (by omega)) (by simp <;> omega) HW.out.2 (by simp) (by simp [sb_length, le8_length]; omega)).mono ?_
           rintro e w5 ⟨rfl, hb5⟩
           rw [HMS.out]
           have HE : Hid (Below wr.heap.size wr w5) := Lib.hid ((HW.out.1.alloc h2 _).trans (hb5.mono (by simp; omega)))
           clear hb5 h1 h2 HW)
        | (refine wpList_load_blk rfl 23 (.tmp 3) rfl g 23 (bvs key) rfl HI.out.2.1 Tryd.underlying23 rfl (by rw [hbz]; kernel_rfl) ?_)
        | (refine wpList_store_blk rfl 23 (.tmp 6) (.tmp 24) rfl (g + 1) 23 _ (bvs m) rfl rfl (HI.out.2.2.1.below HE.out HI.out.2.2.1.lt) (by rw [hmz]; rfl) (by rw [hmz]; kernel_rfl) (bvs_one _) ?_
           intro w4 hb4 hg4 hz4))
      refine bodyPost_ret (results_cell Tryd.results16 rfl (t := 23) (g := g + 1) (cs := bvs m) hb4 Tryd.underlying23 rfl (by rw [hmz]; kernel_rfl)) rfl ⟨rfl, ?_⟩
      have h1 := HI.out.2.2.1.lt
      have h2 := HG.out
      have h3 := HE.out.size
      exact (HB1.out.trans (HE.out.mono HB1.out.size)).grown hg4 (by omega) (by intro k hk; injection hk with hk; omega)
end Go.Proofs.YtlkhbfafednegaaDoor
