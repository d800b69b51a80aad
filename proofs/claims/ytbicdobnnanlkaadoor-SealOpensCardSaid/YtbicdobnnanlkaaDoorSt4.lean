/-
  The walk of the stream's begin.
-/
import Derived.Test.YtbicdobnnanlkaaDoorSt3
namespace Go.Proofs.YtbicdobnnanlkaaDoor
open Go Go.RowKit

theorem wvs_all1 (l : List UInt32) : (wvs l).all (·.oneCell') = true := by
  rw [Array.all_eq_true_iff_forall_mem]
  intro v hv
  simp only [wvs, List.mem_toArray, List.mem_map] at hv
  obtain ⟨x, _, rfl⟩ := hv
  rfl
/-- k words out of bytes are laid from a place on -/
def setW (s : List UInt32) (base : Nat) (l : List UInt8) : Nat → List UInt32
  | 0 => s
  | k + 1 => (setW s base l k).set (base + k) (le32 l (4 * k))
theorem setW_length (s : List UInt32) (base : Nat) (l : List UInt8) (k : Nat) : (setW s base l k).length = s.length := by
  induction k with
  | zero => rfl
  | succ k ih => rw [setW, List.length_set, ih]
def startS : List UInt32 := constsS ++ List.replicate 12 0
theorem begin_eq (key nonce : List UInt8) (n : UInt32) : setW ((setW startS 4 key 8).set 12 n) 13 nonce 3 = beginS key nonce n := rfl

set_option maxRecDepth 100000 in
set_option maxHeartbeats 1000000 in
theorem begin_any (key nonce : List UInt8) (n : UInt32) (w : World) (hk : key.length = 32) (hn : nonce.length = 12) :
    Calls Tryd.prog 40 #[.agg (bvs key), .agg (bvs nonce), .int .u32 (n.toNat : Int)] w fun e w' => e = .returned (.agg (wvs (beginS key nonce n))) ∧ Below w.heap.size w w' := by
  have hbz : (bvs key).size = 32 := by rw [bvs_size]; exact hk
  have hnz : (bvs nonce).size = 12 := by rw [bvs_size]; exact hn
  have hsz : (wvs startS).size = 16 := rfl
  go_enter Tryd.func40, Tryd.ntmps40
  go_wp2_with (refine wpList_store_blk rfl 77 (.tmp 7) (.tmp 11) rfl (w.heap.size + 1 + 1 + 1) 77 _ (wvs startS) rfl rfl (Blk.new' (by simp) _ _) (by rw [hsz]; rfl) (by rw [hsz]; kernel_rfl) (wvs_all1 _) ?_
               intro w3 hb3 hg3 hz3
               have HI : Hid (∃ g, g = w.heap.size ∧ Blk w3 (g + 3) 77 (wvs startS) ∧ Blk w3 g 23 (bvs key) ∧ Blk w3 (g + 1) 48 (bvs nonce) ∧ Blk w3 (g + 2) 77 (wvs (List.replicate 16 0)) ∧ Below g w w3 ∧ g + 4 ≤ w3.heap.size) := by
                 refine Lib.hid ⟨_, rfl, hb3, ?_, ?_, ?_, ?_, ?_⟩
                 · exact ((((Blk.new w _ _).alloc _).alloc _).alloc _).grown hg3 (by intro h; injection h with h; omega)
                 · exact (((Blk.new' (w := w.alloc _) (by simp) _ _).alloc _).alloc _).grown hg3 (by intro h; injection h with h; omega)
                 · exact ((Blk.new' (w := (w.alloc _).alloc _) (by simp) _ _).alloc _).grown hg3 (by intro h; injection h with h; omega)
                 · exact (((((Below.refl w.heap.size w).alloc (Nat.le_refl _) _).alloc (by simp) _).alloc (by simp; omega) _).alloc (by simp; omega) _).grown hg3 (by simp; omega) (by intro k hk; injection hk with hk; omega)
                 · rw [hz3]; simp
               clear hb3 hg3 hz3)
  obtain ⟨g, hg, hI⟩ := HI.out
  rw [← hg, show g + 1 + 1 + 1 = g + 3 from rfl, show g + 1 + 1 = g + 2 from rfl]
  have HG := Lib.hid hg
  have HI0 := Lib.hid hI
  clear HI hI hg
  go_loopw [9, 12] (fun _ i wr => ∃ k : Nat, k ≤ 8 ∧ i = .int .i64 k ∧ Blk wr (g + 3) 77 (wvs (setW startS 4 key k)) ∧ Blk wr g 23 (bvs key) ∧ Blk wr (g + 1) 48 (bvs nonce) ∧ Blk wr (g + 2) 77 (wvs (List.replicate 16 0)) ∧ Below g w wr ∧ g + 4 ≤ wr.heap.size) (fun _ i _ => 8 - (intOf i).toNat)
  case atStart => exact ⟨0, by omega, rfl, HI0.out⟩
  case round =>
    clear HI0
    obtain ⟨k, hk8, rfl, hI⟩ := hrel
    by_cases hlt : k < 8
    · have d0 := hI.2.1.byte (i := 4 * k) (by omega)
      have d1 := hI.2.1.byte (i := 4 * k + 1) (by omega)
      have d2 := hI.2.1.byte (i := 4 * k + 2) (by omega)
      have d3 := hI.2.1.byte (i := 4 * k + 3) (by omega)
      have HD := Lib.hid (And.intro d0 (And.intro d1 (And.intro d2 d3)))
      have HI := Lib.hid hI
      have HJ := Lib.hid (le32_join key (4 * k))
      have hlen : (setW startS 4 key k).length = 16 := by rw [setW_length]; rfl
      clear d0 d1 d2 d3 hI
      obtain ⟨m, hm⟩ : ∃ m, m = 4 * k := ⟨_, rfl⟩
      have hkm : (4 : Int) * (k : Int) = (m : Int) := by omega
      have hm1 : (m : Int) ≤ 32 := by omega
      have hm3 : ¬ m = 32 := by omega
      have HM := Lib.hid hm
      rw [← hm] at HD HJ
      clear hm
      obtain ⟨r, hr⟩ : ∃ r, r = 4 + k := ⟨_, rfl⟩
      have hkr : (4 : Int) + (k : Int) = (r : Int) := by omega
      have hr1 : (r : Int) < 16 := by omega
      have hr2 : r < 16 := by omega
      have HR := Lib.hid hr
      clear hr
      go_wp2_with (go_at_call 51
                   refine (word_any g m (32 - m) _ _ _ _ wr (by omega) (by omega) HD.out.1 HD.out.2.1 HD.out.2.2.1 HD.out.2.2.2).mono ?_
                   rintro e w5 ⟨rfl, hb5⟩
                   rw [HJ.out]
                   have HI5 : Hid (Blk w5 (g + 3) 77 (wvs (setW startS 4 key k)) ∧ Blk w5 g 23 (bvs key) ∧ Blk w5 (g + 1) 48 (bvs nonce) ∧ Blk w5 (g + 2) 77 (wvs (List.replicate 16 0)) ∧ Below g w w5 ∧ g + 4 ≤ w5.heap.size) := Lib.hid ⟨HI.out.1.below hb5 HI.out.1.lt, HI.out.2.1.below hb5 HI.out.2.1.lt, HI.out.2.2.1.below hb5 HI.out.2.2.1.lt, HI.out.2.2.2.1.below hb5 HI.out.2.2.2.1.lt, HI.out.2.2.2.2.1.trans (hb5.mono (by have := HI.out.2.2.2.2.2; omega)), Nat.le_trans HI.out.2.2.2.2.2 hb5.size⟩
                   have c0 := HI5.out.1.word (i := r) (by omega)
                   have f0 := HI5.out.1.frozen r
                   clear hb5 HI)
      go_roundw
      case rel =>
        refine ⟨k + 1, by omega, by go_num, ?_, HI5.out.2.1.other (by simp) _, HI5.out.2.2.1.other (by simp) _, HI5.out.2.2.2.1.other (by simp) _, HI5.out.2.2.2.2.1.setCell (p := ⟨g + 3, r, none⟩) (by show g ≤ g + 3; omega) _, by rw [World.size_setCell]; exact HI5.out.2.2.2.2.2⟩
        rw [setW, ← HR.out, ← HM.out]
        exact HI5.out.1.word_store _ _
      case measure => simp [intOf]; omega
    · obtain rfl : k = 8 := by omega
      have HI := Lib.hid hI; clear hI
      obtain ⟨s1, hs1⟩ : ∃ s1, s1 = (setW startS 4 key 8).set 12 n := ⟨_, rfl⟩
      have hs1l : s1.length = 16 := by rw [hs1, List.length_set, setW_length]; rfl
      have HS1 := Lib.hid hs1
      clear hs1
      have c0 := HI.out.1.word (i := 12) (by rw [setW_length]; decide)
      have f0 := HI.out.1.frozen 12
      go_wp2_with fail
      have HI1 : Hid (Blk (wr.setCell ⟨g + 3, 12, none⟩ (.int .u32 (n.toNat : Int))) (g + 3) 77 (wvs (setW s1 13 nonce 0)) ∧ Blk (wr.setCell ⟨g + 3, 12, none⟩ (.int .u32 (n.toNat : Int))) (g + 1) 48 (bvs nonce) ∧ Blk (wr.setCell ⟨g + 3, 12, none⟩ (.int .u32 (n.toNat : Int))) (g + 2) 77 (wvs (List.replicate 16 0)) ∧ Below g w (wr.setCell ⟨g + 3, 12, none⟩ (.int .u32 (n.toNat : Int))) ∧ g + 4 ≤ (wr.setCell ⟨g + 3, 12, none⟩ (.int .u32 (n.toNat : Int))).heap.size) := by
        refine Lib.hid ⟨?_, HI.out.2.2.1.other (by simp) _, HI.out.2.2.2.1.other (by simp) _, HI.out.2.2.2.2.1.setCell (p := ⟨g + 3, 12, none⟩) (by show g ≤ g + 3; omega) _, by rw [World.size_setCell]; exact HI.out.2.2.2.2.2⟩
        rw [setW, HS1.out]
        exact HI.out.1.word_store _ _
      clear c0 f0 HI
      generalize wr.setCell ⟨g + 3, 12, none⟩ (.int .u32 (n.toNat : Int)) = w6 at *
      rw [show ((8 : Nat) : Int) = 8 from rfl]
      go_loopw [10, 26] (fun _ i wr => ∃ k : Nat, k ≤ 3 ∧ i = .int .i64 k ∧ Blk wr (g + 3) 77 (wvs (setW s1 13 nonce k)) ∧ Blk wr (g + 1) 48 (bvs nonce) ∧ Blk wr (g + 2) 77 (wvs (List.replicate 16 0)) ∧ Below g w wr ∧ g + 4 ≤ wr.heap.size) (fun _ i _ => 3 - (intOf i).toNat)
      case atStart => exact ⟨0, by omega, rfl, HI1.out⟩
      case round =>
        clear HI1
        obtain ⟨k, hk8, rfl, hI⟩ := hrel
        by_cases hlt : k < 3
        · have d0 := hI.2.1.byte (i := 4 * k) (by omega)
          have d1 := hI.2.1.byte (i := 4 * k + 1) (by omega)
          have d2 := hI.2.1.byte (i := 4 * k + 2) (by omega)
          have d3 := hI.2.1.byte (i := 4 * k + 3) (by omega)
          have HD := Lib.hid (And.intro d0 (And.intro d1 (And.intro d2 d3)))
          have HI := Lib.hid hI
          have HJ := Lib.hid (le32_join nonce (4 * k))
          have hlen : (setW s1 13 nonce k).length = 16 := by rw [setW_length]; exact hs1l
          clear d0 d1 d2 d3 hI
          obtain ⟨m, hm⟩ : ∃ m, m = 4 * k := ⟨_, rfl⟩
          have hkm : (4 : Int) * (k : Int) = (m : Int) := by omega
          have hm1 : (m : Int) ≤ 12 := by omega
          have hm3 : ¬ m = 12 := by omega
          have HM := Lib.hid hm
          rw [← hm] at HD HJ
          clear hm
          obtain ⟨r, hr⟩ : ∃ r, r = 13 + k := ⟨_, rfl⟩
          have hkr : (13 : Int) + (k : Int) = (r : Int) := by omega
          have hr1 : (r : Int) < 16 := by omega
          have hr2 : r < 16 := by omega
          have HR := Lib.hid hr
          clear hr
          go_wp2_with (go_at_call 51
                       refine (word_any (g + 1) m (12 - m) _ _ _ _ wr (by omega) (by omega) HD.out.1 HD.out.2.1 HD.out.2.2.1 HD.out.2.2.2).mono ?_
                       rintro e w5 ⟨rfl, hb5⟩
                       rw [HJ.out]
                       have HI5 : Hid (Blk w5 (g + 3) 77 (wvs (setW s1 13 nonce k)) ∧ Blk w5 (g + 1) 48 (bvs nonce) ∧ Blk w5 (g + 2) 77 (wvs (List.replicate 16 0)) ∧ Below g w w5 ∧ g + 4 ≤ w5.heap.size) := Lib.hid ⟨HI.out.1.below hb5 HI.out.1.lt, HI.out.2.1.below hb5 HI.out.2.1.lt, HI.out.2.2.1.below hb5 HI.out.2.2.1.lt, HI.out.2.2.2.1.trans (hb5.mono (by have := HI.out.2.2.2.2; omega)), Nat.le_trans HI.out.2.2.2.2 hb5.size⟩
                       have c0 := HI5.out.1.word (i := r) (by omega)
                       have f0 := HI5.out.1.frozen r
                       clear hb5 HI)
          go_roundw
          case rel =>
            refine ⟨k + 1, by omega, by go_num, ?_, HI5.out.2.1.other (by simp) _, HI5.out.2.2.1.other (by simp) _, HI5.out.2.2.2.1.setCell (p := ⟨g + 3, r, none⟩) (by show g ≤ g + 3; omega) _, by rw [World.size_setCell]; exact HI5.out.2.2.2.2⟩
            rw [setW, ← HR.out, ← HM.out]
            exact HI5.out.1.word_store _ _
          case measure => simp [intOf]; omega
        · obtain rfl : k = 3 := by omega
          have HI := Lib.hid hI; clear hI
          obtain ⟨b, hb⟩ : ∃ b, b = setW s1 13 nonce 3 := ⟨_, rfl⟩
          have hbl : b.length = 16 := by rw [hb, setW_length]; exact hs1l
          have hbz2 : (wvs b).size = 16 := by rw [wvs_size]; exact hbl
          have HBE : Hid (b = beginS key nonce n) := Lib.hid (by rw [hb, HS1.out]; exact begin_eq key nonce n)
          rw [← hb] at HI
          clear hb
          go_wp2_with (first
            | (refine wpList_load_blk rfl 77 (.tmp 7) rfl (g + 3) 77 (wvs b) rfl HI.out.1 Tryd.underlying77 rfl (by rw [hbz2]; kernel_rfl) ?_)
            | (refine wpList_store_blk rfl 77 (.tmp 6) (.tmp 38) rfl (g + 2) 77 _ (wvs b) rfl rfl HI.out.2.2.1 (by rw [hbz2]; rfl) (by rw [hbz2]; kernel_rfl) (wvs_all1 _) ?_
               intro w7 hb7 hg7 hz7))
          refine bodyPost_ret (results_cell Tryd.results40 rfl (t := 77) (g := g + 2) (cs := wvs b) hb7 Tryd.underlying77 rfl (by rw [hbz2]; kernel_rfl)) rfl ⟨by rw [HBE.out], ?_⟩
          rw [← HG.out]
          exact HI.out.2.2.2.1.grown hg7 (by have := HI.out.2.2.2.2; omega) (by intro k hk; injection hk with hk; omega)
end Go.Proofs.YtbicdobnnanlkaaDoor
