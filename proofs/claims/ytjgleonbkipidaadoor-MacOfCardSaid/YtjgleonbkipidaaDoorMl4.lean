/-
  The walk of the law MacOf.
-/
import Derived.Test.YtjgleonbkipidaaDoorMl1
import Derived.Test.YtjgleonbkipidaaDoorBt2
namespace Go.Proofs.YtjgleonbkipidaaDoor
open Go Go.RowKit

set_option maxRecDepth 100000 in
set_option maxHeartbeats 1000000 in
theorem macOfL_any (key : List UInt8) (v : Value) (ls : List (List UInt8)) (w : World) (hT : Tab w) (h0 : 0 < w.heap.size) (hk : key.length = 32) (hL : HBs w v ls) :
    Calls Tryd.prog 9 #[.agg (bvs key), v] w fun e w' => e = .returned (.bool true) ∧ Below w.heap.size w w' := by
  have hbz : (bvs key).size = 32 := by rw [bvs_size]; exact hk
  obtain ⟨p, cap, rfl, hl, hm⟩ := hL.form
  unfold maxLen at hm
  have HT := Lib.hid hT; have HL := Lib.hid hL
  clear hT hL
  by_cases h10 : (8 : Int) < (ls.length : Int)
  · go_enter Tryd.func9, Tryd.ntmps9
    go_wp2_with (first
        | (go_at_call 18
           refine (awake3_any _ (HT.out.below ((Below.refl w.heap.size w).alloc (Nat.le_refl _) _) h0) (by simp)).mono ?_
           rintro e w1 ⟨rfl, hb1⟩
           have HI : Hid (Blk w1 w.heap.size 38 (bvs key) ∧ Below w.heap.size w w1) := Lib.hid ⟨(Blk.new w _ _).below hb1 (by simp), ((Below.refl w.heap.size w).alloc (Nat.le_refl _) _).trans (hb1.mono (by simp))⟩
           have HB1 := Lib.hid HI.out.2
           clear hb1)
        | (refine wpList_load_blk rfl 38 (.tmp 2) rfl w.heap.size 38 (bvs key) rfl HI.out.1 Tryd.underlying38 rfl (by rw [hbz]; kernel_rfl) ?_))
    go_ret
    exact ⟨rfl, HB1.out⟩
  · go_enter Tryd.func9, Tryd.ntmps9
    go_wp2_with (first
        | (go_at_call 18
           refine (awake3_any _ (HT.out.below ((Below.refl w.heap.size w).alloc (Nat.le_refl _) _) h0) (by simp)).mono ?_
           rintro e w1 ⟨rfl, hb1⟩
           have HI : Hid (Blk w1 w.heap.size 38 (bvs key) ∧ Below w.heap.size w w1) := Lib.hid ⟨(Blk.new w _ _).below hb1 (by simp), ((Below.refl w.heap.size w).alloc (Nat.le_refl _) _).trans (hb1.mono (by simp))⟩
           have HB1 := Lib.hid HI.out.2
           clear hb1)
        | (refine wpList_load_blk rfl 38 (.tmp 2) rfl w.heap.size 38 (bvs key) rfl HI.out.1 Tryd.underlying38 rfl (by rw [hbz]; kernel_rfl) ?_))
    have HL1 := Lib.hid (HL.out.keep HB1.out)
    go_loop [6, 7] (fun s i => ∃ (k : Nat) (t : ByteArray), k ≤ ls.length ∧ t.size ≤ 200 * k ∧ s = .string t ∧ i = .int .i64 k ∧ Hid (sb t = (ls.take k).flatten ∧ Short ls 200 k)) (fun _ i => ls.length - (intOf i).toNat)
    case atStart => exact ⟨0, _, by omega, by decide, rfl, rfl, Lib.hid ⟨rfl, fun i l hi => absurd hi (by omega)⟩⟩
    case round =>
      obtain ⟨k, t, hk2, htk, rfl, rfl, hI⟩ := hrel
      by_cases hlt : k < ls.length
      · obtain ⟨b, o, u, rfl, hc, hu⟩ := HL1.out.at_ (List.getElem?_eq_getElem hlt)
        obtain ⟨p2, c2, rfl, hl2, hm2⟩ := hu.form
        unfold maxLen at hm2
        have hcv := hu.str Tryd.underlying24 Tryd.underlying5 Tryd.underlying9
        have HX := Lib.hid (List.getElem?_eq_getElem hlt)
        generalize ls[k] = l at *
        clear hu
        by_cases h300 : (200 : Int) < (l.length : Int)
        · go_wp2_with fail
          go_ret
          exact ⟨rfl, HB1.out⟩
        · have hbz2 : (bs l).size ≤ 200 := by rw [bs_size]; omega
          go_wp2_with fail
          go_round
          case rel => exact ⟨k + 1, _, by omega, by rw [sz_append]; omega, rfl, by go_num, Lib.hid ⟨by rw [sb_append, hI.out.1, flat_take HX.out, sb_bs], hI.out.2.succ HX.out (by omega)⟩⟩
          case measure => simp [intOf]; omega
      · obtain rfl : k = ls.length := by omega
        have hs1 : sb t = ls.flatten := by rw [hI.out.1, List.take_length]
        have hs2 := flat_short ls hI.out.2
        have hs3 : t.size = ls.flatten.length := by rw [← sb_length, hs1]
        have HS := Lib.hid hs1; clear hs1
        go_wp2_with fail
        obtain ⟨m, hm2⟩ : ∃ m, m = macF key ls.flatten := ⟨_, rfl⟩
        have hml : m.length = 32 := by rw [hm2]; exact macF_length _ _
        have HM := Lib.hid hm2
        clear hm2
        obtain ⟨g, hg⟩ : ∃ g, g = w.heap.size := ⟨_, rfl⟩
        have HI0 := Lib.hid (hg ▸ HI.out.1 : Blk w1 g 38 (bvs key))
        rw [← hg]
        have HG := Lib.hid hg
        clear hg
        refine wp_region_as (ys := [.eq (.agg (bvs key)), .eq (.slice p ls.length cap), .eq (.agg (bvs m)), .eq (.agg (bvs key)), .eq (.string t), .eq (.agg (bvs m)), .eq (.bool true), .eq (.bool true)]) (by kernel_rfl) (by kernel_rfl) (by kernel_rfl) (by kernel_rfl) rfl _ (fun f => by simp only [framedL, Act.put, List.setIfInBounds_toArray, List.set_cons_zero, List.set_cons_succ, Nat.reduceAdd]; rfl) ⟨?_, ?_, ?_, ?_, ?_, ?_, ?_, ?_, trivial⟩ ?_
        · exact oweAs_load 38 (.tmp 2) rfl (g) 38 (bvs key) (fun _ => rfl) (HI0.out) Tryd.underlying38 rfl (by rw [bvs_size, hk]; kernel_rfl) rfl rfl
        · refine oweAs_pure ((.slice p ls.length cap)) rfl (fun f W hE hd => ?_) (fun W hE => rfl)
          go_simp
        · refine oweAs_call 19 rfl (fun f W hE hd => ?_)
          simp only [DepAs, Region.binds, asAt, As.holds, and_true, forall_const] at hd
          refine ⟨_, by (go_simp; first | exact rfl | exact ⟨rfl, rfl⟩), ?_⟩
          have hl := HB1.out.size
          have hz := hE.size
          refine (macOf_any key _ ls W hk ((HT.out.below HB1.out h0).below hE (by omega)) (by omega) (by first | exact (HL1.out.keep hE).parts | exact (HL1.out.keep hE).parts.1) (by first | omega | (simp; done) | (simp; omega)) (by first | omega | (simp; done) | (omega))).mono ?_
          rintro e w' ⟨rfl, hb⟩
          exact ⟨_, rfl, by (show (_ : Value) = _; rw [HM.out]), hb⟩
        · exact oweAs_load 38 (.tmp 2) rfl (g) 38 (bvs key) (fun _ => rfl) (HI0.out) Tryd.underlying38 rfl (by rw [bvs_size, hk]; kernel_rfl) rfl rfl
        · refine oweAs_pure ((.string t)) rfl (fun f W hE hd => ?_) (fun W hE => rfl)
          go_simp
        · refine oweAs_call 20 rfl (fun f W hE hd => ?_)
          simp only [DepAs, Region.binds, asAt, As.holds, and_true, forall_const] at hd
          refine ⟨_, by (go_simp; first | exact rfl | exact ⟨rfl, rfl⟩), ?_⟩
          refine (refOf3_any key t W hk (by omega)).mono ?_
          rintro e w' ⟨rfl, hb⟩
          exact ⟨_, rfl, by (show (_ : Value) = _; rw [HS.out, HM.out]), hb⟩
        · refine oweAs_pure ((.bool true)) rfl (fun f W hE hd => ?_) (fun W hE => rfl)
          simp only [DepAs, Region.binds, asAt, As.holds, and_true, forall_const] at hd
          go_simp
        · refine oweAs_pure ((.bool true)) rfl (fun f W hE hd => ?_) (fun W hE => rfl)
          simp only [DepAs, Region.binds, asAt, As.holds, and_true, forall_const] at hd
          go_simp
        intro f W hE hA
        simp only [AllAs, As.holds, Nat.reduceAdd] at hA
        obtain ⟨-, -, -, -, -, -, -, hA7, -⟩ := hA
        go_wp2_with fail
        go_ret
        exact ⟨congrArg Ending.returned hA7, HB1.out.trans (hE.mono HB1.out.size)⟩
end Go.Proofs.YtjgleonbkipidaaDoor
