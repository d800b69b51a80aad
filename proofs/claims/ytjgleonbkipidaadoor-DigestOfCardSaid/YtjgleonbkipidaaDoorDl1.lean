/-
  The walk of the law DigestOf.
-/
import Derived.Test.YtjgleonbkipidaaDoorDg10
import Derived.Test.YtjgleonbkipidaaDoorBt2
namespace Go.Proofs.YtjgleonbkipidaaDoor
open Go Go.RowKit

set_option maxRecDepth 100000 in
set_option maxHeartbeats 1000000 in
theorem digestOf_any (v : Value) (ls : List (List UInt8)) (w : World) (hT : Tab w) (h0 : 0 < w.heap.size) (hL : HBs w v ls) :
    Calls Tryd.prog 3 #[v] w fun e w' => e = .returned (.bool true) ∧ Below w.heap.size w w' := by
  obtain ⟨p, cap, rfl, hl, hm⟩ := hL.form
  unfold maxLen at hm
  have HT := Lib.hid hT; have HL := Lib.hid hL
  clear hT hL
  by_cases h10 : (10 : Int) < (ls.length : Int)
  · go_enter Tryd.func3, Tryd.ntmps3
    go_wp2_with (go_at_call 14; refine (awake2_any _ HT.out h0).mono ?_; rintro e w1 ⟨rfl, hb1⟩; have HB1 := Lib.hid hb1; clear hb1)
    go_ret
    exact ⟨rfl, HB1.out⟩
  · go_enter Tryd.func3, Tryd.ntmps3
    go_wp2_with (go_at_call 14; refine (awake2_any _ HT.out h0).mono ?_; rintro e w1 ⟨rfl, hb1⟩; have HB1 := Lib.hid hb1; clear hb1)
    have HL1 := Lib.hid (HL.out.keep HB1.out)
    go_loop [4, 5] (fun s i => ∃ (k : Nat) (t : ByteArray), k ≤ ls.length ∧ t.size ≤ 300 * k ∧ s = .string t ∧ i = .int .i64 k ∧ Hid (sb t = (ls.take k).flatten ∧ Short ls 300 k)) (fun _ i => ls.length - (intOf i).toNat)
    case atStart => exact ⟨0, _, by omega, by decide, rfl, rfl, Lib.hid ⟨rfl, fun i l hi => absurd hi (by omega)⟩⟩
    case round =>
      obtain ⟨k, t, hk, htk, rfl, rfl, hI⟩ := hrel
      by_cases hlt : k < ls.length
      · obtain ⟨b, o, u, rfl, hc, hu⟩ := HL1.out.at_ (List.getElem?_eq_getElem hlt)
        obtain ⟨p2, c2, rfl, hl2, hm2⟩ := hu.form
        unfold maxLen at hm2
        have hcv := hu.str Tryd.underlying24 Tryd.underlying5 Tryd.underlying9
        have HX := Lib.hid (List.getElem?_eq_getElem hlt)
        generalize ls[k] = l at *
        clear hu
        by_cases h300 : (300 : Int) < (l.length : Int)
        · go_wp2_with fail
          go_ret
          exact ⟨rfl, HB1.out⟩
        · have hbz : (bs l).size ≤ 300 := by rw [bs_size]; omega
          go_wp2_with fail
          go_round
          case rel => exact ⟨k + 1, _, by omega, by rw [sz_append]; omega, rfl, by go_num, Lib.hid ⟨by rw [sb_append, hI.out.1, flat_take HX.out, sb_bs], hI.out.2.succ HX.out (by omega)⟩⟩
          case measure => simp [intOf]; omega
      · obtain rfl : k = ls.length := by omega
        have hs1 : sb t = ls.flatten := by rw [hI.out.1, List.take_length]
        have hs2 := flat_short ls hI.out.2
        have hs3 : t.size = ls.flatten.length := by rw [← sb_length, hs1]
        have HS := Lib.hid hs1; clear hs1
        have hE := sha_length ls.flatten
        go_wp2_with (first
          | (go_at_call 15
             refine (of_any _ ls _ (HT.out.below HB1.out h0) (by have := HB1.out.size; omega) HL1.out.parts (by omega) (by omega)).mono ?_
             rintro e w2 ⟨rfl, hb2⟩
             have HB2 := Lib.hid (HB1.out.trans (hb2.mono HB1.out.size)); clear hb2)
          | (go_at_call 16
             refine (ref_any t _ (by omega)).mono ?_
             rintro e w3 ⟨rfl, hb3⟩
             rw [HS.out]
             have HB3 := Lib.hid (HB2.out.trans (hb3.mono HB2.out.size)); clear hb3))
        go_ret
        exact ⟨by simp, HB3.out⟩
end Go.Proofs.YtjgleonbkipidaaDoor
