/-
  Slices of bytes that are known; 'Two'.
-/
import Derived.Test.YtjgleonbkipidaaDoorDg8
import Derived.Test.YtjgleonbkipidaaDoorEq
namespace Go.Proofs.YtjgleonbkipidaaDoor
open Go Go.RowKit

set_option maxHeartbeats 1000000 in
theorem two_any (v1 v2 : Value) (l1 l2 : List UInt8) (w : World) (hT : Tab w) (h0 : 0 < w.heap.size) (h1 : HB w v1 l1) (h2 : HB w v2 l2) (hl1 : l1.length ≤ 1000000) (hl2 : l2.length ≤ 1000000) :
    Calls Tryd.prog 17 #[v1, v2] w fun e w' => e = .returned (.bool (!(l1 == l2) && (sha l1 == sha l2))) ∧ Below w.heap.size w w' := by
  obtain ⟨p1, c1, rfl, _⟩ := id h1
  obtain ⟨p2, c2, rfl, _⟩ := id h2
  have HT := Lib.hid hT
  have H1 := Lib.hid h1; have H2 := Lib.hid h2
  have hbs : ∀ l, (bs l).toList = l := fun l => by rw [Lib.toList_data]; exact sb_bs l
  cases hq : (l1 == l2) with
  | true =>
    clear hT h1 h2
    go_enter Tryd.func17, Tryd.ntmps17
    go_wp2_with (go_at_call 30; refine (Tryd.bytes_Equal_strs _ _ _ _ w (H1.out.str Tryd.underlying24 Tryd.underlying5 Tryd.underlying9) (H2.out.str Tryd.underlying24 Tryd.underlying5 Tryd.underlying9)).mono ?_; rintro e w1 ⟨rfl, rfl⟩; rw [hbs, hbs, hq])
    go_ret
    exact ⟨rfl, Below.refl _ _⟩
  | false =>
    clear hT h1 h2
    go_enter Tryd.func17, Tryd.ntmps17
    have hf1 : [l1].flatten = l1 := by simp
    have hf2 : [l2].flatten = l2 := by simp
    have one : ∀ (W : World) (p : Option Addr) (c : Nat) (l : List UInt8), Tab W → 0 < W.heap.size → HB W (.slice p l.length c) l → l.length ≤ 1000000 →
        Calls Tryd.prog 15 #[.slice (some ⟨W.heap.size, 0, none⟩) 1 1] (W.alloc (.cells #[.slice p l.length c] 24)) fun e w' => e = .returned (.agg (bvs (sha l))) ∧ Below W.heap.size W w' := by
      intro W p c l hTW h0W hW hl
      have hB : Below W.heap.size W (W.alloc (.cells #[.slice p l.length c] 24)) := (Below.refl W.heap.size W).alloc (Nat.le_refl _) _
      have hT2 : Tab (W.alloc (.cells #[.slice p l.length c] 24)) := hTW.below hB h0W
      have hz : (W.alloc (.cells #[.slice p l.length c] 24)).heap.size = W.heap.size + 1 := by simp
      have hP : Parts (W.alloc (.cells #[.slice p l.length c] 24)) (.slice (some ⟨W.heap.size, 0, none⟩) 1 1) [l] := parts_one (hW.keep hB) ((Blk.new W _ _).cell 0) (Nat.le_refl 1)
      have hf : [l].flatten = l := by simp
      have h := of_any _ [l] _ hT2 (by omega) hP (by simp) (by rw [hf]; exact hl)
      rw [hf] at h
      refine h.mono ?_
      rintro e w' ⟨he, hb⟩
      exact ⟨he, hB.trans (hb.mono (by omega))⟩
    go_wp2_with (first
      | (go_at_call 30; refine (Tryd.bytes_Equal_strs _ _ _ _ w (H1.out.str Tryd.underlying24 Tryd.underlying5 Tryd.underlying9) (H2.out.str Tryd.underlying24 Tryd.underlying5 Tryd.underlying9)).mono ?_; rintro e w1 ⟨rfl, rfl⟩; rw [hbs, hbs, hq])
      | (go_at_call 15
         refine (one w2 p2 c2 l2 (HT.out.below hB2 h0) (by have := hB2.size; omega) (H2.out.keep hB2) hl2).mono ?_
         rintro e w3 ⟨rfl, hb3⟩
         have hB3 : Below w1.heap.size w1 w3 := hB2.trans (hb3.mono hB2.size)
         have hsl1 := sha_length l1
         have hsl2 := sha_length l2)
      | (go_at_call 15
         refine (one w1 p1 c1 l1 HT.out h0 H1.out hl1).mono ?_
         rintro e w2 ⟨rfl, hB2⟩))
    go_ret
    refine ⟨?_, hB3⟩
    simp
end Go.Proofs.YtjgleonbkipidaaDoor
