/-
  A reader: bytes of memory of their own, a number.
-/
import Derived.Test.YtlkhbfafednegaaDoorCd1
import Derived.Test.YtlkhbfafednegaaDoorCl
namespace Go.Proofs.YtlkhbfafednegaaDoor
open Go Go.RowKit
set_option linter.unusedSimpArgs false
set_option linter.unusedVariables false

/-- bytes of the call's own lie in a block of bytes -/
theorem own_hbt {w : World} {base n : Nat} {v : Value} {l : List UInt8} (h : w.ownsRow base 5 1 v n (l.map bcv)) (hn : n = l.length) : HBT w v l := by
  refine ⟨own_hb h hn, fun h0 => ?_⟩
  obtain ⟨g, cap, r, rfl, _, _, _, _, hg⟩ := own_bytes h hn (by omega)
  subst hn
  exact ⟨g, 0, cap, _, rfl, hg⟩
theorem takC_le (n : Nat) (s : Rst) : (takC n s).1.length ≤ n := by
  unfold takC
  split
  · split
    · simp
    · rw [List.length_take]; omega
  · simp

set_option maxRecDepth 100000 in
set_option maxHeartbeats 1000000 in
theorem rdFixed_any (g n : Nat) (s : Rst) (w : World) (h : RdS w g s) (hn : n < 140737488351232) :
    Calls Tryd.prog 43 #[.pointer (some ⟨g, 0, none⟩), .int .i64 (n : Int)] w fun e w' => ∃ v', e = .returned v' ∧ w.grownBy w' (some g) ∧ RdS w' g (takC n s).2 ∧ w'.ownsRow w.heap.size 5 1 v' (takC n s).1.length ((takC n s).1.map bcv) := by
  have H := Lib.hid h
  obtain ⟨L, hL⟩ : ∃ L, L = (takC n s).1 := ⟨_, rfl⟩
  obtain ⟨S, hS⟩ : ∃ S, S = (takC n s).2 := ⟨_, rfl⟩
  have hLl : L.length ≤ n := by rw [hL]; exact takC_le n s
  rw [← hL, ← hS]
  have HL := Lib.hid hL
  have HS := Lib.hid hS
  clear h hL hS
  go_enter Tryd.func43, Tryd.ntmps43
  go_wp2_with (first
    | (go_at_call 40
       refine (rdTake_any g n s w H.out (by omega)).mono ?_
       rintro e w1 ⟨v1, rfl, hg1, hr1, hv1, -⟩
       rw [← HS.out] at hr1
       rw [← HL.out] at hv1
       have H1 : Hid (RdS w1 g S ∧ w.grownBy w1 (some g) ∧ HBT w1 v1 L) := Lib.hid ⟨hr1, hg1, hv1⟩
       clear hg1 hr1 hv1 H)
    | (go_at_call 39
       refine (cloneB_any v1 L w1 H1.out.2.2.1 (by omega)).mono ?_
       rintro e w2 ⟨v2, rfl, ho2, hb2⟩
       have H2 : Hid (RdS w2 g S ∧ w.grownBy w2 (some g) ∧ w2.ownsRow w1.heap.size 5 1 v2 L.length (L.map bcv)) := Lib.hid ⟨H1.out.1.keep hb2, Only.below H1.out.2.1 hb2 H1.out.2.1.size, ho2⟩
       have HZ := Lib.hid H1.out.2.1.size
       clear ho2 hb2 H1))
  go_ret
  exact ⟨_, rfl, H2.out.2.1, H2.out.1, own_base H2.out.2.2 HZ.out⟩

set_option maxRecDepth 100000 in
set_option maxHeartbeats 1000000 in
theorem newReader_any (v : Value) (l : List UInt8) (w : World) (h : HB w v l) (hn : l.length < 140737488351232) :
    Calls Tryd.prog 24 #[v] w fun e w' => ∃ g, e = .returned (.pointer (some ⟨g, 0, none⟩)) ∧ w.heap.size ≤ g ∧ Below w.heap.size w w' ∧ RdS w' g (l, 0) := by
  have H := Lib.hid h
  have HN := Lib.hid hn
  clear h hn
  go_enter Tryd.func24, Tryd.ntmps24
  go_wp2_with fail
  refine (cloneB_any v l w H.out (by have := HN.out; omega)).mono ?_
  rintro e w1 ⟨v1, rfl, ho1, hb1⟩
  obtain ⟨A, c, rfl⟩ := own_form ho1
  obtain ⟨n, hnl⟩ : ∃ n, n = l.length := ⟨_, rfl⟩
  rw [← hnl] at ho1 ⊢
  have HL := Lib.hid hnl
  clear hnl
  have H1 : Hid (w1.ownsRow w.heap.size 5 1 (.slice A n c) n (l.map bcv) ∧ Below w.heap.size w w1) := Lib.hid ⟨ho1, hb1⟩
  clear ho1 hb1 H HN
  go_wp2_with fail
  go_ret
  have hB : Below w1.heap.size w1 (w1.alloc (.cells #[.slice A n c, .int .i64 0] 89)) := (Below.refl _ _).alloc (Nat.le_refl _) _
  exact ⟨w1.heap.size, rfl, H1.out.2.size, H1.out.2.trans (hB.mono H1.out.2.size), _, Blk.new _ _ _, (own_hbt H1.out.1 HL.out).keep hB⟩
end Go.Proofs.YtlkhbfafednegaaDoor
