/-
  The document's frame, and how its side sends.
-/
import Derived.Test.YtlkhbfafednegaaDoorSr1
import Derived.Test.YtlkhbfafednegaaDoorWi
namespace Go.Proofs.YtlkhbfafednegaaDoor
open Go Go.RowKit
set_option linter.unusedSimpArgs false
set_option linter.unusedVariables false

set_option maxRecDepth 100000 in
set_option maxHeartbeats 1000000 in
theorem refFrame_any (key : List UInt8) (n f t : Nat) (l : List UInt8) (w : World) (hk : key.length = 32) (hn : n < 18446744073709551616) (hf : f < 18446744073709551616) (ht : t < 18446744073709551616) (hl : l.length ≤ 900000) :
    Calls Tryd.prog 15 #[.agg (bvs key), .int .u64 (n : Int), .int .u64 (f : Int), .int .u64 (t : Int), .string (bs l)] w fun e w' => e = .returned (.string (bs (frameG (frameK key) n f t l))) ∧ Below w.heap.size w w' := by
  obtain ⟨dk, hdk⟩ : ∃ d, d = frameK key := ⟨_, rfl⟩
  have hdl : dk.length = 32 := by rw [hdk]; exact frameK_length _
  rw [← hdk]
  have HD := Lib.hid hdk
  have hkz : (bvs key).size = 32 := by rw [bvs_size]; exact hk
  obtain ⟨X, hX⟩ : ∃ X, X = bodyG n f t l := ⟨_, rfl⟩
  have hXl : X.length ≤ 900040 := by rw [hX]; have := bodyG_length (n := n) (from_ := f) (to := t) (b := l) hn hf ht (by omega); omega
  obtain ⟨m, hm⟩ : ∃ m, m = macF dk X := ⟨_, rfl⟩
  have hml : m.length = 32 := by rw [hm]; exact macF_length _ _
  have hmz : (bvs m).size = 32 := by rw [bvs_size]; exact hml
  have HFR : Hid (frameG dk n f t l = X ++ m) := Lib.hid (by rw [hm, hX]; rfl)
  obtain ⟨P1, hP1⟩ : ∃ P, P = putF n := ⟨_, rfl⟩
  obtain ⟨P2, hP2⟩ : ∃ P, P = putF f := ⟨_, rfl⟩
  obtain ⟨P3, hP3⟩ : ∃ P, P = putF t := ⟨_, rfl⟩
  obtain ⟨P4, hP4⟩ : ∃ P, P = putW l := ⟨_, rfl⟩
  obtain ⟨P12, hP12⟩ : ∃ P, P = P1 ++ P2 := ⟨_, rfl⟩
  obtain ⟨P123, hP123⟩ : ∃ P, P = P12 ++ P3 := ⟨_, rfl⟩
  have h1l : P1.length ≤ 10 := by rw [hP1]; exact putF_length10 hn
  have h2l : P2.length ≤ 10 := by rw [hP2]; exact putF_length10 hf
  have h3l : P3.length ≤ 10 := by rw [hP3]; exact putF_length10 ht
  have h4l : P4.length ≤ l.length + 10 := by rw [hP4, putW, List.length_append]; have := putF_length10 (n := l.length) (by omega); omega
  have s1 : (bs P1).size ≤ 10 := by rw [bs_size]; exact h1l
  have s2 : (bs P2).size ≤ 10 := by rw [bs_size]; exact h2l
  have s3 : (bs P3).size ≤ 10 := by rw [bs_size]; exact h3l
  have s4 : (bs P4).size ≤ 900010 := by rw [bs_size]; omega
  have s12 : (bs P12).size ≤ 20 := by rw [bs_size, hP12, List.length_append]; omega
  have s123 : (bs P123).size ≤ 30 := by rw [bs_size, hP123, hP12, List.length_append, List.length_append]; omega
  have sX : (bs X).size ≤ 900040 := by rw [bs_size]; exact hXl
  have sm : (bs m).size ≤ 32 := by rw [bs_size, hml]; exact Nat.le_refl _
  have a12 : bs P1 ++ bs P2 = bs P12 := by rw [hP12]; exact bs_append _ _
  have a123 : bs P12 ++ bs P3 = bs P123 := by rw [hP123]; exact bs_append _ _
  have a1234 : bs P123 ++ bs P4 = bs X := by rw [bs_append, hX, hP123, hP12, hP1, hP2, hP3, hP4]; rfl
  obtain ⟨R, hR⟩ : ∃ R, R = X ++ m := ⟨_, rfl⟩
  have aXm : bs X ++ bs m = bs R := by rw [hR]; exact bs_append _ _
  have HPS := Lib.hid (And.intro hP1 (And.intro hP2 (And.intro hP3 (And.intro hP4 hR))))
  have HX := Lib.hid hX
  have HM := Lib.hid hm
  have hA : Below w.heap.size w (w.alloc (.cells (bvs key) 23)) := (Below.refl _ _).alloc (Nat.le_refl _) _
  have HA := Lib.hid (And.intro (Blk.new w 23 (bvs key)) hA)
  clear hX hm hdk h1l h2l h3l h4l hA hP1 hP2 hP3 hP4 hP12 hP123 hR
  go_enter Tryd.func15, Tryd.ntmps15
  go_wp2_with fail
  refine (refPut_any n _ hn).mono ?_
  rintro e w1 ⟨rfl, hb1⟩
  rw [← HPS.out.1]
  have HI1 : Hid (Blk w1 w.heap.size 23 (bvs key) ∧ Below w.heap.size w w1) := Lib.hid ⟨HA.out.1.below hb1 HA.out.1.lt, HA.out.2.trans (hb1.mono HA.out.2.size)⟩
  clear hb1 HA
  go_wp2_with fail
  refine (refPut_any f w1 hf).mono ?_
  rintro e w2 ⟨rfl, hb2⟩
  rw [← HPS.out.2.1]
  have HI2 : Hid (Blk w2 w.heap.size 23 (bvs key) ∧ Below w.heap.size w w2) := Lib.hid ⟨HI1.out.1.below hb2 HI1.out.1.lt, HI1.out.2.trans (hb2.mono HI1.out.2.size)⟩
  clear hb2 HI1
  go_wp2_with fail
  refine (refPut_any t w2 ht).mono ?_
  rintro e w3 ⟨rfl, hb3⟩
  rw [← HPS.out.2.2.1]
  have HI3 : Hid (Blk w3 w.heap.size 23 (bvs key) ∧ Below w.heap.size w w3) := Lib.hid ⟨HI2.out.1.below hb3 HI2.out.1.lt, HI2.out.2.trans (hb3.mono HI2.out.2.size)⟩
  clear hb3 HI2
  go_wp2_with fail
  refine (refWith_any l w3 (by omega)).mono ?_
  rintro e w4 ⟨rfl, hb4⟩
  rw [← HPS.out.2.2.2.1]
  have HI4 : Hid (Blk w4 w.heap.size 23 (bvs key) ∧ Below w.heap.size w w4) := Lib.hid ⟨HI3.out.1.below hb4 HI3.out.1.lt, HI3.out.2.trans (hb4.mono HI3.out.2.size)⟩
  clear hb4 HI3
  go_wp2_with (refine wpList_load_blk rfl 23 (.tmp 5) rfl w.heap.size 23 (bvs key) rfl HI4.out.1 Tryd.underlying23 rfl (by rw [hkz]; kernel_rfl) ?_)
  refine (refDer_any key ⟨#[102, 114, 97, 109, 101]⟩ 0 w4 hk (by decide) (by decide)).mono ?_
  rintro e w5 ⟨rfl, hb5⟩
  rw [show derF key (sb ⟨#[102, 114, 97, 109, 101]⟩) 0 = dk from HD.out.symm]
  have HI5 := Lib.hid (HI4.out.2.trans (hb5.mono HI4.out.2.size))
  clear hb5 HI4
  go_wp2_with fail
  refine (refOf3_any dk (bs X) w5 hdl (by omega)).mono ?_
  rintro e w6 ⟨rfl, hb6⟩
  rw [sb_bs, ← HM.out]
  have HI6 := Lib.hid (HI5.out.trans (hb6.mono HI5.out.size))
  clear hb6 HI5
  go_wp2_with (
    (refine wpList_store_blk rfl 66 (.tmp 12) (.tmp 27) rfl w6.heap.size 66 _ (bvs m) rfl rfl (Blk.new _ _ _) (by rw [hmz]; rfl) (by rw [hmz]; kernel_rfl) (bvs_one _) ?_
     intro w7 hb7 hg7 hz7
     have hBV : Below w6.heap.size w6 w7 := ((Below.refl w6.heap.size w6).alloc (Nat.le_refl _) _).grown hg7 (by simp) (by intro k hk; injection hk with hk; omega)
     have HI7 : Hid (Below w.heap.size w w7) := Lib.hid (HI6.out.trans (hBV.mono HI6.out.size))
     have hcv := (HB.blk hb7 hml (by decide)).str Tryd.underlying24 Tryd.underlying5 Tryd.underlying9
     clear hb7 hg7 hz7 hBV HI6))
  go_ret
  rw [HFR.out, ← HPS.out.2.2.2.2]
  exact ⟨rfl, HI7.out⟩

/-- what is told when a side sends: an error's number, the frame, how many were sent -/
def sendG (dk : List UInt8) (n s o : Nat) (l : List UInt8) : Nat × List UInt8 × Nat := if n = 18446744073709551615 then (38, [], n) else (0, frameG dk (n + 1) s o l, n + 1)
set_option maxRecDepth 100000 in
theorem sendB_any (g : Nat) (k : List UInt8) (s o n : Nat) (t b : UInt64) (v : Value) (l : List UInt8) (w : World) (hT : Tab w) (h0 : 0 < w.heap.size) (hg0 : 0 ≠ g) (hS : Ses w g k (s : Int) (o : Int) n t b) (hk : k.length = 32) (hv : HB w v l) (hvg : NotIn v g) (hl : l.length ≤ 900000) (hs : s < 64) (ho : o < 64) (hn : n < 18446744073709551616) :
    Calls Tryd.prog 9 #[.pointer (some ⟨g, 0, none⟩), v] w fun e w' => ∃ v', e = .returned (.tuple #[v', .int .i64 ((sendG k n s o l).1 : Int)]) ∧ Ses w' g k (s : Int) (o : Int) (sendG k n s o l).2.2 t b ∧ w'.ownsRow w.heap.size 5 1 v' (sendG k n s o l).2.1.length ((sendG k n s o l).2.1.map bcv) ∧ w.grownBy w' (some g) := by
  unfold sendG
  by_cases h : n = 18446744073709551615
  · rw [if_pos h]
    refine (send_worn g k (s : Int) (o : Int) n t b v l w hS hk hv hl h).mono ?_
    rintro e w' ⟨rfl, rfl⟩
    exact ⟨_, rfl, hS, World.ownsRow_nil _ _ _ _, World.grownBy.refl _ _⟩
  · rw [if_neg h]
    refine (send_any g k s o n t b v l w hT h0 hg0 hS hk hv hvg hl hs ho (by omega)).mono ?_
    rintro e w' ⟨v', rfl, h1, h2, h3⟩
    exact ⟨v', rfl, h1, h2, h3⟩
end Go.Proofs.YtlkhbfafednegaaDoor
