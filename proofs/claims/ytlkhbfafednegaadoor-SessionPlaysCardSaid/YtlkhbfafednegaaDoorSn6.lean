/-
  The walk of awake (19).
-/
import Derived.Test.YtlkhbfafednegaaDoorSn5
namespace Go.Proofs.YtlkhbfafednegaaDoor
open Go Go.RowKit
set_option linter.unusedSimpArgs false
set_option linter.unusedVariables false

def keyOne : List UInt8 := [1, 0, 0, 0, 0, 0, 0, 0, 0, 0, 0, 0, 0, 0, 0, 0, 0, 0, 0, 0, 0, 0, 0, 0, 0, 0, 0, 0, 0, 0, 0, 0]
def keyNil : List UInt8 := [0, 0, 0, 0, 0, 0, 0, 0, 0, 0, 0, 0, 0, 0, 0, 0, 0, 0, 0, 0, 0, 0, 0, 0, 0, 0, 0, 0, 0, 0, 0, 0]
theorem NotIn.own {w : World} {base n : Nat} {v : Value} {xs : List Value} {g : Nat} {t : TypeId} (h : w.ownsRow base t 1 v n xs) (hg : g < base) : NotIn v g := by
  intro p m c e hm
  rcases h.2 with ⟨h1, _⟩ | ⟨b, cap, cur, rfl, hb, _⟩
  · rw [h1] at e; injection e with _ e _; omega
  · injection e with e _ _
    exact ⟨b, 0, e.symm, by omega⟩

set_option maxRecDepth 100000 in
set_option maxHeartbeats 4000000 in
theorem awake19_any (w : World) (hT : Tab w) (h0 : 0 < w.heap.size) :
    Calls Tryd.prog 7 #[] w fun e w' => e = .returned (.bool true) ∧ Below w.heap.size w w' := by
  have HT : Hid (∀ W, Below w.heap.size w W → Tab W ∧ 0 < W.heap.size) := Lib.hid (fun W hb => ⟨hT.below hb h0, by have := hb.size; omega⟩)
  obtain ⟨dk, hdk⟩ : ∃ d, d = frameK keyOne := ⟨_, rfl⟩
  have hdl : dk.length = 32 := by rw [hdk]; exact frameK_length _
  obtain ⟨F, hF⟩ : ∃ F, F = frameG dk 1 0 1 [104, 105] := ⟨_, rfl⟩
  have hFl : F.length = 38 := by
    rw [hF, frameG_length]
    have h : bodyG 1 0 1 [104, 105] = [1, 0, 1, 2, 104, 105] := by
      simp only [bodyG, putW, List.length_cons, List.length_nil]
      rw [putF_lt (by decide), putF_lt (by decide), putF_lt (by decide)]; rfl
    rw [h]; rfl
  have hs0 : seenF 0 0 (UInt64.ofNat 1) = false := by decide +kernel
  obtain ⟨tb, htb⟩ : ∃ tb, tb = withF 0 0 (UInt64.ofNat 1) := ⟨_, rfl⟩
  have hs1 : seenF tb.1 tb.2 (UInt64.ofNat 1) = true := by rw [htb]; decide +kernel
  have h1 : takeG dk 1 0 0 0 F = (0, [104, 105], tb.1, tb.2) := by
    rw [hF, take_frame 1 0 (by decide) (by decide) (by decide) (by decide), if_neg (by simp), if_neg (by rw [hs0]; simp), ← htb]
  have h2 : takeG dk 1 0 tb.1 tb.2 F = (22, [], tb.1, tb.2) := by
    rw [hF, take_frame 1 0 (by decide) (by decide) (by decide) (by decide), if_neg (by simp), if_pos hs1]
  have h3 : takeG dk 0 1 0 0 F = (1, [], 0, 0) := by
    rw [hF, take_frame 0 1 (by decide) (by decide) (by decide) (by decide), if_pos (by simp)]
  have HF := Lib.hid (And.intro h1 (And.intro h2 (And.intro h3 (And.intro hF hdk))))
  have HFL := Lib.hid hFl
  clear hT hs0 hs1 htb h1 h2 h3 hF hdk hFl
  go_enter Tryd.func7, Tryd.ntmps7
  go_wp2_with fail
  refine (sesNew_ok keyOne 0 1 w (HT.out _ (Below.refl _ _)).1 (HT.out _ (Below.refl _ _)).2 rfl (by unfold fineG; decide)).mono ?_
  rintro e w1 ⟨g1, rfl, hs1, hg1, hb1⟩
  rw [← HF.out.2.2.2.2] at hs1
  have HI1 : Hid (Ses w1 g1 dk ((0 : Nat) : Int) ((1 : Nat) : Int) 0 0 0 ∧ Below w.heap.size w w1 ∧ w.heap.size ≤ g1) := Lib.hid ⟨hs1, hb1, hg1⟩
  clear hs1 hg1 hb1
  go_wp2_with fail
  refine (sesNew_ok keyOne 1 0 w1 (HT.out _ HI1.out.2.1).1 (HT.out _ HI1.out.2.1).2 rfl (by unfold fineG; decide)).mono ?_
  rintro e w2 ⟨g2, rfl, hs2, hg2, hb2⟩
  rw [← HF.out.2.2.2.2] at hs2
  have hgg : g1 ≠ g2 := by have := HI1.out.1.lt; omega
  have HI2 : Hid (Ses w2 g1 dk ((0 : Nat) : Int) ((1 : Nat) : Int) 0 0 0 ∧ Ses w2 g2 dk ((1 : Nat) : Int) ((0 : Nat) : Int) 0 0 0 ∧ Below w.heap.size w w2 ∧ w.heap.size ≤ g1 ∧ w.heap.size ≤ g2) := Lib.hid ⟨HI1.out.1.below hb2 HI1.out.1.lt, hs2, HI1.out.2.1.trans (hb2.mono HI1.out.2.1.size), HI1.out.2.2, by have := HI1.out.2.1.size; omega⟩
  have k1 := lit_at Tryd.underlying24 Tryd.underlying5 w2 #[.int .u8 104, .int .u8 105] 2 2 w2.heap.size 2 3 rfl rfl rfl
  clear hs2 hg2 hb2 HI1
  go_wp2_with fail
  obtain ⟨W, hW⟩ : ∃ W, W = w2.alloc (.cells #[.int .u8 104, .int .u8 105] 5 (2, 3)) := ⟨_, rfl⟩
  have HW : Hid (Ses W g1 dk ((0 : Nat) : Int) ((1 : Nat) : Int) 0 0 0 ∧ Ses W g2 dk ((1 : Nat) : Int) ((0 : Nat) : Int) 0 0 0 ∧ Below w.heap.size w W ∧ w.heap.size ≤ g1 ∧ w.heap.size ≤ g2 ∧ HB W (.slice (some ⟨w2.heap.size, 0, none⟩) 2 2) [104, 105] ∧ NotIn (.slice (some ⟨w2.heap.size, 0, none⟩) 2 2) g1) := Lib.hid (by
    have hA : Below w2.heap.size w2 W := by rw [hW]; exact (Below.refl _ _).alloc (Nat.le_refl _) _
    have hl := HI2.out.1.lt
    refine ⟨HI2.out.1.below hA hl, HI2.out.2.1.below hA HI2.out.2.1.lt, HI2.out.2.2.1.trans (hA.mono HI2.out.2.2.1.size), HI2.out.2.2.2.1, HI2.out.2.2.2.2, ?_, ?_⟩
    · rw [hW]; exact HB.new w2 [104, 105] 5 (2, 3) rfl rfl (by decide)
    · intro p m c e _
      injection e with e _ _
      exact ⟨_, _, e.symm, by omega⟩)
  rw [← hW]
  clear hW k1 HI2
  refine (send_any g1 dk 0 1 0 0 0 _ [104, 105] W (HT.out _ HW.out.2.2.1).1 (HT.out _ HW.out.2.2.1).2 (by have := HW.out.2.2.2.1; omega) HW.out.1 hdl HW.out.2.2.2.2.2.1 HW.out.2.2.2.2.2.2 (by decide) (by decide) (by decide) (by decide)).mono ?_
  rintro e w3 ⟨v3, rfl, hs3, ho3, hg3⟩
  rw [show frameG dk (0 + 1) 0 1 [104, 105] = F from HF.out.2.2.2.1.symm, HFL.out] at ho3
  obtain ⟨A3, c3, rfl⟩ := own_form ho3
  have HI3 : Hid (Ses w3 g1 dk ((0 : Nat) : Int) ((1 : Nat) : Int) 1 0 0 ∧ Ses w3 g2 dk ((1 : Nat) : Int) ((0 : Nat) : Int) 0 0 0 ∧ Below w.heap.size w w3 ∧ w.heap.size ≤ g1 ∧ w.heap.size ≤ g2 ∧ w3.ownsRow w.heap.size 5 1 (.slice A3 38 c3) 38 (F.map bcv)) := Lib.hid ⟨hs3, HW.out.2.1.grown hg3 (fun e => by injection e with e; first | exact hgg e | exact hgg e.symm), HW.out.2.2.1.grown hg3 HW.out.2.2.1.size (fun j hj => by injection hj with hj; have := HW.out.2.2.2.1; omega), HW.out.2.2.2.1, HW.out.2.2.2.2.1, own_base ho3 HW.out.2.2.1.size⟩
  clear hs3 ho3 hg3 HW
  go_wp2_with fail
  refine (sesTake_any g2 dk 1 0 0 0 0 _ F w3 (HT.out _ HI3.out.2.2.1).1 (HT.out _ HI3.out.2.2.1).2 HI3.out.2.1 hdl (own_hb HI3.out.2.2.2.2.2 HFL.out.symm) (by rw [HFL.out]; decide) (by decide) (by decide)).mono ?_
  rw [HF.out.1]
  rintro e w4 ⟨v4, rfl, hv4, hs4, hg4⟩
  obtain ⟨A4, c4, rfl⟩ := own_form hv4
  have hv4 := own_base hv4 HI3.out.2.2.1.size
  have HI4 : Hid (Ses w4 g1 dk ((0 : Nat) : Int) ((1 : Nat) : Int) 1 0 0 ∧ Ses w4 g2 dk ((1 : Nat) : Int) ((0 : Nat) : Int) 0 tb.1 tb.2 ∧ Below w.heap.size w w4 ∧ w.heap.size ≤ g1 ∧ w.heap.size ≤ g2 ∧ w4.ownsRow w.heap.size 5 1 (.slice A3 38 c3) 38 (F.map bcv)) := Lib.hid ⟨HI3.out.1.grown hg4 (fun e => by injection e with e; first | exact hgg e | exact hgg e.symm), hs4, HI3.out.2.2.1.grown hg4 HI3.out.2.2.1.size (fun j hj => by injection hj with hj; have := HI3.out.2.2.2.2.1; omega), HI3.out.2.2.2.1, HI3.out.2.2.2.2.1, HI3.out.2.2.2.2.2.kept hg4 (.inr (fun e => own_ne_blk HI3.out.2.2.2.2.2 HI3.out.2.1 (by decide) e.symm))⟩
  have HV4 := Lib.hid hv4
  clear hv4 hs4 hg4 HI3
  simp only [List.length_cons, List.length_nil, Nat.zero_add, Nat.reduceAdd] at HV4
  go_wp2_with fail
  refine (sesTake_any g2 dk 1 0 0 tb.1 tb.2 _ F w4 (HT.out _ HI4.out.2.2.1).1 (HT.out _ HI4.out.2.2.1).2 HI4.out.2.1 hdl (own_hb HI4.out.2.2.2.2.2 HFL.out.symm) (by rw [HFL.out]; decide) (by decide) (by decide)).mono ?_
  rw [HF.out.2.1]
  rintro e w5 ⟨v5, rfl, hv5, hs5, hg5⟩
  have HI5 : Hid (Ses w5 g1 dk ((0 : Nat) : Int) ((1 : Nat) : Int) 1 0 0 ∧ Below w.heap.size w w5 ∧ w.heap.size ≤ g1 ∧ w5.ownsRow w.heap.size 5 1 (.slice A3 38 c3) 38 (F.map bcv) ∧ w5.ownsRow w.heap.size 5 1 (.slice A4 2 c4) 2 (([104, 105] : List UInt8).map bcv)) := Lib.hid ⟨HI4.out.1.grown hg5 (fun e => by injection e with e; first | exact hgg e | exact hgg e.symm), HI4.out.2.2.1.grown hg5 HI4.out.2.2.1.size (fun j hj => by injection hj with hj; have := HI4.out.2.2.2.2.1; omega), HI4.out.2.2.2.1, HI4.out.2.2.2.2.2.kept hg5 (.inr (fun e => own_ne_blk HI4.out.2.2.2.2.2 HI4.out.2.1 (by decide) e.symm)), HV4.out.kept hg5 (.inr (fun e => own_ne_blk HV4.out HI4.out.2.1 (by decide) e.symm))⟩
  clear hv5 hs5 hg5 HI4 HV4
  go_wp2_with fail
  refine (sesTake_any g1 dk 0 1 1 0 0 _ F w5 (HT.out _ HI5.out.2.1).1 (HT.out _ HI5.out.2.1).2 HI5.out.1 hdl (own_hb HI5.out.2.2.2.1 HFL.out.symm) (by rw [HFL.out]; decide) (by decide) (by decide)).mono ?_
  rw [HF.out.2.2.1]
  rintro e w6 ⟨v6, rfl, hv6, hs6, hg6⟩
  have HI6 : Hid (Below w.heap.size w w6 ∧ w6.ownsRow w.heap.size 5 1 (.slice A4 2 c4) 2 (([104, 105] : List UInt8).map bcv)) := Lib.hid ⟨HI5.out.2.1.grown hg6 HI5.out.2.1.size (fun j hj => by injection hj with hj; have := HI5.out.2.2.1; omega), HI5.out.2.2.2.2.kept hg6 (.inr (fun e => own_ne_blk HI5.out.2.2.2.2 HI5.out.1 (by decide) e.symm))⟩
  clear hv6 hs6 hg6 HI5
  go_wp2_with fail
  refine (sesNew_no keyNil 1 1 w6 rfl (by unfold fineG; decide)).mono ?_
  rintro e w7 ⟨rfl, hb7⟩
  have HI7 := Lib.hid (HI6.out.1.trans (hb7.mono HI6.out.1.size))
  have hcv := (own_hb (own_below HI6.out.2 hb7) (n := 2) rfl).str Tryd.underlying24 Tryd.underlying5 Tryd.underlying9
  have hbs : bs [104, 105] = ⟨#[104, 105]⟩ := rfl
  rw [hbs] at hcv
  clear hb7 HI6 hbs
  go_wp2_with fail
  go_ret
  exact ⟨rfl, HI7.out⟩
end Go.Proofs.YtlkhbfafednegaaDoor
