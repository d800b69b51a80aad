/-
  The walk of the law SessionNone.
-/
import Derived.Test.YtlkhbfafednegaaDoorSn6
namespace Go.Proofs.YtlkhbfafednegaaDoor
open Go Go.RowKit
set_option linter.unusedSimpArgs false
set_option linter.unusedVariables false

set_option maxRecDepth 100000 in
set_option maxHeartbeats 1000000 in
theorem sessionNone_any (s o : Int) (v : Value) (b : List UInt8) (w : World) (hT : Tab w) (h0 : 0 < w.heap.size) (hv : HB w v b) :
    Calls Tryd.prog 6 #[.int .i64 s, .int .i64 o, v] w fun e w' => e = .returned (.bool true) ∧ Below w.heap.size w w' := by
  have HT : Hid (∀ W, Below w.heap.size w W → Tab W ∧ 0 < W.heap.size) := Lib.hid (fun W hb => ⟨hT.below hb h0, by have := hb.size; omega⟩)
  obtain ⟨p, c, rfl, hlc, hcm⟩ := hv.form
  have HV := Lib.hid hv
  clear hv hT
  by_cases h100 : (100 : Int) < (b.length : Int)
  · go_enter Tryd.func6, Tryd.ntmps6
    go_wp2_with fail
    refine (awake19_any w (HT.out _ (Below.refl _ _)).1 (HT.out _ (Below.refl _ _)).2).mono ?_
    rintro e w1 ⟨rfl, hb1⟩
    have HB1 := Lib.hid hb1
    clear hb1
    go_wp2_with fail
    go_ret
    exact ⟨rfl, HB1.out⟩
  have hb100 : b.length ≤ 100 := by omega
  by_cases hs0 : s < 0
  · have hf : ¬ fineG s o := by unfold fineG; omega
    have hs1 : ¬ 0 ≤ s := by omega
    go_enter Tryd.func6, Tryd.ntmps6
    go_wp2_with fail
    refine (awake19_any w (HT.out _ (Below.refl _ _)).1 (HT.out _ (Below.refl _ _)).2).mono ?_
    rintro e w1 ⟨rfl, hb1⟩
    have HB1 := Lib.hid hb1
    clear hb1
    go_wp2_with fail
    refine (skip_nil 5 w1).mono ?_
    rintro e w2 ⟨rfl, rfl⟩
    go_wp2_with fail
    refine (send_nil _ w1).mono ?_
    rintro e w2 ⟨rfl, rfl⟩
    go_wp2_with fail
    refine (sesTake_nil _ w1).mono ?_
    rintro e w2 ⟨rfl, rfl⟩
    go_wp2_with fail
    refine (sesNew_no keyNil _ _ w1 rfl hf).mono ?_
    rintro e w3 ⟨rfl, hb3⟩
    have HB3 := Lib.hid (HB1.out.trans (hb3.mono HB1.out.size))
    clear hb3 hf
    go_wp2_with fail
    refine (sent_nil w3).mono ?_
    rintro e w4 ⟨rfl, rfl⟩
    go_wp2_with fail
    go_ret
    exact ⟨rfl, HB3.out⟩
  by_cases hs64 : ¬ s < 64
  · have hf : ¬ fineG s o := by unfold fineG; omega
    have hs1 : 0 ≤ s := by omega
    go_enter Tryd.func6, Tryd.ntmps6
    go_wp2_with fail
    refine (awake19_any w (HT.out _ (Below.refl _ _)).1 (HT.out _ (Below.refl _ _)).2).mono ?_
    rintro e w1 ⟨rfl, hb1⟩
    have HB1 := Lib.hid hb1
    clear hb1
    go_wp2_with fail
    refine (skip_nil 5 w1).mono ?_
    rintro e w2 ⟨rfl, rfl⟩
    go_wp2_with fail
    refine (send_nil _ w1).mono ?_
    rintro e w2 ⟨rfl, rfl⟩
    go_wp2_with fail
    refine (sesTake_nil _ w1).mono ?_
    rintro e w2 ⟨rfl, rfl⟩
    go_wp2_with fail
    refine (sesNew_no keyNil _ _ w1 rfl hf).mono ?_
    rintro e w3 ⟨rfl, hb3⟩
    have HB3 := Lib.hid (HB1.out.trans (hb3.mono HB1.out.size))
    clear hb3 hf
    go_wp2_with fail
    refine (sent_nil w3).mono ?_
    rintro e w4 ⟨rfl, rfl⟩
    go_wp2_with fail
    go_ret
    exact ⟨rfl, HB3.out⟩
  by_cases ho0 : o < 0
  · have hf : ¬ fineG s o := by unfold fineG; omega
    have hs1 : 0 ≤ s := by omega
    have hs2 : s < 64 := by omega
    have ho1 : ¬ 0 ≤ o := by omega
    go_enter Tryd.func6, Tryd.ntmps6
    go_wp2_with fail
    refine (awake19_any w (HT.out _ (Below.refl _ _)).1 (HT.out _ (Below.refl _ _)).2).mono ?_
    rintro e w1 ⟨rfl, hb1⟩
    have HB1 := Lib.hid hb1
    clear hb1
    go_wp2_with fail
    refine (skip_nil 5 w1).mono ?_
    rintro e w2 ⟨rfl, rfl⟩
    go_wp2_with fail
    refine (send_nil _ w1).mono ?_
    rintro e w2 ⟨rfl, rfl⟩
    go_wp2_with fail
    refine (sesTake_nil _ w1).mono ?_
    rintro e w2 ⟨rfl, rfl⟩
    go_wp2_with fail
    refine (sesNew_no keyNil _ _ w1 rfl hf).mono ?_
    rintro e w3 ⟨rfl, hb3⟩
    have HB3 := Lib.hid (HB1.out.trans (hb3.mono HB1.out.size))
    clear hb3 hf
    go_wp2_with fail
    refine (sent_nil w3).mono ?_
    rintro e w4 ⟨rfl, rfl⟩
    go_wp2_with fail
    go_ret
    exact ⟨rfl, HB3.out⟩
  by_cases ho64 : ¬ o < 64
  · have hf : ¬ fineG s o := by unfold fineG; omega
    have hs1 : 0 ≤ s := by omega
    have hs2 : s < 64 := by omega
    have ho1 : 0 ≤ o := by omega
    go_enter Tryd.func6, Tryd.ntmps6
    go_wp2_with fail
    refine (awake19_any w (HT.out _ (Below.refl _ _)).1 (HT.out _ (Below.refl _ _)).2).mono ?_
    rintro e w1 ⟨rfl, hb1⟩
    have HB1 := Lib.hid hb1
    clear hb1
    go_wp2_with fail
    refine (skip_nil 5 w1).mono ?_
    rintro e w2 ⟨rfl, rfl⟩
    go_wp2_with fail
    refine (send_nil _ w1).mono ?_
    rintro e w2 ⟨rfl, rfl⟩
    go_wp2_with fail
    refine (sesTake_nil _ w1).mono ?_
    rintro e w2 ⟨rfl, rfl⟩
    go_wp2_with fail
    refine (sesNew_no keyNil _ _ w1 rfl hf).mono ?_
    rintro e w3 ⟨rfl, hb3⟩
    have HB3 := Lib.hid (HB1.out.trans (hb3.mono HB1.out.size))
    clear hb3 hf
    go_wp2_with fail
    refine (sent_nil w3).mono ?_
    rintro e w4 ⟨rfl, rfl⟩
    go_wp2_with fail
    go_ret
    exact ⟨rfl, HB3.out⟩
  by_cases hso : s = o
  · have hf : ¬ fineG s o := by unfold fineG; omega
    have hs1 : 0 ≤ s := by omega
    have hs2 : s < 64 := by omega
    subst hso
    go_enter Tryd.func6, Tryd.ntmps6
    go_wp2_with fail
    refine (awake19_any w (HT.out _ (Below.refl _ _)).1 (HT.out _ (Below.refl _ _)).2).mono ?_
    rintro e w1 ⟨rfl, hb1⟩
    have HB1 := Lib.hid hb1
    clear hb1
    go_wp2_with fail
    refine (skip_nil 5 w1).mono ?_
    rintro e w2 ⟨rfl, rfl⟩
    go_wp2_with fail
    refine (send_nil _ w1).mono ?_
    rintro e w2 ⟨rfl, rfl⟩
    go_wp2_with fail
    refine (sesTake_nil _ w1).mono ?_
    rintro e w2 ⟨rfl, rfl⟩
    go_wp2_with fail
    refine (sesNew_no keyNil _ _ w1 rfl hf).mono ?_
    rintro e w3 ⟨rfl, hb3⟩
    have HB3 := Lib.hid (HB1.out.trans (hb3.mono HB1.out.size))
    clear hb3 hf
    go_wp2_with fail
    refine (sent_nil w3).mono ?_
    rintro e w4 ⟨rfl, rfl⟩
    go_wp2_with fail
    go_ret
    exact ⟨rfl, HB3.out⟩
  have hf : fineG s o := by unfold fineG; omega
  obtain ⟨S, rfl⟩ : ∃ S : Nat, s = (S : Int) := ⟨s.toNat, by omega⟩
  obtain ⟨O, rfl⟩ : ∃ O : Nat, o = (O : Int) := ⟨o.toNat, by omega⟩
  have hs1 : 0 ≤ (S : Int) := by omega
  have hs2 : (S : Int) < 64 := by omega
  have ho1 : 0 ≤ (O : Int) := by omega
  have ho2 : (O : Int) < 64 := by omega
  have hsn : S < 64 := by omega
  have hon : O < 64 := by omega
  have hneb : ((S : Int) != (O : Int)) = true := bne_iff_ne.2 hso
  obtain ⟨dk, hdk⟩ : ∃ d, d = frameK keyNil := ⟨_, rfl⟩
  have hdl : dk.length = 32 := by rw [hdk]; exact frameK_length _
  have HD := Lib.hid hdk
  clear hdk hs0 ho0 hs64 ho64
  go_enter Tryd.func6, Tryd.ntmps6
  go_wp2_with fail
  refine (awake19_any w (HT.out _ (Below.refl _ _)).1 (HT.out _ (Below.refl _ _)).2).mono ?_
  rintro e w1 ⟨rfl, hb1⟩
  have HB1 := Lib.hid hb1
  clear hb1
  go_wp2_with fail
  refine (skip_nil 5 w1).mono ?_
  rintro e w2 ⟨rfl, rfl⟩
  go_wp2_with fail
  refine (send_nil _ w1).mono ?_
  rintro e w2 ⟨rfl, rfl⟩
  go_wp2_with fail
  refine (sesTake_nil _ w1).mono ?_
  rintro e w2 ⟨rfl, rfl⟩
  go_wp2_with fail
  refine (sesNew_ok keyNil (S : Int) (O : Int) w1 (HT.out _ HB1.out).1 (HT.out _ HB1.out).2 rfl hf).mono ?_
  rintro e w3 ⟨g, rfl, hs3, hg3, hb3⟩
  rw [← HD.out] at hs3
  have HI3 : Hid (Ses w3 g dk (S : Int) (O : Int) 0 0 0 ∧ Below w.heap.size w w3 ∧ w.heap.size ≤ g) := Lib.hid ⟨hs3, HB1.out.trans (hb3.mono HB1.out.size), by have := HB1.out.size; omega⟩
  clear hs3 hg3 hb3 hf
  go_wp2_with fail
  refine (sent_nil w3).mono ?_
  rintro e w4 ⟨rfl, rfl⟩
  go_wp2_with fail
  obtain ⟨M, hM⟩ : ∃ M : Nat, M = 18446744073709551614 := ⟨_, rfl⟩
  have hMi : (18446744073709551614 : Int) = (M : Int) := by rw [hM]; rfl
  have hMx : max 0 M = M := by omega
  have HMM := Lib.hid hM
  rw [hMi]
  refine (skip_any g dk (S : Int) (O : Int) 0 M 0 0 w3 HI3.out.1 hdl).mono ?_
  rintro e w4 ⟨rfl, hs4, hg4⟩
  rw [hMx] at hs4
  have HI4 : Hid (Ses w4 g dk (S : Int) (O : Int) M 0 0 ∧ Below w.heap.size w w4 ∧ w.heap.size ≤ g) := Lib.hid ⟨hs4, HI3.out.2.1.grown hg4 HI3.out.2.1.size (fun j hj => by injection hj with hj; have := HI3.out.2.2; omega), HI3.out.2.2⟩
  clear hM hMi hMx hs4 hg4 HI3
  have hni : ∀ W : World, Below w.heap.size w W → NotIn (.slice p b.length c) g ∨ True := fun _ _ => .inr trivial
  clear hni
  have HNI : Hid (NotIn (.slice p b.length c) g) := Lib.hid (by
    intro p' n' c' e h
    injection e with e1 e2 e3
    subst e1; subst e2
    obtain ⟨b2, o2, rfl, h2⟩ := HV.out.at_ (at8_get (l := b) (i := 0) h)
    have h3 := lt_of_cell h2
    exact ⟨b2, o2, rfl, by have := HI4.out.2.2; omega⟩)
  go_wp2_with fail
  refine (send_any g dk S O M 0 0 _ b w4 (HT.out _ HI4.out.2.1).1 (HT.out _ HI4.out.2.1).2 (by have := HI4.out.2.2; omega) HI4.out.1 hdl (HV.out.keep HI4.out.2.1) HNI.out (by omega) hsn hon (by rw [HMM.out]; decide)).mono ?_
  rintro e w5 ⟨v5, rfl, hs5, ho5, hg5⟩
  have HI5 : Hid (Ses w5 g dk (S : Int) (O : Int) (M + 1) 0 0 ∧ Below w.heap.size w w5) := Lib.hid ⟨hs5, HI4.out.2.1.grown hg5 HI4.out.2.1.size (fun j hj => by injection hj with hj; have := HI4.out.2.2; omega)⟩
  clear hs5 ho5 hg5 HI4
  go_wp2_with fail
  refine (send_worn g dk (S : Int) (O : Int) (M + 1) 0 0 _ b w5 HI5.out.1 hdl (HV.out.keep HI5.out.2) (by omega) (by rw [HMM.out])).mono ?_
  rintro e w6 ⟨rfl, rfl⟩
  go_wp2_with fail
  refine (sent_any g dk (S : Int) (O : Int) (M + 1) 0 0 w5 HI5.out.1 hdl).mono ?_
  rintro e w7 ⟨rfl, rfl⟩
  rw [show (((M + 1 : Nat)) : Int) = 18446744073709551615 by rw [HMM.out]; rfl]
  go_wp2_with fail
  go_ret
  exact ⟨rfl, HI5.out.2⟩
end Go.Proofs.YtlkhbfafednegaaDoor
