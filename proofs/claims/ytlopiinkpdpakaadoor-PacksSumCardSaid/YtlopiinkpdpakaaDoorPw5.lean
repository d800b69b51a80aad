/-
  The walk of the law PacksSum.
-/
import Derived.Test.YtlopiinkpdpakaaDoorPw4
import Derived.Test.YtlopiinkpdpakaaDoorPkQ
namespace Go.Proofs.YtlopiinkpdpakaaDoor
open Go Go.RowKit
set_option linter.unusedSimpArgs false
set_option linter.unusedVariables false

theorem str_new1 (w : World) (l : List UInt8) : StrR (w.alloc (.cells #[.string (bs l)] 9)) w.heap.size (.slice (some ⟨w.heap.size, 0, none⟩) 1 1) 1 [l] := by
  refine ⟨rfl, .inr ⟨w.heap.size, 1, #[.string (bs l)], rfl, Nat.le_refl _, Blk.new w _ _, Nat.le_refl _, by simp [maxLen], rfl, rfl⟩⟩

set_option maxRecDepth 100000 in
set_option maxHeartbeats 4000000 in
theorem packsSum_any (v : Value) (b : List UInt8) (x : UInt8) (w : World) (hT : Tab w) (h0 : 0 < w.heap.size) (h : HB w v b) :
    Calls Tryd.prog 4 #[v, .int .u8 (x.toNat : Int)] w fun e w' => e = .returned (.bool true) ∧ Below w.heap.size w w' := by
  obtain ⟨i8, hi8, hz8, hsz8, hby8⟩ := info8
  have HI8 := Lib.hid hi8; clear hi8
  have HT : Hid (∀ W, Below w.heap.size w W → Tab W ∧ 0 < W.heap.size) := Lib.hid (fun W hb => ⟨hT.below hb h0, by have := hb.size; omega⟩)
  obtain ⟨p, cap, rfl, hlc, hcm⟩ := h.form
  have H := Lib.hid h
  unfold maxLen at hcm
  clear h hT
  by_cases h300 : (300 : Int) < (b.length : Int)
  · go_enter Tryd.func4, Tryd.ntmps4
    go_wp2_with fail
    refine (awake13_any w).mono ?_
    rintro e w1 ⟨rfl, hb1⟩
    have HB1 := Lib.hid hb1
    clear hb1
    go_wp2_with fail
    go_ret
    exact ⟨rfl, HB1.out⟩
  have hb300 : b.length ≤ 300 := by omega
  obtain ⟨P, hP⟩ : ∃ P, P = (putP [b]).1 := ⟨_, rfl⟩
  obtain ⟨E, hE⟩ : ∃ E, E = (putP [b]).2 := ⟨_, rfl⟩
  have HPP : Hid (putP [b] = (P, E)) := Lib.hid (by rw [hP, hE])
  clear hP hE
  go_enter Tryd.func4, Tryd.ntmps4
  go_wp2_with fail
  refine (awake13_any w).mono ?_
  rintro e w1 ⟨rfl, hb1⟩
  have HB1 := Lib.hid (And.intro hb1 (H.out.keep hb1))
  clear hb1
  go_wp2_with fail
  have hA1 : Below w1.heap.size w1 (w1.alloc (.cells #[.slice p b.length cap] 24)) := (Below.refl _ _).alloc (Nat.le_refl _) _
  refine (put_any _ [b] _ (hbs_new1 HB1.out.2 _)).mono ?_
  rintro e w2 ⟨v2, rfl, ho2, hb2⟩
  rw [HPP.out] at ho2 ⊢
  obtain ⟨A2, c2, rfl⟩ := own_form ho2
  have hB2 : Below w1.heap.size w1 w2 := hA1.trans (hb2.mono (by simp))
  have HI2 : Hid (Below w.heap.size w w2 ∧ HB w2 (.slice p b.length cap) b ∧ HB w2 (.slice A2 P.length c2) P) := Lib.hid ⟨HB1.out.1.trans (hB2.mono HB1.out.1.size), HB1.out.2.keep hB2, own_hb ho2 rfl⟩
  have hcv := HI2.out.2.1.str Tryd.underlying24 Tryd.underlying5 Tryd.underlying9
  clear ho2 hb2 hA1 hB2 HB1
  go_wp2_with fail
  have hA3 : Below w2.heap.size w2 (w2.alloc (.cells #[.string (bs b)] 9)) := (Below.refl _ _).alloc (Nat.le_refl _) _
  refine (refPut13_any _ _ 1 [b] _ (str_new1 w2 b) (by omega) (fun l hl => by simp at hl; subst hl; omega)).mono ?_
  rw [HPP.out]
  rintro e w3 ⟨rfl, hb3⟩
  have hB3 : Below w2.heap.size w2 w3 := hA3.trans (hb3.mono (by simp))
  have HI3 : Hid (Below w.heap.size w w3 ∧ HB w3 (.slice A2 P.length c2) P) := Lib.hid ⟨HI2.out.1.trans (hB3.mono HI2.out.1.size), HI2.out.2.2.keep hB3⟩
  have hcv3 := HI3.out.2.str Tryd.underlying24 Tryd.underlying5 Tryd.underlying9
  clear hb3 hA3 hB3 hcv HI2
  by_cases h41 : b.length < 41
  · have hpe := HPP.out.symm.trans (put_small h41)
    injection hpe with hp he
    subst hp
    subst he
    have h41i : (b.length : Int) < 41 := by omega
    rw [show ((1 : Nat) : Int) = 1 from rfl]
    simp only [List.length_nil] at hcv3 ⊢
    go_wp2_with fail
    go_ret
    exact ⟨rfl, HI3.out.1⟩
  · have hpe := HPP.out.symm.trans (put_one (by omega) hb300)
    injection hpe with hp he
    subst he
    have hpl := pack_one_length hb300
    have hGS := get_short (b := b) (by omega) hb300
    have hGL := get_left (b := b) x (by omega) hb300
    rw [← hp] at hpl hGS hGL
    have HGS := Lib.hid hGS
    have HGL := Lib.hid hGL
    obtain ⟨m, hm⟩ : ∃ m, P.length = m + 1 := ⟨P.length - 1, by omega⟩
    have hm400 : m ≤ 400 := by omega
    have HMM := Lib.hid hm
    have hPm : (P.take m).length = m := by rw [List.length_take]; omega
    rw [hm, Nat.add_sub_cancel] at HGS
    have HIS : Hid (HB w3 (.slice A2 (m + 1) c2) P) := Lib.hid (by rw [← hm]; exact HI3.out.2)
    have hmc : m + 1 ≤ c2 := by
      obtain ⟨_, _, e, h1, _⟩ := HI3.out.2.form
      injection e with _ _ e
      omega
    rw [hm] at hcv3 ⊢
    have HPM := Lib.hid hPm
    have hmi : ((m + 1 : Nat) : Int) - 1 = (m : Int) := by omega
    have hmc2 : (m : Int) ≤ (c2 : Int) := by omega
    have hm0 : ¬ (m : Int) < 0 := by omega
    clear hp hpl hGS hGL hm hPm
    rw [show ((0 : Nat) : Int) = 0 from rfl]
    go_wp2_with fail
    refine (get_any _ (P.take m) w3 (HI3.out.2.take (by have := HMM.out; omega)) (by rw [HPM.out]; omega)).mono ?_
    rintro e w4 ⟨v4, rfl, hr4, hb4⟩
    rw [HGS.out]
    have HI4 : Hid (Below w.heap.size w w4 ∧ HB w4 (.slice A2 (m + 1) c2) P) := Lib.hid ⟨HI3.out.1.trans (hb4.mono HI3.out.1.size), HIS.out.keep hb4⟩
    have hz4 := HI4.out.1.size
    clear hr4 hb4 hcv3 HI3 HIS HGS
    go_wp2_with (first
      | (at_builtin
         refine wpList_append_hb rfl (.tmp 57) (.tmp 58) 24 rfl w.heap.size 5 i8 Tryd.underlying24 HI8.out hz8 hsz8 hby8 (.slice none 0 0) (.slice A2 (m + 1) c2) [] P 0 rfl (World.ownsRow_nil _ _ _ _) rfl HI4.out.2 (by rw [HMM.out]; omega) hz4 ?_
         intro v5 w5 ho5 hg5
         rw [Nat.zero_add, List.nil_append, HMM.out] at ho5
         have hB5 : Below w4.heap.size w4 w5 := (Below.refl _ _).grown hg5 (Nat.le_refl _) (by intro k hk; cases hk)
         obtain ⟨A5, c5, rfl⟩ := own_form ho5
         have HI5 : Hid (Below w.heap.size w w5 ∧ w5.ownsRow w.heap.size 5 1 (.slice A5 (m + 1) c5) (m + 1) (P.map bcv)) := Lib.hid ⟨HI4.out.1.trans (hB5.mono hz4), ho5⟩
         have hz5 := HI5.out.1.size
         clear ho5 hg5 hB5 HI4)
      | (at_builtin
         refine wpList_append_hb rfl (.tmp 60) (.tmp 62) 24 rfl w.heap.size 5 i8 Tryd.underlying24 HI8.out hz8 hsz8 hby8 (.slice A5 (m + 1) c5) (.slice (some ⟨w5.heap.size, 0, none⟩) 1 1) P [x] (m + 1) rfl (HI5.out.2.alloc _) rfl (hb_new1 w5 5 x) (by simp; omega) (by simp; omega) ?_
         intro v6 w6 ho6 hg6
         have hB6 : Below w.heap.size w w6 := (HI5.out.1.alloc hz5 _).grown hg6 (by simp; omega) (fun j hj => own_ge HI5.out.2 j hj)
         simp only [List.length_cons, List.length_nil, Nat.zero_add] at ho6
         obtain ⟨A6, c6, rfl⟩ := own_form ho6
         have HI6 : Hid (Below w.heap.size w w6 ∧ HB w6 (.slice A6 (m + 1 + 1) c6) (P ++ [x])) := Lib.hid ⟨hB6, own_hb ho6 (by rw [List.length_append, HMM.out]; rfl)⟩
         clear ho6 hg6 hB6 HI5))
    refine (get_any _ (P ++ [x]) w6 HI6.out.2 (by rw [List.length_append, HMM.out]; simp; omega)).mono ?_
    rintro e w7 ⟨v7, rfl, hr7, hb7⟩
    rw [HGL.out]
    have HI7 : Hid (Below w.heap.size w w7 ∧ HB w7 (.slice A6 (m + 1 + 1) c6) (P ++ [x])) := Lib.hid ⟨HI6.out.1.trans (hb7.mono HI6.out.1.size), HI6.out.2.keep hb7⟩
    clear hr7 hb7 HI6
    obtain ⟨M, hM⟩ : ∃ M, M = P ++ [x] := ⟨_, rfl⟩
    rw [← hM] at HI7
    have HML : Hid (M.length ≤ 1000) := Lib.hid (by rw [hM, List.length_append, HMM.out]; simp; omega)
    have HM7 := Lib.hid HI7.out.2
    obtain ⟨r, hr⟩ : ∃ r, r = rootF M := ⟨_, rfl⟩
    have hrl : r.length = 32 := by rw [hr]; exact rootF_length _
    have HRR := Lib.hid hr
    clear hr hM
    go_upto_region 17 with (fail)
    refine wp_region_as (ys := [.eq (.int .i64 10), .eq (.bool true), .eq (.bool true), .eq (.int .i64 12), .eq (.bool true), .eq (.bool true), .eq (.bool true), .eq (.slice A6 (m + 1 + 1) c6), .eq (.agg (bvs r)), .eq (.slice A6 (m + 1 + 1) c6), .eq (.string (bs M)), .eq (.agg (bvs r)), .eq (.bool true), .eq (.bool true), .eq (.bool true)]) (by kernel_rfl) (by kernel_rfl) (by kernel_rfl) (by kernel_rfl) rfl _ (fun f => by simp only [framedL, Act.put, List.setIfInBounds_toArray, List.set_cons_zero, List.set_cons_succ, Nat.reduceAdd]; rfl) ⟨?_, ?_, ?_, ?_, ?_, ?_, ?_, ?_, ?_, ?_, ?_, ?_, ?_, ?_, ?_, trivial⟩ ?_
    · refine oweAs_pure ((.int .i64 10)) rfl (fun f W hE hd => ?_) (fun W hE => rfl)
      go_simp
    · refine oweAs_pure ((.bool true)) rfl (fun f W hE hd => ?_) (fun W hE => rfl)
      simp only [DepAs, Region.binds, asAt, As.holds, and_true, forall_const] at hd
      go_simp
    · refine oweAs_pure ((.bool true)) rfl (fun f W hE hd => ?_) (fun W hE => rfl)
      simp only [DepAs, Region.binds, asAt, As.holds, and_true, forall_const] at hd
      go_simp
    · refine oweAs_pure ((.int .i64 12)) rfl (fun f W hE hd => ?_) (fun W hE => rfl)
      go_simp
    · refine oweAs_pure ((.bool true)) rfl (fun f W hE hd => ?_) (fun W hE => rfl)
      simp only [DepAs, Region.binds, asAt, As.holds, and_true, forall_const] at hd
      go_simp
    · refine oweAs_pure ((.bool true)) rfl (fun f W hE hd => ?_) (fun W hE => rfl)
      simp only [DepAs, Region.binds, asAt, As.holds, and_true, forall_const] at hd
      go_simp
    · refine oweAs_pure ((.bool true)) rfl (fun f W hE hd => ?_) (fun W hE => rfl)
      simp only [DepAs, Region.binds, asAt, As.holds, and_true, forall_const] at hd
      go_simp
    · refine oweAs_pure ((.slice A6 (m + 1 + 1) c6)) rfl (fun f W hE hd => ?_) (fun W hE => rfl)
      go_simp
    · refine oweAs_call 11 rfl (fun f W hE hd => ?_)
      simp only [DepAs, Region.binds, asAt, As.holds, and_true, forall_const] at hd
      refine ⟨_, by (go_simp; first | exact rfl | exact ⟨rfl, rfl⟩), ?_⟩
      have hbw := HI7.out.1.trans (hE.mono HI7.out.1.size)
      refine (packId_any _ M W (HT.out W hbw).1 (HT.out W hbw).2 (HM7.out.keep hE) (by have := HML.out; omega)).mono ?_
      rintro e w' ⟨rfl, hb⟩
      exact ⟨_, rfl, by (show (_ : Value) = _; rw [HRR.out]), hb⟩
    · refine oweAs_pure ((.slice A6 (m + 1 + 1) c6)) rfl (fun f W hE hd => ?_) (fun W hE => rfl)
      go_simp
    · refine oweAs_pure ((.string (bs M))) rfl (fun f W hE hd => ?_) (fun W hE => rfl)
      simp only [DepAs, Region.binds, asAt, As.holds, and_true, forall_const] at hd
      have hcv := (HM7.out.keep hE).str Tryd.underlying24 Tryd.underlying5 Tryd.underlying9
      go_simp
    · refine oweAs_call 12 rfl (fun f W hE hd => ?_)
      simp only [DepAs, Region.binds, asAt, As.holds, and_true, forall_const] at hd
      refine ⟨_, by (go_simp; first | exact rfl | exact ⟨rfl, rfl⟩), ?_⟩
      refine (refId13_any M W (by have := HML.out; omega)).mono ?_
      rintro e w' ⟨rfl, hb⟩
      exact ⟨_, rfl, by (show (_ : Value) = _; rw [HRR.out]), hb⟩
    · refine oweAs_pure ((.bool true)) rfl (fun f W hE hd => ?_) (fun W hE => rfl)
      simp only [DepAs, Region.binds, asAt, As.holds, and_true, forall_const] at hd
      go_simp
    · refine oweAs_pure ((.bool true)) rfl (fun f W hE hd => ?_) (fun W hE => rfl)
      simp only [DepAs, Region.binds, asAt, As.holds, and_true, forall_const] at hd
      go_simp
    · refine oweAs_pure ((.bool true)) rfl (fun f W hE hd => ?_) (fun W hE => rfl)
      simp only [DepAs, Region.binds, asAt, As.holds, and_true, forall_const] at hd
      go_simp
    intro f W hE hA
    simp only [AllAs, As.holds, Nat.reduceAdd] at hA
    obtain ⟨-, -, -, -, -, -, -, -, -, -, -, -, -, -, hA14, -⟩ := hA
    go_wp2_with fail
    go_ret
    exact ⟨congrArg Ending.returned hA14, HI7.out.1.trans (hE.mono HI7.out.1.size)⟩
end Go.Proofs.YtlopiinkpdpakaaDoor
