/-
  The walk of the law DigestLong.
-/
import Derived.Test.YtjgleonbkipidaaDoorDg10
import Derived.Test.YtjgleonbkipidaaDoorBt2
import Derived.Test.YtjgleonbkipidaaDoorReg2
import Derived.RangeFuncBox
namespace Go.Proofs.YtjgleonbkipidaaDoor
open Go Go.RowKit

theorem infoS : ∃ i, Tryd.prog.info? 24 = some i ∧ i.zero = some (.slice none 0 0) ∧ i.size = 1 ∧ i.bytes = 24 := by
  have h : (Tryd.prog.info? 24).map (fun i => (i.zero, i.size, i.bytes)) = some (some (.slice none 0 0), 1, 24) := by kernel_rfl
  obtain ⟨i, hi, he⟩ := Option.map_eq_some_iff.1 h
  simp only [Prod.mk.injEq] at he
  exact ⟨i, hi, he.1, he.2.1, he.2.2⟩
theorem flat_repl (l : List UInt8) (k : Nat) : (List.replicate (k + 1) l).flatten = (List.replicate k l).flatten ++ l := by
  rw [List.replicate_succ', List.flatten_append]; simp
theorem flat_repl_len (l : List UInt8) (k : Nat) : (List.replicate k l).flatten.length = k * l.length := by simp

set_option maxRecDepth 100000 in
set_option maxHeartbeats 1000000 in
theorem digestLong_any (v1 v2 : Value) (a b : List UInt8) (n : UInt8) (w : World) (hT : Tab w) (h0 : 0 < w.heap.size) (hL1 : HB w v1 a) (hL2 : HB w v2 b) :
    Calls Tryd.prog 7 #[v1, .int .u8 (n.toNat : Int), v2] w fun e w' => e = .returned (.bool true) ∧ Below w.heap.size w w' := by
  obtain ⟨p1, c1, rfl, hl1, hm1⟩ := hL1.form
  obtain ⟨p2, c2, rfl, hl2, hm2⟩ := hL2.form
  unfold maxLen at hm1 hm2
  have HT := Lib.hid hT; have HA := Lib.hid hL1; have HB2 := Lib.hid hL2
  clear hT hL1 hL2
  have hn := n.toNat_lt
  by_cases ha : (20 : Int) < (a.length : Int)
  · go_enter Tryd.func7, Tryd.ntmps7
    go_wp2_with (go_at_call 14; refine (awake2_any _ HT.out h0).mono ?_; rintro e w1 ⟨rfl, hb1⟩; have HB1 := Lib.hid hb1; clear hb1)
    go_ret
    exact ⟨rfl, HB1.out⟩
  · by_cases hb : (70 : Int) < (b.length : Int)
    · go_enter Tryd.func7, Tryd.ntmps7
      go_wp2_with (go_at_call 14; refine (awake2_any _ HT.out h0).mono ?_; rintro e w1 ⟨rfl, hb1⟩; have HB1 := Lib.hid hb1; clear hb1)
      go_ret
      exact ⟨rfl, HB1.out⟩
    · obtain ⟨iS, hiS, hzS, hszS, hbyS⟩ := infoS
      have HIS := Lib.hid hiS; clear hiS
      go_enter Tryd.func7, Tryd.ntmps7
      go_wp2_with (go_at_call 14; refine (awake2_any _ HT.out h0).mono ?_; rintro e w1 ⟨rfl, hb1⟩; have HB1 := Lib.hid hb1; clear hb1)
      have HA1 := Lib.hid (HA.out.keep HB1.out)
      have HA2 := Lib.hid (HB2.out.keep HB1.out)
      generalize hg : w1.heap.size = g
      have HG := Lib.hid hg; clear hg
      go_loopw [8, 9, 10] (fun x s i wr => ∃ (k : Nat) (t : ByteArray), k ≤ n.toNat % 40 ∧ t.size ≤ 20 * k ∧ s = .string t ∧ i = .int .i64 k ∧ Hid (sb t = (List.replicate k a).flatten) ∧ wr.ownsRow g 24 1 x k (List.replicate k (.slice p1 a.length c1)) ∧ Below g w1 wr ∧ g ≤ wr.heap.size) (fun _ _ i _ => 40 - (intOf i).toNat)
      case atStart => exact ⟨0, _, by omega, by decide, rfl, rfl, Lib.hid rfl, World.ownsRow_nil _ _ _ _, Below.refl _ _, by rw [HG.out]; exact Nat.le_refl _⟩
      case round =>
        obtain ⟨k, t, hk, htk, rfl, rfl, hI, hO, hB, hz⟩ := hrel
        obtain ⟨xa, xc, rfl⟩ := own_form hO
        have HO := Lib.hid hO; have HB3 := Lib.hid hB
        clear hO hB
        by_cases hlt : k < n.toNat % 40
        · have hbz : (bs a).size ≤ 20 := by rw [bs_size]; omega
          have hcv0 := fun (W : World) (h : Below g w1 W) => (HA1.out.keep (HG.out ▸ h)).str Tryd.underlying24 Tryd.underlying5 Tryd.underlying9
          have HCV := Lib.hid hcv0; clear hcv0
          go_wp2_with (
            (at_builtin
             refine wpList_append_own _ rfl (.tmp 29) (.tmp 31) 22 rfl g 24 iS (.slice none 0 0) 1 24 Tryd.underlying22 HIS.out hzS hszS hbyS rfl (by decide) _ k _ rfl (HO.out.alloc _) ⟨wr.heap.size, 0, none⟩ 1 1 [.slice p1 a.length c1] rfl rfl ?c1 (by simp [Value.oneCell']) (by simp only [maxLen]; omega) (by omega) (by simp; omega) ?c6
             case c1 => intro j u hj; cases j with | zero => (simp at hj; subst hj; rw [add0]; exact (Blk.new _ _ _).cell 0) | succ j => simp at hj
             intro v' w2 hown' hgrow _
             have HO2 := Lib.hid hown'
             have HB4 := Lib.hid ((HB3.out.alloc hz _).grown hgrow (by simp; omega) (fun j hj => own_ge HO.out j hj))
             have hz2 : g ≤ w2.heap.size := by have := hgrow.size; simp at this; omega
             have hcv := HCV.out w2 HB4.out
             clear hown' hgrow))
          go_roundw
          case rel => exact ⟨k + 1, _, by omega, by rw [sz_append]; omega, rfl, by go_num, Lib.hid (by rw [sb_append, hI.out, sb_bs, flat_repl]), by rw [List.replicate_succ']; exact HO2.out, HB4.out, hz2⟩
          case measure => simp [intOf]; omega
        · obtain ⟨m, hm⟩ : ∃ m, m = n.toNat % 40 := ⟨_, rfl⟩
          have hkm : k = m := by omega
          have hm40 : m < 40 := by omega
          have hnm : (n.toNat : Int) % 40 = (m : Int) := by omega
          subst hkm
          clear hm
          go_wp2_with (
            (at_builtin
             refine wpList_append_own _ rfl (.tmp 37) (.tmp 39) 22 rfl g 24 iS (.slice none 0 0) 1 24 Tryd.underlying22 HIS.out hzS hszS hbyS rfl (by decide) _ k _ rfl (HO.out.alloc _) ⟨wr.heap.size, 0, none⟩ 1 1 [.slice p2 b.length c2] rfl rfl ?d1 (by simp [Value.oneCell']) (by simp only [maxLen]; omega) (by omega) (by simp; omega) ?d6
             case d1 => intro j u hj; cases j with | zero => (simp at hj; subst hj; rw [add0]; exact (Blk.new _ _ _).cell 0) | succ j => simp at hj
             intro v' w2 hown' hgrow _
             obtain ⟨xa', xc', rfl⟩ := own_form hown'
             have HO2 := Lib.hid hown'
             have HB4 := Lib.hid ((HB3.out.alloc hz _).grown hgrow (by simp; omega) (fun j hj => own_ge HO.out j hj))
             have hz2 : g ≤ w2.heap.size := by have := hgrow.size; simp at this; omega
             clear hown' hgrow))
          have HBr : Hid (Below w.heap.size w w2) := Lib.hid (HB1.out.trans (HB4.out.mono (by have := HB1.out.size; rw [HG.out] at this; exact this)))
          have HA3 : Hid (HB w2 (.slice p2 b.length c2) b) := Lib.hid (HA2.out.keep (HG.out.symm ▸ HB4.out))
          have HP : Hid (Parts w2 (.slice xa' (k + 1) xc') (List.replicate k a ++ [b])) := Lib.hid (own_parts HO2.out (by simp) (fun i u l hu hl => by
            rw [List.getElem?_append] at hu hl
            simp only [List.length_replicate] at hu hl
            by_cases hi : i < k
            · rw [if_pos hi] at hu hl
              simp [hi] at hu hl
              subst hu; subst hl
              exact HA1.out.keep (HG.out.symm ▸ HB4.out)
            · rw [if_neg hi] at hu hl
              match hq : i - k with
              | 0 => rw [hq] at hu hl; simp at hu hl; subst hu; subst hl; exact HA3.out
              | q + 1 => rw [hq] at hu; simp at hu))
          obtain ⟨L, hL⟩ : ∃ L, L = (List.replicate k a ++ [b]).flatten := ⟨_, rfl⟩
          have HLL := Lib.hid hL
          have hLs : (sb t ++ b) = L := by rw [hL, hI.out]; simp
          have hLl : L.length ≤ 900 := by rw [← hLs, List.length_append, sb_length]; omega
          have HLS : Hid (sb (t ++ bs b) = L) := Lib.hid (by rw [sb_append, sb_bs, hLs])
          have hbb : (bs b).size ≤ 70 := by rw [bs_size]; omega
          have htb : (t ++ bs b).size ≤ 900 := by rw [sz_append]; omega
          have HB0 := HB1
          clear hL hLs HB1
          have HB1 := HBr
          refine wp_region_as (ys := [.eq (.slice xa' (k + 1) xc'), .eq (.agg (bvs (sha L))), .eq (.string t), .eq (.slice p2 b.length c2), .eq (.string (bs b)), .eq (.string (t ++ bs b)), .eq (.agg (bvs (sha L))), .eq (.bool true), .eq (.bool true)]) (by kernel_rfl) (by kernel_rfl) (by kernel_rfl) (by kernel_rfl) rfl _ (fun f => by simp only [framedL, Act.put, List.setIfInBounds_toArray, List.set_cons_zero, List.set_cons_succ, Nat.reduceAdd]; rfl) ⟨?_, ?_, ?_, ?_, ?_, ?_, ?_, ?_, ?_, trivial⟩ ?_
          · refine oweAs_pure ((.slice xa' (k + 1) xc')) rfl (fun f W hE hd => ?_) (fun W hE => rfl)
            go_simp
          · refine oweAs_call 15 rfl (fun f W hE hd => ?_)
            simp only [DepAs, Region.binds, asAt, As.holds, and_true, forall_const] at hd
            refine ⟨_, by (go_simp; first | exact rfl | exact ⟨rfl, rfl⟩), ?_⟩
            have hl := HB1.out.size
            have hz := hE.size
            refine (of_any _ _ W ((HT.out.below HB1.out h0).below hE (by omega)) (by omega) (HP.out.keep hE) (by first | (simp; done) | (simp; omega)) (by rw [← HLL.out]; omega)).mono ?_
            rintro e w' ⟨rfl, hb⟩
            exact ⟨_, rfl, by (show (_ : Value) = _; rw [HLL.out]), hb⟩
          · refine oweAs_pure ((.string t)) rfl (fun f W hE hd => ?_) (fun W hE => rfl)
            go_simp
          · refine oweAs_pure ((.slice p2 b.length c2)) rfl (fun f W hE hd => ?_) (fun W hE => rfl)
            go_simp
          · refine oweAs_pure ((.string (bs b))) rfl (fun f W hE hd => ?_) (fun W hE => rfl)
            simp only [DepAs, Region.binds, asAt, As.holds, and_true, forall_const] at hd
            have hcv := (HA3.out.keep hE).str Tryd.underlying24 Tryd.underlying5 Tryd.underlying9
            go_simp
          · refine oweAs_pure ((.string (t ++ bs b))) rfl (fun f W hE hd => ?_) (fun W hE => rfl)
            simp only [DepAs, Region.binds, asAt, As.holds, and_true, forall_const] at hd
            have htb2 : t.size + (bs b).size ≤ 9223372036854775807 := by omega
            go_simp
          · refine oweAs_call 16 rfl (fun f W hE hd => ?_)
            simp only [DepAs, Region.binds, asAt, As.holds, and_true, forall_const] at hd
            refine ⟨_, by (go_simp; first | exact rfl | exact ⟨rfl, rfl⟩), ?_⟩
            refine (ref_any _ W (by omega)).mono ?_
            rintro e w' ⟨rfl, hb⟩
            exact ⟨_, rfl, by (show (_ : Value) = _; rw [HLS.out]), hb⟩
          · refine oweAs_pure ((.bool true)) rfl (fun f W hE hd => ?_) (fun W hE => rfl)
            simp only [DepAs, Region.binds, asAt, As.holds, and_true, forall_const] at hd
            have hsl := sha_length L
            go_simp
          · refine oweAs_pure ((.bool true)) rfl (fun f W hE hd => ?_) (fun W hE => rfl)
            simp only [DepAs, Region.binds, asAt, As.holds, and_true, forall_const] at hd
            go_simp
          intro f W hE hA
          simp only [AllAs, As.holds, Nat.reduceAdd] at hA
          obtain ⟨-, -, -, -, -, -, -, -, hA8, -⟩ := hA
          go_wp2_with fail
          go_ret
          exact ⟨congrArg Ending.returned hA8, HB1.out.trans (hE.mono HB1.out.size)⟩
end Go.Proofs.YtjgleonbkipidaaDoor
