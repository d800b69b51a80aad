/-
  The walk of seal.Seal.
-/
import Derived.Test.YtbicdobnnanlkaaDoorSe2
import Derived.Test.YtbicdobnnanlkaaDoorGE
import Derived.Test.YtbicdobnnanlkaaDoorTb
import Derived.Test.YtbicdobnnanlkaaDoorSt12
namespace Go.Proofs.YtbicdobnnanlkaaDoor
open Go Go.RowKit
set_option linter.unusedSimpArgs false
set_option linter.unusedVariables false

theorem headS_take (kind : UInt8) (n : Nat) {k : Nat} (h : k < 8) : (headS kind n).take (k + 1 + 1) = (headS kind n).take (k + 1) ++ [UInt8.ofNat (n / 256 ^ k)] := by
  simp only [headS, List.take_succ_cons]
  rw [le8_take n h]
  rfl

set_option maxRecDepth 100000 in
set_option maxHeartbeats 2000000 in
theorem seal_any (key plain : List UInt8) (kind : UInt8) (n : Nat) (v : Value) (w : World) (hT : Tabs w) (hk : key.length = 32) (hn : n < 18446744073709551616) (hv : HB w v plain) (hp : plain.length ≤ 60000) :
    Calls Tryd.prog 9 #[.agg (bvs key), .int .u8 (kind.toNat : Int), .int .u64 (n : Int), v] w fun e w' => ∃ v', e = .returned (.tuple #[v', .int .i64 0]) ∧ w'.ownsRow w.heap.size 5 1 v' (plain.length + 41) ((sealS key kind n plain).map bcv) ∧ Below w.heap.size w w' := by
  obtain ⟨p, c, rfl, hl, hm⟩ := hv.form
  obtain ⟨m, hmm⟩ : ∃ m, m = plain.length := ⟨_, rfl⟩
  have HV := Lib.hid hv
  have HM := Lib.hid hmm
  have HT := Lib.hid hT
  rw [← hmm] at HV hl hp ⊢
  unfold maxLen at hm
  have hkd := kind.toNat_lt
  have hbz : (bvs key).size = 32 := by rw [bvs_size]; exact hk
  obtain ⟨hide, hh⟩ : ∃ m, m = hideK key kind := ⟨_, rfl⟩
  have hhl : hide.length = 32 := by rw [hh]; exact hideK_length _ _
  have hhz : (bvs hide).size = 32 := by rw [bvs_size]; exact hhl
  obtain ⟨vouch, hvo⟩ : ∃ n, n = vouchK key kind := ⟨_, rfl⟩
  have hvl : vouch.length = 32 := by rw [hvo]; exact vouchK_length _ _
  have hvz : (bvs vouch).size = 32 := by rw [bvs_size]; exact hvl
  have HH := Lib.hid hh
  have HVO := Lib.hid hvo
  obtain ⟨i8, hi8, hz8, hsz8, hby8⟩ := info8
  have HI8 := Lib.hid hi8
  clear hT hv hmm hh hvo hi8
  go_enter Tryd.func9, Tryd.ntmps9
  go_wp2_with (first
    | (refine wpList_load_blk rfl 23 (.tmp 4) rfl w.heap.size 23 (bvs key) rfl (Blk.new w _ _) Tryd.underlying23 rfl (by rw [hbz]; kernel_rfl) ?_)
    | (go_at_call 15
       have hB : Below w.heap.size w (w.alloc (.cells (bvs key) 23)) := (Below.refl w.heap.size w).alloc (Nat.le_refl _) _
       have hT2 := HT.out.below hB
       refine (keys_any key kind _ hT2.1 hT2.2.2.1 hk).mono ?_
       rintro e w1 ⟨rfl, hb1⟩
       rw [← HH.out, ← HVO.out]
       have HI1 : Hid (Below w.heap.size w w1 ∧ w.heap.size < w1.heap.size) := Lib.hid ⟨hB.trans (hb1.mono (by simp)), by have := hb1.size; simp at this; omega⟩
       clear hb1 hT2 hB)
    | (refine wpList_store_blk rfl 23 (.tmp 11) (.tmp 23) rfl (w1.heap.size + 1) 23 _ (bvs vouch) rfl rfl HI3.out.2.1 (by rw [hvz]; rfl) (by rw [hvz]; kernel_rfl) (bvs_one _) ?_
       intro w4 hb4 hg4 hz4
       have HI4 : Hid (∃ hb q, hb = w1.heap.size ∧ q = w4.heap.size ∧ hb < q ∧ Blk w4 hb 23 (bvs hide) ∧ Blk w4 (hb + 1) 23 (bvs vouch) ∧ Below w.heap.size w w4 ∧ w.heap.size < hb) := Lib.hid ⟨_, _, rfl, rfl, by rw [hz4]; exact HI3.out.1.lt, HI3.out.1.grown hg4 (by intro h; injection h with h; omega), hb4, HI3.out.2.2.1.grown hg4 HI3.out.2.2.1.size (by intro k hk; injection hk with hk; have := HI3.out.2.2.2; omega), HI3.out.2.2.2⟩
       clear hb4 hg4 hz4 HI3)
    | (refine wpList_store_blk rfl 23 (.tmp 10) (.tmp 22) rfl w1.heap.size 23 _ (bvs hide) rfl rfl ((Blk.new w1 _ _).alloc _) (by rw [hhz]; rfl) (by rw [hhz]; kernel_rfl) (bvs_one _) ?_
       intro w3 hb3 hg3 hz3
       have HI3 : Hid (Blk w3 w1.heap.size 23 (bvs hide) ∧ Blk w3 (w1.heap.size + 1) 23 (bvs (List.replicate 32 0)) ∧ Below w.heap.size w w3 ∧ w.heap.size < w1.heap.size) := Lib.hid ⟨hb3, (Blk.new' (w := w1.alloc _) (by simp) _ _).grown hg3 (by intro h; injection h with h; omega), ((HI1.out.1.alloc (by have := HI1.out.2; omega) _).alloc (by have := HI1.out.2; simp; omega) _).grown hg3 (by have := HI1.out.2; simp; omega) (by intro k hk; injection hk with hk; have := HI1.out.2; omega), HI1.out.2⟩
       clear hb3 hg3 hz3 HI1))
  obtain ⟨hb, q, hhb, hq, hhq, hI⟩ := HI4.out
  rw [← hhb, ← hq]
  have HJ0 := Lib.hid hI
  have HO : Hid ((w4.alloc (.cells #[.int .u8 (kind.toNat : Int)] 5)).ownsRow q 5 1 (.slice (some ⟨q, 0, none⟩) 1 1) 1 (((headS kind n).take 1).map bcv)) := Lib.hid (hq ▸ own_new1 w4 5 kind)
  have HB5 : Hid (Below q w4 (w4.alloc (.cells #[.int .u8 (kind.toNat : Int)] 5)) ∧ q ≤ (w4.alloc (.cells #[.int .u8 (kind.toNat : Int)] 5)).heap.size) := Lib.hid ⟨hq ▸ (Below.refl w4.heap.size w4).alloc (Nat.le_refl _) _, by rw [hq]; simp⟩
  have HQ := Lib.hid hq
  clear HI4 hI hhb hq
  generalize w4.alloc (.cells #[.int .u8 (kind.toNat : Int)] 5) = w5 at *
  go_loopw [12, 26] (fun x i wr => ∃ k : Nat, k ≤ 8 ∧ i = .int .i64 k ∧ wr.ownsRow q 5 1 x (k + 1) (((headS kind n).take (k + 1)).map bcv) ∧ Below q w4 wr ∧ q ≤ wr.heap.size) (fun _ i _ => 8 - (intOf i).toNat)
  case atStart => exact ⟨0, by omega, rfl, HO.out, HB5.out⟩
  case round =>
    clear HO HB5
    obtain ⟨k, hk8, rfl, hO, hB, hz⟩ := hrel
    obtain ⟨xa, xc, rfl⟩ := own_form hO
    have HO := Lib.hid hO; have HB3 := Lib.hid hB
    clear hO hB
    by_cases hlt : k < 8
    · have HY := Lib.hid (headS_take kind n hlt)
      obtain ⟨x, hx⟩ : ∃ x, x = UInt8.ofNat (n / 256 ^ k) := ⟨_, rfl⟩
      rw [← hx] at HY
      have HYV : Hid ((n : Int) / 2 ^ (8 * k) % 256 = (x.toNat : Int)) := Lib.hid (by
        rw [hx, UInt8.toNat_ofNat', show (256 : Nat) = 2 ^ 8 from rfl, ← Nat.pow_mul]
        simp)
      clear hx
      go_wp2_with (
        (at_builtin
         rw [HYV.out]
         refine wpList_append_hb rfl (.tmp 29) (.tmp 35) 25 rfl q 5 i8 Tryd.underlying25 HI8.out hz8 hsz8 hby8 _ _ _ [x] (k + 1) rfl (HO.out.alloc _) rfl (hb_new1 wr _ x) (by simp; omega) (by simp; omega) ?_
         intro v' w2 hown' hgrow
         have HO2 : Hid (w2.ownsRow q 5 1 v' (k + 1 + 1) (((headS kind n).take (k + 1 + 1)).map bcv)) := Lib.hid (by rw [HY.out]; exact hown')
         have HB4 := Lib.hid ((HB3.out.alloc hz _).grown hgrow (by simp; omega) (fun j hj => own_ge HO.out j hj))
         have hz2 : q ≤ w2.heap.size := by have := hgrow.size; simp at this; omega
         clear hown' hgrow))
      go_roundw
      case rel => exact ⟨k + 1, by omega, by go_num, HO2.out, HB4.out, hz2⟩
      case measure => simp [intOf]; omega
    · obtain rfl : k = 8 := by omega
      rw [List.take_of_length_le (by rw [headS_length]; exact Nat.le_refl _)] at HO
      have hT1 : Below w.heap.size w wr := HJ0.out.2.2.1.trans (HB3.out.mono (by have := HJ0.out.2.2.1.size; rw [HQ.out]; exact this))
      have HI0 : Hid (Blk wr hb 23 (bvs hide) ∧ Blk wr (hb + 1) 23 (bvs vouch) ∧ Below w.heap.size w wr ∧ HB wr (.slice p m c) plain ∧ wr.ownsRow q 5 1 (.slice xa 9 xc) 9 ((headS kind n).map bcv)) := Lib.hid ⟨HJ0.out.1.below HB3.out (by omega), HJ0.out.2.1.below HB3.out (by rw [HQ.out]; exact HJ0.out.2.1.lt), hT1, HV.out.keep hT1, HO.out⟩
      have HTW := Lib.hid (HT.out.below hT1)
      clear hT1 HO HB3
      obtain ⟨z, hz⟩ : ∃ z, z = nonceS (le8 n) := ⟨_, rfl⟩
      have hzl : z.length = 12 := by rw [hz]; exact nonceS_length (by rw [le8_length]; exact Nat.le_refl _)
      have HZ : Hid (nonceS ((headS kind n).drop 1) = z) := Lib.hid (by rw [hz]; rfl)
      obtain ⟨B, hBd⟩ : ∃ B, B = headS kind n ++ overS hide z plain := ⟨_, rfl⟩
      have HBD := Lib.hid hBd
      have hBl : B.length = 9 + m := by rw [hBd, List.length_append, headS_length, overS_length, HM.out]
      have HBL := Lib.hid hBl
      obtain ⟨y, hy⟩ : ∃ y, y = macF vouch B := ⟨_, rfl⟩
      have hyl : y.length = 32 := by rw [hy]; exact macF_length _ _
      have hyz : (bvs y).size = 32 := by rw [bvs_size]; exact hyl
      have HY := Lib.hid hy
      have HS : Hid (B ++ y = sealS key kind n plain) := Lib.hid (by rw [hy, hBd, hz, HH.out, HVO.out]; rfl)
      clear hz hBd hBl hy
      go_wp2_with fail
      simp only [Nat.reduceAdd]
      refine wp_region_tail2 6 [.eq (.slice xa 9 xc), .eq (.agg (bvs hide)), .eq (.slice xa 9 xc), .eq (.agg (bvs z)), .eq (.slice p m c), .hb (overS hide z plain)] (by kernel_rfl) (by kernel_rfl) (by kernel_rfl) (by kernel_rfl) rfl (by decide) (by kernel_rfl) _ (fun f => by simp only [framedL, Act.put, maskF, oldF, Nat.reduceLT, reduceIte, List.getElem?_toArray, List.getElem?_cons_succ, List.getElem?_cons_zero, Option.bind_some, Option.map_some, Option.map_none, Option.getD_some, Option.getD_none, Array.getD_eq_getD_getElem?, List.setIfInBounds_toArray, List.set_cons_zero, List.set_cons_succ, Nat.reduceAdd]; rfl) ⟨?_, ?_, ?_, ?_, ?_, ?_, trivial⟩ ?_
      · refine oweAs_pure ((.slice xa 9 xc)) rfl (fun f W hE hd => ?_) (fun W hE => rfl)
        go_simp
      · exact oweAs_load 23 (.tmp 10) rfl (hb) 23 (bvs hide) (fun _ => rfl) (HI0.out.1) Tryd.underlying23 rfl (by rw [bvs_size, hhl]; kernel_rfl) rfl rfl
      · refine oweAs_pure ((.slice xa 9 xc)) rfl (fun f W hE hd => ?_) (fun W hE => rfl)
        go_simp
      · refine oweAs_call 17 rfl (fun f W hE hd => ?_)
        simp only [DepAs, Region.binds, asAt, As.holds, and_true, forall_const] at hd
        refine ⟨_, by (go_simp; first | exact rfl | exact ⟨rfl, rfl⟩), ?_⟩
        refine (nonce_any (headS kind n) _ W ((own_hb HI0.out.2.2.2.2 (by rw [headS_length])).keep hE) (by rw [headS_length]; exact Nat.le_refl _)).mono ?_
        rintro e w' ⟨rfl, hb⟩
        exact ⟨_, rfl, by (show (_ : Value) = _; rw [HZ.out]), hb⟩
      · refine oweAs_pure ((.slice p m c)) rfl (fun f W hE hd => ?_) (fun W hE => rfl)
        go_simp
      · refine oweAs_call 16 rfl (fun f W hE hd => ?_)
        simp only [DepAs, Region.binds, asAt, As.holds, and_true, forall_const] at hd
        refine ⟨_, by (go_simp; first | exact rfl | exact ⟨rfl, rfl⟩), ?_⟩
        have hTT := HTW.out.below hE
        refine (streamOver_any hide z plain _ W hTT.2.1 hTT.2.2.2 hhl hzl (HI0.out.2.2.2.1.keep hE) (by have := HM.out; omega)).mono ?_
        rintro e w' ⟨v', rfl, ho, hb⟩
        exact ⟨_, rfl, own_hb ho (by rw [overS_length]), hb⟩
      intro f W hE hA
      simp only [AllAs, As.holds, Nat.reduceAdd] at hA
      obtain ⟨hA0, -, -, -, -, hA5, -⟩ := hA
      simp only [List.drop_succ_cons, List.drop_zero]
      rw [hA0]
      have HJ : Hid (Blk W (hb + 1) 23 (bvs vouch) ∧ Below w.heap.size w W ∧ W.ownsRow q 5 1 (.slice xa 9 xc) 9 ((headS kind n).map bcv) ∧ HB W (f 5) (overS hide z plain) ∧ Tabs W ∧ q ≤ W.heap.size) := Lib.hid ⟨HI0.out.2.1.below hE HI0.out.2.1.lt, HI0.out.2.2.1.trans (hE.mono HI0.out.2.2.1.size), own_below HI0.out.2.2.2.2 hE, hA5, HTW.out.below hE, Nat.le_trans hz hE.size⟩
      have hwq : w.heap.size < q := by have := HJ0.out.2.2.2; omega
      clear HI0 HTW hE hA0 hA5 HJ0
      go_wp2_with (first
        | (go_at_call 18
           have hB7 : Below w6.heap.size w6 (w6.alloc (.cells #[.slice A9 (9 + m) c9] 25)) := (Below.refl w6.heap.size w6).alloc (Nat.le_refl _) _
           have hT7 := HK.out.2.2.2.1.below hB7
           refine (macOf_any vouch _ [B] _ hvl hT7.1 hT7.2.2.1 (parts_new1 (w := w6) (t := 25) rfl (own_hb HK.out.2.2.1 HBL.out.symm)) (by simp) (by simp; have := HBL.out; omega)).mono ?_
           rintro e w7 ⟨rfl, hb7⟩
           rw [show macF vouch [B].flatten = y from by rw [HY.out]; simp]
           have HK7 : Hid (Below w.heap.size w w7 ∧ w7.ownsRow q 5 1 (.slice A9 (9 + m) c9) (9 + m) (B.map bcv) ∧ q ≤ w7.heap.size) := Lib.hid ⟨(HK.out.2.1.trans (hB7.mono HK.out.2.1.size)).trans (hb7.mono (by have := HK.out.2.1.size; have := hB7.size; omega)), own_below (own_below HK.out.2.2.1 hB7) hb7, by have := hB7.size; have := hb7.size; have := HK.out.2.2.2.2; omega⟩
           clear hB7 hT7 hb7)
        | (refine wpList_load_blk rfl 23 (.tmp 11) rfl (hb + 1) 23 (bvs vouch) rfl HK.out.1 Tryd.underlying23 rfl (by rw [hvz]; kernel_rfl) ?_)
        | (refine wpList_store_blk rfl 34 (.tmp 14) (.tmp 48) rfl w7.heap.size 34 _ (bvs y) rfl rfl (Blk.new _ _ _) (by rw [hyz]; rfl) (by rw [hyz]; kernel_rfl) (bvs_one _) ?_
           intro w8 hb8 hg8 hz8'
           have hB8 : Below w7.heap.size w7 w8 := ((Below.refl w7.heap.size w7).alloc (Nat.le_refl _) _).grown hg8 (by simp) (by intro k hk; injection hk with hk; omega)
           have HK8 : Hid (HB w8 (.slice (some ⟨w7.heap.size, 0, none⟩) 32 32) y ∧ Below w.heap.size w w8 ∧ w8.ownsRow q 5 1 (.slice A9 (9 + m) c9) (9 + m) (B.map bcv) ∧ q ≤ w8.heap.size) := Lib.hid ⟨HB.blk hb8 hyl (by simp [maxLen]), HK7.out.1.trans (hB8.mono HK7.out.1.size), own_below HK7.out.2.1 hB8, Nat.le_trans HK7.out.2.2 hB8.size⟩
           clear hb8 hg8 hz8' hB8 HK7)
        | (at_builtin
           have tok := HK8
           refine wpList_append_hb rfl (.tmp 49) (.tmp 50) 25 rfl q 5 i8 Tryd.underlying25 HI8.out hz8 hsz8 hby8 _ _ B y (9 + m) rfl HK8.out.2.2.1 rfl HK8.out.1 (by rw [hyl]; omega) HK8.out.2.2.2 ?_
           intro v9 w9 hown9 hgrow9
           rw [HS.out, hyl] at hown9
           have HK9 : Hid (w9.ownsRow w.heap.size 5 1 v9 (m + 41) ((sealS key kind n plain).map bcv) ∧ Below w.heap.size w w9) := Lib.hid ⟨own_base (by rw [show m + 41 = 9 + m + 32 by omega]; exact hown9) (by omega), HK8.out.2.1.grown hgrow9 HK8.out.2.1.size (fun j hj => by have := own_ge HK8.out.2.2.1 j hj; omega)⟩
           clear hown9 hgrow9 HK8 tok)
        | (at_builtin
           have tok := HJ
           refine wpList_append_hb rfl (.tmp 38) (.tmp 43) 25 rfl q 5 i8 Tryd.underlying25 HI8.out hz8 hsz8 hby8 _ _ (headS kind n) (overS hide z plain) 9 rfl HJ.out.2.2.1 rfl HJ.out.2.2.2.1 (by rw [overS_length, ← HM.out]; omega) HJ.out.2.2.2.2.2 ?_
           intro v6 w6 hown6 hgrow6
           rw [← HBD.out, overS_length, ← HM.out] at hown6
           obtain ⟨A9, c9, rfl⟩ := own_form hown6
           have HK : Hid (Blk w6 (hb + 1) 23 (bvs vouch) ∧ Below w.heap.size w w6 ∧ w6.ownsRow q 5 1 (.slice A9 (9 + m) c9) (9 + m) (B.map bcv) ∧ Tabs w6 ∧ q ≤ w6.heap.size) := by
             have hBw : Below w.heap.size w w6 := HJ.out.2.1.grown hgrow6 HJ.out.2.1.size (fun j hj => by have := own_ge HJ.out.2.2.1 j hj; omega)
             exact Lib.hid ⟨HJ.out.1.grown hgrow6 (own_ne_blk HJ.out.2.2.1 HJ.out.1 (by decide)), hBw, hown6, HT.out.below hBw, Nat.le_trans HJ.out.2.2.2.2.2 hgrow6.size⟩
           clear hown6 hgrow6 HJ tok))
      go_ret2
      exact ⟨_, rfl, HK9.out.1, HK9.out.2⟩
end Go.Proofs.YtbicdobnnanlkaaDoor
