/-
  The walk of the law StreamPlain.
-/
import Derived.Test.YtomfpffooaejoaaDoorSlA
namespace Go.Proofs.YtomfpffooaejoaaDoor
open Go Go.RowKit
set_option linter.unusedSimpArgs false
set_option linter.unusedVariables false

set_option maxRecDepth 100000 in
set_option maxHeartbeats 2000000 in
theorem streamPlain_any (key nonce : List UInt8) (x : Nat) (w : World) (hT : TabQ w) (h0 : 0 < w.heap.size) (hk : key.length = 32) (hn : nonce.length = 12) (hx : x < 65536) :
    Calls Tryd.prog 6 #[.agg (bvs key), .agg (bvs nonce), .int .u16 (x : Int)] w fun e w' => e = .returned (.bool true) ∧ Below w.heap.size w w' := by
  have hbz : (bvs key).size = 32 := by rw [bvs_size]; exact hk
  have hnz : (bvs nonce).size = 12 := by rw [bvs_size]; exact hn
  have HT := Lib.hid hT
  clear hT
  obtain ⟨i8, hi8, hz8, hsz8, hby8⟩ := info8
  have HI8 := Lib.hid hi8; clear hi8
  obtain ⟨k, hkx⟩ : ∃ k, k = x % 400 := ⟨_, rfl⟩
  have hk4 : k < 400 := by omega
  have hk1 : (x : Int) % 400 = (k : Int) := by omega
  have hk2 : (x : Int).tmod 400 = (k : Int) := by rw [Int.tmod_eq_emod_of_nonneg (by omega)]; exact hk1
  obtain ⟨z, hz⟩ : ∃ z, z = List.replicate k (0 : UInt8) := ⟨_, rfl⟩
  have hzl : z.length = k := by rw [hz]; simp
  have hz0 : ∀ i, at8 z i = 0 := by
    intro i
    rw [hz]
    simp only [at8, List.getD_eq_getElem?_getD, List.getElem?_replicate]
    split <;> rfl
  obtain ⟨m, hm⟩ : ∃ m, m = overS key nonce z := ⟨_, rfl⟩
  have hml : m.length = k := by rw [hm, overS_length, hzl]
  have HZ := Lib.hid hz
  have HZ0 := Lib.hid hz0
  have HZL := Lib.hid hzl
  have HM := Lib.hid hm
  have HML := Lib.hid hml
  clear hkx hz hz0 hzl hm hml
  go_enter Tryd.func6, Tryd.ntmps6
  go_wp2_with (first
    | (go_at_call 8
       refine (awake4_any _ (HT.out.below (((Below.refl w.heap.size w).alloc (Nat.le_refl _) _).alloc (by simp) _) h0) (by simp <;> omega)).mono ?_
       rintro e w1 ⟨rfl, hb1⟩
       have HI : Hid (Blk w1 w.heap.size 23 (bvs key) ∧ Blk w1 (w.heap.size + 1) 24 (bvs nonce) ∧ Below w.heap.size w w1 ∧ w.heap.size + 2 ≤ w1.heap.size) := Lib.hid ⟨((Blk.new w _ _).alloc _).below hb1 (by simp <;> omega), (Blk.new' (w := w.alloc _) (by simp) _ _).below hb1 (by simp), (((Below.refl w.heap.size w).alloc (Nat.le_refl _) _).alloc (by simp) _).trans (hb1.mono (by simp <;> omega)), by have := hb1.size; simpa using this⟩
       have HB1 := Lib.hid HI.out.2.2.1
       clear hb1))
  obtain ⟨g, hg⟩ : ∃ g, g = w.heap.size := ⟨_, rfl⟩
  have HI0 := Lib.hid (hg ▸ HI.out : Blk w1 g 23 (bvs key) ∧ Blk w1 (g + 1) 24 (bvs nonce) ∧ Below g w w1 ∧ g + 2 ≤ w1.heap.size)
  rw [← hg]
  have HG := Lib.hid hg
  clear hg HI
  refine wp_region_as (ys := [.eq (.agg (bvs key)), .eq (.agg (bvs nonce)), .eq (.int .i64 (k : Int)), .hb z, .hb m, .hb m]) (by kernel_rfl) (by kernel_rfl) (by kernel_rfl) (by kernel_rfl) rfl _ (fun f => by simp only [framedL, Act.put, List.setIfInBounds_toArray, List.set_cons_zero, List.set_cons_succ, Nat.reduceAdd]; rfl) ⟨?_, ?_, ?_, ?_, ?_, ?_, trivial⟩ ?_
  · exact oweAs_load 23 (.tmp 3) rfl (g) 23 (bvs key) (fun _ => rfl) (HI0.out.1) Tryd.underlying23 rfl (by rw [bvs_size, hk]; kernel_rfl) rfl rfl
  · exact oweAs_load 24 (.tmp 4) rfl (g + 1) 24 (bvs nonce) (fun _ => rfl) (HI0.out.2.1) Tryd.underlying24 rfl (by rw [bvs_size, hn]; kernel_rfl) rfl rfl
  · refine oweAs_pure ((.int .i64 (k : Int))) rfl (fun f W hE hd => ?_) (fun W hE => rfl)
    go_simp
  · refine oweAs_made rfl (fun f W hE hd => ?_)
    simp only [DepAs, Region.binds, asAt, As.holds, and_true, forall_const] at hd
    have hmk := run_make_bytes Tryd.underlying30 HI8.out hz8 hsz8 hby8 k (by omega) W
    refine ⟨_, _, by (go_simp; first | exact rfl | exact ⟨rfl, rfl⟩), ?_, (Below.refl W.heap.size W).alloc (Nat.le_refl _) _⟩
    rw [← HZ.out]
    exact HB.blk (Blk.new _ _ _) HZL.out (by simp only [maxLen]; omega)
  · refine oweAs_call 11 rfl (fun f W hE hd => ?_)
    simp only [DepAs, Region.binds, asAt, As.holds, and_true, forall_const] at hd
    refine ⟨_, by (go_simp; first | exact rfl | exact ⟨rfl, rfl⟩), ?_⟩
    have hl := HB1.out.size
    have hz := hE.size
    refine (streamOver_any key nonce z _ W ((HT.out.below HB1.out h0).below hE (by have := HB1.out.size; omega)) (by omega) hk hn (by first | exact hd | exact hd.1 | exact hd.2.1 | exact hd.2.2 | exact hd.2.2.1) (by have := HZL.out; omega)).mono ?_
    rintro e w' ⟨v', rfl, ho, hb⟩
    exact ⟨_, rfl, (own_hb ho (by rw [overS_length])).mk_eq HM.out.symm, hb⟩
  · refine oweAs_made rfl (fun f W hE hd => ?_)
    simp only [DepAs, Region.binds, asAt, As.holds, and_true, forall_const] at hd
    exact ⟨_, W, by (go_simp; first | exact rfl | exact ⟨rfl, rfl⟩), (by first | exact hd | exact hd.1), Below.refl _ _⟩
  intro f W hE hA
  simp only [AllAs, As.holds, Nat.reduceAdd] at hA
  obtain ⟨-, -, -, -, -, hA5, -⟩ := hA
  obtain ⟨p1, c1, hf5, hlc, hcm⟩ := hA5.form
  rw [HML.out] at hf5 hlc
  unfold maxLen at hcm
  rw [hf5] at hA5 ⊢
  have HI1 : Hid (Blk W g 23 (bvs key) ∧ Blk W (g + 1) 24 (bvs nonce) ∧ HB W (.slice p1 k c1) m ∧ Below g w W ∧ g + 2 ≤ W.heap.size) := Lib.hid ⟨HI0.out.1.below hE HI0.out.1.lt, HI0.out.2.1.below hE HI0.out.2.1.lt, hA5, HI0.out.2.2.1.trans (hE.mono (by have := HI0.out.2.2.2; omega)), Nat.le_trans HI0.out.2.2.2 hE.size⟩
  clear HI0 HB1 hA5 hf5 hE
  go_wp2_with fail
  have hgq : 0 < g := by rw [HG.out]; exact h0
  go_loopw [10] (fun i wr => ∃ j : Nat, j ≤ k ∧ i = .int .i64 j ∧ Blk wr g 23 (bvs key) ∧ Blk wr (g + 1) 24 (bvs nonce) ∧ HB wr (.slice p1 k c1) m ∧ Below g w wr ∧ g + 2 ≤ wr.heap.size) (fun i _ => k - (intOf i).toNat)
  case atStart => exact ⟨0, by omega, rfl, HI1.out⟩
  case round =>
    clear HI1
    obtain ⟨j, hj, rfl, hI⟩ := hrel
    by_cases hlt : j < k
    · obtain ⟨b1, o1, rfl, -⟩ := hI.2.2.1.at_ (i := j) (at8_get (by rw [HML.out]; exact hlt))
      have HI0 := Lib.hid hI
      obtain ⟨q, hq⟩ : ∃ q, q = j / 64 := ⟨_, rfl⟩
      have hkq : (j : Int) / 64 = (q : Int) := by omega
      have hq1 : (q : Int) < 4294967296 := by omega
      obtain ⟨r, hr⟩ : ∃ r, r = j % 64 := ⟨_, rfl⟩
      have hr64 : r < 64 := by omega
      have hr64' : (r : Int) < 64 := by omega
      have hjr : (j : Int) % 64 = (r : Int) := by omega
      have hjr2 : (j : Int).tmod 64 = (r : Int) := by rw [Int.tmod_eq_emod_of_nonneg (by omega)]; exact hjr
      have hlt' : (j : Int) < (k : Int) := by omega
      obtain ⟨pt, hpt⟩ : ∃ p, p = partS key nonce (UInt32.ofNat q) := ⟨_, rfl⟩
      have hptl : pt.length = 64 := by rw [hpt]; exact partS_length _ _ _
      have hptz : (bvs pt).size = 64 := by rw [bvs_size]; exact hptl
      have HQ : Hid ((q : Int) = ((UInt32.ofNat q).toNat : Int)) := Lib.hid (by rw [UInt32.toNat_ofNat']; omega)
      have HPQ := Lib.hid hpt
      have HX : Hid (at8 m j = at8 pt r) := Lib.hid (by
        rw [HM.out, overS_at _ _ _ (by rw [HZL.out]; exact hlt), HZ0.out, UInt8.zero_xor, hpt, hq, hr])
      clear hI hpt hq hr
      go_wp2_with (first
        | (refine wpList_load_blk rfl 23 (.tmp 3) rfl g 23 (bvs key) rfl HI0.out.1 Tryd.underlying23 rfl (by rw [hbz]; kernel_rfl) ?_)
        | (refine wpList_load_blk rfl 24 (.tmp 4) rfl (g + 1) 24 (bvs nonce) rfl HI0.out.2.1 Tryd.underlying24 rfl (by rw [hnz]; kernel_rfl) ?_)
        | (go_at_call 9
           rw [HQ.out]
           refine (part_any key nonce (UInt32.ofNat q) wr (HT.out.below HI0.out.2.2.2.1 hgq) (by have := HI0.out.2.2.2.2; omega) hk hn).mono ?_
           rintro e w5 ⟨rfl, hb5⟩
           rw [← HPQ.out]
           have HJ := Lib.hid hb5
           clear hb5)
        | (refine wpList_store_blk rfl 27 (.tmp 11) (.tmp 37) rfl w5.heap.size 27 _ (bvs pt) rfl rfl (Blk.new _ _ _) (by rw [hptz]; rfl) (by rw [hptz]; kernel_rfl) (bvs_one _) ?_
           intro w6 hb6 hg6 hz6
           have hB : Below wr.heap.size wr w6 := (HJ.out.alloc HJ.out.size _).grown hg6 (by have := HJ.out.size; simp; omega) (by intro k hk; injection hk with hk; have := HJ.out.size; omega)
           have HI5 : Hid (∃ y, y = w5.heap.size ∧ Blk w6 y 27 (bvs pt) ∧ Blk w6 g 23 (bvs key) ∧ Blk w6 (g + 1) 24 (bvs nonce) ∧ HB w6 (.slice (some ⟨b1, o1, none⟩) k c1) m ∧ Below g w w6 ∧ g + 2 ≤ w6.heap.size) := Lib.hid ⟨_, rfl, hb6, HI0.out.1.below hB HI0.out.1.lt, HI0.out.2.1.below hB HI0.out.2.1.lt, HI0.out.2.2.1.keep hB, HI0.out.2.2.2.1.trans (hB.mono (by have := HI0.out.2.2.2.2; omega)), Nat.le_trans HI0.out.2.2.2.2 hB.size⟩
           clear hb6 hg6 hz6 hB HJ))
      obtain ⟨y, hy, hI⟩ := HI5.out
      rw [← hy]
      have HI6 := Lib.hid hI
      clear HI5 hI hy HI0
      refine wp_region_as (ys := [.eq (.slice (some ⟨b1, o1, none⟩) k c1), .eq (.int .i64 (j : Int)), .eq (.pointer (some ⟨b1, o1 + j, none⟩)), .eq (.int .u8 (at8 pt r).toNat), .eq (.int .i64 (j : Int)), .eq (.int .i64 (r : Int)), .eq (.pointer (some ⟨y, r, none⟩)), .eq (.int .u8 (at8 pt r).toNat), .eq (.bool false)]) (by kernel_rfl) (by kernel_rfl) (by kernel_rfl) (by kernel_rfl) rfl _ (fun f => by simp only [framedL, Act.put, List.setIfInBounds_toArray, List.set_cons_zero, List.set_cons_succ, Nat.reduceAdd]; rfl) ⟨?_, ?_, ?_, ?_, ?_, ?_, ?_, ?_, ?_, trivial⟩ ?_
      · refine oweAs_pure ((.slice (some ⟨b1, o1, none⟩) k c1)) rfl (fun f W hE hd => ?_) (fun W hE => rfl)
        go_simp
      · refine oweAs_pure ((.int .i64 (j : Int))) rfl (fun f W hE hd => ?_) (fun W hE => rfl)
        go_simp
      · refine oweAs_pure ((.pointer (some ⟨b1, o1 + j, none⟩))) rfl (fun f W hE hd => ?_) (fun W hE => rfl)
        simp only [DepAs, Region.binds, asAt, As.holds, and_true, forall_const] at hd
        go_simp
      · refine oweAs_pure ((.int .u8 (at8 pt r).toNat)) rfl (fun f W hE hd => ?_) (fun W hE => rfl)
        simp only [DepAs, Region.binds, asAt, As.holds, and_true, forall_const] at hd
        have hjm : j < m.length := by rw [HML.out]; exact hlt
        obtain ⟨b2, o2, e2, hc2⟩ := (HI6.out.2.2.2.1.keep hE).at_ (at8_get hjm)
        injection e2 with e2
        injection e2 with e3 e4
        subst e3
        subst e4
        rw [HX.out] at hc2
        go_simp
      · refine oweAs_pure ((.int .i64 (j : Int))) rfl (fun f W hE hd => ?_) (fun W hE => rfl)
        go_simp
      · refine oweAs_pure ((.int .i64 (r : Int))) rfl (fun f W hE hd => ?_) (fun W hE => rfl)
        simp only [DepAs, Region.binds, asAt, As.holds, and_true, forall_const] at hd
        go_simp
      · refine oweAs_pure ((.pointer (some ⟨y, r, none⟩))) rfl (fun f W hE hd => ?_) (fun W hE => rfl)
        simp only [DepAs, Region.binds, asAt, As.holds, and_true, forall_const] at hd
        go_simp
      · refine oweAs_pure ((.int .u8 (at8 pt r).toNat)) rfl (fun f W hE hd => ?_) (fun W hE => rfl)
        simp only [DepAs, Region.binds, asAt, As.holds, and_true, forall_const] at hd
        have c0 := (HI6.out.1.below hE HI6.out.1.lt).byte (i := r) (by omega)
        go_simp
      · refine oweAs_pure ((.bool false)) rfl (fun f W hE hd => ?_) (fun W hE => rfl)
        simp only [DepAs, Region.binds, asAt, As.holds, and_true, forall_const] at hd
        go_simp
      intro f W hE hA
      simp only [AllAs, As.holds, Nat.reduceAdd] at hA
      obtain ⟨-, -, -, -, -, -, -, -, hA8, -⟩ := hA
      rw [hA8]
      have HS : Hid (Blk W g 23 (bvs key) ∧ Blk W (g + 1) 24 (bvs nonce) ∧ HB W (.slice (some ⟨b1, o1, none⟩) k c1) m ∧ Below g w W ∧ g + 2 ≤ W.heap.size) := Lib.hid ⟨HI6.out.2.1.below hE HI6.out.2.1.lt, HI6.out.2.2.1.below hE HI6.out.2.2.1.lt, HI6.out.2.2.2.1.keep hE, HI6.out.2.2.2.2.1.trans (hE.mono (by have := HI6.out.2.2.2.2.2; omega)), Nat.le_trans HI6.out.2.2.2.2.2 hE.size⟩
      clear HI6 hE hA8
      go_wp2_with fail
      go_roundw
      case rel => exact ⟨j + 1, by omega, by go_num, HS.out⟩
      case measure => simp [intOf]; omega
    · have HI0 := Lib.hid hI; clear hI
      have hjk : j = k := by omega
      subst hjk
      go_wp2_with fail
      go_ret
      rw [← HG.out]
      exact ⟨rfl, HI0.out.2.2.2.1⟩
end Go.Proofs.YtomfpffooaejoaaDoor
