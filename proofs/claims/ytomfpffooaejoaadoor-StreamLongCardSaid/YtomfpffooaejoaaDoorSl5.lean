/-
  The walk of the law StreamLong.
-/
import Derived.Test.YtomfpffooaejoaaDoorSlA
import Derived.RangeFuncBox
namespace Go.Proofs.YtomfpffooaejoaaDoor
open Go Go.RowKit
set_option linter.unusedSimpArgs false
set_option linter.unusedVariables false

theorem flatU_succ (l : List UInt8) (k : Nat) : (List.replicate (k + 1) l).flatten = (List.replicate k l).flatten ++ l := by
  rw [List.replicate_succ', List.flatten_append]; simp
theorem flatU_len (l : List UInt8) (k : Nat) : (List.replicate k l).flatten.length = k * l.length := by simp

set_option maxRecDepth 100000 in
set_option maxHeartbeats 2000000 in
theorem streamLong_any (key nonce u : List UInt8) (v : Value) (n : UInt8) (w : World) (hT : TabQ w) (h0 : 0 < w.heap.size) (hk : key.length = 32) (hn : nonce.length = 12) (hv : HB w v u) :
    Calls Tryd.prog 7 #[.agg (bvs key), .agg (bvs nonce), v, .int .u8 (n.toNat : Int)] w fun e w' => e = .returned (.bool true) ∧ Below w.heap.size w w' := by
  obtain ⟨p, cap, rfl, hl, hm⟩ := hv.form
  unfold maxLen at hm
  have HV := Lib.hid hv
  clear hv
  have hn8 := n.toNat_lt
  have hbz : (bvs key).size = 32 := by rw [bvs_size]; exact hk
  have hnz : (bvs nonce).size = 12 := by rw [bvs_size]; exact hn
  have HT := Lib.hid hT
  clear hT
  obtain ⟨c, hc⟩ : ∃ c, c = u.length := ⟨_, rfl⟩
  rw [← hc] at hl ⊢
  have HC := Lib.hid hc
  have HV2 : Hid (HB w (.slice p c cap) u) := Lib.hid (hc ▸ HV.out)
  clear HV hc
  by_cases h0c : c = 0
  · subst h0c
    go_enter Tryd.func7, Tryd.ntmps7
    go_wp2_with (first
      | (go_at_call 8
         refine (awake4_any _ (HT.out.below (((Below.refl w.heap.size w).alloc (Nat.le_refl _) _).alloc (by simp) _) h0) (by simp <;> omega)).mono ?_
         rintro e w1 ⟨rfl, hb1⟩
         have HI : Hid (Blk w1 w.heap.size 23 (bvs key) ∧ Blk w1 (w.heap.size + 1) 24 (bvs nonce) ∧ Below w.heap.size w w1 ∧ w.heap.size + 2 ≤ w1.heap.size) := Lib.hid ⟨((Blk.new w _ _).alloc _).below hb1 (by simp <;> omega), (Blk.new' (w := w.alloc _) (by simp) _ _).below hb1 (by simp), (((Below.refl w.heap.size w).alloc (Nat.le_refl _) _).alloc (by simp) _).trans (hb1.mono (by simp <;> omega)), by have := hb1.size; simpa using this⟩
         have HB1 := Lib.hid HI.out.2.2.1
         clear hb1))
    go_ret
    exact ⟨rfl, HB1.out⟩
  by_cases h40 : (40 : Int) < (c : Int)
  · have hcz : ((c : Int) == 0) = false := by simpa using h0c
    have h40d : decide ((40 : Int) < (c : Int)) = true := decide_eq_true h40
    go_enter Tryd.func7, Tryd.ntmps7
    go_wp2_with (first
      | (go_at_call 8
         refine (awake4_any _ (HT.out.below (((Below.refl w.heap.size w).alloc (Nat.le_refl _) _).alloc (by simp) _) h0) (by simp <;> omega)).mono ?_
         rintro e w1 ⟨rfl, hb1⟩
         have HI : Hid (Blk w1 w.heap.size 23 (bvs key) ∧ Blk w1 (w.heap.size + 1) 24 (bvs nonce) ∧ Below w.heap.size w w1 ∧ w.heap.size + 2 ≤ w1.heap.size) := Lib.hid ⟨((Blk.new w _ _).alloc _).below hb1 (by simp <;> omega), (Blk.new' (w := w.alloc _) (by simp) _ _).below hb1 (by simp), (((Below.refl w.heap.size w).alloc (Nat.le_refl _) _).alloc (by simp) _).trans (hb1.mono (by simp <;> omega)), by have := hb1.size; simpa using this⟩
         have HB1 := Lib.hid HI.out.2.2.1
         clear hb1))
    go_ret
    exact ⟨rfl, HB1.out⟩
  · have hcz : ((c : Int) == 0) = false := by simpa using h0c
    have h40d : decide ((40 : Int) < (c : Int)) = false := decide_eq_false h40
    obtain ⟨b0, o0, rfl, -⟩ := HV2.out.at_ (at8_get (l := u) (i := 0) (by have := HC.out; omega))
    obtain ⟨i8, hi8, hz8, hsz8, hby8⟩ := info8
    have HI8 := Lib.hid hi8; clear hi8
    have hc40 : c ≤ 40 := by omega
    clear h0c
    go_enter Tryd.func7, Tryd.ntmps7
    go_wp2_with (first
      | (go_at_call 8
         refine (awake4_any _ (HT.out.below (((Below.refl w.heap.size w).alloc (Nat.le_refl _) _).alloc (by simp) _) h0) (by simp <;> omega)).mono ?_
         rintro e w1 ⟨rfl, hb1⟩
         have HI : Hid (Blk w1 w.heap.size 23 (bvs key) ∧ Blk w1 (w.heap.size + 1) 24 (bvs nonce) ∧ Below w.heap.size w w1 ∧ w.heap.size + 2 ≤ w1.heap.size) := Lib.hid ⟨((Blk.new w _ _).alloc _).below hb1 (by simp <;> omega), (Blk.new' (w := w.alloc _) (by simp) _ _).below hb1 (by simp), (((Below.refl w.heap.size w).alloc (Nat.le_refl _) _).alloc (by simp) _).trans (hb1.mono (by simp <;> omega)), by have := hb1.size; simpa using this⟩
         have HB1 := Lib.hid HI.out.2.2.1
         have HV1 := Lib.hid (HV2.out.keep HB1.out)
         clear hb1))
    obtain ⟨g, hg⟩ : ∃ g, g = w.heap.size := ⟨_, rfl⟩
    have HI0 := Lib.hid (hg ▸ HI.out : Blk w1 g 23 (bvs key) ∧ Blk w1 (g + 1) 24 (bvs nonce) ∧ Below g w w1 ∧ g + 2 ≤ w1.heap.size)
    rw [← hg]
    have HG := Lib.hid hg
    clear hg HI
    have HG1 : Hid (Blk w1 g 23 (bvs key) ∧ Blk w1 (g + 1) 24 (bvs nonce) ∧ HB w1 (.slice (some ⟨b0, o0, none⟩) c cap) u) := Lib.hid ⟨HI0.out.1, HI0.out.2.1, HV1.out⟩
    generalize hq : w1.heap.size = q
    have HQ := Lib.hid hq; clear hq
    go_loopw [10, 11] (fun x i wr => ∃ k : Nat, k ≤ n.toNat % 40 ∧ i = .int .i64 k ∧ wr.ownsRow q 5 1 x (k * c) ((List.replicate k u).flatten.map bcv) ∧ Below q w1 wr ∧ q ≤ wr.heap.size) (fun _ i _ => 40 - (intOf i).toNat)
    case atStart => exact ⟨0, by omega, rfl, by rw [Nat.zero_mul]; exact World.ownsRow_nil _ _ _ _, Below.refl _ _, by rw [HQ.out]; exact Nat.le_refl _⟩
    case round =>
      obtain ⟨k, hk2, rfl, hO, hB, hz⟩ := hrel
      obtain ⟨xa, xc, rfl⟩ := own_form hO
      have HO := Lib.hid hO; have HB3 := Lib.hid hB
      clear hO hB
      by_cases hlt : k < n.toNat % 40
      · have hkc : k * c ≤ 40 * 40 := Nat.mul_le_mul (by omega) hc40
        obtain ⟨s, hs⟩ : ∃ s, s = k * c := ⟨_, rfl⟩
        have HS := Lib.hid hs
        rw [← hs] at HO hkc ⊢
        clear hs
        have HU : Hid (∀ (j : Nat) (y : Value), (u.map bcv)[j]? = some y → wr.cell? ((⟨b0, o0, none⟩ : Addr).add j) = some y) := Lib.hid (by
          intro j y hj
          rw [List.getElem?_map] at hj
          obtain ⟨x, hx, rfl⟩ := Option.map_eq_some_iff.1 hj
          obtain ⟨b2, o2, e, hcell⟩ := (HG1.out.2.2.keep (HQ.out ▸ HB3.out)).at_ hx
          injection e with e
          injection e with e1 e2
          subst e1; subst e2
          rw [addi]; exact hcell)
        go_wp2_with (
          (at_builtin
           refine wpList_append_own _ rfl (.tmp 30) (.tmp 31) 30 rfl q 5 i8 (.int .u8 0) 1 1 Tryd.underlying30 HI8.out hz8 hsz8 hby8 rfl (by decide) _ s _ rfl HO.out ⟨b0, o0, none⟩ c cap (u.map bcv) rfl (by rw [List.length_map, HC.out, Nat.mul_one]) HU.out (fun y hy => by obtain ⟨x, _, rfl⟩ := List.mem_map.1 hy; rfl) (by simp only [maxLen]; omega) (by omega) (by omega) ?c6
           intro v' w2 hown' hgrow _
           have HO2 := Lib.hid hown'
           have HB4 := Lib.hid (HB3.out.grown hgrow hz (fun j hj => own_ge HO.out j hj))
           have hz2 : q ≤ w2.heap.size := by have := hgrow.size; omega
           clear hown' hgrow))
        go_roundw
        case rel => exact ⟨k + 1, by omega, by go_num, by rw [flatU_succ, List.map_append, Nat.succ_mul, ← HS.out]; exact HO2.out, HB4.out, hz2⟩
        case measure => simp [intOf]; omega
      · obtain ⟨m, hm⟩ : ∃ m, m = n.toNat % 40 := ⟨_, rfl⟩
        have hkm : k = m := by omega
        have hm40 : m < 40 := by omega
        have hnm : (n.toNat : Int) % 40 = (m : Int) := by omega
        subst hkm
        clear hm
        obtain ⟨L, hL⟩ : ∃ L, L = (List.replicate k u).flatten := ⟨_, rfl⟩
        have hLl : L.length = k * c := by rw [hL, flatU_len, HC.out]
        have hkc : k * c ≤ 40 * 40 := Nat.mul_le_mul (by omega) hc40
        obtain ⟨s, hs⟩ : ∃ s, s = k * c := ⟨_, rfl⟩
        rw [← hL, ← hs] at HO
        rw [← hs] at hLl hkc ⊢
        have HLL := Lib.hid hLl
        have HX : Hid (HB wr (.slice xa s xc) L) := Lib.hid (own_hb HO.out hLl.symm)
        have HI1 : Hid (Blk wr g 23 (bvs key) ∧ Blk wr (g + 1) 24 (bvs nonce) ∧ True) := Lib.hid ⟨HG1.out.1.below HB3.out (by rw [← HQ.out]; exact HG1.out.1.lt), HG1.out.2.1.below HB3.out (by rw [← HQ.out]; exact HG1.out.2.1.lt), trivial⟩
        have HBr : Hid (Below w.heap.size w wr) := Lib.hid (HB1.out.trans (HB3.out.mono (by have := HB1.out.size; rw [HQ.out] at this; exact this)))
        clear hL hs hLl HB1 HI0 HO HB3
        have HB1 := HBr
        have HI0 := HI1
        clear HBr HI1
        go_wp2_with fail
        refine wp_region_as (ys := [.eq (.agg (bvs key)), .eq (.agg (bvs nonce)), .eq (.slice xa s xc), .hb (overS key nonce L), .eq (.string (bs (overS key nonce L))), .eq (.agg (bvs key)), .eq (.agg (bvs nonce)), .eq (.slice xa s xc), .eq (.string (bs L)), .eq (.string (bs (overS key nonce L))), .eq (.bool true), .eq (.bool true)]) (by kernel_rfl) (by kernel_rfl) (by kernel_rfl) (by kernel_rfl) rfl _ (fun f => by simp only [framedL, Act.put, List.setIfInBounds_toArray, List.set_cons_zero, List.set_cons_succ, Nat.reduceAdd]; rfl) ⟨?_, ?_, ?_, ?_, ?_, ?_, ?_, ?_, ?_, ?_, ?_, ?_, trivial⟩ ?_
        · exact oweAs_load 23 (.tmp 4) rfl (g) 23 (bvs key) (fun _ => rfl) (HI0.out.1) Tryd.underlying23 rfl (by rw [bvs_size, hk]; kernel_rfl) rfl rfl
        · exact oweAs_load 24 (.tmp 5) rfl (g + 1) 24 (bvs nonce) (fun _ => rfl) (HI0.out.2.1) Tryd.underlying24 rfl (by rw [bvs_size, hn]; kernel_rfl) rfl rfl
        · refine oweAs_pure ((.slice xa s xc)) rfl (fun f W hE hd => ?_) (fun W hE => rfl)
          go_simp
        · refine oweAs_call 11 rfl (fun f W hE hd => ?_)
          simp only [DepAs, Region.binds, asAt, As.holds, and_true, forall_const] at hd
          refine ⟨_, by (go_simp; first | exact rfl | exact ⟨rfl, rfl⟩), ?_⟩
          have hl := HB1.out.size
          have hz := hE.size
          refine (streamOver_any key nonce L _ W ((HT.out.below HB1.out h0).below hE (by have := HB1.out.size; omega)) (by omega) hk hn (HX.out.keep hE) (by have := HLL.out; omega)).mono ?_
          rintro e w' ⟨v', rfl, ho, hb⟩
          exact ⟨_, rfl, (own_hb ho (by rw [overS_length])), hb⟩
        · refine oweAs_pure ((.string (bs (overS key nonce L)))) rfl (fun f W hE hd => ?_) (fun W hE => rfl)
          simp only [DepAs, Region.binds, asAt, As.holds, and_true, forall_const] at hd
          have hcv := (show HB W _ (overS key nonce L) from hd).str Tryd.underlying30 Tryd.underlying5 Tryd.underlying9
          go_simp
        · exact oweAs_load 23 (.tmp 4) rfl (g) 23 (bvs key) (fun _ => rfl) (HI0.out.1) Tryd.underlying23 rfl (by rw [bvs_size, hk]; kernel_rfl) rfl rfl
        · exact oweAs_load 24 (.tmp 5) rfl (g + 1) 24 (bvs nonce) (fun _ => rfl) (HI0.out.2.1) Tryd.underlying24 rfl (by rw [bvs_size, hn]; kernel_rfl) rfl rfl
        · refine oweAs_pure ((.slice xa s xc)) rfl (fun f W hE hd => ?_) (fun W hE => rfl)
          go_simp
        · refine oweAs_pure ((.string (bs L))) rfl (fun f W hE hd => ?_) (fun W hE => rfl)
          simp only [DepAs, Region.binds, asAt, As.holds, and_true, forall_const] at hd
          have hcv := (HX.out.keep hE).str Tryd.underlying30 Tryd.underlying5 Tryd.underlying9
          go_simp
        · refine oweAs_call 12 rfl (fun f W hE hd => ?_)
          simp only [DepAs, Region.binds, asAt, As.holds, and_true, forall_const] at hd
          refine ⟨_, by (go_simp; first | exact rfl | exact ⟨rfl, rfl⟩), ?_⟩
          refine (refOver_any key nonce (bs L) W hk hn (by rw [bs_size]; have := HLL.out; omega)).mono ?_
          rintro e w' ⟨rfl, hb⟩
          exact ⟨_, rfl, by (show (_ : Value) = _; rw [sb_bs]), hb⟩
        · refine oweAs_pure ((.bool true)) rfl (fun f W hE hd => ?_) (fun W hE => rfl)
          simp only [DepAs, Region.binds, asAt, As.holds, and_true, forall_const] at hd
          go_simp
        · refine oweAs_pure ((.bool true)) rfl (fun f W hE hd => ?_) (fun W hE => rfl)
          simp only [DepAs, Region.binds, asAt, As.holds, and_true, forall_const] at hd
          go_simp
        intro f W hE hA
        simp only [AllAs, As.holds, Nat.reduceAdd] at hA
        obtain ⟨-, -, -, -, -, -, -, -, -, -, -, hA11, -⟩ := hA
        go_wp2_with fail
        go_ret
        exact ⟨congrArg Ending.returned hA11, HB1.out.trans (hE.mono HB1.out.size)⟩
end Go.Proofs.YtomfpffooaejoaaDoor
