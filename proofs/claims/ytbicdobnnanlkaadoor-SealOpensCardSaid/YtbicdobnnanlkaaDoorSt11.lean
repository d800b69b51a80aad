/-
  The walk of the reference's Over.
-/
import Derived.Test.YtbicdobnnanlkaaDoorGA
import Derived.Test.YtbicdobnnanlkaaDoorSt10
import Derived.Test.YtbicdobnnanlkaaDoorGB
namespace Go.Proofs.YtbicdobnnanlkaaDoor
open Go Go.RowKit
set_option linter.unusedSimpArgs false
set_option linter.unusedVariables false

theorem take_snoc_over (key nonce : List UInt8) (s : ByteArray) {k : Nat} (h : k < s.size) : (overS key nonce (sb s)).take (k + 1) = (overS key nonce (sb s)).take k ++ [at8 (sb s) k ^^^ at8 (partS key nonce (UInt32.ofNat (k / 64))) (k % 64)] := by
  have h2 : k < (overS key nonce (sb s)).length := by rw [overS_length, sb_length]; exact h
  rw [List.take_add_one, List.getElem?_eq_getElem h2, ← overS_at key nonce (sb s) (by rw [sb_length]; exact h)]
  simp [at8, List.getD, h2]
/-- one new slice of one byte -/
def OneB (w : World) (base : Nat) (u : Value) (y : UInt8) : Prop := ∃ q, u = .slice (some ⟨q, 0, none⟩) 1 1 ∧ base ≤ q ∧ Blk w q 5 #[.int .u8 (y.toNat : Int)]
theorem OneB.keep {w w' : World} {base : Nat} {u : Value} {y : UInt8} (h : OneB w base u y) (hb : Below w.heap.size w w') : OneB w' base u y := by
  obtain ⟨q, h1, h2, h3⟩ := h
  exact ⟨q, h1, h2, h3.below hb h3.lt⟩

set_option maxRecDepth 100000 in
set_option maxHeartbeats 2000000 in
theorem refOver_any (key nonce : List UInt8) (s : ByteArray) (w : World) (hk : key.length = 32) (hn : nonce.length = 12) (hs : s.size ≤ 100000) :
    Calls Tryd.prog 20 #[.agg (bvs key), .agg (bvs nonce), .string s] w fun e w' => e = .returned (.string (bs (overS key nonce (sb s)))) ∧ Below w.heap.size w w' := by
  have hbz : (bvs key).size = 32 := by rw [bvs_size]; exact hk
  have hnz : (bvs nonce).size = 12 := by rw [bvs_size]; exact hn
  obtain ⟨i8, hi8, hz8, hsz8, hby8⟩ := info8
  have HI8 := Lib.hid hi8; clear hi8
  go_enter Tryd.func20, Tryd.ntmps20
  go_wp2_with fail
  refine wp_abs (fun W => ∃ g, g = w.heap.size ∧ Blk W g 23 (bvs key) ∧ Blk W (g + 1) 48 (bvs nonce) ∧ (∃ pt, Blk W (g + 2) 65 (bvs pt) ∧ pt.length = 64 ∧ (0 < 0 % 64 → pt = partS key nonce (UInt32.ofNat (0 / 64)))) ∧ Below g w W ∧ g + 3 ≤ W.heap.size) ⟨_, rfl, ?_, ?_, ?_, ?_, ?_⟩ ?_
  · exact ((Blk.new w _ _).alloc _).alloc _
  · exact (Blk.new' (w := w.alloc _) (by simp) _ _).alloc _
  · exact ⟨List.replicate 64 0, Blk.new' (w := (w.alloc _).alloc _) (by simp) _ _, by simp, fun h => by omega⟩
  · exact (((Below.refl w.heap.size w).alloc (Nat.le_refl _) _).alloc (by simp) _).alloc (by simp; omega) _
  · simp
  rintro W0 ⟨g, hg, hI⟩
  rw [← hg, show g + 1 + 1 = g + 2 from rfl]
  have HG := Lib.hid hg
  have HI0 := Lib.hid hI
  clear hI hg
  have hsl : (sb s).length = s.size := sb_length s
  go_loopw [7, 9] (fun v i wr => ∃ k : Nat, k ≤ s.size ∧ i = .int .i64 k ∧ OwnB wr (g + 3) v ((overS key nonce (sb s)).take k) ∧ Blk wr g 23 (bvs key) ∧ Blk wr (g + 1) 48 (bvs nonce) ∧ (∃ pt, Blk wr (g + 2) 65 (bvs pt) ∧ pt.length = 64 ∧ (0 < k % 64 → pt = partS key nonce (UInt32.ofNat (k / 64)))) ∧ Below g w wr ∧ g + 3 ≤ wr.heap.size) (fun _ i _ => s.size - (intOf i).toNat)
  case atStart => exact ⟨0, by omega, rfl, .inl ⟨rfl, by simp⟩, HI0.out⟩
  case round =>
    clear HI0
    obtain ⟨k, hks, rfl, hI⟩ := hrel
    obtain ⟨A, c, rfl⟩ := hI.1.slice
    have hlen : ((overS key nonce (sb s)).take k).length = k := by rw [List.length_take, overS_length, hsl]; omega
    rw [hlen] at hI ⊢
    by_cases hlt : k < s.size
    · have hlt' : (k : Int) < (s.size : Int) := by omega
      obtain ⟨r, hr⟩ : ∃ r, r = k % 64 := ⟨_, rfl⟩
      have hkr : (k : Int) % 64 = (r : Int) := by omega
      have hr64 : r < 64 := by omega
      have hr64' : (r : Int) < 64 := by omega
      have HR := Lib.hid hr
      by_cases h0 : r = 0
      · subst h0
        obtain ⟨hO, hK, hN, ⟨pt0, hP, hptl0, -⟩, hB, hz⟩ := hI
        have HJ0 := Lib.hid (And.intro hO (And.intro hK (And.intro hN (And.intro hP (And.intro hB hz)))))
        have hkr : (k : Int) % 64 = 0 := by omega
        obtain ⟨q, hq⟩ : ∃ q, q = k / 64 := ⟨_, rfl⟩
        have hkq : (k : Int) / 64 = (q : Int) := by omega
        have hq1 : (q : Int) < 4294967296 := by omega
        obtain ⟨pt, hpt⟩ : ∃ p, p = partS key nonce (UInt32.ofNat q) := ⟨_, rfl⟩
        have hptl : pt.length = 64 := by rw [hpt]; exact partS_length _ _ _
        have hptz : (bvs pt).size = 64 := by rw [bvs_size]; exact hptl
        have hpz0 : (bvs pt0).size = 64 := by rw [bvs_size]; exact hptl0
        have HQ : Hid ((q : Int) = ((UInt32.ofNat q).toNat : Int)) := Lib.hid (by rw [UInt32.toNat_ofNat']; omega)
        have HPQ := Lib.hid hpt
        have HPT : Hid (pt = partS key nonce (UInt32.ofNat (k / 64))) := Lib.hid (by rw [hpt, hq])
        clear hO hK hN hP hB hz hpt hq hr
        go_wp2_with (first
          | (refine wpList_load_blk rfl 23 (.tmp 3) rfl g 23 (bvs key) rfl HJ0.out.2.1 Tryd.underlying23 rfl (by rw [hbz]; kernel_rfl) ?_)
          | (refine wpList_load_blk rfl 48 (.tmp 4) rfl (g + 1) 48 (bvs nonce) rfl HJ0.out.2.2.1 Tryd.underlying48 rfl (by rw [hnz]; kernel_rfl) ?_)
          | (go_at_call 35
             rw [HQ.out]
             refine (refPart_any key nonce (UInt32.ofNat q) wr hk hn).mono ?_
             rintro e w1 ⟨rfl, hb1⟩
             rw [← HPQ.out]
             have HJ1 : Hid (OwnB w1 (g + 3) (.slice A k c) ((overS key nonce (sb s)).take k) ∧ Blk w1 g 23 (bvs key) ∧ Blk w1 (g + 1) 48 (bvs nonce) ∧ Blk w1 (g + 2) 65 (bvs pt0) ∧ Below g w w1 ∧ g + 3 ≤ w1.heap.size) := Lib.hid ⟨HJ0.out.1.below hb1 (Nat.le_refl _), HJ0.out.2.1.below hb1 HJ0.out.2.1.lt, HJ0.out.2.2.1.below hb1 HJ0.out.2.2.1.lt, HJ0.out.2.2.2.1.below hb1 HJ0.out.2.2.2.1.lt, HJ0.out.2.2.2.2.1.trans (hb1.mono (by have := HJ0.out.2.2.2.2.2; omega)), Nat.le_trans HJ0.out.2.2.2.2.2 hb1.size⟩
             clear HJ0 hb1)
          | (refine wpList_store_blk rfl 65 (.tmp 8) (.tmp 24) rfl (g + 2) 65 _ (bvs pt) rfl rfl HJ1.out.2.2.2.1 (by rw [hptz, hpz0]) (by rw [hptz]; kernel_rfl) (bvs_one _) ?_
             intro w2 hb2 hg2 hz2
             have hz1 := HJ1.out.2.2.2.2.2
             have HJ : Hid (OwnB w2 (g + 3) (.slice A k c) ((overS key nonce (sb s)).take k) ∧ Blk w2 g 23 (bvs key) ∧ Blk w2 (g + 1) 48 (bvs nonce) ∧ Blk w2 (g + 2) 65 (bvs pt) ∧ Below g w w2 ∧ g + 3 ≤ w2.heap.size) := Lib.hid ⟨HJ1.out.1.keep (fun b o u hb hu => by
                 have hlt := lt_of_cell hu
                 exact ⟨((gcell hg2).1 b o hlt (by intro e; injection e with e; omega)).trans hu, (gcell hg2).2 b o hlt (by intro e; injection e with e; omega)⟩), HJ1.out.2.1.grown hg2 (by intro h; injection h with h; omega), HJ1.out.2.2.1.grown hg2 (by intro h; injection h with h; omega), hb2, HJ1.out.2.2.2.2.1.grown hg2 (by omega) (by intro k hk; injection hk with hk; omega), by rw [hz2]; exact hz1⟩
             clear HJ1 hb2 hg2 hz2 hz1))
        refine wp_region_tail2 10 [.eq (.slice A k c), .eq (.string s), .eq (.int .i64 (k : Int)), .eq (.int .u8 (at8 (sb s) k).toNat), .eq (.int .i64 (k : Int)), .eq (.int .i64 (0 : Int)), .eq (.pointer (some ⟨g + 2, 0, none⟩)), .eq (.int .u8 (at8 pt 0).toNat), .eq (.int .u8 (at8 (sb s) k ^^^ at8 pt 0).toNat), .st (fun u W => OneB W w2.heap.size u (at8 (sb s) k ^^^ at8 pt 0)) (fun _ _ _ h hb => h.keep hb)] (by kernel_rfl) (by kernel_rfl) (by kernel_rfl) (by kernel_rfl) rfl (by decide) (by kernel_rfl) _ (fun f => by simp only [framedL, Act.put, maskF, oldF, Nat.reduceLT, reduceIte, List.getElem?_toArray, List.getElem?_cons_succ, List.getElem?_cons_zero, Option.bind_some, Option.map_some, Option.map_none, Option.getD_some, Option.getD_none, Array.getD_eq_getD_getElem?, List.setIfInBounds_toArray, List.set_cons_zero, List.set_cons_succ, Nat.reduceAdd]; rfl) ⟨?_, ?_, ?_, ?_, ?_, ?_, ?_, ?_, ?_, ?_, trivial⟩ ?_
        · refine oweAs_pure ((.slice A k c)) rfl (fun f W hE hd => ?_) (fun W hE => rfl)
          go_simp
        · refine oweAs_pure ((.string s)) rfl (fun f W hE hd => ?_) (fun W hE => rfl)
          go_simp
        · refine oweAs_pure ((.int .i64 (k : Int))) rfl (fun f W hE hd => ?_) (fun W hE => rfl)
          go_simp
        · refine oweAs_pure ((.int .u8 (at8 (sb s) k).toNat)) rfl (fun f W hE hd => ?_) (fun W hE => rfl)
          simp only [DepAs, Region.binds, asAt, As.holds, and_true, forall_const] at hd
          have hsk : ((s[k]).toNat : Int) = ((at8 (sb s) k).toNat : Int) := by rw [sb_get s hlt]
          go_simp
        · refine oweAs_pure ((.int .i64 (k : Int))) rfl (fun f W hE hd => ?_) (fun W hE => rfl)
          go_simp
        · refine oweAs_pure ((.int .i64 (0 : Int))) rfl (fun f W hE hd => ?_) (fun W hE => rfl)
          simp only [DepAs, Region.binds, asAt, As.holds, and_true, forall_const] at hd
          have hkt : (k : Int).tmod 64 = (0 : Int) := by rw [Int.tmod_eq_emod_of_nonneg (by omega)]; exact hkr
          go_simp
        · refine oweAs_pure ((.pointer (some ⟨g + 2, 0, none⟩))) rfl (fun f W hE hd => ?_) (fun W hE => rfl)
          simp only [DepAs, Region.binds, asAt, As.holds, and_true, forall_const] at hd
          go_simp
        · refine oweAs_pure ((.int .u8 (at8 pt 0).toNat)) rfl (fun f W hE hd => ?_) (fun W hE => rfl)
          simp only [DepAs, Region.binds, asAt, As.holds, and_true, forall_const] at hd
          have c0 := (HJ.out.2.2.2.1.below hE HJ.out.2.2.2.1.lt).byte (i := 0) (by omega)
          go_simp
        · refine oweAs_pure ((.int .u8 (at8 (sb s) k ^^^ at8 pt 0).toNat)) rfl (fun f W hE hd => ?_) (fun W hE => rfl)
          simp only [DepAs, Region.binds, asAt, As.holds, and_true, forall_const] at hd
          have hx := xor8_rule (at8 (sb s) k) (at8 pt 0)
          go_simp
        · refine oweAs_made rfl (fun f W hE hd => ?_)
          simp only [DepAs, Region.binds, asAt, As.holds, and_true, forall_const] at hd
          refine ⟨_, _, by (go_simp; first | exact rfl | exact ⟨rfl, rfl⟩), ?_, (Below.refl W.heap.size W).alloc (Nat.le_refl _) _⟩
          exact ⟨_, rfl, hE.size, Blk.new _ _ _⟩
        intro f W hE hA
        simp only [AllAs, As.holds, Nat.reduceAdd] at hA
        obtain ⟨hA0, -, -, -, -, -, -, -, -, hA9, -⟩ := hA
        simp only [List.drop_succ_cons, List.drop_zero]
        obtain ⟨q, hq, hqb, hbq⟩ := hA9
        rw [hA0, hq]
        have HW : Hid (OwnB W (g + 3) (.slice A k c) ((overS key nonce (sb s)).take k) ∧ Blk W g 23 (bvs key) ∧ Blk W (g + 1) 48 (bvs nonce) ∧ Blk W (g + 2) 65 (bvs pt) ∧ Below g w W ∧ g + 3 ≤ W.heap.size ∧ Blk W q 5 #[.int .u8 ((at8 (sb s) k ^^^ at8 pt 0).toNat : Int)]) := Lib.hid ⟨HJ.out.1.below hE (Nat.le_refl _), HJ.out.2.1.below hE HJ.out.2.1.lt, HJ.out.2.2.1.below hE HJ.out.2.2.1.lt, HJ.out.2.2.2.1.below hE HJ.out.2.2.2.1.lt, HJ.out.2.2.2.2.1.trans (hE.mono (by have := HJ.out.2.2.2.2.2; omega)), Nat.le_trans HJ.out.2.2.2.2.2 hE.size, hbq⟩
        clear hE hq hqb hbq HJ
        go_wp2_with (
          (at_builtin
           refine wpList_append_byte rfl (.tmp 25) (.tmp 34) 25 rfl (g + 3) 5 i8 Tryd.underlying25 HI8.out hz8 hsz8 hby8 _ _ rfl HW.out.1 q 1 (at8 (sb s) k ^^^ at8 pt 0) rfl (HW.out.2.2.2.2.2.2.cell 0) (by rw [hlen]; omega) HW.out.2.2.2.2.2.1 ?_
           intro v2 w2 ho2 hb2
           have hz := HW.out.2.2.2.2.2.1
           have HS : Hid (OwnB w2 (g + 3) v2 ((overS key nonce (sb s)).take (k + 1)) ∧ Blk w2 g 23 (bvs key) ∧ Blk w2 (g + 1) 48 (bvs nonce) ∧ Blk w2 (g + 2) 65 (bvs pt) ∧ Below g w w2 ∧ g + 3 ≤ w2.heap.size) := Lib.hid ⟨ho2.mk_eq (by rw [take_snoc_over key nonce s hlt, HPT.out, ← HR.out]), HW.out.2.1.below hb2 (by omega), HW.out.2.2.1.below hb2 (by omega), HW.out.2.2.2.1.below hb2 (by omega), HW.out.2.2.2.2.1.trans (hb2.mono (by omega)), by have := hb2.size; omega⟩
           clear HW ho2 hb2 hz))
        go_roundw
        case rel => exact ⟨k + 1, by omega, by go_num, HS.out.1, HS.out.2.1, HS.out.2.2.1, ⟨pt, HS.out.2.2.2.1, hptl, fun h => by rw [HPT.out, show (k + 1) / 64 = k / 64 by omega]⟩, HS.out.2.2.2.2⟩
        case measure => simp [intOf]; omega
      · obtain ⟨hO, hK, hN, ⟨pt, hP, hptl, hpt⟩, hB, hz⟩ := hI
        have hpt2 := hpt (by omega)
        have HPT := Lib.hid hpt2
        have HJ := Lib.hid (And.intro hO (And.intro hK (And.intro hN (And.intro hP (And.intro hB hz)))))
        have hr0 : ¬ (r : Int) = 0 := by omega
        clear hO hK hN hP hpt hB hz hpt2 hr
        go_wp2_with fail
        refine wp_region_tail2 10 [.eq (.slice A k c), .eq (.string s), .eq (.int .i64 (k : Int)), .eq (.int .u8 (at8 (sb s) k).toNat), .eq (.int .i64 (k : Int)), .eq (.int .i64 (r : Int)), .eq (.pointer (some ⟨g + 2, r, none⟩)), .eq (.int .u8 (at8 pt r).toNat), .eq (.int .u8 (at8 (sb s) k ^^^ at8 pt r).toNat), .st (fun u W => OneB W wr.heap.size u (at8 (sb s) k ^^^ at8 pt r)) (fun _ _ _ h hb => h.keep hb)] (by kernel_rfl) (by kernel_rfl) (by kernel_rfl) (by kernel_rfl) rfl (by decide) (by kernel_rfl) _ (fun f => by simp only [framedL, Act.put, maskF, oldF, Nat.reduceLT, reduceIte, List.getElem?_toArray, List.getElem?_cons_succ, List.getElem?_cons_zero, Option.bind_some, Option.map_some, Option.map_none, Option.getD_some, Option.getD_none, Array.getD_eq_getD_getElem?, List.setIfInBounds_toArray, List.set_cons_zero, List.set_cons_succ, Nat.reduceAdd]; rfl) ⟨?_, ?_, ?_, ?_, ?_, ?_, ?_, ?_, ?_, ?_, trivial⟩ ?_
        · refine oweAs_pure ((.slice A k c)) rfl (fun f W hE hd => ?_) (fun W hE => rfl)
          go_simp
        · refine oweAs_pure ((.string s)) rfl (fun f W hE hd => ?_) (fun W hE => rfl)
          go_simp
        · refine oweAs_pure ((.int .i64 (k : Int))) rfl (fun f W hE hd => ?_) (fun W hE => rfl)
          go_simp
        · refine oweAs_pure ((.int .u8 (at8 (sb s) k).toNat)) rfl (fun f W hE hd => ?_) (fun W hE => rfl)
          simp only [DepAs, Region.binds, asAt, As.holds, and_true, forall_const] at hd
          have hsk : ((s[k]).toNat : Int) = ((at8 (sb s) k).toNat : Int) := by rw [sb_get s hlt]
          go_simp
        · refine oweAs_pure ((.int .i64 (k : Int))) rfl (fun f W hE hd => ?_) (fun W hE => rfl)
          go_simp
        · refine oweAs_pure ((.int .i64 (r : Int))) rfl (fun f W hE hd => ?_) (fun W hE => rfl)
          simp only [DepAs, Region.binds, asAt, As.holds, and_true, forall_const] at hd
          have hkt : (k : Int).tmod 64 = (r : Int) := by rw [Int.tmod_eq_emod_of_nonneg (by omega)]; exact hkr
          go_simp
        · refine oweAs_pure ((.pointer (some ⟨g + 2, r, none⟩))) rfl (fun f W hE hd => ?_) (fun W hE => rfl)
          simp only [DepAs, Region.binds, asAt, As.holds, and_true, forall_const] at hd
          go_simp
        · refine oweAs_pure ((.int .u8 (at8 pt r).toNat)) rfl (fun f W hE hd => ?_) (fun W hE => rfl)
          simp only [DepAs, Region.binds, asAt, As.holds, and_true, forall_const] at hd
          have c0 := (HJ.out.2.2.2.1.below hE HJ.out.2.2.2.1.lt).byte (i := r) (by omega)
          go_simp
        · refine oweAs_pure ((.int .u8 (at8 (sb s) k ^^^ at8 pt r).toNat)) rfl (fun f W hE hd => ?_) (fun W hE => rfl)
          simp only [DepAs, Region.binds, asAt, As.holds, and_true, forall_const] at hd
          have hx := xor8_rule (at8 (sb s) k) (at8 pt r)
          go_simp
        · refine oweAs_made rfl (fun f W hE hd => ?_)
          simp only [DepAs, Region.binds, asAt, As.holds, and_true, forall_const] at hd
          refine ⟨_, _, by (go_simp; first | exact rfl | exact ⟨rfl, rfl⟩), ?_, (Below.refl W.heap.size W).alloc (Nat.le_refl _) _⟩
          exact ⟨_, rfl, hE.size, Blk.new _ _ _⟩
        intro f W hE hA
        simp only [AllAs, As.holds, Nat.reduceAdd] at hA
        obtain ⟨hA0, -, -, -, -, -, -, -, -, hA9, -⟩ := hA
        simp only [List.drop_succ_cons, List.drop_zero]
        obtain ⟨q, hq, hqb, hbq⟩ := hA9
        rw [hA0, hq]
        have HW : Hid (OwnB W (g + 3) (.slice A k c) ((overS key nonce (sb s)).take k) ∧ Blk W g 23 (bvs key) ∧ Blk W (g + 1) 48 (bvs nonce) ∧ Blk W (g + 2) 65 (bvs pt) ∧ Below g w W ∧ g + 3 ≤ W.heap.size ∧ Blk W q 5 #[.int .u8 ((at8 (sb s) k ^^^ at8 pt r).toNat : Int)]) := Lib.hid ⟨HJ.out.1.below hE (Nat.le_refl _), HJ.out.2.1.below hE HJ.out.2.1.lt, HJ.out.2.2.1.below hE HJ.out.2.2.1.lt, HJ.out.2.2.2.1.below hE HJ.out.2.2.2.1.lt, HJ.out.2.2.2.2.1.trans (hE.mono (by have := HJ.out.2.2.2.2.2; omega)), Nat.le_trans HJ.out.2.2.2.2.2 hE.size, hbq⟩
        clear hE hq hqb hbq HJ
        go_wp2_with (
          (at_builtin
           refine wpList_append_byte rfl (.tmp 25) (.tmp 34) 25 rfl (g + 3) 5 i8 Tryd.underlying25 HI8.out hz8 hsz8 hby8 _ _ rfl HW.out.1 q 1 (at8 (sb s) k ^^^ at8 pt r) rfl (HW.out.2.2.2.2.2.2.cell 0) (by rw [hlen]; omega) HW.out.2.2.2.2.2.1 ?_
           intro v2 w2 ho2 hb2
           have hz := HW.out.2.2.2.2.2.1
           have HS : Hid (OwnB w2 (g + 3) v2 ((overS key nonce (sb s)).take (k + 1)) ∧ Blk w2 g 23 (bvs key) ∧ Blk w2 (g + 1) 48 (bvs nonce) ∧ Blk w2 (g + 2) 65 (bvs pt) ∧ Below g w w2 ∧ g + 3 ≤ w2.heap.size) := Lib.hid ⟨ho2.mk_eq (by rw [take_snoc_over key nonce s hlt, HPT.out, ← HR.out]), HW.out.2.1.below hb2 (by omega), HW.out.2.2.1.below hb2 (by omega), HW.out.2.2.2.1.below hb2 (by omega), HW.out.2.2.2.2.1.trans (hb2.mono (by omega)), by have := hb2.size; omega⟩
           clear HW ho2 hb2 hz))
        go_roundw
        case rel => exact ⟨k + 1, by omega, by go_num, HS.out.1, HS.out.2.1, HS.out.2.2.1, ⟨pt, HS.out.2.2.2.1, hptl, fun h => by rw [HPT.out, show (k + 1) / 64 = k / 64 by omega]⟩, HS.out.2.2.2.2⟩
        case measure => simp [intOf]; omega
    · obtain rfl : k = s.size := by omega
      have hfull : (overS key nonce (sb s)).take s.size = overS key nonce (sb s) := List.take_of_length_le (by rw [overS_length, hsl]; exact Nat.le_refl _)
      rw [hfull] at hI
      have hcv := (hI.1.hb).str Tryd.underlying25 Tryd.underlying5 Tryd.underlying9
      have HI := Lib.hid hI; clear hI hfull hlen
      go_wp2_with fail
      go_ret
      rw [← HG.out]
      exact ⟨rfl, HI.out.2.2.2.2.1⟩
end Go.Proofs.YtbicdobnnanlkaaDoor
