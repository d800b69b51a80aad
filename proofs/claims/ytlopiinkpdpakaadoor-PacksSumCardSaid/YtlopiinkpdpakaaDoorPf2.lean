/-
  The walks of proof.pair and crown.
-/
import Derived.Test.YtlopiinkpdpakaaDoorPf1
namespace Go.Proofs.YtlopiinkpdpakaaDoor
open Go Go.RowKit
set_option linter.unusedSimpArgs false
set_option linter.unusedVariables false

theorem hbs_new3 {w : World} {u1 u2 u3 : Value} {l1 l2 l3 : List UInt8} (h1 : HB w u1 l1) (h2 : HB w u2 l2) (h3 : HB w u3 l3) (t : TypeId) : HBs (w.alloc (.cells #[u1, u2, u3] t)) (.slice (some ⟨w.heap.size, 0, none⟩) 3 3) [l1, l2, l3] := by
  refine ⟨_, 3, rfl, Nat.le_refl _, by simp [maxLen], (fun h => by cases h), fun _ => ⟨w.heap.size, 0, rfl, fun i x hx => ?_⟩⟩
  rw [Nat.zero_add]
  match i with
  | 0 => simp at hx; subst hx; exact ⟨u1, (Blk.new w t _).cell 0, h1.alloc _⟩
  | 1 => simp at hx; subst hx; exact ⟨u2, (Blk.new w t _).cell 1, h2.alloc _⟩
  | 2 => simp at hx; subst hx; exact ⟨u3, (Blk.new w t _).cell 2, h3.alloc _⟩
  | i + 3 => simp at hx

set_option maxRecDepth 100000 in
set_option maxHeartbeats 1000000 in
theorem pair_any (a b : Dig) (w : World) (ha : a.length = 32) (hb : b.length = 32) :
    Calls Tryd.prog 48 #[.agg (bvs a), .agg (bvs b)] w fun e w' => ∃ v', e = .returned v' ∧ w'.ownsRow w.heap.size 5 1 v' 65 ((nodeP a b).map bcv) ∧ Below w.heap.size w w' := by
  have hla : (nodeP a b).length = 65 := by simp [nodeP]; omega
  have hfl : ([[1], a, b] : List (List UInt8)).flatten = nodeP a b := by simp [nodeP]
  have HF := Lib.hid (And.intro hla hfl)
  clear hla hfl
  go_enter Tryd.func48, Tryd.ntmps48
  go_wp2_with fail
  refine wp_abs (fun W => ∃ g, g = w.heap.size ∧ Blk W g 36 (bvs a) ∧ Blk W (g + 1) 36 (bvs b) ∧ Below g w W) ⟨_, rfl, ?_, ?_, ?_⟩ ?_
  · exact (Blk.new w _ _).alloc _
  · exact Blk.new' (w := w.alloc _) (by simp) _ _
  · exact ((Below.refl w.heap.size w).alloc (Nat.le_refl _) _).alloc (by simp) _
  rintro W0 ⟨g, hg, hI⟩
  rw [← hg]
  have HI := Lib.hid hI
  have HG := Lib.hid hg
  have hgz : g + 1 < W0.heap.size := hI.2.1.lt
  clear hI hg
  refine wp_region_tail2 5 [.hb [1], .eq (.slice (some ⟨g, 0, none⟩) 32 32), .eq (.slice (some ⟨g + 1, 0, none⟩) 32 32), .st (fun v W => HBs W v [[1], a, b]) (fun v W W' h hb => h.keep hb), .st (fun v W => W.ownsRow g 5 1 v 65 ((nodeP a b).map bcv)) (fun v W W' h hb => own_below h hb)] (by kernel_rfl) (by kernel_rfl) (by kernel_rfl) (by kernel_rfl) rfl (by decide) (by kernel_rfl) _ (fun f => by simp only [framedL, Act.put, maskF, oldF, Nat.reduceLT, reduceIte, List.getElem?_toArray, List.getElem?_cons_succ, List.getElem?_cons_zero, Option.bind_some, Option.map_some, Option.map_none, Option.getD_some, Option.getD_none, Array.getD_eq_getD_getElem?, List.setIfInBounds_toArray, List.set_cons_zero, List.set_cons_succ, Nat.reduceAdd]; rfl) ⟨?_, ?_, ?_, ?_, ?_, trivial⟩ ?_
  · refine oweAs_made rfl (fun f W hE hd => ?_)
    simp only [DepAs, Region.binds, asAt, As.holds, and_true, forall_const] at hd
    refine ⟨_, _, by (go_simp; first | exact rfl | exact ⟨rfl, rfl⟩), ?_, (Below.refl W.heap.size W).alloc (Nat.le_refl _) _⟩
    exact hb_new1 W 5 1
  · refine oweAs_pure ((.slice (some ⟨g, 0, none⟩) 32 32)) rfl (fun f W hE hd => ?_) (fun W hE => rfl)
    simp only [DepAs, Region.binds, asAt, As.holds, and_true, forall_const] at hd
    go_simp
  · refine oweAs_pure ((.slice (some ⟨g + 1, 0, none⟩) 32 32)) rfl (fun f W hE hd => ?_) (fun W hE => rfl)
    simp only [DepAs, Region.binds, asAt, As.holds, and_true, forall_const] at hd
    go_simp
  · refine oweAs_made rfl (fun f W hE hd => ?_)
    simp only [DepAs, Region.binds, asAt, As.holds, and_true, forall_const] at hd
    obtain ⟨p1, c1, e1, hr1⟩ := id hd.1
    have h1 := (⟨p1, c1, rfl, hr1⟩ : HB W (.slice p1 ([1] : List UInt8).length c1) [1])
    have h2 := HB.blk (HI.out.1.below hE HI.out.1.lt) ha (by decide)
    have h3 := HB.blk (HI.out.2.1.below hE HI.out.2.1.lt) hb (by decide)
    have hN := hbs_new3 h1 h2 h3 24
    refine ⟨_, _, by (go_simp; first | exact rfl | exact ⟨rfl, rfl⟩), ?_, (Below.refl W.heap.size W).alloc (Nat.le_refl _) _⟩
    exact hN
  · refine oweAs_call 59 rfl (fun f W hE hd => ?_)
    simp only [DepAs, Region.binds, asAt, As.holds, and_true, forall_const] at hd
    refine ⟨_, by (go_simp; first | exact rfl | exact ⟨rfl, rfl⟩), ?_⟩
    have hz := hE.size
    refine (concat_any _ [[1], a, b] W hd (by rw [HF.out.2, HF.out.1]; omega) (by rw [HF.out.2, HF.out.1]; omega) (by simp)).mono ?_
    rintro e w' ⟨v', rfl, ho, hb'⟩
    rw [HF.out.2, HF.out.1] at ho
    exact ⟨_, rfl, own_base ho (by omega), hb'⟩
  intro f W hE hA
  simp only [AllAs, As.holds, Nat.reduceAdd] at hA
  obtain ⟨-, -, -, -, hA4, -⟩ := hA
  simp only [List.drop_succ_cons, List.drop_zero]
  have HJ := Lib.hid (And.intro hA4 (HI.out.2.2.trans (hE.mono (by omega))))
  clear hE hA4
  obtain ⟨x, hx⟩ : ∃ x, x = f 4 := ⟨_, rfl⟩
  rw [← hx] at HJ ⊢
  clear hx
  go_wp2_with fail
  go_ret
  rw [← HG.out]
  exact ⟨_, rfl, HJ.out⟩

set_option maxRecDepth 100000 in
set_option maxHeartbeats 1000000 in
theorem crown_any (n : Nat) (a : Dig) (w : World) (hn : n < 9223372036854775808) (ha : a.length = 32) :
    Calls Tryd.prog 41 #[.int .i64 (n : Int), .agg (bvs a)] w fun e w' => ∃ v', e = .returned v' ∧ w'.ownsRow w.heap.size 5 1 v' 41 ((crownP n a).map bcv) ∧ Below w.heap.size w w' := by
  obtain ⟨i8, hi8, hz8, hsz8, hby8⟩ := info8
  have HI8 := Lib.hid hi8; clear hi8
  go_enter Tryd.func41, Tryd.ntmps41
  go_wp2_with fail
  refine wp_abs (fun W => ∃ g, g = w.heap.size ∧ Blk W g 36 (bvs a) ∧ W.ownsRow (g + 1) 5 1 (.slice (some ⟨g + 1, 0, none⟩) 1 1) 1 (([2] ++ (le8 n).take 0).map bcv) ∧ Below g w W ∧ g + 1 ≤ W.heap.size) ⟨_, rfl, ?_, ?_, ?_, ?_⟩ ?_
  · exact (Blk.new w _ _).alloc _
  · have h := own_new1 (w.alloc (.cells (bvs a) 36)) 5 2
    rw [World.size_alloc] at h
    exact h
  · exact ((Below.refl w.heap.size w).alloc (Nat.le_refl _) _).alloc (by simp) _
  · simp
  rintro W0 ⟨g, hg, hI⟩
  rw [← hg]
  have HI := Lib.hid hI
  have HG := Lib.hid hg
  clear hI hg
  go_loopw [5, 8] (fun v i wr => ∃ k : Nat, k ≤ 8 ∧ i = .int .i64 (k : Int) ∧ Blk wr g 36 (bvs a) ∧ wr.ownsRow (g + 1) 5 1 v (1 + k) (([2] ++ (le8 n).take k).map bcv) ∧ Below g w wr ∧ g + 1 ≤ wr.heap.size) (fun _ i _ => 8 - (intOf i).toNat)
  case atStart => exact ⟨0, by omega, rfl, HI.out⟩
  case round =>
    clear HI
    obtain ⟨k, hk, rfl, hI⟩ := hrel
    obtain ⟨A, c, rfl⟩ := own_form hI.2.1
    have hz := hI.2.2.2
    have HI := Lib.hid hI
    clear hI
    by_cases hlt : k < 8
    · have HTk := Lib.hid (le8_take n hlt)
      have hnw : IntKind.u64.wrap (n : Int) = (n : Int) := by rw [IntKind.wrap_u64]; omega
      have hki : (k : Int) < 8 := by omega
      have HNN := Lib.hid hn
      clear hn
      have HQ : Hid ((n : Int) / 2 ^ (8 * k) % 256 = ((UInt8.ofNat (n / 256 ^ k)).toNat : Int)) := Lib.hid (by
        have e : (n : Int) / 2 ^ (8 * k) = ((n / 256 ^ k : Nat) : Int) := by
          rw [show (256 : Nat) ^ k = 2 ^ (8 * k) by rw [Nat.pow_mul]]
          simp
        rw [e, UInt8.toNat_ofNat']
        omega)
      go_wp2_with (
        (at_builtin
         refine wpList_append_hb rfl (.tmp 11) (.tmp 18) 24 rfl (g + 1) 5 i8 Tryd.underlying24 HI8.out hz8 hsz8 hby8 (.slice A (1 + k) c) (.slice (some ⟨wr.heap.size, 0, none⟩) 1 1) ([2] ++ (le8 n).take k) [UInt8.ofNat (n / 256 ^ k)] (1 + k) rfl (HI.out.2.1.alloc _) rfl (by rw [HQ.out]; exact hb_new1 wr _ _) (by simp; omega) (by simp; omega) ?_
         intro v2 w2 ho2 hg2
         have hB := (HI.out.2.2.1.alloc (by omega) (.cells #[.int .u8 ((n : Int) / 2 ^ (8 * k) % 256)] 5)).grown hg2 (by simp; omega) (fun j hj => by have := own_ge HI.out.2.1 j hj; omega)
         have HI2 : Hid (Blk w2 g 36 (bvs a) ∧ w2.ownsRow (g + 1) 5 1 v2 (1 + (k + 1)) (([2] ++ (le8 n).take (k + 1)).map bcv) ∧ Below g w w2 ∧ g + 1 ≤ w2.heap.size) := Lib.hid ⟨(HI.out.1.alloc _).grown hg2 (own_ne_blk HI.out.2.1 HI.out.1 (by decide)), by rw [HTk.out, ← List.append_assoc]; simpa [Nat.add_assoc] using ho2, hB, by have := hg2.size; simp at this; omega⟩
         clear ho2 hg2 hB HI))
      go_roundw
      case rel => exact ⟨k + 1, by omega, by go_num, HI2.out⟩
      case measure => simp [intOf]; omega
    · obtain rfl : k = 8 := by omega
      have hall : (le8 n).take 8 = le8 n := List.take_of_length_le (by rw [le8_length]; exact Nat.le_refl _)
      rw [hall] at HI
      have HCP : Hid ([2] ++ le8 n ++ a = crownP n a) := Lib.hid (by simp [crownP])
      have HAL := Lib.hid ha
      clear hall
      go_wp2_with (
        (at_builtin
         have hA := HB.blk HI.out.1 ha (by decide)
         refine wpList_append_hb rfl (.tmp 21) (.tmp 22) 24 rfl (g + 1) 5 i8 Tryd.underlying24 HI8.out hz8 hsz8 hby8 (.slice A (1 + 8) c) (.slice (some ⟨g, 0, none⟩) 32 32) ([2] ++ le8 n) a (1 + 8) rfl HI.out.2.1 rfl hA (by rw [HAL.out]; omega) hz ?_
         intro v2 w2 ho2 hg2
         rw [HCP.out, HAL.out] at ho2
         have HI2 : Hid (w2.ownsRow (g + 1) 5 1 v2 (1 + 8 + 32) ((crownP n a).map bcv) ∧ Below g w w2) := Lib.hid ⟨ho2, HI.out.2.2.1.grown hg2 (by omega) (fun j hj => by have := own_ge HI.out.2.1 j hj; omega)⟩
         clear ho2 hg2 hA))
      go_ret
      rw [← HG.out]
      exact ⟨_, rfl, own_base HI2.out.1 (by omega), HI2.out.2⟩
end Go.Proofs.YtlopiinkpdpakaaDoor
