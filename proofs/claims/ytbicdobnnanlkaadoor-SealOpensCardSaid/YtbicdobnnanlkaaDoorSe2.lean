/-
  The walk of seal.nonce, and of the reference's.
-/
import Derived.Test.YtbicdobnnanlkaaDoorSe1
namespace Go.Proofs.YtbicdobnnanlkaaDoor
open Go Go.RowKit
set_option linter.unusedSimpArgs false
set_option linter.unusedVariables false

theorem splice_nonce (l : List UInt8) (h : 9 ≤ l.length) : splice (List.replicate 12 0) 0 ((l.drop 1).take 8) = nonceS (l.drop 1) := by
  have h2 : ((l.drop 1).take 8).length = 8 := by simp; omega
  simp only [splice, nonceS, List.take_zero, List.nil_append, Nat.zero_add, h2]
  rfl

set_option maxRecDepth 100000 in
set_option maxHeartbeats 1000000 in
theorem nonce_any (l : List UInt8) (v : Value) (w : World) (h : HB w v l) (hn : 9 ≤ l.length) :
    Calls Tryd.prog 17 #[v] w fun e w' => e = .returned (.agg (bvs (nonceS (l.drop 1)))) ∧ Below w.heap.size w w' := by
  obtain ⟨p, c, rfl, hl, hm⟩ := h.form
  obtain ⟨b, o, rfl, -⟩ := h.at_ (at8_get (l := l) (i := 0) (by omega))
  obtain ⟨n, hnn⟩ : ∃ n, n = l.length := ⟨_, rfl⟩
  have hs := (h.sub 1 9 c (by omega) (by omega) (by omega) (Nat.le_refl _))
  rw [if_neg (by omega)] at hs
  have HS : Hid (HB w (.slice (some ⟨b, o + 1, none⟩) 8 (c - 1)) ((l.drop 1).take 8)) := Lib.hid (by
    have e : (Option.map (fun x : Addr => x.add (1 * 1)) (some ⟨b, o, none⟩)) = some ⟨b, o + 1, none⟩ := by simp only [Option.map_some, Nat.one_mul]; rw [addi]
    rw [e] at hs
    exact hs)
  have HN := Lib.hid hnn
  rw [← hnn] at hl ⊢
  have hn9 : 9 ≤ n := by omega
  obtain ⟨z, hz⟩ : ∃ z, z = nonceS (l.drop 1) := ⟨_, rfl⟩
  have hzl : z.length = 12 := by rw [hz]; exact nonceS_length (by simp; omega)
  have hzz : (bvs z).size = 12 := by rw [bvs_size]; exact hzl
  have HZ := Lib.hid hz
  unfold maxLen at hm
  clear h hs hnn hz
  go_enter Tryd.func17, Tryd.ntmps17
  go_wp2_with fail
  refine wp_abs (fun W => ∃ g, g = w.heap.size ∧ Blk W g 48 (bvs (List.replicate 12 0)) ∧ Blk W (g + 1) 48 (bvs (List.replicate 12 0)) ∧ Below g w W) ⟨_, rfl, ?_, ?_, ?_⟩ ?_
  · exact (Blk.new w _ _).alloc _
  · exact Blk.new' (w := w.alloc _) (by simp) _ _
  · exact ((Below.refl w.heap.size w).alloc (Nat.le_refl _) _).alloc (by simp) _
  rintro W0 ⟨g, hg, hI⟩
  rw [← hg]
  have HG := Lib.hid hg
  have HI := Lib.hid hI
  clear hI hg
  refine wp_region_tail2 3 [.eq (.slice (some ⟨g + 1, 0, none⟩) 12 12), .eq (.slice (some ⟨b, o, none⟩) n c), .eq (.slice (some ⟨b, o + 1, none⟩) 8 (c - 1))] (by kernel_rfl) (by kernel_rfl) (by kernel_rfl) (by kernel_rfl) rfl (by decide) (by kernel_rfl) _ (fun f => by simp only [framedL, Act.put, maskF, oldF, Nat.reduceLT, reduceIte, List.getElem?_toArray, List.getElem?_cons_succ, List.getElem?_cons_zero, Option.bind_some, Option.map_some, Option.map_none, Option.getD_some, Option.getD_none, Array.getD_eq_getD_getElem?, List.setIfInBounds_toArray, List.set_cons_zero, List.set_cons_succ, Nat.reduceAdd]; rfl) ⟨?_, ?_, ?_, trivial⟩ ?_
  · refine oweAs_pure ((.slice (some ⟨g + 1, 0, none⟩) 12 12)) rfl (fun f W hE hd => ?_) (fun W hE => rfl)
    go_simp
  · refine oweAs_pure ((.slice (some ⟨b, o, none⟩) n c)) rfl (fun f W hE hd => ?_) (fun W hE => rfl)
    go_simp
  · refine oweAs_pure ((.slice (some ⟨b, o + 1, none⟩) 8 (c - 1))) rfl (fun f W hE hd => ?_) (fun W hE => rfl)
    simp only [DepAs, Region.binds, asAt, As.holds, and_true, forall_const] at hd
    have hc1 : ¬ c = 1 := by omega
    have hc9 : ¬ (c : Int) < 9 := by omega
    go_simp
  intro f W hE hA
  simp only [AllAs, As.holds, Nat.reduceAdd] at hA
  obtain ⟨hA0, -, hA2, -⟩ := hA
  simp only [List.drop_succ_cons, List.drop_zero]
  rw [hA0, hA2]
  have HE := Lib.hid (And.intro (HI.out.1.below hE HI.out.1.lt) (And.intro (HI.out.2.1.below hE HI.out.2.1.lt) (And.intro (HI.out.2.2.trans (hE.mono (by have := HI.out.1.lt; omega))) (HS.out.keepG (fun b o u hu => (hE.cell (p := ⟨b, o, none⟩) (by
      have h1 := HI.out.1.lt
      have h2 := lt_of_cell hu
      have h3 := HG.out
      show b < _; omega)).trans ((HI.out.2.2.cell (p := ⟨b, o, none⟩) (by rw [HG.out]; exact lt_of_cell hu)).trans hu))))))
  clear hE hA0 hA2
  go_wp2_with (first
    | (refine wpList_copy_blk rfl (.tmp 4) (.tmp 6) 25 25 rfl 5 Tryd.underlying25 (by kernel_rfl) 12 12 _ (g + 1) 0 48 (List.replicate 12 0) ((l.drop 1).take 8) rfl rfl HE.out.2.1 HE.out.2.2.2 (by simp; omega) (by simp; omega) ?_
       intro w2 hb2 hg2 hz2
       rw [splice_nonce l (by rw [← HN.out]; exact hn9), ← HZ.out] at hb2
       have HJ : Hid (Blk w2 (g + 1) 48 (bvs z) ∧ Blk w2 g 48 (bvs (List.replicate 12 0)) ∧ Below g w w2) := Lib.hid ⟨hb2, HE.out.1.grown hg2 (by intro h; injection h with h; omega), HE.out.2.2.1.grown hg2 (by have := HE.out.1.lt; omega) (by intro k hk; injection hk with hk; omega)⟩
       clear hb2 hg2 hz2 HE)
    | (refine wpList_load_blk rfl 48 (.tmp 3) rfl (g + 1) 48 (bvs z) rfl HJ.out.1 Tryd.underlying48 rfl (by rw [hzz]; kernel_rfl) ?_)
    | (refine wpList_store_blk rfl 48 (.tmp 2) (.tmp 8) rfl g 48 _ (bvs z) rfl rfl HJ.out.2.1 (by rw [hzz]; rfl) (by rw [hzz]; kernel_rfl) (bvs_one _) ?_
       intro w4 hb4 hg4 hz4))
  refine bodyPost_ret (results_cell Tryd.results17 rfl (t := 48) (g := g) (cs := bvs z) hb4 Tryd.underlying48 rfl (by rw [hzz]; kernel_rfl)) rfl ⟨by rw [HZ.out], ?_⟩
  rw [← HG.out]
  exact HJ.out.2.2.grown hg4 (by have := HJ.out.2.1.lt; omega) (by intro k hk; injection hk with hk; omega)

/-- the first k of eight bytes, and noughts -/
def nonF (l : List UInt8) (k : Nat) : List UInt8 := l.take k ++ List.replicate (12 - k) 0
theorem nonF_length (l : List UInt8) {k : Nat} (h : k ≤ 8) (hl : 8 ≤ l.length) : (nonF l k).length = 12 := by simp [nonF]; omega
theorem nonF_set (l : List UInt8) {k : Nat} (h : k < 8) (hl : 8 ≤ l.length) : (nonF l k).set k (at8 l k) = nonF l (k + 1) := by
  have hk : k < l.length := by omega
  have e : List.replicate (12 - k) (0 : UInt8) = 0 :: List.replicate (12 - (k + 1)) 0 := by
    rw [show 12 - k = (12 - (k + 1)) + 1 by omega, List.replicate_succ]
  unfold nonF
  rw [List.set_append_right _ _ (by rw [List.length_take]; exact Nat.min_le_left _ _), e]
  have e2 : k - (l.take k).length = 0 := by simp; omega
  rw [e2, List.set_cons_zero, List.take_add_one, at8_get hk]
  simp

set_option maxRecDepth 100000 in
set_option maxHeartbeats 1000000 in
theorem refNonce_any (s : ByteArray) (w : World) (hn : 8 ≤ s.size) (hm : s.size ≤ 1000000) :
    Calls Tryd.prog 22 #[.string s] w fun e w' => e = .returned (.agg (bvs (nonceS (sb s)))) ∧ Below w.heap.size w w' := by
  have hsl : 8 ≤ (sb s).length := by rw [sb_length]; exact hn
  obtain ⟨z, hz⟩ : ∃ z, z = nonceS (sb s) := ⟨_, rfl⟩
  have hzl : z.length = 12 := by rw [hz]; exact nonceS_length hsl
  have hzz : (bvs z).size = 12 := by rw [bvs_size]; exact hzl
  have HZ : Hid (nonF (sb s) 8 = z) := Lib.hid (by rw [hz]; rfl)
  have HZ2 := Lib.hid hz
  clear hz
  go_enter Tryd.func22, Tryd.ntmps22
  go_wp2_with fail
  refine wp_abs (fun W => ∃ g, g = w.heap.size ∧ Blk W (g + 1) 48 (bvs (nonF (sb s) 0)) ∧ Blk W g 48 (bvs (List.replicate 12 0)) ∧ Below g w W) ⟨_, rfl, ?_, ?_, ?_⟩ ?_
  · exact Blk.new' (w := w.alloc _) (by simp) _ _
  · exact (Blk.new w _ _).alloc _
  · exact ((Below.refl w.heap.size w).alloc (Nat.le_refl _) _).alloc (by simp) _
  rintro W0 ⟨g, hg, hI⟩
  rw [← hg]
  have HG := Lib.hid hg
  have HI := Lib.hid hI
  clear hI hg
  go_loopw [4] (fun i wr => ∃ k : Nat, k ≤ 8 ∧ i = .int .i64 k ∧ Blk wr (g + 1) 48 (bvs (nonF (sb s) k)) ∧ Blk wr g 48 (bvs (List.replicate 12 0)) ∧ Below g w wr) (fun i _ => 8 - (intOf i).toNat)
  case atStart => exact ⟨0, by omega, rfl, HI.out⟩
  case round =>
    clear HI
    obtain ⟨k, hk, rfl, hI⟩ := hrel
    by_cases hlt : k < 8
    · have hks : k < s.size := by omega
      have hki : (k : Int) < (s.size : Int) := by omega
      have hk12 : (k : Int) < 12 := by omega
      have HX : Hid (((s[k]).toNat : Int) = ((at8 (sb s) k).toNat : Int)) := Lib.hid (by rw [sb_get s hks])
      have c0 := hI.1.byte (i := k) (by rw [nonF_length _ hk hsl]; omega)
      have f0 := hI.1.frozen k
      have HI := Lib.hid hI; clear hI
      go_wp2_with fail
      rw [HX.out]
      go_roundw
      case rel =>
        refine ⟨k + 1, by omega, by go_num, ?_, HI.out.2.1.other (by show g ≠ g + 1; omega) _, HI.out.2.2.setCell (p := ⟨g + 1, k, none⟩) (by show g ≤ g + 1; omega) _⟩
        rw [← nonF_set _ hlt hsl]
        exact HI.out.1.byte_store _ _
      case measure => simp [intOf]; omega
    · obtain rfl : k = 8 := by omega
      rw [HZ.out] at hI
      have HJ := Lib.hid hI; clear hI
      go_wp2_with (first
        | (refine wpList_load_blk rfl 48 (.tmp 3) rfl (g + 1) 48 (bvs z) rfl HJ.out.1 Tryd.underlying48 rfl (by rw [hzz]; kernel_rfl) ?_)
        | (refine wpList_store_blk rfl 48 (.tmp 2) (.tmp 14) rfl g 48 _ (bvs z) rfl rfl HJ.out.2.1 (by rw [hzz]; rfl) (by rw [hzz]; kernel_rfl) (bvs_one _) ?_
           intro w4 hb4 hg4 hz4))
      refine bodyPost_ret (results_cell Tryd.results22 rfl (t := 48) (g := g) (cs := bvs z) hb4 Tryd.underlying48 rfl (by rw [hzz]; kernel_rfl)) rfl ⟨by rw [HZ2.out], ?_⟩
      rw [← HG.out]
      exact HJ.out.2.2.grown hg4 (by have := HJ.out.2.1.lt; omega) (by intro k hk; injection hk with hk; omega)
end Go.Proofs.YtbicdobnnanlkaaDoor
