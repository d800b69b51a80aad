/-
  The document's node and crown.
-/
import Derived.Test.YtlopiinkpdpakaaDoorPf4
import Derived.Test.YtlopiinkpdpakaaDoorNm
import Derived.Test.YtlopiinkpdpakaaDoorGB
import Derived.Test.YtlopiinkpdpakaaDoorGE
namespace Go.Proofs.YtlopiinkpdpakaaDoor
open Go Go.RowKit
set_option linter.unusedSimpArgs false
set_option linter.unusedVariables false

theorem bs_add (a b : List UInt8) : bs a ++ bs b = bs (a ++ b) := by
  apply ByteArray.ext
  simp [bs]

set_option maxRecDepth 100000 in
set_option maxHeartbeats 2000000 in
theorem refNode_any (a b : Dig) (w : World) (ha : a.length = 32) (hb : b.length = 32) :
    Calls Tryd.prog 54 #[.agg (bvs a), .agg (bvs b)] w fun e w' => e = .returned (.agg (bvs (nodeD a b))) ∧ Below w.heap.size w w' := by
  obtain ⟨d, hd⟩ : ∃ d, d = nodeD a b := ⟨_, rfl⟩
  have hdl : d.length = 32 := by rw [hd]; exact sha_length _
  have hdz : (bvs d).size = 32 := by rw [bvs_size]; exact hdl
  rw [← hd]
  have HD : Hid (sha (1 :: a ++ b) = d) := Lib.hid (by rw [hd]; rfl)
  have hs1 : (⟨#[1]⟩ : ByteArray) ++ bs a = bs (1 :: a) := bs_add [1] a
  have hs2 : bs (1 :: a) ++ bs b = bs (1 :: a ++ b) := bs_add (1 :: a) b
  have hz1 : (bs a).size = 32 := by rw [bs_size]; exact ha
  have hz2 : (bs b).size = 32 := by rw [bs_size]; exact hb
  have hz3 : (bs (1 :: a)).size = 33 := by rw [bs_size, List.length_cons, ha]
  clear hd
  go_enter Tryd.func54, Tryd.ntmps54
  go_wp2_with fail
  refine wp_abs (fun W => ∃ g, g = w.heap.size ∧ Blk W g 36 (bvs a) ∧ Blk W (g + 1) 36 (bvs b) ∧ Blk W (g + 2) 36 (bvs (List.replicate 32 0)) ∧ Below g w W) ⟨_, rfl, ?_, ?_, ?_, ?_⟩ ?_
  · exact ((Blk.new w _ _).alloc _).alloc _
  · exact (Blk.new' (w := w.alloc _) (by simp) _ _).alloc _
  · exact Blk.new' (w := (w.alloc _).alloc _) (by simp) _ _
  · exact (((Below.refl w.heap.size w).alloc (Nat.le_refl _) _).alloc (by simp) _).alloc (by simp; omega) _
  rintro W0 ⟨g, hg, hI⟩
  rw [← hg]
  have HI := Lib.hid hI
  have HG := Lib.hid hg
  have HA := Lib.hid (HB.blk hI.1 ha (by decide))
  have HB' := Lib.hid (HB.blk hI.2.1 hb (by decide))
  have hgz : g + 2 < W0.heap.size := hI.2.2.1.lt
  clear hI hg
  refine wp_region_tail2 7 [.eq (.slice (some ⟨g, 0, none⟩) 32 32), .eq (.string (bs a)), .eq (.string (bs (1 :: a))), .eq (.slice (some ⟨g + 1, 0, none⟩) 32 32), .eq (.string (bs b)), .eq (.string (bs (1 :: a ++ b))), .eq (.agg (bvs d))] (by kernel_rfl) (by kernel_rfl) (by kernel_rfl) (by kernel_rfl) rfl (by decide) (by kernel_rfl) _ (fun f => by simp only [framedL, Act.put, maskF, oldF, Nat.reduceLT, reduceIte, List.getElem?_toArray, List.getElem?_cons_succ, List.getElem?_cons_zero, Option.bind_some, Option.map_some, Option.map_none, Option.getD_some, Option.getD_none, Array.getD_eq_getD_getElem?, List.setIfInBounds_toArray, List.set_cons_zero, List.set_cons_succ, Nat.reduceAdd]; rfl) ⟨?_, ?_, ?_, ?_, ?_, ?_, ?_, trivial⟩ ?_
  · refine oweAs_pure ((.slice (some ⟨g, 0, none⟩) 32 32)) rfl (fun f W hE hd => ?_) (fun W hE => rfl)
    go_simp
  · refine oweAs_pure ((.string (bs a))) rfl (fun f W hE hd => ?_) (fun W hE => rfl)
    simp only [DepAs, Region.binds, asAt, As.holds, and_true, forall_const] at hd
    have hcv := (HA.out.keep hE).str Tryd.underlying24 Tryd.underlying5 Tryd.underlying9
    go_simp
  · refine oweAs_pure ((.string (bs (1 :: a)))) rfl (fun f W hE hd => ?_) (fun W hE => rfl)
    simp only [DepAs, Region.binds, asAt, As.holds, and_true, forall_const] at hd
    go_simp
  · refine oweAs_pure ((.slice (some ⟨g + 1, 0, none⟩) 32 32)) rfl (fun f W hE hd => ?_) (fun W hE => rfl)
    go_simp
  · refine oweAs_pure ((.string (bs b))) rfl (fun f W hE hd => ?_) (fun W hE => rfl)
    simp only [DepAs, Region.binds, asAt, As.holds, and_true, forall_const] at hd
    have hcv := (HB'.out.keep hE).str Tryd.underlying24 Tryd.underlying5 Tryd.underlying9
    go_simp
  · refine oweAs_pure ((.string (bs (1 :: a ++ b)))) rfl (fun f W hE hd => ?_) (fun W hE => rfl)
    simp only [DepAs, Region.binds, asAt, As.holds, and_true, forall_const] at hd
    go_simp
  · refine oweAs_call 53 rfl (fun f W hE hd => ?_)
    simp only [DepAs, Region.binds, asAt, As.holds, and_true, forall_const] at hd
    refine ⟨_, by (go_simp; first | exact rfl | exact ⟨rfl, rfl⟩), ?_⟩
    refine (ref_any _ W (by rw [bs_size]; simp; omega)).mono ?_
    rintro e w' ⟨rfl, hb⟩
    exact ⟨_, rfl, by (show (_ : Value) = _; rw [sb_bs]; exact congrArg (fun z => Value.agg (bvs z)) HD.out), hb⟩
  intro f W hE hA
  simp only [AllAs, As.holds, Nat.reduceAdd] at hA
  obtain ⟨-, -, -, -, -, -, hA6, -⟩ := hA
  simp only [List.drop_succ_cons, List.drop_zero]
  rw [hA6]
  have HJ := Lib.hid (And.intro (HI.out.2.2.1.below hE HI.out.2.2.1.lt) (HI.out.2.2.2.trans (hE.mono (by omega))))
  clear hE hA6
  go_wp2_with (
    (refine wpList_store_blk rfl 36 (.tmp 4) (.tmp 11) rfl (g + 2) 36 _ (bvs d) rfl rfl HJ.out.1 (by rw [hdz]; rfl) (by rw [hdz]; kernel_rfl) (bvs_one _) ?_
     intro w4 hb4 hg4 hz4))
  refine bodyPost_ret (results_cell Tryd.results54 rfl (t := 36) (g := g + 2) (cs := bvs d) hb4 Tryd.underlying36 rfl (by rw [hdz]; kernel_rfl)) rfl ⟨rfl, ?_⟩
  rw [← HG.out]
  exact HJ.out.2.grown hg4 (by have := HJ.out.1.lt; omega) (by intro k hk; injection hk with hk; omega)

set_option maxRecDepth 100000 in
set_option maxHeartbeats 2000000 in
theorem refCrown_any (n : Nat) (a : Dig) (w : World) (hn : n ≤ 9223372036854775807) (ha : a.length = 32) :
    Calls Tryd.prog 44 #[.int .i64 (n : Int), .agg (bvs a)] w fun e w' => e = .returned (.agg (bvs (crownD n a))) ∧ Below w.heap.size w w' := by
  obtain ⟨d, hd⟩ : ∃ d, d = crownD n a := ⟨_, rfl⟩
  have hdl : d.length = 32 := by rw [hd]; exact sha_length _
  have hdz : (bvs d).size = 32 := by rw [bvs_size]; exact hdl
  rw [← hd]
  obtain ⟨m, hm⟩ : ∃ m, m = le8 n := ⟨_, rfl⟩
  have hml : m.length = 8 := by rw [hm]; exact le8_length _
  have HM := Lib.hid hm
  have HD : Hid (sha (2 :: m ++ a) = d) := Lib.hid (by rw [hd, hm]; rfl)
  have hs1 : (⟨#[2]⟩ : ByteArray) ++ bs m = bs (2 :: m) := bs_add [2] m
  have hs2 : bs (2 :: m) ++ bs a = bs (2 :: m ++ a) := bs_add (2 :: m) a
  have hz1 : (bs m).size = 8 := by rw [bs_size]; exact hml
  have hz2 : (bs a).size = 32 := by rw [bs_size]; exact ha
  have hz3 : (bs (2 :: m)).size = 9 := by rw [bs_size, List.length_cons, hml]
  have hw : IntKind.u64.wrap (n : Int) = (n : Int) := by rw [IntKind.wrap_u64]; omega
  clear hd hm
  go_enter Tryd.func44, Tryd.ntmps44
  go_wp2_with fail
  refine wp_abs (fun W => ∃ g, g = w.heap.size ∧ Blk W g 36 (bvs a) ∧ Blk W (g + 1) 36 (bvs (List.replicate 32 0)) ∧ Below g w W) ⟨_, rfl, ?_, ?_, ?_⟩ ?_
  · exact (Blk.new w _ _).alloc _
  · exact Blk.new' (w := w.alloc _) (by simp) _ _
  · exact ((Below.refl w.heap.size w).alloc (Nat.le_refl _) _).alloc (by simp) _
  rintro W0 ⟨g, hg, hI⟩
  rw [← hg]
  have HI := Lib.hid hI
  have HG := Lib.hid hg
  have HA := Lib.hid (HB.blk hI.1 ha (by decide))
  have hgz : g + 1 < W0.heap.size := hI.2.1.lt
  clear hI hg
  refine wp_region_tail2 8 [.eq (.int .i64 (n : Int)), .eq (.int .u64 (n : Int)), .eq (.string (bs m)), .eq (.string (bs (2 :: m))), .eq (.slice (some ⟨g, 0, none⟩) 32 32), .eq (.string (bs a)), .eq (.string (bs (2 :: m ++ a))), .eq (.agg (bvs d))] (by kernel_rfl) (by kernel_rfl) (by kernel_rfl) (by kernel_rfl) rfl (by decide) (by kernel_rfl) _ (fun f => by simp only [framedL, Act.put, maskF, oldF, Nat.reduceLT, reduceIte, List.getElem?_toArray, List.getElem?_cons_succ, List.getElem?_cons_zero, Option.bind_some, Option.map_some, Option.map_none, Option.getD_some, Option.getD_none, Array.getD_eq_getD_getElem?, List.setIfInBounds_toArray, List.set_cons_zero, List.set_cons_succ, Nat.reduceAdd]; rfl) ⟨?_, ?_, ?_, ?_, ?_, ?_, ?_, ?_, trivial⟩ ?_
  · refine oweAs_pure ((.int .i64 (n : Int))) rfl (fun f W hE hd => ?_) (fun W hE => rfl)
    go_simp
  · refine oweAs_pure ((.int .u64 (n : Int))) rfl (fun f W hE hd => ?_) (fun W hE => rfl)
    simp only [DepAs, Region.binds, asAt, As.holds, and_true, forall_const] at hd
    go_simp
  · refine oweAs_call 55 rfl (fun f W hE hd => ?_)
    simp only [DepAs, Region.binds, asAt, As.holds, and_true, forall_const] at hd
    refine ⟨_, by (go_simp; first | exact rfl | exact ⟨rfl, rfl⟩), ?_⟩
    refine (number_any n W (by omega)).mono ?_
    rintro e w' ⟨rfl, hb⟩
    exact ⟨_, rfl, by (show (_ : Value) = _; rw [HM.out]), hb⟩
  · refine oweAs_pure ((.string (bs (2 :: m)))) rfl (fun f W hE hd => ?_) (fun W hE => rfl)
    simp only [DepAs, Region.binds, asAt, As.holds, and_true, forall_const] at hd
    go_simp
  · refine oweAs_pure ((.slice (some ⟨g, 0, none⟩) 32 32)) rfl (fun f W hE hd => ?_) (fun W hE => rfl)
    go_simp
  · refine oweAs_pure ((.string (bs a))) rfl (fun f W hE hd => ?_) (fun W hE => rfl)
    simp only [DepAs, Region.binds, asAt, As.holds, and_true, forall_const] at hd
    have hcv := (HA.out.keep hE).str Tryd.underlying24 Tryd.underlying5 Tryd.underlying9
    go_simp
  · refine oweAs_pure ((.string (bs (2 :: m ++ a)))) rfl (fun f W hE hd => ?_) (fun W hE => rfl)
    simp only [DepAs, Region.binds, asAt, As.holds, and_true, forall_const] at hd
    go_simp
  · refine oweAs_call 53 rfl (fun f W hE hd => ?_)
    simp only [DepAs, Region.binds, asAt, As.holds, and_true, forall_const] at hd
    refine ⟨_, by (go_simp; first | exact rfl | exact ⟨rfl, rfl⟩), ?_⟩
    refine (ref_any _ W (by rw [bs_size]; simp; omega)).mono ?_
    rintro e w' ⟨rfl, hb⟩
    exact ⟨_, rfl, by (show (_ : Value) = _; rw [sb_bs]; exact congrArg (fun z => Value.agg (bvs z)) HD.out), hb⟩
  intro f W hE hA
  simp only [AllAs, As.holds, Nat.reduceAdd] at hA
  obtain ⟨-, -, -, -, -, -, -, hA7, -⟩ := hA
  simp only [List.drop_succ_cons, List.drop_zero]
  rw [hA7]
  have HJ := Lib.hid (And.intro (HI.out.2.1.below hE HI.out.2.1.lt) (HI.out.2.2.trans (hE.mono (by omega))))
  clear hE hA7
  go_wp2_with (
    (refine wpList_store_blk rfl 36 (.tmp 4) (.tmp 12) rfl (g + 1) 36 _ (bvs d) rfl rfl HJ.out.1 (by rw [hdz]; rfl) (by rw [hdz]; kernel_rfl) (bvs_one _) ?_
     intro w4 hb4 hg4 hz4))
  refine bodyPost_ret (results_cell Tryd.results44 rfl (t := 36) (g := g + 1) (cs := bvs d) hb4 Tryd.underlying36 rfl (by rw [hdz]; kernel_rfl)) rfl ⟨rfl, ?_⟩
  rw [← HG.out]
  exact HJ.out.2.grown hg4 (by have := HJ.out.1.lt; omega) (by intro k hk; injection hk with hk; omega)
end Go.Proofs.YtlopiinkpdpakaaDoor
