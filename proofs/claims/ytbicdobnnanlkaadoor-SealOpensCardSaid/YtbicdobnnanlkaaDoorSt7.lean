/-
  The walk of the reference's laid.
-/
import Derived.Test.YtbicdobnnanlkaaDoorSt6
namespace Go.Proofs.YtbicdobnnanlkaaDoor
open Go Go.RowKit

/-- one quarter done, as the reference lays it -/
def laidS (s : List UInt32) (i j k l : Nat) : List UInt32 :=
  (((s.set i (q4 (at32 s i) (at32 s j) (at32 s k) (at32 s l)).1).set j (q4 (at32 s i) (at32 s j) (at32 s k) (at32 s l)).2.1).set k (q4 (at32 s i) (at32 s j) (at32 s k) (at32 s l)).2.2.1).set l (q4 (at32 s i) (at32 s j) (at32 s k) (at32 s l)).2.2.2
theorem laidS_length (s : List UInt32) (i j k l : Nat) : (laidS s i j k l).length = s.length := by simp [laidS]

set_option maxRecDepth 100000 in
set_option maxHeartbeats 1000000 in
theorem laid_any (s : List UInt32) (i j k l : Nat) (w : World) (hs : s.length = 16) (hi : i < 16) (hj : j < 16) (hk : k < 16) (hl : l < 16) (hij : ¬ i = j) (hik : ¬ i = k) (hil : ¬ i = l) (hjk : ¬ j = k) (hjl : ¬ j = l) (hkl : ¬ k = l) :
    Calls Tryd.prog 47 #[.agg (wvs s), .int .i64 (i : Int), .int .i64 (j : Int), .int .i64 (k : Int), .int .i64 (l : Int)] w fun e w' => e = .returned (.agg (wvs (laidS s i j k l))) ∧ Below w.heap.size w w' := by
  have hsz : (wvs s).size = 16 := by rw [wvs_size]; exact hs
  have hi1 : (i : Int) < 16 := by omega
  have hj1 : (j : Int) < 16 := by omega
  have hk1 : (k : Int) < 16 := by omega
  have hl1 : (l : Int) < 16 := by omega
  obtain ⟨q, hq⟩ : ∃ q, q = q4 (at32 s i) (at32 s j) (at32 s k) (at32 s l) := ⟨_, rfl⟩
  obtain ⟨r, hr⟩ : ∃ r, r = laidS s i j k l := ⟨_, rfl⟩
  have hrl : r.length = 16 := by rw [hr, laidS_length]; exact hs
  have hrz : (wvs r).size = 16 := by rw [wvs_size]; exact hrl
  have HQ := Lib.hid hq
  have HR : Hid (r = (((s.set i q.1).set j q.2.1).set k q.2.2.1).set l q.2.2.2) := Lib.hid (by rw [hr, hq]; rfl)
  rw [← hr]
  clear hq hr
  go_enter Tryd.func47, Tryd.ntmps47
  go_wp2_with fail
  refine wp_abs (fun W => ∃ g, g = w.heap.size ∧ Blk W g 76 (wvs s) ∧ Blk W (g + 1) 76 (wvs (List.replicate 16 0)) ∧ Below g w W) ⟨_, rfl, ?_, ?_, ?_⟩ ?_
  · exact (Blk.new w _ _).alloc _
  · exact Blk.new' (w := w.alloc _) (by simp) _ _
  · exact ((Below.refl w.heap.size w).alloc (Nat.le_refl _) _).alloc (by simp) _
  rintro W0 ⟨g, hg, hI⟩
  rw [← hg]
  have HI := Lib.hid hI
  have HG := Lib.hid hg
  clear hI hg
  refine wp_region_as (ys := [.eq (.int .i64 (i : Int)), .eq (.pointer (some ⟨g, i, none⟩)), .eq (.int .u32 (at32 s i).toNat), .eq (.int .i64 (j : Int)), .eq (.pointer (some ⟨g, j, none⟩)), .eq (.int .u32 (at32 s j).toNat), .eq (.int .i64 (k : Int)), .eq (.pointer (some ⟨g, k, none⟩)), .eq (.int .u32 (at32 s k).toNat), .eq (.int .i64 (l : Int)), .eq (.pointer (some ⟨g, l, none⟩)), .eq (.int .u32 (at32 s l).toNat), .eq (.tuple #[.int .u32 (q.1).toNat, .int .u32 (q.2.1).toNat, .int .u32 (q.2.2.1).toNat, .int .u32 (q.2.2.2).toNat]), .eq (.tuple #[.int .u32 (q.1).toNat, .int .u32 (q.2.1).toNat, .int .u32 (q.2.2.1).toNat, .int .u32 (q.2.2.2).toNat]), .eq (.int .u32 (q.1).toNat), .eq (.int .u32 (q.2.1).toNat), .eq (.int .u32 (q.2.2.1).toNat), .eq (.int .u32 (q.2.2.2).toNat), .eq (.int .u32 (q.1).toNat), .eq (.int .u32 (q.2.1).toNat), .eq (.int .u32 (q.2.2.1).toNat), .eq (.int .u32 (q.2.2.2).toNat)]) (by kernel_rfl) (by kernel_rfl) (by kernel_rfl) (by kernel_rfl) rfl _ (fun f => by simp only [framedL, Act.put, List.setIfInBounds_toArray, List.set_cons_zero, List.set_cons_succ, Nat.reduceAdd]; rfl) ⟨?_, ?_, ?_, ?_, ?_, ?_, ?_, ?_, ?_, ?_, ?_, ?_, ?_, ?_, ?_, ?_, ?_, ?_, ?_, ?_, ?_, ?_, trivial⟩ ?_
  · refine oweAs_pure ((.int .i64 (i : Int))) rfl (fun f W hE hd => ?_) (fun W hE => rfl)
    go_simp
  · refine oweAs_pure ((.pointer (some ⟨g, i, none⟩))) rfl (fun f W hE hd => ?_) (fun W hE => rfl)
    simp only [DepAs, Region.binds, asAt, As.holds, and_true, forall_const] at hd
    go_simp
  · refine oweAs_pure ((.int .u32 (at32 s i).toNat)) rfl (fun f W hE hd => ?_) (fun W hE => rfl)
    simp only [DepAs, Region.binds, asAt, As.holds, and_true, forall_const] at hd
    have c0 := (HI.out.1.below hE HI.out.1.lt).word (i := i) (by omega)
    go_simp
  · refine oweAs_pure ((.int .i64 (j : Int))) rfl (fun f W hE hd => ?_) (fun W hE => rfl)
    go_simp
  · refine oweAs_pure ((.pointer (some ⟨g, j, none⟩))) rfl (fun f W hE hd => ?_) (fun W hE => rfl)
    simp only [DepAs, Region.binds, asAt, As.holds, and_true, forall_const] at hd
    go_simp
  · refine oweAs_pure ((.int .u32 (at32 s j).toNat)) rfl (fun f W hE hd => ?_) (fun W hE => rfl)
    simp only [DepAs, Region.binds, asAt, As.holds, and_true, forall_const] at hd
    have c0 := (HI.out.1.below hE HI.out.1.lt).word (i := j) (by omega)
    go_simp
  · refine oweAs_pure ((.int .i64 (k : Int))) rfl (fun f W hE hd => ?_) (fun W hE => rfl)
    go_simp
  · refine oweAs_pure ((.pointer (some ⟨g, k, none⟩))) rfl (fun f W hE hd => ?_) (fun W hE => rfl)
    simp only [DepAs, Region.binds, asAt, As.holds, and_true, forall_const] at hd
    go_simp
  · refine oweAs_pure ((.int .u32 (at32 s k).toNat)) rfl (fun f W hE hd => ?_) (fun W hE => rfl)
    simp only [DepAs, Region.binds, asAt, As.holds, and_true, forall_const] at hd
    have c0 := (HI.out.1.below hE HI.out.1.lt).word (i := k) (by omega)
    go_simp
  · refine oweAs_pure ((.int .i64 (l : Int))) rfl (fun f W hE hd => ?_) (fun W hE => rfl)
    go_simp
  · refine oweAs_pure ((.pointer (some ⟨g, l, none⟩))) rfl (fun f W hE hd => ?_) (fun W hE => rfl)
    simp only [DepAs, Region.binds, asAt, As.holds, and_true, forall_const] at hd
    go_simp
  · refine oweAs_pure ((.int .u32 (at32 s l).toNat)) rfl (fun f W hE hd => ?_) (fun W hE => rfl)
    simp only [DepAs, Region.binds, asAt, As.holds, and_true, forall_const] at hd
    have c0 := (HI.out.1.below hE HI.out.1.lt).word (i := l) (by omega)
    go_simp
  · refine oweAs_call 57 rfl (fun f W hE hd => ?_)
    simp only [DepAs, Region.binds, asAt, As.holds, and_true, forall_const] at hd
    refine ⟨_, by (go_simp; first | exact rfl | exact ⟨rfl, rfl⟩), ?_⟩
    refine (q4_any (at32 s i) (at32 s j) (at32 s k) (at32 s l) W).mono ?_
    rintro e w' ⟨rfl, rfl⟩
    exact ⟨_, rfl, by (show (_ : Value) = _; rw [HQ.out]), Below.refl _ _⟩
  · refine oweAs_pure ((.tuple #[.int .u32 (q.1).toNat, .int .u32 (q.2.1).toNat, .int .u32 (q.2.2.1).toNat, .int .u32 (q.2.2.2).toNat])) rfl (fun f W hE hd => ?_) (fun W hE => rfl)
    simp only [DepAs, Region.binds, asAt, As.holds, and_true, forall_const] at hd
    go_simp
  · refine oweAs_pure ((.int .u32 (q.1).toNat)) rfl (fun f W hE hd => ?_) (fun W hE => rfl)
    simp only [DepAs, Region.binds, asAt, As.holds, and_true, forall_const] at hd
    go_simp
  · refine oweAs_pure ((.int .u32 (q.2.1).toNat)) rfl (fun f W hE hd => ?_) (fun W hE => rfl)
    simp only [DepAs, Region.binds, asAt, As.holds, and_true, forall_const] at hd
    go_simp
  · refine oweAs_pure ((.int .u32 (q.2.2.1).toNat)) rfl (fun f W hE hd => ?_) (fun W hE => rfl)
    simp only [DepAs, Region.binds, asAt, As.holds, and_true, forall_const] at hd
    go_simp
  · refine oweAs_pure ((.int .u32 (q.2.2.2).toNat)) rfl (fun f W hE hd => ?_) (fun W hE => rfl)
    simp only [DepAs, Region.binds, asAt, As.holds, and_true, forall_const] at hd
    go_simp
  · refine oweAs_pure ((.int .u32 (q.1).toNat)) rfl (fun f W hE hd => ?_) (fun W hE => rfl)
    simp only [DepAs, Region.binds, asAt, As.holds, and_true, forall_const] at hd
    go_simp
  · refine oweAs_pure ((.int .u32 (q.2.1).toNat)) rfl (fun f W hE hd => ?_) (fun W hE => rfl)
    simp only [DepAs, Region.binds, asAt, As.holds, and_true, forall_const] at hd
    go_simp
  · refine oweAs_pure ((.int .u32 (q.2.2.1).toNat)) rfl (fun f W hE hd => ?_) (fun W hE => rfl)
    simp only [DepAs, Region.binds, asAt, As.holds, and_true, forall_const] at hd
    go_simp
  · refine oweAs_pure ((.int .u32 (q.2.2.2).toNat)) rfl (fun f W hE hd => ?_) (fun W hE => rfl)
    simp only [DepAs, Region.binds, asAt, As.holds, and_true, forall_const] at hd
    go_simp
  intro f W hE hA
  simp only [AllAs, As.holds, Nat.reduceAdd] at hA
  obtain ⟨-, -, -, -, -, -, -, -, -, -, -, -, -, -, -, -, -, -, hA18, hA19, hA20, hA21, -⟩ := hA
  rw [hA18, hA19, hA20, hA21]
  have HI1 : Hid (Blk W g 76 (wvs s) ∧ Blk W (g + 1) 76 (wvs (List.replicate 16 0)) ∧ Below g w W) := Lib.hid ⟨HI.out.1.below hE HI.out.1.lt, HI.out.2.1.below hE HI.out.2.1.lt, HI.out.2.2.trans (hE.mono (by have := HI.out.1.lt; omega))⟩
  clear hE HI hA18 hA19 hA20 hA21
  have ci := HI1.out.1.word (i := i) (by omega)
  have cj := HI1.out.1.word (i := j) (by omega)
  have ck := HI1.out.1.word (i := k) (by omega)
  have cl := HI1.out.1.word (i := l) (by omega)
  have fi := HI1.out.1.frozen i
  have fj := HI1.out.1.frozen j
  have fk := HI1.out.1.frozen k
  have fl := HI1.out.1.frozen l
  have HBX : Hid (Blk ((((W.setCell ⟨g, i, none⟩ (.int .u32 q.1.toNat)).setCell ⟨g, j, none⟩ (.int .u32 q.2.1.toNat)).setCell ⟨g, k, none⟩ (.int .u32 q.2.2.1.toNat)).setCell ⟨g, l, none⟩ (.int .u32 q.2.2.2.toNat)) g 76 (wvs r) ∧ Blk ((((W.setCell ⟨g, i, none⟩ (.int .u32 q.1.toNat)).setCell ⟨g, j, none⟩ (.int .u32 q.2.1.toNat)).setCell ⟨g, k, none⟩ (.int .u32 q.2.2.1.toNat)).setCell ⟨g, l, none⟩ (.int .u32 q.2.2.2.toNat)) (g + 1) 76 (wvs (List.replicate 16 0)) ∧ Below g w ((((W.setCell ⟨g, i, none⟩ (.int .u32 q.1.toNat)).setCell ⟨g, j, none⟩ (.int .u32 q.2.1.toNat)).setCell ⟨g, k, none⟩ (.int .u32 q.2.2.1.toNat)).setCell ⟨g, l, none⟩ (.int .u32 q.2.2.2.toNat))) := by
    refine Lib.hid ⟨?_, ?_, ?_⟩
    · rw [HR.out]
      exact (((HI1.out.1.word_store i q.1).word_store j q.2.1).word_store k q.2.2.1).word_store l q.2.2.2
    · exact ((((HI1.out.2.1.other (by show g + 1 ≠ g; omega) _).other (by show g + 1 ≠ g; omega) _).other (by show g + 1 ≠ g; omega) _).other (by show g + 1 ≠ g; omega) _)
    · exact (((HI1.out.2.2.setCell (p := ⟨g, i, none⟩) (Nat.le_refl _) _).setCell (p := ⟨g, j, none⟩) (Nat.le_refl _) _).setCell (p := ⟨g, k, none⟩) (Nat.le_refl _) _).setCell (p := ⟨g, l, none⟩) (Nat.le_refl _) _
  go_wp2_with (first
    | (refine wpList_store_blk rfl 76 (.tmp 10) (.tmp 45) rfl (g + 1) 76 _ (wvs r) rfl rfl HB.out.2.1 (by rw [hrz]; rfl) (by rw [hrz]; kernel_rfl) (wvs_all1 _) ?_
       intro w7 hb7 hg7 hz7)
    | (refine wpList_load_blk rfl 76 (.tmp 5) rfl g 76 (wvs r) rfl ?_ Tryd.underlying76 rfl (by rw [hrz]; kernel_rfl) ?_
       exact HBX.out.1
       have HB := HBX
       clear HBX))
  refine bodyPost_ret (results_cell Tryd.results47 rfl (t := 76) (g := g + 1) (cs := wvs r) hb7 Tryd.underlying76 rfl (by rw [hrz]; kernel_rfl)) rfl ⟨rfl, ?_⟩
  rw [← HG.out]
  exact HB.out.2.2.grown hg7 (by have := HB.out.2.1.lt; omega) (by intro k hk; injection hk with hk; omega)
end Go.Proofs.YtbicdobnnanlkaaDoor
