/-
  How the document's side sends.
-/
import Derived.Test.YtlkhbfafednegaaDoorSr2
namespace Go.Proofs.YtlkhbfafednegaaDoor
open Go Go.RowKit
set_option linter.unusedSimpArgs false
set_option linter.unusedVariables false

theorem RS.sent {w : World} {g : Nat} {k : List UInt8} {s o : Int} {n : Nat} {t b : UInt64} (h : RS w g k s o n t b) (hk : k.length = 32) (m : Nat) : RS (w.setCell ⟨g, 34, none⟩ (.int .u64 (m : Int))) g k s o m t b := by
  have h2 := h.store 34 (.int .u64 (m : Int))
  have e : (sesC k s o n t b).setIfInBounds 34 (.int .u64 (m : Int)) = sesC k s o m t b := by
    have hm : (k.map bcv).length = 32 := by rw [List.length_map]; exact hk
    unfold sesC
    rw [List.setIfInBounds_toArray, List.set_append_right _ _ (by omega), hm]; rfl
  rw [e] at h2
  exact h2

set_option maxRecDepth 100000 in
set_option maxHeartbeats 2000000 in
theorem refSend19_any (key : List UInt8) (s o n : Nat) (t b : UInt64) (l : List UInt8) (w : World) (hk : key.length = 32) (hl : l.length ≤ 900000) (hs : s < 64) (ho : o < 64) (hn : n < 18446744073709551616) :
    Calls Tryd.prog 13 #[.agg (sesC key (s : Int) (o : Int) n t b), .string (bs l)] w fun e w' => e = .returned (.tuple #[.agg (sesC key (s : Int) (o : Int) (sendG (frameK key) n s o l).2.2 t b), .string (bs (sendG (frameK key) n s o l).2.1), .int .i64 ((sendG (frameK key) n s o l).1 : Int)]) ∧ Below w.heap.size w w' := by
  obtain ⟨dk, hdk⟩ : ∃ d, d = frameK key := ⟨_, rfl⟩
  have HD := Lib.hid hdk
  rw [← hdk]
  have hsz37 : ∀ (n : Nat), (sesC key (s : Int) (o : Int) n t b).size = 37 := fun n => sesC_size hk
  have HSZ := Lib.hid hsz37
  have hfs : (bs l).size = l.length := bs_size l
  have hbe : (⟨#[]⟩ : ByteArray) = bs [] := rfl
  obtain ⟨L, hL⟩ : ∃ L, L = l.length := ⟨_, rfl⟩
  have hL9 : ¬ (1052672 : Int) < (L : Int) := by omega
  rw [← hL] at hfs
  obtain ⟨g0, hg0⟩ : ∃ g0, g0 = w.heap.size := ⟨_, rfl⟩
  have HG0 := Lib.hid hg0
  have HL := Lib.hid hL
  clear hdk hsz37 hL
  by_cases hw : n = 18446744073709551615
  · have HTG : Hid (sendG dk n s o l = (38, [], n)) := Lib.hid (by unfold sendG; rw [if_pos hw])
    have hwi : (n : Int) = 18446744073709551615 := by omega
    clear hw
    go_enter Tryd.func13, Tryd.ntmps13
    go_upto_region 1 with (fail)
    refine wp_abs (fun W => Hid (RS W g0 key (s : Int) (o : Int) n t b ∧ (∃ cs, Blk W (g0 + 1) 38 cs ∧ cs.size = 37) ∧ Below g0 w W)) (Lib.hid ⟨?_, ?_, ?_⟩) ?_
    · rw [hg0]; exact (Blk.new w _ _).alloc _
    · rw [hg0]; exact ⟨_, Blk.new' (w := w.alloc _) (by simp) _ _, rfl⟩
    · rw [hg0]; exact ((Below.refl w.heap.size w).alloc (Nat.le_refl _) _).alloc (by simp) _
    rw [← hg0]
    clear hg0
    intro W1 HI1
    obtain ⟨-, -, q34, -, -⟩ := HI1.out.1.cells hk
    have f34 := HI1.out.1.frozen 34
    obtain ⟨csE, hcE⟩ := HI1.out.2.1
    have HCE := Lib.hid hcE
    clear hcE
    go_wp2_with (first
      | (refine wpList_load_blk rfl 38 (.tmp 2) rfl g0 38 (sesC key (s : Int) (o : Int) n t b) rfl HI1.out.1 Tryd.underlying38 rfl (by rw [HSZ.out]; kernel_rfl) ?_)
      | (refine wpList_store_blk rfl 38 (.tmp 4) (.tmp 14) rfl (g0 + 1) 38 csE (sesC key (s : Int) (o : Int) n t b) rfl rfl HCE.out.1 (by rw [HSZ.out, HCE.out.2]) (by rw [HSZ.out]; kernel_rfl) (sesC_one _ _ _ _ _ _) ?_
         intro WE hbE hgE hzE
         have HBE : Hid (Blk WE (g0 + 1) 38 (sesC key (s : Int) (o : Int) n t b) ∧ Below g0 w WE) := Lib.hid ⟨hbE, HI1.out.2.2.grown hgE (by have := HI1.out.1.lt; omega) (by intro k hk; injection hk with hk; omega)⟩
         clear hbE hgE hzE))
    refine bodyPost_ret (results_cell_tmp2 Tryd.results13 rfl (t := 38) (g := g0 + 1) (cs := (sesC key (s : Int) (o : Int) n t b)) HBE.out.1 Tryd.underlying38 rfl (by rw [HSZ.out]; kernel_rfl)) rfl ?_
    rw [HTG.out]
    exact ⟨rfl, HG0.out ▸ HBE.out.2⟩
  have HTG : Hid (sendG dk n s o l = (0, frameG dk (n + 1) s o l, n + 1)) := Lib.hid (by unfold sendG; rw [if_neg hw])
  have hwi : ¬ (n : Int) = 18446744073709551615 := by omega
  have hwr : IntKind.u64.wrap ((n : Int) + 1) = ((n + 1 : Nat) : Int) := by rw [IntKind.wrap_u64]; omega
  have HNL := Lib.hid (show n + 1 < 18446744073709551616 by omega)
  have hls : IntKind.u64.wrap ((s : Nat) : Int) = (s : Int) := by rw [IntKind.wrap_u64]; omega
  have hlo : IntKind.u64.wrap ((o : Nat) : Int) = (o : Int) := by rw [IntKind.wrap_u64]; omega
  have HLT := Lib.hid hl
  have HSO := Lib.hid (And.intro hs ho)
  clear hw
  go_enter Tryd.func13, Tryd.ntmps13
  go_upto_region 1 with (fail)
  refine wp_abs (fun W => Hid (RS W g0 key (s : Int) (o : Int) n t b ∧ (∃ cs, Blk W (g0 + 1) 38 cs ∧ cs.size = 37) ∧ Below g0 w W)) (Lib.hid ⟨?_, ?_, ?_⟩) ?_
  · rw [hg0]; exact (Blk.new w _ _).alloc _
  · rw [hg0]; exact ⟨_, Blk.new' (w := w.alloc _) (by simp) _ _, rfl⟩
  · rw [hg0]; exact ((Below.refl w.heap.size w).alloc (Nat.le_refl _) _).alloc (by simp) _
  rw [← hg0]
  clear hg0
  intro W1 HI1
  obtain ⟨-, -, q34, -, -⟩ := HI1.out.1.cells hk
  have f34 := HI1.out.1.frozen 34
  go_upto_region 6 with (fail)
  refine wp_abs (fun W => Hid (RS W g0 key (s : Int) (o : Int) (n + 1) t b ∧ (∃ cs, Blk W (g0 + 1) 38 cs ∧ cs.size = 37) ∧ Below g0 w W)) (Lib.hid ?_) ?_
  · have h := HI1.out.1.sent hk (n + 1)
    refine ⟨h, ?_, HI1.out.2.2.setCell (p := ⟨g0, 34, none⟩) (Nat.le_refl _) _⟩
    obtain ⟨cs, h1, h2⟩ := HI1.out.2.1
    exact ⟨cs, h1.other (p := ⟨g0, 34, none⟩) (by show g0 + 1 ≠ g0; omega) _, h2⟩
  clear q34 f34 HI1
  intro W1 HI1
  obtain ⟨q32, q33, q34, -, -⟩ := HI1.out.1.cells hk
  have HK1 := Lib.hid HI1.out.1.key
  obtain ⟨m, hm⟩ : ∃ m, m = n + 1 := ⟨_, rfl⟩
  have HFR : Hid (frameG dk m s o l = frameG (frameK key) m s o l) := Lib.hid (by rw [HD.out])
  rw [← hm] at HTG HNL HI1 q34
  clear hm hwr hwi
  refine wp_region_tail2 13 [.eq (.agg (sesC key (s : Int) (o : Int) m t b)), .eq (.pointer (some ⟨g0, 0, none⟩)), .eq (.agg (bvs key)), .eq (.pointer (some ⟨g0, 34, none⟩)), .eq (.int .u64 (m : Int)), .eq (.pointer (some ⟨g0, 32, none⟩)), .eq (.int .i64 (s : Int)), .eq (.int .u64 (s : Int)), .eq (.pointer (some ⟨g0, 33, none⟩)), .eq (.int .i64 (o : Int)), .eq (.int .u64 (o : Int)), .eq (.string (bs l)), .eq (.string (bs (frameG dk m s o l)))] (by kernel_rfl) (by kernel_rfl) (by kernel_rfl) (by kernel_rfl) rfl (by decide) (by kernel_rfl) _ (fun f => by simp only [framedL, Act.put, maskF, oldF, Nat.reduceLT, reduceIte, List.getElem?_toArray, List.getElem?_cons_succ, List.getElem?_cons_zero, Option.bind_some, Option.map_some, Option.map_none, Option.getD_some, Option.getD_none, Array.getD_eq_getD_getElem?, List.setIfInBounds_toArray, List.set_cons_zero, List.set_cons_succ, Nat.reduceAdd]; rfl) ⟨?_, ?_, ?_, ?_, ?_, ?_, ?_, ?_, ?_, ?_, ?_, ?_, ?_, trivial⟩ ?_
  · exact oweAs_load 38 (.tmp 2) rfl g0 38 (sesC key (s : Int) (o : Int) m t b) (fun _ => rfl) HI1.out.1 Tryd.underlying38 rfl (by rw [HSZ.out]; kernel_rfl) rfl rfl
  · refine oweAs_pure ((.pointer (some ⟨g0, 0, none⟩))) rfl (fun f W hE hd => ?_) (fun W hE => rfl)
    simp only [DepAs, Region.binds, asAt, As.holds, and_true, forall_const] at hd
    go_simp
  · exact oweAs_load_mid 23 (.tmp 20) rfl key rfl rfl Tryd.underlying23 rfl (by rw [hk]; kernel_rfl) (fun f W hE hd => by (simp only [DepAs, Region.binds, asAt, As.holds, and_true, forall_const] at hd; exact ⟨g0, 0, by go_simp, range_below HK1.out hE⟩))
  · refine oweAs_pure ((.pointer (some ⟨g0, 34, none⟩))) rfl (fun f W hE hd => ?_) (fun W hE => rfl)
    simp only [DepAs, Region.binds, asAt, As.holds, and_true, forall_const] at hd
    go_simp
  · refine oweAs_pure ((.int .u64 (m : Int))) rfl (fun f W hE hd => ?_) (fun W hE => rfl)
    simp only [DepAs, Region.binds, asAt, As.holds, and_true, forall_const] at hd
    have hq := (hE.cell (block_lt_of_cell q34)).trans q34
    go_simp
  · refine oweAs_pure ((.pointer (some ⟨g0, 32, none⟩))) rfl (fun f W hE hd => ?_) (fun W hE => rfl)
    simp only [DepAs, Region.binds, asAt, As.holds, and_true, forall_const] at hd
    go_simp
  · refine oweAs_pure ((.int .i64 (s : Int))) rfl (fun f W hE hd => ?_) (fun W hE => rfl)
    simp only [DepAs, Region.binds, asAt, As.holds, and_true, forall_const] at hd
    have hq := (hE.cell (block_lt_of_cell q32)).trans q32
    go_simp
  · refine oweAs_pure ((.int .u64 (s : Int))) rfl (fun f W hE hd => ?_) (fun W hE => rfl)
    simp only [DepAs, Region.binds, asAt, As.holds, and_true, forall_const] at hd
    go_simp
  · refine oweAs_pure ((.pointer (some ⟨g0, 33, none⟩))) rfl (fun f W hE hd => ?_) (fun W hE => rfl)
    simp only [DepAs, Region.binds, asAt, As.holds, and_true, forall_const] at hd
    go_simp
  · refine oweAs_pure ((.int .i64 (o : Int))) rfl (fun f W hE hd => ?_) (fun W hE => rfl)
    simp only [DepAs, Region.binds, asAt, As.holds, and_true, forall_const] at hd
    have hq := (hE.cell (block_lt_of_cell q33)).trans q33
    go_simp
  · refine oweAs_pure ((.int .u64 (o : Int))) rfl (fun f W hE hd => ?_) (fun W hE => rfl)
    simp only [DepAs, Region.binds, asAt, As.holds, and_true, forall_const] at hd
    go_simp
  · refine oweAs_pure ((.string (bs l))) rfl (fun f W hE hd => ?_) (fun W hE => rfl)
    go_simp
  · refine oweAs_call 15 rfl (fun f W hE hd => ?_)
    simp only [DepAs, Region.binds, asAt, As.holds, and_true, forall_const] at hd
    refine ⟨_, by (go_simp; first | exact rfl | exact ⟨rfl, rfl⟩), ?_⟩
    refine (refFrame_any key m s o l W hk HNL.out (by have := HSO.out; omega) (by have := HSO.out; omega) HLT.out).mono ?_
    rintro e w' ⟨rfl, hb⟩
    exact ⟨_, rfl, by (show (_ : Value) = _; rw [HFR.out]), hb⟩
  intro f W hE hA
  simp only [AllAs, As.holds, Nat.reduceAdd] at hA
  obtain ⟨hA0, -, -, -, -, -, -, -, -, -, -, -, hA12, -⟩ := hA
  simp only [List.drop_succ_cons, List.drop_zero]
  rw [hA0, hA12]
  have HI6 : Hid (RS W g0 key (s : Int) (o : Int) m t b ∧ (∃ cs, Blk W (g0 + 1) 38 cs ∧ cs.size = 37) ∧ Below g0 w W) := Lib.hid ⟨HI1.out.1.below hE HI1.out.1.lt, by obtain ⟨cs, h1, h2⟩ := HI1.out.2.1; exact ⟨cs, h1.below hE h1.lt, h2⟩, HI1.out.2.2.trans (hE.mono (by have := HI1.out.1.lt; omega))⟩
  clear hE hA0 hA12 HI1 HK1 q32 q33 q34
  obtain ⟨csE, hcE⟩ := HI6.out.2.1
  have HCE := Lib.hid hcE
  clear hcE
  go_wp2_with (
      (refine wpList_store_blk rfl 38 (.tmp 4) (.tmp 19) rfl (g0 + 1) 38 csE (sesC key (s : Int) (o : Int) m t b) rfl rfl HCE.out.1 (by rw [HSZ.out, HCE.out.2]) (by rw [HSZ.out]; kernel_rfl) (sesC_one _ _ _ _ _ _) ?_
       intro WE hbE hgE hzE
       have HBE : Hid (Blk WE (g0 + 1) 38 (sesC key (s : Int) (o : Int) m t b) ∧ Below g0 w WE) := Lib.hid ⟨hbE, HI6.out.2.2.grown hgE (by have := HI6.out.1.lt; omega) (by intro k hk; injection hk with hk; omega)⟩
       clear hbE hgE hzE))
  refine bodyPost_ret (results_cell_tmp2 Tryd.results13 rfl (t := 38) (g := g0 + 1) (cs := (sesC key (s : Int) (o : Int) m t b)) HBE.out.1 Tryd.underlying38 rfl (by rw [HSZ.out]; kernel_rfl)) rfl ?_
  rw [HTG.out]
  exact ⟨rfl, HG0.out ▸ HBE.out.2⟩
end Go.Proofs.YtlkhbfafednegaaDoor
