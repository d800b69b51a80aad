/-
  The document's side takes a frame.
-/
import Derived.Test.YtlkhbfafednegaaDoorSn5
import Derived.Test.YtlkhbfafednegaaDoorCd5
import Derived.Test.YtlkhbfafednegaaDoorCd6
import Derived.Test.YtlkhbfafednegaaDoorRp
namespace Go.Proofs.YtlkhbfafednegaaDoor
open Go Go.RowKit
set_option linter.unusedSimpArgs false
set_option linter.unusedVariables false

theorem results_cell_tmp2 {P : Program} {fn : Func} {p q r : Tmp} {ty : TypeId} (h : fn.results = #[.cell p ty, .tmp q, .tmp r]) {tmps : Array Value} {w : World} {g : Nat} {t : TypeId} {cs : Array Value}
    (hp : tmps.getD p undef = .pointer (some ⟨g, 0, none⟩)) (hg : Blk w g t cs) {d : TypeDesc}
    (hu : P.underlying ty = some d) (hd : (match d with | .struct _ | .array _ _ => true | _ => false) = true) (hi : (P.info? ty).map (·.size) = some cs.size) :
    (results fn tmps).run P w = .ok (.tuple #[.agg cs, tmps.getD q undef, tmps.getD r undef]) w := by
  have hp' : tmps[p]?.getD undef = .pointer (some ⟨g, 0, none⟩) := by simpa using hp
  simp [results, h, hp', asAddr, run_loadVar_row w g t ty cs (0, 0) d hg hu hd hi]
abbrev RS (w : World) (g : Nat) (k : List UInt8) (s o : Int) (n : Nat) (t b : UInt64) : Prop := Blk w g 38 (sesC k s o n t b)
theorem RS.cells {w : World} {g : Nat} {k : List UInt8} {s o : Int} {n : Nat} {t b : UInt64} (h : RS w g k s o n t b) (hk : k.length = 32) : w.cell? ⟨g, 32, none⟩ = some (.int .i64 s) ∧ w.cell? ⟨g, 33, none⟩ = some (.int .i64 o) ∧ w.cell? ⟨g, 34, none⟩ = some (.int .u64 (n : Int)) ∧ w.cell? ⟨g, 35, none⟩ = some (.int .u64 (t.toNat : Int)) ∧ w.cell? ⟨g, 36, none⟩ = some (.int .u64 (b.toNat : Int)) := by
  obtain ⟨h1, h2, h3, h4, h5⟩ := sesC_at (s := s) (o := o) (n := n) (t := t) (b := b) hk
  exact ⟨(h.cell 32).trans h1, (h.cell 33).trans h2, (h.cell 34).trans h3, (h.cell 35).trans h4, (h.cell 36).trans h5⟩
theorem RS.key {w : World} {g : Nat} {k : List UInt8} {s o : Int} {n : Nat} {t b : UInt64} (h : RS w g k s o n t b) : w.rangeAt g 0 (k.map bcv) := by
  intro j v hv
  rw [Nat.zero_add, h.cell j]
  unfold sesC
  rw [List.getElem?_toArray, List.getElem?_append_left (List.getElem?_eq_some_iff.1 hv).1]; exact hv
theorem RS.win {w : World} {g : Nat} {k : List UInt8} {s o : Int} {n : Nat} {t b : UInt64} (h : RS w g k s o n t b) (hk : k.length = 32) (t' b' : UInt64) : RS ((w.setCell ⟨g, 35, none⟩ (.int .u64 (t'.toNat : Int))).setCell ⟨g, 36, none⟩ (.int .u64 (b'.toNat : Int))) g k s o n t' b' := by
  have h2 := (h.store 35 (.int .u64 (t'.toNat : Int))).store 36 (.int .u64 (b'.toNat : Int))
  have e : ((sesC k s o n t b).setIfInBounds 35 (.int .u64 (t'.toNat : Int))).setIfInBounds 36 (.int .u64 (b'.toNat : Int)) = sesC k s o n t' b' := by
    unfold sesC
    simp [List.set_append, hk]
  rw [e] at h2
  exact h2
theorem sesC_one (k : List UInt8) (s o : Int) (n : Nat) (t b : UInt64) : (sesC k s o n t b).all (·.oneCell') = true := by
  rw [Array.all_eq_true_iff_forall_mem]
  intro x hx
  unfold sesC at hx
  rw [List.mem_toArray, List.mem_append] at hx
  rcases hx with hx | hx
  · obtain ⟨y, _, rfl⟩ := List.mem_map.1 hx; rfl
  · simp only [List.mem_cons, List.not_mem_nil, or_false] at hx
    rcases hx with rfl | rfl | rfl | rfl | rfl <;> rfl
theorem bs_take (l : List UInt8) (k : Nat) : (bs l).extract 0 k = bs (l.take k) := by
  apply ByteArray.ext
  simp [bs, ByteArray.data_extract]
theorem bs_drop (l : List UInt8) (k : Nat) : (bs l).extract k (bs l).size = bs (l.drop k) := by
  apply ByteArray.ext
  rw [bs_size]
  simp [bs, ByteArray.data_extract, List.take_of_length_le]
theorem uintR_short (s : Rst) : (uintR s).2.1.length ≤ s.1.length := by
  unfold uintR
  split
  · obtain ⟨j, hj, e⟩ := uintG_left 0 0 s.1
    rw [e, List.length_drop]; omega
  · exact Nat.le_refl _

set_option maxRecDepth 100000 in
set_option maxHeartbeats 2000000 in
theorem refTake19_any (key : List UInt8) (s o n : Nat) (t b : UInt64) (fm : List UInt8) (w : World) (hk : key.length = 32) (hf : fm.length ≤ 900000) (hs : s < 64) (ho : o < 64) :
    Calls Tryd.prog 11 #[.agg (sesC key (s : Int) (o : Int) n t b), .string (bs fm)] w fun e w' => e = .returned (.tuple #[.agg (sesC key (s : Int) (o : Int) n (takeG (frameK key) s o t b fm).2.2.1 (takeG (frameK key) s o t b fm).2.2.2), .string (bs (takeG (frameK key) s o t b fm).2.1), .int .i64 ((takeG (frameK key) s o t b fm).1 : Int)]) ∧ Below w.heap.size w w' := by
  obtain ⟨dk, hdk⟩ : ∃ d, d = frameK key := ⟨_, rfl⟩
  have hdl : dk.length = 32 := by rw [hdk]; exact frameK_length _
  have HD := Lib.hid hdk
  rw [← hdk]
  have hsz37 : ∀ (t b : UInt64), (sesC key (s : Int) (o : Int) n t b).size = 37 := fun t b => sesC_size hk
  have HSZ := Lib.hid hsz37
  have hfs : (bs fm).size = fm.length := bs_size fm
  have hbe : (⟨#[]⟩ : ByteArray) = bs [] := rfl
  obtain ⟨g0, hg0⟩ : ∃ g0, g0 = w.heap.size := ⟨_, rfl⟩
  have HG0 := Lib.hid hg0
  clear hdk hsz37
  by_cases h32 : fm.length < 32
  · have HTG : Hid (takeG dk s o t b fm = (20, [], t, b)) := Lib.hid (takeG_short h32)
    have h32i : (fm.length : Int) < 32 := by omega
    go_enter Tryd.func11, Tryd.ntmps11
    go_upto_region 1 with (fail)
    refine wp_abs (fun W => Hid (RS W g0 key (s : Int) (o : Int) n t b ∧ (∃ cs, Blk W (g0 + 1) 38 cs ∧ cs.size = 37) ∧ Below g0 w W)) (Lib.hid ⟨?_, ?_, ?_⟩) ?_
    · rw [hg0]; exact (Blk.new w _ _).alloc _
    · rw [hg0]; exact ⟨_, Blk.new' (w := w.alloc _) (by simp) _ _, rfl⟩
    · rw [hg0]; exact ((Below.refl w.heap.size w).alloc (Nat.le_refl _) _).alloc (by simp) _
    rw [← hg0]
    clear hg0
    intro W1 HI1
    obtain ⟨csE, hcE⟩ := HI1.out.2.1
    have HCE := Lib.hid hcE
    clear hcE
    go_wp2_with (first
    | (refine wpList_load_blk rfl 38 (.tmp 2) rfl g0 38 (sesC key (s : Int) (o : Int) n t b) rfl HI1.out.1 Tryd.underlying38 rfl (by rw [HSZ.out]; kernel_rfl) ?_)
    | (refine wpList_store_blk rfl 38 (.tmp 4) (.tmp 19) rfl (g0 + 1) 38 csE (sesC key (s : Int) (o : Int) n t b) rfl rfl HCE.out.1 (by rw [HSZ.out, HCE.out.2]) (by rw [HSZ.out]; kernel_rfl) (sesC_one _ _ _ _ _ _) ?_
       intro WE hbE hgE hzE
       have HBE : Hid (Blk WE (g0 + 1) 38 (sesC key (s : Int) (o : Int) n t b) ∧ Below g0 w WE) := Lib.hid ⟨hbE, HI1.out.2.2.grown hgE (by have := HI1.out.1.lt; omega) (by intro k hk; injection hk with hk; omega)⟩
       clear hbE hgE hzE))
    refine bodyPost_ret (results_cell_tmp2 Tryd.results11 rfl (t := 38) (g := g0 + 1) (cs := (sesC key (s : Int) (o : Int) n t b)) HBE.out.1 Tryd.underlying38 rfl (by rw [HSZ.out]; kernel_rfl)) rfl ?_
    rw [HTG.out]
    exact ⟨rfl, HG0.out ▸ HBE.out.2⟩
  have h32i : ¬ (fm.length : Int) < 32 := by omega
  obtain ⟨L, hL⟩ : ∃ L, L = fm.length := ⟨_, rfl⟩
  obtain ⟨en, hen⟩ : ∃ en, en = L - 32 := ⟨_, rfl⟩
  obtain ⟨X, hX⟩ : ∃ X, X = fm.take en := ⟨_, rfl⟩
  obtain ⟨y, hy⟩ : ∃ y, y = fm.drop en := ⟨_, rfl⟩
  have hXl : X.length ≤ 900000 := by rw [hX, List.length_take]; omega
  have hxt : (bs fm).extract 0 en = bs X := by rw [hX]; exact bs_take fm en
  have hxd : (bs fm).extract en L = bs y := by rw [hy, ← bs_drop, bs_size, hL]
  have HSY : Hid (X = fm.take (fm.length - 32) ∧ y = fm.drop (fm.length - 32)) := Lib.hid ⟨by rw [hX, hen, hL], by rw [hy, hen, hL]⟩
  have hei : (L : Int) - 32 = (en : Int) := by omega
  have hwr : IntKind.i64.wrap ((en : Nat) : Int) = (en : Int) := by rw [IntKind.wrap_i64]; omega
  have henL : (en : Int) ≤ (L : Int) := by omega
  have hlen : ¬ L < en := by omega
  obtain ⟨x, hx⟩ : ∃ x, x = macF dk X := ⟨_, rfl⟩
  have hxl : x.length = 32 := by rw [hx]; exact macF_length _ _
  have hxz : (bvs x).size = 32 := by rw [bvs_size]; exact hxl
  have HX := Lib.hid hx
  have HGR : Hid (¬ fm.length < 32) := Lib.hid h32
  rw [← hL] at hfs h32i
  have hbX : (bs X).size ≤ 900000 := by rw [bs_size]; exact hXl
  obtain ⟨B, hB⟩ : ∃ B, B = (x == y) := ⟨_, rfl⟩
  have hxyB : ((bs x).toList == (bs y).toList) = B := by rw [hB, bs_toList, bs_toList]
  have HBB := Lib.hid hB
  have HXYB := Lib.hid hxyB
  clear hL hen hX hy hx h32 hB hxyB
  go_enter Tryd.func11, Tryd.ntmps11
  go_upto_region 1 with (fail)
  refine wp_abs (fun W => Hid (RS W g0 key (s : Int) (o : Int) n t b ∧ (∃ cs, Blk W (g0 + 1) 38 cs ∧ cs.size = 37) ∧ Below g0 w W)) (Lib.hid ⟨?_, ?_, ?_⟩) ?_
  · rw [hg0]; exact (Blk.new w _ _).alloc _
  · rw [hg0]; exact ⟨_, Blk.new' (w := w.alloc _) (by simp) _ _, rfl⟩
  · rw [hg0]; exact ((Below.refl w.heap.size w).alloc (Nat.le_refl _) _).alloc (by simp) _
  rw [← hg0]
  clear hg0
  intro W1 HI1
  have hz1 : g0 + 1 < W1.heap.size := by obtain ⟨cs, h1, _⟩ := HI1.out.2.1; exact h1.lt
  have HK1 := Lib.hid HI1.out.1.key
  go_upto_region 4 with (fail)
  refine wp_region_tail2 8 [.eq (.pointer (some ⟨g0, 0, none⟩)), .eq (.agg (bvs key)), .eq (.agg (bvs dk)), .eq (.string (bs fm)), .eq (.int .i64 (en : Int)), .eq (.string (bs X)), .eq (.agg (bvs x)), .st (fun v W => ∃ g8, v = .pointer (some ⟨g8, 0, none⟩) ∧ W1.heap.size ≤ g8 ∧ Blk W g8 66 (bvs (List.replicate 32 0))) (fun v W W' h hb => by obtain ⟨g8, h1, h2, h3⟩ := h; exact ⟨g8, h1, h2, h3.below hb h3.lt⟩)] (by kernel_rfl) (by kernel_rfl) (by kernel_rfl) (by kernel_rfl) rfl (by decide) (by kernel_rfl) _ (fun f => by simp only [framedL, Act.put, maskF, oldF, Nat.reduceLT, reduceIte, List.getElem?_toArray, List.getElem?_cons_succ, List.getElem?_cons_zero, Option.bind_some, Option.map_some, Option.map_none, Option.getD_some, Option.getD_none, Array.getD_eq_getD_getElem?, List.setIfInBounds_toArray, List.set_cons_zero, List.set_cons_succ, Nat.reduceAdd]; rfl) ⟨?_, ?_, ?_, ?_, ?_, ?_, ?_, ?_, trivial⟩ ?_
  · refine oweAs_pure ((.pointer (some ⟨g0, 0, none⟩))) rfl (fun f W hE hd => ?_) (fun W hE => rfl)
    simp only [DepAs, Region.binds, asAt, As.holds, and_true, forall_const] at hd
    go_simp
  · exact oweAs_load_mid 23 (.tmp 23) rfl key rfl rfl Tryd.underlying23 rfl (by rw [hk]; kernel_rfl) (fun f W hE hd => by (simp only [DepAs, Region.binds, asAt, As.holds, and_true, forall_const] at hd; exact ⟨g0, 0, by go_simp, range_below HK1.out hE⟩))
  · refine oweAs_call 30 rfl (fun f W hE hd => ?_)
    simp only [DepAs, Region.binds, asAt, As.holds, and_true, forall_const] at hd
    refine ⟨_, by (go_simp; first | exact rfl | exact ⟨rfl, rfl⟩), ?_⟩
    refine (refDer_any key ⟨#[102, 114, 97, 109, 101]⟩ 0 W hk (by decide) (by decide)).mono ?_
    rintro e w' ⟨rfl, hb⟩
    exact ⟨_, rfl, by (show (_ : Value) = _; rw [HD.out]; rfl), hb⟩
  · refine oweAs_pure ((.string (bs fm))) rfl (fun f W hE hd => ?_) (fun W hE => rfl)
    go_simp
  · refine oweAs_pure ((.int .i64 (en : Int))) rfl (fun f W hE hd => ?_) (fun W hE => rfl)
    go_simp
  · refine oweAs_pure ((.string (bs X))) rfl (fun f W hE hd => ?_) (fun W hE => rfl)
    simp only [DepAs, Region.binds, asAt, As.holds, and_true, forall_const] at hd
    go_simp
  · refine oweAs_call 29 rfl (fun f W hE hd => ?_)
    simp only [DepAs, Region.binds, asAt, As.holds, and_true, forall_const] at hd
    refine ⟨_, by (go_simp; first | exact rfl | exact ⟨rfl, rfl⟩), ?_⟩
    refine (refOf3_any dk (bs X) W hdl (by omega)).mono ?_
    rintro e w' ⟨rfl, hb⟩
    exact ⟨_, rfl, by (show (_ : Value) = _; rw [sb_bs, HX.out]), hb⟩
  · refine oweAs_made rfl (fun f W hE hd => ?_)
    simp only [DepAs, Region.binds, asAt, As.holds, and_true, forall_const] at hd
    have hz := hE.size
    clear hd
    refine ⟨_, _, by first | (go_simp; done) | (go_simp; exact rfl) | (go_simp; exact ⟨rfl, rfl⟩), ⟨_, rfl, hz, Blk.new _ _ _⟩, (Below.refl W.heap.size W).alloc (Nat.le_refl _) _⟩
  intro f W hE hA
  simp only [AllAs, As.holds, Nat.reduceAdd] at hA
  obtain ⟨-, -, -, -, -, -, hA6, hA7, -⟩ := hA
  simp only [List.drop_succ_cons, List.drop_zero]
  obtain ⟨g8, hq8, hl8, hb8⟩ := hA7
  rw [hA6, hq8]
  have hg8 : g0 + 1 < g8 := by omega
  have HI4 : Hid (Blk W g8 66 (bvs (List.replicate 32 0)) ∧ RS W g0 key (s : Int) (o : Int) n t b ∧ (∃ cs, Blk W (g0 + 1) 38 cs ∧ cs.size = 37) ∧ Below g0 w W) := Lib.hid ⟨hb8, HI1.out.1.below hE HI1.out.1.lt, by obtain ⟨cs, h1, h2⟩ := HI1.out.2.1; exact ⟨cs, h1.below hE h1.lt, h2⟩, HI1.out.2.2.trans (hE.mono (by omega))⟩
  clear hE hA6 hq8 hl8 hb8 HI1 HK1
  go_wp2_with (
    (refine wpList_store_blk rfl 66 (.tmp 8) (.tmp 29) rfl g8 66 _ (bvs x) rfl rfl HI4.out.1 (by rw [hxz]; rfl) (by rw [hxz]; kernel_rfl) (bvs_one _) ?_
     intro W5 hb5 hg5 hz5
     have HI5 : Hid (Blk W5 g8 66 (bvs x) ∧ RS W5 g0 key (s : Int) (o : Int) n t b ∧ (∃ cs, Blk W5 (g0 + 1) 38 cs ∧ cs.size = 37) ∧ Below g0 w W5) := Lib.hid ⟨hb5, HI4.out.2.1.grown hg5 (by intro e; injection e with e; omega), by obtain ⟨cs, h1, h2⟩ := HI4.out.2.2.1; exact ⟨cs, h1.grown hg5 (by intro e; injection e with e; omega), h2⟩, HI4.out.2.2.2.grown hg5 (by have := HI4.out.2.1.lt; omega) (by intro k hk; injection hk with hk; omega)⟩
     clear hb5 hg5 hz5 HI4))
  have HBX : Hid (HB W5 (.slice (some ⟨g8, 0, none⟩) 32 32) x) := Lib.hid (HB.blk HI5.out.1 hxl (by decide))
  go_upto_region 5 with (fail)
  refine wp_region_as (ys := [.eq (.slice (some ⟨g8, 0, none⟩) 32 32), .eq (.string (bs x)), .eq (.string (bs fm)), .eq (.int .i64 (en : Int)), .eq (.string (bs y)), .eq (.bool (!B))]) (by kernel_rfl) (by kernel_rfl) (by kernel_rfl) (by kernel_rfl) rfl _ (fun f => by simp only [framedL, Act.put, List.setIfInBounds_toArray, List.set_cons_zero, List.set_cons_succ, Nat.reduceAdd]; rfl) ⟨?_, ?_, ?_, ?_, ?_, ?_, trivial⟩ ?_
  · refine oweAs_pure ((.slice (some ⟨g8, 0, none⟩) 32 32)) rfl (fun f W hE hd => ?_) (fun W hE => rfl)
    simp only [DepAs, Region.binds, asAt, As.holds, and_true, forall_const] at hd
    go_simp
  · refine oweAs_pure ((.string (bs x))) rfl (fun f W hE hd => ?_) (fun W hE => rfl)
    simp only [DepAs, Region.binds, asAt, As.holds, and_true, forall_const] at hd
    have hcv := (HBX.out.keep hE).str Tryd.underlying24 Tryd.underlying5 Tryd.underlying9
    go_simp
  · refine oweAs_pure ((.string (bs fm))) rfl (fun f W hE hd => ?_) (fun W hE => rfl)
    go_simp
  · refine oweAs_pure ((.int .i64 (en : Int))) rfl (fun f W hE hd => ?_) (fun W hE => rfl)
    go_simp
  · refine oweAs_pure ((.string (bs y))) rfl (fun f W hE hd => ?_) (fun W hE => rfl)
    simp only [DepAs, Region.binds, asAt, As.holds, and_true, forall_const] at hd
    go_simp
  · refine oweAs_pure ((.bool (!B))) rfl (fun f W hE hd => ?_) (fun W hE => rfl)
    simp only [DepAs, Region.binds, asAt, As.holds, and_true, forall_const] at hd
    have h9 := HXYB.out
    go_simp
  intro f W hE hA
  simp only [AllAs, As.holds, Nat.reduceAdd] at hA
  obtain ⟨-, -, -, -, -, hA5, -⟩ := hA
  rw [hA5]
  have HI6 : Hid (RS W g0 key (s : Int) (o : Int) n t b ∧ (∃ cs, Blk W (g0 + 1) 38 cs ∧ cs.size = 37) ∧ Below g0 w W) := Lib.hid ⟨HI5.out.2.1.below hE HI5.out.2.1.lt, by obtain ⟨cs, h1, h2⟩ := HI5.out.2.2.1; exact ⟨cs, h1.below hE h1.lt, h2⟩, HI5.out.2.2.2.trans (hE.mono (by have := HI5.out.2.1.lt; omega))⟩
  clear hE hA5 HI5 HBX
  cases B with
  | false =>
    have HTG : Hid (takeG dk s o t b fm = (20, [], t, b)) := Lib.hid (takeG_mac HGR.out (by rw [← HSY.out.1, ← HSY.out.2, ← HX.out]; exact fun h => by have := HBB.out; rw [h] at this; simp at this))
    obtain ⟨csE, hcE⟩ := HI6.out.2.1
    have HCE := Lib.hid hcE
    clear hcE
    go_wp2_with (first
    | (refine wpList_load_blk rfl 38 (.tmp 2) rfl g0 38 (sesC key (s : Int) (o : Int) n t b) rfl HI6.out.1 Tryd.underlying38 rfl (by rw [HSZ.out]; kernel_rfl) ?_)
    | (refine wpList_store_blk rfl 38 (.tmp 4) (.tmp 36) rfl (g0 + 1) 38 csE (sesC key (s : Int) (o : Int) n t b) rfl rfl HCE.out.1 (by rw [HSZ.out, HCE.out.2]) (by rw [HSZ.out]; kernel_rfl) (sesC_one _ _ _ _ _ _) ?_
       intro WE hbE hgE hzE
       have HBE : Hid (Blk WE (g0 + 1) 38 (sesC key (s : Int) (o : Int) n t b) ∧ Below g0 w WE) := Lib.hid ⟨hbE, HI6.out.2.2.grown hgE (by have := HI6.out.1.lt; omega) (by intro k hk; injection hk with hk; omega)⟩
       clear hbE hgE hzE))
    refine bodyPost_ret (results_cell_tmp2 Tryd.results11 rfl (t := 38) (g := g0 + 1) (cs := (sesC key (s : Int) (o : Int) n t b)) HBE.out.1 Tryd.underlying38 rfl (by rw [HSZ.out]; kernel_rfl)) rfl ?_
    rw [HTG.out]
    exact ⟨rfl, HG0.out ▸ HBE.out.2⟩
  | true =>
    have hxy : x = y := by have := HBB.out.symm; simpa using this
    have HG := Lib.hid (takeG_read (dk := dk) (self := s) (other := o) (t := t) (b := b) (f := fm) HGR.out (by rw [← HSY.out.1, ← HSY.out.2, ← HX.out]; exact hxy))
    rw [← HSY.out.1] at HG
    clear hxy
    obtain ⟨s0, hs0⟩ : ∃ s0 : Rst, s0 = (X, 0) := ⟨_, rfl⟩
    obtain ⟨s1, hs1⟩ : ∃ s1, s1 = (uintR s0).2 := ⟨_, rfl⟩
    obtain ⟨s2, hs2⟩ : ∃ s2, s2 = (uintR s1).2 := ⟨_, rfl⟩
    obtain ⟨s3, hs3⟩ : ∃ s3, s3 = (uintR s2).2 := ⟨_, rfl⟩
    obtain ⟨s4, hs4⟩ : ∃ s4, s4 = (bytesR 1052672 s3).2 := ⟨_, rfl⟩
    obtain ⟨n1, hn1⟩ : ∃ n1, n1 = (uintR s0).1 := ⟨_, rfl⟩
    obtain ⟨n2, hn2⟩ : ∃ n2, n2 = (uintR s1).1 := ⟨_, rfl⟩
    obtain ⟨n3, hn3⟩ : ∃ n3, n3 = (uintR s2).1 := ⟨_, rfl⟩
    obtain ⟨Y, hY⟩ : ∃ Y, Y = (bytesR 1052672 s3).1 := ⟨_, rfl⟩
    obtain ⟨ec, hec⟩ : ∃ ec, ec = endR s4 := ⟨_, rfl⟩
    have hRG : readG X = (n1, n2, n3, Y, ec) := by rw [hn1, hn2, hn3, hY, hec, hs4, hs3, hs2, hs1, hs0]; rfl
    rw [hRG] at HG
    have hl0 : s0.1.length ≤ 900000 := by rw [hs0]; exact hXl
    have hl1 : s1.1.length ≤ 900000 := by rw [hs1]; exact Nat.le_trans (uintR_short s0) hl0
    have hl2 : s2.1.length ≤ 900000 := by rw [hs2]; exact Nat.le_trans (uintR_short s1) hl1
    have hl3 : s3.1.length ≤ 900000 := by rw [hs3]; exact Nat.le_trans (uintR_short s2) hl2
    have hn1b : n1 < 18446744073709551616 := by rw [hn1]; exact uintR_lt _
    have HF := Lib.hid (And.intro hs0 (And.intro hs1 (And.intro hs2 (And.intro hs3 (And.intro hs4 (And.intro hn1 (And.intro hn2 (And.intro hn3 (And.intro hY hec)))))))))
    clear hs0 hs1 hs2 hs3 hs4 hn1 hn2 hn3 hY hec hRG
    go_wp2_with fail
    obtain ⟨g9, hg9⟩ : ∃ g9, g9 = W.heap.size := ⟨_, rfl⟩
    have hg09 : g0 + 1 < g9 := by obtain ⟨cs, h1, _⟩ := HI6.out.2.1; rw [hg9]; exact h1.lt
    refine calls_abs (fun V => Hid (Blk V g9 74 #[.string (bs s0.1), .int .i64 (s0.2 : Int)] ∧ RS V g0 key (s : Int) (o : Int) n t b ∧ (∃ cs, Blk V (g0 + 1) 38 cs ∧ cs.size = 37) ∧ Below g0 w V)) (Lib.hid ?_) ?_
    · have hA : Below W.heap.size W (W.alloc (.cells #[.string (bs X), .int .i64 0] 74)) := (Below.refl _ _).alloc (Nat.le_refl _) _
      refine ⟨by rw [hg9, HF.out.1]; exact Blk.new W _ _, HI6.out.1.below hA HI6.out.1.lt, ?_, HI6.out.2.2.trans (hA.mono (by omega))⟩
      obtain ⟨cs, h1, h2⟩ := HI6.out.2.1
      exact ⟨cs, h1.below hA h1.lt, h2⟩
    rw [← hg9]
    clear hg9 HI6
    intro V7 HV7
    refine (refUint_any (bs X) 0 V7 (by omega)).mono ?_
    rintro e w7 ⟨rfl, hb7⟩
    rw [sb_bs]
    have HI7 : Hid (Blk w7 g9 74 #[.string (bs s0.1), .int .i64 (s0.2 : Int)] ∧ RS w7 g0 key (s : Int) (o : Int) n t b ∧ (∃ cs, Blk w7 (g0 + 1) 38 cs ∧ cs.size = 37) ∧ Below g0 w w7) := Lib.hid ⟨HV7.out.1.below hb7 HV7.out.1.lt, HV7.out.2.1.below hb7 HV7.out.2.1.lt, by obtain ⟨cs, h1, h2⟩ := HV7.out.2.2.1; exact ⟨cs, h1.below hb7 h1.lt, h2⟩, HV7.out.2.2.2.trans (hb7.mono (by have := HV7.out.2.1.lt; omega))⟩
    clear hb7 HV7
    rw [show (uintR (X, 0)).2 = s1 by rw [HF.out.2.1, HF.out.1], show (uintR (X, 0)).1 = n1 by rw [HF.out.2.2.2.2.2.1, HF.out.1], rfV]
    have q0 := HI7.out.1.cell 0
    have q1 := HI7.out.1.cell 1
    have q2 := HI7.out.1.frozen 0
    have q3 := HI7.out.1.frozen 1
    simp only [List.getElem?_toArray, List.getElem?_cons_zero, List.getElem?_cons_succ] at q0 q1
    go_wp2_with fail
    refine calls_abs (fun V => Hid (Blk V g9 74 #[.string (bs s1.1), .int .i64 (s1.2 : Int)] ∧ RS V g0 key (s : Int) (o : Int) n t b ∧ (∃ cs, Blk V (g0 + 1) 38 cs ∧ cs.size = 37) ∧ Below g0 w V)) (Lib.hid ?_) ?_
    · have hG : w7.grownBy ((w7.setCell ⟨g9, 0, none⟩ (.string (bs s1.1))).setCell ⟨g9, 1, none⟩ (.int .i64 (s1.2 : Int))) (some g9) := Only.store (p := ⟨g9, 1, none⟩) (Only.store (p := ⟨g9, 0, none⟩) (World.grownBy.refl w7 (some g9)) (.inl rfl) _) (.inl rfl) _
      refine ⟨(HI7.out.1.store 0 _).store 1 _, HI7.out.2.1.grown hG (by intro e; injection e with e; omega), ?_, HI7.out.2.2.2.grown hG (by have := HI7.out.2.1.lt; omega) (by intro k hk; injection hk with hk; omega)⟩
      obtain ⟨cs, h1, h2⟩ := HI7.out.2.2.1
      exact ⟨cs, h1.grown hG (by intro e; injection e with e; omega), h2⟩
    clear q0 q1 q2 q3 HI7
    intro V8 HV8
    refine (refUint_any (bs s1.1) s1.2 V8 (by rw [bs_size]; omega)).mono ?_
    rintro e w8 ⟨rfl, hb8⟩
    rw [sb_bs]
    have HI8 : Hid (Blk w8 g9 74 #[.string (bs s1.1), .int .i64 (s1.2 : Int)] ∧ RS w8 g0 key (s : Int) (o : Int) n t b ∧ (∃ cs, Blk w8 (g0 + 1) 38 cs ∧ cs.size = 37) ∧ Below g0 w w8) := Lib.hid ⟨HV8.out.1.below hb8 HV8.out.1.lt, HV8.out.2.1.below hb8 HV8.out.2.1.lt, by obtain ⟨cs, h1, h2⟩ := HV8.out.2.2.1; exact ⟨cs, h1.below hb8 h1.lt, h2⟩, HV8.out.2.2.2.trans (hb8.mono (by have := HV8.out.2.1.lt; omega))⟩
    clear hb8 HV8
    rw [show (uintR (s1.1, s1.2)).2 = s2 from HF.out.2.2.1.symm, show (uintR (s1.1, s1.2)).1 = n2 from HF.out.2.2.2.2.2.2.1.symm, rfV]
    have q0 := HI8.out.1.cell 0
    have q1 := HI8.out.1.cell 1
    have q2 := HI8.out.1.frozen 0
    have q3 := HI8.out.1.frozen 1
    simp only [List.getElem?_toArray, List.getElem?_cons_zero, List.getElem?_cons_succ] at q0 q1
    go_wp2_with fail
    refine calls_abs (fun V => Hid (Blk V g9 74 #[.string (bs s2.1), .int .i64 (s2.2 : Int)] ∧ RS V g0 key (s : Int) (o : Int) n t b ∧ (∃ cs, Blk V (g0 + 1) 38 cs ∧ cs.size = 37) ∧ Below g0 w V)) (Lib.hid ?_) ?_
    · have hG : w8.grownBy ((w8.setCell ⟨g9, 0, none⟩ (.string (bs s2.1))).setCell ⟨g9, 1, none⟩ (.int .i64 (s2.2 : Int))) (some g9) := Only.store (p := ⟨g9, 1, none⟩) (Only.store (p := ⟨g9, 0, none⟩) (World.grownBy.refl w8 (some g9)) (.inl rfl) _) (.inl rfl) _
      refine ⟨(HI8.out.1.store 0 _).store 1 _, HI8.out.2.1.grown hG (by intro e; injection e with e; omega), ?_, HI8.out.2.2.2.grown hG (by have := HI8.out.2.1.lt; omega) (by intro k hk; injection hk with hk; omega)⟩
      obtain ⟨cs, h1, h2⟩ := HI8.out.2.2.1
      exact ⟨cs, h1.grown hG (by intro e; injection e with e; omega), h2⟩
    clear q0 q1 q2 q3 HI8
    intro V9 HV9
    refine (refUint_any (bs s2.1) s2.2 V9 (by rw [bs_size]; omega)).mono ?_
    rintro e w9 ⟨rfl, hb9⟩
    rw [sb_bs]
    have HI9 : Hid (Blk w9 g9 74 #[.string (bs s2.1), .int .i64 (s2.2 : Int)] ∧ RS w9 g0 key (s : Int) (o : Int) n t b ∧ (∃ cs, Blk w9 (g0 + 1) 38 cs ∧ cs.size = 37) ∧ Below g0 w w9) := Lib.hid ⟨HV9.out.1.below hb9 HV9.out.1.lt, HV9.out.2.1.below hb9 HV9.out.2.1.lt, by obtain ⟨cs, h1, h2⟩ := HV9.out.2.2.1; exact ⟨cs, h1.below hb9 h1.lt, h2⟩, HV9.out.2.2.2.trans (hb9.mono (by have := HV9.out.2.1.lt; omega))⟩
    clear hb9 HV9
    rw [show (uintR (s2.1, s2.2)).2 = s3 from HF.out.2.2.2.1.symm, show (uintR (s2.1, s2.2)).1 = n3 from HF.out.2.2.2.2.2.2.2.1.symm, rfV]
    have q0 := HI9.out.1.cell 0
    have q1 := HI9.out.1.cell 1
    have q2 := HI9.out.1.frozen 0
    have q3 := HI9.out.1.frozen 1
    simp only [List.getElem?_toArray, List.getElem?_cons_zero, List.getElem?_cons_succ] at q0 q1
    go_wp2_with fail
    refine calls_abs (fun V => Hid (Blk V g9 74 #[.string (bs s3.1), .int .i64 (s3.2 : Int)] ∧ RS V g0 key (s : Int) (o : Int) n t b ∧ (∃ cs, Blk V (g0 + 1) 38 cs ∧ cs.size = 37) ∧ Below g0 w V)) (Lib.hid ?_) ?_
    · have hG : w9.grownBy ((w9.setCell ⟨g9, 0, none⟩ (.string (bs s3.1))).setCell ⟨g9, 1, none⟩ (.int .i64 (s3.2 : Int))) (some g9) := Only.store (p := ⟨g9, 1, none⟩) (Only.store (p := ⟨g9, 0, none⟩) (World.grownBy.refl w9 (some g9)) (.inl rfl) _) (.inl rfl) _
      refine ⟨(HI9.out.1.store 0 _).store 1 _, HI9.out.2.1.grown hG (by intro e; injection e with e; omega), ?_, HI9.out.2.2.2.grown hG (by have := HI9.out.2.1.lt; omega) (by intro k hk; injection hk with hk; omega)⟩
      obtain ⟨cs, h1, h2⟩ := HI9.out.2.2.1
      exact ⟨cs, h1.grown hG (by intro e; injection e with e; omega), h2⟩
    clear q0 q1 q2 q3 HI9
    intro V10 HV10
    refine (refBytes_any (bs s3.1) s3.2 1052672 V10 (by rw [bs_size]; omega) (by omega)).mono ?_
    rintro e w10 ⟨rfl, hb10⟩
    rw [sb_bs]
    have HI10 : Hid (Blk w10 g9 74 #[.string (bs s3.1), .int .i64 (s3.2 : Int)] ∧ RS w10 g0 key (s : Int) (o : Int) n t b ∧ (∃ cs, Blk w10 (g0 + 1) 38 cs ∧ cs.size = 37) ∧ Below g0 w w10) := Lib.hid ⟨HV10.out.1.below hb10 HV10.out.1.lt, HV10.out.2.1.below hb10 HV10.out.2.1.lt, by obtain ⟨cs, h1, h2⟩ := HV10.out.2.2.1; exact ⟨cs, h1.below hb10 h1.lt, h2⟩, HV10.out.2.2.2.trans (hb10.mono (by have := HV10.out.2.1.lt; omega))⟩
    clear hb10 HV10
    rw [show (bytesR 1052672 (s3.1, s3.2)).2 = s4 from HF.out.2.2.2.2.1.symm, show (bytesR 1052672 (s3.1, s3.2)).1 = Y from HF.out.2.2.2.2.2.2.2.2.1.symm, rfV]
    have q0 := HI10.out.1.cell 0
    have q1 := HI10.out.1.cell 1
    have q2 := HI10.out.1.frozen 0
    have q3 := HI10.out.1.frozen 1
    simp only [List.getElem?_toArray, List.getElem?_cons_zero, List.getElem?_cons_succ] at q0 q1
    go_wp2_with fail
    refine calls_abs (fun V => Hid (Blk V g9 74 #[.string (bs s4.1), .int .i64 (s4.2 : Int)] ∧ RS V g0 key (s : Int) (o : Int) n t b ∧ (∃ cs, Blk V (g0 + 1) 38 cs ∧ cs.size = 37) ∧ Below g0 w V)) (Lib.hid ?_) ?_
    · have hG : w10.grownBy ((w10.setCell ⟨g9, 0, none⟩ (.string (bs s4.1))).setCell ⟨g9, 1, none⟩ (.int .i64 (s4.2 : Int))) (some g9) := Only.store (p := ⟨g9, 1, none⟩) (Only.store (p := ⟨g9, 0, none⟩) (World.grownBy.refl w10 (some g9)) (.inl rfl) _) (.inl rfl) _
      refine ⟨(HI10.out.1.store 0 _).store 1 _, HI10.out.2.1.grown hG (by intro e; injection e with e; omega), ?_, HI10.out.2.2.2.grown hG (by have := HI10.out.2.1.lt; omega) (by intro k hk; injection hk with hk; omega)⟩
      obtain ⟨cs, h1, h2⟩ := HI10.out.2.2.1
      exact ⟨cs, h1.grown hG (by intro e; injection e with e; omega), h2⟩
    clear q0 q1 q2 q3 HI10
    intro V11 HV11
    refine (refEnd_any (bs s4.1) s4.2 V11).mono ?_
    rintro e w11 ⟨rfl, hb11⟩
    rw [sb_bs]
    have HI11 : Hid (Blk w11 g9 74 #[.string (bs s4.1), .int .i64 (s4.2 : Int)] ∧ RS w11 g0 key (s : Int) (o : Int) n t b ∧ (∃ cs, Blk w11 (g0 + 1) 38 cs ∧ cs.size = 37) ∧ Below g0 w w11) := Lib.hid ⟨HV11.out.1.below hb11 HV11.out.1.lt, HV11.out.2.1.below hb11 HV11.out.2.1.lt, by obtain ⟨cs, h1, h2⟩ := HV11.out.2.2.1; exact ⟨cs, h1.below hb11 h1.lt, h2⟩, HV11.out.2.2.2.trans (hb11.mono (by have := HV11.out.2.1.lt; omega))⟩
    clear hb11 HV11
    rw [show endR (s4.1, s4.2) = ec from HF.out.2.2.2.2.2.2.2.2.2.symm]
    have HI12 := Lib.hid HI11.out.2
    clear HI11 HF
    by_cases he0 : ec = 0
    · subst he0
      rw [show ((0 : Nat) : Int) = 0 from rfl]
      obtain ⟨q32, q33, -, q35, q36⟩ := HI12.out.1.cells hk
      by_cases hfr : n2 = o
      · by_cases hto : n3 = s
        · have hfi : (n2 : Int) = (o : Int) := by omega
          have hti : (n3 : Int) = (s : Int) := by omega
          have HU := Lib.hid (u64_lift hn1b)
          have HG1 : Hid (∀ u, u = UInt64.ofNat n1 → takeG dk s o t b fm = if seenF t b u = true then (22, [], t, b) else (0, Y, withF t b u)) := Lib.hid (by
            rintro u rfl
            rw [HG.out]
            simp only [ne_eq, not_true_eq_false, ↓reduceIte, hfr, hto, or_self])
          go_wp2_with fail
          rw [show ((n1 : Nat) : Int) = ((UInt64.ofNat n1).toNat : Int) by rw [HU.out]]
          obtain ⟨u, hu⟩ : ∃ u, u = UInt64.ofNat n1 := ⟨_, rfl⟩
          have HG2 := Lib.hid (HG1.out u hu)
          rw [← hu]
          clear hu HU HG1 q32 q33 q35 q36
          cases hsn : seenF t b u with
          | true =>
            have HTG : Hid (takeG dk s o t b fm = (22, [], t, b)) := Lib.hid (by rw [HG2.out, if_pos hsn])
            refine (refTake_old t b u w11 hsn).mono ?_
            rintro e w12 ⟨rfl, hb12⟩
            have HI13 : Hid (RS w12 g0 key (s : Int) (o : Int) n t b ∧ (∃ cs, Blk w12 (g0 + 1) 38 cs ∧ cs.size = 37) ∧ Below g0 w w12) := Lib.hid ⟨HI12.out.1.below hb12 HI12.out.1.lt, by obtain ⟨cs, h1, h2⟩ := HI12.out.2.1; exact ⟨cs, h1.below hb12 h1.lt, h2⟩, HI12.out.2.2.trans (hb12.mono (by have := HI12.out.1.lt; omega))⟩
            clear hb12 HI12 hsn
            go_upto_region 19 with (fail)
            refine wp_abs (fun V => Hid (RS V g0 key (s : Int) (o : Int) n t b ∧ (∃ cs, Blk V (g0 + 1) 38 cs ∧ cs.size = 37) ∧ Below g0 w V)) (Lib.hid ?_) ?_
            · have hlt12 := HI13.out.1.lt
              refine ⟨HI13.out.1.alloc _, ?_, HI13.out.2.2.alloc (by omega) _⟩
              obtain ⟨cs, h1, h2⟩ := HI13.out.2.1
              exact ⟨cs, h1.alloc _, h2⟩
            intro V HV
            obtain ⟨csE, hcE⟩ := HV.out.2.1
            have HCE := Lib.hid hcE
            clear hcE
            go_wp2_with (first
            | (refine wpList_load_blk rfl 38 (.tmp 2) rfl g0 38 (sesC key (s : Int) (o : Int) n t b) rfl HV.out.1 Tryd.underlying38 rfl (by rw [HSZ.out]; kernel_rfl) ?_)
            | (refine wpList_store_blk rfl 38 (.tmp 4) (.tmp 89) rfl (g0 + 1) 38 csE (sesC key (s : Int) (o : Int) n t b) rfl rfl HCE.out.1 (by rw [HSZ.out, HCE.out.2]) (by rw [HSZ.out]; kernel_rfl) (sesC_one _ _ _ _ _ _) ?_
               intro WE hbE hgE hzE
               have HBE : Hid (Blk WE (g0 + 1) 38 (sesC key (s : Int) (o : Int) n t b) ∧ Below g0 w WE) := Lib.hid ⟨hbE, HV.out.2.2.grown hgE (by have := HV.out.1.lt; omega) (by intro k hk; injection hk with hk; omega)⟩
               clear hbE hgE hzE))
            refine bodyPost_ret (results_cell_tmp2 Tryd.results11 rfl (t := 38) (g := g0 + 1) (cs := (sesC key (s : Int) (o : Int) n t b)) HBE.out.1 Tryd.underlying38 rfl (by rw [HSZ.out]; kernel_rfl)) rfl ?_
            rw [HTG.out]
            exact ⟨rfl, HG0.out ▸ HBE.out.2⟩
          | false =>
            have HTG : Hid (takeG dk s o t b fm = (0, Y, withF t b u)) := Lib.hid (by rw [HG2.out, if_neg (by rw [hsn]; simp)])
            refine (refTake_new t b u w11 hsn).mono ?_
            rintro e w12 ⟨rfl, hb12⟩
            obtain ⟨tb, htb⟩ : ∃ tb, tb = withF t b u := ⟨_, rfl⟩
            rw [← htb] at HTG ⊢
            have HI13 : Hid (RS w12 g0 key (s : Int) (o : Int) n t b ∧ (∃ cs, Blk w12 (g0 + 1) 38 cs ∧ cs.size = 37) ∧ Below g0 w w12) := Lib.hid ⟨HI12.out.1.below hb12 HI12.out.1.lt, by obtain ⟨cs, h1, h2⟩ := HI12.out.2.1; exact ⟨cs, h1.below hb12 h1.lt, h2⟩, HI12.out.2.2.trans (hb12.mono (by have := HI12.out.1.lt; omega))⟩
            have hlt12 := HI13.out.1.lt
            obtain ⟨-, -, -, q35, q36⟩ := HI13.out.1.cells hk
            have f35 := HI13.out.1.frozen 35
            have f36 := HI13.out.1.frozen 36
            clear hb12 HI12 hsn htb
            go_upto_region 21 with (fail)
            refine wp_abs (fun V => Hid (RS V g0 key (s : Int) (o : Int) n tb.1 tb.2 ∧ (∃ cs, Blk V (g0 + 1) 38 cs ∧ cs.size = 37) ∧ Below g0 w V)) (Lib.hid ?_) ?_
            · refine ⟨(RS.win HI13.out.1 hk _ _).alloc _, ?_, ((HI13.out.2.2.setCell (p := ⟨g0, 35, none⟩) (Nat.le_refl _) _).setCell (p := ⟨g0, 36, none⟩) (Nat.le_refl _) _).alloc (by simp; omega) _⟩
              obtain ⟨cs, h1, h2⟩ := HI13.out.2.1
              exact ⟨cs, ((h1.other (p := ⟨g0, 35, none⟩) (by show g0 + 1 ≠ g0; omega) _).other (p := ⟨g0, 36, none⟩) (by show g0 + 1 ≠ g0; omega) _).alloc _, h2⟩
            intro V HV
            obtain ⟨csE, hcE⟩ := HV.out.2.1
            have HCE := Lib.hid hcE
            clear hcE
            go_wp2_with (first
            | (refine wpList_load_blk rfl 38 (.tmp 2) rfl g0 38 (sesC key (s : Int) (o : Int) n tb.1 tb.2) rfl HV.out.1 Tryd.underlying38 rfl (by rw [HSZ.out]; kernel_rfl) ?_)
            | (refine wpList_store_blk rfl 38 (.tmp 4) (.tmp 93) rfl (g0 + 1) 38 csE (sesC key (s : Int) (o : Int) n tb.1 tb.2) rfl rfl HCE.out.1 (by rw [HSZ.out, HCE.out.2]) (by rw [HSZ.out]; kernel_rfl) (sesC_one _ _ _ _ _ _) ?_
               intro WE hbE hgE hzE
               have HBE : Hid (Blk WE (g0 + 1) 38 (sesC key (s : Int) (o : Int) n tb.1 tb.2) ∧ Below g0 w WE) := Lib.hid ⟨hbE, HV.out.2.2.grown hgE (by have := HV.out.1.lt; omega) (by intro k hk; injection hk with hk; omega)⟩
               clear hbE hgE hzE))
            refine bodyPost_ret (results_cell_tmp2 Tryd.results11 rfl (t := 38) (g := g0 + 1) (cs := (sesC key (s : Int) (o : Int) n tb.1 tb.2)) HBE.out.1 Tryd.underlying38 rfl (by rw [HSZ.out]; kernel_rfl)) rfl ?_
            rw [HTG.out]
            exact ⟨rfl, HG0.out ▸ HBE.out.2⟩
        · have HTG : Hid (takeG dk s o t b fm = (1, [], t, b)) := Lib.hid (by rw [HG.out]; simp only [ne_eq, not_true_eq_false, ↓reduceIte]; rw [if_pos (.inr hto)])
          have hfi : (n2 : Int) = (o : Int) := by omega
          have hti : ¬ (n3 : Int) = (s : Int) := by omega
          obtain ⟨csE, hcE⟩ := HI12.out.2.1
          have HCE := Lib.hid hcE
          clear hcE
          go_wp2_with (first
          | (refine wpList_load_blk rfl 38 (.tmp 2) rfl g0 38 (sesC key (s : Int) (o : Int) n t b) rfl HI12.out.1 Tryd.underlying38 rfl (by rw [HSZ.out]; kernel_rfl) ?_)
          | (refine wpList_store_blk rfl 38 (.tmp 4) (.tmp 79) rfl (g0 + 1) 38 csE (sesC key (s : Int) (o : Int) n t b) rfl rfl HCE.out.1 (by rw [HSZ.out, HCE.out.2]) (by rw [HSZ.out]; kernel_rfl) (sesC_one _ _ _ _ _ _) ?_
             intro WE hbE hgE hzE
             have HBE : Hid (Blk WE (g0 + 1) 38 (sesC key (s : Int) (o : Int) n t b) ∧ Below g0 w WE) := Lib.hid ⟨hbE, HI12.out.2.2.grown hgE (by have := HI12.out.1.lt; omega) (by intro k hk; injection hk with hk; omega)⟩
             clear hbE hgE hzE))
          refine bodyPost_ret (results_cell_tmp2 Tryd.results11 rfl (t := 38) (g := g0 + 1) (cs := (sesC key (s : Int) (o : Int) n t b)) HBE.out.1 Tryd.underlying38 rfl (by rw [HSZ.out]; kernel_rfl)) rfl ?_
          rw [HTG.out]
          exact ⟨rfl, HG0.out ▸ HBE.out.2⟩
      · have HTG : Hid (takeG dk s o t b fm = (1, [], t, b)) := Lib.hid (by rw [HG.out]; simp only [ne_eq, not_true_eq_false, ↓reduceIte]; rw [if_pos (.inl hfr)])
        have hfi : ¬ (n2 : Int) = (o : Int) := by omega
        obtain ⟨csE, hcE⟩ := HI12.out.2.1
        have HCE := Lib.hid hcE
        clear hcE
        go_wp2_with (first
        | (refine wpList_load_blk rfl 38 (.tmp 2) rfl g0 38 (sesC key (s : Int) (o : Int) n t b) rfl HI12.out.1 Tryd.underlying38 rfl (by rw [HSZ.out]; kernel_rfl) ?_)
        | (refine wpList_store_blk rfl 38 (.tmp 4) (.tmp 79) rfl (g0 + 1) 38 csE (sesC key (s : Int) (o : Int) n t b) rfl rfl HCE.out.1 (by rw [HSZ.out, HCE.out.2]) (by rw [HSZ.out]; kernel_rfl) (sesC_one _ _ _ _ _ _) ?_
           intro WE hbE hgE hzE
           have HBE : Hid (Blk WE (g0 + 1) 38 (sesC key (s : Int) (o : Int) n t b) ∧ Below g0 w WE) := Lib.hid ⟨hbE, HI12.out.2.2.grown hgE (by have := HI12.out.1.lt; omega) (by intro k hk; injection hk with hk; omega)⟩
           clear hbE hgE hzE))
        refine bodyPost_ret (results_cell_tmp2 Tryd.results11 rfl (t := 38) (g := g0 + 1) (cs := (sesC key (s : Int) (o : Int) n t b)) HBE.out.1 Tryd.underlying38 rfl (by rw [HSZ.out]; kernel_rfl)) rfl ?_
        rw [HTG.out]
        exact ⟨rfl, HG0.out ▸ HBE.out.2⟩
    · have HTG : Hid (takeG dk s o t b fm = (ec, [], t, b)) := Lib.hid (by rw [HG.out]; rw [if_pos he0])
      have hei0 : ¬ (ec : Int) = 0 := by omega
      obtain ⟨csE, hcE⟩ := HI12.out.2.1
      have HCE := Lib.hid hcE
      clear hcE
      go_wp2_with (first
      | (refine wpList_load_blk rfl 38 (.tmp 2) rfl g0 38 (sesC key (s : Int) (o : Int) n t b) rfl HI12.out.1 Tryd.underlying38 rfl (by rw [HSZ.out]; kernel_rfl) ?_)
      | (refine wpList_store_blk rfl 38 (.tmp 4) (.tmp 65) rfl (g0 + 1) 38 csE (sesC key (s : Int) (o : Int) n t b) rfl rfl HCE.out.1 (by rw [HSZ.out, HCE.out.2]) (by rw [HSZ.out]; kernel_rfl) (sesC_one _ _ _ _ _ _) ?_
         intro WE hbE hgE hzE
         have HBE : Hid (Blk WE (g0 + 1) 38 (sesC key (s : Int) (o : Int) n t b) ∧ Below g0 w WE) := Lib.hid ⟨hbE, HI12.out.2.2.grown hgE (by have := HI12.out.1.lt; omega) (by intro k hk; injection hk with hk; omega)⟩
         clear hbE hgE hzE))
      refine bodyPost_ret (results_cell_tmp2 Tryd.results11 rfl (t := 38) (g := g0 + 1) (cs := (sesC key (s : Int) (o : Int) n t b)) HBE.out.1 Tryd.underlying38 rfl (by rw [HSZ.out]; kernel_rfl)) rfl ?_
      rw [HTG.out]
      exact ⟨rfl, HG0.out ▸ HBE.out.2⟩
end Go.Proofs.YtlkhbfafednegaaDoor
