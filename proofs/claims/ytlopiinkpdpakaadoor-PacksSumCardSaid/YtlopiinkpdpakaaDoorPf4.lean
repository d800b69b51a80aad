/-
  The walk of proof.above.
-/
import Derived.Test.YtlopiinkpdpakaaDoorPf3
import Derived.Test.YtlopiinkpdpakaaDoorCkI
import Derived.Test.YtlopiinkpdpakaaDoorCo
import Derived.Test.YtlopiinkpdpakaaDoorGB
import Derived.Sort.CutIn
namespace Go.Proofs.YtlopiinkpdpakaaDoor
open Go Go.RowKit Go.Shelf
set_option linter.unusedSimpArgs false
set_option linter.unusedVariables false

attribute [local go_sem] Oper.semAt_some

theorem keepC_low {B n g : Nat} {w : World} (h : g < B) (u : Value) : KeepC B n w (w.setCell ⟨g, 0, none⟩ u) := fun b o v h1 h2 h3 => by
  rw [World.cell?_of_block (a := ⟨b, o, none⟩) (Below.heap_setCell w _ _ b (by show b ≠ g; omega))]; exact h3

set_option maxRecDepth 100000 in
set_option maxHeartbeats 4000000 in
theorem above_any (v : Value) (ds : List Dig) (w : World) (hT : Tab w) (h0 : 0 < w.heap.size) (h : IdS w v ds) (hn : ds.length ≤ 1000000) :
    Calls Tryd.prog 39 #[v] w fun e w' => ∃ v', e = .returned v' ∧ IdR w' w.heap.size v' ((ds.length + 1) / 2) (aboveF ds) ∧ Below w.heap.size w w' := by
  obtain ⟨ii, hii, hzi, hsi, hbi⟩ := infoId
  have HII := Lib.hid hii; clear hii
  have HT := Lib.hid hT
  have HD := Lib.hid h.dig
  obtain ⟨p, cap, rfl, hlc, hcm⟩ := h.form
  obtain ⟨n, hnn⟩ : ∃ n, n = ds.length := ⟨_, rfl⟩
  rw [← hnn] at hlc hn h ⊢
  have H := Lib.hid h
  have HN := Lib.hid hnn
  obtain ⟨b, o, hbo⟩ : ∃ b o, 0 < n → p = some ⟨b, o, none⟩ := by
    by_cases h0 : 0 < n
    · obtain ⟨b, o, h1, _⟩ := h.at_ h0
      exact ⟨b, o, fun _ => h1⟩
    · exact ⟨0, 0, fun h => absurd h h0⟩
  have HBO := Lib.hid hbo
  clear hT h hnn hbo
  obtain ⟨N, hN⟩ : ∃ N, N = (n + 1) / 2 := ⟨_, rfl⟩
  rw [← hN]
  have HNN := Lib.hid hN
  have hN6 : N ≤ 1000000 := by omega
  have HAL : Hid ((aboveF ds).length = N) := Lib.hid (by rw [aboveF_length, ← HN.out, hN])
  clear hN
  refine (callsIn_wide (n := 4)).1 (callsIn_of_wp_marks Tryd.func39 rfl trivial ?_ rfl)
  simp only [Tryd.ntmps39, List.size_toArray, List.length_cons, List.length_nil, Nat.reduceAdd, Nat.reduceSub, Array.replicate_succ, Array.replicate_zero, List.push_toArray, List.append_toArray, List.nil_append, List.cons_append]
  refine wpIn_wide.2 ?_
  obtain ⟨B, hB⟩ : ∃ B, B = w.heap.size := ⟨_, rfl⟩
  have HBW := Lib.hid hB
  go_wp2_with fail
  rw [show (2 : Int) = ((2 : Nat) : Int) from rfl]
  refine (chunkI_any p n cap 2 _ (by omega)).mono ?_
  rintro e w2 ⟨rfl, hw2⟩
  have HI2 : Hid (Blk w2 B 72 #[.slice none 0 0] ∧ Below B w w2 ∧ w2.cell? ⟨B + 1, 0, none⟩ = some (.slice p n cap) ∧ w2.cell? ⟨B + 2, 0, none⟩ = some (.int .i64 2) ∧ w2.heap.size = B + 3) := Lib.hid (by
    rw [hw2, hB]
    refine ⟨((Blk.new w _ _).alloc _).alloc _, (((Below.refl w.heap.size w).alloc (Nat.le_refl _) _).alloc (by simp) _).alloc (by simp; omega) _, ((Blk.new' (w := w.alloc _) (by simp) _ _).alloc _).cell 0, (Blk.new' (w := (w.alloc _).alloc _) (by simp) 3 #[.int .i64 2]).cell 0, by simp⟩)
  rw [World.size_alloc, ← hB]
  clear hw2 hB
  go_wp2_with fail
  have hseq := chunkI1_seq (B + 1) b o n cap p w2 HBO.out hlc hcm (by omega) (by have := HI2.out.2.2.2.2; omega) HI2.out.2.2.1 HI2.out.2.2.2.1
  rw [← HNN.out] at hseq
  have hsz := HI2.out.2.2.2.2
  refine (wpIn_wide (n := 2 + 2)).1 ?_
  apply wpIn_range_n (n := 2) (gf := 58) (lb := #[.pointer (some ⟨B + 1, 0, none⟩), .pointer (some ⟨B + 1 + 1, 0, none⟩)]) rfl (enters_of Tryd.func58 (by kernel_rfl) rfl) hseq (Below.refl _ _) (fun _ => rfl) (fun _ _ _ h k => h.trans k)
    (fun X Y h => by obtain ⟨l, o, o', hl, ho, hcl, rfl⟩ := h; exact KeepC.put _ (by omega)) (fun X Y h => KeepN.below h)
    (fun q W => ∃ u, Blk W B 72 #[u] ∧ IdR W w2.heap.size u q ((aboveF ds).take q) ∧ Below B w W) (fun _ _ => False)
    (fun q X Y h ht => by obtain ⟨u, h1, h2, h3⟩ := h; exact ⟨u, ht.blk h1, ⟨ht.own h2.1, h2.2⟩, ht.below h3 (by omega)⟩) (fun _ _ _ h _ => h)
    (fun q X Y h hb => by obtain ⟨u, h1, h2, h3⟩ := h; exact ⟨u, h1.below hb h1.lt, h2.keep hb, h3.trans (hb.mono (by have := h1.lt; omega))⟩)
    (fun o1 o2 => ⟨_, (HI2.out.1.alloc _).alloc _, IdR.nil _ _, (HI2.out.2.1.alloc (by omega) _).alloc (by simp; omega) _⟩)
  case hassign =>
    intro ly q V K hK
    gi_wp2
    exact hK
  case hstop =>
    rintro D cc V _ h _
    exact h.elim
  case hdone =>
    intro D V hD hI hK
    have ht : Turns w2.heap.size V (V.putObj D (.deferred none)) := ⟨D, _, _, hD, hK, rfl, rfl⟩
    obtain ⟨u, h1, h2, h3⟩ := hI
    obtain ⟨A, c, rfl⟩ := h2.form
    have c0 := h1.cell 0
    simp only [List.getElem?_toArray, List.getElem?_cons_zero] at c0
    rw [List.take_of_length_le (by rw [HAL.out]; exact Nat.le_refl _)] at h2
    have HR : Hid (IdR (V.putObj D (.deferred none)) B (.slice A N c) N (aboveF ds) ∧ Below B w (V.putObj D (.deferred none))) := Lib.hid ⟨IdR.base ⟨ht.own h2.1, h2.2⟩ (by omega), ht.below h3 (by omega)⟩
    clear h1 h2 h3 ht
    go_wp2
    refine ⟨by simp, .inl ⟨_, _, rfl, run_takeDeferred hK, ?_⟩⟩
    rw [HBW.out] at HR
    exact ⟨_, results_tmp rfl _ _ _, .slice A N c, rfl, HR.out⟩
  case hbody =>
    intro ly q U hqN hI hz2
    obtain ⟨u, h1, h2, h3⟩ := hI
    obtain ⟨A, c, rfl⟩ := h2.form
    have hBU := h1.lt
    have HI := Lib.hid (And.intro h1 (And.intro h2 h3))
    obtain rfl := HBO.out (by have := HNN.out; omega)
    have hq2 : 2 * q < n := by have := HNN.out; omega
    obtain ⟨_, _, hbe, hat⟩ := H.out.at_ (by omega)
    injection hbe with hbe
    injection hbe with e1 e2
    subst e1; subst e2
    obtain ⟨d0, hd0⟩ : ∃ d0, ds[2 * q]? = some d0 := ⟨_, List.getElem?_eq_getElem (by rw [← HN.out]; exact hq2)⟩
    obtain ⟨hl0, hr0⟩ := hat _ _ hd0
    have hbB : b < B := by rw [HBW.out]; exact range_lt hr0 hl0
    obtain ⟨y, hy⟩ : ∃ y, y = o + 2 * q * 32 := ⟨_, rfl⟩
    rw [← hy] at hr0
    have HR0 : Hid (U.rangeAt b y (d0.map bcv)) := Lib.hid (fun j v hv => (h3.cell (p := ⟨b, y + j, none⟩) hbB).trans (hr0 j v hv))
    have hbz0 : (bvs d0).size = 32 := by rw [bvs_size]; exact hl0
    obtain ⟨r, hr⟩ : ∃ r, r = pairN n q := ⟨_, rfl⟩
    have hpv : pairV b o n q = .slice (some ⟨b, y, none⟩) r r := by rw [pairV, ← hr, ← hy]
    rw [hpv]
    have HR2 : Hid (r = min 2 (n - 2 * q)) := Lib.hid hr
    have hr0' : 0 < r := by have h8 : r = min 2 (n - 2 * q) := hr; omega
    have HY := Lib.hid hy
    have HHD := Lib.hid hd0
    have HAT := Lib.hid hat
    clear h1 h2 h3 hpv hr hr0 hy hd0 hat
    gi_step
    gi_step
    gi_step
    refine wpIn_round (by rintro ⟨a, w, h⟩; exact h) (by kernel_rfl) ?_
    go_wp2_with (first
      | (refine wpList_load_mid rfl 36 (.tmp 10) rfl b y rfl (d0.map bcv) _ HR0.out Tryd.underlying36 rfl (by rw [List.length_map, hl0]; kernel_rfl) ?_)
      | (refine wpList_store_blk rfl 36 (.tmp 5) (.tmp 11) rfl U.heap.size 36 _ (bvs d0) rfl rfl (Blk.new _ _ _) (by rw [hbz0]; rfl) (by rw [hbz0]; kernel_rfl) (bvs_one _) ?_
         intro V2 hb2 hg2 hz3
         have HJ2 : Hid (Blk V2 U.heap.size 36 (bvs d0) ∧ Below U.heap.size U V2 ∧ V2.heap.size = U.heap.size + 1) := Lib.hid ⟨hb2, ((Below.refl U.heap.size U).alloc (Nat.le_refl _) _).grown hg2 (by simp) (by intro k hk; injection hk with hk; omega), by rw [hz3]; simp⟩
         clear hb2 hg2 hz3))
    have HB1 : Hid (Below w.heap.size w V2) := Lib.hid (by rw [← HBW.out]; exact HI.out.2.2.trans (HJ2.out.2.1.mono (by omega)))
    by_cases hp : 2 * q + 1 < n
    · obtain rfl : r = 2 := by have := HR2.out; omega
      clear HR2 hr0'
      obtain ⟨d1, hd1⟩ : ∃ d1, ds[2 * q + 1]? = some d1 := ⟨_, List.getElem?_eq_getElem (by rw [← HN.out]; exact hp)⟩
      obtain ⟨hl1, hr1⟩ := HAT.out _ _ hd1
      have hbz1 : (bvs d1).size = 32 := by rw [bvs_size]; exact hl1
      have hr1' : U.rangeAt b (y + 32) (d1.map bcv) := fun j v hv => by
        have h1 := (HI.out.2.2.cell (p := ⟨b, o + (2 * q + 1) * 32 + j, none⟩) hbB).trans (hr1 j v hv)
        rw [HY.out, show o + 2 * q * 32 + 32 + j = o + (2 * q + 1) * 32 + j by omega]; exact h1
      have HRR : Hid (V2.rangeAt b y (d0.map bcv) ∧ V2.rangeAt b (y + 32) (d1.map bcv)) := Lib.hid ⟨fun j v hv => (HJ2.out.2.1.cell (p := ⟨b, y + j, none⟩) (by show b < _; omega)).trans (HR0.out j v hv), fun j v hv => (HJ2.out.2.1.cell (p := ⟨b, y + 32 + j, none⟩) (by show b < _; omega)).trans (hr1' j v hv)⟩
      obtain ⟨dn, hdn⟩ : ∃ dn, dn = nodeD d0 d1 := ⟨_, rfl⟩
      have hdl : dn.length = 32 := by rw [hdn]; exact sha_length _
      have hbzn : (bvs dn).size = 32 := by rw [bvs_size]; exact hdl
      have HDL := Lib.hid hdl
      have HDN := Lib.hid hdn
      have HTK : Hid ((aboveF ds).take (q + 1) = (aboveF ds).take q ++ [dn]) := Lib.hid (by rw [hdn]; exact take_next (aboveF_pair _ _ _ _ HHD.out hd1))
      have hy32 : (y + 32 : Nat) = y + 1 * 32 := by omega
      clear hr1 hr1' hd1 hdl hdn
      gi_upto_region 6 with (fail)
      refine any_region_tail2 (wpIn_round_any (by kernel_rfl) (by rintro ⟨a, w, h⟩; exact h) (by kernel_rfl)) 9 [.eq (.slice (some ⟨b, y, none⟩) 2 2), .eq (.pointer (some ⟨b, y, none⟩)), .eq (.agg (bvs d0)), .eq (.slice (some ⟨b, y, none⟩) 2 2), .eq (.pointer (some ⟨b, y + 32, none⟩)), .eq (.agg (bvs d1)), .hb (nodeP d0 d1), .parts [nodeP d0 d1], .eq (.agg (bvs (sha (nodeP d0 d1))))] (by kernel_rfl) (by kernel_rfl) (by kernel_rfl) rfl (by decide) (by kernel_rfl) _ (fun f => by simp only [framedL, Act.put, maskF, oldF, Nat.reduceLT, reduceIte, List.getElem?_toArray, List.getElem?_cons_succ, List.getElem?_cons_zero, Option.bind_some, Option.map_some, Option.map_none, Option.getD_some, Option.getD_none, Array.getD_eq_getD_getElem?, List.setIfInBounds_toArray, List.set_cons_zero, List.set_cons_succ, Nat.reduceAdd]; rfl) ⟨?_, ?_, ?_, ?_, ?_, ?_, ?_, ?_, ?_, trivial⟩ ?_
      · refine oweAs_pure ((.slice (some ⟨b, y, none⟩) 2 2)) rfl (fun f W hE hd => ?_) (fun W hE => rfl)
        go_simp
      · refine oweAs_pure ((.pointer (some ⟨b, y, none⟩))) rfl (fun f W hE hd => ?_) (fun W hE => rfl)
        simp only [DepAs, Region.binds, asAt, As.holds, and_true, forall_const] at hd
        go_simp
      · refine oweAs_load_mid 36 (.tmp 16) rfl d0 rfl rfl Tryd.underlying36 rfl (by rw [hl0]; kernel_rfl) (fun f W hE hd => by (simp only [DepAs, Region.binds, asAt, As.holds, and_true, forall_const] at hd; exact ⟨b, _, by go_simp, range_keep (HRR.out.1) hE⟩))
      · refine oweAs_pure ((.slice (some ⟨b, y, none⟩) 2 2)) rfl (fun f W hE hd => ?_) (fun W hE => rfl)
        go_simp
      · refine oweAs_pure ((.pointer (some ⟨b, y + 32, none⟩))) rfl (fun f W hE hd => ?_) (fun W hE => rfl)
        simp only [DepAs, Region.binds, asAt, As.holds, and_true, forall_const] at hd
        go_simp
      · refine oweAs_load_mid 36 (.tmp 19) rfl d1 rfl rfl Tryd.underlying36 rfl (by rw [hl1]; kernel_rfl) (fun f W hE hd => by (simp only [DepAs, Region.binds, asAt, As.holds, and_true, forall_const] at hd; exact ⟨b, _, by go_simp, range_keep (HRR.out.2) hE⟩))
      · refine oweAs_call 48 rfl (fun f W hE hd => ?_)
        simp only [DepAs, Region.binds, asAt, As.holds, and_true, forall_const] at hd
        refine ⟨_, by (go_simp; first | exact rfl | exact ⟨rfl, rfl⟩), ?_⟩
        refine (pair_any d0 d1 W hl0 hl1).mono ?_
        rintro e w' ⟨v', rfl, ho, hb⟩
        refine ⟨_, rfl, ?_, hb⟩
        have hll : (nodeP d0 d1).length = 65 := by first | (simp [nodeP]; done) | (simp [nodeP]; omega)
        exact own_hb ho (by first | (rw [hll]; done) | (rw [hll]; decide))
      · refine oweAs_made rfl (fun f W hE hd => ?_)
        simp only [DepAs, Region.binds, asAt, As.holds, and_true, forall_const] at hd
        obtain ⟨p1, c1, e1, hr1⟩ := id hd
        have hP := parts_new1 (w := W) (t := 24) rfl (⟨p1, c1, rfl, hr1⟩ : HB W (.slice p1 (nodeP d0 d1 : List UInt8).length c1) (nodeP d0 d1))
        refine ⟨_, _, by (go_simp; first | exact rfl | exact ⟨rfl, rfl⟩), ?_, (Below.refl W.heap.size W).alloc (Nat.le_refl _) _⟩
        exact hP
      · refine oweAs_call 40 rfl (fun f W hE hd => ?_)
        simp only [DepAs, Region.binds, asAt, As.holds, and_true, forall_const] at hd
        refine ⟨_, by (go_simp; first | exact rfl | exact ⟨rfl, rfl⟩), ?_⟩
        have hl := HB1.out.size
        have hz := hE.size
        refine (of_any _ _ W ((HT.out.below HB1.out h0).below hE (by omega)) (by omega) (by first | exact hd | exact hd.1) (by first | (simp; done) | (simp; omega)) (by first | (simp [nodeP]; done) | (simp [nodeP]; omega))).mono ?_
        rintro e w' ⟨rfl, hb⟩
        exact ⟨_, rfl, by (show (_ : Value) = _; simp), hb⟩
      intro f W hE hA
      simp only [AllAs, As.holds, Nat.reduceAdd] at hA
      obtain ⟨-, -, -, -, -, -, -, -, hA8, -⟩ := hA
      simp only [List.drop_succ_cons, List.drop_zero]
      rw [hA8, show sha (nodeP d0 d1) = dn from HDN.out.symm]
      have HJ3 : Hid (Blk W U.heap.size 36 (bvs d0) ∧ Below U.heap.size U W) := Lib.hid ⟨HJ2.out.1.below hE HJ2.out.1.lt, HJ2.out.2.1.trans (hE.mono (by rw [HJ2.out.2.2]; omega))⟩
      clear hE hA8 HRR HB1 HJ2
      go_wp2_with (
        (refine wpList_store_blk rfl 36 (.tmp 5) (.tmp 23) rfl U.heap.size 36 (bvs d0) (bvs dn) rfl rfl HJ3.out.1 (by rw [hbz0, hbzn]) (by rw [hbzn]; kernel_rfl) (bvs_one _) ?_
         intro V3 hb3 hg3 hz3
         have HJ4 : Hid (Blk V3 U.heap.size 36 (bvs dn) ∧ Below U.heap.size U V3) := Lib.hid ⟨hb3, HJ3.out.2.grown hg3 HJ3.out.2.size (by intro k hk; injection hk with hk; omega)⟩
         clear hb3 hg3 hz3 HJ3))
      gi_upto_region 7 with (fail)
      refine wpIn_round (by rintro ⟨a, w, h⟩; exact h) (by kernel_rfl) ?_
      have hBB4 := HI.out.1.below HJ4.out.2 hBU
      have c0 := hBB4.cell 0
      simp only [List.getElem?_toArray, List.getElem?_cons_zero] at c0
      have HB4 := Lib.hid hBB4
      have hz4 := HJ4.out.1.lt
      clear hBB4
      go_wp2_with (first
        | (refine wpList_load_blk rfl 36 (.tmp 5) rfl U.heap.size 36 (bvs dn) rfl HJ4.out.1 Tryd.underlying36 rfl (by rw [hbzn]; kernel_rfl) ?_)
        | (refine wpList_build_id rfl (.tmp 25) 72 36 ii _ rfl Tryd.underlying72 HII.out hzi hsi dn HDL.out rfl ?_)
        | (at_builtin
           have hrow2 := HI.out.2.1.keep HJ4.out.2
           (refine wpList_append_own _ rfl (.tmp 24) (.tmp 26) 72 rfl w2.heap.size 36 ii (.agg (bvs (List.replicate 32 0))) 32 32 Tryd.underlying72 HII.out hzi hsi hbi zeroId_cells (by decide) (.slice A q c) q _ rfl (hrow2.1.alloc _) ⟨V3.heap.size, 0, none⟩ 1 1 (dn.map bcv) rfl (by rw [List.length_map, HDL.out]) (news_id (Blk.new V3 _ _)) (one_bcv dn) (by simp only [maxLen]; omega) (by omega) (by simp; omega) ?_)
           intro v5 w5 hown5 hgrow5 _
           (obtain ⟨A5, c5, rfl⟩ := own_form hown5)
           have hBW : Below U.heap.size U (V3.alloc (.cells (bvs dn) 36)) := HJ4.out.2.alloc (by omega) _
           (have HR5 : Hid (IdR w5 w2.heap.size (.slice A5 (q + 1) c5) (q + 1) ((aboveF ds).take (q + 1)) ∧ Blk w5 B 72 #[.slice A q c] ∧ Below B w w5 ∧ KeepN w2.heap.size U w5 ∧ KeepC (B + 1) 2 U w5) := Lib.hid ⟨by rw [HTK.out]; exact IdR.snoc hown5 (hrow2.2.1) hrow2.2.2 HDL.out,
       (HB4.out.alloc _).grown hgrow5 (own_ne_blk hrow2.1 HB4.out (by decide)),
       (HI.out.2.2.trans (hBW.mono (by omega))).grown hgrow5 (by simp; omega) (fun j hj => by have := own_ge hrow2.1 j hj; omega),
       (KeepN.below hBW).trans (keepN_own (hrow2.1.alloc _) hgrow5),
       (keepC_below hBW).trans (keepC_own (hrow2.1.alloc _) hgrow5 (by omega))⟩)
           have c0 := HR5.out.2.1.cell 0
           have f0 := HR5.out.2.1.frozen 0
           simp only [List.getElem?_toArray, List.getElem?_cons_zero] at c0
           clear hown5 hgrow5 hrow2 hBW))
      have hS := HR5.out.2.1.store 0 (.slice A5 (q + 1) c5)
      have hG : w5.grownBy (w5.setCell ⟨B, 0, none⟩ (.slice A5 (q + 1) c5)) (some B) := Only.store (p := ⟨B, 0, none⟩) (World.grownBy.refl w5 (some B)) (.inl rfl) _
      refine ⟨HR5.out.2.2.2.1.trans (KeepN.store HR5.out.2.1 _), HR5.out.2.2.2.2.trans (keepC_low (by omega) _), _, hS, ⟨?_, HR5.out.1.2⟩, ?_⟩
      · exact HR5.out.1.1.kept hG (.inr (fun e => own_ne_blk HR5.out.1.1 HR5.out.2.1 (by decide) e.symm))
      · exact HR5.out.2.2.1.setCell (p := ⟨B, 0, none⟩) (Nat.le_refl _) _
    · obtain rfl : r = 1 := by have := HR2.out; omega
      clear HR2 hr0'
      obtain ⟨dn, rfl⟩ : ∃ dn, dn = d0 := ⟨_, rfl⟩
      have hbzn := hbz0
      have HDL := Lib.hid hl0
      have HTK : Hid ((aboveF ds).take (q + 1) = (aboveF ds).take q ++ [dn]) := Lib.hid (take_next (aboveF_last _ _ _ HHD.out (by rw [← HN.out]; omega)))
      have HJ4 : Hid (Blk V2 U.heap.size 36 (bvs dn) ∧ Below U.heap.size U V2) := Lib.hid ⟨HJ2.out.1, HJ2.out.2.1⟩
      gi_upto_region 7 with (fail)
      refine wpIn_round (by rintro ⟨a, w, h⟩; exact h) (by kernel_rfl) ?_
      have hBB4 := HI.out.1.below HJ4.out.2 hBU
      have c0 := hBB4.cell 0
      simp only [List.getElem?_toArray, List.getElem?_cons_zero] at c0
      have HB4 := Lib.hid hBB4
      have hz4 := HJ4.out.1.lt
      clear hBB4
      go_wp2_with (first
        | (refine wpList_load_blk rfl 36 (.tmp 5) rfl U.heap.size 36 (bvs dn) rfl HJ4.out.1 Tryd.underlying36 rfl (by rw [hbzn]; kernel_rfl) ?_)
        | (refine wpList_build_id rfl (.tmp 25) 72 36 ii _ rfl Tryd.underlying72 HII.out hzi hsi dn HDL.out rfl ?_)
        | (at_builtin
           have hrow2 := HI.out.2.1.keep HJ4.out.2
           (refine wpList_append_own _ rfl (.tmp 24) (.tmp 26) 72 rfl w2.heap.size 36 ii (.agg (bvs (List.replicate 32 0))) 32 32 Tryd.underlying72 HII.out hzi hsi hbi zeroId_cells (by decide) (.slice A q c) q _ rfl (hrow2.1.alloc _) ⟨V2.heap.size, 0, none⟩ 1 1 (dn.map bcv) rfl (by rw [List.length_map, HDL.out]) (news_id (Blk.new V2 _ _)) (one_bcv dn) (by simp only [maxLen]; omega) (by omega) (by simp; omega) ?_)
           intro v5 w5 hown5 hgrow5 _
           (obtain ⟨A5, c5, rfl⟩ := own_form hown5)
           have hBW : Below U.heap.size U (V2.alloc (.cells (bvs dn) 36)) := HJ4.out.2.alloc (by omega) _
           (have HR5 : Hid (IdR w5 w2.heap.size (.slice A5 (q + 1) c5) (q + 1) ((aboveF ds).take (q + 1)) ∧ Blk w5 B 72 #[.slice A q c] ∧ Below B w w5 ∧ KeepN w2.heap.size U w5 ∧ KeepC (B + 1) 2 U w5) := Lib.hid ⟨by rw [HTK.out]; exact IdR.snoc hown5 (hrow2.2.1) hrow2.2.2 HDL.out,
       (HB4.out.alloc _).grown hgrow5 (own_ne_blk hrow2.1 HB4.out (by decide)),
       (HI.out.2.2.trans (hBW.mono (by omega))).grown hgrow5 (by simp; omega) (fun j hj => by have := own_ge hrow2.1 j hj; omega),
       (KeepN.below hBW).trans (keepN_own (hrow2.1.alloc _) hgrow5),
       (keepC_below hBW).trans (keepC_own (hrow2.1.alloc _) hgrow5 (by omega))⟩)
           have c0 := HR5.out.2.1.cell 0
           have f0 := HR5.out.2.1.frozen 0
           simp only [List.getElem?_toArray, List.getElem?_cons_zero] at c0
           clear hown5 hgrow5 hrow2 hBW))
      have hS := HR5.out.2.1.store 0 (.slice A5 (q + 1) c5)
      have hG : w5.grownBy (w5.setCell ⟨B, 0, none⟩ (.slice A5 (q + 1) c5)) (some B) := Only.store (p := ⟨B, 0, none⟩) (World.grownBy.refl w5 (some B)) (.inl rfl) _
      refine ⟨HR5.out.2.2.2.1.trans (KeepN.store HR5.out.2.1 _), HR5.out.2.2.2.2.trans (keepC_low (by omega) _), _, hS, ⟨?_, HR5.out.1.2⟩, ?_⟩
      · exact HR5.out.1.1.kept hG (.inr (fun e => own_ne_blk HR5.out.1.1 HR5.out.2.1 (by decide) e.symm))
      · exact HR5.out.2.2.1.setCell (p := ⟨B, 0, none⟩) (Nat.le_refl _) _
end Go.Proofs.YtlopiinkpdpakaaDoor
