/-
  The walk of the reference's Open.
-/
import Derived.Test.YtbicdobnnanlkaaDoorSe7
namespace Go.Proofs.YtbicdobnnanlkaaDoor
open Go Go.RowKit
set_option linter.unusedSimpArgs false
set_option linter.unusedVariables false

theorem extract_take (s : ByteArray) (k : Nat) : s.extract 0 k = bs ((sb s).take k) := by
  have h : sb (s.extract 0 k) = (sb s).take k := by
    unfold sb
    rw [ByteArray.data_extract, Array.toList_extract]
    simp [List.extract]
  rw [← h, bs_sb]
theorem extract_mid (s : ByteArray) (j k : Nat) : s.extract j k = bs (((sb s).take k).drop j) := by
  have h : sb (s.extract j k) = ((sb s).take k).drop j := by
    unfold sb
    rw [ByteArray.data_extract, Array.toList_extract]
    simp [List.extract, List.drop_take]
  rw [← h, bs_sb]
theorem extract_drop (s : ByteArray) (k : Nat) : s.extract k s.size = bs ((sb s).drop k) := by rw [← sb_drop, bs_sb]
/-- a new digest's block, from base on -/
def PtI (base : Nat) (v : Value) (W : World) : Prop := ∃ q, v = .pointer (some ⟨q, 0, none⟩) ∧ base ≤ q ∧ Blk W q 34 (bvs (List.replicate 32 0))
theorem PtI.keep {base : Nat} {v : Value} {W V : World} (h : PtI base v W) (hb : Below W.heap.size W V) : PtI base v V := by
  obtain ⟨q, h1, h2, h3⟩ := h
  exact ⟨q, h1, h2, h3.below hb h3.lt⟩

set_option maxRecDepth 100000 in
set_option maxHeartbeats 2000000 in
theorem refOpen_short (key : List UInt8) (s : ByteArray) (w : World) (h41 : s.size < 41) :
    Calls Tryd.prog 14 #[.agg (bvs key), .string s] w fun e w' => e = .returned (.tuple #[.string (bs []), .int .u8 0, .int .u64 0, .int .i64 10]) ∧ Below w.heap.size w w' := by
  have h41' : decide ((s.size : Int) < 41) = true := decide_eq_true (by omega)
  go_enter Tryd.func14, Tryd.ntmps14
  go_wp2_with fail
  refine bodyPost_ret (results_tmp4 rfl _ _ _) rfl ⟨rfl, ?_⟩
  exact (Below.refl w.heap.size w).alloc (Nat.le_refl _) _

set_option maxRecDepth 100000 in
set_option maxHeartbeats 2000000 in
theorem refOpen_bad (key : List UInt8) (s : ByteArray) (w : World) (hk : key.length = 32) (hb : s.size ≤ 60000) (h41 : 41 ≤ s.size) (hok : okS key (sb s) = false) :
    Calls Tryd.prog 14 #[.agg (bvs key), .string s] w fun e w' => e = .returned (.tuple #[.string (bs []), .int .u8 0, .int .u64 0, .int .i64 20]) ∧ Below w.heap.size w w' := by
  have hbz : (bvs key).size = 32 := by rw [bvs_size]; exact hk
  obtain ⟨n, hnn⟩ : ∃ n, n = s.size := ⟨_, rfl⟩
  obtain ⟨b, hbb⟩ : ∃ b, b = sb s := ⟨_, rfl⟩
  have hbl : b.length = n := by rw [hbb, hnn]; exact sb_length s
  rw [← hbb] at hok
  have HSN := Lib.hid hnn
  obtain ⟨kd, hkd⟩ : ∃ kd, kd = at8 b 0 := ⟨_, rfl⟩
  have h0s : 0 < s.size := by omega
  have hsi0 : ((s[0]).toNat : Int) = (kd.toNat : Int) := by rw [hkd, hbb, sb_get s h0s]
  have hkb := kd.toNat_lt
  have hw64 : IntKind.u64.wrap (kd.toNat : Int) = (kd.toNat : Int) := by rw [IntKind.wrap_u64]; omega
  obtain ⟨en, hen⟩ : ∃ en, en = n - 32 := ⟨_, rfl⟩
  have hen1 : (s.size : Int) - 32 = (en : Int) := by omega
  have hen9 : 9 ≤ en := by omega
  have henn : en + 32 = s.size := by omega
  obtain ⟨hide, hh⟩ : ∃ m, m = hideK key kd := ⟨_, rfl⟩
  have hhl : hide.length = 32 := by rw [hh]; exact hideK_length _ _
  obtain ⟨vouch, hvo⟩ : ∃ n, n = vouchK key kd := ⟨_, rfl⟩
  have hvl : vouch.length = 32 := by rw [hvo]; exact vouchK_length _ _
  obtain ⟨t, ht⟩ : ∃ t, t = b.take en := ⟨_, rfl⟩
  have htl : t.length = en := by rw [ht, List.length_take]; omega
  have hts : (bs t).size = en := by rw [bs_size]; exact htl
  have hst : s.extract 0 en = bs t := by rw [ht, hbb]; exact extract_take s en
  obtain ⟨x, hx⟩ : ∃ x, x = macF vouch t := ⟨_, rfl⟩
  have hxl : x.length = 32 := by rw [hx]; exact macF_length _ _
  have hxz : (bvs x).size = 32 := by rw [bvs_size]; exact hxl
  obtain ⟨y, hy⟩ : ∃ y, y = b.drop en := ⟨_, rfl⟩
  have hsy : s.extract en s.size = bs y := by rw [hy, hbb]; exact extract_drop s en
  have hxy : (x == y) = okS key b := by
    rw [hx, hy, ht, hvo, hkd, hen, ← hbl]; rfl
  have HKD := Lib.hid hkd
  have HH := Lib.hid hh
  have HVO := Lib.hid hvo
  have HX := Lib.hid hx
  have HEN := Lib.hid hen
  have HBL := Lib.hid hbl
  have HBB := Lib.hid hbb
  have HTS := Lib.hid hts
  have HST := Lib.hid hst
  have HSY := Lib.hid hsy
  have HSI := Lib.hid hsi0
  have HW := Lib.hid hw64
  have h41' : decide ((s.size : Int) < 41) = false := decide_eq_false (by omega)
  have h65' : decide (65577 < (s.size : Int)) = false := decide_eq_false (by omega)
  rw [hok] at hxy
  clear hnn hbb hbl hkd hsi0 hw64 hen hh hvo ht htl hts hst hx hy hsy hok
  go_enter Tryd.func14, Tryd.ntmps14
  go_wp2_with fail
  obtain ⟨g, hg⟩ : ∃ g, g = w.heap.size := ⟨_, rfl⟩
  have HI0 : Hid (Blk (w.alloc (.cells (bvs key) 23)) g 23 (bvs key) ∧ Below g w (w.alloc (.cells (bvs key) 23))) := Lib.hid ⟨hg ▸ Blk.new w _ _, hg ▸ (Below.refl w.heap.size w).alloc (Nat.le_refl _) _⟩
  rw [← hg]
  have HG := Lib.hid hg
  clear hg
  generalize w.alloc (.cells (bvs key) 23) = w1 at *
  refine wp_region_tail2 10 [.eq (.agg (bvs key)), .eq (.string s), .eq (.int .u8 (kd.toNat : Int)), .eq (.int .u64 (kd.toNat : Int)), .eq (.agg (bvs vouch)), .eq (.string s), .eq (.int .i64 (en : Int)), .eq (.string (bs t)), .eq (.agg (bvs x)), .st (PtI w1.heap.size) (fun _ _ _ h hb => h.keep hb)] (by kernel_rfl) (by kernel_rfl) (by kernel_rfl) (by kernel_rfl) rfl (by decide) (by kernel_rfl) _ (fun f => by simp only [framedL, Act.put, maskF, oldF, Nat.reduceLT, reduceIte, List.getElem?_toArray, List.getElem?_cons_succ, List.getElem?_cons_zero, Option.bind_some, Option.map_some, Option.map_none, Option.getD_some, Option.getD_none, Array.getD_eq_getD_getElem?, List.setIfInBounds_toArray, List.set_cons_zero, List.set_cons_succ, Nat.reduceAdd]; rfl) ⟨?_, ?_, ?_, ?_, ?_, ?_, ?_, ?_, ?_, ?_, trivial⟩ ?_
  · exact oweAs_load 23 (.tmp 2) rfl (g) 23 (bvs key) (fun _ => rfl) (HI0.out.1) Tryd.underlying23 rfl (by rw [bvs_size, hk]; kernel_rfl) rfl rfl
  · refine oweAs_pure ((.string s)) rfl (fun f W hE hd => ?_) (fun W hE => rfl)
    go_simp
  · refine oweAs_pure ((.int .u8 (kd.toNat : Int))) rfl (fun f W hE hd => ?_) (fun W hE => rfl)
    simp only [DepAs, Region.binds, asAt, As.holds, and_true, forall_const] at hd
    have hsi0 := HSI.out
    have hn0 : ¬ s.size = 0 := by omega
    go_simp
  · refine oweAs_pure ((.int .u64 (kd.toNat : Int))) rfl (fun f W hE hd => ?_) (fun W hE => rfl)
    simp only [DepAs, Region.binds, asAt, As.holds, and_true, forall_const] at hd
    have hw := HW.out
    go_simp
  · refine oweAs_call 21 rfl (fun f W hE hd => ?_)
    simp only [DepAs, Region.binds, asAt, As.holds, and_true, forall_const] at hd
    refine ⟨_, by (go_simp; first | exact rfl | exact ⟨rfl, rfl⟩), ?_⟩
    refine (refDer_any key ⟨#[118, 111, 117, 99, 104]⟩ kd.toNat W hk (by decide) (by omega)).mono ?_
    rintro e w' ⟨rfl, hb⟩
    exact ⟨_, rfl, by (show (_ : Value) = _; rw [show derF key (sb ⟨#[118, 111, 117, 99, 104]⟩) kd.toNat = vouch from HVO.out.symm]), hb⟩
  · refine oweAs_pure ((.string s)) rfl (fun f W hE hd => ?_) (fun W hE => rfl)
    go_simp
  · refine oweAs_pure ((.int .i64 (en : Int))) rfl (fun f W hE hd => ?_) (fun W hE => rfl)
    go_simp
  · refine oweAs_pure ((.string (bs t))) rfl (fun f W hE hd => ?_) (fun W hE => rfl)
    simp only [DepAs, Region.binds, asAt, As.holds, and_true, forall_const] at hd
    have hst := HST.out
    have hes : ¬ s.size < en := by omega
    go_simp
  · refine oweAs_call 23 rfl (fun f W hE hd => ?_)
    simp only [DepAs, Region.binds, asAt, As.holds, and_true, forall_const] at hd
    refine ⟨_, by (go_simp; first | exact rfl | exact ⟨rfl, rfl⟩), ?_⟩
    refine (refOf3_any vouch (bs t) W hvl (by rw [HTS.out]; omega)).mono ?_
    rintro e w' ⟨rfl, hb⟩
    exact ⟨_, rfl, by (show (_ : Value) = _; rw [sb_bs, HX.out]), hb⟩
  · refine oweAs_made rfl (fun f W hE hd => ?_)
    simp only [DepAs, Region.binds, asAt, As.holds, and_true, forall_const] at hd
    exact ⟨_, _, by (go_simp; first | exact rfl | exact ⟨rfl, rfl⟩), ⟨_, rfl, hE.size, Blk.new _ _ _⟩, (Below.refl W.heap.size W).alloc (Nat.le_refl _) _⟩
  intro f W hE hA
  simp only [AllAs, As.holds, Nat.reduceAdd] at hA
  obtain ⟨-, -, -, -, -, -, -, -, hA8, hA9, -⟩ := hA
  simp only [List.drop_succ_cons, List.drop_zero]
  obtain ⟨q, hq, hql, hqb⟩ := hA9
  rw [hA8, hq]
  have HJ : Hid (Blk W q 34 (bvs (List.replicate 32 0)) ∧ Blk W g 23 (bvs key) ∧ Below g w W ∧ g < q) := Lib.hid ⟨hqb, HI0.out.1.below hE HI0.out.1.lt, HI0.out.2.trans (hE.mono (by have := HI0.out.1.lt; omega)), Nat.lt_of_lt_of_le HI0.out.1.lt hql⟩
  clear HI0 hE hA8 hq hql hqb
  go_wp2_with (refine wpList_store_blk rfl 34 (.tmp 9) (.tmp 29) rfl q 34 _ (bvs x) rfl rfl HJ.out.1 (by rw [hxz]; rfl) (by rw [hxz]; kernel_rfl) (bvs_one _) ?_
               intro w3 hb3 hg3 hz3
               have HJ3 : Hid (Blk w3 q 34 (bvs x) ∧ Blk w3 g 23 (bvs key) ∧ Below g w w3 ∧ g < q) := Lib.hid ⟨hb3, HJ.out.2.1.grown hg3 (by intro h; injection h with h; have := HJ.out.2.2.2; omega), HJ.out.2.2.1.grown hg3 (by have := HJ.out.2.1.lt; omega) (by intro k hk; injection hk with hk; have := HJ.out.2.2.2; omega), HJ.out.2.2.2⟩
               clear hb3 hg3 hz3 HJ)
  have HX3 : Hid (HB w3 (.slice (some ⟨q, 0, none⟩) 32 32) x) := Lib.hid (HB.blk HJ3.out.1 hxl (by simp [maxLen]))
  refine wp_region_as (ys := [.eq (.slice (some ⟨q, 0, none⟩) 32 32), .eq (.string (bs x)), .eq (.string s), .eq (.int .i64 (en : Int)), .eq (.string (bs y)), .eq (.bool (!(x == y)))]) (by kernel_rfl) (by kernel_rfl) (by kernel_rfl) (by kernel_rfl) rfl _ (fun f => by simp only [framedL, Act.put, List.setIfInBounds_toArray, List.set_cons_zero, List.set_cons_succ, Nat.reduceAdd]; rfl) ⟨?_, ?_, ?_, ?_, ?_, ?_, trivial⟩ ?_
  · refine oweAs_pure ((.slice (some ⟨q, 0, none⟩) 32 32)) rfl (fun f W hE hd => ?_) (fun W hE => rfl)
    go_simp
  · refine oweAs_pure ((.string (bs x))) rfl (fun f W hE hd => ?_) (fun W hE => rfl)
    simp only [DepAs, Region.binds, asAt, As.holds, and_true, forall_const] at hd
    have hcv := (HX3.out.keep hE).str Tryd.underlying25 Tryd.underlying5 Tryd.underlying9
    go_simp
  · refine oweAs_pure ((.string s)) rfl (fun f W hE hd => ?_) (fun W hE => rfl)
    go_simp
  · refine oweAs_pure ((.int .i64 (en : Int))) rfl (fun f W hE hd => ?_) (fun W hE => rfl)
    go_simp
  · refine oweAs_pure ((.string (bs y))) rfl (fun f W hE hd => ?_) (fun W hE => rfl)
    simp only [DepAs, Region.binds, asAt, As.holds, and_true, forall_const] at hd
    have hsy := HSY.out
    have hes : ¬ s.size < en := by omega
    go_simp
  · refine oweAs_pure ((.bool (!(x == y)))) rfl (fun f W hE hd => ?_) (fun W hE => rfl)
    simp only [DepAs, Region.binds, asAt, As.holds, and_true, forall_const] at hd
    have hxt : (bs x).toList = x := bs_toList _
    have hyt : (bs y).toList = y := bs_toList _
    go_simp
  intro f W hE hA
  simp only [AllAs, As.holds, Nat.reduceAdd] at hA
  obtain ⟨-, -, -, -, -, hA5, -⟩ := hA
  rw [hA5, hxy]
  go_wp2_with fail
  refine bodyPost_ret (results_tmp4 rfl _ _ _) rfl ⟨rfl, ?_⟩
  rw [← HG.out]
  exact HJ3.out.2.2.1.trans (hE.mono (by have := HJ3.out.2.1.lt; omega))

theorem beN_step (l : List UInt8) (hl : l.length = 8) {k : Nat} (hk : k < 8) : ofLe (l.drop (8 - (k + 1))) = (at8 l (7 - k)).toNat + 256 * ofLe (l.drop (8 - k)) := by
  rw [show 8 - (k + 1) = 7 - k by omega, ofLe_drop l (by omega), show 7 - k + 1 = 8 - k by omega]

set_option maxRecDepth 100000 in
set_option maxHeartbeats 4000000 in
theorem refOpen_good (key : List UInt8) (s : ByteArray) (w : World) (hk : key.length = 32) (hb : s.size ≤ 60000) (h41 : 41 ≤ s.size) (hok : okS key (sb s) = true) :
    Calls Tryd.prog 14 #[.agg (bvs key), .string s] w fun e w' => e = .returned (.tuple #[.string (bs (innerS key (sb s))), .int .u8 ((at8 (sb s) 0).toNat : Int), .int .u64 (numS (sb s) : Int), .int .i64 0]) ∧ Below w.heap.size w w' := by
  have hbz : (bvs key).size = 32 := by rw [bvs_size]; exact hk
  obtain ⟨n, hnn⟩ : ∃ n, n = s.size := ⟨_, rfl⟩
  obtain ⟨b, hbb⟩ : ∃ b, b = sb s := ⟨_, rfl⟩
  have hbl : b.length = n := by rw [hbb, hnn]; exact sb_length s
  rw [← hbb] at hok
  have HSN := Lib.hid hnn
  obtain ⟨kd, hkd⟩ : ∃ kd, kd = at8 b 0 := ⟨_, rfl⟩
  have h0s : 0 < s.size := by omega
  have hsi0 : ((s[0]).toNat : Int) = (kd.toNat : Int) := by rw [hkd, hbb, sb_get s h0s]
  have hkb := kd.toNat_lt
  have hw64 : IntKind.u64.wrap (kd.toNat : Int) = (kd.toNat : Int) := by rw [IntKind.wrap_u64]; omega
  obtain ⟨en, hen⟩ : ∃ en, en = n - 32 := ⟨_, rfl⟩
  have hen1 : (s.size : Int) - 32 = (en : Int) := by omega
  have hen9 : 9 ≤ en := by omega
  have henn : en + 32 = s.size := by omega
  obtain ⟨hide, hh⟩ : ∃ m, m = hideK key kd := ⟨_, rfl⟩
  have hhl : hide.length = 32 := by rw [hh]; exact hideK_length _ _
  obtain ⟨vouch, hvo⟩ : ∃ n, n = vouchK key kd := ⟨_, rfl⟩
  have hvl : vouch.length = 32 := by rw [hvo]; exact vouchK_length _ _
  obtain ⟨t, ht⟩ : ∃ t, t = b.take en := ⟨_, rfl⟩
  have htl : t.length = en := by rw [ht, List.length_take]; omega
  have hts : (bs t).size = en := by rw [bs_size]; exact htl
  have hst : s.extract 0 en = bs t := by rw [ht, hbb]; exact extract_take s en
  obtain ⟨x, hx⟩ : ∃ x, x = macF vouch t := ⟨_, rfl⟩
  have hxl : x.length = 32 := by rw [hx]; exact macF_length _ _
  have hxz : (bvs x).size = 32 := by rw [bvs_size]; exact hxl
  obtain ⟨y, hy⟩ : ∃ y, y = b.drop en := ⟨_, rfl⟩
  have hsy : s.extract en s.size = bs y := by rw [hy, hbb]; exact extract_drop s en
  have hxy : (x == y) = okS key b := by
    rw [hx, hy, ht, hvo, hkd, hen, ← hbl]; rfl
  have HKD := Lib.hid hkd
  have HH := Lib.hid hh
  have HVO := Lib.hid hvo
  have HX := Lib.hid hx
  have HEN := Lib.hid hen
  have HBL := Lib.hid hbl
  have HBB := Lib.hid hbb
  have HTS := Lib.hid hts
  have HST := Lib.hid hst
  have HSY := Lib.hid hsy
  have HSI := Lib.hid hsi0
  have HW := Lib.hid hw64
  have h41' : decide ((s.size : Int) < 41) = false := decide_eq_false (by omega)
  have h65' : decide (65577 < (s.size : Int)) = false := decide_eq_false (by omega)
  rw [hok] at hxy
  obtain ⟨l8, hl8⟩ : ∃ l8, l8 = (b.drop 1).take 8 := ⟨_, rfl⟩
  have hl8l : l8.length = 8 := by rw [hl8]; simp; omega
  have HL8 := Lib.hid hl8
  have hs8 : ∀ i : Nat, i < 8 → (hi : i + 1 < s.size) → ((s[i + 1]).toNat : Int) = ((at8 l8 i).toNat : Int) := by
    intro i hi hi2
    have e : at8 l8 i = at8 b (i + 1) := by
      rw [hl8]
      simp only [at8, List.getD_eq_getElem?_getD, List.getElem?_take, if_pos hi, List.getElem?_drop]
      rw [Nat.add_comm 1 i]
    rw [e, hbb, sb_get s hi2]
  have HS8 := Lib.hid hs8
  have h19 : s.extract 1 9 = bs l8 := by rw [hl8, hbb, extract_mid, List.drop_take]
  have H19 := Lib.hid h19
  have h8z : (bs l8).size = 8 := by rw [bs_size]; exact hl8l
  have H8Z := Lib.hid h8z
  obtain ⟨z, hz⟩ : ∃ z, z = nonceS (b.drop 1) := ⟨_, rfl⟩
  have hzl : z.length = 12 := by rw [hz]; exact nonceS_length (by rw [List.length_drop]; omega)
  have HZ : Hid (nonceS l8 = z) := Lib.hid (by rw [hl8, nonceS_take, hz])
  obtain ⟨u, hu⟩ : ∃ u, u = (b.take en).drop 9 := ⟨_, rfl⟩
  have hul : u.length = en - 9 := by rw [hu, List.length_drop, List.length_take]; omega
  have hus : (bs u).size = en - 9 := by rw [bs_size]; exact hul
  have HUS := Lib.hid hus
  have h9e : s.extract 9 en = bs u := by rw [hu, hbb, extract_mid]
  have H9E := Lib.hid h9e
  have HIN : Hid (overS hide z u = innerS key b) := Lib.hid (by rw [hu, hz, hh, hkd, hen, ← hbl]; rfl)
  have HNU : Hid (ofLe l8 = numS b) := Lib.hid (by rw [hl8]; rfl)
  rw [← hbb, ← hkd]
  clear hnn hbb hbl hkd hsi0 hw64 hen hh hvo ht htl hts hst hx hy hsy hok hl8 hs8 h19 h8z hz hu hul hus h9e
  go_enter Tryd.func14, Tryd.ntmps14
  go_wp2_with fail
  obtain ⟨g, hg⟩ : ∃ g, g = w.heap.size := ⟨_, rfl⟩
  have HI0 : Hid (Blk (w.alloc (.cells (bvs key) 23)) g 23 (bvs key) ∧ Below g w (w.alloc (.cells (bvs key) 23))) := Lib.hid ⟨hg ▸ Blk.new w _ _, hg ▸ (Below.refl w.heap.size w).alloc (Nat.le_refl _) _⟩
  rw [← hg]
  have HG := Lib.hid hg
  clear hg
  generalize w.alloc (.cells (bvs key) 23) = w1 at *
  refine wp_region_tail2 10 [.eq (.agg (bvs key)), .eq (.string s), .eq (.int .u8 (kd.toNat : Int)), .eq (.int .u64 (kd.toNat : Int)), .eq (.agg (bvs vouch)), .eq (.string s), .eq (.int .i64 (en : Int)), .eq (.string (bs t)), .eq (.agg (bvs x)), .st (PtI w1.heap.size) (fun _ _ _ h hb => h.keep hb)] (by kernel_rfl) (by kernel_rfl) (by kernel_rfl) (by kernel_rfl) rfl (by decide) (by kernel_rfl) _ (fun f => by simp only [framedL, Act.put, maskF, oldF, Nat.reduceLT, reduceIte, List.getElem?_toArray, List.getElem?_cons_succ, List.getElem?_cons_zero, Option.bind_some, Option.map_some, Option.map_none, Option.getD_some, Option.getD_none, Array.getD_eq_getD_getElem?, List.setIfInBounds_toArray, List.set_cons_zero, List.set_cons_succ, Nat.reduceAdd]; rfl) ⟨?_, ?_, ?_, ?_, ?_, ?_, ?_, ?_, ?_, ?_, trivial⟩ ?_
  · exact oweAs_load 23 (.tmp 2) rfl (g) 23 (bvs key) (fun _ => rfl) (HI0.out.1) Tryd.underlying23 rfl (by rw [bvs_size, hk]; kernel_rfl) rfl rfl
  · refine oweAs_pure ((.string s)) rfl (fun f W hE hd => ?_) (fun W hE => rfl)
    go_simp
  · refine oweAs_pure ((.int .u8 (kd.toNat : Int))) rfl (fun f W hE hd => ?_) (fun W hE => rfl)
    simp only [DepAs, Region.binds, asAt, As.holds, and_true, forall_const] at hd
    have hsi0 := HSI.out
    have hn0 : ¬ s.size = 0 := by omega
    go_simp
  · refine oweAs_pure ((.int .u64 (kd.toNat : Int))) rfl (fun f W hE hd => ?_) (fun W hE => rfl)
    simp only [DepAs, Region.binds, asAt, As.holds, and_true, forall_const] at hd
    have hw := HW.out
    go_simp
  · refine oweAs_call 21 rfl (fun f W hE hd => ?_)
    simp only [DepAs, Region.binds, asAt, As.holds, and_true, forall_const] at hd
    refine ⟨_, by (go_simp; first | exact rfl | exact ⟨rfl, rfl⟩), ?_⟩
    refine (refDer_any key ⟨#[118, 111, 117, 99, 104]⟩ kd.toNat W hk (by decide) (by omega)).mono ?_
    rintro e w' ⟨rfl, hb⟩
    exact ⟨_, rfl, by (show (_ : Value) = _; rw [show derF key (sb ⟨#[118, 111, 117, 99, 104]⟩) kd.toNat = vouch from HVO.out.symm]), hb⟩
  · refine oweAs_pure ((.string s)) rfl (fun f W hE hd => ?_) (fun W hE => rfl)
    go_simp
  · refine oweAs_pure ((.int .i64 (en : Int))) rfl (fun f W hE hd => ?_) (fun W hE => rfl)
    go_simp
  · refine oweAs_pure ((.string (bs t))) rfl (fun f W hE hd => ?_) (fun W hE => rfl)
    simp only [DepAs, Region.binds, asAt, As.holds, and_true, forall_const] at hd
    have hst := HST.out
    have hes : ¬ s.size < en := by omega
    go_simp
  · refine oweAs_call 23 rfl (fun f W hE hd => ?_)
    simp only [DepAs, Region.binds, asAt, As.holds, and_true, forall_const] at hd
    refine ⟨_, by (go_simp; first | exact rfl | exact ⟨rfl, rfl⟩), ?_⟩
    refine (refOf3_any vouch (bs t) W hvl (by rw [HTS.out]; omega)).mono ?_
    rintro e w' ⟨rfl, hb⟩
    exact ⟨_, rfl, by (show (_ : Value) = _; rw [sb_bs, HX.out]), hb⟩
  · refine oweAs_made rfl (fun f W hE hd => ?_)
    simp only [DepAs, Region.binds, asAt, As.holds, and_true, forall_const] at hd
    exact ⟨_, _, by (go_simp; first | exact rfl | exact ⟨rfl, rfl⟩), ⟨_, rfl, hE.size, Blk.new _ _ _⟩, (Below.refl W.heap.size W).alloc (Nat.le_refl _) _⟩
  intro f W hE hA
  simp only [AllAs, As.holds, Nat.reduceAdd] at hA
  obtain ⟨-, -, -, -, -, -, -, -, hA8, hA9, -⟩ := hA
  simp only [List.drop_succ_cons, List.drop_zero]
  obtain ⟨q, hq, hql, hqb⟩ := hA9
  rw [hA8, hq]
  have HJ : Hid (Blk W q 34 (bvs (List.replicate 32 0)) ∧ Blk W g 23 (bvs key) ∧ Below g w W ∧ g < q) := Lib.hid ⟨hqb, HI0.out.1.below hE HI0.out.1.lt, HI0.out.2.trans (hE.mono (by have := HI0.out.1.lt; omega)), Nat.lt_of_lt_of_le HI0.out.1.lt hql⟩
  clear HI0 hE hA8 hq hql hqb
  go_wp2_with (refine wpList_store_blk rfl 34 (.tmp 9) (.tmp 29) rfl q 34 _ (bvs x) rfl rfl HJ.out.1 (by rw [hxz]; rfl) (by rw [hxz]; kernel_rfl) (bvs_one _) ?_
               intro w3 hb3 hg3 hz3
               have HJ3 : Hid (Blk w3 q 34 (bvs x) ∧ Blk w3 g 23 (bvs key) ∧ Below g w w3 ∧ g < q) := Lib.hid ⟨hb3, HJ.out.2.1.grown hg3 (by intro h; injection h with h; have := HJ.out.2.2.2; omega), HJ.out.2.2.1.grown hg3 (by have := HJ.out.2.1.lt; omega) (by intro k hk; injection hk with hk; have := HJ.out.2.2.2; omega), HJ.out.2.2.2⟩
               clear hb3 hg3 hz3 HJ)
  have HX3 : Hid (HB w3 (.slice (some ⟨q, 0, none⟩) 32 32) x) := Lib.hid (HB.blk HJ3.out.1 hxl (by simp [maxLen]))
  refine wp_region_as (ys := [.eq (.slice (some ⟨q, 0, none⟩) 32 32), .eq (.string (bs x)), .eq (.string s), .eq (.int .i64 (en : Int)), .eq (.string (bs y)), .eq (.bool (!(x == y)))]) (by kernel_rfl) (by kernel_rfl) (by kernel_rfl) (by kernel_rfl) rfl _ (fun f => by simp only [framedL, Act.put, List.setIfInBounds_toArray, List.set_cons_zero, List.set_cons_succ, Nat.reduceAdd]; rfl) ⟨?_, ?_, ?_, ?_, ?_, ?_, trivial⟩ ?_
  · refine oweAs_pure ((.slice (some ⟨q, 0, none⟩) 32 32)) rfl (fun f W hE hd => ?_) (fun W hE => rfl)
    go_simp
  · refine oweAs_pure ((.string (bs x))) rfl (fun f W hE hd => ?_) (fun W hE => rfl)
    simp only [DepAs, Region.binds, asAt, As.holds, and_true, forall_const] at hd
    have hcv := (HX3.out.keep hE).str Tryd.underlying25 Tryd.underlying5 Tryd.underlying9
    go_simp
  · refine oweAs_pure ((.string s)) rfl (fun f W hE hd => ?_) (fun W hE => rfl)
    go_simp
  · refine oweAs_pure ((.int .i64 (en : Int))) rfl (fun f W hE hd => ?_) (fun W hE => rfl)
    go_simp
  · refine oweAs_pure ((.string (bs y))) rfl (fun f W hE hd => ?_) (fun W hE => rfl)
    simp only [DepAs, Region.binds, asAt, As.holds, and_true, forall_const] at hd
    have hsy := HSY.out
    have hes : ¬ s.size < en := by omega
    go_simp
  · refine oweAs_pure ((.bool (!(x == y)))) rfl (fun f W hE hd => ?_) (fun W hE => rfl)
    simp only [DepAs, Region.binds, asAt, As.holds, and_true, forall_const] at hd
    have hxt : (bs x).toList = x := bs_toList _
    have hyt : (bs y).toList = y := bs_toList _
    go_simp
  intro f W hE hA
  simp only [AllAs, As.holds, Nat.reduceAdd] at hA
  obtain ⟨-, -, -, -, -, hA5, -⟩ := hA
  rw [hA5, hxy]
  have HJ4 : Hid (Blk W g 23 (bvs key) ∧ Below g w W) := Lib.hid ⟨HJ3.out.2.1.below hE HJ3.out.2.1.lt, HJ3.out.2.2.1.trans (hE.mono (by have := HJ3.out.2.1.lt; omega))⟩
  clear HJ3 HX3 hE hA5 hxy
  go_wp2_with fail
  go_loop [10, 11] (fun m i => ∃ k : Nat, k ≤ 8 ∧ m = .int .u64 ((ofLe (l8.drop (8 - k)) : Nat) : Int) ∧ i = .int .i64 ((8 - k : Nat) : Int)) (fun _ i => (intOf i).toNat)
  case atStart => exact ⟨0, by omega, by rw [List.drop_eq_nil_of_le (by omega)]; rfl, rfl⟩
  case round =>
    obtain ⟨k, hk8, rfl, rfl⟩ := hrel
    by_cases hlt : k < 8
    · obtain ⟨m, hm⟩ : ∃ m, m = ofLe (l8.drop (8 - k)) := ⟨_, rfl⟩
      have hm7 : m < 72057594037927936 := by rw [hm]; exact ofLe_drop_lt _ hl8l (by omega)
      obtain ⟨j, hj⟩ : ∃ j, j = 7 - k := ⟨_, rfl⟩
      have hj8 : j < 8 := by omega
      have hkj : 8 - k = j + 1 := by omega
      have hst8 := beN_step l8 hl8l hlt
      rw [← hm, ← hj] at hst8
      rw [← hm, hkj]
      have hjs : j + 1 < s.size := by omega
      have hsx := HS8.out j hj8 hjs
      have HST8 := Lib.hid hst8
      have HK := Lib.hid hkj
      have HM7 := Lib.hid hm7
      have hyb := (at8 l8 j).toNat_lt
      obtain ⟨y8, hy8⟩ : ∃ y8, y8 = at8 l8 j := ⟨_, rfl⟩
      rw [← hy8] at hsx hyb
      have HY8 := Lib.hid hy8
      clear hm hm7 hst8 hkj hj hy8
      go_wp2
      go_round
      case rel =>
        refine ⟨k + 1, by omega, congrArg (Value.int .u64) ?_, congrArg (Value.int .i64) (by have := HK.out; omega)⟩
        have h1 := HM7.out
        rw [HST8.out, IntKind.wrap_u64, IntKind.wrap_u64, HY8.out]
        have h2 := (at8 l8 j).toNat_lt
        omega
      case measure => simp [intOf] <;> omega
    · have hk88 : k = 8 := by omega
      subst hk88
      obtain ⟨N, hN⟩ : ∃ N, N = numS b := ⟨_, rfl⟩
      rw [show 8 - 8 = 0 from rfl, List.drop_zero, HNU.out, ← hN]
      have HNN := Lib.hid hN
      clear hN
      go_wp2
      refine wp_region_as (ys := [.eq (.agg (bvs key)), .eq (.string s), .eq (.int .u8 (kd.toNat : Int)), .eq (.int .u64 (kd.toNat : Int)), .eq (.agg (bvs hide)), .eq (.string s), .eq (.string (bs l8)), .eq (.agg (bvs z)), .eq (.string s), .eq (.int .i64 (en : Int)), .eq (.string (bs u)), .eq (.string (bs (innerS key b))), .eq (.string s), .eq (.int .u8 (kd.toNat : Int)), .eq (.int .u64 (N : Int)), .eq (.string (bs (innerS key b))), .eq (.int .u8 (kd.toNat : Int)), .eq (.int .u64 (N : Int)), .eq (.int .i64 0)]) (by kernel_rfl) (by kernel_rfl) (by kernel_rfl) (by kernel_rfl) rfl _ (fun f => by simp only [framedL, Act.put, List.setIfInBounds_toArray, List.set_cons_zero, List.set_cons_succ, Nat.reduceAdd]; rfl) ⟨?_, ?_, ?_, ?_, ?_, ?_, ?_, ?_, ?_, ?_, ?_, ?_, ?_, ?_, ?_, ?_, ?_, ?_, ?_, trivial⟩ ?_
      · exact oweAs_load 23 (.tmp 2) rfl (g) 23 (bvs key) (fun _ => rfl) (HJ4.out.1) Tryd.underlying23 rfl (by rw [bvs_size, hk]; kernel_rfl) rfl rfl
      · refine oweAs_pure ((.string s)) rfl (fun f W hE hd => ?_) (fun W hE => rfl)
        go_simp
      · refine oweAs_pure ((.int .u8 (kd.toNat : Int))) rfl (fun f W hE hd => ?_) (fun W hE => rfl)
        simp only [DepAs, Region.binds, asAt, As.holds, and_true, forall_const] at hd
        have hsi0 := HSI.out
        have hn0 : ¬ s.size = 0 := by omega
        go_simp
      · refine oweAs_pure ((.int .u64 (kd.toNat : Int))) rfl (fun f W hE hd => ?_) (fun W hE => rfl)
        simp only [DepAs, Region.binds, asAt, As.holds, and_true, forall_const] at hd
        have hw := HW.out
        go_simp
      · refine oweAs_call 21 rfl (fun f W hE hd => ?_)
        simp only [DepAs, Region.binds, asAt, As.holds, and_true, forall_const] at hd
        refine ⟨_, by (go_simp; first | exact rfl | exact ⟨rfl, rfl⟩), ?_⟩
        refine (refDer_any key ⟨#[104, 105, 100, 101]⟩ kd.toNat W hk (by decide) (by omega)).mono ?_
        rintro e w' ⟨rfl, hb⟩
        exact ⟨_, rfl, by (show (_ : Value) = _; rw [show derF key (sb ⟨#[104, 105, 100, 101]⟩) kd.toNat = hide from HH.out.symm]), hb⟩
      · refine oweAs_pure ((.string s)) rfl (fun f W hE hd => ?_) (fun W hE => rfl)
        go_simp
      · refine oweAs_pure ((.string (bs l8))) rfl (fun f W hE hd => ?_) (fun W hE => rfl)
        simp only [DepAs, Region.binds, asAt, As.holds, and_true, forall_const] at hd
        have h19 := H19.out
        have hs9 : ¬ (s.size : Int) < 9 := by omega
        go_simp
      · refine oweAs_call 22 rfl (fun f W hE hd => ?_)
        simp only [DepAs, Region.binds, asAt, As.holds, and_true, forall_const] at hd
        refine ⟨_, by (go_simp; first | exact rfl | exact ⟨rfl, rfl⟩), ?_⟩
        refine (refNonce_any (bs l8) W (by rw [H8Z.out]; omega) (by rw [H8Z.out]; omega)).mono ?_
        rintro e w' ⟨rfl, hb⟩
        exact ⟨_, rfl, by (show (_ : Value) = _; rw [sb_bs, HZ.out]), hb⟩
      · refine oweAs_pure ((.string s)) rfl (fun f W hE hd => ?_) (fun W hE => rfl)
        go_simp
      · refine oweAs_pure ((.int .i64 (en : Int))) rfl (fun f W hE hd => ?_) (fun W hE => rfl)
        go_simp
      · refine oweAs_pure ((.string (bs u))) rfl (fun f W hE hd => ?_) (fun W hE => rfl)
        simp only [DepAs, Region.binds, asAt, As.holds, and_true, forall_const] at hd
        have h9e := H9E.out
        have hes : ¬ s.size < en := by omega
        have he9 : (9 : Int) ≤ (en : Int) := by omega
        go_simp
      · refine oweAs_call 20 rfl (fun f W hE hd => ?_)
        simp only [DepAs, Region.binds, asAt, As.holds, and_true, forall_const] at hd
        refine ⟨_, by (go_simp; first | exact rfl | exact ⟨rfl, rfl⟩), ?_⟩
        refine (refOver_any hide z (bs u) W hhl hzl (by rw [HUS.out]; omega)).mono ?_
        rintro e w' ⟨rfl, hb⟩
        exact ⟨_, rfl, by (show (_ : Value) = _; rw [sb_bs, HIN.out]), hb⟩
      · refine oweAs_pure ((.string s)) rfl (fun f W hE hd => ?_) (fun W hE => rfl)
        go_simp
      · refine oweAs_pure ((.int .u8 (kd.toNat : Int))) rfl (fun f W hE hd => ?_) (fun W hE => rfl)
        simp only [DepAs, Region.binds, asAt, As.holds, and_true, forall_const] at hd
        have hsi0 := HSI.out
        have hn0 : ¬ s.size = 0 := by omega
        go_simp
      · refine oweAs_pure ((.int .u64 (N : Int))) rfl (fun f W hE hd => ?_) (fun W hE => rfl)
        go_simp
      · refine oweAs_pure ((.string (bs (innerS key b)))) rfl (fun f W hE hd => ?_) (fun W hE => rfl)
        simp only [DepAs, Region.binds, asAt, As.holds, and_true, forall_const] at hd
        go_simp
      · refine oweAs_pure ((.int .u8 (kd.toNat : Int))) rfl (fun f W hE hd => ?_) (fun W hE => rfl)
        simp only [DepAs, Region.binds, asAt, As.holds, and_true, forall_const] at hd
        go_simp
      · refine oweAs_pure ((.int .u64 (N : Int))) rfl (fun f W hE hd => ?_) (fun W hE => rfl)
        simp only [DepAs, Region.binds, asAt, As.holds, and_true, forall_const] at hd
        go_simp
      · refine oweAs_pure ((.int .i64 0)) rfl (fun f W hE hd => ?_) (fun W hE => rfl)
        go_simp
      intro f W hE hA
      simp only [AllAs, As.holds, Nat.reduceAdd] at hA
      obtain ⟨-, -, -, -, -, -, -, -, -, -, -, -, -, -, -, hA15, hA16, hA17, hA18, -⟩ := hA
      rw [hA15, hA16, hA17, hA18]
      have HR : Hid (Below w.heap.size w W) := Lib.hid (HG.out ▸ HJ4.out.2.trans (hE.mono (by have := HJ4.out.1.lt; omega)))
      clear hE hA15 hA16 hA17 hA18 HJ4
      go_wp2
      refine bodyPost_ret (results_tmp4 rfl _ _ _) rfl ⟨?_, HR.out⟩
      rw [← HNN.out]
      rfl

/-- what is opened, in every case -/
theorem refOpen_any (key : List UInt8) (s : ByteArray) (w : World) (hk : key.length = 32) (hb : s.size ≤ 60000) :
    Calls Tryd.prog 14 #[.agg (bvs key), .string s] w fun e w' => e = .returned (.tuple #[.string (bs (openS key (sb s)).1), .int .u8 ((openS key (sb s)).2.1.toNat : Int), .int .u64 ((openS key (sb s)).2.2.1 : Int), .int .i64 ((openS key (sb s)).2.2.2 : Int)]) ∧ Below w.heap.size w w' := by
  unfold openS
  rw [sb_length]
  by_cases h41 : s.size < 41
  · rw [if_pos h41]
    exact refOpen_short key s w h41
  · rw [if_neg h41]
    cases hok : okS key (sb s) with
    | true =>
      rw [if_pos rfl]
      exact refOpen_good key s w hk hb (by omega) hok
    | false =>
      rw [if_neg (by simp)]
      exact refOpen_bad key s w hk hb (by omega) hok
end Go.Proofs.YtbicdobnnanlkaaDoor
