/-
  The walk of seal.Open where a blob is opened.
-/
import Derived.Test.YtbicdobnnanlkaaDoorSe4
namespace Go.Proofs.YtbicdobnnanlkaaDoor
open Go Go.RowKit Go.Shelf
set_option linter.unusedSimpArgs false
set_option linter.unusedVariables false

attribute [local go_sem] Oper.semAt_some

/-- a byte is laid below a number -/
theorem shl8_or (m : Nat) (x : UInt8) (h : m < 72057594037927936) : bits .or .u64 (IntKind.u64.wrap ((m : Int) * 256)) (x.toNat : Int) = ((x.toNat + 256 * m : Nat) : Int) := by
  have hx := x.toNat_lt
  have e : IntKind.u64.wrap ((m : Int) * 256) = ((m * 256 : Nat) : Int) := by rw [IntKind.wrap_u64]; omega
  rw [e, u64_or_nat _ _ (by omega) (by omega)]
  have h4 := Nat.shiftLeft_add_eq_or_of_lt (show x.toNat < 2 ^ 8 from hx) m
  rw [Nat.shiftLeft_eq, show (2 : Nat) ^ 8 = 256 from rfl] at h4
  rw [← h4]
  congr 1; omega
theorem ofLe_drop (l : List UInt8) {k : Nat} (h : k < l.length) : ofLe (l.drop k) = (at8 l k).toNat + 256 * ofLe (l.drop (k + 1)) := by
  rw [List.drop_eq_getElem_cons h, ofLe]
  congr 2
  simp [at8, List.getD, h]
theorem ofLe_drop_lt (l : List UInt8) (hl : l.length = 8) {k : Nat} (h : 1 ≤ k) : ofLe (l.drop k) < 72057594037927936 := by
  have h1 := ofLe_lt (l.drop k)
  exact Nat.lt_of_lt_of_le h1 (Nat.le_trans (Nat.pow_le_pow_right (by decide) (show (l.drop k).length ≤ 7 by rw [List.length_drop]; omega)) (by decide))

theorem cell_blk {w : World} {a : Addr} {u : Value} (h : w.cell? a = some u) : ∃ cs t fr, w.heap[a.block]? = some (.cells cs t fr) := by
  unfold World.cell? at h
  cases ho : w.heap[a.block]? with
  | none => simp [ho] at h
  | some o => cases o <;> simp_all

set_option maxRecDepth 100000 in
set_option maxHeartbeats 4000000 in
theorem open_good (key b : List UInt8) (v : Value) (w : World) (hT : Tabs w) (hk : key.length = 32) (hv : HB w v b) (hb : b.length ≤ 60000) (h41 : 41 ≤ b.length) (hok : okS key b = true) :
    Calls Tryd.prog 11 #[.agg (bvs key), v] w fun e w' => ∃ v', e = .returned (.tuple #[v', .int .u8 ((at8 b 0).toNat : Int), .int .u64 (numS b : Int), .int .i64 0]) ∧ HB w' v' (innerS key b) ∧ Below w.heap.size w w' := by
  have HT := Lib.hid hT
  clear hT
  obtain ⟨p, c, rfl, hl, hm⟩ := hv.form
  obtain ⟨b0, o0, rfl, -⟩ := hv.at_ (at8_get (l := b) (i := 0) (by omega))
  obtain ⟨n, hnn⟩ : ∃ n, n = b.length := ⟨_, rfl⟩
  have HV := Lib.hid hv
  have HN := Lib.hid hnn
  rw [← hnn] at HV hl hb h41 ⊢
  unfold maxLen at hm
  have hbz : (bvs key).size = 32 := by rw [bvs_size]; exact hk
  obtain ⟨kd, hkd⟩ : ∃ kd, kd = at8 b 0 := ⟨_, rfl⟩
  have HKD := Lib.hid hkd
  have hkb := kd.toNat_lt
  obtain ⟨en, hen⟩ : ∃ en, en = n - 32 := ⟨_, rfl⟩
  have hen1 : (n : Int) - 32 = (en : Int) := by omega
  have hen9 : 9 ≤ en := by omega
  have henn : en + 32 = n := by omega
  obtain ⟨hide, hh⟩ : ∃ m, m = hideK key kd := ⟨_, rfl⟩
  have hhl : hide.length = 32 := by rw [hh]; exact hideK_length _ _
  have hhz : (bvs hide).size = 32 := by rw [bvs_size]; exact hhl
  obtain ⟨vouch, hvo⟩ : ∃ n, n = vouchK key kd := ⟨_, rfl⟩
  have hvl : vouch.length = 32 := by rw [hvo]; exact vouchK_length _ _
  have hvz : (bvs vouch).size = 32 := by rw [bvs_size]; exact hvl
  obtain ⟨x, hx⟩ : ∃ x, x = macF vouch (b.take en) := ⟨_, rfl⟩
  have hxl : x.length = 32 := by rw [hx]; exact macF_length _ _
  obtain ⟨y, hy⟩ : ∃ y, y = b.drop en := ⟨_, rfl⟩
  have hyl : y.length = 32 := by rw [hy, List.length_drop]; omega
  have hxy : (x == y) = okS key b := by
    rw [hx, hy, hvo, hkd, hen, hnn]; rfl
  have HH := Lib.hid hh
  have HVO := Lib.hid hvo
  have HX := Lib.hid hx
  have HYD := Lib.hid hy
  have HEN := Lib.hid hen
  have henN := Lib.hid henn
  have h41' : decide ((n : Int) < 41) = false := decide_eq_false (by omega)
  have h65' : decide (65577 < (n : Int)) = false := decide_eq_false (by omega)
  have hin : innerS key b = overS hide (nonceS (b.drop 1)) ((b.take en).drop 9) := by rw [hh, hkd, hen, hnn]; rfl
  have HIN := Lib.hid hin
  rw [← hkd]
  clear hv hnn hkd hen hh hvo hx hy hin
  rw [hok] at hxy
  refine (callsIn_wide (n := 4)).1 (callsIn_of_wp_marks Tryd.func11 rfl trivial ?_ rfl)
  simp only [Tryd.ntmps11, List.size_toArray, List.length_cons, List.length_nil, Nat.reduceAdd, Nat.reduceSub, Array.replicate_succ, Array.replicate_zero, List.push_toArray, List.append_toArray, List.nil_append, List.cons_append]
  refine wpIn_wide.2 ?_
  go_wp2_with fail
  obtain ⟨g, hg⟩ : ∃ g, g = w.heap.size := ⟨_, rfl⟩
  have hB0 : Below w.heap.size w (w.alloc (.cells (bvs key) 23)) := (Below.refl w.heap.size w).alloc (Nat.le_refl _) _
  have HI0 : Hid (Blk (w.alloc (.cells (bvs key) 23)) g 23 (bvs key) ∧ Below g w (w.alloc (.cells (bvs key) 23)) ∧ HB (w.alloc (.cells (bvs key) 23)) (.slice (some ⟨b0, o0, none⟩) n c) b) := Lib.hid ⟨hg ▸ Blk.new w _ _, hg ▸ hB0, HV.out.keep hB0⟩
  have HTW : Hid (Tabs (w.alloc (.cells (bvs key) 23))) := Lib.hid (HT.out.below hB0)
  rw [← hg]
  have HG := Lib.hid hg
  clear hB0 hg
  generalize w.alloc (.cells (bvs key) 23) = w1 at *
  refine any_region_tail4 (Q := QN _) (fun h => wp_mono (wp_region_any (by kernel_rfl) h) QN_le) 10 [.eq (.agg (bvs key)), .eq (.slice (some ⟨b0, o0, none⟩) n c), .eq (.pointer (some ⟨b0, o0, none⟩)), .eq (.int .u8 (kd.toNat : Int)), .eq (.tuple #[.agg (bvs hide), .agg (bvs vouch)]), .eq (.tuple #[.agg (bvs hide), .agg (bvs vouch)]), .eq (.agg (bvs hide)), .eq (.agg (bvs vouch)), .st (PtK w1.heap.size) (fun _ _ _ h hb => h.keep hb), .st (PtK w1.heap.size) (fun _ _ _ h hb => h.keep hb)] (fun i => i == 8 || i == 9) (by kernel_rfl) (by kernel_rfl) (by kernel_rfl) rfl (by decide) 7 _ _ rfl (by decide) rfl (by kernel_rfl) (by kernel_rfl) rfl rfl (by kernel_rfl) _ (fun f => by simp only [framedL, Act.put, maskF, oldF, Nat.reduceLT, reduceIte, List.getElem?_toArray, List.getElem?_cons_succ, List.getElem?_cons_zero, Option.bind_some, Option.map_some, Option.map_none, Option.getD_some, Option.getD_none, Array.getD_eq_getD_getElem?, List.setIfInBounds_toArray, List.set_cons_zero, List.set_cons_succ, Nat.reduceAdd]; rfl) (fun _ _ _ _ h => h.elim) ?_ ⟨?_, ?_, ?_, ?_, ?_, ?_, ?_, ?_, ?_, ?_, trivial⟩ ?_
  · intro f W hd V
    simp only [List.getElem_toArray, List.getElem_cons_succ, List.getElem_cons_zero, DepAs, Region.binds, asAt, As.holds, and_true, forall_const] at hd
    go_simp
  · refine oweD_of rfl ?_
    exact oweAs_load 23 (.tmp 2) rfl (g) 23 (bvs key) (fun _ => rfl) (HI0.out.1) Tryd.underlying23 rfl (by rw [bvs_size, hk]; kernel_rfl) rfl rfl
  · refine oweD_of rfl ?_
    refine oweAs_pure ((.slice (some ⟨b0, o0, none⟩) n c)) rfl (fun f W hE hd => ?_) (fun W hE => rfl)
    go_simp
  · refine oweD_of rfl ?_
    refine oweAs_pure ((.pointer (some ⟨b0, o0, none⟩))) rfl (fun f W hE hd => ?_) (fun W hE => rfl)
    simp only [DepAs, Region.binds, asAt, As.holds, and_true, forall_const] at hd
    have hn0 : ¬ n = 0 := by omega
    go_simp
  · refine oweD_of rfl ?_
    refine oweAs_pure ((.int .u8 (kd.toNat : Int))) rfl (fun f W hE hd => ?_) (fun W hE => rfl)
    simp only [DepAs, Region.binds, asAt, As.holds, and_true, forall_const] at hd
    obtain ⟨b2, o2, e2, hc2⟩ := (HI0.out.2.2.keep hE).at_ (at8_get (l := b) (i := 0) (by have := HN.out; omega))
    injection e2 with e2
    injection e2 with e3 e4
    subst e3
    subst e4
    rw [Nat.add_zero, ← HKD.out] at hc2
    go_simp
  · refine oweD_of rfl ?_
    refine oweAs_call 15 rfl (fun f W hE hd => ?_)
    simp only [DepAs, Region.binds, asAt, As.holds, and_true, forall_const] at hd
    refine ⟨_, by (go_simp; first | exact rfl | exact ⟨rfl, rfl⟩), ?_⟩
    have hTT := HTW.out.below hE
    refine (keys_any key kd W hTT.1 hTT.2.2.1 hk).mono ?_
    rintro e w' ⟨rfl, hb⟩
    exact ⟨_, rfl, by (show (_ : Value) = _; rw [HH.out, HVO.out]), hb⟩
  · refine oweD_of rfl ?_
    refine oweAs_pure ((.tuple #[.agg (bvs hide), .agg (bvs vouch)])) rfl (fun f W hE hd => ?_) (fun W hE => rfl)
    simp only [DepAs, Region.binds, asAt, As.holds, and_true, forall_const] at hd
    go_simp
  · refine oweD_of rfl ?_
    refine oweAs_pure ((.agg (bvs hide))) rfl (fun f W hE hd => ?_) (fun W hE => rfl)
    simp only [DepAs, Region.binds, asAt, As.holds, and_true, forall_const] at hd
    go_simp
  · refine oweD_of rfl ?_
    refine oweAs_pure ((.agg (bvs vouch))) rfl (fun f W hE hd => ?_) (fun W hE => rfl)
    simp only [DepAs, Region.binds, asAt, As.holds, and_true, forall_const] at hd
    go_simp
  · refine oweD_alloc rfl (.cells (bvs (List.replicate 32 0)) 23) (fun f W hE hd => ⟨by (go_simp; first | exact rfl | exact ⟨rfl, rfl⟩), ?_⟩)
    exact ⟨_, rfl, hE.size, Blk.new _ _ _⟩
  · refine oweD_alloc rfl (.cells (bvs (List.replicate 32 0)) 23) (fun f W hE hd => ⟨by (go_simp; first | exact rfl | exact ⟨rfl, rfl⟩), ?_⟩)
    exact ⟨_, rfl, hE.size, Blk.new _ _ _⟩
  intro f W hE hA hAp
  simp only [AllAs, As.holds, Nat.reduceAdd] at hA
  obtain ⟨-, -, -, -, -, -, hA6, hA7, hA8, hA9, -⟩ := hA
  simp only [List.drop_succ_cons, List.drop_zero]
  obtain ⟨q1, hq1, hl1, hb1⟩ := hA8
  obtain ⟨q2, hq2, hl2, hb2⟩ := hA9
  have hqq : q1 ≠ q2 := hAp.2 8 9 (by decide) (by decide) rfl rfl (by decide) q1 q2 hq1 hq2
  rw [hA6, hA7, hq1, hq2]
  have HJ : Hid (Blk W q1 23 (bvs (List.replicate 32 0)) ∧ Blk W q2 23 (bvs (List.replicate 32 0)) ∧ Below g w W ∧ HB W (.slice (some ⟨b0, o0, none⟩) n c) b ∧ g < q1 ∧ g < q2) := Lib.hid ⟨hb1, hb2, HI0.out.2.1.trans (hE.mono (by have := HI0.out.1.lt; omega)), HI0.out.2.2.keep hE, Nat.lt_of_lt_of_le HI0.out.1.lt hl1, Nat.lt_of_lt_of_le HI0.out.1.lt hl2⟩
  clear HI0 HTW hE hA6 hA7 hq1 hq2 hb1 hb2 hl1 hl2 hAp
  go_wp2_with (first
    | (refine wpList_store_blk rfl 23 (.tmp 10) (.tmp 32) rfl q2 23 _ (bvs vouch) rfl rfl HJ3.out.2.1 (by rw [hvz]; rfl) (by rw [hvz]; kernel_rfl) (bvs_one _) ?_
       intro w4 hb4 hg4 hz4
       have HJ4 : Hid (Blk w4 q1 23 (bvs hide) ∧ Blk w4 q2 23 (bvs vouch) ∧ Below g w w4 ∧ HB w4 (.slice (some ⟨b0, o0, none⟩) n c) b ∧ g < q1 ∧ g < q2) := by
         have hBw : Below g w w4 := HJ3.out.2.2.1.grown hg4 (by have := HJ3.out.1.lt; have := HJ3.out.2.2.2.1; omega) (by intro k hk; injection hk with hk; have := HJ3.out.2.2.2.2; omega)
         exact Lib.hid ⟨HJ3.out.1.grown hg4 (by intro h; injection h with h; exact hqq h), hb4, hBw, HV.out.keep (HG.out ▸ hBw), HJ3.out.2.2.2.1, HJ3.out.2.2.2.2⟩
       clear hb4 hg4 hz4 HJ3)
    | (refine wpList_store_blk rfl 23 (.tmp 9) (.tmp 31) rfl q1 23 _ (bvs hide) rfl rfl HJ.out.1 (by rw [hhz]; rfl) (by rw [hhz]; kernel_rfl) (bvs_one _) ?_
       intro w3 hb3 hg3 hz3
       have HJ3 : Hid (Blk w3 q1 23 (bvs hide) ∧ Blk w3 q2 23 (bvs (List.replicate 32 0)) ∧ Below g w w3 ∧ g < q1 ∧ g < q2) := Lib.hid ⟨hb3, HJ.out.2.1.grown hg3 (by intro h; injection h with h; exact hqq h.symm), HJ.out.2.2.1.grown hg3 (by have := HJ.out.1.lt; have := HJ.out.2.2.2.2.1; omega) (by intro k hk; injection hk with hk; have := HJ.out.2.2.2.2.1; omega), HJ.out.2.2.2.2⟩
       clear hb3 hg3 hz3 HJ))
  refine QN_normal ?_
  go_wp2_with fail
  have HTW : Hid (Tabs w4) := Lib.hid (HT.out.below (HG.out ▸ HJ4.out.2.2.1))
  have HBT : Hid (HB w4 (.slice (some ⟨b0, o0, none⟩) en en) (b.take en)) := Lib.hid (by
    have h := HJ4.out.2.2.2.1.sub 0 en en (Nat.zero_le _) (by omega) (Nat.le_refl _) (by omega)
    rw [if_neg (by omega)] at h
    simpa [Addr.add] using h)
  have HBD : Hid (HB w4 (.slice (some ⟨b0, o0 + en, none⟩) 32 (c - en)) y) := Lib.hid (by
    have h := HJ4.out.2.2.2.1.drop (k := en) (by omega)
    rw [if_neg (by omega)] at h
    simp only [Option.map_some, addi] at h
    rw [show n - en = 32 by omega, ← HYD.out] at h
    exact h)
  refine wp_region_as (ys := [.eq (.agg (bvs vouch)), .eq (.slice (some ⟨b0, o0, none⟩) n c), .eq (.int .i64 (en : Int)), .eq (.int .i64 (en : Int)), .eq (.slice (some ⟨b0, o0, none⟩) en en), .parts [b.take en], .eq (.agg (bvs x)), .eq (.slice (some ⟨b0, o0, none⟩) n c), .eq (.int .i64 (en : Int)), .eq (.slice (some ⟨b0, o0 + en, none⟩) 32 (c - en)), .eq (.pointer (some ⟨b0, o0 + en, none⟩)), .eq (.agg (bvs y)), .eq (.bool (x == y)), .eq (.bool (!(x == y)))]) (by kernel_rfl) (by kernel_rfl) (by kernel_rfl) (by kernel_rfl) rfl _ (fun f => by simp only [framedL, Act.put, List.setIfInBounds_toArray, List.set_cons_zero, List.set_cons_succ, Nat.reduceAdd]; rfl) ⟨?_, ?_, ?_, ?_, ?_, ?_, ?_, ?_, ?_, ?_, ?_, ?_, ?_, ?_, trivial⟩ ?_
  · exact oweAs_load 23 (.tmp 10) rfl (q2) 23 (bvs vouch) (fun _ => rfl) (HJ4.out.2.1) Tryd.underlying23 rfl (by rw [bvs_size, hvl]; kernel_rfl) rfl rfl
  · refine oweAs_pure ((.slice (some ⟨b0, o0, none⟩) n c)) rfl (fun f W hE hd => ?_) (fun W hE => rfl)
    go_simp
  · refine oweAs_pure ((.int .i64 (en : Int))) rfl (fun f W hE hd => ?_) (fun W hE => rfl)
    go_simp
  · refine oweAs_pure ((.int .i64 (en : Int))) rfl (fun f W hE hd => ?_) (fun W hE => rfl)
    go_simp
  · refine oweAs_pure ((.slice (some ⟨b0, o0, none⟩) en en)) rfl (fun f W hE hd => ?_) (fun W hE => rfl)
    simp only [DepAs, Region.binds, asAt, As.holds, and_true, forall_const] at hd
    have hce : ¬ c < en := by omega
    have hce2 : ¬ en = 0 := by omega
    go_simp
  · refine oweAs_made rfl (fun f W hE hd => ?_)
    simp only [DepAs, Region.binds, asAt, As.holds, and_true, forall_const] at hd
    have hP := parts_new1 (w := W) (t := 25) rfl (HBT.out.keep hE)
    refine ⟨_, _, by (go_simp; first | exact rfl | exact ⟨rfl, rfl⟩), ?_, (Below.refl W.heap.size W).alloc (Nat.le_refl _) _⟩
    exact hP
  · refine oweAs_call 18 rfl (fun f W hE hd => ?_)
    simp only [DepAs, Region.binds, asAt, As.holds, and_true, forall_const] at hd
    refine ⟨_, by (go_simp; first | exact rfl | exact ⟨rfl, rfl⟩), ?_⟩
    have hTT := HTW.out.below hE
    refine (macOf_any vouch _ [b.take en] W hvl hTT.1 hTT.2.2.1 (by first | exact hd.2 | exact hd.2.1) (by first | omega | (simp; done) | (simp; omega)) (by first | omega | (simp; done) | (simp; omega))).mono ?_
    rintro e w' ⟨rfl, hb⟩
    exact ⟨_, rfl, by (show (_ : Value) = _; rw [show macF vouch [b.take en].flatten = x from by rw [HX.out]; simp]), hb⟩
  · refine oweAs_pure ((.slice (some ⟨b0, o0, none⟩) n c)) rfl (fun f W hE hd => ?_) (fun W hE => rfl)
    go_simp
  · refine oweAs_pure ((.int .i64 (en : Int))) rfl (fun f W hE hd => ?_) (fun W hE => rfl)
    go_simp
  · refine oweAs_pure ((.slice (some ⟨b0, o0 + en, none⟩) 32 (c - en))) rfl (fun f W hE hd => ?_) (fun W hE => rfl)
    simp only [DepAs, Region.binds, asAt, As.holds, and_true, forall_const] at hd
    have hce : ¬ c = en := by omega
    have h32 : n - en = 32 := by omega
    have hne : ¬ n < en := by omega
    go_simp
  · refine oweAs_pure ((.pointer (some ⟨b0, o0 + en, none⟩))) rfl (fun f W hE hd => ?_) (fun W hE => rfl)
    simp only [DepAs, Region.binds, asAt, As.holds, and_true, forall_const] at hd
    have har := run_arrayAt (P := Tryd.prog) Tryd.underlying34 ⟨b0, o0 + en, none⟩ 32 (c - en) (by omega) W
    go_simp
  · exact oweAs_load_mid 34 (.tmp 43) rfl y rfl rfl Tryd.underlying34 rfl (by rw [hyl]; kernel_rfl) (fun f W hE hd => by (simp only [DepAs, Region.binds, asAt, As.holds, and_true, forall_const] at hd; exact ⟨b0, o0 + en, by go_simp, (HBD.out.keep hE).range⟩))
  · refine oweAs_call 24 rfl (fun f W hE hd => ?_)
    simp only [DepAs, Region.binds, asAt, As.holds, and_true, forall_const] at hd
    refine ⟨_, by (go_simp; first | exact rfl | exact ⟨rfl, rfl⟩), ?_⟩
    refine (same_any x y W hxl hyl).mono ?_
    rintro e w' ⟨rfl, hb⟩
    exact ⟨_, rfl, by (show (_ : Value) = _; rfl), hb⟩
  · refine oweAs_pure ((.bool (!(x == y)))) rfl (fun f W hE hd => ?_) (fun W hE => rfl)
    simp only [DepAs, Region.binds, asAt, As.holds, and_true, forall_const] at hd
    go_simp
  intro f W hE hA
  simp only [AllAs, As.holds, Nat.reduceAdd] at hA
  obtain ⟨-, -, -, -, -, -, -, -, -, -, -, -, -, hA13, -⟩ := hA
  rw [hA13, hxy]
  have HJ5 : Hid (Blk W q1 23 (bvs hide) ∧ Below g w W ∧ HB W (.slice (some ⟨b0, o0, none⟩) n c) b ∧ g < q1) := Lib.hid ⟨HJ4.out.1.below hE HJ4.out.1.lt, HJ4.out.2.2.1.trans (hE.mono (by have := HJ4.out.1.lt; have := HJ4.out.2.2.2.2.1; omega)), HJ4.out.2.2.2.1.keep hE, HJ4.out.2.2.2.2.1⟩
  clear HJ4 HTW HBT HBD hE hA13 hxy
  go_wp2_with (go_at_call 25
               refine (backB_any _ _ _ _).mono ?_
               rintro e w8 ⟨rfl, rfl⟩)
  obtain ⟨l8, hl8⟩ : ∃ l8, l8 = (b.drop 1).take 8 := ⟨_, rfl⟩
  have hl8l : l8.length = 8 := by rw [hl8]; simp; have := HN.out; omega
  have HL8 := Lib.hid hl8
  clear hl8
  refine wp_abs (fun V => ∃ nb, nb = W.heap.size ∧ V.heap.size = nb + 2 ∧ Blk V nb 24 #[.int .u64 0] ∧ V.cell? ⟨nb + 1, 0, none⟩ = some (.slice (some ⟨b0, o0 + 1, none⟩) 8 (c - 1)) ∧ Blk V q1 23 (bvs hide) ∧ Below g w V ∧ HB V (.slice (some ⟨b0, o0, none⟩) n c) b) ⟨_, rfl, ?_, ?_, ?_, ?_, ?_, ?_⟩ ?_
  · simp
  · exact (Blk.new W _ _).alloc _
  · exact (Blk.new' (w := W.alloc _) (by simp) _ _).cell 0
  · exact (HJ5.out.1.alloc _).alloc _
  · exact (HJ5.out.2.1.alloc (by have := HJ5.out.1.lt; have := HJ5.out.2.2.2; omega) _).alloc (by have := HJ5.out.1.lt; have := HJ5.out.2.2.2; simp; omega) _
  · exact (HJ5.out.2.2.1.alloc _).alloc _
  rintro V0 ⟨nb, hnb, hsz, hbn, hcs, hbq, hbw, hbb⟩
  have hq1 : q1 < nb := by rw [hnb]; exact HJ5.out.1.lt
  have hgq := HJ5.out.2.2.2
  have hb0 : b0 < nb := by
    obtain ⟨b2, o2, e2, hc2⟩ := HJ5.out.2.2.1.at_ (at8_get (l := b) (i := 0) (by have := HN.out; omega))
    injection e2 with e2; injection e2 with e3 e4
    subst e3
    rw [hnb]; exact lt_of_cell hc2
  rw [← hnb]
  have HS8 := hbb.sub 1 9 c (by omega) (by omega) (by omega) (Nat.le_refl _)
  rw [if_neg (by omega)] at HS8
  have HI := Lib.hid (And.intro hbn (And.intro hbq (And.intro hbw hbb)))
  have HNB := Lib.hid hnb
  clear HJ5 hnb hbn hbq hbw hbb
  have hcell8 : ∀ (i : Nat) (y : UInt8), l8[i]? = some y → V0.cell? ⟨b0, o0 + 1 + i, none⟩ = some (.int .u8 (y.toNat : Int)) := by
    intro i y hy
    rw [HL8.out] at hy
    obtain ⟨b2, o2, e2, hc2⟩ := HS8.at_ hy
    simp only [Option.map_some, Nat.one_mul, addi, Option.some.injEq, Addr.mk.injEq] at e2
    obtain ⟨e3, e4, -⟩ := e2
    subst e3; subst e4
    exact hc2
  have hl0 : ofLe (l8.drop (8 - 0)) = 0 := by rw [List.drop_eq_nil_of_le (by omega)]; rfl
  refine (wpIn_wide (n := 2 + 2)).1 ?_
  apply wpIn_range_n (n := 2) (gf := 38) (lb := #[.pointer (some ⟨nb + 1, 0, none⟩)]) rfl (enters_of Tryd.func38 (by kernel_rfl) rfl)
    (backB_seq (nb + 1) b0 (o0 + 1) 8 (c - 1) l8 V0 hl8l (by omega) (by simp only [maxLen]; omega) (by omega) hcs hcell8) (Below.refl _ _) (fun _ => rfl) (fun _ _ _ h k => ⟨h.1.trans k.1, h.2.trans k.2⟩)
    (fun X Y h => by obtain ⟨l, o, o', hl, ho, hcl, rfl⟩ := h; exact ⟨KeepC.put _ (by omega), KeepC.put _ (by omega)⟩) (fun X Y h => KeepN.below h)
    (fun k V => Blk V nb 24 #[.int .u64 ((ofLe (l8.drop (8 - k)) : Nat) : Int)] ∧ Blk V q1 23 (bvs hide) ∧ Below g w V ∧ HB V (.slice (some ⟨b0, o0, none⟩) n c) b) (fun _ _ => False)
    (fun k X Y h ht => ⟨ht.blk h.1, ht.blk h.2.1, ht.below h.2.2.1 (by omega), HV.out.keep (HG.out ▸ ht.below h.2.2.1 (by omega))⟩) (fun _ _ _ h _ => h)
    (fun k X Y h hb => ⟨h.1.below hb h.1.lt, h.2.1.below hb h.2.1.lt, h.2.2.1.trans (hb.mono (by have := h.2.1.lt; omega)), h.2.2.2.keep hb⟩)
    (fun o1 o2 => ⟨((HI.out.1.alloc _).alloc _).mk_eq (by rw [hl0]; rfl), (HI.out.2.1.alloc _).alloc _, (HI.out.2.2.1.alloc (by omega) _).alloc (by simp; omega) _, (HI.out.2.2.2.alloc _).alloc _⟩)
  case hassign =>
    intro l k V K hK
    gi_wp2
    exact hK
  case hstop =>
    rintro D cc V _ h _
    exact h.elim
  case hdone =>
    intro D V hD hI hK
    have hnum : ofLe (l8.drop (8 - 8)) = numS b := by rw [show 8 - 8 = 0 from rfl, List.drop_zero, HL8.out]; rfl
    rw [hnum] at hI
    obtain ⟨N, hN⟩ : ∃ N, N = numS b := ⟨_, rfl⟩
    rw [← hN] at hI
    have HNU := Lib.hid hN
    obtain ⟨z, hz⟩ : ∃ z, z = nonceS (b.drop 1) := ⟨_, rfl⟩
    have hzl : z.length = 12 := by rw [hz]; exact nonceS_length (by rw [List.length_drop]; have := HN.out; omega)
    have HZ := Lib.hid hz.symm
    have hin2 : overS hide z ((b.take en).drop 9) = innerS key b := by rw [hz]; exact HIN.out.symm
    have HIN2 := Lib.hid hin2
    have HTW : Hid (Tabs V) := Lib.hid (HT.out.below (HG.out ▸ hI.2.2.1))
    obtain ⟨A9, hA9⟩ : ∃ A9, A9 = (if en = 9 then some (⟨b0, o0, none⟩ : Addr) else some ⟨b0, o0 + 9, none⟩) := ⟨_, rfl⟩
    have H9 : Hid (HB V (.slice A9 (en - 9) (en - 9)) ((b.take en).drop 9)) := Lib.hid (by
      have h := hI.2.2.2.sub 9 en en hen9 (by omega) (Nat.le_refl _) (by omega)
      have e : (b.drop 9).take (en - 9) = (b.take en).drop 9 := by rw [List.drop_take]
      rw [e] at h
      by_cases h9 : en = 9
      · subst h9
        exact HB.mk_eq (HB.empty V _ 0 (Nat.zero_le _) (fun _ => rfl)) (List.eq_nil_of_length_eq_zero (by simp)).symm
      · rw [if_neg h9] at h hA9
        rw [hA9]
        simpa [addi] using h)
    have HA9 := Lib.hid hA9
    clear hA9
    have HI := Lib.hid hI
    clear hI hnum hN hz hin2
    go_wp2
    refine wp_region_as (ys := [.eq (.agg (bvs hide)), .eq (.slice (some ⟨b0, o0, none⟩) n c), .eq (.agg (bvs z)), .eq (.slice (some ⟨b0, o0, none⟩) n c), .eq (.int .i64 (en : Int)), .eq (.int .i64 (en : Int)), .eq (.slice A9 (en - 9) (en - 9)), .hb (innerS key b), .eq (.slice (some ⟨b0, o0, none⟩) n c), .eq (.pointer (some ⟨b0, o0, none⟩)), .eq (.int .u8 (kd.toNat : Int)), .eq (.int .u64 (N : Int)), .hb (innerS key b), .eq (.int .u8 (kd.toNat : Int)), .eq (.int .u64 (N : Int)), .eq (.int .i64 0)]) (by kernel_rfl) (by kernel_rfl) (by kernel_rfl) (by kernel_rfl) rfl _ (fun f => by simp only [framedL, Act.put, List.setIfInBounds_toArray, List.set_cons_zero, List.set_cons_succ, Nat.reduceAdd]; rfl) ⟨?_, ?_, ?_, ?_, ?_, ?_, ?_, ?_, ?_, ?_, ?_, ?_, ?_, ?_, ?_, ?_, trivial⟩ ?_
    · exact oweAs_load 23 (.tmp 9) rfl (q1) 23 (bvs hide) (fun _ => rfl) (HI.out.2.1) Tryd.underlying23 rfl (by rw [bvs_size, hhl]; kernel_rfl) rfl rfl
    · refine oweAs_pure ((.slice (some ⟨b0, o0, none⟩) n c)) rfl (fun f W hE hd => ?_) (fun W hE => rfl)
      go_simp
    · refine oweAs_call 17 rfl (fun f W hE hd => ?_)
      simp only [DepAs, Region.binds, asAt, As.holds, and_true, forall_const] at hd
      refine ⟨_, by (go_simp; first | exact rfl | exact ⟨rfl, rfl⟩), ?_⟩
      refine (nonce_any b _ W (HI.out.2.2.2.keep hE) (by have := HN.out; omega)).mono ?_
      rintro e w' ⟨rfl, hb⟩
      exact ⟨_, rfl, by (show (_ : Value) = _; rw [HZ.out]), hb⟩
    · refine oweAs_pure ((.slice (some ⟨b0, o0, none⟩) n c)) rfl (fun f W hE hd => ?_) (fun W hE => rfl)
      go_simp
    · refine oweAs_pure ((.int .i64 (en : Int))) rfl (fun f W hE hd => ?_) (fun W hE => rfl)
      go_simp
    · refine oweAs_pure ((.int .i64 (en : Int))) rfl (fun f W hE hd => ?_) (fun W hE => rfl)
      go_simp
    · refine oweAs_pure ((.slice A9 (en - 9) (en - 9))) rfl (fun f W hE hd => ?_) (fun W hE => rfl)
      simp only [DepAs, Region.binds, asAt, As.holds, and_true, forall_const] at hd
      have hce : en ≤ c := by omega
      have h9i : (9 : Int) ≤ (en : Int) := by omega
      have hA9 := HA9.out.symm
      go_simp
    · refine oweAs_call 16 rfl (fun f W hE hd => ?_)
      simp only [DepAs, Region.binds, asAt, As.holds, and_true, forall_const] at hd
      refine ⟨_, by (go_simp; first | exact rfl | exact ⟨rfl, rfl⟩), ?_⟩
      have hTT := HTW.out.below hE
      refine (streamOver_any hide z ((b.take en).drop 9) _ W hTT.2.1 hTT.2.2.2 hhl hzl (H9.out.keep hE) (by simp; omega)).mono ?_
      rintro e w' ⟨v', rfl, ho, hb⟩
      exact ⟨_, rfl, (own_hb ho (by rw [overS_length])).mk_eq HIN2.out, hb⟩
    · refine oweAs_pure ((.slice (some ⟨b0, o0, none⟩) n c)) rfl (fun f W hE hd => ?_) (fun W hE => rfl)
      go_simp
    · refine oweAs_pure ((.pointer (some ⟨b0, o0, none⟩))) rfl (fun f W hE hd => ?_) (fun W hE => rfl)
      simp only [DepAs, Region.binds, asAt, As.holds, and_true, forall_const] at hd
      have hn0 : ¬ n = 0 := by omega
      go_simp
    · refine oweAs_pure ((.int .u8 (kd.toNat : Int))) rfl (fun f W hE hd => ?_) (fun W hE => rfl)
      simp only [DepAs, Region.binds, asAt, As.holds, and_true, forall_const] at hd
      obtain ⟨b2, o2, e2, hc2⟩ := (HI.out.2.2.2.keep hE).at_ (at8_get (l := b) (i := 0) (by have := HN.out; omega))
      injection e2 with e2
      injection e2 with e3 e4
      subst e3
      subst e4
      rw [Nat.add_zero, ← HKD.out] at hc2
      go_simp
    · refine oweAs_pure ((.int .u64 (N : Int))) rfl (fun f W hE hd => ?_) (fun W hE => rfl)
      simp only [DepAs, Region.binds, asAt, As.holds, and_true, forall_const] at hd
      have c0 := (HI.out.1.below hE HI.out.1.lt).cell 0
      go_simp
    · refine oweAs_made rfl (fun f W hE hd => ?_)
      simp only [DepAs, Region.binds, asAt, As.holds, and_true, forall_const] at hd
      exact ⟨_, W, by (go_simp; first | exact rfl | exact ⟨rfl, rfl⟩), (by first | exact hd | exact hd.1), Below.refl _ _⟩
    · refine oweAs_pure ((.int .u8 (kd.toNat : Int))) rfl (fun f W hE hd => ?_) (fun W hE => rfl)
      simp only [DepAs, Region.binds, asAt, As.holds, and_true, forall_const] at hd
      go_simp
    · refine oweAs_pure ((.int .u64 (N : Int))) rfl (fun f W hE hd => ?_) (fun W hE => rfl)
      simp only [DepAs, Region.binds, asAt, As.holds, and_true, forall_const] at hd
      go_simp
    · refine oweAs_pure ((.int .i64 0)) rfl (fun f W hE hd => ?_) (fun W hE => rfl)
      go_simp
    intro f W hE hA
    simp only [AllAs, As.holds, Nat.reduceAdd] at hA
    obtain ⟨-, -, -, -, -, -, -, -, -, -, -, -, hA12, hA13, hA14, hA15, -⟩ := hA
    rw [hA13, hA14, hA15]
    have hK2 : W.heap[D]? = some (.deferred (some [])) := (hE.block D (Array.getElem?_eq_some_iff.1 hK).1).trans hK
    have ht : Turns V0.heap.size W (W.putObj D (.deferred none)) := ⟨D, _, _, hD, hK2, rfl, rfl⟩
    have hBW : Below g w W := HI.out.2.2.1.trans (hE.mono (by have := HI.out.2.1.lt; omega))
    have hb0W : b0 < W.heap.size := by have := hE.size; have := HI.out.1.lt; omega
    have HR : Hid (HB (W.putObj D (.deferred none)) (f 12) (innerS key b) ∧ Below w.heap.size w (W.putObj D (.deferred none))) := Lib.hid ⟨hA12.keepG (fun b o u hu => Turns.cell hu ht (cell_blk hu)), HG.out ▸ ht.below hBW (by omega)⟩
    clear ht hBW hb0W hE hA12 hA13 hA14 hA15 HI HTW H9
    go_wp2
    refine ⟨by simp, .inl ⟨_, _, rfl, run_takeDeferred hK2, ?_⟩⟩
    refine ⟨_, results_tmp4 rfl _ _ _, _, ?_, HR.out.1, HR.out.2⟩
    rw [← HNU.out]
    rfl
  case hbody =>
    intro l k V hkN hI hz
    obtain ⟨hI1, hI2, hI3, hI4⟩ := hI
    obtain ⟨m, hm⟩ : ∃ m, m = ofLe (l8.drop (8 - k)) := ⟨_, rfl⟩
    obtain ⟨y, hy⟩ : ∃ y, y = at8 l8 (8 - 1 - k) := ⟨_, rfl⟩
    have HMD := Lib.hid hm
    have HYY := Lib.hid hy
    rw [← hm] at hI1
    rw [← hy]
    have hm7 : m < 72057594037927936 := by rw [hm]; exact ofLe_drop_lt _ hl8l (by omega)
    have HM7 := Lib.hid hm7
    have c0 := hI1.cell 0
    have f0 := hI1.frozen 0
    have HI := Lib.hid (And.intro hI1 (And.intro hI2 (And.intro hI3 hI4)))
    have hyb := y.toNat_lt
    clear hm hy hm7 hI1 hI2 hI3 hI4
    gi_step
    gi_step
    refine wpIn_round (by rintro ⟨a, w, h⟩; exact h) (by kernel_rfl) ?_
    go_wp2_with fail
    rw [shl8_or m y HM7.out]
    have hother : ∀ x : Nat, x ≠ nb → (V.setCell ⟨nb, 0, none⟩ (.int .u64 ((y.toNat + 256 * m : Nat) : Int))).heap[x]? = V.heap[x]? := fun x hx => Below.heap_setCell V _ _ x hx
    refine ⟨KeepN.store HI.out.1 _, ⟨fun x o u h1 h2 h3 => ?_, fun x o u h1 h2 h3 => ?_⟩, ?_, HI.out.2.1.other (by show q1 ≠ nb; omega) _, HI.out.2.2.1.setCell (p := ⟨nb, 0, none⟩) (by show g ≤ nb; omega) _, ?_⟩
    · rw [World.cell?_of_block (a := ⟨x, o, none⟩) (hother x (by omega))]; exact h3
    · rw [World.cell?_of_block (a := ⟨x, o, none⟩) (hother x (by omega))]; exact h3
    · refine (HI.out.1.store 0 _).mk_eq ?_
      have e : ofLe (l8.drop (8 - (k + 1))) = y.toNat + 256 * m := by
        rw [ofLe_drop l8 (by omega), HYY.out, HMD.out, show 8 - 1 - k = 8 - (k + 1) by omega, show 8 - (k + 1) + 1 = 8 - k by omega]
      rw [e]
      rfl
    · exact HV.out.keep (HG.out ▸ HI.out.2.2.1.setCell (p := ⟨nb, 0, none⟩) (by show g ≤ nb; omega) _)
end Go.Proofs.YtbicdobnnanlkaaDoor
