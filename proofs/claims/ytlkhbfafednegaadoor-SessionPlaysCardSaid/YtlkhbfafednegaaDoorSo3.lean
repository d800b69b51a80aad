/-
  The walk of the law SessionSpoiled.
-/
import Derived.Test.YtlkhbfafednegaaDoorSn6
import Derived.Test.YtlkhbfafednegaaDoorSr1
namespace Go.Proofs.YtlkhbfafednegaaDoor
open Go Go.RowKit
set_option linter.unusedSimpArgs false
set_option linter.unusedVariables false

theorem blk_ne' {w : World} {g g' : Nat} {t t' : TypeId} {cs cs' : Array Value} (h : Blk w g t cs) (h' : Blk w g' t' cs') (ht : t ≠ t') : g ≠ g' := by
  rintro rfl
  have e1 : w.heap[g]? = some (.cells cs t (0, 0)) := h
  have e2 : w.heap[g]? = some (.cells cs' t' (0, 0)) := h'
  rw [e1] at e2; injection e2 with e2; injection e2 with _ e2; exact ht e2
theorem built_refS {k : List UInt8} (hk : k.length = 32) : Tryd.prog.built 38 [(0, .agg (bvs k)), (1, .int .i64 1), (2, .int .i64 0)] = some (sesC k ((1 : Nat) : Int) ((0 : Nat) : Int) 0 0 0) := by
  rw [at8_all hk]
  generalize at8 k = f
  kernel_rfl
section
variable {ops : Array Oper} {rest : List Oper} {o_ : Oper} {a : Act} {w : World} {Q : Exit → Act → World → Prop}
theorem wpList_build_refS (hg : o_.guard = none) (parts : Array (Nat × Operand)) (ho : o_.op = .build 38 parts) (k : List UInt8) (hk : k.length = 32)
    (hp : (parts.map fun (i, x) => (i, a.eval x)).toList = [(0, .agg (bvs k)), (1, .int .i64 1), (2, .int .i64 0)])
    (h : wpList Tryd.prog ops Q rest (a.put o_.dst (.agg (sesC k ((1 : Nat) : Int) ((0 : Nat) : Int) 0 0 0))) w) : wpList Tryd.prog ops Q (o_ :: rest) a w := by
  refine wpList_build hg 38 parts ho (by rw [hp, built_refS hk]; rfl) ?_
  rw [hp, built_refS hk]
  exact h
end


set_option maxRecDepth 100000 in
set_option maxHeartbeats 2000000 in
theorem sessionSpoiled_s (key other b : List UInt8) (v : Value) (at_ cut : Nat) (x : UInt8) (w : World) (hT : Tab w) (h0 : 0 < w.heap.size) (hk : key.length = 32) (hk2 : other.length = 32) (hv : HB w v b) (hat : at_ < 65536) (hcu : cut < 65536) :
    Calls Tryd.prog 3 #[.agg (bvs key), .agg (bvs other), v, .int .u16 (at_ : Int), .int .u8 (x.toNat : Int), .int .u16 (cut : Int), .bool true] w fun e w' => e = .returned (.bool true) ∧ Below w.heap.size w w' := by
  have HT : Hid (∀ W, Below w.heap.size w W → Tab W ∧ 0 < W.heap.size) := Lib.hid (fun W hb => ⟨hT.below hb h0, by have := hb.size; omega⟩)
  obtain ⟨p, c, rfl, hlc, hcm⟩ := hv.form
  have HV := Lib.hid hv
  have hkz : (bvs key).size = 32 := by rw [bvs_size]; exact hk
  have hoz : (bvs other).size = 32 := by rw [bvs_size]; exact hk2
  clear hv hT
  have hA : Below w.heap.size w ((w.alloc (.cells (bvs key) 23)).alloc (.cells (bvs other) 23)) := ((Below.refl _ _).alloc (Nat.le_refl _) _).alloc (by simp) _
  have HA := Lib.hid hA
  clear hA
  by_cases h100 : (100 : Int) < (b.length : Int)
  · skip
    go_enter Tryd.func3, Tryd.ntmps3
    go_wp2_with fail
    refine (awake19_any _ (HT.out _ HA.out).1 (HT.out _ HA.out).2).mono ?_
    rintro e w1 ⟨rfl, hb1⟩
    have HB1 : Hid (Blk w1 w.heap.size 23 (bvs key) ∧ Blk w1 (w.heap.size + 1) 23 (bvs other) ∧ Below w.heap.size w w1) := Lib.hid ⟨((Blk.new w _ _).alloc _).below hb1 (by simp <;> omega), (Blk.new' (w := w.alloc (.cells (bvs key) 23)) (by simp) _ _).below hb1 (by simp <;> omega), HA.out.trans (hb1.mono (by simp; omega))⟩
    clear hb1
    go_wp2_with fail
    go_ret
    exact ⟨rfl, HB1.out.2.2⟩
  have hb100 : b.length ≤ 100 := by omega
  obtain ⟨dO, hdO⟩ : ∃ d, d = frameK key := ⟨_, rfl⟩
  have hdOl : dO.length = 32 := by rw [hdO]; exact frameK_length _
  obtain ⟨dK, hdK⟩ : ∃ d, d = frameK key := ⟨_, rfl⟩
  have hdKl : dK.length = 32 := by rw [hdK]; exact frameK_length _
  have HD := Lib.hid (And.intro hdO hdK)
  clear hdO hdK
  go_enter Tryd.func3, Tryd.ntmps3
  go_wp2_with fail
  refine (awake19_any _ (HT.out _ HA.out).1 (HT.out _ HA.out).2).mono ?_
  rintro e w1 ⟨rfl, hb1⟩
  have HB1 : Hid (Blk w1 w.heap.size 23 (bvs key) ∧ Blk w1 (w.heap.size + 1) 23 (bvs other) ∧ Below w.heap.size w w1) := Lib.hid ⟨((Blk.new w _ _).alloc _).below hb1 (by simp <;> omega), (Blk.new' (w := w.alloc (.cells (bvs key) 23)) (by simp) _ _).below hb1 (by simp <;> omega), HA.out.trans (hb1.mono (by simp; omega))⟩
  clear hb1
  go_wp2_with (first
    | (refine wpList_load_blk rfl 23 (.tmp 7) rfl w.heap.size 23 (bvs key) rfl HB1.out.1 Tryd.underlying23 rfl (by rw [hkz]; kernel_rfl) ?_)
    | (refine wpList_store_blk rfl 23 (.tmp 8) (.tmp 34) rfl (w.heap.size + 1) 23 _ (bvs key) rfl rfl HB1.out.2.1 (by rw [hkz, hoz]) (by rw [hkz]; kernel_rfl) (bvs_one _) ?_
       intro w2 hb2 hg2 hz2
       have HB2 : Hid (Blk w2 w.heap.size 23 (bvs key) ∧ Blk w2 (w.heap.size + 1) 23 (bvs key) ∧ Below w.heap.size w w2) := Lib.hid ⟨HB1.out.1.grown hg2 (by intro e; injection e with e; omega), hb2, HB1.out.2.2.grown hg2 HB1.out.2.2.size (by intro k hk; injection hk with hk; omega)⟩
       clear hb2 hg2 hz2)
    | (refine wpList_load_blk rfl 23 (.tmp 8) rfl (w.heap.size + 1) 23 (bvs key) rfl HB2.out.2.1 Tryd.underlying23 rfl (by rw [hkz]; kernel_rfl) ?_))
  clear HB1
  refine (sesNew_ok key 0 1 w2 (HT.out _ HB2.out.2.2).1 (HT.out _ HB2.out.2.2).2 hk (by unfold fineG; decide)).mono ?_
  rintro e w3 ⟨ga, rfl, hs3, hg3, hb3⟩
  rw [← HD.out.1] at hs3
  have hz3 : w.heap.size + 1 < w2.heap.size := HB2.out.2.1.lt
  have HI3 : Hid (Ses w3 ga dO ((0 : Nat) : Int) ((1 : Nat) : Int) 0 0 0 ∧ Blk w3 w.heap.size 23 (bvs key) ∧ Below w.heap.size w w3 ∧ w.heap.size + 1 < ga) := Lib.hid ⟨hs3, HB2.out.1.below hb3 HB2.out.1.lt, HB2.out.2.2.trans (hb3.mono HB2.out.2.2.size), by omega⟩
  clear hs3 hg3 hb3 HB2 hz3
  go_wp2_with (refine wpList_load_blk rfl 23 (.tmp 7) rfl w.heap.size 23 (bvs key) rfl HI3.out.2.1 Tryd.underlying23 rfl (by rw [hkz]; kernel_rfl) ?_)
  refine (sesNew_ok key 1 0 w3 (HT.out _ HI3.out.2.2.1).1 (HT.out _ HI3.out.2.2.1).2 hk (by unfold fineG; decide)).mono ?_
  rintro e w4 ⟨gc, rfl, hs4, hg4, hb4⟩
  rw [← HD.out.2] at hs4
  have hgg : ga ≠ gc := by have := HI3.out.1.lt; omega
  have HI4 : Hid (Ses w4 ga dO ((0 : Nat) : Int) ((1 : Nat) : Int) 0 0 0 ∧ Ses w4 gc dK ((1 : Nat) : Int) ((0 : Nat) : Int) 0 0 0 ∧ Blk w4 w.heap.size 23 (bvs key) ∧ Below w.heap.size w w4 ∧ w.heap.size + 1 < ga ∧ w.heap.size + 1 < gc) := Lib.hid ⟨HI3.out.1.below hb4 HI3.out.1.lt, hs4, HI3.out.2.1.below hb4 HI3.out.2.1.lt, HI3.out.2.2.1.trans (hb4.mono HI3.out.2.2.1.size), HI3.out.2.2.2, by have := HI3.out.1.lt; have := HI3.out.2.2.2; omega⟩
  clear hs4 hg4 hb4 HI3
  have HGC0 : Hid (w.heap.size ≤ gc) := Lib.hid (by have := HI4.out.2.2.2.2.2; omega)
  have HNI : Hid (NotIn (.slice p b.length c) ga) := Lib.hid (by
    intro p' n' c' e h
    injection e with e1 e2 e3
    subst e1; subst e2
    obtain ⟨b2, o2, rfl, h2⟩ := HV.out.at_ (at8_get (l := b) (i := 0) h)
    have h3 := lt_of_cell h2
    exact ⟨b2, o2, rfl, by have := HI4.out.2.2.2.2.1; omega⟩)
  obtain ⟨F, hF⟩ : ∃ F, F = frameG dO 1 0 1 b := ⟨_, rfl⟩
  have hFl : F.length ≤ 200 ∧ 32 ≤ F.length := by
    rw [hF, frameG_length]
    have := bodyG_length (n := 1) (from_ := 0) (to := 1) (b := b) (by decide) (by decide) (by decide) (by omega)
    omega
  have HF := Lib.hid hF
  clear hF
  go_wp2_with fail
  refine (send_any ga dO 0 1 0 0 0 _ b w4 (HT.out _ HI4.out.2.2.2.1).1 (HT.out _ HI4.out.2.2.2.1).2 (by have := HI4.out.2.2.2.2.1; omega) HI4.out.1 hdOl (HV.out.keep HI4.out.2.2.2.1) HNI.out (by omega) (by decide) (by decide) (by decide)).mono ?_
  rintro e w5 ⟨v5, rfl, hs5, ho5, hg5⟩
  rw [show frameG dO (0 + 1) 0 1 b = F from HF.out.symm] at ho5
  obtain ⟨L, hL⟩ : ∃ L, L = F.length := ⟨_, rfl⟩
  rw [← hL] at ho5 hFl
  obtain ⟨gb, cb, rr, rfl, hgb, hcl, hcm2, hcr, hblk⟩ := own_bytes ho5 hL (by omega)
  obtain ⟨j, hj⟩ : ∃ j, j = at_ % L := ⟨_, rfl⟩
  have hjL : j < L := by rw [hj]; exact Nat.mod_lt _ (by omega)
  have haj : (at_ : Int) % (L : Int) = (j : Int) := by rw [hj]; simp
  have c0 := hblk.rbyte (i := j) (by omega)
  have f0 := hblk.frozen j
  have HI5 : Hid (Ses w5 gc dK ((1 : Nat) : Int) ((0 : Nat) : Int) 0 0 0 ∧ Blk w5 w.heap.size 23 (bvs key) ∧ Below w.heap.size w w5 ∧ Blk w5 gb 5 (bvr F rr) ∧ w.heap.size ≤ gb ∧ cb = L + rr.length ∧ cb ≤ maxLen) := Lib.hid ⟨HI4.out.2.1.grown hg5 (fun e => by injection e with e; first | exact hgg e | exact hgg e.symm), HI4.out.2.2.1.grown hg5 (fun e => by injection e with e; have := HI4.out.2.2.2.2.1; omega), HI4.out.2.2.2.1.grown hg5 HI4.out.2.2.2.1.size (fun j hj => by injection hj with hj; have := HI4.out.2.2.2.2.1; omega), hblk, by have := HI4.out.2.2.2.1.size; omega, hcr, hcm2⟩
  have HL := Lib.hid hL
  have hLz : ¬ (L : Int) = 0 := by omega
  have hjLi : (j : Int) < (L : Int) := by omega
  have hj0 : ¬ (j : Int) < 0 := by omega
  clear hs5 ho5 hg5 hL hj hblk hgb hcl hcr hcm2 HI4
  go_upto_region 14 with (fail)
  have e5 := xor8_rule (at8 F j) x
  rw [e5]
  obtain ⟨w7, hw7⟩ : ∃ w7, w7 = w5.setCell ⟨gb, j, none⟩ (.int .u8 ((at8 F j ^^^ x).toNat : Int)) := ⟨_, rfl⟩
  rw [← hw7]
  obtain ⟨F2, hF2⟩ : ∃ F2, F2 = F.set j (at8 F j ^^^ x) := ⟨_, rfl⟩
  have hF2l : F2.length = L := by rw [hF2, List.length_set, HL.out]
  have HI7 : Hid (Ses w7 gc dK ((1 : Nat) : Int) ((0 : Nat) : Int) 0 0 0 ∧ Blk w7 w.heap.size 23 (bvs key) ∧ Below w.heap.size w w7 ∧ HB w7 (.slice (some ⟨gb, 0, none⟩) L cb) F2) := Lib.hid (by
    have hG : w5.grownBy w7 (some gb) := by rw [hw7]; exact Only.store (p := ⟨gb, j, none⟩) (World.grownBy.refl w5 (some gb)) (.inl rfl) _
    have hS := HI5.out.2.2.2.1.rbyte_store (at8 F j ^^^ x) (show j < F.length by rw [← HL.out]; exact hjL)
    rw [← hw7, ← hF2] at hS
    refine ⟨HI5.out.1.grown hG (by intro e; injection e with e; exact blk_ne' HI5.out.1 HI5.out.2.2.2.1 (by decide) e), HI5.out.2.1.grown hG (by intro e; injection e with e; exact blk_ne' HI5.out.2.1 HI5.out.2.2.2.1 (by decide) e), HI5.out.2.2.1.grown hG HI5.out.2.2.1.size (by intro k hk; injection hk with hk; have := HI5.out.2.2.2.2.1; omega), ?_⟩
    exact own_hb (own_bytes_mk (n := L) (Nat.zero_le gb) hS hF2l.symm HI5.out.2.2.2.2.2.1 HI5.out.2.2.2.2.2.2) hF2l.symm)
  have HGB : Hid (gb ≠ gc) := Lib.hid (blk_ne' HI5.out.2.2.2.1 HI5.out.1 (by decide))
  have HKC : Hid (w.heap.size ≠ gc) := Lib.hid (blk_ne' HI5.out.2.1 HI5.out.1 (by decide))
  have HGC : Hid (w.heap.size ≤ gc) := Lib.hid HGC0.out
  have hcbL : L ≤ cb := by have := HI5.out.2.2.2.2.2.1; omega
  have hcbm : cb ≤ 9223372036854775807 := by have := HI5.out.2.2.2.2.2.2; unfold maxLen at this; omega
  clear e5 hw7 hF2 c0 f0 HI5
  have HF2L := Lib.hid hF2l
  clear hF2l
  obtain ⟨ct, hct⟩ : ∃ ct, (bits BinOp.and IntKind.u16 (cut : Int) 1 == 1) = ct := ⟨_, rfl⟩
  cases ct with
  | true =>
    obtain ⟨m, hm⟩ : ∃ m, m = cut / 2 % L := ⟨_, rfl⟩
    have hmL : m < L := by rw [hm]; exact Nat.mod_lt _ (by omega)
    have hmi : (cut : Int) / 2 % (L : Int) = (m : Int) := by rw [hm]; simp
    have hmc : (m : Int) ≤ (cb : Int) := by omega
    clear hm
    obtain ⟨F3, hF3⟩ : ∃ F3, F3 = F2.take m := ⟨_, rfl⟩
    have hF3l : F3.length ≤ 200 := by rw [hF3, List.length_take]; omega
    have HY : Hid (HB w7 (.slice (some ⟨gb, 0, none⟩) m cb) F3) := Lib.hid (by rw [hF3]; exact HI7.out.2.2.2.take (by omega))
    clear hF3
    go_wp2_with fail
    obtain ⟨TG, hTG⟩ : ∃ TG, TG = takeG dK 1 0 0 0 F3 := ⟨_, rfl⟩
    have HTG := Lib.hid hTG
    have HTG2 : Hid (takeG (frameK key) 1 0 0 0 F3 = TG) := Lib.hid (by rw [← HD.out.2, hTG])
    have hgbc : gb ≠ gc := by
      intro e
      have h1 := HGB.out
      exact h1 e
    clear hTG
    refine (sesTake_any gc dK 1 0 0 0 0 _ F3 w7 (HT.out _ HI7.out.2.2.1).1 (HT.out _ HI7.out.2.2.1).2 HI7.out.1 hdKl HY.out (by omega) (by decide) (by decide)).mono ?_
    rw [← HTG.out]
    rintro e w8 ⟨v8, rfl, hv8, hs8, hg8⟩
    obtain ⟨A8, c8, rfl⟩ := own_form hv8
    have HI8 : Hid (Blk w8 w.heap.size 23 (bvs key) ∧ Below w.heap.size w w8 ∧ HB w8 (.slice A8 TG.2.1.length c8) TG.2.1) := Lib.hid ⟨HI7.out.2.1.grown hg8 (by intro e; injection e with e; first | exact HKC.out e | exact HKC.out e.symm), HI7.out.2.2.1.grown hg8 HI7.out.2.2.1.size (by intro k hk; injection hk with hk; have := HGC.out; omega), own_hb hv8 rfl⟩
    have HY8 := Lib.hid (HB.apart HY.out hg8 (by
      intro p' n' c' e h
      injection e with e _ _
      exact ⟨gb, 0, e.symm, hgbc⟩))
    have hcv8 := HY8.out.str Tryd.underlying24 Tryd.underlying5 Tryd.underlying9
    clear hv8 hs8 hg8 HY
    obtain ⟨z, hz⟩ : ∃ z, z = TG.2.1 := ⟨_, rfl⟩
    obtain ⟨ec, hec⟩ : ∃ ec, ec = TG.1 := ⟨_, rfl⟩
    have HZE := Lib.hid (And.intro hz hec)
    rw [← hz] at HI8
    rw [← hz, ← hec]
    clear hz hec
    go_wp2_with (first
      | (refine wpList_load_blk rfl 23 (.tmp 7) rfl w.heap.size 23 (bvs key) rfl HI8.out.1 Tryd.underlying23 rfl (by rw [hkz]; kernel_rfl) ?_)
      | (refine wpList_build_refS rfl _ rfl key hk (by first | (simp [Act.eval]; done) | (simp [Act.eval, Act.put]; done)) ?_))
    refine (refTake19_any key 1 0 0 0 0 F3 w8 hk (by omega) (by decide) (by decide)).mono ?_
    rw [HTG2.out, ← HZE.out.1, ← HZE.out.2]
    rintro e w9 ⟨rfl, hb9⟩
    have HI9 : Hid (Below w.heap.size w w9 ∧ HB w9 (.slice A8 z.length c8) z) := Lib.hid ⟨HI8.out.2.1.trans (hb9.mono HI8.out.2.1.size), HI8.out.2.2.keep hb9⟩
    clear hb9 hcv8 HI8 HY8
    go_wp2_with (
      (refine wpList_store_blk rfl 38 (.tmp 24) (.tmp 100) rfl w9.heap.size 38 _ _ rfl rfl (Blk.new _ _ _) (by rw [sesC_size hk]; rfl) (by rw [sesC_size hk]; kernel_rfl) (sesC_one _ _ _ _ _ _) ?_
       intro w10 hb10 hg10 hz10
       have hBV : Below w9.heap.size w9 w10 := ((Below.refl w9.heap.size w9).alloc (Nat.le_refl _) _).grown hg10 (by simp) (by intro k hk; injection hk with hk; omega)
       have HI10 : Hid (Below w.heap.size w w10) := Lib.hid (HI9.out.1.trans (hBV.mono HI9.out.1.size))
       have hcv10 := (HI9.out.2.keep hBV).str Tryd.underlying24 Tryd.underlying5 Tryd.underlying9
       clear hb10 hg10 hz10 hBV HI9))
    go_ret
    exact ⟨rfl, HI10.out⟩
  | false =>
    obtain ⟨F3, hF3⟩ : ∃ F3, F3 = F2 := ⟨_, rfl⟩
    have hF3l : F3.length ≤ 200 := by rw [hF3, HF2L.out]; omega
    have HY : Hid (HB w7 (.slice (some ⟨gb, 0, none⟩) L cb) F3) := Lib.hid (by rw [hF3]; exact HI7.out.2.2.2)
    clear hF3
    go_wp2_with fail
    obtain ⟨TG, hTG⟩ : ∃ TG, TG = takeG dK 1 0 0 0 F3 := ⟨_, rfl⟩
    have HTG := Lib.hid hTG
    have HTG2 : Hid (takeG (frameK key) 1 0 0 0 F3 = TG) := Lib.hid (by rw [← HD.out.2, hTG])
    have hgbc : gb ≠ gc := by
      intro e
      have h1 := HGB.out
      exact h1 e
    clear hTG
    refine (sesTake_any gc dK 1 0 0 0 0 _ F3 w7 (HT.out _ HI7.out.2.2.1).1 (HT.out _ HI7.out.2.2.1).2 HI7.out.1 hdKl HY.out (by omega) (by decide) (by decide)).mono ?_
    rw [← HTG.out]
    rintro e w8 ⟨v8, rfl, hv8, hs8, hg8⟩
    obtain ⟨A8, c8, rfl⟩ := own_form hv8
    have HI8 : Hid (Blk w8 w.heap.size 23 (bvs key) ∧ Below w.heap.size w w8 ∧ HB w8 (.slice A8 TG.2.1.length c8) TG.2.1) := Lib.hid ⟨HI7.out.2.1.grown hg8 (by intro e; injection e with e; first | exact HKC.out e | exact HKC.out e.symm), HI7.out.2.2.1.grown hg8 HI7.out.2.2.1.size (by intro k hk; injection hk with hk; have := HGC.out; omega), own_hb hv8 rfl⟩
    have HY8 := Lib.hid (HB.apart HY.out hg8 (by
      intro p' n' c' e h
      injection e with e _ _
      exact ⟨gb, 0, e.symm, hgbc⟩))
    have hcv8 := HY8.out.str Tryd.underlying24 Tryd.underlying5 Tryd.underlying9
    clear hv8 hs8 hg8 HY
    obtain ⟨z, hz⟩ : ∃ z, z = TG.2.1 := ⟨_, rfl⟩
    obtain ⟨ec, hec⟩ : ∃ ec, ec = TG.1 := ⟨_, rfl⟩
    have HZE := Lib.hid (And.intro hz hec)
    rw [← hz] at HI8
    rw [← hz, ← hec]
    clear hz hec
    go_wp2_with (first
      | (refine wpList_load_blk rfl 23 (.tmp 7) rfl w.heap.size 23 (bvs key) rfl HI8.out.1 Tryd.underlying23 rfl (by rw [hkz]; kernel_rfl) ?_)
      | (refine wpList_build_refS rfl _ rfl key hk (by first | (simp [Act.eval]; done) | (simp [Act.eval, Act.put]; done)) ?_))
    refine (refTake19_any key 1 0 0 0 0 F3 w8 hk (by omega) (by decide) (by decide)).mono ?_
    rw [HTG2.out, ← HZE.out.1, ← HZE.out.2]
    rintro e w9 ⟨rfl, hb9⟩
    have HI9 : Hid (Below w.heap.size w w9 ∧ HB w9 (.slice A8 z.length c8) z) := Lib.hid ⟨HI8.out.2.1.trans (hb9.mono HI8.out.2.1.size), HI8.out.2.2.keep hb9⟩
    clear hb9 hcv8 HI8 HY8
    go_wp2_with (
      (refine wpList_store_blk rfl 38 (.tmp 24) (.tmp 100) rfl w9.heap.size 38 _ _ rfl rfl (Blk.new _ _ _) (by rw [sesC_size hk]; rfl) (by rw [sesC_size hk]; kernel_rfl) (sesC_one _ _ _ _ _ _) ?_
       intro w10 hb10 hg10 hz10
       have hBV : Below w9.heap.size w9 w10 := ((Below.refl w9.heap.size w9).alloc (Nat.le_refl _) _).grown hg10 (by simp) (by intro k hk; injection hk with hk; omega)
       have HI10 : Hid (Below w.heap.size w w10) := Lib.hid (HI9.out.1.trans (hBV.mono HI9.out.1.size))
       have hcv10 := (HI9.out.2.keep hBV).str Tryd.underlying24 Tryd.underlying5 Tryd.underlying9
       clear hb10 hg10 hz10 hBV HI9))
    go_ret
    exact ⟨rfl, HI10.out⟩

set_option maxRecDepth 100000 in
set_option maxHeartbeats 2000000 in
theorem sessionSpoiled_d (key other b : List UInt8) (v : Value) (at_ cut : Nat) (x : UInt8) (w : World) (hT : Tab w) (h0 : 0 < w.heap.size) (hk : key.length = 32) (hk2 : other.length = 32) (hv : HB w v b) (hat : at_ < 65536) (hcu : cut < 65536) :
    Calls Tryd.prog 3 #[.agg (bvs key), .agg (bvs other), v, .int .u16 (at_ : Int), .int .u8 (x.toNat : Int), .int .u16 (cut : Int), .bool false] w fun e w' => e = .returned (.bool true) ∧ Below w.heap.size w w' := by
  have HT : Hid (∀ W, Below w.heap.size w W → Tab W ∧ 0 < W.heap.size) := Lib.hid (fun W hb => ⟨hT.below hb h0, by have := hb.size; omega⟩)
  obtain ⟨p, c, rfl, hlc, hcm⟩ := hv.form
  have HV := Lib.hid hv
  have hkz : (bvs key).size = 32 := by rw [bvs_size]; exact hk
  have hoz : (bvs other).size = 32 := by rw [bvs_size]; exact hk2
  clear hv hT
  have hA : Below w.heap.size w ((w.alloc (.cells (bvs key) 23)).alloc (.cells (bvs other) 23)) := ((Below.refl _ _).alloc (Nat.le_refl _) _).alloc (by simp) _
  have HA := Lib.hid hA
  clear hA
  by_cases h100 : (100 : Int) < (b.length : Int)
  · skip
    go_enter Tryd.func3, Tryd.ntmps3
    go_wp2_with fail
    refine (awake19_any _ (HT.out _ HA.out).1 (HT.out _ HA.out).2).mono ?_
    rintro e w1 ⟨rfl, hb1⟩
    have HB1 : Hid (Blk w1 w.heap.size 23 (bvs key) ∧ Blk w1 (w.heap.size + 1) 23 (bvs other) ∧ Below w.heap.size w w1) := Lib.hid ⟨((Blk.new w _ _).alloc _).below hb1 (by simp <;> omega), (Blk.new' (w := w.alloc (.cells (bvs key) 23)) (by simp) _ _).below hb1 (by simp <;> omega), HA.out.trans (hb1.mono (by simp; omega))⟩
    clear hb1
    go_wp2_with fail
    go_ret
    exact ⟨rfl, HB1.out.2.2⟩
  have hb100 : b.length ≤ 100 := by omega
  obtain ⟨dO, hdO⟩ : ∃ d, d = frameK other := ⟨_, rfl⟩
  have hdOl : dO.length = 32 := by rw [hdO]; exact frameK_length _
  obtain ⟨dK, hdK⟩ : ∃ d, d = frameK key := ⟨_, rfl⟩
  have hdKl : dK.length = 32 := by rw [hdK]; exact frameK_length _
  have HD := Lib.hid (And.intro hdO hdK)
  clear hdO hdK
  go_enter Tryd.func3, Tryd.ntmps3
  go_wp2_with fail
  refine (awake19_any _ (HT.out _ HA.out).1 (HT.out _ HA.out).2).mono ?_
  rintro e w1 ⟨rfl, hb1⟩
  have HB1 : Hid (Blk w1 w.heap.size 23 (bvs key) ∧ Blk w1 (w.heap.size + 1) 23 (bvs other) ∧ Below w.heap.size w w1) := Lib.hid ⟨((Blk.new w _ _).alloc _).below hb1 (by simp <;> omega), (Blk.new' (w := w.alloc (.cells (bvs key) 23)) (by simp) _ _).below hb1 (by simp <;> omega), HA.out.trans (hb1.mono (by simp; omega))⟩
  clear hb1
  go_wp2_with (refine wpList_load_blk rfl 23 (.tmp 8) rfl (w.heap.size + 1) 23 (bvs other) rfl HB1.out.2.1 Tryd.underlying23 rfl (by rw [hoz]; kernel_rfl) ?_)
  refine (sesNew_ok other 0 1 w1 (HT.out _ HB1.out.2.2).1 (HT.out _ HB1.out.2.2).2 hk2 (by unfold fineG; decide)).mono ?_
  rintro e w3 ⟨ga, rfl, hs3, hg3, hb3⟩
  rw [← HD.out.1] at hs3
  have hz3 : w.heap.size + 1 < w1.heap.size := HB1.out.2.1.lt
  have HI3 : Hid (Ses w3 ga dO ((0 : Nat) : Int) ((1 : Nat) : Int) 0 0 0 ∧ Blk w3 w.heap.size 23 (bvs key) ∧ Below w.heap.size w w3 ∧ w.heap.size + 1 < ga) := Lib.hid ⟨hs3, HB1.out.1.below hb3 HB1.out.1.lt, HB1.out.2.2.trans (hb3.mono HB1.out.2.2.size), by omega⟩
  clear hs3 hg3 hb3 HB1 hz3
  go_wp2_with (refine wpList_load_blk rfl 23 (.tmp 7) rfl w.heap.size 23 (bvs key) rfl HI3.out.2.1 Tryd.underlying23 rfl (by rw [hkz]; kernel_rfl) ?_)
  refine (sesNew_ok key 1 0 w3 (HT.out _ HI3.out.2.2.1).1 (HT.out _ HI3.out.2.2.1).2 hk (by unfold fineG; decide)).mono ?_
  rintro e w4 ⟨gc, rfl, hs4, hg4, hb4⟩
  rw [← HD.out.2] at hs4
  have hgg : ga ≠ gc := by have := HI3.out.1.lt; omega
  have HI4 : Hid (Ses w4 ga dO ((0 : Nat) : Int) ((1 : Nat) : Int) 0 0 0 ∧ Ses w4 gc dK ((1 : Nat) : Int) ((0 : Nat) : Int) 0 0 0 ∧ Blk w4 w.heap.size 23 (bvs key) ∧ Below w.heap.size w w4 ∧ w.heap.size + 1 < ga ∧ w.heap.size + 1 < gc) := Lib.hid ⟨HI3.out.1.below hb4 HI3.out.1.lt, hs4, HI3.out.2.1.below hb4 HI3.out.2.1.lt, HI3.out.2.2.1.trans (hb4.mono HI3.out.2.2.1.size), HI3.out.2.2.2, by have := HI3.out.1.lt; have := HI3.out.2.2.2; omega⟩
  clear hs4 hg4 hb4 HI3
  have HGC0 : Hid (w.heap.size ≤ gc) := Lib.hid (by have := HI4.out.2.2.2.2.2; omega)
  have HNI : Hid (NotIn (.slice p b.length c) ga) := Lib.hid (by
    intro p' n' c' e h
    injection e with e1 e2 e3
    subst e1; subst e2
    obtain ⟨b2, o2, rfl, h2⟩ := HV.out.at_ (at8_get (l := b) (i := 0) h)
    have h3 := lt_of_cell h2
    exact ⟨b2, o2, rfl, by have := HI4.out.2.2.2.2.1; omega⟩)
  obtain ⟨F, hF⟩ : ∃ F, F = frameG dO 1 0 1 b := ⟨_, rfl⟩
  have hFl : F.length ≤ 200 ∧ 32 ≤ F.length := by
    rw [hF, frameG_length]
    have := bodyG_length (n := 1) (from_ := 0) (to := 1) (b := b) (by decide) (by decide) (by decide) (by omega)
    omega
  have HF := Lib.hid hF
  clear hF
  go_wp2_with fail
  refine (send_any ga dO 0 1 0 0 0 _ b w4 (HT.out _ HI4.out.2.2.2.1).1 (HT.out _ HI4.out.2.2.2.1).2 (by have := HI4.out.2.2.2.2.1; omega) HI4.out.1 hdOl (HV.out.keep HI4.out.2.2.2.1) HNI.out (by omega) (by decide) (by decide) (by decide)).mono ?_
  rintro e w5 ⟨v5, rfl, hs5, ho5, hg5⟩
  rw [show frameG dO (0 + 1) 0 1 b = F from HF.out.symm] at ho5
  obtain ⟨L, hL⟩ : ∃ L, L = F.length := ⟨_, rfl⟩
  rw [← hL] at ho5 hFl
  obtain ⟨gb, cb, rr, rfl, hgb, hcl, hcm2, hcr, hblk⟩ := own_bytes ho5 hL (by omega)
  obtain ⟨j, hj⟩ : ∃ j, j = at_ % L := ⟨_, rfl⟩
  have hjL : j < L := by rw [hj]; exact Nat.mod_lt _ (by omega)
  have haj : (at_ : Int) % (L : Int) = (j : Int) := by rw [hj]; simp
  have c0 := hblk.rbyte (i := j) (by omega)
  have f0 := hblk.frozen j
  have HI5 : Hid (Ses w5 gc dK ((1 : Nat) : Int) ((0 : Nat) : Int) 0 0 0 ∧ Blk w5 w.heap.size 23 (bvs key) ∧ Below w.heap.size w w5 ∧ Blk w5 gb 5 (bvr F rr) ∧ w.heap.size ≤ gb ∧ cb = L + rr.length ∧ cb ≤ maxLen) := Lib.hid ⟨HI4.out.2.1.grown hg5 (fun e => by injection e with e; first | exact hgg e | exact hgg e.symm), HI4.out.2.2.1.grown hg5 (fun e => by injection e with e; have := HI4.out.2.2.2.2.1; omega), HI4.out.2.2.2.1.grown hg5 HI4.out.2.2.2.1.size (fun j hj => by injection hj with hj; have := HI4.out.2.2.2.2.1; omega), hblk, by have := HI4.out.2.2.2.1.size; omega, hcr, hcm2⟩
  have HL := Lib.hid hL
  have hLz : ¬ (L : Int) = 0 := by omega
  have hjLi : (j : Int) < (L : Int) := by omega
  have hj0 : ¬ (j : Int) < 0 := by omega
  clear hs5 ho5 hg5 hL hj hblk hgb hcl hcr hcm2 HI4
  go_upto_region 14 with (fail)
  have e5 := xor8_rule (at8 F j) x
  rw [e5]
  obtain ⟨w7, hw7⟩ : ∃ w7, w7 = w5.setCell ⟨gb, j, none⟩ (.int .u8 ((at8 F j ^^^ x).toNat : Int)) := ⟨_, rfl⟩
  rw [← hw7]
  obtain ⟨F2, hF2⟩ : ∃ F2, F2 = F.set j (at8 F j ^^^ x) := ⟨_, rfl⟩
  have hF2l : F2.length = L := by rw [hF2, List.length_set, HL.out]
  have HI7 : Hid (Ses w7 gc dK ((1 : Nat) : Int) ((0 : Nat) : Int) 0 0 0 ∧ Blk w7 w.heap.size 23 (bvs key) ∧ Below w.heap.size w w7 ∧ HB w7 (.slice (some ⟨gb, 0, none⟩) L cb) F2) := Lib.hid (by
    have hG : w5.grownBy w7 (some gb) := by rw [hw7]; exact Only.store (p := ⟨gb, j, none⟩) (World.grownBy.refl w5 (some gb)) (.inl rfl) _
    have hS := HI5.out.2.2.2.1.rbyte_store (at8 F j ^^^ x) (show j < F.length by rw [← HL.out]; exact hjL)
    rw [← hw7, ← hF2] at hS
    refine ⟨HI5.out.1.grown hG (by intro e; injection e with e; exact blk_ne' HI5.out.1 HI5.out.2.2.2.1 (by decide) e), HI5.out.2.1.grown hG (by intro e; injection e with e; exact blk_ne' HI5.out.2.1 HI5.out.2.2.2.1 (by decide) e), HI5.out.2.2.1.grown hG HI5.out.2.2.1.size (by intro k hk; injection hk with hk; have := HI5.out.2.2.2.2.1; omega), ?_⟩
    exact own_hb (own_bytes_mk (n := L) (Nat.zero_le gb) hS hF2l.symm HI5.out.2.2.2.2.2.1 HI5.out.2.2.2.2.2.2) hF2l.symm)
  have HGB : Hid (gb ≠ gc) := Lib.hid (blk_ne' HI5.out.2.2.2.1 HI5.out.1 (by decide))
  have HKC : Hid (w.heap.size ≠ gc) := Lib.hid (blk_ne' HI5.out.2.1 HI5.out.1 (by decide))
  have HGC : Hid (w.heap.size ≤ gc) := Lib.hid HGC0.out
  have hcbL : L ≤ cb := by have := HI5.out.2.2.2.2.2.1; omega
  have hcbm : cb ≤ 9223372036854775807 := by have := HI5.out.2.2.2.2.2.2; unfold maxLen at this; omega
  clear e5 hw7 hF2 c0 f0 HI5
  have HF2L := Lib.hid hF2l
  clear hF2l
  obtain ⟨ct, hct⟩ : ∃ ct, (bits BinOp.and IntKind.u16 (cut : Int) 1 == 1) = ct := ⟨_, rfl⟩
  cases ct with
  | true =>
    obtain ⟨m, hm⟩ : ∃ m, m = cut / 2 % L := ⟨_, rfl⟩
    have hmL : m < L := by rw [hm]; exact Nat.mod_lt _ (by omega)
    have hmi : (cut : Int) / 2 % (L : Int) = (m : Int) := by rw [hm]; simp
    have hmc : (m : Int) ≤ (cb : Int) := by omega
    clear hm
    obtain ⟨F3, hF3⟩ : ∃ F3, F3 = F2.take m := ⟨_, rfl⟩
    have hF3l : F3.length ≤ 200 := by rw [hF3, List.length_take]; omega
    have HY : Hid (HB w7 (.slice (some ⟨gb, 0, none⟩) m cb) F3) := Lib.hid (by rw [hF3]; exact HI7.out.2.2.2.take (by omega))
    clear hF3
    go_wp2_with fail
    obtain ⟨TG, hTG⟩ : ∃ TG, TG = takeG dK 1 0 0 0 F3 := ⟨_, rfl⟩
    have HTG := Lib.hid hTG
    have HTG2 : Hid (takeG (frameK key) 1 0 0 0 F3 = TG) := Lib.hid (by rw [← HD.out.2, hTG])
    have hgbc : gb ≠ gc := by
      intro e
      have h1 := HGB.out
      exact h1 e
    clear hTG
    refine (sesTake_any gc dK 1 0 0 0 0 _ F3 w7 (HT.out _ HI7.out.2.2.1).1 (HT.out _ HI7.out.2.2.1).2 HI7.out.1 hdKl HY.out (by omega) (by decide) (by decide)).mono ?_
    rw [← HTG.out]
    rintro e w8 ⟨v8, rfl, hv8, hs8, hg8⟩
    obtain ⟨A8, c8, rfl⟩ := own_form hv8
    have HI8 : Hid (Blk w8 w.heap.size 23 (bvs key) ∧ Below w.heap.size w w8 ∧ HB w8 (.slice A8 TG.2.1.length c8) TG.2.1) := Lib.hid ⟨HI7.out.2.1.grown hg8 (by intro e; injection e with e; first | exact HKC.out e | exact HKC.out e.symm), HI7.out.2.2.1.grown hg8 HI7.out.2.2.1.size (by intro k hk; injection hk with hk; have := HGC.out; omega), own_hb hv8 rfl⟩
    have HY8 := Lib.hid (HB.apart HY.out hg8 (by
      intro p' n' c' e h
      injection e with e _ _
      exact ⟨gb, 0, e.symm, hgbc⟩))
    have hcv8 := HY8.out.str Tryd.underlying24 Tryd.underlying5 Tryd.underlying9
    clear hv8 hs8 hg8 HY
    obtain ⟨z, hz⟩ : ∃ z, z = TG.2.1 := ⟨_, rfl⟩
    obtain ⟨ec, hec⟩ : ∃ ec, ec = TG.1 := ⟨_, rfl⟩
    have HZE := Lib.hid (And.intro hz hec)
    rw [← hz] at HI8
    rw [← hz, ← hec]
    clear hz hec
    go_wp2_with (first
      | (refine wpList_load_blk rfl 23 (.tmp 7) rfl w.heap.size 23 (bvs key) rfl HI8.out.1 Tryd.underlying23 rfl (by rw [hkz]; kernel_rfl) ?_)
      | (refine wpList_build_refS rfl _ rfl key hk (by first | (simp [Act.eval]; done) | (simp [Act.eval, Act.put]; done)) ?_))
    refine (refTake19_any key 1 0 0 0 0 F3 w8 hk (by omega) (by decide) (by decide)).mono ?_
    rw [HTG2.out, ← HZE.out.1, ← HZE.out.2]
    rintro e w9 ⟨rfl, hb9⟩
    have HI9 : Hid (Below w.heap.size w w9 ∧ HB w9 (.slice A8 z.length c8) z) := Lib.hid ⟨HI8.out.2.1.trans (hb9.mono HI8.out.2.1.size), HI8.out.2.2.keep hb9⟩
    clear hb9 hcv8 HI8 HY8
    go_wp2_with (
      (refine wpList_store_blk rfl 38 (.tmp 24) (.tmp 100) rfl w9.heap.size 38 _ _ rfl rfl (Blk.new _ _ _) (by rw [sesC_size hk]; rfl) (by rw [sesC_size hk]; kernel_rfl) (sesC_one _ _ _ _ _ _) ?_
       intro w10 hb10 hg10 hz10
       have hBV : Below w9.heap.size w9 w10 := ((Below.refl w9.heap.size w9).alloc (Nat.le_refl _) _).grown hg10 (by simp) (by intro k hk; injection hk with hk; omega)
       have HI10 : Hid (Below w.heap.size w w10) := Lib.hid (HI9.out.1.trans (hBV.mono HI9.out.1.size))
       have hcv10 := (HI9.out.2.keep hBV).str Tryd.underlying24 Tryd.underlying5 Tryd.underlying9
       clear hb10 hg10 hz10 hBV HI9))
    go_ret
    exact ⟨rfl, HI10.out⟩
  | false =>
    obtain ⟨F3, hF3⟩ : ∃ F3, F3 = F2 := ⟨_, rfl⟩
    have hF3l : F3.length ≤ 200 := by rw [hF3, HF2L.out]; omega
    have HY : Hid (HB w7 (.slice (some ⟨gb, 0, none⟩) L cb) F3) := Lib.hid (by rw [hF3]; exact HI7.out.2.2.2)
    clear hF3
    go_wp2_with fail
    obtain ⟨TG, hTG⟩ : ∃ TG, TG = takeG dK 1 0 0 0 F3 := ⟨_, rfl⟩
    have HTG := Lib.hid hTG
    have HTG2 : Hid (takeG (frameK key) 1 0 0 0 F3 = TG) := Lib.hid (by rw [← HD.out.2, hTG])
    have hgbc : gb ≠ gc := by
      intro e
      have h1 := HGB.out
      exact h1 e
    clear hTG
    refine (sesTake_any gc dK 1 0 0 0 0 _ F3 w7 (HT.out _ HI7.out.2.2.1).1 (HT.out _ HI7.out.2.2.1).2 HI7.out.1 hdKl HY.out (by omega) (by decide) (by decide)).mono ?_
    rw [← HTG.out]
    rintro e w8 ⟨v8, rfl, hv8, hs8, hg8⟩
    obtain ⟨A8, c8, rfl⟩ := own_form hv8
    have HI8 : Hid (Blk w8 w.heap.size 23 (bvs key) ∧ Below w.heap.size w w8 ∧ HB w8 (.slice A8 TG.2.1.length c8) TG.2.1) := Lib.hid ⟨HI7.out.2.1.grown hg8 (by intro e; injection e with e; first | exact HKC.out e | exact HKC.out e.symm), HI7.out.2.2.1.grown hg8 HI7.out.2.2.1.size (by intro k hk; injection hk with hk; have := HGC.out; omega), own_hb hv8 rfl⟩
    have HY8 := Lib.hid (HB.apart HY.out hg8 (by
      intro p' n' c' e h
      injection e with e _ _
      exact ⟨gb, 0, e.symm, hgbc⟩))
    have hcv8 := HY8.out.str Tryd.underlying24 Tryd.underlying5 Tryd.underlying9
    clear hv8 hs8 hg8 HY
    obtain ⟨z, hz⟩ : ∃ z, z = TG.2.1 := ⟨_, rfl⟩
    obtain ⟨ec, hec⟩ : ∃ ec, ec = TG.1 := ⟨_, rfl⟩
    have HZE := Lib.hid (And.intro hz hec)
    rw [← hz] at HI8
    rw [← hz, ← hec]
    clear hz hec
    go_wp2_with (first
      | (refine wpList_load_blk rfl 23 (.tmp 7) rfl w.heap.size 23 (bvs key) rfl HI8.out.1 Tryd.underlying23 rfl (by rw [hkz]; kernel_rfl) ?_)
      | (refine wpList_build_refS rfl _ rfl key hk (by first | (simp [Act.eval]; done) | (simp [Act.eval, Act.put]; done)) ?_))
    refine (refTake19_any key 1 0 0 0 0 F3 w8 hk (by omega) (by decide) (by decide)).mono ?_
    rw [HTG2.out, ← HZE.out.1, ← HZE.out.2]
    rintro e w9 ⟨rfl, hb9⟩
    have HI9 : Hid (Below w.heap.size w w9 ∧ HB w9 (.slice A8 z.length c8) z) := Lib.hid ⟨HI8.out.2.1.trans (hb9.mono HI8.out.2.1.size), HI8.out.2.2.keep hb9⟩
    clear hb9 hcv8 HI8 HY8
    go_wp2_with (
      (refine wpList_store_blk rfl 38 (.tmp 24) (.tmp 100) rfl w9.heap.size 38 _ _ rfl rfl (Blk.new _ _ _) (by rw [sesC_size hk]; rfl) (by rw [sesC_size hk]; kernel_rfl) (sesC_one _ _ _ _ _ _) ?_
       intro w10 hb10 hg10 hz10
       have hBV : Below w9.heap.size w9 w10 := ((Below.refl w9.heap.size w9).alloc (Nat.le_refl _) _).grown hg10 (by simp) (by intro k hk; injection hk with hk; omega)
       have HI10 : Hid (Below w.heap.size w w10) := Lib.hid (HI9.out.1.trans (hBV.mono HI9.out.1.size))
       have hcv10 := (HI9.out.2.keep hBV).str Tryd.underlying24 Tryd.underlying5 Tryd.underlying9
       clear hb10 hg10 hz10 hBV HI9))
    go_ret
    exact ⟨rfl, HI10.out⟩

theorem sessionSpoiled_any (same : Bool) (key other b : List UInt8) (v : Value) (at_ cut : Nat) (x : UInt8) (w : World) (hT : Tab w) (h0 : 0 < w.heap.size) (hk : key.length = 32) (hk2 : other.length = 32) (hv : HB w v b) (hat : at_ < 65536) (hcu : cut < 65536) :
    Calls Tryd.prog 3 #[.agg (bvs key), .agg (bvs other), v, .int .u16 (at_ : Int), .int .u8 (x.toNat : Int), .int .u16 (cut : Int), .bool same] w fun e w' => e = .returned (.bool true) ∧ Below w.heap.size w w' := by
  cases same with
  | true => exact sessionSpoiled_s key other b v at_ cut x w hT h0 hk hk2 hv hat hcu
  | false => exact sessionSpoiled_d key other b v at_ cut x w hT h0 hk hk2 hv hat hcu
end Go.Proofs.YtlkhbfafednegaaDoor
