/-
  The walks of mac.Same and of the reference's 'Of' and 'Derive'.
-/
import Derived.Test.YtlkhbfafednegaaDoorMc1
import Derived.Test.YtlkhbfafednegaaDoorGB
namespace Go.Proofs.YtlkhbfafednegaaDoor
open Go Go.RowKit

theorem or8_rule (a b : UInt8) : bits .or .u8 (a.toNat : Int) (b.toNat : Int) = ((a ||| b).toNat : Int) := by
  rw [u8_or_nat _ _ a.toNat_lt b.toNat_lt, UInt8.toNat_or]
theorem xor_zero8 (a b : UInt8) : a ^^^ b = 0 ↔ a = b := by
  constructor
  · intro h
    have : (a ^^^ b) ^^^ b = 0 ^^^ b := by rw [h]
    rwa [UInt8.xor_assoc, UInt8.xor_self, UInt8.xor_zero, UInt8.zero_xor] at this
  · rintro rfl; exact UInt8.xor_self
theorem or_zero8 (a b : UInt8) : a ||| b = 0 ↔ a = 0 ∧ b = 0 := by
  constructor
  · intro h
    have h2 : a.toNat ||| b.toNat = 0 := by have := congrArg UInt8.toNat h; simpa [UInt8.toNat_or] using this
    rw [Nat.or_eq_zero_iff] at h2
    exact ⟨UInt8.toNat_inj.1 (by simpa using h2.1), UInt8.toNat_inj.1 (by simpa using h2.2)⟩
  · rintro ⟨rfl, rfl⟩; rfl
theorem take_snoc8 (l : List UInt8) {k : Nat} (h : k < l.length) : l.take (k + 1) = l.take k ++ [at8 l k] := by
  rw [List.take_add_one, List.getElem?_eq_getElem h]
  simp [at8, List.getD, h]

set_option maxRecDepth 100000 in
set_option maxHeartbeats 1000000 in
theorem same_any (a b : List UInt8) (w : World) (ha : a.length = 32) (hb : b.length = 32) :
    Calls Tryd.prog 23 #[.agg (bvs a), .agg (bvs b)] w fun e w' => e = .returned (.bool (a == b)) ∧ Below w.heap.size w w' := by
  have hza : (bvs a).size = 32 := by rw [bvs_size]; exact ha
  have hzb : (bvs b).size = 32 := by rw [bvs_size]; exact hb
  go_enter Tryd.func23, Tryd.ntmps23
  go_wp2_with fail
  refine wp_abs (fun W => ∃ g, g = w.heap.size ∧ Blk W g 66 (bvs a) ∧ Blk W (g + 1) 66 (bvs b) ∧ Below g w W) ⟨_, rfl, ?_, ?_, ?_⟩ ?_
  · exact (Blk.new w _ _).alloc _
  · exact Blk.new' (w := w.alloc _) (by simp) _ _
  · exact ((Below.refl w.heap.size w).alloc (Nat.le_refl _) _).alloc (by simp) _
  rintro W0 ⟨g, hg, hI⟩
  rw [← hg]
  have HI := Lib.hid hI
  have HG := Lib.hid hg
  clear hI hg
  go_loopw [5, 7] (fun x i wr => ∃ (k : Nat) (y : UInt8), k ≤ 32 ∧ x = .int .u8 (y.toNat : Int) ∧ i = .int .i64 k ∧ Hid (y = 0 ↔ a.take k = b.take k) ∧ Blk wr g 66 (bvs a) ∧ Blk wr (g + 1) 66 (bvs b) ∧ Below g w wr) (fun _ i _ => 32 - (intOf i).toNat)
  case atStart => exact ⟨0, 0, by omega, rfl, rfl, Lib.hid (by simp), HI.out⟩
  case round =>
    clear HI
    obtain ⟨k, y, hk, rfl, rfl, hY, hI⟩ := hrel
    by_cases hlt : k < 32
    · have c0 := hI.1.byte (i := k) (by omega)
      have c1 := hI.2.1.byte (i := k) (by omega)
      have HI := Lib.hid hI; clear hI
      have HY2 : Hid ((y ||| (at8 a k ^^^ at8 b k)) = 0 ↔ a.take (k + 1) = b.take (k + 1)) := Lib.hid (by
        rw [or_zero8, xor_zero8, hY.out, take_snoc8 a (by omega), take_snoc8 b (by omega)]
        constructor
        · rintro ⟨h1, h2⟩; rw [h1, h2]
        · intro h
          have := List.append_inj h (by simp; omega)
          exact ⟨this.1, by simpa using this.2⟩)
      clear hY
      go_wp2_with fail
      go_quiet (fail)
      rw [xor8_rule, or8_rule]
      have HI2 : Hid (Blk (wr.drewN nq) g 66 (bvs a) ∧ Blk (wr.drewN nq) (g + 1) 66 (bvs b) ∧ Below g w (wr.drewN nq)) := Lib.hid ⟨HI.out.1.drewN _, HI.out.2.1.drewN _, below_drewN HI.out.2.2 _⟩
      clear c0 c1 HI
      generalize wr.drewN nq = w2 at *
      go_wp2_with fail
      go_roundw
      case rel => exact ⟨k + 1, _, by omega, rfl, by go_num, HY2, HI2.out⟩
      case measure => simp [intOf]; omega
    · obtain rfl : k = 32 := by omega
      have hfin : ((y.toNat : Int) == 0) = (a == b) := by
        have h := hY.out
        rw [List.take_of_length_le (by omega), List.take_of_length_le (by omega)] at h
        rw [Bool.eq_iff_iff, beq_iff_eq, beq_iff_eq, ← h]
        constructor
        · intro h2; exact UInt8.toNat_inj.1 (by simp; omega)
        · rintro rfl; rfl
      have HF := Lib.hid hfin
      have HI := Lib.hid hI; clear hI hfin hY
      go_wp2_with fail
      go_ret
      rw [← HG.out]
      exact ⟨ret_bool HF.out, HI.out.2.2⟩

set_option maxRecDepth 100000 in
set_option maxHeartbeats 1000000 in
theorem refOf3_any (key : List UInt8) (s : ByteArray) (w : World) (hk : key.length = 32) (hs : s.size ≤ 999000) :
    Calls Tryd.prog 29 #[.agg (bvs key), .string s] w fun e w' => e = .returned (.agg (bvs (macF key (sb s)))) ∧ Below w.heap.size w w' := by
  have hbz : (bvs key).size = 32 := by rw [bvs_size]; exact hk
  have hpz : (bs (padK key 54)).size = 64 := by rw [bs_size]; exact padK_length _ _
  have hs1 : (bs (padK key 54) ++ s).size ≤ 1000000 := by rw [sz_append]; omega
  have HP : Hid (sb (bs (padK key 54) ++ s) = padK key 54 ++ sb s) := Lib.hid (by rw [sb_append, sb_bs])
  obtain ⟨x, hx⟩ : ∃ x, x = sha (padK key 54 ++ sb s) := ⟨_, rfl⟩
  have HX := Lib.hid hx
  have hxl : x.length = 32 := by rw [hx]; exact sha_length _
  have hxz : (bvs x).size = 32 := by rw [bvs_size]; exact hxl
  clear hx
  go_enter Tryd.func29, Tryd.ntmps29
  go_wp2_with (first
    | (refine wpList_load_blk rfl 23 (.tmp 2) rfl w.heap.size 23 (bvs key) rfl ((Blk.new w _ _).alloc _) Tryd.underlying23 rfl (by rw [hbz]; kernel_rfl) ?_)
    | (go_at_call 47
       refine (over_any key 54 _ hk).mono ?_
       rintro e w1 ⟨rfl, hb1⟩
       have HI : Hid (Blk w1 w.heap.size 23 (bvs key) ∧ Blk w1 (w.heap.size + 1) 66 (bvs (List.replicate 32 0)) ∧ Below w.heap.size w w1) := Lib.hid ⟨((Blk.new w _ _).alloc _).below hb1 (by simp; omega), (Blk.new' (w := w.alloc _) (by simp) _ _).below hb1 (by simp), (((Below.refl w.heap.size w).alloc (Nat.le_refl _) _).alloc (by simp) _).trans (hb1.mono (by simp; omega))⟩
       clear hb1)
    | (go_at_call 46
       refine (ref_any _ _ hs1).mono ?_
       rintro e w2 ⟨rfl, hb2⟩
       rw [HP.out, ← HX.out]
       have HI2 : Hid (Blk w2 w.heap.size 23 (bvs key) ∧ Blk w2 (w.heap.size + 1) 66 (bvs (List.replicate 32 0)) ∧ Below w.heap.size w w2) := Lib.hid ⟨HI.out.1.below hb2 HI.out.1.lt, HI.out.2.1.below hb2 HI.out.2.1.lt, HI.out.2.2.trans (hb2.mono HI.out.2.2.size)⟩
       clear hb2 HI)
    | (refine wpList_store_blk rfl 66 (.tmp 5) (.tmp 10) rfl w2.heap.size 66 _ (bvs x) rfl rfl (Blk.new _ _ _) (by rw [hxz]; rfl) (by rw [hxz]; kernel_rfl) (bvs_one _) ?_
       intro w3 hb3 hg3 hz3
       have HI3 : Hid (∃ g x5, g = w.heap.size ∧ x5 = w2.heap.size ∧ g + 1 < x5 ∧ Blk w3 x5 66 (bvs x) ∧ Blk w3 g 23 (bvs key) ∧ Blk w3 (g + 1) 66 (bvs (List.replicate 32 0)) ∧ Below g w w3) := by
         have h1 := HI2.out.1.lt
         have h2 := HI2.out.2.1.lt
         exact Lib.hid ⟨_, _, rfl, rfl, h2, hb3, (HI2.out.1.alloc _).grown hg3 (by intro h; injection h with h; omega), (HI2.out.2.1.alloc _).grown hg3 (by intro h; injection h with h; omega), (HI2.out.2.2.alloc (by omega) _).grown hg3 (by simp; omega) (by intro k hk; injection hk with hk; omega)⟩
       clear hb3 hg3 hz3 HI2))
  obtain ⟨g, x5, hg, hx5, hlt, hI⟩ := HI3.out
  rw [← hg, ← hx5]
  have HG := Lib.hid hg
  have HI := Lib.hid hI
  clear HI3 hI hg hx5
  refine wp_region_tail 6 [.eq (.agg (bvs key)), .eq (.string (bs (padK key 92))), .eq (.slice (some ⟨x5, 0, none⟩) 32 32), .eq (.string (bs x)), .eq (.string (bs (padK key 92) ++ bs x)), .eq (.agg (bvs (macF key (sb s))))] (by kernel_rfl) (by kernel_rfl) (by kernel_rfl) (by kernel_rfl) rfl (by decide) (by kernel_rfl) _ (fun f => by simp only [framedL, Act.put, List.setIfInBounds_toArray, List.set_cons_zero, List.set_cons_succ, Nat.reduceAdd]; rfl) ⟨?_, ?_, ?_, ?_, ?_, ?_, trivial⟩ ?_
  · exact oweAs_load 23 (.tmp 2) rfl (g) 23 (bvs key) (fun _ => rfl) (HI.out.2.1) Tryd.underlying23 rfl (by rw [bvs_size, hk]; kernel_rfl) rfl rfl
  · refine oweAs_call 47 rfl (fun f W hE hd => ?_)
    simp only [DepAs, Region.binds, asAt, As.holds, and_true, forall_const] at hd
    refine ⟨_, by (go_simp; first | exact rfl | exact ⟨rfl, rfl⟩), ?_⟩
    refine (over_any key 92 W hk).mono ?_
    rintro e w' ⟨rfl, hb⟩
    exact ⟨_, rfl, rfl, hb⟩
  · refine oweAs_pure ((.slice (some ⟨x5, 0, none⟩) 32 32)) rfl (fun f W hE hd => ?_) (fun W hE => rfl)
    go_simp
  · refine oweAs_pure ((.string (bs x))) rfl (fun f W hE hd => ?_) (fun W hE => rfl)
    simp only [DepAs, Region.binds, asAt, As.holds, and_true, forall_const] at hd
    have hcv := (HB.blk (HI.out.1.below hE HI.out.1.lt) hxl (by decide)).str Tryd.underlying24 Tryd.underlying5 Tryd.underlying9
    go_simp
  · refine oweAs_pure ((.string (bs (padK key 92) ++ bs x))) rfl (fun f W hE hd => ?_) (fun W hE => rfl)
    simp only [DepAs, Region.binds, asAt, As.holds, and_true, forall_const] at hd
    have h1 : (bs (padK key 92)).size = 64 := by rw [bs_size]; exact padK_length _ _
    have h2 : (bs x).size = 32 := by rw [bs_size]; exact hxl
    have h3 : (bs (padK key 92)).size + (bs x).size ≤ 9223372036854775807 := by omega
    clear h1 h2
    go_simp
  · refine oweAs_call 46 rfl (fun f W hE hd => ?_)
    simp only [DepAs, Region.binds, asAt, As.holds, and_true, forall_const] at hd
    refine ⟨_, by (go_simp; first | exact rfl | exact ⟨rfl, rfl⟩), ?_⟩
    have h1 : (bs (padK key 92) ++ bs x).size = 96 := by rw [sz_append, bs_size, bs_size, padK_length, hxl]
    refine (ref_any _ W (by omega)).mono ?_
    rintro e w' ⟨rfl, hb⟩
    exact ⟨_, rfl, by (show (_ : Value) = _; rw [sb_append, sb_bs, sb_bs, HX.out]; rfl), hb⟩
  intro f W hE hA
  simp only [AllAs, As.holds, Nat.reduceAdd] at hA
  obtain ⟨-, -, -, -, -, hA5, -⟩ := hA
  simp only [List.drop_succ_cons, List.drop_zero]
  rw [hA5]
  have HE := Lib.hid hE
  clear hE hA5
  obtain ⟨m, hm⟩ : ∃ m, m = macF key (sb s) := ⟨_, rfl⟩
  have hml : m.length = 32 := by rw [hm]; exact macF_length _ _
  rw [← hm]
  have HM := Lib.hid hm
  clear hm
  have hmz : (bvs m).size = 32 := by rw [bvs_size]; exact hml
  go_wp2_with (refine wpList_store_blk rfl 66 (.tmp 4) (.tmp 16) rfl (g + 1) 66 _ (bvs m) rfl rfl (HI.out.2.2.1.below HE.out HI.out.2.2.1.lt) (by rw [hmz]; rfl) (by rw [hmz]; kernel_rfl) (bvs_one _) ?_
               intro w4 hb4 hg4 hz4)
  refine bodyPost_ret (results_cell Tryd.results29 rfl (t := 66) (g := g + 1) (cs := bvs m) hb4 Tryd.underlying66 rfl (by rw [hmz]; kernel_rfl)) rfl ⟨by rw [HM.out], ?_⟩
  rw [← HG.out]
  exact (HI.out.2.2.2.trans (HE.out.mono (by have := HI.out.2.2.2.size; rw [← HG.out] at this; exact this))).grown hg4 (by have := HI.out.2.2.1.lt; have := HE.out.size; omega) (by intro k hk; injection hk with hk; omega)

set_option maxRecDepth 100000 in
set_option maxHeartbeats 1000000 in
theorem refDer_any (key : List UInt8) (s : ByteArray) (n : Nat) (w : World) (hk : key.length = 32) (hs : s.size ≤ 900000) (hn : n < 18446744073709551616) :
    Calls Tryd.prog 30 #[.agg (bvs key), .string s, .int .u64 (n : Int)] w fun e w' => e = .returned (.agg (bvs (derF key (sb s) n))) ∧ Below w.heap.size w w' := by
  have hbz : (bvs key).size = 32 := by rw [bvs_size]; exact hk
  obtain ⟨m, hm⟩ : ∃ m, m = derF key (sb s) n := ⟨_, rfl⟩
  have hml : m.length = 32 := by rw [hm]; exact derF_length _ _ _
  have hmz : (bvs m).size = 32 := by rw [bvs_size]; exact hml
  have HM := Lib.hid hm
  rw [← hm]
  clear hm
  go_enter Tryd.func30, Tryd.ntmps30
  go_wp2_with (refine wpList_load_blk rfl 23 (.tmp 3) rfl w.heap.size 23 (bvs key) rfl ((Blk.new w _ _).alloc _) Tryd.underlying23 rfl (by rw [hbz]; kernel_rfl) ?_)
  refine wp_abs (fun W => ∃ g, g = w.heap.size ∧ Blk W g 23 (bvs key) ∧ Blk W (g + 1) 23 (bvs (List.replicate 32 0)) ∧ Below g w W) ⟨_, rfl, ?_, ?_, ?_⟩ ?_
  · exact (Blk.new w _ _).alloc _
  · exact Blk.new' (w := w.alloc _) (by simp) _ _
  · exact ((Below.refl w.heap.size w).alloc (Nat.le_refl _) _).alloc (by simp) _
  rintro W0 ⟨g, hg, hI⟩
  rw [← hg]
  have HI := Lib.hid hI
  have HG := Lib.hid hg
  clear hI hg
  refine wp_region_tail 7 [.eq (.agg (bvs key)), .eq (.string s), .eq (.string (s ++ ByteArray.mk #[0])), .eq (.int .u64 (n : Int)), .eq (.string (bs (le8 n))), .eq (.string ((s ++ ByteArray.mk #[0]) ++ bs (le8 n))), .eq (.agg (bvs m))] (by kernel_rfl) (by kernel_rfl) (by kernel_rfl) (by kernel_rfl) rfl (by decide) (by kernel_rfl) _ (fun f => by simp only [framedL, Act.put, List.setIfInBounds_toArray, List.set_cons_zero, List.set_cons_succ, Nat.reduceAdd]; rfl) ⟨?_, ?_, ?_, ?_, ?_, ?_, ?_, trivial⟩ ?_
  · exact oweAs_load 23 (.tmp 3) rfl (g) 23 (bvs key) (fun _ => rfl) (HI.out.1) Tryd.underlying23 rfl (by rw [bvs_size, hk]; kernel_rfl) rfl rfl
  · refine oweAs_pure ((.string s)) rfl (fun f W hE hd => ?_) (fun W hE => rfl)
    go_simp
  · refine oweAs_pure ((.string (s ++ ByteArray.mk #[0]))) rfl (fun f W hE hd => ?_) (fun W hE => rfl)
    simp only [DepAs, Region.binds, asAt, As.holds, and_true, forall_const] at hd
    have h2 : s.size + 1 ≤ 9223372036854775807 := by omega
    go_simp
  · refine oweAs_pure ((.int .u64 (n : Int))) rfl (fun f W hE hd => ?_) (fun W hE => rfl)
    go_simp
  · refine oweAs_call 48 rfl (fun f W hE hd => ?_)
    simp only [DepAs, Region.binds, asAt, As.holds, and_true, forall_const] at hd
    refine ⟨_, by (go_simp; first | exact rfl | exact ⟨rfl, rfl⟩), ?_⟩
    refine (number_any n W hn).mono ?_
    rintro e w' ⟨rfl, hb⟩
    exact ⟨_, rfl, rfl, hb⟩
  · refine oweAs_pure ((.string ((s ++ ByteArray.mk #[0]) ++ bs (le8 n)))) rfl (fun f W hE hd => ?_) (fun W hE => rfl)
    simp only [DepAs, Region.binds, asAt, As.holds, and_true, forall_const] at hd
    have h0 : (ByteArray.mk #[0]).size = 1 := rfl
    have h1 : (s ++ ByteArray.mk #[0]).size + (bs (le8 n)).size ≤ 9223372036854775807 := by
      rw [sz_append, bs_size, le8_length]; omega
    rw [sz_append, h0] at h1
    clear h0
    go_simp
  · refine oweAs_call 29 rfl (fun f W hE hd => ?_)
    simp only [DepAs, Region.binds, asAt, As.holds, and_true, forall_const] at hd
    refine ⟨_, by (go_simp; first | exact rfl | exact ⟨rfl, rfl⟩), ?_⟩
    have h0 : (ByteArray.mk #[0]).size = 1 := rfl
    have h1 : ((s ++ ByteArray.mk #[0]) ++ bs (le8 n)).size = s.size + 9 := by rw [sz_append, sz_append, bs_size, le8_length]; omega
    refine (refOf3_any key _ W hk (by omega)).mono ?_
    rintro e w' ⟨rfl, hb⟩
    exact ⟨_, rfl, by (show (_ : Value) = _; rw [sb_append, sb_append, sb_bs, HM.out]; rfl), hb⟩
  intro f W hE hA
  simp only [AllAs, As.holds, Nat.reduceAdd] at hA
  obtain ⟨-, -, -, -, -, -, hA6, -⟩ := hA
  simp only [List.drop_succ_cons, List.drop_zero]
  rw [hA6]
  have HE := Lib.hid hE
  clear hE hA6
  go_wp2_with (refine wpList_store_blk rfl 23 (.tmp 6) (.tmp 13) rfl (g + 1) 23 _ (bvs m) rfl rfl (HI.out.2.1.below HE.out HI.out.2.1.lt) (by rw [hmz]; rfl) (by rw [hmz]; kernel_rfl) (bvs_one _) ?_
               intro w4 hb4 hg4 hz4)
  refine bodyPost_ret (results_cell Tryd.results30 rfl (t := 23) (g := g + 1) (cs := bvs m) hb4 Tryd.underlying23 rfl (by rw [hmz]; kernel_rfl)) rfl ⟨rfl, ?_⟩
  rw [← HG.out]
  exact (HI.out.2.2.trans (HE.out.mono (by have := HI.out.2.2.size; rw [← HG.out] at this; exact this))).grown hg4 (by have := HI.out.2.1.lt; have := HE.out.size; omega) (by intro k hk; injection hk with hk; omega)
end Go.Proofs.YtlkhbfafednegaaDoor
