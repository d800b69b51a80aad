/-
  A side takes a frame.
-/
import Derived.Test.YtlkhbfafednegaaDoorSn3
import Derived.Test.YtlkhbfafednegaaDoorSn4
import Derived.Test.YtlkhbfafednegaaDoorCd3
import Derived.Test.YtlkhbfafednegaaDoorGA
import Derived.Test.YtlkhbfafednegaaDoorGB
import Derived.Sort.CutIn
import Derived.RegionTactic
namespace Go.Proofs.YtlkhbfafednegaaDoor
open Go Go.RowKit
set_option linter.unusedSimpArgs false
set_option linter.unusedVariables false

set_option maxRecDepth 100000 in
theorem sesTake_nil (v : Value) (w : World) : Calls Tryd.prog 10 #[.pointer none, v] w fun e w' => e = .returned (.tuple #[.slice none 0 0, .int .i64 1]) ∧ w = w' := by
  go_enter Tryd.func10, Tryd.ntmps10
  go_wp2_with fail
  refine bodyPost_ret (results_tmp2 rfl _ _ _) rfl ?_
  exact ⟨rfl, rfl⟩
theorem u64_lift {n : Nat} (h : n < 18446744073709551616) : (UInt64.ofNat n).toNat = n := by simp [UInt64.toNat_ofNat', Nat.mod_eq_of_lt h]

set_option maxRecDepth 100000 in
set_option maxHeartbeats 4000000 in
theorem sesTake_any (g : Nat) (k : List UInt8) (s o n : Nat) (t b : UInt64) (v : Value) (l : List UInt8) (w : World) (hT : Tab w) (h0 : 0 < w.heap.size) (hS : Ses w g k (s : Int) (o : Int) n t b) (hk : k.length = 32) (hv : HB w v l) (hl : l.length ≤ 900000) (hs : s < 64) (ho : o < 64) :
    Calls Tryd.prog 10 #[.pointer (some ⟨g, 0, none⟩), v] w fun e w' => ∃ v', e = .returned (.tuple #[v', .int .i64 ((takeG k s o t b l).1 : Int)]) ∧ w'.ownsRow w.heap.size 5 1 v' (takeG k s o t b l).2.1.length ((takeG k s o t b l).2.1.map bcv) ∧ Ses w' g k (s : Int) (o : Int) n (takeG k s o t b l).2.2.1 (takeG k s o t b l).2.2.2 ∧ w.grownBy w' (some g) := by
  obtain ⟨p, c, rfl, hlc, hcm⟩ := hv.form
  have hgl := hS.lt
  have HS0 := Lib.hid hS
  have HV0 := Lib.hid hv
  have HT := Lib.hid (And.intro hT h0)
  unfold maxLen at hcm
  clear hS hT h0
  by_cases h32 : l.length < 32
  · have HG : Hid (takeG k s o t b l = (20, [], t, b)) := Lib.hid (takeG_short h32)
    have hneg : (l.length : Int) - 32 < 0 := by omega
    have hwr : IntKind.i64.wrap ((l.length : Int) - 32) = (l.length : Int) - 32 := by rw [IntKind.wrap_i64]; omega
    clear hv
    go_enter Tryd.func10, Tryd.ntmps10
    go_upto_region 4 with (fail)
    refine wp_region_as (ys := [.eq (.int .i64 ((l.length : Int) - 32)), .eq (.bool true), .eq (.bool true), .any, .any, .any, .any, .any, .any, .any, .any, .any, .any, .any, .any, .any, .eq (.bool true)]) (by kernel_rfl) (by kernel_rfl) (by kernel_rfl) (by kernel_rfl) rfl _ (fun f => by simp only [framedL, Act.put, List.setIfInBounds_toArray, List.set_cons_zero, List.set_cons_succ, Nat.reduceAdd]; rfl) ⟨?_, ?_, ?_, ?_, ?_, ?_, ?_, ?_, ?_, ?_, ?_, ?_, ?_, ?_, ?_, ?_, ?_, trivial⟩ ?_
    · refine oweAs_pure ((.int .i64 ((l.length : Int) - 32))) rfl (fun f W hE hd => ?_) (fun W hE => rfl)
      go_simp
    · refine oweAs_pure ((.bool true)) rfl (fun f W hE hd => ?_) (fun W hE => rfl)
      simp only [DepAs, Region.binds, asAt, As.holds, and_true, forall_const] at hd
      go_simp
    · refine oweAs_pure ((.bool true)) rfl (fun f W hE hd => ?_) (fun W hE => rfl)
      simp only [DepAs, Region.binds, asAt, As.holds, and_true, forall_const] at hd
      go_simp
    · exact oweAs_skip rfl (fun _ => trivial)
    · exact oweAs_skip rfl (fun _ => trivial)
    · exact oweAs_skip rfl (fun _ => trivial)
    · exact oweAs_skip rfl (fun _ => trivial)
    · exact oweAs_skip rfl (fun _ => trivial)
    · exact oweAs_skip rfl (fun _ => trivial)
    · exact oweAs_skip rfl (fun _ => trivial)
    · exact oweAs_skip rfl (fun _ => trivial)
    · exact oweAs_skip rfl (fun _ => trivial)
    · exact oweAs_skip rfl (fun _ => trivial)
    · exact oweAs_skip rfl (fun _ => trivial)
    · exact oweAs_skip rfl (fun _ => trivial)
    · exact oweAs_skip rfl (fun _ => trivial)
    · refine oweAs_pure ((.bool true)) rfl (fun f W hE hd => ?_) (fun W hE => rfl)
      simp only [DepAs, Region.binds, asAt, As.holds, and_true, forall_const] at hd
      go_simp
    intro f W hE hA
    simp only [AllAs, As.holds, Nat.reduceAdd] at hA
    obtain ⟨-, -, -, -, -, -, -, -, -, -, -, -, -, -, -, -, hA16, -⟩ := hA
    rw [hA16]
    have HE := Lib.hid hE
    clear hE
    go_wp2_with fail
    refine bodyPost_ret (results_tmp2 rfl _ _ _) rfl ?_
    rw [HG.out]
    exact ⟨_, rfl, World.ownsRow_nil _ _ _ _, HS0.out.below HE.out hgl, Only.below (World.grownBy.refl w (some g)) HE.out (Nat.le_refl _)⟩
  obtain ⟨b0, o0, rfl, -⟩ := hv.at_ (at8_get (l := l) (i := 0) (by omega))
  clear hv
  obtain ⟨L, hL⟩ : ∃ L, L = l.length := ⟨_, rfl⟩
  obtain ⟨en, hen⟩ : ∃ en, en = L - 32 := ⟨_, rfl⟩
  have hLe : L = en + 32 := by omega
  have HLL := Lib.hid hL
  rw [← hL] at HV0 hlc hl ⊢
  have hei : (L : Int) - 32 = (en : Int) := by omega
  have hwr : IntKind.i64.wrap ((en : Nat) : Int) = (en : Int) := by rw [IntKind.wrap_i64]; omega
  have hen0 : ¬ (en : Int) < 0 := by omega
  obtain ⟨S, hS⟩ : ∃ S, S = l.take en := ⟨_, rfl⟩
  obtain ⟨y, hy⟩ : ∃ y, y = l.drop en := ⟨_, rfl⟩
  have hSl : S.length = en := by rw [hS, List.length_take]; omega
  have hyl : y.length = 32 := by rw [hy, List.length_drop]; omega
  have HSY : Hid (S = l.take (l.length - 32) ∧ y = l.drop (l.length - 32)) := Lib.hid ⟨by rw [hS, hen, hL], by rw [hy, hen, hL]⟩
  obtain ⟨x, hx⟩ : ∃ x, x = macF k S := ⟨_, rfl⟩
  have hxl : x.length = 32 := by rw [hx]; exact macF_length _ _
  have HX := Lib.hid hx
  have HBT : Hid (HB w (.slice (some ⟨b0, o0, none⟩) en en) S) := Lib.hid (by
    have h := HV0.out.sub 0 en en (Nat.zero_le _) (by omega) (Nat.le_refl _) (by omega)
    by_cases he0 : en = 0
    · rw [hS]
      rw [if_pos (by omega)] at h
      simpa [Addr.add] using h
    · rw [if_neg (by omega)] at h
      rw [hS]
      simpa [Addr.add] using h)
  have HBD : Hid (HB w (.slice (some ⟨b0, o0 + en, none⟩) 32 (c - en)) y) := Lib.hid (by
    have h := HV0.out.drop (k := en) (by omega)
    rw [if_neg (by omega)] at h
    simp only [Option.map_some, addi] at h
    rw [show L - en = 32 by omega, ← hy] at h
    exact h)
  have HGR : Hid (¬ l.length < 32) := Lib.hid h32
  have HLE := Lib.hid (And.intro hLe hen)
  have henL : (en : Int) ≤ (L : Int) := by omega
  have henc : (en : Int) ≤ (c : Int) := by omega
  have hlen : ¬ L < en := by omega
  have hcen : ¬ c < en := by omega
  have hcne : ¬ c = en := by omega
  have h32e : L - en = 32 := by omega
  have hcl : (L : Int) ≤ (c : Int) := by omega
  clear hL hS hy hx h32 hLe hen
  go_enter Tryd.func10, Tryd.ntmps10
  go_upto_region 4 with (fail)
  obtain ⟨B, hB⟩ : ∃ B, B = (x == y) := ⟨_, rfl⟩
  have HBB := Lib.hid hB
  clear hB
  refine wp_region_as (ys := [.eq (.int .i64 (en : Int)), .eq (.bool false), .eq (.bool false), .eq (.pointer (some ⟨g, 0, none⟩)), .eq (.slice (some ⟨b0, o0, none⟩) L c), .eq (.int .i64 (en : Int)), .eq (.int .i64 (en : Int)), .eq (.slice (some ⟨b0, o0, none⟩) en en), .eq (.agg (bvs x)), .eq (.slice (some ⟨b0, o0, none⟩) L c), .eq (.int .i64 (en : Int)), .eq (.slice (some ⟨b0, o0 + en, none⟩) 32 (c - en)), .eq (.pointer (some ⟨b0, o0 + en, none⟩)), .eq (.agg (bvs y)), .eq (.bool B), .eq (.bool (!B)), .eq (.bool (!B))]) (by kernel_rfl) (by kernel_rfl) (by kernel_rfl) (by kernel_rfl) rfl _ (fun f => by simp only [framedL, Act.put, List.setIfInBounds_toArray, List.set_cons_zero, List.set_cons_succ, Nat.reduceAdd]; rfl) ⟨?_, ?_, ?_, ?_, ?_, ?_, ?_, ?_, ?_, ?_, ?_, ?_, ?_, ?_, ?_, ?_, ?_, trivial⟩ ?_
  · refine oweAs_pure ((.int .i64 (en : Int))) rfl (fun f W hE hd => ?_) (fun W hE => rfl)
    go_simp
  · refine oweAs_pure ((.bool false)) rfl (fun f W hE hd => ?_) (fun W hE => rfl)
    simp only [DepAs, Region.binds, asAt, As.holds, and_true, forall_const] at hd
    go_simp
  · refine oweAs_pure ((.bool false)) rfl (fun f W hE hd => ?_) (fun W hE => rfl)
    simp only [DepAs, Region.binds, asAt, As.holds, and_true, forall_const] at hd
    go_simp
  · refine oweAs_pure ((.pointer (some ⟨g, 0, none⟩))) rfl (fun f W hE hd => ?_) (fun W hE => rfl)
    go_simp
  · refine oweAs_pure ((.slice (some ⟨b0, o0, none⟩) L c)) rfl (fun f W hE hd => ?_) (fun W hE => rfl)
    go_simp
  · refine oweAs_pure ((.int .i64 (en : Int))) rfl (fun f W hE hd => ?_) (fun W hE => rfl)
    go_simp
  · refine oweAs_pure ((.int .i64 (en : Int))) rfl (fun f W hE hd => ?_) (fun W hE => rfl)
    go_simp
  · refine oweAs_pure ((.slice (some ⟨b0, o0, none⟩) en en)) rfl (fun f W hE hd => ?_) (fun W hE => rfl)
    simp only [DepAs, Region.binds, asAt, As.holds, and_true, forall_const] at hd
    have hce : ¬ c < en := hcen
    go_simp
  · refine oweAs_call 22 rfl (fun f W hE hd => ?_)
    simp only [DepAs, Region.binds, asAt, As.holds, and_true, forall_const] at hd
    refine ⟨_, by (go_simp; first | exact rfl | exact ⟨rfl, rfl⟩), ?_⟩
    refine (says_any g k (s : Int) (o : Int) n t b _ S W (HT.out.1.below hE HT.out.2) (Nat.lt_of_lt_of_le HT.out.2 hE.size) (HS0.out.below hE hgl) hk (HBT.out.keep hE) (by omega)).mono ?_
    rintro e w' ⟨rfl, hb⟩
    exact ⟨_, rfl, by (show (_ : Value) = _; rw [HX.out]), hb⟩
  · refine oweAs_pure ((.slice (some ⟨b0, o0, none⟩) L c)) rfl (fun f W hE hd => ?_) (fun W hE => rfl)
    go_simp
  · refine oweAs_pure ((.int .i64 (en : Int))) rfl (fun f W hE hd => ?_) (fun W hE => rfl)
    go_simp
  · refine oweAs_pure ((.slice (some ⟨b0, o0 + en, none⟩) 32 (c - en))) rfl (fun f W hE hd => ?_) (fun W hE => rfl)
    simp only [DepAs, Region.binds, asAt, As.holds, and_true, forall_const] at hd
    have hce : ¬ c = en := hcne
    go_simp
  · refine oweAs_pure ((.pointer (some ⟨b0, o0 + en, none⟩))) rfl (fun f W hE hd => ?_) (fun W hE => rfl)
    simp only [DepAs, Region.binds, asAt, As.holds, and_true, forall_const] at hd
    have har := run_arrayAt (P := Tryd.prog) Tryd.underlying66 ⟨b0, o0 + en, none⟩ 32 (c - en) (by omega) W
    go_simp
  · exact oweAs_load_mid 66 (.tmp 31) rfl y rfl rfl Tryd.underlying66 rfl (by rw [hyl]; kernel_rfl) (fun f W hE hd => by (simp only [DepAs, Region.binds, asAt, As.holds, and_true, forall_const] at hd; exact ⟨b0, o0 + en, by go_simp, (HBD.out.keep hE).range⟩))
  · refine oweAs_call 23 rfl (fun f W hE hd => ?_)
    simp only [DepAs, Region.binds, asAt, As.holds, and_true, forall_const] at hd
    refine ⟨_, by (go_simp; first | exact rfl | exact ⟨rfl, rfl⟩), ?_⟩
    refine (same_any x y W hxl hyl).mono ?_
    rintro e w' ⟨rfl, hb⟩
    exact ⟨_, rfl, by (show (_ : Value) = _; rw [HBB.out]), hb⟩
  · refine oweAs_pure ((.bool (!B))) rfl (fun f W hE hd => ?_) (fun W hE => rfl)
    simp only [DepAs, Region.binds, asAt, As.holds, and_true, forall_const] at hd
    go_simp
  · refine oweAs_pure ((.bool (!B))) rfl (fun f W hE hd => ?_) (fun W hE => rfl)
    simp only [DepAs, Region.binds, asAt, As.holds, and_true, forall_const] at hd
    go_simp
  intro f W hE hA
  simp only [AllAs, As.holds, Nat.reduceAdd] at hA
  obtain ⟨-, -, -, -, -, -, -, -, -, -, -, -, -, -, -, -, hA16, -⟩ := hA
  rw [hA16]
  obtain ⟨W4, hW4⟩ : ∃ W4, W4 = W := ⟨_, rfl⟩
  subst hW4
  have HE := Lib.hid hE
  have hz4 := hE.size
  have HE4 : Hid (HB W4 (.slice (some ⟨b0, o0, none⟩) en en) S ∧ Ses W4 g k (s : Int) (o : Int) n t b) := Lib.hid ⟨HBT.out.keep hE, HS0.out.below hE hgl⟩
  clear hE hA16
  cases B with
  | false =>
    have HG : Hid (takeG k s o t b l = (20, [], t, b)) := Lib.hid (takeG_mac HGR.out (by rw [← HSY.out.1, ← HSY.out.2, ← HX.out]; exact fun h => by have := HBB.out; rw [h] at this; simp at this))
    go_wp2_with fail
    refine bodyPost_ret (results_tmp2 rfl _ _ _) rfl ?_
    rw [HG.out]
    exact ⟨_, rfl, World.ownsRow_nil _ _ _ _, HE4.out.2, Only.below (World.grownBy.refl w (some g)) HE.out (Nat.le_refl _)⟩
  | true =>
    have hxy : x = y := by have := HBB.out.symm; simpa using this
    have HG := Lib.hid (takeG_read (dk := k) (self := s) (other := o) (t := t) (b := b) (f := l) HGR.out (by rw [← HSY.out.1, ← HSY.out.2, ← HX.out]; exact hxy))
    rw [← HSY.out.1] at HG
    clear hxy
    obtain ⟨s1, hs1⟩ : ∃ s1, s1 = (uintR (S, 0)).2 := ⟨_, rfl⟩
    obtain ⟨s2, hs2⟩ : ∃ s2, s2 = (uintR s1).2 := ⟨_, rfl⟩
    obtain ⟨s3, hs3⟩ : ∃ s3, s3 = (uintR s2).2 := ⟨_, rfl⟩
    obtain ⟨s4, hs4⟩ : ∃ s4, s4 = (bytesR 1052672 s3).2 := ⟨_, rfl⟩
    obtain ⟨n1, hn1⟩ : ∃ n1, n1 = (uintR (S, 0)).1 := ⟨_, rfl⟩
    obtain ⟨n2, hn2⟩ : ∃ n2, n2 = (uintR s1).1 := ⟨_, rfl⟩
    obtain ⟨n3, hn3⟩ : ∃ n3, n3 = (uintR s2).1 := ⟨_, rfl⟩
    obtain ⟨X, hX⟩ : ∃ X, X = (bytesR 1052672 s3).1 := ⟨_, rfl⟩
    obtain ⟨ec, hec⟩ : ∃ ec, ec = endR s4 := ⟨_, rfl⟩
    have hRG : readG S = (n1, n2, n3, X, ec) := by rw [hn1, hn2, hn3, hX, hec, hs4, hs3, hs2, hs1]; rfl
    rw [hRG] at HG
    have hn1b : n1 < 18446744073709551616 := by rw [hn1]; exact uintR_lt _
    have hn2b : n2 < 18446744073709551616 := by rw [hn2]; exact uintR_lt _
    have hn3b : n3 < 18446744073709551616 := by rw [hn3]; exact uintR_lt _
    have HF := Lib.hid (And.intro hs1 (And.intro hs2 (And.intro hs3 (And.intro hs4 (And.intro hn1 (And.intro hn2 (And.intro hn3 (And.intro hX hec))))))))
    clear hs1 hs2 hs3 hs4 hn1 hn2 hn3 hX hec hRG
    go_wp2_with fail
    refine (newReader_any _ S W4 HE4.out.1 (by omega)).mono ?_
    rintro e w5 ⟨r, rfl, hr5, hb5, hrd5⟩
    have hgr : g ≠ r := by have := HE.out.size; omega
    have hwr5 : w.heap.size ≤ r := by omega
    have HI5 : Hid (RdS w5 r (S, 0) ∧ Ses w5 g k (s : Int) (o : Int) n t b ∧ Below w.heap.size w w5) := Lib.hid ⟨hrd5, HE4.out.2.below hb5 (by omega), HE.out.trans (hb5.mono hz4)⟩
    clear hr5 hb5 hrd5 HE4
    go_wp2_with fail
    refine (rdUint_any r (S, 0) w5 HI5.out.1).mono ?_
    rintro e w6 ⟨rfl, hg6, hr6⟩
    rw [← HF.out.1] at hr6
    rw [← HF.out.2.2.2.2.1]
    have HI6 : Hid (RdS w6 r s1 ∧ Ses w6 g k (s : Int) (o : Int) n t b ∧ Below w.heap.size w w6) := Lib.hid ⟨hr6, HI5.out.2.1.grown hg6 (fun e => by injection e with e; first | exact hgr e | exact hgr e.symm), HI5.out.2.2.grown hg6 HI5.out.2.2.size (fun j hj => by injection hj with hj; omega)⟩
    clear hg6 hr6 HI5
    go_wp2_with fail
    refine (rdUint_any r s1 w6 HI6.out.1).mono ?_
    rintro e w7 ⟨rfl, hg7, hr7⟩
    rw [← HF.out.2.1] at hr7
    rw [← HF.out.2.2.2.2.2.1]
    have HI7 : Hid (RdS w7 r s2 ∧ Ses w7 g k (s : Int) (o : Int) n t b ∧ Below w.heap.size w w7) := Lib.hid ⟨hr7, HI6.out.2.1.grown hg7 (fun e => by injection e with e; first | exact hgr e | exact hgr e.symm), HI6.out.2.2.grown hg7 HI6.out.2.2.size (fun j hj => by injection hj with hj; omega)⟩
    clear hg7 hr7 HI6
    go_wp2_with fail
    refine (rdUint_any r s2 w7 HI7.out.1).mono ?_
    rintro e w8 ⟨rfl, hg8, hr8⟩
    rw [← HF.out.2.2.1] at hr8
    rw [← HF.out.2.2.2.2.2.2.1]
    have HI8 : Hid (RdS w8 r s3 ∧ Ses w8 g k (s : Int) (o : Int) n t b ∧ Below w.heap.size w w8) := Lib.hid ⟨hr8, HI7.out.2.1.grown hg8 (fun e => by injection e with e; first | exact hgr e | exact hgr e.symm), HI7.out.2.2.grown hg8 HI7.out.2.2.size (fun j hj => by injection hj with hj; omega)⟩
    clear hg8 hr8 HI7
    go_wp2_with fail
    refine (rdBytes_any r 1052672 s3 w8 HI8.out.1 (by omega)).mono ?_
    rintro e w9 ⟨v9, rfl, hg9, hr9, ho9⟩
    rw [← HF.out.2.2.2.1] at hr9
    rw [← HF.out.2.2.2.2.2.2.2.1] at ho9
    have HI9 : Hid (RdS w9 r s4 ∧ Ses w9 g k (s : Int) (o : Int) n t b ∧ Below w.heap.size w w9 ∧ w9.ownsRow w.heap.size 5 1 v9 X.length (X.map bcv)) := Lib.hid ⟨hr9, HI8.out.2.1.grown hg9 (fun e => by injection e with e; first | exact hgr e | exact hgr e.symm), HI8.out.2.2.grown hg9 HI8.out.2.2.size (fun j hj => by injection hj with hj; omega), own_base ho9 HI8.out.2.2.size⟩
    clear hg9 hr9 ho9 HI8
    go_wp2_with fail
    refine (rdEnd_any r s4 w9 HI9.out.1).mono ?_
    rintro e w10 ⟨rfl, hb10⟩
    rw [← HF.out.2.2.2.2.2.2.2.2]
    have HI10 : Hid (Ses w10 g k (s : Int) (o : Int) n t b ∧ Below w.heap.size w w10 ∧ w10.ownsRow w.heap.size 5 1 v9 X.length (X.map bcv)) := Lib.hid ⟨HI9.out.2.1.below hb10 HI9.out.2.1.lt, HI9.out.2.2.1.trans (hb10.mono HI9.out.2.2.1.size), own_below HI9.out.2.2.2 hb10⟩
    clear hb10 HI9 HF
    obtain ⟨q32, q33, -, -, -⟩ := HI10.out.1.cells hk
    by_cases he0 : ec = 0
    · subst he0
      rw [show ((0 : Nat) : Int) = 0 from rfl]
      by_cases hfr : n2 = o
      · by_cases hto : n3 = s
        · have hfi : (n2 : Int) = (o : Int) := by omega
          have hti : (n3 : Int) = (s : Int) := by omega
          have HU := Lib.hid (u64_lift hn1b)
          go_wp2_with fail
          rw [show ((n1 : Nat) : Int) = ((UInt64.ofNat n1).toNat : Int) by rw [HU.out]]
          obtain ⟨u, hu⟩ : ∃ u, u = UInt64.ofNat n1 := ⟨_, rfl⟩
          rw [← hu] at HG ⊢
          clear hu HU
          have HG1 : Hid (takeG k s o t b l = if seenF t b u = true then (22, [], t, b) else (0, X, withF t b u)) := Lib.hid (by
            rw [HG.out]
            simp only [ne_eq, not_true_eq_false, ↓reduceIte, hfr, hto, or_self])
          cases hsn : seenF t b u with
          | true =>
            have HG2 : Hid (takeG k s o t b l = (22, [], t, b)) := Lib.hid (by rw [HG1.out, if_pos hsn])
            refine (takeW_old g k (s : Int) (o : Int) n t b u w10 HI10.out.1 hk hsn).mono ?_
            rintro e w11 ⟨rfl, hb11⟩
            have HI11 : Hid (Ses w11 g k (s : Int) (o : Int) n t b ∧ Below w.heap.size w w11) := Lib.hid ⟨HI10.out.1.below hb11 HI10.out.1.lt, HI10.out.2.1.trans (hb11.mono HI10.out.2.1.size)⟩
            clear hb11 hsn
            go_wp2_with fail
            refine bodyPost_ret (results_tmp2 rfl _ _ _) rfl ?_
            rw [HG2.out]
            exact ⟨_, rfl, World.ownsRow_nil _ _ _ _, HI11.out.1, Only.below (World.grownBy.refl w (some g)) HI11.out.2 (Nat.le_refl _)⟩
          | false =>
            have HG2 : Hid (takeG k s o t b l = (0, X, withF t b u)) := Lib.hid (by rw [HG1.out, if_neg (by rw [hsn]; simp)])
            refine (takeW_new g k (s : Int) (o : Int) n t b u w10 HI10.out.1 hk hsn).mono ?_
            rintro e w11 ⟨rfl, hg11, hs11⟩
            have HI11 : Hid (Ses w11 g k (s : Int) (o : Int) n (withF t b u).1 (withF t b u).2 ∧ w.grownBy w11 (some g) ∧ w11.ownsRow w.heap.size 5 1 v9 X.length (X.map bcv)) := Lib.hid ⟨hs11, Only.trans (Only.below (World.grownBy.refl w (some g)) HI10.out.2.1 (Nat.le_refl _)) hg11 (fun j hj => by injection hj with hj; exact .inl hj.symm), HI10.out.2.2.kept hg11 (.inr (fun e => own_ne_blk HI10.out.2.2 HI10.out.1 (by decide) e.symm))⟩
            clear hg11 hs11 hsn
            go_wp2_with fail
            refine bodyPost_ret (results_tmp2 rfl _ _ _) rfl ?_
            rw [HG2.out]
            exact ⟨_, rfl, HI11.out.2.2, HI11.out.1, HI11.out.2.1⟩
        · have HG2 : Hid (takeG k s o t b l = (1, [], t, b)) := Lib.hid (by rw [HG.out]; simp only [ne_eq, not_true_eq_false, ↓reduceIte]; rw [if_pos (.inr hto)])
          have hfi : (n2 : Int) = (o : Int) := by omega
          have hti : ¬ (n3 : Int) = (s : Int) := by omega
          go_wp2_with fail
          refine bodyPost_ret (results_tmp2 rfl _ _ _) rfl ?_
          rw [HG2.out]
          exact ⟨_, rfl, World.ownsRow_nil _ _ _ _, HI10.out.1, Only.below (World.grownBy.refl w (some g)) HI10.out.2.1 (Nat.le_refl _)⟩
      · have HG2 : Hid (takeG k s o t b l = (1, [], t, b)) := Lib.hid (by rw [HG.out]; simp only [ne_eq, not_true_eq_false, ↓reduceIte]; rw [if_pos (.inl hfr)])
        have hfi : ¬ (n2 : Int) = (o : Int) := by omega
        go_wp2_with fail
        refine bodyPost_ret (results_tmp2 rfl _ _ _) rfl ?_
        rw [HG2.out]
        exact ⟨_, rfl, World.ownsRow_nil _ _ _ _, HI10.out.1, Only.below (World.grownBy.refl w (some g)) HI10.out.2.1 (Nat.le_refl _)⟩
    · have HG2 : Hid (takeG k s o t b l = (ec, [], t, b)) := Lib.hid (by rw [HG.out]; rw [if_pos he0])
      have hei0 : ¬ (ec : Int) = 0 := by omega
      go_wp2_with fail
      refine bodyPost_ret (results_tmp2 rfl _ _ _) rfl ?_
      rw [HG2.out]
      exact ⟨_, rfl, World.ownsRow_nil _ _ _ _, HI10.out.1, Only.below (World.grownBy.refl w (some g)) HI10.out.2.1 (Nat.le_refl _)⟩
end Go.Proofs.YtlkhbfafednegaaDoor
