/-
  The walk of the reference's Seal.
-/
import Derived.Test.YtbicdobnnanlkaaDoorSe6
namespace Go.Proofs.YtbicdobnnanlkaaDoor
open Go Go.RowKit
set_option linter.unusedSimpArgs false
set_option linter.unusedVariables false

theorem bs_append (a b : List UInt8) : bs a ++ bs b = bs (a ++ b) := by
  have h : sb (bs a ++ bs b) = sb (bs (a ++ b)) := by rw [sb_append, sb_bs, sb_bs, sb_bs]
  rw [← bs_sb (bs a ++ bs b), h, bs_sb]

set_option maxRecDepth 100000 in
set_option maxHeartbeats 2000000 in
theorem refSeal_any (key : List UInt8) (kind : UInt8) (n : Nat) (s : ByteArray) (w : World) (hk : key.length = 32) (hn : n < 18446744073709551616) (hs : s.size ≤ 60000) :
    Calls Tryd.prog 10 #[.agg (bvs key), .int .u8 (kind.toNat : Int), .int .u64 (n : Int), .string s] w fun e w' => e = .returned (.tuple #[.string (bs (sealS key kind n (sb s))), .int .i64 0]) ∧ Below w.heap.size w w' := by
  have hbz : (bvs key).size = 32 := by rw [bvs_size]; exact hk
  have hkd := kind.toNat_lt
  obtain ⟨hide, hh⟩ : ∃ m, m = hideK key kind := ⟨_, rfl⟩
  have hhl : hide.length = 32 := by rw [hh]; exact hideK_length _ _
  obtain ⟨vouch, hvo⟩ : ∃ n, n = vouchK key kind := ⟨_, rfl⟩
  have hvl : vouch.length = 32 := by rw [hvo]; exact vouchK_length _ _
  have hvz : (bvs vouch).size = 32 := by rw [bvs_size]; exact hvl
  obtain ⟨q, hq⟩ : ∃ q, q = le8 n := ⟨_, rfl⟩
  have hql : q.length = 8 := by rw [hq]; exact le8_length _
  have hqs : (bs q).size = 8 := by rw [bs_size]; exact hql
  obtain ⟨z, hz⟩ : ∃ z, z = nonceS q := ⟨_, rfl⟩
  have hzl : z.length = 12 := by rw [hz]; exact nonceS_length (by omega)
  obtain ⟨o, ho⟩ : ∃ o, o = overS hide z (sb s) := ⟨_, rfl⟩
  have hol : o.length = s.size := by rw [ho, overS_length, sb_length]
  have hos : (bs o).size = s.size := by rw [bs_size]; exact hol
  obtain ⟨H, hHd⟩ : ∃ H, H = headS kind n := ⟨_, rfl⟩
  have hHl : H.length = 9 := by rw [hHd]; exact headS_length _ _
  have hHs : (bs H).size = 9 := by rw [bs_size]; exact hHl
  have hH1 : bs [kind] ++ bs q = bs H := by rw [bs_append, hHd, hq]; rfl
  obtain ⟨B, hBd⟩ : ∃ B, B = H ++ o := ⟨_, rfl⟩
  have hBl : B.length = 9 + s.size := by rw [hBd, List.length_append]; omega
  have hBs : (bs B).size = 9 + s.size := by rw [bs_size]; exact hBl
  have hB1 : bs H ++ bs o = bs B := by rw [bs_append, hBd]
  obtain ⟨m, hm⟩ : ∃ m, m = macF vouch B := ⟨_, rfl⟩
  have hml : m.length = 32 := by rw [hm]; exact macF_length _ _
  have hmz : (bvs m).size = 32 := by rw [bvs_size]; exact hml
  have hms : (bs m).size = 32 := by rw [bs_size]; exact hml
  have hR : bs B ++ bs m = bs (sealS key kind n (sb s)) := by rw [bs_append, hm, hBd, hHd, ho, hz, hq, hh, hvo]; rfl
  have HH := Lib.hid hh
  have HVO := Lib.hid hvo
  have HQ := Lib.hid hq
  have HZ := Lib.hid hz
  have HO := Lib.hid ho
  have HH1 := Lib.hid hH1
  have HB1 := Lib.hid hB1
  have HM := Lib.hid hm
  have HR := Lib.hid hR
  have HQS := Lib.hid hqs
  have HOS := Lib.hid hos
  have HHS := Lib.hid hHs
  have HBS := Lib.hid hBs
  have HMS := Lib.hid hms
  have h1s : (bs [kind]).size = 1 := by rw [bs_size]; rfl
  have H1S := Lib.hid h1s
  rw [← hR]
  clear hh hvo hq hz ho hH1 hB1 hm hR hqs hos hHd hHs hBs hBd hms h1s hol hBl
  go_enter Tryd.func10, Tryd.ntmps10
  go_wp2_with (first
    | (go_at_call 19
       refine (number_any n _ hn).mono ?_
       rintro e w1 ⟨rfl, hb1⟩
       rw [← HQ.out]
       have HI : Hid (∃ g, g = w.heap.size ∧ Blk w1 g 23 (bvs key) ∧ Below w.heap.size w w1) := Lib.hid ⟨_, rfl, (Blk.new w _ _).below hb1 (by simp), ((Below.refl w.heap.size w).alloc (Nat.le_refl _) _).trans (hb1.mono (by simp))⟩
       clear hb1))
  obtain ⟨g, hg, hI⟩ := HI.out
  rw [← hg]
  have HI0 := Lib.hid hI
  clear HI hI hg
  refine wp_region_as (ys := [.eq (.int .u8 (kind.toNat : Int)), .hb [kind], .eq (.string (bs [kind])), .eq (.string (bs q)), .eq (.string (bs H)), .eq (.agg (bvs key)), .eq (.int .u8 (kind.toNat : Int)), .eq (.int .u64 (kind.toNat : Int)), .eq (.agg (bvs hide)), .eq (.string (bs q)), .eq (.agg (bvs z)), .eq (.string s), .eq (.string (bs (o))), .eq (.string (bs B)), .eq (.string (bs B))]) (by kernel_rfl) (by kernel_rfl) (by kernel_rfl) (by kernel_rfl) rfl _ (fun f => by simp only [framedL, Act.put, List.setIfInBounds_toArray, List.set_cons_zero, List.set_cons_succ, Nat.reduceAdd]; rfl) ⟨?_, ?_, ?_, ?_, ?_, ?_, ?_, ?_, ?_, ?_, ?_, ?_, ?_, ?_, ?_, trivial⟩ ?_
  · refine oweAs_pure ((.int .u8 (kind.toNat : Int))) rfl (fun f W hE hd => ?_) (fun W hE => rfl)
    go_simp
  · refine oweAs_made rfl (fun f W hE hd => ?_)
    simp only [DepAs, Region.binds, asAt, As.holds, and_true, forall_const] at hd
    refine ⟨_, _, by (go_simp; first | exact rfl | exact ⟨rfl, rfl⟩), ?_, (Below.refl W.heap.size W).alloc (Nat.le_refl _) _⟩
    exact hb_new1 W 5 kind
  · refine oweAs_pure ((.string (bs [kind]))) rfl (fun f W hE hd => ?_) (fun W hE => rfl)
    simp only [DepAs, Region.binds, asAt, As.holds, and_true, forall_const] at hd
    have hcv := (show HB W _ [kind] from hd).str Tryd.underlying25 Tryd.underlying5 Tryd.underlying9
    go_simp
  · refine oweAs_pure ((.string (bs q))) rfl (fun f W hE hd => ?_) (fun W hE => rfl)
    go_simp
  · refine oweAs_pure ((.string (bs H))) rfl (fun f W hE hd => ?_) (fun W hE => rfl)
    simp only [DepAs, Region.binds, asAt, As.holds, and_true, forall_const] at hd
    have ha := HH1.out
    have hs1 : (bs [kind]).size + (bs q).size ≤ 9223372036854775807 := by rw [H1S.out, HQS.out]; decide
    go_simp
  · exact oweAs_load 23 (.tmp 4) rfl (g) 23 (bvs key) (fun _ => rfl) (HI0.out.1) Tryd.underlying23 rfl (by rw [bvs_size, hk]; kernel_rfl) rfl rfl
  · refine oweAs_pure ((.int .u8 (kind.toNat : Int))) rfl (fun f W hE hd => ?_) (fun W hE => rfl)
    go_simp
  · refine oweAs_pure ((.int .u64 (kind.toNat : Int))) rfl (fun f W hE hd => ?_) (fun W hE => rfl)
    simp only [DepAs, Region.binds, asAt, As.holds, and_true, forall_const] at hd
    have hw64 : IntKind.u64.wrap (kind.toNat : Int) = (kind.toNat : Int) := by rw [IntKind.wrap_u64]; omega
    go_simp
  · refine oweAs_call 21 rfl (fun f W hE hd => ?_)
    simp only [DepAs, Region.binds, asAt, As.holds, and_true, forall_const] at hd
    refine ⟨_, by (go_simp; first | exact rfl | exact ⟨rfl, rfl⟩), ?_⟩
    refine (refDer_any key ⟨#[104, 105, 100, 101]⟩ kind.toNat W hk (by decide) (by omega)).mono ?_
    rintro e w' ⟨rfl, hb⟩
    exact ⟨_, rfl, by (show (_ : Value) = _; rw [show derF key (sb ⟨#[104, 105, 100, 101]⟩) kind.toNat = hide from HH.out.symm]), hb⟩
  · refine oweAs_pure ((.string (bs q))) rfl (fun f W hE hd => ?_) (fun W hE => rfl)
    go_simp
  · refine oweAs_call 22 rfl (fun f W hE hd => ?_)
    simp only [DepAs, Region.binds, asAt, As.holds, and_true, forall_const] at hd
    refine ⟨_, by (go_simp; first | exact rfl | exact ⟨rfl, rfl⟩), ?_⟩
    refine (refNonce_any (bs q) W (by rw [HQS.out]; omega) (by rw [HQS.out]; omega)).mono ?_
    rintro e w' ⟨rfl, hb⟩
    exact ⟨_, rfl, by (show (_ : Value) = _; rw [sb_bs, HZ.out]), hb⟩
  · refine oweAs_pure ((.string s)) rfl (fun f W hE hd => ?_) (fun W hE => rfl)
    go_simp
  · refine oweAs_call 20 rfl (fun f W hE hd => ?_)
    simp only [DepAs, Region.binds, asAt, As.holds, and_true, forall_const] at hd
    refine ⟨_, by (go_simp; first | exact rfl | exact ⟨rfl, rfl⟩), ?_⟩
    refine (refOver_any hide z s W hhl hzl (by omega)).mono ?_
    rintro e w' ⟨rfl, hb⟩
    exact ⟨_, rfl, by (show (_ : Value) = _; rw [HO.out]), hb⟩
  · refine oweAs_pure ((.string (bs B))) rfl (fun f W hE hd => ?_) (fun W hE => rfl)
    simp only [DepAs, Region.binds, asAt, As.holds, and_true, forall_const] at hd
    have ha := HB1.out
    have hs1 : (bs H).size + (bs o).size ≤ 9223372036854775807 := by rw [HHS.out, HOS.out]; omega
    go_simp
  · refine oweAs_pure ((.string (bs B))) rfl (fun f W hE hd => ?_) (fun W hE => rfl)
    simp only [DepAs, Region.binds, asAt, As.holds, and_true, forall_const] at hd
    go_simp
  intro f W hE hA
  simp only [AllAs, As.holds, Nat.reduceAdd] at hA
  obtain ⟨-, -, -, -, -, -, -, -, -, -, -, -, -, -, hA14, -⟩ := hA
  rw [hA14]
  have HJ : Hid (Blk W g 23 (bvs key) ∧ Below w.heap.size w W) := Lib.hid ⟨HI0.out.1.below hE HI0.out.1.lt, HI0.out.2.trans (hE.mono HI0.out.2.size)⟩
  clear HI0 hE hA14
  go_wp2_with (first
    | (refine wpList_load_blk rfl 23 (.tmp 4) rfl g 23 (bvs key) rfl HJ.out.1 Tryd.underlying23 rfl (by rw [hbz]; kernel_rfl) ?_)
    | (go_at_call 21
       refine (refDer_any key ⟨#[118, 111, 117, 99, 104]⟩ kind.toNat _ hk (by decide) (by omega)).mono ?_
       rintro e w2 ⟨rfl, hb2⟩
       rw [show derF key (sb ⟨#[118, 111, 117, 99, 104]⟩) kind.toNat = vouch from HVO.out.symm]
       have HK : Hid (Below w.heap.size w w2) := Lib.hid (HJ.out.2.trans (hb2.mono HJ.out.2.size))
       clear hb2)
    | (go_at_call 23
       refine (refOf3_any vouch (bs B) _ hvl (by rw [HBS.out]; omega)).mono ?_
       rintro e w3 ⟨rfl, hb3⟩
       rw [sb_bs, ← HM.out]
       have HK3 : Hid (Below w.heap.size w w3) := Lib.hid (HK.out.trans (hb3.mono HK.out.size))
       clear hb3)
    | (refine wpList_store_blk rfl 34 (.tmp 12) (.tmp 37) rfl w3.heap.size 34 _ (bvs m) rfl rfl (Blk.new _ _ _) (by rw [hmz]; rfl) (by rw [hmz]; kernel_rfl) (bvs_one _) ?_
       intro w4 hb4 hg4 hz4
       have HK4 : Hid (Below w.heap.size w w4) := Lib.hid ((HK3.out.alloc HK3.out.size _).grown hg4 (by have := HK3.out.size; simp; omega) (by intro k hk; injection hk with hk; have := HK3.out.size; omega))
       have hcv := (HB.blk hb4 hml (by simp [maxLen])).str Tryd.underlying25 Tryd.underlying5 Tryd.underlying9
       have hsz : (bs B).size + (bs m).size ≤ 9223372036854775807 := by rw [HBS.out, HMS.out]; omega
       clear hb4 hg4 hz4))
  go_ret2
  exact ⟨rfl, HK4.out⟩
end Go.Proofs.YtbicdobnnanlkaaDoor
