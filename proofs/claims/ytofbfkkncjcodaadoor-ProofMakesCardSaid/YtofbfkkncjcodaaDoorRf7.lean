/-
  The document's comparison of two ways.
-/
import Derived.Test.YtofbfkkncjcodaaDoorId
import Derived.Test.YtofbfkkncjcodaaDoorEq
import Derived.Test.YtofbfkkncjcodaaDoorGB
import Derived.Test.YtofbfkkncjcodaaDoorGA
namespace Go.Proofs.YtofbfkkncjcodaaDoor
open Go Go.RowKit
set_option linter.unusedSimpArgs false
set_option linter.unusedVariables false

theorem take_eq_next {a b : List Dig} {k : Nat} {d : Dig} (h : a.take k = b.take k) (ha : a[k]? = some d) (hb : b[k]? = some d) : a.take (k + 1) = b.take (k + 1) := by
  rw [List.take_add_one, List.take_add_one, h, ha, hb]

set_option maxRecDepth 100000 in
set_option maxHeartbeats 2000000 in
theorem refSame_any (u v : Value) (a b : List Dig) (w : World) (ha : IdS w u a) (hb : IdS w v b) (hn : a.length ≤ 1000000) :
    Calls Tryd.prog 16 #[u, v] w fun e w' => e = .returned (.bool (decide (a = b))) ∧ Below w.heap.size w w' := by
  obtain ⟨pa, ca, rfl, hla, hma⟩ := ha.form
  obtain ⟨pb, cb, rfl, hlb, hmb⟩ := hb.form
  obtain ⟨n, hnn⟩ : ∃ n, n = a.length := ⟨_, rfl⟩
  obtain ⟨m, hmm⟩ : ∃ m, m = b.length := ⟨_, rfl⟩
  rw [← hnn] at hla hn ha ⊢
  rw [← hmm] at hlb hb ⊢
  unfold maxLen at hma hmb
  have HA := Lib.hid ha
  have HB := Lib.hid hb
  have HN := Lib.hid (And.intro hnn hmm)
  clear ha hb hnn hmm
  by_cases hnm : n = m
  · subst hnm
    have hne : decide ((n : Int) = (n : Int)) = true := by simp
    clear hne
    go_enter Tryd.func16, Tryd.ntmps16
    go_wp2_with fail
    go_loopw [5] (fun i W => ∃ k : Nat, k ≤ n ∧ i = .int .i64 (k : Int) ∧ Hid (a.take k = b.take k) ∧ Below w.heap.size w W) (fun i _ => n - (intOf i).toNat)
    case atStart => exact ⟨0, Nat.zero_le _, rfl, Lib.hid rfl, Below.refl _ _⟩
    case round =>
      obtain ⟨k, hk, rfl, HK, hbw⟩ := hrel
      have HI := Lib.hid hbw
      clear hbw
      by_cases hlt : k < n
      · have hki : (k : Int) < (n : Int) := by omega
        obtain ⟨d, hd⟩ : ∃ d, a[k]? = some d := ⟨_, List.getElem?_eq_getElem (by rw [← HN.out.1]; exact hlt)⟩
        obtain ⟨x, hx⟩ : ∃ x, b[k]? = some x := ⟨_, List.getElem?_eq_getElem (by rw [← HN.out.2]; exact hlt)⟩
        obtain ⟨ba, oa, rfl, hata⟩ := HA.out.at_ (by omega)
        obtain ⟨bb, ob, rfl, hatb⟩ := HB.out.at_ (by omega)
        obtain ⟨hdl, hdr⟩ := hata _ _ hd
        obtain ⟨hxl, hxr⟩ := hatb _ _ hx
        have HDR : Hid (wr.rangeAt ba (oa + k * 32) (d.map bcv) ∧ wr.rangeAt bb (ob + k * 32) (x.map bcv)) := Lib.hid ⟨range_keep hdr HI.out, range_keep hxr HI.out⟩
        have HDX := Lib.hid (And.intro hd hx)
        clear hata hatb hdr hxr hd hx
        go_wp2_with fail
        refine wp_region_as (ys := [.eq (.slice (some ⟨ba, oa, none⟩) n ca), .eq (.int .i64 (k : Int)), .eq (.pointer (some ⟨ba, oa + k * 32, none⟩)), .eq (.agg (bvs d)), .eq (.slice (some ⟨bb, ob, none⟩) n cb), .eq (.int .i64 (k : Int)), .eq (.pointer (some ⟨bb, ob + k * 32, none⟩)), .eq (.agg (bvs x)), .eq (.bool (!(d == x)))]) (by kernel_rfl) (by kernel_rfl) (by kernel_rfl) (by kernel_rfl) rfl _ (fun f => by simp only [framedL, Act.put, List.setIfInBounds_toArray, List.set_cons_zero, List.set_cons_succ, Nat.reduceAdd]; rfl) ⟨?_, ?_, ?_, ?_, ?_, ?_, ?_, ?_, ?_, trivial⟩ ?_
        · refine oweAs_pure ((.slice (some ⟨ba, oa, none⟩) n ca)) rfl (fun f W hE hd => ?_) (fun W hE => rfl)
          go_simp
        · refine oweAs_pure ((.int .i64 (k : Int))) rfl (fun f W hE hd => ?_) (fun W hE => rfl)
          go_simp
        · refine oweAs_pure ((.pointer (some ⟨ba, oa + k * 32, none⟩))) rfl (fun f W hE hd => ?_) (fun W hE => rfl)
          simp only [DepAs, Region.binds, asAt, As.holds, and_true, forall_const] at hd
          go_simp
        · refine oweAs_load_mid 31 (.tmp 19) rfl d rfl rfl Tryd.underlying31 rfl (by rw [hdl]; kernel_rfl) (fun f W hE hd => by (simp only [DepAs, Region.binds, asAt, As.holds, and_true, forall_const] at hd; exact ⟨ba, _, by go_simp, range_keep (HDR.out.1) hE⟩))
        · refine oweAs_pure ((.slice (some ⟨bb, ob, none⟩) n cb)) rfl (fun f W hE hd => ?_) (fun W hE => rfl)
          go_simp
        · refine oweAs_pure ((.int .i64 (k : Int))) rfl (fun f W hE hd => ?_) (fun W hE => rfl)
          go_simp
        · refine oweAs_pure ((.pointer (some ⟨bb, ob + k * 32, none⟩))) rfl (fun f W hE hd => ?_) (fun W hE => rfl)
          simp only [DepAs, Region.binds, asAt, As.holds, and_true, forall_const] at hd
          go_simp
        · refine oweAs_load_mid 31 (.tmp 23) rfl x rfl rfl Tryd.underlying31 rfl (by rw [hxl]; kernel_rfl) (fun f W hE hd => by (simp only [DepAs, Region.binds, asAt, As.holds, and_true, forall_const] at hd; exact ⟨bb, _, by go_simp, range_keep (HDR.out.2) hE⟩))
        · refine oweAs_pure ((.bool (!(d == x)))) rfl (fun f W hE hd => ?_) (fun W hE => rfl)
          simp only [DepAs, Region.binds, asAt, As.holds, and_true, forall_const] at hd
          go_simp
        intro f W hE hA
        simp only [AllAs, As.holds, Nat.reduceAdd] at hA
        obtain ⟨-, -, -, -, -, -, -, -, hA8, -⟩ := hA
        rw [hA8]
        have HI2 := Lib.hid (HI.out.trans (hE.mono HI.out.size))
        clear HI hE hA8
        by_cases hdx : d = x
        · have h1 : (!(d == x)) = false := by simp [hdx]
          rw [h1]
          have HK2 : Hid (a.take (k + 1) = b.take (k + 1)) := Lib.hid (take_eq_next HK.out HDX.out.1 (hdx ▸ HDX.out.2))
          clear h1 hdx
          go_wp2_with fail
          go_roundw
          case rel => exact ⟨k + 1, by omega, by go_num, HK2, HI2.out⟩
          case measure => simp [intOf]; omega
        · have h1 : (!(d == x)) = true := by simp [hdx]
          rw [h1]
          have HF : Hid (decide (a = b) = false) := Lib.hid (decide_eq_false (fun e => hdx (by
            have h2 := HDX.out.1
            rw [e, HDX.out.2] at h2
            injection h2 with h2
            exact h2.symm)))
          clear h1 hdx
          go_wp2_with fail
          go_ret
          rw [HF.out]
          exact ⟨rfl, HI2.out⟩
      · obtain rfl : k = n := by omega
        have HT : Hid (decide (a = b) = true) := Lib.hid (decide_eq_true (by
          have h1 := HK.out
          rw [List.take_of_length_le (by rw [← HN.out.1]; exact Nat.le_refl _), List.take_of_length_le (by rw [← HN.out.2]; exact Nat.le_refl _)] at h1
          exact h1))
        go_wp2_with fail
        go_ret
        rw [HT.out]
        exact ⟨rfl, HI.out⟩
  · have HF : Hid (decide (a = b) = false) := Lib.hid (decide_eq_false (fun e => hnm (by rw [HN.out.1, HN.out.2, e])))
    have hne : ¬ (n : Int) = (m : Int) := by omega
    go_enter Tryd.func16, Tryd.ntmps16
    go_wp2_with fail
    go_ret
    rw [HF.out]
    exact ⟨rfl, Below.refl _ _⟩
end Go.Proofs.YtofbfkkncjcodaaDoor
