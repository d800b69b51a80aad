/-
  The reference's Put.
-/
import Derived.Test.YtlkhbfafednegaaDoorCd3
import Derived.Test.YtlkhbfafednegaaDoorGE
import Derived.Test.YtlkhbfafednegaaDoorGA
namespace Go.Proofs.YtlkhbfafednegaaDoor
open Go Go.RowKit
set_option linter.unusedSimpArgs false
set_option linter.unusedVariables false

theorem bs_append (a b : List UInt8) : bs a ++ bs b = bs (a ++ b) := by
  rw [← bs_sb (bs a ++ bs b), sb_append, sb_bs, sb_bs]

set_option maxRecDepth 100000 in
set_option maxHeartbeats 1000000 in
theorem refPut_any : ∀ (n : Nat) (w : World), n < 18446744073709551616 →
    Calls Tryd.prog 35 #[.int .u64 (n : Int)] w fun e w' => e = .returned (.string (bs (putF n))) ∧ Below w.heap.size w w' := by
  intro n
  induction n using Nat.strongRecOn with
  | ind n ih =>
    intro w hn
    by_cases h : n < 128
    · have e : ((UInt8.ofNat n).toNat : Int) = (n : Int) := by rw [UInt8.toNat_ofNat']; omega
      have hcv := (hb_new1 w 5 (UInt8.ofNat n)).str Tryd.underlying24 Tryd.underlying5 Tryd.underlying9
      rw [e] at hcv
      have HP := Lib.hid (putF_lt h)
      clear e ih
      have hi : (n : Int) < 128 := by omega
      go_enter Tryd.func35, Tryd.ntmps35
      go_wp2_with fail
      go_ret
      exact ⟨by rw [HP.out]; rfl, (Below.refl _ _).alloc (Nat.le_refl _) _⟩
    · have IH := Lib.hid ih
      clear ih
      have HP := Lib.hid (putF_ge (n := n) (by omega))
      have hi : ¬ (n : Int) < 128 := by omega
      obtain ⟨x, hx⟩ : ∃ x, x = UInt8.ofNat (n % 128 + 128) := ⟨_, rfl⟩
      have hxv : ((n : Int) % 128 + 128) = (x.toNat : Int) := by rw [hx, UInt8.toNat_ofNat']; omega
      have HX := Lib.hid hx
      have HXV := Lib.hid hxv
      obtain ⟨q, hq⟩ : ∃ q, q = n / 128 := ⟨_, rfl⟩
      have hqv : (n : Int) / 128 = (q : Int) := by omega
      have HQ := Lib.hid hq
      have hq64 : q < 18446744073709551616 := by omega
      have hqn : q < n := by omega
      have hql := putF_length10 hq64
      clear hx hxv hq
      go_enter Tryd.func35, Tryd.ntmps35
      go_wp2_with fail
      have hx8 := x.toNat_lt
      refine wp_region_as (ys := [.eq (.int .u64 (n : Int)), .eq (.int .u64 ((n : Int) % 128)), .eq (.int .u64 (x.toNat : Int)), .eq (.int .u8 (x.toNat : Int)), .hb [x], .eq (.string (bs [x])), .eq (.int .u64 (n : Int)), .eq (.int .u64 (q : Int)), .eq (.string (bs (putF q))), .eq (.string (bs (x :: putF q))), .eq (.string (bs (x :: putF q)))]) (by kernel_rfl) (by kernel_rfl) (by kernel_rfl) (by kernel_rfl) rfl _ (fun f => by simp only [framedL, Act.put, List.setIfInBounds_toArray, List.set_cons_zero, List.set_cons_succ, Nat.reduceAdd]; rfl) ⟨?_, ?_, ?_, ?_, ?_, ?_, ?_, ?_, ?_, ?_, ?_, trivial⟩ ?_
      · refine oweAs_pure ((.int .u64 (n : Int))) rfl (fun f W hE hd => ?_) (fun W hE => rfl)
        simp only [DepAs, Region.binds, asAt, As.holds, and_true, forall_const] at hd
        go_simp
      · refine oweAs_pure ((.int .u64 ((n : Int) % 128))) rfl (fun f W hE hd => ?_) (fun W hE => rfl)
        simp only [DepAs, Region.binds, asAt, As.holds, and_true, forall_const] at hd
        have h0 : (n : Int).tmod 128 = (n : Int) % 128 := Int.tmod_eq_emod_of_nonneg (by omega)
        go_simp
      · refine oweAs_pure ((.int .u64 (x.toNat : Int))) rfl (fun f W hE hd => ?_) (fun W hE => rfl)
        simp only [DepAs, Region.binds, asAt, As.holds, and_true, forall_const] at hd
        have h1 := HXV.out
        have h2 : IntKind.u64.wrap (x.toNat : Int) = (x.toNat : Int) := by rw [IntKind.wrap_u64]; omega
        go_simp
      · refine oweAs_pure ((.int .u8 (x.toNat : Int))) rfl (fun f W hE hd => ?_) (fun W hE => rfl)
        simp only [DepAs, Region.binds, asAt, As.holds, and_true, forall_const] at hd
        have h2 : IntKind.u8.wrap (x.toNat : Int) = (x.toNat : Int) := by rw [IntKind.wrap_u8]; omega
        go_simp
      · refine oweAs_made rfl (fun f W hE hd => ?_)
        simp only [DepAs, Region.binds, asAt, As.holds, and_true, forall_const] at hd
        refine ⟨_, _, by (go_simp; first | exact rfl | exact ⟨rfl, rfl⟩), ?_, (Below.refl W.heap.size W).alloc (Nat.le_refl _) _⟩
        exact hb_new1 W 5 x
      · refine oweAs_pure ((.string (bs [x]))) rfl (fun f W hE hd => ?_) (fun W hE => rfl)
        simp only [DepAs, Region.binds, asAt, As.holds, and_true, forall_const] at hd
        have hcv := HB.str Tryd.underlying24 Tryd.underlying5 Tryd.underlying9 hd
        go_simp
      · refine oweAs_pure ((.int .u64 (n : Int))) rfl (fun f W hE hd => ?_) (fun W hE => rfl)
        simp only [DepAs, Region.binds, asAt, As.holds, and_true, forall_const] at hd
        go_simp
      · refine oweAs_pure ((.int .u64 (q : Int))) rfl (fun f W hE hd => ?_) (fun W hE => rfl)
        simp only [DepAs, Region.binds, asAt, As.holds, and_true, forall_const] at hd
        have h2 : IntKind.u64.wrap (q : Int) = (q : Int) := by rw [IntKind.wrap_u64]; omega
        go_simp
      · refine oweAs_call 35 rfl (fun f W hE hd => ?_)
        simp only [DepAs, Region.binds, asAt, As.holds, and_true, forall_const] at hd
        refine ⟨_, by (go_simp; first | exact rfl | exact ⟨rfl, rfl⟩), ?_⟩
        refine (IH.out q hqn W hq64).mono ?_
        rintro e w' ⟨rfl, hb⟩
        exact ⟨_, rfl, rfl, hb⟩
      · refine oweAs_pure ((.string (bs (x :: putF q)))) rfl (fun f W hE hd => ?_) (fun W hE => rfl)
        simp only [DepAs, Region.binds, asAt, As.holds, and_true, forall_const] at hd
        have h1 : (bs [x]).size = 1 := by rw [bs_size]; rfl
        have h2 : (bs (putF q)).size ≤ 10 := by rw [bs_size]; exact hql
        have h3 : (bs [x]).size + (bs (putF q)).size ≤ 9223372036854775807 := by omega
        have h4 : bs (x :: putF q) = bs [x] ++ bs (putF q) := by rw [bs_append]; rfl
        clear h1 h2
        go_simp
      · refine oweAs_pure ((.string (bs (x :: putF q)))) rfl (fun f W hE hd => ?_) (fun W hE => rfl)
        simp only [DepAs, Region.binds, asAt, As.holds, and_true, forall_const] at hd
        go_simp
      intro f W hE hA
      simp only [AllAs, As.holds, Nat.reduceAdd] at hA
      obtain ⟨-, -, -, -, -, -, -, -, -, -, hA10, -⟩ := hA
      go_wp2_with fail
      go_ret
      exact ⟨by rw [HP.out, ← HX.out, ← HQ.out]; exact congrArg Ending.returned hA10, hE⟩
end Go.Proofs.YtlkhbfafednegaaDoor
