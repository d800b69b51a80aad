/-
  The reference's size of a pack.
-/
import Derived.Test.YtlopiinkpdpakaaFl2
import Derived.Test.YtlopiinkpdpakaaCd6
import Derived.Test.YtlopiinkpdpakaaGB
namespace Go.Proofs.Ytlopiinkpdpakaa
open Go Go.RowKit
set_option linter.unusedSimpArgs false
set_option linter.unusedVariables false

/-- the bytes of a pack of blobs of these sizes -/
def sizeF (L : List Nat) : Nat := digF L.length + (L.map szF).sum
theorem szsum_take {L : List Nat} {k s : Nat} (h : L[k]? = some s) : ((L.take (k + 1)).map szF).sum = ((L.take k).map szF).sum + szF s := by
  rw [List.take_add_one, h]; simp
theorem szsum_le {L : List Nat} (h : ∀ (i s : Nat), L[i]? = some s → s ≤ 65577) : ∀ k, k ≤ L.length → ((L.take k).map szF).sum ≤ 65580 * k := by
  intro k
  induction k with
  | zero => intro _; simp
  | succ k ih =>
    intro hk
    have hl : L[k]? = some L[k] := List.getElem?_eq_getElem (by omega)
    rw [szsum_take hl]
    have h1 := h _ _ hl
    have h2 := digF_3 (n := L[k]) (by omega)
    have := ih (by omega)
    unfold szF at *
    omega
def natI (L : List Nat) : List Int := L.map fun (n : Nat) => (n : Int)
theorem natI_at {L : List Nat} {i s : Nat} (h : L[i]? = some s) : (natI L)[i]? = some (s : Int) := by rw [natI, List.getElem?_map, h]; rfl
theorem natI_length (L : List Nat) : (natI L).length = L.length := by simp [natI]
/-- a part of a known slice -/
theorem IntS.sub {w : World} {b o n c : Nat} {l : List Int} (h : IntS w (.slice (some ⟨b, o, none⟩) n c) l) {lo hi : Nat} (h1 : lo < hi) (h2 : hi ≤ n) : IntS w (.slice (some ⟨b, o + lo, none⟩) (hi - lo) (c - lo)) ((l.drop lo).take (hi - lo)) := by
  obtain ⟨p', cap, hv, hl, hm, hn, hc⟩ := h
  injection hv with e1 e2 e3
  subst e1; subst e2; subst e3
  have hlen : ((l.drop lo).take (hi - lo)).length = hi - lo := by simp; omega
  refine ⟨_, c - lo, by rw [hlen], by rw [hlen]; omega, by omega, (fun h => by cases h), fun _ => ⟨b, o + lo, rfl, fun i x hx => ?_⟩⟩
  obtain ⟨b', o', hp, hcell⟩ := hc (by rintro rfl; simp at h2; omega)
  injection hp with hp
  injection hp with e1 e2
  subst e1; subst e2
  rw [List.getElem?_take] at hx
  split at hx
  · rw [List.getElem?_drop] at hx
    rw [show o + lo + i = o + (lo + i) by omega]
    exact hcell _ _ hx
  · cases hx

set_option maxRecDepth 100000 in
set_option maxHeartbeats 2000000 in
theorem refSize_any (v : Value) (L : List Nat) (w : World) (h : IntS w v (natI L)) (hs : ∀ (i s : Nat), L[i]? = some s → s ≤ 65577) (hn : L.length ≤ 1000000) :
    Calls Try.prog 31 #[v] w fun e w' => e = .returned (.int .i64 ((sizeF L : Nat) : Int)) ∧ Below w.heap.size w w' := by
  obtain ⟨p, cap, rfl, hlc, hcm⟩ := h.form
  obtain ⟨n, hnn⟩ : ∃ n, n = L.length := ⟨_, rfl⟩
  rw [natI_length, ← hnn] at hlc h ⊢
  rw [← hnn] at hn
  have H := Lib.hid h
  have HN := Lib.hid hnn
  have HS := Lib.hid hs
  unfold maxLen at hcm
  clear h hnn hs
  have hnw : IntKind.u64.wrap (n : Int) = (n : Int) := by rw [IntKind.wrap_u64]; omega
  have hdn := digF_3 (n := n) (by omega)
  have hbz : (bs (putF n)).size = digF n := by rw [bs_size]; rfl
  go_enter Try.func31, Try.ntmps31
  go_wp2_with fail
  refine (refPut_any n w (by omega)).mono ?_
  rintro e w1 ⟨rfl, hb1⟩
  have HB1 := Lib.hid hb1
  clear hb1
  obtain ⟨d, hd⟩ : ∃ d, d = digF n := ⟨_, rfl⟩
  rw [← hd] at hbz hdn
  have HD := Lib.hid hd
  clear hd
  go_wp2_with fail
  go_loopw [3, 4] (fun x i wr => ∃ k : Nat, k ≤ n ∧ x = .int .i64 ((d + ((L.take k).map szF).sum : Nat) : Int) ∧ i = .int .i64 (k : Int) ∧ Below w.heap.size w wr) (fun _ i _ => n - (intOf i).toNat)
  case atStart => exact ⟨0, Nat.zero_le _, by simp, rfl, HB1.out⟩
  case round =>
    obtain ⟨k, hk, rfl, rfl, hb⟩ := hrel
    obtain ⟨A, hA⟩ : ∃ A, A = d + ((L.take k).map szF).sum := ⟨_, rfl⟩
    have hAle := szsum_le HS.out k (by rw [← HN.out]; exact hk)
    rw [← hA]
    have hAb : A ≤ 65580 * k + 3 := by omega
    have HA := Lib.hid hA
    have HB := Lib.hid hb
    have hbzz := hb.size
    clear hb hAle hA
    by_cases hlt : k < n
    · obtain ⟨s, hs⟩ : ∃ s, L[k]? = some s := ⟨_, List.getElem?_eq_getElem (by rw [← HN.out]; exact hlt)⟩
      obtain ⟨b, o, hp, hc⟩ := H.out.at_ (by omega)
      obtain rfl := hp
      have c0 := hc k _ (natI_at hs)
      have hbw := lt_of_cell c0
      have hs2 := HS.out k s hs
      have hki : (k : Int) < (n : Int) := by omega
      have hk0 : (0 : Int) ≤ (k : Int) := by omega
      have hds := digF_3 (n := s) (by omega)
      have HNX : Hid (d + ((L.take (k + 1)).map szF).sum = A + (digF s + s)) := Lib.hid (by rw [szsum_take hs, ← Nat.add_assoc, ← HA.out, szF, Nat.add_comm s])
      have HC := Lib.hid c0
      clear hc hs c0
      go_wp2_with fail
      obtain ⟨e, he⟩ : ∃ e, e = digF s := ⟨_, rfl⟩
      rw [← he] at hds HNX
      have HE := Lib.hid he
      clear he
      refine wp_region_tail2 14 [.eq (.int .i64 (A : Int)), .eq (.slice (some ⟨b, o, none⟩) n cap), .eq (.int .i64 (k : Int)), .eq (.pointer (some ⟨b, o + k, none⟩)), .eq (.int .i64 (s : Int)), .eq (.int .u64 (s : Int)), .eq (.string (bs (putF s))), .eq (.int .i64 (e : Int)), .eq (.slice (some ⟨b, o, none⟩) n cap), .eq (.int .i64 (k : Int)), .eq (.pointer (some ⟨b, o + k, none⟩)), .eq (.int .i64 (s : Int)), .eq (.int .i64 ((e + s : Nat) : Int)), .eq (.int .i64 ((A + (e + s) : Nat) : Int))] (by kernel_rfl) (by kernel_rfl) (by kernel_rfl) (by kernel_rfl) rfl (by decide) (by kernel_rfl) _ (fun f => by simp only [framedL, Act.put, maskF, oldF, Nat.reduceLT, reduceIte, List.getElem?_toArray, List.getElem?_cons_succ, List.getElem?_cons_zero, Option.bind_some, Option.map_some, Option.map_none, Option.getD_some, Option.getD_none, Array.getD_eq_getD_getElem?, List.setIfInBounds_toArray, List.set_cons_zero, List.set_cons_succ, Nat.reduceAdd]; rfl) ⟨?_, ?_, ?_, ?_, ?_, ?_, ?_, ?_, ?_, ?_, ?_, ?_, ?_, ?_, trivial⟩ ?_
      · refine oweAs_pure ((.int .i64 (A : Int))) rfl (fun f W hE hd => ?_) (fun W hE => rfl)
        go_simp
      · refine oweAs_pure ((.slice (some ⟨b, o, none⟩) n cap)) rfl (fun f W hE hd => ?_) (fun W hE => rfl)
        go_simp
      · refine oweAs_pure ((.int .i64 (k : Int))) rfl (fun f W hE hd => ?_) (fun W hE => rfl)
        go_simp
      · refine oweAs_pure ((.pointer (some ⟨b, o + k, none⟩))) rfl (fun f W hE hd => ?_) (fun W hE => rfl)
        simp only [DepAs, Region.binds, asAt, As.holds, and_true, forall_const] at hd
        go_simp
      · refine oweAs_pure ((.int .i64 (s : Int))) rfl (fun f W hE hd => ?_) (fun W hE => rfl)
        simp only [DepAs, Region.binds, asAt, As.holds, and_true, forall_const] at hd
        have c1 := (hE.cell (p := ⟨b, o + k, none⟩) (by show b < _; omega)).trans ((HB.out.cell (p := ⟨b, o + k, none⟩) hbw).trans HC.out)
        go_simp
      · refine oweAs_pure ((.int .u64 (s : Int))) rfl (fun f W hE hd => ?_) (fun W hE => rfl)
        simp only [DepAs, Region.binds, asAt, As.holds, and_true, forall_const] at hd
        have h1 : IntKind.u64.wrap (s : Int) = (s : Int) := by rw [IntKind.wrap_u64]; omega
        go_simp
      · refine oweAs_call 38 rfl (fun f W hE hd => ?_)
        simp only [DepAs, Region.binds, asAt, As.holds, and_true, forall_const] at hd
        refine ⟨_, by (go_simp; first | exact rfl | exact ⟨rfl, rfl⟩), ?_⟩
        refine (refPut_any s W (by omega)).mono ?_
        rintro e w' ⟨rfl, hb⟩
        exact ⟨_, rfl, rfl, hb⟩
      · refine oweAs_pure ((.int .i64 (e : Int))) rfl (fun f W hE hd => ?_) (fun W hE => rfl)
        simp only [DepAs, Region.binds, asAt, As.holds, and_true, forall_const] at hd
        have h1 : (bs (putF s)).size = e := by rw [bs_size]; exact HE.out.symm
        go_simp
      · refine oweAs_pure ((.slice (some ⟨b, o, none⟩) n cap)) rfl (fun f W hE hd => ?_) (fun W hE => rfl)
        go_simp
      · refine oweAs_pure ((.int .i64 (k : Int))) rfl (fun f W hE hd => ?_) (fun W hE => rfl)
        go_simp
      · refine oweAs_pure ((.pointer (some ⟨b, o + k, none⟩))) rfl (fun f W hE hd => ?_) (fun W hE => rfl)
        simp only [DepAs, Region.binds, asAt, As.holds, and_true, forall_const] at hd
        go_simp
      · refine oweAs_pure ((.int .i64 (s : Int))) rfl (fun f W hE hd => ?_) (fun W hE => rfl)
        simp only [DepAs, Region.binds, asAt, As.holds, and_true, forall_const] at hd
        have c1 := (hE.cell (p := ⟨b, o + k, none⟩) (by show b < _; omega)).trans ((HB.out.cell (p := ⟨b, o + k, none⟩) hbw).trans HC.out)
        go_simp
      · refine oweAs_pure ((.int .i64 ((e + s : Nat) : Int))) rfl (fun f W hE hd => ?_) (fun W hE => rfl)
        simp only [DepAs, Region.binds, asAt, As.holds, and_true, forall_const] at hd
        have h1 : IntKind.i64.wrap ((e : Int) + (s : Int)) = (e : Int) + (s : Int) := IntWalk.i64_in _ (by omega)
        go_simp
      · refine oweAs_pure ((.int .i64 ((A + (e + s) : Nat) : Int))) rfl (fun f W hE hd => ?_) (fun W hE => rfl)
        simp only [DepAs, Region.binds, asAt, As.holds, and_true, forall_const] at hd
        have h1 : IntKind.i64.wrap ((A : Int) + ((e : Int) + (s : Int))) = (A : Int) + ((e : Int) + (s : Int)) := IntWalk.i64_in _ (by omega)
        go_simp
      intro f W hE hA
      simp only [AllAs, As.holds, Nat.reduceAdd] at hA
      obtain ⟨-, -, -, -, -, -, -, -, -, -, -, -, -, hA13, -⟩ := hA
      simp only [List.drop_succ_cons, List.drop_zero]
      rw [hA13]
      have HB2 := Lib.hid (HB.out.trans (hE.mono hbzz))
      clear hE hA13 HB
      go_wp2_with fail
      go_roundw
      case rel => exact ⟨k + 1, by omega, by rw [HNX.out], by go_num, HB2.out⟩
      case measure => simp [intOf]; omega
    · obtain rfl : k = n := by omega
      have HF : Hid (A = sizeF L) := Lib.hid (by rw [HA.out, sizeF, List.take_of_length_le (by rw [← HN.out]; exact Nat.le_refl _), HD.out, HN.out])
      go_wp2_with fail
      go_ret
      rw [← HF.out]
      exact ⟨rfl, HB.out⟩
end Go.Proofs.Ytlopiinkpdpakaa
