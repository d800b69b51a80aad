/-
  slices.Chunk at digests, in pairs.
-/
import Derived.Test.YtlopiinkpdpakaaDoorGB
import Derived.Test.YtlopiinkpdpakaaDoorId
namespace Go.Proofs.YtlopiinkpdpakaaDoor
open Go Go.RowKit Go.Shelf
set_option linter.unusedSimpArgs false
set_option linter.unusedVariables false

attribute [local go_sem] Oper.semAt_some

set_option maxRecDepth 100000 in
set_option maxHeartbeats 1000000 in
theorem chunkI_any (p : Option Addr) (n cap c : Nat) (w : World) (hc : 1 ≤ c) :
    Calls Tryd.prog 47 #[.slice p n cap, .int .i64 (c : Int)] w fun e w' => e = .returned (.func (.func 58) #[] #[.pointer (some ⟨w.heap.size, 0, none⟩), .pointer (some ⟨w.heap.size + 1, 0, none⟩)]) ∧ w' = (w.alloc (.cells #[.slice p n cap] 72)).alloc (.cells #[.int .i64 (c : Int)] 3) := by
  have hc1 : decide ((c : Int) < 1) = false := decide_eq_false (by omega)
  go_enter Tryd.func47, Tryd.ntmps47
  go_wp2_with fail
  go_ret
  exact ⟨rfl, rfl⟩

/-- how long the k-th pair of n digests is -/
def pairN (n k : Nat) : Nat := min 2 (n - 2 * k)
def pairV (b o n k : Nat) : Value := .slice (some ⟨b, o + 2 * k * 32, none⟩) (pairN n k) (pairN n k)

set_option maxRecDepth 100000 in
set_option maxHeartbeats 2000000 in
theorem chunkI1_seq (Bs b o n cap : Nat) (p : Option Addr) (w : World) (hp : 0 < n → p = some ⟨b, o, none⟩) (hn : n ≤ cap) (hm : cap ≤ maxLen) (hn47 : n ≤ 100000000) (hz : Bs + 1 < w.heap.size) (h1 : w.cell? ⟨Bs, 0, none⟩ = some (.slice p n cap)) (h2 : w.cell? ⟨Bs + 1, 0, none⟩ = some (.int .i64 2)) :
    SeqN Tryd.prog 58 #[.pointer (some ⟨Bs, 0, none⟩), .pointer (some ⟨Bs + 1, 0, none⟩)] (fun k => #[pairV b o n k]) (KeepC Bs 2) (fun A B => Below A.heap.size A B) ((n + 1) / 2) w := by
  intro l m J Jx W hW hJs hY h0
  have hc1 := (hW.cell (p := ⟨Bs, 0, none⟩) (by show Bs < _; omega)).trans h1
  have hc2 := (hW.cell (p := ⟨Bs + 1, 0, none⟩) hz).trans h2
  have hzW : Bs + 1 < W.heap.size := Nat.lt_of_lt_of_le hz hW.size
  have hm63 : cap ≤ 9223372036854775807 := by simpa [maxLen] using hm
  have HY := Lib.hid hY
  have HJS := Lib.hid hJs
  have HP := Lib.hid hp
  have START : Hid (J 0 W ∧ W.cell? ⟨Bs, 0, none⟩ = some (.slice p n cap) ∧ W.cell? ⟨Bs + 1, 0, none⟩ = some (.int .i64 2) ∧ Bs + 1 < W.heap.size) := Lib.hid ⟨h0, hc1, hc2, hzW⟩
  clear hc1 hc2 hzW h1 h2 hz hW hY hJs hp h0
  refine callsIn_of_wp Tryd.func58 rfl trivial ?_ rfl
  simp only [Tryd.ntmps58, List.size_toArray, List.length_cons, List.length_nil, Nat.reduceAdd, Nat.reduceSub, Array.replicate_succ, Array.replicate_zero, List.push_toArray, List.append_toArray, List.nil_append, List.cons_append]
  gi_wp2
  gi_loopw [4] (fun i wr => ∃ k : Nat, k ≤ (n + 1) / 2 ∧ i = .int .i64 ((2 * k : Nat) : Int) ∧ J k wr ∧ wr.cell? ⟨Bs, 0, none⟩ = some (.slice p n cap) ∧ wr.cell? ⟨Bs + 1, 0, none⟩ = some (.int .i64 2) ∧ Bs + 1 < wr.heap.size)
    (fun i _ => (n + 2) - (intOf i).toNat)
  case atStart => exact ⟨0, Nat.zero_le _, rfl, START.out⟩
  case round =>
    clear START
    obtain ⟨k, hk, rfl, hJ, hc1, hc2, hzr⟩ := hrel
    obtain ⟨t, ht⟩ : ∃ t, t = 2 * k := ⟨_, rfl⟩
    have HT := Lib.hid ht
    rw [← ht]
    by_cases hlt : t < n
    · have hkN : k < (n + 1) / 2 := by omega
      clear ht
      obtain rfl := HP.out (by omega)
      have HJ := Lib.hid hJ
      clear hJ
      obtain ⟨q, hq⟩ : ∃ q, q = pairN n k := ⟨_, rfl⟩
      have hq2 : q = min 2 (n - t) := by rw [hq, pairN, HT.out]
      have hq3 : q ≤ 2 := by omega
      have hq4 : t + q ≤ n := by omega
      have hq5 : 0 < q := by omega
      have hqm : min (2 : Int) ((n - t : Nat) : Int) = (q : Int) := by omega
      have HQ := Lib.hid hq
      clear hq hq2
      gi_wp2
      refine wpIn_wide.2 ?_
      refine wp_region_as (ys := [.eq (.int .i64 2), .eq (.slice (some ⟨b, o, none⟩) n cap), .eq (.int .i64 (t : Int)), .eq (.slice (some ⟨b, o + t * 32, none⟩) (n - t) (cap - t)), .eq (.int .i64 ((n - t : Nat) : Int)), .eq (.int .i64 (q : Int)), .eq (.int .i64 (q : Int))]) (by kernel_rfl) (by kernel_rfl) (by kernel_rfl) (by kernel_rfl) rfl _ (fun f => by simp only [framedL, Act.put, List.setIfInBounds_toArray, List.set_cons_zero, List.set_cons_succ, Nat.reduceAdd]; rfl) ⟨?_, ?_, ?_, ?_, ?_, ?_, ?_, trivial⟩ ?_
      · refine oweAs_pure ((.int .i64 2)) rfl (fun f W hE hd => ?_) (fun W hE => rfl)
        simp only [DepAs, Region.binds, asAt, As.holds, and_true, forall_const] at hd
        have c1 := (hE.cell (p := ⟨Bs + 1, 0, none⟩) hzr).trans hc2
        go_simp
      · refine oweAs_pure ((.slice (some ⟨b, o, none⟩) n cap)) rfl (fun f W hE hd => ?_) (fun W hE => rfl)
        simp only [DepAs, Region.binds, asAt, As.holds, and_true, forall_const] at hd
        have c1 := (hE.cell (p := ⟨Bs, 0, none⟩) (by show Bs < _; omega)).trans hc1
        go_simp
      · refine oweAs_pure ((.int .i64 (t : Int))) rfl (fun f W hE hd => ?_) (fun W hE => rfl)
        go_simp
      · refine oweAs_pure ((.slice (some ⟨b, o + t * 32, none⟩) (n - t) (cap - t))) rfl (fun f W hE hd => ?_) (fun W hE => rfl)
        simp only [DepAs, Region.binds, asAt, As.holds, and_true, forall_const] at hd
        have hct : ¬ cap = t := by omega
        have hnt : ¬ n < t := by omega
        go_simp
      · refine oweAs_pure ((.int .i64 ((n - t : Nat) : Int))) rfl (fun f W hE hd => ?_) (fun W hE => rfl)
        simp only [DepAs, Region.binds, asAt, As.holds, and_true, forall_const] at hd
        go_simp
      · refine oweAs_pure ((.int .i64 (q : Int))) rfl (fun f W hE hd => ?_) (fun W hE => rfl)
        simp only [DepAs, Region.binds, asAt, As.holds, and_true, forall_const] at hd
        go_simp
      · refine oweAs_pure ((.int .i64 (q : Int))) rfl (fun f W hE hd => ?_) (fun W hE => rfl)
        simp only [DepAs, Region.binds, asAt, As.holds, and_true, forall_const] at hd
        go_simp
      intro f W hE hA
      simp only [AllAs, As.holds, Nat.reduceAdd] at hA
      obtain ⟨hA0, hA1, hA2, hA3, hA4, hA5, hA6, -⟩ := hA
      rw [hA0, hA1, hA2, hA3, hA4, hA5, hA6]
      have hc1W := (hE.cell (p := ⟨Bs, 0, none⟩) (by show Bs < _; omega)).trans hc1
      have hc2W := (hE.cell (p := ⟨Bs + 1, 0, none⟩) hzr).trans hc2
      have hzW : Bs + 1 < W.heap.size := Nat.lt_of_lt_of_le hzr hE.size
      obtain ⟨fn, tmps, assign, body, hy, hR⟩ := HY.out k W hkN (HJS.out k wr W HJ.out hE)
      have hpv : pairV b o n k = .slice (some ⟨b, o + t * 32, none⟩) q q := by rw [pairV, ← HQ.out, ← HT.out]
      rw [hpv] at hy
      clear hpv hE HJ hc1 hc2 hzr hA0 hA1 hA2 hA3 hA4 hA5 hA6
      have hct : ¬ t + q = t := by omega
      gi_wp2
      refine hR.mono ?_
      rintro e V (⟨rfl, hJ3, hk3⟩ | ⟨rfl, hJx3⟩)
      · have hc1V := hk3 Bs 0 _ (by omega) (by omega) hc1W
        have hc2V := hk3 (Bs + 1) 0 _ (by omega) (by omega) hc2W
        have hzV := lt_of_cell hc2V
        have HJ3 := Lib.hid hJ3
        clear hJ3 hk3 hc1W hc2W hR hy
        gi_wp2
        go_roundw
        case rel => exact ⟨k + 1, by omega, congrArg (Value.int .i64) (by have := HT.out; omega), HJ3.out, hc1V, hc2V, hzV⟩
        case measure => simp [intOf]; omega
      · gi_wp2
        refine bodyPost_ret (results_none rfl _ _ _) rfl ?_
        exact ⟨⟨_, rfl⟩, .inr hJx3⟩
    · have hkN : k = (n + 1) / 2 := by omega
      have HJ : Hid (J ((n + 1) / 2) wr) := Lib.hid (hkN ▸ hJ)
      clear hJ ht hkN
      gi_wp2
      go_end0
      exact ⟨⟨_, rfl⟩, .inl HJ.out⟩
end Go.Proofs.YtlopiinkpdpakaaDoor
