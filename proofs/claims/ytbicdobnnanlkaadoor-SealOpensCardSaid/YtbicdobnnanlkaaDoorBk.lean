/-
  The iterator of slices.Backward at rows of bytes.
-/
import Derived.Test.YtbicdobnnanlkaaDoorGE
import Derived.Test.YtbicdobnnanlkaaDoorGB
namespace Go.Proofs.YtbicdobnnanlkaaDoor
open Go Go.RowKit Go.Shelf
set_option linter.unusedSimpArgs false
set_option linter.unusedVariables false

attribute [local go_sem] Oper.semAt_some

set_option maxRecDepth 100000 in
set_option maxHeartbeats 1000000 in
theorem backB_any (p : Option Addr) (n c : Nat) (w : World) :
    Calls Tryd.prog 25 #[.slice p n c] w fun e w' => e = .returned (.func (.func 38) #[] #[.pointer (some ⟨w.heap.size, 0, none⟩)]) ∧ w' = w.alloc (.cells #[.slice p n c] 25) := by
  go_enter Tryd.func25, Tryd.ntmps25
  go_wp2_with fail
  go_ret
  exact ⟨rfl, rfl⟩

set_option maxRecDepth 100000 in
set_option maxHeartbeats 2000000 in
theorem backB_seq (Bs b o n c : Nat) (l : List UInt8) (w : World) (hl : l.length = n) (hn : n ≤ c) (hm : c ≤ maxLen) (hz : Bs < w.heap.size) (h1 : w.cell? ⟨Bs, 0, none⟩ = some (.slice (some ⟨b, o, none⟩) n c))
    (h2 : ∀ (i : Nat) (x : UInt8), l[i]? = some x → w.cell? ⟨b, o + i, none⟩ = some (.int .u8 (x.toNat : Int))) :
    SeqN Tryd.prog 38 #[.pointer (some ⟨Bs, 0, none⟩)] (fun k => #[.int .i64 ((n - 1 - k : Nat) : Int), .int .u8 ((at8 l (n - 1 - k)).toNat : Int)]) (fun A B => KeepC Bs 1 A B ∧ KeepC b 1 A B) (fun A B => Below A.heap.size A B) n w := by
  intro y m J Jx W hW hJs hY h0
  have hc1 := (hW.cell (p := ⟨Bs, 0, none⟩) hz).trans h1
  have hc2 : ∀ (i : Nat) (x : UInt8), l[i]? = some x → W.cell? ⟨b, o + i, none⟩ = some (.int .u8 (x.toNat : Int)) := fun i x hx => by
    have h := h2 i x hx
    exact (hW.cell (p := ⟨b, o + i, none⟩) (lt_of_cell h)).trans h
  have hm63 : c ≤ 9223372036854775807 := by simpa [maxLen] using hm
  have HY := Lib.hid hY
  have HJS := Lib.hid hJs
  have HL := Lib.hid hl
  have START : Hid (J 0 W ∧ W.cell? ⟨Bs, 0, none⟩ = some (.slice (some ⟨b, o, none⟩) n c) ∧ ∀ (i : Nat) (x : UInt8), l[i]? = some x → W.cell? ⟨b, o + i, none⟩ = some (.int .u8 (x.toNat : Int))) := Lib.hid ⟨h0, hc1, hc2⟩
  clear hc2 h1 h2 hz hW hY hJs h0 hl
  refine callsIn_of_wp Tryd.func38 rfl trivial ?_ rfl
  simp only [Tryd.ntmps38, List.size_toArray, List.length_cons, List.length_nil, Nat.reduceAdd, Nat.reduceSub, Array.replicate_succ, Array.replicate_zero, List.push_toArray, List.append_toArray, List.nil_append, List.cons_append]
  gi_wp2
  clear hc1
  gi_loopw [3] (fun i wr => ∃ k : Nat, k ≤ n ∧ i = .int .i64 ((n : Int) - 1 - (k : Int)) ∧ J k wr ∧ wr.cell? ⟨Bs, 0, none⟩ = some (.slice (some ⟨b, o, none⟩) n c) ∧ Hid (∀ (i : Nat) (x : UInt8), l[i]? = some x → wr.cell? ⟨b, o + i, none⟩ = some (.int .u8 (x.toNat : Int))))
    (fun i _ => (intOf i + 1).toNat)
  case atStart => exact ⟨0, Nat.zero_le _, by simp, START.out.1, START.out.2.1, Lib.hid START.out.2.2⟩
  case round =>
    clear START
    obtain ⟨k, hk, rfl, hJ, hc1, hcl⟩ := hrel
    by_cases hlt : k < n
    · obtain ⟨t, ht⟩ : ∃ t, t = n - 1 - k := ⟨_, rfl⟩
      have hti : (n : Int) - 1 - (k : Int) = (t : Int) := by omega
      have htn : t < n := by omega
      have htn' : (t : Int) < (n : Int) := by omega
      have HT := Lib.hid ht
      rw [hti]
      have hct := hcl.out t (at8 l t) (at8_get (by rw [HL.out]; exact htn))
      obtain ⟨fn, tmps, assign, body, hy, hR⟩ := HY.out k wr hlt hJ
      rw [← ht] at hy
      have HJ := Lib.hid hJ
      clear hJ ht hti
      gi_wp2
      refine hR.mono ?_
      rintro e V (⟨rfl, hJ3, hk3⟩ | ⟨rfl, hJx3⟩)
      · have hc1V := hk3.1 Bs 0 _ (by omega) (by omega) hc1
        have hclV : Hid (∀ (i : Nat) (x : UInt8), l[i]? = some x → V.cell? ⟨b, o + i, none⟩ = some (.int .u8 (x.toNat : Int))) := Lib.hid fun i x hx => hk3.2 b (o + i) _ (by omega) (by omega) (hcl.out i x hx)
        have HJ3 := Lib.hid hJ3
        clear hJ3 hk3 hc1 hcl hR hy hct
        gi_wp2
        go_roundw
        case rel => exact ⟨k + 1, by omega, congrArg (Value.int .i64) (by have := HT.out; omega), HJ3.out, hc1V, hclV⟩
        case measure => simp [intOf] <;> omega
      · gi_wp2
        refine bodyPost_ret (results_none rfl _ _ _) rfl ?_
        exact ⟨⟨_, rfl⟩, .inr hJx3⟩
    · have hkn : k = n := by omega
      have HJ : Hid (J n wr) := Lib.hid (hkn ▸ hJ)
      have hti : (n : Int) - 1 - (k : Int) = -1 := by omega
      rw [hti]
      clear hJ hkn hti
      gi_wp2
      go_end0
      exact ⟨⟨_, rfl⟩, .inl HJ.out⟩
end Go.Proofs.YtbicdobnnanlkaaDoor
