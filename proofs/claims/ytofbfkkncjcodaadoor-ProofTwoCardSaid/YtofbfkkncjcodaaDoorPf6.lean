/-
  proof.steps: the way up, as an iterator.
-/
import Derived.Test.YtofbfkkncjcodaaDoorGB
import Derived.Test.YtofbfkkncjcodaaDoorId
import Derived.Test.YtofbfkkncjcodaaDoorPfP
import Derived.RegionTactic
import Derived.BigRegion
namespace Go.Proofs.YtofbfkkncjcodaaDoor
open Go Go.RowKit Go.Shelf
set_option linter.unusedSimpArgs false
set_option linter.unusedVariables false

attribute [local go_sem] Oper.semAt_some

set_option maxRecDepth 100000 in
set_option maxHeartbeats 1000000 in
theorem steps_any (n i : Nat) (w : World) :
    Calls Tryd.prog 22 #[.int .i64 (n : Int), .int .i64 (i : Int)] w fun e w' => e = .returned (.func (.func 38) #[] #[.pointer (some ⟨w.heap.size, 0, none⟩), .pointer (some ⟨w.heap.size + 1, 0, none⟩)]) ∧ w' = (w.alloc (.cells #[.int .i64 (n : Int)] 3)).alloc (.cells #[.int .i64 (i : Int)] 3) := by
  go_enter Tryd.func22, Tryd.ntmps22
  go_wp2_with fail
  go_ret
  exact ⟨rfl, rfl⟩

theorem ofInt_i64 (a : Nat) (h : a ≤ 9223372036854775807) : (BitVec.ofInt 64 (a : Int)).toNat = a := by
  rw [BitVec.ofInt_natCast, BitVec.toNat_ofNat]; omega
theorem i64_xor1 (x : Nat) (h : x ≤ 9223372036854775807) : bits .xor .i64 (x : Int) 1 = ((x ^^^ 1 : Nat) : Int) := by
  have hx : x ^^^ 1 < 2 ^ 63 := Nat.xor_lt_two_pow (by omega) (by omega)
  show IntKind.i64.wrap ((BitVec.ofInt 64 (x : Int) ^^^ BitVec.ofInt 64 ((1 : Nat) : Int)).toNat : Int) = _
  rw [BitVec.toNat_xor, ofInt_i64 x h, ofInt_i64 1 (by omega)]
  rw [IntKind.wrap_i64]; omega
theorem i64_and1 (x : Nat) (h : x ≤ 9223372036854775807) : bits .and .i64 (x : Int) 1 = ((x % 2 : Nat) : Int) := by
  show IntKind.i64.wrap ((BitVec.ofInt 64 (x : Int) &&& BitVec.ofInt 64 ((1 : Nat) : Int)).toNat : Int) = _
  rw [BitVec.toNat_and, ofInt_i64 x h, ofInt_i64 1 (by omega), Nat.and_one_is_mod]
  rw [IntKind.wrap_i64]; omega

/-- n and i behind k rows -/
def stN (n : Nat) : Nat → Nat
  | 0 => n
  | k + 1 => stN n k - stN n k / 2
def stI (i : Nat) : Nat → Nat
  | 0 => i
  | k + 1 => stI i k / 2
theorem stN_next (n k : Nat) : stN (n - n / 2) k = stN n (k + 1) := by
  induction k with
  | zero => rfl
  | succ k ih => rw [stN, ih]; rfl
theorem stI_next (i k : Nat) : stI (i / 2) k = stI i (k + 1) := by
  induction k with
  | zero => rfl
  | succ k ih => rw [stI, ih]; rfl
theorem stN_le (n k : Nat) : stN n k ≤ n := by
  induction k with
  | zero => exact Nat.le_refl _
  | succ k ih => rw [stN]; omega
theorem stI_le (n k : Nat) : stI n k ≤ n := by
  induction k with
  | zero => exact Nat.le_refl _
  | succ k ih => rw [stI]; omega
theorem steps_at (n i k : Nat) : (stepsF n i)[k]? = if 1 < stN n k then some (stI i k, besideF (stN n k) (stI i k)) else none := by
  induction k generalizing n i with
  | zero =>
    by_cases h : 1 < n
    · rw [stepsF_more h, stN, if_pos h]; rfl
    · rw [stepsF_end h, stN, if_neg h]; rfl
  | succ k ih =>
    by_cases h : 1 < n
    · rw [stepsF_more h, List.getElem?_cons_succ, ih, stN_next, stI_next]
    · rw [stepsF_end h, if_neg (by have := stN_le n (k + 1); omega)]; rfl
theorem steps_lt (n i k : Nat) : k < (stepsF n i).length ↔ 1 < stN n k := by
  have h := steps_at n i k
  constructor
  · intro hk
    rw [List.getElem?_eq_getElem hk] at h
    by_cases h1 : 1 < stN n k
    · exact h1
    · rw [if_neg h1] at h; cases h
  · intro h1
    rw [if_pos h1] at h
    exact (List.getElem?_eq_some_iff.1 h).1
theorem steps_end {n i k : Nat} (h : k ≤ (stepsF n i).length) (h1 : ¬ 1 < stN n k) : k = (stepsF n i).length := by
  rcases Nat.lt_or_ge k (stepsF n i).length with h2 | h2
  · exact absurd ((steps_lt n i k).1 h2) h1
  · omega
def stepV (n i k : Nat) : Array Value := #[.int .i64 (stI i k : Int), .bool (besideF (stN n k) (stI i k))]

/-- two boxes of ints lie as they lay -/
def KeepI (Bs : Nat) (A B : World) : Prop := ∀ (b : Nat) (cs : Array Value), Bs ≤ b → b < Bs + 2 → Blk A b 3 cs → Blk B b 3 cs
theorem KeepI.trans {Bs : Nat} {x y z : World} (h : KeepI Bs x y) (k : KeepI Bs y z) : KeepI Bs x z := fun b cs h1 h2 h3 => k b cs h1 h2 (h b cs h1 h2 h3)
theorem KeepI.refl (Bs : Nat) (w : World) : KeepI Bs w w := fun _ _ _ _ h => h
theorem KeepI.turns {Bs B : Nat} {x y : World} (h : Turns B x y) : KeepI Bs x y := fun b cs _ _ h1 => h.blk h1
theorem KeepI.below {Bs : Nat} {x y : World} (h : Below x.heap.size x y) : KeepI Bs x y := fun b cs _ _ h1 => h1.below h h1.lt
theorem KeepI.grown {Bs g : Nat} {x y : World} {t : TypeId} {cs : Array Value} (h : x.grownBy y (some g)) (hg : Blk x g t cs) (ht : t ≠ 3) : KeepI Bs x y := fun b c _ _ h1 => h1.grown h (by
  intro e; injection e with e
  have e2 : x.heap[g]? = some (.cells cs t (0, 0)) := hg
  have e3 : x.heap[b]? = some (.cells c 3 (0, 0)) := h1
  rw [e, e2] at e3
  injection e3 with e3
  injection e3 with _ e3
  exact ht e3)
/-- what the iterator does: it stores into its boxes -/
def KeepS (Bs : Nat) (A B : World) : Prop := Below Bs A B ∧ (∀ x, Bs + 2 ≤ x → x < A.heap.size → B.heap[x]? = A.heap[x]?) ∧ (∃ c, Blk A Bs 3 c) ∧ ∃ c, Blk A (Bs + 1) 3 c
theorem KeepS.heap {Bs x : Nat} {A B : World} {t : TypeId} {cs : Array Value} (h : KeepS Bs A B) (hb : Blk A x t cs) (ht : t ≠ 3) : Blk B x t cs := by
  obtain ⟨h1, h2, ⟨c1, h3⟩, ⟨c2, h4⟩⟩ := h
  have e0 : A.heap[x]? = some (.cells cs t (0, 0)) := hb
  have e1 : A.heap[Bs]? = some (.cells c1 3 (0, 0)) := h3
  have e2 : A.heap[Bs + 1]? = some (.cells c2 3 (0, 0)) := h4
  rcases Nat.lt_or_ge x Bs with h5 | h5
  · exact hb.below h1 h5
  by_cases h6 : x = Bs
  · subst h6; rw [e0] at e1; injection e1 with e1; injection e1 with _ e1; exact absurd e1 ht
  by_cases h7 : x = Bs + 1
  · subst h7; rw [e0] at e2; injection e2 with e2; injection e2 with _ e2; exact absurd e2 ht
  exact (h2 x (by omega) hb.lt).trans e0
theorem KeepS.keepN {Bs m : Nat} {A B : World} (h : KeepS Bs A B) (hm : Bs + 2 ≤ m) : KeepN m A B := fun b o h1 h2 _ => (h.2.1 b (by omega) (Array.getElem?_eq_some_iff.1 h2).1).trans h2
theorem KeepS.own {Bs base n size : Nat} {A B : World} {e : TypeId} {v : Value} {xs : List Value} (h : KeepS Bs A B) (ho : A.ownsRow base e size v n xs) (he : e ≠ 3) : B.ownsRow base e size v n xs := by
  obtain ⟨h1, h2⟩ := ho
  refine ⟨h1, ?_⟩
  rcases h2 with h2 | ⟨g, cap, cur, hv, hbg, hg, h3⟩
  · exact .inl h2
  · exact .inr ⟨g, cap, cur, hv, hbg, h.heap hg he, h3⟩

set_option maxRecDepth 100000 in
set_option maxHeartbeats 2000000 in
theorem steps1_seq (Bs n i : Nat) (w : World) (hn : n ≤ 9223372036854775807) (hi : i ≤ 9223372036854775807) (h1 : Blk w Bs 3 #[.int .i64 (n : Int)]) (h2 : Blk w (Bs + 1) 3 #[.int .i64 (i : Int)]) :
    SeqN Tryd.prog 38 #[.pointer (some ⟨Bs, 0, none⟩), .pointer (some ⟨Bs + 1, 0, none⟩)] (stepV n i) (KeepI Bs) (KeepS Bs) (stepsF n i).length w := by
  intro l m J Jx W hW hJs hY h0
  have hb1 := h1.below hW h1.lt
  have hb2 := h2.below hW h2.lt
  have HY := Lib.hid hY
  have HJS := Lib.hid hJs
  have START : Hid (J 0 W ∧ Blk W Bs 3 #[.int .i64 (n : Int)] ∧ Blk W (Bs + 1) 3 #[.int .i64 (i : Int)]) := Lib.hid ⟨h0, hb1, hb2⟩
  clear hb1 hb2 h1 h2 hW hY hJs h0
  refine callsIn_of_wp Tryd.func38 rfl trivial ?_ rfl
  simp only [Tryd.ntmps38, List.size_toArray, List.length_cons, List.length_nil, Nat.reduceAdd, Nat.reduceSub, Array.replicate_succ, Array.replicate_zero, List.push_toArray, List.append_toArray, List.nil_append, List.cons_append]
  gi_wp2
  gi_loopw [] (fun wr => ∃ k : Nat, k ≤ (stepsF n i).length ∧ J k wr ∧ Blk wr Bs 3 #[.int .i64 (stN n k : Int)] ∧ Blk wr (Bs + 1) 3 #[.int .i64 (stI i k : Int)])
    (fun wr => ((wr.cell? ⟨Bs, 0, none⟩).map fun v => (intOf v).toNat).getD 0)
  case atStart => exact ⟨0, Nat.zero_le _, START.out⟩
  case round =>
    clear START
    obtain ⟨k, hk, hJ, hB1, hB2⟩ := hrel
    have c1 := hB1.cell 0
    have c2 := hB2.cell 0
    simp only [List.getElem?_toArray, List.getElem?_cons_zero] at c1 c2
    obtain ⟨N, hN⟩ : ∃ N, N = stN n k := ⟨_, rfl⟩
    obtain ⟨x, hx⟩ : ∃ x, x = stI i k := ⟨_, rfl⟩
    have hNn : N ≤ n := by rw [hN]; exact stN_le n k
    have hxi : x ≤ i := by rw [hx]; exact stI_le i k
    rw [← hN] at c1 hB1
    rw [← hx] at c2 hB2
    have HNK := Lib.hid (And.intro hN hx)
    have hxor := i64_xor1 x (by omega)
    have HB := Lib.hid (And.intro hB1 hB2)
    have f1 := hB1.frozen 0
    have f2 := hB2.frozen 0
    clear hN hx hB1 hB2
    by_cases hlt : 1 < N
    · have hNi : (1 : Int) < (N : Int) := by omega
      have hkN : k < (stepsF n i).length := by rw [steps_lt, ← HNK.out.1]; exact hlt
      obtain ⟨fn, tmps, assign, body, hy, hR⟩ := HY.out k wr hkN hJ
      rw [stepV, ← HNK.out.1, ← HNK.out.2, besideF] at hy
      clear hJ
      gi_wp2
      refine hR.mono ?_
      rintro e V (⟨rfl, hJ3, hk3⟩ | ⟨rfl, hJx3⟩)
      · have hB1V := hk3 Bs _ (by omega) (by omega) HB.out.1
        have hB2V := hk3 (Bs + 1) _ (by omega) (by omega) HB.out.2
        have HV := Lib.hid (And.intro hB1V hB2V)
        have HJ3 := Lib.hid hJ3
        have c1 := hB1V.cell 0
        have c2 := hB2V.cell 0
        simp only [List.getElem?_toArray, List.getElem?_cons_zero] at c1 c2
        clear hJ3 hk3 hR hy hB1V hB2V f1 f2
        gi_wp2
        have f1 := HV.out.1.frozen 0
        have f2 := HV.out.2.frozen 0
        have hw1 : IntKind.i64.wrap ((N : Int) / 2) = (N : Int) / 2 := by rw [IntKind.wrap_i64]; omega
        have hw2 : IntKind.i64.wrap ((x : Int) / 2) = (x : Int) / 2 := by rw [IntKind.wrap_i64]; omega
        have hw3 : IntKind.i64.wrap ((N : Int) - (N : Int) / 2) = ((N - N / 2 : Nat) : Int) := by rw [IntKind.wrap_i64]; omega
        gi_region
        gi_wp2
        have hx2 : (x : Int) / 2 = ((x / 2 : Nat) : Int) := by simp
        rw [hx2]
        obtain ⟨V1, hV1⟩ : ∃ V1, V1 = (V.setCell ⟨Bs, 0, none⟩ (.int .i64 ((N - N / 2 : Nat) : Int))).setCell ⟨Bs + 1, 0, none⟩ (.int .i64 ((x / 2 : Nat) : Int)) := ⟨_, rfl⟩
        have hA1 : Blk V1 Bs 3 #[.int .i64 ((N - N / 2 : Nat) : Int)] := by
          rw [hV1]
          exact (HV.out.1.store 0 _).other (by show Bs ≠ Bs + 1; omega) _
        have hA2 : Blk V1 (Bs + 1) 3 #[.int .i64 ((x / 2 : Nat) : Int)] := by
          rw [hV1]
          exact (HV.out.2.other (by show Bs + 1 ≠ Bs; omega) _).store 0 _
        have hKS : KeepS Bs V V1.drew := by
          refine ⟨?_, fun b h3 h4 => ?_, ⟨_, HV.out.1⟩, ⟨_, HV.out.2⟩⟩
          · rw [hV1]
            exact (((Below.refl Bs V).setCell (p := ⟨Bs, 0, none⟩) (Nat.le_refl _) _).setCell (p := ⟨Bs + 1, 0, none⟩) (by show Bs ≤ Bs + 1; omega) _).drew
          · show V1.heap[b]? = _
            rw [hV1, Below.heap_setCell _ _ _ b (by show b ≠ Bs + 1; omega), Below.heap_setCell _ _ _ b (by show b ≠ Bs; omega)]
        rw [← hV1]
        have hJ4 := HJS.out _ _ _ HJ3.out hKS
        have HK := HNK.out
        go_roundw
        case rel => exact ⟨k + 1, by omega, hJ4, by rw [stN, ← HK.1]; exact hA1, by rw [stI, ← HK.2]; exact hA2⟩
        case measure =>
          have c3 : V1.drew.cell? ⟨Bs, 0, none⟩ = some (.int .i64 ((N - N / 2 : Nat) : Int)) := by
            have := hA1.cell 0
            simpa using this
          rw [c3]
          have c4 := HB.out.1.cell 0
          simp only [List.getElem?_toArray, List.getElem?_cons_zero] at c4
          rw [c4]
          simp [intOf]; omega
      · gi_wp2
        refine bodyPost_ret (results_none rfl _ _ _) rfl ?_
        exact ⟨⟨_, rfl⟩, .inr hJx3⟩
    · have hNi : ¬ (1 : Int) < (N : Int) := by omega
      have hkN := steps_end hk (by rw [← HNK.out.1]; exact hlt)
      have HJ : Hid (J (stepsF n i).length wr) := Lib.hid (hkN ▸ hJ)
      clear hJ hkN
      gi_wp2
      go_end0
      exact ⟨⟨_, rfl⟩, .inl HJ.out⟩
end Go.Proofs.YtofbfkkncjcodaaDoor
