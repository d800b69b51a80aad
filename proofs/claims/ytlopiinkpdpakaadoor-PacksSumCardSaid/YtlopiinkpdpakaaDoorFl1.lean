/-
  The iterator of packs.filler: each pack's first blob, and the one behind its last.
-/
import Derived.Test.YtlopiinkpdpakaaDoorPk1
import Derived.Test.YtlopiinkpdpakaaDoorGB
import Derived.IntWalk
namespace Go.Proofs.YtlopiinkpdpakaaDoor
open Go Go.RowKit Go.Shelf
set_option linter.unusedSimpArgs false
set_option linter.unusedVariables false

attribute [local go_sem] Oper.semAt_some

/-- what a round keeps for packs.filler: its own variable, and what lay below Bz -/
def KeepF (Bz : Nat) (A B : World) : Prop := (∀ g cs, Blk A g 61 cs → Blk B g 61 cs) ∧ (∀ b o u, b < Bz → A.cell? ⟨b, o, none⟩ = some u → B.cell? ⟨b, o, none⟩ = some u)
theorem KeepF.trans {Bz : Nat} {A B C : World} (h : KeepF Bz A B) (k : KeepF Bz B C) : KeepF Bz A C := ⟨fun g cs x => k.1 g cs (h.1 g cs x), fun b o u hb x => k.2 b o u hb (h.2 b o u hb x)⟩
theorem KeepF.turns {Bz D : Nat} {A B : World} (h : Turns D A B) (hB : Bz ≤ D) : KeepF Bz A B := by
  refine ⟨fun g cs x => h.blk x, fun b o u hb x => ?_⟩
  obtain ⟨l, hl, hg, -⟩ := h.grown
  exact (World.cell?_of_block (a := ⟨b, o, none⟩) (hg.block b (lt_of_cell x) (by intro e; injection e with e; omega))).trans x

/-- the k-th pack -/
def cutAt (l : List Nat) (most k : Nat) : Nat × Nat := (cutsF l most 0).getD k (0, 0)
def cutV (l : List Nat) (most k : Nat) : Array Value := #[.int .i64 ((cutAt l most k).1 : Int), .int .i64 ((cutAt l most k).2 : Int)]
theorem cut_here {l : List Nat} {most k a : Nat} (h : (cutsF l most 0).drop k = cutsF l most a) (ha : a < l.length) : k < (cutsF l most 0).length ∧ cutAt l most k = (a, reachF l most a (a + 1)) ∧ (cutsF l most 0).drop (k + 1) = cutsF l most (reachF l most a (a + 1)) := by
  rw [cutsF_step ha] at h
  have hk : k < (cutsF l most 0).length := by
    have := congrArg List.length h
    rw [List.length_drop] at this
    simp at this; omega
  have e := List.drop_eq_getElem_cons hk
  rw [e] at h
  injection h with h1 h2
  refine ⟨hk, ?_, h2⟩
  rw [cutAt, List.getD, List.getElem?_eq_getElem hk, h1]
  rfl
theorem sumF_le {l : List Nat} (h : ∀ (i s : Nat), l[i]? = some s → s ≤ 65577) (a : Nat) : ∀ d, a + d ≤ l.length → sumF l a (a + d) ≤ 65580 * d := by
  intro d
  induction d with
  | zero => intro _; rw [Nat.add_zero, sumF_same]; omega
  | succ d ih =>
    intro hd
    have hl : l[a + d]? = some l[a + d] := List.getElem?_eq_getElem (by omega)
    rw [show a + (d + 1) = (a + d) + 1 by omega, sumF_succ (by omega) hl]
    have h1 := h _ _ hl
    have h2 := digF_3 (n := l[a + d]) (by omega)
    have := ih (by omega)
    unfold szF
    omega

set_option maxRecDepth 100000 in
set_option maxHeartbeats 4000000 in
theorem packs_seq (l : List Nat) (most b o cap Bz : Nat) (p : Option Addr) (w : World) (hp : 0 < l.length → p = some ⟨b, o, none⟩ ∧ b < Bz) (hc : ∀ (i s : Nat), l[i]? = some s → w.cell? ⟨b, o + i, none⟩ = some (.int .i64 (s : Int))) (hBz : Bz ≤ w.heap.size)
    (hs : ∀ (i s : Nat), l[i]? = some s → s ≤ 65577) (hn : l.length ≤ 1000000) (hlc : l.length ≤ cap) (hm : most ≤ 1048576) :
    SeqM Tryd.prog 30 #[.agg #[.slice p l.length cap, .int .i64 (most : Int)]] #[] (cutV l most) (KeepF Bz) (fun A B => Below A.heap.size A B) (cutsF l most 0).length w := by
  intro ly m J Jx W hW hJs hY h0
  obtain ⟨N, hN⟩ : ∃ N, N = l.length := ⟨_, rfl⟩
  have HY := Lib.hid hY
  have HJS := Lib.hid hJs
  have HP := Lib.hid hp
  have HN := Lib.hid hN
  have HS := Lib.hid hs
  have HC : Hid (∀ (i s : Nat), l[i]? = some s → W.cell? ⟨b, o + i, none⟩ = some (.int .i64 (s : Int))) := Lib.hid fun i s h => (hW.cell (p := ⟨b, o + i, none⟩) (lt_of_cell (hc i s h))).trans (hc i s h)
  have hBW : Bz ≤ W.heap.size := Nat.le_trans hBz hW.size
  rw [← hN] at hn hlc ⊢
  have START : Hid (J 0 (W.alloc (.cells #[.slice p N cap, .int .i64 (most : Int)] 61))) := Lib.hid (HJS.out _ _ _ h0 ((Below.refl _ _).alloc (Nat.le_refl _) _))
  clear hW hY hJs hp hN hs hc h0 hBz
  refine callsIn_of_wp Tryd.func30 rfl trivial ?_ rfl
  simp only [Tryd.ntmps30, List.size_toArray, List.length_cons, List.length_nil, Nat.reduceAdd, Nat.reduceSub, Array.replicate_succ, Array.replicate_zero, List.push_toArray, List.append_toArray, List.nil_append, List.cons_append, List.append_nil]
  gi_wp2
  obtain ⟨g, hg⟩ : ∃ g, g = W.heap.size := ⟨_, rfl⟩
  rw [← hg]
  have HG := Lib.hid hg
  have START2 : Hid (Blk (W.alloc (.cells #[.slice p N cap, .int .i64 (most : Int)] 61)) g 61 #[.slice p N cap, .int .i64 (most : Int)] ∧ (∀ (i s : Nat), l[i]? = some s → (W.alloc (.cells #[.slice p N cap, .int .i64 (most : Int)] 61)).cell? ⟨b, o + i, none⟩ = some (.int .i64 (s : Int)))) := Lib.hid ⟨Blk.new' hg.symm _ _, fun i s h => (((Below.refl W.heap.size W).alloc (Nat.le_refl _) _).cell (p := ⟨b, o + i, none⟩) (lt_of_cell (HC.out i s h))).trans (HC.out i s h)⟩
  clear hg
  gi_loopw [4, 5, 11] (fun fr al i wr => ∃ (k a j : Nat), a ≤ j ∧ j ≤ N ∧ j - a ≤ 1024 ∧ (j = a → a = 0) ∧ fr = .int .i64 (a : Int) ∧ al = .int .i64 ((sumF l a j : Nat) : Int) ∧ i = .int .i64 (j : Int) ∧ Hid ((cutsF l most 0).drop k = cutsF l most a ∧ (a < j → reachF l most a (a + 1) = reachF l most a j) ∧ J k wr ∧ Blk wr g 61 #[.slice p N cap, .int .i64 (most : Int)] ∧ (∀ (i s : Nat), l[i]? = some s → wr.cell? ⟨b, o + i, none⟩ = some (.int .i64 (s : Int))) ∧ k ≤ (cutsF l most 0).length))
    (fun _ _ i _ => N - (intOf i).toNat)
  case atStart => exact ⟨0, 0, 0, Nat.le_refl _, Nat.zero_le _, by omega, fun _ => rfl, rfl, by rw [sumF_same]; rfl, rfl, Lib.hid ⟨rfl, fun h => absurd h (by omega), START.out, START2.out.1, START2.out.2, Nat.zero_le _⟩⟩
  case round =>
    clear START START2 HC
    obtain ⟨k, a, j, haj, hjN, hj1024, hja, rfl, rfl, rfl, HI⟩ := hrel
    have c0 := HI.out.2.2.2.1.cell 0
    have c1 := HI.out.2.2.2.1.cell 1
    simp only [List.getElem?_toArray, List.getElem?_cons_succ, List.getElem?_cons_zero] at c0 c1
    obtain ⟨A, hA⟩ : ∃ A, A = sumF l a j := ⟨_, rfl⟩
    have hAle : A ≤ 65580 * (j - a) := by
      rw [hA, show j = a + (j - a) by omega, show a + (j - a) - a = j - a by omega]
      exact sumF_le HS.out a (j - a) (by rw [← HN.out]; omega)
    have HA := Lib.hid hA
    rw [← hA]
    by_cases hlt : j < N
    · obtain ⟨s, hs⟩ : ∃ s, l[j]? = some s := ⟨_, List.getElem?_eq_getElem (by rw [← HN.out]; exact hlt)⟩
      obtain ⟨rfl, hbz⟩ := HP.out (by rw [← HN.out]; omega)
      have hcj := HI.out.2.2.2.2.1 j s hs
      have hs3 := HS.out j s hs
      have hd3 := digF_3 (n := s) (by omega)
      have hji : (j : Int) < (N : Int) := by omega
      have HSJ := Lib.hid hs
      clear hA hs
      gi_wp2
      refine ⟨trivial, callsIn_wide.2 ((digits_any s wr (by omega)).mono ?_)⟩
      rintro e w1 ⟨rfl, rfl⟩
      obtain ⟨d, hd⟩ : ∃ d, d = digF s := ⟨_, rfl⟩
      rw [← hd] at hd3 ⊢
      obtain ⟨z, hzz⟩ : ∃ z, z = s + d := ⟨_, rfl⟩
      have HD : Hid (szF s = z) := Lib.hid (by rw [hzz, hd]; rfl)
      have hzi : (s : Int) + (d : Int) = (z : Int) := by omega
      have hz7 : z ≤ 65580 := by omega
      clear hd hzz
      gi_wp2
      have HNX : Hid (sumF l a (j + 1) = A + z) := Lib.hid (by rw [sumF_succ haj HSJ.out, ← HA.out, HD.out])
      have hz := HI.out.2.2.2.1.lt
      by_cases hij : a < j
      · by_cases h24 : j - a = 1024
        · have h24i : ((j : Int) - (a : Int) == 1024) = true := beq_iff_eq.2 (by omega)
          have hiji : decide ((a : Int) < (j : Int)) = true := decide_eq_true (by omega)
          clear hzi
          refine wpIn_wide.2 ?_
          go_quiet (fail)
          have HI2 : Hid (J k (wr.drewN nq) ∧ Blk (wr.drewN nq) g 61 #[.slice (some ⟨b, o, none⟩) N cap, .int .i64 (most : Int)] ∧ (∀ (i s : Nat), l[i]? = some s → (wr.drewN nq).cell? ⟨b, o + i, none⟩ = some (.int .i64 (s : Int)))) := Lib.hid ⟨HJS.out _ _ _ HI.out.2.2.1 (below_drewN (Below.refl _ _) _), HI.out.2.2.2.1.drewN _, HI.out.2.2.2.2.1⟩
          have HI1 : Hid ((cutsF l most 0).drop k = cutsF l most a ∧ (a < j → reachF l most a (a + 1) = reachF l most a j) ∧ k ≤ (cutsF l most 0).length) := Lib.hid ⟨HI.out.1, HI.out.2.1, HI.out.2.2.2.2.2⟩
          clear c0 c1 hcj HI
          generalize wr.drewN nq = w2 at *
          have hst : reachF l most a j = j := reachF_stop (by unfold fitF; rw [decide_eq_false (by omega)]; rfl)
          obtain ⟨hk, hca, hdr⟩ := cut_here HI1.out.1 (by rw [← HN.out]; omega)
          rw [HI1.out.2.1 hij, hst] at hca hdr
          have HDR := Lib.hid hdr
          have HKL : Hid (k + 1 ≤ (cutsF l most 0).length) := Lib.hid hk
          obtain ⟨fn, tmps, assign, body, hy, hR⟩ := HY.out k w2 hk HI2.out.1
          have hcv : cutV l most k = #[.int .i64 (a : Int), .int .i64 (j : Int)] := by rw [cutV, hca]
          rw [hcv] at hy
          have hz0 : (0 : Int) + (z : Int) = (z : Int) := by omega
          have HSM : Hid (sumF l j (j + 1) = z) := Lib.hid (by rw [sumF_succ (Nat.le_refl _) HSJ.out, sumF_same, HD.out]; omega)
          clear hcv hca hdr hst
          gi_wp2
          refine hR.mono ?_
          rintro e V (⟨rfl, hJ3, hk3⟩ | ⟨rfl, hJx3⟩)
          · have HV : Hid (J (k + 1) V ∧ Blk V g 61 #[.slice (some ⟨b, o, none⟩) N cap, .int .i64 (most : Int)] ∧ (∀ (i s : Nat), l[i]? = some s → V.cell? ⟨b, o + i, none⟩ = some (.int .i64 (s : Int)))) := Lib.hid ⟨hJ3, hk3.1 _ _ HI2.out.2.1, fun i s h => hk3.2 _ _ _ hbz (HI2.out.2.2 i s h)⟩
            clear hJ3 hk3 hR hy HI2
            gi_wp2
            go_roundw
            case rel => exact ⟨k + 1, j, j + 1, by omega, by omega, by omega, by omega, rfl, by rw [HSM.out], by go_num, Lib.hid ⟨HDR.out, fun _ => rfl, HV.out.1, HV.out.2.1, HV.out.2.2, HKL.out⟩⟩
            case measure => simp [intOf]; omega
          · gi_wp2
            refine bodyPost_ret (results_none rfl _ _ _) rfl ?_
            exact ⟨⟨_, rfl⟩, .inr hJx3⟩
        · obtain ⟨t, ht⟩ : ∃ t, t = j - a := ⟨_, rfl⟩
          obtain ⟨t1, ht1⟩ : ∃ t, t = j - a + 1 := ⟨_, rfl⟩
          obtain ⟨r, hr⟩ : ∃ r, r = A + z := ⟨_, rfl⟩
          have e1 : IntKind.i64.wrap ((j : Int) - (a : Int)) = (t : Int) := by rw [IntWalk.i64_in _ (by omega)]; omega
          have e2 : IntKind.i64.wrap ((t : Int) + 1) = (t1 : Int) := by rw [IntWalk.i64_in _ (by omega)]; omega
          have e3 : IntKind.i64.wrap ((A : Int) + (z : Int)) = (r : Int) := by rw [IntWalk.i64_in _ (by omega)]; omega
          have h24i : ((t : Int) == 1024) = false := beq_eq_false_iff_ne.2 (by omega)
          have hiji : decide ((a : Int) < (j : Int)) = true := decide_eq_true (by omega)
          have hb1 : t1 < 4611686018427387904 := by omega
          have hb2 : r < 4611686018427387904 := by omega
          have HR : Hid (r = sumF l a (j + 1) ∧ t1 = j + 1 - a) := Lib.hid ⟨by rw [HNX.out]; exact hr, by omega⟩
          have HRR := Lib.hid hr
          clear hzi hr ht ht1
          refine wpIn_wide.2 ?_
          go_quiet ((go_at_call 28; exact Calls.quiet_of_same ((room_any t1 r _ hb1 hb2).mono (fun _ _ h => ⟨h.1, h.2.symm⟩))))
          clear e1 e2 e3
          by_cases hcut : most < digF t1 + r
          · have hci : decide ((most : Int) < (digF t1 : Int) + (r : Int)) = true := decide_eq_true (by omega)
            have HI2 : Hid (J k (wr.drewN nq) ∧ Blk (wr.drewN nq) g 61 #[.slice (some ⟨b, o, none⟩) N cap, .int .i64 (most : Int)] ∧ (∀ (i s : Nat), l[i]? = some s → (wr.drewN nq).cell? ⟨b, o + i, none⟩ = some (.int .i64 (s : Int)))) := Lib.hid ⟨HJS.out _ _ _ HI.out.2.2.1 (below_drewN (Below.refl _ _) _), HI.out.2.2.2.1.drewN _, HI.out.2.2.2.2.1⟩
            have HI1 : Hid ((cutsF l most 0).drop k = cutsF l most a ∧ (a < j → reachF l most a (a + 1) = reachF l most a j) ∧ k ≤ (cutsF l most 0).length) := Lib.hid ⟨HI.out.1, HI.out.2.1, HI.out.2.2.2.2.2⟩
            clear c0 c1 hcj HI
            generalize wr.drewN nq = w2 at *
            have hst : reachF l most a j = j := reachF_stop (by unfold fitF; rw [← HR.out.1, ← HR.out.2, decide_eq_false (by omega : ¬ digF t1 + r ≤ most), Bool.and_false])
            obtain ⟨hk, hca, hdr⟩ := cut_here HI1.out.1 (by rw [← HN.out]; omega)
            rw [HI1.out.2.1 hij, hst] at hca hdr
            have HDR := Lib.hid hdr
            have HKL : Hid (k + 1 ≤ (cutsF l most 0).length) := Lib.hid hk
            obtain ⟨fn, tmps, assign, body, hy, hR⟩ := HY.out k w2 hk HI2.out.1
            have hcv : cutV l most k = #[.int .i64 (a : Int), .int .i64 (j : Int)] := by rw [cutV, hca]
            rw [hcv] at hy
            have hz0 : (0 : Int) + (z : Int) = (z : Int) := by omega
            have HSM : Hid (sumF l j (j + 1) = z) := Lib.hid (by rw [sumF_succ (Nat.le_refl _) HSJ.out, sumF_same, HD.out]; omega)
            clear hcv hca hdr hst
            gi_wp2
            refine hR.mono ?_
            rintro e V (⟨rfl, hJ3, hk3⟩ | ⟨rfl, hJx3⟩)
            · have HV : Hid (J (k + 1) V ∧ Blk V g 61 #[.slice (some ⟨b, o, none⟩) N cap, .int .i64 (most : Int)] ∧ (∀ (i s : Nat), l[i]? = some s → V.cell? ⟨b, o + i, none⟩ = some (.int .i64 (s : Int)))) := Lib.hid ⟨hJ3, hk3.1 _ _ HI2.out.2.1, fun i s h => hk3.2 _ _ _ hbz (HI2.out.2.2 i s h)⟩
              clear hJ3 hk3 hR hy HI2
              gi_wp2
              go_roundw
              case rel => exact ⟨k + 1, j, j + 1, by omega, by omega, by omega, by omega, rfl, by rw [HSM.out], by go_num, Lib.hid ⟨HDR.out, fun _ => rfl, HV.out.1, HV.out.2.1, HV.out.2.2, HKL.out⟩⟩
              case measure => simp [intOf]; omega
            · gi_wp2
              refine bodyPost_ret (results_none rfl _ _ _) rfl ?_
              exact ⟨⟨_, rfl⟩, .inr hJx3⟩
          · have hci : decide ((most : Int) < (digF t1 : Int) + (r : Int)) = false := decide_eq_false (by omega)
            have HI2 : Hid (J k (wr.drewN nq) ∧ Blk (wr.drewN nq) g 61 #[.slice (some ⟨b, o, none⟩) N cap, .int .i64 (most : Int)] ∧ (∀ (i s : Nat), l[i]? = some s → (wr.drewN nq).cell? ⟨b, o + i, none⟩ = some (.int .i64 (s : Int)))) := Lib.hid ⟨HJS.out _ _ _ HI.out.2.2.1 (below_drewN (Below.refl _ _) _), HI.out.2.2.2.1.drewN _, HI.out.2.2.2.2.1⟩
            have HI1 : Hid ((cutsF l most 0).drop k = cutsF l most a ∧ (a < j → reachF l most a (a + 1) = reachF l most a j) ∧ k ≤ (cutsF l most 0).length) := Lib.hid ⟨HI.out.1, HI.out.2.1, HI.out.2.2.2.2.2⟩
            clear c0 c1 hcj HI
            generalize wr.drewN nq = w2 at *
            have HRE : Hid (reachF l most a j = reachF l most a (j + 1)) := Lib.hid (reachF_more (by rw [← HN.out]; exact hlt) (by unfold fitF; rw [← HR.out.1, ← HR.out.2, decide_eq_true (show t1 ≤ 1024 by have := HR.out.2; omega), decide_eq_true (show digF t1 + r ≤ most by omega)]; rfl))
            gi_wp2
            go_roundw
            case rel => exact ⟨k, a, j + 1, by omega, by omega, by omega, by omega, rfl, by rw [HNX.out]; go_num, by go_num, Lib.hid ⟨HI1.out.1, fun _ => (HI1.out.2.1 hij).trans HRE.out, HI2.out.1, HI2.out.2.1, HI2.out.2.2, HI1.out.2.2⟩⟩
            case measure => simp [intOf]; omega
      · obtain rfl : a = j := by omega
        obtain rfl := hja rfl
        refine wpIn_wide.2 ?_
        clear hzi
        go_quiet (fail)
        have HI2 : Hid (J k (wr.drewN nq) ∧ Blk (wr.drewN nq) g 61 #[.slice (some ⟨b, o, none⟩) N cap, .int .i64 (most : Int)] ∧ (∀ (i s : Nat), l[i]? = some s → (wr.drewN nq).cell? ⟨b, o + i, none⟩ = some (.int .i64 (s : Int)))) := Lib.hid ⟨HJS.out _ _ _ HI.out.2.2.1 (below_drewN (Below.refl _ _) _), HI.out.2.2.2.1.drewN _, HI.out.2.2.2.2.1⟩
        have HI1 : Hid ((cutsF l most 0).drop k = cutsF l most 0 ∧ (0 < 0 → reachF l most 0 (0 + 1) = reachF l most 0 0) ∧ k ≤ (cutsF l most 0).length) := Lib.hid ⟨HI.out.1, HI.out.2.1, HI.out.2.2.2.2.2⟩
        clear c0 c1 hcj HI
        generalize wr.drewN nq = w2 at *
        gi_wp2
        go_roundw
        case rel => exact ⟨k, 0, 0 + 1, by omega, by omega, by omega, by omega, rfl, by rw [HNX.out]; go_num, by go_num, Lib.hid ⟨HI1.out.1, fun _ => rfl, HI2.out.1, HI2.out.2.1, HI2.out.2.2, HI1.out.2.2⟩⟩
        case measure => simp [intOf]; omega
    · obtain rfl : j = N := by omega
      clear hA
      by_cases h0 : a < j
      · obtain ⟨rfl, hbz⟩ := HP.out (by rw [← HN.out]; omega)
        have hai : (a : Int) < (j : Int) := by omega
        obtain ⟨hk, hca, hdr⟩ := cut_here HI.out.1 (by rw [← HN.out]; omega)
        rw [HI.out.2.1 h0, show reachF l most a j = j by rw [HN.out]; exact reachF_end] at hca hdr
        have hkM : k + 1 = (cutsF l most 0).length := by
          rw [cutsF_end (a := j) (by rw [← HN.out]; omega)] at hdr
          have := congrArg List.length hdr
          rw [List.length_drop, List.length_nil] at this
          omega
        have HKM := Lib.hid hkM
        obtain ⟨fn, tmps, assign, body, hy, hR⟩ := HY.out k wr hk HI.out.2.2.1
        have hcv : cutV l most k = #[.int .i64 (a : Int), .int .i64 (j : Int)] := by rw [cutV, hca]
        rw [hcv] at hy
        clear hcv hca hdr hkM hk
        gi_wp2
        refine hR.mono ?_
        rintro e V (⟨rfl, hJ3, hk3⟩ | ⟨rfl, hJx3⟩)
        · have HJ3 : Hid (J (cutsF l most 0).length V) := Lib.hid (HKM.out ▸ hJ3)
          clear hJ3 hk3 hR hy
          gi_wp2
          go_end0
          exact ⟨⟨_, rfl⟩, .inl HJ3.out⟩
        · gi_wp2
          go_end0
          exact ⟨⟨_, rfl⟩, .inr hJx3⟩
      · have hai : ¬ (a : Int) < (j : Int) := by omega
        have hk : k = (cutsF l most 0).length := by
          have h := HI.out.1
          rw [cutsF_end (a := a) (by rw [← HN.out]; omega)] at h
          have := congrArg List.length h
          rw [List.length_drop, List.length_nil] at this
          have := HI.out.2.2.2.2.2
          omega
        have HJ3 : Hid (J (cutsF l most 0).length wr) := Lib.hid (hk ▸ HI.out.2.2.1)
        clear hk
        gi_wp2
        go_end0
        exact ⟨⟨_, rfl⟩, .inl HJ3.out⟩
end Go.Proofs.YtlopiinkpdpakaaDoor
