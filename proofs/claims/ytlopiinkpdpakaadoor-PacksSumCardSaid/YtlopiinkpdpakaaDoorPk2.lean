/-
  The walk of packs.Put.
-/
import Derived.Test.YtlopiinkpdpakaaDoorPk1
namespace Go.Proofs.YtlopiinkpdpakaaDoor
open Go Go.RowKit
set_option linter.unusedSimpArgs false
set_option linter.unusedVariables false

theorem HB.lowOf {w : World} {u : Value} {m : List UInt8} (h : HB w u m) {base : Nat} (hb : w.heap.size ≤ base) : ∀ p n c, u = .slice p n c → 0 < n → ∃ b o, p = some ⟨b, o, none⟩ ∧ b < base := by
  intro p n c e h0
  obtain ⟨p', c', e', hl, hm, hn, hc⟩ := h
  rw [e] at e'
  injection e' with e1 e2 e3
  subst e1; subst e2
  obtain ⟨b, o, hp, hcell⟩ := hc (List.length_pos_iff.1 h0)
  exact ⟨b, o, hp, by have := lt_of_cell (hcell 0 _ (List.getElem?_eq_getElem h0)); omega⟩

theorem HB.keepB {w w' : World} {u : Value} {m : List UInt8} (h : HB w u m) (hb : Below w.heap.size w w') : HB w' u m := h.keep hb

set_option maxRecDepth 100000 in
set_option maxHeartbeats 2000000 in
theorem put_any (v : Value) (ls : List (List UInt8)) (w : World) (h : HBs w v ls) :
    Calls Tryd.prog 6 #[v] w fun e w' => ∃ v', e = .returned (.tuple #[v', .int .i64 ((putP ls).2 : Int)]) ∧ w'.ownsRow w.heap.size 5 1 v' (putP ls).1.length ((putP ls).1.map bcv) ∧ Below w.heap.size w w' := by
  obtain ⟨p, cap, rfl, hlc, hcm⟩ := h.form
  have H := Lib.hid h
  obtain ⟨n, hn⟩ : ∃ n, n = ls.length := ⟨_, rfl⟩
  rw [← hn] at hlc ⊢
  have HN := Lib.hid hn
  unfold maxLen at hcm
  clear h
  have hn0 : (0 : Int) ≤ (n : Int) := by omega
  by_cases hsz : n < 1 ∨ 1024 < n
  · have HP : Hid (putP ls = ([], 1)) := Lib.hid (by unfold putP; rw [if_pos (by rw [← hn]; exact hsz)])
    clear hn
    by_cases h1 : n < 1
    · have a1 : decide ((n : Int) < 1) = true := decide_eq_true (by omega)
      go_enter Tryd.func6, Tryd.ntmps6
      go_wp2_with fail
      go_ret2
      rw [HP.out]
      exact ⟨_, rfl, World.ownsRow_nil _ _ _ _, Below.refl _ _⟩
    · have a1 : decide ((n : Int) < 1) = false := decide_eq_false (by omega)
      have a2 : decide (1024 < (n : Int)) = true := decide_eq_true (by omega)
      go_enter Tryd.func6, Tryd.ntmps6
      go_wp2_with fail
      go_ret2
      rw [HP.out]
      exact ⟨_, rfl, World.ownsRow_nil _ _ _ _, Below.refl _ _⟩
  · have a1 : decide ((n : Int) < 1) = false := decide_eq_false (by omega)
    have a2 : decide (1024 < (n : Int)) = false := decide_eq_false (by omega)
    have hnw : IntKind.u64.wrap (n : Int) = (n : Int) := by rw [IntKind.wrap_u64]; omega
    have hn1 : 1 ≤ n := by omega
    have hn2 : n ≤ 1024 := by omega
    have HSZ := Lib.hid hsz
    have hpl : (putF n).length ≤ 10 := putF_length10 (by omega)
    have HH0 : Hid (putF n = headB ls 0) := Lib.hid (by rw [headB_zero, hn])
    clear hn hsz
    go_enter Tryd.func6, Tryd.ntmps6
    go_wp2_with fail
    refine (wrNew_any w).mono ?_
    rintro e w1 ⟨rfl, hw1, hb1, hz1⟩
    have HI1 : Hid (WrS w1 w.heap.size w.heap.size [] ∧ Below w.heap.size w w1) := Lib.hid ⟨hw1, hb1⟩
    clear hw1 hb1 hz1
    go_wp2_with fail
    refine (wrUint_any w.heap.size w.heap.size n [] w1 HI1.out.1 (Nat.le_refl _) (by omega) (by simp)).mono ?_
    rintro e w2 ⟨rfl, hw2, hb2⟩
    have HI2 : Hid (WrS w2 w.heap.size w.heap.size (headB ls 0) ∧ Below w.heap.size w w2) := Lib.hid ⟨by rw [← HH0.out]; exact hw2, HI1.out.2.trans hb2⟩
    clear hw2 hb2 HI1
    go_wp2_with fail
    go_loopw [24] (fun i wr => ∃ k : Nat, k ≤ n ∧ i = .int .i64 (k : Int) ∧ Hid (∀ (j : Nat) (l : List UInt8), j < k → ls[j]? = some l → mayB l.length = true) ∧ WrS wr w.heap.size w.heap.size (headB ls k) ∧ Below w.heap.size w wr) (fun i _ => n - (intOf i).toNat)
    case atStart => exact ⟨0, Nat.zero_le _, rfl, Lib.hid (fun j l h => absurd h (by omega)), HI2.out⟩
    case round =>
      clear HI2
      obtain ⟨k, hk, rfl, HM, hw, hb⟩ := hrel
      have HI := Lib.hid (And.intro hw hb)
      clear hw hb
      by_cases hlt : k < n
      · have hlk : ls[k]? = some (ls[k]'(by rw [← HN.out]; exact hlt)) := List.getElem?_eq_getElem _
        obtain ⟨l, hl⟩ : ∃ l, ls[k]? = some l := ⟨_, hlk⟩
        obtain ⟨b, o, u, hp, hc, hu⟩ := H.out.at_ hl
        obtain rfl := hp
        obtain ⟨pu, cu, rfl, hul, hum⟩ := hu.form
        have hc0 := (HI.out.2.cell (p := ⟨b, o + k, none⟩) (lt_of_cell hc)).trans hc
        have hki : (k : Int) < (n : Int) := by omega
        have HL := Lib.hid hl
        have HU := Lib.hid hu
        obtain ⟨m, hm⟩ : ∃ m, m = l.length := ⟨_, rfl⟩
        have HMM := Lib.hid hm
        rw [← hm] at hul hc0
        unfold maxLen at hum
        clear hlk hl hu hm hc
        by_cases hmay : mayB (m : Int) = true
        · have hm2 := (mayB_iff _).1 hmay
          have HK : Hid ((headB ls k).length ≤ 10 + 65587 * k) := Lib.hid (headB_length (by rw [← HN.out]; exact hn2) k (fun i l hi he => by have := (mayB_iff _).1 (HM.out i l hi he); omega) (by rw [← HN.out]; exact hk))
          go_wp2_with fail
          refine (may_any _ _).mono ?_
          rintro e w3 ⟨rfl, rfl⟩
          rw [hmay]
          go_wp2_with fail
          refine (wrBytes_any w.heap.size w.heap.size (headB ls k) l (.slice pu m cu) wr HI.out.1 (Nat.le_refl _) (by rw [HMM.out]; exact HU.out.keepB HI.out.2) (by have := HK.out; rw [← HMM.out]; omega) (by rw [HMM.out]; exact HU.out.lowOf (Nat.le_refl _))).mono ?_
          rintro e w3 ⟨rfl, hw3, hb3⟩
          have HI3 : Hid (WrS w3 w.heap.size w.heap.size (headB ls (k + 1)) ∧ Below w.heap.size w w3) := Lib.hid ⟨by rw [headB_succ HL.out]; exact hw3, HI.out.2.trans hb3⟩
          have HM3 : Hid (∀ (j : Nat) (l : List UInt8), j < k + 1 → ls[j]? = some l → mayB l.length = true) := Lib.hid (fun j l' hj he => by
            by_cases e : j = k
            · subst e; rw [HL.out] at he; injection he with he; subst he; rw [← HMM.out]; exact hmay
            · exact HM.out j l' (by omega) he)
          clear hw3 hb3 HI HM
          go_wp2_with fail
          go_roundw
          case rel => exact ⟨k + 1, by omega, by go_num, HM3, HI3.out⟩
          case measure => simp [intOf]; omega
        · have hmf : mayB (m : Int) = false := by simpa using hmay
          have HP : Hid (putP ls = ([], 1)) := Lib.hid (by
            unfold putP
            rw [if_neg (by rw [← HN.out]; exact HSZ.out), if_neg]
            rw [allB_no HL.out (by rw [← HMM.out]; exact hmf)]
            simp)
          clear hmay
          go_wp2_with fail
          refine (may_any _ _).mono ?_
          rintro e w3 ⟨rfl, rfl⟩
          rw [hmf]
          go_wp2_with fail
          go_ret2
          rw [HP.out]
          exact ⟨_, rfl, World.ownsRow_nil _ _ _ _, HI.out.2⟩
      · obtain rfl : k = n := by omega
        have HE : Hid (headB ls k = packB ls) := Lib.hid (by rw [HN.out, headB_all])
        have HPL : Hid ((packB ls).length ≤ 67161098) := Lib.hid (by
          rw [← HE.out]
          have := headB_length (ls := ls) (by rw [← HN.out]; exact hn2) k (fun i l hi he => by have := (mayB_iff _).1 (HM.out i l hi he); omega) (by rw [← HN.out]; exact hk)
          omega)
        have HAL : Hid (allB ls = true) := Lib.hid (allB_mk fun i l hi => HM.out i l (by have := (List.getElem?_eq_some_iff.1 hi).1; rw [HN.out]; exact this) hi)
        go_wp2_with fail
        refine (wrOut_any w.heap.size w.heap.size (packB ls) wr (by rw [← HE.out]; exact HI.out.1) (by have := HPL.out; omega)).mono ?_
        rintro e w3 ⟨v3, rfl, ho3, hb3⟩
        obtain ⟨A, c, rfl⟩ := own_form ho3
        obtain ⟨m, hm⟩ : ∃ m, m = (packB ls).length := ⟨_, rfl⟩
        have hmb := HPL.out
        rw [← hm] at ho3 hmb ⊢
        have HI3 : Hid (w3.ownsRow w.heap.size 5 1 (.slice A m c) m ((packB ls).map bcv) ∧ Below w.heap.size w w3) := Lib.hid ⟨own_base ho3 HI.out.2.size, HI.out.2.trans (hb3.mono HI.out.2.size)⟩
        have HMM := Lib.hid hm
        clear ho3 hb3 HI hm
        by_cases hbig : 1048576 < m
        · have HP : Hid (putP ls = ([], 13)) := Lib.hid (by unfold putP; rw [if_neg (by rw [← HN.out]; exact HSZ.out), if_pos HAL.out, if_pos (by rw [← HMM.out]; exact hbig)])
          go_wp2_with fail
          go_ret2
          rw [HP.out]
          exact ⟨_, rfl, World.ownsRow_nil _ _ _ _, HI3.out.2⟩
        · have HP : Hid (putP ls = (packB ls, 0)) := Lib.hid (by unfold putP; rw [if_neg (by rw [← HN.out]; exact HSZ.out), if_pos HAL.out, if_neg (by rw [← HMM.out]; exact hbig)])
          go_wp2_with fail
          go_ret2
          rw [HP.out, ← HMM.out]
          exact ⟨_, rfl, HI3.out⟩
end Go.Proofs.YtlopiinkpdpakaaDoor
