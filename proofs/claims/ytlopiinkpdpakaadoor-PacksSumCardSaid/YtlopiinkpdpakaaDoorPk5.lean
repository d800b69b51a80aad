/-
  The walks of the law's texts and same (13).
-/
import Derived.Test.YtlopiinkpdpakaaDoorSr
import Derived.Test.YtlopiinkpdpakaaDoorRw
namespace Go.Proofs.YtlopiinkpdpakaaDoor
open Go Go.RowKit
set_option linter.unusedSimpArgs false
set_option linter.unusedVariables false

set_option maxRecDepth 100000 in
set_option maxHeartbeats 2000000 in
theorem texts_any (v : Value) (ls : List (List UInt8)) (w : World) (h : HBs w v ls) (hn : ls.length ≤ 1000000) :
    Calls Tryd.prog 8 #[v] w fun e w' => ∃ v', e = .returned v' ∧ StrR w' w.heap.size v' ls.length ls ∧ Below w.heap.size w w' := by
  obtain ⟨p, cap, rfl, hlc, hcm⟩ := h.form
  obtain ⟨is, his, hzs, hss, hbs⟩ := infoStr
  have HIS := Lib.hid his; clear his
  have H := Lib.hid h
  obtain ⟨n, hnn⟩ : ∃ n, n = ls.length := ⟨_, rfl⟩
  rw [← hnn] at hlc hn ⊢
  have HN := Lib.hid hnn
  unfold maxLen at hcm
  clear h hnn
  go_enter Tryd.func8, Tryd.ntmps8
  go_wp2_with fail
  go_loopw [3, 4] (fun out i wr => ∃ (k : Nat), k ≤ n ∧ i = .int .i64 (k : Int) ∧ StrR wr w.heap.size out k (ls.take k) ∧ Below w.heap.size w wr) (fun _ i _ => n - (intOf i).toNat)
  case atStart => exact ⟨0, Nat.zero_le _, rfl, World.ownsRow_nil _ _ _ _, Below.refl _ _⟩
  case round =>
    obtain ⟨k, hk, rfl, hrow, hb⟩ := hrel
    obtain ⟨A, c, rfl⟩ := own_form hrow
    have hbz := hb.size
    have HI := Lib.hid (And.intro hrow hb)
    clear hrow hb
    by_cases hlt : k < n
    · obtain ⟨l, hl⟩ : ∃ l, ls[k]? = some l := ⟨_, List.getElem?_eq_getElem (by rw [← HN.out]; exact hlt)⟩
      obtain ⟨b, o, u, hp, hc, hu⟩ := H.out.at_ hl
      obtain rfl := hp
      obtain ⟨pu, cu, rfl, hul, hum⟩ := hu.form
      have hc0 := (HI.out.2.cell (p := ⟨b, o + k, none⟩) (lt_of_cell hc)).trans hc
      have hki : (k : Int) < (n : Int) := by omega
      have hcv := ((hu.keep HI.out.2).str Tryd.underlying24 Tryd.underlying5 Tryd.underlying9)
      have HTK : Hid (ls.take (k + 1) = ls.take k ++ [l]) := Lib.hid (by rw [List.take_add_one, hl]; rfl)
      clear hl hu hc
      go_wp2_with (
        (at_builtin
         have hnew := (Blk.new wr 9 #[.string (bs l)]).cell 0
         refine wpList_append_own _ rfl (.tmp 11) (.tmp 17) 30 rfl w.heap.size 9 is (.string ByteArray.empty) 1 16 Tryd.underlying30 HIS.out hzs hss hbs rfl (by decide) (.slice A k c) k _ rfl (HI.out.1.alloc _) ⟨wr.heap.size, 0, none⟩ 1 1 [.string (bs l)] rfl rfl (fun j u hj => by
           match j with
           | 0 => simp at hj; subst hj; rw [add0]; exact hnew
           | j + 1 => simp at hj) (fun u hu => by simp at hu; subst hu; rfl) (by simp only [maxLen]; omega) (by omega) (by simp; omega) ?_
         intro v5 w5 hown5 hgrow5 _
         have HR5 : Hid (StrR w5 w.heap.size v5 (k + 1) (ls.take (k + 1)) ∧ Below w.heap.size w w5) := Lib.hid ⟨by unfold StrR; rw [HTK.out, List.map_append]; exact hown5, (HI.out.2.alloc hbz _).grown hgrow5 (by simp; omega) (fun j hj => own_ge HI.out.1 j hj)⟩
         clear hown5 hgrow5 hnew HI HTK))
      go_roundw
      case rel => exact ⟨k + 1, by omega, by go_num, HR5.out⟩
      case measure => simp [intOf]; omega
    · obtain rfl : k = n := by omega
      go_wp2_with fail
      go_ret
      have h1 := HI.out.1
      rw [List.take_of_length_le (by rw [← HN.out]; exact Nat.le_refl _)] at h1
      exact ⟨_, rfl, h1, HI.out.2⟩

theorem take_eq_snoc {a b : List (List UInt8)} {k : Nat} {x y : List UInt8} (ha : a[k]? = some x) (hb : b[k]? = some y) : a.take (k + 1) = b.take (k + 1) ↔ a.take k = b.take k ∧ x = y := by
  have h1 : k < a.length := (List.getElem?_eq_some_iff.1 ha).1
  have h2 : k < b.length := (List.getElem?_eq_some_iff.1 hb).1
  rw [List.take_add_one, List.take_add_one, ha, hb]
  constructor
  · intro h
    have := List.append_inj h (by simp; omega)
    exact ⟨this.1, by simpa using this.2⟩
  · rintro ⟨h1, rfl⟩; rw [h1]

set_option maxRecDepth 100000 in
set_option maxHeartbeats 2000000 in
theorem same13_any (v1 v2 : Value) (b1 b2 n1 n2 : Nat) (l1 l2 : List (List UInt8)) (w : World) (h1 : StrR w b1 v1 n1 l1) (h2 : StrR w b2 v2 n2 l2) (hn : n1 ≤ 1000000) :
    Calls Tryd.prog 10 #[v1, v2] w fun e w' => e = .returned (.bool (l1 == l2)) ∧ Below w.heap.size w w' := by
  obtain ⟨A1, c1, rfl⟩ := own_form h1
  obtain ⟨A2, c2, rfl⟩ := own_form h2
  have H1 := Lib.hid h1
  have H2 := Lib.hid h2
  have e1 := StrR.len h1
  have e2 := StrR.len h2
  have HE1 := Lib.hid e1
  have HE2 := Lib.hid e2
  clear h1 h2
  by_cases hne : n1 = n2
  · subst hne
    clear e1 e2
    go_enter Tryd.func10, Tryd.ntmps10
    go_wp2_with fail
    go_loopw [5] (fun i wr => ∃ (k : Nat), k ≤ n1 ∧ i = .int .i64 (k : Int) ∧ Hid (l1.take k = l2.take k) ∧ Below w.heap.size w wr) (fun i _ => n1 - (intOf i).toNat)
    case atStart => exact ⟨0, Nat.zero_le _, rfl, Lib.hid (by simp), Below.refl _ _⟩
    case round =>
      obtain ⟨k, hk, rfl, HT, hb⟩ := hrel
      have HB := Lib.hid hb
      clear hb
      by_cases hlt : k < n1
      · obtain ⟨x, hx⟩ : ∃ l, l1[k]? = some l := ⟨_, List.getElem?_eq_getElem (by rw [HE1.out]; exact hlt)⟩
        obtain ⟨y, hy⟩ : ∃ l, l2[k]? = some l := ⟨_, List.getElem?_eq_getElem (by rw [HE2.out]; exact hlt)⟩
        obtain ⟨g1, rfl, hc1⟩ := StrR.at_ H1.out hx
        obtain ⟨g2, rfl, hc2⟩ := StrR.at_ H2.out hy
        have d1 := (HB.out.cell (p := ⟨g1, k, none⟩) (lt_of_cell hc1)).trans hc1
        have d2 := (HB.out.cell (p := ⟨g2, k, none⟩) (lt_of_cell hc2)).trans hc2
        have HTS := Lib.hid (take_eq_snoc hx hy)
        have HX := Lib.hid hx
        have HY := Lib.hid hy
        have hki : (k : Int) < (n1 : Int) := by omega
        have hk0 : (0 : Int) ≤ (k : Int) := by omega
        clear hc1 hc2 hx hy
        by_cases hxy : x = y
        · subst hxy
          have HT2 : Hid (l1.take (k + 1) = l2.take (k + 1)) := Lib.hid (HTS.out.2 ⟨HT.out, rfl⟩)
          clear HTS HT
          go_wp2_with fail
          go_quiet (fail)
          have HB2 := Lib.hid (below_drewN HB.out nq)
          clear d1 d2 HB
          generalize wr.drewN nq = w2 at *
          go_wp2_with fail
          go_roundw
          case rel => exact ⟨k + 1, by omega, by go_num, HT2, HB2.out⟩
          case measure => simp [intOf]; omega
        · have hne2 : ((bs x).toList == (bs y).toList) = false := beq_eq_false_iff_ne.2 (bs_ne hxy)
          have HF : Hid ((l1 == l2) = false) := Lib.hid (beq_eq_false_iff_ne.2 (by
            intro e
            have := HX.out
            rw [e, HY.out] at this
            injection this with this
            exact hxy this.symm))
          clear hxy
          go_wp2_with fail
          go_quiet (fail)
          have HB2 := Lib.hid (below_drewN HB.out nq)
          clear d1 d2 HB
          generalize wr.drewN nq = w2 at *
          go_wp2_with fail
          go_ret
          rw [HF.out]
          exact ⟨rfl, HB2.out⟩
      · obtain rfl : k = n1 := by omega
        have HF : Hid ((l1 == l2) = true) := Lib.hid (beq_iff_eq.2 (by
          have := HT.out
          rw [List.take_of_length_le (by rw [HE1.out]; exact Nat.le_refl _), List.take_of_length_le (by rw [HE2.out]; exact Nat.le_refl _)] at this
          exact this))
        go_wp2_with fail
        go_ret
        rw [HF.out]
        exact ⟨rfl, HB.out⟩
  · have HF : Hid ((l1 == l2) = false) := Lib.hid (beq_eq_false_iff_ne.2 (fun e => hne (by rw [← e1, ← e2, e])))
    have hni : ¬ (n1 : Int) = (n2 : Int) := by omega
    clear e1 e2
    go_enter Tryd.func10, Tryd.ntmps10
    go_wp2_with fail
    go_ret
    rw [HF.out]
    exact ⟨rfl, Below.refl _ _⟩
end Go.Proofs.YtlopiinkpdpakaaDoor
