/-
  The walk of packs.Get.
-/
import Derived.Test.YtlopiinkpdpakaaDoorCd3
import Derived.Test.YtlopiinkpdpakaaDoorPk1
import Derived.Test.YtlopiinkpdpakaaDoorRw
namespace Go.Proofs.YtlopiinkpdpakaaDoor
open Go Go.RowKit
set_option linter.unusedSimpArgs false
set_option linter.unusedVariables false

theorem reader_ne2 : 70 ≠ 24 := by decide
theorem own_hbt' {w : World} {base n : Nat} {v : Value} {l : List UInt8} (h : w.ownsRow base 5 1 v l.length (l.map bcv)) : HBT w v l := own_hbt h rfl
theorem RdS.blkOf {w : World} {g : Nat} {s : Rst} (h : RdS w g s) : ∃ cs, Blk w g 70 cs := by
  obtain ⟨v, h1, _⟩ := h
  exact ⟨_, h1⟩
theorem RowsB.reader {w w' : World} {base g n : Nat} {v : Value} {ls : List (List UInt8)} {s : Rst} (h : RowsB w base v n ls) (hr : RdS w g s) (hg : w.grownBy w' (some g)) : RowsB w' base v n ls := by
  obtain ⟨cs, hb⟩ := hr.blkOf
  exact h.grown hg hb reader_ne reader_ne2
theorem RdS.turn {w w' : World} {base g n : Nat} {v : Value} {vs : List Value} {s : Rst} (h : RdS w g s) (ho : w.ownsRow base 24 1 v n vs) (hg : w.grownBy w' v.ownBlock) : RdS w' g s := by
  obtain ⟨u, h1, h2⟩ := h
  obtain ⟨k1, k2⟩ := own_turn ho hg rows_ne
  exact ⟨u, k2 _ _ _ h1 reader_ne2, k1 _ _ h2⟩

set_option maxRecDepth 100000 in
set_option maxHeartbeats 2000000 in
theorem get_any (v : Value) (b : List UInt8) (w : World) (h : HB w v b) (hb : b.length ≤ 1000000000) :
    Calls Tryd.prog 9 #[v] w fun e w' => ∃ v', e = .returned (.tuple #[v', .int .i64 ((getP b).2 : Int)]) ∧ RowsB w' w.heap.size v' (getP b).1.length (getP b).1 ∧ Below w.heap.size w w' := by
  obtain ⟨p, cap, rfl, hlc, hcm⟩ := h.form
  have H := Lib.hid h
  obtain ⟨z, hz⟩ : ∃ z, z = b.length := ⟨_, rfl⟩
  rw [← hz] at hlc hb ⊢
  have HZ := Lib.hid hz
  unfold maxLen at hcm
  clear h
  obtain ⟨ir, hir, hzr, hsr, hbr⟩ := infoRows
  have HIR := Lib.hid hir; clear hir
  by_cases hbig : 1048576 < z
  · have HP : Hid (getP b = ([], 13)) := Lib.hid (by unfold getP; rw [if_pos (by rw [← hz]; exact hbig)])
    clear hz
    go_enter Tryd.func9, Tryd.ntmps9
    go_wp2_with fail
    go_ret2
    rw [HP.out]
    exact ⟨_, rfl, RowsB.nil _ _, Below.refl _ _⟩
  have HBIG : Hid (¬ 1048576 < b.length) := Lib.hid (by rw [← hz]; exact hbig)
  clear hz
  obtain ⟨n, hn⟩ : ∃ n, n = (uintR (b, 0)).1 := ⟨_, rfl⟩
  obtain ⟨S, hS⟩ : ∃ S, S = (uintR (b, 0)).2 := ⟨_, rfl⟩
  have hn64 : n < 18446744073709551616 := by rw [hn]; exact uintR_lt _
  have HN := Lib.hid hn
  have HS := Lib.hid hS
  have hn0 : (0 : Int) ≤ (n : Int) := by omega
  have hse : S.2 = 0 ∨ n = 0 := by
    rw [hn, hS]
    unfold uintR
    split
    · exact uintG_err _ _ _
    · exact .inr rfl
  clear hn hS
  go_enter Tryd.func9, Tryd.ntmps9
  go_wp2_with fail
  refine (newReader_any _ b w (by rw [HZ.out]; exact H.out) (by rw [← HZ.out]; omega)).mono ?_
  rintro e w1 ⟨g, rfl, hgw, hb1, hr1⟩
  have HI1 : Hid (RdS w1 g (b, 0) ∧ Below w.heap.size w w1) := Lib.hid ⟨hr1, hb1⟩
  clear hb1 hr1
  go_wp2_with fail
  refine (rdUint_any g (b, 0) w1 HI1.out.1).mono ?_
  rintro e w2 ⟨rfl, hg2, hr2⟩
  rw [← HN.out]
  rw [← HS.out] at hr2
  have HI2 : Hid (RdS w2 g S ∧ Below w.heap.size w w2) := Lib.hid ⟨hr2, HI1.out.2.grown hg2 HI1.out.2.size (fun j hj => by injection hj with hj; omega)⟩
  clear hg2 hr2 HI1
  go_wp2_with fail
  refine (rdErr_any g S w2 HI2.out.1).mono ?_
  rintro e w3 ⟨rfl, hb3⟩
  have HI3 : Hid (RdS w3 g S ∧ Below w.heap.size w w3) := Lib.hid ⟨HI2.out.1.keep hb3, HI2.out.2.trans (hb3.mono HI2.out.2.size)⟩
  clear hb3 HI2
  by_cases hf : S.2 = 0 ∧ (n < 1 ∨ 1024 < n)
  · have HP : Hid (getP b = ([], 11)) := Lib.hid (by unfold getP; rw [if_neg HBIG.out, if_pos (by rw [← HN.out, ← HS.out]; exact hf)])
    obtain ⟨h0, hf⟩ := hf
    rw [h0, show ((0 : Nat) : Int) = 0 from rfl]
    by_cases h1 : n < 1
    · have a1 : decide ((n : Int) < 1) = true := decide_eq_true (by omega)
      clear hse h0
      go_wp2_with fail
      go_ret2
      rw [HP.out]
      exact ⟨_, rfl, RowsB.nil _ _, HI3.out.2⟩
    · have a1 : decide ((n : Int) < 1) = false := decide_eq_false (by omega)
      have a2 : decide (1024 < (n : Int)) = true := decide_eq_true (by omega)
      clear hse h0
      go_wp2_with fail
      go_ret2
      rw [HP.out]
      exact ⟨_, rfl, RowsB.nil _ _, HI3.out.2⟩
  · have hn1024 : n ≤ 1024 := by omega
    have HF := Lib.hid hf
    by_cases h0 : S.2 = 0
    · have a1 : decide ((n : Int) < 1) = false := decide_eq_false (by omega)
      have a2 : decide (1024 < (n : Int)) = false := decide_eq_false (by omega)
      rw [h0, show ((0 : Nat) : Int) = 0 from rfl]
      clear hse hf h0
      go_wp2_with fail
      have HI4 := Lib.hid (And.intro HI3.out.1 HI3.out.2)
      clear HI3
      go_loopw [6, 29] (fun out i wr => ∃ (k : Nat), k ≤ n ∧ i = .int .u64 (k : Int) ∧ RdS wr g (readN k S).2 ∧ RowsB wr w.heap.size out k (readN k S).1 ∧ Below w.heap.size w wr) (fun _ i _ => n - (intOf i).toNat)
      case atStart => exact ⟨0, Nat.zero_le _, rfl, HI4.out.1, RowsB.nil _ _, HI4.out.2⟩
      case round =>
        clear HI4
        obtain ⟨k, hk, rfl, hr, hrow, hbk⟩ := hrel
        obtain ⟨A, c, rfl⟩ := hrow.form
        have hbz := hbk.size
        have HI := Lib.hid (And.intro hr (And.intro hrow hbk))
        clear hr hrow hbk
        by_cases hlt : k < n
        · have hki : (k : Int) < (n : Int) := by omega
          go_wp2_with fail
          refine (rdBytes_any g 65577 _ wr HI.out.1 (by omega)).mono ?_
          rintro e w4 ⟨v4, rfl, hg4, hr4, ho4⟩
          obtain ⟨L, hL⟩ : ∃ L, L = (bytesR 65577 (readN k S).2).1 := ⟨_, rfl⟩
          rw [← hL] at ho4
          obtain ⟨A4, c4, rfl⟩ := own_form ho4
          have hLl : L.length ≤ 65577 := by rw [hL]; exact bytesR_len _ _
          have HT4 : Hid (HBT w4 (.slice A4 L.length c4) L) := Lib.hid (own_hbt ho4 rfl)
          have HR4 : Hid (RdS w4 g (bytesR 65577 (readN k S).2).2 ∧ RowsB w4 w.heap.size (.slice A k c) k (readN k S).1 ∧ Below w.heap.size w w4) := Lib.hid ⟨hr4, HI.out.2.1.reader HI.out.1 hg4, HI.out.2.2.grown hg4 HI.out.2.2.size (fun j hj => by injection hj with hj; omega)⟩
          have HNX : Hid (readN (k + 1) S = ((readN k S).1 ++ [L], (bytesR 65577 (readN k S).2).2)) := Lib.hid (by rw [hL]; rfl)
          have hz4 := hg4.size
          obtain ⟨m, hm⟩ : ∃ m, m = L.length := ⟨_, rfl⟩
          rw [← hm] at HT4 hLl ⊢
          clear hL hg4 hr4 ho4 HI hm
          go_wp2_with (
            (at_builtin
             obtain ⟨hl1, vs, hown, hvl, hvs⟩ := HR4.out.2.1
             have hcellA := (Blk.new w4 24 #[.slice A4 m c4]).cell 0
             refine wpList_append_own _ rfl (.tmp 31) (.tmp 34) 22 rfl w.heap.size 24 ir (.slice none 0 0) 1 24 Tryd.underlying22 HIR.out hzr hsr hbr rfl (by decide) (.slice A k c) k vs rfl (hown.alloc _) ⟨w4.heap.size, 0, none⟩ 1 1 [.slice A4 m c4] rfl rfl (fun j u hj => by
               match j with
               | 0 => simp at hj; subst hj; rw [add0]; exact hcellA
               | j + 1 => simp at hj) (fun u hu => by simp at hu; subst hu; rfl) (by simp only [maxLen]; omega) (by omega) (by simp; omega) ?_
             intro v5 w5 hown5 hgrow5 _
             have hB4 : Below w4.heap.size w4 (w4.alloc (.cells #[.slice A4 m c4] 24)) := (Below.refl _ _).alloc (Nat.le_refl _) _
             have HR5 : Hid (RdS w5 g (readN (k + 1) S).2 ∧ RowsB w5 w.heap.size v5 (k + 1) (readN (k + 1) S).1 ∧ Below w.heap.size w w5) := Lib.hid (by
               rw [HNX.out]
               exact ⟨(HR4.out.1.keep hB4).turn (hown.alloc _) hgrow5, RowsB.snoc hl1 (hown.alloc _) hvl (fun i u l hu hl => (hvs i u l hu hl).keep hB4) (HT4.out.keep hB4) hgrow5 hown5, (HR4.out.2.2.trans (hB4.mono HR4.out.2.2.size)).grown hgrow5 (by simp; omega) (fun j hj => own_ge hown j hj)⟩)
             clear hown hvl hvs hl1 hown5 hgrow5 hB4 hcellA HR4 HT4))
          go_roundw
          case rel => exact ⟨k + 1, by omega, by go_num, HR5.out⟩
          case measure => simp [intOf]; omega
        · obtain rfl : k = n := by omega
          go_wp2_with fail
          refine (rdEnd_any g (readN k S).2 wr HI.out.1).mono ?_
          rintro e w4 ⟨rfl, hb4⟩
          obtain ⟨E, hE⟩ : ∃ E, E = endR (readN k S).2 := ⟨_, rfl⟩
          rw [← hE]
          have HI4 : Hid (RowsB w4 w.heap.size (.slice A k c) k (readN k S).1 ∧ Below w.heap.size w w4) := Lib.hid ⟨HI.out.2.1.keep hb4, HI.out.2.2.trans (hb4.mono hbz)⟩
          have HE := Lib.hid hE
          clear hb4 HI hE
          by_cases hE0 : E = 0
          · subst hE0
            obtain ⟨ls, hls⟩ : ∃ ls, ls = (readN k S).1 := ⟨_, rfl⟩
            rw [← hls] at HI4
            have HLS := Lib.hid hls
            have hll : ls.length = k := by rw [hls]; exact readN_length _ _
            have HLL := Lib.hid hll
            clear hls hll
            rw [show ((0 : Nat) : Int) = 0 from rfl]
            go_wp2_with fail
            go_loopw [44] (fun i W => ∃ j : Nat, j ≤ k ∧ i = .int .i64 (j : Int) ∧ Hid (∀ (t : Nat) (l : List UInt8), t < j → ls[t]? = some l → mayB l.length = true) ∧ W = w4) (fun i _ => k - (intOf i).toNat)
            case atStart => exact ⟨0, Nat.zero_le _, rfl, Lib.hid (fun t l ht => absurd ht (by omega)), rfl⟩
            case round =>
              obtain ⟨j, hj, rfl, HM, rfl⟩ := hrel
              by_cases hjk : j < k
              · obtain ⟨l, hl⟩ : ∃ l, ls[j]? = some l := ⟨_, List.getElem?_eq_getElem (by rw [HLL.out]; exact hjk)⟩
                obtain ⟨gr, u, hA, hc, hu⟩ := HI4.out.1.at_ hl
                obtain rfl := hA
                obtain ⟨pu, cu, rfl, hul, hum⟩ := hu.1.form
                have hji : (j : Int) < (k : Int) := by omega
                obtain ⟨m, hm⟩ : ∃ m, m = l.length := ⟨_, rfl⟩
                rw [← hm] at hc hul
                have HL := Lib.hid hl
                have HMM := Lib.hid hm
                clear hl hu hm
                by_cases hmay : mayB (m : Int) = true
                · have HM3 : Hid (∀ (t : Nat) (l : List UInt8), t < j + 1 → ls[t]? = some l → mayB l.length = true) := Lib.hid (fun t l' ht he => by
                    by_cases e : t = j
                    · subst e; rw [HL.out] at he; injection he with he; subst he; rw [← HMM.out]; exact hmay
                    · exact HM.out t l' (by omega) he)
                  go_wp2_with fail
                  refine (may_any _ _).mono ?_
                  rintro e w5 ⟨rfl, rfl⟩
                  rw [hmay]
                  go_wp2_with fail
                  go_roundw
                  case rel => exact ⟨j + 1, by omega, by go_num, HM3, by first | trivial | rfl⟩
                  case measure => simp [intOf]; omega
                · have hmf : mayB (m : Int) = false := by simpa using hmay
                  have HP : Hid (getP b = ([], 11)) := Lib.hid (by
                    unfold getP
                    rw [if_neg HBIG.out, ← HN.out, ← HS.out, if_neg HF.out, if_pos HE.out.symm, if_neg]
                    rw [← HLS.out, allB_no HL.out (by rw [← HMM.out]; exact hmf)]
                    simp)
                  clear hmay
                  go_wp2_with fail
                  refine (may_any _ _).mono ?_
                  rintro e w5 ⟨rfl, rfl⟩
                  rw [hmf]
                  go_wp2_with fail
                  go_ret2
                  rw [HP.out]
                  exact ⟨_, rfl, RowsB.nil _ _, HI4.out.2⟩
              · obtain rfl : j = k := by omega
                have HP : Hid (getP b = (ls, 0)) := Lib.hid (by
                  unfold getP
                  rw [if_neg HBIG.out, ← HN.out, ← HS.out, if_neg HF.out, if_pos HE.out.symm, if_pos, HLS.out]
                  rw [← HLS.out]
                  exact allB_mk fun i l hi => HM.out i l (by have := (List.getElem?_eq_some_iff.1 hi).1; rw [HLL.out] at this; exact this) hi)
                go_wp2_with fail
                go_ret2
                rw [HP.out, HLL.out]
                exact ⟨_, rfl, HI4.out⟩
          · have HP : Hid (getP b = ([], E)) := Lib.hid (by
              unfold getP
              rw [if_neg HBIG.out, ← HN.out, ← HS.out, if_neg HF.out, if_neg (by rw [← HE.out]; exact hE0), HE.out])
            have hEi : ¬ (E : Int) = 0 := by omega
            go_wp2_with fail
            go_ret2
            rw [HP.out]
            exact ⟨_, rfl, RowsB.nil _ _, HI4.out.2⟩
    · have h0i : ¬ (S.2 : Int) = 0 := by omega
      clear hse hf h0
      go_wp2_with fail
      have HI4 := Lib.hid (And.intro HI3.out.1 HI3.out.2)
      clear HI3
      go_loopw [6, 29] (fun out i wr => ∃ (k : Nat), k ≤ n ∧ i = .int .u64 (k : Int) ∧ RdS wr g (readN k S).2 ∧ RowsB wr w.heap.size out k (readN k S).1 ∧ Below w.heap.size w wr) (fun _ i _ => n - (intOf i).toNat)
      case atStart => exact ⟨0, Nat.zero_le _, rfl, HI4.out.1, RowsB.nil _ _, HI4.out.2⟩
      case round =>
        clear HI4
        obtain ⟨k, hk, rfl, hr, hrow, hbk⟩ := hrel
        obtain ⟨A, c, rfl⟩ := hrow.form
        have hbz := hbk.size
        have HI := Lib.hid (And.intro hr (And.intro hrow hbk))
        clear hr hrow hbk
        by_cases hlt : k < n
        · have hki : (k : Int) < (n : Int) := by omega
          go_wp2_with fail
          refine (rdBytes_any g 65577 _ wr HI.out.1 (by omega)).mono ?_
          rintro e w4 ⟨v4, rfl, hg4, hr4, ho4⟩
          obtain ⟨L, hL⟩ : ∃ L, L = (bytesR 65577 (readN k S).2).1 := ⟨_, rfl⟩
          rw [← hL] at ho4
          obtain ⟨A4, c4, rfl⟩ := own_form ho4
          have hLl : L.length ≤ 65577 := by rw [hL]; exact bytesR_len _ _
          have HT4 : Hid (HBT w4 (.slice A4 L.length c4) L) := Lib.hid (own_hbt ho4 rfl)
          have HR4 : Hid (RdS w4 g (bytesR 65577 (readN k S).2).2 ∧ RowsB w4 w.heap.size (.slice A k c) k (readN k S).1 ∧ Below w.heap.size w w4) := Lib.hid ⟨hr4, HI.out.2.1.reader HI.out.1 hg4, HI.out.2.2.grown hg4 HI.out.2.2.size (fun j hj => by injection hj with hj; omega)⟩
          have HNX : Hid (readN (k + 1) S = ((readN k S).1 ++ [L], (bytesR 65577 (readN k S).2).2)) := Lib.hid (by rw [hL]; rfl)
          have hz4 := hg4.size
          obtain ⟨m, hm⟩ : ∃ m, m = L.length := ⟨_, rfl⟩
          rw [← hm] at HT4 hLl ⊢
          clear hL hg4 hr4 ho4 HI hm
          go_wp2_with (
            (at_builtin
             obtain ⟨hl1, vs, hown, hvl, hvs⟩ := HR4.out.2.1
             have hcellA := (Blk.new w4 24 #[.slice A4 m c4]).cell 0
             refine wpList_append_own _ rfl (.tmp 31) (.tmp 34) 22 rfl w.heap.size 24 ir (.slice none 0 0) 1 24 Tryd.underlying22 HIR.out hzr hsr hbr rfl (by decide) (.slice A k c) k vs rfl (hown.alloc _) ⟨w4.heap.size, 0, none⟩ 1 1 [.slice A4 m c4] rfl rfl (fun j u hj => by
               match j with
               | 0 => simp at hj; subst hj; rw [add0]; exact hcellA
               | j + 1 => simp at hj) (fun u hu => by simp at hu; subst hu; rfl) (by simp only [maxLen]; omega) (by omega) (by simp; omega) ?_
             intro v5 w5 hown5 hgrow5 _
             have hB4 : Below w4.heap.size w4 (w4.alloc (.cells #[.slice A4 m c4] 24)) := (Below.refl _ _).alloc (Nat.le_refl _) _
             have HR5 : Hid (RdS w5 g (readN (k + 1) S).2 ∧ RowsB w5 w.heap.size v5 (k + 1) (readN (k + 1) S).1 ∧ Below w.heap.size w w5) := Lib.hid (by
               rw [HNX.out]
               exact ⟨(HR4.out.1.keep hB4).turn (hown.alloc _) hgrow5, RowsB.snoc hl1 (hown.alloc _) hvl (fun i u l hu hl => (hvs i u l hu hl).keep hB4) (HT4.out.keep hB4) hgrow5 hown5, (HR4.out.2.2.trans (hB4.mono HR4.out.2.2.size)).grown hgrow5 (by simp; omega) (fun j hj => own_ge hown j hj)⟩)
             clear hown hvl hvs hl1 hown5 hgrow5 hB4 hcellA HR4 HT4))
          go_roundw
          case rel => exact ⟨k + 1, by omega, by go_num, HR5.out⟩
          case measure => simp [intOf]; omega
        · obtain rfl : k = n := by omega
          go_wp2_with fail
          refine (rdEnd_any g (readN k S).2 wr HI.out.1).mono ?_
          rintro e w4 ⟨rfl, hb4⟩
          obtain ⟨E, hE⟩ : ∃ E, E = endR (readN k S).2 := ⟨_, rfl⟩
          rw [← hE]
          have HI4 : Hid (RowsB w4 w.heap.size (.slice A k c) k (readN k S).1 ∧ Below w.heap.size w w4) := Lib.hid ⟨HI.out.2.1.keep hb4, HI.out.2.2.trans (hb4.mono hbz)⟩
          have HE := Lib.hid hE
          clear hb4 HI hE
          by_cases hE0 : E = 0
          · subst hE0
            obtain ⟨ls, hls⟩ : ∃ ls, ls = (readN k S).1 := ⟨_, rfl⟩
            rw [← hls] at HI4
            have HLS := Lib.hid hls
            have hll : ls.length = k := by rw [hls]; exact readN_length _ _
            have HLL := Lib.hid hll
            clear hls hll
            rw [show ((0 : Nat) : Int) = 0 from rfl]
            go_wp2_with fail
            go_loopw [44] (fun i W => ∃ j : Nat, j ≤ k ∧ i = .int .i64 (j : Int) ∧ Hid (∀ (t : Nat) (l : List UInt8), t < j → ls[t]? = some l → mayB l.length = true) ∧ W = w4) (fun i _ => k - (intOf i).toNat)
            case atStart => exact ⟨0, Nat.zero_le _, rfl, Lib.hid (fun t l ht => absurd ht (by omega)), rfl⟩
            case round =>
              obtain ⟨j, hj, rfl, HM, rfl⟩ := hrel
              by_cases hjk : j < k
              · obtain ⟨l, hl⟩ : ∃ l, ls[j]? = some l := ⟨_, List.getElem?_eq_getElem (by rw [HLL.out]; exact hjk)⟩
                obtain ⟨gr, u, hA, hc, hu⟩ := HI4.out.1.at_ hl
                obtain rfl := hA
                obtain ⟨pu, cu, rfl, hul, hum⟩ := hu.1.form
                have hji : (j : Int) < (k : Int) := by omega
                obtain ⟨m, hm⟩ : ∃ m, m = l.length := ⟨_, rfl⟩
                rw [← hm] at hc hul
                have HL := Lib.hid hl
                have HMM := Lib.hid hm
                clear hl hu hm
                by_cases hmay : mayB (m : Int) = true
                · have HM3 : Hid (∀ (t : Nat) (l : List UInt8), t < j + 1 → ls[t]? = some l → mayB l.length = true) := Lib.hid (fun t l' ht he => by
                    by_cases e : t = j
                    · subst e; rw [HL.out] at he; injection he with he; subst he; rw [← HMM.out]; exact hmay
                    · exact HM.out t l' (by omega) he)
                  go_wp2_with fail
                  refine (may_any _ _).mono ?_
                  rintro e w5 ⟨rfl, rfl⟩
                  rw [hmay]
                  go_wp2_with fail
                  go_roundw
                  case rel => exact ⟨j + 1, by omega, by go_num, HM3, by first | trivial | rfl⟩
                  case measure => simp [intOf]; omega
                · have hmf : mayB (m : Int) = false := by simpa using hmay
                  have HP : Hid (getP b = ([], 11)) := Lib.hid (by
                    unfold getP
                    rw [if_neg HBIG.out, ← HN.out, ← HS.out, if_neg HF.out, if_pos HE.out.symm, if_neg]
                    rw [← HLS.out, allB_no HL.out (by rw [← HMM.out]; exact hmf)]
                    simp)
                  clear hmay
                  go_wp2_with fail
                  refine (may_any _ _).mono ?_
                  rintro e w5 ⟨rfl, rfl⟩
                  rw [hmf]
                  go_wp2_with fail
                  go_ret2
                  rw [HP.out]
                  exact ⟨_, rfl, RowsB.nil _ _, HI4.out.2⟩
              · obtain rfl : j = k := by omega
                have HP : Hid (getP b = (ls, 0)) := Lib.hid (by
                  unfold getP
                  rw [if_neg HBIG.out, ← HN.out, ← HS.out, if_neg HF.out, if_pos HE.out.symm, if_pos, HLS.out]
                  rw [← HLS.out]
                  exact allB_mk fun i l hi => HM.out i l (by have := (List.getElem?_eq_some_iff.1 hi).1; rw [HLL.out] at this; exact this) hi)
                go_wp2_with fail
                go_ret2
                rw [HP.out, HLL.out]
                exact ⟨_, rfl, HI4.out⟩
          · have HP : Hid (getP b = ([], E)) := Lib.hid (by
              unfold getP
              rw [if_neg HBIG.out, ← HN.out, ← HS.out, if_neg HF.out, if_neg (by rw [← HE.out]; exact hE0), HE.out])
            have hEi : ¬ (E : Int) = 0 := by omega
            go_wp2_with fail
            go_ret2
            rw [HP.out]
            exact ⟨_, rfl, RowsB.nil _ _, HI4.out.2⟩
end Go.Proofs.YtlopiinkpdpakaaDoor
