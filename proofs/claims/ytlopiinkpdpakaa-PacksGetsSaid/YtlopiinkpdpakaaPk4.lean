/-
  The walk of the reference's Get (13).
-/
import Derived.Test.YtlopiinkpdpakaaCd5
import Derived.Test.YtlopiinkpdpakaaPk1
import Derived.Test.YtlopiinkpdpakaaRw
namespace Go.Proofs.Ytlopiinkpdpakaa
open Go Go.RowKit
set_option linter.unusedSimpArgs false
set_option linter.unusedVariables false

theorem two_grown (w : World) (g : Nat) (a b : Value) : w.grownBy ((w.setCell ⟨g, 0, none⟩ a).setCell ⟨g, 1, none⟩ b) (some g) := Only.store (p := ⟨g, 1, none⟩) (Only.store (p := ⟨g, 0, none⟩) (World.grownBy.refl w (some g)) (.inl rfl) a) (.inl rfl) b
theorem infoStr : ∃ i, Try.prog.info? 9 = some i ∧ i.zero = some (.string ByteArray.empty) ∧ i.size = 1 ∧ i.bytes = 16 := by
  have h : (Try.prog.info? 9).map (fun i => (i.zero, i.size, i.bytes)) = some (some (.string ByteArray.empty), 1, 16) := by kernel_rfl
  obtain ⟨i, hi, he⟩ := Option.map_eq_some_iff.1 h
  simp only [Prod.mk.injEq] at he
  exact ⟨i, hi, he.1, he.2.1, he.2.2⟩
def strV (l : List UInt8) : Value := .string (bs l)
/-- a row of strings of the call's own -/
def StrR (w : World) (base : Nat) (v : Value) (n : Nat) (ls : List (List UInt8)) : Prop := w.ownsRow base 9 1 v n (ls.map strV)
theorem StrR.len {w : World} {base n : Nat} {v : Value} {ls : List (List UInt8)} (h : StrR w base v n ls) : ls.length = n := by
  have := h.1
  simpa using this
theorem StrR.keep {w w' : World} {base n : Nat} {v : Value} {ls : List (List UInt8)} (h : StrR w base v n ls) (hb : Below w.heap.size w w') : StrR w' base v n ls := own_below h hb
theorem StrR.at_ {w : World} {base n c : Nat} {A : Option Addr} {ls : List (List UInt8)} (h : StrR w base (.slice A n c) n ls) {i : Nat} {l : List UInt8} (hi : ls[i]? = some l) : ∃ g, A = some ⟨g, 0, none⟩ ∧ w.cell? ⟨g, i, none⟩ = some (.string (bs l)) := by
  have hin : i < n := by have := (List.getElem?_eq_some_iff.1 hi).1; have := h.len; omega
  obtain ⟨g, cap, cur, e, hb, hg, _⟩ := own_blk h (by omega)
  injection e with e1 _ _
  subst e1
  have hcell := World.ownsRow.cells h rfl i (strV l) (by rw [List.getElem?_map, hi]; rfl)
  rw [addi, Nat.zero_add] at hcell
  exact ⟨g, rfl, hcell⟩

theorem bytesR_left (m : Nat) (s : Rst) : (bytesR m s).2.1.length ≤ s.1.length := by
  have h1 : (uintR s).2.1.length ≤ s.1.length := by
    unfold uintR
    split
    · obtain ⟨j, hj, e⟩ := uintG_left 0 0 s.1
      rw [e, List.length_drop]; omega
    · exact Nat.le_refl _
  unfold bytesR
  split
  · rename_i h0
    split
    · exact h1
    · simp only [takC, h0, ↓reduceIte]
      split
      · exact h1
      · simp only [List.length_drop]; omega
  · exact h1
theorem readN_left (k : Nat) (s : Rst) : (readN k s).2.1.length ≤ s.1.length := by
  induction k with
  | zero => exact Nat.le_refl _
  | succ k ih => exact Nat.le_trans (bytesR_left _ _) ih
/-- is one of the blobs too small? -/
def smallB (ls : List (List UInt8)) : Bool := ls.any fun l => decide (l.length < 41)
theorem smallB_snoc (ls : List (List UInt8)) (l : List UInt8) : smallB (ls ++ [l]) = (smallB ls || decide (l.length < 41)) := by simp [smallB]
theorem small_all {ls : List (List UInt8)} (h : ∀ l ∈ ls, l.length ≤ 65577) : allB ls = !smallB ls := by
  induction ls with
  | nil => rfl
  | cons l r ih =>
    have h1 := ih (fun x hx => h x (by simp [hx]))
    have h2 := h l (by simp)
    simp only [allB, smallB, List.all_cons, List.any_cons] at h1 ⊢
    rw [h1]
    by_cases h3 : l.length < 41
    · rw [mayB_lo (by omega)]; simp [h3]
    · rw [mayB_mk (by omega) (by omega)]; simp [h3]
theorem getP_err {b : List UInt8} (h1 : ¬ 1048576 < b.length) (h2 : ¬ (uintR (b, 0)).2.2 = 0) : getP b = ([], (uintR (b, 0)).2.2) := by
  have hn : (uintR (b, 0)).1 = 0 := by
    have := uintG_err 0 0 b
    have e : uintR (b, 0) = uintG 0 0 b := by simp [uintR]
    rw [e] at h2 ⊢
    rcases this with h | h
    · exact absurd h h2
    · exact h
  have he : endR (uintR (b, 0)).2 = (uintR (b, 0)).2.2 := by unfold endR; rw [if_neg h2]
  unfold getP
  rw [if_neg h1, if_neg (fun h => h2 h.1), hn]
  show (if endR (uintR (b, 0)).2 = 0 then _ else _) = _
  rw [if_neg (by rw [he]; exact h2)]
  show ([], endR (uintR (b, 0)).2) = _
  rw [he]

set_option maxRecDepth 100000 in
set_option maxHeartbeats 4000000 in
theorem refGet_any (s : ByteArray) (w : World) (hb : s.size ≤ 1000000000) :
    Calls Try.prog 8 #[.string s] w fun e w' => ∃ v', e = .returned (.tuple #[v', .int .i64 ((getP (sb s)).2 : Int)]) ∧ StrR w' w.heap.size v' (getP (sb s)).1.length (getP (sb s)).1 ∧ Below w.heap.size w w' := by
  obtain ⟨z, hz⟩ : ∃ z, z = s.size := ⟨_, rfl⟩
  obtain ⟨is, his, hzs, hss, hbs⟩ := infoStr
  have HIS := Lib.hid his; clear his
  have hzl : z = (sb s).length := by rw [sb_length]; exact hz
  by_cases hbig : 1048576 < z
  · have HP : Hid (getP (sb s) = ([], 13)) := Lib.hid (by unfold getP; rw [if_pos (by rw [← hzl]; exact hbig)])
    have hbi : (1048576 : Int) < (s.size : Int) := by omega
    clear hz hzl
    go_enter Try.func8, Try.ntmps8
    go_wp2_with fail
    go_ret2
    rw [HP.out]
    exact ⟨_, rfl, World.ownsRow_nil _ _ _ _, Below.refl _ _⟩
  have HBIG : Hid (¬ 1048576 < (sb s).length) := Lib.hid (by rw [← hzl]; exact hbig)
  have hbi : ¬ (1048576 : Int) < (s.size : Int) := by omega
  clear hz hzl hbig
  obtain ⟨n, hn⟩ : ∃ n, n = (uintR (sb s, 0)).1 := ⟨_, rfl⟩
  obtain ⟨L, hL⟩ : ∃ L, L = (uintR (sb s, 0)).2.1 := ⟨_, rfl⟩
  obtain ⟨E, hE⟩ : ∃ E, E = (uintR (sb s, 0)).2.2 := ⟨_, rfl⟩
  have hn64 : n < 18446744073709551616 := by rw [hn]; exact uintR_lt _
  have hLs : L.length ≤ s.size := by
    rw [hL, ← sb_length]
    unfold uintR
    split
    · obtain ⟨j, hj, e⟩ := uintG_left 0 0 (sb s)
      rw [e, List.length_drop]; omega
    · exact Nat.le_refl _
  have HN := Lib.hid hn
  have HL := Lib.hid hL
  have HE := Lib.hid hE
  have HU : Hid (rfV (uintR (sb s, 0)).2 = .agg #[.string (bs L), .int .i64 (E : Int)]) := Lib.hid (by rw [hL, hE]; rfl)
  have hn0 : (0 : Int) ≤ (n : Int) := by omega
  clear hn hL hE
  go_enter Try.func8, Try.ntmps8
  go_wp2_with fail
  have h00 : ((0 : Nat) : Int) = 0 := rfl
  rw [← h00]
  refine (refUint_any s 0 _ hb).mono ?_
  rintro e w1 ⟨rfl, hb1⟩
  rw [HU.out, ← HN.out]
  have HB1 := Lib.hid hb1
  have hz1 := hb1.size
  clear hb1 h00
  by_cases h0 : E = 0
  · subst h0
    by_cases hf : n < 1 ∨ 1024 < n
    · have HP : Hid (getP (sb s) = ([], 11)) := Lib.hid (by unfold getP; rw [if_neg HBIG.out, if_pos ⟨HE.out.symm, by rw [← HN.out]; exact hf⟩])
      by_cases h1 : n < 1
      · have a1 : decide ((n : Int) < 1) = true := decide_eq_true (by omega)
        go_wp2_with fail
        go_ret2
        rw [HP.out]
        exact ⟨_, rfl, World.ownsRow_nil _ _ _ _, HB1.out.alloc hz1 _⟩
      · have a1 : decide ((n : Int) < 1) = false := decide_eq_false (by omega)
        have a2 : decide (1024 < (n : Int)) = true := decide_eq_true (by omega)
        go_wp2_with fail
        go_ret2
        rw [HP.out]
        exact ⟨_, rfl, World.ownsRow_nil _ _ _ _, HB1.out.alloc hz1 _⟩
    have a1 : decide ((n : Int) < 1) = false := decide_eq_false (by omega)
    have a2 : decide (1024 < (n : Int)) = false := decide_eq_false (by omega)
    have hn1024 : n ≤ 1024 := by omega
    have HF := Lib.hid hf
    clear hf
    go_wp2_with fail
    refine wp_abs (fun W => ∃ g, g = w1.heap.size ∧ Blk W g 51 #[.string (bs L), .int .i64 0] ∧ Below w.heap.size w W) ⟨_, rfl, Blk.new _ _ _, HB1.out.alloc hz1 _⟩ ?_
    rintro W0 ⟨g, hg, hI⟩
    rw [← hg]
    have hgw : w.heap.size ≤ g := by rw [hg]; exact hz1
    have HI0 := Lib.hid hI
    clear hI hg
    obtain ⟨S, hS⟩ : ∃ S : Rst, S = (L, 0) := ⟨_, rfl⟩
    have HS : Hid (S = (uintR (sb s, 0)).2) := Lib.hid (hS.trans (Prod.ext HL.out HE.out))
    have HSL : Hid (S = (L, 0)) := Lib.hid hS
    clear hS
    go_loopw [6, 7, 8] (fun out sm i wr => ∃ (k : Nat), k ≤ n ∧ i = .int .u64 (k : Int) ∧ sm = .bool (smallB (readN k S).1) ∧ Blk wr g 51 #[.string (bs (readN k S).2.1), .int .i64 ((readN k S).2.2 : Int)] ∧ StrR wr w.heap.size out k (readN k S).1 ∧ Below w.heap.size w wr) (fun _ _ i _ => n - (intOf i).toNat)
    case atStart => exact ⟨0, Nat.zero_le _, rfl, rfl, by rw [HSL.out]; exact HI0.out.1, World.ownsRow_nil _ _ _ _, HI0.out.2⟩
    case round =>
      clear HI0
      obtain ⟨k, hk, rfl, rfl, hbl, hrow, hbk⟩ := hrel
      obtain ⟨A, c, rfl⟩ := own_form hrow
      have hbz := hbk.size
      obtain ⟨T, hT⟩ : ∃ T, T = (readN k S).2 := ⟨_, rfl⟩
      obtain ⟨sm, hsm⟩ : ∃ sm, sm = smallB (readN k S).1 := ⟨_, rfl⟩
      have hTl : (bs T.1).size ≤ 1000000000 := by
        rw [bs_size, hT]
        have h := readN_left k S
        rw [show S.1 = L by rw [HSL.out]] at h
        omega
      rw [← hT] at hbl
      rw [← hsm]
      have HT := Lib.hid hT
      have HSM := Lib.hid hsm
      have c0 := hbl.cell 0
      have c1 := hbl.cell 1
      have f0 := hbl.frozen 0
      have f1 := hbl.frozen 1
      simp only [List.getElem?_toArray, List.getElem?_cons_succ, List.getElem?_cons_zero] at c0 c1
      have HI := Lib.hid (And.intro hbl (And.intro hrow hbk))
      clear hT hsm hbl hrow hbk
      by_cases hlt : k < n
      · have hki : (k : Int) < (n : Int) := by omega
        go_wp2_with fail
        refine (refBytes_any (bs T.1) T.2 65577 wr hTl (by omega)).mono ?_
        rintro e w4 ⟨rfl, hb4⟩
        rw [sb_bs, show ((T.1, T.2) : Rst) = T from rfl]
        obtain ⟨l, hl⟩ : ∃ l, l = (bytesR 65577 T).1 := ⟨_, rfl⟩
        have hll : l.length ≤ 65577 := by rw [hl]; exact bytesR_len _ _
        have HNX : Hid (readN (k + 1) S = ((readN k S).1 ++ [l], (bytesR 65577 T).2)) := Lib.hid (by rw [hl, HT.out]; rfl)
        have HRV : Hid (rfV (bytesR 65577 T).2 = .agg #[.string (bs (bytesR 65577 T).2.1), .int .i64 ((bytesR 65577 T).2.2 : Int)]) := Lib.hid rfl
        rw [← hl, HRV.out]
        have HB4 := Lib.hid hb4
        have hz4 := hb4.size
        have hbl4 := HI.out.1.below hb4 HI.out.1.lt
        have d0 := hbl4.cell 0
        have d1 := hbl4.cell 1
        have g0 := hbl4.frozen 0
        have g1 := hbl4.frozen 1
        simp only [List.getElem?_toArray, List.getElem?_cons_succ, List.getElem?_cons_zero] at d0 d1
        have hlsz := bs_size l
        clear hb4 hl hbl4
        cases sm with
        | true =>
          have HSS : Hid (smallB (readN (k + 1) S).1 = true) := Lib.hid (by rw [HNX.out, smallB_snoc, ← HSM.out]; rfl)
          go_wp2_with (
            (at_builtin
             have hbase : w.heap.size ≤ w4.heap.size := by omega
             have hgr : w4.grownBy ((w4.setCell ⟨g, 0, none⟩ (.string (bs (bytesR 65577 T).2.1))).setCell ⟨g, 1, none⟩ (.int .i64 ((bytesR 65577 T).2.2 : Int))) (some g) := two_grown _ _ _ _
             have hb4r := HI.out.1.below HB4.out HI.out.1.lt
             have hown5 := (own_below HI.out.2.1 HB4.out).kept hgr (.inr (fun e => own_ne_blk (own_below HI.out.2.1 HB4.out) hb4r (by decide) e.symm))
             have hnew := (Blk.new ((w4.setCell ⟨g, 0, none⟩ (.string (bs (bytesR 65577 T).2.1))).setCell ⟨g, 1, none⟩ (.int .i64 ((bytesR 65577 T).2.2 : Int))) 9 #[.string (bs l)]).cell 0
             have hzz : ((w4.setCell ⟨g, 0, none⟩ (.string (bs (bytesR 65577 T).2.1))).setCell ⟨g, 1, none⟩ (.int .i64 ((bytesR 65577 T).2.2 : Int))).heap.size = w4.heap.size := by simp [World.setCell]
             rw [hzz] at hnew
             refine wpList_append_own _ rfl (.tmp 47) (.tmp 49) 28 rfl w.heap.size 9 is (.string ByteArray.empty) 1 16 Try.underlying28 HIS.out hzs hss hbs rfl (by decide) (.slice A k c) k _ rfl (hown5.alloc _) ⟨w4.heap.size, 0, none⟩ 1 1 [.string (bs l)] rfl rfl (fun j u hj => by
               match j with
               | 0 => simp at hj; subst hj; rw [add0]; exact hnew
               | j + 1 => simp at hj) (fun u hu => by simp at hu; subst hu; rfl) (by simp only [maxLen]; omega) (by omega) (by simp; omega) ?_
             intro v5 w5 hown6 hgrow5 _
             have hR := ((two_store hb4r (.string (bs (bytesR 65577 T).2.1)) (.int .i64 ((bytesR 65577 T).2.2 : Int))).alloc (.cells #[.string (bs l)] 9)).grown hgrow5 (fun e => own_ne_blk (hown5.alloc (.cells #[.string (bs l)] 9)) ((two_store hb4r (.string (bs (bytesR 65577 T).2.1)) (.int .i64 ((bytesR 65577 T).2.2 : Int))).alloc _) (by decide) e)
             have hB5 := ((((HI.out.2.2.trans (HB4.out.mono hbz)).setCell (p := ⟨g, 0, none⟩) hgw (.string (bs (bytesR 65577 T).2.1))).setCell (p := ⟨g, 1, none⟩) hgw (.int .i64 ((bytesR 65577 T).2.2 : Int))).alloc (by rw [hzz]; exact hbase) (.cells #[.string (bs l)] 9)).grown hgrow5 (by simp; omega) (fun j hj => own_ge hown5 j hj)
             have HR5 : Hid (Blk w5 g 51 #[.string (bs (readN (k + 1) S).2.1), .int .i64 ((readN (k + 1) S).2.2 : Int)] ∧ StrR w5 w.heap.size v5 (k + 1) (readN (k + 1) S).1 ∧ Below w.heap.size w w5) := Lib.hid (by
               rw [HNX.out]
               refine ⟨hR, ?_, hB5⟩
               unfold StrR; rw [List.map_append]; exact hown6)
             clear hown5 hnew hzz hown6 hgrow5 hR hB5 hb4r hgr HI HB4))
          go_roundw
          case rel => exact ⟨k + 1, by omega, by go_num, by rw [HSS.out], HR5.out⟩
          case measure => simp [intOf]; omega
        | false =>
          by_cases h41 : l.length < 41
          · have a3 : decide ((l.length : Int) < 41) = true := decide_eq_true (by omega)
            have HSS : Hid (smallB (readN (k + 1) S).1 = true) := Lib.hid (by rw [HNX.out, smallB_snoc, ← HSM.out]; simp [h41])
            go_wp2_with (
              (at_builtin
               have hbase : w.heap.size ≤ w4.heap.size := by omega
               have hgr : w4.grownBy ((w4.setCell ⟨g, 0, none⟩ (.string (bs (bytesR 65577 T).2.1))).setCell ⟨g, 1, none⟩ (.int .i64 ((bytesR 65577 T).2.2 : Int))) (some g) := two_grown _ _ _ _
               have hb4r := HI.out.1.below HB4.out HI.out.1.lt
               have hown5 := (own_below HI.out.2.1 HB4.out).kept hgr (.inr (fun e => own_ne_blk (own_below HI.out.2.1 HB4.out) hb4r (by decide) e.symm))
               have hnew := (Blk.new ((w4.setCell ⟨g, 0, none⟩ (.string (bs (bytesR 65577 T).2.1))).setCell ⟨g, 1, none⟩ (.int .i64 ((bytesR 65577 T).2.2 : Int))) 9 #[.string (bs l)]).cell 0
               have hzz : ((w4.setCell ⟨g, 0, none⟩ (.string (bs (bytesR 65577 T).2.1))).setCell ⟨g, 1, none⟩ (.int .i64 ((bytesR 65577 T).2.2 : Int))).heap.size = w4.heap.size := by simp [World.setCell]
               rw [hzz] at hnew
               refine wpList_append_own _ rfl (.tmp 47) (.tmp 49) 28 rfl w.heap.size 9 is (.string ByteArray.empty) 1 16 Try.underlying28 HIS.out hzs hss hbs rfl (by decide) (.slice A k c) k _ rfl (hown5.alloc _) ⟨w4.heap.size, 0, none⟩ 1 1 [.string (bs l)] rfl rfl (fun j u hj => by
                 match j with
                 | 0 => simp at hj; subst hj; rw [add0]; exact hnew
                 | j + 1 => simp at hj) (fun u hu => by simp at hu; subst hu; rfl) (by simp only [maxLen]; omega) (by omega) (by simp; omega) ?_
               intro v5 w5 hown6 hgrow5 _
               have hR := ((two_store hb4r (.string (bs (bytesR 65577 T).2.1)) (.int .i64 ((bytesR 65577 T).2.2 : Int))).alloc (.cells #[.string (bs l)] 9)).grown hgrow5 (fun e => own_ne_blk (hown5.alloc (.cells #[.string (bs l)] 9)) ((two_store hb4r (.string (bs (bytesR 65577 T).2.1)) (.int .i64 ((bytesR 65577 T).2.2 : Int))).alloc _) (by decide) e)
               have hB5 := ((((HI.out.2.2.trans (HB4.out.mono hbz)).setCell (p := ⟨g, 0, none⟩) hgw (.string (bs (bytesR 65577 T).2.1))).setCell (p := ⟨g, 1, none⟩) hgw (.int .i64 ((bytesR 65577 T).2.2 : Int))).alloc (by rw [hzz]; exact hbase) (.cells #[.string (bs l)] 9)).grown hgrow5 (by simp; omega) (fun j hj => own_ge hown5 j hj)
               have HR5 : Hid (Blk w5 g 51 #[.string (bs (readN (k + 1) S).2.1), .int .i64 ((readN (k + 1) S).2.2 : Int)] ∧ StrR w5 w.heap.size v5 (k + 1) (readN (k + 1) S).1 ∧ Below w.heap.size w w5) := Lib.hid (by
                 rw [HNX.out]
                 refine ⟨hR, ?_, hB5⟩
                 unfold StrR; rw [List.map_append]; exact hown6)
               clear hown5 hnew hzz hown6 hgrow5 hR hB5 hb4r hgr HI HB4))
            go_roundw
            case rel => exact ⟨k + 1, by omega, by go_num, by rw [HSS.out], HR5.out⟩
            case measure => simp [intOf]; omega
          · have a3 : decide ((l.length : Int) < 41) = false := decide_eq_false (by omega)
            have HSS : Hid (smallB (readN (k + 1) S).1 = false) := Lib.hid (by rw [HNX.out, smallB_snoc, ← HSM.out]; simp [h41])
            go_wp2_with (
              (at_builtin
               have hbase : w.heap.size ≤ w4.heap.size := by omega
               have hgr : w4.grownBy ((w4.setCell ⟨g, 0, none⟩ (.string (bs (bytesR 65577 T).2.1))).setCell ⟨g, 1, none⟩ (.int .i64 ((bytesR 65577 T).2.2 : Int))) (some g) := two_grown _ _ _ _
               have hb4r := HI.out.1.below HB4.out HI.out.1.lt
               have hown5 := (own_below HI.out.2.1 HB4.out).kept hgr (.inr (fun e => own_ne_blk (own_below HI.out.2.1 HB4.out) hb4r (by decide) e.symm))
               have hnew := (Blk.new ((w4.setCell ⟨g, 0, none⟩ (.string (bs (bytesR 65577 T).2.1))).setCell ⟨g, 1, none⟩ (.int .i64 ((bytesR 65577 T).2.2 : Int))) 9 #[.string (bs l)]).cell 0
               have hzz : ((w4.setCell ⟨g, 0, none⟩ (.string (bs (bytesR 65577 T).2.1))).setCell ⟨g, 1, none⟩ (.int .i64 ((bytesR 65577 T).2.2 : Int))).heap.size = w4.heap.size := by simp [World.setCell]
               rw [hzz] at hnew
               refine wpList_append_own _ rfl (.tmp 47) (.tmp 49) 28 rfl w.heap.size 9 is (.string ByteArray.empty) 1 16 Try.underlying28 HIS.out hzs hss hbs rfl (by decide) (.slice A k c) k _ rfl (hown5.alloc _) ⟨w4.heap.size, 0, none⟩ 1 1 [.string (bs l)] rfl rfl (fun j u hj => by
                 match j with
                 | 0 => simp at hj; subst hj; rw [add0]; exact hnew
                 | j + 1 => simp at hj) (fun u hu => by simp at hu; subst hu; rfl) (by simp only [maxLen]; omega) (by omega) (by simp; omega) ?_
               intro v5 w5 hown6 hgrow5 _
               have hR := ((two_store hb4r (.string (bs (bytesR 65577 T).2.1)) (.int .i64 ((bytesR 65577 T).2.2 : Int))).alloc (.cells #[.string (bs l)] 9)).grown hgrow5 (fun e => own_ne_blk (hown5.alloc (.cells #[.string (bs l)] 9)) ((two_store hb4r (.string (bs (bytesR 65577 T).2.1)) (.int .i64 ((bytesR 65577 T).2.2 : Int))).alloc _) (by decide) e)
               have hB5 := ((((HI.out.2.2.trans (HB4.out.mono hbz)).setCell (p := ⟨g, 0, none⟩) hgw (.string (bs (bytesR 65577 T).2.1))).setCell (p := ⟨g, 1, none⟩) hgw (.int .i64 ((bytesR 65577 T).2.2 : Int))).alloc (by rw [hzz]; exact hbase) (.cells #[.string (bs l)] 9)).grown hgrow5 (by simp; omega) (fun j hj => own_ge hown5 j hj)
               have HR5 : Hid (Blk w5 g 51 #[.string (bs (readN (k + 1) S).2.1), .int .i64 ((readN (k + 1) S).2.2 : Int)] ∧ StrR w5 w.heap.size v5 (k + 1) (readN (k + 1) S).1 ∧ Below w.heap.size w w5) := Lib.hid (by
                 rw [HNX.out]
                 refine ⟨hR, ?_, hB5⟩
                 unfold StrR; rw [List.map_append]; exact hown6)
               clear hown5 hnew hzz hown6 hgrow5 hR hB5 hb4r hgr HI HB4))
            go_roundw
            case rel => exact ⟨k + 1, by omega, by go_num, by rw [HSS.out], HR5.out⟩
            case measure => simp [intOf]; omega
      · obtain rfl : k = n := by omega
        go_wp2_with fail
        refine (refEnd_any (bs T.1) T.2 wr).mono ?_
        rintro e w4 ⟨rfl, hb4⟩
        rw [sb_bs, show ((T.1, T.2) : Rst) = T from rfl]
        obtain ⟨e, he⟩ : ∃ e, e = endR T := ⟨_, rfl⟩
        rw [← he]
        have HI4 : Hid (StrR w4 w.heap.size (.slice A k c) k (readN k S).1 ∧ Below w.heap.size w w4) := Lib.hid ⟨HI.out.2.1.keep hb4, HI.out.2.2.trans (hb4.mono hbz)⟩
        have HEE : Hid (e = endR (readN k S).2) := Lib.hid (by rw [he, HT.out])
        have HSA : Hid (allB (readN k S).1 = !sm) := Lib.hid (by rw [HSM.out]; exact small_all (readN_short k S))
        have HGP : Hid (getP (sb s) = if endR (readN k S).2 = 0 then (if allB (readN k S).1 = true then ((readN k S).1, 0) else ([], 11)) else ([], endR (readN k S).2)) := Lib.hid (by
          rw [HS.out, HN.out]
          unfold getP
          rw [if_neg HBIG.out, if_neg (by rw [← HE.out, ← HN.out]; intro h; exact HF.out h.2)])
        clear hb4 he
        by_cases he0 : e = 0
        · subst he0
          rw [show ((0 : Nat) : Int) = 0 from rfl]
          cases sm with
          | true =>
            go_wp2_with fail
            go_ret2
            rw [HGP.out, if_pos HEE.out.symm, if_neg (by rw [HSA.out]; simp)]
            exact ⟨_, rfl, World.ownsRow_nil _ _ _ _, HI4.out.2⟩
          | false =>
            go_wp2_with fail
            go_ret2
            rw [HGP.out, if_pos HEE.out.symm, if_pos (by rw [HSA.out]; rfl), readN_length]
            exact ⟨_, rfl, HI4.out⟩
        · have hei : ¬ (e : Int) = 0 := by omega
          go_wp2_with fail
          go_ret2
          rw [HGP.out, if_neg (by rw [← HEE.out]; exact he0), ← HEE.out]
          exact ⟨_, rfl, World.ownsRow_nil _ _ _ _, HI4.out.2⟩
  · have HP := Lib.hid (getP_err HBIG.out (by rw [← HE.out]; exact h0))
    have hEi : ¬ (E : Int) = 0 := by omega
    go_wp2_with fail
    go_quiet (fail)
    go_wp2_with fail
    go_ret2
    rw [HP.out, HE.out]
    exact ⟨_, rfl, World.ownsRow_nil _ _ _ _, below_drewN (HB1.out.alloc hz1 _) _⟩
end Go.Proofs.Ytlopiinkpdpakaa
