/-
  The walk of the law PacksFit.
-/
import Derived.Test.YtlopiinkpdpakaaPkA
import Derived.Test.YtlopiinkpdpakaaFl3
namespace Go.Proofs.Ytlopiinkpdpakaa
open Go Go.RowKit
set_option linter.unusedSimpArgs false
set_option linter.unusedVariables false

theorem bsize {zs : List UInt8} (i : Nat) : (41 + (at8 zs i).toNat) ≤ 296 := by have := (at8 zs i).toNat_lt; omega
/-- so many noughts -/
def zerosF (n : Nat) : List UInt8 := List.replicate n 0
theorem zerosF_length (n : Nat) : (zerosF n).length = n := List.length_replicate
theorem packB_zeros (L : List Nat) : (packB (L.map zerosF)).length = sizeF L := by
  have h : ∀ L : List Nat, (((L.map zerosF).map putW).flatten).length = (L.map szF).sum := by
    intro L
    induction L with
    | nil => rfl
    | cons k r ih =>
      simp only [List.map_cons, List.flatten_cons, List.length_append, List.sum_cons, ih]
      rw [putW, List.length_append, zerosF_length, szF, digF]
      omega
  rw [packB, List.length_append, h, List.length_map]
  rfl
theorem reach_fit (l : List Nat) (most a j : Nat) (h : fitF l most a j = true) : fitF l most a (reachF l most a j) = true := by
  rw [reachF]
  split
  · split
    · rename_i h2
      exact reach_fit l most a (j + 1) h2
    · exact h
  · exact h
termination_by l.length - j
theorem own_intS {w : World} {base n : Nat} {v : Value} {L : List Nat} (h : w.ownsRow base 3 1 v n (L.map intV)) : IntS w v (natI L) := by
  have hl : L.length = n := by have := h.1; simpa using this
  rcases h.2 with ⟨rfl, h0⟩ | ⟨g, cap, cur, rfl, _, hg, hc, hm, _⟩
  · have : L = [] := List.eq_nil_of_length_eq_zero (by omega)
    subst this
    exact ⟨none, 0, rfl, Nat.le_refl _, by simp [maxLen], fun _ => rfl, fun h => absurd rfl h⟩
  · refine ⟨_, cap, by rw [natI_length, hl], by rw [natI_length, hl]; omega, hm, (fun h => by cases h), fun _ => ⟨g, 0, rfl, fun i x hx => ?_⟩⟩
    rw [natI, List.getElem?_map] at hx
    obtain ⟨y, hy, rfl⟩ := Option.map_eq_some_iff.1 hx
    have hc2 := World.ownsRow.cells h rfl i (intV y) (by rw [List.getElem?_map, hy]; rfl)
    rw [addi] at hc2
    exact hc2
theorem fit_one {K : List Nat} {M a : Nat} (hK : ∀ (i s : Nat), K[i]? = some s → 41 ≤ s ∧ s ≤ 296) (hM : 400 ≤ M) (ha : a < K.length) : fitF K M a (a + 1) = true := by
  have hl : K[a]? = some K[a] := List.getElem?_eq_getElem ha
  have h1 := hK a _ hl
  have h2 := digF_3 (n := K[a]) (by omega)
  unfold fitF
  rw [sumF_succ (Nat.le_refl _) hl, sumF_same, show a + 1 - a = 1 by omega, digF_lt (by omega : 1 < 128), szF]
  rw [decide_eq_true (by omega), decide_eq_true (by omega)]
  rfl
theorem fill_fit {K : List Nat} {M : Nat} (hK : ∀ (i s : Nat), K[i]? = some s → 41 ≤ s ∧ s ≤ 296) (hM : 400 ≤ M) (hM2 : M ≤ 2399) : fillF (natI K) (M : Int) = ((cutsF K M 0).map rangeF, 0) := by
  have hm : mayAll (natI K) = true := mayAll_mk fun i x hx => by
    rw [natI, List.getElem?_map] at hx
    obtain ⟨y, hy, rfl⟩ := Option.map_eq_some_iff.1 hx
    have := hK i y hy
    exact mayB_mk (by omega) (by omega)
  have hb : bigF K M = false := bigF_no fun i s hi => by
    have h1 := hK i s hi
    have h2 := digF_3 (n := s) (by omega)
    unfold szF; omega
  have e : (natI K).map Int.toNat = K := by
    rw [natI, List.map_map]
    conv => rhs; rw [← List.map_id K]
    apply List.map_congr_left
    intro x _
    simp
  unfold fillF
  rw [if_neg (by omega), if_pos hm, e, Int.toNat_natCast, if_neg (by rw [hb]; simp)]
theorem put_fit {K : List Nat} {M a e : Nat} (hK : ∀ (i s : Nat), K[i]? = some s → 41 ≤ s ∧ s ≤ 296) (hM2 : M ≤ 2399) (hae : a < e) (hek : e ≤ K.length) (hn : K.length ≤ 60) (hf : fitF K M a e = true) :
    ∃ b, putP (((K.drop a).take (e - a)).map zerosF) = (b, 0) ∧ b.length ≤ M := by
  have hl : ((K.drop a).take (e - a)).length = e - a := by simp; omega
  have hsz : (packB (((K.drop a).take (e - a)).map zerosF)).length ≤ M := by
    rw [packB_zeros, sizeF, hl]
    unfold fitF sumF at hf
    rw [Bool.and_eq_true] at hf
    exact of_decide_eq_true hf.2
  refine ⟨packB (((K.drop a).take (e - a)).map zerosF), ?_, hsz⟩
  unfold putP
  rw [List.length_map, hl, if_neg (by omega), if_pos, if_neg (by omega)]
  refine allB_mk fun i l hi => ?_
  rw [List.getElem?_map] at hi
  obtain ⟨s, hs, rfl⟩ := Option.map_eq_some_iff.1 hi
  rw [List.getElem?_take] at hs
  split at hs
  · rw [List.getElem?_drop] at hs
    have := hK _ s hs
    rw [zerosF_length]
    exact mayB_mk (by omega) (by omega)
  · cases hs

set_option maxRecDepth 100000 in
set_option maxHeartbeats 8000000 in
theorem packsFit_any (zs : List UInt8) (mo : Nat) (v : Value) (w : World) (h : HB w v zs) (hmo : mo < 65536) :
    Calls Try.prog 5 #[v, .int .u16 (mo : Int)] w fun e w' => e = .returned (.bool true) ∧ Below w.heap.size w w' := by
  obtain ⟨p, cap, rfl, hlc, hcm⟩ := h.form
  obtain ⟨n, hnn⟩ : ∃ n, n = zs.length := ⟨_, rfl⟩
  have h' := h
  rw [← hnn] at hlc h' ⊢
  have H := Lib.hid h'
  have HN := Lib.hid hnn
  unfold maxLen at hcm
  clear h h' hnn
  obtain ⟨i8, hi8, hz8, hsz8, hby8⟩ := info8
  have HI8 := Lib.hid hi8; clear hi8
  obtain ⟨ir, hir, hzr, hsr, hbr⟩ := infoRows
  have HIR := Lib.hid hir; clear hir
  obtain ⟨ii, hii, hzi, hsi, hbi⟩ := infoInt
  have HII := Lib.hid hii; clear hii
  go_enter Try.func5, Try.ntmps5
  go_wp2_with fail
  refine (awake13_any w).mono ?_
  rintro e w1 ⟨rfl, hb1⟩
  have HB1 := Lib.hid hb1
  clear hb1
  by_cases hbig : 60 < n
  · have hbigi : (60 : Int) < (n : Int) := by omega
    go_wp2_with fail
    go_ret
    exact ⟨rfl, HB1.out⟩
  have hbigi : ¬ (60 : Int) < (n : Int) := by omega
  obtain ⟨K, hK⟩ : ∃ K : List Nat, K = zs.map fun z => 41 + z.toNat := ⟨_, rfl⟩
  have HKL : Hid (K.length = n) := Lib.hid (by rw [hK, List.length_map]; exact HN.out.symm)
  have HKA : Hid (∀ i, i < n → K[i]? = some (41 + (at8 zs i).toNat)) := Lib.hid fun i hi => by
    rw [hK, List.getElem?_map, at8_get (by rw [← HN.out]; exact hi)]; rfl
  have HKS : Hid (∀ (i s : Nat), K[i]? = some s → 41 ≤ s ∧ s ≤ 296) := Lib.hid fun i s hs => by
    have hi : i < n := by have := (List.getElem?_eq_some_iff.1 hs).1; rw [HKL.out] at this; exact this
    rw [HKA.out i hi] at hs
    injection hs with hs
    have := bsize (zs := zs) i
    omega
  clear hK
  have hz1 := HB1.out.size
  go_wp2_with fail
  go_loopw [6, 7, 8] (fun lv nv i wr => ∃ k : Nat, k ≤ n ∧ i = .int .i64 (k : Int) ∧ RowsB wr w.heap.size lv k ((K.take k).map zerosF) ∧ wr.ownsRow w.heap.size 3 1 nv k ((K.take k).map intV) ∧ Below w.heap.size w wr) (fun _ _ i _ => n - (intOf i).toNat)
  case atStart => exact ⟨0, Nat.zero_le _, rfl, RowsB.nil _ _, World.ownsRow_nil _ _ _ _, HB1.out⟩
  case round =>
    clear HB1 hz1
    obtain ⟨k, hk, rfl, hrow, hints, hb⟩ := hrel
    obtain ⟨A, c, rfl⟩ := hrow.form
    obtain ⟨A2, c2, rfl⟩ := own_form hints
    have hbz := hb.size
    have HI := Lib.hid (And.intro hrow (And.intro hints hb))
    clear hrow hints hb
    by_cases hlt : k < n
    · obtain ⟨b0, o0, rfl, hc0⟩ := H.out.at_ (at8_get (l := zs) (i := k) (by rw [← HN.out]; exact hlt))
      have c0 := (HI.out.2.2.cell (p := ⟨b0, o0 + k, none⟩) (lt_of_cell hc0)).trans hc0
      obtain ⟨z, hz⟩ : ∃ z, z = (at8 zs k).toNat := ⟨_, rfl⟩
      rw [← hz] at c0
      have hz8' : z < 256 := by rw [hz]; exact (at8 zs k).toNat_lt
      obtain ⟨y, hy⟩ : ∃ y, y = 41 + z := ⟨_, rfl⟩
      have hyi : (41 : Int) + (z : Int) = (y : Int) := by omega
      have HTK : Hid (K.take (k + 1) = K.take k ++ [y]) := Lib.hid (by rw [List.take_add_one, HKA.out k hlt, hy, hz]; rfl)
      obtain ⟨Z, hZ⟩ : ∃ Z, Z = zerosF y := ⟨_, rfl⟩
      have HZ := Lib.hid hZ
      have hzl : Z.length = y := by rw [hZ]; exact zerosF_length y
      have HZL := Lib.hid hzl
      have hmk : ∀ W, (Instr.makeSlice 22 (.int .i64 (y : Int)) (.int .i64 (y : Int))).run Try.prog W = .ok (.slice (some ⟨W.heap.size, 0, none⟩) y y) (W.alloc (.cells (bvs Z) 5)) := fun W => by
        rw [hZ]; exact run_make_bytes Try.underlying22 HI8.out hz8 hsz8 hby8 y (by omega) W
      have hki : (k : Int) < (n : Int) := by omega
      have hy6 : y ≤ 296 := by omega
      clear hz hy hZ hzl hc0
      go_wp2_with (first
        | (at_builtin
           have hnew := (Blk.new wr 3 #[.int .i64 (y : Int)]).cell 0
           refine wpList_append_own _ rfl (.tmp 37) (.tmp 39) 36 rfl w.heap.size 3 ii (.int .i64 0) 1 8 Try.underlying36 HII.out hzi hsi hbi rfl (by decide) (.slice A2 k c2) k _ rfl (HI.out.2.1.alloc _) ⟨wr.heap.size, 0, none⟩ 1 1 [.int .i64 (y : Int)] rfl rfl (fun j u hj => by
             match j with
             | 0 => simp at hj; subst hj; rw [add0]; exact hnew
             | j + 1 => simp at hj) (fun u hu => by simp at hu; subst hu; rfl) (by simp only [maxLen]; omega) (by omega) (by simp; omega) ?_
           intro v5 w5 hown5 hgrow5 _
           have hBW : Below wr.heap.size wr (wr.alloc (.cells #[.int .i64 (y : Int)] 3)) := (Below.refl _ _).alloc (Nat.le_refl _) _
           have HR5 : Hid (w5.ownsRow w.heap.size 3 1 v5 (k + 1) ((K.take (k + 1)).map intV) ∧ RowsB w5 w.heap.size (.slice A k c) k ((K.take k).map zerosF) ∧ Below w.heap.size w w5 ∧ w.heap.size ≤ w5.heap.size) := Lib.hid (by
             obtain ⟨r1, vs, r2, r3, r4⟩ := HI.out.1
             have hB5 := (HI.out.2.2.alloc hbz (.cells #[.int .i64 (y : Int)] 3)).grown hgrow5 (by simp; omega) (fun j hj => own_ge HI.out.2.1 j hj)
             exact ⟨by rw [HTK.out, List.map_append]; exact hown5, ⟨r1, vs, own_apart (HI.out.2.1.alloc _) hgrow5 (own_below r2 hBW) (by decide), r3, fun i u l hu hl => (own_turn (HI.out.2.1.alloc _) hgrow5 (by decide)).1 _ _ ((r4 i u l hu hl).keep hBW)⟩, hB5, hB5.size⟩)
           clear hown5 hgrow5 hnew hBW HI)
        | (at_builtin
           obtain ⟨hl1, vs, hown, hvl, hvs⟩ := HR5.out.2.1
           have hz5 := HR5.out.2.2.2
           have hnew := (Blk.new' (w := w5.alloc (.cells (bvs Z) 5)) (g := w5.heap.size + 1) (by simp) 22 #[.slice (some ⟨w5.heap.size, 0, none⟩) y y]).cell 0
           refine wpList_append_own _ rfl (.tmp 41) (.tmp 44) 24 rfl w.heap.size 22 ir (.slice none 0 0) 1 24 Try.underlying24 HIR.out hzr hsr hbr rfl (by decide) (.slice A k c) k vs rfl ((hown.alloc _).alloc _) ⟨w5.heap.size + 1, 0, none⟩ 1 1 [.slice (some ⟨w5.heap.size, 0, none⟩) y y] rfl rfl (fun j u hj => by
             match j with
             | 0 => simp at hj; subst hj; rw [add0]; exact hnew
             | j + 1 => simp at hj) (fun u hu => by simp at hu; subst hu; rfl) (by simp only [maxLen]; omega) (by omega) (by simp; omega) ?_
           intro v6 w6 hown6 hgrow6 _
           have hBW : Below w5.heap.size w5 ((w5.alloc (.cells (bvs Z) 5)).alloc (.cells #[.slice (some ⟨w5.heap.size, 0, none⟩) y y] 22)) := ((Below.refl _ _).alloc (Nat.le_refl _) _).alloc (by simp) _
           have HR6 : Hid (RowsB w6 w.heap.size v6 (k + 1) ((K.take (k + 1)).map zerosF) ∧ w6.ownsRow w.heap.size 3 1 v5 (k + 1) ((K.take (k + 1)).map intV) ∧ Below w.heap.size w w6) := Lib.hid (by
             have hT : HBT ((w5.alloc (.cells (bvs Z) 5)).alloc (.cells #[.slice (some ⟨w5.heap.size, 0, none⟩) y y] 22)) (.slice (some ⟨w5.heap.size, 0, none⟩) y y) Z :=
               ⟨HB.blk ((Blk.new w5 5 (bvs Z)).alloc _) HZL.out (by simp only [maxLen]; omega), fun _ => ⟨_, 0, y, _, by rw [HZL.out], (Blk.new w5 5 (bvs Z)).alloc _⟩⟩
             refine ⟨?_, own_apart ((hown.alloc _).alloc _) hgrow6 (own_below HR5.out.1 hBW) (by decide), (HR5.out.2.2.1.trans (hBW.mono hz5)).grown hgrow6 (by simp; omega) (fun j hj => own_ge hown j hj)⟩
             rw [HTK.out, List.map_append]
             exact RowsB.snoc hl1 ((hown.alloc _).alloc _) hvl (fun i u l hu hl => (hvs i u l hu hl).keep hBW) (HZ.out ▸ hT) hgrow6 hown6)
           clear hown hvl hvs hl1 hown6 hgrow6 hnew hBW HR5))
      go_roundw
      case rel => exact ⟨k + 1, by omega, by go_num, HR6.out⟩
      case measure => simp [intOf]; omega
    · obtain rfl : k = n := by omega
      have hTA : K.take k = K := List.take_of_length_le (by rw [HKL.out]; exact Nat.le_refl _)
      rw [hTA] at HI
      have HINT := Lib.hid (own_intS HI.out.2.1)
      obtain ⟨r, hr⟩ : ∃ r, r = mo % 2000 := ⟨_, rfl⟩
      have hr2 : r < 2000 := by omega
      have hri : (mo : Int) % 2000 = (r : Int) := by omega
      have hmo0 : (0 : Int) ≤ (mo : Int) := by omega
      have hrt : (mo : Int).tmod 2000 = (r : Int) := by rw [Int.tmod_eq_emod_of_nonneg hmo0]; exact hri
      obtain ⟨M, hM⟩ : ∃ M, M = 400 + r := ⟨_, rfl⟩
      have hMi : (400 : Int) + (r : Int) = (M : Int) := by omega
      have hM1 : 400 ≤ M := by omega
      have hM2 : M ≤ 2399 := by omega
      have HFF := Lib.hid (fill_fit HKS.out hM1 hM2)
      clear hTA hr hM
      go_wp2_with fail
      refine (fill_any _ (natI K) (M : Int) wr HINT.out (by rw [natI_length, HKL.out]; omega)).mono ?_
      rintro e w2 ⟨v2, rfl, hr2', hb2⟩
      rw [HFF.out] at hr2' ⊢
      obtain ⟨N, hN⟩ : ∃ N, N = ((cutsF K M 0).map rangeF).length := ⟨_, rfl⟩
      rw [← hN] at hr2'
      obtain ⟨A3, c3, rfl⟩ := hr2'.form
      have hNk : N ≤ k := by
        rw [hN, List.length_map]
        have := cutsF_length K M 0
        rw [HKL.out] at this
        omega
      have HNC : Hid (N = (cutsF K M 0).length) := Lib.hid (by rw [hN, List.length_map])
      have HI2 : Hid (RowsI w2 wr.heap.size (.slice A3 N c3) N ((cutsF K M 0).map rangeF) ∧ RowsB w2 w.heap.size (.slice A k c) k (K.map zerosF) ∧ Below w.heap.size w w2) := Lib.hid ⟨hr2', HI.out.1.keep hb2, HI.out.2.2.trans (hb2.mono hbz)⟩
      have hz2 : w.heap.size ≤ w2.heap.size := HI2.out.2.2.size
      clear hr2' hb2 HI HINT hN hbz
      go_wp2_with fail
      go_loopw [13, 14] (fun a_ i W => ∃ (q a : Nat), q ≤ N ∧ a ≤ k ∧ a_ = .int .i64 (a : Int) ∧ i = .int .i64 (q : Int) ∧ Hid ((cutsF K M 0).drop q = cutsF K M a) ∧ Below w2.heap.size w2 W) (fun _ i _ => N - (intOf i).toNat)
      case atStart => exact ⟨0, 0, Nat.zero_le _, Nat.zero_le _, rfl, rfl, Lib.hid rfl, Below.refl _ _⟩
      case round =>
        obtain ⟨q, a, hq, hak, rfl, rfl, HQ, hb⟩ := hrel
        have HB := Lib.hid hb
        have hbz := hb.size
        clear hb
        by_cases hqN : q < N
        · have ha : a < k := by
            rcases Nat.lt_or_ge a k with h | h
            · exact h
            · exfalso
              have h1 := HQ.out
              rw [cutsF_end (a := a) (by rw [HKL.out]; omega)] at h1
              have h2 := congrArg List.length h1
              rw [List.length_drop, List.length_nil, ← HNC.out] at h2
              omega
          obtain ⟨hk2, hca, hdr⟩ := cut_here HQ.out (by rw [HKL.out]; exact ha)
          obtain ⟨e, he⟩ : ∃ e, e = reachF K M a (a + 1) := ⟨_, rfl⟩
          rw [← he] at hca hdr
          have hae : a < e := by rw [he]; exact reachF_ge _ _ _ _
          have hek : e ≤ k := by rw [he, ← HKL.out]; exact reachF_le _ _ _ _ (by rw [HKL.out]; omega)
          have HPF := Lib.hid (put_fit HKS.out hM2 hae (by rw [HKL.out]; exact hek) (by rw [HKL.out]; omega) (by rw [he]; exact reach_fit _ _ _ _ (fit_one HKS.out hM1 (by rw [HKL.out]; exact ha))))
          have hrow : ((cutsF K M 0).map rangeF)[q]? = some (rangeF (a, e)) := by rw [List.getElem?_map, cutAt_eq hk2, hca]; rfl
          obtain ⟨g1, u1, rfl, hc1, hu1⟩ := HI2.out.1.at_ hrow
          obtain ⟨B1, f1, rfl⟩ := own_form hu1
          obtain ⟨m, hm⟩ : ∃ m, m = e - a := ⟨_, rfl⟩
          have hml : (rangeF (a, e)).length = m := by rw [rangeF_length]; exact hm.symm
          rw [hml] at hu1 hc1
          have HU := Lib.hid hu1
          have HC := Lib.hid hc1
          have HDR := Lib.hid hdr
          have HME : Hid (m = e - a) := Lib.hid hm
          have hm60 : m ≤ 60 := by omega
          have hqi : (q : Int) < (N : Int) := by omega
          clear hk2 hca hdr he hrow hc1 hu1 hml hm
          go_wp2_with fail
          obtain ⟨w3, rfl⟩ : ∃ w3 : World, w3 = wr := ⟨_, rfl⟩
          go_loopw [13, 15, 16] (fun a_ pv i W => ∃ (t : Nat), t ≤ m ∧ a_ = .int .i64 ((a + t : Nat) : Int) ∧ i = .int .i64 (t : Int) ∧ RowsB W w3.heap.size pv t (((K.drop a).take t).map zerosF) ∧ Below w3.heap.size w3 W) (fun _ _ i _ => m - (intOf i).toNat)
          case atStart => exact ⟨0, Nat.zero_le _, by simp, rfl, RowsB.nil _ _, Below.refl _ _⟩
          case round =>
            obtain ⟨t, ht, rfl, rfl, hrw, hb4⟩ := hrel
            obtain ⟨Ap, cp, rfl⟩ := hrw.form
            have hb4z := hb4.size
            have HJ := Lib.hid (And.intro hrw hb4)
            have HBB := Lib.hid (HB.out.trans (hb4.mono hbz))
            clear hrw hb4
            obtain ⟨x, hx⟩ : ∃ x, x = a + t := ⟨_, rfl⟩
            rw [← hx]
            have d1 := (HBB.out.cell (p := ⟨g1, q, none⟩) (lt_of_cell HC.out)).trans HC.out
            by_cases htm : t < m
            · have hxk : x < k := by have := HME.out; omega
              have hrx : (rangeF (a, e))[t]? = some x := by
                rw [rangeF_at (show t < e - a by have := HME.out; omega), hx]
              obtain ⟨q1, rfl, hcq⟩ := ints_at HU.out hrx
              have d2 := (HBB.out.cell (p := ⟨q1, t, none⟩) (lt_of_cell hcq)).trans hcq
              obtain ⟨s, hs⟩ : ∃ s, K[x]? = some s := ⟨_, List.getElem?_eq_getElem (by rw [HKL.out]; exact hxk)⟩
              have hzx : (K.map zerosF)[x]? = some (zerosF s) := by rw [List.getElem?_map, hs]; rfl
              obtain ⟨gl, ul, rfl, hcl, hul⟩ := HI2.out.2.1.at_ hzx
              obtain ⟨pl, cl, rfl, -, -⟩ := hul.1.form
              rw [zerosF_length] at hul hcl
              have d3 := (HBB.out.cell (p := ⟨gl, x, none⟩) (lt_of_cell hcl)).trans hcl
              have HUL := Lib.hid (hul.keep HBB.out)
              have HTK : Hid (((K.drop a).take (t + 1)).map zerosF = ((K.drop a).take t).map zerosF ++ [zerosF s]) := Lib.hid (by
                have : (K.drop a)[t]? = some s := by rw [List.getElem?_drop, ← hx]; exact hs
                rw [List.take_add_one, this]; simp)
              have hti : (t : Int) < (m : Int) := by omega
              have hxki : (x : Int) < (k : Int) := by omega
              have HX := Lib.hid hx
              clear hrx hcq hs hzx hcl hul hx
              go_wp2_with (
                (at_builtin
                 obtain ⟨hl1, vs, hown, hvl, hvs⟩ := HJ.out.1
                 have hnew := (Blk.new wr 22 #[.slice pl s cl]).cell 0
                 refine wpList_append_own _ rfl (.tmp 82) (.tmp 87) 24 rfl w3.heap.size 22 ir (.slice none 0 0) 1 24 Try.underlying24 HIR.out hzr hsr hbr rfl (by decide) (.slice Ap t cp) t vs rfl (hown.alloc _) ⟨wr.heap.size, 0, none⟩ 1 1 [.slice pl s cl] rfl rfl (fun j u hj => by
                   match j with
                   | 0 => simp at hj; subst hj; rw [add0]; exact hnew
                   | j + 1 => simp at hj) (fun u hu => by simp at hu; subst hu; rfl) (by simp only [maxLen]; omega) (by omega) (by simp; omega) ?_
                 intro v5 w5 hown5 hgrow5 _
                 have hBW : Below wr.heap.size wr (wr.alloc (.cells #[.slice pl s cl] 22)) := (Below.refl _ _).alloc (Nat.le_refl _) _
                 have HR5 : Hid (RowsB w5 w3.heap.size v5 (t + 1) (((K.drop a).take (t + 1)).map zerosF) ∧ Below w3.heap.size w3 w5) := Lib.hid (by
                   rw [HTK.out]
                   exact ⟨RowsB.snoc hl1 (hown.alloc _) hvl (fun i u l hu hl => (hvs i u l hu hl).keep hBW) (HUL.out.keep hBW) hgrow5 hown5, (HJ.out.2.alloc hb4z _).grown hgrow5 (by simp; omega) (fun j hj => own_ge hown j hj)⟩)
                 clear hown hvl hvs hl1 hown5 hgrow5 hnew hBW HJ HUL))
              go_roundw
              case rel => exact ⟨t + 1, by omega, by have := HX.out; exact congrArg (Value.int .i64) (by omega), by go_num, HR5.out⟩
              case measure => simp [intOf]; omega
            · obtain rfl : t = m := by omega
              obtain ⟨bb, hpb, hbl⟩ := HPF.out
              rw [← HME.out] at hpb
              have HPB := Lib.hid hpb
              have hxe : x = e := by have := HME.out; omega
              have HXE := Lib.hid hxe
              clear hpb hx hxe
              go_wp2_with fail
              refine (put_any _ _ wr HJ.out.1.hbs).mono ?_
              rw [HPB.out]
              rintro e5 w5 ⟨v5, rfl, ho5, hb5⟩
              obtain ⟨lb, hlb⟩ : ∃ lb, lb = bb.length := ⟨_, rfl⟩
              rw [show ((bb, 0) : List UInt8 × Nat).1.length = lb from hlb.symm] at ho5
              rw [← hlb] at hbl
              obtain ⟨A5, c5, rfl⟩ := own_form ho5
              have HB6 := Lib.hid (HBB.out.trans (hb5.mono HBB.out.size))
              have hli : ¬ (M : Int) < (lb : Int) := by omega
              clear ho5 hb5 hlb
              go_wp2_with fail
              go_roundw
              case rel => exact ⟨q + 1, x, by omega, by have := HXE.out; omega, rfl, by go_num, Lib.hid (by rw [HXE.out]; exact HDR.out), HB6.out⟩
              case measure => simp [intOf]; omega
        · obtain rfl : q = N := by omega
          have hka : a = k := by
            rcases Nat.lt_or_ge a k with h | h
            · exfalso
              have h1 := HQ.out
              rw [cutsF_step (a := a) (by rw [HKL.out]; exact h)] at h1
              have h2 := congrArg List.length h1
              rw [List.length_drop, List.length_cons, ← HNC.out] at h2
              omega
            · omega
          subst hka
          go_wp2_with fail
          go_ret
          exact ⟨rfl, HI2.out.2.2.trans (HB.out.mono hz2)⟩
end Go.Proofs.Ytlopiinkpdpakaa
