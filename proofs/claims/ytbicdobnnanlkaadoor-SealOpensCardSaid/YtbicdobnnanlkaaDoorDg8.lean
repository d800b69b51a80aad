/-
  The walk of the reference's 'Of'.
-/
import Derived.Test.YtbicdobnnanlkaaDoorDg7
namespace Go.Proofs.YtbicdobnnanlkaaDoor
open Go Go.RowKit

theorem be8_step (N : Nat) {i : Nat} (h : i < 8) : (be8 N).drop (8 - (i + 1)) = UInt8.ofNat (N / 256 ^ i) :: (be8 N).drop (8 - i) := by
  rw [List.drop_eq_getElem_cons (by rw [be8_length]; omega), show 8 - (i + 1) + 1 = 8 - i by omega]
  congr 1
  simp only [be8, List.getElem_map, List.getElem_range]
  rw [show 7 - (8 - (i + 1)) = i by omega]
theorem t_int2 (a4 a5 a6 a7 K W : UInt32) : (((((add32 a7 (xor32 (xor32 (rotr a4 6) (rotr a4 11)) (rotr a4 25))).toNat : Int) + bits .xor .u32 ((and32 a4 a5).toNat : Int) (bits .and .u32 (bits .xor .u32 (if IntKind.u32.signed = true then -1 else IntKind.u32.max) (a4.toNat : Int)) (a6.toNat : Int)) + (K.toNat : Int)) % 4294967296 + (W.toNat : Int)) % 4294967296) = ((t1F a4 a5 a6 a7 K W).toNat : Int) := t_int a4 a5 a6 a7 K W
theorem step_eq3 (a b c d e f g k K W : UInt32) : step [a, b, c, d, e, f, g, k] K W = [add32 (t1F e f g k K W) (add32 (xor32 (xor32 (rotr a 2) (rotr a 13)) (rotr a 22)) (xor32 (xor32 (and32 a b) (and32 a c)) (and32 b c))), a, b, c, add32 d (t1F e f g k K W), e, f, g] := rfl
/-- the numbers while they are moved up -/
def shiftF (l : List UInt32) (j : Nat) : List UInt32 := (List.range 8).map fun i => if j < i then at32 l (i - 1) else at32 l i
theorem shiftF_length (l : List UInt32) (j : Nat) : (shiftF l j).length = 8 := by simp [shiftF]
theorem shiftF_at (l : List UInt32) {i j : Nat} (h : i ≤ j) (h8 : i < 8) : at32 (shiftF l j) i = at32 l i := by
  have h2 : ¬ j < i := by omega
  simp [shiftF, at32, List.getD, h8, h2]
theorem shiftF_set (l : List UInt32) {j : Nat} (h : 0 < j) (h8 : j < 8) : (shiftF l j).set j (at32 l (j - 1)) = shiftF l (j - 1) := by
  apply List.ext_getElem?
  intro i
  rw [List.getElem?_set]
  simp only [shiftF, List.length_map, List.length_range, List.getElem?_map]
  by_cases h1 : j = i
  · subst h1
    have : j - 1 < j := by omega
    simp [h8, this]
  · by_cases h2 : i < 8
    · rw [if_neg h1]
      simp only [h2, List.getElem?_range, Option.map_some]
      by_cases h3 : j < i
      · rw [if_pos h3, if_pos (by omega)]
      · rw [if_neg h3, if_neg (by omega)]
    · rw [if_neg h1]
      simp [h2]
/-- the j-th byte of the digest -/
def ob (S : List UInt32) (j : Nat) : UInt8 := UInt8.ofNat ((S.getD (j / 4) 0).toNat / 2 ^ (24 - j % 4 * 8))
theorem outF_ob (S : List UInt32) {i : Nat} (h : i < 32) : (outF S i).set i (ob S i) = outF S (i + 1) := outF_set S h
theorem ob_eq (S : List UInt32) (i r : Nat) (hr : r < 4) : (ob S (4 * i + r)).toNat = (at32 S i).toNat / 2 ^ (24 - r * 8) % 256 := by
  unfold ob
  rw [show (4 * i + r) / 4 = i by omega, show (4 * i + r) % 4 = r by omega, UInt8.toNat_ofNat']
  rfl
set_option maxRecDepth 100000 in
set_option maxHeartbeats 1000000 in
theorem ref_any (s : ByteArray) (w : World) (hs : s.size ≤ 1000000) :
    Calls Tryd.prog 36 #[.string s] w fun e w' => e = .returned (.agg (bvs (sha (sb s)))) ∧ Below w.heap.size w w' := by
  go_enter Tryd.func36, Tryd.ntmps36
  go_wp2_with fail
  refine wp_abs (fun W => ∃ g, g = w.heap.size ∧ Blk W g 34 (bvs (List.replicate 32 0)) ∧ Blk W (g + 1) 83 (wvs h0List) ∧ Below g w W) ⟨_, rfl, ?_, ?_, ?_⟩ ?_
  · exact ((Blk.new w _ _).alloc _)
  · exact (Blk.new' (w := w.alloc _) (by simp) _ _).mk_eq (by kernel_rfl)
  · exact ((Below.refl w.heap.size w).alloc (Nat.le_refl _) _).alloc (by simp) _
  rintro W ⟨g, hg, hI⟩
  rw [← hg]
  have HI := Lib.hid hI
  have HG := Lib.hid hg
  clear hI hg
  go_loopw [4] (fun x wr => ∃ k b, k ≤ zeros s.size ∧ x = .string b ∧ Hid (sb b = sb s ++ [128] ++ List.replicate k 0) ∧ wr = W) (fun x _ => 1000100 - slen x)
  case atStart => exact ⟨0, _, by omega, rfl, Lib.hid (by rw [sb_append]; simp [sb]), rfl⟩
  case round =>
    obtain ⟨k, b, hk, rfl, hB, rfl⟩ := hrel
    have hzl : zeros s.size < 64 := by unfold zeros; omega
    have hbs : b.size = s.size + 1 + k := by
      have h := congrArg List.length hB.out
      rw [sb_length] at h
      simp only [List.length_append, List.length_cons, List.length_nil, List.length_replicate, sb_length] at h
      exact h
    have hm0 : (b.size : Int).tmod 64 = (((s.size + 1 + k) % 64 : Nat) : Int) := by rw [hbs, Int.tmod_eq_emod_of_nonneg (by omega)]; omega
    by_cases hlt : k < zeros s.size
    · have h56 := zeros_least hlt
      have h56' : (((s.size + 1 + k) % 64 : Nat) : Int) ≠ 56 := by omega
      go_wp2_with fail
      go_roundw
      case rel => exact ⟨k + 1, _, by omega, rfl, Lib.hid (by rw [sb_append, hB.out, List.replicate_succ']; simp [sb]), by first | rfl | trivial⟩
      case measure => simp only [slen, sz_append]; have : (ByteArray.mk #[0]).size = 1 := rfl; omega
    · obtain rfl : k = zeros s.size := by omega
      have h56 := zeros_spec s.size
      have h56' : (((s.size + 1 + zeros s.size) % 64 : Nat) : Int) = 56 := by omega
      go_wp2_with fail
      have hne : (((s.size : Int) + 1 + (zeros s.size : Int)) % 64 != 56) = false := by assumption
      rw [hne]
      obtain ⟨N, hN⟩ : ∃ N, N = s.size * 8 := ⟨_, rfl⟩
      rw [show (s.size : Int) * 8 = (N : Int) by omega]
      have hNb : N ≤ 8000000 := by omega
      clear hne hm0 h56 h56' hlt hk
      have hz : g + 1 < wr.heap.size := HI.out.2.1.lt
      go_loopw [5, 6, 7] (fun n l i wr => ∃ (j : Nat) (t : ByteArray), j ≤ 8 ∧ n = .int .u64 ((N / 256 ^ j : Nat) : Int) ∧ l = .string t ∧ Hid (sb t = (be8 N).drop (8 - j)) ∧ i = .int .i64 j ∧ Blk wr g 34 (bvs (List.replicate 32 0)) ∧ Blk wr (g + 1) 83 (wvs h0List) ∧ Below g w wr) (fun _ _ i _ => 8 - (intOf i).toNat)
      case atStart => exact ⟨0, _, by omega, by simp, rfl, Lib.hid (by rw [List.drop_eq_nil_of_le (by rw [be8_length]; omega)]; rfl), rfl, HI.out⟩
      case round =>
        clear HI
        obtain ⟨j, t, hj, rfl, rfl, hT, rfl, hI⟩ := hrel
        by_cases hlt : j < 8
        · have HI := Lib.hid hI; clear hI
          generalize hq : N / 256 ^ j = q at *
          have hqb : q ≤ 8000000 := by rw [← hq]; exact Nat.le_trans (Nat.div_le_self _ _) hNb
          have htl : t.size = j := by rw [← sb_length, hT.out, List.length_drop, be8_length]; omega
          have hcv : (convert 25 9 (.slice (some ⟨wr.heap.size, 0, none⟩) 1 1)).run Tryd.prog (wr.alloc (.cells #[.int .u8 ((q : Int) % 256)] 5)) = .ok (.string (bs [UInt8.ofNat q])) (wr.alloc (.cells #[.int .u8 ((q : Int) % 256)] 5)) := by
            refine conv_bytes Tryd.underlying25 Tryd.underlying5 Tryd.underlying9 wr.heap.size 0 1 [UInt8.ofNat q] _ ?_
            intro i x hx
            cases i with
            | zero =>
              simp at hx; subst hx
              rw [(Blk.new wr _ _).cell, UInt8.toNat_ofNat']
              rfl
            | succ i => simp at hx
          have hsz1 : (bs [UInt8.ofNat q]).size = 1 := rfl
          have HQ := Lib.hid hq
          clear hq
          go_wp2_with fail
          have hq1 : (q : Int) / 256 = ((N / 256 ^ (j + 1) : Nat) : Int) := by
            rw [Nat.pow_succ, ← Nat.div_div_eq_div_mul, HQ.out]
            omega
          rw [hq1]
          have HI2 : Hid (Blk (wr.alloc (.cells #[.int .u8 ((q : Int) % 256)] 5)) g 34 (bvs (List.replicate 32 0)) ∧ Blk (wr.alloc (.cells #[.int .u8 ((q : Int) % 256)] 5)) (g + 1) 83 (wvs h0List) ∧ Below g w (wr.alloc (.cells #[.int .u8 ((q : Int) % 256)] 5))) := Lib.hid ⟨HI.out.1.alloc _, HI.out.2.1.alloc _, HI.out.2.2.alloc (by have := HI.out.2.1.lt; omega) _⟩
          go_roundw
          case rel => exact ⟨j + 1, _, by omega, rfl, rfl, Lib.hid (by rw [sb_append, sb_bs, hT.out, be8_step N hlt, HQ.out]; rfl), by go_num, HI2.out⟩
          case measure => simp [intOf]; omega
        · obtain rfl : j = 8 := by omega
          have htl : t.size = 8 := by rw [← sb_length, hT.out, List.length_drop, be8_length]
          have HP : Hid (sb (b ++ t) = padM (sb s)) := Lib.hid (by rw [sb_append, hB.out, hT.out, hN]; unfold padM; rw [sb_length]; rfl)
          have hPl : (b ++ t).size = (padM (sb s)).length := by rw [← sb_length, HP.out]
          have hpm : (padM (sb s)).length % 64 = 0 := padM_mod (sb s)
          have hbt : (b ++ t).size = b.size + 8 := by rw [sz_append, htl]
          obtain ⟨K, hK⟩ : ∃ K, (padM (sb s)).length = 64 * K := ⟨(padM (sb s)).length / 64, by omega⟩
          have hKb : K ≤ 20000 := by omega
          clear hpm hbt
          have HI := Lib.hid hI; clear hI
          go_wp2_with (first
            | (go_at_call 48
               refine (numbers_any wr).mono ?_
               rintro e w3 ⟨rfl, hb3⟩)
            | (refine wpList_store_blk rfl 89 (.tmp 8) (.tmp 47) rfl w3.heap.size 89 _ (wvs kList) rfl rfl (Blk.new _ _ _) (by kernel_rfl) (by kernel_rfl) kOne ?_
               intro w4 hb4 hg4 hz4
               have hs3 := hb3.size
               have hgz := HI.out.2.1.lt
               have hB4 : Below wr.heap.size wr w4 := (hb3.alloc hs3 _).grown hg4 (by simp; omega) (by intro k hk; injection hk with hk; omega)
               have HL : Hid (∃ gk, gk = w3.heap.size ∧ g + 1 < gk ∧ Blk w4 gk 89 (wvs kList) ∧ Blk w4 g 34 (bvs (List.replicate 32 0)) ∧ Blk w4 (g + 1) 83 (wvs h0List) ∧ Below g w w4) := Lib.hid ⟨_, rfl, by omega, hb4, HI.out.1.below hB4 (by omega), HI.out.2.1.below hB4 (by omega), HI.out.2.2.trans (hB4.mono (by omega))⟩
               clear hb3 hb4 hg4 hz4 hs3 hgz hB4 HI))
          simp only [Act.put]
          generalize b ++ t = bt at *
          obtain ⟨gk, hgk, hgk1, hL⟩ := HL.out
          rw [← hgk]
          have HL2 := Lib.hid hL
          clear HL hL hgk
          go_loopw [4] (fun x wr => ∃ (k : Nat) (y : ByteArray), k ≤ K ∧ x = .string y ∧ Hid (sb y = (padM (sb s)).drop (64 * k)) ∧ Blk wr gk 89 (wvs kList) ∧ Blk wr g 34 (bvs (List.replicate 32 0)) ∧ Blk wr (g + 1) 83 (wvs (parts (padM (sb s)) k)) ∧ Below g w wr) (fun x _ => slen x)
          case atStart => exact ⟨0, _, by omega, rfl, Lib.hid (by rw [HP.out]; simp), HL2.out⟩
          case round =>
            clear HL2
            obtain ⟨k, y, hk, rfl, hy, hI⟩ := hrel
            have hyl : y.size = 64 * (K - k) := by rw [← sb_length, hy.out, List.length_drop, hK]; omega
            by_cases hlt : k < K
            · have hy64 : 64 ≤ y.size := by omega
              have hyne := empty_false hy64
              have hex : (y.extract 0 64).size = 64 := by rw [ByteArray.size_extract]; omega
              have hsx : sb (y.extract 0 64) = ((padM (sb s)).drop (64 * k)).take 64 := by
                rw [← hy.out]
                unfold sb
                simp
              clear hyl
              obtain ⟨S1, hS1⟩ : ∃ S1, S1 = parts (padM (sb s)) k := ⟨_, rfl⟩
              rw [← hS1] at hI
              have hl1 : S1.length = 8 := by rw [hS1]; exact parts_length _ _
              have hps : (wvs S1).size = 8 := by rw [wvs_size]; exact hl1
              obtain ⟨Wl, hWl⟩ : ∃ Wl, Wl = filled (sb (y.extract 0 64)) 64 := ⟨_, rfl⟩
              have hWz : (wvs Wl).size = 64 := by rw [wvs_size, hWl]; exact filled_length _ _
              have HW : Hid (∀ i, i < 64 → at32 Wl i = wd ((padM (sb s)).drop (64 * k)) i) := Lib.hid (fun i hi => by rw [hWl, filled_at _ hi hi, hsx, wd_take])
              have HWl := Lib.hid hWl
              have HS1 := Lib.hid hS1
              clear hS1 hsx hWl
              have HI := Lib.hid hI; clear hI
              go_wp2_with (first
                | (go_at_call 49
                   refine (schedule_any (y.extract 0 64) wr hex).mono ?_
                   rintro e w3 ⟨rfl, hb3⟩
                   rw [← HWl.out])
                | (refine wpList_store_blk rfl 89 (.tmp 9) (.tmp 52) rfl w3.heap.size 89 _ (wvs Wl) rfl rfl (Blk.new _ _ _) (by rw [hWz]; rfl) (by rw [hWz]; exact sizeK) (wvs_one _) ?_
                   intro w4 hb4 hg4 hz4
                   have hs3 := hb3.size
                   have hgz := HI.out.2.2.1.lt
                   have hB4 : Below wr.heap.size wr w4 := (hb3.alloc hs3 _).grown hg4 (by simp; omega) (by intro k hk; injection hk with hk; omega)
                   have hz5 : w4.heap.size = w3.heap.size + 1 := by rw [hz4]; simp
                   have HL : Hid (∃ gw, gw = w3.heap.size ∧ (gk < gw ∧ w4.heap.size = gw + 1) ∧ Blk w4 gw 89 (wvs Wl) ∧ Blk w4 gk 89 (wvs kList) ∧ Blk w4 g 34 (bvs (List.replicate 32 0)) ∧ Blk w4 (g + 1) 83 (wvs S1) ∧ Below g w w4) := 
                     Lib.hid ⟨_, rfl, ⟨by have := HI.out.1.lt; omega, hz5⟩, hb4, HI.out.1.below hB4 HI.out.1.lt, HI.out.2.1.below hB4 HI.out.2.1.lt, HI.out.2.2.1.below hB4 (by omega), HI.out.2.2.2.trans (hB4.mono (by omega))⟩
                   clear hb3 hb4 hg4 hz4 hs3 hgz hB4 HI)
                | (refine wpList_load_blk rfl 83 (.tmp 3) rfl (g + 1) 83 (wvs S1) rfl (by obtain ⟨gw, _, _, h⟩ := HL.out; exact h.2.2.2.1) Tryd.underlying83 rfl (by rw [hps]; kernel_rfl) ?_)
                | (refine wpList_store_blk rfl 83 (.tmp 10) (.tmp 53) rfl (w3.heap.size + 1) 83 _ (wvs S1) rfl rfl (Blk.new' hz5 _ _) (by rw [hps]; rfl) (by rw [hps]; kernel_rfl) (wvs_one _) ?_
                   intro w6 hb6 hg6 hz6
                   have HM : Hid (∃ gw, gw = w3.heap.size ∧ gk < gw ∧ Blk w6 (gw + 1) 83 (wvs (rnds ((padM (sb s)).drop (64 * k)) S1 0)) ∧ Blk w6 gw 89 (wvs Wl) ∧ Blk w6 gk 89 (wvs kList) ∧ Blk w6 g 34 (bvs (List.replicate 32 0)) ∧ Blk w6 (g + 1) 83 (wvs S1) ∧ Below g w w6) := by
                     obtain ⟨gw, hgw, ⟨hgw1, hgw2⟩, h1, h2, h3, h4, h5⟩ := HL.out
                     refine Lib.hid ⟨gw, hgw, hgw1, by rw [hgw]; exact hb6, (h1.alloc _).grown hg6 (by intro h; injection h with h; omega), (h2.alloc _).grown hg6 (by intro h; injection h with h; omega), (h3.alloc _).grown hg6 (by intro h; injection h with h; omega), (h4.alloc _).grown hg6 (by intro h; injection h with h; omega), (h5.alloc (by omega) _).grown hg6 (by simp; omega) (by intro k hk; injection hk with hk; omega)⟩
                   clear hb6 hg6 hz6 HL))
              try simp only [Act.put]
              obtain ⟨gw, hgw, hgw1, hM⟩ := HM.out
              rw [← hgw]
              have HM2 := Lib.hid hM
              clear HM hM hgw
              have hyd : Hid (sb (y.extract 64 y.size) = (padM (sb s)).drop (64 * (k + 1))) := Lib.hid (by rw [sb_drop, hy.out, List.drop_drop]; congr 1)
              generalize hR : (padM (sb s)).drop (64 * k) = R at *
              have HR := Lib.hid hR
              clear hR hyne hex
              go_loopw [11] (fun x wr => ∃ i : Nat, i ≤ 64 ∧ x = .int .i64 i ∧ Blk wr (gw + 1) 83 (wvs (rnds R S1 i)) ∧ Blk wr gw 89 (wvs Wl) ∧ Blk wr gk 89 (wvs kList) ∧ Blk wr g 34 (bvs (List.replicate 32 0)) ∧ Blk wr (g + 1) 83 (wvs S1) ∧ Below g w wr) (fun x _ => 64 - (intOf x).toNat)
              case atStart => exact ⟨0, by omega, rfl, HM2.out⟩
              case round =>
                clear HM2
                obtain ⟨i, hi, rfl, hI⟩ := hrel
                by_cases hi64 : i < 64
                · have ck := hI.2.2.1.word (i := i) (by rw [kList_length]; omega)
                  have cw := hI.2.1.word (i := i) (by rw [wvs_size] at hWz; omega)
                  rw [HW.out i hi64] at cw
                  obtain ⟨a0, a1, a2, a3, a4, a5, a6, a7, he⟩ := eight (rnds_length R hl1 i)
                  have hst : rnds R S1 (i + 1) = step (rnds R S1 i) (at32 kList i) (wd R i) := rfl
                  rw [he] at hI
                  rw [he, step_eq3] at hst
                  have HST := Lib.hid hst
                  clear he hst
                  have HV := hI.1
                  have d0 : wr.cell? ⟨gw + 1, 0, none⟩ = some (.int .u32 a0.toNat) := HV.cell 0
                  have d1 : wr.cell? ⟨gw + 1, 1, none⟩ = some (.int .u32 a1.toNat) := HV.cell 1
                  have d2 : wr.cell? ⟨gw + 1, 2, none⟩ = some (.int .u32 a2.toNat) := HV.cell 2
                  have d3 : wr.cell? ⟨gw + 1, 3, none⟩ = some (.int .u32 a3.toNat) := HV.cell 3
                  have d4 : wr.cell? ⟨gw + 1, 4, none⟩ = some (.int .u32 a4.toNat) := HV.cell 4
                  have d5 : wr.cell? ⟨gw + 1, 5, none⟩ = some (.int .u32 a5.toNat) := HV.cell 5
                  have d6 : wr.cell? ⟨gw + 1, 6, none⟩ = some (.int .u32 a6.toNat) := HV.cell 6
                  have d7 : wr.cell? ⟨gw + 1, 7, none⟩ = some (.int .u32 a7.toNat) := HV.cell 7
                  have HI := Lib.hid hI; clear hI HV
                  go_wp2_with fail
                  go_quiet (first | (go_at_call 50; refine Calls.quiet_of_same (turnR_back _ _ _ (by omega) (by omega))))
                  rw [t_int2]
                  go_wp2_with fail
                  refine wp_abs (fun W => Blk W (gw + 1) 83 (wvs [a0, a1, a2, a3, a4, a5, a6, a7]) ∧ Blk W gw 89 (wvs Wl) ∧ Blk W gk 89 (wvs kList) ∧ Blk W g 34 (bvs (List.replicate 32 0)) ∧ Blk W (g + 1) 83 (wvs S1) ∧ Below g w W) ⟨HI.out.1.drewN _, HI.out.2.1.drewN _, HI.out.2.2.1.drewN _, HI.out.2.2.2.1.drewN _, HI.out.2.2.2.2.1.drewN _, below_drewN HI.out.2.2.2.2.2 _⟩ ?_
                  clear d0 d1 d2 d3 d4 d5 d6 d7 ck cw HI
                  rintro W2 HI2
                  have HV := HI2.1
                  have d0 : W2.cell? ⟨gw + 1, 0, none⟩ = some (.int .u32 a0.toNat) := HV.cell 0
                  have d1 : W2.cell? ⟨gw + 1, 1, none⟩ = some (.int .u32 a1.toNat) := HV.cell 1
                  have d2 : W2.cell? ⟨gw + 1, 2, none⟩ = some (.int .u32 a2.toNat) := HV.cell 2
                  have HI3 := Lib.hid HI2
                  clear HI2 HV
                  go_quiet (first | (go_at_call 50; refine Calls.quiet_of_same (turnR_back _ _ _ (by omega) (by omega))))
                  generalize t1F a4 a5 a6 a7 (at32 kList i) (wd R i) = T at *
                  generalize add32 (xor32 (xor32 (rotr a0 2) (rotr a0 13)) (rotr a0 22)) (xor32 (xor32 (and32 a0 a1) (and32 a0 a2)) (and32 a1 a2)) = U at *
                  clear d0 d1 d2
                  go_wp2_with fail
                  refine wp_abs (fun W => Blk W (gw + 1) 83 (wvs (shiftF [a0, a1, a2, a3, a4, a5, a6, a7] 7)) ∧ Blk W gw 89 (wvs Wl) ∧ Blk W gk 89 (wvs kList) ∧ Blk W g 34 (bvs (List.replicate 32 0)) ∧ Blk W (g + 1) 83 (wvs S1) ∧ Below g w W) ⟨HI3.out.1.drewN _, HI3.out.2.1.drewN _, HI3.out.2.2.1.drewN _, HI3.out.2.2.2.1.drewN _, HI3.out.2.2.2.2.1.drewN _, below_drewN HI3.out.2.2.2.2.2 _⟩ ?_
                  clear HI3
                  rintro W3 HI4
                  have HI5 := Lib.hid HI4
                  clear HI4
                  go_loopw [14] (fun x wr => ∃ j : Nat, j ≤ 7 ∧ x = .int .i64 j ∧ Blk wr (gw + 1) 83 (wvs (shiftF [a0, a1, a2, a3, a4, a5, a6, a7] j)) ∧ Blk wr gw 89 (wvs Wl) ∧ Blk wr gk 89 (wvs kList) ∧ Blk wr g 34 (bvs (List.replicate 32 0)) ∧ Blk wr (g + 1) 83 (wvs S1) ∧ Below g w wr) (fun x _ => (intOf x).toNat)
                  case atStart => exact ⟨7, by omega, rfl, HI5.out⟩
                  case round =>
                    clear HI5
                    obtain ⟨j, hj, rfl, hI⟩ := hrel
                    by_cases hj0 : 0 < j
                    · have c0 := hI.1.word (i := j - 1) (by rw [shiftF_length]; omega)
                      rw [shiftF_at _ (by omega) (by omega)] at c0
                      have c1 := hI.1.word (i := j) (by rw [shiftF_length]; omega)
                      have f1 := hI.1.frozen j
                      have hw1 : IntKind.i64.wrap ((j : Int) - 1) = ((j - 1 : Nat) : Int) := by rw [IntWalk.i64_in _ (by omega)]; omega
                      have hw2 : ((j - 1 : Nat) : Int) < 8 := by omega
                      have HI := Lib.hid hI; clear hI
                      go_wp2_with fail
                      go_roundw
                      case rel =>
                        refine ⟨j - 1, by omega, rfl, ?_, HI.out.2.1.other (p := ⟨gw + 1, j, none⟩) (show gw ≠ gw + 1 by omega) _, HI.out.2.2.1.other (p := ⟨gw + 1, j, none⟩) (show gk ≠ gw + 1 by omega) _, HI.out.2.2.2.1.other (p := ⟨gw + 1, j, none⟩) (show g ≠ gw + 1 by omega) _, HI.out.2.2.2.2.1.other (p := ⟨gw + 1, j, none⟩) (show g + 1 ≠ gw + 1 by omega) _, HI.out.2.2.2.2.2.setCell (p := ⟨gw + 1, j, none⟩) (show g ≤ gw + 1 by omega) _⟩
                        rw [← shiftF_set _ hj0 (by omega)]
                        exact HI.out.1.word_store _ _
                      case measure => simp [intOf]; omega
                    · obtain rfl : j = 0 := by omega
                      have HV := hI.1
                      have d3 : wr.cell? ⟨gw + 1, 4, none⟩ = some (.int .u32 a3.toNat) := HV.cell 4
                      have d0 : wr.cell? ⟨gw + 1, 0, none⟩ = some (.int .u32 a0.toNat) := HV.cell 0
                      have f4 := HV.frozen 4
                      have f0 := HV.frozen 0
                      have HI := Lib.hid hI; clear hI HV
                      go_wp2_with fail
                      go_roundw
                      case rel =>
                        refine ⟨i + 1, by omega, by go_num, ?_, (HI.out.2.1.other (p := ⟨gw + 1, 4, none⟩) (show gw ≠ gw + 1 by omega) _).other (p := ⟨gw + 1, 0, none⟩) (show gw ≠ gw + 1 by omega) _, (HI.out.2.2.1.other (p := ⟨gw + 1, 4, none⟩) (show gk ≠ gw + 1 by omega) _).other (p := ⟨gw + 1, 0, none⟩) (show gk ≠ gw + 1 by omega) _, (HI.out.2.2.2.1.other (p := ⟨gw + 1, 4, none⟩) (show g ≠ gw + 1 by omega) _).other (p := ⟨gw + 1, 0, none⟩) (show g ≠ gw + 1 by omega) _, (HI.out.2.2.2.2.1.other (p := ⟨gw + 1, 4, none⟩) (show g + 1 ≠ gw + 1 by omega) _).other (p := ⟨gw + 1, 0, none⟩) (show g + 1 ≠ gw + 1 by omega) _, (HI.out.2.2.2.2.2.setCell (p := ⟨gw + 1, 4, none⟩) (show g ≤ gw + 1 by omega) _).setCell (p := ⟨gw + 1, 0, none⟩) (show g ≤ gw + 1 by omega) _⟩
                        rw [HST.out]
                        exact (HI.out.1.word_store 4 (add32 a3 T)).word_store 0 (add32 T U)
                      case measure => simp [intOf]; omega
                · obtain rfl : i = 64 := by omega
                  have HI := Lib.hid hI; clear hI
                  go_wp2_with fail
                  have START : Hid (Blk wr (g + 1) 83 (wvs (addFill S1 (rnds R S1 64) 0)) ∧ Blk wr (gw + 1) 83 (wvs (rnds R S1 64)) ∧ Blk wr gk 89 (wvs kList) ∧ Blk wr g 34 (bvs (List.replicate 32 0)) ∧ Below g w wr) := Lib.hid ⟨by rw [addFill_zero hl1]; exact HI.out.2.2.2.2.1, HI.out.1, HI.out.2.2.1, HI.out.2.2.2.1, HI.out.2.2.2.2.2⟩
                  clear HI
                  go_loopw [15] (fun x wr => ∃ i : Nat, i ≤ 8 ∧ x = .int .i64 i ∧ Blk wr (g + 1) 83 (wvs (addFill S1 (rnds R S1 64) i)) ∧ Blk wr (gw + 1) 83 (wvs (rnds R S1 64)) ∧ Blk wr gk 89 (wvs kList) ∧ Blk wr g 34 (bvs (List.replicate 32 0)) ∧ Below g w wr) (fun x _ => 8 - (intOf x).toNat)
                  case atStart => exact ⟨0, by omega, rfl, START.out⟩
                  case round =>
                    clear START
                    obtain ⟨i, hi, rfl, hI⟩ := hrel
                    by_cases hi8 : i < 8
                    · have c0 := hI.1.word (i := i) (by rw [addFill_length]; omega)
                      rw [addFill_at _ _ hi8] at c0
                      have f0 := hI.1.frozen i
                      have c1 := hI.2.1.word (i := i) (by rw [rnds_length R hl1]; omega)
                      have HI := Lib.hid hI; clear hI
                      go_wp2_with fail
                      go_region
                      have HI2 : Hid (Blk ((wr.setCell ⟨g + 1, i, none⟩ (.int .u32 (add32 (at32 S1 i) (at32 (rnds R S1 64) i)).toNat)).drew) (g + 1) 83 (wvs (addFill S1 (rnds R S1 64) (i + 1))) ∧ Blk ((wr.setCell ⟨g + 1, i, none⟩ (.int .u32 (add32 (at32 S1 i) (at32 (rnds R S1 64) i)).toNat)).drew) (gw + 1) 83 (wvs (rnds R S1 64)) ∧ Blk ((wr.setCell ⟨g + 1, i, none⟩ (.int .u32 (add32 (at32 S1 i) (at32 (rnds R S1 64) i)).toNat)).drew) gk 89 (wvs kList) ∧ Blk ((wr.setCell ⟨g + 1, i, none⟩ (.int .u32 (add32 (at32 S1 i) (at32 (rnds R S1 64) i)).toNat)).drew) g 34 (bvs (List.replicate 32 0)) ∧ Below g w ((wr.setCell ⟨g + 1, i, none⟩ (.int .u32 (add32 (at32 S1 i) (at32 (rnds R S1 64) i)).toNat)).drew)) := by
                        refine Lib.hid ⟨?_, (HI.out.2.1.other (p := ⟨g + 1, i, none⟩) (show gw + 1 ≠ g + 1 by omega) _).drew, (HI.out.2.2.1.other (p := ⟨g + 1, i, none⟩) (show gk ≠ g + 1 by omega) _).drew, (HI.out.2.2.2.1.other (p := ⟨g + 1, i, none⟩) (show g ≠ g + 1 by omega) _).drew, (HI.out.2.2.2.2.setCell (p := ⟨g + 1, i, none⟩) (show g ≤ g + 1 by omega) _).drew⟩
                        rw [← addFill_set S1 (rnds R S1 64) hi8]
                        exact (HI.out.1.word_store _ _).drew
                      clear c0 c1 f0 HI
                      generalize (wr.setCell ⟨g + 1, i, none⟩ (.int .u32 (add32 (at32 S1 i) (at32 (rnds R S1 64) i)).toNat)).drew = w2 at *
                      go_wp2_with fail
                      go_roundw
                      case rel => exact ⟨i + 1, by omega, by go_num, HI2.out⟩
                      case measure => simp [intOf]; omega
                    · obtain rfl : i = 8 := by omega
                      have HI := Lib.hid hI; clear hI
                      rw [addFill_all] at HI
                      have hsl : (64 : Int) ≤ (y.size : Int) := by omega
                      go_wp2_with fail
                      go_roundw
                      case rel =>
                        refine ⟨k + 1, _, by omega, rfl, Lib.hid ?_, HI.out.2.2.1, HI.out.2.2.2.1, ?_, HI.out.2.2.2.2⟩
                        · exact hyd.out
                        · have e : parts (padM (sb s)) (k + 1) = comp S1 R := by rw [HS1.out, ← HR.out]; rfl
                          rw [e]; exact HI.out.1
                      case measure => simp only [slen, ByteArray.size_extract]; omega
            · obtain rfl : k = K := by omega
              have hyz : y = ⟨#[]⟩ := by
                cases y with
                | mk d => 
                  have : d.size = 0 := by have h : d.size = 64 * (k - k) := hyl; omega
                  rw [Array.eq_empty_of_size_eq_zero this]
              subst hyz
              have HI := Lib.hid hI; clear hI
              obtain ⟨S, hS⟩ : ∃ S, S = parts (padM (sb s)) k := ⟨_, rfl⟩
              rw [← hS] at HI
              have hSl : S.length = 8 := by rw [hS]; exact parts_length _ _
              have HSF : Hid (sha (sb s) = outB S) := Lib.hid (by unfold sha; rw [hK, Nat.mul_div_cancel_left _ (by omega), hS])
              clear hS
              go_wp2_with fail
              refine wp_abs (fun W => ∃ go, go = wr.heap.size ∧ g + 1 < go ∧ Blk W go 34 (bvs (outF S (4 * 0))) ∧ Blk W (g + 1) 83 (wvs S) ∧ Blk W g 34 (bvs (List.replicate 32 0)) ∧ Below g w W) ⟨_, rfl, HI.out.2.2.1.lt, ?_, HI.out.2.2.1.alloc _, HI.out.2.1.alloc _, HI.out.2.2.2.alloc (by have := HI.out.2.2.1.lt; omega) _⟩ ?_
              · rw [Nat.mul_zero, outF_zero]; exact Blk.new _ _ _
              rintro W ⟨go, hgo, hgo1, hI⟩
              rw [← hgo]
              have START := Lib.hid hI
              clear HI hI hgo
              go_loopw [17] (fun x wr => ∃ i : Nat, i ≤ 8 ∧ x = .int .i64 i ∧ Blk wr go 34 (bvs (outF S (4 * i))) ∧ Blk wr (g + 1) 83 (wvs S) ∧ Blk wr g 34 (bvs (List.replicate 32 0)) ∧ Below g w wr) (fun x _ => 8 - (intOf x).toNat)
              case atStart => exact ⟨0, by omega, rfl, START.out⟩
              case round =>
                clear START
                obtain ⟨i, hi, rfl, hI⟩ := hrel
                by_cases hlt8 : i < 8
                · have c0 := hI.2.1.word (i := i) (by omega)
                  have hw : IntKind.i64.wrap (4 * (i : Int)) = 4 * (i : Int) := IntWalk.i64_in _ (by omega)
                  have b0 := hI.1.byte (i := 4 * i) (by rw [outF_length]; omega)
                  have b1 := hI.1.byte (i := 4 * i + 1) (by rw [outF_length]; omega)
                  have b2 := hI.1.byte (i := 4 * i + 2) (by rw [outF_length]; omega)
                  have b3 := hI.1.byte (i := 4 * i + 3) (by rw [outF_length]; omega)
                  have f0 := hI.1.frozen (4 * i)
                  have f1 := hI.1.frozen (4 * i + 1)
                  have f2 := hI.1.frozen (4 * i + 2)
                  have f3 := hI.1.frozen (4 * i + 3)
                  have hne1 : g + 1 ≠ go := by omega
                  have HI := Lib.hid hI; clear hI
                  go_wp2_with fail
                  have e0 : ((at32 S i).toNat : Int) / 16777216 % 256 = ((ob S (4 * i)).toNat : Int) := by
                    have h := ob_eq S i 0 (by omega)
                    rw [Nat.add_zero] at h
                    rw [h]; simp
                  have e1 : ((at32 S i).toNat : Int) / 65536 % 256 = ((ob S (4 * i + 1)).toNat : Int) := by
                    rw [ob_eq S i 1 (by omega)]; simp
                  have e2 : ((at32 S i).toNat : Int) / 256 % 256 = ((ob S (4 * i + 2)).toNat : Int) := by
                    rw [ob_eq S i 2 (by omega)]; simp
                  have e3 : ((at32 S i).toNat : Int) % 256 = ((ob S (4 * i + 3)).toNat : Int) := by
                    rw [ob_eq S i 3 (by omega)]; simp
                  rw [e0, e1, e2, e3]
                  have h0 := HI.out.1.byte_store (4 * i) (ob S (4 * i))
                  rw [outF_ob S (by omega)] at h0
                  have h1 := h0.byte_store (4 * i + 1) (ob S (4 * i + 1))
                  rw [outF_ob S (by omega)] at h1
                  have h2 := h1.byte_store (4 * i + 1 + 1) (ob S (4 * i + 2))
                  rw [show 4 * i + 1 + 1 = 4 * i + 2 by omega, outF_ob S (by omega)] at h2
                  have h3 := h2.byte_store (4 * i + 3) (ob S (4 * i + 3))
                  rw [show 4 * i + 2 + 1 = 4 * i + 3 by omega, outF_ob S (by omega), show 4 * i + 3 + 1 = 4 * (i + 1) by omega] at h3
                  go_roundw
                  case rel =>
                    exact ⟨i + 1, by omega, by go_num, h3, (((HI.out.2.1.other (p := ⟨go, 4 * i, none⟩) (show g + 1 ≠ go by omega) _).other (p := ⟨go, 4 * i + 1, none⟩) (show g + 1 ≠ go by omega) _).other (p := ⟨go, 4 * i + 2, none⟩) (show g + 1 ≠ go by omega) _).other (p := ⟨go, 4 * i + 3, none⟩) (show g + 1 ≠ go by omega) _, (((HI.out.2.2.1.other (p := ⟨go, 4 * i, none⟩) (show g ≠ go by omega) _).other (p := ⟨go, 4 * i + 1, none⟩) (show g ≠ go by omega) _).other (p := ⟨go, 4 * i + 2, none⟩) (show g ≠ go by omega) _).other (p := ⟨go, 4 * i + 3, none⟩) (show g ≠ go by omega) _, (((HI.out.2.2.2.setCell (p := ⟨go, 4 * i, none⟩) (show g ≤ go by omega) _).setCell (p := ⟨go, 4 * i + 1, none⟩) (show g ≤ go by omega) _).setCell (p := ⟨go, 4 * i + 2, none⟩) (show g ≤ go by omega) _).setCell (p := ⟨go, 4 * i + 3, none⟩) (show g ≤ go by omega) _⟩
                  case measure => simp [intOf]; omega
                · obtain rfl : i = 8 := by omega
                  have HI := Lib.hid hI; clear hI
                  rw [show 4 * 8 = 32 from rfl, outF_all, ← HSF.out] at HI
                  have e8 : (bvs (sha (sb s))).size = 32 := by rw [bvs_size]; exact sha_length _
                  have e9 : (bvs (List.replicate 32 (0 : UInt8))).size = 32 := rfl
                  go_wp2_with (first | (refine wpList_load_blk rfl 34 (.tmp 16) rfl go 34 (bvs (sha (sb s))) rfl HI.out.1 Tryd.underlying34 rfl (by rw [e8]; kernel_rfl) ?_) | (refine wpList_store_blk rfl 34 (.tmp 2) (.tmp 193) rfl g 34 _ (bvs (sha (sb s))) rfl rfl HI.out.2.2.1 (by rw [e8, e9]) (by rw [e8]; kernel_rfl) (bvs_one _) ?_; intro w1 hb1 hg1 hz1))
                  refine bodyPost_ret (results_cell Tryd.results36 rfl (t := 34) (g := g) (cs := bvs (sha (sb s))) hb1 Tryd.underlying34 rfl (by rw [e8]; kernel_rfl)) rfl ⟨rfl, ?_⟩
                  rw [← HG.out]
                  exact (HI.out.2.2.2).grown hg1 (by have := HI.out.2.2.1.lt; omega) (by intro k hk; injection hk with hk; omega)
end Go.Proofs.YtbicdobnnanlkaaDoor
