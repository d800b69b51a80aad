/-
  The walk of 'digest.Of'.
-/
import Derived.Test.YtbicdobnnanlkaaDoorGA
import Derived.Test.YtbicdobnnanlkaaDoorDg6
import Derived.Test.YtbicdobnnanlkaaDoorBy
namespace Go.Proofs.YtbicdobnnanlkaaDoor
open Go Go.RowKit

/-- the digest's bytes while they are laid -/
def outF (S : List UInt32) (i : Nat) : List UInt8 := (List.range 32).map fun j => if j < i then UInt8.ofNat ((S.getD (j / 4) 0).toNat / 2 ^ (24 - j % 4 * 8)) else 0
theorem outF_length (S : List UInt32) (i : Nat) : (outF S i).length = 32 := by simp [outF]
theorem outF_zero (S : List UInt32) : outF S 0 = List.replicate 32 0 := by
  unfold outF
  simp only [Nat.not_lt_zero, if_false]
  rfl
theorem outF_all (S : List UInt32) : outF S 32 = outB S := by
  apply List.map_congr_left
  intro j hj
  have hj : j < 32 := by simpa using hj
  rw [if_pos hj]
theorem outF_set (S : List UInt32) {i : Nat} (h : i < 32) : (outF S i).set i (UInt8.ofNat ((S.getD (i / 4) 0).toNat / 2 ^ (24 - i % 4 * 8))) = outF S (i + 1) := by
  apply List.ext_getElem?
  intro j
  rw [List.getElem?_set]
  simp only [outF, List.length_map, List.length_range, List.getElem?_map]
  by_cases h1 : i = j
  · subst h1; simp [h]
  · by_cases h2 : j < 32
    · rw [if_neg h1]
      simp only [h2, List.getElem?_range, Option.map_some]
      by_cases h3 : j < i
      · rw [if_pos h3, if_pos (by omega)]
      · rw [if_neg h3, if_neg (by omega)]
    · rw [if_neg h1]
      simp [h2]

set_option maxRecDepth 100000 in
set_option maxHeartbeats 1000000 in
theorem of_any (v : Value) (ls : List (List UInt8)) (w : World) (hT : Tab w) (h0 : 1 < w.heap.size) (hP : Parts w v ls) (hn : ls.length ≤ 1000000) (hs : ls.flatten.length ≤ 1000000) :
    Calls Tryd.prog 31 #[v] w fun e w' => e = .returned (.agg (bvs (sha ls.flatten))) ∧ Below w.heap.size w w' := by
  obtain ⟨i8, hi8, hz8, hsz8, hby8⟩ := info8
  have HI8 := Lib.hid hi8; clear hi8
  have hP1 : Parts (w.alloc (.cells (bvs (List.replicate 32 0)) 34)) v ls := hP.keep ((Below.refl _ _).alloc (Nat.le_refl _) _)
  have hz1 : (w.alloc (.cells (bvs (List.replicate 32 0)) 34)).heap.size = w.heap.size + 1 := by simp
  generalize hm : ls.flatten = m at *
  generalize hg : w.heap.size = g at *
  have HG := Lib.hid hg; clear hg
  go_enter Tryd.func31, Tryd.ntmps31
  go_wp2_with (first
    | (go_at_call 42
       refine (join_any v ls _ hP1 (by omega) (by rw [hm]; omega)).mono ?_
       rintro e w1 ⟨v1, rfl, ho, hb⟩
       rw [hm, show (w.alloc (.cells (bvs (List.replicate 32 0)) 34)).heap.size = g + 1 from hz1] at ho
       have hb1 : Blk w1 g 34 (bvs (List.replicate 32 0)) := (Blk.new' HG.out _ _).below hb (by rw [hz1]; omega)
       have hbw : Below g w w1 := ((Below.refl g w).alloc (by rw [HG.out]; omega) _).trans (hb.mono (by rw [hz1]; omega))
       have hsz : g + 1 ≤ w1.heap.size := by have := hb.size; rw [hz1] at this; exact this
       obtain ⟨A1, c1, rfl⟩ := ho.slice
       have HO := Lib.hid ho
       have HF := Lib.hid (And.intro hb1 hbw)
       clear ho hb1 hbw hb)
    | (at_builtin
       refine wpList_append_byte rfl (.tmp 15) (.tmp 16) 25 rfl (g + 1) 5 i8 Tryd.underlying25 HI8.out hz8 hsz8 hby8 _ m rfl (HO.out.alloc _) w1.heap.size 1 128 rfl ((Blk.new _ _ _).cell 0) (by omega) (by simp; omega) ?_
       intro v2 w2 ho2 hb2
       have hb3 : Blk w2 g 34 (bvs (List.replicate 32 0)) := (HF.out.1.alloc _).below hb2 (by omega)
       have hbw : Below g w w2 := (HF.out.2.alloc (by omega) _).trans (hb2.mono (by omega))
       have hsz2 : g + 1 ≤ w2.heap.size := by have := hb2.size; simp at this; omega
       have HS : Hid (OwnB w2 (g + 1) v2 (m ++ [128] ++ List.replicate 0 0) ∧ Blk w2 g 34 (bvs (List.replicate 32 0)) ∧ Below g w w2 ∧ g + 1 ≤ w2.heap.size) := Lib.hid ⟨ho2.mk_eq (by simp), hb3, hbw, hsz2⟩
       clear HO HF ho2 hb2 hb3 hbw hsz2 hsz))
  rw [HG.out]
  go_loopw [3] (fun x wr => ∃ k, k ≤ zeros m.length ∧ OwnB wr (g + 1) x (m ++ [128] ++ List.replicate k 0) ∧ Blk wr g 34 (bvs (List.replicate 32 0)) ∧ Below g w wr ∧ g + 1 ≤ wr.heap.size) (fun x _ => 1000100 - vlen x)
  case atStart => exact ⟨0, by omega, HS.out⟩
  case round =>
    clear HS
    obtain ⟨k, hk, hI⟩ := hrel
    obtain ⟨A2, c2, rfl⟩ := hI.1.slice
    have hlen : (m ++ [128] ++ List.replicate k (0 : UInt8)).length = m.length + 1 + k := by simp; omega
    have hzl : zeros m.length < 64 := by unfold zeros; omega
    rw [hlen] at hI ⊢
    have hm0 : ((m.length + 1 + k : Nat) : Int).tmod 64 = (((m.length + 1 + k) % 64 : Nat) : Int) := by rw [Int.tmod_eq_emod_of_nonneg (by omega)]; omega
    by_cases hlt : k < zeros m.length
    · have h56 := zeros_least hlt
      have h56' : (((m.length + 1 + k) % 64 : Nat) : Int) ≠ 56 := by omega
      have HI := Lib.hid hI; clear hI
      go_wp2_with (
        (at_builtin
         refine wpList_append_byte rfl (.tmp 22) (.tmp 23) 25 rfl (g + 1) 5 i8 Tryd.underlying25 HI8.out hz8 hsz8 hby8 _ _ rfl (HI.out.1.alloc _) _ 1 0 rfl ((Blk.new _ _ _).cell 0) (by rw [hlen]; omega) (by have := HI.out.2.2.2; simp; omega) ?_
         intro v2 w2 ho2 hb2
         have hz := HI.out.2.2.2
         have hb3 : Blk w2 g 34 (bvs (List.replicate 32 0)) := (HI.out.2.1.alloc _).below hb2 (by omega)
         have hbw : Below g w w2 := (HI.out.2.2.1.alloc (by omega) _).trans (hb2.mono (by omega))
         have hsz2 : g + 1 ≤ w2.heap.size := by have := hb2.size; simp at this; omega
         have HS : Hid (OwnB w2 (g + 1) v2 (m ++ [128] ++ List.replicate (k + 1) 0) ∧ Blk w2 g 34 (bvs (List.replicate 32 0)) ∧ Below g w w2 ∧ g + 1 ≤ w2.heap.size) := Lib.hid ⟨ho2.mk_eq (by rw [List.replicate_succ']; simp), hb3, hbw, hsz2⟩
         clear HI ho2 hb2 hb3 hbw hsz2 hz))
      go_roundw
      case rel => exact ⟨k + 1, by omega, HS.out⟩
      case measure =>
        obtain ⟨A3, c3, rfl⟩ := HS.out.1.slice
        simp [vlen]; omega
    · obtain rfl : k = zeros m.length := by omega
      have h56 := zeros_spec m.length
      have h56' : (((m.length + 1 + zeros m.length) % 64 : Nat) : Int) = 56 := by omega
      have HI := Lib.hid hI; clear hI
      go_wp2_with fail
      have hne : (((m.length : Int) + 1 + (zeros m.length : Int)) % 64 != 56) = false := by assumption
      rw [hne]
      clear hne
      generalize hp : m ++ [128] ++ List.replicate (zeros m.length) 0 = p at *
      generalize hN : m.length * 8 = N
      have hpl : p.length % 64 = 56 := by rw [hlen]; exact h56
      have HP : Hid (m ++ [128] ++ List.replicate (zeros m.length) 0 = p) := Lib.hid hp
      rw [← hlen] at HI ⊢
      have hpb : p.length ≤ 1000100 := by omega
      have hNi : (m.length : Int) * 8 = (N : Int) := by omega
      rw [hNi]
      have hNb : N ≤ 8000000 := by omega
      clear hlen hm0 h56 h56' hp hlt hk
      go_loopw [3, 5] (fun x y wr => ∃ j : Nat, j ≤ 8 ∧ y = .int .i64 (56 - 8 * (j : Int)) ∧ OwnB wr (g + 1) x (p ++ (be8 N).take j) ∧ Blk wr g 34 (bvs (List.replicate 32 0)) ∧ Below g w wr ∧ g + 1 ≤ wr.heap.size) (fun _ y _ => (intOf y + 8).toNat)
      case atStart => exact ⟨0, by omega, rfl, by simpa using HI.out⟩
      case round =>
        clear HI
        obtain ⟨j, hj, rfl, hI⟩ := hrel
        obtain ⟨A3, c3, rfl⟩ := hI.1.slice
        have hlen : (p ++ (be8 N).take j).length = p.length + j := by rw [List.length_append, List.length_take, be8_length]; omega
        rw [hlen] at hI ⊢
        by_cases hlt : j < 8
        · have HI := Lib.hid hI; clear hI
          obtain ⟨y, hy⟩ : ∃ y : UInt8, y = UInt8.ofNat (N / 256 ^ (7 - j)) := ⟨_, rfl⟩
          have hyv : ((N : Int) / 2 ^ (56 - 8 * j) % 256) = (y.toNat : Int) := by
            rw [hy, UInt8.toNat_ofNat', show (256 : Nat) = 2 ^ 8 from rfl, ← Nat.pow_mul, show 8 * (7 - j) = 56 - 8 * j by omega]
            simp
          have hye : (be8 N).take (j + 1) = (be8 N).take j ++ [y] := by
            rw [List.take_add_one, hy]
            simp [be8, hlt]
          have HY := Lib.hid hye
          have HYV := Lib.hid hyv
          clear hy hye hyv
          go_wp2_with (
            (at_builtin
             refine wpList_append_byte rfl (.tmp 29) (.tmp 34) 25 rfl (g + 1) 5 i8 Tryd.underlying25 HI8.out hz8 hsz8 hby8 _ _ rfl (HI.out.1.alloc _) wr.heap.size 1 y rfl (((Blk.new _ _ _).cell 0).trans (congrArg (fun z => some (Value.int .u8 z)) HYV.out)) (by rw [hlen]; omega) (by have := HI.out.2.2.2; simp; omega) ?_
             intro v2 w2 ho2 hb2
             have hz := HI.out.2.2.2
             have hb3 : Blk w2 g 34 (bvs (List.replicate 32 0)) := (HI.out.2.1.alloc _).below hb2 (by omega)
             have hbw : Below g w w2 := (HI.out.2.2.1.alloc (by omega) _).trans (hb2.mono (by omega))
             have hsz2 : g + 1 ≤ w2.heap.size := by have := hb2.size; simp at this; omega
             have HS : Hid (OwnB w2 (g + 1) v2 (p ++ (be8 N).take (j + 1)) ∧ Blk w2 g 34 (bvs (List.replicate 32 0)) ∧ Below g w w2 ∧ g + 1 ≤ w2.heap.size) := Lib.hid ⟨ho2.mk_eq (by rw [HY.out, List.append_assoc]), hb3, hbw, hsz2⟩
             clear HI HY HYV ho2 hb2 hb3 hbw hsz2 hz))
          go_roundw
          case rel => exact ⟨j + 1, by omega, by go_num, HS.out⟩
          case measure => simp [intOf]; omega
        · obtain rfl : j = 8 := by omega
          have hfin : p ++ (be8 N).take 8 = padM m := by
            rw [List.take_of_length_le (by rw [be8_length]; omega), ← HP.out, ← hN]
            rfl
          have hI2 := hI
          rw [hfin] at hI2
          have hPl : (padM m).length = p.length + 8 := by rw [← hfin, hlen]
          rw [← hPl] at hI2 ⊢
          have hpm : (padM m).length % 64 = 0 := padM_mod m
          obtain ⟨K, hK⟩ : ∃ K, (padM m).length = 64 * K := ⟨(padM m).length / 64, by omega⟩
          have hKb : K ≤ 20000 := by omega
          have hform := hI2.1.form (by intro h; rw [h] at hPl; simp at hPl)
          have HI := Lib.hid hI2; clear hI hI2 hfin hlen
          obtain ⟨gb, cb, hv3, hgb1, hgb2, hcb, hcm, hcell⟩ := hform
          injection hv3 with hA3 _ hc3
          subst hA3 hc3
          have HC := Lib.hid hcell
          clear hcell
          go_wp2_with (first
            | (go_at_call 43
               refine (first_any wr).mono ?_
               rintro e w3 ⟨rfl, hb3⟩)
            | (refine wpList_store_blk rfl 83 (.tmp 6) (.tmp 36) rfl w3.heap.size 83 _ (wvs h0List) rfl rfl (Blk.new _ _ _) (by kernel_rfl) (by kernel_rfl) (wvs_one _) ?_
               intro w4 hb4 hg4 hz4
               have hz := HI.out.2.2.2
               have hs3 := hb3.size
               have hB4 : Below wr.heap.size wr w4 := (hb3.alloc hs3 _).grown hg4 (by simp; omega) (by intro k hk; injection hk with hk; omega)
               have HL : Hid (∃ gs, gs = w3.heap.size ∧ (g + 1 ≤ gs ∧ gb < gs) ∧ Blk w4 gs 83 (wvs h0List) ∧ Blk w4 g 34 (bvs (List.replicate 32 0)) ∧ Below g w w4 ∧ (∀ (i : Nat) (x : UInt8), (padM m)[i]? = some x → w4.cell? ⟨gb, i, none⟩ = some (Value.int IntKind.u8 (x.toNat : Int)))) := 
                 Lib.hid ⟨_, rfl, ⟨by omega, by omega⟩, hb4, HI.out.2.1.below hB4 (by omega), HI.out.2.2.1.trans (hB4.mono (by omega)), fun i x hx => (hB4.cell (p := ⟨gb, i, none⟩) hgb2).trans (HC.out i x hx)⟩
               clear hb3 hb4 hg4 hz4 hz hs3 hB4 HI HC))
          rw [← hPl]
          obtain ⟨gs, hgs, ⟨hgs1, hgs2⟩, hL⟩ := HL.out
          rw [← hgs]
          have HL2 := Lib.hid hL
          clear HL hL hgs
          rw [hK]
          simp only [Act.put]
          go_loopw [3] (fun x wr => ∃ k o c : Nat, k ≤ K ∧ x = .slice (some ⟨gb, o, none⟩) (64 * (K - k)) c ∧ 64 * (K - k) ≤ c ∧ c ≤ maxLen ∧ (k < K → o = 64 * k) ∧ Blk wr gs 83 (wvs (parts (padM m) k)) ∧ Blk wr g 34 (bvs (List.replicate 32 0)) ∧ Below g w wr ∧ (∀ (i : Nat) (x : UInt8), (padM m)[i]? = some x → wr.cell? ⟨gb, i, none⟩ = some (Value.int .u8 (x.toNat : Int)))) (fun x _ => vlen x)
          case atStart => exact ⟨0, 0, c3, by omega, rfl, by omega, hcm, fun _ => by omega, HL2.out⟩
          case round =>
            clear HL2
            obtain ⟨k, o, c, hk, rfl, hc, hcm2, ho, hI⟩ := hrel
            by_cases hlt : k < K
            · obtain rfl := ho hlt
              have hpos : (0 : Int) < ((64 * (K - k) : Nat) : Int) := by omega
              have HI := Lib.hid hI; clear hI
              have hk64 : 64 ≤ 64 * (K - k) := by omega
              obtain ⟨S1, hS1⟩ : ∃ S1, S1 = parts (padM m) k := ⟨_, rfl⟩
              obtain ⟨S2, hS2⟩ : ∃ S2, S2 = comp S1 ((padM m).drop (64 * k)) := ⟨_, rfl⟩
              have hS3 : parts (padM m) (k + 1) = S2 := by rw [hS2, hS1]; rfl
              rw [← hS1] at HI
              have hl1 : S1.length = 8 := by rw [hS1]; exact parts_length _ _
              have hl2 : S2.length = 8 := by rw [hS2]; exact comp_length _ _
              have hps : (wvs S1).size = 8 := by rw [wvs_size]; exact hl1
              have hps1 : (wvs S2).size = 8 := by rw [wvs_size]; exact hl2
              have hPb : ∀ i, i < 64 → wr.cell? ⟨gb, 64 * k + i, none⟩ = some (.int .u8 (byteAt ((padM m).drop (64 * k)) i).toNat) := by
                intro i hi
                have hil : 64 * k + i < (padM m).length := by omega
                have h1 := HI.out.2.2.2 (64 * k + i) (padM m)[64 * k + i] (List.getElem?_eq_getElem hil)
                rw [h1]
                have h2 : byteAt ((padM m).drop (64 * k)) i = (padM m)[64 * k + i] := by
                  unfold byteAt
                  rw [List.getD_eq_getElem?_getD, List.getElem?_drop, List.getElem?_eq_getElem hil]
                  rfl
                rw [h2]
              have hgb3 : gb < wr.heap.size := by
                have h := hPb 0 (by omega)
                exact lt_of_cell h
              have HPB := Lib.hid hPb
              clear hPb
              have HS3 := Lib.hid hS3
              have HS2 := Lib.hid hS2
              clear hS1 hS3 hS2
              go_wp2_with (first
                | (refine wpList_load_blk rfl 83 (.tmp 6) rfl gs 83 (wvs S1) rfl HI.out.1 Tryd.underlying83 rfl (by rw [hps]; kernel_rfl) ?_)
                | (go_at_call 44
                   refine (take_any S1 ((padM m).drop (64 * k)) gb (64 * k) _ _ wr hl1 (hT.below HI.out.2.2.1 h0) (Nat.lt_trans h0 HI.out.2.1.lt) hgb3 (by omega) hc HPB.out).mono ?_
                   rintro e w3 ⟨rfl, hb3⟩
                   rw [← HS2.out])
                | (refine wpList_store_blk rfl 83 (.tmp 6) (.tmp 44) rfl gs 83 _ (wvs S2) rfl rfl (HI.out.1.below hb3 HI.out.1.lt) (by rw [hps, hps1]) (by rw [hps1]; kernel_rfl) (wvs_one _) ?_
                   intro w4 hb4 hg4 hz4
                   have hs3 := hb3.size
                   have hgs := HI.out.1.lt
                   have HL : Hid (Blk w4 gs 83 (wvs (parts (padM m) (k + 1))) ∧ Blk w4 g 34 (bvs (List.replicate 32 0)) ∧ Below g w w4 ∧ (∀ (i : Nat) (x : UInt8), (padM m)[i]? = some x → w4.cell? ⟨gb, i, none⟩ = some (Value.int .u8 (x.toNat : Int)))) := by
                     refine Lib.hid ⟨by rw [HS3.out]; exact hb4, (HI.out.2.1.below hb3 HI.out.2.1.lt).grown hg4 (by intro h; injection h with h; omega), (HI.out.2.2.1.trans (hb3.mono (by omega))).grown hg4 (by omega) (by intro k hk; injection hk with hk; omega), fun i x hx => ?_⟩
                     have h := (hb3.cell (p := ⟨gb, i, none⟩) hgb3).trans (HI.out.2.2.2 i x hx)
                     exact hg4.cell h (by intro h; injection h with h; simp only at h; omega)
                   clear hb3 hb4 hg4 hz4 HI))
              go_roundw
              case rel =>
                have e64 : 64 * (K - k) - 64 = 64 * (K - (k + 1)) := by omega
                rw [e64]
                by_cases h64 : c = 64
                · rw [if_pos h64]
                  exact ⟨k + 1, 64 * k, c - 64, by omega, rfl, by omega, by omega, fun h => by omega, HL.out⟩
                · rw [if_neg h64]
                  exact ⟨k + 1, 64 * k + 64, c - 64, by omega, rfl, by omega, by omega, fun h => by omega, HL.out⟩
              case measure => simp [vlen]; omega
            · obtain rfl : k = K := by omega
              have hz0 : 64 * (k - k) = 0 := by omega
              rw [hz0] at hc ⊢
              have HI := Lib.hid hI; clear hI
              go_wp2_with fail
              refine wp_abs (fun W => ∃ go, go = wr.heap.size ∧ gs < go ∧ Blk W go 34 (bvs (outF (parts (padM m) k) 0)) ∧ Blk W gs 83 (wvs (parts (padM m) k)) ∧ Blk W g 34 (bvs (List.replicate 32 0)) ∧ Below g w W) ⟨_, rfl, HI.out.1.lt, ?_, HI.out.1.alloc _, HI.out.2.1.alloc _, HI.out.2.2.1.alloc (by have := HI.out.1.lt; omega) _⟩ ?_
              · rw [outF_zero]; exact Blk.new _ _ _
              rintro W ⟨go, hgo, hgo1, hI⟩
              rw [← hgo]
              have START := Lib.hid hI
              clear HI hI hgo
              obtain ⟨S, hS⟩ : ∃ S, S = parts (padM m) k := ⟨_, rfl⟩
              rw [← hS] at START
              have hSl : S.length = 8 := by rw [hS]; exact parts_length _ _
              have HSF : Hid (sha m = outB S) := Lib.hid (by unfold sha; rw [hK, Nat.mul_div_cancel_left _ (by omega), hS])
              clear hS
              go_loopw [45] (fun x wr => ∃ i : Nat, i ≤ 32 ∧ x = .int .i64 i ∧ Blk wr go 34 (bvs (outF S i)) ∧ Blk wr gs 83 (wvs S) ∧ Blk wr g 34 (bvs (List.replicate 32 0)) ∧ Below g w wr) (fun x _ => 32 - (intOf x).toNat)
              case atStart => exact ⟨0, by omega, rfl, START.out⟩
              case round =>
                clear START
                obtain ⟨i, hi, rfl, hI⟩ := hrel
                by_cases hlt : i < 32
                · have hi0 : (0 : Int) ≤ (i : Int) := by omega
                  have hm4 : (i : Int).tmod 4 = ((i % 4 : Nat) : Int) := by rw [Int.tmod_eq_emod_of_nonneg hi0]; omega
                  have hq4 : (i : Int).tdiv 4 = ((i / 4 : Nat) : Int) := by rw [Int.tdiv_eq_ediv_of_nonneg hi0]; omega
                  have c0 := hI.2.1.word (i := i / 4) (by omega)
                  have c1 := hI.1.byte (i := i) (by rw [outF_length]; omega)
                  have f1 := hI.1.frozen i
                  have HI := Lib.hid hI; clear hI
                  go_wp2_with fail
                  have ey : ((at32 S (i / 4)).toNat : Int) / 2 ^ (24 - i % 4 * 8) % 256 = ((UInt8.ofNat ((S.getD (i / 4) 0).toNat / 2 ^ (24 - i % 4 * 8))).toNat : Int) := by
                    rw [UInt8.toNat_ofNat']
                    unfold at32
                    simp
                  rw [ey]
                  go_roundw
                  case rel =>
                    refine ⟨i + 1, by omega, by go_num, ?_, HI.out.2.1.other (p := ⟨go, i, none⟩) (show gs ≠ go by omega) _, HI.out.2.2.1.other (p := ⟨go, i, none⟩) (show g ≠ go by omega) _, HI.out.2.2.2.setCell (p := ⟨go, i, none⟩) (show g ≤ go by omega) _⟩
                    rw [← outF_set S hlt]
                    exact HI.out.1.byte_store _ _
                  case measure => simp [intOf]; omega
                · obtain rfl : i = 32 := by omega
                  have HI := Lib.hid hI; clear hI
                  rw [outF_all, ← HSF.out] at HI
                  have e8 : (bvs (sha m)).size = 32 := by rw [bvs_size]; exact sha_length m
                  have e9 : (bvs (List.replicate 32 (0 : UInt8))).size = 32 := rfl
                  go_wp2_with (first | (refine wpList_load_blk rfl 34 (.tmp 7) rfl go 34 (bvs (sha m)) rfl HI.out.1 Tryd.underlying34 rfl (by rw [e8]; kernel_rfl) ?_) | (refine wpList_store_blk rfl 34 (.tmp 2) (.tmp 61) rfl g 34 _ (bvs (sha m)) rfl rfl HI.out.2.2.1 (by rw [e8, e9]) (by rw [e8]; kernel_rfl) (bvs_one _) ?_; intro w1 hb1 hg1 hz1))
                  refine bodyPost_ret (results_cell Tryd.results31 rfl (t := 34) (g := g) (cs := bvs (sha m)) hb1 Tryd.underlying34 rfl (by rw [e8]; kernel_rfl)) rfl ⟨rfl, ?_⟩
                  exact (HI.out.2.2.2).grown hg1 (by have := HI.out.2.2.1.lt; omega) (by intro k hk; injection hk with hk; omega)
end Go.Proofs.YtbicdobnnanlkaaDoor
