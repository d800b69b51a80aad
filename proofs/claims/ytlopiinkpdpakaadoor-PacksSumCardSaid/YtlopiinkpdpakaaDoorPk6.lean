/-
  The reference's packs are put; what a pack is known by.
-/
import Derived.Test.YtlopiinkpdpakaaDoorCd6
import Derived.Test.YtlopiinkpdpakaaDoorPk1
import Derived.Test.YtlopiinkpdpakaaDoorSr
import Derived.Test.YtlopiinkpdpakaaDoorRf5
namespace Go.Proofs.YtlopiinkpdpakaaDoor
open Go Go.RowKit
set_option linter.unusedSimpArgs false
set_option linter.unusedVariables false

set_option maxRecDepth 100000 in
set_option maxHeartbeats 1000000 in
theorem refWith_any (l : List UInt8) (w : World) (hl : l.length ≤ 1000000) :
    Calls Tryd.prog 34 #[.string (bs l)] w fun e w' => e = .returned (.string (bs (putW l))) ∧ Below w.heap.size w w' := by
  have HP : Hid (bs (putF l.length) ++ bs l = bs (putW l)) := Lib.hid (by rw [bs_append]; rfl)
  have hsz : (bs l).size = l.length := bs_size l
  obtain ⟨n, hn⟩ : ∃ n, n = l.length := ⟨_, rfl⟩
  rw [← hn] at HP hsz hl
  have hpl : (putF n).length ≤ 10 := putF_length10 (by omega)
  have hsp : (bs (putF n)).size ≤ 10 := by rw [bs_size]; exact hpl
  clear hn
  go_enter Tryd.func34, Tryd.ntmps34
  go_wp2_with fail
  refine (refPut_any n w (by omega)).mono ?_
  rintro e w1 ⟨rfl, hb1⟩
  have HB1 := Lib.hid hb1
  have hp := HP.out
  clear hb1
  go_wp2_with fail
  go_ret
  exact ⟨rfl, HB1.out⟩

set_option maxRecDepth 100000 in
set_option maxHeartbeats 2000000 in
theorem refBytes13_any (v : Value) (b0 n : Nat) (ls : List (List UInt8)) (w : World) (h : StrR w b0 v n ls) (hn : n ≤ 1024) (hs : ∀ l ∈ ls, l.length ≤ 65577) :
    Calls Tryd.prog 20 #[v] w fun e w' => e = .returned (.string (bs (packB ls))) ∧ Below w.heap.size w w' := by
  obtain ⟨A, c, rfl⟩ := own_form h
  have H := Lib.hid h
  have hlen := StrR.len h
  have HL := Lib.hid hlen
  have HS := Lib.hid hs
  clear h hlen hs
  go_enter Tryd.func20, Tryd.ntmps20
  go_wp2_with fail
  refine (refPut_any n w (by omega)).mono ?_
  rintro e w1 ⟨rfl, hb1⟩
  have HB1 := Lib.hid hb1
  clear hb1
  go_wp2_with fail
  go_loopw [3, 4] (fun s i wr => ∃ (k : Nat), k ≤ n ∧ s = .string (bs (headB ls k)) ∧ i = .int .i64 (k : Int) ∧ Below w.heap.size w wr) (fun _ i _ => n - (intOf i).toNat)
  case atStart => exact ⟨0, Nat.zero_le _, by rw [headB_zero, HL.out], rfl, HB1.out⟩
  case round =>
    obtain ⟨k, hk, rfl, rfl, hb⟩ := hrel
    have HB := Lib.hid hb
    clear hb
    by_cases hlt : k < n
    · obtain ⟨l, hl⟩ : ∃ l, ls[k]? = some l := ⟨_, List.getElem?_eq_getElem (by rw [HL.out]; exact hlt)⟩
      obtain ⟨g, rfl, hc⟩ := StrR.at_ H.out hl
      have d1 := (HB.out.cell (p := ⟨g, k, none⟩) (lt_of_cell hc)).trans hc
      have hll : l.length ≤ 65577 := HS.out l (List.mem_of_getElem? hl)
      have HN : Hid (headB ls (k + 1) = headB ls k ++ putW l) := Lib.hid (headB_succ hl)
      have hhl : (headB ls k).length ≤ 10 + 65587 * k := headB_length (by rw [HL.out]; exact hn) k (fun i l hi hl => HS.out l (List.mem_of_getElem? hl)) (by rw [HL.out]; exact hk)
      have hpl := putW_length l hll
      obtain ⟨hd, hhd⟩ : ∃ x, x = headB ls k := ⟨_, rfl⟩
      rw [← hhd] at HN hhl ⊢
      obtain ⟨pw, hpw⟩ : ∃ x, x = putW l := ⟨_, rfl⟩
      rw [← hpw] at HN hpl
      have HPW := Lib.hid hpw
      have hs1 : (bs hd).size ≤ 67200000 := by rw [bs_size]; omega
      have hs2 : (bs pw).size ≤ 65587 := by rw [bs_size]; omega
      have hap : bs hd ++ bs pw = bs (hd ++ pw) := bs_append hd pw
      have HAP := Lib.hid hap
      have hki : (k : Int) < (n : Int) := by omega
      have hk0 : ¬ (k : Int) < 0 := by omega
      clear hc hl hhd hpw hpl hhl hap
      go_wp2_with fail
      refine (refWith_any l wr (by omega)).mono ?_
      rintro e w3 ⟨rfl, hb3⟩
      rw [← HPW.out]
      have HB3 := Lib.hid (HB.out.trans (hb3.mono HB.out.size))
      have hap := HAP.out
      clear hb3 HB d1
      go_wp2_with fail
      go_roundw
      case rel => exact ⟨k + 1, by omega, by rw [HN.out], by go_num, HB3.out⟩
      case measure => simp [intOf]; omega
    · obtain rfl : k = n := by omega
      have HE : Hid (headB ls k = packB ls) := Lib.hid (by rw [← HL.out]; exact headB_all ls)
      rw [HE.out]
      go_wp2_with fail
      go_ret
      exact ⟨rfl, HB.out⟩

set_option maxRecDepth 100000 in
set_option maxHeartbeats 2000000 in
theorem refPut13_any (v : Value) (b0 n : Nat) (ls : List (List UInt8)) (w : World) (h : StrR w b0 v n ls) (hn : n ≤ 1000000) (hs : ∀ l ∈ ls, l.length ≤ 9223372036854775807) :
    Calls Tryd.prog 7 #[v] w fun e w' => e = .returned (.tuple #[.string (bs (putP ls).1), .int .i64 ((putP ls).2 : Int)]) ∧ Below w.heap.size w w' := by
  obtain ⟨A, c, rfl⟩ := own_form h
  have H := Lib.hid h
  have hlen := StrR.len h
  have HL := Lib.hid hlen
  have HS := Lib.hid hs
  clear h hlen hs
  have hbs0 : (⟨#[]⟩ : ByteArray) = bs [] := rfl
  by_cases h1 : n < 1
  · have HP : Hid (putP ls = ([], 1)) := Lib.hid (by unfold putP; rw [if_pos (by rw [HL.out]; exact .inl h1)])
    have h1i : (n : Int) < 1 := by omega
    go_enter Tryd.func7, Tryd.ntmps7
    go_wp2_with fail
    refine bodyPost_ret (results_tmp2 rfl _ _ _) rfl ?_
    rw [HP.out]
    exact ⟨rfl, Below.refl _ _⟩
  by_cases h2 : 1024 < n
  · have HP : Hid (putP ls = ([], 1)) := Lib.hid (by unfold putP; rw [if_pos (by rw [HL.out]; exact .inr h2)])
    have h1i : ¬ (n : Int) < 1 := by omega
    have h2i : (1024 : Int) < (n : Int) := by omega
    go_enter Tryd.func7, Tryd.ntmps7
    go_wp2_with fail
    refine bodyPost_ret (results_tmp2 rfl _ _ _) rfl ?_
    rw [HP.out]
    exact ⟨rfl, Below.refl _ _⟩
  have h1i : ¬ (n : Int) < 1 := by omega
  have h2i : ¬ (1024 : Int) < (n : Int) := by omega
  go_enter Tryd.func7, Tryd.ntmps7
  go_wp2_with fail
  go_loopw [4] (fun i wr => ∃ (k : Nat), k ≤ n ∧ i = .int .i64 (k : Int) ∧ Hid (∀ (j : Nat) (l : List UInt8), j < k → ls[j]? = some l → mayB l.length = true) ∧ wr = w) (fun i _ => n - (intOf i).toNat)
  case atStart => exact ⟨0, Nat.zero_le _, rfl, Lib.hid (fun j l hj _ => absurd hj (Nat.not_lt_zero _)), rfl⟩
  case round =>
    obtain ⟨k, hk, rfl, HM, rfl⟩ := hrel
    by_cases hlt : k < n
    · obtain ⟨l, hl⟩ : ∃ l, ls[k]? = some l := ⟨_, List.getElem?_eq_getElem (by rw [HL.out]; exact hlt)⟩
      obtain ⟨g, rfl, hc⟩ := StrR.at_ H.out hl
      have HX := Lib.hid hl
      have hll : l.length ≤ 9223372036854775807 := HS.out l (List.mem_of_getElem? hl)
      have hsz : (bs l).size = l.length := bs_size l
      have hki : (k : Int) < (n : Int) := by omega
      have hk0 : ¬ (k : Int) < 0 := by omega
      clear hl
      go_wp2_with fail
      refine (refMay_any (l.length : Int) _).mono ?_
      rintro e w3 ⟨rfl, rfl⟩
      cases hm : mayB (l.length : Int) with
      | true =>
        have HMM := Lib.hid hm
        clear hm
        go_wp2_with fail
        go_roundw
        case rel => exact ⟨k + 1, by omega, by go_num, Lib.hid (fun j l2 hj hl2 => by
          rcases Nat.lt_or_ge j k with h | h
          · exact HM.out j l2 h hl2
          · obtain rfl : j = k := by omega
            rw [HX.out] at hl2
            injection hl2 with hl2
            subst hl2
            exact HMM.out), trivial⟩
        case measure => simp [intOf]; omega
      | false =>
        have HP : Hid (putP ls = ([], 1)) := Lib.hid (by unfold putP; rw [if_neg (by rw [HL.out]; omega), if_neg (by rw [allB_no HX.out hm]; simp)])
        clear hm
        go_wp2_with fail
        refine bodyPost_ret (results_tmp2 rfl _ _ _) rfl ?_
        rw [HP.out]
        exact ⟨rfl, Below.refl _ _⟩
    · obtain rfl : k = n := by omega
      have hall : allB ls = true := allB_mk (fun i l hi => HM.out i l (by rw [← HL.out]; exact (List.getElem?_eq_some_iff.1 hi).1) hi)
      have hs2 : ∀ l ∈ ls, l.length ≤ 65577 := fun l hl => by
        obtain ⟨i, hi⟩ := List.mem_iff_getElem?.1 hl
        have := (mayB_iff _).1 (allB_at hall hi)
        omega
      have HALL := Lib.hid hall
      clear hall
      go_wp2_with fail
      refine (refBytes13_any _ b0 k ls _ H.out (by omega) hs2).mono ?_
      rintro e w3 ⟨rfl, hb3⟩
      obtain ⟨p, hp⟩ : ∃ p, p = packB ls := ⟨_, rfl⟩
      have HPB := Lib.hid hp
      have hps : (bs p).size = p.length := bs_size p
      rw [← hp]
      have HB3 := Lib.hid hb3
      clear hb3 hp hs2
      by_cases hbig : 1048576 < p.length
      · have HP : Hid (putP ls = ([], 13)) := Lib.hid (by unfold putP; rw [if_neg (by rw [HL.out]; omega), if_pos HALL.out, ← HPB.out, if_pos hbig])
        have hbi : (1048576 : Int) < (p.length : Int) := by omega
        go_wp2_with fail
        refine bodyPost_ret (results_tmp2 rfl _ _ _) rfl ?_
        rw [HP.out]
        exact ⟨rfl, HB3.out⟩
      · have HP : Hid (putP ls = (p, 0)) := Lib.hid (by unfold putP; rw [if_neg (by rw [HL.out]; omega), if_pos HALL.out, ← HPB.out, if_neg hbig])
        have hbi : ¬ (1048576 : Int) < (p.length : Int) := by omega
        go_wp2_with fail
        refine bodyPost_ret (results_tmp2 rfl _ _ _) rfl ?_
        rw [HP.out]
        exact ⟨rfl, HB3.out⟩

set_option maxRecDepth 100000 in
set_option maxHeartbeats 1000000 in
theorem packId_any (v : Value) (b : List UInt8) (w : World) (hT : Tab w) (h0 : 0 < w.heap.size) (h : HB w v b) (hb : b.length ≤ 10000000) :
    Calls Tryd.prog 11 #[v] w fun e w' => e = .returned (.agg (bvs (rootF b))) ∧ Below w.heap.size w w' := by
  obtain ⟨r, hr⟩ : ∃ r, r = rootF b := ⟨_, rfl⟩
  have hrl : r.length = 32 := by rw [hr]; exact rootF_length _
  have hrz : (bvs r).size = 32 := by rw [bvs_size]; exact hrl
  rw [← hr]
  have HR := Lib.hid hr
  clear hr
  go_enter Tryd.func11, Tryd.ntmps11
  go_wp2_with fail
  have hA : ∀ cs : Array Value, Below w.heap.size w (w.alloc (.cells cs 36)) := fun cs => (Below.refl _ _).alloc (Nat.le_refl _) _
  have hB : ∀ cs : Array Value, Blk (w.alloc (.cells cs 36)) w.heap.size 36 cs := fun cs => Blk.new w _ _
  refine (root_any _ b _ (hT.below (hA _) h0) (Nat.lt_of_lt_of_le h0 (Below.size (hA _))) (h.keep (hA _)) hb).mono ?_
  rintro e w2 ⟨rfl, hb2⟩
  rw [← HR.out]
  have HI2 := Lib.hid (And.intro ((hB _).below hb2 (hB _).lt) ((hA _).trans (hb2.mono (by simp))))
  clear hA hB hb2
  go_wp2_with (
    (refine wpList_store_blk rfl 36 (.tmp 2) (.tmp 4) rfl w.heap.size 36 _ (bvs r) rfl rfl HI2.out.1 (by rw [hrz]; rfl) (by rw [hrz]; kernel_rfl) (bvs_one _) ?_
     intro w4 hb4 hg4 hz4))
  refine bodyPost_ret (results_cell Tryd.results11 rfl (t := 36) (g := w.heap.size) (cs := bvs r) hb4 Tryd.underlying36 rfl (by rw [hrz]; kernel_rfl)) rfl ⟨rfl, ?_⟩
  exact HI2.out.2.grown hg4 HI2.out.2.size (by intro k hk; injection hk with hk; omega)


set_option maxRecDepth 100000 in
set_option maxHeartbeats 1000000 in
theorem refId13_any (b : List UInt8) (w : World) (hb : b.length ≤ 10000000) :
    Calls Tryd.prog 12 #[.string (bs b)] w fun e w' => e = .returned (.agg (bvs (rootF b))) ∧ Below w.heap.size w w' := by
  obtain ⟨r, hr⟩ : ∃ r, r = rootF b := ⟨_, rfl⟩
  have hrl : r.length = 32 := by rw [hr]; exact rootF_length _
  have hrz : (bvs r).size = 32 := by rw [bvs_size]; exact hrl
  rw [← hr]
  have HR := Lib.hid hr
  clear hr
  go_enter Tryd.func12, Tryd.ntmps12
  go_wp2_with fail
  have hA : ∀ cs : Array Value, Below w.heap.size w (w.alloc (.cells cs 36)) := fun cs => (Below.refl _ _).alloc (Nat.le_refl _) _
  have hB : ∀ cs : Array Value, Blk (w.alloc (.cells cs 36)) w.heap.size 36 cs := fun cs => Blk.new w _ _
  refine (refRoot_any b _ hb).mono ?_
  rintro e w2 ⟨rfl, hb2⟩
  rw [← HR.out]
  have HI2 := Lib.hid (And.intro ((hB _).below hb2 (hB _).lt) ((hA _).trans (hb2.mono (by simp))))
  clear hA hB hb2
  go_wp2_with (
    (refine wpList_store_blk rfl 36 (.tmp 2) (.tmp 4) rfl w.heap.size 36 _ (bvs r) rfl rfl HI2.out.1 (by rw [hrz]; rfl) (by rw [hrz]; kernel_rfl) (bvs_one _) ?_
     intro w4 hb4 hg4 hz4))
  refine bodyPost_ret (results_cell Tryd.results12 rfl (t := 36) (g := w.heap.size) (cs := bvs r) hb4 Tryd.underlying36 rfl (by rw [hrz]; kernel_rfl)) rfl ⟨rfl, ?_⟩
  exact HI2.out.2.grown hg4 HI2.out.2.size (by intro k hk; injection hk with hk; omega)
end Go.Proofs.YtlopiinkpdpakaaDoor
