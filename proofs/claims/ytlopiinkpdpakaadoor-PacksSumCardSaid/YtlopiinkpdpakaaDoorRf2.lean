/-
  The document's leaves and their row.
-/
import Derived.Test.YtlopiinkpdpakaaDoorRf1
import Derived.Test.YtlopiinkpdpakaaDoorSr
namespace Go.Proofs.YtlopiinkpdpakaaDoor
open Go Go.RowKit
set_option linter.unusedSimpArgs false
set_option linter.unusedVariables false

def szOf : Value → Nat
  | .string x => x.size
  | _ => 0
theorem bs_take (l : List UInt8) (k : Nat) : (bs l).extract 0 k = bs (l.take k) := by
  apply ByteArray.ext
  simp [bs, ByteArray.data_extract]
theorem bs_drop (l : List UInt8) (k : Nat) : (bs l).extract k (bs l).size = bs (l.drop k) := by
  apply ByteArray.ext
  rw [bs_size]
  simp [bs, ByteArray.data_extract, List.take_of_length_le]
/-- own rows of strings -/
def StrL (w : World) (base : Nat) (v : Value) (n : Nat) (ls : List (List UInt8)) : Prop := ls.length = n ∧ w.ownsRow base 9 1 v n (ls.map strV)
theorem StrL.nil (w : World) (base : Nat) : StrL w base (.slice none 0 0) 0 [] := ⟨rfl, World.ownsRow_nil _ _ _ _⟩
theorem StrL.form {w : World} {base n : Nat} {v : Value} {ls : List (List UInt8)} (h : StrL w base v n ls) : ∃ A c, v = .slice A n c := own_form h.2
theorem StrL.keep {w w' : World} {base n : Nat} {v : Value} {ls : List (List UInt8)} (h : StrL w base v n ls) (hb : Below w.heap.size w w') : StrL w' base v n ls := ⟨h.1, own_below h.2 hb⟩
theorem StrL.at_ {w : World} {base n c : Nat} {A : Option Addr} {ls : List (List UInt8)} (h : StrL w base (.slice A n c) n ls) {i : Nat} {l : List UInt8} (hi : ls[i]? = some l) : ∃ g, A = some ⟨g, 0, none⟩ ∧ w.cell? ⟨g, i, none⟩ = some (strV l) := by
  obtain ⟨h1, h2⟩ := h
  have hin : i < n := by have := (List.getElem?_eq_some_iff.1 hi).1; omega
  obtain ⟨g, cap, cur, e, hb, hg, hc, hm, hs, ht, hl⟩ := own_blk h2 (by omega)
  injection e with e1 e2 e3
  refine ⟨g, e1, ?_⟩
  rw [hg.cell i]
  have h3 : (cur.toList.take n)[i]? = some (strV l) := by rw [ht, List.getElem?_map, hi]; rfl
  rw [List.getElem?_take_of_lt hin] at h3
  simpa using h3

set_option maxRecDepth 100000 in
set_option maxHeartbeats 2000000 in
theorem refSplit_any (b : List UInt8) (w : World) (hb : b.length ≤ 100000000) :
    Calls Tryd.prog 52 #[.string (bs b)] w fun e w' => ∃ v', e = .returned v' ∧ StrL w' w.heap.size v' (nlF b.length) (leafsF b) ∧ Below w.heap.size w w' := by
  obtain ⟨ii, hii, hzi, hsi, hbi⟩ := infoStr
  have HII := Lib.hid hii; clear hii
  obtain ⟨L, hL⟩ : ∃ L, L = b.length := ⟨_, rfl⟩
  have HL := Lib.hid hL
  rw [← hL] at hb
  clear hL
  go_enter Tryd.func52, Tryd.ntmps52
  go_wp2_with fail
  go_loopw [0, 3] (fun s out W => ∃ k : Nat, (k = 0 ∨ 64 * k < L) ∧ s = .string (bs (b.drop (64 * k))) ∧ StrL W w.heap.size out k ((leafsF b).take k) ∧ Below w.heap.size w W) (fun s _ _ => szOf s)
  case atStart => exact ⟨0, .inl rfl, by simp, StrL.nil _ _, Below.refl _ _⟩
  case round =>
    obtain ⟨k, hk, rfl, hrow, hbw⟩ := hrel
    obtain ⟨A, c, rfl⟩ := hrow.form
    have hbz := hbw.size
    obtain ⟨r, hr⟩ : ∃ r, r = b.drop (64 * k) := ⟨_, rfl⟩
    have hrl : (bs r).size = L - 64 * k := by rw [bs_size, hr, List.length_drop, HL.out]
    rw [← hr]
    have HR := Lib.hid hr
    have HI := Lib.hid (And.intro hrow hbw)
    have hkN : k < nlF L := by unfold nlF; omega
    have HLK : Hid (((leafsF b).take k).length = k) := Lib.hid hrow.1
    have HTK : Hid ((leafsF b).take (k + 1) = (leafsF b).take k ++ [leafF b k]) := Lib.hid (take_next (leafsF_at (by rw [← HL.out]; exact hkN)))
    have hR0 : Hid (leafF b k = r.take 64) := Lib.hid (by rw [hr, leafF])
    clear hr hrow hbw
    by_cases hlt : 64 < (bs r).size
    · have hi : (64 : Int) < ((bs r).size : Int) := by omega
      have hrl2 : 64 < L - 64 * k := by omega
      have hlf : (bs r).extract 0 64 = bs (leafF b k) := by
        rw [hR0.out]
        exact bs_take r 64
      have hnx : (bs r).extract 64 (L - 64 * k) = bs (b.drop (64 * (k + 1))) := by
        rw [show 64 * (k + 1) = 64 * k + 64 by omega, ← List.drop_drop, ← HR.out, ← hrl, bs_drop]
      have hnl : (bs (b.drop (64 * (k + 1)))).size = L - 64 * (k + 1) := by rw [bs_size, List.length_drop, HL.out]
      have hlk : leafF b k = leafF b k := rfl
      go_wp2_with (
        (at_builtin
         have hnew := (Blk.new wr 9 #[.string (bs (leafF b k))]).cell 0
         go_loud (refine wpList_append_own _ rfl (.tmp 7) (.tmp 10) 30 rfl w.heap.size 9 ii (.string ByteArray.empty) 1 16 Tryd.underlying30 HII.out hzi hsi hbi rfl (by decide) (.slice A k c) k _ rfl (HI.out.1.2.alloc _) ⟨wr.heap.size, 0, none⟩ 1 1 [.string (bs (leafF b k))] rfl rfl (fun j u hj => by
           match j with
           | 0 => simp at hj; subst hj; rw [add0]; exact hnew
           | j + 1 => simp at hj) (fun u hu => by simp at hu; subst hu; rfl) (by simp only [maxLen]; omega) (by omega) (by simp; omega) ?_)
         intro v5 w5 hown5 hgrow5 _
         have HR5 : Hid (StrL w5 w.heap.size v5 (k + 1) ((leafsF b).take (k + 1)) ∧ Below w.heap.size w w5) := Lib.hid ⟨⟨by rw [HTK.out, List.length_append, HLK.out]; rfl, by rw [HTK.out, List.map_append]; exact hown5⟩, (HI.out.2.alloc (by omega) _).grown hgrow5 (by simp; omega) (fun j hj => own_ge HI.out.1.2 j hj)⟩
         clear hown5 hgrow5 hnew HI))
      go_roundw
      case rel => exact ⟨k + 1, .inr (by omega), rfl, HR5.out⟩
      case measure => simp only [szOf]; omega
    · have hi : ¬ (64 : Int) < ((bs r).size : Int) := by omega
      have hrl2 : L - 64 * k ≤ 64 := by omega
      have hkL : k + 1 = nlF L := by unfold nlF; omega
      have HKL := Lib.hid hkL
      have HLF : Hid (r = leafF b k) := Lib.hid (by
        rw [HR.out, leafF, List.take_of_length_le]
        rw [List.length_drop, ← HL.out]; exact hrl2)
      clear hkL
      go_wp2_with (
        (at_builtin
         have hnew := (Blk.new wr 9 #[.string (bs r)]).cell 0
         go_loud (refine wpList_append_own _ rfl (.tmp 14) (.tmp 16) 30 rfl w.heap.size 9 ii (.string ByteArray.empty) 1 16 Tryd.underlying30 HII.out hzi hsi hbi rfl (by decide) (.slice A k c) k _ rfl (HI.out.1.2.alloc _) ⟨wr.heap.size, 0, none⟩ 1 1 [.string (bs r)] rfl rfl (fun j u hj => by
           match j with
           | 0 => simp at hj; subst hj; rw [add0]; exact hnew
           | j + 1 => simp at hj) (fun u hu => by simp at hu; subst hu; rfl) (by simp only [maxLen]; omega) (by omega) (by simp; omega) ?_)
         intro v5 w5 hown5 hgrow5 _
         have HR5 : Hid (StrL w5 w.heap.size v5 (k + 1) ((leafsF b).take (k + 1)) ∧ Below w.heap.size w w5) := Lib.hid ⟨⟨by rw [HTK.out, List.length_append, HLK.out]; rfl, by rw [HTK.out, List.map_append, ← HLF.out]; exact hown5⟩, (HI.out.2.alloc (by omega) _).grown hgrow5 (by simp; omega) (fun j hj => own_ge HI.out.1.2 j hj)⟩
         clear hown5 hgrow5 hnew HI))
      go_ret
      rw [← HL.out, ← HKL.out]
      have h9 := HR5.out
      rw [List.take_of_length_le (by rw [leafsF_length, ← HL.out, HKL.out]; exact Nat.le_refl _)] at h9
      exact ⟨_, rfl, h9⟩
end Go.Proofs.YtlopiinkpdpakaaDoor
