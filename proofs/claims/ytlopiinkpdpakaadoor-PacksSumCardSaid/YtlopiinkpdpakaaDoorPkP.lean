/-
  Blobs put together, and got again, in plain Lean. No program is named here.
-/
import Derived.Test.YtlopiinkpdpakaaDoorGA
namespace Go.Proofs.YtlopiinkpdpakaaDoor

/-- may a blob of so many bytes be? -/
def mayB (n : Int) : Bool := decide (41 ≤ n) && decide (n ≤ 65577)
theorem mayB_iff (n : Int) : mayB n = true ↔ 41 ≤ n ∧ n ≤ 65577 := by simp [mayB]
theorem mayB_mk {n : Int} (h1 : 41 ≤ n) (h2 : n ≤ 65577) : mayB n = true := (mayB_iff n).2 ⟨h1, h2⟩
theorem mayB_lo {n : Int} (h1 : ¬ 41 ≤ n) : mayB n = false := by simp [mayB, h1]
theorem mayB_hi {n : Int} (h1 : ¬ n ≤ 65577) : mayB n = false := by simp [mayB, h1]
/-- a pack's bytes -/
def packB (ls : List (List UInt8)) : List UInt8 := putF ls.length ++ (ls.map putW).flatten
def allB (ls : List (List UInt8)) : Bool := ls.all fun l => mayB l.length
def putP (ls : List (List UInt8)) : List UInt8 × Nat :=
  if ls.length < 1 ∨ 1024 < ls.length then ([], 1) else if allB ls = true then (if 1048576 < (packB ls).length then ([], 13) else (packB ls, 0)) else ([], 1)
theorem allB_at {ls : List (List UInt8)} (h : allB ls = true) {i : Nat} {l : List UInt8} (hi : ls[i]? = some l) : mayB l.length = true := by
  have := (List.all_eq_true.1 h) l (List.mem_of_getElem? hi)
  simpa using this
theorem allB_no {ls : List (List UInt8)} {i : Nat} {l : List UInt8} (hi : ls[i]? = some l) (h : mayB l.length = false) : allB ls = false := by
  cases hb : allB ls with
  | false => rfl
  | true => rw [allB_at hb hi] at h; cases h
theorem allB_mk {ls : List (List UInt8)} (h : ∀ (i : Nat) (l : List UInt8), ls[i]? = some l → mayB l.length = true) : allB ls = true := by
  refine List.all_eq_true.2 fun l hl => ?_
  obtain ⟨i, hi⟩ := List.mem_iff_getElem?.1 hl
  exact h i l hi
theorem putW_length (l : List UInt8) (h : l.length ≤ 65577) : (putW l).length ≤ l.length + 10 := by
  have := putF_length10 (n := l.length) (by omega)
  simp [putW]; omega
/-- the first k blobs -/
def headB (ls : List (List UInt8)) (k : Nat) : List UInt8 := putF ls.length ++ ((ls.take k).map putW).flatten
theorem headB_zero (ls : List (List UInt8)) : headB ls 0 = putF ls.length := by simp [headB]
theorem headB_succ {ls : List (List UInt8)} {k : Nat} {l : List UInt8} (h : ls[k]? = some l) : headB ls (k + 1) = headB ls k ++ putW l := by
  simp [headB, List.take_add_one, h]
theorem headB_all (ls : List (List UInt8)) : headB ls ls.length = packB ls := by simp [headB, packB]
theorem headB_length {ls : List (List UInt8)} (hn : ls.length ≤ 1024) : ∀ k, (∀ (i : Nat) (l : List UInt8), i < k → ls[i]? = some l → l.length ≤ 65577) → k ≤ ls.length → (headB ls k).length ≤ 10 + 65587 * k := by
  intro k
  induction k with
  | zero => intro _ _; rw [headB_zero]; exact putF_length10 (by omega)
  | succ k ih =>
    intro h hk
    have hl : ls[k]? = some ls[k] := List.getElem?_eq_getElem (by omega)
    rw [headB_succ hl, List.length_append]
    have h1 := ih (fun i l hi => h i l (by omega)) (by omega)
    have h2 := h k _ (by omega) hl
    have h3 := putW_length _ h2
    omega

/-- k blobs are read -/
def readN : Nat → Rst → List (List UInt8) × Rst
  | 0, s => ([], s)
  | k + 1, s => ((readN k s).1 ++ [(bytesR 65577 (readN k s).2).1], (bytesR 65577 (readN k s).2).2)
theorem readN_length (k : Nat) (s : Rst) : (readN k s).1.length = k := by
  induction k with
  | zero => rfl
  | succ k ih => simp [readN, ih]
theorem takC_len (n : Nat) (s : Rst) : (takC n s).1.length ≤ n := by
  unfold takC
  split
  · split
    · simp
    · rw [List.length_take]; omega
  · simp
theorem bytesR_len (m : Nat) (s : Rst) : (bytesR m s).1.length ≤ m := by
  unfold bytesR
  split
  · split
    · simp
    · have := takC_len (uintR s).1 (uintR s).2
      omega
  · simp
theorem readN_short (k : Nat) (s : Rst) : ∀ l ∈ (readN k s).1, l.length ≤ 65577 := by
  induction k with
  | zero => intro l h; simp [readN] at h
  | succ k ih =>
    intro l h
    simp only [readN, List.mem_append, List.mem_singleton] at h
    rcases h with h | h
    · exact ih l h
    · rw [h]; exact bytesR_len _ _
theorem readN_put (ls : List (List UInt8)) (r : List UInt8) (h : ∀ l ∈ ls, l.length ≤ 65577) : ∀ k, k ≤ ls.length → readN k ((ls.map putW).flatten ++ r, 0) = (ls.take k, (((ls.drop k).map putW).flatten ++ r, 0)) := by
  intro k
  induction k with
  | zero => intro _; simp [readN]
  | succ k ih =>
    intro hk
    have hl : k < ls.length := by omega
    simp only [readN, ih (by omega)]
    have e : ls.drop k = ls[k] :: ls.drop (k + 1) := List.drop_eq_getElem_cons hl
    have hb := h ls[k] (List.getElem_mem hl)
    rw [e]
    simp only [List.map_cons, List.flatten_cons, List.append_assoc]
    rw [bytesR_putW _ _ _ hb (by omega)]
    rw [List.take_add_one, List.getElem?_eq_getElem hl]
    rfl
theorem readN_back : ∀ (k : Nat) (s : Rst) (ls : List (List UInt8)) (r : List UInt8), readN k s = (ls, (r, 0)) → s.2 = 0 ∧ s.1 = (ls.map putW).flatten ++ r := by
  intro k
  induction k with
  | zero =>
    intro s ls r h
    simp only [readN, Prod.mk.injEq] at h
    obtain ⟨rfl, h2⟩ := h
    rw [h2]; simp
  | succ k ih =>
    intro s ls r h
    simp only [readN, Prod.mk.injEq] at h
    obtain ⟨h1, h2⟩ := h
    obtain ⟨b1, b2, _⟩ := bytesR_back (s := (readN k s).2) (most := 65577) (l := (bytesR 65577 (readN k s).2).1) (r := r) (by rw [← h2])
    obtain ⟨a1, a2⟩ := ih s (readN k s).1 (readN k s).2.1 (by rw [← b1])
    refine ⟨a1, ?_⟩
    rw [a2, b2, ← h1]
    simp
def getP (b : List UInt8) : List (List UInt8) × Nat :=
  if 1048576 < b.length then ([], 13)
  else if (uintR (b, 0)).2.2 = 0 ∧ ((uintR (b, 0)).1 < 1 ∨ 1024 < (uintR (b, 0)).1) then ([], 11)
  else if endR (readN (uintR (b, 0)).1 (uintR (b, 0)).2).2 = 0 then (if allB (readN (uintR (b, 0)).1 (uintR (b, 0)).2).1 = true then ((readN (uintR (b, 0)).1 (uintR (b, 0)).2).1, 0) else ([], 11))
  else ([], endR (readN (uintR (b, 0)).1 (uintR (b, 0)).2).2)
theorem endR_zero {s : Rst} (h : endR s = 0) : s = ([], 0) := by
  obtain ⟨b, e⟩ := s
  unfold endR at h
  split at h
  · rename_i h0
    simp only at h0
    split at h
    · cases h
    · rename_i hb
      have : b = [] := List.eq_nil_of_length_eq_zero (by simpa using hb)
      rw [h0, this]
  · rename_i h0
    exact absurd h h0
/-- what was got is put to the same bytes -/
theorem put_get {b : List UInt8} {ls : List (List UInt8)} (h : getP b = (ls, 0)) : putP ls = (b, 0) := by
  unfold getP at h
  split at h
  · simp at h
  · rename_i hl
    split at h
    · simp at h
    · rename_i hn
      split at h
      · rename_i he
        split at h
        · rename_i ha
          simp only [Prod.mk.injEq, and_true] at h
          have e := endR_zero he
          obtain ⟨a1, a2⟩ := readN_back _ _ _ _ (show readN (uintR (b, 0)).1 (uintR (b, 0)).2 = (ls, ([], 0)) by rw [← h, ← e])
          have hu : uintR (b, 0) = ((uintR (b, 0)).1, (uintR (b, 0)).2.1, 0) := by
            generalize uintR (b, 0) = u at *
            obtain ⟨u1, u2, u3⟩ := u
            simp only at a1
            rw [a1]
          obtain ⟨c1, c2⟩ := uintR_back hu
          have hll : ls.length = (uintR (b, 0)).1 := by rw [← h]; exact readN_length _ _
          rw [a2, ← hll] at c2
          have hb : packB ls = b := by simp only [List.append_nil] at c2; exact c2.symm
          unfold putP
          rw [if_neg (by rw [hll]; rw [a1] at hn; intro hc; exact hn ⟨rfl, hc⟩), if_pos (by rw [← h]; exact ha), hb, if_neg hl]
        · simp at h
      · rename_i he
        simp only [Prod.mk.injEq] at h
        exact absurd h.2 he
/-- what was put is got as it was -/
theorem get_put {b : List UInt8} {ls : List (List UInt8)} (h : putP ls = (b, 0)) : getP b = (ls, 0) := by
  unfold putP at h
  split at h
  · simp at h
  · rename_i hn
    split at h
    · rename_i ha
      split at h
      · simp at h
      · rename_i hl
        simp only [Prod.mk.injEq, and_true] at h
        subst h
        have hu : uintR (packB ls, 0) = (ls.length, ((ls.map putW).flatten, 0)) := uintR_put _ _ (by omega)
        have hs : ∀ l ∈ ls, l.length ≤ 65577 := fun l hm => by
          have := (List.all_eq_true.1 ha) l hm
          have := (mayB_iff _).1 this
          omega
        have hr := readN_put ls [] hs ls.length (Nat.le_refl _)
        simp only [List.append_nil, List.take_length, List.drop_length, List.map_nil, List.flatten_nil] at hr
        unfold getP
        rw [if_neg hl, hu]
        simp only [hr]
        rw [if_neg (by simpa using hn), if_pos (by rfl), if_pos ha]
    · simp at h
end Go.Proofs.YtlopiinkpdpakaaDoor
