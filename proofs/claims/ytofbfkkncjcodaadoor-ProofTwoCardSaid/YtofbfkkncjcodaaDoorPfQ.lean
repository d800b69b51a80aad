/-
  What is proved is checked, and two proofs of one place show two rows with one digest, in plain Lean. No program is named here.
-/
import Derived.Test.YtofbfkkncjcodaaDoorPfP
namespace Go.Proofs.YtofbfkkncjcodaaDoor

set_option linter.unusedVariables false
set_option linter.unusedSimpArgs false

/-- whoever stands at a place climbs to the top by the way beside -/
theorem climb_way : ∀ (k : Nat) (l : List Dig) (i : Nat) (x : Dig), l.length ≤ k → l[i]? = some x → ∃ ls, climbF (stepsF l.length i) x (wayF l i) = some (ls, topF l, []) := by
  intro k
  induction k with
  | zero =>
    intro l i x hk hx
    have := (List.getElem?_eq_some_iff.1 hx).1
    omega
  | succ k ih =>
    intro l i x hk hx
    obtain ⟨hi, hxe⟩ := List.getElem?_eq_some_iff.1 hx
    by_cases h : 1 < l.length
    · rw [stepsF_more h, wayF_more h, topF_more h]
      have hla : l.length - l.length / 2 = (aboveF l).length := by rw [aboveF_length]; omega
      have hlk : (aboveF l).length ≤ k := by rw [aboveF_length]; omega
      rw [hla]
      by_cases hodd : i % 2 = 1
      · rw [beside_odd hodd hi, if_pos rfl, xor_odd hodd]
        have hy : l[i - 1]? = some (l.getD (i - 1) []) := by rw [List.getD_eq_getElem?_getD, List.getElem?_eq_getElem (by omega)]; rfl
        have hp := aboveF_pair l (i / 2) (l.getD (i - 1) []) x (by rw [show 2 * (i / 2) = i - 1 by omega]; exact hy) (by rw [show 2 * (i / 2) + 1 = i by omega]; exact hx)
        obtain ⟨ls, h2⟩ := ih (aboveF l) (i / 2) _ hlk hp
        refine ⟨stepP i x (l.getD (i - 1) []) :: ls, ?_⟩
        rw [List.singleton_append]
        simp only [climbF]
        have hs : sha (stepP i x (l.getD (i - 1) [])) = nodeD (l.getD (i - 1) []) x := by rw [stepP, if_pos hodd]; rfl
        rw [hs, h2]; rfl
      · rw [beside_even (by omega), xor_even (by omega)]
        by_cases hb : i + 1 < l.length
        · rw [decide_eq_true hb, if_pos rfl]
          have hy : l[i + 1]? = some (l.getD (i + 1) []) := by rw [List.getD_eq_getElem?_getD, List.getElem?_eq_getElem hb]; rfl
          have hp := aboveF_pair l (i / 2) x (l.getD (i + 1) []) (by rw [show 2 * (i / 2) = i by omega]; exact hx) (by rw [show 2 * (i / 2) + 1 = i + 1 by omega]; exact hy)
          obtain ⟨ls, h2⟩ := ih (aboveF l) (i / 2) _ hlk hp
          refine ⟨stepP i x (l.getD (i + 1) []) :: ls, ?_⟩
          rw [List.singleton_append]
          simp only [climbF]
          have hs : sha (stepP i x (l.getD (i + 1) [])) = nodeD x (l.getD (i + 1) []) := by rw [stepP, if_neg hodd]; rfl
          rw [hs, h2]; rfl
        · rw [decide_eq_false hb, if_neg (by simp), List.nil_append]
          have hp := aboveF_last l (i / 2) x (by rw [show 2 * (i / 2) = i by omega]; exact hx) (by omega)
          obtain ⟨ls, h2⟩ := ih (aboveF l) (i / 2) _ hlk hp
          refine ⟨ls, ?_⟩
          simp only [climbF]
          exact h2
    · rw [stepsF_end h, wayF_end h]
      refine ⟨[], ?_⟩
      match l, hx, hi, h with
      | [a], hx, hi, _ =>
        obtain rfl : i = 0 := by simp at hi; omega
        simp at hx
        subst hx
        simp [climbF, topF_one]
      | [], hx, hi, _ => simp at hi
      | a :: b :: r, _, _, h => simp at h
/-- what is proved is checked -/
theorem check_prove {b : List UInt8} {k : Nat} (h : k < nlF b.length) : checkF (rootF b) (nlF b.length : Int) (k : Int) (leafF b k) (wayF (rowF b) k) = 0 := by
  have hx : (rowF b)[k]? = some (leafD (leafF b k)) := by rw [rowF, List.getElem?_map, leafsF_at h]; rfl
  obtain ⟨ls, hc⟩ := climb_way _ (rowF b) k _ (Nat.le_refl _) hx
  rw [rowF_length] at hc
  have h1 : ¬ ((nlF b.length : Int) < 1 ∨ (k : Int) < 0 ∨ (nlF b.length : Int) ≤ (k : Int)) := by
    have : 1 ≤ nlF b.length := by unfold nlF; omega
    omega
  have h2 : ¬ 64 < (leafF b k).length := by have := leafF_length b k; omega
  rw [checkF, if_neg h1, if_neg h2, Int.toNat_natCast, Int.toNat_natCast, hc]
  simp [rootF]

/-- how often a row of so many is halved -/
def hN (n : Nat) : Nat := if h : 1 < n then hN ((n + 1) / 2) + 1 else 0
termination_by n
decreasing_by omega
theorem hN_more {n : Nat} (h : 1 < n) : hN n = hN ((n + 1) / 2) + 1 := by rw [hN, dif_pos h]
theorem hN_end {n : Nat} (h : ¬ 1 < n) : hN n = 0 := by rw [hN, dif_neg h]
theorem wayF_length : ∀ (k : Nat) (l : List Dig) (i : Nat), l.length ≤ k → (wayF l i).length ≤ hN l.length := by
  intro k
  induction k with
  | zero =>
    intro l i hk
    rw [wayF_end (by omega)]; simp
  | succ k ih =>
    intro l i hk
    by_cases h : 1 < l.length
    · rw [wayF_more h, hN_more h, List.length_append]
      have := ih (aboveF l) (i / 2) (by rw [aboveF_length]; omega)
      rw [aboveF_length] at this
      split <;> simp <;> omega
    · rw [wayF_end h]; simp
theorem wayF_dig : ∀ (k : Nat) (l : List Dig) (i : Nat), l.length ≤ k → (∀ d ∈ l, d.length = 32) → i < l.length → ∀ d ∈ wayF l i, d.length = 32 := by
  intro k
  induction k with
  | zero => intro l i hk _ hi; omega
  | succ k ih =>
    intro l i hk hl hi d hd
    by_cases h : 1 < l.length
    · rw [wayF_more h, List.mem_append] at hd
      rcases hd with hd | hd
      · by_cases hb : besideF l.length i = true
        · rw [if_pos hb, List.mem_singleton] at hd
          subst hd
          have hlt : i ^^^ 1 < l.length := by unfold besideF at hb; exact of_decide_eq_true hb
          rw [List.getD_eq_getElem?_getD, List.getElem?_eq_getElem hlt]
          exact hl _ (List.getElem_mem hlt)
        · rw [if_neg hb] at hd; simp at hd
      · exact ih (aboveF l) (i / 2) (by rw [aboveF_length]; omega) (aboveF_dig l hl) (by rw [aboveF_length]; omega) d hd
    · rw [wayF_end h] at hd; simp at hd

theorem app_len_inj {α : Type} {a b c d : List α} (h : a ++ b = c ++ d) (hl : a.length = c.length) : a = c ∧ b = d := List.append_inj h hl
theorem stepP_inj {i : Nat} {x y x' y' : Dig} (hx : x.length = 32) (hx' : x'.length = 32) (hy : y.length = 32) (hy' : y'.length = 32) (h : stepP i x y = stepP i x' y') : x = x' := by
  unfold stepP nodeP at h
  split at h
  · injection h with _ h
    exact (List.append_inj h (by omega)).2
  · injection h with _ h
    exact (List.append_inj h (by omega)).1
/-- two climbs from two digests to one top: somewhere two rows have one digest -/
theorem climb_two : ∀ (s : List (Nat × Bool)) (x x' : Dig) (way way' : List Dig) (ls ls' : List (List UInt8)) (d : Dig) (m m' : List Dig), x.length = 32 → x'.length = 32 → (∀ d ∈ way, d.length = 32) → (∀ d ∈ way', d.length = 32) →
    climbF s x way = some (ls, d, m) → climbF s x' way' = some (ls', d, m') → x ≠ x' → ∃ (k : Nat) (u v : List UInt8), ls[k]? = some u ∧ ls'[k]? = some v ∧ u ≠ v ∧ sha u = sha v := by
  intro s
  induction s with
  | nil =>
    intro x x' way way' ls ls' d m m' _ _ _ _ h h' hne
    simp [climbF] at h h'
    exact absurd (h.2.1.trans h'.2.1.symm) hne
  | cons p r ih =>
    intro x x' way way' ls ls' d m m' hx hx' hw hw' h h' hne
    obtain ⟨i, b⟩ := p
    cases b with
    | false =>
      simp only [climbF] at h h'
      exact ih x x' way way' ls ls' d m m' hx hx' hw hw' h h' hne
    | true =>
      cases way with
      | nil => simp [climbF] at h
      | cons y way =>
        cases way' with
        | nil => simp [climbF] at h'
        | cons y' way' =>
          simp only [climbF] at h h'
          cases e : climbF r (sha (stepP i x y)) way with
          | none => rw [e] at h; simp at h
          | some t =>
            cases e' : climbF r (sha (stepP i x' y')) way' with
            | none => rw [e'] at h'; simp at h'
            | some t' =>
              obtain ⟨a1, a2, a3⟩ := t
              obtain ⟨b1, b2, b3⟩ := t'
              rw [e] at h; rw [e'] at h'
              simp at h h'
              obtain ⟨rfl, rfl, rfl⟩ := h
              obtain ⟨rfl, rfl, rfl⟩ := h'
              by_cases hs : sha (stepP i x y) = sha (stepP i x' y')
              · exact ⟨0, stepP i x y, stepP i x' y', rfl, rfl, fun hh => hne (stepP_inj hx hx' (hw y (by simp)) (hw' y' (by simp)) hh), hs⟩
              · obtain ⟨k, u, v, h1, h2, h3, h4⟩ := ih _ _ _ _ _ _ _ _ _ (sha_length _) (sha_length _) (fun d hd => hw d (by simp [hd])) (fun d hd => hw' d (by simp [hd])) e e' hs
                exact ⟨k + 1, u, v, h1, h2, h3, h4⟩
theorem climb_count : ∀ (s : List (Nat × Bool)) (x : Dig) (way : List Dig) (ls : List (List UInt8)) (d : Dig) (m : List Dig), climbF s x way = some (ls, d, m) → ls.length = (s.filter (·.2)).length := by
  intro s
  induction s with
  | nil => intro x way ls d m h; simp [climbF] at h; simp [h.1.symm]
  | cons p r ih =>
    intro x way ls d m h
    obtain ⟨i, b⟩ := p
    cases b with
    | false => simp only [climbF] at h; simpa using ih _ _ _ _ _ h
    | true =>
      cases way with
      | nil => simp [climbF] at h
      | cons y way =>
        simp only [climbF] at h
        cases e : climbF r (sha (stepP i x y)) way with
        | none => rw [e] at h; simp at h
        | some t =>
          obtain ⟨a1, a2, a3⟩ := t
          rw [e] at h; simp at h
          obtain ⟨rfl, rfl, rfl⟩ := h
          simpa using ih _ _ _ _ _ e
theorem climb_dig : ∀ (s : List (Nat × Bool)) (x : Dig) (way : List Dig) (ls : List (List UInt8)) (d : Dig) (m : List Dig), x.length = 32 → climbF s x way = some (ls, d, m) → d.length = 32 := by
  intro s
  induction s with
  | nil => intro x way ls d m hx h; simp [climbF] at h; rw [← h.2.1]; exact hx
  | cons p r ih =>
    intro x way ls d m hx h
    obtain ⟨i, b⟩ := p
    cases b with
    | false => simp only [climbF] at h; exact ih _ _ _ _ _ hx h
    | true =>
      cases way with
      | nil => simp [climbF] at h
      | cons y way =>
        simp only [climbF] at h
        cases e : climbF r (sha (stepP i x y)) way with
        | none => rw [e] at h; simp at h
        | some t =>
          obtain ⟨a1, a2, a3⟩ := t
          rw [e] at h; simp at h
          obtain ⟨rfl, rfl, rfl⟩ := h
          exact ih _ _ _ _ _ (sha_length _) e

/-- all that is digested on the way up; none where the way ends too early -/
def allF (l : List UInt8) (n : Nat) : Option (List (List UInt8) × Dig × List Dig) → List (List UInt8)
  | none => []
  | some (ls, x, _) => (0 :: l) :: (ls ++ [crownP n x])
def okF : Option (List (List UInt8) × Dig × List Dig) → Bool
  | none => false
  | some (_, _, m) => m.isEmpty
/-- the rows of a proof -/
def rowsF (n i : Nat) (l : List UInt8) (way : List Dig) : List (List UInt8) := allF l n (climbF (stepsF n i) (leafD l) way)
/-- the first place at which two lists of rows differ and have one digest -/
def findF : List (List UInt8) → List (List UInt8) → Option (List UInt8 × List UInt8)
  | u :: p, v :: q => if u ≠ v ∧ sha u = sha v then some (u, v) else findF p q
  | _, _ => none
theorem findF_some {p q : List (List UInt8)} {u v : List UInt8} (h : findF p q = some (u, v)) : u ≠ v ∧ sha u = sha v := by
  induction p generalizing q with
  | nil => simp [findF] at h
  | cons a p ih =>
    cases q with
    | nil => simp [findF] at h
    | cons b q =>
      simp only [findF] at h
      split at h
      · next hh => injection h with h; injection h with h1 h2; subst h1; subst h2; exact hh
      · exact ih h
theorem findF_isSome {p q : List (List UInt8)} {k : Nat} {u v : List UInt8} (h1 : p[k]? = some u) (h2 : q[k]? = some v) (h3 : u ≠ v) (h4 : sha u = sha v) : ∃ t, findF p q = some t := by
  induction p generalizing q k with
  | nil => simp at h1
  | cons a p ih =>
    cases q with
    | nil => simp at h2
    | cons b q =>
      simp only [findF]
      split
      · exact ⟨_, rfl⟩
      · next hh =>
        cases k with
        | zero => simp at h1 h2; subst h1; subst h2; exact absurd ⟨h3, h4⟩ hh
        | succ k => exact ih (by simpa using h1) (by simpa using h2)
theorem findF_mem {p q : List (List UInt8)} {u v : List UInt8} (h : findF p q = some (u, v)) : u ∈ p ∧ v ∈ q := by
  induction p generalizing q with
  | nil => simp [findF] at h
  | cons a p ih =>
    cases q with
    | nil => simp [findF] at h
    | cons b q =>
      simp only [findF] at h
      split at h
      · injection h with h; injection h with h1 h2; subst h1; subst h2; simp
      · have := ih h; simp [this.1, this.2]
theorem check_zero {root : Dig} {n i : Nat} {leaf : List UInt8} {way : List Dig} (h : checkF root (n : Int) (i : Int) leaf way = 0) : ∃ ls d, climbF (stepsF n i) (leafD leaf) way = some (ls, d, []) ∧ crownD n d = root ∧ leaf.length ≤ 64 ∧ i < n := by
  unfold checkF at h
  split at h
  · simp at h
  · next h1 =>
    split at h
    · simp at h
    · next h2 =>
      rw [Int.toNat_natCast, Int.toNat_natCast] at h
      cases e : climbF (stepsF n i) (leafD leaf) way with
      | none => rw [e] at h; simp at h
      | some t =>
        obtain ⟨ls, d, m⟩ := t
        rw [e] at h
        simp only at h
        split at h
        · next h3 => exact ⟨ls, d, by rw [h3.1], h3.2, by omega, by omega⟩
        · simp at h
/-- two proofs of two leaves at one place: two rows with one digest -/
theorem two_find {root : Dig} {n i : Nat} {a b : List UInt8} {x y : List Dig} (hx : ∀ d ∈ x, d.length = 32) (hy : ∀ d ∈ y, d.length = 32) (h1 : checkF root (n : Int) (i : Int) a x = 0) (h2 : checkF root (n : Int) (i : Int) b y = 0) (hne : a ≠ b) :
    (∃ t, findF (rowsF n i a x) (rowsF n i b y) = some t) ∧ (rowsF n i a x).length = (rowsF n i b y).length := by
  obtain ⟨ls, d, c1, r1, _, _⟩ := check_zero h1
  obtain ⟨ls', d', c2, r2, _, _⟩ := check_zero h2
  have l1 := climb_count _ _ _ _ _ _ c1
  have l2 := climb_count _ _ _ _ _ _ c2
  have d1 := climb_dig _ _ _ _ _ _ (sha_length _) c1
  have d2 := climb_dig _ _ _ _ _ _ (sha_length _) c2
  unfold rowsF
  rw [c1, c2]
  refine ⟨?_, by simp [allF, l1, l2]⟩
  by_cases e : leafD a = leafD b
  · exact findF_isSome (k := 0) (u := 0 :: a) (v := 0 :: b) rfl rfl (fun h => hne (List.cons.inj h).2) e
  · by_cases e2 : d = d'
    · subst e2
      obtain ⟨k, u, v, k1, k2, k3, k4⟩ := climb_two _ _ _ _ _ _ _ _ _ _ (sha_length _) (sha_length _) hx hy c1 c2 e
      refine findF_isSome (k := k + 1) (u := u) (v := v) ?_ ?_ k3 k4
      · simp only [allF, List.getElem?_cons_succ]
        rw [List.getElem?_append_left (List.getElem?_eq_some_iff.1 k1).1]; exact k1
      · simp only [allF, List.getElem?_cons_succ]
        rw [List.getElem?_append_left (List.getElem?_eq_some_iff.1 k2).1]; exact k2
    · refine findF_isSome (k := ls.length + 1) (u := crownP n d) (v := crownP n d') ?_ ?_ ?_ ?_
      · simp [allF]
      · simp [allF, l1, ← l2]
      · intro h
        unfold crownP at h
        injection h with _ h
        exact e2 (List.append_inj h rfl).2
      · exact r1.trans r2.symm
end Go.Proofs.YtofbfkkncjcodaaDoor
