/-
  Leaves, rows of digests, ways up, in plain Lean. No program is named here.
-/
import Derived.Test.YtlopiinkpdpakaaDoorGA
namespace Go.Proofs.YtlopiinkpdpakaaDoor

set_option linter.unusedVariables false
set_option linter.unusedSimpArgs false
abbrev Dig := List UInt8
/-- how many leaves so many bytes have -/
def nlF (n : Nat) : Nat := max ((n + 63) / 64) 1
/-- the k-th leaf -/
def leafF (b : List UInt8) (k : Nat) : List UInt8 := (b.drop (64 * k)).take 64
def leafsF (b : List UInt8) : List (List UInt8) := (List.range (nlF b.length)).map (leafF b)
theorem leafF_length (b : List UInt8) (k : Nat) : (leafF b k).length ≤ 64 := by rw [leafF, List.length_take]; omega
theorem leafsF_length (b : List UInt8) : (leafsF b).length = nlF b.length := by simp [leafsF]
theorem leafsF_at {b : List UInt8} {k : Nat} (h : k < nlF b.length) : (leafsF b)[k]? = some (leafF b k) := by simp [leafsF, h]
theorem leafs_flat (b : List UInt8) : ∀ k, ((List.range k).map (leafF b)).flatten = b.take (64 * k) := by
  intro k
  induction k with
  | zero => simp
  | succ k ih =>
    rw [List.range_succ, List.map_append, List.flatten_append, ih]
    simp only [List.map_cons, List.map_nil, List.flatten_cons, List.flatten_nil, List.append_nil, leafF]
    rw [show 64 * (k + 1) = 64 * k + 64 by omega, ← List.take_add]
theorem leafsF_flat (b : List UInt8) : (leafsF b).flatten = b := by
  rw [leafsF, leafs_flat]
  exact List.take_of_length_le (by unfold nlF; omega)
def leafD (l : List UInt8) : Dig := sha (0 :: l)
def nodeP (a b : Dig) : List UInt8 := 1 :: (a ++ b)
def nodeD (a b : Dig) : Dig := sha (nodeP a b)
def crownP (n : Nat) (a : Dig) : List UInt8 := 2 :: (le8 n ++ a)
def crownD (n : Nat) (a : Dig) : Dig := sha (crownP n a)
def rowF (b : List UInt8) : List Dig := (leafsF b).map leafD
theorem rowF_length (b : List UInt8) : (rowF b).length = nlF b.length := by rw [rowF, List.length_map, leafsF_length]
theorem rowF_dig {b : List UInt8} : ∀ d ∈ rowF b, d.length = 32 := by
  intro d hd
  obtain ⟨l, _, rfl⟩ := List.mem_map.1 hd
  exact sha_length _
/-- the row above one -/
def aboveF : List Dig → List Dig
  | a :: b :: r => nodeD a b :: aboveF r
  | l => l
theorem aboveF_two (a b : Dig) (r : List Dig) : aboveF (a :: b :: r) = nodeD a b :: aboveF r := rfl
theorem aboveF_length : ∀ l : List Dig, (aboveF l).length = (l.length + 1) / 2
  | [] => rfl
  | [_] => by simp [aboveF]
  | a :: b :: r => by
    rw [aboveF_two, List.length_cons, aboveF_length r]
    simp only [List.length_cons]; omega
theorem aboveF_dig : ∀ l : List Dig, (∀ d ∈ l, d.length = 32) → ∀ d ∈ aboveF l, d.length = 32
  | [], h => h
  | [_], h => h
  | a :: b :: r, h => by
    intro d hd
    rw [aboveF_two] at hd
    rcases List.mem_cons.1 hd with rfl | hd
    · exact sha_length _
    · exact aboveF_dig r (fun x hx => h x (by simp [hx])) d hd
theorem aboveF_pair : ∀ (l : List Dig) (k : Nat) (a b : Dig), l[2 * k]? = some a → l[2 * k + 1]? = some b → (aboveF l)[k]? = some (nodeD a b)
  | [], k, a, b, h, _ => by simp at h
  | [x], k, a, b, _, h => by
    have := (List.getElem?_eq_some_iff.1 h).1
    simp at this
  | x :: y :: r, k, a, b, h1, h2 => by
    rw [aboveF_two]
    cases k with
    | zero => simp at h1 h2; subst h1; subst h2; rfl
    | succ k =>
      rw [List.getElem?_cons_succ]
      refine aboveF_pair r k a b ?_ ?_
      · rw [show 2 * (k + 1) = (2 * k + 1) + 1 by omega, List.getElem?_cons_succ, List.getElem?_cons_succ] at h1; exact h1
      · rw [show 2 * (k + 1) + 1 = (2 * k + 1 + 1) + 1 by omega, List.getElem?_cons_succ, List.getElem?_cons_succ] at h2; exact h2
theorem aboveF_last : ∀ (l : List Dig) (k : Nat) (a : Dig), l[2 * k]? = some a → l.length = 2 * k + 1 → (aboveF l)[k]? = some a
  | [], k, a, h, _ => by simp at h
  | [x], k, a, h, hl => by
    obtain rfl : k = 0 := by simp at hl; omega
    exact h
  | x :: y :: r, k, a, h, hl => by
    rw [aboveF_two]
    cases k with
    | zero => simp at hl
    | succ k =>
      rw [List.getElem?_cons_succ]
      refine aboveF_last r k a ?_ (by simp at hl; omega)
      rw [show 2 * (k + 1) = (2 * k + 1) + 1 by omega, List.getElem?_cons_succ, List.getElem?_cons_succ] at h; exact h
theorem take_next {α : Type} {l : List α} {k : Nat} {x : α} (h : l[k]? = some x) : l.take (k + 1) = l.take k ++ [x] := by rw [List.take_add_one, h]; rfl
/-- what stands at the top -/
def topF (l : List Dig) : Dig := if h : 1 < l.length then topF (aboveF l) else l.headD []
termination_by l.length
decreasing_by rw [aboveF_length]; omega
theorem topF_more {l : List Dig} (h : 1 < l.length) : topF l = topF (aboveF l) := by rw [topF, dif_pos h]
theorem topF_one (a : Dig) : topF [a] = a := by rw [topF, dif_neg (by simp)]; rfl
theorem topF_dig (l : List Dig) (h : ∀ d ∈ l, d.length = 32) (h0 : 0 < l.length) : (topF l).length = 32 := by
  rw [topF]
  split
  · exact topF_dig (aboveF l) (aboveF_dig l h) (by rw [aboveF_length]; omega)
  · match l, h, h0 with
    | a :: r, h, _ => exact h a (by simp)
termination_by l.length
decreasing_by rw [aboveF_length]; omega
def rootF (b : List UInt8) : Dig := crownD (nlF b.length) (topF (rowF b))
theorem rootF_length (b : List UInt8) : (rootF b).length = 32 := sha_length _

/-- does someone stand beside? -/
def besideF (n i : Nat) : Bool := decide (i ^^^ 1 < n)
theorem xor_odd {i : Nat} (h : i % 2 = 1) : i ^^^ 1 = i - 1 := by
  have h1 : (i ^^^ 1) / 2 = i / 2 := by rw [Nat.xor_div_two]; simp
  have h2 : (i ^^^ 1) % 2 = 0 := by have e := Nat.xor_mod_two_pow (a := i) (b := 1) (n := 1); rw [Nat.pow_one, h] at e; exact e
  omega
theorem xor_even {i : Nat} (h : i % 2 = 0) : i ^^^ 1 = i + 1 := by
  have h1 : (i ^^^ 1) / 2 = i / 2 := by rw [Nat.xor_div_two]; simp
  have h2 : (i ^^^ 1) % 2 = 1 := by have e := Nat.xor_mod_two_pow (a := i) (b := 1) (n := 1); rw [Nat.pow_one, h] at e; exact e
  omega
theorem beside_odd {n i : Nat} (h : i % 2 = 1) (hi : i < n) : besideF n i = true := by rw [besideF, xor_odd h]; exact decide_eq_true (by omega)
theorem beside_even {n i : Nat} (h : i % 2 = 0) : besideF n i = decide (i + 1 < n) := by rw [besideF, xor_even h]
/-- the rows on the way up -/
def stepsF (n i : Nat) : List (Nat × Bool) := if h : 1 < n then (i, besideF n i) :: stepsF (n - n / 2) (i / 2) else []
termination_by n
decreasing_by omega
theorem stepsF_more {n i : Nat} (h : 1 < n) : stepsF n i = (i, besideF n i) :: stepsF (n - n / 2) (i / 2) := by rw [stepsF, dif_pos h]
theorem stepsF_end {n i : Nat} (h : ¬ 1 < n) : stepsF n i = [] := by rw [stepsF, dif_neg h]
/-- the digests beside the way up -/
def wayF (l : List Dig) (i : Nat) : List Dig := if h : 1 < l.length then (if besideF l.length i = true then [l.getD (i ^^^ 1) []] else []) ++ wayF (aboveF l) (i / 2) else []
termination_by l.length
decreasing_by rw [aboveF_length]; omega
theorem wayF_more {l : List Dig} {i : Nat} (h : 1 < l.length) : wayF l i = (if besideF l.length i = true then [l.getD (i ^^^ 1) []] else []) ++ wayF (aboveF l) (i / 2) := by rw [wayF, dif_pos h]
theorem wayF_end {l : List Dig} {i : Nat} (h : ¬ 1 < l.length) : wayF l i = [] := by rw [wayF, dif_neg h]
def proveF (b : List UInt8) (i : Int) : List UInt8 × List Dig × Nat := if i < 0 ∨ (nlF b.length : Int) ≤ i then ([], [], 14) else (leafF b i.toNat, wayF (rowF b) i.toNat, 0)
/-- the two that stand beside one another, in order -/
def stepP (at_ : Nat) (x y : Dig) : List UInt8 := if at_ % 2 = 1 then nodeP y x else nodeP x y
/-- what is digested on the way up from x: the rows' bytes, the last digest, what is left of the way; none: the way ends too early -/
def climbF : List (Nat × Bool) → Dig → List Dig → Option (List (List UInt8) × Dig × List Dig)
  | [], x, way => some ([], x, way)
  | (i, true) :: r, x, y :: way => (climbF r (sha (stepP i x y)) way).map fun (l, d, m) => (stepP i x y :: l, d, m)
  | (_, true) :: _, _, [] => none
  | (_, false) :: r, x, way => climbF r x way
def checkF (root : Dig) (n i : Int) (leaf : List UInt8) (way : List Dig) : Nat :=
  if n < 1 ∨ i < 0 ∨ n ≤ i then 14 else if 64 < leaf.length then 21 else
  match climbF (stepsF n.toNat i.toNat) (leafD leaf) way with
  | none => 21
  | some (_, x, m) => if m = [] ∧ crownD n.toNat x = root then 0 else 21
end Go.Proofs.YtlopiinkpdpakaaDoor
