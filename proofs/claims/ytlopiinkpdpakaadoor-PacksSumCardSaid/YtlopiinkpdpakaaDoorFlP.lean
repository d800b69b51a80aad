/-
  Which blobs come into each pack, in plain Lean. No program is named here.
-/
import Derived.Test.YtlopiinkpdpakaaDoorPkP
namespace Go.Proofs.YtlopiinkpdpakaaDoor

set_option linter.unusedVariables false
/-- how many bytes a number has -/
def digF (n : Nat) : Nat := (putF n).length
theorem digF_lt {n : Nat} (h : n < 128) : digF n = 1 := by rw [digF, putF_lt h]; rfl
theorem digF_ge {n : Nat} (h : 128 ≤ n) : digF n = digF (n / 128) + 1 := by rw [digF, putF_ge h, List.length_cons]; rfl
theorem digF_pos (n : Nat) : 1 ≤ digF n := putF_pos n
theorem digF_le10 {n : Nat} (h : n < 18446744073709551616) : digF n ≤ 10 := putF_length10 h
theorem digF_le (n : Nat) : digF n ≤ n + 1 := by
  induction n using Nat.strongRecOn with
  | ind n ih =>
    by_cases h : n < 128
    · rw [digF_lt h]; omega
    · rw [digF_ge (by omega)]
      have := ih (n / 128) (by omega)
      omega
theorem digF_3 {n : Nat} (h : n ≤ 2097151) : digF n ≤ 3 := putF_length 2 n (by omega)

section
variable (l : List Nat) (most : Nat)
/-- a blob's bytes in a pack -/
def szF (n : Nat) : Nat := n + digF n
/-- the bytes of the blobs from a to b -/
def sumF (a b : Nat) : Nat := (((l.drop a).take (b - a)).map szF).sum
/-- may the blobs from a to b be one pack? -/
def fitF (a b : Nat) : Bool := decide (b - a ≤ 1024) && decide (digF (b - a) + sumF l a b ≤ most)
/-- how far a pack that has the blobs from a to j goes -/
def reachF (a j : Nat) : Nat := if h : j < l.length then (if fitF l most a (j + 1) = true then reachF a (j + 1) else j) else j
termination_by l.length - j
def cutsF (a : Nat) : List (Nat × Nat) := if h : a < l.length then (a, max (a + 1) (reachF l most a (a + 1))) :: cutsF (max (a + 1) (reachF l most a (a + 1))) else []
termination_by l.length - a
end
theorem reachF_ge (l : List Nat) (most a j : Nat) : j ≤ reachF l most a j := by
  rw [reachF]
  split
  · split
    · have := reachF_ge l most a (j + 1); omega
    · exact Nat.le_refl _
  · exact Nat.le_refl _
termination_by l.length - j
theorem reachF_le (l : List Nat) (most a j : Nat) (h : j ≤ l.length) : reachF l most a j ≤ l.length := by
  rw [reachF]
  split
  · split
    · exact reachF_le l most a (j + 1) (by omega)
    · omega
  · exact h
termination_by l.length - j
theorem reachF_more {l : List Nat} {most a j : Nat} (h : j < l.length) (hf : fitF l most a (j + 1) = true) : reachF l most a j = reachF l most a (j + 1) := by
  rw [reachF, dif_pos h, if_pos hf]
theorem reachF_stop {l : List Nat} {most a j : Nat} (hf : fitF l most a (j + 1) = false) : reachF l most a j = j := by
  rw [reachF]
  split
  · rw [if_neg (by rw [hf]; simp)]
  · rfl
theorem reachF_end {l : List Nat} {most a : Nat} : reachF l most a l.length = l.length := by
  rw [reachF, dif_neg (by omega)]
theorem cutsF_end {l : List Nat} {most a : Nat} (h : ¬ a < l.length) : cutsF l most a = [] := by rw [cutsF, dif_neg h]
theorem cutsF_step {l : List Nat} {most a : Nat} (h : a < l.length) : cutsF l most a = (a, reachF l most a (a + 1)) :: cutsF l most (reachF l most a (a + 1)) := by
  rw [cutsF, dif_pos h, Nat.max_eq_right (reachF_ge _ _ _ _)]
theorem sumF_same (l : List Nat) (a : Nat) : sumF l a a = 0 := by simp [sumF]
theorem sumF_succ {l : List Nat} {a b s : Nat} (hab : a ≤ b) (h : l[b]? = some s) : sumF l a (b + 1) = sumF l a b + szF s := by
  unfold sumF
  rw [show b + 1 - a = (b - a) + 1 by omega, List.take_add_one]
  have : (l.drop a)[b - a]? = some s := by rw [List.getElem?_drop, show a + (b - a) = b by omega]; exact h
  rw [this]
  simp
/-- the blobs' numbers in each pack -/
def rangeF (p : Nat × Nat) : List Nat := (List.range (p.2 - p.1)).map (· + p.1)
theorem rangeF_length (p : Nat × Nat) : (rangeF p).length = p.2 - p.1 := by simp [rangeF]
theorem rangeF_at {p : Nat × Nat} {i : Nat} (h : i < p.2 - p.1) : (rangeF p)[i]? = some (p.1 + i) := by
  simp [rangeF, h, Nat.add_comm]
def mayAll (l : List Int) : Bool := l.all mayB
def bigF (l : List Nat) (most : Nat) : Bool := l.any fun n => decide (most < 1 + szF n)
/-- which blobs come into each pack -/
def fillF (l : List Int) (most : Int) : List (List Nat) × Nat :=
  if most < 1 ∨ 1048576 < most then ([], 1)
  else if mayAll l = true then (if bigF (l.map Int.toNat) most.toNat = true then ([], 13) else ((cutsF (l.map Int.toNat) most.toNat 0).map rangeF, 0))
  else ([], 1)
end Go.Proofs.YtlopiinkpdpakaaDoor
