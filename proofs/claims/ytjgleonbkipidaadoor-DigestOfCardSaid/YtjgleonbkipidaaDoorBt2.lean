/-
  More on rows of bytes. No program is named here.
-/
import Derived.Test.YtjgleonbkipidaaDoorBt
import Derived.Test.YtjgleonbkipidaaDoorReg
namespace Go.Proofs.YtjgleonbkipidaaDoor
open Go Go.RowKit

theorem bs_size (l : List UInt8) : (bs l).size = l.length := by rw [← sb_length, sb_bs]

/-- each of the first k rows has at most m bytes -/
def Short (ls : List (List UInt8)) (m k : Nat) : Prop := ∀ (i : Nat) (l : List UInt8), i < k → ls[i]? = some l → l.length ≤ m
theorem flat_short {m : Nat} (ls : List (List UInt8)) (h : Short ls m ls.length) : ls.flatten.length ≤ m * ls.length := by
  induction ls with
  | nil => simp
  | cons l r ih =>
    have h1 := h 0 l (by simp) rfl
    have h2 := ih (fun i x hi hx => h (i + 1) x (by simp; omega) hx)
    simp only [List.flatten_cons, List.length_append, List.length_cons]
    rw [Nat.mul_succ]; omega
theorem Short.succ {ls : List (List UInt8)} {m k : Nat} (h : Short ls m k) {l : List UInt8} (hl : ls[k]? = some l) (h2 : l.length ≤ m) : Short ls m (k + 1) := by
  intro i x hi hx
  by_cases e : i = k
  · subst e; rw [hl] at hx; injection hx with hx; subst hx; exact h2
  · exact h i x (by omega) hx
theorem flat_take {ls : List (List UInt8)} {k : Nat} {l : List UInt8} (hl : ls[k]? = some l) : (ls.take (k + 1)).flatten = (ls.take k).flatten ++ l := by
  rw [List.take_add_one, hl]; simp
end Go.Proofs.YtjgleonbkipidaaDoor
