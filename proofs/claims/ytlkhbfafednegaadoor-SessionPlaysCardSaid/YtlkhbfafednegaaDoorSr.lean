/-
  Rows of strings of the call's own.
-/
import Derived.Test.YtlkhbfafednegaaDoorGE
import Derived.Test.YtlkhbfafednegaaDoorGA
namespace Go.Proofs.YtlkhbfafednegaaDoor
open Go Go.RowKit
set_option linter.unusedSimpArgs false
set_option linter.unusedVariables false

theorem infoStr : ∃ i, Tryd.prog.info? 9 = some i ∧ i.zero = some (.string ByteArray.empty) ∧ i.size = 1 ∧ i.bytes = 16 := by
  have h : (Tryd.prog.info? 9).map (fun i => (i.zero, i.size, i.bytes)) = some (some (.string ByteArray.empty), 1, 16) := by kernel_rfl
  obtain ⟨i, hi, he⟩ := Option.map_eq_some_iff.1 h
  simp only [Prod.mk.injEq] at he
  exact ⟨i, hi, he.1, he.2.1, he.2.2⟩
def strV (l : List UInt8) : Value := .string (bs l)
/-- a row of strings of the call's own -/
def StrR (w : World) (base : Nat) (v : Value) (n : Nat) (ls : List (List UInt8)) : Prop := w.ownsRow base 9 1 v n (ls.map strV)
theorem StrR.len {w : World} {base n : Nat} {v : Value} {ls : List (List UInt8)} (h : StrR w base v n ls) : ls.length = n := by
  have := h.1
  simpa using this
theorem StrR.keep {w w' : World} {base n : Nat} {v : Value} {ls : List (List UInt8)} (h : StrR w base v n ls) (hb : Below w.heap.size w w') : StrR w' base v n ls := own_below h hb
theorem StrR.at_ {w : World} {base n c : Nat} {A : Option Addr} {ls : List (List UInt8)} (h : StrR w base (.slice A n c) n ls) {i : Nat} {l : List UInt8} (hi : ls[i]? = some l) : ∃ g, A = some ⟨g, 0, none⟩ ∧ w.cell? ⟨g, i, none⟩ = some (.string (bs l)) := by
  have hin : i < n := by have := (List.getElem?_eq_some_iff.1 hi).1; have := h.len; omega
  obtain ⟨g, cap, cur, e, hb, hg, _⟩ := own_blk h (by omega)
  injection e with e1 _ _
  subst e1
  have hcell := World.ownsRow.cells h rfl i (strV l) (by rw [List.getElem?_map, hi]; rfl)
  rw [addi, Nat.zero_add] at hcell
  exact ⟨g, rfl, hcell⟩

end Go.Proofs.YtlkhbfafednegaaDoor
