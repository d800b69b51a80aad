/-
  slices.Clone at bytes.
-/
import Derived.Test.YtlkhbfafednegaaDoorGA
import Derived.Laws.AppendOwn
namespace Go.Proofs.YtlkhbfafednegaaDoor
open Go Go.RowKit
set_option linter.unusedSimpArgs false
set_option linter.unusedVariables false

set_option maxRecDepth 100000 in
set_option maxHeartbeats 1000000 in
theorem cloneB_any (v : Value) (l : List UInt8) (w : World) (h : HB w v l) (hn : l.length ≤ 140737488351232) :
    Calls Tryd.prog 39 #[v] w fun e w' => ∃ v', e = .returned v' ∧ w'.ownsRow w.heap.size 5 1 v' l.length (l.map bcv) ∧ Below w.heap.size w w' := by
  obtain ⟨i8, hi8, hz8, hsz8, hby8⟩ := info8
  have HI8 := Lib.hid hi8; clear hi8
  obtain ⟨p, cap, rfl, hl, hm, hpn, hc⟩ := h
  have hq := run_eql_nil (P := Tryd.prog) w p l.length cap Tryd.underlying24
  cases p with
  | none =>
    have hl0 : l = [] := List.eq_nil_of_length_eq_zero (by have := hpn rfl; omega)
    have HL0 := Lib.hid hl0
    clear hl0 hpn hc
    go_enter Tryd.func39, Tryd.ntmps39
    go_wp2_with fail
    go_ret
    refine ⟨_, rfl, ?_, Below.refl _ _⟩
    rw [HL0.out]
    exact World.ownsRow_nil _ _ _ _
  | some a =>
    have hc2 : ∀ (j : Nat) (u : Value), (l.map bcv)[j]? = some u → w.cell? (a.add j) = some u := by
      intro j u hj
      rw [List.getElem?_map] at hj
      obtain ⟨x, hx, rfl⟩ := Option.map_eq_some_iff.1 hj
      obtain ⟨b, o, hp, hc3⟩ := hc (ne_nil_of_get hx)
      injection hp with hp; subst hp
      rw [addi]; exact hc3 j x hx
    have HC := Lib.hid hc2
    have h1 : ∀ u ∈ l.map bcv, u.oneCell' = true := fun u hu => by
      obtain ⟨x, _, rfl⟩ := List.mem_map.1 hu; rfl
    have H1 := Lib.hid h1
    clear hc hc2 hpn h1
    go_enter Tryd.func39, Tryd.ntmps39
    go_wp2_with (at_builtin
                 have hB1 : Below w.heap.size w (w.alloc (.cells #[] 5)) := (Below.refl w.heap.size w).alloc (Nat.le_refl _) _
                 refine wpList_append_own _ rfl (.tmp 5) (.tmp 6) 24 rfl w.heap.size 5 i8 (.int .u8 0) 1 1 Tryd.underlying24 HI8.out hz8 hsz8 hby8 rfl (by decide) _ 0 [] rfl (World.ownsRow_made w #[] 0 (Nat.le_refl _) (by decide) (by simp)) a l.length cap (l.map bcv) rfl (by rw [List.length_map]; omega) (fun j u hj => (hB1.cell (block_lt_of_cell (HC.out j u hj))).trans (HC.out j u hj)) H1.out (by simp only [maxLen] at *; omega) (by omega) (by simp) ?_
                 intro v' w2 hown' hgrow _
                 have HO2 : Hid (w2.ownsRow w.heap.size 5 1 v' l.length (l.map bcv)) := Lib.hid (by
                   rw [Nat.zero_add, List.nil_append] at hown'
                   exact hown')
                 have HB2 : Hid (Below w.heap.size w w2) := Lib.hid (hB1.grown hgrow (by simp) (fun j hj => by simp [Act.eval, Value.ownBlock] at hj; omega))
                 clear hown' hgrow)
    go_ret
    exact ⟨_, rfl, HO2.out, HB2.out⟩
end Go.Proofs.YtlkhbfafednegaaDoor
