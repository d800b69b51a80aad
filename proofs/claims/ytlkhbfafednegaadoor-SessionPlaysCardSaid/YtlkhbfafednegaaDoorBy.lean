/-
  bytes.Join without a separator.
-/
import Derived.Test.YtlkhbfafednegaaDoorGA
import Derived.Test.YtlkhbfafednegaaDoorShlf
namespace Go.Proofs.YtlkhbfafednegaaDoor
open Go Go.RowKit

theorem join_any (v : Value) (ls : List (List UInt8)) (w : World) (h : Parts w v ls) (hn : ls.length ≤ 140737488355328) (hs : ls.flatten.length ≤ 140737488355328) :
    Calls Tryd.prog 59 #[v, .slice none 0 0] w fun e w' => ∃ v', e = .returned v' ∧ OwnB w' w.heap.size v' ls.flatten ∧ Below w.heap.size w w' := by
  rcases h with ⟨p, c, rfl, rfl⟩ | ⟨b, o, c, vs, rfl, hc, hP⟩
  · refine (Tryd.bytes_Join_none p c _ w).mono ?_
    rintro e w' ⟨rfl, rfl⟩
    exact ⟨_, rfl, .inr ⟨w.heap.size, 0, rfl, Nat.le_refl _, Nat.le_refl _, by simp only [maxLen]; omega, fun i hi => absurd hi (by omega), fun i hi => absurd hi (by omega), fun i x hx => by simp at hx⟩, (Below.refl _ _).alloc (Nat.le_refl _) _⟩
  · match ls, hn, hs, hc, hP with
    | [], _, _, _, _ =>
      refine (Tryd.bytes_Join_none _ c _ w).mono ?_
      rintro e w' ⟨rfl, rfl⟩
      exact ⟨_, rfl, .inr ⟨w.heap.size, 0, rfl, Nat.le_refl _, Nat.le_refl _, by simp only [maxLen]; omega, fun i hi => absurd hi (by omega), fun i hi => absurd hi (by omega), fun i x hx => by simp at hx⟩, (Below.refl _ _).alloc (Nat.le_refl _) _⟩
    | [l], _, hs, _, hP =>
      obtain ⟨p, cap, l', hl', hcell, hnil, hcells⟩ := hP.get 0 (by simp)
      simp at hl'; subst hl'
      rw [add0] at hcell
      have hfl : [l].flatten = l := by simp
      rw [hfl] at hs ⊢
      by_cases h0 : l = []
      · subst h0
        refine (Tryd.bytes_Join_one_empty b o c p cap _ w hcell).mono ?_
        rintro e w' ⟨rfl, rfl⟩
        exact ⟨_, rfl, .inl ⟨rfl, rfl⟩, Below.refl _ _⟩
      · cases p with
        | none => exact absurd (hnil rfl) h0
        | some ad =>
          refine (Tryd.bytes_Join_one b o c ad cap l _ w hcell (hcells ad rfl) (List.length_pos_iff.2 h0) hs).mono ?_
          rintro e w' ⟨v', rfl, hf, hb⟩
          exact ⟨_, rfl, .fresh hf, hb⟩
    | l0 :: l1 :: r, hn, hs, hc, hP =>
      have hS : Lib.HoldsBytes w (.slice none 0 0) [] := ⟨none, 0, rfl, fun _ => rfl, fun a ha => by cases ha⟩
      refine (Tryd.bytes_Join_many b o _ c vs (l0 :: l1 :: r) _ [] w rfl (by simp) hP hc hS hn (by rw [lens_flatten]; simpa using hs)).mono ?_
      rintro e w' ⟨v', rfl, hf, hb⟩
      rw [join_nil] at hf
      exact ⟨_, rfl, .fresh hf, hb⟩
end Go.Proofs.YtlkhbfafednegaaDoor
