/-
  More on ways up.
-/
import Derived.Test.YtofbfkkncjcodaaDoorRo
import Derived.Test.YtofbfkkncjcodaaDoorPfQ
namespace Go.Proofs.YtofbfkkncjcodaaDoor
open Go Go.RowKit
set_option linter.unusedSimpArgs false
set_option linter.unusedVariables false

theorem climb_len {s : List (Nat × Bool)} {x : Dig} {way : List Dig} {ls : List (List UInt8)} {d : Dig} {m : List Dig} (h : climbF s x way = some (ls, d, m)) : ls.length + m.length = way.length := by
  induction s generalizing x way ls d m with
  | nil => simp [climbF] at h; obtain ⟨rfl, rfl, rfl⟩ := h; simp
  | cons p r ih =>
    rw [climb_cons] at h
    obtain ⟨i, b⟩ := p
    cases b with
    | false =>
      simp only [stepC] at h
      cases h2 : climbF r x way with
      | none => simp [h2] at h
      | some t => simp [h2] at h; obtain ⟨e1, e2, e3⟩ := h; obtain ⟨a, b, c⟩ := t; simp at e1 e2 e3; subst e1; subst e2; subst e3; exact ih h2
    | true =>
      cases way with
      | nil => simp [stepC] at h
      | cons y way =>
        simp only [stepC] at h
        cases h2 : climbF r (sha (stepP i x y)) way with
        | none => simp [h2] at h
        | some t => simp [h2] at h; obtain ⟨e1, e2, e3⟩ := h; obtain ⟨a, b, c⟩ := t; simp at e1 e2 e3; subst e1; subst e2; subst e3; have := ih h2; simp; omega

theorem climb_rows : ∀ (s : List (Nat × Bool)) (x : Dig) (way : List Dig) (ls : List (List UInt8)) (d : Dig) (m : List Dig), x.length = 32 → (∀ d ∈ way, d.length = 32) → climbF s x way = some (ls, d, m) → ∀ p ∈ ls, p.length = 65 := by
  intro s
  induction s with
  | nil => intro x way ls d m _ _ h p hp; simp [climbF] at h; rw [h.1] at hp; simp at hp
  | cons a r ih =>
    intro x way ls d m hx hw h p hp
    obtain ⟨i, b⟩ := a
    cases b with
    | false => simp only [climbF] at h; exact ih _ _ _ _ _ hx hw h p hp
    | true =>
      cases way with
      | nil => simp [climbF] at h
      | cons y way =>
        simp only [climbF] at h
        cases e : climbF r (sha (stepP i x y)) way with
        | none => rw [e] at h; simp at h
        | some t =>
          obtain ⟨a1, a2, a3⟩ := t
          rw [e] at h; simp at h
          obtain ⟨rfl, rfl, rfl⟩ := h
          rcases List.mem_cons.1 hp with rfl | hp
          · have hy := hw y (by simp)
            unfold stepP; split <;> simp [nodeP] <;> omega
          · exact ih _ _ _ _ _ (sha_length _) (fun d hd => hw d (by simp [hd])) e p hp
theorem rows_len {n : Nat} {s : List (Nat × Bool)} {l : List UInt8} {x d : Dig} {way m : List Dig} {ls : List (List UInt8)} (hx : x.length = 32) (hw : ∀ d ∈ way, d.length = 32) (h : climbF s x way = some (ls, d, m)) : ∀ p ∈ allF l n (some (ls, d, m)), p.length ≤ l.length + 65 := by
  intro p hp
  rcases List.mem_cons.1 hp with rfl | hp
  · simp
  · rcases List.mem_append.1 hp with hp | hp
    · have := climb_rows _ _ _ _ _ _ hx hw h p hp; omega
    · have hd := climb_dig _ _ _ _ _ _ hx h
      simp only [List.mem_singleton] at hp
      subst hp
      rw [crownP, List.length_cons, List.length_append, le8_length, hd]; omega
/-- the way behind so many steps -/
theorem climb_next {n i q k : Nat} {x d : Dig} {way : List Dig} {ls : List (List UInt8)} (hq : q < (stepsF n i).length) (h : climbF ((stepsF n i).take q) x way = some (ls, d, way.drop k)) (hk : ls.length = k) :
    (besideF (stN n q) (stI i q) = false → climbF ((stepsF n i).take (q + 1)) x way = some (ls, d, way.drop k)) ∧
    (besideF (stN n q) (stI i q) = true → way.length ≤ k → climbF (stepsF n i) x way = none) ∧
    (∀ y, besideF (stN n q) (stI i q) = true → way[k]? = some y → climbF ((stepsF n i).take (q + 1)) x way = some (ls ++ [stepP (stI i q) d y], sha (stepP (stI i q) d y), way.drop (k + 1)) ∧ (ls ++ [stepP (stI i q) d y]).length = k + 1) := by
  have hat : (stepsF n i)[q]? = some (stI i q, besideF (stN n q) (stI i q)) := by rw [steps_at, if_pos ((steps_lt n i q).1 hq)]
  have hnext : climbF ((stepsF n i).take (q + 1)) x way = stepC (some (ls, d, way.drop k)) (stI i q, besideF (stN n q) (stI i q)) := by rw [take_next hat, climb_snoc, h]
  refine ⟨fun hb => ?_, fun hb hl => ?_, fun y hb hy => ?_⟩
  · rw [hnext, hb]; rfl
  · refine climb_none (q + 1) ?_
    rw [hnext, hb, List.drop_eq_nil_of_le hl]; rfl
  · have hd : way.drop k = y :: way.drop (k + 1) := by
      obtain ⟨h1, h2⟩ := List.getElem?_eq_some_iff.1 hy
      rw [List.drop_eq_getElem_cons h1, h2]
    refine ⟨?_, by simp [hk]⟩
    rw [hnext, hb, hd]; rfl

end Go.Proofs.YtofbfkkncjcodaaDoor
