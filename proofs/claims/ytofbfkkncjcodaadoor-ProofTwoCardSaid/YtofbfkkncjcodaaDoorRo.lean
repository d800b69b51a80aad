/-
  Rows of rows of bytes, of the call's own.
-/
import Derived.Test.YtofbfkkncjcodaaDoorPf1
import Derived.Test.YtofbfkkncjcodaaDoorPf6
namespace Go.Proofs.YtofbfkkncjcodaaDoor
open Go Go.RowKit Go.Shelf
set_option linter.unusedSimpArgs false
set_option linter.unusedVariables false

/-- two rows of other element types: one's turn leaves the other -/
theorem own_apart {w w' : World} {base b2 n m : Nat} {t t2 : TypeId} {v u : Value} {vs xs : List Value} (ho : w.ownsRow base t 1 v n vs) (hg : w.grownBy w' v.ownBlock) (h : w.ownsRow b2 t2 1 u m xs) (ht : t2 ≠ t) : w'.ownsRow b2 t2 1 u m xs := by
  refine h.kept hg ?_
  rcases h.2 with ⟨rfl, _⟩ | ⟨g, cap, cur, rfl, _, hh, _⟩
  · exact .inl rfl
  · refine .inr fun e => ?_
    exact own_ne_blk ho (show Blk w g t2 cur from hh) (Ne.symm ht) (by rw [← e]; rfl)
/-- v is a slice of slices of bytes ls, in a block from base on; each one's bytes lie in a block of bytes -/
def RowsO (w : World) (base : Nat) (v : Value) (n : Nat) (ls : List (List UInt8)) : Prop :=
  ls.length = n ∧ ∃ vs, w.ownsRow base 22 1 v n vs ∧ vs.length = n ∧ ∀ (i : Nat) (u : Value) (l : List UInt8), vs[i]? = some u → ls[i]? = some l → w.ownsRow base 5 1 u l.length (l.map bcv)
theorem RowsO.nil (w : World) (base : Nat) : RowsO w base (.slice none 0 0) 0 [] := ⟨rfl, [], World.ownsRow_nil _ _ _ _, rfl, fun i u l h => by simp at h⟩
theorem RowsO.keep {w w' : World} {base n : Nat} {v : Value} {ls : List (List UInt8)} (h : RowsO w base v n ls) (hb : Below w.heap.size w w') : RowsO w' base v n ls := by
  obtain ⟨h1, vs, h2, h3, h4⟩ := h
  exact ⟨h1, vs, own_below h2 hb, h3, fun i u l hu hl => own_below (h4 i u l hu hl) hb⟩
theorem RowsO.turn {w w' : World} {base n D : Nat} {v : Value} {ls : List (List UInt8)} (h : RowsO w base v n ls) (hb : Turns D w w') : RowsO w' base v n ls := by
  obtain ⟨h1, vs, h2, h3, h4⟩ := h
  exact ⟨h1, vs, hb.own h2, h3, fun i u l hu hl => hb.own (h4 i u l hu hl)⟩
theorem RowsO.form {w : World} {base n : Nat} {v : Value} {ls : List (List UInt8)} (h : RowsO w base v n ls) : ∃ A c, v = .slice A n c := by
  obtain ⟨_, vs, h2, _⟩ := h
  exact own_form h2
theorem RowsO.base {w : World} {base base' n : Nat} {v : Value} {ls : List (List UInt8)} (h : RowsO w base v n ls) (hb : base' ≤ base) : RowsO w base' v n ls := by
  obtain ⟨h1, vs, h2, h3, h4⟩ := h
  exact ⟨h1, vs, own_base h2 hb, h3, fun i u l hu hl => own_base (h4 i u l hu hl) hb⟩
theorem RowsO.grown {w w' : World} {base n g : Nat} {v : Value} {ls : List (List UInt8)} {t : TypeId} {cs : Array Value} (h : RowsO w base v n ls) (hb : w.grownBy w' (some g)) (hg : Blk w g t cs) (ht : t ≠ 5) (ht2 : t ≠ 22) : RowsO w' base v n ls := by
  obtain ⟨h1, vs, h2, h3, h4⟩ := h
  exact ⟨h1, vs, h2.kept hb (.inr (fun e => own_ne_blk h2 hg (Ne.symm ht2) e.symm)), h3, fun i u l hu hl => (h4 i u l hu hl).kept hb (.inr (fun e => own_ne_blk (h4 i u l hu hl) hg (Ne.symm ht) e.symm))⟩
/-- one more slice of bytes is laid behind -/
theorem RowsO.snoc {w w' : World} {base n : Nat} {v v' u : Value} {ls : List (List UInt8)} {l : List UInt8} {vs : List Value} (h1 : ls.length = n) (ho : w.ownsRow base 22 1 v n vs) (h3 : vs.length = n)
    (h4 : ∀ (i : Nat) (u : Value) (l : List UInt8), vs[i]? = some u → ls[i]? = some l → w.ownsRow base 5 1 u l.length (l.map bcv)) (hu : w.ownsRow base 5 1 u l.length (l.map bcv)) (hg : w.grownBy w' v.ownBlock) (ho' : w'.ownsRow base 22 1 v' (n + 1) (vs ++ [u])) : RowsO w' base v' (n + 1) (ls ++ [l]) := by
  refine ⟨by simp [h1], _, ho', by simp [h3], fun i u2 l2 hi hl => ?_⟩
  by_cases h : i < n
  · rw [List.getElem?_append_left (by omega)] at hi hl
    exact own_apart ho hg (h4 i u2 l2 hi hl) (by decide)
  · have hi' := (List.getElem?_eq_some_iff.1 hi).1
    rw [List.length_append] at hi'
    simp only [List.length_cons, List.length_nil] at hi'
    obtain rfl : i = n := by omega
    rw [List.getElem?_append_right (by omega), h3] at hi
    rw [List.getElem?_append_right (by omega), h1] at hl
    simp at hi hl
    subst hi; subst hl
    exact own_apart ho hg hu (by decide)
theorem RowsO.steps {Bs base n : Nat} {w w' : World} {v : Value} {ls : List (List UInt8)} (h : RowsO w base v n ls) (hb : KeepS Bs w w') : RowsO w' base v n ls := by
  obtain ⟨h1, vs, h2, h3, h4⟩ := h
  exact ⟨h1, vs, hb.own h2 (by decide), h3, fun i u l hu hl => hb.own (h4 i u l hu hl) (by decide)⟩
theorem RowsO.rows {w : World} {base n : Nat} {v : Value} {ls : List (List UInt8)} (h : RowsO w base v n ls) (hl : ∀ l ∈ ls, l.length ≤ maxLen) : RowsH w base v n ls := by
  obtain ⟨h1, vs, h2, h3, h4⟩ := h
  exact ⟨h1, vs, h2, h3, fun i u l hu hx => own_hb (h4 i u l hu hx) rfl⟩
/-- one more step of the way up -/
def stepC (s : Option (List (List UInt8) × Dig × List Dig)) (p : Nat × Bool) : Option (List (List UInt8) × Dig × List Dig) :=
  match s, p with
  | none, _ => none
  | some (ls, x, m), (i, true) => (match m with | [] => none | y :: m => some (ls ++ [stepP i x y], sha (stepP i x y), m))
  | some s, (_, false) => some s
theorem climb_cons (p : Nat × Bool) (r : List (Nat × Bool)) (x : Dig) (way : List Dig) : climbF (p :: r) x way = match stepC (some ([], x, way)) p with
    | none => none
    | some (ls, x, m) => (climbF r x m).map fun (l, d, m) => (ls ++ l, d, m) := by
  obtain ⟨i, b⟩ := p
  cases b with
  | false => simp [climbF, stepC]
  | true =>
    cases way with
    | nil => simp [climbF, stepC]
    | cons y way => simp [climbF, stepC]
theorem climb_snoc (s : List (Nat × Bool)) (p : Nat × Bool) (x : Dig) (way : List Dig) : climbF (s ++ [p]) x way = stepC (climbF s x way) p := by
  induction s generalizing x way with
  | nil =>
    obtain ⟨i, b⟩ := p
    cases b with
    | false => simp [climbF, stepC]
    | true => cases way <;> simp [climbF, stepC]
  | cons q r ih =>
    rw [List.cons_append, climb_cons, climb_cons]
    cases h : stepC (some ([], x, way)) q with
    | none => rfl
    | some t =>
      obtain ⟨ls, x2, m⟩ := t
      simp only [ih]
      cases h2 : climbF r x2 m with
      | none => rfl
      | some t2 =>
        obtain ⟨l3, d3, m3⟩ := t2
        obtain ⟨i, b⟩ := p
        cases b with
        | false => simp [stepC]
        | true => cases m3 <;> simp [stepC]
theorem climb_none {s : List (Nat × Bool)} {x : Dig} {way : List Dig} (k : Nat) (h : climbF (s.take k) x way = none) : climbF s x way = none := by
  have hg : ∀ (t : List (Nat × Bool)) (r : List (Nat × Bool)), climbF r x way = none → climbF (r ++ t) x way = none := by
    intro t
    induction t with
    | nil => intro r hr; simpa using hr
    | cons p t ih =>
      intro r hr
      rw [show r ++ p :: t = (r ++ [p]) ++ t by simp]
      exact ih _ (by rw [climb_snoc, hr]; rfl)
  have := hg (s.drop k) _ h
  rwa [List.take_append_drop] at this
end Go.Proofs.YtofbfkkncjcodaaDoor
