/-
  A range over a function whose iterator tells N known items, the k-th at the k-th round: what is owed of the body is owed at that item alone. No program is named here.
-/
import Derived.Test.YtomfpffooaejoaaDoorRin
import Derived.Shelf.Abstract
namespace Go.Proofs.YtomfpffooaejoaaDoor
open Go Go.RowKit Go.Shelf
set_option linter.unusedSimpArgs false
set_option linter.unusedVariables false

/-- what holds no cells, from block B on, lies as it lay -/
def KeepN (B : Nat) (W W' : World) : Prop := ∀ (b : Nat) (o : Obj), B ≤ b → W.heap[b]? = some o → o.isCells = false → W'.heap[b]? = some o
theorem KeepN.refl (B : Nat) (W : World) : KeepN B W W := fun _ _ _ h _ => h
theorem KeepN.trans {B : Nat} {x y z : World} (h : KeepN B x y) (k : KeepN B y z) : KeepN B x z := fun b o hb h1 h2 => k b o hb (h b o hb h1 h2) h2
theorem KeepN.below {B : Nat} {x y : World} (h : Below x.heap.size x y) : KeepN B x y := fun b o _ h1 _ => (h.block b (Array.getElem?_eq_some_iff.1 h1).1).trans h1
theorem KeepN.grown {B g : Nat} {x y : World} {t : TypeId} {cs : Array Value} (h : x.grownBy y (some g)) (hg : Blk x g t cs) : KeepN B x y := fun b o _ h1 h2 => by
  rw [h.block b (Array.getElem?_eq_some_iff.1 h1).1 (fun e => ?_)]
  · exact h1
  · injection e with e
    subst e
    have e2 : x.heap[b]? = some (.cells cs t (0, 0)) := hg
    rw [e2] at h1; injection h1 with h1; subst h1; cases h2
theorem KeepN.store {B g i : Nat} {x : World} {t : TypeId} {cs : Array Value} (hg : Blk x g t cs) (u : Value) : KeepN B x (x.setCell ⟨g, i, none⟩ u) :=
  KeepN.grown (Only.store (World.grownBy.refl x (some g)) (.inl rfl) u) hg

/-- the loop's own turns: a block from B on that holds no cells -/
def Turns (B : Nat) (W W' : World) : Prop := ∃ l o o', B ≤ l ∧ W.heap[l]? = some o ∧ o.isCells = false ∧ W' = W.putObj l o'
theorem Turns.below {B n : Nat} {w W W' : World} (h : Below n w W) (ht : Turns B W W') (hn : n ≤ B) : Below n w W' := by
  obtain ⟨l, o, o', hl, ho, hc, rfl⟩ := ht
  exact h.trans ((Below.refl n W).grown (grownBy_putObj' W l o') (by have := (Array.getElem?_eq_some_iff.1 ho).1; omega) (fun k e => by injection e with e; subst e; omega))
theorem Turns.blk {B g : Nat} {W W' : World} {t : TypeId} {cs : Array Value} (h : Blk W g t cs) (ht : Turns B W W') : Blk W' g t cs := by
  obtain ⟨l, o, o', hl, ho, hc, rfl⟩ := ht
  have e : g ≠ l := fun e => by
    have e2 : W.heap[g]? = some (.cells cs t (0, 0)) := h
    rw [e, ho] at e2; injection e2 with e2; rw [e2] at hc; cases hc
  exact (World.putObj_heap_other e).trans h
theorem Turns.size {B : Nat} {W W' : World} (ht : Turns B W W') : W'.heap.size = W.heap.size := by
  obtain ⟨l, o, o', hl, ho, hc, rfl⟩ := ht
  simp
theorem Turns.grown {B : Nat} {W W' : World} (ht : Turns B W W') : ∃ l, B ≤ l ∧ W.grownBy W' (some l) ∧ ∀ cs t fr, W.heap[l]? ≠ some (.cells cs t fr) := by
  obtain ⟨l, o, o', hl, ho, hc, rfl⟩ := ht
  exact ⟨l, hl, grownBy_putObj' W l o', fun cs t fr e => by rw [ho] at e; injection e with e; rw [e] at hc; cases hc⟩
theorem Turns.own {B base n size : Nat} {W W' : World} {e : TypeId} {v : Value} {xs : List Value} (h : W.ownsRow base e size v n xs) (ht : Turns B W W') : W'.ownsRow base e size v n xs := by
  obtain ⟨l, o, o', hl, ho, hc, rfl⟩ := ht
  obtain ⟨h1, h2⟩ := h
  refine ⟨h1, ?_⟩
  rcases h2 with h2 | ⟨g, cap, cur, hv, hbg, hg, h3⟩
  · exact .inl h2
  · refine .inr ⟨g, cap, cur, hv, hbg, (World.putObj_heap_other (fun e => ?_)).trans hg, h3⟩
    rw [e, ho] at hg; injection hg with hg; rw [hg] at hc; cases hc
theorem Turns.cell {B : Nat} {W W' : World} {a : Addr} {u : Value} (h : W.cell? a = some u) (ht : Turns B W W') (hcl : ∃ cs t fr, W.heap[a.block]? = some (.cells cs t fr)) : W'.cell? a = some u := by
  obtain ⟨l, hl, hg, hne⟩ := ht.grown
  obtain ⟨cs, t, fr, hc⟩ := hcl
  rw [World.cell?_of_block (hg.block a.block (Array.getElem?_eq_some_iff.1 hc).1 (fun e => by injection e with e; rw [e] at hc; exact hne _ _ _ hc))]
  exact h

/-- An iterator that tells N items: the k-th is enc k. Kp: what a round keeps for it; Ks: what it does itself between two rounds. -/
def SeqN (P : Program) (g : Nat) (lb : Array Value) (enc : Nat → Array Value) (Kp Ks : World → World → Prop) (N : Nat) (w : World) : Prop :=
  ∀ (l n : Nat) (J : Nat → World → Prop) (Jx : World → Prop) (W : World), Below w.heap.size w W → (∀ k A B, J k A → Ks A B → J k B) →
    (∀ k A, k < N → J k A → YieldAt Fence.wide n P l (enc k) A fun e B => (e = .returned (.bool true) ∧ J (k + 1) B ∧ Kp A B) ∨ (e = .returned (.bool false) ∧ Jx B)) →
    J 0 W → CallsIn Fence.wide (n + 1) P g (#[.func (.yield l) #[] #[]] ++ lb) W fun e B => (∃ v, e = .returned v) ∧ (J N B ∨ Jx B)

/-- how a round's body may be left -/
def postN (B : Nat) (Kp : World → World → Prop) (I : World → Prop) (Ix : Code → World → Prop) (W : World) : Exit → Act → World → Prop
  | .normal, _, V => KeepN B W V ∧ Kp W V ∧ I V
  | .ret, _, V => KeepN B W V ∧ Ix .ret V
  | .exit id, _, V => KeepN B W V ∧ Ix (.exit id) V
  | .goto t, _, V => KeepN B W V ∧ Ix (.goto t) V
  | .panic _, _, _ => False
  | .outgrown, _, _ => False
theorem postN_lets {B : Nat} {Kp : World → World → Prop} {I : World → Prop} {Ix : Code → World → Prop} {W : World} : ¬ LetsOut (postN B Kp I Ix W) := by
  rintro ⟨a, w, h⟩; exact h

section
variable {P : Program}
theorem wpIn_range_n {n : Nat} {g : Operand} {ps : Array Tmp} {assign body : Code} {Q : Exit → Act → World → Prop} {a : Act} {w : World}
    {gf : Nat} {lb : Array Value} (hg : a.eval g = .func (.func gf) #[] lb) (hgf : Enters P gf)
    {enc : Nat → Array Value} {Kp Ks : World → World → Prop} {N : Nat} {w0 : World} (hseq : SeqN P gf lb enc Kp Ks N w0) (hb0 : Below w0.heap.size w0 w) (hps : ∀ k, (enc k).size = ps.size)
    (hKt : ∀ A B C, Kp A B → Kp B C → Kp A C) (hKp : ∀ A B, Turns w.heap.size A B → Kp A B) (hKs : ∀ A B, Ks A B → KeepN w.heap.size A B)
    (I : Nat → World → Prop) (Ix : Code → World → Prop) (hI : ∀ k A B, I k A → Turns w.heap.size A B → I k B) (hIx : ∀ c A B, Ix c A → Turns w.heap.size A B → Ix c B)
    (hIs : ∀ k A B, I k A → Ks A B → I k B) (h0 : ∀ o1 o2, I 0 ((w.alloc o1).alloc o2)) (a₁ : Nat → Act)
    (hassign : ∀ (l k : Nat) (W : World) (K : Act → World → Prop), K (a₁ k) W → assign.wpIn (Fence.wide.inRound l) n P (Exit.then K (fun _ _ _ => False)) { tmps := (ps.zip (enc k)).foldl (fun t (p, v) => t.setIfInBounds p v) a.tmps, defers := [] } W)
    (hbody : ∀ (l k : Nat) (W : World), k < N → I k W → w.heap.size + 2 ≤ W.heap.size → body.wpIn (Fence.wide.inRound l) n P (postN w.heap.size Kp (I (k + 1)) Ix W) (a₁ k) W)
    (hdone : ∀ (D : Nat) (W : World), w.heap.size ≤ D → I N W → W.heap[D]? = some (.deferred (some [])) → Q .normal { a with defers := { target := .collected D, args := #[] } :: a.defers } W)
    (hstop : ∀ (D : Nat) (c : Code) (W : World), w.heap.size ≤ D → Ix c W → W.heap[D]? = some (.deferred (some [])) → c.wpIn Fence.wide (n + 2) P Q { a with defers := { target := .collected D, args := #[] } :: a.defers } W) :
    (Code.rangeFunc g ps assign body).wpIn Fence.wide (n + 2) P Q a w := by
  refine wpIn_rangeFunc fun fn _ => ?_
  let mk : LoopState → Option Code → Obj := fun st pe => .loop { state := st, pending := pe, fn, tmps := a.tmps, params := ps, assign, body, defers := w.heap.size }
  obtain ⟨V, hV⟩ : ∃ V, V = (w.alloc (.deferred (some []))).alloc (mk .ready none) := ⟨_, rfl⟩
  have hVl : V.heap[w.heap.size + 1]? = some (mk .ready none) := by
    have h := World.alloc_heap_new (w.alloc (.deferred (some []))) (mk .ready none)
    rw [World.size_alloc] at h
    rw [hV]; exact h
  have hVd : V.heap[w.heap.size]? = some (.deferred (some [])) := by
    rw [hV]; exact (Below.heap_alloc _ _ _ (by simp)).trans (World.alloc_heap_new w _)
  have hVb : Below w0.heap.size w0 V := by
    rw [hV]; exact hb0.trans ((((Below.refl _ w).alloc (Nat.le_refl _) _).alloc (by simp) _).mono hb0.size)
  have nc : ∀ st pe, (mk st pe).isCells = false := fun _ _ => rfl
  have turn : ∀ {A : World} {st : LoopState} {pe : Option Code} (o' : Obj), A.heap[w.heap.size + 1]? = some (mk st pe) → Turns w.heap.size A (A.putObj (w.heap.size + 1) o') :=
    fun o' h => ⟨_, _, o', by omega, h, nc _ _, rfl⟩
  have keep : ∀ {A : World} {st : LoopState} {pe : Option Code} (o' : Obj), A.heap[w.heap.size + 1]? = some (mk st pe) → A.heap[w.heap.size]? = some (.deferred (some [])) → (A.putObj (w.heap.size + 1) o').heap[w.heap.size + 1]? = some o' ∧ (A.putObj (w.heap.size + 1) o').heap[w.heap.size]? = some (.deferred (some [])) :=
    fun o' h1 h2 => ⟨World.putObj_heap_same (Array.getElem?_eq_some_iff.1 h1).1, (World.putObj_heap_other (by omega)).trans h2⟩
  refine ⟨w.heap.size + 1, [{ target := .collected w.heap.size, args := #[] }], V, { target := .fn (.func gf) lb, args := #[.func (.yield (w.heap.size + 1)) #[] #[]] }, V, gf, #[.func (.yield (w.heap.size + 1)) #[] #[]] ++ lb, V, ?_, ?_, fun _ _ => trivial, ?_, (fun h => by cases h), ?_⟩
  · rw [hV]; exact run_enterLoop_outer _ _ _ _ _
  · simp only [resolve, hg]
    simp [go_sem]
  · simp only [invoke]
    exact hgf _ _
  have hcall := hseq (w.heap.size + 1) n
    (fun k W => I k W ∧ W.heap[w.heap.size + 1]? = some (mk .ready none) ∧ W.heap[w.heap.size]? = some (.deferred (some [])) ∧ w.heap.size + 2 ≤ W.heap.size)
    (fun W => ∃ c, Ix c W ∧ W.heap[w.heap.size + 1]? = some (mk .done (some c)) ∧ W.heap[w.heap.size]? = some (.deferred (some []))) V hVb
    (fun k A B h hs => ⟨hIs k A B h.1 hs, hKs A B hs _ _ (by omega) h.2.1 rfl, hKs A B hs _ _ (Nat.le_refl _) h.2.2.1 rfl, by
      have := (Array.getElem?_eq_some_iff.1 (hKs A B hs _ _ (by omega) h.2.1 rfl)).1; omega⟩)
    (fun k A hk h => ?_) ⟨hV ▸ h0 _ _, hVl, hVd, by rw [hV]; simp⟩
  · refine CallsIn.mono hcall ?_
    rintro e B ⟨⟨v, rfl⟩, ⟨hi, hl, hd, hz⟩ | ⟨c, hi, hl, hd⟩⟩
    · obtain ⟨k1, k2⟩ := keep (.loop { state := .exhausted, pending := none, fn, tmps := a.tmps, params := ps, assign, body, defers := w.heap.size }) hl hd
      exact ⟨none, _, run_endLoop (P := P) hl (by simp), hdone _ _ (Nat.le_refl _) (hI _ _ _ hi (turn _ hl)) k2⟩
    · obtain ⟨k1, k2⟩ := keep (.loop { state := .exhausted, pending := some c, fn, tmps := a.tmps, params := ps, assign, body, defers := w.heap.size }) hl hd
      exact ⟨some c, _, run_endLoop (P := P) hl (by simp), hstop _ c _ (Nat.le_refl _) (hIx _ _ _ hi (turn _ hl)) k2⟩
  · obtain ⟨hi, hl, hd, hz⟩ := h
    obtain ⟨k1, k2⟩ := keep (mk .busy none) hl hd
    refine ⟨fn, _, assign, body, run_yield (P := P) hl (hps k), roundIn_of_wpIn trivial (hassign _ k A _ ⟨_, run_beginRound hl rfl, ?_⟩)⟩
    refine wpIn_mono (hbody _ k _ hk (hI _ _ _ hi (turn _ hl)) (by simpa using hz)) ?_
    have hsz : ∀ {C : World}, C.heap[w.heap.size + 1]? = some (mk .busy none) → w.heap.size + 2 ≤ C.heap.size := fun h => by
      have := (Array.getElem?_eq_some_iff.1 h).1; omega
    have leave : ∀ (c : Code) (C : World), KeepN w.heap.size (A.putObj (w.heap.size + 1) (mk .busy none)) C → Ix c C →
        ∃ v D, (Instr.endRound (w.heap.size + 1) (some c)).run P C = .ok v D ∧ ((Ending.returned v = .returned (.bool true) ∧ (I (k + 1) D ∧ D.heap[w.heap.size + 1]? = some (mk .ready none) ∧ D.heap[w.heap.size]? = some (.deferred (some [])) ∧ w.heap.size + 2 ≤ D.heap.size) ∧ Kp A D) ∨
          (Ending.returned v = .returned (.bool false) ∧ ∃ c, Ix c D ∧ D.heap[w.heap.size + 1]? = some (mk .done (some c)) ∧ D.heap[w.heap.size]? = some (.deferred (some [])))) := fun c C hk hx => by
      have hl2 := hk _ _ (by omega) k1 rfl
      have hd2 := hk _ _ (Nat.le_refl _) k2 rfl
      obtain ⟨m1, m2⟩ := keep (mk .done (some c)) hl2 hd2
      exact ⟨_, _, run_endRound (P := P) (some c) hl2, .inr ⟨rfl, c, hIx _ _ _ hx (turn _ hl2), m1, m2⟩⟩
    rintro e a' C hp
    cases e with
    | normal =>
      obtain ⟨hk, hkp, hi2⟩ := hp
      have hl2 := hk _ _ (by omega) k1 rfl
      have hd2 := hk _ _ (Nat.le_refl _) k2 rfl
      obtain ⟨m1, m2⟩ := keep (mk .ready none) hl2 hd2
      exact ⟨_, _, run_endRound (P := P) none hl2, .inl ⟨rfl, ⟨hI _ _ _ hi2 (turn _ hl2), m1, m2, by have := hsz hl2; simpa using this⟩, hKt _ _ _ (hKt _ _ _ (hKp _ _ (turn _ hl)) hkp) (hKp _ _ (turn _ hl2))⟩⟩
    | ret => exact leave _ C hp.1 hp.2
    | exit id => exact leave _ C hp.1 hp.2
    | goto t => exact leave _ C hp.1 hp.2
    | panic ch => exact hp.elim
    | outgrown => exact hp.elim
end
end Go.Proofs.YtomfpffooaejoaaDoor
