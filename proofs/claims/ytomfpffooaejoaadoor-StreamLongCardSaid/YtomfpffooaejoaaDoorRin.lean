/-
  Rounds of a range over a function, at the fence that asks nothing: what is shown of a region outside a round holds inside one. No program is named here.
-/
import Derived.Test.YtomfpffooaejoaaDoorReg7
import Derived.RangeFuncNested
import Derived.RangeFuncBound
import Derived.RangeFuncCalls
import Derived.RangeFuncLeaves
import Derived.RangeFuncBox
import Derived.OwnWalkIn
import Derived.TacticsInMore
import Derived.LoopNIn
import Derived.LoopIn
namespace Go.Proofs.YtomfpffooaejoaaDoor
open Go Go.RowKit

/-- no operation defers -/
def noDefer (l : List Oper) : Bool := l.all fun o => match o.op with | .defer _ => false | _ => true
section
variable {P : Program} {ops : Array Oper} {Q : Exit → Act → World → Prop} {a : Act} {w : World} {r n : Nat}
theorem oper_round {o : Oper} {K : Act → World → Prop} (hd : (match o.op with | .defer _ => false | _ => true) = true) (h : o.wp P a w K Q) : o.wpIn (Fence.wide.inRound r) n P a w K Q := by
  refine ⟨fun _ _ => trivial, ?_⟩
  rw [show (Fence.wide.inRound r).round = some r from rfl, Oper.semAt_some r a.eval o (fun c hc => by rw [hc] at hd; cases hd)]
  unfold Oper.wp at h
  generalize (execOp a.eval o).run P w = x at *
  have hdep : (Fence.wide.inRound r).depth.isSome = true → 1 ≤ n := fun h => by cases h
  cases x with
  | ok nx w' =>
    cases nx <;> simp only [Oper.upon, Oper.uponIn] at h ⊢ <;>
      first
        | exact h
        | exact ⟨hdep, CallsIn.inRound r (callsIn_wide.2 h)⟩
        | exact ⟨hdep, fun c cs _ => let ⟨v, w', r, s⟩ := h c cs; ⟨v, w', r, stepsIn_wide.2 s⟩⟩
        | exact h.elim
  | halt x w' => cases x <;> simp only [Oper.upon, Oper.uponIn] at h ⊢ <;> first | exact h | exact h.elim
theorem wpListIn_round (hlo : ¬ LetsOut Q) : ∀ (l : List Oper) (a : Act) (w : World), noDefer l = true → wpList P ops Q l a w → wpListIn (Fence.wide.inRound r) n P ops Q l a w := by
  intro l
  induction l with
  | nil => intro a w _ h; exact h
  | cons o l ih =>
    intro a w hn h
    simp only [noDefer, List.all_cons, Bool.and_eq_true] at hn
    unfold wpList at h
    unfold wpListIn
    split
    · rename_i hw
      rw [if_pos hw] at h
      rcases h with h | h
      · exact Oper.wpIn_mono (fun a w h => ih a w hn.2 h) (oper_round hn.1 h)
      · exact absurd h.2 hlo
    · rename_i hw
      rw [if_neg hw] at h
      exact ⟨fun _ _ => trivial, ih _ _ hn.2 h⟩
/-- a plain region in a round -/
theorem wpIn_round {id : Nat} {l : List Oper} (hlo : ¬ LetsOut Q) (hn : noDefer l = true) (h : wpList P l.toArray Q l a w) : (Code.region id l.toArray false).wpIn (Fence.wide.inRound r) n P Q a w :=
  wpIn_region_lit (wpListIn_round hlo l a w hn h)
theorem wpAnyIn_round (hlo : ¬ LetsOut Q) (hn : noDefer ops.toList = true) : ∀ (fuel : Nat) (listed : Array Bool) (a : Act) (w : World), wpAny P .any ops Q fuel listed a w → wpAnyIn (Fence.wide.inRound r) n P .any ops Q fuel listed a w := by
  intro fuel
  induction fuel with
  | zero => intro listed a w h; exact h
  | succ fuel ih =>
    intro listed a w h
    refine ⟨h.1, fun i hi => ?_⟩
    have h2 := h.2 i hi
    unfold wpOp at h2
    unfold wpOpIn
    cases ho : ops[i]? with
    | none => rw [ho] at h2; exact ih _ _ _ h2
    | some o =>
      rw [ho] at h2
      simp only at h2 ⊢
      split
      · rename_i hw
        rw [if_pos hw] at h2
        rcases h2 with h2 | h2
        · refine Oper.wpIn_mono (fun a w h => ih _ a w h) (oper_round ?_ h2)
          exact (List.all_eq_true.1 hn) o (List.mem_of_getElem? (i := i) (by simpa using ho))
        · exact absurd h2.2 hlo
      · rename_i hw
        rw [if_neg hw] at h2
        exact ⟨fun _ _ => trivial, ih _ _ _ h2⟩
/-- a region in a round that draws its order -/
theorem wpIn_round_any {id : Nat} (hm : P.follows .mixedOrders = true) (hlo : ¬ LetsOut Q) (hn : noDefer ops.toList = true) (h : wpAny P .any ops Q ops.size (Array.replicate ops.size false) a w.drew) : (Code.region id ops true).wpIn (Fence.wide.inRound r) n P Q a w :=
  wpIn_region_any hm (wpAnyIn_round hlo hn _ _ _ _ h)
end

/-- the cells of two blocks stay -/
def KeepC (B n : Nat) (w w' : World) : Prop := ∀ b o u, B ≤ b → b < B + n → w.cell? ⟨b, o, none⟩ = some u → w'.cell? ⟨b, o, none⟩ = some u
theorem KeepC.trans {B n : Nat} {x y z : World} (h : KeepC B n x y) (k : KeepC B n y z) : KeepC B n x z := fun b o u h1 h2 h3 => k b o u h1 h2 (h b o u h1 h2 h3)
theorem KeepC.refl (B n : Nat) (w : World) : KeepC B n w w := fun _ _ _ _ _ h => h
theorem KeepC.put {B n : Nat} {W : World} {l : Nat} (o' : Obj) (h : B + n ≤ l) : KeepC B n W (W.putObj l o') := fun b o u _ h2 h3 => by
  rw [World.cell?_of_block (a := ⟨b, o, none⟩) (World.putObj_heap_other (show b ≠ l by omega))]; exact h3
theorem KeepC.below {B n m : Nat} {w w' : World} (h : Below m w w') (hm : B + n ≤ m) : KeepC B n w w' := fun b o u _ h2 h3 => (h.cell (p := ⟨b, o, none⟩) (by show b < m; omega)).trans h3
end Go.Proofs.YtomfpffooaejoaaDoor
