/-
  A slice of one digest, as what a drawn region's operation makes.
-/
import Derived.Test.YtlopiinkpdpakaaDoorBd
import Derived.Test.YtlopiinkpdpakaaDoorGA
import Derived.Test.YtlopiinkpdpakaaDoorId
namespace Go.Proofs.YtlopiinkpdpakaaDoor
open Go Go.RowKit
set_option linter.unusedSimpArgs false
set_option linter.unusedVariables false

/-- a slice of one digest, newly made -/
def As.idSl (t : TypeId) (d : Dig) : As := .st (fun v W => ∃ g, v = .slice (some ⟨g, 0, none⟩) 1 1 ∧ Blk W g t (bvs d)) (fun v W W' h hb => by
  obtain ⟨g, h1, h2⟩ := h
  exact ⟨g, h1, h2.below hb h2.lt⟩)
section
variable {P : Program} {Q : Exit → Act → World → Prop} {fr : (Nat → Value) → Act} {ys : List As} {w : World} {k : Nat} {o : Oper}
theorem oweAs_build_id (hg : guardB ys o = some true) (x : Operand) (t e : TypeId) (i : TypeInfo) (z : Value) (ho : o.op = .buildSlice t 1 #[(0, x)]) (ht : P.underlying t = some (.slice e)) (hi : P.info? e = some i) (hz : i.zero = some z) (hs : i.size = 32)
    (d : Dig) (hd : d.length = 32) (hv : asAt ys k = .idSl e d) (hx : ∀ (f : Nat → Value) (W : World), Below w.heap.size w W → DepAs ys f W o.after.toList → (fr f).eval x = .agg (bvs d)) : OweAs P Q fr ys w k o := by
  refine oweAs_made hg fun f W hE hD => ⟨_, _, ?_, by rw [hv]; exact ⟨_, rfl, Blk.new W e _⟩, (Below.refl W.heap.size W).alloc (Nat.le_refl _) _⟩
  have hr := run_build_id (P := P) ht hi hz hs d hd W
  unfold execOp
  simp only [ho, Sem.run_bind, List.map_toArray, List.map_cons, List.map_nil, hx f W hE hD, hr, Result.andThen_ok, Sem.run_pure]
end

end Go.Proofs.YtlopiinkpdpakaaDoor
