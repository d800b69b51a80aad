/-
  Two arrays of bytes are compared.
-/
import Derived.Test.YtlopiinkpdpakaaDoorGA
import Derived.DeepKeys
namespace Go.Proofs.YtlopiinkpdpakaaDoor
open Go Go.RowKit

theorem part_u8 (vs : Array Value) (k : Nat) (v : Value) (h : vs[k]? = some v) (w : World) : (part 5 vs k).run Tryd.prog w = .ok v w := by
  unfold part
  go_simp
theorem cellsOf_u8 : Tryd.prog.cellsOf 5 = 1 := by kernel_rfl
theorem eqItems_bytes (d : Nat) (w : World) (xs ys : List UInt8) : ∀ is : List Nat, (∀ i ∈ is, i < xs.length ∧ i < ys.length) →
    (Op.eqItems (d + 1) 5 (Tryd.prog.cellsOf 5) (bvs xs) (bvs ys) is).run Tryd.prog w = .ok (is.all fun i => at8 xs i == at8 ys i) w := by
  intro is
  induction is with
  | nil => intro _; simp [Op.eqItems]
  | cons i is ih =>
    intro h
    obtain ⟨h1, h2⟩ := h i (by simp)
    have e1 := part_u8 (bvs xs) (i * 1) _ (by rw [Nat.mul_one]; exact bvs_at xs h1) w
    have e2 := part_u8 (bvs ys) (i * 1) _ (by rw [Nat.mul_one]; exact bvs_at ys h2) w
    have e3 := run_equalIn_int (P := Tryd.prog) w d 5 .u8 .u8 ((at8 xs i).toNat : Int) ((at8 ys i).toNat : Int) Tryd.underlying5
    have ih2 := ih (fun j hj => h j (by simp [hj]))
    rw [cellsOf_u8] at ih2 ⊢
    simp only [Op.eqItems, Sem.run_bind, e1, e2, e3, Result.andThen_ok, List.all_cons]
    have e4 : (((at8 xs i).toNat : Int) == ((at8 ys i).toNat : Int)) = (at8 xs i == at8 ys i) := by
      rw [Bool.eq_iff_iff]
      simp only [beq_iff_eq]
      rw [Int.ofNat_inj, UInt8.toNat_inj]
    rw [e4]
    cases at8 xs i == at8 ys i with
    | true => simpa using ih2
    | false => simp
theorem all_at8 (xs ys : List UInt8) {n : Nat} (hx : xs.length = n) (hy : ys.length = n) : ((List.range n).all fun i => at8 xs i == at8 ys i) = (xs == ys) := by
  rw [Bool.eq_iff_iff, List.all_eq_true, beq_iff_eq]
  constructor
  · intro h
    apply List.ext_getElem (by omega)
    intro i h1 h2
    have := h i (by simp; omega)
    simpa [at8, List.getD, h1, h2] using this
  · intro h i _
    rw [h]; simp
end Go.Proofs.YtlopiinkpdpakaaDoor
