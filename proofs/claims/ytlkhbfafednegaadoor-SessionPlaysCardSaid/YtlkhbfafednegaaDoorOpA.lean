/-
  A script that came in, opened: acts, each of a number, a side, bytes and five numbers more.
-/
import Derived.Test.YtlkhbfafednegaaDoorGC
import Derived.Test.YtlkhbfafednegaaDoorGB
import Derived.Deep.SlicePairs
namespace Go.Proofs.YtlkhbfafednegaaDoor
open Go Go.RowKit Go.WideShapes Go.ChangeShapes
set_option linter.unusedSimpArgs false
set_option linter.unusedVariables false

structure ActR where
  kind : Int
  back : Bool
  bytes : List UInt8
  i : UInt8
  at_ : UInt8
  x : UInt8
  n : Nat
  from_ : Nat
instance : Inhabited ActR := ⟨⟨0, false, [], 0, 0, 0, 0, 0⟩⟩
/-- an act's cells; its bytes lie where v points -/
def actC (v : Value) (a : ActR) : List Value := [.int .i64 a.kind, .bool a.back, v, .int .u8 (a.i.toNat : Int), .int .u8 (a.at_.toNat : Int), .int .u8 (a.x.toNat : Int), .int .u64 (a.n : Int), .int .u64 (a.from_ : Int)]
/-- a script that came in -/
def ActS (W : World) (v : Value) (l : List ActR) : Prop := ∃ p c, v = .slice p l.length c ∧ l.length ≤ c ∧ c ≤ maxLen ∧
  ∀ (i : Nat) (a : ActR), l[i]? = some a → ∃ b o vb, p = some ⟨b, o, none⟩ ∧ HB W vb a.bytes ∧ W.rangeAt b (o + i * 8) (actC vb a) ∧ a.n < 18446744073709551616 ∧ a.from_ < 18446744073709551616

section
variable {H : Type} {enc : TypeId × Value → H} {W : World}
/-- bytes in a cell that came in -/
theorem trod_bytes {P : Program} {t e : TypeId} {fuel : Nat} {v : Value} {x : DataW H × List MemPlace} (ht : P.underlying t = some (.slice e)) (he : P.underlying e = some (.int .u8)) (hc : P.cellsOf e = 1)
    (h : DataW.trod enc P W 0 (fun _ => true) true fuel t [v] = some x) : ∃ l, HB W v l := by
  rcases open_ints ht he hc h with ⟨hcs, hx⟩ | ⟨a, len, cap, zs, hcs, _, hl, hm, hz, hx, hcell, hwz⟩
  · obtain rfl : v = .slice none 0 0 := by simpa using hcs
    exact ⟨[], HB.nil W⟩
  · obtain rfl : v = .slice (some a) len cap := by simpa using hcs
    have hz' : zs.length = cap := by simpa using hz
    exact ⟨_, hb_of_cells hl hm hz' hwz (fun h => by cases h) (fun a' ha c hc => by injection ha with ha; subst ha; exact hcell c (by omega))⟩
theorem u8_lit {z : Int} (h : (Lit.int .u8 z).wf = true) : ∃ x : UInt8, z = (x.toNat : Int) := ⟨u8of z, (u8of_eq h).symm⟩
set_option maxRecDepth 100000 in
theorem open_acts {t : TypeId} {v : Value} {d : DataW H} {p : List MemPlace} {base : Nat} (ht : Tryd.prog.underlying t = some (.slice 50)) (ce : Tryd.prog.cellsOf 50 = 8) (c3 : Tryd.prog.cellsOf 3 = 1) (c4 : Tryd.prog.cellsOf 4 = 1) (c24 : Tryd.prog.cellsOf 24 = 1) (c5 : Tryd.prog.cellsOf 5 = 1) (c34 : Tryd.prog.cellsOf 34 = 1)
    (hv : Value.okWide Tryd.prog W .any base t v) (h : DataW.Trod enc Tryd.prog W 0 (fun _ => true) true t v d p) : ∃ l, ActS W v l := by
  obtain ⟨A0, len0, cap0, rfl⟩ := okWide_slice ht hv
  obtain ⟨fuel, hfu⟩ := h
  rcases Go.Deep.open_slice ht hfu with ⟨hcs, hx⟩ | ⟨a, len, cap, m, n, D, Pl, hcs, _, hl, hm, hmm, hx, hel⟩
  · simp only [Value.cells] at hcs
    obtain ⟨h1, h2, h3⟩ : A0 = none ∧ len0 = 0 ∧ cap0 = 0 := by simpa using hcs
    subst h1; subst h2; subst h3
    exact ⟨[], none, 0, rfl, Nat.le_refl _, by simp [maxLen], fun i a h => by simp at h⟩
  · simp only [Value.cells] at hcs
    obtain ⟨h1, h2, h3⟩ : A0 = some a ∧ len0 = len ∧ cap0 = cap := by simpa using hcs
    subst h1; subst h2; subst h3
    simp only [if_true] at hmm
    subst hmm
    have key : ∀ i, i < len0 → ∃ r : ActR, ∃ vb, HB W vb r.bytes ∧ (∀ j u, (actC vb r)[j]? = some u → W.cell? (a.add (i * 8 + j)) = some u) ∧ r.n < 18446744073709551616 ∧ r.from_ < 18446744073709551616 := by
      intro i hi
      obtain ⟨cs', k1, k2⟩ := hel i (by omega)
      rw [ce] at k1
      obtain ⟨_, hlen, hcell⟩ := World.cells?_some k1
      obtain ⟨xs, m', _, _, _, hxl, hf⟩ := DataW.trod_struct Tryd.underlying50 k2
      match xs, hxl, cs', hlen with
      | [y0, y1, y2, y3, y4, y5, y6, y7], _, [v0, v1, v2, v3, v4, v5, v6, v7], _ =>
        have g0 : DataW.trod enc Tryd.prog W 0 (fun _ => true) true m' 3 (([v0, v1, v2, v3, v4, v5, v6, v7].drop 0).take (Tryd.prog.cellsOf 3)) = some y0 := hf 0 _ rfl
        rw [c3] at g0
        replace g0 : DataW.trod enc Tryd.prog W 0 (fun _ => true) true m' 3 [v0] = some y0 := g0
        have g1 : DataW.trod enc Tryd.prog W 0 (fun _ => true) true m' 4 (([v0, v1, v2, v3, v4, v5, v6, v7].drop 1).take (Tryd.prog.cellsOf 4)) = some y1 := hf 1 _ rfl
        rw [c4] at g1
        replace g1 : DataW.trod enc Tryd.prog W 0 (fun _ => true) true m' 4 [v1] = some y1 := g1
        have g2 : DataW.trod enc Tryd.prog W 0 (fun _ => true) true m' 24 (([v0, v1, v2, v3, v4, v5, v6, v7].drop 2).take (Tryd.prog.cellsOf 24)) = some y2 := hf 2 _ rfl
        rw [c24] at g2
        replace g2 : DataW.trod enc Tryd.prog W 0 (fun _ => true) true m' 24 [v2] = some y2 := g2
        have g3 : DataW.trod enc Tryd.prog W 0 (fun _ => true) true m' 5 (([v0, v1, v2, v3, v4, v5, v6, v7].drop 3).take (Tryd.prog.cellsOf 5)) = some y3 := hf 3 _ rfl
        rw [c5] at g3
        replace g3 : DataW.trod enc Tryd.prog W 0 (fun _ => true) true m' 5 [v3] = some y3 := g3
        have g4 : DataW.trod enc Tryd.prog W 0 (fun _ => true) true m' 5 (([v0, v1, v2, v3, v4, v5, v6, v7].drop 4).take (Tryd.prog.cellsOf 5)) = some y4 := hf 4 _ rfl
        rw [c5] at g4
        replace g4 : DataW.trod enc Tryd.prog W 0 (fun _ => true) true m' 5 [v4] = some y4 := g4
        have g5 : DataW.trod enc Tryd.prog W 0 (fun _ => true) true m' 5 (([v0, v1, v2, v3, v4, v5, v6, v7].drop 5).take (Tryd.prog.cellsOf 5)) = some y5 := hf 5 _ rfl
        rw [c5] at g5
        replace g5 : DataW.trod enc Tryd.prog W 0 (fun _ => true) true m' 5 [v5] = some y5 := g5
        have g6 : DataW.trod enc Tryd.prog W 0 (fun _ => true) true m' 34 (([v0, v1, v2, v3, v4, v5, v6, v7].drop 6).take (Tryd.prog.cellsOf 34)) = some y6 := hf 6 _ rfl
        rw [c34] at g6
        replace g6 : DataW.trod enc Tryd.prog W 0 (fun _ => true) true m' 34 [v6] = some y6 := g6
        have g7 : DataW.trod enc Tryd.prog W 0 (fun _ => true) true m' 34 (([v0, v1, v2, v3, v4, v5, v6, v7].drop 7).take (Tryd.prog.cellsOf 34)) = some y7 := hf 7 _ rfl
        rw [c34] at g7
        replace g7 : DataW.trod enc Tryd.prog W 0 (fun _ => true) true m' 34 [v7] = some y7 := g7
        obtain ⟨z0, e0, _, _⟩ := DataW.trod_int Tryd.underlying3 g0
        obtain ⟨z1, e1, _⟩ := DataW.trod_bool Tryd.underlying4 g1
        obtain ⟨l2, h2⟩ := trod_bytes Tryd.underlying24 Tryd.underlying5 c5 g2
        obtain ⟨z3, e3, _, w3⟩ := DataW.trod_int Tryd.underlying5 g3
        obtain ⟨z4, e4, _, w4⟩ := DataW.trod_int Tryd.underlying5 g4
        obtain ⟨z5, e5, _, w5⟩ := DataW.trod_int Tryd.underlying5 g5
        obtain ⟨z6, e6, _, w6⟩ := DataW.trod_int Tryd.underlying34 g6
        obtain ⟨z7, e7, _, w7⟩ := DataW.trod_int Tryd.underlying34 g7
        obtain ⟨x3, rfl⟩ := u8_lit w3
        obtain ⟨x4, rfl⟩ := u8_lit w4
        obtain ⟨x5, rfl⟩ := u8_lit w5
        obtain ⟨x6, rfl, y6⟩ := u64n_of w6
        obtain ⟨x7, rfl, y7⟩ := u64n_of w7
        simp only [List.cons.injEq, and_true] at e0 e1 e3 e4 e5 e6 e7
        subst e0; subst e1; subst e3; subst e4; subst e5; subst e6; subst e7
        refine ⟨⟨z0, z1, l2, x3, x4, x5, x6, x7⟩, v2, h2, ?_, y6, y7⟩
        intro j u hj
        have hj8 : j < 8 := by have := (List.getElem?_eq_some_iff.1 hj).1; simpa [actC] using this
        have k7 := hcell j (by omega)
        rw [Go.Deep.add_add] at k7
        rw [k7]
        have hj2 : [Value.int .i64 z0, .bool z1, v2, .int .u8 (x3.toNat : Int), .int .u8 (x4.toNat : Int), .int .u8 (x5.toNat : Int), .int .u64 (x6 : Int), .int .u64 (x7 : Int)][j]? = some u := hj
        first
          | exact hj2
          | (rw [← hj2]; simp [List.getD, List.getElem?_eq_getElem (show j < [Value.int .i64 z0, .bool z1, v2, .int .u8 (x3.toNat : Int), .int .u8 (x4.toNat : Int), .int .u8 (x5.toNat : Int), .int .u64 (x6 : Int), .int .u64 (x7 : Int)].length by simpa using hj8)])
    obtain ⟨g, hg⟩ := Go.Deep.choose_lt key
    refine ⟨(List.range len0).map g, some a, m, by simp, by simpa using hl, hm, fun i r hr => ?_⟩
    rw [List.getElem?_map] at hr
    by_cases hi : i < len0
    · rw [List.getElem?_range hi] at hr
      simp only [Option.map_some, Option.some.injEq] at hr
      subst hr
      obtain ⟨vb, hb, hc, hn, hf⟩ := hg i hi
      obtain ⟨vb0, hb0, hc0, _, _⟩ := hg 0 (by omega)
      have hs := spot_none (hc0 0 _ rfl)
      obtain ⟨b, o, sp⟩ := a
      simp only at hs; subst hs
      refine ⟨b, o, vb, rfl, hb, fun j u hj => ?_, hn, hf⟩
      have := hc j u hj
      rw [addi] at this
      rw [Nat.add_assoc]
      exact this
    · rw [List.getElem?_eq_none (by simp; omega)] at hr
      cases hr
end
end Go.Proofs.YtlkhbfafednegaaDoor
