/-
  SessionSpoiled returns true at every input: a frame that was spoiled, or cut, or that another key made, is taken as the document says.
  Condition: the package-level variables that the row lists start as the program's text lays them (the card ties them to it).
-/
import Derived.Test.YtlkhbfafednegaaDoorSo3
import Derived.Test.YtlkhbfafednegaaDoorGC
import Derived.Test.YtlkhbfafednegaaDoorLaid
import Derived.Test.YtlkhbfafednegaaDoorCards
import Derived.Test.YtlkhbfafednegaaDoorTie
import Derived.SevenTiedAt
namespace Go.Proofs.YtlkhbfafednegaaDoor.sessionSpoiled
open Go Go.ChangeShapes Go.WideShapes Go.ChangeAt Go.RowKit

theorem readable : ∀ t ∈ Tryd.f3.params.toList, Tryd.prog.readableRec t = true ∧ t < Tryd.prog.types.size := by
  rw [Tryd.params3]
  intro t ht
  simp only [List.mem_cons, List.not_mem_nil, or_false] at ht
  rcases ht with rfl | rfl | rfl | rfl | rfl | rfl | rfl
  all_goals exact ⟨by kernel_rfl, of_decide_eq_true (by kernel_rfl)⟩

set_option maxRecDepth 100000 in
theorem lifted (os : Os) (started : os.Started) (H : Type) (enc : TypeId × Value → H) :
    ReturnsInHanded {} Tryd.checked os 3 .any (fun w args => (Rows.sessionSpoiledSpec.pre enc Tryd.prog Tryd.f3 [] false w args ∧ laidMetH Tryd.prog laidL w) ∧ sizedMet enc Tryd.prog Tryd.f3 (OpenSpec.ofChange Rows.sessionSpoiledSpec) false w args)
      (Rows.sessionSpoiledSpec.post enc Tryd.prog Tryd.f3 false true false false) := by
  refine returnsInHanded_of_change_and (C := Tryd.checked) (X := fun w _ => laidMetH Tryd.prog laidL w) (fun _ _ _ hh h => h.of_heap hh) own started (by kernel_rfl) Tryd.func3
    (ChangeSpec.witness_shaped (enc := enc) (C := Tryd.checked) (os := os) (X := fun w _ => laidMetH Tryd.prog laidL w) false (World.doorLaid Tryd.prog doorSteps os) #[.agg #[.int .u8 0, .int .u8 0, .int .u8 0, .int .u8 0, .int .u8 0, .int .u8 0, .int .u8 0, .int .u8 0, .int .u8 0, .int .u8 0, .int .u8 0, .int .u8 0, .int .u8 0, .int .u8 0, .int .u8 0, .int .u8 0, .int .u8 0, .int .u8 0, .int .u8 0, .int .u8 0, .int .u8 0, .int .u8 0, .int .u8 0, .int .u8 0, .int .u8 0, .int .u8 0, .int .u8 0, .int .u8 0, .int .u8 0, .int .u8 0, .int .u8 0, .int .u8 0], .agg #[.int .u8 0, .int .u8 0, .int .u8 0, .int .u8 0, .int .u8 0, .int .u8 0, .int .u8 0, .int .u8 0, .int .u8 0, .int .u8 0, .int .u8 0, .int .u8 0, .int .u8 0, .int .u8 0, .int .u8 0, .int .u8 0, .int .u8 0, .int .u8 0, .int .u8 0, .int .u8 0, .int .u8 0, .int .u8 0, .int .u8 0, .int .u8 0, .int .u8 0, .int .u8 0, .int .u8 0, .int .u8 0, .int .u8 0, .int .u8 0, .int .u8 0, .int .u8 0], .slice none 0 0, .int .u16 0, .int .u8 0, .int .u16 0, .bool false] 8 rfl (World.shaped_of_RefB (by kernel_rfl) (by kernel_rfl)) (by kernel_rfl) (by kernel_rfl) (by kernel_rfl) (door_met os _)) ?_
  intro W base args ds gs before hval0 hW _ _ hL _
  have hval : ∀ (j : Nat) t v, Tryd.f3.params[j]? = some t → args[j]? = some v → Value.okWide Tryd.prog W .any base t v := hval0
  have hW' := hW
  obtain ⟨p, q, hA0, hV, rfl, hfz, hnd⟩ := hW
  have hA : DataW.TrodAll enc Tryd.prog W 0 (fun _ => true) true Tryd.f3.params.toList args.toList ds p := hA0
  rw [Tryd.params3] at hA hval
  obtain ⟨v0, vs0, d0, ds0, p0, q0, hargs, rfl, rfl, h0, r0⟩ := trodAll_cons hA
  obtain ⟨v1, vs1, d1, ds1, p1, q1, rfl, rfl, rfl, h1, r1⟩ := trodAll_cons r0
  obtain ⟨v2, vs2, d2, ds2, p2, q2, rfl, rfl, rfl, h2, r2⟩ := trodAll_cons r1
  obtain ⟨v3, vs3, d3, ds3, p3, q3, rfl, rfl, rfl, h3, r3⟩ := trodAll_cons r2
  obtain ⟨v4, vs4, d4, ds4, p4, q4, rfl, rfl, rfl, h4, r4⟩ := trodAll_cons r3
  obtain ⟨v5, vs5, d5, ds5, p5, q5, rfl, rfl, rfl, h5, r5⟩ := trodAll_cons r4
  obtain ⟨v6, vs6, d6, ds6, p6, q6, rfl, rfl, rfl, h6, r6⟩ := trodAll_cons r5
  obtain ⟨rfl, rfl, rfl⟩ := trodAll_nil r6
  obtain rfl : args = #[v0, v1, v2, v3, v4, v5, v6] := by cases args; simp_all
  obtain ⟨rfl, rfl⟩ := trodVars_none hV
  obtain ⟨x0, rfl, y0⟩ := open_barr Tryd.underlying23 Tryd.underlying5 cellsB (by kernel_rfl) (hval 0 23 v0 rfl rfl) h0
  obtain ⟨x1, rfl, y1⟩ := open_barr Tryd.underlying23 Tryd.underlying5 cellsB (by kernel_rfl) (hval 1 23 v1 rfl rfl) h1
  obtain ⟨x2, y2⟩ := open_bytes Tryd.underlying24 Tryd.underlying5 cellsB (hval 2 24 v2 rfl rfl) h2
  obtain ⟨z3, rfl, rfl, rfl, wz3⟩ := open_int Tryd.underlying25 (hval 3 25 v3 rfl rfl) h3
  obtain ⟨x3, rfl, y3⟩ := u16_of wz3
  obtain ⟨z4, rfl, rfl, rfl, wz4⟩ := open_int Tryd.underlying5 (hval 4 5 v4 rfl rfl) h4
  obtain ⟨x4, rfl⟩ := u8_of wz4
  obtain ⟨z5, rfl, rfl, rfl, wz5⟩ := open_int Tryd.underlying25 (hval 5 25 v5 rfl rfl) h5
  obtain ⟨x5, rfl, y5⟩ := u16_of wz5
  obtain ⟨x6, rfl, rfl, rfl⟩ := open_bool Tryd.underlying4 (hval 6 4 v6 rfl rfl) h6
  have hT := of_laid hL
  refine (sessionSpoiled_any x6 x0 x1 x2 v2 x3 x5 x4 _ hT.1 hT.2 y0 y1 y2 y3 y5).mono fun e W' ⟨he, hb⟩ => ?_
  subst he
  exact ⟨_, rfl, post_law (tb := 4) laidOut readable rfl Tryd.underlying4 rfl ⟨rfl, rfl, rfl⟩ hW' hb⟩

theorem row : Rows.SessionSpoiledSaid :=
  OpenClaim.holds_of_wide 3 Tryd.f3 rfl rfl rfl rfl rfl rfl rfl ⟨rfl, rfl, rfl, rfl, rfl⟩ rfl rfl rfl rfl rfl (by kernel_rfl) Tryd.func3 (by kernel_rfl)
    (of_decide_eq_true (by kernel_rfl)) (by unfold Func.isWrapper; first | (rw [if_pos (by decide +kernel)]; kernel_rfl) | (rw [if_neg (by decide +kernel)]; exact ⟨rfl, rfl⟩))
    (fun os started H enc _ => lifted os started H enc)

theorem proved : Rows.SessionSpoiledCardSaid :=
  Claim7.holds_tied_plain_at .later [] _ true _ false
    row (fun _ h => by cases h) (by kernel_rfl) (fun _ h => by cases h) sessionSpoiled_row_tie rfl ⟨rfl, rfl⟩ (by kernel_rfl) rfl
    (fun f fn hf hfn => by
      obtain rfl : f = 3 := Option.some.inj ((show Tryd.prog.funcNamed "bailee/baileelaw19.SessionSpoiled" = some 3 by kernel_rfl).symm.trans hf) |>.symm
      obtain rfl : fn = Tryd.f3 := (Option.some.inj (Tryd.func3.symm.trans hfn)).symm
      exact ⟨by kernel_rfl, fun j t ht => by
        rw [Tryd.params3] at ht
        match j, ht with
        | 0, ht =>
          obtain rfl := Option.some.inj (show some 23 = some t from ht)
          exact (show Tryd.prog.wantsStandIn 23 = false by kernel_rfl)
        | 1, ht =>
          obtain rfl := Option.some.inj (show some 23 = some t from ht)
          exact (show Tryd.prog.wantsStandIn 23 = false by kernel_rfl)
        | 2, ht =>
          obtain rfl := Option.some.inj (show some 24 = some t from ht)
          exact (show Tryd.prog.wantsStandIn 24 = false by kernel_rfl)
        | 3, ht =>
          obtain rfl := Option.some.inj (show some 25 = some t from ht)
          exact (show Tryd.prog.wantsStandIn 25 = false by kernel_rfl)
        | 4, ht =>
          obtain rfl := Option.some.inj (show some 5 = some t from ht)
          exact (show Tryd.prog.wantsStandIn 5 = false by kernel_rfl)
        | 5, ht =>
          obtain rfl := Option.some.inj (show some 25 = some t from ht)
          exact (show Tryd.prog.wantsStandIn 25 = false by kernel_rfl)
        | 6, ht =>
          obtain rfl := Option.some.inj (show some 4 = some t from ht)
          exact (show Tryd.prog.wantsStandIn 4 = false by kernel_rfl)
        | j + 7, ht => simp at ht⟩)
    (by kernel_rfl)
#print axioms proved
end Go.Proofs.YtlkhbfafednegaaDoor.sessionSpoiled
