/-
  The walk of awake (13).
-/
import Derived.Test.YtlopiinkpdpakaaDoorFl2
import Derived.Test.YtlopiinkpdpakaaDoorPk2
import Derived.Test.YtlopiinkpdpakaaDoorPk3
namespace Go.Proofs.YtlopiinkpdpakaaDoor
open Go Go.RowKit
set_option linter.unusedSimpArgs false
set_option linter.unusedVariables false

theorem fill_wake : fillF [41, 41, 41] 90 = ([[0, 1], [2]], 0) := by
  have hs : szF 41 = 42 := by rw [szF, digF_lt (by omega)]
  have hf : ∀ a b : Nat, fitF [41, 41, 41] 90 a b = (decide (b - a ≤ 1024) && decide (digF (b - a) + sumF [41, 41, 41] a b ≤ 90)) := fun _ _ => rfl
  have f02 : fitF [41, 41, 41] 90 0 2 = true := by rw [hf, digF_lt (by omega)]; simp [sumF, hs]
  have f03 : fitF [41, 41, 41] 90 0 3 = false := by rw [hf, digF_lt (by omega)]; simp [sumF, hs]
  have c3 : cutsF [41, 41, 41] 90 3 = [] := cutsF_end (by simp)
  have c2 : cutsF [41, 41, 41] 90 2 = [(2, 3)] := by
    rw [cutsF_step (by simp), show reachF [41, 41, 41] 90 2 (2 + 1) = 3 from reachF_end (l := [41, 41, 41]), c3]
  have c0 : cutsF [41, 41, 41] 90 0 = [(0, 2), (2, 3)] := by
    rw [cutsF_step (by simp), reachF_more (by simp) f02, reachF_stop f03, c2]
  have hm : mayAll [41, 41, 41] = true := by decide
  have hb : bigF [41, 41, 41] 90 = false := by simp [bigF, hs]
  unfold fillF
  rw [if_neg (by decide), if_pos hm]
  show (if bigF [41, 41, 41] 90 = true then _ else ((cutsF [41, 41, 41] 90 0).map rangeF, 0)) = _
  rw [hb, c0]
  rfl
theorem put_wake : (putP [List.replicate 41 0]).2 = 0 ∧ (putP [List.replicate 41 0]).1.length = 43 := by
  have h1 : (packB [List.replicate 41 0]).length = 43 := by
    simp only [packB, putW, List.map_cons, List.map_nil, List.flatten_cons, List.flatten_nil, List.length_append, List.length_cons, List.length_nil, List.length_replicate]
    rw [putF_lt (by omega), putF_lt (by omega)]
    rfl
  have h2 : allB [List.replicate 41 0] = true := by decide
  have e : putP [List.replicate 41 0] = (packB [List.replicate 41 0], 0) := by
    unfold putP
    rw [if_neg (by simp), if_pos h2, if_neg (by omega)]
  rw [e]
  exact ⟨rfl, h1⟩
theorem hbs_new1 {w : World} {u : Value} {l : List UInt8} (h : HB w u l) (t : TypeId) : HBs (w.alloc (.cells #[u] t)) (.slice (some ⟨w.heap.size, 0, none⟩) 1 1) [l] := by
  refine ⟨_, 1, rfl, Nat.le_refl _, by simp [maxLen], (fun h => by cases h), fun _ => ⟨w.heap.size, 0, rfl, fun i x hx => ?_⟩⟩
  match i with
  | 0 => simp at hx; subst hx; exact ⟨u, (Blk.new w t #[u]).cell 0, h.alloc _⟩
  | i + 1 => simp at hx
theorem ints_new3 (w : World) (a b c : Int) (t : TypeId) : IntS (w.alloc (.cells #[.int .i64 a, .int .i64 b, .int .i64 c] t)) (.slice (some ⟨w.heap.size, 0, none⟩) 3 3) [a, b, c] := by
  refine ⟨_, 3, rfl, Nat.le_refl _, by simp [maxLen], (fun h => by cases h), fun _ => ⟨w.heap.size, 0, rfl, fun i x hx => ?_⟩⟩
  rw [Nat.zero_add, (Blk.new w t _).cell i]
  match i with
  | 0 => simp at hx; subst hx; rfl
  | 1 => simp at hx; subst hx; rfl
  | 2 => simp at hx; subst hx; rfl
  | i + 3 => simp at hx
theorem hbs_nil (w : World) : HBs w (.slice none 0 0) [] := ⟨none, 0, rfl, Nat.le_refl _, by simp [maxLen], fun _ => rfl, fun h => absurd rfl h⟩

set_option maxRecDepth 100000 in
set_option maxHeartbeats 2000000 in
theorem awake13_any (w : World) :
    Calls Tryd.prog 5 #[] w fun e w' => e = .returned (.bool true) ∧ Below w.heap.size w w' := by
  obtain ⟨i8, hi8, hz8, hsz8, hby8⟩ := info8
  have hmk := fun W => run_make_bytes Tryd.underlying24 hi8 hz8 hsz8 hby8 41 (by decide) W
  obtain ⟨Z, hZ⟩ : ∃ Z : List UInt8, Z = List.replicate 41 0 := ⟨_, rfl⟩
  rw [← hZ] at hmk
  have hzl : Z.length = 41 := by rw [hZ]; rfl
  have HZL := Lib.hid hzl
  obtain ⟨b, hb⟩ : ∃ b, b = (putP [Z]).1 := ⟨_, rfl⟩
  have hpw : putP [Z] = (b, 0) := by rw [hb, hZ]; exact Prod.ext rfl put_wake.1
  have hbl : b.length = 43 := by rw [hb, hZ]; exact put_wake.2
  have HPW := Lib.hid hpw
  have HGW := Lib.hid (get_put hpw)
  have HBL := Lib.hid hbl
  have HP0 : Hid (putP [] = ([], 1)) := Lib.hid rfl
  have HFW := Lib.hid fill_wake
  clear hi8 hZ hb hpw hbl hzl
  have h41 : ((41 : Nat) : Int) = 41 := rfl
  rw [h41] at hmk
  go_enter Tryd.func5, Tryd.ntmps5
  go_wp2_with fail
  refine (fill_any _ [41, 41, 41] 90 _ (ints_new3 w 41 41 41 _) (by simp)).mono ?_
  rintro e w1 ⟨v1, rfl, hr1, hb1⟩
  rw [HFW.out] at hr1 ⊢
  obtain ⟨A1, c1, rfl⟩ := hr1.form
  have HI1 : Hid (RowsI w1 (w.heap.size + 1) (.slice A1 2 c1) 2 [[0, 1], [2]] ∧ Below w.heap.size w w1) := Lib.hid ⟨by simpa using hr1, ((Below.refl w.heap.size w).alloc (Nat.le_refl _) _).trans (hb1.mono (by simp))⟩
  have hz1 : w.heap.size ≤ w1.heap.size := HI1.out.2.size
  clear hr1 hb1
  go_wp2_with fail
  have hN : HBs ((w1.alloc (.cells (bvs Z) 5)).alloc (.cells #[.slice (some ⟨w1.heap.size, 0, none⟩) 41 41] 24)) (.slice (some ⟨w1.heap.size + 1, 0, none⟩) 1 1) [Z] := by
    have h := hbs_new1 (w := w1.alloc (.cells (bvs Z) 5)) (HB.blk (Blk.new w1 5 (bvs Z)) HZL.out (by decide)) 24
    rw [World.size_alloc] at h
    exact h
  refine (put_any _ [Z] _ hN).mono ?_
  rintro e w2 ⟨v2, rfl, ho2, hb2⟩
  rw [HPW.out] at ho2 ⊢
  have ho2' := ho2
  rw [HBL.out] at ho2'
  obtain ⟨A2, c2, rfl⟩ := own_form ho2'
  have hBW : Below w1.heap.size w1 w2 := (((Below.refl w1.heap.size w1).alloc (Nat.le_refl _) _).alloc (by simp) _).trans (hb2.mono (by simp; omega))
  have HI2 : Hid (RowsI w2 (w.heap.size + 1) (.slice A1 2 c1) 2 [[0, 1], [2]] ∧ Below w.heap.size w w2 ∧ HB w2 (.slice A2 43 c2) b) := Lib.hid ⟨HI1.out.1.keep hBW, HI1.out.2.trans (hBW.mono hz1), own_hb ho2' HBL.out.symm⟩
  clear hN ho2 ho2' hb2 hBW HI1 hmk
  go_wp2_with fail
  refine (get_any _ b w2 HI2.out.2.2 (by rw [HBL.out]; omega)).mono ?_
  rintro e w3 ⟨v3, rfl, hr3, hb3⟩
  rw [HGW.out] at hr3 ⊢
  obtain ⟨A3, c3, rfl⟩ := hr3.form
  have HI3 : Hid (RowsI w3 (w.heap.size + 1) (.slice A1 2 c1) 2 [[0, 1], [2]] ∧ Below w.heap.size w w3) := Lib.hid ⟨HI2.out.1.keep hb3, HI2.out.2.1.trans (hb3.mono HI2.out.2.1.size)⟩
  clear hr3 hb3 HI2
  go_wp2_with fail
  refine (put_any _ [] w3 (hbs_nil _)).mono ?_
  rintro e w4 ⟨v4, rfl, ho4, hb4⟩
  rw [HP0.out]
  have HI4 : Hid (RowsI w4 (w.heap.size + 1) (.slice A1 2 c1) 2 [[0, 1], [2]] ∧ Below w.heap.size w w4) := Lib.hid ⟨HI3.out.1.keep hb4, HI3.out.2.trans (hb4.mono HI3.out.2.size)⟩
  clear ho4 hb4 HI3
  obtain ⟨g, u0, hA, d0, hu0⟩ := HI4.out.1.at_ (i := 0) (l := [0, 1]) rfl
  obtain rfl := hA
  obtain ⟨g', u1, hA, d1, hu1⟩ := HI4.out.1.at_ (i := 1) (l := [2]) rfl
  injection hA with hA
  injection hA with hA
  subst hA
  obtain ⟨B0, e0, rfl⟩ := own_form hu0
  obtain ⟨B1, e1, rfl⟩ := own_form hu1
  obtain ⟨g1, hB, d2⟩ := ints_at hu1 (i := 0) (x := 2) rfl
  obtain rfl := hB
  simp only [List.length_cons, List.length_nil] at d0 d1
  clear hu0 hu1
  go_wp2_with fail
  go_ret
  exact ⟨rfl, HI4.out.2⟩
end Go.Proofs.YtlopiinkpdpakaaDoor
