/-
  A side sends.
-/
import Derived.Test.YtlkhbfafednegaaDoorSn2
namespace Go.Proofs.YtlkhbfafednegaaDoor
open Go Go.RowKit
set_option linter.unusedSimpArgs false
set_option linter.unusedVariables false

theorem cell_grown {w w' : World} {g : Nat} (h : w.grownBy w' (some g)) {p : Addr} (hp : p.block < w.heap.size) (hne : p.block ≠ g) : w'.cell? p = w.cell? p := by
  unfold World.cell?
  rw [h.block p.block hp (fun e => by injection e with e; first | exact hne e | exact hne e.symm)]
/-- v lies in another block -/
def NotIn (v : Value) (g : Nat) : Prop := ∀ p m c, v = .slice p m c → 0 < m → ∃ b o, p = some ⟨b, o, none⟩ ∧ b ≠ g
theorem HB.apart {w w' : World} {v : Value} {l : List UInt8} {g : Nat} (h : HB w v l) (hG : w.grownBy w' (some g)) (hv : NotIn v g) : HB w' v l := by
  obtain ⟨p2, c2, e1, e2, e3, e4, e5⟩ := h
  refine ⟨p2, c2, e1, e2, e3, e4, fun h => ?_⟩
  obtain ⟨b2, o2, e6, e7⟩ := e5 h
  refine ⟨b2, o2, e6, fun i y hy => ?_⟩
  obtain ⟨b3, o3, e8, e9⟩ := hv p2 l.length c2 e1 (List.length_pos_iff.2 h)
  rw [e8] at e6
  injection e6 with e6
  injection e6 with e6 _
  have h7 := e7 i y hy
  rw [cell_grown (p := ⟨b2, o2 + i, none⟩) hG (lt_of_cell h7) (by show b2 ≠ g; rw [← e6]; exact e9)]
  exact h7
theorem Tab.grown {w w' : World} {g : Nat} (h : Tab w) (hG : w.grownBy w' (some g)) (h0 : 0 < w.heap.size) (hne : 0 ≠ g) : Tab w' := by
  obtain ⟨t, fr, h⟩ := h
  exact ⟨t, fr, (hG.block _ h0 (fun e => by injection e with e; first | exact hne e | exact hne e.symm)).trans h⟩

set_option maxRecDepth 100000 in
theorem send_nil (v : Value) (w : World) : Calls Tryd.prog 9 #[.pointer none, v] w fun e w' => e = .returned (.tuple #[.slice none 0 0, .int .i64 1]) ∧ w = w' := by
  go_enter Tryd.func9, Tryd.ntmps9
  go_wp2_with fail
  refine bodyPost_ret (results_tmp2 rfl _ _ _) rfl ?_
  exact ⟨rfl, rfl⟩
set_option maxRecDepth 100000 in
set_option maxHeartbeats 1000000 in
theorem send_worn (g : Nat) (k : List UInt8) (s o : Int) (n : Nat) (t b : UInt64) (v : Value) (l : List UInt8) (w : World) (hS : Ses w g k s o n t b) (hk : k.length = 32) (hv : HB w v l) (hl : l.length ≤ 900000) (hn : n = 18446744073709551615) :
    Calls Tryd.prog 9 #[.pointer (some ⟨g, 0, none⟩), v] w fun e w' => e = .returned (.tuple #[.slice none 0 0, .int .i64 38]) ∧ w = w' := by
  obtain ⟨-, -, h3, -, -⟩ := hS.cells hk
  obtain ⟨p, c, rfl, -, -⟩ := hv.form
  have hli : ¬ (1052672 : Int) < (l.length : Int) := by omega
  rw [hn] at h3
  have hw : IntKind.u64.wrap (((18446744073709551615 : Nat) : Int) + 1) = 0 := by rw [IntKind.wrap_u64]; decide
  clear hS hv hn
  go_enter Tryd.func9, Tryd.ntmps9
  go_wp2_with fail
  refine bodyPost_ret (results_tmp2 rfl _ _ _) rfl ?_
  exact ⟨rfl, rfl⟩

set_option maxRecDepth 100000 in
set_option maxHeartbeats 4000000 in
theorem send_any (g : Nat) (k : List UInt8) (s o n : Nat) (t b : UInt64) (v : Value) (l : List UInt8) (w : World) (hT : Tab w) (h0 : 0 < w.heap.size) (hg0 : 0 ≠ g) (hS : Ses w g k (s : Int) (o : Int) n t b) (hk : k.length = 32) (hv : HB w v l) (hvg : NotIn v g) (hl : l.length ≤ 900000) (hs : s < 64) (ho : o < 64) (hn : n < 18446744073709551615) :
    Calls Tryd.prog 9 #[.pointer (some ⟨g, 0, none⟩), v] w fun e w' => ∃ v', e = .returned (.tuple #[v', .int .i64 0]) ∧ Ses w' g k (s : Int) (o : Int) (n + 1) t b ∧ w'.ownsRow w.heap.size 5 1 v' (frameG k (n + 1) s o l).length ((frameG k (n + 1) s o l).map bcv) ∧ w.grownBy w' (some g) := by
  obtain ⟨-, -, h3, -, -⟩ := hS.cells hk
  have f3 := hS.frozen 34
  obtain ⟨p, c, rfl, hlc, hcm⟩ := hv.form
  have hli : ¬ (1052672 : Int) < (l.length : Int) := by omega
  have hwr : IntKind.u64.wrap ((n : Int) + 1) = (n : Int) + 1 := by rw [IntKind.wrap_u64]; omega
  have hgl := hS.lt
  have HS0 := Lib.hid hS
  have HV := Lib.hid hv
  have HVG := Lib.hid hvg
  have HT0 := Lib.hid (And.intro hT (And.intro h0 hg0))
  have HN := Lib.hid hn
  clear hS hv hvg hT h0 hg0 hn
  go_enter Tryd.func9, Tryd.ntmps9
  go_wp2_with fail
  obtain ⟨N, hN⟩ : ∃ N, N = n + 1 := ⟨_, rfl⟩
  have hNi : (n : Int) + 1 = (N : Int) := by omega
  have hNb : N < 18446744073709551616 := by have := HN.out; omega
  rw [hNi]
  have HNN := Lib.hid hN
  obtain ⟨W1, hW1⟩ : ∃ W1, W1 = w.setCell ⟨g, 34, none⟩ (.int .u64 (N : Int)) := ⟨_, rfl⟩
  have HW1 : Hid (Ses W1 g k (s : Int) (o : Int) N t b ∧ w.grownBy W1 (some g) ∧ W1.heap.size = w.heap.size ∧ HB W1 (.slice p l.length c) l ∧ Tab W1 ∧ 0 < W1.heap.size) := Lib.hid (by
    have hG : w.grownBy W1 (some g) := by rw [hW1]; exact Only.store (World.grownBy.refl _ _) (.inl rfl) _
    refine ⟨by rw [hW1]; exact HS0.out.sent hk N, hG, by rw [hW1]; simp, ?_, ?_, ?_⟩
    · exact HB.apart HV.out hG HVG.out
    · exact Tab.grown HT0.out.1 hG HT0.out.2.1 HT0.out.2.2
    · rw [hW1]; simpa using HT0.out.2.1)
  rw [← hW1]
  clear hW1 h3 f3 hwr hNi hN
  obtain ⟨B, hB⟩ : ∃ B, B = W1.heap.size := ⟨_, rfl⟩
  have HBB := Lib.hid hB
  have hgB : g < B := by rw [hB]; exact HW1.out.1.lt
  refine (wrNew_any W1).mono ?_
  rintro e w2 ⟨rfl, hr2, hb2, hz2⟩
  rw [← hB] at hr2 hb2 hz2 ⊢
  have HI2 : Hid (WrS w2 B B [] ∧ Ses w2 g k (s : Int) (o : Int) N t b ∧ Below B W1 w2 ∧ HB w2 (.slice p l.length c) l) := Lib.hid ⟨hr2, HW1.out.1.below hb2 hgB, hb2, HW1.out.2.2.2.1.keep (HBB.out ▸ hb2)⟩
  clear hr2 hb2 hB
  have hlow : ∀ p' n' c', Value.slice p l.length c = .slice p' n' c' → 0 < n' → ∃ b o, p' = some ⟨b, o, none⟩ ∧ b < B := by
    intro p' n' c' e h
    injection e with e1 e2 e3
    subst e1; subst e2
    obtain ⟨b2, o2, rfl, h2⟩ := HW1.out.2.2.2.1.at_ (at8_get (l := l) (i := 0) h)
    exact ⟨b2, o2, rfl, by rw [HBB.out]; exact lt_of_cell h2⟩
  have HLOW := Lib.hid hlow
  clear hlow
  obtain ⟨q32_3, q33_3, q34_3, -, -⟩ := HI2.out.2.1.cells hk
  go_wp2_with fail
  refine (wrUint_any B B N [] w2 HI2.out.1 (Nat.le_refl _) hNb (by simp)).mono ?_
  rintro e w3 ⟨rfl, hr3, hb3⟩
  have HI3 : Hid (WrS w3 B B ([] ++ putF N) ∧ Ses w3 g k (s : Int) (o : Int) N t b ∧ Below B W1 w3 ∧ HB w3 (.slice p l.length c) l) := Lib.hid ⟨hr3, HI2.out.2.1.below hb3 hgB, HI2.out.2.2.1.trans hb3, HW1.out.2.2.2.1.keep (HBB.out ▸ (HI2.out.2.2.1.trans hb3))⟩
  clear hr3 hb3 q32_3 q33_3 q34_3 HI2
  obtain ⟨q32_4, q33_4, q34_4, -, -⟩ := HI3.out.2.1.cells hk
  go_wp2_with fail
  refine (wrUint_any B B s _ w3 HI3.out.1 (Nat.le_refl _) (by omega) (by have := putF_length10 hNb; simp; omega)).mono ?_
  rintro e w4 ⟨rfl, hr4, hb4⟩
  have HI4 : Hid (WrS w4 B B ([] ++ putF N ++ putF s) ∧ Ses w4 g k (s : Int) (o : Int) N t b ∧ Below B W1 w4 ∧ HB w4 (.slice p l.length c) l) := Lib.hid ⟨hr4, HI3.out.2.1.below hb4 hgB, HI3.out.2.2.1.trans hb4, HW1.out.2.2.2.1.keep (HBB.out ▸ (HI3.out.2.2.1.trans hb4))⟩
  clear hr4 hb4 q32_4 q33_4 q34_4 HI3
  obtain ⟨q32_5, q33_5, q34_5, -, -⟩ := HI4.out.2.1.cells hk
  go_wp2_with fail
  refine (wrUint_any B B o _ w4 HI4.out.1 (Nat.le_refl _) (by omega) (by have := putF_length10 hNb; have := putF_length10 (n := s) (by omega); simp; omega)).mono ?_
  rintro e w5 ⟨rfl, hr5, hb5⟩
  have HI5 : Hid (WrS w5 B B ([] ++ putF N ++ putF s ++ putF o) ∧ Ses w5 g k (s : Int) (o : Int) N t b ∧ Below B W1 w5 ∧ HB w5 (.slice p l.length c) l) := Lib.hid ⟨hr5, HI4.out.2.1.below hb5 hgB, HI4.out.2.2.1.trans hb5, HW1.out.2.2.2.1.keep (HBB.out ▸ (HI4.out.2.2.1.trans hb5))⟩
  clear hr5 hb5 q32_5 q33_5 q34_5 HI4
  obtain ⟨q32_6, q33_6, q34_6, -, -⟩ := HI5.out.2.1.cells hk
  go_wp2_with fail
  refine (wrBytes_any B B _ l _ w5 HI5.out.1 (Nat.le_refl _) HI5.out.2.2.2 (by have := putF_length10 hNb; have := putF_length10 (n := s) (by omega); have := putF_length10 (n := o) (by omega); simp; omega) HLOW.out).mono ?_
  rintro e w6 ⟨rfl, hr6, hb6⟩
  have HI6 : Hid (WrS w6 B B ([] ++ putF N ++ putF s ++ putF o ++ putW l) ∧ Ses w6 g k (s : Int) (o : Int) N t b ∧ Below B W1 w6 ∧ HB w6 (.slice p l.length c) l) := Lib.hid ⟨hr6, HI5.out.2.1.below hb6 hgB, HI5.out.2.2.1.trans hb6, HW1.out.2.2.2.1.keep (HBB.out ▸ (HI5.out.2.2.1.trans hb6))⟩
  clear hr6 hb6 q32_6 q33_6 q34_6 HI5
  have hbody : [] ++ putF N ++ putF s ++ putF o ++ putW l = bodyG N s o l := by rw [List.nil_append]; rfl
  rw [hbody] at HI6
  have hbl := bodyG_length (n := N) (from_ := s) (to := o) (b := l) hNb (by omega) (by omega) (by omega)
  obtain ⟨X, hX⟩ : ∃ X, X = bodyG N s o l := ⟨_, rfl⟩
  have HFR : Hid (frameG k (n + 1) s o l = X ++ macF k X) := Lib.hid (by rw [hX, HNN.out]; rfl)
  rw [← hX] at HI6 hbl
  clear hX hbody
  go_wp2_with fail
  refine (wrOut_any B B X w6 HI6.out.1 (by omega)).mono ?_
  rintro e w7 ⟨v7, rfl, ho7, hb7⟩
  have hB6 : B ≤ w6.heap.size := by have h := HI6.out.2.2.1.size; have h2 := HBB.out; omega
  have HI7 : Hid (w7.ownsRow w6.heap.size 5 1 v7 X.length (X.map bcv) ∧ Ses w7 g k (s : Int) (o : Int) N t b ∧ Below B W1 w7) := Lib.hid ⟨ho7, HI6.out.2.1.below hb7 (by omega), HI6.out.2.2.1.trans (hb7.mono hB6)⟩
  have hz67 := hb7.size
  clear ho7 hb7 HI6
  go_wp2_with fail
  have hT7 : Tab w7 := HW1.out.2.2.2.2.1.below (HBB.out ▸ HI7.out.2.2) HW1.out.2.2.2.2.2
  have hz7 : 0 < w7.heap.size := by have := HW1.out.2.2.2.2.2; have h8 := HI7.out.2.2.size; rw [HBB.out] at hB6; omega
  refine (signed_any g w6.heap.size k (s : Int) (o : Int) N t b v7 X w7 hT7 hz7 HI7.out.2.1 hk HI7.out.1 hz67 (by omega)).mono ?_
  rintro e w8 ⟨v8, rfl, ho8, hb8⟩
  rw [← HFR.out] at ho8
  have hB7 : Below B W1 w8 := HI7.out.2.2.trans (hb8.mono hB6)
  have HI8 : Hid (Ses w8 g k (s : Int) (o : Int) (n + 1) t b ∧ w8.ownsRow w.heap.size 5 1 v8 (frameG k (n + 1) s o l).length ((frameG k (n + 1) s o l).map bcv) ∧ w.grownBy w8 (some g)) := Lib.hid (by
    refine ⟨by rw [← HNN.out]; exact HW1.out.1.below hB7 hgB, own_base ho8 (by have := HW1.out.2.2.1; rw [HBB.out] at hB6; omega), ?_⟩
    exact Only.below HW1.out.2.1 (HBB.out ▸ hB7) (Nat.le_of_eq HW1.out.2.2.1.symm))
  clear hT7 ho8 hb8 hB7 HI7
  go_wp2_with fail
  refine bodyPost_ret (results_tmp2 rfl _ _ _) rfl ?_
  exact ⟨_, rfl, HI8.out⟩
end Go.Proofs.YtlkhbfafednegaaDoor
