/-
  A side's window takes a number.
-/
import Derived.Test.YtlkhbfafednegaaDoorSn1
import Derived.Test.YtlkhbfafednegaaDoorRp
namespace Go.Proofs.YtlkhbfafednegaaDoor
open Go Go.RowKit
set_option linter.unusedSimpArgs false
set_option linter.unusedVariables false

theorem Ses.win {w : World} {g : Nat} {k : List UInt8} {s o : Int} {n : Nat} {t b : UInt64} (h : Ses w g k s o n t b) (hk : k.length = 32) (t' b' : UInt64) : Ses ((w.setCell ⟨g, 35, none⟩ (.int .u64 (t'.toNat : Int))).setCell ⟨g, 36, none⟩ (.int .u64 (b'.toNat : Int))) g k s o n t' b' := by
  have h2 := (h.store 35 (.int .u64 (t'.toNat : Int))).store 36 (.int .u64 (b'.toNat : Int))
  have e : ((sesC k s o n t b).setIfInBounds 35 (.int .u64 (t'.toNat : Int))).setIfInBounds 36 (.int .u64 (b'.toNat : Int)) = sesC k s o n t' b' := by
    unfold sesC
    simp [List.set_append, hk]
  rw [e] at h2
  exact h2

set_option maxHeartbeats 400000 in
theorem takeW_old (g : Nat) (k : List UInt8) (s o : Int) (m : Nat) (t b n : UInt64) (w : World) (hw : Ses w g k s o m t b) (hk : k.length = 32) (hs : seenF t b n = true) :
    Calls Tryd.prog 28 #[.pointer (some ⟨g, 35, none⟩), .int .u64 n.toNat] w fun e w' =>
      e = .returned (.int .i64 22) ∧ Below w.heap.size w w' := by
  have hlt := hw.lt
  obtain ⟨-, -, -, h0, h1⟩ := hw.cells hk
  clear hw
  go_enter Tryd.func28, Tryd.ntmps28
  go_wp2_with (go_at_call 44; refine (seen_any _ _ _ _).mono ?_; rintro e w1 ⟨rfl, hb1⟩; obtain ⟨hcc, hff⟩ := bcell hb1)
  go_quiet (fail)
  go_wp2
  go_ret
  exact ⟨rfl, below_drewN ((((Below.refl _ _).alloc (Nat.le_refl _) _)).trans (hb1.mono (by simp))) _⟩

set_option maxHeartbeats 400000 in
theorem takeW_new (g : Nat) (k : List UInt8) (s o : Int) (m : Nat) (t b n : UInt64) (w : World) (hw : Ses w g k s o m t b) (hk : k.length = 32) (hs : seenF t b n = false) :
    Calls Tryd.prog 28 #[.pointer (some ⟨g, 35, none⟩), .int .u64 n.toNat] w fun e w' =>
      e = .returned (.int .i64 0) ∧ w.grownBy w' (some g) ∧ Ses w' g k s o m (withF t b n).1 (withF t b n).2 := by
  have hlt := hw.lt
  obtain ⟨-, -, -, h0, h1⟩ := hw.cells hk
  have hf0 := hw.frozen 35
  have hf1 := hw.frozen 36
  have HW := Lib.hid hw; clear hw
  have hne : (((withF t b n).1.toNat : Int) == (t.toNat : Int) && ((withF t b n).2.toNat : Int) == (b.toNat : Int)) = false := withF_ne hs
  go_enter Tryd.func28, Tryd.ntmps28
  go_wp2_with (first | (go_at_call 44; refine (seen_any _ _ _ _).mono ?_; rintro e w1 ⟨rfl, hb1⟩; obtain ⟨hcc, hff⟩ := bcell hb1) | (go_at_call 45; refine (with_any _ _ _ _).mono ?_; rintro e w2 ⟨rfl, hb2⟩; have hz1 : w.heap.size < w1.heap.size := (by have := hb1.size; simp at this; omega); have hg1 : g < w1.heap.size := (by omega); obtain ⟨hcc2, hff2⟩ := bcell hb2))
  have he := eqlW
  go_quiet (fail)
  go_wp2
  go_ret
  refine ⟨rfl, ?_, ?_⟩
  · exact Only.store (Only.store (Only.drewN (Only.store (Only.store (Only.below (Only.below (Only.new (World.grownBy.refl w (some g)) _) hb1 (by simp)) hb2 (by omega)) (.inr (Nat.le_refl _)) _) (.inr (Nat.le_refl _)) _) _) (.inl rfl) _) (.inl rfl) _
  · have hne : g ≠ w.heap.size := by omega
    exact Ses.win ((((((((HW.out).alloc _).below hb1 (by simp; omega)).below hb2 hg1).other (p := ⟨w.heap.size, 0, none⟩) hne _).other (p := ⟨w.heap.size, 1, none⟩) hne _).drewN _)) hk _ _
end Go.Proofs.YtlkhbfafednegaaDoor
