/-
  The walks of the ring of words, of the numbers at first, and of the rounds' numbers.
-/
import Derived.Test.YtbicdobnnanlkaaDoorDg1
namespace Go.Proofs.YtbicdobnnanlkaaDoor
open Go Go.RowKit

/-- the word of a round out of the ring -/
def ringNext (r : List UInt32) (i : Nat) : UInt32 :=
  add32 (at32 r (i % 16)) (add32 (add32 (s0 (at32 r ((i + 1) % 16))) (at32 r ((i + 9) % 16))) (s1 (at32 r ((i + 14) % 16))))

set_option maxHeartbeats 1000000 in
theorem next_any (g : Nat) (r : List UInt32) (i : Nat) (w : World) (hr : r.length = 16) (hi : i < 1000) (hb : Blk w g 97 (wvs r)) :
    Calls Tryd.prog 54 #[.pointer (some ⟨g, 0, none⟩), .int .i64 (i : Int)] w fun e w' =>
      e = .returned (.int .u32 (ringNext r i).toNat) ∧ w.grownBy w' (some g) ∧ Blk w' g 97 (wvs (r.set (i % 16) (ringNext r i))) := by
  have c0 := hb.word (i := i % 16) (by omega)
  have c1 := hb.word (i := (i + 1) % 16) (by omega)
  have c9 := hb.word (i := (i + 9) % 16) (by omega)
  have c14 := hb.word (i := (i + 14) % 16) (by omega)
  have f0 := hb.frozen (i % 16)
  have HB := Lib.hid hb; clear hb
  go_enter Tryd.func54, Tryd.ntmps54
  go_wp2_with fail
  go_quiet (fail)
  go_wp2_with (go_at_call 59; refine (turn_int _ _ _ (by omega) (by omega)).mono ?_; rintro e w' ⟨rfl, rfl⟩)
  generalize hW : w.drewN nq = w1
  have HB1 : Hid (Blk w1 g 97 (wvs r)) := Lib.hid (by rw [← hW]; exact (HB.out).drewN nq)
  have HG1 : Hid (w.grownBy w1 (some g)) := Lib.hid (by rw [← hW]; exact Only.drewN (World.grownBy.refl w (some g)) nq)
  clear hW c0 c1 c9 c14 f0 HB
  have c0 := HB1.out.word (i := i % 16) (by omega)
  have c9 := HB1.out.word (i := (i + 9) % 16) (by omega)
  have f0 := HB1.out.frozen (i % 16)
  have hi0 : (0 : Int) ≤ (i : Int) := by omega
  have hm0 : (i : Int).tmod 16 = ((i % 16 : Nat) : Int) := by rw [Int.tmod_eq_emod_of_nonneg hi0]; omega
  have hw9 : IntKind.i64.wrap ((i : Int) + 9) = (i : Int) + 9 := IntWalk.i64_in _ (by omega)
  have hm9 : ((i : Int) + 9).tmod 16 = (((i + 9) % 16 : Nat) : Int) := by rw [Int.tmod_eq_emod_of_nonneg (by omega)]; omega
  go_region
  generalize hN : (add32 (at32 r (i % 16)) (add32 (add32 (xor32 (xor32 (rotr (at32 r ((i + 1) % 16)) 7) (rotr (at32 r ((i + 1) % 16)) 18)) (shr32 (at32 r ((i + 1) % 16)) 3)) (at32 r ((i + 9) % 16))) (xor32 (xor32 (rotr (at32 r ((i + 14) % 16)) 17) (rotr (at32 r ((i + 14) % 16)) 19)) (shr32 (at32 r ((i + 14) % 16)) 10)))) = N
  have HN : Hid (ringNext r i = N) := Lib.hid hN
  clear hN
  have HB2 : Hid (Blk ((w1.setCell ⟨g, i % 16, none⟩ (.int .u32 N.toNat)).drew) g 97 (wvs (r.set (i % 16) N))) := Lib.hid ((HB1.out).word_store _ _).drew
  have HG2 : Hid (w.grownBy ((w1.setCell ⟨g, i % 16, none⟩ (.int .u32 N.toNat)).drew) (some g)) := Lib.hid (Only.drew (Only.store (HG1.out) (.inl rfl) _))
  generalize (w1.setCell ⟨g, i % 16, none⟩ (.int .u32 N.toNat)).drew = w2 at *
  have d0 := HB2.out.word (i := i % 16) (by rw [List.length_set]; omega)
  rw [at32_set _ _ _ _ (by omega), if_pos rfl] at d0
  clear c0 c9 f0
  go_wp2_with fail
  go_ret
  rw [HN.out]
  exact ⟨rfl, HG2.out, HB2.out⟩
end Go.Proofs.YtbicdobnnanlkaaDoor
