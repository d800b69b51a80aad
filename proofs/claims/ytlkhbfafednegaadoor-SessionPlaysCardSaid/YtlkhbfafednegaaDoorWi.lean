/-
  The reference's With.
-/
import Derived.Test.YtlkhbfafednegaaDoorCd6
namespace Go.Proofs.YtlkhbfafednegaaDoor
open Go Go.RowKit
set_option linter.unusedSimpArgs false
set_option linter.unusedVariables false

set_option maxRecDepth 100000 in
set_option maxHeartbeats 1000000 in
theorem refWith_any (l : List UInt8) (w : World) (hl : l.length ≤ 1000000) :
    Calls Tryd.prog 36 #[.string (bs l)] w fun e w' => e = .returned (.string (bs (putW l))) ∧ Below w.heap.size w w' := by
  have HP : Hid (bs (putF l.length) ++ bs l = bs (putW l)) := Lib.hid (by rw [bs_append]; rfl)
  have hsz : (bs l).size = l.length := bs_size l
  obtain ⟨n, hn⟩ : ∃ n, n = l.length := ⟨_, rfl⟩
  rw [← hn] at HP hsz hl
  have hpl : (putF n).length ≤ 10 := putF_length10 (by omega)
  have hsp : (bs (putF n)).size ≤ 10 := by rw [bs_size]; exact hpl
  clear hn
  go_enter Tryd.func36, Tryd.ntmps36
  go_wp2_with fail
  refine (refPut_any n w (by omega)).mono ?_
  rintro e w1 ⟨rfl, hb1⟩
  have HB1 := Lib.hid hb1
  have hp := HP.out
  clear hb1
  go_wp2_with fail
  go_ret
  exact ⟨rfl, HB1.out⟩

end Go.Proofs.YtlkhbfafednegaaDoor
