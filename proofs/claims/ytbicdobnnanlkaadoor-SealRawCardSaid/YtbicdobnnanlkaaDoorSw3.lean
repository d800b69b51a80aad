/-
  The walk of the law SealRaw.
-/
import Derived.Test.YtbicdobnnanlkaaDoorSaA
namespace Go.Proofs.YtbicdobnnanlkaaDoor
open Go Go.RowKit
set_option linter.unusedSimpArgs false
set_option linter.unusedVariables false

set_option maxRecDepth 100000 in
set_option maxHeartbeats 2000000 in
theorem sealRaw_any (key b : List UInt8) (v : Value) (w : World) (hT : Tabs w) (hk : key.length = 32) (hv : HB w v b) :
    Calls Tryd.prog 5 #[.agg (bvs key), v] w fun e w' => e = .returned (.bool true) ∧ Below w.heap.size w w' := by
  obtain ⟨p, cap, rfl, hl, hm⟩ := hv.form
  unfold maxLen at hm
  have HV := Lib.hid hv
  clear hv
  have hbz : (bvs key).size = 32 := by rw [bvs_size]; exact hk
  have HT := Lib.hid hT
  clear hT
  obtain ⟨n, hnb⟩ : ∃ n, n = b.length := ⟨_, rfl⟩
  rw [← hnb] at HV hl ⊢
  have HN := Lib.hid hnb
  clear hnb
  by_cases h300 : (300 : Int) < (n : Int)
  · skip
    go_enter Tryd.func5, Tryd.ntmps5
    go_wp2_with (first
      | (go_at_call 8
         refine (awake5_any _ (HT.out.below ((Below.refl w.heap.size w).alloc (Nat.le_refl _) _))).mono ?_
         rintro e w1 ⟨rfl, hb1⟩
         have HI : Hid (Blk w1 w.heap.size 23 (bvs key) ∧ Below w.heap.size w w1 ∧ w.heap.size + 1 ≤ w1.heap.size) := Lib.hid ⟨(Blk.new w _ _).below hb1 (by simp <;> omega), ((Below.refl w.heap.size w).alloc (Nat.le_refl _) _).trans (hb1.mono (by simp <;> omega)), by have := hb1.size; simpa using this⟩
         have HB1 := Lib.hid HI.out.2.1
         clear hb1)
      | (refine wpList_load_blk rfl 23 (.tmp 2) rfl w.heap.size 23 (bvs key) rfl HI.out.1 Tryd.underlying23 rfl (by rw [hbz]; kernel_rfl) ?_))
    go_ret
    exact ⟨rfl, HB1.out⟩
  · obtain ⟨P, hP⟩ : ∃ P, P = (openS key b).1 := ⟨_, rfl⟩
    obtain ⟨K, hK⟩ : ∃ K, K = (openS key b).2.1 := ⟨_, rfl⟩
    obtain ⟨M, hM⟩ : ∃ M, M = (openS key b).2.2.1 := ⟨_, rfl⟩
    obtain ⟨E, hE⟩ : ∃ E, E = (openS key b).2.2.2 := ⟨_, rfl⟩
    have HP := Lib.hid hP
    have HK := Lib.hid hK
    have HM := Lib.hid hM
    have HE := Lib.hid hE
    clear hP hK hM hE
    go_enter Tryd.func5, Tryd.ntmps5
    go_wp2_with (first
      | (go_at_call 8
         refine (awake5_any _ (HT.out.below ((Below.refl w.heap.size w).alloc (Nat.le_refl _) _))).mono ?_
         rintro e w1 ⟨rfl, hb1⟩
         have HI : Hid (Blk w1 w.heap.size 23 (bvs key) ∧ Below w.heap.size w w1 ∧ w.heap.size + 1 ≤ w1.heap.size) := Lib.hid ⟨(Blk.new w _ _).below hb1 (by simp <;> omega), ((Below.refl w.heap.size w).alloc (Nat.le_refl _) _).trans (hb1.mono (by simp <;> omega)), by have := hb1.size; simpa using this⟩
         have HB1 := Lib.hid HI.out.2.1
         have HV1 := Lib.hid (HV.out.keep HB1.out)
         clear hb1)
      | (refine wpList_load_blk rfl 23 (.tmp 2) rfl w.heap.size 23 (bvs key) rfl HI.out.1 Tryd.underlying23 rfl (by rw [hbz]; kernel_rfl) ?_)
      | (go_at_call 11
         refine (open_any key b _ w1 (HT.out.below HB1.out) hk HV1.out (by have := HN.out; omega)).mono ?_
         rintro e w2 ⟨v2, rfl, ho, hb2⟩
         rw [← HP.out] at ho
         rw [← HK.out, ← HM.out, ← HE.out]
         have HI2 : Hid (Blk w2 w.heap.size 23 (bvs key) ∧ Below w.heap.size w w2 ∧ HB w2 (.slice p n cap) b ∧ HB w2 v2 P) := Lib.hid ⟨HI.out.1.below hb2 (by have := HI.out.2.2; omega), HB1.out.trans (hb2.mono HB1.out.size), HV1.out.keep hb2, ho⟩
         have hcv2 := HI2.out.2.2.1.str Tryd.underlying25 Tryd.underlying5 Tryd.underlying9
         clear ho hb2 HB1 HI HV1)
      | (refine wpList_load_blk rfl 23 (.tmp 2) rfl w.heap.size 23 (bvs key) rfl HI2.out.1 Tryd.underlying23 rfl (by rw [hbz]; kernel_rfl) ?_)
      | (go_at_call 14
         refine (refOpen_any key (bs b) w2 hk (by rw [bs_size]; have := HN.out; omega)).mono ?_
         rintro e w3 ⟨rfl, hb3⟩
         rw [sb_bs, ← HP.out, ← HK.out, ← HM.out, ← HE.out]
         have HI3 : Hid (Below w.heap.size w w3) := Lib.hid (HI2.out.2.1.trans (hb3.mono HI2.out.2.1.size))
         have hcv3 := (HI2.out.2.2.2.keep hb3).str Tryd.underlying25 Tryd.underlying5 Tryd.underlying9
         clear hb3 HI2 hcv2))
    go_ret
    exact ⟨rfl, HI3.out⟩
end Go.Proofs.YtbicdobnnanlkaaDoor
