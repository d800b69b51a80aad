/-
  The document's row of digests.
-/
import Derived.Test.YtlopiinkpdpakaaDoorRf2
namespace Go.Proofs.YtlopiinkpdpakaaDoor
open Go Go.RowKit
set_option linter.unusedSimpArgs false
set_option linter.unusedVariables false

set_option maxRecDepth 100000 in
set_option maxHeartbeats 2000000 in
theorem refRow_any (b : List UInt8) (w : World) (hb : b.length ≤ 10000000) :
    Calls Tryd.prog 42 #[.string (bs b)] w fun e w' => ∃ v', e = .returned v' ∧ IdR w' w.heap.size v' (nlF b.length) (rowF b) ∧ Below w.heap.size w w' := by
  obtain ⟨ii, hii, hzi, hsi, hbi⟩ := infoId
  have HII := Lib.hid hii; clear hii
  obtain ⟨N, hN⟩ : ∃ N, N = nlF b.length := ⟨_, rfl⟩
  have hNb : N ≤ 1000000 := by rw [hN]; unfold nlF; omega
  have HN := Lib.hid hN
  rw [← hN]
  clear hN
  go_enter Tryd.func42, Tryd.ntmps42
  go_wp2_with fail
  refine (refSplit_any b w (by omega)).mono ?_
  rintro e w1 ⟨v1, rfl, hr1, hb1⟩
  rw [← HN.out] at hr1
  obtain ⟨A1, c1, rfl⟩ := hr1.form
  have HI1 := Lib.hid (And.intro hr1 hb1)
  have hz1 := hb1.size
  clear hr1 hb1
  go_wp2_with fail
  go_loopw [3, 5] (fun out i W => ∃ k : Nat, k ≤ N ∧ i = .int .i64 (k : Int) ∧ IdR W w1.heap.size out k ((rowF b).take k) ∧ Below w1.heap.size w1 W) (fun _ i _ => N - (intOf i).toNat)
  case atStart => exact ⟨0, Nat.zero_le _, rfl, IdR.nil _ _, Below.refl _ _⟩
  case round =>
    obtain ⟨k, hk, rfl, hrow, hb⟩ := hrel
    obtain ⟨A, c, rfl⟩ := hrow.form
    have hbz := hb.size
    have HI := Lib.hid (And.intro hrow hb)
    clear hrow hb
    by_cases hlt : k < N
    · have hkl : (leafsF b)[k]? = some (leafF b k) := leafsF_at (by rw [← HN.out]; exact hlt)
      obtain ⟨g1, rfl, hc1⟩ := HI1.out.1.at_ hkl
      have d1 := (HI.out.2.cell (p := ⟨g1, k, none⟩) (lt_of_cell hc1)).trans hc1
      obtain ⟨l, hl⟩ : ∃ l, l = leafF b k := ⟨_, rfl⟩
      rw [← hl, strV] at d1
      have hll : l.length ≤ 64 := by rw [hl]; exact leafF_length _ _
      have hs1 : (⟨#[0]⟩ : ByteArray) ++ bs l = bs (0 :: l) := bs_add [0] l
      have hsz : (bs l).size ≤ 64 := by rw [bs_size]; exact hll
      have HTK : Hid ((rowF b).take (k + 1) = (rowF b).take k ++ [sha (0 :: l)]) := Lib.hid (by
        refine take_next ?_
        rw [rowF, List.getElem?_map, hkl, hl]; rfl)
      have HLK : Hid (((rowF b).take k).length = k) := Lib.hid (by rw [List.length_take, rowF_length, ← HN.out]; omega)
      have hki : (k : Int) < (N : Int) := by omega
      clear hkl hc1 hl
      go_wp2_with (first
        | (go_at_call 53
           refine (ref_any _ wr (by rw [bs_size, List.length_cons]; omega)).mono ?_
           rintro e w3 ⟨rfl, hb3⟩
           rw [sb_bs]
           obtain ⟨d, hd⟩ : ∃ d, d = sha (0 :: l) := ⟨_, rfl⟩
           have hdl : d.length = 32 := by rw [hd]; exact sha_length _
           rw [← hd] at HTK ⊢
           have HB3 := Lib.hid hb3
           have HDL := Lib.hid hdl
           clear hb3 hd hdl)
        | (refine wpList_build_id rfl (.tmp 20) 72 36 ii _ rfl Tryd.underlying72 HII.out hzi hsi d HDL.out rfl ?_)
        | (at_builtin
           have hb3z := HB3.out.size
           have hrow2 := HI.out.1.keep HB3.out
           refine wpList_append_own _ rfl (.tmp 14) (.tmp 21) 72 rfl w1.heap.size 36 ii (.agg (bvs (List.replicate 32 0))) 32 32 Tryd.underlying72 HII.out hzi hsi hbi zeroId_cells (by decide) (.slice A k c) k _ rfl (hrow2.1.alloc _) ⟨w3.heap.size, 0, none⟩ 1 1 (d.map bcv) rfl (by rw [List.length_map, HDL.out]) (news_id (Blk.new w3 _ _)) (one_bcv d) (by simp only [maxLen]; omega) (by omega) (by simp; omega) ?_
           intro v5 w5 hown5 hgrow5 _
           have HR5 : Hid (IdR w5 w1.heap.size v5 (k + 1) ((rowF b).take (k + 1)) ∧ Below w1.heap.size w1 w5) := Lib.hid ⟨by rw [HTK.out]; exact IdR.snoc hown5 HLK.out hrow2.2.2 HDL.out, ((HI.out.2.trans (HB3.out.mono hbz)).alloc (by omega) _).grown hgrow5 (by simp; omega) (fun j hj => own_ge hrow2.1 j hj)⟩
           clear hown5 hgrow5 hrow2 HI HB3))
      go_roundw
      case rel => exact ⟨k + 1, by omega, by go_num, HR5.out⟩
      case measure => simp [intOf]; omega
    · obtain rfl : k = N := by omega
      have HE : Hid ((rowF b).take k = rowF b) := Lib.hid (List.take_of_length_le (by rw [rowF_length, ← HN.out]; exact Nat.le_refl _))
      go_wp2_with fail
      go_ret
      have h1 := HI.out.1
      rw [HE.out] at h1
      exact ⟨_, rfl, h1.base hz1, HI1.out.2.trans (HI.out.2.mono hz1)⟩
end Go.Proofs.YtlopiinkpdpakaaDoor
