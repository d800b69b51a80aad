/-
  A pack of one blob: a byte less, a byte more, in plain Lean. No program is named here.
-/
import Derived.Test.YtlopiinkpdpakaaDoorPkP
namespace Go.Proofs.YtlopiinkpdpakaaDoor

theorem pack_one (b : List UInt8) : packB [b] = putF 1 ++ (putF b.length ++ b) := by simp [packB, putW]
theorem pack_one_length {b : List UInt8} (h : b.length ≤ 300) : (packB [b]).length = 1 + ((putF b.length).length + b.length) ∧ (putF b.length).length ≤ 10 := by
  have h1 : (putF 1).length = 1 := by rw [putF_lt (by decide)]; rfl
  refine ⟨by rw [pack_one, List.length_append, List.length_append, h1], putF_length10 (by omega)⟩
theorem put_small {b : List UInt8} (h : b.length < 41) : putP [b] = ([], 1) := by
  have hm : allB [b] = false := allB_no (i := 0) rfl (mayB_lo (by omega))
  unfold putP
  rw [if_neg (by simp), if_neg (by rw [hm]; simp)]
theorem put_one {b : List UInt8} (h : 41 ≤ b.length) (h2 : b.length ≤ 300) : putP [b] = (packB [b], 0) := by
  have hm : allB [b] = true := by simp [allB, mayB]; omega
  have hl := pack_one_length h2
  unfold putP
  rw [if_neg (by simp), if_pos hm, if_neg (by omega)]
theorem get_short {b : List UInt8} (h : 41 ≤ b.length) (h2 : b.length ≤ 300) : getP ((packB [b]).take ((packB [b]).length - 1)) = ([], 10) := by
  obtain ⟨hl, hl2⟩ := pack_one_length h2
  have e : (packB [b]).take ((packB [b]).length - 1) = putF 1 ++ (putF b.length ++ b.take (b.length - 1)) := by
    have h1 : (putF 1).length = 1 := by rw [putF_lt (by decide)]; rfl
    rw [hl, pack_one, List.take_append, List.take_append, List.take_of_length_le (by rw [h1]; omega), List.take_of_length_le (by omega), h1]
    congr 3
    omega
  have hsz : (putF 1 ++ (putF b.length ++ b.take (b.length - 1))).length ≤ 1048576 := by
    have h1 : (putF 1).length = 1 := by rw [putF_lt (by decide)]; rfl
    simp only [List.length_append, List.length_take, h1]; omega
  have hu : uintR (putF 1 ++ (putF b.length ++ b.take (b.length - 1)), 0) = (1, putF b.length ++ b.take (b.length - 1), 0) := uintR_put _ _ (by decide)
  have hu2 : uintR (putF b.length ++ b.take (b.length - 1), 0) = (b.length, b.take (b.length - 1), 0) := uintR_put _ _ (by omega)
  have hb : bytesR 65577 (putF b.length ++ b.take (b.length - 1), 0) = ([], b.take (b.length - 1), 10) := by
    unfold bytesR
    rw [hu2]
    show (if _ then (if _ then _ else _) else _) = _
    rw [if_pos rfl, if_neg (by omega)]
    unfold takC
    rw [if_pos rfl, if_pos (by rw [List.length_take]; omega)]
  rw [e]
  unfold getP
  rw [if_neg (by omega), hu]
  rw [if_neg (by simp)]
  have hr : readN 1 (putF b.length ++ b.take (b.length - 1), 0) = ([[]], b.take (b.length - 1), 10) := by
    simp only [readN, hb, List.nil_append]
  show (if endR (readN 1 (putF b.length ++ b.take (b.length - 1), 0)).2 = 0 then _ else ([], endR (readN 1 (putF b.length ++ b.take (b.length - 1), 0)).2)) = _
  rw [hr]
  have he : endR (b.take (b.length - 1), 10) = 10 := by unfold endR; rw [if_neg (by simp)]
  show (if endR (b.take (b.length - 1), 10) = 0 then _ else ([], endR (b.take (b.length - 1), 10))) = _
  rw [he, if_neg (by decide)]
theorem get_left {b : List UInt8} (x : UInt8) (h : 41 ≤ b.length) (h2 : b.length ≤ 300) : getP (packB [b] ++ [x]) = ([], 12) := by
  obtain ⟨hl, hl2⟩ := pack_one_length h2
  have e : packB [b] ++ [x] = putF 1 ++ (putW b ++ [x]) := by rw [pack_one, putW]; simp
  have hsz : ¬ 1048576 < (packB [b] ++ [x]).length := by rw [List.length_append, hl]; simp; omega
  have hu : uintR (putF 1 ++ (putW b ++ [x]), 0) = (1, putW b ++ [x], 0) := uintR_put _ _ (by decide)
  have hb : bytesR 65577 (putW b ++ [x], 0) = (b, [x], 0) := bytesR_putW _ _ _ (by omega) (by omega)
  rw [e] at hsz ⊢
  unfold getP
  rw [if_neg hsz, hu]
  rw [if_neg (by simp)]
  have hr : readN 1 (putW b ++ [x], 0) = ([b], [x], 0) := by
    simp only [readN, hb, List.nil_append]
  show (if endR (readN 1 (putW b ++ [x], 0)).2 = 0 then _ else ([], endR (readN 1 (putW b ++ [x], 0)).2)) = _
  rw [hr]
  rfl
end Go.Proofs.YtlopiinkpdpakaaDoor
