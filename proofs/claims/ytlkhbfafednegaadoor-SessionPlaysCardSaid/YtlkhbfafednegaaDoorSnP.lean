/-
  Frames between two nodes, in plain Lean, but for a window's own laws.
-/
import Derived.Test.YtlkhbfafednegaaDoorGA
import Derived.Test.YtlkhbfafednegaaDoorRp
namespace Go.Proofs.YtlkhbfafednegaaDoor
open Go Go.RowKit

/-- what a key says of goes ahead -/
def bodyG (n from_ to : Nat) (b : List UInt8) : List UInt8 := putF n ++ putF from_ ++ putF to ++ putW b
def frameG (dk : List UInt8) (n from_ to : Nat) (b : List UInt8) : List UInt8 := bodyG n from_ to b ++ macF dk (bodyG n from_ to b)
/-- the key of frames -/
def frameK (key : List UInt8) : List UInt8 := derF key [102, 114, 97, 109, 101] 0
theorem frameK_length (key : List UInt8) : (frameK key).length = 32 := derF_length _ _ _
def readG (s : List UInt8) : Nat × Nat × Nat × List UInt8 × Nat :=
  let r1 := uintR (s, 0)
  let r2 := uintR r1.2
  let r3 := uintR r2.2
  let r4 := bytesR 1052672 r3.2
  (r1.1, r2.1, r3.1, r4.1, endR r4.2)
/-- what is taken of a frame: an error's number, the bytes, the window -/
def takeG (dk : List UInt8) (self other : Nat) (t b : UInt64) (f : List UInt8) : Nat × List UInt8 × UInt64 × UInt64 :=
  if f.length < 32 then (20, [], t, b)
  else if macF dk (f.take (f.length - 32)) ≠ f.drop (f.length - 32) then (20, [], t, b)
  else if (readG (f.take (f.length - 32))).2.2.2.2 ≠ 0 then ((readG (f.take (f.length - 32))).2.2.2.2, [], t, b)
  else if (readG (f.take (f.length - 32))).2.1 ≠ other ∨ (readG (f.take (f.length - 32))).2.2.1 ≠ self then (1, [], t, b)
  else if seenF t b (UInt64.ofNat (readG (f.take (f.length - 32))).1) = true then (22, [], t, b)
  else (0, (readG (f.take (f.length - 32))).2.2.2.1, withF t b (UInt64.ofNat (readG (f.take (f.length - 32))).1))
theorem takeG_short {dk f : List UInt8} {self other : Nat} {t b : UInt64} (h : f.length < 32) : takeG dk self other t b f = (20, [], t, b) := by unfold takeG; rw [if_pos h]
theorem takeG_mac {dk f : List UInt8} {self other : Nat} {t b : UInt64} (h : ¬ f.length < 32) (h2 : macF dk (f.take (f.length - 32)) ≠ f.drop (f.length - 32)) : takeG dk self other t b f = (20, [], t, b) := by unfold takeG; rw [if_neg h, if_pos h2]
theorem takeG_read {dk f : List UInt8} {self other : Nat} {t b : UInt64} (h : ¬ f.length < 32) (h2 : macF dk (f.take (f.length - 32)) = f.drop (f.length - 32)) : takeG dk self other t b f =
    if (readG (f.take (f.length - 32))).2.2.2.2 ≠ 0 then ((readG (f.take (f.length - 32))).2.2.2.2, [], t, b)
    else if (readG (f.take (f.length - 32))).2.1 ≠ other ∨ (readG (f.take (f.length - 32))).2.2.1 ≠ self then (1, [], t, b)
    else if seenF t b (UInt64.ofNat (readG (f.take (f.length - 32))).1) = true then (22, [], t, b)
    else (0, (readG (f.take (f.length - 32))).2.2.2.1, withF t b (UInt64.ofNat (readG (f.take (f.length - 32))).1)) := by
  unfold takeG; rw [if_neg h, if_neg (fun h3 => h3 h2)]
theorem bodyG_length {n from_ to : Nat} {b : List UInt8} (hn : n < 18446744073709551616) (hf : from_ < 18446744073709551616) (ht : to < 18446744073709551616) (hb : b.length < 18446744073709551616) : (bodyG n from_ to b).length ≤ 40 + b.length := by
  have h1 := putF_length10 hn
  have h2 := putF_length10 hf
  have h3 := putF_length10 ht
  have h4 := putF_length10 hb
  simp only [bodyG, putW, List.length_append]; omega
theorem frameG_length (dk : List UInt8) (n from_ to : Nat) (b : List UInt8) : (frameG dk n from_ to b).length = (bodyG n from_ to b).length + 32 := by rw [frameG, List.length_append, macF_length]
theorem read_body {n from_ to : Nat} {b : List UInt8} (hn : n < 18446744073709551616) (hf : from_ < 18446744073709551616) (ht : to < 18446744073709551616) (hb : b.length ≤ 1052672) : readG (bodyG n from_ to b) = (n, from_, to, b, 0) := by
  have e1 : uintR (bodyG n from_ to b, 0) = (n, putF from_ ++ (putF to ++ (putW b ++ [])), 0) := by
    rw [bodyG, List.append_assoc, List.append_assoc, List.append_nil]; exact uintR_put _ _ hn
  have e2 : uintR (putF from_ ++ (putF to ++ (putW b ++ [])), 0) = (from_, putF to ++ (putW b ++ []), 0) := uintR_put _ _ hf
  have e3 : uintR (putF to ++ (putW b ++ []), 0) = (to, putW b ++ [], 0) := uintR_put _ _ ht
  have e4 : bytesR 1052672 (putW b ++ [], 0) = (b, [], 0) := bytesR_putW _ _ _ hb (by omega)
  simp only [readG, e1, e2, e3, e4]
  rfl
/-- what was made is taken, if its number wasn't there -/
theorem take_frame {dk : List UInt8} {n from_ to : Nat} {t b : UInt64} {l : List UInt8} (self other : Nat) (hn : n < 18446744073709551616) (hf : from_ < 18446744073709551616) (ht : to < 18446744073709551616) (hb : l.length ≤ 1052672) :
    takeG dk self other t b (frameG dk n from_ to l) = if from_ ≠ other ∨ to ≠ self then (1, [], t, b) else if seenF t b (UInt64.ofNat n) = true then (22, [], t, b) else (0, l, withF t b (UInt64.ofNat n)) := by
  have hl : (frameG dk n from_ to l).length - 32 = (bodyG n from_ to l).length := by rw [frameG_length]; omega
  have ht2 : (frameG dk n from_ to l).take ((frameG dk n from_ to l).length - 32) = bodyG n from_ to l := by rw [hl, frameG, List.take_left']; rfl
  have hd : (frameG dk n from_ to l).drop ((frameG dk n from_ to l).length - 32) = macF dk (bodyG n from_ to l) := by rw [hl, frameG, List.drop_left']; rfl
  rw [takeG_read (by rw [frameG_length]; omega) (by rw [ht2, hd]), ht2, read_body hn hf ht hb]
  simp only [ne_eq, not_true_eq_false, ↓reduceIte]
end Go.Proofs.YtlkhbfafednegaaDoor
