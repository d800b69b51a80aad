/-
  The stream in plain Lean: the quarters, the rounds, a part, bytes laid over. No program is named here.
-/
import Derived.Test.YtomfpffooaejoaaDoorW32
import Derived.Test.YtomfpffooaejoaaDoorBt
namespace Go.Proofs.YtomfpffooaejoaaDoor

/-- a number's bits, n places up, round -/
def rotl (x : UInt32) (n : Nat) : UInt32 := rotr x (32 - n)
/-- add one number to another one, lay it over a third, turn that up -/
def addS (s : List UInt32) (a b d n : Nat) : List UInt32 :=
  (s.set a (add32 (at32 s a) (at32 s b))).set d (rotl (xor32 (at32 (s.set a (add32 (at32 s a) (at32 s b))) d) (at32 (s.set a (add32 (at32 s a) (at32 s b))) a)) n)
theorem addS_length (s : List UInt32) (a b d n : Nat) : (addS s a b d n).length = s.length := by simp [addS]
def quarterS (s : List UInt32) (a b c d : Nat) : List UInt32 := addS (addS (addS (addS s a b d 16) c d b 12) a b d 8) c d b 7
theorem quarterS_length (s : List UInt32) (a b c d : Nat) : (quarterS s a b c d).length = s.length := by simp [quarterS, addS_length]
/-- the places of the quarters -/
def places : List (Nat × Nat × Nat × Nat) := [(0, 4, 8, 12), (1, 5, 9, 13), (2, 6, 10, 14), (3, 7, 11, 15), (0, 5, 10, 15), (1, 6, 11, 12), (2, 7, 8, 13), (3, 4, 9, 14)]
/-- the first k quarters of a turn -/
def someQ (s : List UInt32) (k : Nat) : List UInt32 := (places.take k).foldl (fun s q => quarterS s q.1 q.2.1 q.2.2.1 q.2.2.2) s
theorem someQ_zero (s : List UInt32) : someQ s 0 = s := rfl
theorem someQ_succ (s : List UInt32) {k : Nat} {q : Nat × Nat × Nat × Nat} (h : places[k]? = some q) : someQ s (k + 1) = quarterS (someQ s k) q.1 q.2.1 q.2.2.1 q.2.2.2 := by
  unfold someQ
  rw [List.take_add_one, h]
  simp
theorem someQ_length (s : List UInt32) (k : Nat) : (someQ s k).length = s.length := by
  unfold someQ
  generalize places.take k = l
  induction l generalizing s with
  | nil => rfl
  | cons q r ih => rw [List.foldl_cons, ih, quarterS_length]
/-- t turns -/
def turnsS (s : List UInt32) : Nat → List UInt32
  | 0 => s
  | t + 1 => someQ (turnsS s t) 8
theorem turnsS_length (s : List UInt32) (t : Nat) : (turnsS s t).length = s.length := by
  induction t with
  | zero => rfl
  | succ t ih => rw [turnsS, someQ_length, ih]
/-- four bytes, the lowest first -/
def le32 (l : List UInt8) (i : Nat) : UInt32 := UInt32.ofNat ((at8 l i).toNat + 256 * (at8 l (i + 1)).toNat + 65536 * (at8 l (i + 2)).toNat + 16777216 * (at8 l (i + 3)).toNat)
def constsS : List UInt32 := [0x61707865, 0x3320646e, 0x79622d32, 0x6b206574]
/-- the sixteen numbers at first -/
def beginS (key nonce : List UInt8) (n : UInt32) : List UInt32 := constsS ++ (List.range 8).map (fun i => le32 key (4 * i)) ++ [n] ++ (List.range 3).map (fun i => le32 nonce (4 * i))
theorem beginS_length (key nonce : List UInt8) (n : UInt32) : (beginS key nonce n).length = 16 := by simp [beginS, constsS]
/-- the i-th byte of a part -/
def byteS (s f : List UInt32) (i : Nat) : UInt8 := UInt8.ofNat ((add32 (at32 s (i / 4)) (at32 f (i / 4))).toNat / 256 ^ (i % 4))
/-- a part -/
def partS (key nonce : List UInt8) (n : UInt32) : List UInt8 := (List.range 64).map fun i => byteS (turnsS (beginS key nonce n) 10) (beginS key nonce n) i
theorem partS_length (key nonce : List UInt8) (n : UInt32) : (partS key nonce n).length = 64 := by simp [partS]
/-- bytes, with the stream laid over them -/
def overS (key nonce b : List UInt8) : List UInt8 := (List.range b.length).map fun i => at8 b i ^^^ at8 (partS key nonce (UInt32.ofNat (i / 64))) (i % 64)
theorem overS_length (key nonce b : List UInt8) : (overS key nonce b).length = b.length := by simp [overS]
theorem overS_at (key nonce b : List UInt8) {i : Nat} (h : i < b.length) : at8 (overS key nonce b) i = at8 b i ^^^ at8 (partS key nonce (UInt32.ofNat (i / 64))) (i % 64) := by
  simp [overS, at8, List.getD, h]
theorem ext8 {a b : List UInt8} (hl : a.length = b.length) (h : ∀ i, i < a.length → at8 a i = at8 b i) : a = b := by
  apply List.ext_getElem hl
  intro i h1 h2
  have := h i h1
  simpa [at8, List.getD, h1, h2] using this
/-- laid over twice bytes are as they were -/
theorem overS_twice (key nonce b : List UInt8) : overS key nonce (overS key nonce b) = b := by
  apply ext8 (by simp [overS_length])
  intro i hi
  rw [overS_length, overS_length] at hi
  rw [overS_at _ _ _ (by rw [overS_length]; exact hi), overS_at _ _ _ hi, UInt8.xor_assoc, UInt8.xor_self, UInt8.xor_zero]
/-- the front of bytes is laid over as it is alone -/
theorem overS_take (key nonce b : List UInt8) {k : Nat} (hk : k ≤ b.length) : (overS key nonce b).take k = overS key nonce (b.take k) := by
  apply ext8 (by rw [List.length_take, overS_length, overS_length, List.length_take])
  intro i hi
  have hi2 : i < k := by simp at hi; omega
  have e : at8 ((overS key nonce b).take k) i = at8 (overS key nonce b) i := by simp [at8, List.getD, hi2]
  have e2 : at8 (b.take k) i = at8 b i := by simp [at8, List.getD, hi2]
  rw [e, overS_at _ _ _ (by omega), overS_at _ _ _ (by simp; omega), e2]
end Go.Proofs.YtomfpffooaejoaaDoor
