/-
  The digest in plain Lean: words of 32 bits, the schedule, the rounds, the padding. No program is named here.
-/
namespace Go.Proofs.YtomfpffooaejoaaDoor

def add32 (x y : UInt32) : UInt32 := x + y
def xor32 (x y : UInt32) : UInt32 := x ^^^ y
def and32 (x y : UInt32) : UInt32 := x &&& y
def or32 (x y : UInt32) : UInt32 := x ||| y
def not32 (x : UInt32) : UInt32 := ~~~ x
def shr32 (x : UInt32) (n : Nat) : UInt32 := UInt32.ofNat (x.toNat / 2 ^ n)
def rotr (x : UInt32) (n : Nat) : UInt32 := UInt32.ofNat (x.toNat / 2 ^ n + x.toNat % 2 ^ n * 2 ^ (32 - n))

theorem rotr_lt (x : UInt32) {n : Nat} (hn : n ≤ 32) : x.toNat / 2 ^ n + x.toNat % 2 ^ n * 2 ^ (32 - n) < 4294967296 := by
  have hx := x.toNat_lt
  have h1 : x.toNat / 2 ^ n < 2 ^ (32 - n) := by
    rw [Nat.div_lt_iff_lt_mul (Nat.pow_pos (by omega)), ← Nat.pow_add, Nat.sub_add_cancel hn]
    exact hx
  have h2 : x.toNat % 2 ^ n < 2 ^ n := Nat.mod_lt _ (Nat.pow_pos (by omega))
  have h3 : x.toNat % 2 ^ n * 2 ^ (32 - n) + 2 ^ (32 - n) ≤ 2 ^ n * 2 ^ (32 - n) := by
    rw [← Nat.succ_mul]
    exact Nat.mul_le_mul_right _ h2
  have h4 : (2 : Nat) ^ n * 2 ^ (32 - n) = 4294967296 := by
    rw [← Nat.pow_add, Nat.add_sub_cancel' hn]
  omega
theorem rotr_toNat (x : UInt32) {n : Nat} (hn : n ≤ 32) : (rotr x n).toNat = x.toNat / 2 ^ n + x.toNat % 2 ^ n * 2 ^ (32 - n) := by
  unfold rotr
  rw [UInt32.toNat_ofNat']
  exact Nat.mod_eq_of_lt (rotr_lt x hn)
theorem rotr_zero (x : UInt32) : rotr x 0 = x := by
  apply UInt32.toNat_inj.1
  rw [rotr_toNat x (by omega)]
  simp [Nat.mod_one]
/-- one place down, round -/
theorem rotr_succ (x : UInt32) {n : Nat} (hn : n < 32) : (rotr x n).toNat / 2 + (rotr x n).toNat % 2 * 2147483648 = (rotr x (n + 1)).toNat := by
  rw [rotr_toNat x (by omega), rotr_toNat x (by omega)]
  obtain ⟨m, hm⟩ : ∃ m, 32 - n = m + 1 := ⟨31 - n, by omega⟩
  have hm2 : 32 - (n + 1) = m := by omega
  rw [hm, hm2]
  have e1 : x.toNat / 2 ^ (n + 1) = x.toNat / 2 ^ n / 2 := by rw [Nat.pow_succ, Nat.div_div_eq_div_mul]
  have e2 : x.toNat % 2 ^ (n + 1) = x.toNat % 2 ^ n + 2 ^ n * (x.toNat / 2 ^ n % 2) := by rw [Nat.pow_succ, Nat.mod_mul]
  have e3 : (2 : Nat) ^ n * 2 ^ m = 2147483648 := by rw [← Nat.pow_add, show n + m = 31 by omega]
  rw [e1, e2]
  generalize x.toNat / 2 ^ n = q
  generalize x.toNat % 2 ^ n = r
  have e4 : r * 2 ^ (m + 1) = 2 * (r * 2 ^ m) := by rw [Nat.pow_succ]; rw [Nat.mul_comm 2, Nat.mul_assoc]
  have e5 : (r + 2 ^ n * (q % 2)) * 2 ^ m = r * 2 ^ m + (q % 2) * 2147483648 := by
    rw [Nat.add_mul, ← e3]
    congr 1
    rw [Nat.mul_comm (2 ^ n) (q % 2), Nat.mul_assoc]
  rw [e4, e5]
  generalize r * 2 ^ m = y
  omega

def S0 (x : UInt32) : UInt32 := xor32 (xor32 (rotr x 2) (rotr x 13)) (rotr x 22)
def S1 (x : UInt32) : UInt32 := xor32 (xor32 (rotr x 6) (rotr x 11)) (rotr x 25)
def s0 (x : UInt32) : UInt32 := xor32 (xor32 (rotr x 7) (rotr x 18)) (shr32 x 3)
def s1 (x : UInt32) : UInt32 := xor32 (xor32 (rotr x 17) (rotr x 19)) (shr32 x 10)
def chF (e f g : UInt32) : UInt32 := xor32 (and32 e f) (and32 (not32 e) g)
def majF (a b c : UInt32) : UInt32 := xor32 (xor32 (and32 a b) (and32 a c)) (and32 b c)

def kList : List UInt32 := [0x428a2f98, 0x71374491, 0xb5c0fbcf, 0xe9b5dba5, 0x3956c25b, 0x59f111f1, 0x923f82a4, 0xab1c5ed5, 0xd807aa98, 0x12835b01, 0x243185be, 0x550c7dc3, 0x72be5d74, 0x80deb1fe, 0x9bdc06a7, 0xc19bf174,
  0xe49b69c1, 0xefbe4786, 0x0fc19dc6, 0x240ca1cc, 0x2de92c6f, 0x4a7484aa, 0x5cb0a9dc, 0x76f988da, 0x983e5152, 0xa831c66d, 0xb00327c8, 0xbf597fc7, 0xc6e00bf3, 0xd5a79147, 0x06ca6351, 0x14292967,
  0x27b70a85, 0x2e1b2138, 0x4d2c6dfc, 0x53380d13, 0x650a7354, 0x766a0abb, 0x81c2c92e, 0x92722c85, 0xa2bfe8a1, 0xa81a664b, 0xc24b8b70, 0xc76c51a3, 0xd192e819, 0xd6990624, 0xf40e3585, 0x106aa070,
  0x19a4c116, 0x1e376c08, 0x2748774c, 0x34b0bcb5, 0x391c0cb3, 0x4ed8aa4a, 0x5b9cca4f, 0x682e6ff3, 0x748f82ee, 0x78a5636f, 0x84c87814, 0x8cc70208, 0x90befffa, 0xa4506ceb, 0xbef9a3f7, 0xc67178f2]
def kAt (i : Nat) : UInt32 := kList.getD i 0
def h0List : List UInt32 := [0x6a09e667, 0xbb67ae85, 0x3c6ef372, 0xa54ff53a, 0x510e527f, 0x9b05688c, 0x1f83d9ab, 0x5be0cd19]

/-- the i-th byte -/
def byteAt (b : List UInt8) (i : Nat) : UInt8 := b.getD i 0
/-- the i-th word, the first byte highest -/
def beW (b : List UInt8) (i : Nat) : UInt32 :=
  UInt32.ofNat ((byteAt b (4 * i)).toNat * 16777216 + (byteAt b (4 * i + 1)).toNat * 65536 + (byteAt b (4 * i + 2)).toNat * 256 + (byteAt b (4 * i + 3)).toNat)

def nextW (r : List UInt32) : UInt32 := add32 (add32 (add32 (r.getD 15 0) (s0 (r.getD 14 0))) (r.getD 6 0)) (s1 (r.getD 1 0))
/-- the first n words, the newest first -/
def sched (b : List UInt8) : Nat → List UInt32
  | 0 => []
  | n + 1 => (if n < 16 then beW b n else nextW (sched b n)) :: sched b n
/-- the i-th word of the schedule -/
def wd (b : List UInt8) (i : Nat) : UInt32 := if i < 16 then beW b i else nextW (sched b i)

theorem sched_length (b : List UInt8) (n : Nat) : (sched b n).length = n := by
  induction n with
  | zero => rfl
  | succ n ih => simp [sched, ih]
theorem sched_at (b : List UInt8) (n : Nat) : ∀ j, j < n → (sched b n).getD j 0 = wd b (n - 1 - j) := by
  induction n with
  | zero => intro j hj; omega
  | succ n ih =>
    intro j hj
    cases j with
    | zero => simp [sched, wd]
    | succ j =>
      have := ih j (by omega)
      rw [show n + 1 - 1 - (j + 1) = n - 1 - j by omega, ← this]
      simp [sched]
theorem wd_low (b : List UInt8) {i : Nat} (h : i < 16) : wd b i = beW b i := if_pos h
theorem wd_high (b : List UInt8) {i : Nat} (h : 16 ≤ i) : wd b i = add32 (add32 (add32 (wd b (i - 16)) (s0 (wd b (i - 15)))) (wd b (i - 7))) (s1 (wd b (i - 2))) := by
  unfold wd
  rw [if_neg (by omega)]
  unfold nextW
  rw [sched_at b i 15 (by omega), sched_at b i 14 (by omega), sched_at b i 6 (by omega), sched_at b i 1 (by omega)]
  rw [show i - 1 - 15 = i - 16 by omega, show i - 1 - 14 = i - 15 by omega, show i - 1 - 6 = i - 7 by omega, show i - 1 - 1 = i - 2 by omega]
  rfl

def t1F (e f g h k w : UInt32) : UInt32 := add32 (add32 (add32 (add32 h (S1 e)) (chF e f g)) k) w
def t2F (a b c : UInt32) : UInt32 := add32 (S0 a) (majF a b c)
/-- a round -/
def step (s : List UInt32) (k w : UInt32) : List UInt32 :=
  match s with
  | [a, b, c, d, e, f, g, h] => [add32 (t1F e f g h k w) (t2F a b c), a, b, c, add32 d (t1F e f g h k w), e, f, g]
  | _ => []
/-- the numbers behind i rounds -/
def rnds (b : List UInt8) (s : List UInt32) : Nat → List UInt32
  | 0 => s
  | i + 1 => step (rnds b s i) (kAt i) (wd b i)
theorem step_length {s : List UInt32} (h : s.length = 8) (k w : UInt32) : (step s k w).length = 8 := by
  match s, h with
  | [a, b, c, d, e, f, g, h'], _ => rfl
theorem rnds_length (b : List UInt8) {s : List UInt32} (h : s.length = 8) (i : Nat) : (rnds b s i).length = 8 := by
  induction i with
  | zero => exact h
  | succ i ih => exact step_length ih _ _
theorem eight {s : List UInt32} (h : s.length = 8) : ∃ a b c d e f g k, s = [a, b, c, d, e, f, g, k] := by
  match s, h with
  | [a, b, c, d, e, f, g, k], _ => exact ⟨a, b, c, d, e, f, g, k, rfl⟩
/-- sixty-four bytes taken -/
def comp (s : List UInt32) (b : List UInt8) : List UInt32 := (List.range 8).map fun j => add32 (s.getD j 0) ((rnds b s 64).getD j 0)
theorem comp_length (s : List UInt32) (b : List UInt8) : (comp s b).length = 8 := by simp [comp]

/-- how many noughts stand ahead of the length -/
def zeros (n : Nat) : Nat := (119 - n % 64) % 64
def be8 (n : Nat) : List UInt8 := (List.range 8).map fun i => UInt8.ofNat (n / 256 ^ (7 - i))
def padM (m : List UInt8) : List UInt8 := m ++ [128] ++ List.replicate (zeros m.length) 0 ++ be8 (m.length * 8)
/-- the numbers behind k parts -/
def parts (p : List UInt8) : Nat → List UInt32
  | 0 => h0List
  | k + 1 => comp (parts p k) (p.drop (64 * k))
def outB (s : List UInt32) : List UInt8 := (List.range 32).map fun i => UInt8.ofNat ((s.getD (i / 4) 0).toNat / 2 ^ (24 - i % 4 * 8))
/-- THE DIGEST -/
def sha (m : List UInt8) : List UInt8 := outB (parts (padM m) ((padM m).length / 64))

theorem zeros_spec (n : Nat) : (n + 1 + zeros n) % 64 = 56 := by unfold zeros; omega
theorem zeros_least {n k : Nat} (h : k < zeros n) : (n + 1 + k) % 64 ≠ 56 := by unfold zeros at h; omega
theorem be8_length (n : Nat) : (be8 n).length = 8 := by simp [be8]
theorem padM_length (m : List UInt8) : (padM m).length = m.length + 1 + zeros m.length + 8 := by simp [padM, be8_length]; omega
theorem padM_mod (m : List UInt8) : (padM m).length % 64 = 0 := by
  rw [padM_length]
  have := zeros_spec m.length
  omega
theorem parts_length (p : List UInt8) (k : Nat) : (parts p k).length = 8 := by
  cases k with
  | zero => rfl
  | succ k => exact comp_length _ _
theorem sha_length (m : List UInt8) : (sha m).length = 32 := by simp [sha, outB]

/-- a part's words hang on its first 64 bytes alone -/
theorem beW_take (b : List UInt8) {i : Nat} (h : i < 16) : beW (b.take 64) i = beW b i := by
  have e : ∀ j, j < 64 → byteAt (b.take 64) j = byteAt b j := fun j hj => by
    unfold byteAt
    rw [List.getD_eq_getElem?_getD, List.getD_eq_getElem?_getD, List.getElem?_take, if_pos hj]
  unfold beW
  rw [e _ (by omega), e _ (by omega), e _ (by omega), e _ (by omega)]
theorem wd_take (b : List UInt8) : ∀ i, wd (b.take 64) i = wd b i := by
  intro i
  induction i using Nat.strongRecOn with
  | ind i ih =>
    by_cases h : i < 16
    · rw [wd_low _ h, wd_low _ h, beW_take b h]
    · have h16 : 16 ≤ i := by omega
      rw [wd_high (b.take 64) h16, wd_high b h16, ih (i - 16) (by omega), ih (i - 15) (by omega), ih (i - 7) (by omega), ih (i - 2) (by omega)]
theorem comp_take (s : List UInt32) (b : List UInt8) : comp s (b.take 64) = comp s b := by
  have e : ∀ i, rnds (b.take 64) s i = rnds b s i := fun i => by
    induction i with
    | zero => rfl
    | succ i ih => rw [rnds, rnds, ih, wd_take]
  unfold comp
  rw [e]
end Go.Proofs.YtomfpffooaejoaaDoor
