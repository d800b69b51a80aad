
/-
  What a key says of bytes, in plain Lean. No program is named here.
-/
/-
  What is used by all walks of this seat: blocks that are known whole, frames, small facts on results. No program is named here.
-/
/-
  Numbers of 32 bits, rows of them, and turns of their bits, as a walk meets them. No program is named here.
-/
/-
  Rows of bytes: known slices, rows of the call's own, strings; one byte more is laid behind a row. No program is named here.
-/
/-
  The stream in plain Lean: the quarters, the rounds, a part, bytes laid over. No program is named here.
-/
/-
  A region that draws its order, where each operation's value is told by what holds of it in every later world: the order does not matter. No program is named here.
-/
/-
  Small facts that several walks use: the types of bytes and of rows of bytes, bytes laid over, rows of the call's own as blocks.
-/
/-
  More on rows of bytes. No program is named here.
-/
/-
  Copies into a block that is known; loads and appends of bytes. No program is named here.
-/
/-
  Regions that draw their order, told by a list of assertions. No program is named here.
-/
/-
  Regions that draw their order but for a tail: what stands behind all else is walked as it is written. No program is named here.
-/
/-
  Numbers and bytes, one behind the other, in just one way, in plain Lean. No program is named here.
-/
import Derived.WalkKit
import Derived.WalkSpells
import Derived.WalkLawsBesides
import Derived.Lib.Hide
import Derived.Deep.Draws
import Derived.Deep.QuietTactic
import Derived.BigQuiet
import Derived.Deep.MidRow
import Derived.Deep.RegionHeld3
import Derived.BigRegion
import Derived.StillTailTactics
import Derived.Laws.AppendOwn
import Derived.Laws.BytesArg
import Derived.Lib.SlBytesConst
import Derived.Shelf.Bytes.SlJoin
import Derived.Orders
import Derived.Test.YtlkhbfafednegaaDoorRows
import Derived.Laws.CopyOwn
/-
  The digest in plain Lean: words of 32 bits, the schedule, the rounds, the padding. No program is named here.
-/
namespace Go.Proofs.YtlkhbfafednegaaDoor

def add32 (x y : UInt32) : UInt32 := x + y
def xor32 (x y : UInt32) : UInt32 := x ^^^ y
def and32 (x y : UInt32) : UInt32 := x &&& y
def or32 (x y : UInt32) : UInt32 := x ||| y
def not32 (x : UInt32) : UInt32 := ~~~ x
def shr32 (x : UInt32) (n : Nat) : UInt32 := UInt32.ofNat (x.toNat / 2 ^ n)
def rotr (x : UInt32) (n : Nat) : UInt32 := UInt32.ofNat (x.toNat / 2 ^ n + x.toNat % 2 ^ n * 2 ^ (32 - n))

theorem rotr_lt (x : UInt32) {n : Nat} (hn : n ≤ 32) : x.toNat / 2 ^ n + x.toNat % 2 ^ n * 2 ^ (32 - n) < 4294967296 := by
  have hx := x.toNat_lt
  have h1 : x.toNat / 2 ^ n < 2 ^ (32 - n) := by
    rw [Nat.div_lt_iff_lt_mul (Nat.pow_pos (by omega)), ← Nat.pow_add, Nat.sub_add_cancel hn]
    exact hx
  have h2 : x.toNat % 2 ^ n < 2 ^ n := Nat.mod_lt _ (Nat.pow_pos (by omega))
  have h3 : x.toNat % 2 ^ n * 2 ^ (32 - n) + 2 ^ (32 - n) ≤ 2 ^ n * 2 ^ (32 - n) := by
    rw [← Nat.succ_mul]
    exact Nat.mul_le_mul_right _ h2
  have h4 : (2 : Nat) ^ n * 2 ^ (32 - n) = 4294967296 := by
    rw [← Nat.pow_add, Nat.add_sub_cancel' hn]
  omega
theorem rotr_toNat (x : UInt32) {n : Nat} (hn : n ≤ 32) : (rotr x n).toNat = x.toNat / 2 ^ n + x.toNat % 2 ^ n * 2 ^ (32 - n) := by
  unfold rotr
  rw [UInt32.toNat_ofNat']
  exact Nat.mod_eq_of_lt (rotr_lt x hn)
theorem rotr_zero (x : UInt32) : rotr x 0 = x := by
  apply UInt32.toNat_inj.1
  rw [rotr_toNat x (by omega)]
  simp [Nat.mod_one]
/-- one place down, round -/
theorem rotr_succ (x : UInt32) {n : Nat} (hn : n < 32) : (rotr x n).toNat / 2 + (rotr x n).toNat % 2 * 2147483648 = (rotr x (n + 1)).toNat := by
  rw [rotr_toNat x (by omega), rotr_toNat x (by omega)]
  obtain ⟨m, hm⟩ : ∃ m, 32 - n = m + 1 := ⟨31 - n, by omega⟩
  have hm2 : 32 - (n + 1) = m := by omega
  rw [hm, hm2]
  have e1 : x.toNat / 2 ^ (n + 1) = x.toNat / 2 ^ n / 2 := by rw [Nat.pow_succ, Nat.div_div_eq_div_mul]
  have e2 : x.toNat % 2 ^ (n + 1) = x.toNat % 2 ^ n + 2 ^ n * (x.toNat / 2 ^ n % 2) := by rw [Nat.pow_succ, Nat.mod_mul]
  have e3 : (2 : Nat) ^ n * 2 ^ m = 2147483648 := by rw [← Nat.pow_add, show n + m = 31 by omega]
  rw [e1, e2]
  generalize x.toNat / 2 ^ n = q
  generalize x.toNat % 2 ^ n = r
  have e4 : r * 2 ^ (m + 1) = 2 * (r * 2 ^ m) := by rw [Nat.pow_succ]; rw [Nat.mul_comm 2, Nat.mul_assoc]
  have e5 : (r + 2 ^ n * (q % 2)) * 2 ^ m = r * 2 ^ m + (q % 2) * 2147483648 := by
    rw [Nat.add_mul, ← e3]
    congr 1
    rw [Nat.mul_comm (2 ^ n) (q % 2), Nat.mul_assoc]
  rw [e4, e5]
  generalize r * 2 ^ m = y
  omega

def S0 (x : UInt32) : UInt32 := xor32 (xor32 (rotr x 2) (rotr x 13)) (rotr x 22)
def S1 (x : UInt32) : UInt32 := xor32 (xor32 (rotr x 6) (rotr x 11)) (rotr x 25)
def s0 (x : UInt32) : UInt32 := xor32 (xor32 (rotr x 7) (rotr x 18)) (shr32 x 3)
def s1 (x : UInt32) : UInt32 := xor32 (xor32 (rotr x 17) (rotr x 19)) (shr32 x 10)
def chF (e f g : UInt32) : UInt32 := xor32 (and32 e f) (and32 (not32 e) g)
def majF (a b c : UInt32) : UInt32 := xor32 (xor32 (and32 a b) (and32 a c)) (and32 b c)

def kList : List UInt32 := [0x428a2f98, 0x71374491, 0xb5c0fbcf, 0xe9b5dba5, 0x3956c25b, 0x59f111f1, 0x923f82a4, 0xab1c5ed5, 0xd807aa98, 0x12835b01, 0x243185be, 0x550c7dc3, 0x72be5d74, 0x80deb1fe, 0x9bdc06a7, 0xc19bf174,
  0xe49b69c1, 0xefbe4786, 0x0fc19dc6, 0x240ca1cc, 0x2de92c6f, 0x4a7484aa, 0x5cb0a9dc, 0x76f988da, 0x983e5152, 0xa831c66d, 0xb00327c8, 0xbf597fc7, 0xc6e00bf3, 0xd5a79147, 0x06ca6351, 0x14292967,
  0x27b70a85, 0x2e1b2138, 0x4d2c6dfc, 0x53380d13, 0x650a7354, 0x766a0abb, 0x81c2c92e, 0x92722c85, 0xa2bfe8a1, 0xa81a664b, 0xc24b8b70, 0xc76c51a3, 0xd192e819, 0xd6990624, 0xf40e3585, 0x106aa070,
  0x19a4c116, 0x1e376c08, 0x2748774c, 0x34b0bcb5, 0x391c0cb3, 0x4ed8aa4a, 0x5b9cca4f, 0x682e6ff3, 0x748f82ee, 0x78a5636f, 0x84c87814, 0x8cc70208, 0x90befffa, 0xa4506ceb, 0xbef9a3f7, 0xc67178f2]
def kAt (i : Nat) : UInt32 := kList.getD i 0
def h0List : List UInt32 := [0x6a09e667, 0xbb67ae85, 0x3c6ef372, 0xa54ff53a, 0x510e527f, 0x9b05688c, 0x1f83d9ab, 0x5be0cd19]

/-- the i-th byte -/
def byteAt (b : List UInt8) (i : Nat) : UInt8 := b.getD i 0
/-- the i-th word, the first byte highest -/
def beW (b : List UInt8) (i : Nat) : UInt32 :=
  UInt32.ofNat ((byteAt b (4 * i)).toNat * 16777216 + (byteAt b (4 * i + 1)).toNat * 65536 + (byteAt b (4 * i + 2)).toNat * 256 + (byteAt b (4 * i + 3)).toNat)

def nextW (r : List UInt32) : UInt32 := add32 (add32 (add32 (r.getD 15 0) (s0 (r.getD 14 0))) (r.getD 6 0)) (s1 (r.getD 1 0))
/-- the first n words, the newest first -/
def sched (b : List UInt8) : Nat → List UInt32
  | 0 => []
  | n + 1 => (if n < 16 then beW b n else nextW (sched b n)) :: sched b n
/-- the i-th word of the schedule -/
def wd (b : List UInt8) (i : Nat) : UInt32 := if i < 16 then beW b i else nextW (sched b i)

theorem sched_length (b : List UInt8) (n : Nat) : (sched b n).length = n := by
  induction n with
  | zero => rfl
  | succ n ih => simp [sched, ih]
theorem sched_at (b : List UInt8) (n : Nat) : ∀ j, j < n → (sched b n).getD j 0 = wd b (n - 1 - j) := by
  induction n with
  | zero => intro j hj; omega
  | succ n ih =>
    intro j hj
    cases j with
    | zero => simp [sched, wd]
    | succ j =>
      have := ih j (by omega)
      rw [show n + 1 - 1 - (j + 1) = n - 1 - j by omega, ← this]
      simp [sched]
theorem wd_low (b : List UInt8) {i : Nat} (h : i < 16) : wd b i = beW b i := if_pos h
theorem wd_high (b : List UInt8) {i : Nat} (h : 16 ≤ i) : wd b i = add32 (add32 (add32 (wd b (i - 16)) (s0 (wd b (i - 15)))) (wd b (i - 7))) (s1 (wd b (i - 2))) := by
  unfold wd
  rw [if_neg (by omega)]
  unfold nextW
  rw [sched_at b i 15 (by omega), sched_at b i 14 (by omega), sched_at b i 6 (by omega), sched_at b i 1 (by omega)]
  rw [show i - 1 - 15 = i - 16 by omega, show i - 1 - 14 = i - 15 by omega, show i - 1 - 6 = i - 7 by omega, show i - 1 - 1 = i - 2 by omega]
  rfl

def t1F (e f g h k w : UInt32) : UInt32 := add32 (add32 (add32 (add32 h (S1 e)) (chF e f g)) k) w
def t2F (a b c : UInt32) : UInt32 := add32 (S0 a) (majF a b c)
/-- a round -/
def step (s : List UInt32) (k w : UInt32) : List UInt32 :=
  match s with
  | [a, b, c, d, e, f, g, h] => [add32 (t1F e f g h k w) (t2F a b c), a, b, c, add32 d (t1F e f g h k w), e, f, g]
  | _ => []
/-- the numbers behind i rounds -/
def rnds (b : List UInt8) (s : List UInt32) : Nat → List UInt32
  | 0 => s
  | i + 1 => step (rnds b s i) (kAt i) (wd b i)
theorem step_length {s : List UInt32} (h : s.length = 8) (k w : UInt32) : (step s k w).length = 8 := by
  match s, h with
  | [a, b, c, d, e, f, g, h'], _ => rfl
theorem rnds_length (b : List UInt8) {s : List UInt32} (h : s.length = 8) (i : Nat) : (rnds b s i).length = 8 := by
  induction i with
  | zero => exact h
  | succ i ih => exact step_length ih _ _
theorem eight {s : List UInt32} (h : s.length = 8) : ∃ a b c d e f g k, s = [a, b, c, d, e, f, g, k] := by
  match s, h with
  | [a, b, c, d, e, f, g, k], _ => exact ⟨a, b, c, d, e, f, g, k, rfl⟩
/-- sixty-four bytes taken -/
def comp (s : List UInt32) (b : List UInt8) : List UInt32 := (List.range 8).map fun j => add32 (s.getD j 0) ((rnds b s 64).getD j 0)
theorem comp_length (s : List UInt32) (b : List UInt8) : (comp s b).length = 8 := by simp [comp]

/-- how many noughts stand ahead of the length -/
def zeros (n : Nat) : Nat := (119 - n % 64) % 64
def be8 (n : Nat) : List UInt8 := (List.range 8).map fun i => UInt8.ofNat (n / 256 ^ (7 - i))
def padM (m : List UInt8) : List UInt8 := m ++ [128] ++ List.replicate (zeros m.length) 0 ++ be8 (m.length * 8)
/-- the numbers behind k parts -/
def parts (p : List UInt8) : Nat → List UInt32
  | 0 => h0List
  | k + 1 => comp (parts p k) (p.drop (64 * k))
def outB (s : List UInt32) : List UInt8 := (List.range 32).map fun i => UInt8.ofNat ((s.getD (i / 4) 0).toNat / 2 ^ (24 - i % 4 * 8))
/-- THE DIGEST -/
def sha (m : List UInt8) : List UInt8 := outB (parts (padM m) ((padM m).length / 64))

theorem zeros_spec (n : Nat) : (n + 1 + zeros n) % 64 = 56 := by unfold zeros; omega
theorem zeros_least {n k : Nat} (h : k < zeros n) : (n + 1 + k) % 64 ≠ 56 := by unfold zeros at h; omega
theorem be8_length (n : Nat) : (be8 n).length = 8 := by simp [be8]
theorem padM_length (m : List UInt8) : (padM m).length = m.length + 1 + zeros m.length + 8 := by simp [padM, be8_length]; omega
theorem padM_mod (m : List UInt8) : (padM m).length % 64 = 0 := by
  rw [padM_length]
  have := zeros_spec m.length
  omega
theorem parts_length (p : List UInt8) (k : Nat) : (parts p k).length = 8 := by
  cases k with
  | zero => rfl
  | succ k => exact comp_length _ _
theorem sha_length (m : List UInt8) : (sha m).length = 32 := by simp [sha, outB]

/-- a part's words hang on its first 64 bytes alone -/
theorem beW_take (b : List UInt8) {i : Nat} (h : i < 16) : beW (b.take 64) i = beW b i := by
  have e : ∀ j, j < 64 → byteAt (b.take 64) j = byteAt b j := fun j hj => by
    unfold byteAt
    rw [List.getD_eq_getElem?_getD, List.getD_eq_getElem?_getD, List.getElem?_take, if_pos hj]
  unfold beW
  rw [e _ (by omega), e _ (by omega), e _ (by omega), e _ (by omega)]
theorem wd_take (b : List UInt8) : ∀ i, wd (b.take 64) i = wd b i := by
  intro i
  induction i using Nat.strongRecOn with
  | ind i ih =>
    by_cases h : i < 16
    · rw [wd_low _ h, wd_low _ h, beW_take b h]
    · have h16 : 16 ≤ i := by omega
      rw [wd_high (b.take 64) h16, wd_high b h16, ih (i - 16) (by omega), ih (i - 15) (by omega), ih (i - 7) (by omega), ih (i - 2) (by omega)]
theorem comp_take (s : List UInt32) (b : List UInt8) : comp s (b.take 64) = comp s b := by
  have e : ∀ i, rnds (b.take 64) s i = rnds b s i := fun i => by
    induction i with
    | zero => rfl
    | succ i ih => rw [rnds, rnds, ih, wd_take]
  unfold comp
  rw [e]
end Go.Proofs.YtlkhbfafednegaaDoor
namespace Go.Proofs.YtlkhbfafednegaaDoor

/-- a key's 64 bytes, each laid over by one -/
def padK (key : List UInt8) (x : UInt8) : List UInt8 := (List.range 64).map fun i => key.getD i 0 ^^^ x
theorem padK_length (key : List UInt8) (x : UInt8) : (padK key x).length = 64 := by simp [padK]
/-- what a key says -/
def macF (key m : List UInt8) : List UInt8 := sha (padK key 92 ++ sha (padK key 54 ++ m))
theorem macF_length (key m : List UInt8) : (macF key m).length = 32 := sha_length _
/-- a number's eight bytes, the lowest first -/
def le8 (n : Nat) : List UInt8 := (List.range 8).map fun i => UInt8.ofNat (n / 256 ^ i)
theorem le8_length (n : Nat) : (le8 n).length = 8 := by simp [le8]
theorem le8_take (n : Nat) {k : Nat} (h : k < 8) : (le8 n).take (k + 1) = (le8 n).take k ++ [UInt8.ofNat (n / 256 ^ k)] := by
  rw [List.take_add_one]
  simp [le8, h]
/-- the key of a name and a number -/
def derF (key name : List UInt8) (n : Nat) : List UInt8 := macF key (name ++ [0] ++ le8 n)
theorem derF_length (key name : List UInt8) (n : Nat) : (derF key name n).length = 32 := sha_length _

/-- the first k bytes of a pad are laid over, the key's bytes and noughts stand behind -/
def padF (key : List UInt8) (x : UInt8) (k : Nat) : List UInt8 := (List.range 64).map fun i => if i < k then key.getD i 0 ^^^ x else key.getD i 0
theorem padF_length (key : List UInt8) (x : UInt8) (k : Nat) : (padF key x k).length = 64 := by simp [padF]
theorem padF_all (key : List UInt8) (x : UInt8) : padF key x 64 = padK key x := by
  apply List.map_congr_left
  intro i hi
  have hi : i < 64 := by simpa using hi
  rw [if_pos hi]
theorem padF_zero (key : List UInt8) (x : UInt8) (h : key.length = 32) : padF key x 0 = key ++ List.replicate 32 0 := by
  apply List.ext_getElem (by simp [padF, h])
  intro i h1 h2
  simp only [padF, List.getElem_map, List.getElem_range, Nat.not_lt_zero, if_false]
  rw [List.getElem_append]
  split
  · rename_i hi; simp [List.getD, hi]
  · rename_i hi; rw [List.getElem_replicate]; simp [List.getD, hi]
theorem padF_set (key : List UInt8) (x : UInt8) {k : Nat} (h : k < 64) : (padF key x k).set k (key.getD k 0 ^^^ x) = padF key x (k + 1) := by
  apply List.ext_getElem?
  intro j
  rw [List.getElem?_set]
  simp only [padF, List.length_map, List.length_range, List.getElem?_map]
  by_cases h1 : k = j
  · subst h1; simp [h]
  · by_cases h2 : j < 64
    · rw [if_neg h1]
      simp only [h2, List.getElem?_range, Option.map_some]
      by_cases h3 : j < k
      · rw [if_pos h3, if_pos (by omega)]
      · rw [if_neg h3, if_neg (by omega)]
    · rw [if_neg h1]
      simp [h2]
theorem padF_at (key : List UInt8) (x : UInt8) {k : Nat} (h : k < 64) : (padF key x k).getD k 0 = key.getD k 0 := by
  simp [padF, List.getD, h]
end Go.Proofs.YtlkhbfafednegaaDoor
namespace Go.Proofs.YtlkhbfafednegaaDoor
open Go Go.RowKit

/-- Block g of w is just the cells cs of element type t; none may not be written. -/
def Blk (w : World) (g : Nat) (t : TypeId) (cs : Array Value) : Prop := w.heap[g]? = some (.cells cs t (0, 0))

section
variable {w w' : World} {g : Nat} {t : TypeId} {cs : Array Value}
theorem Blk.lt (h : Blk w g t cs) : g < w.heap.size := (Array.getElem?_eq_some_iff.1 h).1
theorem Blk.cell (h : Blk w g t cs) (i : Nat) : w.cell? ⟨g, i, none⟩ = cs[i]? := by
  have e : w.heap[g]? = some (.cells cs t (0, 0)) := h
  simp [World.cell?, e]
theorem Blk.frozen (h : Blk w g t cs) (i : Nat) : w.frozen? ⟨g, i, none⟩ = false := by
  have e : w.heap[g]? = some (.cells cs t (0, 0)) := h
  simp [World.frozen?, e]
theorem Blk.new (w : World) (t : TypeId) (cs : Array Value) : Blk (w.alloc (.cells cs t)) w.heap.size t cs := heap_alloc_new w _
theorem Blk.new' {w : World} {g : Nat} (e : w.heap.size = g) (t : TypeId) (cs : Array Value) : Blk (w.alloc (.cells cs t)) g t cs := e ▸ Blk.new w t cs
theorem Blk.alloc (h : Blk w g t cs) (o : Obj) : Blk (w.alloc o) g t cs := (Below.heap_alloc w o g h.lt).trans h
theorem Blk.drew (h : Blk w g t cs) : Blk w.drew g t cs := h
theorem Blk.drewN (h : Blk w g t cs) (n : Nat) : Blk (w.drewN n) g t cs := h
theorem Blk.store (h : Blk w g t cs) (i : Nat) (u : Value) : Blk (w.setCell ⟨g, i, none⟩ u) g t (cs.setIfInBounds i u) := by
  have e : w.heap[g]? = some (.cells cs t (0, 0)) := h
  show (w.setCell _ u).heap[g]? = _
  simp [World.setCell, Array.getElem?_modify, e]
theorem Blk.other (h : Blk w g t cs) {p : Addr} (hp : g ≠ p.block) (u : Value) : Blk (w.setCell p u) g t cs := (Below.heap_setCell w p u g hp).trans h
theorem Blk.below {B : Nat} (h : Blk w g t cs) (hb : Below B w w') (hg : g < B) : Blk w' g t cs := (hb.block g hg).trans h
theorem Blk.grown {row : Option Nat} (h : Blk w g t cs) (hb : w.grownBy w' row) (hg : some g ≠ row) : Blk w' g t cs := (hb.block g h.lt hg).trans h
theorem Blk.mk_eq (h : Blk w g t cs) {ds : Array Value} (e : cs = ds) : Blk w g t ds := e ▸ h
end

section
variable {a w w' : World} {row : Option Nat}
theorem Only.new (h : a.grownBy w row) (o : Obj) : a.grownBy (w.alloc o) row := by
  refine ⟨h.os, h.tape, h.output, Nat.le_trans h.size (by simp), fun i hi hne => ?_⟩
  rw [Below.heap_alloc w o i (Nat.lt_of_lt_of_le hi h.size)]
  exact h.block i hi hne
theorem Only.store {g : Nat} (h : a.grownBy w (some g)) {p : Addr} (hp : p.block = g ∨ a.heap.size ≤ p.block) (u : Value) : a.grownBy (w.setCell p u) (some g) := by
  refine ⟨h.os, h.tape, h.output, ?_, fun i hi hne => ?_⟩
  · simpa [World.setCell] using h.size
  · have hip : i ≠ p.block := by
      intro e
      rcases hp with hp | hp
      · exact hne (by rw [e, hp])
      · omega
    rw [Below.heap_setCell w p u i hip]
    exact h.block i hi hne
theorem Only.drewN (h : a.grownBy w row) (n : Nat) : a.grownBy (w.drewN n) row := ⟨h.os, h.tape, h.output, h.size, h.block⟩
theorem Only.drew (h : a.grownBy w row) : a.grownBy w.drew row := ⟨h.os, h.tape, h.output, h.size, h.block⟩
theorem Only.below (h : a.grownBy w row) {B : Nat} (hb : Below B w w') (hB : a.heap.size ≤ B) : a.grownBy w' row :=
  ⟨hb.os.trans h.os, hb.tape.trans h.tape, hb.output.trans h.output, Nat.le_trans h.size hb.size, fun i hi hn => (hb.block i (by omega)).trans (h.block i hi hn)⟩
/-- two calls that each turn block g alone (or what is new) -/
theorem Only.trans {g : Nat} (h : a.grownBy w (some g)) {r : Option Nat} (k : w.grownBy w' r) (hr : ∀ j, r = some j → j = g ∨ a.heap.size ≤ j) : a.grownBy w' (some g) :=
  ⟨k.os.trans h.os, k.tape.trans h.tape, k.output.trans h.output, Nat.le_trans h.size k.size, fun i hi hn => by
    have hne : some i ≠ r := by
      intro e
      rcases hr i e.symm with e2 | e2
      · exact hn (by rw [e2])
      · omega
    exact (k.block i (Nat.lt_of_lt_of_le hi h.size) hne).trans (h.block i hi hn)⟩
end

/-- a cell that has just been written, in a world that is a variable -/
@[go_sem] theorem cell_stored (w : World) (b o : Nat) (v : Value) : (w.setCell ⟨b, o, none⟩ v).cell? ⟨b, o, none⟩ = (w.cell? ⟨b, o, none⟩).map fun _ => v := by
  simp only [World.setCell, World.cell?, Array.getElem?_modify]
  cases hb : w.heap[b]? with
  | none => simp
  | some x => cases x <;> simp [Array.getElem?_setIfInBounds] <;> split <;> simp_all

section
variable {P : Program}
/-- a first result that lies in a block, a second one in a slot -/
theorem results_cell_tmp {fn : Func} {p q : Tmp} {ty : TypeId} (h : fn.results = #[.cell p ty, .tmp q]) {tmps : Array Value} {w : World} {g : Nat} {t : TypeId} {cs : Array Value}
    (hp : tmps.getD p undef = .pointer (some ⟨g, 0, none⟩)) (hg : Blk w g t cs) {d : TypeDesc}
    (hu : P.underlying ty = some d) (hd : (match d with | .struct _ | .array _ _ => true | _ => false) = true) (hi : (P.info? ty).map (·.size) = some cs.size) :
    (results fn tmps).run P w = .ok (.tuple #[.agg cs, tmps.getD q undef]) w := by
  have hp' : tmps[p]?.getD undef = .pointer (some ⟨g, 0, none⟩) := by simpa using hp
  simp [results, h, hp', asAddr, run_loadVar_row w g t ty cs (0, 0) d hg hu hd hi]
theorem results_cell {fn : Func} {p : Tmp} {ty : TypeId} (h : fn.results = #[.cell p ty]) {tmps : Array Value} {w : World} {g : Nat} {t : TypeId} {cs : Array Value}
    (hp : tmps.getD p undef = .pointer (some ⟨g, 0, none⟩)) (hg : Blk w g t cs) {d : TypeDesc}
    (hu : P.underlying ty = some d) (hd : (match d with | .struct _ | .array _ _ => true | _ => false) = true) (hi : (P.info? ty).map (·.size) = some cs.size) :
    (results fn tmps).run P w = .ok (.agg cs) w := results_cell_row h tmps w g t cs (0, 0) d hp hg hu hd hi
end

/-- A slice at A reads as the cells vs (each element one cell), below block B. -/
def Rd (w : World) (B : Nat) (A : Option Addr) (vs : List Value) : Prop :=
  vs = [] ∨ ∃ b off, A = some ⟨b, off, none⟩ ∧ b < B ∧ ∀ (i : Nat) (v : Value), vs[i]? = some v → w.cell? ⟨b, off + i, none⟩ = some v
section
variable {w w' : World} {B : Nat} {A : Option Addr} {vs : List Value}
theorem Rd.nil : Rd w B A [] := .inl rfl
theorem Rd.at_ (h : Rd w B A vs) {i : Nat} {v : Value} (hi : vs[i]? = some v) : ∃ b off, A = some ⟨b, off, none⟩ ∧ b < B ∧ w.cell? ⟨b, off + i, none⟩ = some v := by
  rcases h with rfl | ⟨b, off, hA, hb, hc⟩
  · simp at hi
  · exact ⟨b, off, hA, hb, hc i v hi⟩
theorem Rd.keep (h : Rd w B A vs) (hk : ∀ b o, b < B → w'.cell? ⟨b, o, none⟩ = w.cell? ⟨b, o, none⟩) : Rd w' B A vs := by
  rcases h with h | ⟨b, off, hA, hb, hc⟩
  · exact .inl h
  · exact .inr ⟨b, off, hA, hb, fun i v hi => (hk b _ hb).trans (hc i v hi)⟩
theorem Rd.below (h : Rd w B A vs) (hb : Below B w w') : Rd w' B A vs := h.keep fun b o hlt => hb.cell (p := ⟨b, o, none⟩) hlt
theorem Rd.more (h : Rd w B A vs) {B' : Nat} (hB : B ≤ B') : Rd w B' A vs := by
  rcases h with h | ⟨b, off, hA, hb, hc⟩
  · exact .inl h
  · exact .inr ⟨b, off, hA, by omega, hc⟩
end

/-- a row of the call's own reads as its cells -/
theorem own_rd {w : World} {base : Nat} {e : TypeId} {A : Option Addr} {n c : Nat} {xs : List Value} (h : w.ownsRow base e 1 (.slice A n c) n xs) : Rd w w.heap.size A xs := by
  rcases Nat.eq_zero_or_pos n with h0 | h0
  · left
    have := h.1
    exact List.eq_nil_of_length_eq_zero (by omega)
  · obtain ⟨g, hA, hlt⟩ : ∃ g, A = some ⟨g, 0, none⟩ ∧ g < w.heap.size := by
      rcases h.2 with ⟨_, hn⟩ | ⟨g, cap, cur, hv, _, hg, _⟩
      · omega
      · exact ⟨g, by injection hv, (Array.getElem?_eq_some_iff.1 hg).1⟩
    subst hA
    refine .inr ⟨g, 0, rfl, hlt, fun i v hi => ?_⟩
    have hc := h.cells (g := g) rfl i v hi
    have ea : (⟨g, 0, none⟩ : Addr).add i = ⟨g, 0 + i, none⟩ := by unfold Addr.add; split <;> simp_all
    rwa [ea] at hc
/-- the value of a row of the call's own is a slice of just so many -/
theorem own_form {w : World} {base : Nat} {e : TypeId} {size : Nat} {v : Value} {n : Nat} {xs : List Value} (h : w.ownsRow base e size v n xs) : ∃ A c, v = .slice A n c := by
  rcases h.2 with ⟨rfl, rfl⟩ | ⟨g, cap, cur, rfl, _⟩
  · exact ⟨none, 0, rfl⟩
  · exact ⟨_, cap, rfl⟩
/-- two rows of other element types never share a block -/
theorem own_ne_blk {w : World} {base : Nat} {e : TypeId} {size n g : Nat} {v : Value} {xs : List Value} {t : TypeId} {cs : Array Value} (h : w.ownsRow base e size v n xs) (hb : Blk w g t cs) (hne : e ≠ t) : some g ≠ v.ownBlock := by
  rcases h.2 with ⟨rfl, _⟩ | ⟨g', cap, cur, rfl, _, hh, _⟩
  · simp [Value.ownBlock]
  · intro he
    have e1 : g = g' := by simpa [Value.ownBlock] using he
    subst e1
    have e2 : w.heap[g]? = some (.cells cs t (0, 0)) := hb
    rw [e2] at hh
    injection hh with hh
    injection hh with _ ht
    exact hne ht.symm

theorem bcell {B : Nat} {W w1 : World} (hb : Below B W w1) : (∀ b o, b < B → w1.cell? ⟨b, o, none⟩ = W.cell? ⟨b, o, none⟩) ∧ (∀ b o, b < B → w1.frozen? ⟨b, o, none⟩ = W.frozen? ⟨b, o, none⟩) :=
  ⟨fun b o h => hb.cell (p := ⟨b, o, none⟩) h, fun b o h => hb.frozen (p := ⟨b, o, none⟩) h⟩
/-- old cells behind a call that turned block g alone -/
theorem gcell {W w1 : World} {row : Option Nat} (hb : W.grownBy w1 row) : (∀ b o, b < W.heap.size → some b ≠ row → w1.cell? ⟨b, o, none⟩ = W.cell? ⟨b, o, none⟩) ∧ (∀ b o, b < W.heap.size → some b ≠ row → w1.frozen? ⟨b, o, none⟩ = W.frozen? ⟨b, o, none⟩) :=
  ⟨fun b o h hn => World.cell?_of_block (a := ⟨b, o, none⟩) (hb.block b h hn), fun b o h hn => World.frozen?_of_block (a := ⟨b, o, none⟩) (hb.block b h hn)⟩
theorem lt_of_cell {w : World} {g o : Nat} {v : Value} (h : w.cell? ⟨g, o, none⟩ = some v) : g < w.heap.size := block_lt_of_cell h

/- For 'go_region_held3': what lay below the heap's size where the region began reads as it did. -/
section
variable {w V W : World}
theorem sx_start (w : World) : (∀ b o, b < w.heap.size → w.drew.cell? ⟨b, o, none⟩ = w.cell? ⟨b, o, none⟩) ∧ Below w.heap.size w w.drew := ⟨fun _ _ _ => rfl, (Below.refl _ _).drew⟩
theorem sx_call (hb : Below V.heap.size V W) (h : (∀ b o, b < w.heap.size → V.cell? ⟨b, o, none⟩ = w.cell? ⟨b, o, none⟩) ∧ Below w.heap.size w V) :
    (∀ b o, b < w.heap.size → W.cell? ⟨b, o, none⟩ = w.cell? ⟨b, o, none⟩) ∧ Below w.heap.size w W :=
  ⟨fun b o hlt => (hb.cell (p := ⟨b, o, none⟩) (Nat.lt_of_lt_of_le hlt h.2.size)).trans (h.1 b o hlt), h.2.trans (hb.mono h.2.size)⟩
theorem sx_alloc (x : Obj) (h : (∀ b o, b < w.heap.size → V.cell? ⟨b, o, none⟩ = w.cell? ⟨b, o, none⟩) ∧ Below w.heap.size w V) :
    (∀ b o, b < w.heap.size → (V.alloc x).cell? ⟨b, o, none⟩ = w.cell? ⟨b, o, none⟩) ∧ Below w.heap.size w (V.alloc x) :=
  ⟨fun b o hlt => (World.cell?_alloc_lt _ _ ⟨b, o, none⟩ (Nat.lt_of_lt_of_le hlt h.2.size)).trans (h.1 b o hlt), h.2.alloc h.2.size _⟩
theorem sx_drew (h : (∀ b o, b < w.heap.size → V.cell? ⟨b, o, none⟩ = w.cell? ⟨b, o, none⟩) ∧ Below w.heap.size w V) :
    (∀ b o, b < w.heap.size → V.drew.cell? ⟨b, o, none⟩ = w.cell? ⟨b, o, none⟩) ∧ Below w.heap.size w V.drew := ⟨h.1, h.2.drew⟩
theorem sx_store {p : Addr} (hp : w.heap.size ≤ p.block) (u : Value) (h : (∀ b o, b < w.heap.size → V.cell? ⟨b, o, none⟩ = w.cell? ⟨b, o, none⟩) ∧ Below w.heap.size w V) :
    (∀ b o, b < w.heap.size → (V.setCell p u).cell? ⟨b, o, none⟩ = w.cell? ⟨b, o, none⟩) ∧ Below w.heap.size w (V.setCell p u) :=
  ⟨fun b o hlt => (World.cell?_of_block (a := ⟨b, o, none⟩) (Below.heap_setCell V p u b (by omega))).trans (h.1 b o hlt), h.2.setCell hp _⟩
/-- a new block, behind the region's draw -/
theorem sx_alloc_drew (x : Obj) (h : (∀ b o, b < w.heap.size → V.drew.cell? ⟨b, o, none⟩ = w.cell? ⟨b, o, none⟩) ∧ Below w.heap.size w V.drew) :
    (∀ b o, b < w.heap.size → (V.alloc x).drew.cell? ⟨b, o, none⟩ = w.cell? ⟨b, o, none⟩) ∧ Below w.heap.size w (V.alloc x).drew :=
  sx_alloc (V := V.drew) x h
end

/-! Whole arrays: loaded out of a block, stored into one. -/
section
variable {P : Program} {ops : Array Oper} {rest : List Oper} {op : Oper} {a : Act} {w : World} {Q : Exit → Act → World → Prop}
theorem setCells_heap (g : Nat) (t : TypeId) : ∀ (vs : List Value) (o : Nat) (w : World) (cs : Array Value), Blk w g t cs →
    (∃ cs', Blk (w.setCells g o vs) g t cs' ∧ cs'.size = cs.size ∧ ∀ i, cs'[i]? = if o ≤ i ∧ i < o + vs.length ∧ i < cs.size then vs[i - o]? else cs[i]?) ∧ w.grownBy (w.setCells g o vs) (some g) ∧ (w.setCells g o vs).heap.size = w.heap.size := by
  intro vs
  induction vs with
  | nil =>
    intro o w cs h
    refine ⟨⟨cs, h, rfl, fun i => ?_⟩, World.grownBy.refl w _, rfl⟩
    rw [if_neg (by simp; omega)]
  | cons v vs ih =>
    intro o w cs h
    obtain ⟨⟨cs', hb, hs, hi⟩, hg, hz⟩ := ih (o + 1) (w.setCell ⟨g, o, none⟩ v) _ (h.store o v)
    have e : w.setCells g o (v :: vs) = (w.setCell ⟨g, o, none⟩ v).setCells g (o + 1) vs := by rw [World.setCells]
    rw [e]
    refine ⟨⟨cs', hb, by rw [hs]; simp, fun i => ?_⟩, Only.trans (Only.store (World.grownBy.refl w (some g)) (.inl rfl) v) hg (fun j e => .inl (by injection e with e; exact e.symm)), by rw [hz]; simp [World.setCell]⟩
    rw [hi]
    have hsz : (cs.setIfInBounds o v).size = cs.size := by simp
    rw [hsz]
    by_cases h1 : o + 1 ≤ i ∧ i < o + 1 + vs.length ∧ i < cs.size
    · rw [if_pos h1, if_pos (by simp; omega), show i - o = (i - (o + 1)) + 1 by omega, List.getElem?_cons_succ]
    · rw [if_neg h1, Array.getElem?_setIfInBounds]
      by_cases h2 : o = i
      · subst h2
        by_cases h3 : o < cs.size
        · rw [if_pos rfl, if_pos h3, if_pos (by simp; omega)]; simp
        · rw [if_pos rfl, if_neg h3, if_neg (by omega)]
          simp only [Array.size] at h3
          exact (Array.getElem?_eq_none (by simp only [Array.size]; omega)).symm
      · rw [if_neg h2, if_neg (by simp; omega)]
theorem setCells_blk {g : Nat} {t : TypeId} {cs ds : Array Value} (h : Blk w g t cs) (hs : ds.size = cs.size) : Blk (w.setCells g 0 ds.toList) g t ds ∧ w.grownBy (w.setCells g 0 ds.toList) (some g) ∧ (w.setCells g 0 ds.toList).heap.size = w.heap.size := by
  obtain ⟨⟨cs', hb, hz, hi⟩, hg, hh⟩ := setCells_heap g t ds.toList 0 w cs h
  refine ⟨?_, hg, hh⟩
  have e : cs' = ds := by
    apply Array.ext_getElem?
    intro i
    rw [hi]
    by_cases h1 : i < ds.size
    · rw [if_pos (by simp; omega)]; simp
    · rw [if_neg (by simp; omega), Array.getElem?_eq_none (by omega), Array.getElem?_eq_none (by omega)]
  exact hb.mk_eq e
/-- a whole array is stored into a block that is known -/
theorem wpList_store_blk (hgd : op.guard = none) (ty : TypeId) (x y : Operand) (ho : op.op = .store ty x y) (g : Nat) (t : TypeId) (cs ds : Array Value)
    (hx : a.eval x = .pointer (some ⟨g, 0, none⟩)) (hy : a.eval y = .agg ds) (hb : Blk w g t cs) (hs : ds.size = cs.size) (hi : (P.info? ty).map (·.size) = some ds.size) (h1 : ds.all (·.oneCell') = true)
    (h : ∀ w', Blk w' g t ds → w.grownBy w' (some g) → w'.heap.size = w.heap.size → wpList P ops Q rest (a.put op.dst undef) w') : wpList P ops Q (op :: rest) a w := by
  refine wpList_store_mid hgd ty x y ho g 0 ds hx hy ?_ hi h1 ?_
  · intro j hj
    refine ⟨?_, by rw [hb.frozen]⟩
    rw [Nat.zero_add, hb.cell, Array.getElem?_eq_getElem (by omega)]; rfl
  · obtain ⟨h2, h3, h4⟩ := setCells_blk hb hs
    exact h _ h2 h3 h4
/-- a whole array is loaded out of a block that is known -/
theorem wpList_load_blk (hgd : op.guard = none) (ty : TypeId) (x : Operand) (ho : op.op = .load ty x) (g : Nat) (t : TypeId) (cs : Array Value)
    (hx : a.eval x = .pointer (some ⟨g, 0, none⟩)) (hb : Blk w g t cs) {d : TypeDesc} (hu : P.underlying ty = some d) (hd : (match d with | .struct _ | .array _ _ => true | _ => false) = true) (hi : (P.info? ty).map (·.size) = some cs.size)
    (h : wpList P ops Q rest (a.put op.dst (.agg cs)) w) : wpList P ops Q (op :: rest) a w :=
  wpList_load_row hgd ty x ho g hx t cs (0, 0) d hb hu hd hi h
end

/-- from here on the world is a letter, of which I is known -/
theorem wp_abs {P : Program} {c : Code} {Q : Exit → Act → World → Prop} {a : Act} {w : World} (I : World → Prop) (h0 : I w) (h : ∀ W, I W → c.wp P Q a W) : c.wp P Q a w := h w h0

theorem ret_bool {a b : Bool} (h : a = b) : Ending.returned (.bool a) = .returned (.bool b) := by rw [h]
theorem ret_int {k : IntKind} {a b : Int} (h : a = b) : Ending.returned (.int k a) = .returned (.int k b) := by rw [h]

end Go.Proofs.YtlkhbfafednegaaDoor
namespace Go.Proofs.YtlkhbfafednegaaDoor
open Go Go.RowKit

theorem add32_rule (a b : UInt32) : IntKind.u32.wrap ((a.toNat : Int) + (b.toNat : Int)) = ((add32 a b).toNat : Int) := by
  unfold add32
  rw [UInt32.toNat_add, IntKind.wrap_u32']
  omega
theorem xor32_rule (a b : UInt32) : bits .xor .u32 (a.toNat : Int) (b.toNat : Int) = ((xor32 a b).toNat : Int) := by
  rw [u32_xor_nat _ _ a.toNat_lt b.toNat_lt]; unfold xor32; rw [UInt32.toNat_xor]
theorem and32_rule (a b : UInt32) : bits .and .u32 (a.toNat : Int) (b.toNat : Int) = ((and32 a b).toNat : Int) := by
  rw [u32_and_nat _ _ a.toNat_lt b.toNat_lt]; unfold and32; rw [UInt32.toNat_and]
theorem or32_rule (a b : UInt32) : bits .or .u32 (a.toNat : Int) (b.toNat : Int) = ((or32 a b).toNat : Int) := by
  rw [u32_or_nat _ _ a.toNat_lt b.toNat_lt]; unfold or32; rw [UInt32.toNat_or]
theorem shr3_rule (x : UInt32) : (x.toNat : Int) / 8 = ((shr32 x 3).toNat : Int) := by
  unfold shr32
  have := x.toNat_lt
  rw [UInt32.toNat_ofNat', show (2 : Nat) ^ 3 = 8 from rfl, Nat.mod_eq_of_lt (by omega)]
  omega
theorem shr10_rule (x : UInt32) : (x.toNat : Int) / 1024 = ((shr32 x 10).toNat : Int) := by
  unfold shr32
  have := x.toNat_lt
  rw [UInt32.toNat_ofNat', show (2 : Nat) ^ 10 = 1024 from rfl, Nat.mod_eq_of_lt (by omega)]
  omega
attribute [go_sem] shr3_rule shr10_rule
attribute [go_sem] add32_rule xor32_rule and32_rule or32_rule

theorem neg_and (n : Nat) (h0 : 0 < n) (hn : n < 32) : bits .and .u64 (IntKind.u64.wrap (-(n : Int))) 31 = ((32 - n : Nat) : Int) := by
  have e : IntKind.u64.wrap (-(n : Int)) = ((18446744073709551616 - n : Nat) : Int) := by rw [IntKind.wrap_u64]; omega
  rw [e]
  have h := u64_and_nat (18446744073709551616 - n) 31 (by omega) (by omega)
  rw [show ((31 : Nat) : Int) = 31 from rfl] at h
  rw [h]
  have h2 := Nat.and_two_pow_sub_one_eq_mod (18446744073709551616 - n) 5
  rw [show (2 ^ 5 - 1 : Nat) = 31 from rfl, show (2 ^ 5 : Nat) = 32 from rfl] at h2
  rw [h2]
  omega
theorem rotl_value (x : UInt32) (n : Nat) (h0 : 0 < n) (hn : n < 32) : bits .or .u32 (IntKind.u32.wrap ((x.toNat : Int) * 2 ^ (32 - n))) ((x.toNat : Int) / 2 ^ n) = ((rotr x n).toNat : Int) := by
  rw [rotr_toNat x (by omega)]
  have e1 : IntKind.u32.wrap ((x.toNat : Int) * 2 ^ (32 - n)) = ((x.toNat % 2 ^ n * 2 ^ (32 - n) : Nat) : Int) := by
    have h1 : ((x.toNat : Int) * 2 ^ (32 - n)) = ((x.toNat * 2 ^ (32 - n) : Nat) : Int) := by simp
    have h2 : x.toNat * 2 ^ (32 - n) % 4294967296 = x.toNat % 2 ^ n * 2 ^ (32 - n) := by
      have h3 : (4294967296 : Nat) = 2 ^ n * 2 ^ (32 - n) := by rw [← Nat.pow_add, Nat.add_sub_cancel' (by omega)]
      rw [h3, Nat.mul_mod_mul_right]
    rw [h1, IntKind.wrap_u32', ← h2]
    omega
  have e2 : ((x.toNat : Int) / 2 ^ n) = ((x.toNat / 2 ^ n : Nat) : Int) := by simp
  have b1 := rotr_lt x (n := n) (by omega)
  rw [e1, e2, u32_or_nat _ _ (Nat.lt_of_le_of_lt (Nat.le_add_left _ _) b1) (Nat.lt_of_le_of_lt (Nat.le_add_right _ _) b1)]
  have hlt : x.toNat / 2 ^ n < 2 ^ (32 - n) := by
    rw [Nat.div_lt_iff_lt_mul (Nat.pow_pos (by omega)), ← Nat.pow_add, Nat.sub_add_cancel (by omega)]
    exact x.toNat_lt
  have h4 := Nat.shiftLeft_add_eq_or_of_lt hlt (x.toNat % 2 ^ n)
  rw [Nat.shiftLeft_eq] at h4
  rw [← h4, Nat.add_comm]

/-- a word as a cell -/
def wv (x : UInt32) : Value := .int .u32 x.toNat
/-- the i-th word of a row -/
def at32 (l : List UInt32) (i : Nat) : UInt32 := l.getD i 0
/-- a row of words as an array's cells -/
def wvs (l : List UInt32) : Array Value := (l.map wv).toArray
theorem wvs_size (l : List UInt32) : (wvs l).size = l.length := by simp [wvs]
theorem wvs_at (l : List UInt32) {i : Nat} (h : i < l.length) : (wvs l)[i]? = some (.int .u32 (at32 l i).toNat) := by
  simp [wvs, at32, wv, List.getD, h]
theorem wvs_set (l : List UInt32) (i : Nat) (x : UInt32) : (wvs l).setIfInBounds i (.int .u32 x.toNat) = wvs (l.set i x) := by
  simp [wvs, wv, List.map_set]
theorem Blk.word {w : World} {g : Nat} {t : TypeId} {l : List UInt32} (h : Blk w g t (wvs l)) {i : Nat} (hi : i < l.length) : w.cell? ⟨g, i, none⟩ = some (.int .u32 (at32 l i).toNat) := (h.cell i).trans (wvs_at l hi)
theorem Blk.word_store {w : World} {g : Nat} {t : TypeId} {l : List UInt32} (h : Blk w g t (wvs l)) (i : Nat) (x : UInt32) : Blk (w.setCell ⟨g, i, none⟩ (.int .u32 x.toNat)) g t (wvs (l.set i x)) := by
  have := h.store i (.int .u32 x.toNat)
  rwa [wvs_set] at this
theorem at32_set (l : List UInt32) (i j : Nat) (x : UInt32) (hi : i < l.length) : at32 (l.set i x) j = if i = j then x else at32 l j := by
  unfold at32
  rw [List.getD_eq_getElem?_getD, List.getD_eq_getElem?_getD, List.getElem?_set]
  split
  · first | rfl | (rw [if_pos (by omega)]; rfl)
  · rfl

end Go.Proofs.YtlkhbfafednegaaDoor
namespace Go.Proofs.YtlkhbfafednegaaDoor
open Go Go.RowKit

/-- v is a slice of the bytes l at the head of a block from base on (nil: no byte) -/
def OwnB (w : World) (base : Nat) (v : Value) (l : List UInt8) : Prop :=
  (v = .slice none 0 0 ∧ l = []) ∨
  ∃ g cap, v = .slice (some ⟨g, 0, none⟩) l.length cap ∧ base ≤ g ∧ l.length ≤ cap ∧ cap ≤ maxLen ∧ (∀ i, i < cap → ∃ u, w.cell? ⟨g, i, none⟩ = some u) ∧ (∀ i, i < cap → w.frozen? ⟨g, i, none⟩ = false) ∧
    ∀ (i : Nat) (x : UInt8), l[i]? = some x → w.cell? ⟨g, i, none⟩ = some (.int .u8 (x.toNat : Int))

theorem OwnB.keep {w w' : World} {base : Nat} {v : Value} {l : List UInt8} (h : OwnB w base v l) (hk : ∀ b o u, base ≤ b → w.cell? ⟨b, o, none⟩ = some u → w'.cell? ⟨b, o, none⟩ = some u ∧ w'.frozen? ⟨b, o, none⟩ = w.frozen? ⟨b, o, none⟩) : OwnB w' base v l := by
  rcases h with h | ⟨g, cap, hv, hb, hl, hm, hc, hf, hx⟩
  · exact .inl h
  · refine .inr ⟨g, cap, hv, hb, hl, hm, fun i hi => ?_, fun i hi => ?_, fun i x hi => ?_⟩
    · obtain ⟨u, hu⟩ := hc i hi
      exact ⟨u, (hk g i u hb hu).1⟩
    · obtain ⟨u, hu⟩ := hc i hi
      exact (hk g i u hb hu).2.trans (hf i hi)
    · exact (hk g i _ hb (hx i x hi)).1
theorem OwnB.below {w w' : World} {base B : Nat} {v : Value} {l : List UInt8} (h : OwnB w base v l) (hb : Below B w w') (hB : w.heap.size ≤ B) : OwnB w' base v l :=
  h.keep fun b o u _ hu => by
    have hlt := lt_of_cell hu
    exact ⟨(hb.cell (p := ⟨b, o, none⟩) (show b < B by omega)).trans hu, hb.frozen (p := ⟨b, o, none⟩) (show b < B by omega)⟩
theorem OwnB.alloc {w : World} {base : Nat} {v : Value} {l : List UInt8} (h : OwnB w base v l) (o : Obj) : OwnB (w.alloc o) base v l :=
  h.below ((Below.refl w.heap.size w).alloc (Nat.le_refl _) o) (Nat.le_refl _)
theorem OwnB.drewN {w : World} {base : Nat} {v : Value} {l : List UInt8} (h : OwnB w base v l) (n : Nat) : OwnB (w.drewN n) base v l := h
theorem OwnB.drew {w : World} {base : Nat} {v : Value} {l : List UInt8} (h : OwnB w base v l) : OwnB w.drew base v l := h
/-- the row's cells -/
theorem OwnB.form {w : World} {base : Nat} {v : Value} {l : List UInt8} (h : OwnB w base v l) (h0 : l ≠ []) : ∃ g cap, v = .slice (some ⟨g, 0, none⟩) l.length cap ∧ base ≤ g ∧ g < w.heap.size ∧ l.length ≤ cap ∧ cap ≤ maxLen ∧ ∀ (i : Nat) (x : UInt8), l[i]? = some x → w.cell? ⟨g, i, none⟩ = some (.int .u8 (x.toNat : Int)) := by
  rcases h with h | ⟨g, cap, hv, hb, hl, hm, hc, hf, hx⟩
  · exact absurd h.2 h0
  · refine ⟨g, cap, hv, hb, ?_, hl, hm, hx⟩
    cases l with
    | nil => exact absurd rfl h0
    | cons x r => exact lt_of_cell (hx 0 x rfl)
theorem OwnB.fresh {B : Nat} {w : World} {v : Value} {l : List UInt8} (h : Lib.FreshBytes B w v l) : OwnB w B v l := by
  obtain ⟨g, cap, zs, hv, hb, hl, hm, hz, hr, he, hc, hf⟩ := h
  refine .inr ⟨g, cap, hv, hb, hl, hm, fun i hi => ⟨_, hc i hi⟩, hf, fun i x hi => ?_⟩
  have hil : i < l.length := (List.getElem?_eq_some_iff.1 hi).1
  rw [hc i (by omega)]
  have hzi : i < zs.length := by omega
  have h1 : (zs.take l.length)[i]? = some zs[i] := by rw [List.getElem?_take, if_pos hil, List.getElem?_eq_getElem hzi]
  have h2 : (Lib.bytesOf (zs.take l.length))[i]? = some x := by rw [he]; exact hi
  have h3 := hr zs[i] (List.getElem_mem hzi)
  have e : zs.getD i 0 = zs[i] := by simp [List.getD, hzi]
  rw [e]
  simp only [Lib.bytesOf, List.getElem?_map, h1, Option.map_some, Option.some.injEq] at h2
  subst h2
  rw [UInt8.toNat_ofNat']
  congr 2
  omega

section
variable {P : Program}
theorem run_append_byte (w : World) (base : Nat) (t ty e : TypeId) (i : TypeInfo) (ht : P.underlying t = some (.slice e)) (hi : P.info? e = some i) (hz : i.zero = some (.int .u8 0)) (hsize : i.size = 1) (hby : i.bytes = 1)
    (v : Value) (l : List UInt8) (hown : OwnB w base v l) (a : Addr) (c : Nat) (x : UInt8) (hx : w.cell? (a.add 0) = some (.int .u8 (x.toNat : Int))) (hl : l.length + 1 ≤ 140737488355328) (hbase : base ≤ w.heap.size) :
    ∃ v' w', (Builtin.append_ #[t, t] ty #[v, .slice (some a) 1 c]).run P w = .ok v' w' ∧ OwnB w' base v' (l ++ [x]) ∧ Below base w w' := by
  have hnews : ∀ j u, [Value.int .u8 (x.toNat : Int)][j]? = some u → w.cell? (a.add j) = some u := by
    intro j u hj
    cases j with
    | zero => simp at hj; subst hj; exact hx
    | succ j => simp at hj
  have grown : ∀ (old : Nat), old < l.length + 1 → 
      OwnB (w.drew.alloc (.cells (((l.map fun y : UInt8 => Value.int .u8 (y.toNat : Int)).toArray) ++ #[Value.int .u8 (x.toNat : Int)] ++ Builtin.zeroCells (Value.int .u8 0).cells (grownCap w (l.length + 1) old e - (l.length + 1))) e)) base
        (.slice (some ⟨w.heap.size, 0, none⟩) (l.length + 1) (grownCap w (l.length + 1) old e)) (l ++ [x]) := by
    intro old ho
    have hge := grownCap_ge w (l.length + 1) old e
    have hcm : grownCap w (l.length + 1) old e ≤ maxLen := grownCap_le_maxLen w (l.length + 1) old e (by simp only [maxLen]; omega)
    have hh := heap_alloc_new w.drew (.cells (((l.map fun y : UInt8 => Value.int .u8 (y.toNat : Int)).toArray) ++ #[Value.int .u8 (x.toNat : Int)] ++ Builtin.zeroCells (Value.int .u8 0).cells (grownCap w (l.length + 1) old e - (l.length + 1))) e)
    generalize grownCap w (l.length + 1) old e = cap at *
    have hb := Blk.new w.drew e (((l.map fun y : UInt8 => Value.int .u8 (y.toNat : Int)).toArray) ++ #[Value.int .u8 (x.toNat : Int)] ++ Builtin.zeroCells (Value.int .u8 0).cells (cap - (l.length + 1)))
    generalize hcs : (((l.map fun y : UInt8 => Value.int .u8 (y.toNat : Int)).toArray) ++ #[Value.int .u8 (x.toNat : Int)] ++ Builtin.zeroCells (Value.int .u8 0).cells (cap - (l.length + 1))) = cs at *
    have hsz : cs.size = cap := by
      rw [← hcs]
      simp only [Array.size_append, List.size_toArray, List.length_map, size_zeroCells]
      simp [Value.cells]
      omega
    refine .inr ⟨w.heap.size, cap, by rw [List.length_append]; rfl, hbase, by rw [List.length_append]; exact hge, hcm, fun i hi => ⟨cs[i], ?_⟩, fun i _ => hb.frozen i, fun i y hy => ?_⟩
    · rw [show w.heap.size = w.drew.heap.size from rfl, hb.cell, Array.getElem?_eq_getElem]
    · rw [show w.heap.size = w.drew.heap.size from rfl, hb.cell, ← hcs]
      have hil : i < (l ++ [x]).length := (List.getElem?_eq_some_iff.1 hy).1
      rw [List.length_append] at hil
      simp only [List.length_cons, List.length_nil] at hil
      rw [Array.getElem?_append_left (by simp; omega)]
      have : ((l.map fun y : UInt8 => Value.int .u8 (y.toNat : Int)).toArray ++ #[Value.int .u8 (x.toNat : Int)]) = ((l ++ [x]).map fun y : UInt8 => Value.int .u8 (y.toNat : Int)).toArray := by simp
      rw [this, List.getElem?_toArray, List.getElem?_map, hy]
      rfl
  have hB : ∀ o : Obj, Below base w (w.drew.alloc o) := fun o => (Below.refl base w).drew.alloc hbase o
  have hlm : (l.map fun y : UInt8 => Value.int .u8 (y.toNat : Int)).length = l.length * i.size := by rw [hsize]; simp
  rcases hown with ⟨rfl, rfl⟩ | ⟨g, cap, rfl, hbg, hlc, hm, hc, hf, hcells⟩
  · have hr := run_append_nil (P := P) (w := w) t ty e i (.int .u8 0) ht hi hz a 1 c [.int .u8 (x.toNat : Int)] (by simp [hsize]) hnews (by omega) (by omega) (by omega)
    have hg := grown 0 (by simp)
    simp only [List.length_nil, Nat.zero_add, List.map_nil, Array.empty_append] at hg
    refine ⟨_, _, hr, ?_, hB _⟩
    simpa using hg
  · by_cases hroom : l.length + 1 ≤ cap
    · have hf1 := run_firstCells_some (P := P) (w := w) i.size 1 a 1 c [.int .u8 (x.toNat : Int)] (by simp [hsize]) hnews
      obtain ⟨u, hu⟩ := hc l.length (by omega)
      have hfz := hf l.length (by omega)
      have hadd : (⟨g, l.length, none⟩ : Addr).add 0 = ⟨g, l.length, none⟩ := by unfold Addr.add; split <;> simp_all
      have hst : (store ((⟨g, l.length, none⟩ : Addr).add 0) (.int .u8 (x.toNat : Int))).run P w = .ok () (w.setCell ⟨g, l.length, none⟩ (.int .u8 (x.toNat : Int))) := by
        rw [hadd, run_store P w _ _ _ rfl, hu]
        simp [hfz]
      have hsts : (storeCells ⟨g, l.length, none⟩ [.int .u8 (x.toNat : Int)] 0).run P w = .ok () (w.setCell ⟨g, l.length, none⟩ (.int .u8 (x.toNat : Int))) := by
        simp only [storeCells, Sem.run_bind, hst, Result.andThen_ok, Sem.run_pure]
      refine ⟨.slice (some ⟨g, 0, none⟩) (l.length + 1) cap, w.setCell ⟨g, l.length, none⟩ (.int .u8 (x.toNat : Int)), ?_, ?_, (Below.refl base w).setCell hbg _⟩
      · have e1 : l.length * i.size = l.length := by rw [hsize, Nat.mul_one]
        simp [Builtin.append_, run_underlying ht, sizeOf, typeInfo, hi, Builtin.lenOf, hroom, hf1, Addr.add_lit, e1, hsts]
      · refine .inr ⟨g, cap, by rw [List.length_append]; rfl, hbg, by rw [List.length_append]; exact hroom, hm, fun i hi => ?_, fun i hi => ?_, fun i y hy => ?_⟩
        · obtain ⟨u, hu⟩ := hc i hi
          by_cases h : l.length = i
          · subst h; exact ⟨_, by rw [cell_stored, hu]; rfl⟩
          · exact ⟨u, by rw [World.cell?_setCell_other w ⟨g, l.length, none⟩ ⟨g, i, none⟩ _ (by intro e; injection e with _ e2; exact h e2), hu]⟩
        · rw [World.frozen?_setCell]; exact hf i hi
        · by_cases h : l.length = i
          · subst h
            rw [cell_stored, hu]
            simp at hy; subst hy; rfl
          · have hil : i < (l ++ [x]).length := (List.getElem?_eq_some_iff.1 hy).1
            rw [List.length_append] at hil
            simp only [List.length_cons, List.length_nil] at hil
            rw [List.getElem?_append_left (by omega)] at hy
            rw [World.cell?_setCell_other w ⟨g, l.length, none⟩ ⟨g, i, none⟩ _ (by intro e; injection e with _ e2; exact h e2)]
            exact hcells i y hy
    · have holds : ∀ j u, (l.map fun y : UInt8 => Value.int .u8 (y.toNat : Int))[j]? = some u → w.cell? ((⟨g, 0, none⟩ : Addr).add j) = some u := by
        intro j u hj
        rw [List.getElem?_map] at hj
        obtain ⟨y, hy, rfl⟩ := Option.map_eq_some_iff.1 hj
        have hadd : (⟨g, 0, none⟩ : Addr).add j = ⟨g, j, none⟩ := by unfold Addr.add; split <;> simp_all
        rw [hadd]; exact hcells j y hy
      have hr := run_append_grow (P := P) (w := w) t ty e i (.int .u8 0) ht hi hz ⟨g, 0, none⟩ l.length cap _ hlm holds a 1 c [.int .u8 (x.toNat : Int)] (by simp [hsize]) hnews (by omega) (by omega) (growslice_fits (by omega) (by rw [hby]; omega))
      exact ⟨_, _, hr, grown cap (by omega), hB _⟩
theorem wpList_append_byte {ops : Array Oper} {rest : List Oper} {o : Oper} {ac : Act} {w : World} {Q : Exit → Act → World → Prop} (hgd : o.guard = none) (s x : Operand) (t : TypeId)
    (ho : o.op = .call { callee := .builtin .append, args := #[s, x], argTypes := #[t, t] })
    (base : Nat) (e : TypeId) (i : TypeInfo) (ht : P.underlying t = some (.slice e)) (hi : P.info? e = some i) (hz : i.zero = some (.int .u8 0)) (hsize : i.size = 1) (hby : i.bytes = 1)
    (v : Value) (l : List UInt8) (hs : ac.eval s = v) (hown : OwnB w base v l) (g c : Nat) (y : UInt8) (hx : ac.eval x = .slice (some ⟨g, 0, none⟩) 1 c) (hc : w.cell? ⟨g, 0, none⟩ = some (.int .u8 (y.toNat : Int)))
    (hl : l.length + 1 ≤ 140737488355328) (hbase : base ≤ w.heap.size)
    (h : ∀ v' w', OwnB w' base v' (l ++ [y]) → Below base w w' → wpList P ops Q rest (ac.put o.dst v') w') : wpList P ops Q (o :: rest) ac w := by
  refine wpList_plain hgd fun K hK => ?_
  have hadd : (⟨g, 0, none⟩ : Addr).add 0 = ⟨g, 0, none⟩ := by unfold Addr.add; split <;> simp_all
  obtain ⟨v', w', hr, h2, h3⟩ := run_append_byte (P := P) w base t o.type e i ht hi hz hsize hby v l hown ⟨g, 0, none⟩ c y (by rw [hadd]; exact hc) hl hbase
  unfold Oper.wp execOp
  simp only [ho, resolve, invoke, builtin, Sem.run_bind, Sem.run_pure, Result.andThen_ok, List.map_toArray, List.map_cons, List.map_nil, hs, hx, hr]
  exact hK _ _ (h v' w' h2 h3)
end

/-- v is a slice of slices of the bytes ls -/
def Parts (w : World) (v : Value) (ls : List (List UInt8)) : Prop :=
  (∃ p c, v = .slice p 0 c ∧ ls = []) ∨ ∃ b o c vs, v = .slice (some ⟨b, o, none⟩) ls.length c ∧ ls.length ≤ c ∧ Lib.PartsAt w ⟨b, o, none⟩ vs ls
theorem add0 (b o : Nat) : (⟨b, o, none⟩ : Addr).add 0 = ⟨b, o, none⟩ := by unfold Addr.add; split <;> simp_all
theorem addi (b o i : Nat) : (⟨b, o, none⟩ : Addr).add i = ⟨b, o + i, none⟩ := by unfold Addr.add; split <;> simp_all
theorem joinTail_nil (ls : List (List UInt8)) : Lib.joinTail [] ls = ls.flatten := by
  induction ls with
  | nil => rfl
  | cons l r ih => simp_all [Lib.joinTail]
theorem join_nil (ls : List (List UInt8)) : Lib.join ls [] = ls.flatten := by
  cases ls with
  | nil => rfl
  | cons l r => rw [Lib.join_cons, joinTail_nil]; simp
theorem lens_flatten (ls : List (List UInt8)) : Lib.lens ls = ls.flatten.length := by
  induction ls with
  | nil => rfl
  | cons l r ih => rw [Lib.lens_cons, ih]; simp
theorem partsAt_keep {w w' : World} {b o : Nat} {vs : List Value} {ls : List (List UInt8)} (h : Lib.PartsAt w ⟨b, o, none⟩ vs ls) (hb : Below w.heap.size w w') : Lib.PartsAt w' ⟨b, o, none⟩ vs ls := by
  refine ⟨h.1, fun i v hv => ?_, fun i v l hv hl => ?_⟩
  · have hc := h.2.1 i v hv
    exact (hb.cell (block_lt_of_cell hc)).trans hc
  · obtain ⟨p, cap, e, h1, h2⟩ := h.2.2 i v l hv hl
    refine ⟨p, cap, e, h1, fun a ha j x hx => ?_⟩
    have hc := h2 a ha j x hx
    exact (hb.cell (block_lt_of_cell hc)).trans hc
theorem Parts.keep {w w' : World} {v : Value} {ls : List (List UInt8)} (h : Parts w v ls) (hb : Below w.heap.size w w') : Parts w' v ls := by
  rcases h with h | ⟨b, o, c, vs, hv, hc, hP⟩
  · exact .inl h
  · exact .inr ⟨b, o, c, vs, hv, hc, partsAt_keep hP hb⟩
theorem OwnB.slice {w : World} {base : Nat} {v : Value} {l : List UInt8} (h : OwnB w base v l) : ∃ A c, v = .slice A l.length c := by
  rcases h with ⟨rfl, rfl⟩ | ⟨g, cap, rfl, _⟩
  · exact ⟨none, 0, rfl⟩
  · exact ⟨_, _, rfl⟩
theorem OwnB.mk_eq {w : World} {base : Nat} {v : Value} {l l' : List UInt8} (h : OwnB w base v l) (e : l = l') : OwnB w base v l' := e ▸ h

/-- a byte as a cell; rows of bytes as an array's cells -/
def bcv (x : UInt8) : Value := .int .u8 x.toNat
def bvs (l : List UInt8) : Array Value := (l.map bcv).toArray
/-- the i-th byte of a row -/
def at8 (l : List UInt8) (i : Nat) : UInt8 := l.getD i 0
theorem bvs_size (l : List UInt8) : (bvs l).size = l.length := by simp [bvs]
theorem bvs_at (l : List UInt8) {i : Nat} (h : i < l.length) : (bvs l)[i]? = some (.int .u8 (at8 l i).toNat) := by
  simp [bvs, at8, bcv, List.getD, h]
theorem bvs_set (l : List UInt8) (i : Nat) (x : UInt8) : (bvs l).setIfInBounds i (.int .u8 x.toNat) = bvs (l.set i x) := by
  simp [bvs, bcv, List.map_set]
theorem bvs_one (l : List UInt8) : (bvs l).all (·.oneCell') = true := by
  rw [Array.all_eq_true_iff_forall_mem]
  intro v hv
  simp only [bvs, List.mem_toArray, List.mem_map] at hv
  obtain ⟨x, _, rfl⟩ := hv
  rfl
theorem Blk.byte {w : World} {g : Nat} {t : TypeId} {l : List UInt8} (h : Blk w g t (bvs l)) {i : Nat} (hi : i < l.length) : w.cell? ⟨g, i, none⟩ = some (.int .u8 (at8 l i).toNat) := (h.cell i).trans (bvs_at l hi)
theorem Blk.byte_store {w : World} {g : Nat} {t : TypeId} {l : List UInt8} (h : Blk w g t (bvs l)) (i : Nat) (x : UInt8) : Blk (w.setCell ⟨g, i, none⟩ (.int .u8 x.toNat)) g t (bvs (l.set i x)) := by
  have := h.store i (.int .u8 x.toNat)
  rwa [bvs_set] at this
/-- how many elements a slice has -/
def vlen : Value → Nat
  | .slice _ n _ => n
  | _ => 0
def sb (s : ByteArray) : List UInt8 := s.data.toList
theorem sb_length (s : ByteArray) : (sb s).length = s.size := Array.length_toList
theorem sb_append (x y : ByteArray) : sb (x ++ y) = sb x ++ sb y := by
  unfold sb
  rw [ByteArray.data_append, Array.toList_append]

theorem sz_append (x y : ByteArray) : (x ++ y).size = x.size + y.size := by
  rw [← sb_length, sb_append, List.length_append, sb_length, sb_length]
theorem empty_false {y : ByteArray} (h : 64 ≤ y.size) : y.toList.isEmpty = false := by
  have h2 : y.toList.length = y.size := by rw [Lib.toList_data]; exact (Lib.size_eq y).symm
  cases hl : y.toList with
  | nil => rw [hl] at h2; simp at h2; omega
  | cons a r => rfl
theorem sb_drop (y : ByteArray) (n : Nat) : sb (y.extract n y.size) = (sb y).drop n := by
  unfold sb
  rw [ByteArray.data_extract, Array.toList_extract]
  simp only [List.extract]
  rw [List.take_of_length_le]
  rw [List.length_drop, Array.length_toList]
  exact Nat.le_refl _
/-- bytes as a string -/
def bs (l : List UInt8) : ByteArray := ⟨l.toArray⟩
theorem sb_bs (l : List UInt8) : sb (bs l) = l := by simp [sb, bs]
theorem bs_sb (s : ByteArray) : bs (sb s) = s := by
  cases s; simp [sb, bs]
/-- 'string(..)' of a slice of bytes -/
theorem conv_bytes {P : Program} {src e dst : TypeId} (hs : P.underlying src = some (.slice e)) (he : P.underlying e = some (.int .u8)) (hd : P.underlying dst = some .string) (b off cap : Nat) (l : List UInt8) (w : World)
    (hc : ∀ (i : Nat) (x : UInt8), l[i]? = some x → w.cell? ⟨b, off + i, none⟩ = some (.int .u8 (x.toNat : Int))) :
    (convert src dst (.slice (some ⟨b, off, none⟩) l.length cap)).run P w = .ok (.string (bs l)) w := by
  rw [run_convert_bytes_arg w src e hs he b off l.length cap (l.map fun x : UInt8 => (x.toNat : Int)) (by simp) (fun i hi => ?_) dst hd]
  · congr 3
    unfold strOfNums bs
    congr 2
    rw [List.map_map]
    conv => rhs; rw [← List.map_id l]
    apply List.map_congr_left
    intro x _
    simp
  · rw [hc i l[i] (List.getElem?_eq_getElem hi)]
    simp [List.getD, List.getElem?_eq_getElem hi]
/-- how long a string is -/
def slen : Value → Nat
  | .string s => s.size
  | _ => 0

/-- v is a slice of the bytes l -/
def HB (w : World) (v : Value) (l : List UInt8) : Prop :=
  ∃ p cap, v = .slice p l.length cap ∧ l.length ≤ cap ∧ cap ≤ maxLen ∧ (p = none → cap = 0) ∧ (l ≠ [] → ∃ b o, p = some ⟨b, o, none⟩ ∧ ∀ (i : Nat) (x : UInt8), l[i]? = some x → w.cell? ⟨b, o + i, none⟩ = some (.int .u8 (x.toNat : Int)))
theorem ne_nil_of_get {α : Type} {l : List α} {i : Nat} {x : α} (h : l[i]? = some x) : l ≠ [] := by
  rintro rfl; simp at h
theorem HB.holds {w : World} {v : Value} {l : List UInt8} (h : HB w v l) : Lib.HoldsBytes w v l := by
  obtain ⟨p, cap, hv, hl, _, hn, hc⟩ := h
  refine ⟨p, cap, hv, fun hp => List.eq_nil_of_length_eq_zero (by have := hn hp; omega), fun a ha i x hx => ?_⟩
  obtain ⟨b, o, hp, hc2⟩ := hc (ne_nil_of_get hx)
  rw [hp] at ha; injection ha with ha; subst ha
  rw [addi]; exact hc2 i x hx
theorem HB.keepG {w w' : World} {v : Value} {l : List UInt8} (h : HB w v l) (hb : ∀ b o u, w.cell? ⟨b, o, none⟩ = some u → w'.cell? ⟨b, o, none⟩ = some u) : HB w' v l := by
  obtain ⟨p, cap, hv, hl, hm, hn, hc⟩ := h
  refine ⟨p, cap, hv, hl, hm, hn, fun h0 => ?_⟩
  obtain ⟨b, o, hp, hc2⟩ := hc h0
  exact ⟨b, o, hp, fun i x hx => hb _ _ _ (hc2 i x hx)⟩
theorem HB.keep {w w' : World} {v : Value} {l : List UInt8} (h : HB w v l) (hb : Below w.heap.size w w') : HB w' v l :=
  h.keepG fun _ _ _ hu => (hb.cell (block_lt_of_cell hu)).trans hu
theorem HB.alloc {w : World} {v : Value} {l : List UInt8} (h : HB w v l) (o : Obj) : HB (w.alloc o) v l := h.keep ((Below.refl _ _).alloc (Nat.le_refl _) _)
theorem HB.drewN {w : World} {v : Value} {l : List UInt8} (h : HB w v l) (n : Nat) : HB (w.drewN n) v l := h
theorem HB.mk_eq {w : World} {v : Value} {l l' : List UInt8} (h : HB w v l) (e : l = l') : HB w v l' := e ▸ h
theorem HB.nil (w : World) : HB w (.slice none 0 0) [] := ⟨none, 0, rfl, Nat.le_refl _, by simp [maxLen], fun _ => rfl, fun h => absurd rfl h⟩
theorem HB.empty (w : World) (p : Option Addr) (c : Nat) (hc : c ≤ maxLen) (hn : p = none → c = 0) : HB w (.slice p 0 c) [] := ⟨p, c, rfl, Nat.zero_le _, hc, hn, fun h => absurd rfl h⟩
theorem HB.len {w : World} {v : Value} {l : List UInt8} (h : HB w v l) : l.length ≤ maxLen := by
  obtain ⟨p, cap, _, hl, hm, _⟩ := h
  omega
theorem HB.form {w : World} {v : Value} {l : List UInt8} (h : HB w v l) : ∃ p cap, v = .slice p l.length cap ∧ l.length ≤ cap ∧ cap ≤ maxLen := by
  obtain ⟨p, cap, hv, hl, hm, _⟩ := h
  exact ⟨p, cap, hv, hl, hm⟩
/-- a byte of a known slice -/
theorem HB.at_ {w : World} {p : Option Addr} {n c : Nat} {l : List UInt8} (h : HB w (.slice p n c) l) {i : Nat} {x : UInt8} (hx : l[i]? = some x) : ∃ b o, p = some ⟨b, o, none⟩ ∧ w.cell? ⟨b, o + i, none⟩ = some (.int .u8 (x.toNat : Int)) := by
  obtain ⟨p', cap, hv, hl, hm, hn, hc⟩ := h
  injection hv with h1 h2 h3
  subst h1
  obtain ⟨b, o, hp, hc2⟩ := hc (ne_nil_of_get hx)
  exact ⟨b, o, hp, hc2 i x hx⟩
theorem HB.str {P : Program} {src e dst : TypeId} (hs : P.underlying src = some (.slice e)) (he : P.underlying e = some (.int .u8)) (hd : P.underlying dst = some .string) {w : World} {v : Value} {l : List UInt8} (h : HB w v l) :
    (convert src dst v).run P w = .ok (.string (bs l)) w := by
  obtain ⟨p, cap, rfl, hl, hm, hn, hc⟩ := h
  cases p with
  | none =>
    have : l = [] := List.eq_nil_of_length_eq_zero (by have := hn rfl; omega)
    subst this
    exact run_convert_bytes_nil w src e hs he _ cap dst hd
  | some a =>
    by_cases h0 : l = []
    · subst h0
      have hl0 := run_loadCells_list (P := P) (w := w) a [] (by simp)
      rw [run_convert_bytes_string w src dst e _ _ _ hs he hd]
      simp only [List.length_nil] at hl0 ⊢
      simp only [Conv.bytesToString, Sem.run_bind, hl0, Result.andThen_ok]
      rfl
    · obtain ⟨b, o, hp, hc2⟩ := hc h0
      injection hp with hp; subst hp
      exact conv_bytes hs he hd b o cap l w hc2
/-- the parts are one slice, in a block of the call's own -/
theorem parts_one {w : World} {v : Value} {l : List UInt8} {g c : Nat} (h : HB w v l) (hc : w.cell? ⟨g, 0, none⟩ = some v) (hc1 : 1 ≤ c) : Parts w (.slice (some ⟨g, 0, none⟩) 1 c) [l] := by
  refine .inr ⟨g, 0, c, [v], rfl, hc1, rfl, fun i u hu => ?_, fun i u m hu hm => ?_⟩
  · cases i with
    | zero => simp at hu; subst hu; rw [add0]; exact hc
    | succ i => simp at hu
  · cases i with
    | zero => simp at hu hm; subst hu; subst hm; exact h.holds
    | succ i => simp at hu
/-- '[]byte("..")' of a constant -/
theorem lit_at {P : Program} {t e : TypeId} (ht : P.underlying t = some (.slice e)) (he : P.underlying e = some (.int .u8)) (w : World) (C : Array Value) (n c g a b : Nat) (hg : g = w.heap.size) (ha : C.size = a) (hb : a + 1 = b) :
    (convert t t (.slice (some ⟨g, 0, none⟩) n c)).run P (w.alloc (.cells C e)) = .ok (.slice (some ⟨g, 0, none⟩) n c) (w.alloc (.cells C e (a, b))) := by
  subst hg; subst ha; subst hb
  exact Lib.run_convert_bytes_const w t e C n c ht he
/-- a new row of bytes -/
theorem HB.new (w : World) (l : List UInt8) (t : TypeId) (fr : Nat × Nat) {g n : Nat} (hg : g = w.heap.size) (hn : n = l.length) (hm : l.length ≤ maxLen) : HB (w.alloc (.cells (bvs l) t fr)) (.slice (some ⟨g, 0, none⟩) n n) l := by
  subst hg; subst hn
  refine ⟨_, l.length, rfl, Nat.le_refl _, hm, (fun h => by cases h), fun _ => ?_⟩
  refine ⟨_, _, rfl, fun i x hx => ?_⟩
  have hh := heap_alloc_new w (.cells (bvs l) t fr)
  rw [Nat.zero_add]
  simp only [World.cell?, hh]
  have := bvs_at l (List.getElem?_eq_some_iff.1 hx).1
  have e : at8 l i = x := by simp [at8, List.getD, hx]
  rw [e] at this
  simpa using this
/-- rows of bytes in a new block -/
theorem parts_new {w : World} {vs : List Value} {ls : List (List UInt8)} {g n : Nat} {t : TypeId} (hg : g = w.heap.size) (hn : n = ls.length) (hl : vs.length = ls.length)
    (h : ∀ (i : Nat) (v : Value) (l : List UInt8), vs[i]? = some v → ls[i]? = some l → HB w v l) : Parts (w.alloc (.cells vs.toArray t)) (.slice (some ⟨g, 0, none⟩) n n) ls := by
  subst hg; subst hn
  refine .inr ⟨_, _, _, vs, rfl, Nat.le_refl _, hl, fun i u hu => ?_, fun i u m hu hm => ?_⟩
  · rw [addi, Nat.zero_add, (Blk.new w t vs.toArray).cell]; simpa using hu
  · exact ((h i u m hu hm).alloc _).holds
theorem parts_new1 {w : World} {v : Value} {l : List UInt8} {g : Nat} {t : TypeId} (hg : g = w.heap.size) (h : HB w v l) : Parts (w.alloc (.cells #[v] t)) (.slice (some ⟨g, 0, none⟩) 1 1) [l] :=
  parts_new (vs := [v]) hg rfl rfl fun i u m hu hm => by
    match i with
    | 0 => simp at hu hm; subst hu; subst hm; exact h
    | i + 1 => simp at hu
theorem parts_new2 {w : World} {v1 v2 : Value} {l1 l2 : List UInt8} {g : Nat} {t : TypeId} (hg : g = w.heap.size) (h1 : HB w v1 l1) (h2 : HB w v2 l2) : Parts (w.alloc (.cells #[v1, v2] t)) (.slice (some ⟨g, 0, none⟩) 2 2) [l1, l2] :=
  parts_new (vs := [v1, v2]) hg rfl rfl fun i u m hu hm => by
    match i with
    | 0 => simp at hu hm; subst hu; subst hm; exact h1
    | 1 => simp at hu hm; subst hu; subst hm; exact h2
    | i + 2 => simp at hu
theorem parts_new3 {w : World} {v1 v2 v3 : Value} {l1 l2 l3 : List UInt8} {g : Nat} {t : TypeId} (hg : g = w.heap.size) (h1 : HB w v1 l1) (h2 : HB w v2 l2) (h3 : HB w v3 l3) : Parts (w.alloc (.cells #[v1, v2, v3] t)) (.slice (some ⟨g, 0, none⟩) 3 3) [l1, l2, l3] :=
  parts_new (vs := [v1, v2, v3]) hg rfl rfl fun i u m hu hm => by
    match i with
    | 0 => simp at hu hm; subst hu; subst hm; exact h1
    | 1 => simp at hu hm; subst hu; subst hm; exact h2
    | 2 => simp at hu hm; subst hu; subst hm; exact h3
    | i + 3 => simp at hu
/-- a part of a known slice -/
theorem HB.sub {w : World} {p : Option Addr} {n cap : Nat} {l : List UInt8} (h : HB w (.slice p n cap) l) (lo hi m : Nat) (h1 : lo ≤ hi) (h2 : hi ≤ n) (hm1 : hi ≤ m) (hm2 : m ≤ cap) :
    HB w (.slice (if m = lo then p else p.map (·.add (lo * 1))) (hi - lo) (m - lo)) ((l.drop lo).take (hi - lo)) := by
  obtain ⟨p', cap', hv, hl, hm, hn, hc⟩ := h
  injection hv with e1 e2 e3
  subst e1; subst e2; subst e3
  have hlen : ((l.drop lo).take (hi - lo)).length = hi - lo := by simp; omega
  refine ⟨_, m - lo, by rw [hlen], by rw [hlen]; omega, by omega, fun hp => ?_, fun h0 => ?_⟩
  · cases p with
    | none => have := hn rfl; omega
    | some a =>
      split at hp
      · cases hp
      · simp at hp
  · have hlt : lo < hi := by
      rcases Nat.lt_or_ge lo hi with h | h
      · exact h
      · exfalso; apply h0; apply List.eq_nil_of_length_eq_zero; omega
    have hl0 : l ≠ [] := by rintro rfl; simp at h2; omega
    obtain ⟨b, o, hp, hc2⟩ := hc hl0
    refine ⟨b, o + lo, by rw [if_neg (by omega), hp]; simp only [Option.map_some, Nat.mul_one]; rw [addi], fun i x hx => ?_⟩
    rw [List.getElem?_take] at hx
    split at hx
    · rw [List.getElem?_drop] at hx
      rw [show o + lo + i = o + (lo + i) by omega]
      exact hc2 _ _ hx
    · cases hx

/-- v is a slice of slices of the bytes ls -/
def HBs (w : World) (v : Value) (ls : List (List UInt8)) : Prop :=
  ∃ p cap, v = .slice p ls.length cap ∧ ls.length ≤ cap ∧ cap ≤ maxLen ∧ (p = none → cap = 0) ∧ (ls ≠ [] → ∃ b o, p = some ⟨b, o, none⟩ ∧ ∀ (i : Nat) (l : List UInt8), ls[i]? = some l → ∃ u, w.cell? ⟨b, o + i, none⟩ = some u ∧ HB w u l)
theorem HBs.keep {w w' : World} {v : Value} {ls : List (List UInt8)} (h : HBs w v ls) (hb : Below w.heap.size w w') : HBs w' v ls := by
  obtain ⟨p, cap, hv, hl, hm, hn, hc⟩ := h
  refine ⟨p, cap, hv, hl, hm, hn, fun h0 => ?_⟩
  obtain ⟨b, o, hp, hc2⟩ := hc h0
  exact ⟨b, o, hp, fun i l hx => (hc2 i l hx).imp fun u hu => ⟨(hb.cell (block_lt_of_cell hu.1)).trans hu.1, hu.2.keep hb⟩⟩
theorem HBs.form {w : World} {v : Value} {ls : List (List UInt8)} (h : HBs w v ls) : ∃ p cap, v = .slice p ls.length cap ∧ ls.length ≤ cap ∧ cap ≤ maxLen := by
  obtain ⟨p, cap, hv, hl, hm, _⟩ := h
  exact ⟨p, cap, hv, hl, hm⟩
theorem HBs.at_ {w : World} {p : Option Addr} {n c : Nat} {ls : List (List UInt8)} (h : HBs w (.slice p n c) ls) {i : Nat} {l : List UInt8} (hx : ls[i]? = some l) : ∃ b o u, p = some ⟨b, o, none⟩ ∧ w.cell? ⟨b, o + i, none⟩ = some u ∧ HB w u l := by
  obtain ⟨p', cap, hv, hl, hm, hn, hc⟩ := h
  injection hv with h1 h2 h3
  subst h1
  obtain ⟨b, o, hp, hc2⟩ := hc (ne_nil_of_get hx)
  obtain ⟨u, h1, h2⟩ := hc2 i l hx
  exact ⟨b, o, u, hp, h1, h2⟩
theorem HBs.parts {w : World} {v : Value} {ls : List (List UInt8)} (h : HBs w v ls) : Parts w v ls := by
  obtain ⟨p, cap, rfl, hl, hm, hn, hc⟩ := h
  by_cases h0 : ls = []
  · subst h0; exact .inl ⟨p, cap, rfl, rfl⟩
  · obtain ⟨b, o, rfl, hc2⟩ := hc h0
    have hex : ∀ i, ∃ u, ∀ l, ls[i]? = some l → w.cell? ⟨b, o + i, none⟩ = some u ∧ HB w u l := fun i => by
      cases hi : ls[i]? with
      | none => exact ⟨undef, fun l hl => by cases hl⟩
      | some l => obtain ⟨u, hu⟩ := hc2 i l hi; exact ⟨u, fun l' hl' => by cases hl'; exact hu⟩
    obtain ⟨f, hf⟩ := Classical.axiomOfChoice hex
    refine .inr ⟨b, o, cap, (List.range ls.length).map f, rfl, hl, by simp, fun i u hu => ?_, fun i u m hu hm => ?_⟩
    · rw [List.getElem?_map] at hu
      by_cases hi : i < ls.length
      · simp [hi] at hu; subst hu
        rw [addi]; exact (hf i _ (List.getElem?_eq_getElem hi)).1
      · simp [hi] at hu
    · rw [List.getElem?_map] at hu
      have hi : i < ls.length := (List.getElem?_eq_some_iff.1 hm).1
      simp [hi] at hu; subst hu
      exact (hf i _ hm).2.holds
end Go.Proofs.YtlkhbfafednegaaDoor
namespace Go.Proofs.YtlkhbfafednegaaDoor

/-- a number's bits, n places up, round -/
def rotl (x : UInt32) (n : Nat) : UInt32 := rotr x (32 - n)
/-- add one number to another one, lay it over a third, turn that up -/
def addS (s : List UInt32) (a b d n : Nat) : List UInt32 :=
  (s.set a (add32 (at32 s a) (at32 s b))).set d (rotl (xor32 (at32 (s.set a (add32 (at32 s a) (at32 s b))) d) (at32 (s.set a (add32 (at32 s a) (at32 s b))) a)) n)
theorem addS_length (s : List UInt32) (a b d n : Nat) : (addS s a b d n).length = s.length := by simp [addS]
def quarterS (s : List UInt32) (a b c d : Nat) : List UInt32 := addS (addS (addS (addS s a b d 16) c d b 12) a b d 8) c d b 7
theorem quarterS_length (s : List UInt32) (a b c d : Nat) : (quarterS s a b c d).length = s.length := by simp [quarterS, addS_length]
/-- the places of the quarters -/
def places : List (Nat × Nat × Nat × Nat) := [(0, 4, 8, 12), (1, 5, 9, 13), (2, 6, 10, 14), (3, 7, 11, 15), (0, 5, 10, 15), (1, 6, 11, 12), (2, 7, 8, 13), (3, 4, 9, 14)]
/-- the first k quarters of a turn -/
def someQ (s : List UInt32) (k : Nat) : List UInt32 := (places.take k).foldl (fun s q => quarterS s q.1 q.2.1 q.2.2.1 q.2.2.2) s
theorem someQ_zero (s : List UInt32) : someQ s 0 = s := rfl
theorem someQ_succ (s : List UInt32) {k : Nat} {q : Nat × Nat × Nat × Nat} (h : places[k]? = some q) : someQ s (k + 1) = quarterS (someQ s k) q.1 q.2.1 q.2.2.1 q.2.2.2 := by
  unfold someQ
  rw [List.take_add_one, h]
  simp
theorem someQ_length (s : List UInt32) (k : Nat) : (someQ s k).length = s.length := by
  unfold someQ
  generalize places.take k = l
  induction l generalizing s with
  | nil => rfl
  | cons q r ih => rw [List.foldl_cons, ih, quarterS_length]
/-- t turns -/
def turnsS (s : List UInt32) : Nat → List UInt32
  | 0 => s
  | t + 1 => someQ (turnsS s t) 8
theorem turnsS_length (s : List UInt32) (t : Nat) : (turnsS s t).length = s.length := by
  induction t with
  | zero => rfl
  | succ t ih => rw [turnsS, someQ_length, ih]
/-- four bytes, the lowest first -/
def le32 (l : List UInt8) (i : Nat) : UInt32 := UInt32.ofNat ((at8 l i).toNat + 256 * (at8 l (i + 1)).toNat + 65536 * (at8 l (i + 2)).toNat + 16777216 * (at8 l (i + 3)).toNat)
def constsS : List UInt32 := [0x61707865, 0x3320646e, 0x79622d32, 0x6b206574]
/-- the sixteen numbers at first -/
def beginS (key nonce : List UInt8) (n : UInt32) : List UInt32 := constsS ++ (List.range 8).map (fun i => le32 key (4 * i)) ++ [n] ++ (List.range 3).map (fun i => le32 nonce (4 * i))
theorem beginS_length (key nonce : List UInt8) (n : UInt32) : (beginS key nonce n).length = 16 := by simp [beginS, constsS]
/-- the i-th byte of a part -/
def byteS (s f : List UInt32) (i : Nat) : UInt8 := UInt8.ofNat ((add32 (at32 s (i / 4)) (at32 f (i / 4))).toNat / 256 ^ (i % 4))
/-- a part -/
def partS (key nonce : List UInt8) (n : UInt32) : List UInt8 := (List.range 64).map fun i => byteS (turnsS (beginS key nonce n) 10) (beginS key nonce n) i
theorem partS_length (key nonce : List UInt8) (n : UInt32) : (partS key nonce n).length = 64 := by simp [partS]
/-- bytes, with the stream laid over them -/
def overS (key nonce b : List UInt8) : List UInt8 := (List.range b.length).map fun i => at8 b i ^^^ at8 (partS key nonce (UInt32.ofNat (i / 64))) (i % 64)
theorem overS_length (key nonce b : List UInt8) : (overS key nonce b).length = b.length := by simp [overS]
theorem overS_at (key nonce b : List UInt8) {i : Nat} (h : i < b.length) : at8 (overS key nonce b) i = at8 b i ^^^ at8 (partS key nonce (UInt32.ofNat (i / 64))) (i % 64) := by
  simp [overS, at8, List.getD, h]
theorem ext8 {a b : List UInt8} (hl : a.length = b.length) (h : ∀ i, i < a.length → at8 a i = at8 b i) : a = b := by
  apply List.ext_getElem hl
  intro i h1 h2
  have := h i h1
  simpa [at8, List.getD, h1, h2] using this
/-- laid over twice bytes are as they were -/
theorem overS_twice (key nonce b : List UInt8) : overS key nonce (overS key nonce b) = b := by
  apply ext8 (by simp [overS_length])
  intro i hi
  rw [overS_length, overS_length] at hi
  rw [overS_at _ _ _ (by rw [overS_length]; exact hi), overS_at _ _ _ hi, UInt8.xor_assoc, UInt8.xor_self, UInt8.xor_zero]
/-- the front of bytes is laid over as it is alone -/
theorem overS_take (key nonce b : List UInt8) {k : Nat} (hk : k ≤ b.length) : (overS key nonce b).take k = overS key nonce (b.take k) := by
  apply ext8 (by rw [List.length_take, overS_length, overS_length, List.length_take])
  intro i hi
  have hi2 : i < k := by simp at hi; omega
  have e : at8 ((overS key nonce b).take k) i = at8 (overS key nonce b) i := by simp [at8, List.getD, hi2]
  have e2 : at8 (b.take k) i = at8 b i := by simp [at8, List.getD, hi2]
  rw [e, overS_at _ _ _ (by omega), overS_at _ _ _ (by simp; omega), e2]
end Go.Proofs.YtlkhbfafednegaaDoor
namespace Go.Proofs.YtlkhbfafednegaaDoor
open Go Go.RowKit

/-- the frame in which the slot of the k-th operation holds f k -/
def framedL : List Oper → Nat → Act → (Nat → Value) → Act
  | [], _, a, _ => a
  | o :: r, k, a, f => framedL r (k + 1) (a.put o.dst (f k)) f
def upd (f : Nat → Value) (i : Nat) (v : Value) : Nat → Value := fun j => if j = i then v else f j

def apartB : List Oper → Bool
  | [] => true
  | o :: r => r.all (fun x => o.dst.isNone || x.dst != o.dst) && apartB r

theorem put_put (a : Act) (d : Option Tmp) (u v : Value) : (a.put d u).put d v = a.put d v := by
  cases d with
  | none => rfl
  | some d => simp [Act.put]
theorem framedL_put (d : Option Tmp) (v : Value) (f : Nat → Value) : ∀ (l : List Oper) (k : Nat) (a : Act), l.all (fun x => d.isNone || x.dst != d) = true → (framedL l k a f).put d v = framedL l k (a.put d v) f := by
  intro l
  induction l with
  | nil => intro k a _; rfl
  | cons o r ih =>
    intro k a h
    simp only [List.all_cons, Bool.and_eq_true, Bool.or_eq_true] at h
    simp only [framedL]
    rw [ih _ _ (by simpa using h.2)]
    cases d with
    | none => rfl
    | some d =>
      rw [Act.put_comm]
      intro e he
      have h1 := h.1
      simp [he] at h1
      intro h2; injection h2 with h2; exact h1 h2.symm
theorem framedL_congr (f g : Nat → Value) : ∀ (l : List Oper) (k : Nat) (a : Act), (∀ j, k ≤ j → f j = g j) → framedL l k a f = framedL l k a g := by
  intro l
  induction l with
  | nil => intro k a _; rfl
  | cons o r ih =>
    intro k a h
    simp only [framedL]
    rw [h k (Nat.le_refl _), ih (k + 1) _ (fun j hj => h j (by omega))]
theorem framedL_upd (f : Nat → Value) (v : Value) : ∀ (l : List Oper) (k i : Nat) (a : Act) (o : Oper), apartB l = true → l[i]? = some o → (framedL l k a f).put o.dst v = framedL l k a (upd f (k + i) v) := by
  intro l
  induction l with
  | nil => intro k i a o _ h; simp at h
  | cons x r ih =>
    intro k i a o h hi
    simp only [apartB, Bool.and_eq_true] at h
    cases i with
    | zero =>
      simp only [List.getElem?_cons_zero, Option.some.injEq] at hi
      subst hi
      simp only [framedL]
      rw [framedL_put x.dst v f r (k + 1) _ (by simpa using h.1), put_put, framedL_congr f (upd f (k + 0) v) r (k + 1) _ (fun j hj => by unfold upd; rw [if_neg (by omega)])]
      simp [upd]
    | succ i =>
      simp only [List.getElem?_cons_succ] at hi
      simp only [framedL]
      rw [ih (k + 1) i _ o h.2 hi, show k + 1 + i = k + (i + 1) by omega]
      congr 2
      unfold upd; rw [if_neg (by omega)]
theorem framedL_self : ∀ (l : List Oper) (k : Nat) (a : Act) (f : Nat → Value), (∀ (i : Nat) (o : Oper), l[i]? = some o → f (k + i) = (o.dst.map fun d => a.tmps.getD d undef).getD undef) → framedL l k a f = a := by
  intro l
  induction l with
  | nil => intro k a f _; rfl
  | cons o r ih =>
    intro k a f h
    have h0 := h 0 o rfl
    have e : a.put o.dst (f k) = a := by
      rw [show f k = _ from h0]
      cases hd : o.dst with
      | none => rfl
      | some d =>
        obtain ⟨tmps, defers⟩ := a
        simp only [Option.map_some, Option.getD_some, Act.put]
        congr 1
        apply Array.ext_getElem?
        intro j
        rw [Array.getElem?_setIfInBounds]
        by_cases hj : d = j
        · subst hj
          by_cases hs : d < tmps.size
          · simp [hs, Array.getD]
          · simp [hs]
        · rw [if_neg hj]
    simp only [framedL]
    rw [e]
    exact ih (k + 1) a f (fun i o ho => by rw [show k + 1 + i = k + (i + 1) by omega]; exact h (i + 1) o ho)

/-- edges lead back -/
def backB : List Oper → Nat → Bool
  | [], _ => true
  | o :: r, k => o.after.all (fun e => !Region.binds .any e || decide (e.on < k)) && backB r (k + 1)
theorem backB_spec : ∀ (l : List Oper) (k : Nat), backB l k = true → ∀ (i : Nat) (o : Oper), l[i]? = some o → ∀ e ∈ o.after, Region.binds .any e = true → e.on < k + i := by
  intro l
  induction l with
  | nil => intro k _ i o h; simp at h
  | cons x r ih =>
    intro k h i o hi e he hb
    simp only [backB, Bool.and_eq_true] at h
    cases i with
    | zero =>
      simp only [List.getElem?_cons_zero, Option.some.injEq] at hi
      subst hi
      have := Array.all_eq_true_iff_forall_mem.1 h.1 e he
      simpa [hb] using this
    | succ i =>
      have := ih (k + 1) h.2 i o (by simpa using hi) e he hb
      omega

def unl (l : Array Bool) : Nat := l.toList.countP (· == false)
theorem unl_set {l : Array Bool} {i : Nat} (h : l.getD i true = false) : unl (l.setIfInBounds i true) + 1 = unl l := by
  have hi : i < l.size := by
    rcases Nat.lt_or_ge i l.size with h' | h'
    · exact h'
    · simp [Array.getD, Nat.not_lt.2 h'] at h
  have hv : l.toList[i]? = some false := by
    simp [Array.getD, hi] at h
    simp [hi, h]
  unfold unl
  rw [Array.toList_setIfInBounds]
  revert hv
  generalize l.toList = x
  clear h hi
  induction x generalizing i with
  | nil => intro h; simp at h
  | cons b r ih =>
    intro h
    cases i with
    | zero => simp at h; subst h; simp
    | succ i =>
      have := ih (i := i) (by simpa using h)
      simp only [List.set_cons_succ, List.countP_cons]
      omega

section
variable {P : Program} {ops : Array Oper} {Q : Exit → Act → World → Prop}
/-- what operation o owes: from its operands' assertions to its own -/
def Owes (P : Program) (ops : Array Oper) (Q : Exit → Act → World → Prop) (fr : (Nat → Value) → Act) (Ext : World → World → Prop) (R : Nat → Value → World → Prop) (w : World) (i : Nat) (o : Oper) : Prop :=
  ∀ (f : Nat → Value) (W : World), Ext w W → (∀ e ∈ o.after, Region.binds .any e = true → R e.on (f e.on) W) →
    ∀ K : Act → World → Prop, (∀ v W', R i v W' → Ext W W' → K ((fr f).put o.dst v) W') →
      if Region.wanted o (yielded ops (fr f).tmps) = true then o.wp P (fr f) W K Q else K ((fr f).put o.dst undef) W
theorem wp_region_rel {id : Nat} {a : Act} {w : World} (hm : P.follows .mixedOrders = true) (hd : apartB ops.toList = true) (hb : backB ops.toList 0 = true)
    (Ext : World → World → Prop) (R : Nat → Value → World → Prop) (htrans : ∀ A B C, Ext A B → Ext B C → Ext A C) (hdrew : Ext w w.drew)
    (hstab : ∀ i v W W', R i v W → Ext W W' → R i v W')
    (fr : (Nat → Value) → Act) (hfr : ∀ f, framedL ops.toList 0 a f = fr f)
    (hstep : ∀ (i : Nat) (o : Oper), ops[i]? = some o → Owes P ops Q fr Ext R w i o)
    (hend : ∀ (f : Nat → Value) (W : World), Ext w W → (∀ i, i < ops.size → R i (f i) W) → Q .normal (fr f) W) : (Code.region id ops true).wp P Q a w := by
  refine wp_region_any hm ?_
  have key : ∀ (fuel : Nat) (listed : Array Bool) (f : Nat → Value) (W : World), listed.size = ops.size → unl listed = fuel → Ext w W → (∀ i, listed.getD i false = true → R i (f i) W) →
      wpAny P .any ops Q fuel listed (fr f) W := by
    intro fuel
    induction fuel with
    | zero =>
      intro listed f W hs hu hE hR
      have hall : ∀ i, i < ops.size → listed.getD i false = true := by
        intro i hi
        unfold unl at hu
        rw [List.countP_eq_zero] at hu
        have hi2 : i < listed.size := by omega
        have := hu listed[i] (by simp)
        simpa [Array.getD, hi2] using this
      refine ⟨?_, hend f W hE (fun i hi => hR i (hall i hi))⟩
      unfold Region.ready
      rw [List.filter_eq_nil_iff]
      intro i hi
      have hi : i < ops.size := by simpa using hi
      have := hall i hi
      have hi2 : i < listed.size := by omega
      simp [Array.getD, hi2] at this
      simp [Array.getD, hi2, this]
    | succ fuel ih =>
      intro listed f W hs hu hE hR
      refine ⟨fun h0 => ?_, fun i hi => ?_⟩
      · -- not all are listed: the least of the others is ready
        exfalso
        have hex : ∃ i, i < ops.size ∧ listed.getD i true = false := by
          have : 0 < listed.toList.countP (· == false) := by unfold unl at hu; omega
          rw [List.countP_pos_iff] at this
          obtain ⟨b, hb1, hb2⟩ := this
          obtain ⟨i, hi, e⟩ := List.getElem_of_mem hb1
          have hi2 : i < listed.size := by simpa using hi
          refine ⟨i, by omega, ?_⟩
          have : b = false := by simpa using hb2
          subst this
          simp only [Array.getElem_toList] at e
          simp [Array.getD, hi2, e]
        have hmin : ∀ n i, i < n → i < ops.size → listed.getD i true = false → False := by
          intro n
          induction n with
          | zero => intro i h; omega
          | succ n ihn =>
            intro i _ hi hl
            have hnr : i ∉ Region.ready .any ops listed := by rw [h0]; simp
            apply hnr
            refine mem_ready.2 ⟨?_, ops[i], Array.getElem?_eq_getElem hi, ?_⟩
            · have hi2 : i < listed.size := by omega
              simpa [Array.getD, hi2] using hl
            · intro e he hbi
              have hlt := backB_spec ops.toList 0 hb i ops[i] (by simp [hi]) e he hbi
              have hes : e.on < ops.size := by omega
              cases hv : listed.getD e.on false with
              | true => rfl
              | false =>
                exfalso
                refine ihn e.on (by omega) hes ?_
                have hi2 : e.on < listed.size := by omega
                simpa [Array.getD, hi2] using hv
        obtain ⟨i, hi, hl⟩ := hex
        exact hmin (i + 1) i (by omega) hi hl
      · obtain ⟨hun, oi, hoi, hall⟩ := mem_ready.1 hi
        have hilt : i < ops.size := (Array.getElem?_eq_some_iff.1 hoi).1
        have hil : i < listed.size := by omega
        have hstep' := hstep i oi hoi f W hE (fun e he hbi => hR e.on (hall e he hbi)) (wpAny P .any ops Q fuel (listed.setIfInBounds i true))
          (fun v W' hv hE' => by
            rw [← hfr, framedL_upd f v ops.toList 0 i a oi hd (by simpa using hoi), hfr, Nat.zero_add]
            refine ih (listed.setIfInBounds i true) (upd f i v) W' (by simpa using hs) ?_ (htrans _ _ _ hE hE') (fun j hj => ?_)
            · have := unl_set (l := listed) (i := i) (by simpa [Array.getD, hil] using hun)
              omega
            · unfold upd
              by_cases e : j = i
              · subst e; rw [if_pos rfl]; exact hv
              · rw [if_neg e]
                rw [getD_set_ne false (Ne.symm e)] at hj
                exact hstab j _ W W' (hR j hj) hE')
        unfold wpOp
        rw [hoi]
        simp only
        split
        · rename_i hw
          rw [if_pos hw] at hstep'
          exact .inl hstep'
        · rename_i hw
          rw [if_neg hw] at hstep'
          exact hstep'
  obtain ⟨f0, h0⟩ : ∃ f0, a = fr f0 := by
    refine ⟨fun i => ((ops[i]?).bind fun o => o.dst.map fun d => a.tmps.getD d undef).getD undef, ?_⟩
    rw [← hfr]
    refine (framedL_self ops.toList 0 a _ (fun i o ho => ?_)).symm
    have ho' : ops[i]? = some o := by simpa using ho
    simp [ho']
  have hk := key ops.size (Array.replicate ops.size false) f0 w.drew (by simp) (by simp [unl, List.countP_replicate]) hdrew (fun i hi => by
    exfalso
    rcases Nat.lt_or_ge i ops.size with h | h
    · simp [Array.getD, h] at hi
    · simp [Array.getD, Nat.not_lt.2 h] at hi)
  rw [← h0] at hk
  exact hk
end
end Go.Proofs.YtlkhbfafednegaaDoor
namespace Go.Proofs.YtlkhbfafednegaaDoor
open Go Go.RowKit

theorem info8 : ∃ i, Tryd.prog.info? 5 = some i ∧ i.zero = some (.int .u8 0) ∧ i.size = 1 ∧ i.bytes = 1 := by
  have h : (Tryd.prog.info? 5).map (fun i => (i.zero, i.size, i.bytes)) = some (some (.int .u8 0), 1, 1) := by kernel_rfl
  obtain ⟨i, hi, he⟩ := Option.map_eq_some_iff.1 h
  simp only [Prod.mk.injEq] at he
  exact ⟨i, hi, he.1, he.2.1, he.2.2⟩

theorem xor8_rule (a b : UInt8) : bits .xor .u8 (a.toNat : Int) (b.toNat : Int) = ((a ^^^ b).toNat : Int) := by
  rw [u8_xor_nat _ _ a.toNat_lt b.toNat_lt, UInt8.toNat_xor]
theorem own_blk {w : World} {base n : Nat} {e : TypeId} {v : Value} {xs : List Value} (h : w.ownsRow base e 1 v n xs) (hn : 0 < n) : ∃ g cap cur, v = .slice (some ⟨g, 0, none⟩) n cap ∧ base ≤ g ∧ Blk w g e cur ∧ n ≤ cap ∧ cap ≤ maxLen ∧ cur.size = cap ∧ cur.toList.take n = xs ∧ xs.length = n := by
  obtain ⟨h1, h2⟩ := h
  rcases h2 with ⟨_, h0⟩ | ⟨g, cap, cur, hv, hb, hg, hc, hm, hs, ht⟩
  · omega
  · exact ⟨g, cap, cur, hv, hb, hg, hc, hm, by simpa using hs, by simpa using ht, by simpa using h1⟩
theorem own_mk {w : World} {base g n cap : Nat} {e : TypeId} {cur : Array Value} {xs : List Value} (hb : base ≤ g) (h : Blk w g e cur) (hc : n ≤ cap) (hm : cap ≤ maxLen) (hs : cur.size = cap) (ht : cur.toList.take n = xs) (hl : xs.length = n) : w.ownsRow base e 1 (.slice (some ⟨g, 0, none⟩) n cap) n xs :=
  ⟨by simpa using hl, .inr ⟨g, cap, cur, rfl, hb, h, hc, hm, by simpa using hs, by simpa using ht⟩⟩
theorem own_below {w w' : World} {base n size : Nat} {e : TypeId} {v : Value} {xs : List Value} (h : w.ownsRow base e size v n xs) (hb : Below w.heap.size w w') : w'.ownsRow base e size v n xs := by
  obtain ⟨h1, h2⟩ := h
  refine ⟨h1, ?_⟩
  rcases h2 with h2 | ⟨g, cap, cur, hv, hbg, hg, h3⟩
  · exact .inl h2
  · exact .inr ⟨g, cap, cur, hv, hbg, (hb.block g (Array.getElem?_eq_some_iff.1 hg).1).trans hg, h3⟩
theorem sb_get (s : ByteArray) {k : Nat} (h : k < s.size) : at8 (sb s) k = s[k] := by
  have h2 : k < (sb s).length := by rw [sb_length]; exact h
  simp only [at8, List.getD_eq_getElem?_getD, List.getElem?_eq_getElem h2, Option.getD_some]
  rfl
theorem own_base {w : World} {base base' n size : Nat} {e : TypeId} {v : Value} {xs : List Value} (h : w.ownsRow base e size v n xs) (hb : base' ≤ base) : w.ownsRow base' e size v n xs := by
  obtain ⟨h1, h2⟩ := h
  refine ⟨h1, h2.imp id ?_⟩
  rintro ⟨g, cap, cur, e, hg, h3⟩
  exact ⟨g, cap, cur, e, by omega, h3⟩
end Go.Proofs.YtlkhbfafednegaaDoor
namespace Go.Proofs.YtlkhbfafednegaaDoor
open Go Go.RowKit

theorem bs_toList (l : List UInt8) : (bs l).toList = l := by rw [Lib.toList_data]; exact sb_bs l
theorem bs_inj {a b : List UInt8} (h : bs a = bs b) : a = b := by rw [← sb_bs a, h, sb_bs]
/-- two strings are unlike, in the walk's own words -/
theorem bs_ne {a b : List UInt8} (h : a ≠ b) : ¬ (bs a).toList = (bs b).toList := by rw [bs_toList, bs_toList]; exact h
theorem bs_size (l : List UInt8) : (bs l).size = l.length := by rw [← sb_length, sb_bs]

theorem HB.take {w : World} {p : Option Addr} {n cap : Nat} {l : List UInt8} (h : HB w (.slice p n cap) l) {k : Nat} (hk : k ≤ n) : HB w (.slice p k cap) (l.take k) := by
  obtain ⟨p', cap', hv, hl, hm, hn, hc⟩ := id h
  injection hv with e1 e2 e3
  subst e1; subst e2; subst e3
  have := h.sub 0 k cap (Nat.zero_le _) hk (by omega) (Nat.le_refl _)
  simp only [Nat.sub_zero, Nat.zero_mul, List.drop_zero] at this
  have e : (if cap = 0 then p else p.map (·.add 0)) = p := by
    split
    · rfl
    · cases p with
      | none => rfl
      | some a => simp [Addr.add]
  rwa [e] at this
theorem HB.drop {w : World} {p : Option Addr} {n cap : Nat} {l : List UInt8} (h : HB w (.slice p n cap) l) {k : Nat} (hk : k ≤ n) : HB w (.slice (if cap = k then p else p.map fun x => x.add k) (n - k) (cap - k)) (l.drop k) := by
  obtain ⟨p', cap', hv, hl, hm, hn, hc⟩ := id h
  injection hv with e1 e2 e3
  subst e1; subst e2; subst e3
  have := h.sub k l.length cap hk (Nat.le_refl _) (by omega) (Nat.le_refl _)
  rw [Nat.mul_one, List.take_of_length_le (by simp)] at this
  exact this

/-- 'make([]byte, n)' -/
theorem run_make_bytes {P : Program} {t e : TypeId} {i : TypeInfo} (ht : P.underlying t = some (.slice e)) (hi : P.info? e = some i) (hz : i.zero = some (.int .u8 0)) (hsz : i.size = 1) (hby : i.bytes = 1) (n : Nat) (hn : n ≤ 140737488355328) (w : World) :
    (Instr.makeSlice t (.int .i64 (n : Int)) (.int .i64 (n : Int))).run P w = .ok (.slice (some ⟨w.heap.size, 0, none⟩) n n) (w.alloc (.cells (bvs (List.replicate n 0)) e)) := by
  have h := run_make (P := P) w t e i _ ht hi hz .i64 .i64 (n : Int) (n : Int) (by omega) (Int.le_refl _) (by rw [hby]; omega) (by omega)
  rw [h]
  simp only [Int.toNat_natCast, hsz, Nat.mul_one]
  have e1 : madeCells (Value.int .u8 0).cells n = bvs (List.replicate n 0) := by
    apply Array.ext
    · rw [size_madeCells, bvs_size, List.length_replicate]
    · intro j h1 h2
      simp [madeCells, Value.cells, bvs, bcv, Nat.mod_one]
  rw [e1]
theorem HB.blk {w : World} {g n : Nat} {t : TypeId} {l : List UInt8} (h : Blk w g t (bvs l)) (hn : l.length = n) (hm : n ≤ maxLen) : HB w (.slice (some ⟨g, 0, none⟩) n n) l := by
  subst hn
  refine ⟨_, l.length, rfl, Nat.le_refl _, hm, (fun h => by cases h), fun _ => ⟨g, 0, rfl, fun i x hx => ?_⟩⟩
  have hi := (List.getElem?_eq_some_iff.1 hx).1
  rw [Nat.zero_add, h.byte hi]
  have e : at8 l i = x := by simp [at8, List.getD, hx]
  rw [e]

/-- each of the first k rows has at most m bytes -/
def Short (ls : List (List UInt8)) (m k : Nat) : Prop := ∀ (i : Nat) (l : List UInt8), i < k → ls[i]? = some l → l.length ≤ m
theorem flat_short {m : Nat} (ls : List (List UInt8)) (h : Short ls m ls.length) : ls.flatten.length ≤ m * ls.length := by
  induction ls with
  | nil => simp
  | cons l r ih =>
    have h1 := h 0 l (by simp) rfl
    have h2 := ih (fun i x hi hx => h (i + 1) x (by simp; omega) hx)
    simp only [List.flatten_cons, List.length_append, List.length_cons]
    rw [Nat.mul_succ]; omega
theorem Short.succ {ls : List (List UInt8)} {m k : Nat} (h : Short ls m k) {l : List UInt8} (hl : ls[k]? = some l) (h2 : l.length ≤ m) : Short ls m (k + 1) := by
  intro i x hi hx
  by_cases e : i = k
  · subst e; rw [hl] at hx; injection hx with hx; subst hx; exact h2
  · exact h i x (by omega) hx
theorem flat_take {ls : List (List UInt8)} {k : Nat} {l : List UInt8} (hl : ls[k]? = some l) : (ls.take (k + 1)).flatten = (ls.take k).flatten ++ l := by
  rw [List.take_add_one, hl]; simp
theorem own_ge {w : World} {base n size : Nat} {e : TypeId} {v : Value} {xs : List Value} (h : w.ownsRow base e size v n xs) (j : Nat) (hj : v.ownBlock = some j) : base ≤ j := by
  rcases h.2 with ⟨rfl, _⟩ | ⟨g, cap, cur, rfl, hb, _⟩
  · simp [Value.ownBlock] at hj
  · simp [Value.ownBlock] at hj; omega
/-- a row of slices of the call's own, as parts -/
theorem own_parts {w : World} {base n : Nat} {e : TypeId} {v : Value} {xs : List Value} {ls : List (List UInt8)} (h : w.ownsRow base e 1 v n xs) (hl : xs.length = ls.length)
    (hb : ∀ (i : Nat) (u : Value) (l : List UInt8), xs[i]? = some u → ls[i]? = some l → HB w u l) : Parts w v ls := by
  have hn : xs.length = n := by have := h.1; omega
  rcases h.2 with ⟨rfl, h0⟩ | ⟨g, cap, cur, rfl, _, _, hnc, _, _, _⟩
  · subst h0; exact .inl ⟨none, 0, rfl, List.eq_nil_of_length_eq_zero (by omega)⟩
  · refine .inr ⟨g, 0, cap, xs, by rw [← hl, hn], by omega, hl, h.cells rfl, fun i u l hu hl2 => (hb i u l hu hl2).holds⟩
end Go.Proofs.YtlkhbfafednegaaDoor
namespace Go.Proofs.YtlkhbfafednegaaDoor
open Go Go.RowKit

/-- a row of the call's own is a known slice -/
theorem OwnB.hb {w : World} {base : Nat} {v : Value} {l : List UInt8} (h : OwnB w base v l) : HB w v l := by
  rcases h with ⟨rfl, rfl⟩ | ⟨g, cap, rfl, _, hl, hm, _, _, hx⟩
  · exact HB.nil w
  · exact ⟨_, cap, rfl, hl, hm, (fun h => by cases h), fun _ => ⟨g, 0, rfl, fun i x hi => by rw [Nat.zero_add]; exact hx i x hi⟩⟩
/-- a slice against nil -/
theorem run_eql_nil {P : Program} (w : World) {t e : TypeId} (a : Option Addr) (n c : Nat) (ht : P.underlying t = some (.slice e)) : (binOp .eql t (.slice a n c) (.slice none 0 0)).run P w = .ok (.bool a.isNone) w := by
  have h : ∀ d : Nat, (Op.equalIn (d + 1) t (.slice a n c) (.slice none 0 0)).run P w = .ok a.isNone w := fun d => by
    cases a <;> simp [Op.equalIn, run_underlying ht]
  simp only [binOp]
  simp [Op.equal, Op.maxDepth, h 9999]
theorem addb (b o j : Nat) : ((⟨b, o, none⟩ : Addr).add j).block = b := by unfold Addr.add; split <;> rfl
theorem splice_map {α β : Type} (f : α → β) (l m : List α) (off : Nat) : splice (l.map f) off (m.map f) = (splice l off m).map f := by
  simp [splice, List.map_take, List.map_drop]
section
variable {P : Program} {w : World} {ops : Array Oper} {rest : List Oper} {o : Oper} {a : Act} {Q : Exit → Act → World → Prop}
theorem grown_setRow (w : World) (g : Nat) (cs : Array Value) : w.grownBy (w.setRow g cs) (some g) :=
  ⟨rfl, rfl, rfl, by simp [World.setRow], fun k _ hk => setRow_other w g k cs (fun e => hk (by rw [e]))⟩
/-- bytes are copied into a block that is known -/
theorem wpList_copy_blk (hgd : o.guard = none) (d s : Operand) (dT sT : TypeId)
    (ho : o.op = .call { callee := .builtin .copy, args := #[d, s], argTypes := #[dT, sT] }) (elem : TypeId) (hu : P.underlying dT = some (.slice elem)) (hsz : (P.info? elem).map (·.size) = some 1)
    (dLen dCap : Nat) (sv : Value) (g off : Nat) (t : TypeId) (l m : List UInt8) (hd : a.eval d = .slice (some ⟨g, off, none⟩) dLen dCap) (hs : a.eval s = sv)
    (hg : Blk w g t (bvs l)) (hm : HB w sv m) (hle : m.length ≤ dLen) (hfit : off + m.length ≤ l.length)
    (h : ∀ w', Blk w' g t (bvs (splice l off m)) → w.grownBy w' (some g) → w'.heap.size = w.heap.size → wpList P ops Q rest (a.put o.dst (.int .i64 (m.length : Int))) w') :
    wpList P ops Q (o :: rest) a w := by
  obtain ⟨p, cap, rfl, hl, hmx, hn, hc⟩ := hm
  by_cases h0 : m = []
  · subst h0
    refine wpList_copy_nothing hgd d s dT sT ho elem hu hsz _ p dLen dCap 0 cap hd hs (by simp) ?_
    have := h w (by simpa [splice] using hg) (World.grownBy.refl w _) rfl
    simpa [goInt] using this
  · obtain ⟨b, q, rfl, hcell⟩ := hc h0
    have hbv : bvs l = (l.map bcv).toArray := rfl
    refine wpList_copy_own hgd d s dT sT ho elem hu hsz g off dLen dCap ⟨b, q, none⟩ m.length cap hd hs (bvs l) t hg (m.map bcv) (by rw [List.length_map]; exact (Nat.min_eq_left hle).symm) (fun j v hj => ?_) (by rw [bvs_size, List.length_map]; omega) (fun v hv => ?_) ?_
    · rw [List.getElem?_map] at hj
      obtain ⟨x, hx, rfl⟩ := Option.map_eq_some_iff.1 hj
      rw [addi]; exact hcell j x hx
    · obtain ⟨x, _, rfl⟩ := List.mem_map.1 hv
      rfl
    · rw [List.length_map]
      refine h _ ?_ (grown_setRow w g _) (by simp [World.setRow])
      have e : (w.setRow g ((bvs l).toList.take off ++ (m.map bcv ++ (bvs l).toList.drop (off + m.length))).toArray).heap[g]? = some (.cells (bvs (splice l off m)) t (0, 0)) := by
        rw [setRow_heap w g _ _ t _ hg]
        congr 2
        simp [splice, bvs, List.map_take, List.map_drop]
      exact e
end
end Go.Proofs.YtlkhbfafednegaaDoor
namespace Go.Proofs.YtlkhbfafednegaaDoor
open Go Go.RowKit

/-- what may be said of a value, so that it holds in every later world -/
inductive As where
  | any
  | eq (v : Value)
  | hb (l : List UInt8)
  | parts (ls : List (List UInt8))
  | st (p : Value → World → Prop) (h : ∀ v W W', p v W → Below W.heap.size W W' → p v W')
/-- the i-th assertion -/
def asAt : List As → Nat → As
  | [], _ => .any
  | x :: _, 0 => x
  | _ :: r, n + 1 => asAt r n
def As.holds (x : As) (v : Value) (W : World) : Prop :=
  match x with
  | .any => True
  | .eq u => v = u
  | .hb l => HB W v l
  | .parts ls => Parts W v ls
  | .st p _ => p v W
theorem As.stab (x : As) (v : Value) (W W' : World) (h : x.holds v W) (hb : Below W.heap.size W W') : x.holds v W' := by
  cases x with
  | any => trivial
  | eq u => exact h
  | hb l => exact HB.keep h hb
  | parts ls => exact Parts.keep h hb
  | st p hp => exact hp v W W' h hb
def DepAs (ys : List As) (f : Nat → Value) (W : World) : List Edge → Prop
  | [] => True
  | e :: r => (Region.binds .any e = true → (asAt ys e.on).holds (f e.on) W) ∧ DepAs ys f W r
def AllAs (f : Nat → Value) (W : World) : List As → Nat → Prop
  | [], _ => True
  | x :: r, k => x.holds (f k) W ∧ AllAs f W r (k + 1)
theorem depAs_mk {ys : List As} {f : Nat → Value} {W : World} : ∀ (l : List Edge), (∀ e ∈ l, Region.binds .any e = true → (asAt ys e.on).holds (f e.on) W) → DepAs ys f W l := by
  intro l
  induction l with
  | nil => intro _; trivial
  | cons e r ih => intro h; exact ⟨h e (by simp), ih fun x hx => h x (by simp [hx])⟩
theorem allAs_mk {f : Nat → Value} {W : World} : ∀ (ys : List As) (k : Nat), (∀ i, i < ys.length → (asAt ys i).holds (f (k + i)) W) → AllAs f W ys k := by
  intro ys
  induction ys with
  | nil => intro _ _; trivial
  | cons x r ih =>
    intro k h
    refine ⟨by simpa [asAt] using h 0 (by simp), ih (k + 1) fun i hi => ?_⟩
    have := h (i + 1) (by simp; omega)
    rw [show k + 1 + i = k + (i + 1) by omega]
    simpa [asAt] using this
section
variable {P : Program} {ops : Array Oper} {Q : Exit → Act → World → Prop}
/-- does the operation run? (its guard's value is among the assertions) -/
def guardB (ys : List As) (o : Oper) : Option Bool :=
  match o.guard with
  | none => some true
  | some (g, want) => match asAt ys g with
    | .eq (.bool b) => some (b == want)
    | _ => none
def guardsB (size : Nat) (ops : List Oper) : Bool :=
  ops.all fun o => match o.guard with
    | none => true
    | some (g, _) => (match (ops[g]?).bind (·.dst) with | some d => decide (d < size) | none => false) && o.after.any fun e => e.on == g && Region.binds .any e
theorem framedL_size (f : Nat → Value) : ∀ (l : List Oper) (k : Nat) (a : Act), (framedL l k a f).tmps.size = a.tmps.size := by
  intro l
  induction l with
  | nil => intro k a; rfl
  | cons o r ih =>
    intro k a
    simp only [framedL]
    rw [ih]
    cases o.dst <;> simp [Act.put]
theorem framedL_get (f : Nat → Value) (l : List Oper) (i d : Nat) (a : Act) (o : Oper) (hd : apartB l = true) (hi : l[i]? = some o) (ho : o.dst = some d) (hs : d < a.tmps.size) : (framedL l 0 a f).tmps[d]? = some (f i) := by
  have h := framedL_upd f (f i) l 0 i a o hd hi
  have e : upd f (0 + i) (f i) = f := by
    funext j; unfold upd; split
    · rename_i hj; rw [hj, Nat.zero_add]
    · rfl
  rw [e, ho] at h
  rw [← h]
  have hz := framedL_size f l 0 a
  generalize framedL l 0 a f = b at hz
  simp only [Act.put]
  rw [Array.getElem?_setIfInBounds]
  simp [hz, hs]
def OweAs (P : Program) (Q : Exit → Act → World → Prop) (fr : (Nat → Value) → Act) (ys : List As) (w : World) (k : Nat) (o : Oper) : Prop :=
  match guardB ys o with
  | some true => ∀ (f : Nat → Value) (W : World), Below w.heap.size w W → DepAs ys f W o.after.toList →
      ∀ K : Act → World → Prop, (∀ v W', (asAt ys k).holds v W' → Below W.heap.size W W' → K ((fr f).put o.dst v) W') → o.wp P (fr f) W K Q
  | some false => ∀ W : World, (asAt ys k).holds undef W
  | none => False
def StepsAs (P : Program) (Q : Exit → Act → World → Prop) (fr : (Nat → Value) → Act) (ys : List As) (w : World) : Nat → List Oper → Prop
  | _, [] => True
  | k, o :: r => OweAs P Q fr ys w k o ∧ StepsAs P Q fr ys w (k + 1) r
theorem stepsAs_get {fr : (Nat → Value) → Act} {ys : List As} {w : World} : ∀ (l : List Oper) (k : Nat), StepsAs P Q fr ys w k l → ∀ (i : Nat) (o : Oper), l[i]? = some o → OweAs P Q fr ys w (k + i) o := by
  intro l
  induction l with
  | nil => intro k _ i o h; simp at h
  | cons x r ih =>
    intro k h i o hi
    cases i with
    | zero => simp at hi; subst hi; exact h.1
    | succ i => rw [show k + (i + 1) = k + 1 + i by omega]; exact ih (k + 1) h.2 i o (by simpa using hi)
theorem wanted_of {a : Act} {fr : (Nat → Value) → Act} {ys : List As} {f : Nat → Value} {W : World} {i : Nat} {o : Oper} (hd : apartB ops.toList = true) (hg : guardsB a.tmps.size ops.toList = true) (hfr : ∀ f, framedL ops.toList 0 a f = fr f)
    (hol : ops.toList[i]? = some o) (hdep : ∀ e ∈ o.after, Region.binds .any e = true → (asAt ys e.on).holds (f e.on) W) : ∀ b, guardB ys o = some b → Region.wanted o (yielded ops (fr f).tmps) = b := by
  intro b hgb
  unfold guardB at hgb
  unfold Region.wanted
  cases hgo : o.guard with
  | none => rw [hgo] at hgb; simpa using hgb
  | some gw =>
    obtain ⟨g, want⟩ := gw
    rw [hgo] at hgb
    simp only at hgb ⊢
    have hgs := (List.all_eq_true.1 hg) o (List.mem_of_getElem? hol)
    rw [hgo] at hgs
    simp only [Bool.and_eq_true] at hgs
    obtain ⟨hg1, hg2⟩ := hgs
    obtain ⟨e, he, heb⟩ := Array.any_eq_true'.1 hg2
    simp only [Bool.and_eq_true, beq_iff_eq] at heb
    have hdg := hdep e he heb.2
    rw [heb.1] at hdg
    cases hgx : ops.toList[g]? with
    | none => rw [hgx] at hg1; simp at hg1
    | some og =>
      cases hod : og.dst with
      | none => rw [hgx] at hg1; simp [hod] at hg1
      | some d =>
        rw [hgx] at hg1
        simp [hod] at hg1
        have hget := framedL_get f ops.toList g d a og hd hgx hod hg1
        rw [hfr] at hget
        have hgx2 : ops[g]? = some og := by simpa using hgx
        have hy : yielded ops (fr f).tmps g = (match f g with | .bool b => some b | _ => none) := by
          unfold yielded
          rw [hgx2]
          simp only [Option.bind_some, hod, hget]
          cases f g <;> rfl
        rw [hy]
        cases hya : asAt ys g with
        | eq u =>
          rw [hya] at hgb hdg
          have hfu : f g = u := hdg
          rw [hfu]
          cases u <;> simp_all
        | any => rw [hya] at hgb; simp at hgb
        | hb l => rw [hya] at hgb; simp at hgb
        | parts ls => rw [hya] at hgb; simp at hgb
        | st p hp => rw [hya] at hgb; simp at hgb
theorem wp_region_as {id : Nat} {a : Act} {w : World} (ys : List As) (hm : P.follows .mixedOrders = true) (hd : apartB ops.toList = true) (hb : backB ops.toList 0 = true) (hg : guardsB a.tmps.size ops.toList = true) (hn : ys.length = ops.size)
    (fr : (Nat → Value) → Act) (hfr : ∀ f, framedL ops.toList 0 a f = fr f)
    (hstep : StepsAs P Q fr ys w 0 ops.toList)
    (hend : ∀ (f : Nat → Value) (W : World), Below w.heap.size w W → AllAs f W ys 0 → Q .normal (fr f) W) : (Code.region id ops true).wp P Q a w := by
  refine wp_region_rel hm hd hb (fun W W' => Below W.heap.size W W') (fun i v W => (asAt ys i).holds v W) (fun A B C h1 h2 => h1.trans (h2.mono h1.size)) (Below.refl _ _).drew
    (fun i v W W' h hE => As.stab _ v W W' h hE) fr hfr (fun i o ho => ?_) (fun f W hE hR => hend f W hE (allAs_mk ys 0 fun i hi => by rw [Nat.zero_add]; exact hR i (by omega)))
  have hol : ops.toList[i]? = some o := by simpa using ho
  have h := stepsAs_get ops.toList 0 hstep i o hol
  rw [Nat.zero_add] at h
  intro f W hE hdep K hK
  have hwant := wanted_of (ys := ys) (fr := fr) hd hg hfr hol hdep
  unfold OweAs at h
  cases hgb : guardB ys o with
  | none => rw [hgb] at h; exact h.elim
  | some b =>
    rw [hgb] at h
    rw [hwant b hgb]
    cases b with
    | true =>
      rw [if_pos rfl]
      exact h f W hE (depAs_mk _ fun e he hbi => hdep e (by simpa using he) hbi) K hK
    | false =>
      rw [if_neg (by simp)]
      exact hK undef W (h W) (Below.refl _ _)

section
variable {fr : (Nat → Value) → Act} {ys : List As} {w : World} {k : Nat} {o : Oper}
/-- an operation that computes -/
theorem oweAs_pure (v : Value) (hg : guardB ys o = some true) (h : ∀ (f : Nat → Value) (W : World), Below w.heap.size w W → DepAs ys f W o.after.toList → (execOp (fr f).eval o).run P W = .ok (.value v) W) (hv : ∀ W, Below w.heap.size w W → (asAt ys k).holds v W) :
    OweAs P Q fr ys w k o := by
  unfold OweAs
  rw [hg]
  intro f W hE hd K hK
  unfold Oper.wp
  rw [h f W hE hd]
  exact hK v W (hv W hE) (Below.refl _ _)
/-- an operation whose value hangs on the world -/
theorem oweAs_made (hg : guardB ys o = some true) (h : ∀ (f : Nat → Value) (W : World), Below w.heap.size w W → DepAs ys f W o.after.toList → ∃ v W', (execOp (fr f).eval o).run P W = .ok (.value v) W' ∧ (asAt ys k).holds v W' ∧ Below W.heap.size W W') :
    OweAs P Q fr ys w k o := by
  unfold OweAs
  rw [hg]
  intro f W hE hd K hK
  obtain ⟨v, W', hr, hv, hb⟩ := h f W hE hd
  unfold Oper.wp
  rw [hr]
  exact hK v W' hv hb
/-- a call -/
theorem oweAs_call (n : FuncId) (hg : guardB ys o = some true)
    (h : ∀ (f : Nat → Value) (W : World), Below w.heap.size w W → DepAs ys f W o.after.toList → ∃ args, (execOp (fr f).eval o).run P W = .ok (.enter n args) W ∧ Calls P n args W fun e w' => ∃ v, e = .returned v ∧ (asAt ys k).holds v w' ∧ Below W.heap.size W w') :
    OweAs P Q fr ys w k o := by
  unfold OweAs
  rw [hg]
  intro f W hE hd K hK
  obtain ⟨args, hr, hc⟩ := h f W hE hd
  unfold Oper.wp
  rw [hr]
  refine Calls.mono hc ?_
  rintro e w' ⟨v, rfl, hv, hb⟩
  exact hK v w' hv hb
/-- an operation that is passed by -/
theorem oweAs_skip (hg : guardB ys o = some false) (h : ∀ W, (asAt ys k).holds undef W) : OweAs P Q fr ys w k o := by
  unfold OweAs
  rw [hg]
  exact h
end
end
end Go.Proofs.YtlkhbfafednegaaDoor
namespace Go.Proofs.YtlkhbfafednegaaDoor
open Go Go.RowKit

/-- the i-th operation waits for the j-th, by way of others too -/
def reachB (ops : List Oper) : Nat → Nat → Nat → Bool
  | 0, _, _ => false
  | fuel + 1, i, j => match ops[i]? with
    | none => false
    | some o => (o.after.any fun e => e.on == j && Region.binds .any e) || o.after.any fun e => Region.binds .any e && reachB ops fuel e.on j
theorem reachB_spec (ops : List Oper) (S : Nat → Prop) (hS : ∀ (i : Nat) (o : Oper), S i → ops[i]? = some o → ∀ e ∈ o.after, Region.binds .any e = true → S e.on) :
    ∀ (fuel i j : Nat) (o : Oper), reachB ops fuel i j = true → ops[i]? = some o → (∀ e ∈ o.after, Region.binds .any e = true → S e.on) → S j := by
  intro fuel
  induction fuel with
  | zero => intro i j o h; simp [reachB] at h
  | succ fuel ih =>
    intro i j o h ho hd
    rw [reachB, ho] at h
    simp only [Bool.or_eq_true] at h
    rcases h with h | h
    · obtain ⟨e, he, h2⟩ := Array.any_eq_true'.1 h
      simp only [Bool.and_eq_true, beq_iff_eq] at h2
      rw [← h2.1]; exact hd e he h2.2
    · obtain ⟨e, he, h2⟩ := Array.any_eq_true'.1 h
      simp only [Bool.and_eq_true] at h2
      have hse := hd e he h2.1
      cases hoe : ops[e.on]? with
      | none =>
        have h3 := h2.2
        cases fuel with
        | zero => simp [reachB] at h3
        | succ fuel => rw [reachB, hoe] at h3; simp at h3
      | some oe => exact ih e.on j oe h2.2 hoe (hS e.on oe hse hoe)
/-- from the n-th on each operation waits for all ahead of it -/
def tailB (ops : List Oper) (n : Nat) : Bool :=
  (List.range ops.length).all fun i => decide (i < n) || (List.range i).all fun j => reachB ops ops.length i j
theorem tailB_spec (ops : List Oper) (n : Nat) (h : tailB ops n = true) (S : Nat → Prop) (hS : ∀ (i : Nat) (o : Oper), S i → ops[i]? = some o → ∀ e ∈ o.after, Region.binds .any e = true → S e.on)
    (i : Nat) (o : Oper) (ho : ops[i]? = some o) (hn : n ≤ i) (hd : ∀ e ∈ o.after, Region.binds .any e = true → S e.on) (j : Nat) (hj : j < i) : S j := by
  have hi : i < ops.length := (List.getElem?_eq_some_iff.1 ho).1
  have h1 := List.all_eq_true.1 h i (by simp; omega)
  simp only [Bool.or_eq_true, decide_eq_true_eq] at h1
  rcases h1 with h1 | h1
  · omega
  · exact reachB_spec ops S hS _ i j o (List.all_eq_true.1 h1 j (by simp; omega)) ho hd

section
variable {P : Program} {ops : Array Oper} {Q : Exit → Act → World → Prop}
theorem wpAny_tail {n : Nat} (hb : backB ops.toList 0 = true) (ht : tailB ops.toList n = true) : ∀ (fuel m : Nat) (listed : Array Bool) (a : Act) (w : World), listed.size = ops.size → n ≤ m → m + fuel = ops.size →
    (∀ i, i < ops.size → listed.getD i true = decide (i < m)) → wpList P ops Q (ops.toList.drop m) a w → wpAny P .any ops Q fuel listed a w := by
  intro fuel
  induction fuel with
  | zero =>
    intro m listed a w hs hn hm hl h
    have e : ops.toList.drop m = [] := by apply List.drop_eq_nil_of_le; simp; omega
    rw [e] at h
    refine ⟨?_, h⟩
    unfold Region.ready
    rw [List.filter_eq_nil_iff]
    intro i hi
    have hi : i < ops.size := by simpa using hi
    have := hl i hi
    rw [this]
    simp
    intro hh; omega
  | succ fuel ih =>
    intro m listed a w hs hn hm hl h
    have hmlt : m < ops.size := by omega
    have hml : m < ops.toList.length := by simpa using hmlt
    have hmo : ops[m]? = some ops[m] := Array.getElem?_eq_getElem hmlt
    have hready : ∀ i, i ∈ Region.ready .any ops listed ↔ i = m := by
      intro i
      constructor
      · intro hi
        obtain ⟨hun, oi, hoi, hall⟩ := mem_ready.1 hi
        have hilt : i < ops.size := (Array.getElem?_eq_some_iff.1 hoi).1
        have h1 := hl i hilt
        have hun2 : listed.getD i true = false := by
          have hi2 : i < listed.size := by omega
          simpa [Array.getD, hi2] using hun
        rw [hun2] at h1
        have h2 : m ≤ i := by simpa using h1.symm
        rcases Nat.eq_or_lt_of_le h2 with h3 | h3
        · exact h3.symm
        · exfalso
          have h6 := tailB_spec ops.toList n ht (· < m) (fun k ok hk hok e he hbi => by have := backB_spec ops.toList 0 hb k ok hok e he hbi; omega) i oi (by simpa using hoi) (by omega) (fun e he hbi => by
            have h7 := hall e he hbi
            have h8 : e.on < ops.size := by have := backB_spec ops.toList 0 hb i oi (by simpa using hoi) e he hbi; omega
            have h9 := hl e.on h8
            have hm2 : e.on < listed.size := by omega
            simp [Array.getD, hm2] at h7 h9
            rw [h7] at h9
            simpa using h9) m h3
          exact absurd h6 (by omega)
      · rintro rfl
        refine mem_ready.2 ⟨?_, _, hmo, ?_⟩
        · have h1 := hl i hmlt
          have hi2 : i < listed.size := by omega
          simpa [Array.getD, hi2] using h1
        · intro e he hbi
          have hlt := backB_spec ops.toList 0 hb i ops[i] (by simp [hmlt]) e he hbi
          have h1 := hl e.on (by omega)
          have hi2 : e.on < listed.size := by omega
          have : e.on < i := by omega
          simpa [Array.getD, hi2, this] using h1
    refine ⟨fun h0 => ?_, fun i hi => ?_⟩
    · exfalso
      have := (hready m).2 rfl
      rw [h0] at this; cases this
    · obtain rfl := (hready i).1 hi
      have hd : ops.toList.drop i = ops[i] :: ops.toList.drop (i + 1) := by
        rw [List.drop_eq_getElem_cons hml]; simp
      rw [hd] at h
      have hnext : ∀ a' w', wpList P ops Q (ops.toList.drop (i + 1)) a' w' → wpAny P .any ops Q fuel (listed.setIfInBounds i true) a' w' := by
        intro a' w' h'
        refine ih (i + 1) _ a' w' (by simpa using hs) (by omega) (by omega) (fun j hj => ?_) h'
        by_cases e : j = i
        · subst e
          have hj2 : j < listed.size := by omega
          simp [Array.getD, hj2]
        · have hne := getD_set_ne (listed := listed) true (Ne.symm e)
          rw [hne, hl j hj]
          have : (j < i) = (j < i + 1) := by apply propext; omega
          simp [this]
      unfold wpOp
      rw [hmo]
      simp only
      unfold wpList at h
      split
      · rename_i hw
        rw [if_pos hw] at h
        rcases h with h | h
        · exact .inl (Oper.wp_mono (fun a' w' h' => hnext a' w' h') h)
        · exact .inr h
      · rename_i hw
        rw [if_neg hw] at h
        exact hnext _ _ h

theorem wp_region_tail {id : Nat} {a : Act} {w : World} (n : Nat) (ys : List As) (hm : P.follows .mixedOrders = true) (hd : apartB ops.toList = true) (hb : backB ops.toList 0 = true) (hg : guardsB a.tmps.size ops.toList = true) (hn : ys.length = n) (hns : n ≤ ops.size) (ht : tailB ops.toList n = true)
    (fr : (Nat → Value) → Act) (hfr : ∀ f, framedL ops.toList 0 a f = fr f)
    (hstep : StepsAs P Q fr ys w 0 (ops.toList.take n))
    (hend : ∀ (f : Nat → Value) (W : World), Below w.heap.size w W → AllAs f W ys 0 → wpList P ops Q (ops.toList.drop n) (fr f) W) : (Code.region id ops true).wp P Q a w := by
  refine wp_region_any hm ?_
  have key : ∀ (fuel : Nat) (listed : Array Bool) (f : Nat → Value) (W : World), listed.size = ops.size → unl listed = fuel → Below w.heap.size w W → (∀ i, i < ops.size → n ≤ i → listed.getD i true = false) → (∀ i, listed.getD i false = true → ∀ o, ops[i]? = some o → ∀ e ∈ o.after, Region.binds .any e = true → listed.getD e.on false = true) → (∀ i, listed.getD i false = true → (asAt ys i).holds (f i) W) →
      wpAny P .any ops Q fuel listed (fr f) W := by
    intro fuel
    induction fuel with
    | zero =>
      intro listed f W hs hu hE hT hL hR
      have hall : ∀ i, i < ops.size → listed.getD i true = true := by
        intro i hi
        unfold unl at hu
        rw [List.countP_eq_zero] at hu
        have hi2 : i < listed.size := by omega
        have := hu listed[i] (by simp)
        simpa [Array.getD, hi2] using this
      have hnn : n = ops.size := by
        rcases Nat.lt_or_ge n ops.size with h | h
        · have h1 := hT n h (Nat.le_refl _); rw [hall n h] at h1; cases h1
        · omega
      refine wpAny_tail hb ht 0 n listed (fr f) W hs (Nat.le_refl _) (by omega) (fun i hi => by rw [hall i hi]; simp; omega) (hend f W hE (allAs_mk ys 0 fun i hi => ?_))
      rw [Nat.zero_add]
      refine hR i ?_
      have hi2 : i < listed.size := by omega
      have := hall i (by omega)
      simpa [Array.getD, hi2] using this
    | succ fuel ih =>
      intro listed f W hs hu hE hT hL hR
      by_cases hfull : ∀ i, i < n → listed.getD i true = true
      · have hl : ∀ i, i < ops.size → listed.getD i true = decide (i < n) := by
          intro i hi
          by_cases h : i < n
          · rw [hfull i h]; simp [h]
          · rw [hT i hi (by omega)]; simp [h]
        have hcnt : unl listed = ops.size - n := by
          have e : listed = (List.replicate n true ++ List.replicate (ops.size - n) false).toArray := by
            apply Array.ext
            · simp; omega
            · intro i h1 h2
              have := hl i (by omega)
              simp [Array.getD, h1] at this
              rw [this]
              simp [List.getElem_append]
          rw [e]
          simp [unl, List.countP_replicate]
        refine wpAny_tail hb ht (fuel + 1) n listed (fr f) W hs (Nat.le_refl _) (by omega) hl (hend f W hE (allAs_mk ys 0 fun i hi => ?_))
        rw [Nat.zero_add]
        refine hR i ?_
        have hi2 : i < listed.size := by omega
        have := hfull i (by omega)
        simpa [Array.getD, hi2] using this
      · have hex : ∃ i, i < n ∧ listed.getD i true = false := by
          refine Classical.byContradiction fun h => hfull fun i hi => ?_
          cases hv : listed.getD i true with
          | true => rfl
          | false => exact absurd ⟨i, hi, hv⟩ h
        refine ⟨fun h0 => ?_, fun i hi => ?_⟩
        · exfalso
          have hmin : ∀ m i, i < m → i < n → listed.getD i true = false → False := by
            intro m
            induction m with
            | zero => intro i h; omega
            | succ m ihm =>
              intro i _ hi hl
              have his : i < ops.size := by omega
              have hnr : i ∉ Region.ready .any ops listed := by rw [h0]; simp
              apply hnr
              refine mem_ready.2 ⟨?_, ops[i], Array.getElem?_eq_getElem his, ?_⟩
              · have hi2 : i < listed.size := by omega
                simpa [Array.getD, hi2] using hl
              · intro e he hbi
                have hlt := backB_spec ops.toList 0 hb i ops[i] (by simp [his]) e he hbi
                cases hv : listed.getD e.on false with
                | true => rfl
                | false =>
                  exfalso
                  refine ihm e.on (by omega) (by omega) ?_
                  have hi2 : e.on < listed.size := by omega
                  simpa [Array.getD, hi2] using hv
          obtain ⟨i, hi, hl⟩ := hex
          exact hmin (i + 1) i (by omega) hi hl
        · obtain ⟨hun, oi, hoi, hall⟩ := mem_ready.1 hi
          have hilt : i < ops.size := (Array.getElem?_eq_some_iff.1 hoi).1
          have hil : i < listed.size := by omega
          have hin : i < n := by
            rcases Nat.lt_or_ge i n with h | h
            · exact h
            · exfalso
              obtain ⟨j, hj, hjl⟩ := hex
              have h6 := tailB_spec ops.toList n ht (fun k => listed.getD k false = true) (fun k ok hk hok e he hbi => hL k hk ok (by simpa using hok) e he hbi) i oi (by simpa using hoi) h hall j (by omega)
              have hj2 : j < listed.size := by omega
              simp [Array.getD, hj2] at h6 hjl
              rw [h6] at hjl; cases hjl
          have hol : ops.toList[i]? = some oi := by simpa using hoi
          have h := stepsAs_get (ops.toList.take n) 0 hstep i oi (by rw [List.getElem?_take, if_pos hin]; exact hol)
          rw [Nat.zero_add] at h
          have hdep : ∀ e ∈ oi.after, Region.binds .any e = true → (asAt ys e.on).holds (f e.on) W := fun e he hbi => hR e.on (hall e he hbi)
          have hnext : ∀ v W', (asAt ys i).holds v W' → Below W.heap.size W W' → wpAny P .any ops Q fuel (listed.setIfInBounds i true) ((fr f).put oi.dst v) W' := by
            intro v W' hv hE'
            rw [← hfr, framedL_upd f v ops.toList 0 i a oi hd hol, hfr, Nat.zero_add]
            refine ih (listed.setIfInBounds i true) (upd f i v) W' (by simpa using hs) ?_ (hE.trans (hE'.mono hE.size)) (fun j hj hnj => ?_) (fun j hj o ho e he hbi => ?_) (fun j hj => ?_)
            · have := unl_set (l := listed) (i := i) (by simpa [Array.getD, hil] using hun)
              omega
            · have hne := getD_set_ne (listed := listed) (i := i) (j := j) true (by omega)
              rw [hne]; exact hT j hj hnj
            · by_cases e1 : j = i
              · subst e1
                rw [hoi] at ho; injection ho with ho; subst ho
                exact getD_set_true (hall e he hbi)
              · rw [getD_set_ne false (Ne.symm e1)] at hj
                exact getD_set_true (hL j hj o ho e he hbi)
            · unfold upd
              by_cases e : j = i
              · subst e; rw [if_pos rfl]; exact hv
              · rw [if_neg e]
                rw [getD_set_ne false (Ne.symm e)] at hj
                exact As.stab _ _ W W' (hR j hj) hE'
          have hwant := wanted_of (ys := ys) (fr := fr) hd hg hfr hol hdep
          unfold wpOp
          rw [hoi]
          simp only
          unfold OweAs at h
          cases hgb : guardB ys oi with
          | none => rw [hgb] at h; exact h.elim
          | some b =>
            rw [hgb] at h
            rw [hwant b hgb]
            cases b with
            | true =>
              rw [if_pos rfl]
              exact .inl (h f W hE (depAs_mk _ fun e he hbi => hdep e (by simpa using he) hbi) _ hnext)
            | false =>
              rw [if_neg (by simp)]
              exact hnext undef W (h W) (Below.refl _ _)
  obtain ⟨f0, h0⟩ : ∃ f0, a = fr f0 := by
    refine ⟨fun i => ((ops[i]?).bind fun o => o.dst.map fun d => a.tmps.getD d undef).getD undef, ?_⟩
    rw [← hfr]
    refine (framedL_self ops.toList 0 a _ (fun i o ho => ?_)).symm
    have ho' : ops[i]? = some o := by simpa using ho
    simp [ho']
  have hk := key ops.size (Array.replicate ops.size false) f0 w.drew (by simp) (by simp [unl, List.countP_replicate]) (Below.refl _ _).drew (fun i hi _ => by simp [Array.getD, hi]) (fun i hi => by
    exfalso
    rcases Nat.lt_or_ge i ops.size with h | h
    · simp [Array.getD, h] at hi
    · simp [Array.getD, Nat.not_lt.2 h] at hi) (fun i hi => by
    exfalso
    rcases Nat.lt_or_ge i ops.size with h | h
    · simp [Array.getD, h] at hi
    · simp [Array.getD, Nat.not_lt.2 h] at hi)
  rw [← h0] at hk
  exact hk
end
end Go.Proofs.YtlkhbfafednegaaDoor
namespace Go.Proofs.YtlkhbfafednegaaDoor

/-- a number's bytes -/
def putF (n : Nat) : List UInt8 := if n < 128 then [UInt8.ofNat n] else UInt8.ofNat (n % 128 + 128) :: putF (n / 128)
termination_by n
decreasing_by omega
theorem putF_lt {n : Nat} (h : n < 128) : putF n = [UInt8.ofNat n] := by rw [putF, if_pos h]
theorem putF_ge {n : Nat} (h : 128 ≤ n) : putF n = UInt8.ofNat (n % 128 + 128) :: putF (n / 128) := by rw [putF, if_neg (by omega)]
theorem putF_pos (n : Nat) : 0 < (putF n).length := by
  by_cases h : n < 128
  · rw [putF_lt h]; simp
  · rw [putF_ge (by omega)]; simp
theorem putF_length : ∀ (k n : Nat), n < 128 ^ (k + 1) → (putF n).length ≤ k + 1 := by
  intro k
  induction k with
  | zero => intro n h; rw [putF_lt (by simpa using h)]; simp
  | succ k ih =>
    intro n h
    by_cases h1 : n < 128
    · rw [putF_lt h1]; simp
    · rw [putF_ge (by omega), List.length_cons]
      have := ih (n / 128) (by rw [Nat.pow_succ] at h; omega)
      omega
theorem putF_length10 {n : Nat} (h : n < 18446744073709551616) : (putF n).length ≤ 10 := putF_length 9 n (Nat.lt_of_lt_of_le h (by decide))
/-- how many bytes there are, and them -/
def putW (l : List UInt8) : List UInt8 := putF l.length ++ l

/-- the number ahead: what was read up to here, the bytes that are left, how it went -/
def uintG : Nat → Nat → List UInt8 → Nat × List UInt8 × Nat
  | _, _, [] => (0, [], 10)
  | i, x, c :: r => if (i = 9 ∧ 1 < c.toNat) ∨ (0 < i ∧ c.toNat = 0) then (0, r, 11)
      else if c.toNat < 128 then (x + c.toNat * 128 ^ i, r, 0) else uintG (i + 1) (x + (c.toNat - 128) * 128 ^ i) r
theorem uintG_err (i x : Nat) (l : List UInt8) : (uintG i x l).2.2 = 0 ∨ (uintG i x l).1 = 0 := by
  induction l generalizing i x with
  | nil => exact .inr rfl
  | cons c r ih =>
    simp only [uintG]
    split
    · exact .inr rfl
    · split
      · exact .inl rfl
      · exact ih _ _
theorem uintG_left (i x : Nat) (l : List UInt8) : ∃ k, k ≤ l.length ∧ (uintG i x l).2.1 = l.drop k := by
  induction l generalizing i x with
  | nil => exact ⟨0, by simp, rfl⟩
  | cons c r ih =>
    simp only [uintG]
    split
    · exact ⟨1, by simp, by simp⟩
    · split
      · exact ⟨1, by simp, by simp⟩
      · obtain ⟨k, hk, e⟩ := ih (i + 1) (x + (c.toNat - 128) * 128 ^ i)
        exact ⟨k + 1, by simp; omega, by rw [e]; simp⟩
theorem pow_le9 {i : Nat} (h : i ≤ 9) : 0 < 128 ^ i ∧ 128 ^ i ≤ 9223372036854775808 :=
  ⟨Nat.pow_pos (by decide), by have := Nat.pow_le_pow_right (n := 128) (by decide) h; exact Nat.le_trans this (by decide)⟩
/-- a number that was put is read -/
theorem uintG_put : ∀ (m i x : Nat) (r : List UInt8), i ≤ 9 → m * 128 ^ i < 18446744073709551616 → (0 < i → 0 < m) → uintG i x (putF m ++ r) = (x + m * 128 ^ i, r, 0) := by
  intro m
  induction m using Nat.strongRecOn with
  | ind m ih =>
    intro i x r hi hb hm
    have hp := pow_le9 hi
    by_cases h : m < 128
    · rw [putF_lt h]
      have e : (UInt8.ofNat m).toNat = m := by rw [UInt8.toNat_ofNat']; omega
      simp only [List.cons_append, List.nil_append, uintG, e]
      rw [if_neg, if_pos h]
      intro hc
      rcases hc with ⟨h9, h1⟩ | ⟨h0, h1⟩
      · subst h9
        have : 2 * 9223372036854775808 ≤ m * 128 ^ 9 := Nat.mul_le_mul (by omega) (by decide)
        omega
      · have := hm h0; omega
    · rw [putF_ge (by omega)]
      have e : (UInt8.ofNat (m % 128 + 128)).toNat = m % 128 + 128 := by rw [UInt8.toNat_ofNat']; omega
      simp only [List.cons_append, uintG, e]
      have hi8 : i ≤ 8 := by
        rcases Nat.lt_or_ge i 9 with h9 | h9
        · omega
        · have : i = 9 := by omega
          subst this
          have : 128 * 9223372036854775808 ≤ m * 128 ^ 9 := Nat.mul_le_mul (by omega) (by decide)
          omega
      rw [if_neg (by omega), if_neg (by omega)]
      have es : m * 128 ^ i = (m % 128) * 128 ^ i + m / 128 * 128 ^ (i + 1) := by
        rw [Nat.pow_succ, Nat.mul_comm (128 ^ i) 128, ← Nat.mul_assoc, ← Nat.add_mul]
        congr 1; omega
      rw [ih (m / 128) (by omega) (i + 1) _ r (by omega) (by omega) (by omega), es]
      have : m % 128 + 128 - 128 = m % 128 := by omega
      rw [this, Nat.add_assoc]
/-- bytes that are read as a number are those that it has -/
theorem uintG_back : ∀ (l : List UInt8) (i x y : Nat) (r : List UInt8), uintG i x l = (y, r, 0) → ∃ m, y = x + m * 128 ^ i ∧ l = putF m ++ r ∧ (0 < i → 0 < m) := by
  intro l
  induction l with
  | nil => intro i x y r h; simp [uintG] at h
  | cons c t ih =>
    intro i x y r h
    simp only [uintG] at h
    split at h
    · simp at h
    · rename_i hg
      have hc8 := c.toNat_lt
      split at h
      · rename_i h7
        simp only [Prod.mk.injEq, and_true] at h
        refine ⟨c.toNat, h.1.symm, ?_, by omega⟩
        rw [putF_lt h7, ← h.2]
        simp
      · rename_i h7
        obtain ⟨m, h1, h2, h3⟩ := ih _ _ _ _ h
        have hm := h3 (by omega)
        refine ⟨c.toNat - 128 + 128 * m, ?_, ?_, by omega⟩
        · rw [h1, Nat.pow_succ, Nat.add_mul, Nat.mul_comm (128 ^ i) 128, ← Nat.mul_assoc, Nat.mul_comm m 128, Nat.add_assoc]
        · rw [putF_ge (by omega), h2]
          have e1 : (c.toNat - 128 + 128 * m) % 128 + 128 = c.toNat := by omega
          have e2 : (c.toNat - 128 + 128 * m) / 128 = m := by omega
          rw [e1, e2]
          simp

theorem uintG_nil (k y : Nat) : uintG k y [] = (0, [], 10) := rfl
theorem uintG_bad {k y : Nat} {c : UInt8} {r : List UInt8} (h : (k = 9 ∧ 1 < c.toNat) ∨ (0 < k ∧ c.toNat = 0)) : uintG k y (c :: r) = (0, r, 11) := by
  simp only [uintG]; rw [if_pos h]
theorem uintG_end {k y : Nat} {c : UInt8} {r : List UInt8} (h : ¬ ((k = 9 ∧ 1 < c.toNat) ∨ (0 < k ∧ c.toNat = 0))) (h2 : c.toNat < 128) : uintG k y (c :: r) = (y + c.toNat * 128 ^ k, r, 0) := by
  simp only [uintG]; rw [if_neg h, if_pos h2]
theorem uintG_more {k y : Nat} {c : UInt8} {r : List UInt8} (h : ¬ ((k = 9 ∧ 1 < c.toNat) ∨ (0 < k ∧ c.toNat = 0))) (h2 : ¬ c.toNat < 128) : uintG k y (c :: r) = uintG (k + 1) (y + (c.toNat - 128) * 128 ^ k) r := by
  simp only [uintG]; rw [if_neg h, if_neg h2]
theorem step_lt {k y q : Nat} (hk : k ≤ 9) (hy : y < 128 ^ k) (hq : q < 128) (h9 : k = 9 → q ≤ 1) : y + q * 128 ^ k < 18446744073709551616 := by
  have hp := pow_le9 hk
  rcases Nat.lt_or_ge k 9 with h | h
  · have h8 : 128 ^ (k + 1) ≤ 9223372036854775808 := by
      have := Nat.pow_le_pow_right (n := 128) (by decide) (show k + 1 ≤ 9 by omega)
      exact Nat.le_trans this (by decide)
    rw [Nat.pow_succ] at h8
    have : q * 128 ^ k ≤ 127 * 128 ^ k := Nat.mul_le_mul_right _ (by omega)
    omega
  · obtain rfl : k = 9 := by omega
    have : q * 128 ^ 9 ≤ 1 * 128 ^ 9 := Nat.mul_le_mul_right _ (h9 rfl)
    omega
theorem step_next {k y q : Nat} (hy : y < 128 ^ k) (hq : q < 128) : y + q * 128 ^ k < 128 ^ (k + 1) := by
  rw [Nat.pow_succ]
  have : q * 128 ^ k ≤ 127 * 128 ^ k := Nat.mul_le_mul_right _ (by omega)
  omega
theorem uintG_lt : ∀ (l : List UInt8) (k y : Nat), k ≤ 9 → y < 128 ^ k → (uintG k y l).1 < 18446744073709551616 := by
  intro l
  induction l with
  | nil => intro k y _ _; rw [uintG_nil]; exact Nat.zero_lt_succ _
  | cons c r ih =>
    intro k y hk hy
    by_cases h : (k = 9 ∧ 1 < c.toNat) ∨ (0 < k ∧ c.toNat = 0)
    · rw [uintG_bad h]; exact Nat.zero_lt_succ _
    · by_cases h2 : c.toNat < 128
      · rw [uintG_end h h2]
        exact step_lt hk hy h2 (fun e => by omega)
      · rw [uintG_more h h2]
        have := c.toNat_lt
        exact ih (k + 1) _ (by omega) (step_next hy (by omega))
theorem or_step {k y q : Nat} (hy : y < 128 ^ k) : y ||| q * 128 ^ k = y + q * 128 ^ k := by
  have e : (128 : Nat) ^ k = 2 ^ (7 * k) := by rw [Nat.pow_mul]
  rw [e] at hy ⊢
  have h := Nat.shiftLeft_add_eq_or_of_lt hy q
  rw [Nat.shiftLeft_eq] at h
  rw [Nat.or_comm, ← h, Nat.add_comm]

/-- a reader's bytes and its first error -/
abbrev Rst := List UInt8 × Nat
def uintR (s : Rst) : Nat × Rst := if s.2 = 0 then uintG 0 0 s.1 else (0, s)
theorem uintR_lt (s : Rst) : (uintR s).1 < 18446744073709551616 := by
  unfold uintR
  split
  · exact uintG_lt _ 0 0 (by omega) (by decide)
  · exact Nat.zero_lt_succ _
def takC (n : Nat) (s : Rst) : List UInt8 × Rst := if s.2 = 0 then (if s.1.length < n then ([], s.1, 10) else (s.1.take n, s.1.drop n, 0)) else ([], s)
def bytesR (most : Nat) (s : Rst) : List UInt8 × Rst :=
  if (uintR s).2.2 = 0 then (if most < (uintR s).1 then ([], (uintR s).2.1, 13) else takC (uintR s).1 (uintR s).2) else ([], (uintR s).2)
def endR (s : Rst) : Nat := if s.2 = 0 then (if 0 < s.1.length then 12 else 0) else s.2
theorem uintR_put (n : Nat) (r : List UInt8) (h : n < 18446744073709551616) : uintR (putF n ++ r, 0) = (n, r, 0) := by
  have := uintG_put n 0 0 r (by omega) (by simpa using h) (by omega)
  simpa [uintR] using this
theorem bytesR_putW (l r : List UInt8) (most : Nat) (h : l.length ≤ most) (hm : l.length < 18446744073709551616) : bytesR most (putW l ++ r, 0) = (l, r, 0) := by
  have e : uintR (putW l ++ r, 0) = (l.length, l ++ r, 0) := by
    rw [putW, List.append_assoc]; exact uintR_put _ _ hm
  unfold bytesR
  rw [e]
  simp only [↓reduceIte]
  rw [if_neg (by omega)]
  simp [takC]
theorem uintR_back {s : Rst} {n : Nat} {r : List UInt8} (h : uintR s = (n, r, 0)) : s.2 = 0 ∧ s.1 = putF n ++ r := by
  obtain ⟨b, e⟩ := s
  unfold uintR at h
  split at h
  · rename_i h0
    obtain ⟨m, h1, h2, _⟩ := uintG_back _ _ _ _ _ h
    have : m = n := by simp at h1; omega
    subst this
    exact ⟨h0, h2⟩
  · rename_i h0
    simp at h
    exact absurd h.2.2 h0
theorem bytesR_back {s : Rst} {most : Nat} {l r : List UInt8} (h : bytesR most s = (l, r, 0)) : s.2 = 0 ∧ s.1 = putW l ++ r ∧ l.length ≤ most := by
  unfold bytesR at h
  split at h
  · rename_i h0
    split at h
    · simp at h
    · rename_i hm
      obtain ⟨n, t, e⟩ : ∃ n t, uintR s = (n, t, 0) := ⟨(uintR s).1, (uintR s).2.1, by rw [← h0]⟩
      rw [e] at h hm
      have hb := uintR_back e
      unfold takC at h
      simp only [↓reduceIte] at h
      split at h
      · simp at h
      · rename_i hl
        simp only [Prod.mk.injEq, and_true] at h
        have hll : l.length = n := by rw [← h.1, List.length_take]; omega
        refine ⟨hb.1, ?_, by rw [hll]; omega⟩
        rw [hb.2, putW, hll, List.append_assoc, ← h.1, ← h.2, List.take_append_drop]
  · rename_i h0
    simp only [Prod.mk.injEq] at h
    rw [h.2] at h0
    simp at h0
end Go.Proofs.YtlkhbfafednegaaDoor
