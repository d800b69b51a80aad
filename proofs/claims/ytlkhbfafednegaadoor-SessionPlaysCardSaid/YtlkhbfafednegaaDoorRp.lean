/-
  The walks of replay and of its reference: what each call gives, and what becomes of memory.
-/
import Derived.Test.YtlkhbfafednegaaDoorRows
import Derived.Test.YtlkhbfafednegaaDoorGA
namespace Go.Proofs.YtlkhbfafednegaaDoor
open Go Go.RowKit

def add64 (a b : UInt64) : UInt64 := a + b
def sub64 (a b : UInt64) : UInt64 := a - b
def or64 (a b : UInt64) : UInt64 := a ||| b
def shl64 (a : UInt64) (k : Nat) : UInt64 := UInt64.ofNat (a.toNat * 2 ^ min k 64)
theorem wrap_u64_nat (n : Nat) : IntKind.u64.wrap (n : Int) = ((UInt64.ofNat n).toNat : Int) := by
  simp [IntKind.wrap_u64]
theorem sub64_rule (a b : UInt64) : IntKind.u64.wrap ((a.toNat : Int) - (b.toNat : Int)) = ((sub64 a b).toNat : Int) := by
  unfold sub64
  rw [UInt64.toNat_sub, IntKind.wrap_u64]
  have := a.toNat_lt
  have := b.toNat_lt
  omega
theorem add64_rule (a b : UInt64) : IntKind.u64.wrap ((a.toNat : Int) + (b.toNat : Int)) = ((add64 a b).toNat : Int) := by
  unfold add64
  rw [UInt64.toNat_add, IntKind.wrap_u64]
  omega
theorem add64_one (a : UInt64) : IntKind.u64.wrap ((a.toNat : Int) + 1) = ((add64 a 1).toNat : Int) := add64_rule a 1
theorem or64_rule (a b : UInt64) : bits .or .u64 (a.toNat : Int) (b.toNat : Int) = ((or64 a b).toNat : Int) := by
  rw [u64_or_nat _ _ a.toNat_lt b.toNat_lt]; unfold or64; rw [UInt64.toNat_or]
theorem or64_one (a : UInt64) : bits .or .u64 (a.toNat : Int) 1 = ((or64 a 1).toNat : Int) := or64_rule a 1
theorem shl64_rule (a : UInt64) (k : Nat) : IntKind.u64.wrap ((a.toNat : Int) * 2 ^ min k 64) = ((shl64 a k).toNat : Int) := by
  unfold shl64; rw [← wrap_u64_nat]; simp
theorem shl64_one (k : Nat) : IntKind.u64.wrap (2 ^ min k 64) = ((shl64 1 k).toNat : Int) := by
  have := shl64_rule 1 k
  simpa using this
theorem shl64_zero (a : UInt64) : shl64 a 0 = a := by simp [shl64]
theorem shl64_twice (a : UInt64) (j : Nat) (h : j < 64) : IntKind.u64.wrap (((shl64 a j).toNat : Int) * 2) = ((shl64 a (j + 1)).toNat : Int) := by
  unfold shl64
  rw [Nat.min_eq_left (by omega), Nat.min_eq_left (by omega), Nat.pow_succ, ← Nat.mul_assoc]
  generalize a.toNat * 2 ^ j = y
  rw [IntKind.wrap_u64]
  simp only [UInt64.toNat_ofNat', Nat.reducePow]
  omega
theorem shl64_cap (a : UInt64) {d : Nat} (h : 64 ≤ d) : shl64 a 64 = shl64 a d := by
  unfold shl64
  rw [Nat.min_eq_right (by omega), Nat.min_eq_right (by omega)]
attribute [local go_sem] sub64_rule add64_rule add64_one or64_rule or64_one shl64_rule shl64_one

def withF (t b n : UInt64) : UInt64 × UInt64 :=
  if t.toNat < n.toNat then (n, or64 (shl64 b (sub64 n t).toNat) 1) else (t, or64 b (shl64 1 (sub64 t n).toNat))
theorem withF_lt {t b n : UInt64} (h : t.toNat < n.toNat) : withF t b n = (n, or64 (shl64 b (sub64 n t).toNat) 1) := if_pos h
theorem withF_ge {t b n : UInt64} (h : ¬ t.toNat < n.toNat) : withF t b n = (t, or64 b (shl64 1 (sub64 t n).toNat)) := if_neg h

set_option maxHeartbeats 400000 in
theorem with_any (t b n : UInt64) (w : World) :
    Calls Tryd.prog 45 #[.agg #[.int .u64 t.toNat, .int .u64 b.toNat], .int .u64 n.toNat] w fun e w' =>
      e = .returned (.agg #[.int .u64 (withF t b n).1.toNat, .int .u64 (withF t b n).2.toNat]) ∧ Below w.heap.size w w' := by
  by_cases h : t.toNat < n.toNat
  · go_enter Tryd.func45, Tryd.ntmps45
    go_wp2
    refine bodyPost_ret (v := .agg #[.int .u64 n.toNat, .int .u64 (or64 (shl64 b (sub64 n t).toNat) 1).toNat]) (by simp [results, Tryd.results45, go_sem]) rfl ⟨by rw [withF_lt h], ?_⟩
    exact ((Below.refl _ _).alloc (Nat.le_refl _) _).alloc (by simp) _
  · go_enter Tryd.func45, Tryd.ntmps45
    go_wp2
    refine bodyPost_ret (v := .agg #[.int .u64 t.toNat, .int .u64 (or64 b (shl64 1 (sub64 t n).toNat)).toNat]) (by simp [results, Tryd.results45, go_sem]) rfl ⟨by rw [withF_ge h], ?_⟩
    exact ((Below.refl _ _).alloc (Nat.le_refl _) _).alloc (by simp) _

def seenF (t b n : UInt64) : Bool :=
  if n.toNat = 0 then true else if t.toNat < n.toNat then false else if 64 ≤ (sub64 t n).toNat then true else (bits BinOp.and IntKind.u64 ((b.toNat : Int) / 2 ^ (sub64 t n).toNat) 1 == 1)
theorem seenF_zero {t b n : UInt64} (h0 : n.toNat = 0) : seenF t b n = true := by unfold seenF; rw [if_pos h0]
theorem seenF_new {t b n : UInt64} (h0 : ¬ n.toNat = 0) (h : t.toNat < n.toNat) : seenF t b n = false := by unfold seenF; rw [if_neg h0, if_pos h]
theorem seenF_far {t b n : UInt64} (h0 : ¬ n.toNat = 0) (h : ¬ t.toNat < n.toNat) (h2 : 64 ≤ (sub64 t n).toNat) : seenF t b n = true := by unfold seenF; rw [if_neg h0, if_neg h, if_pos h2]
theorem seenF_near {t b n : UInt64} (h0 : ¬ n.toNat = 0) (h : ¬ t.toNat < n.toNat) (h2 : ¬ 64 ≤ (sub64 t n).toNat) :
    seenF t b n = (bits BinOp.and IntKind.u64 ((b.toNat : Int) / 2 ^ (sub64 t n).toNat) 1 == 1) := by unfold seenF; rw [if_neg h0, if_neg h, if_neg h2]

set_option maxHeartbeats 400000 in
theorem seen_any (t b n : UInt64) (w : World) :
    Calls Tryd.prog 44 #[.agg #[.int .u64 t.toNat, .int .u64 b.toNat], .int .u64 n.toNat] w fun e w' =>
      e = .returned (.bool (seenF t b n)) ∧ Below w.heap.size w w' := by
  by_cases h0 : n.toNat = 0
  · have e := seenF_zero (t := t) (b := b) h0
    have E := Lib.hid e; clear e
    go_enter Tryd.func44, Tryd.ntmps44
    go_wp2
    go_ret
    exact ⟨ret_bool (E.out).symm, (Below.refl _ _).alloc (Nat.le_refl _) _⟩
  have hb : ((n.toNat : Int) == 0) = false := by simpa using h0
  by_cases h : t.toNat < n.toNat
  · have e := seenF_new (t := t) (b := b) h0 h
    have E := Lib.hid e; clear e
    go_enter Tryd.func44, Tryd.ntmps44
    go_wp2
    go_ret
    exact ⟨ret_bool (E.out).symm, (Below.refl _ _).alloc (Nat.le_refl _) _⟩
  by_cases h2 : 64 ≤ (sub64 t n).toNat
  · have e := seenF_far (b := b) h0 h h2
    have E := Lib.hid e; clear e
    have h3 : decide (64 ≤ ((sub64 t n).toNat : Int)) = true := decide_eq_true (by omega)
    go_enter Tryd.func44, Tryd.ntmps44
    go_wp2
    go_ret
    exact ⟨ret_bool (E.out).symm, (Below.refl _ _).alloc (Nat.le_refl _) _⟩
  · have e := seenF_near (b := b) h0 h h2
    have E := Lib.hid e; clear e
    have h3 : decide (64 ≤ ((sub64 t n).toNat : Int)) = false := decide_eq_false (by omega)
    go_enter Tryd.func44, Tryd.ntmps44
    go_wp2
    go_ret
    exact ⟨ret_bool (E.out).symm, (Below.refl _ _).alloc (Nat.le_refl _) _⟩

theorem half64 (x : UInt64) (j : Nat) : IntKind.u64.wrap (((x.toNat : Int) / 2 ^ j).tdiv 2) = ((x.toNat / 2 ^ (j + 1) : Nat) : Int) := by
  have h : ((x.toNat : Int) / 2 ^ j).tdiv 2 = ((x.toNat / 2 ^ (j + 1) : Nat) : Int) := by
    rw [Nat.pow_succ, ← Nat.div_div_eq_div_mul]
    simp only [Int.natCast_ediv, Int.natCast_pow, Int.cast_ofNat_Int]
    exact Int.tdiv_eq_ediv_of_nonneg (Int.ediv_nonneg (by omega) (Int.le_of_lt (Int.pow_pos (by omega))))
  rw [h, IntKind.wrap_u64]
  have h1 : x.toNat / 2 ^ (j + 1) ≤ x.toNat := Nat.div_le_self _ _
  have h2 := x.toNat_lt
  generalize x.toNat / 2 ^ (j + 1) = y at *
  omega
set_option maxHeartbeats 400000 in
theorem bit_any (x : UInt64) (k : Nat) (w : World) (hk : k ≤ 64) :
    Calls Tryd.prog 58 #[.int .u64 x.toNat, .int .u64 k] w fun e w' => e = .returned (.bool (((x.toNat / 2 ^ k : Nat) : Int) % 2 == 1)) ∧ w = w' := by
  go_enter Tryd.func58, Tryd.ntmps58
  go_wp2
  go_loop [0, 5] (fun v i => ∃ j : Nat, j ≤ k ∧ i = .int .u64 j ∧ v = .int .u64 ((x.toNat / 2 ^ j : Nat) : Int)) (fun _ i => k - (intOf i).toNat)
  case atStart => exact ⟨0, Nat.zero_le _, rfl, by simp⟩
  case round =>
    obtain ⟨j, hj, rfl, rfl⟩ := hrel
    by_cases hlt : j < k
    · go_wp2
      go_round
      case rel => exact ⟨j + 1, by omega, by go_num, by rw [half64]⟩
      case measure => simp [intOf]; omega
    · obtain rfl : j = k := by omega
      go_wp2
      go_ret
      exact ⟨rfl, rfl⟩

def seenR (t b n : UInt64) : Bool :=
  if n.toNat = 0 then true else if t.toNat < n.toNat then false else if 64 ≤ (sub64 t n).toNat then true else (((b.toNat / 2 ^ (sub64 t n).toNat : Nat) : Int) % 2 == 1)
theorem seenR_zero {t b n : UInt64} (h0 : n.toNat = 0) : seenR t b n = true := by unfold seenR; rw [if_pos h0]
theorem seenR_new {t b n : UInt64} (h0 : ¬ n.toNat = 0) (h : t.toNat < n.toNat) : seenR t b n = false := by unfold seenR; rw [if_neg h0, if_pos h]
theorem seenR_far {t b n : UInt64} (h0 : ¬ n.toNat = 0) (h : ¬ t.toNat < n.toNat) (h2 : 64 ≤ (sub64 t n).toNat) : seenR t b n = true := by unfold seenR; rw [if_neg h0, if_neg h, if_pos h2]
theorem seenR_near {t b n : UInt64} (h0 : ¬ n.toNat = 0) (h : ¬ t.toNat < n.toNat) (h2 : ¬ 64 ≤ (sub64 t n).toNat) :
    seenR t b n = (((b.toNat / 2 ^ (sub64 t n).toNat : Nat) : Int) % 2 == 1) := by unfold seenR; rw [if_neg h0, if_neg h, if_neg h2]
set_option maxHeartbeats 400000 in
theorem seenR_any (t b n : UInt64) (w : World) :
    Calls Tryd.prog 50 #[.agg #[.int .u64 t.toNat, .int .u64 b.toNat], .int .u64 n.toNat] w fun e w' =>
      e = .returned (.bool (seenR t b n)) ∧ Below w.heap.size w w' := by
  by_cases h0 : n.toNat = 0
  · have e := seenR_zero (t := t) (b := b) h0
    have E := Lib.hid e; clear e
    go_enter Tryd.func50, Tryd.ntmps50
    go_wp2
    go_ret
    exact ⟨ret_bool (E.out).symm, (Below.refl _ _).alloc (Nat.le_refl _) _⟩
  have hb : ((n.toNat : Int) == 0) = false := by simpa using h0
  by_cases h : t.toNat < n.toNat
  · have e := seenR_new (t := t) (b := b) h0 h
    have E := Lib.hid e; clear e
    go_enter Tryd.func50, Tryd.ntmps50
    go_wp2
    go_ret
    exact ⟨ret_bool (E.out).symm, (Below.refl _ _).alloc (Nat.le_refl _) _⟩
  by_cases h2 : 64 ≤ (sub64 t n).toNat
  · have e := seenR_far (b := b) h0 h h2
    have E := Lib.hid e; clear e
    have h3 : decide (64 ≤ ((sub64 t n).toNat : Int)) = true := decide_eq_true (by omega)
    go_enter Tryd.func50, Tryd.ntmps50
    go_wp2
    go_ret
    exact ⟨ret_bool (E.out).symm, (Below.refl _ _).alloc (Nat.le_refl _) _⟩
  · have e := seenR_near (b := b) h0 h h2
    have E := Lib.hid e; clear e
    have h3 : decide (64 ≤ ((sub64 t n).toNat : Int)) = false := decide_eq_false (by omega)
    go_enter Tryd.func50, Tryd.ntmps50
    go_wp2_with (go_at_call 58; refine (bit_any _ _ _ (by omega)).mono ?_; rintro e w' ⟨rfl, rfl⟩)
    go_ret
    exact ⟨ret_bool (E.out).symm, (Below.refl _ _).alloc (Nat.le_refl _) _⟩

theorem seen_eq (t b n : UInt64) : seenF t b n = seenR t b n := by
  unfold seenF seenR
  have e : (bits BinOp.and IntKind.u64 ((b.toNat : Int) / 2 ^ (sub64 t n).toNat) 1 == 1) = (((b.toNat / 2 ^ (sub64 t n).toNat : Nat) : Int) % 2 == 1) := by
    have h1 : ((b.toNat : Int) / 2 ^ (sub64 t n).toNat) = ((b.toNat / 2 ^ (sub64 t n).toNat : Nat) : Int) := by simp
    rw [h1]
    have h2 : b.toNat / 2 ^ (sub64 t n).toNat < 18446744073709551616 := Nat.lt_of_le_of_lt (Nat.div_le_self _ _) b.toNat_lt
    generalize b.toNat / 2 ^ (sub64 t n).toNat = y at *
    have h3 := u64_and_nat y 1 h2 (by omega)
    rw [show ((1 : Nat) : Int) = 1 from rfl] at h3
    rw [h3, Nat.and_one_is_mod]
    rfl
  rw [e]

/-- What a number that is new makes of a window. -/
theorem withF_new {t b n : UInt64} (hs : seenF t b n = false) : (t.toNat < n.toNat ∨ (n.toNat ≤ t.toNat ∧ t.toNat - n.toNat < 64 ∧ (sub64 t n).toNat = t.toNat - n.toNat ∧ b.toNat / 2 ^ (t.toNat - n.toNat) % 2 = 0)) := by
  rw [seen_eq] at hs
  by_cases h0 : n.toNat = 0
  · rw [seenR_zero h0] at hs; cases hs
  by_cases h : t.toNat < n.toNat
  · exact .inl h
  have hd : (sub64 t n).toNat = t.toNat - n.toNat := by
    unfold sub64; rw [UInt64.toNat_sub]
    have := t.toNat_lt
    have := n.toNat_lt
    omega
  by_cases h2 : 64 ≤ (sub64 t n).toNat
  · rw [seenR_far h0 h h2] at hs; cases hs
  rw [seenR_near h0 h h2, hd] at hs
  refine .inr ⟨by omega, by omega, hd, ?_⟩
  rw [beq_eq_false_iff_ne] at hs
  generalize b.toNat / 2 ^ (t.toNat - n.toNat) = y at *
  omega

theorem or_add (a b : UInt64) (h : a.toNat &&& b.toNat = 0) : a + b = a ||| b := by
  apply UInt64.toBitVec_inj.1
  rw [UInt64.toBitVec_add, UInt64.toBitVec_or]
  apply BitVec.add_eq_or_of_and_eq_zero
  apply BitVec.eq_of_toNat_eq
  simpa using h
theorem and_pow (b : Nat) (k : Nat) (h : b / 2 ^ k % 2 = 0) : b &&& 2 ^ k = 0 := by
  apply Nat.eq_of_testBit_eq
  intro i
  rw [Nat.testBit_and, Nat.testBit_two_pow, Nat.zero_testBit]
  by_cases hi : k = i
  · subst hi
    rw [Nat.testBit_eq_decide_div_mod_eq]; simp [h]
  · simp [hi]
theorem shl64_one_toNat {k : Nat} (h : k < 64) : (shl64 1 k).toNat = 2 ^ k := by
  unfold shl64
  rw [Nat.min_eq_left (by omega)]
  have : (2 : Nat) ^ k < 2 ^ 64 := Nat.pow_lt_pow_right (by omega) h
  simp only [UInt64.toNat_one, Nat.one_mul, UInt64.toNat_ofNat', Nat.reducePow] at *
  exact Nat.mod_eq_of_lt this
theorem near_add {t b n : UInt64} (hd : (sub64 t n).toNat = t.toNat - n.toNat) (h : t.toNat - n.toNat < 64) (hb : b.toNat / 2 ^ (t.toNat - n.toNat) % 2 = 0) :
    add64 b (shl64 1 (sub64 t n).toNat) = or64 b (shl64 1 (sub64 t n).toNat) := by
  unfold add64 or64
  apply or_add
  rw [hd, shl64_one_toNat h]
  exact and_pow _ _ hb
theorem far_add (b : UInt64) {d : Nat} (hd : 0 < d) : add64 (shl64 b d) 1 = or64 (shl64 b d) 1 := by
  unfold add64 or64
  apply or_add
  rw [UInt64.toNat_one, Nat.and_one_is_mod]
  unfold shl64
  obtain ⟨m, hm⟩ : ∃ m, min d 64 = m + 1 := ⟨min d 64 - 1, by omega⟩
  rw [hm, Nat.pow_succ, ← Nat.mul_assoc]
  generalize b.toNat * 2 ^ m = y
  simp only [UInt64.toNat_ofNat', Nat.reducePow]
  omega
theorem withF_ne {t b n : UInt64} (hs : seenF t b n = false) : (((withF t b n).1.toNat : Int) == (t.toNat : Int) && ((withF t b n).2.toNat : Int) == (b.toNat : Int)) = false := by
  rcases withF_new hs with h | ⟨h1, h2, hd, hb⟩
  · rw [withF_lt h]
    have : ¬ ((n.toNat : Int) = (t.toNat : Int)) := by omega
    simp [this]
  · rw [withF_ge (by omega), ← near_add hd h2 hb]
    have hp : 0 < 2 ^ (t.toNat - n.toNat) := Nat.pow_pos (by omega)
    have hp2 : (2 : Nat) ^ (t.toNat - n.toNat) < 2 ^ 64 := Nat.pow_lt_pow_right (by omega) h2
    have : ¬ (((add64 b (shl64 1 (sub64 t n).toNat)).toNat : Int) = (b.toNat : Int)) := by
      unfold add64
      rw [hd, UInt64.toNat_add, shl64_one_toNat h2]
      have := b.toNat_lt
      generalize (2 : Nat) ^ (t.toNat - n.toNat) = y at *
      omega
    simp [this]

theorem eqlW (a b c d : Int) (W : World) : (binOp .eql 56 (.agg #[.int .u64 a, .int .u64 b]) (.agg #[.int .u64 c, .int .u64 d])).run Tryd.prog W = .ok (.bool (a == c && b == d)) W := by
  simp [go_sem]
  by_cases h1 : a = c <;> by_cases h2 : b = d <;> simp [h1, h2, go_sem]

abbrev Win (w : World) (g : Nat) (t b : UInt64) : Prop := Blk w g 56 #[.int .u64 t.toNat, .int .u64 b.toNat]

set_option maxHeartbeats 400000 in
theorem take_old (t b n : UInt64) (g : Nat) (w : World) (hw : Win w g t b) (hs : seenF t b n = true) :
    Calls Tryd.prog 28 #[.pointer (some ⟨g, 0, none⟩), .int .u64 n.toNat] w fun e w' =>
      e = .returned (.int .i64 22) ∧ Below w.heap.size w w' := by
  have hlt := hw.lt
  have h0 := hw.cell 0
  have h1 := hw.cell 1
  clear hw
  go_enter Tryd.func28, Tryd.ntmps28
  go_wp2_with (go_at_call 44; refine (seen_any _ _ _ _).mono ?_; rintro e w1 ⟨rfl, hb1⟩; obtain ⟨hcc, hff⟩ := bcell hb1)
  go_quiet (fail)
  go_wp2
  go_ret
  exact ⟨rfl, below_drewN ((((Below.refl _ _).alloc (Nat.le_refl _) _)).trans (hb1.mono (by simp))) _⟩

set_option maxHeartbeats 400000 in
theorem take_new (t b n : UInt64) (g : Nat) (w : World) (hw : Win w g t b) (hs : seenF t b n = false) :
    Calls Tryd.prog 28 #[.pointer (some ⟨g, 0, none⟩), .int .u64 n.toNat] w fun e w' =>
      e = .returned (.int .i64 0) ∧ w.grownBy w' (some g) ∧ Win w' g (withF t b n).1 (withF t b n).2 := by
  have hlt := hw.lt
  have h0 := hw.cell 0
  have h1 := hw.cell 1
  have hf0 := hw.frozen 0
  have hf1 := hw.frozen 1
  have HW := Lib.hid hw; clear hw
  have hne : (((withF t b n).1.toNat : Int) == (t.toNat : Int) && ((withF t b n).2.toNat : Int) == (b.toNat : Int)) = false := withF_ne hs
  go_enter Tryd.func28, Tryd.ntmps28
  go_wp2_with (first | (go_at_call 44; refine (seen_any _ _ _ _).mono ?_; rintro e w1 ⟨rfl, hb1⟩; obtain ⟨hcc, hff⟩ := bcell hb1) | (go_at_call 45; refine (with_any _ _ _ _).mono ?_; rintro e w2 ⟨rfl, hb2⟩; have hz1 : w.heap.size < w1.heap.size := (by have := hb1.size; simp at this; omega); have hg1 : g < w1.heap.size := (by omega); obtain ⟨hcc2, hff2⟩ := bcell hb2))
  have he := eqlW
  go_quiet (fail)
  go_wp2
  go_ret
  refine ⟨rfl, ?_, ?_⟩
  · exact Only.store (Only.store (Only.drewN (Only.store (Only.store (Only.below (Only.below (Only.new (World.grownBy.refl w (some g)) _) hb1 (by simp)) hb2 (by omega)) (.inr (Nat.le_refl _)) _) (.inr (Nat.le_refl _)) _) _) (.inl rfl) _) (.inl rfl) _
  · have hne : g ≠ w.heap.size := by omega
    exact ((((((((HW.out).alloc _).below hb1 (by simp; omega)).below hb2 hg1).other (p := ⟨w.heap.size, 0, none⟩) hne _).other (p := ⟨w.heap.size, 1, none⟩) hne _).drewN _).store 0 _).store 1 _

/-- a nil window -/
theorem take_nil (n : UInt64) (w : World) : Calls Tryd.prog 28 #[.pointer none, .int .u64 n.toNat] w fun e w' => e = .returned (.int .i64 1) ∧ w = w' := by
  go_enter Tryd.func28, Tryd.ntmps28
  go_wp2
  go_ret
  exact ⟨rfl, rfl⟩

def takeR (t b n : UInt64) : UInt64 × UInt64 :=
  if t.toNat < n.toNat then (n, add64 (shl64 b (sub64 n t).toNat) 1) else (t, add64 b (shl64 1 (sub64 t n).toNat))
theorem takeR_lt {t b n : UInt64} (h : t.toNat < n.toNat) : takeR t b n = (n, add64 (shl64 b (sub64 n t).toNat) 1) := if_pos h
theorem takeR_ge {t b n : UInt64} (h : ¬ t.toNat < n.toNat) : takeR t b n = (t, add64 b (shl64 1 (sub64 t n).toNat)) := if_neg h
theorem takeR_eq {t b n : UInt64} (hs : seenF t b n = false) : takeR t b n = withF t b n := by
  rcases withF_new hs with h | ⟨h1, h2, hd, hb⟩
  · rw [takeR_lt h, withF_lt h, far_add]
    unfold sub64
    rw [UInt64.toNat_sub]
    have := t.toNat_lt
    have := n.toNat_lt
    omega
  · rw [takeR_ge (by omega), withF_ge (by omega), near_add hd h2 hb]

set_option maxHeartbeats 400000 in
theorem takeR_old (t b n : UInt64) (w : World) (hs : seenR t b n = true) :
    Calls Tryd.prog 34 #[.agg #[.int .u64 t.toNat, .int .u64 b.toNat], .int .u64 n.toNat] w fun e w' =>
      e = .returned (.tuple #[.agg #[.int .u64 t.toNat, .int .u64 b.toNat], .int .i64 22]) ∧ Below w.heap.size w w' := by
  go_enter Tryd.func34, Tryd.ntmps34
  go_wp2_with (go_at_call 50; refine (seenR_any _ _ _ _).mono ?_; rintro e w1 ⟨rfl, hb1⟩; obtain ⟨hcc, hff⟩ := bcell hb1)
  refine bodyPost_ret (results_cell_tmp Tryd.results34 rfl (t := 36) (g := w.heap.size + 1) (cs := #[.int .u64 t.toNat, .int .u64 b.toNat]) ?_ Tryd.underlying36 rfl (by kernel_rfl)) rfl ⟨rfl, ?_⟩
  · exact (((Blk.new' (w := w.alloc _) (by simp) _ _).below hb1 (by simp)).store 0 _).store 1 _
  · exact (((((Below.refl w.heap.size w).alloc (Nat.le_refl _) _).alloc (by simp) _).trans (hb1.mono (by simp; omega))).setCell (by simp) _).setCell (by simp) _

set_option maxHeartbeats 800000 in
theorem takeR_lt_any (t b n : UInt64) (w : World) (hs : seenR t b n = false) (h : t.toNat < n.toNat) :
    Calls Tryd.prog 34 #[.agg #[.int .u64 t.toNat, .int .u64 b.toNat], .int .u64 n.toNat] w fun e w' =>
      e = .returned (.tuple #[.agg #[.int .u64 (takeR t b n).1.toNat, .int .u64 (takeR t b n).2.toNat], .int .i64 0]) ∧ Below w.heap.size w w' := by
  have HE := Lib.hid (takeR_lt (b := b) h)
  go_enter Tryd.func34, Tryd.ntmps34
  go_wp2_with (go_at_call 50; refine (seenR_any _ _ _ _).mono ?_; rintro e w1 ⟨rfl, hb1⟩; obtain ⟨hcc, hff⟩ := bcell hb1)
  go_loop [7, 8] (fun v i => ∃ j : Nat, j ≤ 64 ∧ j ≤ (sub64 n t).toNat ∧ i = .int .u64 j ∧ v = .int .u64 (shl64 b j).toNat) (fun _ i => 64 - (intOf i).toNat)
  case atStart => exact ⟨0, by omega, by omega, rfl, by rw [shl64_zero]⟩
  case round =>
    obtain ⟨j, hj, hj2, rfl, rfl⟩ := hrel
    have htw := shl64_twice b j
    by_cases hlt : j < (sub64 n t).toNat
    · by_cases hl2 : j < 64
      · have ht := htw hl2
        clear htw
        go_wp2
        go_round
        case rel => exact ⟨j + 1, by omega, by omega, by go_num, rfl⟩
        case measure => simp [intOf]; omega
      · obtain rfl : j = 64 := by omega
        clear htw
        go_wp2
        refine bodyPost_ret (results_cell_tmp Tryd.results34 rfl (t := 36) (g := w.heap.size + 1) (cs := #[.int .u64 n.toNat, .int .u64 (add64 (shl64 b 64) 1).toNat]) ?_ Tryd.underlying36 rfl (by kernel_rfl)) rfl ⟨?_, ?_⟩
        · exact (((Blk.new' (w := w.alloc _) (by simp) _ _).below hb1 (by simp)).store 0 _).store 1 _
        · rw [HE.out, ← shl64_cap b hj2]; rfl
        · exact (((((Below.refl w.heap.size w).alloc (Nat.le_refl _) _).alloc (by simp) _).trans (hb1.mono (by simp; omega))).setCell (by simp) _).setCell (by simp) _
    · obtain rfl : j = (sub64 n t).toNat := by omega
      clear htw
      go_wp2
      refine bodyPost_ret (results_cell_tmp Tryd.results34 rfl (t := 36) (g := w.heap.size + 1) (cs := #[.int .u64 n.toNat, .int .u64 (add64 (shl64 b (sub64 n t).toNat) 1).toNat]) ?_ Tryd.underlying36 rfl (by kernel_rfl)) rfl ⟨?_, ?_⟩
      · exact (((Blk.new' (w := w.alloc _) (by simp) _ _).below hb1 (by simp)).store 0 _).store 1 _
      · rw [HE.out]; rfl
      · exact (((((Below.refl w.heap.size w).alloc (Nat.le_refl _) _).alloc (by simp) _).trans (hb1.mono (by simp; omega))).setCell (by simp) _).setCell (by simp) _

set_option maxHeartbeats 800000 in
theorem takeR_ge_any (t b n : UInt64) (w : World) (hs : seenR t b n = false) (h : ¬ t.toNat < n.toNat) (hd : (sub64 t n).toNat < 64) :
    Calls Tryd.prog 34 #[.agg #[.int .u64 t.toNat, .int .u64 b.toNat], .int .u64 n.toNat] w fun e w' =>
      e = .returned (.tuple #[.agg #[.int .u64 (takeR t b n).1.toNat, .int .u64 (takeR t b n).2.toNat], .int .i64 0]) ∧ Below w.heap.size w w' := by
  have HE := Lib.hid (takeR_ge (b := b) h)
  go_enter Tryd.func34, Tryd.ntmps34
  go_wp2_with (go_at_call 50; refine (seenR_any _ _ _ _).mono ?_; rintro e w1 ⟨rfl, hb1⟩; obtain ⟨hcc, hff⟩ := bcell hb1)
  go_loop [9, 10] (fun v i => ∃ j : Nat, j ≤ (sub64 t n).toNat ∧ i = .int .u64 j ∧ v = .int .u64 (shl64 1 j).toNat) (fun _ i => 64 - (intOf i).toNat)
  case atStart => exact ⟨0, by omega, rfl, by rw [shl64_zero]; rfl⟩
  case round =>
    obtain ⟨j, hj, rfl, rfl⟩ := hrel
    have htw := shl64_twice 1 j
    by_cases hlt : j < (sub64 t n).toNat
    · have ht := htw (by omega)
      clear htw
      go_wp2
      go_round
      case rel => exact ⟨j + 1, by omega, by go_num, rfl⟩
      case measure => simp [intOf]; omega
    · obtain rfl : j = (sub64 t n).toNat := by omega
      clear htw
      go_wp2
      refine bodyPost_ret (results_cell_tmp Tryd.results34 rfl (t := 36) (g := w.heap.size + 1) (cs := #[.int .u64 t.toNat, .int .u64 (add64 b (shl64 1 (sub64 t n).toNat)).toNat]) ?_ Tryd.underlying36 rfl (by kernel_rfl)) rfl ⟨?_, ?_⟩
      · have hB := ((Blk.new' (w := w.alloc (.cells #[.int .u64 t.toNat, .int .u64 b.toNat] 36)) (g := w.heap.size + 1) (by simp) 36 #[.int .u64 0, .int .u64 0]).below hb1 (by simp))
        have hne : w.heap.size + 1 ≠ w.heap.size := by omega
        exact ((hB.other (p := ⟨w.heap.size, 1, none⟩) hne _).store 0 _).store 1 _
      · rw [HE.out]; rfl
      · exact ((((((Below.refl w.heap.size w).alloc (Nat.le_refl _) _).alloc (by simp) _).trans (hb1.mono (by simp; omega))).setCell (by simp) _).setCell (by simp) _).setCell (by simp) _

/-- The reference's Take: an old number. -/
theorem refTake_old (t b n : UInt64) (w : World) (hs : seenF t b n = true) :
    Calls Tryd.prog 34 #[.agg #[.int .u64 t.toNat, .int .u64 b.toNat], .int .u64 n.toNat] w fun e w' =>
      e = .returned (.tuple #[.agg #[.int .u64 t.toNat, .int .u64 b.toNat], .int .i64 22]) ∧ Below w.heap.size w w' :=
  takeR_old t b n w (by rw [← seen_eq]; exact hs)
theorem refTake_new (t b n : UInt64) (w : World) (hs : seenF t b n = false) :
    Calls Tryd.prog 34 #[.agg #[.int .u64 t.toNat, .int .u64 b.toNat], .int .u64 n.toNat] w fun e w' =>
      e = .returned (.tuple #[.agg #[.int .u64 (withF t b n).1.toNat, .int .u64 (withF t b n).2.toNat], .int .i64 0]) ∧ Below w.heap.size w w' := by
  have hs' : seenR t b n = false := by rw [← seen_eq]; exact hs
  rw [← takeR_eq hs]
  rcases withF_new hs with h | ⟨h1, h2, hd, hb⟩
  · exact takeR_lt_any t b n w hs' h
  · exact takeR_ge_any t b n w hs' (by omega) (by omega)
end Go.Proofs.YtlkhbfafednegaaDoor
