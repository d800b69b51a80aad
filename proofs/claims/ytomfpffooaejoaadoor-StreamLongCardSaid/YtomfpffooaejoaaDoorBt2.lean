/-
  More on rows of bytes. No program is named here.
-/
import Derived.Test.YtomfpffooaejoaaDoorBt
import Derived.Test.YtomfpffooaejoaaDoorReg
namespace Go.Proofs.YtomfpffooaejoaaDoor
open Go Go.RowKit

theorem bs_toList (l : List UInt8) : (bs l).toList = l := by rw [Lib.toList_data]; exact sb_bs l
theorem bs_inj {a b : List UInt8} (h : bs a = bs b) : a = b := by rw [← sb_bs a, h, sb_bs]
/-- two strings are unlike, in the walk's own words -/
theorem bs_ne {a b : List UInt8} (h : a ≠ b) : ¬ (bs a).toList = (bs b).toList := by rw [bs_toList, bs_toList]; exact h
theorem bs_size (l : List UInt8) : (bs l).size = l.length := by rw [← sb_length, sb_bs]

theorem HB.take {w : World} {p : Option Addr} {n cap : Nat} {l : List UInt8} (h : HB w (.slice p n cap) l) {k : Nat} (hk : k ≤ n) : HB w (.slice p k cap) (l.take k) := by
  obtain ⟨p', cap', hv, hl, hm, hn, hc⟩ := id h
  injection hv with e1 e2 e3
  subst e1; subst e2; subst e3
  have := h.sub 0 k cap (Nat.zero_le _) hk (by omega) (Nat.le_refl _)
  simp only [Nat.sub_zero, Nat.zero_mul, List.drop_zero] at this
  have e : (if cap = 0 then p else p.map (·.add 0)) = p := by
    split
    · rfl
    · cases p with
      | none => rfl
      | some a => simp [Addr.add]
  rwa [e] at this
theorem HB.drop {w : World} {p : Option Addr} {n cap : Nat} {l : List UInt8} (h : HB w (.slice p n cap) l) {k : Nat} (hk : k ≤ n) : HB w (.slice (if cap = k then p else p.map fun x => x.add k) (n - k) (cap - k)) (l.drop k) := by
  obtain ⟨p', cap', hv, hl, hm, hn, hc⟩ := id h
  injection hv with e1 e2 e3
  subst e1; subst e2; subst e3
  have := h.sub k l.length cap hk (Nat.le_refl _) (by omega) (Nat.le_refl _)
  rw [Nat.mul_one, List.take_of_length_le (by simp)] at this
  exact this

/-- 'make([]byte, n)' -/
theorem run_make_bytes {P : Program} {t e : TypeId} {i : TypeInfo} (ht : P.underlying t = some (.slice e)) (hi : P.info? e = some i) (hz : i.zero = some (.int .u8 0)) (hsz : i.size = 1) (hby : i.bytes = 1) (n : Nat) (hn : n ≤ 140737488355328) (w : World) :
    (Instr.makeSlice t (.int .i64 (n : Int)) (.int .i64 (n : Int))).run P w = .ok (.slice (some ⟨w.heap.size, 0, none⟩) n n) (w.alloc (.cells (bvs (List.replicate n 0)) e)) := by
  have h := run_make (P := P) w t e i _ ht hi hz .i64 .i64 (n : Int) (n : Int) (by omega) (Int.le_refl _) (by rw [hby]; omega) (by omega)
  rw [h]
  simp only [Int.toNat_natCast, hsz, Nat.mul_one]
  have e1 : madeCells (Value.int .u8 0).cells n = bvs (List.replicate n 0) := by
    apply Array.ext
    · rw [size_madeCells, bvs_size, List.length_replicate]
    · intro j h1 h2
      simp [madeCells, Value.cells, bvs, bcv, Nat.mod_one]
  rw [e1]
theorem HB.blk {w : World} {g n : Nat} {t : TypeId} {l : List UInt8} (h : Blk w g t (bvs l)) (hn : l.length = n) (hm : n ≤ maxLen) : HB w (.slice (some ⟨g, 0, none⟩) n n) l := by
  subst hn
  refine ⟨_, l.length, rfl, Nat.le_refl _, hm, (fun h => by cases h), fun _ => ⟨g, 0, rfl, fun i x hx => ?_⟩⟩
  have hi := (List.getElem?_eq_some_iff.1 hx).1
  rw [Nat.zero_add, h.byte hi]
  have e : at8 l i = x := by simp [at8, List.getD, hx]
  rw [e]

/-- each of the first k rows has at most m bytes -/
def Short (ls : List (List UInt8)) (m k : Nat) : Prop := ∀ (i : Nat) (l : List UInt8), i < k → ls[i]? = some l → l.length ≤ m
theorem flat_short {m : Nat} (ls : List (List UInt8)) (h : Short ls m ls.length) : ls.flatten.length ≤ m * ls.length := by
  induction ls with
  | nil => simp
  | cons l r ih =>
    have h1 := h 0 l (by simp) rfl
    have h2 := ih (fun i x hi hx => h (i + 1) x (by simp; omega) hx)
    simp only [List.flatten_cons, List.length_append, List.length_cons]
    rw [Nat.mul_succ]; omega
theorem Short.succ {ls : List (List UInt8)} {m k : Nat} (h : Short ls m k) {l : List UInt8} (hl : ls[k]? = some l) (h2 : l.length ≤ m) : Short ls m (k + 1) := by
  intro i x hi hx
  by_cases e : i = k
  · subst e; rw [hl] at hx; injection hx with hx; subst hx; exact h2
  · exact h i x (by omega) hx
theorem flat_take {ls : List (List UInt8)} {k : Nat} {l : List UInt8} (hl : ls[k]? = some l) : (ls.take (k + 1)).flatten = (ls.take k).flatten ++ l := by
  rw [List.take_add_one, hl]; simp
theorem own_ge {w : World} {base n size : Nat} {e : TypeId} {v : Value} {xs : List Value} (h : w.ownsRow base e size v n xs) (j : Nat) (hj : v.ownBlock = some j) : base ≤ j := by
  rcases h.2 with ⟨rfl, _⟩ | ⟨g, cap, cur, rfl, hb, _⟩
  · simp [Value.ownBlock] at hj
  · simp [Value.ownBlock] at hj; omega
/-- a row of slices of the call's own, as parts -/
theorem own_parts {w : World} {base n : Nat} {e : TypeId} {v : Value} {xs : List Value} {ls : List (List UInt8)} (h : w.ownsRow base e 1 v n xs) (hl : xs.length = ls.length)
    (hb : ∀ (i : Nat) (u : Value) (l : List UInt8), xs[i]? = some u → ls[i]? = some l → HB w u l) : Parts w v ls := by
  have hn : xs.length = n := by have := h.1; omega
  rcases h.2 with ⟨rfl, h0⟩ | ⟨g, cap, cur, rfl, _, _, hnc, _, _, _⟩
  · subst h0; exact .inl ⟨none, 0, rfl, List.eq_nil_of_length_eq_zero (by omega)⟩
  · refine .inr ⟨g, 0, cap, xs, by rw [← hl, hn], by omega, hl, h.cells rfl, fun i u l hu hl2 => (hb i u l hu hl2).holds⟩
end Go.Proofs.YtomfpffooaejoaaDoor
