/-
  A writer: numbers and bytes are laid one behind the other.
-/
import Derived.Test.YtlkhbfafednegaaDoorCd2
import Derived.Test.YtlkhbfafednegaaDoorGE
namespace Go.Proofs.YtlkhbfafednegaaDoor
open Go Go.RowKit
set_option linter.unusedSimpArgs false
set_option linter.unusedVariables false

/-- a writer lies in block g; what it has lies in a block of its own from base on -/
def WrS (w : World) (base g : Nat) (l : List UInt8) : Prop := ∃ v, Blk w g 86 #[v] ∧ w.ownsRow base 5 1 v l.length (l.map bcv)
theorem writer_ne : 86 ≠ 5 := by decide
theorem WrS.keep {w w' : World} {base g : Nat} {l : List UInt8} (h : WrS w base g l) (hb : Below w.heap.size w w') : WrS w' base g l := by
  obtain ⟨v, h1, h2⟩ := h
  exact ⟨v, h1.below hb h1.lt, own_below h2 hb⟩

set_option maxRecDepth 100000 in
theorem wrNew_any (w : World) : Calls Tryd.prog 17 #[] w fun e w' => e = .returned (.pointer (some ⟨w.heap.size, 0, none⟩)) ∧ WrS w' w.heap.size w.heap.size [] ∧ Below w.heap.size w w' ∧ w'.heap.size = w.heap.size + 1 := by
  go_enter Tryd.func17, Tryd.ntmps17
  go_wp2
  go_ret
  exact ⟨rfl, ⟨_, Blk.new _ _ _, World.ownsRow_nil _ _ _ _⟩, (Below.refl _ _).alloc (Nat.le_refl _) _, by simp⟩

set_option maxRecDepth 100000 in
set_option maxHeartbeats 1000000 in
theorem wrFixed_any (base g : Nat) (l m : List UInt8) (u : Value) (w : World) (h : WrS w base g l) (hg : base ≤ g) (hu : HB w u m) (hn : l.length + m.length ≤ 140737488350000) :
    Calls Tryd.prog 38 #[.pointer (some ⟨g, 0, none⟩), u] w fun e w' => e = .returned (.tuple #[]) ∧ WrS w' base g (l ++ m) ∧ Below base w w' := by
  obtain ⟨i8, hi8, hz8, hsz8, hby8⟩ := info8
  have HI8 := Lib.hid hi8; clear hi8
  obtain ⟨v, hb, ho⟩ := h
  have hlt := hb.lt
  obtain ⟨pu, cu, rfl, -, -⟩ := hu.form
  obtain ⟨A, c, rfl⟩ := own_form ho
  obtain ⟨n, hnl⟩ : ∃ n, n = l.length := ⟨_, rfl⟩
  obtain ⟨k, hkm⟩ : ∃ k, k = m.length := ⟨_, rfl⟩
  rw [← hnl] at hb ho hn
  rw [← hkm] at hu hn ⊢
  have HNL := Lib.hid hnl
  have HKM := Lib.hid hkm
  clear hnl hkm
  have c0 := hb.cell 0
  simp only [List.getElem?_toArray, List.getElem?_cons_zero] at c0
  have HJ : Hid (Blk w g 86 #[.slice A n c] ∧ w.ownsRow base 5 1 (.slice A n c) n (l.map bcv) ∧ HB w (.slice pu k cu) m) := Lib.hid ⟨hb, ho, hu⟩
  have hbz : base ≤ w.heap.size := by omega
  clear hb ho hu
  go_enter Tryd.func38, Tryd.ntmps38
  go_wp2_with (at_builtin
               refine wpList_append_hb rfl (.tmp 10) (.tmp 11) 24 rfl base 5 i8 Tryd.underlying24 HI8.out hz8 hsz8 hby8 (.slice A n c) (.slice pu k cu) l m n rfl HJ.out.2.1 rfl HJ.out.2.2 (by rw [← HKM.out]; omega) hbz ?_
               intro v' w2 ho2 hg2
               obtain ⟨A2, c2, rfl⟩ := own_form ho2
               rw [← HKM.out] at ho2 ⊢
               have hne := own_ne_blk HJ.out.2.1 HJ.out.1 (Ne.symm writer_ne)
               have HK : Hid (Blk w2 g 86 #[.slice A n c] ∧ w2.ownsRow base 5 1 (.slice A2 (n + k) c2) (l ++ m).length ((l ++ m).map bcv) ∧ Below base w w2) := Lib.hid ⟨HJ.out.1.grown hg2 hne, by rw [List.length_append, ← HNL.out, ← HKM.out]; exact ho2, (Below.refl base w).grown hg2 hbz (fun j hj => own_ge HJ.out.2.1 j hj)⟩
               have c0 := HK.out.1.cell 0
               have f0 := HK.out.1.frozen 0
               simp only [List.getElem?_toArray, List.getElem?_cons_zero] at c0
               clear ho2 hg2 HJ hne)
  go_end0
  have hG : w2.grownBy (w2.setCell ⟨g, 0, none⟩ (.slice A2 (n + k) c2)) (some g) := Only.store (World.grownBy.refl _ _) (.inl rfl) _
  refine ⟨rfl, ⟨.slice A2 (n + k) c2, ?_, ?_⟩, HK.out.2.2.setCell hg _⟩
  · have := HK.out.1.store 0 (.slice A2 (n + k) c2)
    simpa using this
  · exact HK.out.2.1.kept hG (.inr (fun e => own_ne_blk HK.out.2.1 HK.out.1 (Ne.symm writer_ne) e.symm))

/-- known bytes that lie below base keep -/
theorem HB.low {w w' : World} {p : Option Addr} {n c base : Nat} {m : List UInt8} (h : HB w (.slice p m.length c) m) (hb : Below base w w') (hl : 0 < m.length → ∃ b o, p = some ⟨b, o, none⟩ ∧ b < base) (hn : n = m.length) : HB w' (.slice p n c) m := by
  subst hn
  obtain ⟨p', c', hv, hl', hm', hn', hc⟩ := h
  injection hv with e1 e2 e3
  subst e1; subst e3
  refine ⟨p, c, rfl, hl', hm', hn', fun h0 => ?_⟩
  obtain ⟨b, o, hp, hcell⟩ := hc h0
  obtain ⟨b2, o2, hp2, hlt⟩ := hl (List.length_pos_iff.2 h0)
  rw [hp] at hp2
  injection hp2 with hp2
  injection hp2 with e1 e2
  subst e1
  exact ⟨b, o, hp, fun i x hx => (hb.cell (p := ⟨b, o + i, none⟩) hlt).trans (hcell i x hx)⟩

theorem u8_lo (q : Nat) : (q : Int) % 256 = ((UInt8.ofNat q).toNat : Int) := by rw [UInt8.toNat_ofNat']; omega

theorem or_128 (m : Nat) : bits .or .u8 ((m : Int) % 256) 128 = ((UInt8.ofNat (m % 128 + 128)).toNat : Int) := by
  have h := u8_or_nat (m % 256) 128 (by omega) (by decide)
  rw [show ((128 : Nat) : Int) = 128 from rfl] at h
  rw [show ((m : Int) % 256) = ((m % 256 : Nat) : Int) by omega, h, UInt8.toNat_ofNat']
  have h2 := Nat.shiftLeft_add_eq_or_of_lt (b := m % 128) (i := 7) (by omega) 1
  have e : m % 256 ||| 128 = m % 128 + 128 := by
    have h3 : m % 256 ||| 128 = m % 128 ||| 128 := by
      apply Nat.eq_of_testBit_eq
      intro i
      rw [Nat.testBit_or, Nat.testBit_or, show (256 : Nat) = 2 ^ 8 from rfl, show (128 : Nat) = 2 ^ 7 from rfl, Nat.testBit_mod_two_pow, Nat.testBit_mod_two_pow, Nat.testBit_two_pow]
      by_cases h7 : i = 7
      · subst h7; simp
      · by_cases h8 : i < 7
        · simp [h8, show i < 8 by omega]
        · simp [show ¬ i < 8 by omega, show ¬ i < 7 by omega]
    rw [h3, Nat.or_comm]
    rw [show (1 <<< 7 : Nat) = 128 from rfl] at h2
    omega
  rw [e]
  omega

set_option maxRecDepth 100000 in
set_option maxHeartbeats 1000000 in
theorem wrUint_any (base g n : Nat) (l : List UInt8) (w : World) (h : WrS w base g l) (hg : base ≤ g) (hn : n < 18446744073709551616) (hl : l.length ≤ 140737488340000) :
    Calls Tryd.prog 18 #[.pointer (some ⟨g, 0, none⟩), .int .u64 (n : Int)] w fun e w' => e = .returned (.tuple #[]) ∧ WrS w' base g (l ++ putF n) ∧ Below base w w' := by
  obtain ⟨i8, hi8, hz8, hsz8, hby8⟩ := info8
  have HI8 := Lib.hid hi8; clear hi8
  have H := Lib.hid h
  have hp10 := putF_length10 hn
  have hgw : g < w.heap.size := by obtain ⟨v, hb, _⟩ := h; exact hb.lt
  clear h
  go_enter Tryd.func18, Tryd.ntmps18
  go_wp2_with fail
  go_loopw [1, 4] (fun x b wr => ∃ (m k : Nat) (d : List UInt8), m ≤ n ∧ x = .int .u64 (m : Int) ∧ d.length = k ∧ k + (putF m).length ≤ 10 ∧ Hid (d ++ putF m = putF n) ∧ wr.ownsRow w.heap.size 5 1 b k (d.map bcv) ∧ Below w.heap.size w wr) (fun x _ _ => (intOf x).toNat)
  case atStart => exact ⟨n, 0, [], Nat.le_refl _, rfl, rfl, by omega, Lib.hid rfl, World.ownsRow_nil _ _ _ _, Below.refl _ _⟩
  case round =>
    obtain ⟨m, k, d, hm, rfl, hd, hk, HD, ho, hb⟩ := hrel
    have HO := Lib.hid ho
    have HB := Lib.hid hb
    have hwz := hb.size
    clear ho hb
    by_cases hlt : m < 128
    · have HP : Hid (d ++ [UInt8.ofNat m] = putF n) := Lib.hid (by rw [← HD.out, putF_lt hlt])
      have HY : Hid ((m : Int) = ((UInt8.ofNat m).toNat : Int)) := Lib.hid (by rw [UInt8.toNat_ofNat']; omega)
      have hdn : decide (128 ≤ (m : Int)) = false := decide_eq_false (by omega)
      have HWN : Hid (d.length = k) := Lib.hid hd
      clear hd
      go_wp2_with (
        (at_builtin
         have hnb : Below wr.heap.size wr (wr.alloc (.cells #[.int .u8 (m : Int)] 5)) := (Below.refl _ _).alloc (Nat.le_refl _) _
         refine wpList_append_hb rfl (.tmp 16) (.tmp 19) 24 rfl w.heap.size 5 i8 Tryd.underlying24 HI8.out hz8 hsz8 hby8 _ (.slice (some ⟨wr.heap.size, 0, none⟩) 1 1) d [UInt8.ofNat m] k rfl (HO.out.alloc _) rfl (by rw [HY.out]; exact hb_new1 wr _ _) (by simp; omega) (by simp; omega) ?_
         intro v2 w2 ho2 hg2
         rw [HP.out, show k + [UInt8.ofNat m].length = (putF n).length by rw [← HP.out, List.length_append, HWN.out]] at ho2
         have HJ : Hid (w2.ownsRow w.heap.size 5 1 v2 (putF n).length ((putF n).map bcv) ∧ Below w.heap.size w w2) := Lib.hid ⟨ho2, (HB.out.trans (hnb.mono hwz)).grown hg2 (by simp; omega) (fun j hj => own_ge HO.out j hj)⟩
         clear ho2 hg2 hnb))
      refine (wrFixed_any base g l (putF n) v2 w2 (H.out.keep HJ.out.2) hg (own_hb HJ.out.1 rfl) (by omega)).mono ?_
      rintro e w3 ⟨rfl, hw3, hb3⟩
      have HK : Hid (WrS w3 base g (l ++ putF n) ∧ Below base w w3) := Lib.hid ⟨hw3, (HJ.out.2.mono (by omega)).trans hb3⟩
      clear hw3 hb3 HJ
      go_wp2_with fail
      go_end0
      exact ⟨rfl, HK.out⟩
    · have HP : Hid (putF m = UInt8.ofNat (m % 128 + 128) :: putF (m / 128)) := Lib.hid (putF_ge (by omega))
      have hdn : decide (128 ≤ (m : Int)) = true := decide_eq_true (by omega)
      have HY : Hid (bits .or .u8 ((m : Int) % 256) 128 = ((UInt8.ofNat (m % 128 + 128)).toNat : Int)) := Lib.hid (or_128 m)
      have hk9 : k + 1 + (putF (m / 128)).length ≤ 10 := by rw [HP.out] at hk; simp at hk; omega
      have HK9 := Lib.hid hk9
      clear hk hk9
      go_wp2_with (
        (at_builtin
         have hnb : Below wr.heap.size wr (wr.alloc (.cells #[.int .u8 (bits .or .u8 ((m : Int) % 256) 128)] 5)) := (Below.refl _ _).alloc (Nat.le_refl _) _
         refine wpList_append_hb rfl (.tmp 7) (.tmp 11) 24 rfl w.heap.size 5 i8 Tryd.underlying24 HI8.out hz8 hsz8 hby8 _ (.slice (some ⟨wr.heap.size, 0, none⟩) 1 1) d [UInt8.ofNat (m % 128 + 128)] k rfl (own_below HO.out hnb) rfl (by rw [HY.out]; exact hb_new1 wr _ _) (by have := HK9.out; simp; omega) (by simp; omega) ?_
         intro v2 w2 ho2 hg2
         have HJ : Hid (w2.ownsRow w.heap.size 5 1 v2 (k + 1) ((d ++ [UInt8.ofNat (m % 128 + 128)]).map bcv) ∧ Below w.heap.size w w2) := Lib.hid ⟨ho2, (HB.out.trans (hnb.mono hwz)).grown hg2 (by simp; omega) (fun j hj => own_ge HO.out j hj)⟩
         clear ho2 hg2 hnb))
      go_roundw
      case rel => exact ⟨m / 128, k + 1, d ++ [UInt8.ofNat (m % 128 + 128)], by omega, congrArg (Value.int .u64) (by omega), by rw [List.length_append, hd]; rfl, HK9.out, Lib.hid (by rw [← HD.out, HP.out]; simp), HJ.out⟩
      case measure => simp [intOf]; omega

set_option maxRecDepth 100000 in
set_option maxHeartbeats 1000000 in
theorem wrBytes_any (base g : Nat) (l m : List UInt8) (u : Value) (w : World) (h : WrS w base g l) (hg : base ≤ g) (hu : HB w u m) (hn : l.length + m.length ≤ 140737488330000) (hlow : ∀ p n c, u = .slice p n c → 0 < n → ∃ b o, p = some ⟨b, o, none⟩ ∧ b < base) :
    Calls Tryd.prog 19 #[.pointer (some ⟨g, 0, none⟩), u] w fun e w' => e = .returned (.tuple #[]) ∧ WrS w' base g (l ++ putW m) ∧ Below base w w' := by
  have H := Lib.hid h
  have HU := Lib.hid hu
  have hbw : base ≤ w.heap.size := by obtain ⟨v, hb, _⟩ := h; have := hb.lt; omega
  obtain ⟨pu, cu, rfl, -, -⟩ := hu.form
  have hm : m.length ≤ 140737488330000 := by omega
  have hp10 := putF_length10 (n := m.length) (by omega)
  have HP : Hid (putW m = putF m.length ++ m) := Lib.hid rfl
  obtain ⟨k, hk⟩ : ∃ k, k = m.length := ⟨_, rfl⟩
  rw [← hk] at hm hp10 hn hlow ⊢
  have HK := Lib.hid hk
  clear h hu hk
  have hkw : IntKind.u64.wrap (k : Int) = (k : Int) := by rw [IntKind.wrap_u64]; omega
  go_enter Tryd.func19, Tryd.ntmps19
  go_wp2_with fail
  refine (wrUint_any base g k l w H.out hg (by omega) (by omega)).mono ?_
  rintro e w1 ⟨rfl, hw1, hb1⟩
  have HJ : Hid (WrS w1 base g (l ++ putF k) ∧ Below base w w1 ∧ HB w1 (.slice pu k cu) m) := Lib.hid ⟨hw1, hb1, HU.out.low hb1 (by intro h0; exact hlow _ _ _ rfl (by rw [HK.out]; exact h0)) (HK.out ▸ rfl)⟩
  clear hw1 hb1
  go_wp2_with fail
  refine (wrFixed_any base g (l ++ putF k) m (.slice pu k cu) w1 HJ.out.1 hg HJ.out.2.2 (by simp; rw [← HK.out]; omega)).mono ?_
  rintro e w2 ⟨rfl, hw2, hb2⟩
  have HL : Hid (WrS w2 base g (l ++ putW m) ∧ Below base w w2) := Lib.hid ⟨by rw [HP.out, ← List.append_assoc, ← HK.out]; exact hw2, HJ.out.2.1.trans hb2⟩
  clear hw2 hb2
  go_wp2_with fail
  go_end0
  exact ⟨rfl, HL.out⟩

set_option maxRecDepth 100000 in
set_option maxHeartbeats 1000000 in
theorem wrOut_any (base g : Nat) (l : List UInt8) (w : World) (h : WrS w base g l) (hn : l.length ≤ 140737488351232) :
    Calls Tryd.prog 21 #[.pointer (some ⟨g, 0, none⟩)] w fun e w' => ∃ v', e = .returned v' ∧ w'.ownsRow w.heap.size 5 1 v' l.length (l.map bcv) ∧ Below w.heap.size w w' := by
  obtain ⟨v, hb, ho⟩ := h
  have c0 := hb.cell 0
  simp only [List.getElem?_toArray, List.getElem?_cons_zero] at c0
  have HV : Hid (HB w v l) := Lib.hid (own_hb ho rfl)
  clear hb ho
  go_enter Tryd.func21, Tryd.ntmps21
  go_wp2_with (go_at_call 39
               refine (cloneB_any v l w HV.out hn).mono ?_
               rintro e w1 ⟨v1, rfl, ho1, hb1⟩
               have HK : Hid (w1.ownsRow w.heap.size 5 1 v1 l.length (l.map bcv) ∧ Below w.heap.size w w1) := Lib.hid ⟨ho1, hb1⟩
               clear ho1 hb1)
  go_ret
  exact ⟨_, rfl, HK.out⟩
end Go.Proofs.YtlkhbfafednegaaDoor
