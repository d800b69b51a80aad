/-
  A reader of numbers and bytes: its state, its errors, the next bytes.
-/
import Derived.Test.YtlkhbfafednegaaDoorGE
import Derived.Test.YtlkhbfafednegaaDoorGA
namespace Go.Proofs.YtlkhbfafednegaaDoor
open Go Go.RowKit
set_option linter.unusedSimpArgs false
set_option linter.unusedVariables false

/-- bytes that lie in a block of bytes -/
def HBT (w : World) (v : Value) (l : List UInt8) : Prop := HB w v l ∧ (0 < l.length → ∃ g o c cs, v = .slice (some ⟨g, o, none⟩) l.length c ∧ Blk w g 5 cs)
theorem HBT.keep {w w' : World} {v : Value} {l : List UInt8} (h : HBT w v l) (hb : Below w.heap.size w w') : HBT w' v l :=
  ⟨h.1.keep hb, fun h0 => by obtain ⟨g, o, c, cs, e, hg⟩ := h.2 h0; exact ⟨g, o, c, cs, e, hg.below hb hg.lt⟩⟩
theorem HBT.grown {w w' : World} {v : Value} {l : List UInt8} {g : Nat} {t : TypeId} {cs : Array Value} (h : HBT w v l) (hb : w.grownBy w' (some g)) (hg : Blk w g t cs) (ht : t ≠ 5) : HBT w' v l := by
  rcases Nat.eq_zero_or_pos l.length with h0 | h0
  · obtain ⟨p, c, rfl, hl, hm⟩ := h.1.form
    have hl0 : l = [] := List.eq_nil_of_length_eq_zero h0
    subst hl0
    refine ⟨?_, fun h => absurd h (by simp)⟩
    obtain ⟨p', c', hv, hl', hm', hn, -⟩ := h.1
    exact ⟨p', c', hv, hl', hm', hn, fun h => absurd rfl h⟩
  · obtain ⟨g', o, c, ds, rfl, hg'⟩ := h.2 h0
    have hne : g' ≠ g := by
      rintro rfl
      unfold Blk at hg hg'
      rw [hg] at hg'
      injection hg' with hg'
      injection hg' with _ h2
      exact ht h2
    refine ⟨?_, fun _ => ⟨g', o, c, ds, rfl, hg'.grown hb (by intro h; injection h with h; exact hne h)⟩⟩
    obtain ⟨p', c', hv, hl', hm', hn, hc⟩ := h.1
    refine ⟨p', c', hv, hl', hm', hn, fun h1 => ?_⟩
    obtain ⟨b, o2, hp, hcell⟩ := hc h1
    refine ⟨b, o2, hp, fun i x hx => ?_⟩
    have hbg : b = g' := by
      injection hv with e1 _ _
      rw [hp] at e1
      injection e1 with e1
      injection e1 with e1 _
      exact e1.symm
    subst hbg
    exact (World.cell?_of_block (a := ⟨b, o2 + i, none⟩) (hb.block b hg'.lt (by intro h; injection h with h; exact hne h))).trans (hcell i x hx)
theorem HBT.nil (w : World) : HBT w (.slice none 0 0) [] := ⟨HB.nil w, fun h => absurd h (by simp)⟩
theorem HBT.take {w : World} {p : Option Addr} {n c : Nat} {l : List UInt8} (h : HBT w (.slice p n c) l) {k : Nat} (hk : k ≤ n) : HBT w (.slice p k k) (l.take k) := by
  obtain ⟨p', c', e, hl, hm⟩ := h.1.form
  injection e with e1 e2 e3
  subst e1; subst e2; subst e3
  refine ⟨?_, fun h0 => ?_⟩
  · have := h.1.sub 0 k k (Nat.zero_le _) hk (Nat.le_refl _) (by omega)
    simp only [Nat.sub_zero, Nat.zero_mul, List.drop_zero] at this
    have e : (if k = 0 then p else p.map (·.add 0)) = p := by
      split
      · rfl
      · cases p <;> rfl
    rw [e] at this
    exact this
  · rw [List.length_take] at h0 ⊢
    obtain ⟨g, o, c2, cs, e, hg⟩ := h.2 (by omega)
    injection e with e1 _ _
    subst e1
    exact ⟨g, o, k, cs, by rw [Nat.min_eq_left hk], hg⟩
theorem HBT.drop {w : World} {p : Option Addr} {n c : Nat} {l : List UInt8} (h : HBT w (.slice p n c) l) {k : Nat} (hk : k ≤ n) : HBT w (.slice (if c = k then p else p.map fun a => a.add k) (n - k) (c - k)) (l.drop k) := by
  obtain ⟨p', c', e, hl, hm⟩ := h.1.form
  injection e with e1 e2 e3
  subst e1; subst e2; subst e3
  refine ⟨h.1.drop hk, fun h0 => ?_⟩
  rw [List.length_drop] at h0 ⊢
  obtain ⟨g, o, c2, cs, e, hg⟩ := h.2 (by omega)
  injection e with e1 _ _
  subst e1
  rw [if_neg (by omega)]
  exact ⟨g, o + k, c - k, cs, by simp [Addr.add], hg⟩

/-- a reader lies in block g -/
def RdS (w : World) (g : Nat) (s : Rst) : Prop := ∃ v, Blk w g 89 #[v, .int .i64 (s.2 : Int)] ∧ HBT w v s.1
theorem reader_ne : 89 ≠ 5 := by decide
theorem RdS.keep {w w' : World} {g : Nat} {s : Rst} (h : RdS w g s) (hb : Below w.heap.size w w') : RdS w' g s := by
  obtain ⟨v, h1, h2⟩ := h
  exact ⟨v, h1.below hb h1.lt, h2.keep hb⟩

set_option maxRecDepth 100000 in
theorem rdErr_any (g : Nat) (s : Rst) (w : World) (h : RdS w g s) :
    Calls Tryd.prog 42 #[.pointer (some ⟨g, 0, none⟩)] w fun e w' => e = .returned (.int .i64 (s.2 : Int)) ∧ Below w.heap.size w w' := by
  obtain ⟨v, hb, hv⟩ := h
  have c1 := hb.cell 1
  simp only [List.getElem?_toArray, List.getElem?_cons_succ, List.getElem?_cons_zero] at c1
  go_enter Tryd.func42, Tryd.ntmps42
  go_wp2
  go_ret
  exact ⟨rfl, Below.refl _ _⟩

set_option maxRecDepth 100000 in
theorem rdFail_any (g : Nat) (s : Rst) (n : Nat) (w : World) (h : RdS w g s) (h0 : s.2 = 0) :
    Calls Tryd.prog 41 #[.pointer (some ⟨g, 0, none⟩), .int .i64 (n : Int)] w fun e w' => e = .returned (.tuple #[]) ∧ w.grownBy w' (some g) ∧ RdS w' g (s.1, n) := by
  obtain ⟨v, hb, hv⟩ := h
  have c1 := hb.cell 1
  have f1 := hb.frozen 1
  simp only [List.getElem?_toArray, List.getElem?_cons_succ, List.getElem?_cons_zero] at c1
  rw [h0] at c1
  go_enter Tryd.func41, Tryd.ntmps41
  go_wp2
  go_end0
  refine ⟨rfl, ?_, v, ?_, ?_⟩
  · exact Only.store (World.grownBy.refl _ _) (.inl rfl) _
  · have := hb.store 1 (.int .i64 (n : Int))
    simpa using this
  · exact hv.grown (t := 89) (Only.store (World.grownBy.refl _ _) (.inl rfl) _) hb reader_ne

set_option maxRecDepth 100000 in
theorem rdEnd_any (g : Nat) (s : Rst) (w : World) (h : RdS w g s) :
    Calls Tryd.prog 27 #[.pointer (some ⟨g, 0, none⟩)] w fun e w' => e = .returned (.int .i64 (endR s : Int)) ∧ Below w.heap.size w w' := by
  unfold endR
  have H := Lib.hid h
  by_cases h0 : s.2 = 0
  · rw [if_pos h0]
    obtain ⟨v, hb, hv⟩ := h
    obtain ⟨p, c, rfl, hl, hm⟩ := hv.1.form
    obtain ⟨n, hn⟩ : ∃ n, n = s.1.length := ⟨_, rfl⟩
    rw [← hn] at hb hl ⊢
    clear hn hv
    have hzi : ((0 : Nat) : Int) = 0 := rfl
    by_cases hn0 : 0 < n
    · rw [if_pos hn0]
      go_enter Tryd.func27, Tryd.ntmps27
      go_wp2_with (go_at_call 42
                   refine (rdErr_any g s w H.out).mono ?_
                   rintro e w1 ⟨rfl, hb1⟩
                   rw [h0, hzi]
                   have HB1 := Lib.hid hb1
                   have c0 := (hb.below hb1 hb.lt).cell 0
                   simp only [List.getElem?_toArray, List.getElem?_cons_zero] at c0
                   clear hb1 hb)
      go_ret
      exact ⟨rfl, HB1.out⟩
    · rw [if_neg hn0]
      go_enter Tryd.func27, Tryd.ntmps27
      go_wp2_with (go_at_call 42
                   refine (rdErr_any g s w H.out).mono ?_
                   rintro e w1 ⟨rfl, hb1⟩
                   rw [h0, hzi]
                   have HB1 := Lib.hid hb1
                   have c0 := (hb.below hb1 hb.lt).cell 0
                   simp only [List.getElem?_toArray, List.getElem?_cons_zero] at c0
                   clear hb1 hb)
      go_ret
      exact ⟨rfl, HB1.out⟩
  · rw [if_neg h0]
    clear h
    have hsi : ¬ (s.2 : Int) = 0 := by omega
    go_enter Tryd.func27, Tryd.ntmps27
    go_wp2_with (go_at_call 42
                 refine (rdErr_any g s w H.out).mono ?_
                 rintro e w1 ⟨rfl, hb1⟩
                 have HB1 := Lib.hid hb1
                 clear hb1)
    go_ret
    exact ⟨rfl, HB1.out⟩

theorem RdS.grown {w w' : World} {g g2 : Nat} {t : TypeId} {cs : Array Value} {s : Rst} (h : RdS w g s) (hb : w.grownBy w' (some g2)) (hg : Blk w g2 t cs) (ht : t ≠ 5) (hne : g ≠ g2) : RdS w' g s := by
  obtain ⟨v, h1, h2⟩ := h
  exact ⟨v, h1.grown hb (by intro e; injection e with e; exact hne e), h2.grown hb hg ht⟩
set_option maxRecDepth 100000 in
set_option maxHeartbeats 1000000 in
theorem rdTake_any (g n : Nat) (s : Rst) (w : World) (h : RdS w g s) (hn : n < 4611686018427387904) :
    Calls Tryd.prog 40 #[.pointer (some ⟨g, 0, none⟩), .int .i64 (n : Int)] w fun e w' => ∃ v', e = .returned v' ∧ w.grownBy w' (some g) ∧ RdS w' g (takC n s).2 ∧ HBT w' v' (takC n s).1 ∧ ((takC n s).2.2 ≠ 0 → v' = .slice none 0 0) := by
  unfold takC
  have H := Lib.hid h
  by_cases h0 : s.2 = 0
  · rw [if_pos h0]
    obtain ⟨v, hb, hv⟩ := h
    obtain ⟨p, c, rfl, hl, hm⟩ := hv.1.form
    unfold maxLen at hm
    obtain ⟨m, hmm⟩ : ∃ m, m = s.1.length := ⟨_, rfl⟩
    rw [← hmm] at hb hv hl ⊢
    have HV := Lib.hid hv
    clear hmm hv
    have hzi : ((0 : Nat) : Int) = 0 := rfl
    by_cases hmn : m < n
    · rw [if_pos hmn]
      have hmi : (m : Int) < (n : Int) := by omega
      go_enter Tryd.func40, Tryd.ntmps40
      go_wp2_with (first
        | (go_at_call 42
           refine (rdErr_any g s w H.out).mono ?_
           rintro e w1 ⟨rfl, hb1⟩
           rw [h0, hzi]
           have H1 : Hid (RdS w1 g s ∧ w.grownBy w1 (some g)) := Lib.hid ⟨H.out.keep hb1, Only.below (World.grownBy.refl w (some g)) hb1 (Nat.le_refl _)⟩
           have c0 := (hb.below hb1 hb.lt).cell 0
           simp only [List.getElem?_toArray, List.getElem?_cons_zero] at c0
           clear hb1 H)
        | (go_at_call 41
           refine (rdFail_any g s 10 w1 H1.out.1 h0).mono ?_
           rintro e w2 ⟨rfl, hg2, hr2⟩
           have H2 : Hid (RdS w2 g (s.1, 10) ∧ w.grownBy w2 (some g)) := Lib.hid ⟨hr2, Only.trans H1.out.2 hg2 (fun j hj => by injection hj with hj; exact .inl hj.symm)⟩
           clear hg2 hr2 H1 c0))
      go_ret
      exact ⟨_, rfl, H2.out.2, H2.out.1, HBT.nil _, fun _ => rfl⟩
    · rw [if_neg hmn]
      go_enter Tryd.func40, Tryd.ntmps40
      go_wp2_with (first
        | (go_at_call 42
           refine (rdErr_any g s w H.out).mono ?_
           rintro e w1 ⟨rfl, hb1⟩
           rw [h0, hzi]
           have H1 : Hid (RdS w1 g s ∧ w.grownBy w1 (some g)) := Lib.hid ⟨H.out.keep hb1, Only.below (World.grownBy.refl w (some g)) hb1 (Nat.le_refl _)⟩
           have c0 := (hb.below hb1 hb.lt).cell 0
           have f0 := (hb.below hb1 hb.lt).frozen 0
           have HBK : Hid (Blk w1 g 89 #[.slice p m c, .int .i64 (s.2 : Int)] ∧ HBT w1 (.slice p m c) s.1) := Lib.hid ⟨hb.below hb1 hb.lt, HV.out.keep hb1⟩
           simp only [List.getElem?_toArray, List.getElem?_cons_zero] at c0
           clear hb1 H))
      case inr =>
        have hd := HBK.out.2.drop (k := n) (by omega)
        rw [if_neg h] at hd
        have hS := HBK.out.1.store 0 (.slice (p.map fun x => x.add n) (m - n) (c - n))
        have hG : w1.grownBy (w1.setCell ⟨g, 0, none⟩ (.slice (p.map fun x => x.add n) (m - n) (c - n))) (some g) := Only.store (World.grownBy.refl _ _) (.inl rfl) _
        go_ret
        refine ⟨_, rfl, Only.trans H1.out.2 hG (fun j hj => by injection hj with hj; exact .inl hj.symm), ⟨_, ?_, hd.grown hG HBK.out.1 reader_ne⟩, (HBK.out.2.take (by omega)).grown hG HBK.out.1 reader_ne⟩
        rw [h0] at hS
        simpa using hS
      case inl =>
        subst h
        have hd := HBK.out.2.drop (k := c) (by omega)
        rw [if_pos rfl, Nat.sub_self] at hd
        have hS := HBK.out.1.store 0 (.slice p (m - c) 0)
        have hG : w1.grownBy (w1.setCell ⟨g, 0, none⟩ (.slice p (m - c) 0)) (some g) := Only.store (World.grownBy.refl _ _) (.inl rfl) _
        go_ret
        refine ⟨_, rfl, Only.trans H1.out.2 hG (fun j hj => by injection hj with hj; exact .inl hj.symm), ⟨_, ?_, hd.grown hG HBK.out.1 reader_ne⟩, (HBK.out.2.take (by omega)).grown hG HBK.out.1 reader_ne⟩
        rw [h0] at hS
        simpa using hS
  · rw [if_neg h0]
    clear h
    have hsi : ¬ (s.2 : Int) = 0 := by omega
    go_enter Tryd.func40, Tryd.ntmps40
    go_wp2_with (first
      | (go_at_call 42
         refine (rdErr_any g s w H.out).mono ?_
         rintro e w1 ⟨rfl, hb1⟩
         have H1 : Hid (RdS w1 g s ∧ w.grownBy w1 (some g)) := Lib.hid ⟨H.out.keep hb1, Only.below (World.grownBy.refl w (some g)) hb1 (Nat.le_refl _)⟩
         clear hb1 H))
    go_ret
    exact ⟨_, rfl, H1.out.2, H1.out.1, HBT.nil _, fun _ => rfl⟩
end Go.Proofs.YtlkhbfafednegaaDoor
