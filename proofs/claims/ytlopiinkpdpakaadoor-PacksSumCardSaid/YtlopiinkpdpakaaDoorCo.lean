/-
  slices.Collect of slices.Chunk at bytes, in pieces of 64.
-/
import Derived.Test.YtlopiinkpdpakaaDoorCk2
import Derived.Test.YtlopiinkpdpakaaDoorGr
namespace Go.Proofs.YtlopiinkpdpakaaDoor
open Go Go.RowKit Go.Shelf
set_option linter.unusedSimpArgs false
set_option linter.unusedVariables false

attribute [local go_sem] Oper.semAt_some

theorem infoRowsB : ∃ i, Tryd.prog.info? 24 = some i ∧ i.zero = some (.slice none 0 0) ∧ i.size = 1 ∧ i.bytes = 24 := by
  have h : (Tryd.prog.info? 24).map (fun i => (i.zero, i.size, i.bytes)) = some (some (.slice none 0 0), 1, 24) := by kernel_rfl
  obtain ⟨i, hi, he⟩ := Option.map_eq_some_iff.1 h
  simp only [Prod.mk.injEq] at he
  exact ⟨i, hi, he.1, he.2.1, he.2.2⟩
theorem keepC_own {Bs n base m size : Nat} {t : TypeId} {A B : World} {v : Value} {vs : List Value} (ho : A.ownsRow base t size v m vs) (hg : A.grownBy B v.ownBlock) (hb : Bs + n ≤ base) : KeepC Bs n A B := by
  intro b o u h1 h2 x
  refine (World.cell?_of_block (a := ⟨b, o, none⟩) (hg.block b (lt_of_cell x) (fun e => ?_))).trans x
  have := own_ge ho b e.symm
  omega
theorem keepC_below {Bs n : Nat} {A B : World} (h : Below A.heap.size A B) : KeepC Bs n A B := fun b o u _ _ x => (h.cell (p := ⟨b, o, none⟩) (lt_of_cell x)).trans x
theorem keepC_store {Bs n g i : Nat} {A : World} (h : Bs + n ≤ g) (u : Value) : KeepC Bs n A (A.setCell ⟨g, i, none⟩ u) := fun b o v _ h2 x => (World.cell?_of_block (a := ⟨b, o, none⟩) (Below.heap_setCell A ⟨g, i, none⟩ u b (by show b ≠ g; omega))).trans x
theorem keepN_own {D base n : Nat} {t : TypeId} {size : Nat} {A B : World} {v : Value} {vs : List Value} (ho : A.ownsRow base t size v n vs) (hg : A.grownBy B v.ownBlock) : KeepN D A B := by
  rcases ho.2 with ⟨rfl, _⟩ | ⟨g, cap, cur, rfl, _, hh, _⟩
  · exact KeepN.below ⟨hg.os, hg.tape, hg.output, hg.size, fun i hi => hg.block i hi (by simp [Value.ownBlock])⟩
  · exact KeepN.grown (g := g) hg (show Blk A g t cur from hh)

set_option maxRecDepth 100000 in
set_option maxHeartbeats 2000000 in
theorem appendSeq_any (Bs b o n cap : Nat) (p : Option Addr) (w : World) (hp : 0 < n → p = some ⟨b, o, none⟩) (hn : n ≤ cap) (hm : cap ≤ maxLen) (hn47 : n ≤ 100000000) (hz : Bs + 1 < w.heap.size) (h1 : w.cell? ⟨Bs, 0, none⟩ = some (.slice p n cap)) (h2 : w.cell? ⟨Bs + 1, 0, none⟩ = some (.int .i64 64)) :
    Calls Tryd.prog 66 #[.slice none 0 0, .func (.func 67) #[] #[.pointer (some ⟨Bs, 0, none⟩), .pointer (some ⟨Bs + 1, 0, none⟩)]] w fun e w' => ∃ v', e = .returned v' ∧ w'.ownsRow w.heap.size 24 1 v' ((n + 63) / 64) ((List.range ((n + 63) / 64)).map (pieceV b o n)) ∧ Below w.heap.size w w' := by
  obtain ⟨ir, hir, hzr, hsr, hbr⟩ := infoRowsB
  have HIR := Lib.hid hir; clear hir
  have HP := Lib.hid hp
  have H12 := Lib.hid (And.intro h1 h2)
  clear hp h1 h2
  obtain ⟨N, hN⟩ : ∃ N, N = (n + 63) / 64 := ⟨_, rfl⟩
  rw [← hN]
  refine (callsIn_wide (n := 4)).1 (callsIn_of_wp_marks Tryd.func66 rfl trivial ?_ rfl)
  simp only [Tryd.ntmps66, List.size_toArray, List.length_cons, List.length_nil, Nat.reduceAdd, Nat.reduceSub, Array.replicate_succ, Array.replicate_zero, List.push_toArray, List.append_toArray, List.nil_append, List.cons_append]
  refine wpIn_wide.2 ?_
  go_wp2_with fail
  obtain ⟨B, hB⟩ : ∃ B, B = w.heap.size := ⟨_, rfl⟩
  refine wp_abs (fun W => Blk W B 22 #[.slice none 0 0] ∧ Below B w W ∧ W.heap.size = B + 1) ⟨?_, ?_, ?_⟩ ?_
  · rw [hB]; exact Blk.new w _ _
  · rw [hB]; exact (Below.refl w.heap.size w).alloc (Nat.le_refl _) _
  · rw [hB]; simp
  rintro W0 ⟨hI1, hI2, hsz⟩
  rw [← hB] at hz ⊢
  have hc1 := (hI2.cell (p := ⟨Bs, 0, none⟩) (by show Bs < B; omega)).trans H12.out.1
  have hc2 := (hI2.cell (p := ⟨Bs + 1, 0, none⟩) (by show Bs + 1 < B; omega)).trans H12.out.2
  have hseq := chunkB1_seq Bs b o n cap p W0 HP.out hn hm (by omega) (by omega) hc1 hc2
  have HI0 := Lib.hid (And.intro hI1 hI2)
  have HBB := Lib.hid hB
  rw [← hN] at hseq
  have hNb : N ≤ 100000000 := by omega
  clear hI1 hI2 hB hN hc1 hc2 H12
  refine (wpIn_wide (n := 2 + 2)).1 ?_
  apply wpIn_range_n (n := 2) (gf := 67) (lb := #[.pointer (some ⟨Bs, 0, none⟩), .pointer (some ⟨Bs + 1, 0, none⟩)]) rfl (enters_of Tryd.func67 (by kernel_rfl) rfl) hseq (Below.refl _ _) (fun _ => rfl) (fun _ _ _ h k => h.trans k)
    (fun X Y h => by obtain ⟨l, o, o', hl, ho, hcl, rfl⟩ := h; exact KeepC.put _ (by omega)) (fun X Y h => KeepN.below h)
    (fun q W => ∃ u, Blk W B 22 #[u] ∧ W.ownsRow B 24 1 u q ((List.range q).map (pieceV b o n)) ∧ Below B w W) (fun _ _ => False)
    (fun q X Y h ht => by obtain ⟨u, h1, h2, h3⟩ := h; exact ⟨u, ht.blk h1, ht.own h2, ht.below h3 (by omega)⟩) (fun _ _ _ h _ => h)
    (fun q X Y h hb => by obtain ⟨u, h1, h2, h3⟩ := h; exact ⟨u, h1.below hb h1.lt, own_below h2 hb, h3.trans (hb.mono (by have := h1.lt; omega))⟩)
    (fun o1 o2 => ⟨_, (HI0.out.1.alloc _).alloc _, World.ownsRow_nil _ _ _ _, (HI0.out.2.alloc (by omega) _).alloc (by simp; omega) _⟩)
  case hassign =>
    intro ly q V K hK
    gi_wp2
    exact hK
  case hstop =>
    rintro D cc V _ h _
    exact h.elim
  case hdone =>
    intro D V hD hI hK
    have ht : Turns W0.heap.size V (V.putObj D (.deferred none)) := ⟨D, _, _, hD, hK, rfl, rfl⟩
    obtain ⟨u, h1, h2, h3⟩ := hI
    obtain ⟨A, c, rfl⟩ := own_form h2
    have c0 := h1.cell 0
    simp only [List.getElem?_toArray, List.getElem?_cons_zero] at c0
    have HR := Lib.hid (And.intro (ht.own h2) (ht.below h3 (by omega)))
    clear h1 h2 h3 ht
    go_wp2
    refine ⟨by simp, .inl ⟨_, _, rfl, run_takeDeferred hK, ?_⟩⟩
    rw [HBB.out] at HR
    exact ⟨_, results_tmp rfl _ _ _, .slice A N c, rfl, HR.out⟩
  case hbody =>
    intro ly q U hqN hI hz2
    obtain ⟨u, h1, h2, h3⟩ := hI
    obtain ⟨A, c, rfl⟩ := own_form h2
    have c0 := h1.cell 0
    have f0 := h1.frozen 0
    simp only [List.getElem?_toArray, List.getElem?_cons_zero] at c0
    have HI := Lib.hid (And.intro h1 (And.intro h2 h3))
    have hBU := h1.lt
    have HTK : Hid ((List.range (q + 1)).map (pieceV b o n) = (List.range q).map (pieceV b o n) ++ [pieceV b o n q]) := Lib.hid (by rw [List.range_succ, List.map_append]; rfl)
    obtain ⟨x, hx⟩ : ∃ x, x = pieceV b o n q := ⟨_, rfl⟩
    obtain ⟨pA, pn, hxf⟩ : ∃ pA pn, x = .slice pA pn pn := ⟨_, _, hx⟩
    rw [← hx] at HTK ⊢
    subst hxf
    clear h1 h2 h3 hx
    gi_wp2_with (
      (gi_at_builtin
       have hnew := (Blk.new U 24 #[.slice pA pn pn]).cell 0
       refine wpListIn_append_own _ rfl (.tmp 8) (.tmp 10) 22 rfl B 24 ir (.slice none 0 0) 1 24 Tryd.underlying22 HIR.out hzr hsr hbr rfl (by decide) (.slice A q c) q _ rfl (HI.out.2.1.alloc _) ⟨U.heap.size, 0, none⟩ 1 1 [.slice pA pn pn] rfl rfl (fun j u hj => by
         match j with
         | 0 => simp at hj; subst hj; rw [add0]; exact hnew
         | j + 1 => simp at hj) (fun u hu => by simp at hu; subst hu; rfl) (by simp only [maxLen]; omega) (by omega) (by simp; omega) ?_
       intro v5 w5 hown5 hgrow5 _
       obtain ⟨A5, c5, rfl⟩ := own_form hown5
       have hBW : Below U.heap.size U (U.alloc (.cells #[.slice pA pn pn] 24)) := (Below.refl _ _).alloc (Nat.le_refl _) _
       have HR5 : Hid (w5.ownsRow B 24 1 (.slice A5 (q + 1) c5) (q + 1) ((List.range (q + 1)).map (pieceV b o n)) ∧ Blk w5 B 22 #[.slice A q c] ∧ Below B w w5 ∧ KeepN W0.heap.size U w5 ∧ KeepC Bs 2 U w5) := Lib.hid ⟨by rw [HTK.out]; exact hown5,
         (HI.out.1.alloc _).grown hgrow5 (own_ne_blk HI.out.2.1 HI.out.1 (by decide)),
         (HI.out.2.2.trans (hBW.mono (by omega))).grown hgrow5 (by simp; omega) (fun j hj => own_ge HI.out.2.1 j hj),
         (KeepN.below hBW).trans (keepN_own (HI.out.2.1.alloc _) hgrow5),
         (keepC_below hBW).trans (keepC_own (HI.out.2.1.alloc _) hgrow5 (by omega))⟩
       have c0 := HR5.out.2.1.cell 0
       have f0 := HR5.out.2.1.frozen 0
       simp only [List.getElem?_toArray, List.getElem?_cons_zero] at c0
       clear hown5 hgrow5 hnew hBW))
    have hS := HR5.out.2.1.store 0 (.slice A5 (q + 1) c5)
    have hG : w5.grownBy (w5.setCell ⟨B, 0, none⟩ (.slice A5 (q + 1) c5)) (some B) := Only.store (p := ⟨B, 0, none⟩) (World.grownBy.refl w5 (some B)) (.inl rfl) _
    refine ⟨HR5.out.2.2.2.1.trans (KeepN.store HR5.out.2.1 _), HR5.out.2.2.2.2.trans (keepC_store (by omega) _), _, hS, ?_, ?_⟩
    · exact HR5.out.1.kept hG (.inr (fun e => own_ne_blk HR5.out.1 HR5.out.2.1 (by decide) e.symm))
    · exact HR5.out.2.2.1.setCell (p := ⟨B, 0, none⟩) (Nat.le_refl _) _

set_option maxRecDepth 100000 in
set_option maxHeartbeats 1000000 in
theorem collect_any (Bs b o n cap : Nat) (p : Option Addr) (w : World) (hp : 0 < n → p = some ⟨b, o, none⟩) (hn : n ≤ cap) (hm : cap ≤ maxLen) (hn47 : n ≤ 100000000) (hz : Bs + 1 < w.heap.size) (h1 : w.cell? ⟨Bs, 0, none⟩ = some (.slice p n cap)) (h2 : w.cell? ⟨Bs + 1, 0, none⟩ = some (.int .i64 64)) :
    Calls Tryd.prog 56 #[.func (.func 67) #[] #[.pointer (some ⟨Bs, 0, none⟩), .pointer (some ⟨Bs + 1, 0, none⟩)]] w fun e w' => ∃ v', e = .returned v' ∧ w'.ownsRow w.heap.size 24 1 v' ((n + 63) / 64) ((List.range ((n + 63) / 64)).map (pieceV b o n)) ∧ Below w.heap.size w w' := by
  have H := Lib.hid (And.intro hp (And.intro h1 h2))
  clear hp h1 h2
  go_enter Tryd.func56, Tryd.ntmps56
  go_wp2_with fail
  refine (appendSeq_any Bs b o n cap p w H.out.1 hn hm hn47 hz H.out.2.1 H.out.2.2).mono ?_
  rintro e w1 ⟨v1, rfl, ho1, hb1⟩
  have HI := Lib.hid (And.intro ho1 hb1)
  clear ho1 hb1
  go_wp2_with fail
  go_ret
  exact ⟨_, rfl, HI.out⟩
end Go.Proofs.YtlopiinkpdpakaaDoor
