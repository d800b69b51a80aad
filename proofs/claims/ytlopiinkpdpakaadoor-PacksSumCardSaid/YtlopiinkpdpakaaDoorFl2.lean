/-
  The walk of packs.Fill.
-/
import Derived.Test.YtlopiinkpdpakaaDoorFl1
import Derived.Test.YtlopiinkpdpakaaDoorGE
namespace Go.Proofs.YtlopiinkpdpakaaDoor
open Go Go.RowKit Go.Shelf
set_option linter.unusedSimpArgs false
set_option linter.unusedVariables false

attribute [local go_sem] Oper.semAt_some

theorem KeepF.below {Bz : Nat} {A B : World} (h : Below A.heap.size A B) : KeepF Bz A B := ⟨fun g cs x => x.below h x.lt, fun b o u _ x => (h.cell (p := ⟨b, o, none⟩) (lt_of_cell x)).trans x⟩
theorem KeepF.own {Bz base n : Nat} {t : TypeId} {A B : World} {v : Value} {vs : List Value} (ho : A.ownsRow base t 1 v n vs) (hg : A.grownBy B v.ownBlock) (ht : 61 ≠ t) (hb : Bz ≤ base) : KeepF Bz A B := by
  refine ⟨fun g cs x => x.grown hg (own_ne_blk ho x (Ne.symm ht)), fun b o u hlt x => ?_⟩
  refine (World.cell?_of_block (a := ⟨b, o, none⟩) (hg.block b (lt_of_cell x) (fun e => ?_))).trans x
  have := own_ge ho b e.symm
  omega
theorem KeepF.store {Bz g i : Nat} {t : TypeId} {cs : Array Value} {A : World} (hg : Blk A g t cs) (ht : 61 ≠ t) (hb : Bz ≤ g) (u : Value) : KeepF Bz A (A.setCell ⟨g, i, none⟩ u) := by
  refine ⟨fun g2 cs2 x => x.other (p := ⟨g, i, none⟩) (fun e => ?_) u, fun b o v hlt x => ?_⟩
  · have e1 : A.heap[g2]? = some (.cells cs2 61 (0, 0)) := x
    have e2 : A.heap[g]? = some (.cells cs t (0, 0)) := hg
    have e' : g2 = g := e
    rw [e', e2] at e1
    injection e1 with e1
    injection e1 with _ e1
    exact ht e1.symm
  · exact (World.cell?_of_block (a := ⟨b, o, none⟩) (Below.heap_setCell A ⟨g, i, none⟩ u b (by show b ≠ g; omega))).trans x
theorem KeepN.own {D base n : Nat} {t : TypeId} {A B : World} {v : Value} {vs : List Value} (ho : A.ownsRow base t 1 v n vs) (hg : A.grownBy B v.ownBlock) : KeepN D A B := by
  rcases ho.2 with ⟨rfl, _⟩ | ⟨g, cap, cur, rfl, _, hh, _⟩
  · exact KeepN.below ⟨hg.os, hg.tape, hg.output, hg.size, fun i hi => hg.block i hi (by simp [Value.ownBlock])⟩
  · exact KeepN.grown (g := g) hg (show Blk A g t cur from hh)

theorem mayAll_at {l : List Int} (h : mayAll l = true) {i : Nat} {x : Int} (hi : l[i]? = some x) : mayB x = true := (List.all_eq_true.1 h) x (List.mem_of_getElem? hi)
theorem mayAll_no {l : List Int} {i : Nat} {x : Int} (hi : l[i]? = some x) (h : mayB x = false) : mayAll l = false := by
  cases hb : mayAll l with
  | false => rfl
  | true => rw [mayAll_at hb hi] at h; cases h
theorem mayAll_mk {l : List Int} (h : ∀ (i : Nat) (x : Int), l[i]? = some x → mayB x = true) : mayAll l = true := by
  refine List.all_eq_true.2 fun x hx => ?_
  obtain ⟨i, hi⟩ := List.mem_iff_getElem?.1 hx
  exact h i x hi
theorem bigF_yes {l : List Nat} {most i s : Nat} (hi : l[i]? = some s) (h : most < 1 + szF s) : bigF l most = true := List.any_eq_true.2 ⟨s, List.mem_of_getElem? hi, decide_eq_true h⟩
theorem bigF_no {l : List Nat} {most : Nat} (h : ∀ (i s : Nat), l[i]? = some s → 1 + szF s ≤ most) : bigF l most = false := by
  cases hb : bigF l most with
  | false => rfl
  | true =>
    obtain ⟨s, hs, h2⟩ := List.any_eq_true.1 hb
    obtain ⟨i, hi⟩ := List.mem_iff_getElem?.1 hs
    have := h i s hi
    have := of_decide_eq_true h2
    omega
theorem cutAt_eq {l : List Nat} {most k : Nat} (hk : k < (cutsF l most 0).length) : (cutsF l most 0)[k]? = some (cutAt l most k) := by
  rw [cutAt, List.getD, List.getElem?_eq_getElem hk]; rfl
theorem cuts_take {l : List Nat} {most k : Nat} (hk : k < (cutsF l most 0).length) : ((cutsF l most 0).take (k + 1)).map rangeF = ((cutsF l most 0).take k).map rangeF ++ [rangeF (cutAt l most k)] := by
  rw [List.take_add_one, cutAt_eq hk]; simp
theorem cutsF_in (l : List Nat) (most : Nat) : ∀ (a : Nat), ∀ p ∈ cutsF l most a, a ≤ p.1 ∧ p.1 < p.2 ∧ p.2 ≤ l.length := by
  intro a
  rw [cutsF]
  split
  · rename_i h
    intro p hp
    have h1 := reachF_ge l most a (a + 1)
    have h2 := reachF_le l most a (a + 1) (by omega)
    rw [Nat.max_eq_right h1] at hp
    rcases List.mem_cons.1 hp with rfl | hp
    · exact ⟨Nat.le_refl _, by show a < reachF l most a (a + 1); omega, h2⟩
    · obtain ⟨k1, k2, k3⟩ := cutsF_in l most _ p hp
      exact ⟨by omega, k2, k3⟩
  · intro p hp; simp at hp
termination_by a => l.length - a
decreasing_by omega
theorem cutsF_length (l : List Nat) (most : Nat) : ∀ (a : Nat), (cutsF l most a).length ≤ l.length - a := by
  intro a
  rw [cutsF]
  split
  · rename_i h
    have h1 := reachF_ge l most a (a + 1)
    rw [Nat.max_eq_right h1, List.length_cons]
    have := cutsF_length l most (reachF l most a (a + 1))
    omega
  · simp
termination_by a => l.length - a
decreasing_by omega
theorem cutAt_in {l : List Nat} {most k : Nat} (hk : k < (cutsF l most 0).length) : (cutAt l most k).1 < (cutAt l most k).2 ∧ (cutAt l most k).2 ≤ l.length :=
  (cutsF_in l most 0 _ (List.mem_of_getElem? (cutAt_eq hk))).2

set_option maxRecDepth 100000 in
set_option maxHeartbeats 4000000 in
theorem fill_any (v : Value) (l : List Int) (most : Int) (w : World) (h : IntS w v l) (hn : l.length ≤ 1000000) :
    Calls Tryd.prog 13 #[v, .int .i64 most] w fun e w' => ∃ v', e = .returned (.tuple #[v', .int .i64 ((fillF l most).2 : Int)]) ∧ RowsI w' w.heap.size v' (fillF l most).1.length (fillF l most).1 ∧ Below w.heap.size w w' := by
  obtain ⟨p, cap, rfl, hlc, hcm⟩ := h.form
  obtain ⟨n, hnn⟩ : ∃ n, n = l.length := ⟨_, rfl⟩
  rw [← hnn] at hlc hn h ⊢
  have H := Lib.hid h
  have HN := Lib.hid hnn
  unfold maxLen at hcm
  clear h hnn
  by_cases hm : most < 1 ∨ 1048576 < most
  · have HP : Hid (fillF l most = ([], 1)) := Lib.hid (by unfold fillF; rw [if_pos hm])
    by_cases h1 : most < 1
    · have a1 : decide (most < 1) = true := decide_eq_true h1
      go_enter Tryd.func13, Tryd.ntmps13
      go_wp2_with fail
      go_ret2
      rw [HP.out]
      exact ⟨_, rfl, RowsI.nil _ _, Below.refl _ _⟩
    · have a1 : decide (most < 1) = false := decide_eq_false h1
      have a2 : decide (1048576 < most) = true := decide_eq_true (by omega)
      go_enter Tryd.func13, Tryd.ntmps13
      go_wp2_with fail
      go_ret2
      rw [HP.out]
      exact ⟨_, rfl, RowsI.nil _ _, Below.refl _ _⟩
  obtain ⟨M, rfl⟩ : ∃ M : Nat, most = (M : Int) := ⟨most.toNat, by omega⟩
  have a1 : decide ((M : Int) < 1) = false := decide_eq_false (by omega)
  have a2 : decide (1048576 < (M : Int)) = false := decide_eq_false (by omega)
  have hM1 : 1 ≤ M := by omega
  have hM2 : M ≤ 1048576 := by omega
  have HM := Lib.hid hm
  clear hm
  refine (callsIn_wide (n := 4)).1 (callsIn_of_wp_marks Tryd.func13 rfl trivial ?_ rfl)
  simp only [Tryd.ntmps13, List.size_toArray, List.length_cons, List.length_nil, Nat.reduceAdd, Nat.reduceSub, Array.replicate_succ, Array.replicate_zero, List.push_toArray, List.append_toArray, List.nil_append, List.cons_append]
  refine wpIn_wide.2 ?_
  go_wp2_with fail
  go_loopw [24] (fun i W => ∃ j : Nat, j ≤ n ∧ i = .int .i64 (j : Int) ∧ Hid (∀ (t : Nat) (x : Int), t < j → l[t]? = some x → mayB x = true) ∧ W = w) (fun i _ => n - (intOf i).toNat)
  case atStart => exact ⟨0, Nat.zero_le _, rfl, Lib.hid (fun t l ht => absurd ht (by omega)), rfl⟩
  case round =>
    obtain ⟨j, hj, rfl, HY, rfl⟩ := hrel
    by_cases hjn : j < n
    · obtain ⟨x, hx⟩ : ∃ x, l[j]? = some x := ⟨_, List.getElem?_eq_getElem (by rw [← HN.out]; exact hjn)⟩
      obtain ⟨b, o, hp, hc⟩ := H.out.at_ (by omega)
      obtain rfl := hp
      have c0 := hc j x hx
      have hji : (j : Int) < (n : Int) := by omega
      have HX := Lib.hid hx
      clear hc hx
      by_cases hmay : mayB x = true
      · have HY2 : Hid (∀ (t : Nat) (y : Int), t < j + 1 → l[t]? = some y → mayB y = true) := Lib.hid (fun t y ht he => by
          by_cases e : t = j
          · subst e; rw [HX.out] at he; injection he with he; subst he; exact hmay
          · exact HY.out t y (by omega) he)
        go_wp2_with fail
        refine (may_any _ _).mono ?_
        rintro e w5 ⟨rfl, rfl⟩
        rw [hmay]
        go_wp2_with fail
        go_roundw
        case rel => exact ⟨j + 1, by omega, by go_num, HY2, by first | trivial | rfl⟩
        case measure => simp [intOf]; omega
      · have hmf : mayB x = false := by simpa using hmay
        have HP : Hid (fillF l (M : Int) = ([], 1)) := Lib.hid (by unfold fillF; rw [if_neg HM.out, if_neg (by rw [mayAll_no HX.out hmf]; simp)])
        clear hmay
        go_wp2_with fail
        refine (may_any _ _).mono ?_
        rintro e w5 ⟨rfl, rfl⟩
        rw [hmf]
        go_wp2_with fail
        refine ⟨_, results_tmp2 rfl _ _ _, .slice none 0 0, ?_, ?_, Below.refl _ _⟩
        · rw [HP.out]; rfl
        · rw [HP.out]; exact RowsI.nil _ _
    · obtain rfl : j = n := by omega
      have HAL : Hid (mayAll l = true) := Lib.hid (mayAll_mk fun i x hi => HY.out i x (by have := (List.getElem?_eq_some_iff.1 hi).1; rw [HN.out]; exact this) hi)
      obtain ⟨L, hL⟩ : ∃ L, L = l.map Int.toNat := ⟨_, rfl⟩
      have HL : Hid (∀ (i s : Nat), L[i]? = some s → l[i]? = some (s : Int) ∧ 41 ≤ s ∧ s ≤ 65577) := Lib.hid (fun i s hs => by
        rw [hL, List.getElem?_map] at hs
        obtain ⟨x, hx, rfl⟩ := Option.map_eq_some_iff.1 hs
        have h1 := (mayB_iff _).1 (mayAll_at HAL.out hx)
        exact ⟨by rw [hx, Int.toNat_of_nonneg (by omega)], by omega, by omega⟩)
      have HLL : Hid (L.length = j) := Lib.hid (by rw [hL, List.length_map]; exact HN.out.symm)
      have HLE := Lib.hid hL
      clear hL HY
      go_wp2_with fail
      go_loopw [34] (fun i W => ∃ k : Nat, k ≤ j ∧ i = .int .i64 (k : Int) ∧ Hid (∀ (t s : Nat), t < k → L[t]? = some s → 1 + szF s ≤ M) ∧ W = wr) (fun i _ => j - (intOf i).toNat)
      case atStart => exact ⟨0, Nat.zero_le _, rfl, Lib.hid (fun t l ht => absurd ht (by omega)), rfl⟩
      case round =>
        obtain ⟨k, hk, rfl, HY, rfl⟩ := hrel
        by_cases hkn : k < j
        · obtain ⟨s, hs⟩ : ∃ s, L[k]? = some s := ⟨_, List.getElem?_eq_getElem (by rw [HLL.out]; exact hkn)⟩
          obtain ⟨hsx, hs1, hs2⟩ := HL.out k s hs
          obtain ⟨b, o, hp, hc⟩ := H.out.at_ (by omega)
          obtain rfl := hp
          have c0 := hc k _ hsx
          have hki : (k : Int) < (j : Int) := by omega
          have HX := Lib.hid hs
          have hd3 := digF_3 (n := s) (by omega)
          clear hc hs hsx
          go_wp2_with fail
          refine (digits_any s wr (by omega)).mono ?_
          rintro e w5 ⟨rfl, rfl⟩
          obtain ⟨z, hz⟩ : ∃ z, z = s + digF s := ⟨_, rfl⟩
          have hzi : (s : Int) + (digF s : Int) = (z : Int) := by omega
          have hz1 : digF 1 = 1 := digF_lt (by omega)
          have HZ : Hid (szF s = z) := Lib.hid hz.symm
          have hz7 : z ≤ 65580 := by omega
          clear hz
          go_wp2_with fail
          rw [show (1 : Int) = ((1 : Nat) : Int) from rfl]
          refine (room_any 1 z wr (by omega) (by omega)).mono ?_
          rintro e w5 ⟨rfl, rfl⟩
          rw [hz1]
          by_cases hbig : M < 1 + z
          · have HP : Hid (fillF l (M : Int) = ([], 13)) := Lib.hid (by
              unfold fillF
              rw [if_neg HM.out, if_pos HAL.out, if_pos]
              rw [← HLE.out]
              exact bigF_yes HX.out (by rw [HZ.out]; simpa using hbig))
            have hbi : decide ((M : Int) < ((1 + z : Nat) : Int)) = true := decide_eq_true (by omega)
            go_wp2_with fail
            refine ⟨_, results_tmp2 rfl _ _ _, .slice none 0 0, ?_, ?_, Below.refl _ _⟩
            · rw [HP.out]; rfl
            · rw [HP.out]; exact RowsI.nil _ _
          · have HY2 : Hid (∀ (t s : Nat), t < k + 1 → L[t]? = some s → 1 + szF s ≤ M) := Lib.hid (fun t y ht he => by
              by_cases e : t = k
              · subst e; rw [HX.out] at he; injection he with he; subst he; rw [HZ.out]; omega
              · exact HY.out t y (by omega) he)
            have hbi : decide ((M : Int) < ((1 + z : Nat) : Int)) = false := decide_eq_false (by omega)
            go_wp2_with fail
            go_roundw
            case rel => exact ⟨k + 1, by omega, by go_num, HY2, by first | trivial | rfl⟩
            case measure => simp [intOf]; omega
        · obtain rfl : k = j := by omega
          have HBG : Hid (bigF L M = false) := Lib.hid (bigF_no fun i s hi => HY.out i s (by have := (List.getElem?_eq_some_iff.1 hi).1; rw [HLL.out] at this; exact this) hi)
          have HP : Hid (fillF l (M : Int) = ((cutsF L M 0).map rangeF, 0)) := Lib.hid (by
            unfold fillF
            rw [if_neg HM.out, if_pos HAL.out, ← HLE.out, Int.toNat_natCast, if_neg (by rw [HBG.out]; simp)])
          clear HY
          go_wp2_with fail
          obtain ⟨B, hB⟩ : ∃ B, B = wr.heap.size := ⟨_, rfl⟩
          have hbo : ∃ b o, 0 < k → p = some ⟨b, o, none⟩ ∧ ∀ (i : Nat) (x : Int), l[i]? = some x → wr.cell? ⟨b, o + i, none⟩ = some (.int .i64 x) := by
            by_cases h0 : 0 < k
            · obtain ⟨b, o, h1, h2⟩ := H.out.at_ h0
              exact ⟨b, o, fun _ => ⟨h1, h2⟩⟩
            · exact ⟨0, 0, fun h => absurd h h0⟩
          obtain ⟨b, o, hbo⟩ := hbo
          refine wp_abs (fun W => Blk W B 41 #[.slice none 0 0] ∧ Below B wr W ∧ W.heap.size = B + 2) ⟨?_, ?_, ?_⟩ ?_
          · rw [hB]; exact (Blk.new wr _ _).alloc _
          · rw [hB]; exact ((Below.refl wr.heap.size wr).alloc (Nat.le_refl _) _).alloc (by simp) _
          · rw [hB]; simp
          rintro W0 ⟨hI1, hI2, hsz⟩
          have hcells : ∀ (i s : Nat), L[i]? = some s → W0.cell? ⟨b, o + i, none⟩ = some (.int .i64 (s : Int)) := fun i s hs => by
            have h0 : 0 < k := by have := (List.getElem?_eq_some_iff.1 hs).1; rw [HLL.out] at this; omega
            have h1 := (hbo h0).2 i _ (HL.out i s hs).1
            exact (hI2.cell (p := ⟨b, o + i, none⟩) (by rw [hB]; exact lt_of_cell h1)).trans h1
          have hpb : 0 < L.length → p = some ⟨b, o, none⟩ ∧ b < B := fun h => by
            rw [HLL.out] at h
            obtain ⟨h1, h2⟩ := hbo h
            obtain ⟨x, hx⟩ : ∃ x, L[0]? = some x := ⟨_, List.getElem?_eq_getElem (by rw [HLL.out]; exact h)⟩
            have := lt_of_cell (h2 0 _ (HL.out 0 x hx).1)
            exact ⟨h1, by rw [hB]; exact this⟩
          have hseq := packs_seq L M b o cap B p W0 hpb hcells (by omega) (fun i s hs => (HL.out i s hs).2.2) (by rw [HLL.out]; omega) (by rw [HLL.out]; omega) hM2
          rw [HLL.out] at hseq
          have HSEQ := Lib.hid hseq
          have HI0 := Lib.hid (And.intro hI1 hI2)
          rw [← hB]
          have HBB := Lib.hid hB
          obtain ⟨N, hN⟩ : ∃ N, N = (cutsF L M 0).length := ⟨_, rfl⟩
          rw [← hN] at hseq
          have HNN := Lib.hid hN
          clear hbo hpb hcells hI1 hI2 hB hN
          refine (wpIn_wide (n := 2 + 2)).1 ?_
          apply wpIn_range_m (n := 2) (gf := 30) (la := #[.agg #[.slice p k cap, .int .i64 (M : Int)]]) (lb := #[]) rfl (enters_of Tryd.func30 (by kernel_rfl) rfl) hseq (Below.refl _ _) (fun _ => rfl) (fun _ _ _ h k => KeepF.trans h k)
            (fun X Y h => KeepF.turns h (by omega)) (fun X Y h => KeepN.below h)
            (fun q W => ∃ u, Blk W B 41 #[u] ∧ RowsI W B u q (((cutsF L M 0).take q).map rangeF) ∧ Below B wr W) (fun _ _ => False)
            (fun q X Y h ht => by obtain ⟨u, h1, h2, h3⟩ := h; exact ⟨u, ht.blk h1, h2.turn ht, ht.below h3 (by omega)⟩) (fun _ _ _ h _ => h)
            (fun q X Y h hb => by obtain ⟨u, h1, h2, h3⟩ := h; exact ⟨u, h1.below hb h1.lt, h2.keep hb, h3.trans (hb.mono (by have := h1.lt; omega))⟩)
            (fun o1 o2 => ⟨_, (HI0.out.1.alloc _).alloc _, RowsI.nil _ _, (HI0.out.2.alloc (by omega) _).alloc (by simp; omega) _⟩)
          case hassign =>
            intro ly q V K hK
            gi_wp2
            exact hK
          case hstop =>
            rintro D cc V _ h _
            exact h.elim
          case hdone =>
            intro D V hD hI hK
            have ht : Turns W0.heap.size V (V.putObj D (.deferred none)) := ⟨D, _, _, hD, hK, rfl, rfl⟩
            obtain ⟨u, h1, h2, h3⟩ := hI
            obtain ⟨A, c, rfl⟩ := h2.form
            have c0 := h1.cell 0
            simp only [List.getElem?_toArray, List.getElem?_cons_zero] at c0
            rw [List.take_of_length_le (by rw [← HNN.out]; exact Nat.le_refl _)] at h2
            have HR : Hid (RowsI (V.putObj D (.deferred none)) B (.slice A N c) N ((cutsF L M 0).map rangeF) ∧ Below B wr (V.putObj D (.deferred none))) := Lib.hid ⟨h2.turn ht, ht.below h3 (by omega)⟩
            clear h1 h2 h3 ht
            go_wp2
            refine ⟨by simp, .inl ⟨_, _, rfl, run_takeDeferred hK, ?_⟩⟩
            refine ⟨_, results_tmp2 rfl _ _ _, .slice A N c, ?_, ?_, ?_⟩
            · rw [HP.out]; rfl
            · rw [HP.out, List.length_map, ← HNN.out, ← HBB.out]; exact HR.out.1
            · rw [← HBB.out]; exact HR.out.2
          case hbody =>
            intro ly q U hqN hI hz
            obtain ⟨u, h1, h2, h3⟩ := hI
            obtain ⟨A, c, rfl⟩ := h2.form
            obtain ⟨a, ha⟩ : ∃ a, a = (cutAt L M q).1 := ⟨_, rfl⟩
            obtain ⟨e, he⟩ : ∃ e, e = (cutAt L M q).2 := ⟨_, rfl⟩
            have hin := cutAt_in (l := L) (most := M) (k := q) (by rw [← HNN.out]; exact hqN)
            rw [← ha, ← he, HLL.out] at hin
            obtain ⟨hae, hek⟩ := hin
            have hcv : cutV L M q = #[.int .i64 (a : Int), .int .i64 (e : Int)] := by rw [cutV, ← ha, ← he]
            have HAE : Hid (cutAt L M q = (a, e)) := Lib.hid (by rw [ha, he])
            have HI := Lib.hid (And.intro h1 (And.intro h2 h3))
            have hBU := h1.lt
            rw [hcv]
            clear h1 h2 h3 ha he hcv
            obtain ⟨ii, hii, hzi, hsi, hbi⟩ := infoInt
            have HII := Lib.hid hii; clear hii
            gi_wp2
            gi_loopw [14, 15] (fun lv i W => ∃ t : Nat, a + t ≤ e ∧ i = .int .i64 ((a + t : Nat) : Int) ∧ W.ownsRow U.heap.size 3 1 lv t (((List.range t).map (· + a)).map intV) ∧ Below U.heap.size U W) (fun _ i _ => e - (intOf i).toNat)
            case atStart => exact ⟨0, by omega, by simp, World.ownsRow_nil _ _ _ _, Below.refl _ _⟩
            case round =>
              obtain ⟨t, hte, rfl, hown, hb⟩ := hrel
              obtain ⟨Al, cl, rfl⟩ := own_form hown
              have hbz := hb.size
              have HJ := Lib.hid (And.intro hown hb)
              clear hown hb
              obtain ⟨x, hx⟩ : ∃ x, x = a + t := ⟨_, rfl⟩
              rw [← hx] at hte ⊢
              have HX := Lib.hid hx
              have ht6 : t ≤ 1000000 := by omega
              by_cases hlt : x < e
              · have hxi : (x : Int) < (e : Int) := by omega
                clear hx
                gi_wp2_with (
                  (gi_at_builtin
                   have hnew := (Blk.new wr 3 #[.int .i64 (x : Int)]).cell 0
                   refine wpListIn_append_own _ rfl (.tmp 59) (.tmp 61) 44 rfl U.heap.size 3 ii (.int .i64 0) 1 8 Tryd.underlying44 HII.out hzi hsi hbi rfl (by decide) (.slice Al t cl) t _ rfl (HJ.out.1.alloc _) ⟨wr.heap.size, 0, none⟩ 1 1 [.int .i64 (x : Int)] rfl rfl (fun j u hj => by
                     match j with
                     | 0 => simp at hj; subst hj; rw [add0]; exact hnew
                     | j + 1 => simp at hj) (fun u hu => by simp at hu; subst hu; rfl) (by simp only [maxLen]; omega) (by omega) (by simp; omega) ?_
                   intro v5 w5 hown5 hgrow5 _
                   have HR5 : Hid (w5.ownsRow U.heap.size 3 1 v5 (t + 1) (((List.range (t + 1)).map (· + a)).map intV) ∧ Below U.heap.size U w5) := Lib.hid ⟨by
                     have e1 : ((List.range (t + 1)).map (· + a)).map intV = ((List.range t).map (· + a)).map intV ++ [.int .i64 (x : Int)] := by
                       rw [List.range_succ]
                       simp only [List.map_append, List.map_cons, List.map_nil]
                       rw [HX.out, Nat.add_comm a t]; rfl
                     rw [e1]; exact hown5, (HJ.out.2.alloc hbz _).grown hgrow5 (by simp; omega) (fun j hj => own_ge HJ.out.1 j hj)⟩
                   clear hown5 hgrow5 hnew HJ))
                go_roundw
                case rel => exact ⟨t + 1, by have := HX.out; omega, by have := HX.out; exact congrArg (Value.int .i64) (by omega), HR5.out⟩
                case measure => simp [intOf]; omega
              · obtain rfl : x = e := by omega
                clear hx
                obtain ⟨h1, h2, h3⟩ := HI.out
                have hbB := h1.below HJ.out.2 h1.lt
                have c0 := hbB.cell 0
                have f0 := hbB.frozen 0
                simp only [List.getElem?_toArray, List.getElem?_cons_zero] at c0
                obtain ⟨is, his, hzs, hss, hbs⟩ := infoInts
                have HIS := Lib.hid his; clear his
                have HRW : Hid (RowsI wr B (.slice A q c) q (((cutsF L M 0).take q).map rangeF)) := Lib.hid (h2.keep HJ.out.2)
                have HBB : Hid (Blk wr B 41 #[.slice A q c]) := Lib.hid hbB
                have HLR : Hid (wr.ownsRow B 3 1 (.slice Al t cl) (rangeF (a, x)).length ((rangeF (a, x)).map intV)) := Lib.hid (by
                  have e1 : rangeF (a, x) = (List.range t).map (· + a) := by rw [rangeF, show x - a = t by have := HX.out; omega]
                  have e2 : (rangeF (a, x)).length = t := by rw [rangeF_length]; have := HX.out; show x - a = t; omega
                  rw [e1, List.length_map, List.length_range]
                  exact own_base HJ.out.1 (by omega))
                have hBU2 : B ≤ U.heap.size := by omega
                have hql : q ≤ 1000000 := by
                  have h1 := cutsF_length L M 0
                  rw [HLL.out, ← HNN.out] at h1
                  omega
                clear h1 h2 h3 hbB
                gi_wp2_with (
                  (gi_at_builtin
                   obtain ⟨hl1, vs, hown, hvl, hvs⟩ := HRW.out
                   have hnew := (Blk.new wr 44 #[.slice Al t cl]).cell 0
                   refine wpListIn_append_own _ rfl (.tmp 63) (.tmp 65) 41 rfl B 44 is (.slice none 0 0) 1 24 Tryd.underlying41 HIS.out hzs hss hbs rfl (by decide) (.slice A q c) q vs rfl (hown.alloc _) ⟨wr.heap.size, 0, none⟩ 1 1 [.slice Al t cl] rfl rfl (fun j u hj => by
                     match j with
                     | 0 => simp at hj; subst hj; rw [add0]; exact hnew
                     | j + 1 => simp at hj) (fun u hu => by simp at hu; subst hu; rfl) (by simp only [maxLen]; omega) (by omega) (by simp; omega) ?_
                   intro v5 w5 hown5 hgrow5 _
                   obtain ⟨A5, c5, rfl⟩ := own_form hown5
                   have hBW : Below wr.heap.size wr (wr.alloc (.cells #[.slice Al t cl] 44)) := (Below.refl _ _).alloc (Nat.le_refl _) _
                   have HR5 : Hid (RowsI w5 B (.slice A5 (q + 1) c5) (q + 1) (((cutsF L M 0).take (q + 1)).map rangeF) ∧ Blk w5 B 41 #[.slice A q c] ∧ Below B wr w5 ∧ KeepN W0.heap.size U w5 ∧ KeepF B U w5) := Lib.hid ⟨by
                     rw [cuts_take (by rw [← HNN.out]; exact hqN), HAE.out]
                     exact RowsI.snoc hl1 (hown.alloc _) hvl (fun i u l hu hl => own_below (hvs i u l hu hl) hBW) (own_below HLR.out hBW) hgrow5 hown5,
                     (HBB.out.alloc _).grown hgrow5 (own_ne_blk hown HBB.out (by decide)),
                     (hBW.mono (by omega)).grown hgrow5 (by simp; omega) (fun j hj => own_ge hown j hj),
                     ((KeepN.below (HJ.out.2)).trans (KeepN.below hBW)).trans (KeepN.own (hown.alloc _) hgrow5),
                     ((KeepF.below HJ.out.2).trans (KeepF.below hBW)).trans (KeepF.own (hown.alloc _) hgrow5 (by decide) (Nat.le_refl _))⟩
                   have c0 := HR5.out.2.1.cell 0
                   have f0 := HR5.out.2.1.frozen 0
                   simp only [List.getElem?_toArray, List.getElem?_cons_zero] at c0
                   clear hown hvl hvs hl1 hown5 hgrow5 hnew hBW))
                have hS := HR5.out.2.1.store 0 (.slice A5 (q + 1) c5)
                refine ⟨HR5.out.2.2.2.1.trans (KeepN.store HR5.out.2.1 _), HR5.out.2.2.2.2.trans (KeepF.store HR5.out.2.1 (by decide) (Nat.le_refl _) _), _, hS, ?_, ?_⟩
                · exact HR5.out.1.grown (Only.store (p := ⟨B, 0, none⟩) (World.grownBy.refl w5 (some B)) (.inl rfl) _) HR5.out.2.1 (by decide) (by decide)
                · exact ((HI.out.2.2.trans (HJ.out.2.mono (by omega))).trans HR5.out.2.2.1).setCell (p := ⟨B, 0, none⟩) (Nat.le_refl _) _
end Go.Proofs.YtlopiinkpdpakaaDoor
