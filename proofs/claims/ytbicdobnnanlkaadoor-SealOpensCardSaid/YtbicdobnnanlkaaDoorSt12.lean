/-
  The walk of stream.Over.
-/
import Derived.Test.YtbicdobnnanlkaaDoorSt11
import Derived.Test.YtbicdobnnanlkaaDoorCk2
import Derived.Test.YtbicdobnnanlkaaDoorGE
namespace Go.Proofs.YtbicdobnnanlkaaDoor
open Go Go.RowKit Go.Shelf
set_option linter.unusedSimpArgs false
set_option linter.unusedVariables false

attribute [local go_sem] Oper.semAt_some

/-- between two rounds of stream.Over -/
def OvI (g nb n c : Nat) (A : Option Addr) (key nonce b : List UInt8) (w : World) (k : Nat) (W : World) : Prop :=
  Blk W g 23 (bvs key) ∧ Blk W (g + 1) 48 (bvs nonce) ∧ W.ownsRow (g + 2) 5 1 (.slice A n c) n ((mixF (overS key nonce b) b (64 * k)).map bcv) ∧ Blk W nb 61 #[.int .u32 (k : Int)] ∧ Below g w W
theorem OvI.keep {g nb n c : Nat} {A : Option Addr} {key nonce b : List UInt8} {w : World} {k : Nat} {W V : World} (h : OvI g nb n c A key nonce b w k W) (hb : Below W.heap.size W V) : OvI g nb n c A key nonce b w k V :=
  ⟨h.1.below hb h.1.lt, h.2.1.below hb h.2.1.lt, own_below h.2.2.1 hb, h.2.2.2.1.below hb h.2.2.2.1.lt, h.2.2.2.2.trans (hb.mono (by have := h.1.lt; omega))⟩
theorem OvI.turn {g nb n c B : Nat} {A : Option Addr} {key nonce b : List UInt8} {w : World} {k : Nat} {W V : World} (h : OvI g nb n c A key nonce b w k W) (hb : Turns B W V) (hB : g ≤ B) : OvI g nb n c A key nonce b w k V :=
  ⟨hb.blk h.1, hb.blk h.2.1, hb.own h.2.2.1, hb.blk h.2.2.2.1, hb.below h.2.2.2.2 hB⟩

set_option maxRecDepth 100000 in
set_option maxHeartbeats 2000000 in
theorem streamOver_any (key nonce b : List UInt8) (v : Value) (w : World) (hT : TabQ w) (h0 : 0 < w.heap.size) (hk : key.length = 32) (hn : nonce.length = 12) (hv : HB w v b) (hb : b.length ≤ 100000) :
    Calls Tryd.prog 16 #[.agg (bvs key), .agg (bvs nonce), v] w fun e w' => ∃ v', e = .returned v' ∧ w'.ownsRow w.heap.size 5 1 v' b.length ((overS key nonce b).map bcv) ∧ Below w.heap.size w w' := by
  have hbz : (bvs key).size = 32 := by rw [bvs_size]; exact hk
  have hnz : (bvs nonce).size = 12 := by rw [bvs_size]; exact hn
  have HT := Lib.hid hT
  have HV := Lib.hid hv
  clear hT hv
  obtain ⟨n, hnb⟩ : ∃ n, n = b.length := ⟨_, rfl⟩
  have HN := Lib.hid hnb
  rw [← hnb] at hb
  clear hnb
  refine (callsIn_wide (n := 4)).1 (callsIn_of_wp_marks Tryd.func16 rfl trivial ?_ rfl)
  simp only [Tryd.ntmps16, List.size_toArray, List.length_cons, List.length_nil, Nat.reduceAdd, Nat.reduceSub, Array.replicate_succ, Array.replicate_zero, List.push_toArray, List.append_toArray, List.nil_append, List.cons_append]
  refine wpIn_wide.2 ?_
  go_wp2_with (first
    | (go_at_call 28
       refine (cloneB_any v b _ ((HV.out.alloc _).alloc _) (by have := HN.out; omega)).mono ?_
       rintro e w1 ⟨v1, rfl, ho1, hb1⟩
       have ho1' := ho1
       rw [← HN.out] at ho1'
       obtain ⟨A, c, rfl⟩ := own_form ho1'
       have HI1 : Hid (Blk w1 w.heap.size 23 (bvs key) ∧ Blk w1 (w.heap.size + 1) 48 (bvs nonce) ∧ w1.ownsRow (w.heap.size + 2) 5 1 (.slice A n c) n (b.map bcv) ∧ Below w.heap.size w w1 ∧ w.heap.size + 2 ≤ w1.heap.size) := Lib.hid ⟨((Blk.new w _ _).alloc _).below hb1 (by simp; omega), (Blk.new' (w := w.alloc _) (by simp) _ _).below hb1 (by simp), by simpa using ho1', (((Below.refl w.heap.size w).alloc (Nat.le_refl _) _).alloc (by simp) _).trans (hb1.mono (by simp; omega)), by have := hb1.size; simpa using this⟩
       clear ho1 ho1' hb1)
    | (go_at_call 29
       rw [show (64 : Int) = ((64 : Nat) : Int) from rfl]
       refine (chunkB_any _ _ _ 64 _ (by omega)).mono ?_
       rintro e w2 ⟨rfl, rfl⟩))
  have hA : ∃ ob, 0 < n → A = some ⟨ob, 0, none⟩ ∧ ob < w1.heap.size := by
    by_cases h : 0 < n
    · obtain ⟨ob, cap, r, e, _, _, _, _, hl⟩ := own_bytes HI1.out.2.2.1 HN.out h
      injection e with e
      exact ⟨ob, fun _ => ⟨e, hl.lt⟩⟩
    · exact ⟨0, fun h2 => absurd h2 h⟩
  obtain ⟨ob, hA⟩ := hA
  have HA : Hid (0 < n → A = some ⟨ob, 0, none⟩) := Lib.hid fun h => (hA h).1
  have HOB : Hid (0 < n → ob < w1.heap.size) := Lib.hid fun h => (hA h).2
  have hform : n ≤ c ∧ c ≤ maxLen := by
    rcases HI1.out.2.2.1.2 with ⟨e, h⟩ | ⟨g', cap', cur, e, _, _, h1, h2, _⟩
    · injection e with e1 e2 e3; subst e3; exact ⟨by omega, by simp [maxLen]⟩
    · injection e with e1 e2 e3; subst e3; exact ⟨h1, h2⟩
  obtain ⟨hnc, hcm⟩ := hform
  clear hA
  refine wp_abs (fun W => ∃ g nb, g = w.heap.size ∧ nb = w1.heap.size ∧ W.heap.size = nb + 3 ∧ W.cell? ⟨nb + 1, 0, none⟩ = some (.slice A n c) ∧ W.cell? ⟨nb + 2, 0, none⟩ = some (.int .i64 64) ∧ OvI g nb n c A key nonce b w 0 W ∧ g + 2 ≤ nb) ⟨_, _, rfl, rfl, ?_, ?_, ?_, ?_, ?_⟩ ?_
  · simp
  · exact ((Blk.new' (w := w1.alloc _) (by simp) _ _).alloc _).cell 0
  · exact (Blk.new' (w := (w1.alloc _).alloc _) (by simp) _ _).cell 0
  · have h := HI1.out
    have hb3 : Below w1.heap.size w1 (((w1.alloc (.cells #[.int .u32 0] 61)).alloc (.cells #[.slice A n c] 25)).alloc (.cells #[.int .i64 64] 3)) := (((Below.refl w1.heap.size w1).alloc (Nat.le_refl _) _).alloc (by simp) _).alloc (by simp; omega) _
    refine ⟨h.1.below hb3 h.1.lt, h.2.1.below hb3 h.2.1.lt, ?_, ((Blk.new w1 _ _).alloc _).alloc _, h.2.2.2.1.trans (hb3.mono (by omega))⟩
    rw [Nat.mul_zero, mixF_zero]
    exact own_below h.2.2.1 hb3
  · exact HI1.out.2.2.2.2
  rintro W0 ⟨g, nb, hg, hnb, hsz, hc1, hc2, hI, hgn⟩
  rw [← hg, ← hnb, show nb + 1 + 1 = nb + 2 from rfl]
  have HG := Lib.hid hg
  have HNB := Lib.hid hnb
  have HI := Lib.hid hI
  clear HI1 hg hnb hI
  have hov := overS_length key nonce b
  refine wpIn_wide.1 (wpIn_range_n (n := 2) (gf := 39) (lb := #[.pointer (some ⟨nb + 1, 0, none⟩), .pointer (some ⟨nb + 2, 0, none⟩)]) rfl (enters_of Tryd.func39 (by kernel_rfl) rfl)
    (chunkB1_seq (nb + 1) ob 0 n c A W0 HA.out hnc hcm (by omega) (by omega) hc1 hc2) (Below.refl _ _) (fun _ => rfl) (fun _ _ _ h k => h.trans k)
    (fun X Y h => by obtain ⟨l, o, o', hl, ho, hcl, rfl⟩ := h; exact KeepC.put _ (by omega)) (fun X Y h => KeepN.below h)
    (fun k W => OvI g nb n c A key nonce b w k W) (fun _ _ => False) (fun k X Y h ht => h.turn ht (by omega)) (fun _ _ _ h _ => h) (fun k X Y h hb => h.keep hb)
    (fun o1 o2 => (HI.out.keep ((Below.refl _ _).alloc (Nat.le_refl _) _)).keep ((Below.refl _ _).alloc (Nat.le_refl _) _))
    (fun k => { tmps := #[.agg (bvs key), .agg (bvs nonce), v, .pointer (some ⟨g, 0, none⟩), .pointer (some ⟨g + 1, 0, none⟩), undef, .slice none 0 0, .slice A n c, .pointer (some ⟨nb, 0, none⟩), pieceV ob 0 n k, undef, undef, v, .slice A n c, .slice A n c, .func (.func 39) #[] #[.pointer (some ⟨nb + 1, 0, none⟩), .pointer (some ⟨nb + 2, 0, none⟩)], pieceV ob 0 n k, undef, undef, undef, undef, undef, undef, undef, undef, undef, undef, undef, undef, undef, undef, undef, undef, undef, undef, undef, undef, undef, undef], defers := [] })
    ?assign ?body ?done ?stop)
  case assign =>
    intro l k W K hK
    gi_wp2
    exact hK
  case stop =>
    rintro D c W _ h _
    exact h.elim
  case done =>
    intro D W hD hI hK
    have ht : Turns W0.heap.size W (W.putObj D (.deferred none)) := ⟨D, _, _, hD, hK, rfl, rfl⟩
    have hI2 := hI.turn ht (by omega)
    unfold OvI at hI2
    rw [mixF_all _ _ (by rw [hov]) (by have := HN.out; omega)] at hI2
    have HI2 := Lib.hid hI2
    clear hI hI2 ht
    go_wp2
    refine ⟨by simp, .inl ⟨_, _, rfl, run_takeDeferred hK, ?_⟩⟩
    refine ⟨_, results_tmp rfl _ _ _, _, rfl, ?_, ?_⟩
    · have h := HI2.out.2.2.1
      rw [← HN.out, ← HG.out]
      obtain ⟨h1, h2⟩ := h
      refine ⟨h1, h2.imp id ?_⟩
      rintro ⟨g', cap, cur, e, hb', h3⟩
      exact ⟨g', cap, cur, e, by omega, h3⟩
    · rw [← HG.out]
      exact HI2.out.2.2.2.2
  case body =>
    intro l k U hkN hI hz
    have hobn : ob < nb := by have := HOB.out (by omega); have := HNB.out; omega
    obtain rfl := HA.out (by omega)
    obtain ⟨hIK, hIN, hIO, hInb, hIB⟩ := hI
    have hml : n = (mixF (overS key nonce b) b (64 * k)).length := by rw [mixF_length _ _ _ hov]; exact HN.out
    obtain ⟨g', cap', r, e1, hgo, hc1', hm1, hr1, hblk⟩ := own_bytes hIO hml (by omega)
    injection e1 with e1 e2 e3
    injection e1 with e1
    injection e1 with e1
    subst e1; subst e3
    have hcnb := hInb.cell 0
    have hfnb := hInb.frozen 0
    have HR1 := Lib.hid hr1
    have hnob : nb ≠ ob := fun e => by
      have e1 : U.heap[nb]? = some (.cells #[.int .u32 (k : Int)] 61 (0, 0)) := hInb
      have e2 : U.heap[ob]? = some (.cells _ 5 (0, 0)) := hblk
      rw [e, e2] at e1
      injection e1 with e1; injection e1 with _ e1; exact absurd e1 (by decide)
    have hk32 : (k : Int) < 4294967296 := by omega
    obtain ⟨t, ht⟩ : ∃ t, t = 64 * k := ⟨_, rfl⟩
    obtain ⟨q, hq⟩ : ∃ q, q = pieceN n k := ⟨_, rfl⟩
    have hq2 : q = min 64 (n - t) := by rw [hq, pieceN, ht]
    have hq3 : q ≤ 64 := by omega
    have hq4 : t + q ≤ n := by omega
    have hpv : pieceV ob 0 n k = .slice (some ⟨ob, t, none⟩) q q := by rw [pieceV, ← hq, ← ht, Nat.zero_add]
    rw [hpv]
    rw [← ht] at hblk hml
    have HTK := Lib.hid ht
    have HQN := Lib.hid hq2
    have HJ := Lib.hid (And.intro hIK (And.intro hIN (And.intro hblk (And.intro hInb hIB))))
    have HK : Hid ((k : Int) = ((UInt32.ofNat k).toNat : Int)) := Lib.hid (by rw [UInt32.toNat_ofNat']; omega)
    obtain ⟨pt, hpt⟩ : ∃ p, p = partS key nonce (UInt32.ofNat k) := ⟨_, rfl⟩
    have hptl : pt.length = 64 := by rw [hpt]; exact partS_length _ _ _
    have hptz : (bvs pt).size = 64 := by rw [bvs_size]; exact hptl
    have HPT := Lib.hid hpt
    clear hIK hIN hIO hblk hInb hIB hpt hml ht hq hq2 hpv hr1
    gi_step
    gi_step
    gi_step
    refine wpIn_round (by rintro ⟨a, w, h⟩; exact h) (by kernel_rfl) ?_
    go_wp2_with (first
      | (refine wpList_load_blk rfl 23 (.tmp 3) rfl g 23 (bvs key) rfl HJ.out.1 Tryd.underlying23 rfl (by rw [hbz]; kernel_rfl) ?_)
      | (refine wpList_load_blk rfl 48 (.tmp 4) rfl (g + 1) 48 (bvs nonce) rfl HJ.out.2.1 Tryd.underlying48 rfl (by rw [hnz]; kernel_rfl) ?_)
      | (go_at_call 30
         rw [HK.out]
         refine (part_any key nonce (UInt32.ofNat k) U (HT.out.below HJ.out.2.2.2.2 (by have := HG.out; omega)) (by omega) hk hn).mono ?_
         rintro e V1 ⟨rfl, hb1⟩
         rw [← HPT.out]
         have HB1 := Lib.hid hb1
         clear hb1)
      | (refine wpList_store_blk rfl 65 (.tmp 10) (.tmp 20) rfl V1.heap.size 65 _ (bvs pt) rfl rfl (Blk.new _ _ _) (by rw [hptz]; rfl) (by rw [hptz]; kernel_rfl) (bvs_one _) ?_
         intro V2 hb2 hg2 hz2
         have HJ2 : Hid (Blk V2 V1.heap.size 65 (bvs pt) ∧ Below U.heap.size U V2 ∧ U.heap.size ≤ V1.heap.size ∧ V2.heap.size = V1.heap.size + 1) := Lib.hid ⟨hb2, (HB1.out.alloc HB1.out.size _).grown hg2 (by have := HB1.out.size; simp; omega) (by intro k hk; injection hk with hk; have := HB1.out.size; omega), HB1.out.size, by rw [hz2]; simp⟩
         clear hb2 hg2 hz2 HB1))
    gi_wp2
    have hszV : U.heap.size ≤ V1.heap.size := HJ2.out.2.2.1
    have hobW : ob < U.heap.size := HJ.out.2.2.1.lt
    gi_loopw [23] (fun i wr => ∃ j : Nat, j ≤ q ∧ i = .int .i64 j ∧ Blk wr ob 5 (bvr (mixF (overS key nonce b) b (t + j)) r) ∧ Blk wr V1.heap.size 65 (bvs pt) ∧ U.grownBy wr (some ob)) (fun i _ => q - (intOf i).toNat)
    case atStart => exact ⟨0, Nat.zero_le _, rfl, HJ.out.2.2.1.below HJ2.out.2.1 hobW, HJ2.out.1, ⟨HJ2.out.2.1.os, HJ2.out.2.1.tape, HJ2.out.2.1.output, HJ2.out.2.1.size, fun i hi _ => HJ2.out.2.1.block i hi⟩⟩
    case round =>
      obtain ⟨j, hj, rfl, hI⟩ := hrel
      by_cases hlt : j < q
      · have HI2 := Lib.hid hI; clear hI
        have hjt : (j : Int) < (q : Int) := by omega
        have hj64 : (j : Int) < 64 := by omega
        have hbt : t + j < b.length := by have := HN.out; omega
        have HX : Hid (at8 b (t + j) ^^^ at8 pt j = at8 (overS key nonce b) (t + j)) := Lib.hid (by
          rw [overS_at _ _ _ hbt, HPT.out]
          have h1 : (t + j) / 64 = k := by have := HTK.out; omega
          have h2 : (t + j) % 64 = j := by have := HTK.out; omega
          rw [h1, h2])
        gi_wp2
        refine any_region_tail2 (wpIn_round_any (by kernel_rfl) (by rintro ⟨a, w, h⟩; exact h) (by kernel_rfl)) 9 [.eq (.slice (some ⟨ob, t, none⟩) q q), .eq (.int .i64 (j : Int)), .eq (.pointer (some ⟨ob, t + j, none⟩)), .eq (.int .u8 (at8 b (t + j)).toNat), .eq (.int .i64 (j : Int)), .eq (.pointer (some ⟨V1.heap.size, j, none⟩)), .eq (.int .u8 (at8 pt j).toNat), .eq (.int .u8 (at8 b (t + j) ^^^ at8 pt j).toNat), .eq (.pointer (some ⟨ob, t + j, none⟩))] (by kernel_rfl) (by kernel_rfl) (by kernel_rfl) rfl (by decide) (by kernel_rfl) _ (fun f => by simp only [framedL, Act.put, maskF, oldF, Nat.reduceLT, reduceIte, List.getElem?_toArray, List.getElem?_cons_succ, List.getElem?_cons_zero, Option.bind_some, Option.map_some, Option.map_none, Option.getD_some, Option.getD_none, Array.getD_eq_getD_getElem?, List.setIfInBounds_toArray, List.set_cons_zero, List.set_cons_succ, Nat.reduceAdd]; rfl) ⟨?_, ?_, ?_, ?_, ?_, ?_, ?_, ?_, ?_, trivial⟩ ?_
        · refine oweAs_pure ((.slice (some ⟨ob, t, none⟩) q q)) rfl (fun f W hE hd => ?_) (fun W hE => rfl)
          go_simp
        · refine oweAs_pure ((.int .i64 (j : Int))) rfl (fun f W hE hd => ?_) (fun W hE => rfl)
          go_simp
        · refine oweAs_pure ((.pointer (some ⟨ob, t + j, none⟩))) rfl (fun f W hE hd => ?_) (fun W hE => rfl)
          simp only [DepAs, Region.binds, asAt, As.holds, and_true, forall_const] at hd
          go_simp
        · refine oweAs_pure ((.int .u8 (at8 b (t + j)).toNat)) rfl (fun f W hE hd => ?_) (fun W hE => rfl)
          simp only [DepAs, Region.binds, asAt, As.holds, and_true, forall_const] at hd
          have c0 := (HI2.out.1.below hE HI2.out.1.lt).rbyte (i := t + j) (by rw [mixF_length _ _ _ hov]; exact hbt)
          rw [mixF_at _ _ hov hbt] at c0
          go_simp
        · refine oweAs_pure ((.int .i64 (j : Int))) rfl (fun f W hE hd => ?_) (fun W hE => rfl)
          go_simp
        · refine oweAs_pure ((.pointer (some ⟨V1.heap.size, j, none⟩))) rfl (fun f W hE hd => ?_) (fun W hE => rfl)
          simp only [DepAs, Region.binds, asAt, As.holds, and_true, forall_const] at hd
          go_simp
        · refine oweAs_pure ((.int .u8 (at8 pt j).toNat)) rfl (fun f W hE hd => ?_) (fun W hE => rfl)
          simp only [DepAs, Region.binds, asAt, As.holds, and_true, forall_const] at hd
          have c0 := (HI2.out.2.1.below hE HI2.out.2.1.lt).byte (i := j) (by omega)
          go_simp
        · refine oweAs_pure ((.int .u8 (at8 b (t + j) ^^^ at8 pt j).toNat)) rfl (fun f W hE hd => ?_) (fun W hE => rfl)
          simp only [DepAs, Region.binds, asAt, As.holds, and_true, forall_const] at hd
          have hx := xor8_rule (at8 b (t + j)) (at8 pt j)
          go_simp
        · refine oweAs_pure ((.pointer (some ⟨ob, t + j, none⟩))) rfl (fun f W hE hd => ?_) (fun W hE => rfl)
          simp only [DepAs, Region.binds, asAt, As.holds, and_true, forall_const] at hd
          go_simp
        intro f W hE hA
        simp only [AllAs, As.holds, Nat.reduceAdd] at hA
        obtain ⟨-, -, -, -, -, -, -, hA7, hA8, -⟩ := hA
        simp only [List.drop_succ_cons, List.drop_zero]
        rw [hA7, hA8, HX.out]
        have HI3 : Hid (Blk W ob 5 (bvr (mixF (overS key nonce b) b (t + j)) r) ∧ Blk W V1.heap.size 65 (bvs pt) ∧ U.grownBy W (some ob)) := Lib.hid ⟨HI2.out.1.below hE HI2.out.1.lt, HI2.out.2.1.below hE HI2.out.2.1.lt, Only.below HI2.out.2.2 hE HI2.out.2.2.size⟩
        have c0 := HI3.out.1.rbyte (i := t + j) (by rw [mixF_length _ _ _ hov]; exact hbt)
        have f0 := HI3.out.1.frozen (t + j)
        clear HI2 hE hA7 hA8 HX
        go_wp2
        gi_wp2
        go_roundw
        case rel =>
          refine ⟨j + 1, by omega, by go_num, ?_, HI3.out.2.1.other (by show V1.heap.size ≠ ob; omega) _, Only.store HI3.out.2.2 (.inl rfl) _⟩
          rw [← Nat.add_assoc, ← mixF_set _ _ hov hbt]
          exact HI3.out.1.rbyte_store _ (by rw [mixF_length _ _ _ hov]; exact hbt)
        case measure => simp [intOf]; omega
      · obtain rfl : j = q := by omega
        have hnb2 : Blk wr nb 61 #[.int .u32 (k : Int)] := HJ.out.2.2.2.1.grown hI.2.2 (by intro h; injection h with h; exact hnob h)
        have hcnb := hnb2.cell 0
        have hfnb := hnb2.frozen 0
        have HI2 := Lib.hid hI; clear hI
        have hmix : mixF (overS key nonce b) b (t + j) = mixF (overS key nonce b) b (64 * (k + 1)) := by
          have h1 := HQN.out
          have h2 := HTK.out
          by_cases h3 : t + 64 ≤ n
          · rw [show t + j = 64 * (k + 1) by omega]
          · rw [mixF_all _ _ hov (by have := HN.out; omega), mixF_all _ _ hov (by have := HN.out; omega)]
        have HM := Lib.hid hmix
        clear hmix
        gi_wp2
        have hob2 := HI2.out.1
        rw [HM.out] at hob2
        have hU := HI2.out.2.2
        have hgU : ∀ x : Nat, x < U.heap.size → x ≠ ob → wr.heap[x]? = U.heap[x]? := fun x hx hne => hU.block x hx (fun e => by injection e with e; exact hne e)
        refine ⟨(KeepN.grown hU HJ.out.2.2.1).trans (KeepN.store hnb2 _), fun x o u h1 h2 h3 => ?_, (HJ.out.1.grown hU (by intro h; injection h with h; omega)).other (by show g ≠ nb; omega) _, (HJ.out.2.1.grown hU (by intro h; injection h with h; omega)).other (by show g + 1 ≠ nb; omega) _, ?_, ?_, ((HJ.out.2.2.2.2.grown hU (by have := HJ.out.1.lt; omega) (by intro k hk; injection hk with hk; omega))).setCell (p := ⟨nb, 0, none⟩) (by show g ≤ nb; omega) _⟩
        · have hx := lt_of_cell h3
          rw [World.cell?_of_block (a := ⟨x, o, none⟩) (Below.heap_setCell wr _ _ x (by show x ≠ nb; omega)), World.cell?_of_block (a := ⟨x, o, none⟩) (hgU x hx (by omega))]
          exact h3
        · exact own_bytes_mk hgo (hob2.other (by show ob ≠ nb; exact Ne.symm hnob) _) (by rw [mixF_length _ _ _ hov]; exact HN.out) HR1.out hm1
        · have := hnb2.store 0 (.int .u32 ((k : Int) + 1))
          exact this.mk_eq (by simp)
end Go.Proofs.YtbicdobnnanlkaaDoor
