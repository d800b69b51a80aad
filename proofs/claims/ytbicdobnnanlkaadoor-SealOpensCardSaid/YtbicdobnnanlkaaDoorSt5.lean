/-
  The walk of the stream's Part.
-/
import Derived.Test.YtbicdobnnanlkaaDoorSt4
namespace Go.Proofs.YtbicdobnnanlkaaDoor
open Go Go.RowKit

/-- the k-th quarter's places -/
def plK (k : Nat) : Nat × Nat × Nat × Nat := places.getD k (0, 0, 0, 0)
def plV (k : Nat) : Array Value := #[.int .i64 ((plK k).1 : Int), .int .i64 ((plK k).2.1 : Int), .int .i64 ((plK k).2.2.1 : Int), .int .i64 ((plK k).2.2.2 : Int)]
/-- all quarters' places -/
def plAll : Array Value := ((List.range 8).flatMap fun k => (plV k).toList).toArray
def TabQ (w : World) : Prop := ∃ t fr, w.heap[0]? = some (.cells plAll t fr)
theorem TabQ.below {w w' : World} {B : Nat} (h : TabQ w) (hb : Below B w w') (hB : 0 < B) : TabQ w' := by
  obtain ⟨t, fr, h⟩ := h
  exact ⟨t, fr, (hb.block 0 hB).trans h⟩
theorem plK_lt : ∀ k, k < 8 → (plK k).1 < 16 ∧ (plK k).2.1 < 16 ∧ (plK k).2.2.1 < 16 ∧ (plK k).2.2.2 < 16 := by decide
theorem plK_at : ∀ k, k < 8 → places[k]? = some (plK k) := by decide
theorem pl_index {k : Nat} (hlt : k < 8) (W : World) : (Instr.index 80 (.agg plAll) (.int .i64 (k : Int))).run Tryd.prog W = .ok (.agg (plV k)) W := by
  match k, hlt with
  | 0, _ => show _ = _; kernel_rfl
  | 1, _ => show _ = _; kernel_rfl
  | 2, _ => show _ = _; kernel_rfl
  | 3, _ => show _ = _; kernel_rfl
  | 4, _ => show _ = _; kernel_rfl
  | 5, _ => show _ = _; kernel_rfl
  | 6, _ => show _ = _; kernel_rfl
  | 7, _ => show _ = _; kernel_rfl
theorem plSize : plAll.size = 32 := rfl
theorem plV_one (k : Nat) : (plV k).all (·.oneCell') = true := by simp [plV, Value.oneCell']
/-- bytes of a part, one behind the other, and noughts behind -/
def outQ (s f : List UInt32) (k : Nat) : List UInt8 := (List.range 64).map fun i => if i < k then byteS s f i else 0
theorem outQ_length (s f : List UInt32) (k : Nat) : (outQ s f k).length = 64 := by simp [outQ]
theorem outQ_zero (s f : List UInt32) : outQ s f 0 = List.replicate 64 0 := by
  simp only [outQ, Nat.not_lt_zero, if_false, List.map_const', List.length_range]
theorem outQ_set (s f : List UInt32) {k : Nat} (h : k < 64) : (outQ s f k).set k (byteS s f k) = outQ s f (k + 1) := by
  apply List.ext_getElem?
  intro j
  rw [List.getElem?_set]
  simp only [outQ, List.length_map, List.length_range, List.getElem?_map]
  by_cases h1 : k = j
  · subst h1; simp [h]
  · by_cases h2 : j < 64
    · rw [if_neg h1]
      simp only [h2, List.getElem?_range, Option.map_some]
      by_cases h3 : j < k
      · rw [if_pos h3, if_pos (by omega)]
      · rw [if_neg h3, if_neg (by omega)]
    · rw [if_neg h1]
      simp [h2]

set_option maxRecDepth 100000 in
set_option maxHeartbeats 2000000 in
theorem part_any (key nonce : List UInt8) (n : UInt32) (w : World) (hT : TabQ w) (h0 : 0 < w.heap.size) (hk : key.length = 32) (hn : nonce.length = 12) :
    Calls Tryd.prog 30 #[.agg (bvs key), .agg (bvs nonce), .int .u32 (n.toNat : Int)] w fun e w' => e = .returned (.agg (bvs (partS key nonce n))) ∧ Below w.heap.size w w' := by
  have hbz : (bvs key).size = 32 := by rw [bvs_size]; exact hk
  have hnz : (bvs nonce).size = 12 := by rw [bvs_size]; exact hn
  have HT := Lib.hid hT
  clear hT
  obtain ⟨z, hf⟩ : ∃ z, z = beginS key nonce n := ⟨_, rfl⟩
  have hfl : z.length = 16 := by rw [hf]; exact beginS_length _ _ _
  have hfz : (wvs z).size = 16 := by rw [wvs_size]; exact hfl
  have HF := Lib.hid hf
  clear hf
  go_enter Tryd.func30, Tryd.ntmps30
  go_wp2_with (first
    | (go_at_call 40
       refine (begin_any key nonce n _ hk hn).mono ?_
       rintro e w1 ⟨rfl, hb1⟩
       rw [← HF.out]
       have HI : Hid (Blk w1 (w.heap.size + 1 + 1) 65 (bvs (List.replicate 64 0)) ∧ Below w.heap.size w w1 ∧ w.heap.size + 3 ≤ w1.heap.size) := Lib.hid ⟨(Blk.new' (w := (w.alloc _).alloc _) (by simp) _ _).below hb1 (by simp), ((((Below.refl w.heap.size w).alloc (Nat.le_refl _) _).alloc (by simp) _).alloc (by simp; omega) _).trans (hb1.mono (by simp; omega)), by have := hb1.size; simp at this; omega⟩
       clear hb1)
    | (refine wpList_load_blk rfl 23 (.tmp 3) rfl w.heap.size 23 (bvs key) rfl (((Blk.new w _ _).alloc _).alloc _) Tryd.underlying23 rfl (by rw [hbz]; kernel_rfl) ?_)
    | (refine wpList_load_blk rfl 48 (.tmp 4) rfl (w.heap.size + 1) 48 (bvs nonce) rfl ((Blk.new' (w := w.alloc _) (by simp) _ _).alloc _) Tryd.underlying48 rfl (by rw [hnz]; kernel_rfl) ?_)
    | (refine wpList_store_blk rfl 77 (.tmp 7) (.tmp 18) rfl w1.heap.size 77 _ (wvs z) rfl rfl (Blk.new _ _ _) (by rw [hfz]; rfl) (by rw [hfz]; kernel_rfl) (wvs_all1 _) ?_
       intro w2 hb2 hg2 hz2
       have HI2 : Hid (Blk w2 w1.heap.size 77 (wvs z) ∧ Blk w2 (w.heap.size + 1 + 1) 65 (bvs (List.replicate 64 0)) ∧ Below w.heap.size w w2 ∧ w.heap.size + 3 ≤ w1.heap.size ∧ w1.heap.size < w2.heap.size) := by
         have h3 := HI.out.2.2
         exact Lib.hid ⟨hb2, (HI.out.1.alloc _).grown hg2 (by intro h; injection h with h; omega), (HI.out.2.1.alloc (by omega) _).grown hg2 (by simp; omega) (by intro k hk; injection hk with hk; omega), h3, by rw [hz2]; simp⟩
       clear hb2 hg2 hz2 HI)
    | (refine wpList_load_blk rfl 77 (.tmp 7) rfl w1.heap.size 77 (wvs z) rfl HI2.out.1 Tryd.underlying77 rfl (by rw [hfz]; kernel_rfl) ?_)
    | (refine wpList_store_blk rfl 77 (.tmp 8) (.tmp 19) rfl w2.heap.size 77 _ (wvs z) rfl rfl (Blk.new _ _ _) (by rw [hfz]; rfl) (by rw [hfz]; kernel_rfl) (wvs_all1 _) ?_
       intro w3 hb3 hg3 hz3
       have HI3 : Hid (∃ g x7 x8, g = w.heap.size ∧ x7 = w1.heap.size ∧ x8 = w2.heap.size ∧ g + 2 < x7 ∧ x7 < x8 ∧ Blk w3 x7 77 (wvs z) ∧ Blk w3 x8 77 (wvs z) ∧ Blk w3 (g + 1 + 1) 65 (bvs (List.replicate 64 0)) ∧ Below g w w3) := by
         have h3 := HI2.out.2.2.2.1
         have h4 := HI2.out.2.2.2.2
         exact Lib.hid ⟨_, _, _, rfl, rfl, rfl, by omega, h4, (HI2.out.1.alloc _).grown hg3 (by intro h; injection h with h; omega), hb3, (HI2.out.2.1.alloc _).grown hg3 (by intro h; injection h with h; omega), (HI2.out.2.2.1.alloc (by omega) _).grown hg3 (by simp; omega) (by intro k hk; injection hk with hk; omega)⟩
       clear hb3 hg3 hz3 HI2))
  obtain ⟨g, x7, x8, hg, hx7, hx8, h27, h78, hI⟩ := HI3.out
  rw [← hg, ← hx7, ← hx8]
  have HG := Lib.hid hg
  have HI0 := Lib.hid hI
  clear HI3 hI hx7 hx8 hg
  go_loopw [20] (fun i wr => ∃ t : Nat, t ≤ 10 ∧ i = .int .i64 t ∧ Blk wr x7 77 (wvs z) ∧ Blk wr x8 77 (wvs (turnsS z t)) ∧ Blk wr (g + 1 + 1) 65 (bvs (List.replicate 64 0)) ∧ Below g w wr) (fun i _ => 10 - (intOf i).toNat)
  case atStart => exact ⟨0, by omega, rfl, HI0.out⟩
  case round =>
    clear HI0
    obtain ⟨t, ht, rfl, hI⟩ := hrel
    by_cases hlt : t < 10
    · obtain ⟨tk, fk, hK⟩ : TabQ wr := HT.out.below hI.2.2.2 (by have := HG.out; omega)
      have HI := Lib.hid hI; clear hI
      go_wp2_with (refine wpList_load_row rfl 80 (.global 0) rfl 0 rfl tk plAll fk _ hK Tryd.underlying80 rfl (by rw [plSize]; kernel_rfl) ?_)
      clear hK
      go_loopw [23] (fun i wr => ∃ k : Nat, k ≤ 8 ∧ i = .int .i64 k ∧ Blk wr x7 77 (wvs z) ∧ Blk wr x8 77 (wvs (someQ (turnsS z t) k)) ∧ Blk wr (g + 1 + 1) 65 (bvs (List.replicate 64 0)) ∧ Below g w wr) (fun i _ => 8 - (intOf i).toNat)
      case atStart => exact ⟨0, by omega, rfl, HI.out⟩
      case round =>
        clear HI
        obtain ⟨k, hk8, rfl, hI⟩ := hrel
        by_cases hlt2 : k < 8
        · have hp := pl_index hlt2 wr
          have hpl := Lib.hid (plK_lt k hlt2)
          have hpa := Lib.hid (plK_at k hlt2)
          have hsl : (someQ (turnsS z t) k).length = 16 := by rw [someQ_length, turnsS_length]; exact hfl
          have HI := Lib.hid hI; clear hI
          go_wp2_with (first
            | (go_at_call 41
               refine (quarter_any x8 (someQ (turnsS z t) k) (plK k).1 (plK k).2.1 (plK k).2.2.1 (plK k).2.2.2 _ hsl hpl.out.1 hpl.out.2.1 hpl.out.2.2.1 hpl.out.2.2.2 HI5.out.2.1).mono ?_
               rintro e w6 ⟨⟨v6, rfl⟩, hb6, hg6⟩
               rw [← someQ_succ _ hpa.out] at hb6
               have HI6 : Hid (Blk w6 x7 77 (wvs z) ∧ Blk w6 x8 77 (wvs (someQ (turnsS z t) (k + 1))) ∧ Blk w6 (g + 1 + 1) 65 (bvs (List.replicate 64 0)) ∧ Below g w w6) := Lib.hid ⟨HI5.out.1.grown hg6 (by intro h; injection h with h; omega), hb6, HI5.out.2.2.1.grown hg6 (by intro h; injection h with h; omega), HI5.out.2.2.2.1.grown hg6 (by have := HI5.out.2.1.lt; omega) (by intro k hk; injection hk with hk; omega)⟩
               clear hb6 hg6 HI5)
            | (refine wpList_load_blk rfl 79 (.tmp 10) rfl wr.heap.size 79 (plV k) rfl HI5.out.2.2.2.2 Tryd.underlying79 rfl (by kernel_rfl) ?_)
            | (refine wpList_store_blk rfl 79 (.tmp 10) (.tmp 25) rfl wr.heap.size 79 _ (plV k) rfl rfl (Blk.new _ _ _) rfl (by kernel_rfl) (plV_one k) ?_
               intro w5 hb5 hg5 hz5
               have HI5 : Hid (Blk w5 x7 77 (wvs z) ∧ Blk w5 x8 77 (wvs (someQ (turnsS z t) k)) ∧ Blk w5 (g + 1 + 1) 65 (bvs (List.replicate 64 0)) ∧ Below g w w5 ∧ Blk w5 wr.heap.size 79 (plV k)) := by
                 have h1 := HI.out.1.lt
                 have h2 := HI.out.2.1.lt
                 have h3 := HI.out.2.2.1.lt
                 exact Lib.hid ⟨(HI.out.1.alloc _).grown hg5 (by intro h; injection h with h; omega), (HI.out.2.1.alloc _).grown hg5 (by intro h; injection h with h; omega), (HI.out.2.2.1.alloc _).grown hg5 (by intro h; injection h with h; omega), (HI.out.2.2.2.alloc (by omega) _).grown hg5 (by simp; omega) (by intro k hk; injection hk with hk; omega), hb5⟩
               clear hb5 hg5 hz5 HI hp))
          go_roundw
          case rel => exact ⟨k + 1, by omega, by go_num, HI6.out⟩
          case measure => simp [intOf]; omega
        · obtain rfl : k = 8 := by omega
          have HI := Lib.hid hI; clear hI
          go_wp2_with fail
          go_roundw
          case rel =>
            exact ⟨t + 1, by omega, by go_num, HI.out⟩
          case measure => simp [intOf]; omega
    · obtain rfl : t = 10 := by omega
      obtain ⟨s, hs⟩ : ∃ s, s = turnsS z 10 := ⟨_, rfl⟩
      have hsl : s.length = 16 := by rw [hs, turnsS_length]; exact hfl
      have HS := Lib.hid hs
      rw [← hs] at hI
      have HI := Lib.hid hI; clear hI hs
      go_wp2_with fail
      rw [show ((10 : Nat) : Int) = 10 from rfl]
      refine wp_abs (fun W => ∃ x11, x11 = wr.heap.size ∧ x8 < x11 ∧ g + 1 + 1 < x11 ∧ Blk W x11 65 (bvs (outQ s z (4 * 0 + 0))) ∧ Blk W x7 77 (wvs z) ∧ Blk W x8 77 (wvs s) ∧ Blk W (g + 1 + 1) 65 (bvs (List.replicate 64 0)) ∧ Below g w W) ⟨_, rfl, HI.out.2.1.lt, HI.out.2.2.1.lt, ?_, HI.out.1.alloc _, HI.out.2.1.alloc _, HI.out.2.2.1.alloc _, HI.out.2.2.2.alloc (by have := HI.out.1.lt; omega) _⟩ ?_
      · rw [outQ_zero]
        exact Blk.new _ _ _
      rintro W0 ⟨x11, hx11, h811, hg11, hI0⟩
      rw [← hx11]
      have HI0 := Lib.hid hI0
      clear HI hI0 hx11
      go_loopw [30] (fun i wr => ∃ k : Nat, k ≤ 16 ∧ i = .int .i64 k ∧ Blk wr x11 65 (bvs (outQ s z (4 * k + 0))) ∧ Blk wr x7 77 (wvs z) ∧ Blk wr x8 77 (wvs s) ∧ Blk wr (g + 1 + 1) 65 (bvs (List.replicate 64 0)) ∧ Below g w wr) (fun i _ => 16 - (intOf i).toNat)
      case atStart => exact ⟨0, by omega, rfl, HI0.out⟩
      case round =>
        clear HI0
        obtain ⟨k, hk16, rfl, hI⟩ := hrel
        by_cases hlt3 : k < 16
        · have HI := Lib.hid hI; clear hI
          have hk3 : (k : Int) < 16 := by omega
          go_wp2_with fail
          refine wp_region_as (ys := [.eq (.int .i64 (k : Int)), .eq (.pointer (some ⟨x8, k, none⟩)), .eq (.int .u32 (at32 s k).toNat), .eq (.int .i64 (k : Int)), .eq (.pointer (some ⟨x7, k, none⟩)), .eq (.int .u32 (at32 z k).toNat), .eq (.int .u32 (add32 (at32 s k) (at32 z k)).toNat), .eq (.int .u32 (add32 (at32 s k) (at32 z k)).toNat)]) (by kernel_rfl) (by kernel_rfl) (by kernel_rfl) (by kernel_rfl) rfl _ (fun f => by simp only [framedL, Act.put, List.setIfInBounds_toArray, List.set_cons_zero, List.set_cons_succ, Nat.reduceAdd]; rfl) ⟨?_, ?_, ?_, ?_, ?_, ?_, ?_, ?_, trivial⟩ ?_
          · refine oweAs_pure ((.int .i64 (k : Int))) rfl (fun f W hE hd => ?_) (fun W hE => rfl)
            go_simp
          · refine oweAs_pure ((.pointer (some ⟨x8, k, none⟩))) rfl (fun f W hE hd => ?_) (fun W hE => rfl)
            simp only [DepAs, Region.binds, asAt, As.holds, and_true, forall_const] at hd
            go_simp
          · refine oweAs_pure ((.int .u32 (at32 s k).toNat)) rfl (fun f W hE hd => ?_) (fun W hE => rfl)
            simp only [DepAs, Region.binds, asAt, As.holds, and_true, forall_const] at hd
            have c0 := ((HI.out.2.2.1).below hE (HI.out.2.2.1).lt).word (i := k) (by omega)
            go_simp
          · refine oweAs_pure ((.int .i64 (k : Int))) rfl (fun f W hE hd => ?_) (fun W hE => rfl)
            go_simp
          · refine oweAs_pure ((.pointer (some ⟨x7, k, none⟩))) rfl (fun f W hE hd => ?_) (fun W hE => rfl)
            simp only [DepAs, Region.binds, asAt, As.holds, and_true, forall_const] at hd
            go_simp
          · refine oweAs_pure ((.int .u32 (at32 z k).toNat)) rfl (fun f W hE hd => ?_) (fun W hE => rfl)
            simp only [DepAs, Region.binds, asAt, As.holds, and_true, forall_const] at hd
            have c0 := ((HI.out.2.1).below hE (HI.out.2.1).lt).word (i := k) (by omega)
            go_simp
          · refine oweAs_pure ((.int .u32 (add32 (at32 s k) (at32 z k)).toNat)) rfl (fun f W hE hd => ?_) (fun W hE => rfl)
            simp only [DepAs, Region.binds, asAt, As.holds, and_true, forall_const] at hd
            go_simp
          · refine oweAs_pure ((.int .u32 (add32 (at32 s k) (at32 z k)).toNat)) rfl (fun f W hE hd => ?_) (fun W hE => rfl)
            simp only [DepAs, Region.binds, asAt, As.holds, and_true, forall_const] at hd
            go_simp
          intro f W hE hA
          simp only [AllAs, As.holds, Nat.reduceAdd] at hA
          obtain ⟨-, -, -, -, -, -, -, hA7, -⟩ := hA
          rw [hA7]
          clear hA7
          have HI1 : Hid (Blk W x11 65 (bvs (outQ s z (4 * k + 0))) ∧ Blk W x7 77 (wvs z) ∧ Blk W x8 77 (wvs s) ∧ Blk W (g + 1 + 1) 65 (bvs (List.replicate 64 0)) ∧ Below g w W) := Lib.hid ⟨HI.out.1.below hE HI.out.1.lt, HI.out.2.1.below hE HI.out.2.1.lt, HI.out.2.2.1.below hE HI.out.2.2.1.lt, HI.out.2.2.2.1.below hE HI.out.2.2.2.1.lt, HI.out.2.2.2.2.trans (hE.mono (by have := HI.out.1.lt; omega))⟩
          clear hE HI
          obtain ⟨X, hX⟩ : ∃ X, X = add32 (at32 s k) (at32 z k) := ⟨_, rfl⟩
          rw [← hX]
          have HX := Lib.hid hX
          clear hX
          go_wp2_with fail
          go_loopw [40] (fun i wr => ∃ j : Nat, j ≤ 4 ∧ i = .int .i64 j ∧ Blk wr x11 65 (bvs (outQ s z (4 * k + j))) ∧ Blk wr x7 77 (wvs z) ∧ Blk wr x8 77 (wvs s) ∧ Blk wr (g + 1 + 1) 65 (bvs (List.replicate 64 0)) ∧ Below g w wr) (fun i _ => 4 - (intOf i).toNat)
          case atStart => exact ⟨0, by omega, rfl, HI1.out⟩
          case round =>
            clear HI1
            obtain ⟨j, hj4, rfl, hI⟩ := hrel
            by_cases hlt4 : j < 4
            · obtain ⟨r, hr⟩ : ∃ r, r = 4 * k + j := ⟨_, rfl⟩
              have hkr : (4 : Int) * (k : Int) + (j : Int) = (r : Int) := by omega
              have hr1 : (r : Int) < 64 := by omega
              have hr2 : r < 64 := by omega
              have hb : byteS s z r = UInt8.ofNat (X.toNat / 256 ^ j) := by
                unfold byteS
                rw [show r / 4 = k by omega, show r % 4 = j by omega, ← HX.out]
              have hrs : 4 * k + (j + 1) = r + 1 := by omega
              rw [← hr] at hI
              have HR := Lib.hid (And.intro hb hrs)
              clear hb hrs hr
              have hXl := X.toNat_lt
              have hv : (X.toNat : Int) / 2 ^ (8 * j) % 256 = ((byteS s z r).toNat : Int) := by
                rw [HR.out.1, UInt8.toNat_ofNat', show (256 : Nat) ^ j = 2 ^ (8 * j) by rw [show (256 : Nat) = 2 ^ 8 from rfl, ← Nat.pow_mul]]
                have e : ((X.toNat : Int) / 2 ^ (8 * j)) = ((X.toNat / 2 ^ (8 * j) : Nat) : Int) := by simp
                rw [e]; omega
              have HV := Lib.hid hv
              clear hv
              have c0 := hI.1.byte (i := r) (by rw [outQ_length]; exact hr2)
              have f0 := hI.1.frozen r
              have HI := Lib.hid hI; clear hI
              go_wp2_with fail
              rw [HV.out]
              go_roundw
              case rel =>
                refine ⟨j + 1, by omega, by go_num, ?_, HI.out.2.1.other (by show x7 ≠ x11; omega) _, HI.out.2.2.1.other (by show x8 ≠ x11; omega) _, HI.out.2.2.2.1.other (by show g + 1 + 1 ≠ x11; omega) _, HI.out.2.2.2.2.setCell (p := ⟨x11, r, none⟩) (by show g ≤ x11; omega) _⟩
                rw [HR.out.2, ← outQ_set s z hr2]
                exact HI.out.1.byte_store _ _
              case measure => simp [intOf]; omega
            · obtain rfl : j = 4 := by omega
              have HI := Lib.hid hI; clear hI
              go_wp2_with fail
              go_roundw
              case rel => exact ⟨k + 1, by omega, by go_num, HI.out⟩
              case measure => simp [intOf]; omega
        · obtain rfl : k = 16 := by omega
          have HI := Lib.hid hI; clear hI
          obtain ⟨m, hm⟩ : ∃ m, m = outQ s z (4 * 16 + 0) := ⟨_, rfl⟩
          have hml : m.length = 64 := by rw [hm]; exact outQ_length _ _ _
          have hmz : (bvs m).size = 64 := by rw [bvs_size]; exact hml
          have HM : Hid (m = partS key nonce n) := Lib.hid (by
            rw [hm, HS.out, HF.out]
            apply List.map_congr_left
            intro i hi
            rw [if_pos (by simpa using hi)])
          rw [← hm] at HI
          clear hm
          go_wp2_with (first
            | (refine wpList_load_blk rfl 65 (.tmp 11) rfl x11 65 (bvs m) rfl HI.out.1 Tryd.underlying65 rfl (by rw [hmz]; kernel_rfl) ?_)
            | (refine wpList_store_blk rfl 65 (.tmp 6) (.tmp 55) rfl (g + 1 + 1) 65 _ (bvs m) rfl rfl HI.out.2.2.2.1 (by rw [hmz]; rfl) (by rw [hmz]; kernel_rfl) (bvs_one _) ?_
               intro w7 hb7 hg7 hz7))
          refine bodyPost_ret (results_cell Tryd.results30 rfl (t := 65) (g := g + 1 + 1) (cs := bvs m) hb7 Tryd.underlying65 rfl (by rw [hmz]; kernel_rfl)) rfl ⟨by rw [HM.out], ?_⟩
          rw [← HG.out]
          exact HI.out.2.2.2.2.grown hg7 (by have := HI.out.2.2.2.1.lt; omega) (by intro k hk; injection hk with hk; omega)
end Go.Proofs.YtbicdobnnanlkaaDoor
