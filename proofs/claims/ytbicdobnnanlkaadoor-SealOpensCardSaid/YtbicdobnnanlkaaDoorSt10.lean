/-
  The walk of the reference's Part.
-/
import Derived.Test.YtbicdobnnanlkaaDoorSt8
import Derived.Test.YtbicdobnnanlkaaDoorSt9
namespace Go.Proofs.YtbicdobnnanlkaaDoor
open Go Go.RowKit

theorem sh8_step (b : UInt8) {m : Nat} (hm : m < 3) : ((sh8 b (8 * m)).toNat : Int) * 256 % 4294967296 = ((sh8 b (8 * (m + 1))).toNat : Int) := by
  have hb := b.toNat_lt
  rw [sh8_toNat _ (by omega), sh8_toNat _ (by omega), show 8 * (m + 1) = 8 * m + 8 by omega, Nat.pow_add]
  have h1 : (2 : Nat) ^ (8 * m) ≤ 2 ^ 16 := Nat.pow_le_pow_right (by decide) (by omega)
  generalize (2 : Nat) ^ (8 * m) = P at *
  have h2 : b.toNat * P ≤ 255 * 65536 := Nat.mul_le_mul (by omega) h1
  rw [← Nat.mul_assoc]
  generalize b.toNat * P = Q at *
  omega

theorem start_zero : ∀ j, j < 16 → 4 ≤ j → at32 startS j = 0 := by decide
theorem accS_nonce (key nonce : List UInt8) (n : UInt32) : accS ((setW startS 4 key 8).set 12 n) 13 nonce 12 = beginS key nonce n := by
  rw [← begin_eq]
  refine (accS_setW _ 13 nonce 3 (by rw [List.length_set, setW_length]; decide) (fun j h1 h2 => ?_)).1
  rw [at32_set _ _ _ _ (by rw [setW_length]; decide), if_neg (by omega), (accS_setW startS 4 key 8 (by decide) (fun j h1 h2 => start_zero j (by omega) h1)).2 j (by omega)]
  exact start_zero j (by omega) (by omega)

set_option maxRecDepth 100000 in
set_option maxHeartbeats 2000000 in
theorem refPart_any (key nonce : List UInt8) (n : UInt32) (w : World) (hk : key.length = 32) (hn : nonce.length = 12) :
    Calls Tryd.prog 35 #[.agg (bvs key), .agg (bvs nonce), .int .u32 (n.toNat : Int)] w fun e w' => e = .returned (.agg (bvs (partS key nonce n))) ∧ Below w.heap.size w w' := by
  have hsz : (wvs startS).size = 16 := rfl
  go_enter Tryd.func35, Tryd.ntmps35
  go_wp2_with (refine wpList_store_blk rfl 76 (.tmp 7) (.tmp 22) rfl (w.heap.size + 1 + 1 + 1) 76 _ (wvs startS) rfl rfl (Blk.new' (by simp) _ _) (by rw [hsz]; rfl) (by rw [hsz]; kernel_rfl) (wvs_all1 _) ?_
               intro w3 hb3 hg3 hz3
               have HI : Hid (∃ g, g = w.heap.size ∧ Blk w3 (g + 3) 76 (wvs (accS startS 4 key 0)) ∧ Blk w3 g 23 (bvs key) ∧ Blk w3 (g + 1) 48 (bvs nonce) ∧ Blk w3 (g + 2) 65 (bvs (List.replicate 64 0)) ∧ Below g w w3) := by
                 refine Lib.hid ⟨_, rfl, hb3, ?_, ?_, ?_, ?_⟩
                 · exact ((((Blk.new w _ _).alloc _).alloc _).alloc _).grown hg3 (by intro h; injection h with h; omega)
                 · exact (((Blk.new' (w := w.alloc _) (by simp) _ _).alloc _).alloc _).grown hg3 (by intro h; injection h with h; omega)
                 · exact ((Blk.new' (w := (w.alloc _).alloc _) (by simp) _ _).alloc _).grown hg3 (by intro h; injection h with h; omega)
                 · exact (((((Below.refl w.heap.size w).alloc (Nat.le_refl _) _).alloc (by simp) _).alloc (by simp; omega) _).alloc (by simp; omega) _).grown hg3 (by simp; omega) (by intro k hk; injection hk with hk; omega)
               clear hb3 hg3 hz3)
  obtain ⟨g, hg, hI⟩ := HI.out
  rw [← hg, show g + 1 + 1 + 1 = g + 3 from rfl, show g + 1 + 1 = g + 2 from rfl]
  have HG := Lib.hid hg
  have HI0 := Lib.hid hI
  clear HI hI hg
  go_loopw [8] (fun i wr => ∃ k : Nat, k ≤ 32 ∧ i = .int .i64 k ∧ Blk wr (g + 3) 76 (wvs (accS startS 4 key k)) ∧ Blk wr g 23 (bvs key) ∧ Blk wr (g + 1) 48 (bvs nonce) ∧ Blk wr (g + 2) 65 (bvs (List.replicate 64 0)) ∧ Below g w wr) (fun i _ => 32 - (intOf i).toNat)
  case atStart => exact ⟨0, by omega, rfl, HI0.out⟩
  case round =>
    clear HI0
    obtain ⟨k, hk32, rfl, hI⟩ := hrel
    by_cases hlt : k < 32
    · have d0 := hI.2.1.byte (i := k) (by omega)
      have HI := Lib.hid hI; clear hI
      obtain ⟨b, hb⟩ : ∃ b, b = at8 key k := ⟨_, rfl⟩
      have HBb := Lib.hid hb
      rw [← hb] at d0
      clear hb
      have hbl := b.toNat_lt
      obtain ⟨r, hr⟩ : ∃ r, r = k % 4 := ⟨_, rfl⟩
      have hr4 : r < 4 := by omega
      have hkr : (k : Int) % 4 = (r : Int) := by omega
      have HR := Lib.hid hr
      clear hr
      go_wp2_with fail
      have e0 : (b.toNat : Int) = ((sh8 b (8 * 0)).toNat : Int) := by rw [sh8_toNat _ (by omega)]; omega
      rw [e0]
      clear e0
      go_loopw [9, 10] (fun x j wr => ∃ m : Nat, m ≤ r ∧ x = .int .u32 (sh8 b (8 * m)).toNat ∧ j = .int .i64 m ∧ Blk wr (g + 3) 76 (wvs (accS startS 4 key k)) ∧ Blk wr g 23 (bvs key) ∧ Blk wr (g + 1) 48 (bvs nonce) ∧ Blk wr (g + 2) 65 (bvs (List.replicate 64 0)) ∧ Below g w wr) (fun _ j _ => r - (intOf j).toNat)
      case atStart => exact ⟨0, by omega, rfl, rfl, HI.out⟩
      case round =>
        clear HI d0
        obtain ⟨m, hmr, rfl, rfl, hI⟩ := hrel
        by_cases hlt2 : m < r
        · have HS := Lib.hid (sh8_step b (show m < 3 by omega))
          have hlt2' : (m : Int) < (r : Int) := by omega
          have HI := Lib.hid hI; clear hI
          go_wp2_with fail
          rw [HS.out]
          go_roundw
          case rel => exact ⟨m + 1, by omega, rfl, by go_num, HI.out⟩
          case measure => simp [intOf]; omega
        · obtain rfl : m = r := by omega
          obtain ⟨q, hq⟩ : ∃ q, q = k / 4 := ⟨_, rfl⟩
          have hkq : (k : Int) / 4 = (q : Int) := by omega
          obtain ⟨p, hp⟩ : ∃ p, p = 4 + q := ⟨_, rfl⟩
          have hqp : (4 : Int) + (q : Int) = (p : Int) := by omega
          have hp16 : p < 16 := by omega
          have hp1 : (p : Int) < 16 := by omega
          have HP : Hid (p = 4 + k / 4) := Lib.hid (by omega)
          clear hp hq
          have hal : (accS startS 4 key k).length = 16 := by rw [accS_length]; rfl
          have c0 := hI.1.word (i := p) (by omega)
          have f0 := hI.1.frozen p
          have HI := Lib.hid hI; clear hI
          go_wp2_with fail
          go_roundw
          case rel =>
            refine ⟨k + 1, by omega, by go_num, ?_, HI.out.2.1.other (by show g ≠ g + 3; omega) _, HI.out.2.2.1.other (by show g + 1 ≠ g + 3; omega) _, HI.out.2.2.2.1.other (by show g + 2 ≠ g + 3; omega) _, HI.out.2.2.2.2.setCell (p := ⟨g + 3, p, none⟩) (by show g ≤ g + 3; omega) _⟩
            rw [accS, ← HP.out, ← HR.out, ← HBb.out]
            exact HI.out.1.word_store _ _
          case measure => simp [intOf]; omega
    · obtain rfl : k = 32 := by omega
      have HI := Lib.hid hI; clear hI
      have hacc := (accS_setW startS 4 key 8 (by decide) (fun j h1 h2 => start_zero j (by omega) h1)).1
      obtain ⟨s1, hs1⟩ : ∃ s1, s1 = (setW startS 4 key 8).set 12 n := ⟨_, rfl⟩
      have hs1l : s1.length = 16 := by rw [hs1, List.length_set, setW_length]; rfl
      have HS1 : Hid (s1 = (accS startS 4 key 32).set 12 n) := Lib.hid (by rw [hs1, ← hacc])
      have HS2 := Lib.hid hs1
      clear hs1 hacc
      have c0 := HI.out.1.word (i := 12) (by rw [accS_length]; decide)
      have f0 := HI.out.1.frozen 12
      go_wp2_with fail
      have HI1 : Hid (Blk (wr.setCell ⟨g + 3, 12, none⟩ (.int .u32 (n.toNat : Int))) (g + 3) 76 (wvs (accS s1 13 nonce 0)) ∧ Blk (wr.setCell ⟨g + 3, 12, none⟩ (.int .u32 (n.toNat : Int))) (g + 1) 48 (bvs nonce) ∧ Blk (wr.setCell ⟨g + 3, 12, none⟩ (.int .u32 (n.toNat : Int))) (g + 2) 65 (bvs (List.replicate 64 0)) ∧ Below g w (wr.setCell ⟨g + 3, 12, none⟩ (.int .u32 (n.toNat : Int)))) := by
        refine Lib.hid ⟨?_, HI.out.2.2.1.other (by show g + 1 ≠ g + 3; omega) _, HI.out.2.2.2.1.other (by show g + 2 ≠ g + 3; omega) _, HI.out.2.2.2.2.setCell (p := ⟨g + 3, 12, none⟩) (by show g ≤ g + 3; omega) _⟩
        rw [accS, HS1.out]
        exact HI.out.1.word_store _ _
      clear c0 f0 HI
      generalize wr.setCell ⟨g + 3, 12, none⟩ (.int .u32 (n.toNat : Int)) = w6 at *
      rw [show ((32 : Nat) : Int) = 32 from rfl]
      go_loopw [11] (fun i wr => ∃ k : Nat, k ≤ 12 ∧ i = .int .i64 k ∧ Blk wr (g + 3) 76 (wvs (accS s1 13 nonce k)) ∧ Blk wr (g + 1) 48 (bvs nonce) ∧ Blk wr (g + 2) 65 (bvs (List.replicate 64 0)) ∧ Below g w wr) (fun i _ => 12 - (intOf i).toNat)
      case atStart => exact ⟨0, by omega, rfl, HI1.out⟩
      case round =>
        clear HI1
        obtain ⟨k, hk12, rfl, hI⟩ := hrel
        by_cases hlt : k < 12
        · have d0 := hI.2.1.byte (i := k) (by omega)
          have HI := Lib.hid hI; clear hI
          obtain ⟨b, hb⟩ : ∃ b, b = at8 nonce k := ⟨_, rfl⟩
          have HBb := Lib.hid hb
          rw [← hb] at d0
          clear hb
          have hbl := b.toNat_lt
          obtain ⟨r, hr⟩ : ∃ r, r = k % 4 := ⟨_, rfl⟩
          have hr4 : r < 4 := by omega
          have hkr : (k : Int) % 4 = (r : Int) := by omega
          have HR := Lib.hid hr
          clear hr
          go_wp2_with fail
          have e0 : (b.toNat : Int) = ((sh8 b (8 * 0)).toNat : Int) := by rw [sh8_toNat _ (by omega)]; omega
          rw [e0]
          clear e0
          go_loopw [12, 13] (fun x j wr => ∃ m : Nat, m ≤ r ∧ x = .int .u32 (sh8 b (8 * m)).toNat ∧ j = .int .i64 m ∧ Blk wr (g + 3) 76 (wvs (accS s1 13 nonce k)) ∧ Blk wr (g + 1) 48 (bvs nonce) ∧ Blk wr (g + 2) 65 (bvs (List.replicate 64 0)) ∧ Below g w wr) (fun _ j _ => r - (intOf j).toNat)
          case atStart => exact ⟨0, by omega, rfl, rfl, HI.out⟩
          case round =>
            clear HI d0
            obtain ⟨m, hmr, rfl, rfl, hI⟩ := hrel
            by_cases hlt2 : m < r
            · have HS := Lib.hid (sh8_step b (show m < 3 by omega))
              have hlt2' : (m : Int) < (r : Int) := by omega
              have HI := Lib.hid hI; clear hI
              go_wp2_with fail
              rw [HS.out]
              go_roundw
              case rel => exact ⟨m + 1, by omega, rfl, by go_num, HI.out⟩
              case measure => simp [intOf]; omega
            · obtain rfl : m = r := by omega
              obtain ⟨q, hq⟩ : ∃ q, q = k / 4 := ⟨_, rfl⟩
              have hkq : (k : Int) / 4 = (q : Int) := by omega
              obtain ⟨p, hp⟩ : ∃ p, p = 13 + q := ⟨_, rfl⟩
              have hqp : (13 : Int) + (q : Int) = (p : Int) := by omega
              have hp16 : p < 16 := by omega
              have hp1 : (p : Int) < 16 := by omega
              have HP : Hid (p = 13 + k / 4) := Lib.hid (by omega)
              clear hp hq
              have hal : (accS s1 13 nonce k).length = 16 := by rw [accS_length]; exact hs1l
              have c0 := hI.1.word (i := p) (by omega)
              have f0 := hI.1.frozen p
              have HI := Lib.hid hI; clear hI
              go_wp2_with fail
              go_roundw
              case rel =>
                refine ⟨k + 1, by omega, by go_num, ?_, HI.out.2.1.other (by show g + 1 ≠ g + 3; omega) _, HI.out.2.2.1.other (by show g + 2 ≠ g + 3; omega) _, HI.out.2.2.2.setCell (p := ⟨g + 3, p, none⟩) (by show g ≤ g + 3; omega) _⟩
                rw [accS, ← HP.out, ← HR.out, ← HBb.out]
                exact HI.out.1.word_store _ _
              case measure => simp [intOf]; omega
        · obtain rfl : k = 12 := by omega
          obtain ⟨z, hf⟩ : ∃ z, z = beginS key nonce n := ⟨_, rfl⟩
          have hfl : z.length = 16 := by rw [hf]; exact beginS_length _ _ _
          have hfz : (wvs z).size = 16 := by rw [wvs_size]; exact hfl
          rw [HS2.out, accS_nonce, ← hf] at hI
          have HF := Lib.hid hf
          have HI := Lib.hid hI; clear hI hf
          go_wp2_with (first
            | (refine wpList_load_blk rfl 76 (.tmp 7) rfl (g + 3) 76 (wvs z) rfl HI.out.1 Tryd.underlying76 rfl (by rw [hfz]; kernel_rfl) ?_)
            | (refine wpList_store_blk rfl 76 (.tmp 14) (.tmp 73) rfl wr.heap.size 76 _ (wvs z) rfl rfl (Blk.new _ _ _) (by rw [hfz]; rfl) (by rw [hfz]; kernel_rfl) (wvs_all1 _) ?_
               intro w7 hb7 hg7 hz7
               have HI7 : Hid (∃ x, x = wr.heap.size ∧ g + 3 < x ∧ Blk w7 x 76 (wvs z) ∧ Blk w7 (g + 3) 76 (wvs z) ∧ Blk w7 (g + 2) 65 (bvs (List.replicate 64 0)) ∧ Below g w w7) := by
                 have h1 := HI.out.1.lt
                 exact Lib.hid ⟨_, rfl, h1, hb7, (HI.out.1.alloc _).grown hg7 (by intro h; injection h with h; omega), (HI.out.2.2.1.alloc _).grown hg7 (by intro h; injection h with h; omega), (HI.out.2.2.2.alloc (by omega) _).grown hg7 (by simp; omega) (by intro k hk; injection hk with hk; omega)⟩
               clear hb7 hg7 hz7 HI))
          obtain ⟨x, hx, hgx, hI⟩ := HI7.out
          rw [← hx]
          have HI := Lib.hid hI
          clear HI7 hI hx
          go_loopw [15] (fun i wr => ∃ t : Nat, t ≤ 10 ∧ i = .int .i64 t ∧ Blk wr x 76 (wvs (turnsS z t)) ∧ Blk wr (g + 3) 76 (wvs z) ∧ Blk wr (g + 2) 65 (bvs (List.replicate 64 0)) ∧ Below g w wr) (fun i _ => 10 - (intOf i).toNat)
          case atStart => exact ⟨0, by omega, rfl, HI.out⟩
          case round =>
            clear HI
            obtain ⟨t, ht, rfl, hI⟩ := hrel
            by_cases hlt : t < 10
            · have HI := Lib.hid hI; clear hI
              go_wp2_with fail
              rw [show decide ((t : Int) < 10) = true from decide_eq_true (by omega)]
              go_loopw [16] (fun i wr => ∃ k : Nat, k ≤ 4 ∧ i = .int .i64 k ∧ Blk wr x 76 (wvs (someQ (turnsS z t) k)) ∧ Blk wr (g + 3) 76 (wvs z) ∧ Blk wr (g + 2) 65 (bvs (List.replicate 64 0)) ∧ Below g w wr) (fun i _ => 4 - (intOf i).toNat)
              case atStart => exact ⟨0, by omega, rfl, HI.out⟩
              case round =>
                clear HI
                obtain ⟨k, hk4, rfl, hI⟩ := hrel
                by_cases hlt2 : k < 4
                · have HI := Lib.hid hI; clear hI
                  obtain ⟨s, hs⟩ : ∃ s, s = someQ (turnsS z t) k := ⟨_, rfl⟩
                  have hsl : s.length = 16 := by rw [hs, someQ_length, turnsS_length]; exact hfl
                  have hsz2 : (wvs s).size = 16 := by rw [wvs_size]; exact hsl
                  obtain ⟨s', hs'⟩ : ∃ s', s' = someQ (turnsS z t) (k + 1) := ⟨_, rfl⟩
                  have hsl' : s'.length = 16 := by rw [hs', someQ_length, turnsS_length]; exact hfl
                  have hsz3 : (wvs s').size = 16 := by rw [wvs_size]; exact hsl'
                  have hpl : plK k = (k, 4 + k, 8 + k, 12 + k) := (by decide : ∀ k, k < 4 → plK k = (k, 4 + k, 8 + k, 12 + k)) k hlt2
                  have hq := laid_quarter s hsl k (by omega)
                  have hsq : laidS s k (4 + k) (8 + k) (12 + k) = s' := by
                    rw [hpl] at hq
                    rw [hq, hs', someQ_succ _ (plK_at k (by omega)), hpl, ← hs]
                  rw [← hs] at HI
                  have HSQ := Lib.hid hsq
                  have HS' := Lib.hid hs'
                  clear hs hs' hpl hq hsq
                  obtain ⟨p4, hp4⟩ : ∃ p, p = 4 + k := ⟨_, rfl⟩
                  obtain ⟨p8, hp8⟩ : ∃ p, p = 8 + k := ⟨_, rfl⟩
                  obtain ⟨p12, hp12⟩ : ∃ p, p = 12 + k := ⟨_, rfl⟩
                  have e4 : (4 : Int) + (k : Int) = (p4 : Int) := by omega
                  have e8 : (8 : Int) + (k : Int) = (p8 : Int) := by omega
                  have e12 : (12 : Int) + (k : Int) = (p12 : Int) := by omega
                  rw [← hp4, ← hp8, ← hp12] at HSQ
                  have HP := Lib.hid (And.intro hp4 (And.intro hp8 hp12))
                  clear hp4 hp8 hp12
                  go_wp2_with (first
                    | (go_at_call 47
                       have h4 := HP.out.1
                       have h8 := HP.out.2.1
                       have h12 := HP.out.2.2
                       refine (laid_any s k p4 p8 p12 wr hsl (by omega) (by omega) (by omega) (by omega) (by omega) (by omega) (by omega) (by omega) (by omega) (by omega)).mono ?_
                       rintro e w8 ⟨rfl, hb8⟩
                       rw [HSQ.out]
                       have HI8 : Hid (Blk w8 x 76 (wvs s) ∧ Blk w8 (g + 3) 76 (wvs z) ∧ Blk w8 (g + 2) 65 (bvs (List.replicate 64 0)) ∧ Below g w w8) := Lib.hid ⟨HI.out.1.below hb8 HI.out.1.lt, HI.out.2.1.below hb8 HI.out.2.1.lt, HI.out.2.2.1.below hb8 HI.out.2.2.1.lt, HI.out.2.2.2.trans (hb8.mono (by have := HI.out.1.lt; omega))⟩
                       clear hb8 h4 h8 h12 HI)
                    | (refine wpList_load_blk rfl 76 (.tmp 14) rfl x 76 (wvs s) rfl HI.out.1 Tryd.underlying76 rfl (by rw [hsz2]; kernel_rfl) ?_)
                    | (refine wpList_store_blk rfl 76 (.tmp 14) (.tmp 90) rfl x 76 _ (wvs s') rfl rfl HI8.out.1 (by rw [hsz3, hsz2]) (by rw [hsz3]; kernel_rfl) (wvs_all1 _) ?_
                       intro w9 hb9 hg9 hz9
                       have HI9 : Hid (Blk w9 x 76 (wvs s') ∧ Blk w9 (g + 3) 76 (wvs z) ∧ Blk w9 (g + 2) 65 (bvs (List.replicate 64 0)) ∧ Below g w w9) := Lib.hid ⟨hb9, HI8.out.2.1.grown hg9 (by intro h; injection h with h; omega), HI8.out.2.2.1.grown hg9 (by intro h; injection h with h; omega), HI8.out.2.2.2.grown hg9 (by have := HI8.out.1.lt; omega) (by intro k hk; injection hk with hk; omega)⟩
                       clear hb9 hg9 hz9 HI8))
                  go_roundw
                  case rel => exact ⟨k + 1, by omega, by go_num, by rw [← HS'.out]; exact HI9.out⟩
                  case measure => simp [intOf]; omega
                · obtain rfl : k = 4 := by omega
                  have HI := Lib.hid hI; clear hI
                  go_wp2_with fail
                  rw [show ((4 : Nat) : Int) = 4 from rfl]
                  go_loopw [17] (fun i wr => ∃ k : Nat, k ≤ 4 ∧ i = .int .i64 k ∧ Blk wr x 76 (wvs (someQ (turnsS z t) (4 + k))) ∧ Blk wr (g + 3) 76 (wvs z) ∧ Blk wr (g + 2) 65 (bvs (List.replicate 64 0)) ∧ Below g w wr) (fun i _ => 4 - (intOf i).toNat)
                  case atStart => exact ⟨0, by omega, rfl, HI.out⟩
                  case round =>
                    clear HI
                    obtain ⟨k, hk4, rfl, hI⟩ := hrel
                    by_cases hlt2 : k < 4
                    · have HI := Lib.hid hI; clear hI
                      obtain ⟨s, hs⟩ : ∃ s, s = someQ (turnsS z t) (4 + k) := ⟨_, rfl⟩
                      have hsl : s.length = 16 := by rw [hs, someQ_length, turnsS_length]; exact hfl
                      have hsz2 : (wvs s).size = 16 := by rw [wvs_size]; exact hsl
                      obtain ⟨s', hs'⟩ : ∃ s', s' = someQ (turnsS z t) (4 + k + 1) := ⟨_, rfl⟩
                      have hsl' : s'.length = 16 := by rw [hs', someQ_length, turnsS_length]; exact hfl
                      have hsz3 : (wvs s').size = 16 := by rw [wvs_size]; exact hsl'
                      have hpl : plK (4 + k) = (k, 4 + (k + 1) % 4, 8 + (k + 2) % 4, 12 + (k + 3) % 4) := (by decide : ∀ k, k < 4 → plK (4 + k) = (k, 4 + (k + 1) % 4, 8 + (k + 2) % 4, 12 + (k + 3) % 4)) k hlt2
                      have hq := laid_quarter s hsl (4 + k) (by omega)
                      have hsq : laidS s k (4 + (k + 1) % 4) (8 + (k + 2) % 4) (12 + (k + 3) % 4) = s' := by
                        rw [hpl] at hq
                        rw [hq, hs', someQ_succ _ (plK_at (4 + k) (by omega)), hpl, ← hs]
                      rw [← hs] at HI
                      have HSQ := Lib.hid hsq
                      have HS' := Lib.hid hs'
                      clear hs hs' hpl hq hsq
                      obtain ⟨r1, hr1⟩ : ∃ r, r = (k + 1) % 4 := ⟨_, rfl⟩
                      obtain ⟨r2, hr2⟩ : ∃ r, r = (k + 2) % 4 := ⟨_, rfl⟩
                      obtain ⟨r3, hr3⟩ : ∃ r, r = (k + 3) % 4 := ⟨_, rfl⟩
                      rw [← hr1, ← hr2, ← hr3] at HSQ
                      obtain ⟨p4, hp4⟩ : ∃ p, p = 4 + r1 := ⟨_, rfl⟩
                      obtain ⟨p8, hp8⟩ : ∃ p, p = 8 + r2 := ⟨_, rfl⟩
                      obtain ⟨p12, hp12⟩ : ∃ p, p = 12 + r3 := ⟨_, rfl⟩
                      have e1 : ((k : Int) + 1) % 4 = (r1 : Int) := by omega
                      have e2 : ((k : Int) + 2) % 4 = (r2 : Int) := by omega
                      have e3 : ((k : Int) + 3) % 4 = (r3 : Int) := by omega
                      have e4 : (4 : Int) + (r1 : Int) = (p4 : Int) := by omega
                      have e8 : (8 : Int) + (r2 : Int) = (p8 : Int) := by omega
                      have e12 : (12 : Int) + (r3 : Int) = (p12 : Int) := by omega
                      have hrl1 : r1 < 4 := by omega
                      have hrl2 : r2 < 4 := by omega
                      have hrl3 : r3 < 4 := by omega
                      rw [← hp4, ← hp8, ← hp12] at HSQ
                      clear hr1 hr2 hr3
                      have HP := Lib.hid (And.intro hp4 (And.intro hp8 hp12))
                      clear hp4 hp8 hp12
                      go_wp2_with (first
                        | (go_at_call 47
                           have h4 := HP.out.1
                           have h8 := HP.out.2.1
                           have h12 := HP.out.2.2
                           refine (laid_any s k p4 p8 p12 wr hsl (by omega) (by omega) (by omega) (by omega) (by omega) (by omega) (by omega) (by omega) (by omega) (by omega)).mono ?_
                           rintro e w8 ⟨rfl, hb8⟩
                           rw [HSQ.out]
                           have HI8 : Hid (Blk w8 x 76 (wvs s) ∧ Blk w8 (g + 3) 76 (wvs z) ∧ Blk w8 (g + 2) 65 (bvs (List.replicate 64 0)) ∧ Below g w w8) := Lib.hid ⟨HI.out.1.below hb8 HI.out.1.lt, HI.out.2.1.below hb8 HI.out.2.1.lt, HI.out.2.2.1.below hb8 HI.out.2.2.1.lt, HI.out.2.2.2.trans (hb8.mono (by have := HI.out.1.lt; omega))⟩
                           clear hb8 h4 h8 h12 HI)
                        | (refine wpList_load_blk rfl 76 (.tmp 14) rfl x 76 (wvs s) rfl HI.out.1 Tryd.underlying76 rfl (by rw [hsz2]; kernel_rfl) ?_)
                        | (refine wpList_store_blk rfl 76 (.tmp 14) (.tmp 109) rfl x 76 _ (wvs s') rfl rfl HI8.out.1 (by rw [hsz3, hsz2]) (by rw [hsz3]; kernel_rfl) (wvs_all1 _) ?_
                           intro w9 hb9 hg9 hz9
                           have HI9 : Hid (Blk w9 x 76 (wvs s') ∧ Blk w9 (g + 3) 76 (wvs z) ∧ Blk w9 (g + 2) 65 (bvs (List.replicate 64 0)) ∧ Below g w w9) := Lib.hid ⟨hb9, HI8.out.2.1.grown hg9 (by intro h; injection h with h; omega), HI8.out.2.2.1.grown hg9 (by intro h; injection h with h; omega), HI8.out.2.2.2.grown hg9 (by have := HI8.out.1.lt; omega) (by intro k hk; injection hk with hk; omega)⟩
                           clear hb9 hg9 hz9 HI8))
                      go_roundw
                      case rel => exact ⟨k + 1, by omega, by go_num, by rw [← Nat.add_assoc, ← HS'.out]; exact HI9.out⟩
                      case measure => simp [intOf]; omega
                    · obtain rfl : k = 4 := by omega
                      have HI := Lib.hid hI; clear hI
                      go_wp2_with fail
                      go_roundw
                      case rel => exact ⟨t + 1, by omega, by go_num, HI.out⟩
                      case measure => simp [intOf]; omega
            · obtain rfl : t = 10 := by omega
              obtain ⟨s, hs⟩ : ∃ s, s = turnsS z 10 := ⟨_, rfl⟩
              have hsl : s.length = 16 := by rw [hs, turnsS_length]; exact hfl
              have HS := Lib.hid hs
              rw [← hs] at hI
              have HI := Lib.hid hI; clear hI hs
              go_wp2_with fail
              rw [show ((10 : Nat) : Int) = 10 from rfl]
              refine wp_abs (fun W => ∃ y, y = wr.heap.size ∧ x < y ∧ g + 3 < y ∧ Blk W y 65 (bvs (outQ s z 0)) ∧ Blk W x 76 (wvs s) ∧ Blk W (g + 3) 76 (wvs z) ∧ Blk W (g + 2) 65 (bvs (List.replicate 64 0)) ∧ Below g w W) ⟨_, rfl, HI.out.1.lt, HI.out.2.1.lt, ?_, HI.out.1.alloc _, HI.out.2.1.alloc _, HI.out.2.2.1.alloc _, HI.out.2.2.2.alloc (by have := HI.out.1.lt; omega) _⟩ ?_
              · rw [outQ_zero]
                exact Blk.new _ _ _
              rintro W0 ⟨y, hy, hxy, hgy, hI0⟩
              rw [← hy]
              have HI0 := Lib.hid hI0
              clear HI hI0 hy
              go_loopw [19] (fun i wr => ∃ k : Nat, k ≤ 64 ∧ i = .int .i64 k ∧ Blk wr y 65 (bvs (outQ s z k)) ∧ Blk wr x 76 (wvs s) ∧ Blk wr (g + 3) 76 (wvs z) ∧ Blk wr (g + 2) 65 (bvs (List.replicate 64 0)) ∧ Below g w wr) (fun i _ => 64 - (intOf i).toNat)
              case atStart => exact ⟨0, by omega, rfl, HI0.out⟩
              case round =>
                clear HI0
                obtain ⟨k, hk64, rfl, hI⟩ := hrel
                by_cases hlt3 : k < 64
                · have HI := Lib.hid hI; clear hI
                  go_wp2_with fail
                  obtain ⟨q, hq⟩ : ∃ q, q = k / 4 := ⟨_, rfl⟩
                  have hkq : (k : Int) / 4 = (q : Int) := by omega
                  have hkq2 : (k : Int).tdiv 4 = (q : Int) := by rw [Int.tdiv_eq_ediv_of_nonneg (by omega)]; omega
                  have hq16 : (q : Int) < 16 := by omega
                  have hqn : q < 16 := by omega
                  obtain ⟨r, hr⟩ : ∃ r, r = k % 4 := ⟨_, rfl⟩
                  have hkr : (k : Int) % 4 = (r : Int) := by omega
                  have hr4 : r < 4 := by omega
                  have HQR := Lib.hid (And.intro hq hr)
                  clear hq hr
                  obtain ⟨X, hX⟩ : ∃ X, X = add32 (at32 s q) (at32 z q) := ⟨_, rfl⟩
                  have HX := Lib.hid hX
                  refine wp_region_as (ys := [.eq (.int .i64 (k : Int)), .eq (.int .i64 (q : Int)), .eq (.pointer (some ⟨x, q, none⟩)), .eq (.int .u32 (at32 s q).toNat), .eq (.int .i64 (k : Int)), .eq (.int .i64 (q : Int)), .eq (.pointer (some ⟨g + 3, q, none⟩)), .eq (.int .u32 (at32 z q).toNat), .eq (.int .u32 X.toNat), .eq (.int .u32 X.toNat)]) (by kernel_rfl) (by kernel_rfl) (by kernel_rfl) (by kernel_rfl) rfl _ (fun f => by simp only [framedL, Act.put, List.setIfInBounds_toArray, List.set_cons_zero, List.set_cons_succ, Nat.reduceAdd]; rfl) ⟨?_, ?_, ?_, ?_, ?_, ?_, ?_, ?_, ?_, ?_, trivial⟩ ?_
                  · refine oweAs_pure ((.int .i64 (k : Int))) rfl (fun f W hE hd => ?_) (fun W hE => rfl)
                    go_simp
                  · refine oweAs_pure ((.int .i64 (q : Int))) rfl (fun f W hE hd => ?_) (fun W hE => rfl)
                    simp only [DepAs, Region.binds, asAt, As.holds, and_true, forall_const] at hd
                    have hwq : IntKind.i64.wrap (q : Int) = (q : Int) := IntWalk.i64_in _ (by omega)
                    go_simp
                  · refine oweAs_pure ((.pointer (some ⟨x, q, none⟩))) rfl (fun f W hE hd => ?_) (fun W hE => rfl)
                    simp only [DepAs, Region.binds, asAt, As.holds, and_true, forall_const] at hd
                    go_simp
                  · refine oweAs_pure ((.int .u32 (at32 s q).toNat)) rfl (fun f W hE hd => ?_) (fun W hE => rfl)
                    simp only [DepAs, Region.binds, asAt, As.holds, and_true, forall_const] at hd
                    have c0 := ((HI.out.2.1).below hE (HI.out.2.1).lt).word (i := q) (by omega)
                    go_simp
                  · refine oweAs_pure ((.int .i64 (k : Int))) rfl (fun f W hE hd => ?_) (fun W hE => rfl)
                    go_simp
                  · refine oweAs_pure ((.int .i64 (q : Int))) rfl (fun f W hE hd => ?_) (fun W hE => rfl)
                    simp only [DepAs, Region.binds, asAt, As.holds, and_true, forall_const] at hd
                    have hwq : IntKind.i64.wrap (q : Int) = (q : Int) := IntWalk.i64_in _ (by omega)
                    go_simp
                  · refine oweAs_pure ((.pointer (some ⟨g + 3, q, none⟩))) rfl (fun f W hE hd => ?_) (fun W hE => rfl)
                    simp only [DepAs, Region.binds, asAt, As.holds, and_true, forall_const] at hd
                    go_simp
                  · refine oweAs_pure ((.int .u32 (at32 z q).toNat)) rfl (fun f W hE hd => ?_) (fun W hE => rfl)
                    simp only [DepAs, Region.binds, asAt, As.holds, and_true, forall_const] at hd
                    have c0 := ((HI.out.2.2.1).below hE (HI.out.2.2.1).lt).word (i := q) (by omega)
                    go_simp
                  · refine oweAs_pure ((.int .u32 X.toNat)) rfl (fun f W hE hd => ?_) (fun W hE => rfl)
                    simp only [DepAs, Region.binds, asAt, As.holds, and_true, forall_const] at hd
                    rw [HX.out]
                    go_simp
                  · refine oweAs_pure ((.int .u32 X.toNat)) rfl (fun f W hE hd => ?_) (fun W hE => rfl)
                    simp only [DepAs, Region.binds, asAt, As.holds, and_true, forall_const] at hd
                    rw [HX.out]
                    go_simp
                  intro f W hE hA
                  simp only [AllAs, As.holds, Nat.reduceAdd] at hA
                  obtain ⟨-, -, -, -, -, -, -, -, -, hA9, -⟩ := hA
                  rw [hA9]
                  clear hA9 hX
                  have HI1 : Hid (Blk W y 65 (bvs (outQ s z k)) ∧ Blk W x 76 (wvs s) ∧ Blk W (g + 3) 76 (wvs z) ∧ Blk W (g + 2) 65 (bvs (List.replicate 64 0)) ∧ Below g w W) := Lib.hid ⟨HI.out.1.below hE HI.out.1.lt, HI.out.2.1.below hE HI.out.2.1.lt, HI.out.2.2.1.below hE HI.out.2.2.1.lt, HI.out.2.2.2.1.below hE HI.out.2.2.2.1.lt, HI.out.2.2.2.2.trans (hE.mono (by have := HI.out.1.lt; omega))⟩
                  clear hE HI
                  go_wp2_with fail
                  have e0 : (X.toNat : Int) = ((X.toNat / 256 ^ 0 : Nat) : Int) := by simp
                  rw [e0]
                  clear e0
                  go_loopw [20, 21] (fun v j wr => ∃ m : Nat, m ≤ r ∧ v = .int .u32 ((X.toNat / 256 ^ m : Nat) : Int) ∧ j = .int .i64 m ∧ Blk wr y 65 (bvs (outQ s z k)) ∧ Blk wr x 76 (wvs s) ∧ Blk wr (g + 3) 76 (wvs z) ∧ Blk wr (g + 2) 65 (bvs (List.replicate 64 0)) ∧ Below g w wr) (fun _ j _ => r - (intOf j).toNat)
                  case atStart => exact ⟨0, by omega, rfl, rfl, HI1.out⟩
                  case round =>
                    clear HI1
                    obtain ⟨m, hmr, rfl, rfl, hI⟩ := hrel
                    obtain ⟨a, ha⟩ : ∃ a, a = X.toNat / 256 ^ m := ⟨_, rfl⟩
                    have hal : a < 4294967296 := by rw [ha]; exact Nat.lt_of_le_of_lt (Nat.div_le_self _ _) X.toNat_lt
                    have ha1 : X.toNat / 256 ^ (m + 1) = a / 256 := by rw [ha, Nat.pow_succ, Nat.div_div_eq_div_mul]
                    have HA1 := Lib.hid ha1
                    have HA := Lib.hid ha
                    rw [← ha]
                    clear ha ha1
                    by_cases hlt4 : m < r
                    · have hlt4' : (m : Int) < (r : Int) := by omega
                      have HI := Lib.hid hI; clear hI
                      go_wp2_with fail
                      go_roundw
                      case rel => exact ⟨m + 1, by omega, by rw [HA1.out]; first | rfl | simp, by go_num, HI.out⟩
                      case measure => simp [intOf]; omega
                    · obtain rfl : m = r := by omega
                      have hv : (a : Int) % 256 = ((byteS s z k).toNat : Int) := by
                        unfold byteS
                        rw [UInt8.toNat_ofNat', ← HQR.out.1, ← HQR.out.2, ← HX.out, ← HA.out]; omega
                      have HV := Lib.hid hv
                      clear hv
                      have c0 := hI.1.byte (i := k) (by rw [outQ_length]; exact hlt3)
                      have f0 := hI.1.frozen k
                      have HI := Lib.hid hI; clear hI
                      go_wp2_with fail
                      rw [HV.out]
                      go_roundw
                      case rel =>
                        refine ⟨k + 1, by omega, by go_num, ?_, HI.out.2.1.other (by show x ≠ y; omega) _, HI.out.2.2.1.other (by show g + 3 ≠ y; omega) _, HI.out.2.2.2.1.other (by show g + 2 ≠ y; omega) _, HI.out.2.2.2.2.setCell (p := ⟨y, k, none⟩) (by show g ≤ y; omega) _⟩
                        rw [← outQ_set s z hlt3]
                        exact HI.out.1.byte_store _ _
                      case measure => simp [intOf]; omega
                · obtain rfl : k = 64 := by omega
                  have HI := Lib.hid hI; clear hI
                  obtain ⟨m, hm⟩ : ∃ m, m = outQ s z 64 := ⟨_, rfl⟩
                  have hml : m.length = 64 := by rw [hm]; exact outQ_length _ _ _
                  have hmz : (bvs m).size = 64 := by rw [bvs_size]; exact hml
                  have HM : Hid (m = partS key nonce n) := Lib.hid (by
                    rw [hm, HS.out, HF.out]
                    apply List.map_congr_left
                    intro i hi
                    rw [if_pos (by simpa using hi)])
                  rw [← hm] at HI
                  clear hm
                  go_wp2_with (first
                    | (refine wpList_load_blk rfl 65 (.tmp 18) rfl y 65 (bvs m) rfl HI.out.1 Tryd.underlying65 rfl (by rw [hmz]; kernel_rfl) ?_)
                    | (refine wpList_store_blk rfl 65 (.tmp 6) (.tmp 135) rfl (g + 2) 65 _ (bvs m) rfl rfl HI.out.2.2.2.1 (by rw [hmz]; rfl) (by rw [hmz]; kernel_rfl) (bvs_one _) ?_
                       intro w7 hb7 hg7 hz7))
                  refine bodyPost_ret (results_cell Tryd.results35 rfl (t := 65) (g := g + 2) (cs := bvs m) hb7 Tryd.underlying65 rfl (by rw [hmz]; kernel_rfl)) rfl ⟨by rw [HM.out], ?_⟩
                  rw [← HG.out]
                  exact HI.out.2.2.2.2.grown hg7 (by have := HI.out.2.2.2.1.lt; omega) (by intro k hk; injection hk with hk; omega)
end Go.Proofs.YtbicdobnnanlkaaDoor
