/-
  The walk of the law SessionOrder.
-/
import Derived.Test.YtlkhbfafednegaaDoorSn6
import Derived.Test.YtlkhbfafednegaaDoorRw
import Derived.Test.YtlkhbfafednegaaDoorRonceL
namespace Go.Proofs.YtlkhbfafednegaaDoor
open Go Go.RowKit
set_option linter.unusedSimpArgs false
set_option linter.unusedVariables false

theorem blk_ne {w : World} {g g' : Nat} {t t' : TypeId} {cs cs' : Array Value} (h : Blk w g t cs) (h' : Blk w g' t' cs') (ht : t ≠ t') : g ≠ g' := by
  rintro rfl
  have e1 : w.heap[g]? = some (.cells cs t (0, 0)) := h
  have e2 : w.heap[g]? = some (.cells cs' t' (0, 0)) := h'
  rw [e1] at e2; injection e2 with e2; injection e2 with _ e2; exact ht e2
/-- the first frames that are sent -/
def frsG (dk : List UInt8) (ls : List (List UInt8)) (i : Nat) : List (List UInt8) := (List.range i).map fun j => frameG dk (j + 1) 3 9 (ls.getD j [])
theorem frsG_succ {dk : List UInt8} {ls : List (List UInt8)} {i : Nat} {l : List UInt8} (h : ls[i]? = some l) : frsG dk ls (i + 1) = frsG dk ls i ++ [frameG dk (i + 1) 3 9 l] := by
  unfold frsG
  rw [List.range_succ, List.map_append]
  simp [List.getD, h]
theorem frsG_at {dk : List UInt8} {ls : List (List UInt8)} {i k : Nat} {l : List UInt8} (hk : k < i) (h : ls[k]? = some l) : (frsG dk ls i)[k]? = some (frameG dk (k + 1) 3 9 l) := by
  unfold frsG
  rw [List.getElem?_map, List.getElem?_range hk]
  simp [List.getD, h]
/-- whose turn it is -/
def turnG (n turn : Nat) (st : Bool) (i : Nat) : Nat := if st = true then n - 1 - (i + turn) % n else (i + turn) % n
theorem turnG_lt {n turn i : Nat} {st : Bool} (hn : 0 < n) : turnG n turn st i < n := by
  have := Nat.mod_lt (i + turn) hn
  unfold turnG; split <;> omega
theorem mod_inj {n turn i j : Nat} (hi : i < n) (hj : j < n) (h : (i + turn) % n = (j + turn) % n) : i = j := by
  have h1 := Nat.div_add_mod (i + turn) n
  have h2 := Nat.div_add_mod (j + turn) n
  rw [h] at h1
  rcases Nat.lt_trichotomy ((i + turn) / n) ((j + turn) / n) with hd | hd | hd
  · have h3 : n * ((i + turn) / n) + n ≤ n * ((j + turn) / n) := by rw [← Nat.mul_succ]; exact Nat.mul_le_mul_left n hd
    omega
  · rw [hd] at h1; omega
  · have h3 : n * ((j + turn) / n) + n ≤ n * ((i + turn) / n) := by rw [← Nat.mul_succ]; exact Nat.mul_le_mul_left n hd
    omega
theorem turnG_inj {n turn i j : Nat} {st : Bool} (hi : i < n) (hj : j < n) (h : turnG n turn st i = turnG n turn st j) : i = j := by
  have a := Nat.mod_lt (i + turn) (show 0 < n by omega)
  have b := Nat.mod_lt (j + turn) (show 0 < n by omega)
  unfold turnG at h
  split at h
  · exact mod_inj (turn := turn) hi hj (by omega)
  · exact mod_inj (turn := turn) hi hj h
/-- the numbers that were taken -/
def tookG (n turn : Nat) (st : Bool) (i : Nat) : List UInt64 := (List.range i).map fun j => UInt64.ofNat (turnG n turn st j + 1)
theorem took_mem {n turn i : Nat} {st : Bool} (x : UInt64) : x ∈ tookG n turn st (i + 1) ↔ x = UInt64.ofNat (turnG n turn st i + 1) ∨ x ∈ tookG n turn st i := by
  unfold tookG
  rw [List.range_succ, List.map_append, List.mem_append, List.map_cons, List.map_nil, List.mem_singleton, Or.comm]
theorem took_new {n turn i : Nat} {st : Bool} {t b : UInt64} (hn : n ≤ 30) (hi : i < n) (h : Held t b (tookG n turn st i)) (ht : t.toNat ≤ 30) : seenF t b (UInt64.ofNat (turnG n turn st i + 1)) = false := by
  have hk := turnG_lt (turn := turn) (i := i) (st := st) (show 0 < n by omega)
  have hv : (UInt64.ofNat (turnG n turn st i + 1)).toNat = turnG n turn st i + 1 := u64_lift (by omega)
  rw [held_seen h, Bool.or_eq_false_iff]
  constructor
  · unfold wasB
    rw [Bool.or_eq_false_iff]
    constructor
    · rw [beq_eq_false_iff_ne]; omega
    · have hn2 : UInt64.ofNat (turnG n turn st i + 1) ∉ tookG n turn st i := by
        intro hm
        unfold tookG at hm
        obtain ⟨j, hj, he⟩ := List.mem_map.1 hm
        have hji := List.mem_range.1 hj
        have hk2 := turnG_lt (turn := turn) (i := j) (st := st) (show 0 < n by omega)
        have hv2 : (UInt64.ofNat (turnG n turn st j + 1)).toNat = turnG n turn st j + 1 := u64_lift (by omega)
        have e2 := congrArg UInt64.toNat he
        rw [hv, hv2] at e2
        have := turnG_inj (n := n) (turn := turn) (st := st) (i := j) (j := i) (by omega) hi (by omega)
        omega
      simpa using hn2
  · unfold farB
    rw [decide_eq_false (by omega)]; rfl

set_option maxRecDepth 100000 in
set_option maxHeartbeats 2000000 in
theorem sessionOrder_any (key : List UInt8) (v : Value) (ls : List (List UInt8)) (turn : Nat) (step : UInt8) (w : World) (hT : Tab w) (h0 : 0 < w.heap.size) (hk : key.length = 32) (h : HBs w v ls) (htu : turn < 65536) :
    Calls Tryd.prog 4 #[.agg (bvs key), v, .int .u16 (turn : Int), .int .u8 (step.toNat : Int)] w fun e w' => e = .returned (.bool true) ∧ Below w.heap.size w w' := by
  obtain ⟨ir, hir, hzr, hsr, hbr⟩ := infoRows
  have HIR := Lib.hid hir; clear hir
  have HT : Hid (∀ W, Below w.heap.size w W → Tab W ∧ 0 < W.heap.size) := Lib.hid (fun W hb => ⟨hT.below hb h0, by have := hb.size; omega⟩)
  have hkz : (bvs key).size = 32 := by rw [bvs_size]; exact hk
  obtain ⟨p, cap, rfl, hlc, hcm⟩ := h.form
  have H := Lib.hid h
  obtain ⟨n, hnn⟩ : ∃ n, n = ls.length := ⟨_, rfl⟩
  rw [← hnn] at hlc H ⊢
  have HN := Lib.hid hnn
  unfold maxLen at hcm
  clear h hnn hT
  have hA : Below w.heap.size w (w.alloc (.cells (bvs key) 23)) := (Below.refl _ _).alloc (Nat.le_refl _) _
  have HA := Lib.hid hA
  clear hA
  by_cases hn0 : n = 0
  · have hn0i : (n : Int) = 0 := by omega
    subst hn0
    go_enter Tryd.func4, Tryd.ntmps4
    go_wp2_with fail
    refine (awake19_any _ (HT.out _ HA.out).1 (HT.out _ HA.out).2).mono ?_
    rintro e w1 ⟨rfl, hb1⟩
    have HB1 : Hid (Blk w1 w.heap.size 23 (bvs key) ∧ Below w.heap.size w w1) := Lib.hid ⟨(Blk.new w _ _).below hb1 (Blk.new w _ _).lt, HA.out.trans (hb1.mono (by simp))⟩
    clear hb1
    go_wp2_with fail
    go_ret
    exact ⟨rfl, HB1.out.2⟩
  have hn0i : ¬ (n : Int) = 0 := by omega
  by_cases hn30 : 30 < n
  · have hn30i : (30 : Int) < (n : Int) := by omega
    go_enter Tryd.func4, Tryd.ntmps4
    go_wp2_with fail
    refine (awake19_any _ (HT.out _ HA.out).1 (HT.out _ HA.out).2).mono ?_
    rintro e w1 ⟨rfl, hb1⟩
    have HB1 : Hid (Blk w1 w.heap.size 23 (bvs key) ∧ Below w.heap.size w w1) := Lib.hid ⟨(Blk.new w _ _).below hb1 (Blk.new w _ _).lt, HA.out.trans (hb1.mono (by simp))⟩
    clear hb1
    go_wp2_with fail
    go_ret
    exact ⟨rfl, HB1.out.2⟩
  have hn30i : ¬ (30 : Int) < (n : Int) := by omega
  have hnb0 : ((n : Int) == 0) = false := beq_eq_false_iff_ne.2 hn0i
  obtain ⟨dk, hdk⟩ : ∃ d, d = frameK key := ⟨_, rfl⟩
  have hdl : dk.length = 32 := by rw [hdk]; exact frameK_length _
  have HD := Lib.hid hdk
  clear hdk
  go_enter Tryd.func4, Tryd.ntmps4
  go_wp2_with fail
  refine (awake19_any _ (HT.out _ HA.out).1 (HT.out _ HA.out).2).mono ?_
  rintro e w1 ⟨rfl, hb1⟩
  have HB1 : Hid (Blk w1 w.heap.size 23 (bvs key) ∧ Below w.heap.size w w1) := Lib.hid ⟨(Blk.new w _ _).below hb1 (Blk.new w _ _).lt, HA.out.trans (hb1.mono (by simp))⟩
  clear hb1
  go_wp2_with (refine wpList_load_blk rfl 23 (.tmp 4) rfl w.heap.size 23 (bvs key) rfl HB1.out.1 Tryd.underlying23 rfl (by rw [hkz]; kernel_rfl) ?_)
  refine (sesNew_ok key 3 9 w1 (HT.out _ HB1.out.2).1 (HT.out _ HB1.out.2).2 hk (by unfold fineG; decide)).mono ?_
  rintro e w2 ⟨ga, rfl, hs2, hg2, hb2⟩
  rw [← HD.out] at hs2
  have HI2 : Hid (Ses w2 ga dk ((3 : Nat) : Int) ((9 : Nat) : Int) 0 0 0 ∧ Below w.heap.size w w2 ∧ w.heap.size ≤ ga ∧ Blk w2 w.heap.size 23 (bvs key)) := Lib.hid ⟨hs2, HB1.out.2.trans (hb2.mono HB1.out.2.size), by have := HB1.out.2.size; omega, HB1.out.1.below hb2 HB1.out.1.lt⟩
  clear hs2 hg2 hb2 HB1
  go_wp2_with (refine wpList_load_blk rfl 23 (.tmp 4) rfl w.heap.size 23 (bvs key) rfl HI2.out.2.2.2 Tryd.underlying23 rfl (by rw [hkz]; kernel_rfl) ?_)
  refine (sesNew_ok key 9 3 w2 (HT.out _ HI2.out.2.1).1 (HT.out _ HI2.out.2.1).2 hk (by unfold fineG; decide)).mono ?_
  rintro e w3 ⟨gb, rfl, hs3, hg3, hb3⟩
  rw [← HD.out] at hs3
  have hgg : ga ≠ gb := by have := HI2.out.1.lt; omega
  have hga : w.heap.size ≤ ga := HI2.out.2.2.1
  have hgb : w.heap.size ≤ gb := by have := HI2.out.2.1.size; omega
  have HI3 : Hid (Ses w3 ga dk ((3 : Nat) : Int) ((9 : Nat) : Int) 0 0 0 ∧ Ses w3 gb dk ((9 : Nat) : Int) ((3 : Nat) : Int) 0 0 0 ∧ Below w.heap.size w w3) := Lib.hid ⟨HI2.out.1.below hb3 HI2.out.1.lt, hs3, HI2.out.2.1.trans (hb3.mono HI2.out.2.1.size)⟩
  clear hs3 hg3 hb3 HI2
  go_wp2_with fail
  go_loopw [14, 15] (fun fr i W => ∃ (k : Nat), k ≤ n ∧ i = .int .i64 (k : Int) ∧ RowsB W w.heap.size fr k (frsG dk ls k) ∧ Ses W ga dk ((3 : Nat) : Int) ((9 : Nat) : Int) k 0 0 ∧ Ses W gb dk ((9 : Nat) : Int) ((3 : Nat) : Int) 0 0 0 ∧ Below w.heap.size w W ∧ Hid (∀ (j : Nat) (l : List UInt8), j < k → ls[j]? = some l → l.length ≤ 60)) (fun _ i _ => n - (intOf i).toNat)
  case atStart => exact ⟨0, Nat.zero_le _, rfl, RowsB.nil _ _, HI3.out.1, HI3.out.2.1, HI3.out.2.2, Lib.hid (fun j l hj => absurd hj (Nat.not_lt_zero _))⟩
  case round =>
    clear HI3
    obtain ⟨k, hkn, rfl, hrow, hsa, hsb, hbw, HSH⟩ := hrel
    obtain ⟨A, c, rfl⟩ := hrow.form
    have HI := Lib.hid (And.intro hrow (And.intro hsa (And.intro hsb hbw)))
    have hbz := hbw.size
    clear hrow hsa hsb hbw
    by_cases hlt : k < n
    · obtain ⟨l, hl⟩ : ∃ l, ls[k]? = some l := ⟨_, List.getElem?_eq_getElem (by rw [← HN.out]; exact hlt)⟩
      obtain ⟨b, o, u, rfl, hc, hu⟩ := H.out.at_ hl
      obtain ⟨pu, cu, rfl, hul, hum⟩ := hu.form
      have hc0 := (HI.out.2.2.2.cell (p := ⟨b, o + k, none⟩) (lt_of_cell hc)).trans hc
      have HX := Lib.hid hl
      have HU := Lib.hid hu
      have hki : (k : Int) < (n : Int) := by omega
      have hk0 : ¬ (k : Int) < 0 := by omega
      clear hl hu hc hul hum
      by_cases h60 : (60 : Int) < (l.length : Int)
      · go_wp2_with fail
        go_ret
        exact ⟨rfl, HI.out.2.2.2⟩
      have hl60 : l.length ≤ 60 := by omega
      have HNI : Hid (NotIn (.slice pu l.length cu) ga) := Lib.hid (by
        intro p' n' c' e h
        injection e with e1 e2 e3
        subst e1; subst e2
        obtain ⟨b2, o2, rfl, h2⟩ := HU.out.at_ (at8_get (l := l) (i := 0) h)
        have h3 := lt_of_cell h2
        exact ⟨b2, o2, rfl, by omega⟩)
      go_wp2_with fail
      refine (send_any ga dk 3 9 k 0 0 _ l wr (HT.out _ HI.out.2.2.2).1 (HT.out _ HI.out.2.2.2).2 (by omega) HI.out.2.1 hdl (HU.out.keep HI.out.2.2.2) HNI.out (by omega) (by decide) (by decide) (by omega)).mono ?_
      rintro e w4 ⟨v4, rfl, hs4, ho4, hg4⟩
      obtain ⟨f, hf⟩ : ∃ f, f = frameG dk (k + 1) 3 9 l := ⟨_, rfl⟩
      rw [← hf] at ho4
      have HFR : Hid (frsG dk ls (k + 1) = frsG dk ls k ++ [f]) := Lib.hid (by rw [hf]; exact frsG_succ HX.out)
      obtain ⟨A4, c4, rfl⟩ := own_form ho4
      have HI4 : Hid (RowsB w4 w.heap.size (.slice A k c) k (frsG dk ls k) ∧ Ses w4 ga dk ((3 : Nat) : Int) ((9 : Nat) : Int) (k + 1) 0 0 ∧ Ses w4 gb dk ((9 : Nat) : Int) ((3 : Nat) : Int) 0 0 0 ∧ Below w.heap.size w w4 ∧ HBT w4 (.slice A4 f.length c4) f) := Lib.hid ⟨HI.out.1.grown hg4 HI.out.2.1 (by decide) (by decide), hs4, HI.out.2.2.1.grown hg4 (fun e => by injection e with e; first | exact hgg e | exact hgg e.symm), HI.out.2.2.2.grown hg4 HI.out.2.2.2.size (fun j hj => by injection hj with hj; omega), own_hbt ho4 rfl⟩
      have hz4 := HI4.out.2.2.2.1.size
      clear hs4 ho4 hg4 hf HI hc0
      go_wp2_with (
        (at_builtin
         obtain ⟨hl1, vs, hown, hvl, hvs⟩ := HI4.out.1
         have hcellA := (Blk.new w4 24 #[.slice A4 f.length c4]).cell 0
         refine wpList_append_own _ rfl (.tmp 76) (.tmp 78) 42 rfl w.heap.size 24 ir (.slice none 0 0) 1 24 Tryd.underlying42 HIR.out hzr hsr hbr rfl (by decide) (.slice A k c) k vs rfl (hown.alloc _) ⟨w4.heap.size, 0, none⟩ 1 1 [.slice A4 f.length c4] rfl rfl (fun j u hj => by
           match j with
           | 0 => simp at hj; subst hj; rw [add0]; exact hcellA
           | j + 1 => simp at hj) (fun u hu => by simp at hu; subst hu; rfl) (by simp only [maxLen]; omega) (by omega) (by simp; omega) ?_
         intro v5 w5 hown5 hgrow5 _
         have hB4 : Below w4.heap.size w4 (w4.alloc (.cells #[.slice A4 f.length c4] 24)) := (Below.refl _ _).alloc (Nat.le_refl _) _
         have HR5 : Hid (RowsB w5 w.heap.size v5 (k + 1) (frsG dk ls (k + 1)) ∧ Ses w5 ga dk ((3 : Nat) : Int) ((9 : Nat) : Int) (k + 1) 0 0 ∧ Ses w5 gb dk ((9 : Nat) : Int) ((3 : Nat) : Int) 0 0 0 ∧ Below w.heap.size w w5) := Lib.hid (by
           rw [HFR.out]
           have ht := (own_turn (hown.alloc _) hgrow5 rows_ne).2
           exact ⟨RowsB.snoc hl1 (hown.alloc _) hvl (fun i u l hu hl => (hvs i u l hu hl).keep hB4) (HI4.out.2.2.2.2.keep hB4) hgrow5 hown5, ht _ _ _ (HI4.out.2.1.alloc _) (by decide), ht _ _ _ (HI4.out.2.2.1.alloc _) (by decide), (HI4.out.2.2.2.1.trans (hB4.mono hz4)).grown hgrow5 (by simp; omega) (fun j hj => own_ge hown j hj)⟩)
         clear hown hvl hvs hl1 hown5 hgrow5 hB4 hcellA HI4))
      go_roundw
      case rel => exact ⟨k + 1, by omega, by go_num, HR5.out.1, HR5.out.2.1, HR5.out.2.2.1, HR5.out.2.2.2, Lib.hid (fun j l2 hj hl2 => by
        rcases Nat.lt_or_ge j k with h | h
        · exact HSH.out j l2 h hl2
        · obtain rfl : j = k := by omega
          rw [HX.out] at hl2
          injection hl2 with hl2
          subst hl2
          exact hl60)⟩
      case measure => simp [intOf]; omega
    · obtain rfl : k = n := by omega
      obtain ⟨st, hst⟩ : ∃ st, (bits BinOp.and IntKind.u8 (step.toNat : Int) 1 == 1) = st := ⟨_, rfl⟩
      clear hn0i hnb0 hn30i
      go_wp2_with fail
      go_loopw [18] (fun i W => ∃ (q : Nat) (t b : UInt64), q ≤ k ∧ i = .int .i64 (q : Int) ∧ RowsB W w.heap.size (.slice A k c) k (frsG dk ls k) ∧ Ses W ga dk ((3 : Nat) : Int) ((9 : Nat) : Int) k 0 0 ∧ Ses W gb dk ((9 : Nat) : Int) ((3 : Nat) : Int) 0 t b ∧ Below w.heap.size w W ∧ Hid (Held t b (tookG k turn st q) ∧ t.toNat ≤ 30)) (fun i _ => k - (intOf i).toNat)
      case atStart => exact ⟨0, 0, 0, Nat.zero_le _, rfl, HI.out.1, HI.out.2.1, HI.out.2.2.1, HI.out.2.2.2, Lib.hid ⟨held_empty, by decide⟩⟩
      case round =>
        clear HI
        obtain ⟨q, t, b, hqk, rfl, hrow, hsa, hsb, hbw, HHT⟩ := hrel
        have HI := Lib.hid (And.intro hrow (And.intro hsa (And.intro hsb hbw)))
        have hbz := hbw.size
        clear hrow hsa hsb hbw
        by_cases hlt2 : q < k
        · have hqi : (q : Int) < (k : Int) := by omega
          obtain ⟨kk, hkk⟩ : ∃ kk, kk = turnG k turn st q := ⟨_, rfl⟩
          have hkkn : kk < k := by rw [hkk]; exact turnG_lt (by omega)
          obtain ⟨r, hr⟩ : ∃ r, r = (q + turn) % k := ⟨_, rfl⟩
          have hrk : r < k := by rw [hr]; exact Nat.mod_lt _ (by omega)
          have hmod : ((q : Int) + (turn : Int)) % (k : Int) = (r : Int) := by rw [hr]; simp
          obtain ⟨l, hl⟩ : ∃ l, ls[kk]? = some l := ⟨_, List.getElem?_eq_getElem (by rw [← HN.out]; exact hkkn)⟩
          have hl60 : l.length ≤ 60 := HSH.out kk l hkkn hl
          obtain ⟨F, hF⟩ : ∃ F, F = frameG dk (kk + 1) 3 9 l := ⟨_, rfl⟩
          have hFl : F.length ≤ 200 := by
            rw [hF, frameG_length]
            have := bodyG_length (n := kk + 1) (from_ := 3) (to := 9) (b := l) (by omega) (by decide) (by decide) (by omega)
            omega
          obtain ⟨N, hNv⟩ : ∃ N, N = UInt64.ofNat (kk + 1) := ⟨_, rfl⟩
          have hNn : N.toNat = kk + 1 := by rw [hNv]; exact u64_lift (by omega)
          have hseen : seenF t b N = false := by rw [hNv, hkk]; exact took_new (by omega) hlt2 HHT.out.1 HHT.out.2
          have hS : ∀ x, x ∈ tookG k turn st (q + 1) ↔ x = N ∨ x ∈ tookG k turn st q := fun x => by rw [hNv, hkk]; exact took_mem x
          obtain ⟨hheld, htop⟩ := held_take HHT.out.1 hseen _ hS
          obtain ⟨tb, htb⟩ : ∃ tb, tb = withF t b N := ⟨_, rfl⟩
          rw [← htb] at hheld htop
          have hseen2 : seenF tb.1 tb.2 N = true := by
            rw [held_seen hheld, Bool.or_eq_true_iff]
            left
            unfold wasB
            rw [Bool.or_eq_true_iff]
            right
            simpa using (hS N).2 (.inl rfl)
          have ht30 : tb.1.toNat ≤ 30 := by
            rw [htop]
            split
            · omega
            · exact HHT.out.2
          have h1 : takeG dk 9 3 t b F = (0, l, tb.1, tb.2) := by
            rw [hF, take_frame 9 3 (by omega) (by decide) (by decide) (by omega), if_neg (by simp), ← hNv, if_neg (by rw [hseen]; simp), ← htb]
          have h2 : takeG dk 9 3 tb.1 tb.2 F = (22, [], tb.1, tb.2) := by
            rw [hF, take_frame 9 3 (by omega) (by decide) (by decide) (by omega), if_neg (by simp), ← hNv, if_pos hseen2]
          have h3 : takeG dk 3 9 0 0 F = (1, [], 0, 0) := by
            rw [hF, take_frame 3 9 (by omega) (by decide) (by decide) (by omega), if_pos (by simp)]
          have HTK := Lib.hid (And.intro h1 (And.intro h2 h3))
          have HNX : Hid (Held tb.1 tb.2 (tookG k turn st (q + 1)) ∧ tb.1.toNat ≤ 30) := Lib.hid ⟨hheld, ht30⟩
          have hfr : (frsG dk ls k)[kk]? = some F := by rw [hF]; exact frsG_at hkkn hl
          obtain ⟨b1, o1, u1, hp1, hc1, hu1⟩ := H.out.at_ hl
          obtain ⟨pl, cl, rfl, -, -⟩ := hu1.form
          have HLC : Hid (w.cell? ⟨b1, o1 + kk, none⟩ = some (.slice pl l.length cl) ∧ HB w (.slice pl l.length cl) l) := Lib.hid ⟨hc1, hu1⟩
          obtain ⟨g5, u5, hA5, hc5, hu5⟩ := HI.out.1.at_ hfr
          obtain ⟨p5, c5, rfl, -, -⟩ := hu5.1.form
          obtain rfl := hA5
          obtain rfl := hp1
          have HU5 := Lib.hid hu5.1
          have HUT := Lib.hid hu5.2
          have hki2 : (kk : Int) < (k : Int) := by omega
          have hkk0 : ¬ (kk : Int) < 0 := by omega
          have hkz : ¬ (k : Int) = 0 := by omega
          have hstep : (st = true → (k : Int) - 1 - (r : Int) = (kk : Int)) ∧ (st = false → r = kk) := by
            constructor
            · intro h; rw [hkk, turnG, if_pos h, ← hr]; omega
            · intro h; rw [hkk, turnG, if_neg (by rw [h]; simp), ← hr]
          clear hkk hr hF hNv hNn hseen hS hheld htop htb hseen2 ht30 h1 h2 h3 hfr hc1 hu1 hu5 hl
          have HNG : Hid (g5 ≠ gb ∧ g5 ≠ ga) := Lib.hid (by
            obtain ⟨_, vs, hown, _, _⟩ := HI.out.1
            obtain ⟨g6, cap6, cur6, e6, _, hh6, _⟩ := own_blk hown (by omega)
            injection e6 with e6 _ _
            injection e6 with e6
            injection e6 with e6 _
            subst e6
            exact ⟨blk_ne hh6 HI.out.2.2.1 (by decide), blk_ne hh6 HI.out.2.1 (by decide)⟩)
          have HNF : Hid (NotIn (.slice p5 F.length c5) gb) := Lib.hid (by
            intro p' n' c' e h
            injection e with e1 e2 e3
            subst e1; subst e2
            obtain ⟨g9, o9, c9, cs9, e9, hb9⟩ := HUT.out h
            injection e9 with e9 _ _
            exact ⟨g9, o9, e9, blk_ne hb9 HI.out.2.2.1 (by decide)⟩)
          cases st with
          | true =>
            have hks := hstep.1 rfl
            clear hstep
            go_wp2_with fail
            refine (sesTake_any gb dk 9 3 0 t b _ F wr (HT.out _ HI.out.2.2.2).1 (HT.out _ HI.out.2.2.2).2 HI.out.2.2.1 hdl HU5.out (by omega) (by decide) (by decide)).mono ?_
            rw [HTK.out.1]
            rintro e w5 ⟨v5, rfl, hv5, hs5, hg5⟩
            obtain ⟨A5, e5, rfl⟩ := own_form hv5
            have HI5 : Hid (RowsB w5 w.heap.size (.slice (some ⟨g5, 0, none⟩) k c) k (frsG dk ls k) ∧ Ses w5 ga dk ((3 : Nat) : Int) ((9 : Nat) : Int) k 0 0 ∧ Ses w5 gb dk ((9 : Nat) : Int) ((3 : Nat) : Int) 0 tb.1 tb.2 ∧ Below w.heap.size w w5 ∧ w5.ownsRow w.heap.size 5 1 (.slice A5 l.length e5) l.length (l.map bcv)) := Lib.hid ⟨HI.out.1.grown hg5 HI.out.2.2.1 (by decide) (by decide), HI.out.2.1.grown hg5 (fun e => by injection e with e; first | exact hgg e | exact hgg e.symm), hs5, HI.out.2.2.2.grown hg5 HI.out.2.2.2.size (fun j hj => by injection hj with hj; omega), own_base hv5 hbz⟩
            have HF5 := Lib.hid (HB.apart HU5.out hg5 HNF.out)
            have hc55 := (cell_grown (p := ⟨g5, kk, none⟩) hg5 (lt_of_cell hc5) HNG.out.1).trans hc5
            clear hv5 hs5 hg5 hc5 HI
            go_wp2_with fail
            refine (sesTake_any gb dk 9 3 0 tb.1 tb.2 _ F w5 (HT.out _ HI5.out.2.2.2.1).1 (HT.out _ HI5.out.2.2.2.1).2 HI5.out.2.2.1 hdl HF5.out (by omega) (by decide) (by decide)).mono ?_
            rw [HTK.out.2.1]
            rintro e w6 ⟨v6, rfl, hv6, hs6, hg6⟩
            have HI6 : Hid (RowsB w6 w.heap.size (.slice (some ⟨g5, 0, none⟩) k c) k (frsG dk ls k) ∧ Ses w6 ga dk ((3 : Nat) : Int) ((9 : Nat) : Int) k 0 0 ∧ Ses w6 gb dk ((9 : Nat) : Int) ((3 : Nat) : Int) 0 tb.1 tb.2 ∧ Below w.heap.size w w6 ∧ w6.ownsRow w.heap.size 5 1 (.slice A5 l.length e5) l.length (l.map bcv)) := Lib.hid ⟨HI5.out.1.grown hg6 HI5.out.2.2.1 (by decide) (by decide), HI5.out.2.1.grown hg6 (fun e => by injection e with e; first | exact hgg e | exact hgg e.symm), hs6, HI5.out.2.2.2.1.grown hg6 HI5.out.2.2.2.1.size (fun j hj => by injection hj with hj; omega), HI5.out.2.2.2.2.kept hg6 (.inr (fun e => own_ne_blk HI5.out.2.2.2.2 HI5.out.2.2.1 (by decide) e.symm))⟩
            have HF6 := Lib.hid (HB.apart HF5.out hg6 HNF.out)
            have hc66 := (cell_grown (p := ⟨g5, kk, none⟩) hg6 (lt_of_cell hc55) HNG.out.1).trans hc55
            clear hv6 hs6 hg6 hc55 HI5
            go_wp2_with fail
            refine (sesTake_any ga dk 3 9 k 0 0 _ F w6 (HT.out _ HI6.out.2.2.2.1).1 (HT.out _ HI6.out.2.2.2.1).2 HI6.out.2.1 hdl HF6.out (by omega) (by decide) (by decide)).mono ?_
            rw [HTK.out.2.2]
            rintro e w7 ⟨v7, rfl, hv7, hs7, hg7⟩
            have HI7 : Hid (RowsB w7 w.heap.size (.slice (some ⟨g5, 0, none⟩) k c) k (frsG dk ls k) ∧ Ses w7 ga dk ((3 : Nat) : Int) ((9 : Nat) : Int) k 0 0 ∧ Ses w7 gb dk ((9 : Nat) : Int) ((3 : Nat) : Int) 0 tb.1 tb.2 ∧ Below w.heap.size w w7 ∧ w7.ownsRow w.heap.size 5 1 (.slice A5 l.length e5) l.length (l.map bcv)) := Lib.hid ⟨HI6.out.1.grown hg7 HI6.out.2.1 (by decide) (by decide), hs7, HI6.out.2.2.1.grown hg7 (fun e => by injection e with e; first | exact hgg e | exact hgg e.symm), HI6.out.2.2.2.1.grown hg7 HI6.out.2.2.2.1.size (fun j hj => by injection hj with hj; omega), HI6.out.2.2.2.2.kept hg7 (.inr (fun e => own_ne_blk HI6.out.2.2.2.2 HI6.out.2.1 (by decide) e.symm))⟩
            have HXW := Lib.hid (own_hb HI7.out.2.2.2.2 rfl)
            have HLW := Lib.hid (HLC.out.2.keep HI7.out.2.2.2.1)
            have HLD := Lib.hid ((HI7.out.2.2.2.1.cell (p := ⟨b1, o1 + kk, none⟩) (lt_of_cell HLC.out.1)).trans HLC.out.1)
            have hz7 := HI7.out.2.2.2.1.size
            clear hv7 hs7 hg7 hc66 HI6 HF5 HF6
            go_upto_region 29 with (fail)
            refine wp_region_as (ys := [.eq (.int .i64 0), .eq (.bool false), .eq (.bool false), .eq (.slice A5 l.length e5), .eq (.string (bs l)), .eq (.slice (some ⟨b1, o1, none⟩) k cap), .eq (.int .i64 (kk : Int)), .eq (.pointer (some ⟨b1, o1 + kk, none⟩)), .eq (.slice pl l.length cl), .eq (.string (bs l)), .eq (.bool false), .eq (.bool false), .eq (.bool false), .eq (.int .i64 22), .eq (.bool false), .eq (.bool false), .eq (.bool false), .eq (.int .i64 1), .eq (.bool false), .eq (.bool false)]) (by kernel_rfl) (by kernel_rfl) (by kernel_rfl) (by kernel_rfl) rfl _ (fun f => by simp only [framedL, Act.put, List.setIfInBounds_toArray, List.set_cons_zero, List.set_cons_succ, Nat.reduceAdd]; rfl) ⟨?_, ?_, ?_, ?_, ?_, ?_, ?_, ?_, ?_, ?_, ?_, ?_, ?_, ?_, ?_, ?_, ?_, ?_, ?_, ?_, trivial⟩ ?_
            · refine oweAs_pure ((.int .i64 0)) rfl (fun f W hE hd => ?_) (fun W hE => rfl)
              go_simp
            · refine oweAs_pure ((.bool false)) rfl (fun f W hE hd => ?_) (fun W hE => rfl)
              simp only [DepAs, Region.binds, asAt, As.holds, and_true, forall_const] at hd
              go_simp
            · refine oweAs_pure ((.bool false)) rfl (fun f W hE hd => ?_) (fun W hE => rfl)
              simp only [DepAs, Region.binds, asAt, As.holds, and_true, forall_const] at hd
              go_simp
            · refine oweAs_pure ((.slice A5 l.length e5)) rfl (fun f W hE hd => ?_) (fun W hE => rfl)
              go_simp
            · refine oweAs_pure ((.string (bs l))) rfl (fun f W hE hd => ?_) (fun W hE => rfl)
              simp only [DepAs, Region.binds, asAt, As.holds, and_true, forall_const] at hd
              have hcv := (HXW.out.keep hE).str Tryd.underlying24 Tryd.underlying5 Tryd.underlying9
              go_simp
            · refine oweAs_pure ((.slice (some ⟨b1, o1, none⟩) k cap)) rfl (fun f W hE hd => ?_) (fun W hE => rfl)
              go_simp
            · refine oweAs_pure ((.int .i64 (kk : Int))) rfl (fun f W hE hd => ?_) (fun W hE => rfl)
              go_simp
            · refine oweAs_pure ((.pointer (some ⟨b1, o1 + kk, none⟩))) rfl (fun f W hE hd => ?_) (fun W hE => rfl)
              simp only [DepAs, Region.binds, asAt, As.holds, and_true, forall_const] at hd
              go_simp
            · refine oweAs_pure ((.slice pl l.length cl)) rfl (fun f W hE hd => ?_) (fun W hE => rfl)
              simp only [DepAs, Region.binds, asAt, As.holds, and_true, forall_const] at hd
              have d0 := (hE.cell (p := ⟨b1, o1 + kk, none⟩) (lt_of_cell HLD.out)).trans HLD.out
              go_simp
            · refine oweAs_pure ((.string (bs l))) rfl (fun f W hE hd => ?_) (fun W hE => rfl)
              simp only [DepAs, Region.binds, asAt, As.holds, and_true, forall_const] at hd
              have hcv := (HLW.out.keep hE).str Tryd.underlying24 Tryd.underlying5 Tryd.underlying9
              go_simp
            · refine oweAs_pure ((.bool false)) rfl (fun f W hE hd => ?_) (fun W hE => rfl)
              simp only [DepAs, Region.binds, asAt, As.holds, and_true, forall_const] at hd
              go_simp
            · refine oweAs_pure ((.bool false)) rfl (fun f W hE hd => ?_) (fun W hE => rfl)
              simp only [DepAs, Region.binds, asAt, As.holds, and_true, forall_const] at hd
              go_simp
            · refine oweAs_pure ((.bool false)) rfl (fun f W hE hd => ?_) (fun W hE => rfl)
              simp only [DepAs, Region.binds, asAt, As.holds, and_true, forall_const] at hd
              go_simp
            · refine oweAs_pure ((.int .i64 22)) rfl (fun f W hE hd => ?_) (fun W hE => rfl)
              go_simp
            · refine oweAs_pure ((.bool false)) rfl (fun f W hE hd => ?_) (fun W hE => rfl)
              simp only [DepAs, Region.binds, asAt, As.holds, and_true, forall_const] at hd
              go_simp
            · refine oweAs_pure ((.bool false)) rfl (fun f W hE hd => ?_) (fun W hE => rfl)
              simp only [DepAs, Region.binds, asAt, As.holds, and_true, forall_const] at hd
              go_simp
            · refine oweAs_pure ((.bool false)) rfl (fun f W hE hd => ?_) (fun W hE => rfl)
              simp only [DepAs, Region.binds, asAt, As.holds, and_true, forall_const] at hd
              go_simp
            · refine oweAs_pure ((.int .i64 1)) rfl (fun f W hE hd => ?_) (fun W hE => rfl)
              go_simp
            · refine oweAs_pure ((.bool false)) rfl (fun f W hE hd => ?_) (fun W hE => rfl)
              simp only [DepAs, Region.binds, asAt, As.holds, and_true, forall_const] at hd
              go_simp
            · refine oweAs_pure ((.bool false)) rfl (fun f W hE hd => ?_) (fun W hE => rfl)
              simp only [DepAs, Region.binds, asAt, As.holds, and_true, forall_const] at hd
              go_simp
            intro f W hE hA
            simp only [AllAs, As.holds, Nat.reduceAdd] at hA
            obtain ⟨-, -, -, -, -, -, -, -, -, -, -, -, -, -, -, -, -, -, -, hA19, -⟩ := hA
            rw [hA19]
            have HI8 : Hid (RowsB W w.heap.size (.slice (some ⟨g5, 0, none⟩) k c) k (frsG dk ls k) ∧ Ses W ga dk ((3 : Nat) : Int) ((9 : Nat) : Int) k 0 0 ∧ Ses W gb dk ((9 : Nat) : Int) ((3 : Nat) : Int) 0 tb.1 tb.2 ∧ Below w.heap.size w W) := Lib.hid ⟨HI7.out.1.keep hE, HI7.out.2.1.below hE HI7.out.2.1.lt, HI7.out.2.2.1.below hE HI7.out.2.2.1.lt, HI7.out.2.2.2.1.trans (hE.mono hz7)⟩
            clear hE hA19 HI7
            go_wp2_with fail
            go_roundw
            case rel => exact ⟨q + 1, tb.1, tb.2, hlt2, by go_num, HI8.out.1, HI8.out.2.1, HI8.out.2.2.1, HI8.out.2.2.2, HNX⟩
            case measure => simp [intOf]; omega
          | false =>
            have hks := (hstep.2 rfl).symm
            subst hks
            clear hstep
            go_wp2_with fail
            refine (sesTake_any gb dk 9 3 0 t b _ F wr (HT.out _ HI.out.2.2.2).1 (HT.out _ HI.out.2.2.2).2 HI.out.2.2.1 hdl HU5.out (by omega) (by decide) (by decide)).mono ?_
            rw [HTK.out.1]
            rintro e w5 ⟨v5, rfl, hv5, hs5, hg5⟩
            obtain ⟨A5, e5, rfl⟩ := own_form hv5
            have HI5 : Hid (RowsB w5 w.heap.size (.slice (some ⟨g5, 0, none⟩) k c) k (frsG dk ls k) ∧ Ses w5 ga dk ((3 : Nat) : Int) ((9 : Nat) : Int) k 0 0 ∧ Ses w5 gb dk ((9 : Nat) : Int) ((3 : Nat) : Int) 0 tb.1 tb.2 ∧ Below w.heap.size w w5 ∧ w5.ownsRow w.heap.size 5 1 (.slice A5 l.length e5) l.length (l.map bcv)) := Lib.hid ⟨HI.out.1.grown hg5 HI.out.2.2.1 (by decide) (by decide), HI.out.2.1.grown hg5 (fun e => by injection e with e; first | exact hgg e | exact hgg e.symm), hs5, HI.out.2.2.2.grown hg5 HI.out.2.2.2.size (fun j hj => by injection hj with hj; omega), own_base hv5 hbz⟩
            have HF5 := Lib.hid (HB.apart HU5.out hg5 HNF.out)
            have hc55 := (cell_grown (p := ⟨g5, kk, none⟩) hg5 (lt_of_cell hc5) HNG.out.1).trans hc5
            clear hv5 hs5 hg5 hc5 HI
            go_wp2_with fail
            refine (sesTake_any gb dk 9 3 0 tb.1 tb.2 _ F w5 (HT.out _ HI5.out.2.2.2.1).1 (HT.out _ HI5.out.2.2.2.1).2 HI5.out.2.2.1 hdl HF5.out (by omega) (by decide) (by decide)).mono ?_
            rw [HTK.out.2.1]
            rintro e w6 ⟨v6, rfl, hv6, hs6, hg6⟩
            have HI6 : Hid (RowsB w6 w.heap.size (.slice (some ⟨g5, 0, none⟩) k c) k (frsG dk ls k) ∧ Ses w6 ga dk ((3 : Nat) : Int) ((9 : Nat) : Int) k 0 0 ∧ Ses w6 gb dk ((9 : Nat) : Int) ((3 : Nat) : Int) 0 tb.1 tb.2 ∧ Below w.heap.size w w6 ∧ w6.ownsRow w.heap.size 5 1 (.slice A5 l.length e5) l.length (l.map bcv)) := Lib.hid ⟨HI5.out.1.grown hg6 HI5.out.2.2.1 (by decide) (by decide), HI5.out.2.1.grown hg6 (fun e => by injection e with e; first | exact hgg e | exact hgg e.symm), hs6, HI5.out.2.2.2.1.grown hg6 HI5.out.2.2.2.1.size (fun j hj => by injection hj with hj; omega), HI5.out.2.2.2.2.kept hg6 (.inr (fun e => own_ne_blk HI5.out.2.2.2.2 HI5.out.2.2.1 (by decide) e.symm))⟩
            have HF6 := Lib.hid (HB.apart HF5.out hg6 HNF.out)
            have hc66 := (cell_grown (p := ⟨g5, kk, none⟩) hg6 (lt_of_cell hc55) HNG.out.1).trans hc55
            clear hv6 hs6 hg6 hc55 HI5
            go_wp2_with fail
            refine (sesTake_any ga dk 3 9 k 0 0 _ F w6 (HT.out _ HI6.out.2.2.2.1).1 (HT.out _ HI6.out.2.2.2.1).2 HI6.out.2.1 hdl HF6.out (by omega) (by decide) (by decide)).mono ?_
            rw [HTK.out.2.2]
            rintro e w7 ⟨v7, rfl, hv7, hs7, hg7⟩
            have HI7 : Hid (RowsB w7 w.heap.size (.slice (some ⟨g5, 0, none⟩) k c) k (frsG dk ls k) ∧ Ses w7 ga dk ((3 : Nat) : Int) ((9 : Nat) : Int) k 0 0 ∧ Ses w7 gb dk ((9 : Nat) : Int) ((3 : Nat) : Int) 0 tb.1 tb.2 ∧ Below w.heap.size w w7 ∧ w7.ownsRow w.heap.size 5 1 (.slice A5 l.length e5) l.length (l.map bcv)) := Lib.hid ⟨HI6.out.1.grown hg7 HI6.out.2.1 (by decide) (by decide), hs7, HI6.out.2.2.1.grown hg7 (fun e => by injection e with e; first | exact hgg e | exact hgg e.symm), HI6.out.2.2.2.1.grown hg7 HI6.out.2.2.2.1.size (fun j hj => by injection hj with hj; omega), HI6.out.2.2.2.2.kept hg7 (.inr (fun e => own_ne_blk HI6.out.2.2.2.2 HI6.out.2.1 (by decide) e.symm))⟩
            have HXW := Lib.hid (own_hb HI7.out.2.2.2.2 rfl)
            have HLW := Lib.hid (HLC.out.2.keep HI7.out.2.2.2.1)
            have HLD := Lib.hid ((HI7.out.2.2.2.1.cell (p := ⟨b1, o1 + kk, none⟩) (lt_of_cell HLC.out.1)).trans HLC.out.1)
            have hz7 := HI7.out.2.2.2.1.size
            clear hv7 hs7 hg7 hc66 HI6 HF5 HF6
            go_upto_region 29 with (fail)
            refine wp_region_as (ys := [.eq (.int .i64 0), .eq (.bool false), .eq (.bool false), .eq (.slice A5 l.length e5), .eq (.string (bs l)), .eq (.slice (some ⟨b1, o1, none⟩) k cap), .eq (.int .i64 (kk : Int)), .eq (.pointer (some ⟨b1, o1 + kk, none⟩)), .eq (.slice pl l.length cl), .eq (.string (bs l)), .eq (.bool false), .eq (.bool false), .eq (.bool false), .eq (.int .i64 22), .eq (.bool false), .eq (.bool false), .eq (.bool false), .eq (.int .i64 1), .eq (.bool false), .eq (.bool false)]) (by kernel_rfl) (by kernel_rfl) (by kernel_rfl) (by kernel_rfl) rfl _ (fun f => by simp only [framedL, Act.put, List.setIfInBounds_toArray, List.set_cons_zero, List.set_cons_succ, Nat.reduceAdd]; rfl) ⟨?_, ?_, ?_, ?_, ?_, ?_, ?_, ?_, ?_, ?_, ?_, ?_, ?_, ?_, ?_, ?_, ?_, ?_, ?_, ?_, trivial⟩ ?_
            · refine oweAs_pure ((.int .i64 0)) rfl (fun f W hE hd => ?_) (fun W hE => rfl)
              go_simp
            · refine oweAs_pure ((.bool false)) rfl (fun f W hE hd => ?_) (fun W hE => rfl)
              simp only [DepAs, Region.binds, asAt, As.holds, and_true, forall_const] at hd
              go_simp
            · refine oweAs_pure ((.bool false)) rfl (fun f W hE hd => ?_) (fun W hE => rfl)
              simp only [DepAs, Region.binds, asAt, As.holds, and_true, forall_const] at hd
              go_simp
            · refine oweAs_pure ((.slice A5 l.length e5)) rfl (fun f W hE hd => ?_) (fun W hE => rfl)
              go_simp
            · refine oweAs_pure ((.string (bs l))) rfl (fun f W hE hd => ?_) (fun W hE => rfl)
              simp only [DepAs, Region.binds, asAt, As.holds, and_true, forall_const] at hd
              have hcv := (HXW.out.keep hE).str Tryd.underlying24 Tryd.underlying5 Tryd.underlying9
              go_simp
            · refine oweAs_pure ((.slice (some ⟨b1, o1, none⟩) k cap)) rfl (fun f W hE hd => ?_) (fun W hE => rfl)
              go_simp
            · refine oweAs_pure ((.int .i64 (kk : Int))) rfl (fun f W hE hd => ?_) (fun W hE => rfl)
              go_simp
            · refine oweAs_pure ((.pointer (some ⟨b1, o1 + kk, none⟩))) rfl (fun f W hE hd => ?_) (fun W hE => rfl)
              simp only [DepAs, Region.binds, asAt, As.holds, and_true, forall_const] at hd
              go_simp
            · refine oweAs_pure ((.slice pl l.length cl)) rfl (fun f W hE hd => ?_) (fun W hE => rfl)
              simp only [DepAs, Region.binds, asAt, As.holds, and_true, forall_const] at hd
              have d0 := (hE.cell (p := ⟨b1, o1 + kk, none⟩) (lt_of_cell HLD.out)).trans HLD.out
              go_simp
            · refine oweAs_pure ((.string (bs l))) rfl (fun f W hE hd => ?_) (fun W hE => rfl)
              simp only [DepAs, Region.binds, asAt, As.holds, and_true, forall_const] at hd
              have hcv := (HLW.out.keep hE).str Tryd.underlying24 Tryd.underlying5 Tryd.underlying9
              go_simp
            · refine oweAs_pure ((.bool false)) rfl (fun f W hE hd => ?_) (fun W hE => rfl)
              simp only [DepAs, Region.binds, asAt, As.holds, and_true, forall_const] at hd
              go_simp
            · refine oweAs_pure ((.bool false)) rfl (fun f W hE hd => ?_) (fun W hE => rfl)
              simp only [DepAs, Region.binds, asAt, As.holds, and_true, forall_const] at hd
              go_simp
            · refine oweAs_pure ((.bool false)) rfl (fun f W hE hd => ?_) (fun W hE => rfl)
              simp only [DepAs, Region.binds, asAt, As.holds, and_true, forall_const] at hd
              go_simp
            · refine oweAs_pure ((.int .i64 22)) rfl (fun f W hE hd => ?_) (fun W hE => rfl)
              go_simp
            · refine oweAs_pure ((.bool false)) rfl (fun f W hE hd => ?_) (fun W hE => rfl)
              simp only [DepAs, Region.binds, asAt, As.holds, and_true, forall_const] at hd
              go_simp
            · refine oweAs_pure ((.bool false)) rfl (fun f W hE hd => ?_) (fun W hE => rfl)
              simp only [DepAs, Region.binds, asAt, As.holds, and_true, forall_const] at hd
              go_simp
            · refine oweAs_pure ((.bool false)) rfl (fun f W hE hd => ?_) (fun W hE => rfl)
              simp only [DepAs, Region.binds, asAt, As.holds, and_true, forall_const] at hd
              go_simp
            · refine oweAs_pure ((.int .i64 1)) rfl (fun f W hE hd => ?_) (fun W hE => rfl)
              go_simp
            · refine oweAs_pure ((.bool false)) rfl (fun f W hE hd => ?_) (fun W hE => rfl)
              simp only [DepAs, Region.binds, asAt, As.holds, and_true, forall_const] at hd
              go_simp
            · refine oweAs_pure ((.bool false)) rfl (fun f W hE hd => ?_) (fun W hE => rfl)
              simp only [DepAs, Region.binds, asAt, As.holds, and_true, forall_const] at hd
              go_simp
            intro f W hE hA
            simp only [AllAs, As.holds, Nat.reduceAdd] at hA
            obtain ⟨-, -, -, -, -, -, -, -, -, -, -, -, -, -, -, -, -, -, -, hA19, -⟩ := hA
            rw [hA19]
            have HI8 : Hid (RowsB W w.heap.size (.slice (some ⟨g5, 0, none⟩) k c) k (frsG dk ls k) ∧ Ses W ga dk ((3 : Nat) : Int) ((9 : Nat) : Int) k 0 0 ∧ Ses W gb dk ((9 : Nat) : Int) ((3 : Nat) : Int) 0 tb.1 tb.2 ∧ Below w.heap.size w W) := Lib.hid ⟨HI7.out.1.keep hE, HI7.out.2.1.below hE HI7.out.2.1.lt, HI7.out.2.2.1.below hE HI7.out.2.2.1.lt, HI7.out.2.2.2.1.trans (hE.mono hz7)⟩
            clear hE hA19 HI7
            go_wp2_with fail
            go_roundw
            case rel => exact ⟨q + 1, tb.1, tb.2, hlt2, by go_num, HI8.out.1, HI8.out.2.1, HI8.out.2.2.1, HI8.out.2.2.2, HNX⟩
            case measure => simp [intOf]; omega
        · obtain rfl : q = k := by omega
          go_wp2_with fail
          refine (sent_any ga dk ((3 : Nat) : Int) ((9 : Nat) : Int) q 0 0 wr HI.out.2.1 hdl).mono ?_
          rintro e w5 ⟨rfl, rfl⟩
          go_wp2_with fail
          refine (sent_any gb dk ((9 : Nat) : Int) ((3 : Nat) : Int) 0 t b wr HI.out.2.2.1 hdl).mono ?_
          rintro e w5 ⟨rfl, rfl⟩
          rw [show ((0 : Nat) : Int) = 0 from rfl]
          go_wp2_with fail
          go_ret
          exact ⟨rfl, HI.out.2.2.2⟩
end Go.Proofs.YtlkhbfafednegaaDoor
