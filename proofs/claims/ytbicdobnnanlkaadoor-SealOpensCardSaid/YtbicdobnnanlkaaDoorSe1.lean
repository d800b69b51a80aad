/-
  The walks of seal.keys and seal.nonce.
-/
import Derived.Test.YtbicdobnnanlkaaDoorGA
import Derived.Test.YtbicdobnnanlkaaDoorMc5
import Derived.Test.YtbicdobnnanlkaaDoorGE
import Derived.Test.YtbicdobnnanlkaaDoorGB
namespace Go.Proofs.YtbicdobnnanlkaaDoor
open Go Go.RowKit
set_option linter.unusedSimpArgs false
set_option linter.unusedVariables false

/-- two results that lie in blocks -/
theorem results_cell_cell {P : Program} {fn : Func} {p q : Tmp} {ty tz : TypeId} (h : fn.results = #[.cell p ty, .cell q tz]) {tmps : Array Value} {w : World} {g1 g2 : Nat} {t1 t2 : TypeId} {cs ds : Array Value}
    (hp : tmps.getD p undef = .pointer (some ⟨g1, 0, none⟩)) (hq : tmps.getD q undef = .pointer (some ⟨g2, 0, none⟩)) (hg1 : Blk w g1 t1 cs) (hg2 : Blk w g2 t2 ds) {d1 d2 : TypeDesc}
    (hu1 : P.underlying ty = some d1) (hd1 : (match d1 with | .struct _ | .array _ _ => true | _ => false) = true) (hi1 : (P.info? ty).map (·.size) = some cs.size)
    (hu2 : P.underlying tz = some d2) (hd2 : (match d2 with | .struct _ | .array _ _ => true | _ => false) = true) (hi2 : (P.info? tz).map (·.size) = some ds.size) :
    (results fn tmps).run P w = .ok (.tuple #[.agg cs, .agg ds]) w := by
  have hp' : tmps[p]?.getD undef = .pointer (some ⟨g1, 0, none⟩) := by simpa using hp
  have hq' : tmps[q]?.getD undef = .pointer (some ⟨g2, 0, none⟩) := by simpa using hq
  simp [results, h, hp', hq', asAddr, run_loadVar_row w g1 t1 ty cs (0, 0) d1 hg1 hu1 hd1 hi1, run_loadVar_row w g2 t2 tz ds (0, 0) d2 hg2 hu2 hd2 hi2]

set_option maxRecDepth 100000 in
set_option maxHeartbeats 1000000 in
theorem keysOf_any (key : List UInt8) (kind : UInt8) (s : ByteArray) (gk gb : Nat) (w : World) (hT : Tab w) (h0 : 1 < w.heap.size) (hk : key.length = 32) (h1 : Blk w gk 23 (bvs key)) (h2 : Blk w gb 5 #[.int .u8 (kind.toNat : Int)]) (hs : s.size ≤ 900000) :
    Calls Tryd.prog 27 #[.string s, .pointer (some ⟨gk, 0, none⟩), .pointer (some ⟨gb, 0, none⟩)] w fun e w' => e = .returned (.agg (bvs (derF key (sb s) kind.toNat))) ∧ Below w.heap.size w w' := by
  have hbz : (bvs key).size = 32 := by rw [bvs_size]; exact hk
  have hkd := kind.toNat_lt
  have HT := Lib.hid hT
  obtain ⟨m, hm⟩ : ∃ m, m = derF key (sb s) kind.toNat := ⟨_, rfl⟩
  have hml : m.length = 32 := by rw [hm]; exact derF_length _ _ _
  have hmz : (bvs m).size = 32 := by rw [bvs_size]; exact hml
  have HM := Lib.hid hm
  have hB : Below w.heap.size w (w.alloc (.cells (bvs (List.replicate 32 0)) 23)) := (Below.refl w.heap.size w).alloc (Nat.le_refl _) _
  have HJ : Hid (Blk w gk 23 (bvs key) ∧ Blk w gb 5 #[.int .u8 (kind.toNat : Int)]) := Lib.hid ⟨h1, h2⟩
  have c0 : w.cell? ⟨gb, 0, none⟩ = some (.int .u8 (kind.toNat : Int)) := h2.cell 0
  have c1 := h2.lt
  have c2 : ∀ o : Obj, (w.alloc o).cell? ⟨gb, 0, none⟩ = some (.int .u8 (kind.toNat : Int)) := fun o => (h2.alloc o).cell 0
  clear hT hm hB h1 h2
  go_enter Tryd.func27, Tryd.ntmps27
  go_wp2_with (first
    | (refine wpList_load_blk rfl 23 (.tmp 1) rfl gk 23 (bvs key) rfl (HJ.out.1.alloc _) Tryd.underlying23 rfl (by rw [hbz]; kernel_rfl) ?_)
    | (go_at_call 26
       refine (macDer_any key s kind.toNat _ (HT.out.below ((Below.refl w.heap.size w).alloc (Nat.le_refl _) _) h0) (by simp <;> omega) hk hs (by omega)).mono ?_
       rintro e w1 ⟨rfl, hb1⟩
       rw [← HM.out]
       have HB1 : Hid (Blk w1 w.heap.size 23 (bvs (List.replicate 32 0)) ∧ Below w.heap.size w w1) := Lib.hid ⟨(Blk.new w _ _).below hb1 (by simp), ((Below.refl w.heap.size w).alloc (Nat.le_refl _) _).trans (hb1.mono (by simp))⟩
       clear hb1)
    | (refine wpList_store_blk rfl 23 (.tmp 4) (.tmp 9) rfl w.heap.size 23 _ (bvs m) rfl rfl HB1.out.1 (by rw [hmz]; rfl) (by rw [hmz]; kernel_rfl) (bvs_one _) ?_
       intro w2 hb2 hg2 hz2))
  refine bodyPost_ret (results_cell Tryd.results27 rfl (t := 23) (g := w.heap.size) (cs := bvs m) hb2 Tryd.underlying23 rfl (by rw [hmz]; kernel_rfl)) rfl ⟨by rw [HM.out], ?_⟩
  exact HB1.out.2.grown hg2 HB1.out.2.size (by intro k hk; injection hk with hk; omega)

set_option maxRecDepth 100000 in
set_option maxHeartbeats 1000000 in
theorem keys_any (key : List UInt8) (kind : UInt8) (w : World) (hT : Tab w) (h0 : 1 < w.heap.size) (hk : key.length = 32) :
    Calls Tryd.prog 15 #[.agg (bvs key), .int .u8 (kind.toNat : Int)] w fun e w' => e = .returned (.tuple #[.agg (bvs (hideK key kind)), .agg (bvs (vouchK key kind))]) ∧ Below w.heap.size w w' := by
  have hbz : (bvs key).size = 32 := by rw [bvs_size]; exact hk
  have HT := Lib.hid hT
  obtain ⟨m, hm⟩ : ∃ m, m = hideK key kind := ⟨_, rfl⟩
  have hml : m.length = 32 := by rw [hm]; exact hideK_length _ _
  have hmz : (bvs m).size = 32 := by rw [bvs_size]; exact hml
  obtain ⟨n, hn⟩ : ∃ n, n = vouchK key kind := ⟨_, rfl⟩
  have hnl : n.length = 32 := by rw [hn]; exact vouchK_length _ _
  have hnz : (bvs n).size = 32 := by rw [bvs_size]; exact hnl
  have HM := Lib.hid hm
  have HN := Lib.hid hn
  rw [← hm, ← hn]
  clear hT hm hn
  go_enter Tryd.func15, Tryd.ntmps15
  go_wp2_with fail
  have hB : Below w.heap.size w ((((w.alloc (.cells (bvs key) 23)).alloc (.cells #[.int .u8 (kind.toNat : Int)] 5)).alloc (.cells (bvs (List.replicate 32 0)) 23)).alloc (.cells (bvs (List.replicate 32 0)) 23)) := (((((Below.refl w.heap.size w).alloc (Nat.le_refl _) _).alloc (by simp) _).alloc (by simp; omega) _).alloc (by simp; omega) _)
  have b1 : Blk ((((w.alloc (.cells (bvs key) 23)).alloc (.cells #[.int .u8 (kind.toNat : Int)] 5)).alloc (.cells (bvs (List.replicate 32 0)) 23)).alloc (.cells (bvs (List.replicate 32 0)) 23)) w.heap.size 23 (bvs key) := (((Blk.new w _ _).alloc _).alloc _).alloc _
  have b2 : Blk ((((w.alloc (.cells (bvs key) 23)).alloc (.cells #[.int .u8 (kind.toNat : Int)] 5)).alloc (.cells (bvs (List.replicate 32 0)) 23)).alloc (.cells (bvs (List.replicate 32 0)) 23)) (w.heap.size + 1) 5 #[.int .u8 (kind.toNat : Int)] := ((Blk.new' (w := w.alloc _) (by simp) _ _).alloc _).alloc _
  have b3 : Blk ((((w.alloc (.cells (bvs key) 23)).alloc (.cells #[.int .u8 (kind.toNat : Int)] 5)).alloc (.cells (bvs (List.replicate 32 0)) 23)).alloc (.cells (bvs (List.replicate 32 0)) 23)) (w.heap.size + 2) 23 (bvs (List.replicate 32 0)) := (Blk.new' (w := (w.alloc _).alloc _) (by simp) _ _).alloc _
  have b4 : Blk ((((w.alloc (.cells (bvs key) 23)).alloc (.cells #[.int .u8 (kind.toNat : Int)] 5)).alloc (.cells (bvs (List.replicate 32 0)) 23)).alloc (.cells (bvs (List.replicate 32 0)) 23)) (w.heap.size + 3) 23 (bvs (List.replicate 32 0)) := Blk.new' (w := ((w.alloc _).alloc _).alloc _) (by simp) _ _
  refine (keysOf_any key kind _ _ _ _ (HT.out.below hB h0) (by simp <;> omega) hk b1 b2 (by decide)).mono ?_
  rintro e w1 ⟨rfl, hb1⟩
  rw [show derF key (sb ⟨#[104, 105, 100, 101]⟩) kind.toNat = m from HM.out.symm]
  have HI1 : Hid (Blk w1 w.heap.size 23 (bvs key) ∧ Blk w1 (w.heap.size + 1) 5 #[.int .u8 (kind.toNat : Int)] ∧ Blk w1 (w.heap.size + 2) 23 (bvs (List.replicate 32 0)) ∧ Blk w1 (w.heap.size + 3) 23 (bvs (List.replicate 32 0)) ∧ Below w.heap.size w w1) := Lib.hid ⟨b1.below hb1 b1.lt, b2.below hb1 b2.lt, b3.below hb1 b3.lt, b4.below hb1 b4.lt, hB.trans (hb1.mono (by simp; omega))⟩
  clear hb1 b1 b2 b3 b4 hB
  go_wp2_with fail
  refine (keysOf_any key kind _ _ _ _ (HT.out.below HI1.out.2.2.2.2 h0) (by have := HI1.out.1.lt; omega) hk HI1.out.1 HI1.out.2.1 (by decide)).mono ?_
  rintro e w2 ⟨rfl, hb2⟩
  rw [show derF key (sb ⟨#[118, 111, 117, 99, 104]⟩) kind.toNat = n from HN.out.symm]
  have HI2 : Hid (Blk w2 (w.heap.size + 2) 23 (bvs (List.replicate 32 0)) ∧ Blk w2 (w.heap.size + 3) 23 (bvs (List.replicate 32 0)) ∧ Below w.heap.size w w2) := Lib.hid ⟨HI1.out.2.2.1.below hb2 HI1.out.2.2.1.lt, HI1.out.2.2.2.1.below hb2 HI1.out.2.2.2.1.lt, HI1.out.2.2.2.2.trans (hb2.mono HI1.out.2.2.2.2.size)⟩
  clear hb2 HI1
  go_wp2_with (first
    | (refine wpList_store_blk rfl 23 (.tmp 5) (.tmp 11) rfl (w.heap.size + 1 + 1 + 1) 23 _ (bvs n) rfl rfl HI3.out.2.1 (by rw [hnz]; rfl) (by rw [hnz]; kernel_rfl) (bvs_one _) ?_
       intro w4 hb4 hg4 hz4)
    | (refine wpList_store_blk rfl 23 (.tmp 4) (.tmp 9) rfl (w.heap.size + 1 + 1) 23 _ (bvs m) rfl rfl HI2.out.1 (by rw [hmz]; rfl) (by rw [hmz]; kernel_rfl) (bvs_one _) ?_
       intro w3 hb3 hg3 hz3
       have HI3 : Hid (Blk w3 (w.heap.size + 2) 23 (bvs m) ∧ Blk w3 (w.heap.size + 3) 23 (bvs (List.replicate 32 0)) ∧ Below w.heap.size w w3) := Lib.hid ⟨hb3, HI2.out.2.1.grown hg3 (by intro h; injection h with h; omega), HI2.out.2.2.grown hg3 HI2.out.2.2.size (by intro k hk; injection hk with hk; omega)⟩
       clear hb3 hg3 hz3))
  refine bodyPost_ret (results_cell_cell Tryd.results15 rfl rfl (t1 := 23) (t2 := 23) (g1 := w.heap.size + 2) (g2 := w.heap.size + 3) (cs := bvs m) (ds := bvs n) (HI3.out.1.grown hg4 (by intro h; injection h with h; omega)) hb4 Tryd.underlying23 rfl (by rw [hmz]; kernel_rfl) Tryd.underlying23 rfl (by rw [hnz]; kernel_rfl)) rfl ⟨rfl, ?_⟩
  exact HI3.out.2.2.grown hg4 HI3.out.2.2.size (by intro k hk; injection hk with hk; omega)
end Go.Proofs.YtbicdobnnanlkaaDoor
