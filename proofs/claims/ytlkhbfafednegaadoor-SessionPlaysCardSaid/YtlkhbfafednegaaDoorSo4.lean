/-
  The walk of the law SessionPlays.
-/
import Derived.Test.YtlkhbfafednegaaDoorGS
namespace Go.Proofs.YtlkhbfafednegaaDoor
open Go Go.RowKit
set_option linter.unusedSimpArgs false
set_option linter.unusedVariables false

set_option maxRecDepth 1000000 in
set_option maxHeartbeats 4000000 in
theorem sessionPlays_any (key other : List UInt8) (v : Value) (acs : List ActR) (w : World) (hT : Tab w) (h0 : 0 < w.heap.size) (hk : key.length = 32) (h : ActS w v acs) :
    Calls Tryd.prog 5 #[.agg (bvs key), .agg (bvs other), v] w fun e w' => e = .returned (.bool true) ∧ Below w.heap.size w w' := by
  have HT : Hid (∀ W, Below w.heap.size w W → Tab W ∧ 0 < W.heap.size) := Lib.hid (fun W hb => ⟨hT.below hb h0, by have := hb.size; omega⟩)
  have hkz : (bvs key).size = 32 := by rw [bvs_size]; exact hk
  obtain ⟨pv, cv, rfl, hlc, hcm, hacts⟩ := h
  have HAC := Lib.hid hacts
  clear hacts hT
  obtain ⟨N, hN⟩ : ∃ N, N = acs.length := ⟨_, rfl⟩
  rw [← hN] at hlc ⊢
  have HN := Lib.hid hN
  unfold maxLen at hcm
  clear hN
  have hA : Below w.heap.size w ((w.alloc (.cells (bvs key) 23)).alloc (.cells (bvs other) 23)) := ((Below.refl _ _).alloc (Nat.le_refl _) _).alloc (by simp) _
  have HA := Lib.hid hA
  clear hA
  obtain ⟨dk, hdk⟩ : ∃ d, d = frameK key := ⟨_, rfl⟩
  have hdl : dk.length = 32 := by rw [hdk]; exact frameK_length _
  have HD := Lib.hid hdk
  clear hdk
  go_enter Tryd.func5, Tryd.ntmps5
  go_wp2_with fail
  refine (awake19_any _ (HT.out _ HA.out).1 (HT.out _ HA.out).2).mono ?_
  rintro e w1 ⟨rfl, hb1⟩
  have HB1 : Hid (Blk w1 w.heap.size 23 (bvs key) ∧ Below w.heap.size w w1) := Lib.hid ⟨((Blk.new w _ _).alloc _).below hb1 (by simp; omega), HA.out.trans (hb1.mono (by simp; omega))⟩
  clear hb1
  have hw1 : w.heap.size < w1.heap.size := HB1.out.1.lt
  go_wp2_with fail
  obtain ⟨gs, hgs⟩ : ∃ gs, gs = w1.heap.size := ⟨_, rfl⟩
  refine wp_abs (fun W => Hid (Blk W gs 27 #[.pointer none, .pointer none] ∧ Blk W w.heap.size 23 (bvs key) ∧ Below w.heap.size w W)) (Lib.hid ⟨hgs ▸ Blk.new _ _ _, HB1.out.1.alloc _, HB1.out.2.alloc (Nat.le_of_lt hw1) _⟩) ?_
  rw [← hgs] at hw1 ⊢
  clear hgs HB1
  intro W2 HW2
  go_loopw [9] (fun i W => ∃ (k : Nat) (g : Nat → Nat), k ≤ 2 ∧ i = .int .i64 (k : Int) ∧ Blk W gs 27 #[if 0 < k then .pointer (some ⟨g 0, 0, none⟩) else .pointer none, if 1 < k then .pointer (some ⟨g 1, 0, none⟩) else .pointer none] ∧ (∀ i, i < k → Ses W (g i) dk ((i : Nat) : Int) ((1 - i : Nat) : Int) 0 0 0 ∧ w.heap.size ≤ g i) ∧ (k = 2 → g 0 ≠ g 1) ∧ Blk W w.heap.size 23 (bvs key) ∧ Below w.heap.size w W) (fun i _ => 2 - (intOf i).toNat)
  case atStart => exact ⟨0, fun _ => 0, by omega, rfl, HW2.out.1, fun i hi => absurd hi (Nat.not_lt_zero _), (fun h => absurd h (by decide)), HW2.out.2.1, HW2.out.2.2⟩
  case round =>
    clear HW2
    obtain ⟨k, g, hk2, rfl, hp, hs, hne, hkey, hbw⟩ := hrel
    have HI := Lib.hid (And.intro hp (And.intro hs (And.intro hne (And.intro hkey hbw))))
    have hbz := hbw.size
    clear hp hs hne hkey hbw
    rcases (show k = 0 ∨ k = 1 ∨ k = 2 by omega) with rfl | rfl | rfl
    · rw [show ((0 : Nat) : Int) = 0 from rfl]
      have q0 := HI.out.1.cell 0
      have f0 := HI.out.1.frozen 0
      simp only [List.getElem?_toArray, List.getElem?_cons_zero, List.getElem?_cons_succ, Nat.lt_irrefl, if_false] at q0
      go_wp2_with (refine wpList_load_blk rfl 23 (.tmp 3) rfl w.heap.size 23 (bvs key) rfl HI.out.2.2.2.1 Tryd.underlying23 rfl (by rw [hkz]; kernel_rfl) ?_)
      refine (sesNew_ok key 0 1 wr (HT.out _ HI.out.2.2.2.2).1 (HT.out _ HI.out.2.2.2.2).2 hk (by unfold fineG; decide)).mono ?_
      rintro e w3 ⟨ga, rfl, hs3, hg3, hb3⟩
      rw [← HD.out] at hs3
      have HI3 : Hid (Blk w3 gs 27 #[.pointer none, .pointer none] ∧ Ses w3 ga dk ((0 : Nat) : Int) ((1 : Nat) : Int) 0 0 0 ∧ w.heap.size ≤ ga ∧ Blk w3 w.heap.size 23 (bvs key) ∧ Below w.heap.size w w3) := Lib.hid ⟨HI.out.1.below hb3 HI.out.1.lt, hs3, by omega, HI.out.2.2.2.1.below hb3 HI.out.2.2.2.1.lt, HI.out.2.2.2.2.trans (hb3.mono hbz)⟩
      clear hs3 hg3 hb3 HI q0 f0
      have q0 := HI3.out.1.cell 0
      have f0 := HI3.out.1.frozen 0
      simp only [List.getElem?_toArray, List.getElem?_cons_zero, List.getElem?_cons_succ] at q0
      go_wp2_with fail
      have hgg := blk_ne HI3.out.2.1 HI3.out.1 (by decide)
      go_roundw
      case rel => exact ⟨1, fun _ => ga, by omega, by go_num, HI3.out.1.store 0 _, fun i hi => by
        obtain rfl : i = 0 := by omega
        exact ⟨HI3.out.2.1.other (p := ⟨gs, 0, none⟩) hgg _, HI3.out.2.2.1⟩, (fun h => absurd h (by decide)), HI3.out.2.2.2.1.other (p := ⟨gs, 0, none⟩) (by show w.heap.size ≠ gs; omega) _, HI3.out.2.2.2.2.setCell (p := ⟨gs, 0, none⟩) (by show w.heap.size ≤ gs; omega) _⟩
      case measure => simp [intOf]
    · rw [show ((1 : Nat) : Int) = 1 from rfl]
      have q0 := HI.out.1.cell 1
      have f0 := HI.out.1.frozen 1
      simp only [List.getElem?_toArray, List.getElem?_cons_zero, List.getElem?_cons_succ, Nat.lt_irrefl, if_false] at q0
      go_wp2_with (refine wpList_load_blk rfl 23 (.tmp 3) rfl w.heap.size 23 (bvs key) rfl HI.out.2.2.2.1 Tryd.underlying23 rfl (by rw [hkz]; kernel_rfl) ?_)
      refine (sesNew_ok key 1 0 wr (HT.out _ HI.out.2.2.2.2).1 (HT.out _ HI.out.2.2.2.2).2 hk (by unfold fineG; decide)).mono ?_
      rintro e w3 ⟨ga, rfl, hs3, hg3, hb3⟩
      rw [← HD.out] at hs3
      have HI3 : Hid (Blk w3 gs 27 #[.pointer (some ⟨g 0, 0, none⟩), .pointer none] ∧ Ses w3 ga dk ((1 : Nat) : Int) ((0 : Nat) : Int) 0 0 0 ∧ w.heap.size ≤ ga ∧ Blk w3 w.heap.size 23 (bvs key) ∧ Below w.heap.size w w3 ∧ Ses w3 (g 0) dk ((0 : Nat) : Int) ((1 : Nat) : Int) 0 0 0 ∧ w.heap.size ≤ g 0 ∧ g 0 ≠ ga) := Lib.hid ⟨HI.out.1.below hb3 HI.out.1.lt, hs3, by omega, HI.out.2.2.2.1.below hb3 HI.out.2.2.2.1.lt, HI.out.2.2.2.2.trans (hb3.mono hbz), (HI.out.2.1 0 (by omega)).1.below hb3 (HI.out.2.1 0 (by omega)).1.lt, (HI.out.2.1 0 (by omega)).2, by have := (HI.out.2.1 0 (by omega)).1.lt; omega⟩
      clear hs3 hg3 hb3 HI q0 f0
      have q0 := HI3.out.1.cell 1
      have f0 := HI3.out.1.frozen 1
      simp only [List.getElem?_toArray, List.getElem?_cons_zero, List.getElem?_cons_succ] at q0
      go_wp2_with fail
      have hgg := blk_ne HI3.out.2.1 HI3.out.1 (by decide)
      have hgg0 := blk_ne HI3.out.2.2.2.2.2.1 HI3.out.1 (by decide)
      go_roundw
      case rel => exact ⟨2, fun i => if i = 0 then g 0 else ga, by omega, by go_num, HI3.out.1.store 1 _, fun i hi => by
        rcases (show i = 0 ∨ i = 1 by omega) with rfl | rfl
        · exact ⟨HI3.out.2.2.2.2.2.1.other (p := ⟨gs, 1, none⟩) hgg0 _, HI3.out.2.2.2.2.2.2.1⟩
        · exact ⟨HI3.out.2.1.other (p := ⟨gs, 1, none⟩) hgg _, HI3.out.2.2.1⟩, (fun _ => HI3.out.2.2.2.2.2.2.2), HI3.out.2.2.2.1.other (p := ⟨gs, 1, none⟩) (by show w.heap.size ≠ gs; omega) _, HI3.out.2.2.2.2.1.setCell (p := ⟨gs, 1, none⟩) (by show w.heap.size ≤ gs; omega) _⟩
      case measure => simp [intOf]
    · rw [show ((2 : Nat) : Int) = 2 from rfl]
      clear hk2
      go_upto_region 12 with (fail)
      refine wp_stop sAll (by assumption) ?_
      intro K4 hK4
      go_wp2_with (first
        | (refine wpList_load_blk rfl 23 (.tmp 3) rfl w.heap.size 23 (bvs key) rfl HI.out.2.2.2.1 Tryd.underlying23 rfl (by rw [hkz]; kernel_rfl) ?_)
        | (refine wpList_build_ref0 rfl #[(0, .tmp 51), (1, .const (.int .i64 0)), (2, .const (.int .i64 1))] rfl key hk (by first | (simp [Act.eval]; done) | (simp [Act.eval, Act.put]; done)) ?_)
        | (refine wpList_build_ref1 rfl #[(0, .tmp 53), (1, .const (.int .i64 1)), (2, .const (.int .i64 0))] rfl key hk (by first | (simp [Act.eval]; done) | (simp [Act.eval, Act.put]; done)) ?_)
        | (refine wpList_build_two rfl #[(0, .tmp 52), (1, .tmp 54)] rfl key hk (by first | (simp [Act.eval]; done) | (simp [Act.eval, Act.put]; done)) ?_))
      unfold Stop
      obtain ⟨gm, hgm⟩ : ∃ gm, gm = wr.heap.size := ⟨_, rfl⟩
      refine wp_abs (fun W => Bg w W key dk g gs gm (fun _ => (0, 0, 0)) (fun _ => (0, 0, 0))) ?_ ?_
      · rw [hgm]
        have hnew := Blk.new wr 38 (twoC key)
        exact ⟨HI.out.2.2.2.1.alloc _, fun i hi => (HI.out.2.1 i hi).1.alloc _, HI.out.1.alloc _, ⟨_, hnew, twoC_size hk⟩, twoC_range hk hnew, HI.out.2.2.2.2.alloc hbz _, ⟨fun i hi => (HI.out.2.1 i hi).2, hbz, by omega⟩, HI.out.2.2.1 trivial⟩
      rw [← hgm]
      clear hgm HI hbz
      clear wr
      intro W3 hW3
      have HW3 := Lib.hid hW3
      clear hW3
      refine plays_leaf HT h0 hk HD HN hlc (by omega) HAC HW3 ?_
      intro y13 y14 y15 y16 y17 y18 y19 y20 y21 y22 y23 y24 y25 y26 y27 y28 y29 y30 y31 y32 y33 y34 y35 y36 y37 y38 y39 y40 y41 y42 y43 y44 y45 y46 y47 y48 y49 y50 y51 y52 y53 y54 y55 y56 y57 y58 y59 y60 y61 y62 y63 y64 y65 y66 y67 y68 y69 y70 y71 y72 y73 y74 y75 y76 y77 y78 y79 y80 y81 y82 y83 y84 y85 y86 y87 y88 y89 y90 y91 y92 y93 y94 y95 y96 y97 y98 y99 y100 y101 y102 y103 y104 y105 y106 y107 y108 y109 y110 y111 y112 y113 y114 y115 y116 y117 y118 y119 y120 y121 y122 y123 y124 y125 y126 y127 y128 y129 y130 y131 y132 y133 y134 y135 y136 y137 y138 y139 y140 y141 y142 y143 y144 y145 y146 y147 y148 y149 y150 y151 y152 y153 y154 y155 y156 y157 y158 y159 y160 y161 y162 y163 y164 y165 y166 y167 y168 y169 y170 y171 y172 y173 y174 y175 y176 y177 y178 y179 y180 y181 y182 y183 y184 y185 y186 y187 y188 y189 y190 y191 y192 y193 y194 y195 y196 y197 y198 y199 y200 y201 y202 y203 y204 y205 y206 y207 y208 y209 y210 y211 y212 y213 y214 y215 y216 y217 y218 y219 y220 y221 y222 y223 y224 y225 y226 y227 y228 y229 y230 y231 y232 y233 y234 y235 y236 y237 y238 y239 y240 y241 y242 y243 y244 y245 y246 y247 y248 y249 y250 y251 y252 y253 y254 y255 y256 y257 y258 y259 y260 y261 W9 hb9
      go_ret
      exact ⟨rfl, hb9⟩
end Go.Proofs.YtlkhbfafednegaaDoor
