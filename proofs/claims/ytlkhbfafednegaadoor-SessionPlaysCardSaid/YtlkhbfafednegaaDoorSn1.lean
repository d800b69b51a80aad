/-
  A node's side: made, told, skipped; what its key says.
-/
import Derived.Test.YtlkhbfafednegaaDoorSnP
import Derived.Test.YtlkhbfafednegaaDoorMc5
import Derived.Test.YtlkhbfafednegaaDoorCd4
import Derived.Test.YtlkhbfafednegaaDoorGE
import Derived.Laws.Tables
namespace Go.Proofs.YtlkhbfafednegaaDoor
open Go Go.RowKit
set_option linter.unusedSimpArgs false
set_option linter.unusedVariables false

/-- a side's cells: the key, it itself, the other one, how many were sent, the window -/
def sesC (k : List UInt8) (s o : Int) (n : Nat) (t b : UInt64) : Array Value := (k.map bcv ++ ([.int .i64 s, .int .i64 o, .int .u64 (n : Int), .int .u64 (t.toNat : Int), .int .u64 (b.toNat : Int)] : List Value)).toArray
theorem sesC_size {k : List UInt8} {s o : Int} {n : Nat} {t b : UInt64} (hk : k.length = 32) : (sesC k s o n t b).size = 37 := by simp [sesC, hk]
theorem sesC_at {k : List UInt8} {s o : Int} {n : Nat} {t b : UInt64} (hk : k.length = 32) : (sesC k s o n t b)[32]? = some (.int .i64 s) ∧ (sesC k s o n t b)[33]? = some (.int .i64 o) ∧ (sesC k s o n t b)[34]? = some (.int .u64 (n : Int)) ∧ (sesC k s o n t b)[35]? = some (.int .u64 (t.toNat : Int)) ∧ (sesC k s o n t b)[36]? = some (.int .u64 (b.toNat : Int)) := by
  have hm : (k.map bcv).length = 32 := by rw [List.length_map]; exact hk
  unfold sesC
  refine ⟨?_, ?_, ?_, ?_, ?_⟩ <;> (rw [List.getElem?_toArray, List.getElem?_append_right (by omega), hm]; rfl)
abbrev Ses (w : World) (g : Nat) (k : List UInt8) (s o : Int) (n : Nat) (t b : UInt64) : Prop := Blk w g 58 (sesC k s o n t b)
theorem Ses.cells {w : World} {g : Nat} {k : List UInt8} {s o : Int} {n : Nat} {t b : UInt64} (h : Ses w g k s o n t b) (hk : k.length = 32) : w.cell? ⟨g, 32, none⟩ = some (.int .i64 s) ∧ w.cell? ⟨g, 33, none⟩ = some (.int .i64 o) ∧ w.cell? ⟨g, 34, none⟩ = some (.int .u64 (n : Int)) ∧ w.cell? ⟨g, 35, none⟩ = some (.int .u64 (t.toNat : Int)) ∧ w.cell? ⟨g, 36, none⟩ = some (.int .u64 (b.toNat : Int)) := by
  obtain ⟨h1, h2, h3, h4, h5⟩ := sesC_at (s := s) (o := o) (n := n) (t := t) (b := b) hk
  exact ⟨(h.cell 32).trans h1, (h.cell 33).trans h2, (h.cell 34).trans h3, (h.cell 35).trans h4, (h.cell 36).trans h5⟩
theorem Ses.key {w : World} {g : Nat} {k : List UInt8} {s o : Int} {n : Nat} {t b : UInt64} (h : Ses w g k s o n t b) : w.rangeAt g 0 (k.map bcv) := by
  intro j v hv
  rw [Nat.zero_add, h.cell j]
  unfold sesC
  rw [List.getElem?_toArray, List.getElem?_append_left (List.getElem?_eq_some_iff.1 hv).1]; exact hv
theorem Ses.sent {w : World} {g : Nat} {k : List UInt8} {s o : Int} {n : Nat} {t b : UInt64} (h : Ses w g k s o n t b) (hk : k.length = 32) (m : Nat) : Ses (w.setCell ⟨g, 34, none⟩ (.int .u64 (m : Int))) g k s o m t b := by
  have h2 := h.store 34 (.int .u64 (m : Int))
  have e : (sesC k s o n t b).setIfInBounds 34 (.int .u64 (m : Int)) = sesC k s o m t b := by
    have hm : (k.map bcv).length = 32 := by rw [List.length_map]; exact hk
    unfold sesC
    rw [List.setIfInBounds_toArray, List.set_append_right _ _ (by omega), hm]; rfl
  rw [e] at h2
  exact h2
theorem at8_all {k : List UInt8} (hk : k.length = 32) : k = (List.range 32).map (at8 k) := by
  apply List.ext_getElem?
  intro i
  by_cases h : i < 32
  · rw [List.getElem?_map, List.getElem?_range h, at8_get (by omega)]; rfl
  · rw [List.getElem?_eq_none (by omega), List.getElem?_eq_none (by simp; omega)]
theorem built_ses {k : List UInt8} (hk : k.length = 32) (s o : Int) : Tryd.prog.built 58 [(0, .agg (bvs k)), (1, .int .i64 s), (2, .int .i64 o)] = some (sesC k s o 0 0 0) := by
  rw [at8_all hk]
  generalize at8 k = f
  kernel_rfl
section
variable {ops : Array Oper} {rest : List Oper} {o_ : Oper} {a : Act} {w : World} {Q : Exit → Act → World → Prop}
theorem wpList_build_ses (hg : o_.guard = none) (parts : Array (Nat × Operand)) (ho : o_.op = .build 58 parts) (k : List UInt8) (s o : Int) (hk : k.length = 32)
    (hp : (parts.map fun (i, x) => (i, a.eval x)).toList = [(0, .agg (bvs k)), (1, .int .i64 s), (2, .int .i64 o)])
    (h : wpList Tryd.prog ops Q rest (a.put o_.dst (.agg (sesC k s o 0 0 0))) w) : wpList Tryd.prog ops Q (o_ :: rest) a w := by
  refine wpList_build hg 58 parts ho (by rw [hp, built_ses hk]; rfl) ?_
  rw [hp, built_ses hk]
  exact h
end
def fineG (s o : Int) : Prop := 0 ≤ s ∧ s < 64 ∧ 0 ≤ o ∧ o < 64 ∧ s ≠ o

set_option maxRecDepth 100000 in
set_option maxHeartbeats 1000000 in
theorem sesNew_no (key : List UInt8) (s o : Int) (w : World) (hk : key.length = 32) (h : ¬ fineG s o) :
    Calls Tryd.prog 8 #[.agg (bvs key), .int .i64 s, .int .i64 o] w fun e w' => e = .returned (.tuple #[.pointer none, .int .i64 1]) ∧ Below w.heap.size w w' := by
  unfold fineG at h
  by_cases h1 : min s o < 0
  · go_enter Tryd.func8, Tryd.ntmps8
    go_wp2_with fail
    refine bodyPost_ret (results_tmp2 rfl _ _ _) rfl ?_
    exact ⟨rfl, (Below.refl _ _).alloc (Nat.le_refl _) _⟩
  by_cases h2 : (64 : Int) ≤ max s o
  · go_enter Tryd.func8, Tryd.ntmps8
    go_wp2_with fail
    refine bodyPost_ret (results_tmp2 rfl _ _ _) rfl ?_
    exact ⟨rfl, (Below.refl _ _).alloc (Nat.le_refl _) _⟩
  have h3 : s = o := by omega
  go_enter Tryd.func8, Tryd.ntmps8
  go_wp2_with fail
  refine bodyPost_ret (results_tmp2 rfl _ _ _) rfl ?_
  exact ⟨rfl, (Below.refl _ _).alloc (Nat.le_refl _) _⟩
set_option maxRecDepth 100000 in
set_option maxHeartbeats 1000000 in
theorem sesNew_ok (key : List UInt8) (s o : Int) (w : World) (hT : Tab w) (h0 : 0 < w.heap.size) (hk : key.length = 32) (h : fineG s o) :
    Calls Tryd.prog 8 #[.agg (bvs key), .int .i64 s, .int .i64 o] w fun e w' => ∃ g, e = .returned (.tuple #[.pointer (some ⟨g, 0, none⟩), .int .i64 0]) ∧ Ses w' g (frameK key) s o 0 0 0 ∧ w.heap.size ≤ g ∧ Below w.heap.size w w' := by
  unfold fineG at h
  have h1 : ¬ min s o < 0 := by omega
  have h2 : ¬ (64 : Int) ≤ max s o := by omega
  have h3 : ¬ s = o := h.2.2.2.2
  have hbz : (bvs key).size = 32 := by rw [bvs_size]; exact hk
  have hA : Below w.heap.size w (w.alloc (.cells (bvs key) 23)) := (Below.refl _ _).alloc (Nat.le_refl _) _
  have HT := Lib.hid (And.intro (hT.below hA h0) (Nat.lt_of_lt_of_le h0 hA.size))
  have HA := Lib.hid hA
  clear hA hT h
  obtain ⟨d, hd⟩ : ∃ d, d = frameK key := ⟨_, rfl⟩
  have hdl : d.length = 32 := by rw [hd]; exact frameK_length _
  rw [← hd]
  have HD := Lib.hid hd
  clear hd
  go_enter Tryd.func8, Tryd.ntmps8
  go_wp2_with (refine wpList_load_blk rfl 23 (.tmp 3) rfl w.heap.size 23 (bvs key) rfl (Blk.new w _ _) Tryd.underlying23 rfl (by rw [hbz]; kernel_rfl) ?_)
  refine (macDer_any key ⟨#[102, 114, 97, 109, 101]⟩ 0 _ HT.out.1 HT.out.2 hk (by decide) (by decide)).mono ?_
  rintro e w2 ⟨rfl, hb2⟩
  rw [show derF key (sb ⟨#[102, 114, 97, 109, 101]⟩) 0 = d from HD.out.symm]
  have HB2 := Lib.hid (HA.out.trans (hb2.mono (by simp)))
  clear hb2
  go_wp2_with (refine wpList_build_ses rfl _ rfl d s o hdl (by simp [Act.eval]) ?_)
  refine bodyPost_ret (results_tmp2 rfl _ _ _) rfl ?_
  exact ⟨_, rfl, Blk.new w2 _ _, HB2.out.size, HB2.out.alloc HB2.out.size _⟩
end Go.Proofs.YtlkhbfafednegaaDoor
