/-
  What a side's key says; how many were sent.
-/
import Derived.Test.YtlkhbfafednegaaDoorSn1
import Derived.Test.YtlkhbfafednegaaDoorGE
namespace Go.Proofs.YtlkhbfafednegaaDoor
open Go Go.RowKit
set_option linter.unusedSimpArgs false
set_option linter.unusedVariables false

theorem calls_abs {P : Program} {n : FuncId} {args : Array Value} {Q : Ending → World → Prop} {w : World} (R : World → Prop) (h : R w) (k : ∀ W, R W → Calls P n args W Q) : Calls P n args w Q := k w h
theorem range_below {w w' : World} {b o : Nat} {l : List Value} (h : w.rangeAt b o l) (hb : Below w.heap.size w w') : w'.rangeAt b o l := fun j v hv => (hb.cell (block_lt_of_cell (h j v hv))).trans (h j v hv)

set_option maxRecDepth 100000 in
set_option maxHeartbeats 1000000 in
theorem says_any (g : Nat) (k : List UInt8) (s o : Int) (n : Nat) (t b : UInt64) (v : Value) (l : List UInt8) (w : World) (hT : Tab w) (h0 : 0 < w.heap.size) (hS : Ses w g k s o n t b) (hk : k.length = 32) (hv : HB w v l) (hl : l.length ≤ 999900) :
    Calls Tryd.prog 22 #[.pointer (some ⟨g, 0, none⟩), v] w fun e w' => e = .returned (.agg (bvs (macF k l))) ∧ Below w.heap.size w w' := by
  have hB : ∀ cs : Array Value, Blk (w.alloc (.cells cs 66)) w.heap.size 66 cs := fun cs => Blk.new w _ _
  have hA : ∀ cs : Array Value, Below w.heap.size w (w.alloc (.cells cs 66)) := fun cs => (Below.refl _ _).alloc (Nat.le_refl _) _
  have HK : Hid (∀ cs : Array Value, (w.alloc (.cells cs 66)).rangeAt g 0 (k.map bcv)) := Lib.hid (fun cs => range_below hS.key (hA cs))
  have HT := Lib.hid (And.intro hT h0)
  have HV := Lib.hid hv
  have HAB := Lib.hid (And.intro hA hB)
  obtain ⟨p, c, rfl, -, -⟩ := hv.form
  obtain ⟨m, hm⟩ : ∃ m, m = macF k l := ⟨_, rfl⟩
  have hml : m.length = 32 := by rw [hm]; exact macF_length _ _
  have hmz : (bvs m).size = 32 := by rw [bvs_size]; exact hml
  rw [← hm]
  have HM := Lib.hid hm
  clear hm hT hS hv hA hB h0
  go_enter Tryd.func22, Tryd.ntmps22
  go_wp2_with (refine wpList_load_mid rfl 23 (.tmp 7) rfl g 0 rfl (k.map bcv) _ (HK.out _) Tryd.underlying23 rfl (by rw [List.length_map, hk]; kernel_rfl) ?_)
  refine calls_abs (fun W => Hid (Parts W (.slice (some ⟨w.heap.size + 1, 0, none⟩) 1 1) [l] ∧ Below w.heap.size w W ∧ ∃ cs, Blk W w.heap.size 66 cs ∧ cs.size = 32)) (Lib.hid ⟨?_, ?_, ?_⟩) ?_
  · have h := fun cs : Array Value => parts_new1 (t := 24) rfl (HV.out.keep (HAB.out.1 cs))
    simp only [World.size_alloc] at h
    exact h _
  · exact (HAB.out.1 _).alloc (by simp) _
  · exact ⟨_, (HAB.out.2 _).alloc _, rfl⟩
  clear HAB HK
  rintro W1 HI1
  refine (macOf_any k _ [l] W1 hk (HT.out.1.below HI1.out.2.1 HT.out.2) (Nat.lt_of_lt_of_le HT.out.2 HI1.out.2.1.size) HI1.out.1 (by simp) (by simp; omega)).mono ?_
  rintro e w2 ⟨rfl, hb2⟩
  rw [show macF k ([l] : List (List UInt8)).flatten = m by rw [HM.out]; simp]
  have HI2 : Hid (∃ cs, Blk w2 w.heap.size 66 cs ∧ cs.size = 32 ∧ Below w.heap.size w w2) := Lib.hid (by
    obtain ⟨cs, h1, h2⟩ := HI1.out.2.2
    exact ⟨cs, h1.below hb2 h1.lt, h2, HI1.out.2.1.trans (hb2.mono HI1.out.2.1.size)⟩)
  clear hb2 HI1
  obtain ⟨cs, hcs⟩ := HI2.out
  have HC := Lib.hid hcs
  clear HI2 hcs
  go_wp2_with (
    (refine wpList_store_blk rfl 66 (.tmp 4) (.tmp 11) rfl w.heap.size 66 cs (bvs m) rfl rfl HC.out.1 (by rw [hmz, HC.out.2.1]) (by rw [hmz]; kernel_rfl) (bvs_one _) ?_
     intro w4 hb4 hg4 hz4))
  refine bodyPost_ret (results_cell Tryd.results22 rfl (t := 66) (g := w.heap.size) (cs := bvs m) hb4 Tryd.underlying66 rfl (by rw [hmz]; kernel_rfl)) rfl ⟨rfl, ?_⟩
  exact HC.out.2.2.grown hg4 HC.out.2.2.size (by intro k hk; injection hk with hk; omega)

set_option maxRecDepth 100000 in
set_option maxHeartbeats 1000000 in
theorem signed_any (g base : Nat) (k : List UInt8) (s o : Int) (n : Nat) (t b : UInt64) (v : Value) (l : List UInt8) (w : World) (hT : Tab w) (h0 : 0 < w.heap.size) (hS : Ses w g k s o n t b) (hk : k.length = 32) (hv : w.ownsRow base 5 1 v l.length (l.map bcv)) (hbase : base ≤ w.heap.size) (hl : l.length ≤ 999900) :
    Calls Tryd.prog 20 #[v, .func (.func 22) #[.pointer (some ⟨g, 0, none⟩)] #[]] w fun e w' => ∃ v', e = .returned v' ∧ w'.ownsRow base 5 1 v' (l ++ macF k l).length ((l ++ macF k l).map bcv) ∧ Below base w w' := by
  obtain ⟨i8, hi8, hz8, hsz8, hby8⟩ := info8
  have HI8 := Lib.hid hi8; clear hi8
  obtain ⟨A, c, rfl⟩ := own_form hv
  obtain ⟨m, hm⟩ : ∃ m, m = macF k l := ⟨_, rfl⟩
  have hml : m.length = 32 := by rw [hm]; exact macF_length _ _
  have hmz : (bvs m).size = 32 := by rw [bvs_size]; exact hml
  rw [← hm]
  have HM := Lib.hid hm
  have HV := Lib.hid hv
  have HS := Lib.hid hS
  have HT := Lib.hid (And.intro hT h0)
  clear hm hT hv hS h0
  go_enter Tryd.func20, Tryd.ntmps20
  go_wp2_with fail
  refine (says_any g k s o n t b _ l w HT.out.1 HT.out.2 HS.out hk (own_hb HV.out rfl) hl).mono ?_
  rintro e w2 ⟨rfl, hb2⟩
  rw [← HM.out]
  have HI2 := Lib.hid (And.intro (own_below HV.out hb2) hb2)
  clear hb2
  go_wp2_with (first
    | (refine wpList_store_blk rfl 66 (.tmp 5) (.tmp 8) rfl w2.heap.size 66 _ (bvs m) rfl rfl (Blk.new _ _ _) (by rw [hmz]; rfl) (by rw [hmz]; kernel_rfl) (bvs_one _) ?_
       intro w3 hb3 hg3 hz3
       have hBV : Below w2.heap.size w2 w3 := ((Below.refl w2.heap.size w2).alloc (Nat.le_refl _) _).grown hg3 (by simp) (by intro k hk; injection hk with hk; omega)
       have HI3 : Hid (Blk w3 w2.heap.size 66 (bvs m) ∧ w3.ownsRow base 5 1 (.slice A l.length c) l.length (l.map bcv) ∧ Below base w w3) := Lib.hid ⟨hb3, own_below HI2.out.1 hBV, (HI2.out.2.mono hbase).trans (hBV.mono (by have := HI2.out.2.size; omega))⟩
       clear hb3 hg3 hz3 hBV HI2)
    | (at_builtin
       refine wpList_append_hb rfl (.tmp 9) (.tmp 10) 24 rfl base 5 i8 Tryd.underlying24 HI8.out hz8 hsz8 hby8 (.slice A l.length c) (.slice (some ⟨w2.heap.size, 0, none⟩) 32 32) l m l.length rfl HI3.out.2.1 rfl (HB.blk HI3.out.1 hml (by decide)) (by rw [hml]; omega) (by have := HI3.out.2.2.size; omega) ?_
       intro v6 w6 ho6 hg6
       have HI6 : Hid (w6.ownsRow base 5 1 v6 (l ++ m).length ((l ++ m).map bcv) ∧ Below base w w6) := Lib.hid ⟨by rw [List.length_append]; exact ho6, HI3.out.2.2.grown hg6 (by have := HI3.out.2.2.size; omega) (fun j hj => own_ge HI3.out.2.1 j hj)⟩
       clear ho6 hg6 HI3))
  go_ret
  exact ⟨_, rfl, HI6.out⟩

set_option maxRecDepth 100000 in
theorem sent_any (g : Nat) (k : List UInt8) (s o : Int) (n : Nat) (t b : UInt64) (w : World) (hS : Ses w g k s o n t b) (hk : k.length = 32) :
    Calls Tryd.prog 12 #[.pointer (some ⟨g, 0, none⟩)] w fun e w' => e = .returned (.int .u64 (n : Int)) ∧ w = w' := by
  obtain ⟨-, -, h3, -, -⟩ := hS.cells hk
  clear hS
  go_enter Tryd.func12, Tryd.ntmps12
  go_wp2_with fail
  go_ret
  exact ⟨rfl, rfl⟩
set_option maxRecDepth 100000 in
theorem sent_nil (w : World) : Calls Tryd.prog 12 #[.pointer none] w fun e w' => e = .returned (.int .u64 0) ∧ w = w' := by
  go_enter Tryd.func12, Tryd.ntmps12
  go_wp2_with fail
  go_ret
  exact ⟨rfl, rfl⟩
set_option maxRecDepth 100000 in
theorem skip_nil (m : Nat) (w : World) : Calls Tryd.prog 14 #[.pointer none, .int .u64 (m : Int)] w fun e w' => e = .returned (.tuple #[]) ∧ w = w' := by
  go_enter Tryd.func14, Tryd.ntmps14
  go_wp2_with fail
  go_end0
  exact ⟨rfl, rfl⟩
set_option maxRecDepth 100000 in
theorem skip_any (g : Nat) (k : List UInt8) (s o : Int) (n m : Nat) (t b : UInt64) (w : World) (hS : Ses w g k s o n t b) (hk : k.length = 32) :
    Calls Tryd.prog 14 #[.pointer (some ⟨g, 0, none⟩), .int .u64 (m : Int)] w fun e w' => e = .returned (.tuple #[]) ∧ Ses w' g k s o (max n m) t b ∧ w.grownBy w' (some g) := by
  obtain ⟨-, -, h3, -, -⟩ := hS.cells hk
  have f3 := hS.frozen 34
  have HS := Lib.hid hS
  have hmx : max (n : Int) (m : Int) = ((max n m : Nat) : Int) := by omega
  clear hS
  go_enter Tryd.func14, Tryd.ntmps14
  go_wp2_with fail
  go_end0
  exact ⟨rfl, HS.out.sent hk _, Only.store (World.grownBy.refl _ _) (.inl rfl) _⟩
end Go.Proofs.YtlkhbfafednegaaDoor
