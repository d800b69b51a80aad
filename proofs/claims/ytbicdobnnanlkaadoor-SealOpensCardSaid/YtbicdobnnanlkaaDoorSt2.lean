/-
  The walk of the stream's quarter.
-/
import Derived.Test.YtbicdobnnanlkaaDoorSt1
namespace Go.Proofs.YtbicdobnnanlkaaDoor
open Go Go.RowKit

/-- a quarter's places as an array's cells -/
def qv (q : Nat × Nat × Nat × Nat) : Array Value := #[.int .i64 (q.1 : Int), .int .i64 (q.2.1 : Int), .int .i64 (q.2.2.1 : Int), .int .i64 (q.2.2.2 : Int)]

set_option maxRecDepth 100000 in
set_option maxHeartbeats 1000000 in
theorem quarter_any (g : Nat) (s : List UInt32) (q0 q1 q2 q3 : Nat) (w : World) (hs : s.length = 16) (h0 : q0 < 16) (h1 : q1 < 16) (h2 : q2 < 16) (h3 : q3 < 16) (hB : Blk w g 77 (wvs s)) :
    Calls Tryd.prog 41 #[.pointer (some ⟨g, 0, none⟩), .agg #[.int .i64 (q0 : Int), .int .i64 (q1 : Int), .int .i64 (q2 : Int), .int .i64 (q3 : Int)]] w fun e w' => (∃ v, e = .returned v) ∧ Blk w' g 77 (wvs (quarterS s q0 q1 q2 q3)) ∧ w.grownBy w' (some g) := by
  have HB := Lib.hid hB
  clear hB
  go_enter Tryd.func41, Tryd.ntmps41
  obtain ⟨s1, hs1⟩ : ∃ s1, s1 = addS s q0 q1 q3 16 := ⟨_, rfl⟩
  obtain ⟨s2, hs2⟩ : ∃ s2, s2 = addS s1 q2 q3 q1 12 := ⟨_, rfl⟩
  obtain ⟨s3, hs3⟩ : ∃ s3, s3 = addS s2 q0 q1 q3 8 := ⟨_, rfl⟩
  obtain ⟨s4, hs4⟩ : ∃ s4, s4 = addS s3 q2 q3 q1 7 := ⟨_, rfl⟩
  have hl1 : s1.length = 16 := by rw [hs1, addS_length]; exact hs
  have hl2 : s2.length = 16 := by rw [hs2, addS_length]; exact hl1
  have hl3 : s3.length = 16 := by rw [hs3, addS_length]; exact hl2
  have HS : Hid (quarterS s q0 q1 q2 q3 = s4) := Lib.hid (by rw [hs4, hs3, hs2, hs1]; rfl)
  have HS1 := Lib.hid hs1; have HS2 := Lib.hid hs2; have HS3 := Lib.hid hs3; have HS4 := Lib.hid hs4
  clear hs1 hs2 hs3 hs4
  have hlt : g < w.heap.size := HB.out.lt
  have HI0 : Hid (Blk (w.alloc (.cells #[.int .i64 (q0 : Int), .int .i64 (q1 : Int), .int .i64 (q2 : Int), .int .i64 (q3 : Int)] 79)) w.heap.size 79 #[.int .i64 (q0 : Int), .int .i64 (q1 : Int), .int .i64 (q2 : Int), .int .i64 (q3 : Int)] ∧ Blk (w.alloc (.cells #[.int .i64 (q0 : Int), .int .i64 (q1 : Int), .int .i64 (q2 : Int), .int .i64 (q3 : Int)] 79)) g 77 (wvs s) ∧ w.grownBy (w.alloc (.cells #[.int .i64 (q0 : Int), .int .i64 (q1 : Int), .int .i64 (q2 : Int), .int .i64 (q3 : Int)] 79)) (some g)) :=
    Lib.hid ⟨Blk.new' rfl _ _, HB.out.alloc _, Only.new (World.grownBy.refl w (some g)) _⟩
  go_wp2_with (first
      | (go_at_call 52
         have hord := HI3
         clear hord
         refine (add_any g s3 q2 q3 q1 7 _ hl3 (by omega) (by omega) (by omega) (by decide) (by decide) HI3.out.2.1).mono ?_
         rintro e w4 ⟨⟨v4, rfl⟩, hb4, hg4⟩
         rw [← HS4.out] at hb4
         have HI4 : Hid (Blk w4 w.heap.size 79 #[.int .i64 (q0 : Int), .int .i64 (q1 : Int), .int .i64 (q2 : Int), .int .i64 (q3 : Int)] ∧ Blk w4 g 77 (wvs s4) ∧ w.grownBy w4 (some g)) := Lib.hid ⟨HI3.out.1.grown hg4 (by intro h; injection h with h; omega), hb4, Only.trans HI3.out.2.2 hg4 (fun j e => .inl (by injection e with e; exact e.symm))⟩
         have c0 := HI4.out.1.cell 0
         have c1 := HI4.out.1.cell 1
         have c2 := HI4.out.1.cell 2
         have c3 := HI4.out.1.cell 3
         simp only [List.getElem?_toArray, List.getElem?_cons_zero, List.getElem?_cons_succ] at c0 c1 c2 c3
         clear hb4 hg4 HI3)
      | (go_at_call 52
         have hord := HI2
         clear hord
         refine (add_any g s2 q0 q1 q3 8 _ hl2 (by omega) (by omega) (by omega) (by decide) (by decide) HI2.out.2.1).mono ?_
         rintro e w3 ⟨⟨v3, rfl⟩, hb3, hg3⟩
         rw [← HS3.out] at hb3
         have HI3 : Hid (Blk w3 w.heap.size 79 #[.int .i64 (q0 : Int), .int .i64 (q1 : Int), .int .i64 (q2 : Int), .int .i64 (q3 : Int)] ∧ Blk w3 g 77 (wvs s3) ∧ w.grownBy w3 (some g)) := Lib.hid ⟨HI2.out.1.grown hg3 (by intro h; injection h with h; omega), hb3, Only.trans HI2.out.2.2 hg3 (fun j e => .inl (by injection e with e; exact e.symm))⟩
         have c0 := HI3.out.1.cell 0
         have c1 := HI3.out.1.cell 1
         have c2 := HI3.out.1.cell 2
         have c3 := HI3.out.1.cell 3
         simp only [List.getElem?_toArray, List.getElem?_cons_zero, List.getElem?_cons_succ] at c0 c1 c2 c3
         clear hb3 hg3 HI2)
      | (go_at_call 52
         have hord := HI1
         clear hord
         refine (add_any g s1 q2 q3 q1 12 _ hl1 (by omega) (by omega) (by omega) (by decide) (by decide) HI1.out.2.1).mono ?_
         rintro e w2 ⟨⟨v2, rfl⟩, hb2, hg2⟩
         rw [← HS2.out] at hb2
         have HI2 : Hid (Blk w2 w.heap.size 79 #[.int .i64 (q0 : Int), .int .i64 (q1 : Int), .int .i64 (q2 : Int), .int .i64 (q3 : Int)] ∧ Blk w2 g 77 (wvs s2) ∧ w.grownBy w2 (some g)) := Lib.hid ⟨HI1.out.1.grown hg2 (by intro h; injection h with h; omega), hb2, Only.trans HI1.out.2.2 hg2 (fun j e => .inl (by injection e with e; exact e.symm))⟩
         have c0 := HI2.out.1.cell 0
         have c1 := HI2.out.1.cell 1
         have c2 := HI2.out.1.cell 2
         have c3 := HI2.out.1.cell 3
         simp only [List.getElem?_toArray, List.getElem?_cons_zero, List.getElem?_cons_succ] at c0 c1 c2 c3
         clear hb2 hg2 HI1)
      | (go_at_call 52
         have hord := HI0
         clear hord
         refine (add_any g s q0 q1 q3 16 _ hs (by omega) (by omega) (by omega) (by decide) (by decide) HI0.out.2.1).mono ?_
         rintro e w1 ⟨⟨v1, rfl⟩, hb1, hg1⟩
         rw [← HS1.out] at hb1
         have HI1 : Hid (Blk w1 w.heap.size 79 #[.int .i64 (q0 : Int), .int .i64 (q1 : Int), .int .i64 (q2 : Int), .int .i64 (q3 : Int)] ∧ Blk w1 g 77 (wvs s1) ∧ w.grownBy w1 (some g)) := Lib.hid ⟨HI0.out.1.grown hg1 (by intro h; injection h with h; omega), hb1, Only.trans HI0.out.2.2 hg1 (fun j e => .inl (by injection e with e; exact e.symm))⟩
         have c0 := HI1.out.1.cell 0
         have c1 := HI1.out.1.cell 1
         have c2 := HI1.out.1.cell 2
         have c3 := HI1.out.1.cell 3
         simp only [List.getElem?_toArray, List.getElem?_cons_zero, List.getElem?_cons_succ] at c0 c1 c2 c3
         clear hb1 hg1 HI0))
  go_end0
  rw [HS.out]
  exact ⟨⟨_, rfl⟩, HI4.out.2.1, HI4.out.2.2⟩
end Go.Proofs.YtbicdobnnanlkaaDoor
