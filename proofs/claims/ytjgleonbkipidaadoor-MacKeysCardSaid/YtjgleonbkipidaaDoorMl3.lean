/-
  The walk of the law MacSame.
-/
import Derived.Test.YtjgleonbkipidaaDoorMl1
namespace Go.Proofs.YtjgleonbkipidaaDoor
open Go Go.RowKit

theorem xor_self8 (a x : UInt8) : a ^^^ x = a ↔ x = 0 := by
  constructor
  · intro h
    have h2 : a ^^^ (a ^^^ x) = a ^^^ a := by rw [h]
    rwa [← UInt8.xor_assoc, UInt8.xor_self, UInt8.zero_xor] at h2
  · rintro rfl; exact UInt8.xor_zero
/-- a whole array is loaded out of a block that is known, where a guard lets it -/
theorem wpList_load_blk_g {P : Program} {ops : Array Oper} {rest : List Oper} {o : Oper} {a : Act} {w : World} {Q : Exit → Act → World → Prop} (hw : Region.wanted o (yielded ops a.tmps) = true) (ty : TypeId) (x : Operand) (ho : o.op = .load ty x) (g : Nat) (t : TypeId) (cs : Array Value)
    (hx : a.eval x = .pointer (some ⟨g, 0, none⟩)) (hb : Blk w g t cs) {d : TypeDesc} (hu : P.underlying ty = some d) (hd : (match d with | .struct _ | .array _ _ => true | _ => false) = true) (hi : (P.info? ty).map (·.size) = some cs.size)
    (h : wpList P ops Q rest (a.put o.dst (.agg cs)) w) : wpList P ops Q (o :: rest) a w := by
  unfold wpList
  rw [if_pos hw]
  exact .inl (wp_load_row ty x ho g hx t cs (0, 0) d hb hu hd hi h)

set_option maxRecDepth 100000 in
set_option maxHeartbeats 1000000 in
theorem macSame_in (a b : List UInt8) (q : Nat) (x : UInt8) (k : Nat) (r : Bool) (w : World) (hT : Tab w) (h0 : 0 < w.heap.size) (ha : a.length = 32) (hq : q < 256) (hk : k = q % 32) (hb : b = a.set k (at8 a k ^^^ x)) (hr : ((x.toNat : Int) == 0) = r) (h1 : (a == b) = r) (h2 : (b == a) = r) :
    Calls Tryd.prog 11 #[.agg (bvs a), .int .u8 (q : Int), .int .u8 (x.toNat : Int)] w fun e w' => e = .returned (.bool true) ∧ Below w.heap.size w w' := by
  have hza : (bvs a).size = 32 := by rw [bvs_size]; exact ha
  have hbl : b.length = 32 := by rw [hb, List.length_set]; exact ha
  have hzb : (bvs b).size = 32 := by rw [bvs_size]; exact hbl
  have hk32 : k < 32 := by rw [hk]; exact Nat.mod_lt _ (by decide)
  have hkm : (q : Int) % 32 = (k : Int) := by omega
  have HT := Lib.hid hT
  have HB := Lib.hid hb
  have h3 : (a == a) = true := by simp
  clear hT hb hk
  go_enter Tryd.func11, Tryd.ntmps11
  go_wp2_with (first
    | (go_at_call 18
       refine (awake3_any _ (HT.out.below ((Below.refl w.heap.size w).alloc (Nat.le_refl _) _) h0) (by simp)).mono ?_
       rintro e w1 ⟨rfl, hb1⟩
       have HI : Hid (Blk w1 w.heap.size 26 (bvs a) ∧ Below w.heap.size w w1) := Lib.hid ⟨(Blk.new w _ _).below hb1 (by simp), ((Below.refl w.heap.size w).alloc (Nat.le_refl _) _).trans (hb1.mono (by simp))⟩
       clear hb1)
    | (refine wpList_load_blk rfl 26 (.tmp 3) rfl w.heap.size 26 (bvs a) rfl HI.out.1 Tryd.underlying26 rfl (by rw [hza]; kernel_rfl) ?_)
    | (refine wpList_store_blk rfl 26 (.tmp 8) (.tmp 12) rfl w1.heap.size 26 _ (bvs a) rfl rfl (Blk.new _ _ _) (by rw [hza]; rfl) (by rw [hza]; kernel_rfl) (bvs_one _) ?_
       intro w3 hb3 hg3 hz3
       have HI3 : Hid (Blk w3 w.heap.size 26 (bvs a) ∧ Blk w3 w1.heap.size 26 (bvs a) ∧ Below w.heap.size w w3 ∧ w.heap.size < w1.heap.size) := by
         have h1 := HI.out.1.lt
         exact Lib.hid ⟨(HI.out.1.alloc _).grown hg3 (by intro h; injection h with h; omega), hb3, (HI.out.2.alloc (by omega) _).grown hg3 (by simp; omega) (by intro k hk; injection hk with hk; omega), h1⟩
       have c0 := hb3.byte (i := k) (by omega)
       have f0 := hb3.frozen k
       clear hb3 hg3 hz3 HI)
    | (have e5 := xor8_rule (at8 a k) x
       rw [e5]
       have HI5 : Hid (Blk (w3.setCell ⟨w1.heap.size, k, none⟩ (.int .u8 ((at8 a k ^^^ x).toNat : Int))) w.heap.size 26 (bvs a) ∧ Blk (w3.setCell ⟨w1.heap.size, k, none⟩ (.int .u8 ((at8 a k ^^^ x).toNat : Int))) w1.heap.size 26 (bvs b) ∧ Below w.heap.size w (w3.setCell ⟨w1.heap.size, k, none⟩ (.int .u8 ((at8 a k ^^^ x).toNat : Int)))) := by
         have h9 := HI3.out.2.2.2
         refine Lib.hid ⟨HI3.out.1.other (by show w.heap.size ≠ w1.heap.size; omega) _, ?_, HI3.out.2.2.1.setCell (show w.heap.size ≤ w1.heap.size by omega) _⟩
         rw [HB.out]
         exact HI3.out.2.1.byte_store _ _
       generalize w3.setCell ⟨w1.heap.size, k, none⟩ (.int .u8 ((at8 a k ^^^ x).toNat : Int)) = w5 at *
       refine wpList_load_blk rfl 26 (.tmp 3) rfl w.heap.size 26 (bvs a) rfl HI5.out.1 Tryd.underlying26 rfl (by rw [hza]; kernel_rfl) ?_
       clear HI3 c0 f0 e5)
    | (go_at_call 23
       have hord := HI7
       clear hord
       refine (same_any a a _ ha ha).mono ?_
       rintro e w8 ⟨rfl, hb8⟩
       rw [h3]
       have HI8 : Hid (Blk w8 w.heap.size 26 (bvs a) ∧ Blk w8 w1.heap.size 26 (bvs b) ∧ Below w.heap.size w w8) := Lib.hid ⟨HI7.out.1.below hb8 HI7.out.1.lt, HI7.out.2.1.below hb8 HI7.out.2.1.lt, HI7.out.2.2.trans (hb8.mono HI7.out.2.2.size)⟩
       clear hb8 HI7)
    | (go_at_call 23
       have hord := HI6
       clear hord
       refine (same_any b a _ hbl ha).mono ?_
       rintro e w7 ⟨rfl, hb7⟩
       rw [h2]
       have HI7 : Hid (Blk w7 w.heap.size 26 (bvs a) ∧ Blk w7 w1.heap.size 26 (bvs b) ∧ Below w.heap.size w w7) := Lib.hid ⟨HI6.out.1.below hb7 HI6.out.1.lt, HI6.out.2.1.below hb7 HI6.out.2.1.lt, HI6.out.2.2.trans (hb7.mono HI6.out.2.2.size)⟩
       clear hb7 HI6)
    | (go_at_call 23
       refine (same_any a b _ ha hbl).mono ?_
       rintro e w6 ⟨rfl, hb6⟩
       rw [h1]
       have HI6 : Hid (Blk w6 w.heap.size 26 (bvs a) ∧ Blk w6 w1.heap.size 26 (bvs b) ∧ Below w.heap.size w w6) := Lib.hid ⟨HI5.out.1.below hb6 HI5.out.1.lt, HI5.out.2.1.below hb6 HI5.out.2.1.lt, HI5.out.2.2.trans (hb6.mono HI5.out.2.2.size)⟩
       clear hb6 HI5)
    | (refine wpList_load_blk_g rfl 26 (.tmp 3) rfl w.heap.size 26 (bvs a) rfl HI7.out.1 Tryd.underlying26 rfl (by rw [hza]; kernel_rfl) ?_)
    | (refine wpList_load_blk_g rfl 26 (.tmp 8) rfl w1.heap.size 26 (bvs b) rfl HI7.out.2.1 Tryd.underlying26 rfl (by rw [hzb]; kernel_rfl) ?_)
    | (refine wpList_load_blk_g rfl 26 (.tmp 3) rfl w.heap.size 26 (bvs a) rfl HI6.out.1 Tryd.underlying26 rfl (by rw [hza]; kernel_rfl) ?_)
    | (refine wpList_load_blk_g rfl 26 (.tmp 8) rfl w1.heap.size 26 (bvs b) rfl HI6.out.2.1 Tryd.underlying26 rfl (by rw [hzb]; kernel_rfl) ?_)
    | (refine wpList_load_blk rfl 26 (.tmp 3) rfl w.heap.size 26 (bvs a) rfl HI5.out.1 Tryd.underlying26 rfl (by rw [hza]; kernel_rfl) ?_)
    | (refine wpList_load_blk rfl 26 (.tmp 8) rfl w1.heap.size 26 (bvs b) rfl HI5.out.2.1 Tryd.underlying26 rfl (by rw [hzb]; kernel_rfl) ?_))
  go_ret
  exact ⟨rfl, HI8.out.2.2⟩

theorem set_ne8 (a : List UInt8) (k : Nat) (x : UInt8) (hk : k < a.length) : a = a.set k (at8 a k ^^^ x) ↔ x = 0 := by
  constructor
  · intro h
    have h2 := congrArg (fun l : List UInt8 => l[k]?) h
    simp only [List.getElem?_set_self hk] at h2
    have h3 : a[k]? = some (at8 a k) := by simp [at8, List.getD, hk]
    rw [h3] at h2
    injection h2 with h2
    exact (xor_self8 _ _).1 h2.symm
  · rintro rfl
    rw [UInt8.xor_zero]
    apply List.ext_getElem?
    intro i
    rw [List.getElem?_set]
    split
    · rename_i h; subst h; simp [at8, List.getD, hk]
    · rfl
theorem macSame_any (a : List UInt8) (q : UInt8) (x : UInt8) (w : World) (hT : Tab w) (h0 : 0 < w.heap.size) (ha : a.length = 32) :
    Calls Tryd.prog 11 #[.agg (bvs a), .int .u8 (q.toNat : Int), .int .u8 (x.toNat : Int)] w fun e w' => e = .returned (.bool true) ∧ Below w.heap.size w w' := by
  have hk : q.toNat % 32 < a.length := by rw [ha]; exact Nat.mod_lt _ (by decide)
  have hs := set_ne8 a (q.toNat % 32) x hk
  have hx0 : x = 0 ↔ x.toNat = 0 := ⟨fun h => by rw [h]; rfl, fun h => UInt8.toNat_inj.1 (by simpa using h)⟩
  refine macSame_in a _ q.toNat x (q.toNat % 32) (decide (x = 0)) w hT h0 ha q.toNat_lt rfl rfl ?_ ?_ ?_
  · rw [Bool.eq_iff_iff]; simp [hx0]
  · rw [Bool.eq_iff_iff, beq_iff_eq, decide_eq_true_iff]; exact hs
  · rw [Bool.eq_iff_iff, beq_iff_eq, decide_eq_true_iff, ← hs]; exact eq_comm
end Go.Proofs.YtjgleonbkipidaaDoor
