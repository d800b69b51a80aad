/-
  'awake' of the digest's laws.
-/
import Derived.Test.YtjgleonbkipidaaDoorDg9
import Derived.Lib.SlBytesConst
namespace Go.Proofs.YtjgleonbkipidaaDoor
open Go Go.RowKit

theorem abc0 : ((at8 (sha [97, 98, 99]) 0).toNat : Int) = 186 := by decide +kernel
theorem abc1 : ((at8 (sha [97, 98, 99]) 1).toNat : Int) = 120 := by decide +kernel
theorem abc30 : ((at8 (sha [97, 98, 99]) 30).toNat : Int) = 21 := by decide +kernel
theorem abc31 : ((at8 (sha [97, 98, 99]) 31).toNat : Int) = 173 := by decide +kernel
theorem ab : (!(([97] : List UInt8) == [98]) && (sha [97] == sha [98])) = false := by decide +kernel

set_option maxRecDepth 100000 in
set_option maxHeartbeats 1000000 in
theorem awake2_any (w : World) (hT : Tab w) (h0 : 0 < w.heap.size) :
    Calls Tryd.prog 14 #[] w fun e w' => e = .returned (.bool true) ∧ Below w.heap.size w w' := by
  have HT := Lib.hid hT
  clear hT
  have k1 := lit_at Tryd.underlying24 Tryd.underlying5 w #[.int .u8 97] 1 1 w.heap.size 1 2 rfl rfl rfl
  have k2 := lit_at Tryd.underlying24 Tryd.underlying5 (w.alloc (.cells #[.int .u8 97] 5 (1, 2))) #[.int .u8 98, .int .u8 99] 2 2 (w.heap.size + 1) 2 3 (by simp) rfl rfl
  go_enter Tryd.func14, Tryd.ntmps14
  go_wp2_with fail
  have a1 : HB (w.alloc (.cells #[.int .u8 97] 5 (1, 2))) (.slice (some ⟨w.heap.size, 0, none⟩) 1 1) [97] := HB.new w [97] _ _ rfl rfl (by decide)
  have a2 : HB ((w.alloc (.cells #[.int .u8 97] 5 (1, 2))).alloc (.cells #[.int .u8 98, .int .u8 99] 5 (2, 3))) (.slice (some ⟨w.heap.size + 1, 0, none⟩) 2 2) [98, 99] := HB.new _ [98, 99] _ _ (by simp) rfl (by decide)
  have hB : Below w.heap.size w ((((w.alloc (.cells #[.int .u8 97] 5 (1, 2))).alloc (.cells #[.int .u8 98, .int .u8 99] 5 (2, 3)))).alloc (.cells #[.slice (some ⟨w.heap.size, 0, none⟩) 1 1, .slice (some ⟨w.heap.size + 1, 0, none⟩) 2 2] 24)) :=
    (((Below.refl w.heap.size w).alloc (Nat.le_refl _) _).alloc (by simp) _).alloc (by simp; omega) _
  have hP := parts_new (t := 24) (vs := [.slice (some ⟨w.heap.size, 0, none⟩) 1 1, .slice (some ⟨w.heap.size + 1, 0, none⟩) 2 2]) (ls := [[97], [98, 99]]) (g := w.heap.size + 1 + 1) (n := 2) (w := (w.alloc (.cells #[.int .u8 97] 5 (1, 2))).alloc (.cells #[.int .u8 98, .int .u8 99] 5 (2, 3))) (by simp) rfl rfl
    (fun i v l hv hl => by
      match i with
      | 0 => simp at hv hl; subst hv; subst hl; exact a1.alloc _
      | 1 => simp at hv hl; subst hv; subst hl; exact a2
      | i + 2 => simp at hv)
  refine (of_any _ [[97], [98, 99]] _ (HT.out.below hB h0) (by simp) hP (by simp) (by simp)).mono ?_
  rintro e w1 ⟨rfl, hb1⟩
  rw [show ([[97], [98, 99]] : List (List UInt8)).flatten = [97, 98, 99] from rfl]
  have HB1 : Hid (Below w.heap.size w w1) := Lib.hid (hB.trans (hb1.mono (by simp; omega)))
  clear hB hP a1 a2 k1 k2 hb1
  have hsz : (bvs (sha [97, 98, 99])).size = 32 := by rw [bvs_size]; exact sha_length _
  have hsl : (sha [97, 98, 99]).length = 32 := sha_length _
  go_wp2_with (refine wpList_store_blk rfl 26 (.tmp 1) (.tmp 7) rfl w1.heap.size 26 _ (bvs (sha [97, 98, 99])) rfl rfl (Blk.new _ _ _) (by rw [hsz]; rfl) (by rw [hsz]; kernel_rfl) (bvs_one _) ?_
               intro w2 hb2 hg2 hz2
               have HB2 : Hid (Below w.heap.size w w2) := Lib.hid ((HB1.out.alloc HB1.out.size _).grown hg2 (by have := HB1.out.size; simp; omega) (by intro k hk; injection hk with hk; have := HB1.out.size; omega))
               have c0 : w2.cell? ⟨w1.heap.size, 0, none⟩ = some (.int .u8 186) := (hb2.byte (by omega)).trans (by rw [abc0])
               have c1 : w2.cell? ⟨w1.heap.size, 1, none⟩ = some (.int .u8 120) := (hb2.byte (by omega)).trans (by rw [abc1])
               have c30 : w2.cell? ⟨w1.heap.size, 30, none⟩ = some (.int .u8 21) := (hb2.byte (by omega)).trans (by rw [abc30])
               have c31 : w2.cell? ⟨w1.heap.size, 31, none⟩ = some (.int .u8 173) := (hb2.byte (by omega)).trans (by rw [abc31])
               have k3 := lit_at Tryd.underlying24 Tryd.underlying5 w2 #[.int .u8 97] 1 1 w2.heap.size 1 2 rfl rfl rfl
               have k4 := lit_at Tryd.underlying24 Tryd.underlying5 (w2.alloc (.cells #[.int .u8 97] 5 (1, 2))) #[.int .u8 98] 1 1 (w2.heap.size + 1) 1 2 (by simp) rfl rfl
               clear hb2 hg2 hz2)
  have a1 : HB ((w2.alloc (.cells #[.int .u8 97] 5 (1, 2))).alloc (.cells #[.int .u8 98] 5 (1, 2))) (.slice (some ⟨w2.heap.size, 0, none⟩) 1 1) [97] := (HB.new w2 [97] _ _ rfl rfl (by decide)).alloc _
  have a2 : HB ((w2.alloc (.cells #[.int .u8 97] 5 (1, 2))).alloc (.cells #[.int .u8 98] 5 (1, 2))) (.slice (some ⟨w2.heap.size + 1, 0, none⟩) 1 1) [98] := HB.new _ [98] _ _ (by simp) rfl (by decide)
  have hB : Below w.heap.size w ((w2.alloc (.cells #[.int .u8 97] 5 (1, 2))).alloc (.cells #[.int .u8 98] 5 (1, 2))) := (HB2.out.alloc HB2.out.size _).alloc (by have := HB2.out.size; simp; omega) _
  refine (two_any _ _ [97] [98] _ (HT.out.below hB h0) (by simp) a1 a2 (by simp) (by simp)).mono ?_
  rintro e w3 ⟨rfl, hb3⟩
  rw [ab]
  have HB3 : Hid (Below w.heap.size w w3) := Lib.hid (hB.trans (hb3.mono (by have := HB2.out.size; simp; omega)))
  clear hB a1 a2 k3 k4 hb3
  go_wp2_with fail
  go_ret
  exact ⟨rfl, HB3.out⟩
end Go.Proofs.YtjgleonbkipidaaDoor
