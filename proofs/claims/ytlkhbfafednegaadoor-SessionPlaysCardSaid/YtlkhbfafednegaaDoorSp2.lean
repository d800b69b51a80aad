/-
  The law SessionPlays: a number is skipped.
-/
import Derived.Test.YtlkhbfafednegaaDoorSp1
namespace Go.Proofs.YtlkhbfafednegaaDoor
open Go Go.RowKit
set_option linter.unusedSimpArgs false
set_option linter.unusedVariables false

theorem setK_own (f : Nat → SidV) (kk : Nat) : setK f kk (f kk) = f := by
  funext i
  unfold setK
  split
  · next h => rw [h]
  · rfl
set_option maxRecDepth 1000000 in
set_option maxHeartbeats 2000000 in
theorem skip_leaf {x0 x1 x2 x3 x4 x5 x6 x7 x9 x10 x11 x14 x17 x18 x19 x20 x21 x22 x23 x24 x25 x26 x27 x28 x29 x30 x31 x32 x33 x34 x35 x36 x37 x38 x39 x40 x41 x42 x43 x44 x45 x46 x47 x48 x49 x50 x51 x52 x53 x54 x55 x56 x57 x58 x59 x60 x61 x62 x63 x64 x65 x66 x67 x68 x69 x70 x71 x72 x73 x74 x75 x76 x77 x78 x79 x80 x81 x82 x83 x84 x85 x86 x87 x88 x89 x90 x91 x92 x93 x94 x95 x96 x97 x98 x99 x100 x101 x102 x103 x104 x105 x106 x107 x108 x109 x110 x111 x112 x113 x114 x115 x116 x117 x118 x119 x120 x121 x122 x123 x124 x125 x126 x127 x128 x129 x130 x131 x132 x133 x134 x135 x136 x137 x138 x139 x140 x141 x142 x143 x144 x145 x146 x147 x148 x149 x150 x151 x152 x153 x154 x155 x156 x157 x158 x159 x160 x161 x162 x163 x164 x165 x166 x167 x168 x169 x170 x171 x172 x173 x174 x175 x176 x177 x178 x179 x180 x181 x182 x183 x184 x185 x186 x187 x188 x189 x190 x191 x192 x193 x194 x195 x196 x197 x198 x199 x200 x201 x202 x203 x204 x205 x206 x207 x208 x209 x210 x211 x212 x213 x214 x215 x216 x217 x218 x219 x220 x221 x222 x223 x224 x225 x226 x227 x228 x229 x230 x231 x232 x233 x234 x235 x236 x237 x238 x239 x240 x241 x242 x243 x244 x245 x246 x247 x248 x249 x250 x251 x252 x253 x254 x255 x256 x257 x258 x259 x260 x261 : Value} {Q : Exit → Act → World → Prop} {w W0 : World} {key dk : List UInt8} {g : Nat → Nat} {gs gm ga kk : Nat} {sd : Nat → SidV} {vb : Value} {a : ActR} {A : Option Addr} {c M : Nat} {ls : List (List UInt8)} (hk : key.length = 32) (hdl : dk.length = 32) (hkk : kk < 2) (H : Bg w W0 key dk g gs gm sd sd) (hR : StrR W0 w.heap.size (.slice A M c) M ls) (hB : Blk W0 ga 50 (actC vb a).toArray)
    (hQ : ∀ (u221 u222 u223 u224 u225 u226 u227 u228 u229 u230 u231 u232 u233 u234 u235 u236 u237 u238 u239 u240 u241 : Value) (W' : World), Bg w W' key dk g gs gm (setK sd kk (max (sd kk).1 a.n, (sd kk).2)) (setK sd kk (max (sd kk).1 a.n, (sd kk).2)) → StrR W' w.heap.size (.slice A M c) M ls → Q .normal ⟨List.toArray (x0 :: x1 :: x2 :: x3 :: x4 :: x5 :: x6 :: x7 :: .slice (some ⟨gs, 0, none⟩) 2 2 :: x9 :: x10 :: x11 :: .slice (some ⟨gm, 0, none⟩) 2 2 :: .slice A M c :: x14 :: .pointer (some ⟨ga, 0, none⟩) :: .int .i64 (kk : Int) :: x17 :: x18 :: x19 :: x20 :: x21 :: x22 :: x23 :: x24 :: x25 :: x26 :: x27 :: x28 :: x29 :: x30 :: x31 :: x32 :: x33 :: x34 :: x35 :: x36 :: x37 :: x38 :: x39 :: x40 :: x41 :: x42 :: x43 :: x44 :: x45 :: x46 :: x47 :: x48 :: x49 :: x50 :: x51 :: x52 :: x53 :: x54 :: x55 :: x56 :: x57 :: x58 :: x59 :: x60 :: x61 :: x62 :: x63 :: x64 :: x65 :: x66 :: x67 :: x68 :: x69 :: x70 :: x71 :: x72 :: x73 :: x74 :: x75 :: x76 :: x77 :: x78 :: x79 :: x80 :: x81 :: x82 :: x83 :: x84 :: x85 :: x86 :: x87 :: x88 :: x89 :: x90 :: x91 :: x92 :: x93 :: x94 :: x95 :: x96 :: x97 :: x98 :: x99 :: x100 :: x101 :: x102 :: x103 :: x104 :: x105 :: x106 :: x107 :: x108 :: x109 :: x110 :: x111 :: x112 :: x113 :: x114 :: x115 :: x116 :: x117 :: x118 :: x119 :: x120 :: x121 :: x122 :: x123 :: x124 :: x125 :: x126 :: x127 :: x128 :: x129 :: x130 :: x131 :: x132 :: x133 :: x134 :: x135 :: x136 :: x137 :: x138 :: x139 :: x140 :: x141 :: x142 :: x143 :: x144 :: x145 :: x146 :: x147 :: x148 :: x149 :: x150 :: x151 :: x152 :: x153 :: x154 :: x155 :: x156 :: x157 :: x158 :: x159 :: x160 :: x161 :: x162 :: x163 :: x164 :: x165 :: x166 :: x167 :: x168 :: x169 :: x170 :: x171 :: x172 :: x173 :: x174 :: x175 :: x176 :: x177 :: x178 :: x179 :: x180 :: x181 :: x182 :: x183 :: x184 :: x185 :: x186 :: x187 :: x188 :: x189 :: x190 :: x191 :: x192 :: x193 :: x194 :: x195 :: x196 :: x197 :: x198 :: x199 :: x200 :: x201 :: x202 :: x203 :: x204 :: x205 :: x206 :: x207 :: x208 :: x209 :: x210 :: x211 :: x212 :: x213 :: x214 :: x215 :: x216 :: x217 :: x218 :: x219 :: x220 :: u221 :: u222 :: u223 :: u224 :: u225 :: u226 :: u227 :: u228 :: u229 :: u230 :: u231 :: u232 :: u233 :: u234 :: u235 :: u236 :: u237 :: u238 :: u239 :: u240 :: u241 :: x242 :: x243 :: x244 :: x245 :: x246 :: x247 :: x248 :: x249 :: x250 :: x251 :: x252 :: x253 :: x254 :: x255 :: x256 :: x257 :: x258 :: x259 :: x260 :: x261 :: []), []⟩ W') : Code.wp Tryd.prog sSkip Q ⟨List.toArray (x0 :: x1 :: x2 :: x3 :: x4 :: x5 :: x6 :: x7 :: .slice (some ⟨gs, 0, none⟩) 2 2 :: x9 :: x10 :: x11 :: .slice (some ⟨gm, 0, none⟩) 2 2 :: .slice A M c :: x14 :: .pointer (some ⟨ga, 0, none⟩) :: .int .i64 (kk : Int) :: x17 :: x18 :: x19 :: x20 :: x21 :: x22 :: x23 :: x24 :: x25 :: x26 :: x27 :: x28 :: x29 :: x30 :: x31 :: x32 :: x33 :: x34 :: x35 :: x36 :: x37 :: x38 :: x39 :: x40 :: x41 :: x42 :: x43 :: x44 :: x45 :: x46 :: x47 :: x48 :: x49 :: x50 :: x51 :: x52 :: x53 :: x54 :: x55 :: x56 :: x57 :: x58 :: x59 :: x60 :: x61 :: x62 :: x63 :: x64 :: x65 :: x66 :: x67 :: x68 :: x69 :: x70 :: x71 :: x72 :: x73 :: x74 :: x75 :: x76 :: x77 :: x78 :: x79 :: x80 :: x81 :: x82 :: x83 :: x84 :: x85 :: x86 :: x87 :: x88 :: x89 :: x90 :: x91 :: x92 :: x93 :: x94 :: x95 :: x96 :: x97 :: x98 :: x99 :: x100 :: x101 :: x102 :: x103 :: x104 :: x105 :: x106 :: x107 :: x108 :: x109 :: x110 :: x111 :: x112 :: x113 :: x114 :: x115 :: x116 :: x117 :: x118 :: x119 :: x120 :: x121 :: x122 :: x123 :: x124 :: x125 :: x126 :: x127 :: x128 :: x129 :: x130 :: x131 :: x132 :: x133 :: x134 :: x135 :: x136 :: x137 :: x138 :: x139 :: x140 :: x141 :: x142 :: x143 :: x144 :: x145 :: x146 :: x147 :: x148 :: x149 :: x150 :: x151 :: x152 :: x153 :: x154 :: x155 :: x156 :: x157 :: x158 :: x159 :: x160 :: x161 :: x162 :: x163 :: x164 :: x165 :: x166 :: x167 :: x168 :: x169 :: x170 :: x171 :: x172 :: x173 :: x174 :: x175 :: x176 :: x177 :: x178 :: x179 :: x180 :: x181 :: x182 :: x183 :: x184 :: x185 :: x186 :: x187 :: x188 :: x189 :: x190 :: x191 :: x192 :: x193 :: x194 :: x195 :: x196 :: x197 :: x198 :: x199 :: x200 :: x201 :: x202 :: x203 :: x204 :: x205 :: x206 :: x207 :: x208 :: x209 :: x210 :: x211 :: x212 :: x213 :: x214 :: x215 :: x216 :: x217 :: x218 :: x219 :: x220 :: x221 :: x222 :: x223 :: x224 :: x225 :: x226 :: x227 :: x228 :: x229 :: x230 :: x231 :: x232 :: x233 :: x234 :: x235 :: x236 :: x237 :: x238 :: x239 :: x240 :: x241 :: x242 :: x243 :: x244 :: x245 :: x246 :: x247 :: x248 :: x249 :: x250 :: x251 :: x252 :: x253 :: x254 :: x255 :: x256 :: x257 :: x258 :: x259 :: x260 :: x261 :: []), []⟩ W0 := by
  have HI := Lib.hid (And.intro H (And.intro hR hB))
  have HQ := Lib.hid hQ
  have hgg := blk_ne (H.hses kk hkk) hB (by decide)
  have p0 := H.ptr hkk
  have a6 : W0.cell? ⟨ga, 6, none⟩ = some (.int .u64 (a.n : Int)) := hB.cell 6
  have HC := Lib.hid (And.intro (And.intro (lt_of_cell p0) p0) (And.intro (lt_of_cell a6) a6))
  have hkki : (kk : Int) < 2 := by omega
  have hkk0 : ¬ (kk : Int) < 0 := by omega
  clear p0 a6 H hR hB hQ
  conv => arg 2; whnf
  go_upto_region 47 with (fail)
  refine wp_region_tail2 6 [.eq (.slice (some ⟨gs, 0, none⟩) 2 2), .eq (.int .i64 (kk : Int)), .eq (.pointer (some ⟨gs, kk, none⟩)), .eq (.pointer (some ⟨g kk, 0, none⟩)), .eq (.pointer (some ⟨ga, 6, none⟩)), .eq (.int .u64 (a.n : Int))] (by kernel_rfl) (by kernel_rfl) (by kernel_rfl) (by kernel_rfl) rfl (by decide) (by kernel_rfl) _ (fun f => by simp only [framedL, Act.put, maskF, oldF, Nat.reduceLT, reduceIte, List.getElem?_toArray, List.getElem?_cons_succ, List.getElem?_cons_zero, Option.bind_some, Option.map_some, Option.map_none, Option.getD_some, Option.getD_none, Array.getD_eq_getD_getElem?, List.setIfInBounds_toArray, List.set_cons_zero, List.set_cons_succ, Nat.reduceAdd]; rfl) ⟨?_, ?_, ?_, ?_, ?_, ?_, trivial⟩ ?_
  · refine oweAs_pure ((.slice (some ⟨gs, 0, none⟩) 2 2)) rfl (fun f W hE hd => ?_) (fun W hE => rfl)
    go_simp
  · refine oweAs_pure ((.int .i64 (kk : Int))) rfl (fun f W hE hd => ?_) (fun W hE => rfl)
    go_simp
  · refine oweAs_pure ((.pointer (some ⟨gs, kk, none⟩))) rfl (fun f W hE hd => ?_) (fun W hE => rfl)
    simp only [DepAs, Region.binds, asAt, As.holds, and_true, forall_const] at hd
    go_simp
  · refine oweAs_pure ((.pointer (some ⟨g kk, 0, none⟩))) rfl (fun f W hE hd => ?_) (fun W hE => rfl)
    simp only [DepAs, Region.binds, asAt, As.holds, and_true, forall_const] at hd
    have hq := (hE.cell (p := ⟨gs, kk, none⟩) HC.out.1.1).trans HC.out.1.2
    go_simp
  · refine oweAs_pure ((.pointer (some ⟨ga, 6, none⟩))) rfl (fun f W hE hd => ?_) (fun W hE => rfl)
    simp only [DepAs, Region.binds, asAt, As.holds, and_true, forall_const] at hd
    go_simp
  · refine oweAs_pure ((.int .u64 (a.n : Int))) rfl (fun f W hE hd => ?_) (fun W hE => rfl)
    simp only [DepAs, Region.binds, asAt, As.holds, and_true, forall_const] at hd
    have hq := (hE.cell (p := ⟨ga, 6, none⟩) HC.out.2.1).trans HC.out.2.2
    go_simp
  intro f W hE hA
  simp only [AllAs, As.holds, Nat.reduceAdd] at hA
  obtain ⟨-, -, -, hA3, -, hA5, -⟩ := hA
  simp only [List.drop_succ_cons, List.drop_zero]
  rw [hA3, hA5]
  have HI2 : Hid (Bg w W key dk g gs gm sd sd ∧ StrR W w.heap.size (.slice A M c) M ls ∧ Blk W ga 50 (actC vb a).toArray) := Lib.hid ⟨HI.out.1.below hE, HI.out.2.1.keep hE, HI.out.2.2.below hE HI.out.2.2.lt⟩
  obtain ⟨n, hn⟩ : ∃ n, n = (sd kk).1 := ⟨_, rfl⟩
  obtain ⟨m, hm⟩ : ∃ m, m = a.n := ⟨_, rfl⟩
  rw [← hm]
  have hgt : some (g kk) = some (g kk) := rfl
  have HGE := Lib.hid (And.intro hgg (And.intro hn hm))
  clear hE hA3 hA5 HC hgt hgg hn hm
  go_wp2_with fail
  refine (skip_any (g kk) dk ((kk : Nat) : Int) ((1 - kk : Nat) : Int) n m (sd kk).2.1 (sd kk).2.2 W (by rw [HGE.out.2.1]; exact HI2.out.1.hses kk hkk) hdl).mono ?_
  rintro e w3 ⟨rfl, hs3, hg3⟩
  have HI3 : Hid (Bg w w3 key dk g gs gm (setK sd kk (max n m, (sd kk).2)) sd ∧ StrR w3 w.heap.size (.slice A M c) M ls ∧ Blk w3 ga 50 (actC vb a).toArray) := Lib.hid ⟨HI2.out.1.ses hkk hg3 hs3, HI2.out.2.1.grown hg3 (HI2.out.1.hses kk hkk) (by decide), HI2.out.2.2.grown hg3 (fun e => by injection e with e; exact HGE.out.1 e.symm)⟩
  clear hs3 hg3 HI2 HI
  go_upto_region 48 with (fail)
  have c0 := HI3.out.1.mcell hkk hk
  have a6 : w3.cell? ⟨ga, 6, none⟩ = some (.int .u64 (m : Int)) := by rw [HGE.out.2.2]; exact HI3.out.2.2.cell 6
  rw [← HGE.out.2.1] at c0
  have HC := Lib.hid (And.intro (And.intro (lt_of_cell c0) c0) (And.intro (lt_of_cell a6) a6))
  clear c0 a6
  by_cases hnm : n < m
  · have hnmi : (n : Int) < (m : Int) := by omega
    refine wp_region_as (ys := [.eq (.pointer (some ⟨ga, 6, none⟩)), .eq (.int .u64 (m : Int)), .eq (.slice (some ⟨gm, 0, none⟩) 2 2), .eq (.int .i64 (kk : Int)), .eq (.pointer (some ⟨gm, kk * 37, none⟩)), .eq (.pointer (some ⟨gm, kk * 37 + 34, none⟩)), .eq (.int .u64 (n : Int)), .eq (.bool true)]) (by kernel_rfl) (by kernel_rfl) (by kernel_rfl) (by kernel_rfl) rfl _ (fun f => by simp only [framedL, Act.put, List.setIfInBounds_toArray, List.set_cons_zero, List.set_cons_succ, Nat.reduceAdd]; rfl) ⟨?_, ?_, ?_, ?_, ?_, ?_, ?_, ?_, trivial⟩ ?_
    · refine oweAs_pure ((.pointer (some ⟨ga, 6, none⟩))) rfl (fun f W hE hd => ?_) (fun W hE => rfl)
      simp only [DepAs, Region.binds, asAt, As.holds, and_true, forall_const] at hd
      go_simp
    · refine oweAs_pure ((.int .u64 (m : Int))) rfl (fun f W hE hd => ?_) (fun W hE => rfl)
      simp only [DepAs, Region.binds, asAt, As.holds, and_true, forall_const] at hd
      have hq := (hE.cell (p := ⟨ga, 6, none⟩) HC.out.2.1).trans HC.out.2.2
      go_simp
    · refine oweAs_pure ((.slice (some ⟨gm, 0, none⟩) 2 2)) rfl (fun f W hE hd => ?_) (fun W hE => rfl)
      go_simp
    · refine oweAs_pure ((.int .i64 (kk : Int))) rfl (fun f W hE hd => ?_) (fun W hE => rfl)
      go_simp
    · refine oweAs_pure ((.pointer (some ⟨gm, kk * 37, none⟩))) rfl (fun f W hE hd => ?_) (fun W hE => rfl)
      simp only [DepAs, Region.binds, asAt, As.holds, and_true, forall_const] at hd
      go_simp
    · refine oweAs_pure ((.pointer (some ⟨gm, kk * 37 + 34, none⟩))) rfl (fun f W hE hd => ?_) (fun W hE => rfl)
      simp only [DepAs, Region.binds, asAt, As.holds, and_true, forall_const] at hd
      go_simp
    · refine oweAs_pure ((.int .u64 (n : Int))) rfl (fun f W hE hd => ?_) (fun W hE => rfl)
      simp only [DepAs, Region.binds, asAt, As.holds, and_true, forall_const] at hd
      have hq := (hE.cell (p := ⟨gm, kk * 37 + 34, none⟩) HC.out.1.1).trans HC.out.1.2
      go_simp
    · refine oweAs_pure ((.bool true)) rfl (fun f W hE hd => ?_) (fun W hE => rfl)
      simp only [DepAs, Region.binds, asAt, As.holds, and_true, forall_const] at hd
      go_simp
    intro f W hE hA
    simp only [AllAs, As.holds, Nat.reduceAdd] at hA
    obtain ⟨-, -, -, -, -, -, -, hA7, -⟩ := hA
    rw [hA7]
    have HI4 : Hid (Bg w W key dk g gs gm (setK sd kk (max n m, (sd kk).2)) sd ∧ StrR W w.heap.size (.slice A M c) M ls ∧ Blk W ga 50 (actC vb a).toArray) := Lib.hid ⟨HI3.out.1.below hE, HI3.out.2.1.keep hE, HI3.out.2.2.below hE HI3.out.2.2.lt⟩
    clear hE hA7 HI3 HC
    have a6 : W.cell? ⟨ga, 6, none⟩ = some (.int .u64 (m : Int)) := by rw [HGE.out.2.2]; exact HI4.out.2.2.cell 6
    have c0 := HI4.out.1.mcell hkk hk
    have f0 := HI4.out.1.mfroz (kk * 37 + 34)
    go_wp2_with fail
    refine HQ.out _ _ _ _ _ _ _ _ _ _ _ _ _ _ _ _ _ _ _ _ _ _ ?_ ?_
    · have h := HI4.out.1.msent hkk hk m
      have e : setK sd kk (max (sd kk).1 a.n, (sd kk).2) = setK sd kk (m, (sd kk).2) := by rw [← HGE.out.2.1, ← HGE.out.2.2, Nat.max_eq_right (Nat.le_of_lt hnm)]
      rw [Nat.max_eq_right (Nat.le_of_lt hnm)] at h
      rw [e]
      exact h
    · obtain ⟨cs, h1, h2⟩ := HI4.out.1.hm
      exact HI4.out.2.1.grown (Only.store (World.grownBy.refl W (some gm)) (.inl rfl) _) h1 (by decide)
  · have hnmi : ¬ (n : Int) < (m : Int) := by omega
    refine wp_region_as (ys := [.eq (.pointer (some ⟨ga, 6, none⟩)), .eq (.int .u64 (m : Int)), .eq (.slice (some ⟨gm, 0, none⟩) 2 2), .eq (.int .i64 (kk : Int)), .eq (.pointer (some ⟨gm, kk * 37, none⟩)), .eq (.pointer (some ⟨gm, kk * 37 + 34, none⟩)), .eq (.int .u64 (n : Int)), .eq (.bool false)]) (by kernel_rfl) (by kernel_rfl) (by kernel_rfl) (by kernel_rfl) rfl _ (fun f => by simp only [framedL, Act.put, List.setIfInBounds_toArray, List.set_cons_zero, List.set_cons_succ, Nat.reduceAdd]; rfl) ⟨?_, ?_, ?_, ?_, ?_, ?_, ?_, ?_, trivial⟩ ?_
    · refine oweAs_pure ((.pointer (some ⟨ga, 6, none⟩))) rfl (fun f W hE hd => ?_) (fun W hE => rfl)
      simp only [DepAs, Region.binds, asAt, As.holds, and_true, forall_const] at hd
      go_simp
    · refine oweAs_pure ((.int .u64 (m : Int))) rfl (fun f W hE hd => ?_) (fun W hE => rfl)
      simp only [DepAs, Region.binds, asAt, As.holds, and_true, forall_const] at hd
      have hq := (hE.cell (p := ⟨ga, 6, none⟩) HC.out.2.1).trans HC.out.2.2
      go_simp
    · refine oweAs_pure ((.slice (some ⟨gm, 0, none⟩) 2 2)) rfl (fun f W hE hd => ?_) (fun W hE => rfl)
      go_simp
    · refine oweAs_pure ((.int .i64 (kk : Int))) rfl (fun f W hE hd => ?_) (fun W hE => rfl)
      go_simp
    · refine oweAs_pure ((.pointer (some ⟨gm, kk * 37, none⟩))) rfl (fun f W hE hd => ?_) (fun W hE => rfl)
      simp only [DepAs, Region.binds, asAt, As.holds, and_true, forall_const] at hd
      go_simp
    · refine oweAs_pure ((.pointer (some ⟨gm, kk * 37 + 34, none⟩))) rfl (fun f W hE hd => ?_) (fun W hE => rfl)
      simp only [DepAs, Region.binds, asAt, As.holds, and_true, forall_const] at hd
      go_simp
    · refine oweAs_pure ((.int .u64 (n : Int))) rfl (fun f W hE hd => ?_) (fun W hE => rfl)
      simp only [DepAs, Region.binds, asAt, As.holds, and_true, forall_const] at hd
      have hq := (hE.cell (p := ⟨gm, kk * 37 + 34, none⟩) HC.out.1.1).trans HC.out.1.2
      go_simp
    · refine oweAs_pure ((.bool false)) rfl (fun f W hE hd => ?_) (fun W hE => rfl)
      simp only [DepAs, Region.binds, asAt, As.holds, and_true, forall_const] at hd
      go_simp
    intro f W hE hA
    simp only [AllAs, As.holds, Nat.reduceAdd] at hA
    obtain ⟨-, -, -, -, -, -, -, hA7, -⟩ := hA
    rw [hA7]
    have HI4 : Hid (Bg w W key dk g gs gm (setK sd kk (max n m, (sd kk).2)) sd ∧ StrR W w.heap.size (.slice A M c) M ls ∧ Blk W ga 50 (actC vb a).toArray) := Lib.hid ⟨HI3.out.1.below hE, HI3.out.2.1.keep hE, HI3.out.2.2.below hE HI3.out.2.2.lt⟩
    clear hE hA7 HI3 HC
    go_wp2_with fail
    refine HQ.out _ _ _ _ _ _ _ _ _ _ _ _ _ _ _ _ _ _ _ _ _ _ ?_ HI4.out.2.1
    have h := HI4.out.1
    have e : setK sd kk (max (sd kk).1 a.n, (sd kk).2) = sd := by
      rw [← HGE.out.2.1, ← HGE.out.2.2, Nat.max_eq_left (by omega), HGE.out.2.1]; exact setK_own sd kk
    have e2 : setK sd kk (max n m, (sd kk).2) = sd := by
      rw [Nat.max_eq_left (by omega), HGE.out.2.1]; exact setK_own sd kk
    rw [e2] at h
    rw [e]
    exact h
end Go.Proofs.YtlkhbfafednegaaDoor
