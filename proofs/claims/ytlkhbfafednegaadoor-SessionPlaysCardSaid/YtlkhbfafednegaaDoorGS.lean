/-
  '[]byte(s)', to be written into.
-/
/-
  The law SessionPlays: a side is given a frame.
-/
/-
  The law SessionPlays: a frame is spoiled, or not; then it is taken.
-/
/-
  The law SessionPlays: a frame that somebody made.
-/
/-
  The law SessionPlays: one of the frames that were sent; the whole of a take.
-/
/-
  The law SessionPlays: a round.
-/
/-
  The law SessionPlays: all rounds.
-/
import Derived.Test.YtlkhbfafednegaaDoorMc5
import Derived.Test.YtlkhbfafednegaaDoorCd4
import Derived.Test.YtlkhbfafednegaaDoorSp3
import Derived.Laws.Bits64b
namespace Go.Proofs.YtlkhbfafednegaaDoor
open Go Go.RowKit
set_option linter.unusedSimpArgs false
set_option linter.unusedVariables false

/-- bytes that lie at a block's start, and may be written -/
def FB (w : World) (g : Nat) (l : List UInt8) : Prop := ∃ cs t lo hi, w.heap[g]? = some (.cells cs t (lo, hi)) ∧ (∀ (i : Nat) (x : UInt8), l[i]? = some x → cs[i]? = some (.int .u8 (x.toNat : Int))) ∧ (∀ i, i < l.length → (decide (lo ≤ i) && decide (i < hi)) = false)
theorem FB.cell {w : World} {g : Nat} {l : List UInt8} (h : FB w g l) {i : Nat} (hi : i < l.length) : w.cell? ⟨g, i, none⟩ = some (.int .u8 ((at8 l i).toNat : Int)) := by
  obtain ⟨cs, t, lo, hi', h1, h2, h3⟩ := h
  simp only [World.cell?, h1]
  exact h2 i _ (at8_get hi)
theorem FB.frozen {w : World} {g : Nat} {l : List UInt8} (h : FB w g l) {i : Nat} (hi : i < l.length) : w.frozen? ⟨g, i, none⟩ = false := by
  obtain ⟨cs, t, lo, hi', h1, h2, h3⟩ := h
  simp only [World.frozen?, h1]
  exact h3 i hi
theorem FB.lt {w : World} {g : Nat} {l : List UInt8} (h : FB w g l) : g < w.heap.size := by
  obtain ⟨cs, t, lo, hi', h1, _⟩ := h
  exact (Array.getElem?_eq_some_iff.1 h1).1
theorem FB.below {B : Nat} {w w' : World} {g : Nat} {l : List UInt8} (h : FB w g l) (hb : Below B w w') (hg : g < B) : FB w' g l := by
  obtain ⟨cs, t, lo, hi', h1, h2⟩ := h
  exact ⟨cs, t, lo, hi', (hb.block g hg).trans h1, h2⟩
theorem FB.hb {w : World} {g C : Nat} {l : List UInt8} (h : FB w g l) (h1 : l.length ≤ C) (h2 : C ≤ maxLen) : HB w (.slice (some ⟨g, 0, none⟩) l.length C) l := by
  refine ⟨_, C, rfl, h1, h2, (fun h => by cases h), fun _ => ⟨g, 0, rfl, fun i x hx => ?_⟩⟩
  obtain ⟨cs, t, lo, hi', h3, h4, h5⟩ := h
  rw [Nat.zero_add]
  simp only [World.cell?, h3]
  exact h4 i x hx
theorem FB.store {w : World} {g : Nat} {l : List UInt8} (h : FB w g l) {j : Nat} (hj : j < l.length) (y : UInt8) : FB (w.setCell ⟨g, j, none⟩ (.int .u8 (y.toNat : Int))) g (l.set j y) := by
  obtain ⟨cs, t, lo, hi', h1, h2, h3⟩ := h
  refine ⟨cs.setIfInBounds j (.int .u8 (y.toNat : Int)), t, lo, hi', ?_, fun i x hx => ?_, fun i hi => h3 i (by rwa [List.length_set] at hi)⟩
  · simp only [World.setCell, Array.getElem?_modify, h1]
    simp
  · rw [Array.getElem?_setIfInBounds]
    rw [List.getElem?_set] at hx
    by_cases e : j = i
    · rw [if_pos e] at hx ⊢
      subst e
      have hc : j < cs.size := (Array.getElem?_eq_some_iff.1 (h2 j _ (at8_get hj))).1
      rw [if_pos hj] at hx
      rw [if_pos hc]
      injection hx with hx
      rw [hx]
    · rw [if_neg e] at hx ⊢
      exact h2 i x hx
theorem conv_str_w {P : Program} {src dst e : TypeId} (hs : P.underlying src = some .string) (hd : P.underlying dst = some (.slice e)) (he : P.underlying e = some (.int .u8)) (s : ByteArray) (w : World) (hz : s.size ≤ 1000000) :
    ∃ C w', (convert src dst (.string s)).run P w = .ok (.slice (some ⟨w.heap.size, 0, none⟩) (sb s).length C) w' ∧ FB w' w.heap.size (sb s) ∧ (sb s).length ≤ C ∧ C ≤ maxLen ∧ Below w.heap.size w w' := by
  refine ⟨_, _, by rw [sb_length]; exact run_bytes_of_string w src dst e s hs hd he, ?_, ?_, ?_, (Below.refl w.heap.size w).drew.alloc (Nat.le_refl _) _⟩
  · generalize grownCap w s.size 0 e = C at *
    have hb : (w.drew.alloc (.cells (bytesRow s C) e ((bytesRow s C).size, (bytesRow s C).size + 1))).heap[w.heap.size]? = some (.cells (bytesRow s C) e ((bytesRow s C).size, (bytesRow s C).size + 1)) := heap_alloc_new w.drew _
    have hc : ∀ (i : Nat) (x : UInt8), (sb s)[i]? = some x → (bytesRow s C)[i]? = some (.int .u8 (x.toNat : Int)) := fun i x hx => by
      have hi : i < s.size := by have := (List.getElem?_eq_some_iff.1 hx).1; rwa [sb_length] at this
      unfold bytesRow
      have hx2 : s.data[i]? = some x := by simpa [sb] using hx
      rw [Array.getElem?_append_left (by simpa using hi), Array.getElem?_map, hx2]
      rfl
    refine ⟨_, _, _, _, hb, hc, fun i hi => ?_⟩
    have hi2 : i < (bytesRow s C).size := (Array.getElem?_eq_some_iff.1 (hc i _ (at8_get hi))).1
    have : ¬ (bytesRow s C).size ≤ i := by omega
    simp [this]
  · rw [sb_length]; exact grownCap_ge w s.size 0 e
  · exact grownCap_le_maxLen w s.size 0 e (by simp only [maxLen]; omega)
end Go.Proofs.YtlkhbfafednegaaDoor
namespace Go.Proofs.YtlkhbfafednegaaDoor
open Go Go.RowKit
set_option linter.unusedSimpArgs false
set_option linter.unusedVariables false

noncomputable def sT1 : Code := playAt [1,1,1,1,1,1,1,0,1,0,0,1,0,0,1,1,1,1,0,1,0,1,1,1,1,1]
noncomputable def sT2 : Code := playAt [1,1,1,1,1,1,1,0,1,0,0,1,0,0,1,1,1,1,0,1,0,1,1,1,1,1,1]
noncomputable def sT3 : Code := playAt [1,1,1,1,1,1,1,0,1,0,0,1,0,0,1,1,1,1,0,1,0,1,1,1,1,1,1,1]
noncomputable def sT4 : Code := playAt [1,1,1,1,1,1,1,0,1,0,0,1,0,0,1,1,1,1,0,1,0,1,1,1,1,1,1,1,1]
set_option maxRecDepth 1000000 in
def TakeQ (x0 x1 x2 x3 x4 x5 x6 x7 x9 x10 x11 x14 x17 x18 x19 x20 x21 x22 x23 x24 x25 x26 x27 x28 x29 x30 x31 x32 x33 x34 x35 x36 x37 x38 x39 x40 x41 x42 x43 x44 x45 x46 x47 x48 x49 x50 x51 x52 x53 x54 x55 x56 x57 x58 x59 x60 x61 x62 x63 x64 x65 x66 x67 x68 x69 x70 x71 x72 x73 x74 x75 x76 x77 x78 x79 x80 x81 x82 x83 x84 x85 x86 x87 x88 x89 x90 x91 x92 x93 x94 x95 x96 x97 x98 x99 x100 x101 x102 x103 x104 x105 x106 x107 x108 x109 x110 x111 x112 x113 x114 x115 x116 x117 x118 x119 x120 x121 x122 x123 x124 x125 x126 x127 x128 x129 x130 x131 x132 x133 x134 x135 x136 x137 x138 x139 x140 x141 x142 x143 x144 x145 x146 x147 x148 x149 x150 x151 x152 x153 x154 x155 x156 x157 x158 x159 x160 x161 x162 x163 x164 x165 x166 x167 x168 x169 x170 x171 x172 x173 x174 x175 x176 x177 x178 x179 x180 x181 x182 x183 x184 x185 x186 x187 x188 x189 x190 x191 x192 x193 x194 x195 x196 x197 x198 x199 x200 x201 x202 x203 x204 x205 x206 x207 x208 x209 x210 x211 x212 x213 x214 x215 x216 x217 x218 x219 x220 x221 x222 x223 x224 x225 x226 x227 x228 x229 x230 x231 x232 x233 x234 x235 x236 x237 x238 x239 x240 x241 x242 x243 x244 x245 x246 x247 x248 x249 x250 x251 x252 x253 x254 x255 x256 x257 x258 x259 x260 x261 : Value) (Q : Exit → Act → World → Prop) (w : World) (key dk : List UInt8) (g : Nat → Nat) (gs gm ga kk : Nat) (sd : Nat → SidV) (A : Option Addr) (c M : Nat) (ls : List (List UInt8)) : Prop :=
  ∀ (u22 u23 u24 u25 u26 u27 u28 u79 u80 u81 u82 u83 u84 u85 u86 u87 u88 u89 u90 u91 u92 u93 u94 u95 u96 u97 u98 u99 u100 u101 u102 u103 u104 u105 u106 u107 u108 u109 u110 u111 u112 u113 u114 u115 u116 u117 u118 u119 u120 u121 u122 u123 u124 u125 u126 u127 u128 u129 u130 u131 u132 u133 u134 u135 u136 u137 u138 u139 u140 u141 u142 u143 u144 u145 u146 u147 u148 u149 u150 u151 u152 u153 u154 u155 u156 u157 u158 u159 u160 u161 u162 u163 u164 u165 u166 u167 u168 u169 u170 u171 u172 u173 u174 u175 u176 : Value) (tb : UInt64 × UInt64) (W' : World), Bg w W' key dk g gs gm (setK sd kk ((sd kk).1, tb)) (setK sd kk ((sd kk).1, tb)) → StrR W' w.heap.size (.slice A M c) M ls → Q .normal ⟨List.toArray (x0 :: x1 :: x2 :: x3 :: x4 :: x5 :: x6 :: x7 :: .slice (some ⟨gs, 0, none⟩) 2 2 :: x9 :: x10 :: x11 :: .slice (some ⟨gm, 0, none⟩) 2 2 :: .slice A M c :: x14 :: .pointer (some ⟨ga, 0, none⟩) :: .int .i64 (kk : Int) :: x17 :: x18 :: x19 :: x20 :: x21 :: u22 :: u23 :: u24 :: u25 :: u26 :: u27 :: u28 :: x29 :: x30 :: x31 :: x32 :: x33 :: x34 :: x35 :: x36 :: x37 :: x38 :: x39 :: x40 :: x41 :: x42 :: x43 :: x44 :: x45 :: x46 :: x47 :: x48 :: x49 :: x50 :: x51 :: x52 :: x53 :: x54 :: x55 :: x56 :: x57 :: x58 :: x59 :: x60 :: x61 :: x62 :: x63 :: x64 :: x65 :: x66 :: x67 :: x68 :: x69 :: x70 :: x71 :: x72 :: x73 :: x74 :: x75 :: x76 :: x77 :: x78 :: u79 :: u80 :: u81 :: u82 :: u83 :: u84 :: u85 :: u86 :: u87 :: u88 :: u89 :: u90 :: u91 :: u92 :: u93 :: u94 :: u95 :: u96 :: u97 :: u98 :: u99 :: u100 :: u101 :: u102 :: u103 :: u104 :: u105 :: u106 :: u107 :: u108 :: u109 :: u110 :: u111 :: u112 :: u113 :: u114 :: u115 :: u116 :: u117 :: u118 :: u119 :: u120 :: u121 :: u122 :: u123 :: u124 :: u125 :: u126 :: u127 :: u128 :: u129 :: u130 :: u131 :: u132 :: u133 :: u134 :: u135 :: u136 :: u137 :: u138 :: u139 :: u140 :: u141 :: u142 :: u143 :: u144 :: u145 :: u146 :: u147 :: u148 :: u149 :: u150 :: u151 :: u152 :: u153 :: u154 :: u155 :: u156 :: u157 :: u158 :: u159 :: u160 :: u161 :: u162 :: u163 :: u164 :: u165 :: u166 :: u167 :: u168 :: u169 :: u170 :: u171 :: u172 :: u173 :: u174 :: u175 :: u176 :: x177 :: x178 :: x179 :: x180 :: x181 :: x182 :: x183 :: x184 :: x185 :: x186 :: x187 :: x188 :: x189 :: x190 :: x191 :: x192 :: x193 :: x194 :: x195 :: x196 :: x197 :: x198 :: x199 :: x200 :: x201 :: x202 :: x203 :: x204 :: x205 :: x206 :: x207 :: x208 :: x209 :: x210 :: x211 :: x212 :: x213 :: x214 :: x215 :: x216 :: x217 :: x218 :: x219 :: x220 :: x221 :: x222 :: x223 :: x224 :: x225 :: x226 :: x227 :: x228 :: x229 :: x230 :: x231 :: x232 :: x233 :: x234 :: x235 :: x236 :: x237 :: x238 :: x239 :: x240 :: x241 :: x242 :: x243 :: x244 :: x245 :: x246 :: x247 :: x248 :: x249 :: x250 :: x251 :: x252 :: x253 :: x254 :: x255 :: x256 :: x257 :: x258 :: x259 :: x260 :: x261 :: []), []⟩ W'
set_option maxRecDepth 1000000 in
set_option maxHeartbeats 2000000 in
theorem told_leaf {x0 x1 x2 x3 x4 x5 x6 x7 x9 x10 x11 x14 x17 x18 x19 x20 x21 x22 x23 x24 x25 x26 x27 x28 x29 x30 x31 x32 x33 x34 x35 x36 x37 x38 x39 x40 x41 x42 x43 x44 x45 x46 x47 x48 x49 x50 x51 x52 x53 x54 x55 x56 x57 x58 x59 x60 x61 x62 x63 x64 x65 x66 x67 x68 x69 x70 x71 x72 x73 x74 x75 x76 x77 x78 x79 x80 x81 x82 x83 x84 x85 x86 x87 x88 x89 x90 x91 x92 x93 x94 x95 x96 x97 x98 x99 x100 x101 x102 x103 x104 x105 x106 x107 x108 x109 x110 x111 x112 x113 x114 x115 x116 x117 x118 x119 x120 x121 x122 x123 x124 x125 x126 x127 x128 x129 x130 x131 x132 x133 x134 x135 x136 x137 x138 x139 x140 x141 x142 x143 x144 x145 x146 x147 x148 x149 x150 x151 x152 x153 x154 x155 x156 x157 x158 x159 x160 x161 x162 x163 x164 x165 x166 x167 x168 x169 x170 x171 x172 x173 x174 x175 x176 x177 x178 x179 x180 x181 x182 x183 x184 x185 x186 x187 x188 x189 x190 x191 x192 x193 x194 x195 x196 x197 x198 x199 x200 x201 x202 x203 x204 x205 x206 x207 x208 x209 x210 x211 x212 x213 x214 x215 x216 x217 x218 x219 x220 x221 x222 x223 x224 x225 x226 x227 x228 x229 x230 x231 x232 x233 x234 x235 x236 x237 x238 x239 x240 x241 x242 x243 x244 x245 x246 x247 x248 x249 x250 x251 x252 x253 x254 x255 x256 x257 x258 x259 x260 x261 : Value} {Q : Exit → Act → World → Prop} {w W0 : World} {key dk : List UInt8} {g : Nat → Nat} {gs gm ga kk : Nat} {sd : Nat → SidV} {vb : Value} {a : ActR} {A : Option Addr} {c M : Nat} {ls : List (List UInt8)} {F : List UInt8} (HT : Hid (∀ W, Below w.heap.size w W → Tab W ∧ 0 < W.heap.size)) (hk : key.length = 32) (HD : Hid (dk = frameK key)) (hkk : kk < 2) (hF : F.length ≤ 300) (H : Bg w W0 key dk g gs gm sd sd) (hR : StrR W0 w.heap.size (.slice A M c) M ls)
    (hQ : TakeQ x0 x1 x2 x3 x4 x5 x6 x7 x9 x10 x11 x14 x17 x18 x19 x20 x21 x22 x23 x24 x25 x26 x27 x28 x29 x30 x31 x32 x33 x34 x35 x36 x37 x38 x39 x40 x41 x42 x43 x44 x45 x46 x47 x48 x49 x50 x51 x52 x53 x54 x55 x56 x57 x58 x59 x60 x61 x62 x63 x64 x65 x66 x67 x68 x69 x70 x71 x72 x73 x74 x75 x76 x77 x78 x79 x80 x81 x82 x83 x84 x85 x86 x87 x88 x89 x90 x91 x92 x93 x94 x95 x96 x97 x98 x99 x100 x101 x102 x103 x104 x105 x106 x107 x108 x109 x110 x111 x112 x113 x114 x115 x116 x117 x118 x119 x120 x121 x122 x123 x124 x125 x126 x127 x128 x129 x130 x131 x132 x133 x134 x135 x136 x137 x138 x139 x140 x141 x142 x143 x144 x145 x146 x147 x148 x149 x150 x151 x152 x153 x154 x155 x156 x157 x158 x159 x160 x161 x162 x163 x164 x165 x166 x167 x168 x169 x170 x171 x172 x173 x174 x175 x176 x177 x178 x179 x180 x181 x182 x183 x184 x185 x186 x187 x188 x189 x190 x191 x192 x193 x194 x195 x196 x197 x198 x199 x200 x201 x202 x203 x204 x205 x206 x207 x208 x209 x210 x211 x212 x213 x214 x215 x216 x217 x218 x219 x220 x221 x222 x223 x224 x225 x226 x227 x228 x229 x230 x231 x232 x233 x234 x235 x236 x237 x238 x239 x240 x241 x242 x243 x244 x245 x246 x247 x248 x249 x250 x251 x252 x253 x254 x255 x256 x257 x258 x259 x260 x261 Q w key dk g gs gm ga kk sd A c M ls) : Code.wp Tryd.prog sT4 Q ⟨List.toArray (x0 :: x1 :: x2 :: x3 :: x4 :: x5 :: x6 :: x7 :: .slice (some ⟨gs, 0, none⟩) 2 2 :: x9 :: x10 :: x11 :: .slice (some ⟨gm, 0, none⟩) 2 2 :: .slice A M c :: x14 :: .pointer (some ⟨ga, 0, none⟩) :: .int .i64 (kk : Int) :: x17 :: x18 :: x19 :: x20 :: x21 :: .string (bs F) :: x23 :: x24 :: x25 :: x26 :: x27 :: x28 :: x29 :: x30 :: x31 :: x32 :: x33 :: x34 :: x35 :: x36 :: x37 :: x38 :: x39 :: x40 :: x41 :: x42 :: x43 :: x44 :: x45 :: x46 :: x47 :: x48 :: x49 :: x50 :: x51 :: x52 :: x53 :: x54 :: x55 :: x56 :: x57 :: x58 :: x59 :: x60 :: x61 :: x62 :: x63 :: x64 :: x65 :: x66 :: x67 :: x68 :: x69 :: x70 :: x71 :: x72 :: x73 :: x74 :: x75 :: x76 :: x77 :: x78 :: x79 :: x80 :: x81 :: x82 :: x83 :: x84 :: x85 :: x86 :: x87 :: x88 :: x89 :: x90 :: x91 :: x92 :: x93 :: x94 :: x95 :: x96 :: x97 :: x98 :: x99 :: x100 :: x101 :: x102 :: x103 :: x104 :: x105 :: x106 :: x107 :: x108 :: x109 :: x110 :: x111 :: x112 :: x113 :: x114 :: x115 :: x116 :: x117 :: x118 :: x119 :: x120 :: x121 :: x122 :: x123 :: x124 :: x125 :: x126 :: x127 :: x128 :: x129 :: x130 :: x131 :: x132 :: x133 :: x134 :: x135 :: x136 :: x137 :: x138 :: x139 :: x140 :: x141 :: x142 :: x143 :: x144 :: x145 :: x146 :: x147 :: x148 :: x149 :: x150 :: x151 :: x152 :: x153 :: x154 :: x155 :: x156 :: x157 :: x158 :: x159 :: x160 :: x161 :: x162 :: x163 :: x164 :: x165 :: x166 :: x167 :: x168 :: x169 :: x170 :: x171 :: x172 :: x173 :: x174 :: x175 :: x176 :: x177 :: x178 :: x179 :: x180 :: x181 :: x182 :: x183 :: x184 :: x185 :: x186 :: x187 :: x188 :: x189 :: x190 :: x191 :: x192 :: x193 :: x194 :: x195 :: x196 :: x197 :: x198 :: x199 :: x200 :: x201 :: x202 :: x203 :: x204 :: x205 :: x206 :: x207 :: x208 :: x209 :: x210 :: x211 :: x212 :: x213 :: x214 :: x215 :: x216 :: x217 :: x218 :: x219 :: x220 :: x221 :: x222 :: x223 :: x224 :: x225 :: x226 :: x227 :: x228 :: x229 :: x230 :: x231 :: x232 :: x233 :: x234 :: x235 :: x236 :: x237 :: x238 :: x239 :: x240 :: x241 :: x242 :: x243 :: x244 :: x245 :: x246 :: x247 :: x248 :: x249 :: x250 :: x251 :: x252 :: x253 :: x254 :: x255 :: x256 :: x257 :: x258 :: x259 :: x260 :: x261 :: []), []⟩ W0 := by
  have HI := Lib.hid (And.intro H hR)
  have HQ := Lib.hid hQ
  have hdl : dk.length = 32 := by rw [HD.out]; exact frameK_length _
  have p0 := H.ptr hkk
  have hKi : (kk : Int) < 2 := by omega
  have hK0 : ¬ (kk : Int) < 0 := by omega
  have hsz37 : ∀ x : SidV, (sideC key kk x).size = 37 := fun x => sideC_size hk
  have HSZ := Lib.hid hsz37
  clear H hR hQ hsz37
  conv => arg 2; whnf
  obtain ⟨v5, w5, hconv, hv5, hb5⟩ := conv_str_any Tryd.underlying9 Tryd.underlying24 Tryd.underlying5 (bs F) W0 (by rw [bs_size]; omega)
  rw [sb_bs] at hv5
  have HI1 : Hid (Bg w w5 key dk g gs gm sd sd ∧ StrR w5 w.heap.size (.slice A M c) M ls ∧ HB w5 v5 F) := Lib.hid ⟨HI.out.1.below hb5, HI.out.2.keep hb5, hv5⟩
  obtain ⟨p5, c5, rfl, -, -⟩ := hv5.form
  clear hv5 hb5 HI
  go_wp2_with fail
  refine (sesTake_any (g kk) dk kk (1 - kk) (sd kk).1 (sd kk).2.1 (sd kk).2.2 _ F w5 (HT.out _ HI1.out.1.hb).1 (HT.out _ HI1.out.1.hb).2 (HI1.out.1.hses kk hkk) hdl HI1.out.2.2 (by omega) (by omega) (by omega)).mono ?_
  obtain ⟨TG, hTG⟩ : ∃ TG, TG = takeG dk kk (1 - kk) (sd kk).2.1 (sd kk).2.2 F := ⟨_, rfl⟩
  rw [← hTG]
  rintro e w6 ⟨v6, rfl, ho6, hs6, hg6⟩
  have HTG : Hid (takeG (frameK key) kk (1 - kk) (sd kk).2.1 (sd kk).2.2 F = TG) := Lib.hid (by rw [← HD.out, hTG])
  clear hTG hconv
  obtain ⟨E, y, tb⟩ := TG
  obtain ⟨A6, c6, rfl⟩ := own_form ho6
  have HI2 : Hid (Bg w w6 key dk g gs gm (setK sd kk ((sd kk).1, tb)) sd ∧ StrR w6 w.heap.size (.slice A M c) M ls ∧ w6.ownsRow w5.heap.size 5 1 (.slice A6 y.length c6) y.length (y.map bcv)) := Lib.hid ⟨HI1.out.1.ses hkk hg6 hs6, HI1.out.2.1.grown hg6 (HI1.out.1.hses kk hkk) (by decide), ho6⟩
  clear ho6 hs6 hg6 HI1 p0
  obtain ⟨Y, hY⟩ : ∃ Y, Y = y.length := ⟨_, rfl⟩
  rw [← hY] at HI2
  simp only [← hY]
  have HYY := Lib.hid hY
  clear hY
  go_wp2_with (refine wpList_load_mid rfl 38 (.tmp 157) rfl gm (kk * 37) rfl (sideC key kk (sd kk)).toList _ (HI2.out.1.hr kk hkk) Tryd.underlying38 rfl (by rw [Array.length_toList, HSZ.out]; kernel_rfl) ?_)
  refine (refTake19_any key kk (1 - kk) (sd kk).1 (sd kk).2.1 (sd kk).2.2 F w6 hk (by omega) (by omega) (by omega)).mono ?_
  rintro e w7 ⟨rfl, hb7⟩
  rw [HTG.out]
  have HI3 : Hid (Bg w w7 key dk g gs gm (setK sd kk ((sd kk).1, tb)) sd ∧ StrR w7 w.heap.size (.slice A M c) M ls ∧ w7.ownsRow w5.heap.size 5 1 (.slice A6 Y c6) Y (y.map bcv)) := Lib.hid ⟨HI2.out.1.below hb7, HI2.out.2.1.keep hb7, own_below HI2.out.2.2 hb7⟩
  have HAG : Hid (sesC key (kk : Int) ((1 - kk : Nat) : Int) (sd kk).1 tb.1 tb.2 = sideC key kk ((sd kk).1, tb)) := Lib.hid rfl
  clear hb7 HI2
  dsimp only
  rw [HAG.out]
  go_wp2_with (first
    | (refine wpList_store_blk rfl 38 (.tmp 26) (.tmp 161) rfl w7.heap.size 38 _ (sideC key kk ((sd kk).1, tb)) rfl rfl (Blk.new w7 _ _) (by rw [HSZ.out]; rfl) (by rw [HSZ.out]; kernel_rfl) (sideC_one _ _ _) ?_
       intro w8 hb8 hg8 hz8
       have HI4 : Hid (Bg w w8 key dk g gs gm (setK sd kk ((sd kk).1, tb)) sd ∧ StrR w8 w.heap.size (.slice A M c) M ls ∧ w8.ownsRow w5.heap.size 5 1 (.slice A6 Y c6) Y (y.map bcv) ∧ Blk w8 w7.heap.size 38 (sideC key kk ((sd kk).1, tb))) := by
         have hB8 : Below w7.heap.size w7 w8 := ((Below.refl w7.heap.size w7).alloc (Nat.le_refl _) _).grown hg8 (by simp) (by intro k hk; injection hk with hk; omega)
         exact Lib.hid ⟨HI3.out.1.below hB8, HI3.out.2.1.keep hB8, own_below HI3.out.2.2 hB8, hb8⟩
       clear hb8 hg8 hz8 HI3)
    | (refine wpList_load_blk rfl 38 (.tmp 26) rfl w7.heap.size 38 (sideC key kk ((sd kk).1, tb)) rfl HI4.out.2.2.2 Tryd.underlying38 rfl (by rw [HSZ.out]; kernel_rfl) ?_)
    | (refine wpList_store_mid rfl 38 (.tmp 167) (.tmp 166) rfl gm (kk * 37) (sideC key kk ((sd kk).1, tb)) rfl rfl (by rw [HSZ.out]; exact HI4.out.1.there hkk) (by rw [HSZ.out]; kernel_rfl) (sideC_one _ _ _) ?_))
  have HI5 : Hid (Bg w (w8.setCells gm (kk * 37) (sideC key kk ((sd kk).1, tb)).toList) key dk g gs gm (setK sd kk ((sd kk).1, tb)) (setK sd kk ((sd kk).1, tb)) ∧ StrR (w8.setCells gm (kk * 37) (sideC key kk ((sd kk).1, tb)).toList) w.heap.size (.slice A M c) M ls ∧ HB (w8.setCells gm (kk * 37) (sideC key kk ((sd kk).1, tb)).toList) (.slice A6 Y c6) y) := Lib.hid (by
    obtain ⟨H, hR, hO, -⟩ := HI4.out
    obtain ⟨h1, h2, -⟩ := H.mset hkk hk ((sd kk).1, tb)
    obtain ⟨cm, h3, -⟩ := H.hm
    refine ⟨h1, hR.grown h2 h3 (by decide), ?_⟩
    have hO2 := hO.kept h2 (.inr (fun e => own_ne_blk hO h3 (by decide) e.symm))
    have hyy := HYY.out
    subst hyy
    exact own_hb hO2 rfl)
  have hcv := HI5.out.2.2.str Tryd.underlying24 Tryd.underlying5 Tryd.underlying9
  clear HI4
  go_simp
  go_wp2_with fail
  exact HQ.out _ _ _ _ _ _ _ _ _ _ _ _ _ _ _ _ _ _ _ _ _ _ _ _ _ _ _ _ _ _ _ _ _ _ _ _ _ _ _ _ _ _ _ _ _ _ _ _ _ _ _ _ _ _ _ _ _ _ _ _ _ _ _ _ _ _ _ _ _ _ _ _ _ _ _ _ _ _ _ _ _ _ _ _ _ _ _ _ _ _ _ _ _ _ _ _ _ _ _ _ _ _ _ _ _ tb _ HI5.out.1 HI5.out.2.1
end Go.Proofs.YtlkhbfafednegaaDoor
namespace Go.Proofs.YtlkhbfafednegaaDoor
open Go Go.RowKit
set_option linter.unusedSimpArgs false
set_option linter.unusedVariables false

set_option maxRecDepth 1000000 in
set_option maxHeartbeats 2000000 in
theorem spoil_leaf {x0 x1 x2 x3 x4 x5 x6 x7 x9 x10 x11 x14 x17 x18 x19 x20 x21 x23 x24 x25 x26 x27 x28 x29 x30 x31 x32 x33 x34 x35 x36 x37 x38 x39 x40 x41 x42 x43 x44 x45 x46 x47 x48 x49 x50 x51 x52 x53 x54 x55 x56 x57 x58 x59 x60 x61 x62 x63 x64 x65 x66 x67 x68 x69 x70 x71 x72 x73 x74 x75 x76 x77 x78 x79 x80 x81 x82 x83 x84 x85 x86 x87 x88 x89 x90 x91 x92 x93 x94 x95 x96 x97 x98 x99 x100 x101 x102 x103 x104 x105 x106 x107 x108 x109 x110 x111 x112 x113 x114 x115 x116 x117 x118 x119 x120 x121 x122 x123 x124 x125 x126 x127 x128 x129 x130 x131 x132 x133 x134 x135 x136 x137 x138 x139 x140 x141 x142 x143 x144 x145 x146 x147 x148 x149 x150 x151 x152 x153 x154 x155 x156 x157 x158 x159 x160 x161 x162 x163 x164 x165 x166 x167 x168 x169 x170 x171 x172 x173 x174 x175 x176 x177 x178 x179 x180 x181 x182 x183 x184 x185 x186 x187 x188 x189 x190 x191 x192 x193 x194 x195 x196 x197 x198 x199 x200 x201 x202 x203 x204 x205 x206 x207 x208 x209 x210 x211 x212 x213 x214 x215 x216 x217 x218 x219 x220 x221 x222 x223 x224 x225 x226 x227 x228 x229 x230 x231 x232 x233 x234 x235 x236 x237 x238 x239 x240 x241 x242 x243 x244 x245 x246 x247 x248 x249 x250 x251 x252 x253 x254 x255 x256 x257 x258 x259 x260 x261 : Value} {Q : Exit → Act → World → Prop} {w W0 : World} {key dk : List UInt8} {g : Nat → Nat} {gs gm ga kk : Nat} {sd : Nat → SidV} {vb : Value} {a : ActR} {A : Option Addr} {c M : Nat} {ls : List (List UInt8)} {F : List UInt8} (HT : Hid (∀ W, Below w.heap.size w W → Tab W ∧ 0 < W.heap.size)) (hk : key.length = 32) (HD : Hid (dk = frameK key)) (hkk : kk < 2) (hF : F.length ≤ 300) (H : Bg w W0 key dk g gs gm sd sd) (hR : StrR W0 w.heap.size (.slice A M c) M ls) (hB : Blk W0 ga 50 (actC vb a).toArray)
    (hQ : TakeQ x0 x1 x2 x3 x4 x5 x6 x7 x9 x10 x11 x14 x17 x18 x19 x20 x21 undef x23 x24 x25 x26 x27 x28 x29 x30 x31 x32 x33 x34 x35 x36 x37 x38 x39 x40 x41 x42 x43 x44 x45 x46 x47 x48 x49 x50 x51 x52 x53 x54 x55 x56 x57 x58 x59 x60 x61 x62 x63 x64 x65 x66 x67 x68 x69 x70 x71 x72 x73 x74 x75 x76 x77 x78 x79 x80 x81 x82 x83 x84 x85 x86 x87 x88 x89 x90 x91 x92 x93 x94 x95 x96 x97 x98 x99 x100 x101 x102 x103 x104 x105 x106 x107 x108 x109 x110 x111 x112 x113 x114 x115 x116 x117 x118 x119 x120 x121 x122 x123 x124 x125 x126 x127 x128 x129 x130 x131 x132 x133 x134 x135 x136 x137 x138 x139 x140 x141 x142 x143 x144 x145 x146 x147 x148 x149 x150 x151 x152 x153 x154 x155 x156 x157 x158 x159 x160 x161 x162 x163 x164 x165 x166 x167 x168 x169 x170 x171 x172 x173 x174 x175 x176 x177 x178 x179 x180 x181 x182 x183 x184 x185 x186 x187 x188 x189 x190 x191 x192 x193 x194 x195 x196 x197 x198 x199 x200 x201 x202 x203 x204 x205 x206 x207 x208 x209 x210 x211 x212 x213 x214 x215 x216 x217 x218 x219 x220 x221 x222 x223 x224 x225 x226 x227 x228 x229 x230 x231 x232 x233 x234 x235 x236 x237 x238 x239 x240 x241 x242 x243 x244 x245 x246 x247 x248 x249 x250 x251 x252 x253 x254 x255 x256 x257 x258 x259 x260 x261 Q w key dk g gs gm ga kk sd A c M ls) : Code.wp Tryd.prog sT3 Q ⟨List.toArray (x0 :: x1 :: x2 :: x3 :: x4 :: x5 :: x6 :: x7 :: .slice (some ⟨gs, 0, none⟩) 2 2 :: x9 :: x10 :: x11 :: .slice (some ⟨gm, 0, none⟩) 2 2 :: .slice A M c :: x14 :: .pointer (some ⟨ga, 0, none⟩) :: .int .i64 (kk : Int) :: x17 :: x18 :: x19 :: x20 :: x21 :: .string (bs F) :: x23 :: x24 :: x25 :: x26 :: x27 :: x28 :: x29 :: x30 :: x31 :: x32 :: x33 :: x34 :: x35 :: x36 :: x37 :: x38 :: x39 :: x40 :: x41 :: x42 :: x43 :: x44 :: x45 :: x46 :: x47 :: x48 :: x49 :: x50 :: x51 :: x52 :: x53 :: x54 :: x55 :: x56 :: x57 :: x58 :: x59 :: x60 :: x61 :: x62 :: x63 :: x64 :: x65 :: x66 :: x67 :: x68 :: x69 :: x70 :: x71 :: x72 :: x73 :: x74 :: x75 :: x76 :: x77 :: x78 :: x79 :: x80 :: x81 :: x82 :: x83 :: x84 :: x85 :: x86 :: x87 :: x88 :: x89 :: x90 :: x91 :: x92 :: x93 :: x94 :: x95 :: x96 :: x97 :: x98 :: x99 :: x100 :: x101 :: x102 :: x103 :: x104 :: x105 :: x106 :: x107 :: x108 :: x109 :: x110 :: x111 :: x112 :: x113 :: x114 :: x115 :: x116 :: x117 :: x118 :: x119 :: x120 :: x121 :: x122 :: x123 :: x124 :: x125 :: x126 :: x127 :: x128 :: x129 :: x130 :: x131 :: x132 :: x133 :: x134 :: x135 :: x136 :: x137 :: x138 :: x139 :: x140 :: x141 :: x142 :: x143 :: x144 :: x145 :: x146 :: x147 :: x148 :: x149 :: x150 :: x151 :: x152 :: x153 :: x154 :: x155 :: x156 :: x157 :: x158 :: x159 :: x160 :: x161 :: x162 :: x163 :: x164 :: x165 :: x166 :: x167 :: x168 :: x169 :: x170 :: x171 :: x172 :: x173 :: x174 :: x175 :: x176 :: x177 :: x178 :: x179 :: x180 :: x181 :: x182 :: x183 :: x184 :: x185 :: x186 :: x187 :: x188 :: x189 :: x190 :: x191 :: x192 :: x193 :: x194 :: x195 :: x196 :: x197 :: x198 :: x199 :: x200 :: x201 :: x202 :: x203 :: x204 :: x205 :: x206 :: x207 :: x208 :: x209 :: x210 :: x211 :: x212 :: x213 :: x214 :: x215 :: x216 :: x217 :: x218 :: x219 :: x220 :: x221 :: x222 :: x223 :: x224 :: x225 :: x226 :: x227 :: x228 :: x229 :: x230 :: x231 :: x232 :: x233 :: x234 :: x235 :: x236 :: x237 :: x238 :: x239 :: x240 :: x241 :: x242 :: x243 :: x244 :: x245 :: x246 :: x247 :: x248 :: x249 :: x250 :: x251 :: x252 :: x253 :: x254 :: x255 :: x256 :: x257 :: x258 :: x259 :: x260 :: x261 :: []), []⟩ W0 := by
  have HI := Lib.hid (And.intro H hR)
  have HQ := Lib.hid hQ
  have a0 : W0.cell? ⟨ga, 0, none⟩ = some (.int .i64 a.kind) := hB.cell 0
  have a4 : W0.cell? ⟨ga, 4, none⟩ = some (.int .u8 (a.at_.toNat : Int)) := hB.cell 4
  have a5 : W0.cell? ⟨ga, 5, none⟩ = some (.int .u8 (a.x.toNat : Int)) := hB.cell 5
  have HAB := Lib.hid hB
  clear H hR hQ hB
  conv => arg 2; whnf
  refine wp_seq_k ?_
  intro K hK
  refine wp_stop sT4 hK ?_
  intro K2 hK2
  obtain ⟨ct, hct⟩ : ∃ ct, (bits BinOp.and IntKind.i64 a.kind 7 == 5) = ct := ⟨_, rfl⟩
  obtain ⟨L, hL⟩ : ∃ L, L = F.length := ⟨_, rfl⟩
  have hLz : (bs F).size = L := by rw [bs_size, hL]
  have HL := Lib.hid hL
  clear hL
  cases ct with
  | false =>
    go_wp2_with fail
    exact told_leaf (x22 := undef) (vb := vb) (a := a) HT hk HD hkk hF HI.out.1 HI.out.2 HQ.out
  | true =>
    by_cases h0 : L = 0
    · have h0i : ¬ (0 : Int) < (L : Int) := by omega
      go_wp2_with fail
      exact told_leaf (x22 := undef) (vb := vb) (a := a) HT hk HD hkk hF HI.out.1 HI.out.2 HQ.out
    · have h0i : (0 : Int) < (L : Int) := by omega
      obtain ⟨C, w5, hconv, hv5, hC, hCm, hb5⟩ := conv_str_w Tryd.underlying9 Tryd.underlying24 Tryd.underlying5 (bs F) W0 (by rw [bs_size]; omega)
      rw [sb_bs, ← HL.out] at hconv
      rw [sb_bs] at hv5
      rw [sb_bs, ← HL.out] at hC
      obtain ⟨j, hj⟩ : ∃ j, j = a.at_.toNat % L := ⟨_, rfl⟩
      have hjL : j < L := by rw [hj]; exact Nat.mod_lt _ (by omega)
      have haj : (a.at_.toNat : Int) % (L : Int) = (j : Int) := by rw [hj]; simp
      have hLz0 : ¬ (L : Int) = 0 := by omega
      have hjLi : (j : Int) < (L : Int) := by omega
      have hj0 : ¬ (j : Int) < 0 := by omega
      obtain ⟨gb, hgb⟩ : ∃ gb, gb = W0.heap.size := ⟨_, rfl⟩
      rw [← hgb] at hconv hv5
      have hjF : j < F.length := by rw [← HL.out]; exact hjL
      have HI1 : Hid (Bg w w5 key dk g gs gm sd sd ∧ StrR w5 w.heap.size (.slice A M c) M ls ∧ FB w5 gb F ∧ j < F.length ∧ C ≤ maxLen ∧ Below W0.heap.size W0 w5 ∧ gb = W0.heap.size) := Lib.hid ⟨HI.out.1.below hb5, HI.out.2.keep hb5, hv5, hjF, hCm, hb5, hgb⟩
      have b0 : w5.cell? ⟨ga, 0, none⟩ = some (.int .i64 a.kind) := (HAB.out.below hb5 HAB.out.lt).cell 0
      have b4 : w5.cell? ⟨ga, 4, none⟩ = some (.int .u8 (a.at_.toNat : Int)) := (HAB.out.below hb5 HAB.out.lt).cell 4
      have b5 : w5.cell? ⟨ga, 5, none⟩ = some (.int .u8 (a.x.toNat : Int)) := (HAB.out.below hb5 HAB.out.lt).cell 5
      have c0 := hv5.cell hjF
      have f0 := hv5.frozen hjF
      unfold maxLen at hCm
      clear hv5 hb5 hgb hj HAB hjF
      go_upto_region 31 with (fail)
      have HC := Lib.hid (And.intro (And.intro (lt_of_cell b4) b4) (And.intro (And.intro (lt_of_cell b5) b5) (And.intro (lt_of_cell c0) c0)))
      have e5 := xor8_rule (at8 F j) a.x
      have hat : a.at_.toNat < 256 := a.at_.toNat_lt
      have hw0 := IntWalk.i64_in (a.at_.toNat : Int) (by omega)
      have haj2 : (a.at_.toNat : Int).tmod (L : Int) = (j : Int) := by rw [Int.tmod_eq_emod_of_nonneg (by omega)]; exact haj
      obtain ⟨z, hz⟩ : ∃ z, z = at8 F j ^^^ a.x := ⟨_, rfl⟩
      rw [← hz] at e5
      obtain ⟨y, hy⟩ : ∃ y, y = at8 F j := ⟨_, rfl⟩
      rw [← hy] at e5 HC
      have HZ := Lib.hid (And.intro hz hy)
      clear b0 b4 b5 c0 hz hy hconv h0i
      refine wp_region_tail2 13 [.eq (.slice (some ⟨gb, 0, none⟩) L C), .eq (.pointer (some ⟨ga, 4, none⟩)), .eq (.int .u8 (a.at_.toNat : Int)), .eq (.int .i64 (a.at_.toNat : Int)), .eq (.slice (some ⟨gb, 0, none⟩) L C), .eq (.int .i64 (L : Int)), .eq (.int .i64 (j : Int)), .eq (.pointer (some ⟨gb, j, none⟩)), .eq (.int .u8 (y.toNat : Int)), .eq (.pointer (some ⟨ga, 5, none⟩)), .eq (.int .u8 (a.x.toNat : Int)), .eq (.int .u8 (z.toNat : Int)), .eq (.pointer (some ⟨gb, j, none⟩))] (by kernel_rfl) (by kernel_rfl) (by kernel_rfl) (by kernel_rfl) rfl (by decide) (by kernel_rfl) _ (fun f => by simp only [framedL, Act.put, maskF, oldF, Nat.reduceLT, reduceIte, List.getElem?_toArray, List.getElem?_cons_succ, List.getElem?_cons_zero, Option.bind_some, Option.map_some, Option.map_none, Option.getD_some, Option.getD_none, Array.getD_eq_getD_getElem?, List.setIfInBounds_toArray, List.set_cons_zero, List.set_cons_succ, Nat.reduceAdd]; rfl) ⟨?_, ?_, ?_, ?_, ?_, ?_, ?_, ?_, ?_, ?_, ?_, ?_, ?_, trivial⟩ ?_
      · refine oweAs_pure ((.slice (some ⟨gb, 0, none⟩) L C)) rfl (fun f W hE hd => ?_) (fun W hE => rfl)
        go_simp
      · refine oweAs_pure ((.pointer (some ⟨ga, 4, none⟩))) rfl (fun f W hE hd => ?_) (fun W hE => rfl)
        simp only [DepAs, Region.binds, asAt, As.holds, and_true, forall_const] at hd
        go_simp
      · refine oweAs_pure ((.int .u8 (a.at_.toNat : Int))) rfl (fun f W hE hd => ?_) (fun W hE => rfl)
        simp only [DepAs, Region.binds, asAt, As.holds, and_true, forall_const] at hd
        have hq := (hE.cell (p := ⟨ga, 4, none⟩) HC.out.1.1).trans HC.out.1.2
        go_simp
      · refine oweAs_pure ((.int .i64 (a.at_.toNat : Int))) rfl (fun f W hE hd => ?_) (fun W hE => rfl)
        simp only [DepAs, Region.binds, asAt, As.holds, and_true, forall_const] at hd
        go_simp
      · refine oweAs_pure ((.slice (some ⟨gb, 0, none⟩) L C)) rfl (fun f W hE hd => ?_) (fun W hE => rfl)
        go_simp
      · refine oweAs_pure ((.int .i64 (L : Int))) rfl (fun f W hE hd => ?_) (fun W hE => rfl)
        simp only [DepAs, Region.binds, asAt, As.holds, and_true, forall_const] at hd
        go_simp
      · refine oweAs_pure ((.int .i64 (j : Int))) rfl (fun f W hE hd => ?_) (fun W hE => rfl)
        simp only [DepAs, Region.binds, asAt, As.holds, and_true, forall_const] at hd
        go_simp
      · refine oweAs_pure ((.pointer (some ⟨gb, j, none⟩))) rfl (fun f W hE hd => ?_) (fun W hE => rfl)
        simp only [DepAs, Region.binds, asAt, As.holds, and_true, forall_const] at hd
        go_simp
      · refine oweAs_pure ((.int .u8 (y.toNat : Int))) rfl (fun f W hE hd => ?_) (fun W hE => rfl)
        simp only [DepAs, Region.binds, asAt, As.holds, and_true, forall_const] at hd
        have hq := (hE.cell (p := ⟨gb, j, none⟩) HC.out.2.2.1).trans HC.out.2.2.2
        go_simp
      · refine oweAs_pure ((.pointer (some ⟨ga, 5, none⟩))) rfl (fun f W hE hd => ?_) (fun W hE => rfl)
        simp only [DepAs, Region.binds, asAt, As.holds, and_true, forall_const] at hd
        go_simp
      · refine oweAs_pure ((.int .u8 (a.x.toNat : Int))) rfl (fun f W hE hd => ?_) (fun W hE => rfl)
        simp only [DepAs, Region.binds, asAt, As.holds, and_true, forall_const] at hd
        have hq := (hE.cell (p := ⟨ga, 5, none⟩) HC.out.2.1.1).trans HC.out.2.1.2
        go_simp
      · refine oweAs_pure ((.int .u8 (z.toNat : Int))) rfl (fun f W hE hd => ?_) (fun W hE => rfl)
        simp only [DepAs, Region.binds, asAt, As.holds, and_true, forall_const] at hd
        go_simp
      · refine oweAs_pure ((.pointer (some ⟨gb, j, none⟩))) rfl (fun f W hE hd => ?_) (fun W hE => rfl)
        simp only [DepAs, Region.binds, asAt, As.holds, and_true, forall_const] at hd
        go_simp
      intro f W hE hA
      simp only [AllAs, As.holds, Nat.reduceAdd] at hA
      obtain ⟨-, -, -, -, -, -, -, -, -, -, -, hA11, hA12, -⟩ := hA
      simp only [List.drop_succ_cons, List.drop_zero]
      rw [hA11, hA12]
      have HI2 : Hid (FB W gb F ∧ j < F.length ∧ C ≤ maxLen ∧ Below W0.heap.size W0 W ∧ gb = W0.heap.size) := Lib.hid ⟨HI1.out.2.2.1.below hE HI1.out.2.2.1.lt, HI1.out.2.2.2.1, HI1.out.2.2.2.2.1, HI1.out.2.2.2.2.2.1.trans (hE.mono HI1.out.2.2.2.2.2.1.size), HI1.out.2.2.2.2.2.2⟩
      have c0 := HI2.out.1.cell HI2.out.2.1
      have f0 := HI2.out.1.frozen HI2.out.2.1
      clear hE hA11 hA12 HC HI1
      obtain ⟨w7, hw7⟩ : ∃ w7, w7 = W.setCell ⟨gb, j, none⟩ (.int .u8 (z.toNat : Int)) := ⟨_, rfl⟩
      obtain ⟨F2, hF2⟩ : ∃ F2, F2 = F.set j z := ⟨_, rfl⟩
      have hF2l : F2.length = L := by rw [hF2, List.length_set, HL.out]
      have HI7 : Hid (Bg w w7 key dk g gs gm sd sd ∧ StrR w7 w.heap.size (.slice A M c) M ls ∧ HB w7 (.slice (some ⟨gb, 0, none⟩) L C) F2) := Lib.hid (by
        have hS := HI2.out.1.store HI2.out.2.1 z
        rw [← hw7, ← hF2] at hS
        have hB7 : Below W0.heap.size W0 w7 := by rw [hw7]; exact HI2.out.2.2.2.1.setCell (by show W0.heap.size ≤ gb; rw [HI2.out.2.2.2.2]; exact Nat.le_refl _) _
        have h := hS.hb (C := C) (by rw [hF2l]; exact hC) HI2.out.2.2.1
        rw [hF2l] at h
        exact ⟨HI.out.1.below hB7, HI.out.2.keep hB7, h⟩)
      have hcv := HI7.out.2.2.str Tryd.underlying24 Tryd.underlying5 Tryd.underlying9
      rw [hw7] at hcv
      have hF2c : F2.length ≤ 300 := by rw [hF2l, HL.out]; exact hF
      clear hF2
      go_wp2_with fail
      rw [← hw7]
      exact told_leaf (x22 := undef) (vb := vb) (a := a) HT hk HD hkk hF2c HI7.out.1 HI7.out.2.1 HQ.out
end Go.Proofs.YtlkhbfafednegaaDoor
namespace Go.Proofs.YtlkhbfafednegaaDoor
open Go Go.RowKit
set_option linter.unusedSimpArgs false
set_option linter.unusedVariables false

theorem u64_one (n : Nat) (h : n < 18446744073709551616) : bits BinOp.and IntKind.u64 (n : Int) 1 = ((n % 2 : Nat) : Int) := by
  have := bits_and_u64_nat n 1 h (by decide)
  rw [Nat.and_one_is_mod] at this
  exact this
set_option maxRecDepth 1000000 in
set_option maxHeartbeats 2000000 in
theorem made_leaf {x0 x1 x2 x4 x5 x6 x7 x9 x10 x11 x14 x17 x18 x19 x20 x21 x23 x24 x25 x26 x27 x28 x29 x30 x31 x32 x33 x34 x35 x36 x37 x38 x39 x40 x41 x42 x43 x44 x45 x46 x47 x48 x49 x50 x51 x52 x53 x54 x55 x56 x57 x58 x59 x60 x61 x62 x63 x64 x65 x66 x67 x68 x69 x70 x71 x72 x73 x74 x75 x76 x77 x78 x79 x80 x81 x82 x83 x84 x85 x86 x87 x88 x89 x90 x91 x92 x93 x94 x95 x96 x97 x98 x99 x100 x101 x102 x103 x104 x105 x106 x107 x108 x109 x110 x111 x112 x113 x114 x115 x116 x117 x118 x119 x120 x121 x122 x123 x124 x125 x126 x127 x128 x129 x130 x131 x132 x133 x134 x135 x136 x137 x138 x139 x140 x141 x142 x143 x144 x145 x146 x147 x148 x149 x150 x151 x152 x153 x154 x155 x156 x157 x158 x159 x160 x161 x162 x163 x164 x165 x166 x167 x168 x169 x170 x171 x172 x173 x174 x175 x176 x177 x178 x179 x180 x181 x182 x183 x184 x185 x186 x187 x188 x189 x190 x191 x192 x193 x194 x195 x196 x197 x198 x199 x200 x201 x202 x203 x204 x205 x206 x207 x208 x209 x210 x211 x212 x213 x214 x215 x216 x217 x218 x219 x220 x221 x222 x223 x224 x225 x226 x227 x228 x229 x230 x231 x232 x233 x234 x235 x236 x237 x238 x239 x240 x241 x242 x243 x244 x245 x246 x247 x248 x249 x250 x251 x252 x253 x254 x255 x256 x257 x258 x259 x260 x261 : Value} {Q : Exit → Act → World → Prop} {w W0 : World} {key dk : List UInt8} {g : Nat → Nat} {gs gm ga kk : Nat} {sd : Nat → SidV} {vb : Value} {a : ActR} {A : Option Addr} {c M : Nat} {ls : List (List UInt8)} {pb : Option Addr} {cb : Nat} {F : List UInt8} (HT : Hid (∀ W, Below w.heap.size w W → Tab W ∧ 0 < W.heap.size)) (hk : key.length = 32) (HD : Hid (dk = frameK key)) (hkk : kk < 2) (hF : F.length ≤ 300) (hl : a.bytes.length ≤ 100) (han : a.n < 18446744073709551616) (haf : a.from_ < 18446744073709551616) (hvb : HB w (.slice pb a.bytes.length cb) a.bytes) (H : Bg w W0 key dk g gs gm sd sd) (hR : StrR W0 w.heap.size (.slice A M c) M ls) (hB : Blk W0 ga 50 (actC (.slice pb a.bytes.length cb) a).toArray)
    (hQ : TakeQ x0 x1 x2 (.pointer (some ⟨w.heap.size, 0, none⟩)) x4 x5 x6 x7 x9 x10 x11 x14 x17 x18 x19 x20 x21 undef x23 x24 x25 x26 x27 x28 x29 x30 x31 x32 x33 x34 x35 x36 x37 x38 x39 x40 x41 x42 x43 x44 x45 x46 x47 x48 x49 x50 x51 x52 x53 x54 x55 x56 x57 x58 x59 x60 x61 x62 x63 x64 x65 x66 x67 x68 x69 x70 x71 x72 x73 x74 x75 x76 x77 x78 x79 x80 x81 x82 x83 x84 x85 x86 x87 x88 x89 x90 x91 x92 x93 x94 x95 x96 x97 x98 x99 x100 x101 x102 x103 x104 x105 x106 x107 x108 x109 x110 x111 x112 x113 x114 x115 x116 x117 x118 x119 x120 x121 x122 x123 x124 x125 x126 x127 x128 x129 x130 x131 x132 x133 x134 x135 x136 x137 x138 x139 x140 x141 x142 x143 x144 x145 x146 x147 x148 x149 x150 x151 x152 x153 x154 x155 x156 x157 x158 x159 x160 x161 x162 x163 x164 x165 x166 x167 x168 x169 x170 x171 x172 x173 x174 x175 x176 x177 x178 x179 x180 x181 x182 x183 x184 x185 x186 x187 x188 x189 x190 x191 x192 x193 x194 x195 x196 x197 x198 x199 x200 x201 x202 x203 x204 x205 x206 x207 x208 x209 x210 x211 x212 x213 x214 x215 x216 x217 x218 x219 x220 x221 x222 x223 x224 x225 x226 x227 x228 x229 x230 x231 x232 x233 x234 x235 x236 x237 x238 x239 x240 x241 x242 x243 x244 x245 x246 x247 x248 x249 x250 x251 x252 x253 x254 x255 x256 x257 x258 x259 x260 x261 Q w key dk g gs gm ga kk sd A c M ls) : Code.wp Tryd.prog sT2 Q ⟨List.toArray (x0 :: x1 :: x2 :: .pointer (some ⟨w.heap.size, 0, none⟩) :: x4 :: x5 :: x6 :: x7 :: .slice (some ⟨gs, 0, none⟩) 2 2 :: x9 :: x10 :: x11 :: .slice (some ⟨gm, 0, none⟩) 2 2 :: .slice A M c :: x14 :: .pointer (some ⟨ga, 0, none⟩) :: .int .i64 (kk : Int) :: x17 :: x18 :: x19 :: x20 :: x21 :: .string (bs F) :: x23 :: x24 :: x25 :: x26 :: x27 :: x28 :: x29 :: x30 :: x31 :: x32 :: x33 :: x34 :: x35 :: x36 :: x37 :: x38 :: x39 :: x40 :: x41 :: x42 :: x43 :: x44 :: x45 :: x46 :: x47 :: x48 :: x49 :: x50 :: x51 :: x52 :: x53 :: x54 :: x55 :: x56 :: x57 :: x58 :: x59 :: x60 :: x61 :: x62 :: x63 :: x64 :: x65 :: x66 :: x67 :: x68 :: x69 :: x70 :: x71 :: x72 :: x73 :: x74 :: x75 :: x76 :: x77 :: x78 :: x79 :: x80 :: x81 :: x82 :: x83 :: x84 :: x85 :: x86 :: x87 :: x88 :: x89 :: x90 :: x91 :: x92 :: x93 :: x94 :: x95 :: x96 :: x97 :: x98 :: x99 :: x100 :: x101 :: x102 :: x103 :: x104 :: x105 :: x106 :: x107 :: x108 :: x109 :: x110 :: x111 :: x112 :: x113 :: x114 :: x115 :: x116 :: x117 :: x118 :: x119 :: x120 :: x121 :: x122 :: x123 :: x124 :: x125 :: x126 :: x127 :: x128 :: x129 :: x130 :: x131 :: x132 :: x133 :: x134 :: x135 :: x136 :: x137 :: x138 :: x139 :: x140 :: x141 :: x142 :: x143 :: x144 :: x145 :: x146 :: x147 :: x148 :: x149 :: x150 :: x151 :: x152 :: x153 :: x154 :: x155 :: x156 :: x157 :: x158 :: x159 :: x160 :: x161 :: x162 :: x163 :: x164 :: x165 :: x166 :: x167 :: x168 :: x169 :: x170 :: x171 :: x172 :: x173 :: x174 :: x175 :: x176 :: x177 :: x178 :: x179 :: x180 :: x181 :: x182 :: x183 :: x184 :: x185 :: x186 :: x187 :: x188 :: x189 :: x190 :: x191 :: x192 :: x193 :: x194 :: x195 :: x196 :: x197 :: x198 :: x199 :: x200 :: x201 :: x202 :: x203 :: x204 :: x205 :: x206 :: x207 :: x208 :: x209 :: x210 :: x211 :: x212 :: x213 :: x214 :: x215 :: x216 :: x217 :: x218 :: x219 :: x220 :: x221 :: x222 :: x223 :: x224 :: x225 :: x226 :: x227 :: x228 :: x229 :: x230 :: x231 :: x232 :: x233 :: x234 :: x235 :: x236 :: x237 :: x238 :: x239 :: x240 :: x241 :: x242 :: x243 :: x244 :: x245 :: x246 :: x247 :: x248 :: x249 :: x250 :: x251 :: x252 :: x253 :: x254 :: x255 :: x256 :: x257 :: x258 :: x259 :: x260 :: x261 :: []), []⟩ W0 := by
  have hkz : (bvs key).size = 32 := by rw [bvs_size]; exact hk
  have HI := Lib.hid (And.intro H hR)
  have HQ := Lib.hid hQ
  obtain ⟨L, hL⟩ : ∃ L, L = a.bytes.length := ⟨_, rfl⟩
  have HL := Lib.hid hL
  rw [← hL] at hB hvb hl
  clear hL
  have a0 : W0.cell? ⟨ga, 0, none⟩ = some (.int .i64 a.kind) := hB.cell 0
  have a2 : W0.cell? ⟨ga, 2, none⟩ = some (.slice pb L cb) := hB.cell 2
  have a6 : W0.cell? ⟨ga, 6, none⟩ = some (.int .u64 (a.n : Int)) := hB.cell 6
  have a7 : W0.cell? ⟨ga, 7, none⟩ = some (.int .u64 (a.from_ : Int)) := hB.cell 7
  have hcv := (hvb.keep H.hb).str Tryd.underlying24 Tryd.underlying5 Tryd.underlying9
  have HAB := Lib.hid hB
  clear H hR hQ hB hvb
  conv => arg 2; whnf
  refine wp_seq_k ?_
  intro K hK
  refine wp_stop sT3 hK ?_
  intro K2 hK2
  obtain ⟨ct, hct⟩ : ∃ ct, (bits BinOp.and IntKind.i64 a.kind 7 == 6) = ct := ⟨_, rfl⟩
  cases ct with
  | false =>
    go_wp2_with fail
    exact spoil_leaf HT hk HD hkk hF HI.out.1 HI.out.2 HAB.out HQ.out
  | true =>
    go_wp2_with (refine wpList_load_blk rfl 23 (.tmp 3) rfl w.heap.size 23 (bvs key) rfl HI.out.1.hkey Tryd.underlying23 rfl (by rw [hkz]; kernel_rfl) ?_)
    rw [u64_one _ haf, show ((a.from_ : Int) / 2) = ((a.from_ / 2 : Nat) : Int) by simp, u64_one _ (by omega)]
    have h1 : a.from_ % 2 < 2 := by omega
    have h2 : a.from_ / 2 % 2 < 2 := by omega
    generalize a.from_ % 2 = f at *
    generalize a.from_ / 2 % 2 = t at *
    refine (refFrame_any key a.n f t a.bytes W0 hk han (by omega) (by omega) (by rw [← HL.out]; omega)).mono ?_
    rintro e w5 ⟨rfl, hb5⟩
    obtain ⟨F2, hF2⟩ : ∃ F2, F2 = frameG (frameK key) a.n f t a.bytes := ⟨_, rfl⟩
    have hF2c : F2.length ≤ 300 := by
      rw [hF2, frameG_length]
      have := bodyG_length (n := a.n) (from_ := f) («to» := t) (b := a.bytes) (by omega) (by omega) (by omega) (by rw [← HL.out]; omega)
      rw [← HL.out] at this
      omega
    rw [← hF2]
    have HI5 : Hid (Bg w w5 key dk g gs gm sd sd ∧ StrR w5 w.heap.size (.slice A M c) M ls ∧ Blk w5 ga 50 (actC (.slice pb L cb) a).toArray) := Lib.hid ⟨HI.out.1.below hb5, HI.out.2.keep hb5, HAB.out.below hb5 HAB.out.lt⟩
    clear hF2 hb5 a0 a2 a6 a7 hcv
    go_wp2_with fail
    exact spoil_leaf HT hk HD hkk hF2c HI5.out.1 HI5.out.2.1 HI5.out.2.2 HQ.out
end Go.Proofs.YtlkhbfafednegaaDoor
namespace Go.Proofs.YtlkhbfafednegaaDoor
open Go Go.RowKit
set_option linter.unusedSimpArgs false
set_option linter.unusedVariables false

set_option maxRecDepth 1000000 in
set_option maxHeartbeats 2000000 in
theorem was_leaf {x0 x1 x2 x4 x5 x6 x7 x9 x10 x11 x14 x17 x18 x19 x20 x21 x23 x24 x25 x26 x27 x28 x29 x30 x31 x32 x33 x34 x35 x36 x37 x38 x39 x40 x41 x42 x43 x44 x45 x46 x47 x48 x49 x50 x51 x52 x53 x54 x55 x56 x57 x58 x59 x60 x61 x62 x63 x64 x65 x66 x67 x68 x69 x70 x71 x72 x73 x74 x75 x76 x77 x78 x79 x80 x81 x82 x83 x84 x85 x86 x87 x88 x89 x90 x91 x92 x93 x94 x95 x96 x97 x98 x99 x100 x101 x102 x103 x104 x105 x106 x107 x108 x109 x110 x111 x112 x113 x114 x115 x116 x117 x118 x119 x120 x121 x122 x123 x124 x125 x126 x127 x128 x129 x130 x131 x132 x133 x134 x135 x136 x137 x138 x139 x140 x141 x142 x143 x144 x145 x146 x147 x148 x149 x150 x151 x152 x153 x154 x155 x156 x157 x158 x159 x160 x161 x162 x163 x164 x165 x166 x167 x168 x169 x170 x171 x172 x173 x174 x175 x176 x177 x178 x179 x180 x181 x182 x183 x184 x185 x186 x187 x188 x189 x190 x191 x192 x193 x194 x195 x196 x197 x198 x199 x200 x201 x202 x203 x204 x205 x206 x207 x208 x209 x210 x211 x212 x213 x214 x215 x216 x217 x218 x219 x220 x221 x222 x223 x224 x225 x226 x227 x228 x229 x230 x231 x232 x233 x234 x235 x236 x237 x238 x239 x240 x241 x242 x243 x244 x245 x246 x247 x248 x249 x250 x251 x252 x253 x254 x255 x256 x257 x258 x259 x260 x261 : Value} {Q : Exit → Act → World → Prop} {w W0 : World} {key dk : List UInt8} {g : Nat → Nat} {gs gm ga kk : Nat} {sd : Nat → SidV} {vb : Value} {a : ActR} {A : Option Addr} {c M : Nat} {ls : List (List UInt8)} {pb : Option Addr} {cb : Nat} {F : List UInt8} (HT : Hid (∀ W, Below w.heap.size w W → Tab W ∧ 0 < W.heap.size)) (hk : key.length = 32) (HD : Hid (dk = frameK key)) (hkk : kk < 2) (hF : F.length ≤ 300) (hls : ∀ l ∈ ls, l.length ≤ 300) (hM30 : M ≤ 30) (hl : a.bytes.length ≤ 100) (han : a.n < 18446744073709551616) (haf : a.from_ < 18446744073709551616) (hvb : HB w (.slice pb a.bytes.length cb) a.bytes) (H : Bg w W0 key dk g gs gm sd sd) (hR : StrR W0 w.heap.size (.slice A M c) M ls) (hB : Blk W0 ga 50 (actC (.slice pb a.bytes.length cb) a).toArray)
    (hQ : TakeQ x0 x1 x2 (.pointer (some ⟨w.heap.size, 0, none⟩)) x4 x5 x6 x7 x9 x10 x11 x14 x17 x18 x19 x20 x21 undef x23 x24 x25 x26 x27 x28 x29 x30 x31 x32 x33 x34 x35 x36 x37 x38 x39 x40 x41 x42 x43 x44 x45 x46 x47 x48 x49 x50 x51 x52 x53 x54 x55 x56 x57 x58 x59 x60 x61 x62 x63 x64 x65 x66 x67 x68 x69 x70 x71 x72 x73 x74 x75 x76 x77 x78 x79 x80 x81 x82 x83 x84 x85 x86 x87 x88 x89 x90 x91 x92 x93 x94 x95 x96 x97 x98 x99 x100 x101 x102 x103 x104 x105 x106 x107 x108 x109 x110 x111 x112 x113 x114 x115 x116 x117 x118 x119 x120 x121 x122 x123 x124 x125 x126 x127 x128 x129 x130 x131 x132 x133 x134 x135 x136 x137 x138 x139 x140 x141 x142 x143 x144 x145 x146 x147 x148 x149 x150 x151 x152 x153 x154 x155 x156 x157 x158 x159 x160 x161 x162 x163 x164 x165 x166 x167 x168 x169 x170 x171 x172 x173 x174 x175 x176 x177 x178 x179 x180 x181 x182 x183 x184 x185 x186 x187 x188 x189 x190 x191 x192 x193 x194 x195 x196 x197 x198 x199 x200 x201 x202 x203 x204 x205 x206 x207 x208 x209 x210 x211 x212 x213 x214 x215 x216 x217 x218 x219 x220 x221 x222 x223 x224 x225 x226 x227 x228 x229 x230 x231 x232 x233 x234 x235 x236 x237 x238 x239 x240 x241 x242 x243 x244 x245 x246 x247 x248 x249 x250 x251 x252 x253 x254 x255 x256 x257 x258 x259 x260 x261 Q w key dk g gs gm ga kk sd A c M ls) : Code.wp Tryd.prog sT1 Q ⟨List.toArray (x0 :: x1 :: x2 :: .pointer (some ⟨w.heap.size, 0, none⟩) :: x4 :: x5 :: x6 :: x7 :: .slice (some ⟨gs, 0, none⟩) 2 2 :: x9 :: x10 :: x11 :: .slice (some ⟨gm, 0, none⟩) 2 2 :: .slice A M c :: x14 :: .pointer (some ⟨ga, 0, none⟩) :: .int .i64 (kk : Int) :: x17 :: x18 :: x19 :: x20 :: x21 :: .string (bs F) :: x23 :: x24 :: x25 :: x26 :: x27 :: x28 :: x29 :: x30 :: x31 :: x32 :: x33 :: x34 :: x35 :: x36 :: x37 :: x38 :: x39 :: x40 :: x41 :: x42 :: x43 :: x44 :: x45 :: x46 :: x47 :: x48 :: x49 :: x50 :: x51 :: x52 :: x53 :: x54 :: x55 :: x56 :: x57 :: x58 :: x59 :: x60 :: x61 :: x62 :: x63 :: x64 :: x65 :: x66 :: x67 :: x68 :: x69 :: x70 :: x71 :: x72 :: x73 :: x74 :: x75 :: x76 :: x77 :: x78 :: x79 :: x80 :: x81 :: x82 :: x83 :: x84 :: x85 :: x86 :: x87 :: x88 :: x89 :: x90 :: x91 :: x92 :: x93 :: x94 :: x95 :: x96 :: x97 :: x98 :: x99 :: x100 :: x101 :: x102 :: x103 :: x104 :: x105 :: x106 :: x107 :: x108 :: x109 :: x110 :: x111 :: x112 :: x113 :: x114 :: x115 :: x116 :: x117 :: x118 :: x119 :: x120 :: x121 :: x122 :: x123 :: x124 :: x125 :: x126 :: x127 :: x128 :: x129 :: x130 :: x131 :: x132 :: x133 :: x134 :: x135 :: x136 :: x137 :: x138 :: x139 :: x140 :: x141 :: x142 :: x143 :: x144 :: x145 :: x146 :: x147 :: x148 :: x149 :: x150 :: x151 :: x152 :: x153 :: x154 :: x155 :: x156 :: x157 :: x158 :: x159 :: x160 :: x161 :: x162 :: x163 :: x164 :: x165 :: x166 :: x167 :: x168 :: x169 :: x170 :: x171 :: x172 :: x173 :: x174 :: x175 :: x176 :: x177 :: x178 :: x179 :: x180 :: x181 :: x182 :: x183 :: x184 :: x185 :: x186 :: x187 :: x188 :: x189 :: x190 :: x191 :: x192 :: x193 :: x194 :: x195 :: x196 :: x197 :: x198 :: x199 :: x200 :: x201 :: x202 :: x203 :: x204 :: x205 :: x206 :: x207 :: x208 :: x209 :: x210 :: x211 :: x212 :: x213 :: x214 :: x215 :: x216 :: x217 :: x218 :: x219 :: x220 :: x221 :: x222 :: x223 :: x224 :: x225 :: x226 :: x227 :: x228 :: x229 :: x230 :: x231 :: x232 :: x233 :: x234 :: x235 :: x236 :: x237 :: x238 :: x239 :: x240 :: x241 :: x242 :: x243 :: x244 :: x245 :: x246 :: x247 :: x248 :: x249 :: x250 :: x251 :: x252 :: x253 :: x254 :: x255 :: x256 :: x257 :: x258 :: x259 :: x260 :: x261 :: []), []⟩ W0 := by
  obtain ⟨L, hL⟩ : ∃ L, L = a.bytes.length := ⟨_, rfl⟩
  have HV := Lib.hid (And.intro hvb (And.intro han haf))
  have HI := Lib.hid (And.intro H hR)
  have HQ := Lib.hid hQ
  have hlen := hR.len
  have a0 : W0.cell? ⟨ga, 0, none⟩ = some (.int .i64 a.kind) := hB.cell 0
  have a3 : W0.cell? ⟨ga, 3, none⟩ = some (.int .u8 (a.i.toNat : Int)) := hB.cell 3
  have hai : a.i.toNat < 256 := a.i.toNat_lt
  have HAB := Lib.hid hB
  clear H hR hQ hB hvb han haf hL
  conv => arg 2; whnf
  refine wp_seq_k ?_
  intro K hK
  refine wp_stop sT2 hK ?_
  intro K2 hK2
  by_cases hM0 : M = 0
  · obtain rfl := hM0
    go_wp2_with fail
    exact made_leaf (vb := undef) HT hk HD hkk hF hl HV.out.2.1 HV.out.2.2 HV.out.1 HI.out.1 HI.out.2 HAB.out HQ.out
  · have hM1 : (0 : Int) < (M : Int) := by omega
    by_cases hlt : bits BinOp.and IntKind.i64 a.kind 7 < 6
    · obtain ⟨j, hj⟩ : ∃ j, j = a.i.toNat % M := ⟨_, rfl⟩
      have hjM : j < M := by rw [hj]; exact Nat.mod_lt _ (by omega)
      have haj : (a.i.toNat : Int) % (M : Int) = (j : Int) := by rw [hj]; simp
      obtain ⟨F2, hF2⟩ : ∃ l, ls[j]? = some l := ⟨_, List.getElem?_eq_getElem (by omega)⟩
      have hF2c : F2.length ≤ 300 := hls _ (List.mem_of_getElem? hF2)
      obtain ⟨gq, hAq, hcq⟩ := HI.out.2.at_ hF2
      subst hAq
      have hjMi : (j : Int) < (M : Int) := by omega
      have hj0 : ¬ (j : Int) < 0 := by omega
      have hMz : ¬ (M : Int) = 0 := by omega
      clear hj hF2
      go_wp2_with fail
      exact made_leaf (vb := undef) HT hk HD hkk hF2c hl HV.out.2.1 HV.out.2.2 HV.out.1 HI.out.1 HI.out.2 HAB.out HQ.out
    · go_wp2_with fail
      exact made_leaf (vb := undef) HT hk HD hkk hF hl HV.out.2.1 HV.out.2.2 HV.out.1 HI.out.1 HI.out.2 HAB.out HQ.out
set_option maxRecDepth 1000000 in
set_option maxHeartbeats 2000000 in
theorem take_leaf {x0 x1 x2 x4 x5 x6 x7 x9 x10 x11 x14 x17 x18 x19 x20 x21 x22 x23 x24 x25 x26 x27 x28 x29 x30 x31 x32 x33 x34 x35 x36 x37 x38 x39 x40 x41 x42 x43 x44 x45 x46 x47 x48 x49 x50 x51 x52 x53 x54 x55 x56 x57 x58 x59 x60 x61 x62 x63 x64 x65 x66 x67 x68 x69 x70 x71 x72 x73 x74 x75 x76 x77 x78 x79 x80 x81 x82 x83 x84 x85 x86 x87 x88 x89 x90 x91 x92 x93 x94 x95 x96 x97 x98 x99 x100 x101 x102 x103 x104 x105 x106 x107 x108 x109 x110 x111 x112 x113 x114 x115 x116 x117 x118 x119 x120 x121 x122 x123 x124 x125 x126 x127 x128 x129 x130 x131 x132 x133 x134 x135 x136 x137 x138 x139 x140 x141 x142 x143 x144 x145 x146 x147 x148 x149 x150 x151 x152 x153 x154 x155 x156 x157 x158 x159 x160 x161 x162 x163 x164 x165 x166 x167 x168 x169 x170 x171 x172 x173 x174 x175 x176 x177 x178 x179 x180 x181 x182 x183 x184 x185 x186 x187 x188 x189 x190 x191 x192 x193 x194 x195 x196 x197 x198 x199 x200 x201 x202 x203 x204 x205 x206 x207 x208 x209 x210 x211 x212 x213 x214 x215 x216 x217 x218 x219 x220 x221 x222 x223 x224 x225 x226 x227 x228 x229 x230 x231 x232 x233 x234 x235 x236 x237 x238 x239 x240 x241 x242 x243 x244 x245 x246 x247 x248 x249 x250 x251 x252 x253 x254 x255 x256 x257 x258 x259 x260 x261 : Value} {Q : Exit → Act → World → Prop} {w W0 : World} {key dk : List UInt8} {g : Nat → Nat} {gs gm ga kk : Nat} {sd : Nat → SidV} {vb : Value} {a : ActR} {A : Option Addr} {c M : Nat} {ls : List (List UInt8)} {pb : Option Addr} {cb : Nat} (HT : Hid (∀ W, Below w.heap.size w W → Tab W ∧ 0 < W.heap.size)) (hk : key.length = 32) (HD : Hid (dk = frameK key)) (hkk : kk < 2) (hls : ∀ l ∈ ls, l.length ≤ 300) (hM30 : M ≤ 30) (hl : a.bytes.length ≤ 100) (han : a.n < 18446744073709551616) (haf : a.from_ < 18446744073709551616) (hvb : HB w (.slice pb a.bytes.length cb) a.bytes) (H : Bg w W0 key dk g gs gm sd sd) (hR : StrR W0 w.heap.size (.slice A M c) M ls) (hB : Blk W0 ga 50 (actC (.slice pb a.bytes.length cb) a).toArray)
    (hQ : TakeQ x0 x1 x2 (.pointer (some ⟨w.heap.size, 0, none⟩)) x4 x5 x6 x7 x9 x10 x11 x14 x17 x18 x19 x20 x21 x22 x23 x24 x25 x26 x27 x28 x29 x30 x31 x32 x33 x34 x35 x36 x37 x38 x39 x40 x41 x42 x43 x44 x45 x46 x47 x48 x49 x50 x51 x52 x53 x54 x55 x56 x57 x58 x59 x60 x61 x62 x63 x64 x65 x66 x67 x68 x69 x70 x71 x72 x73 x74 x75 x76 x77 x78 x79 x80 x81 x82 x83 x84 x85 x86 x87 x88 x89 x90 x91 x92 x93 x94 x95 x96 x97 x98 x99 x100 x101 x102 x103 x104 x105 x106 x107 x108 x109 x110 x111 x112 x113 x114 x115 x116 x117 x118 x119 x120 x121 x122 x123 x124 x125 x126 x127 x128 x129 x130 x131 x132 x133 x134 x135 x136 x137 x138 x139 x140 x141 x142 x143 x144 x145 x146 x147 x148 x149 x150 x151 x152 x153 x154 x155 x156 x157 x158 x159 x160 x161 x162 x163 x164 x165 x166 x167 x168 x169 x170 x171 x172 x173 x174 x175 x176 x177 x178 x179 x180 x181 x182 x183 x184 x185 x186 x187 x188 x189 x190 x191 x192 x193 x194 x195 x196 x197 x198 x199 x200 x201 x202 x203 x204 x205 x206 x207 x208 x209 x210 x211 x212 x213 x214 x215 x216 x217 x218 x219 x220 x221 x222 x223 x224 x225 x226 x227 x228 x229 x230 x231 x232 x233 x234 x235 x236 x237 x238 x239 x240 x241 x242 x243 x244 x245 x246 x247 x248 x249 x250 x251 x252 x253 x254 x255 x256 x257 x258 x259 x260 x261 Q w key dk g gs gm ga kk sd A c M ls) : Code.wp Tryd.prog sTake Q ⟨List.toArray (x0 :: x1 :: x2 :: .pointer (some ⟨w.heap.size, 0, none⟩) :: x4 :: x5 :: x6 :: x7 :: .slice (some ⟨gs, 0, none⟩) 2 2 :: x9 :: x10 :: x11 :: .slice (some ⟨gm, 0, none⟩) 2 2 :: .slice A M c :: x14 :: .pointer (some ⟨ga, 0, none⟩) :: .int .i64 (kk : Int) :: x17 :: x18 :: x19 :: x20 :: x21 :: x22 :: x23 :: x24 :: x25 :: x26 :: x27 :: x28 :: x29 :: x30 :: x31 :: x32 :: x33 :: x34 :: x35 :: x36 :: x37 :: x38 :: x39 :: x40 :: x41 :: x42 :: x43 :: x44 :: x45 :: x46 :: x47 :: x48 :: x49 :: x50 :: x51 :: x52 :: x53 :: x54 :: x55 :: x56 :: x57 :: x58 :: x59 :: x60 :: x61 :: x62 :: x63 :: x64 :: x65 :: x66 :: x67 :: x68 :: x69 :: x70 :: x71 :: x72 :: x73 :: x74 :: x75 :: x76 :: x77 :: x78 :: x79 :: x80 :: x81 :: x82 :: x83 :: x84 :: x85 :: x86 :: x87 :: x88 :: x89 :: x90 :: x91 :: x92 :: x93 :: x94 :: x95 :: x96 :: x97 :: x98 :: x99 :: x100 :: x101 :: x102 :: x103 :: x104 :: x105 :: x106 :: x107 :: x108 :: x109 :: x110 :: x111 :: x112 :: x113 :: x114 :: x115 :: x116 :: x117 :: x118 :: x119 :: x120 :: x121 :: x122 :: x123 :: x124 :: x125 :: x126 :: x127 :: x128 :: x129 :: x130 :: x131 :: x132 :: x133 :: x134 :: x135 :: x136 :: x137 :: x138 :: x139 :: x140 :: x141 :: x142 :: x143 :: x144 :: x145 :: x146 :: x147 :: x148 :: x149 :: x150 :: x151 :: x152 :: x153 :: x154 :: x155 :: x156 :: x157 :: x158 :: x159 :: x160 :: x161 :: x162 :: x163 :: x164 :: x165 :: x166 :: x167 :: x168 :: x169 :: x170 :: x171 :: x172 :: x173 :: x174 :: x175 :: x176 :: x177 :: x178 :: x179 :: x180 :: x181 :: x182 :: x183 :: x184 :: x185 :: x186 :: x187 :: x188 :: x189 :: x190 :: x191 :: x192 :: x193 :: x194 :: x195 :: x196 :: x197 :: x198 :: x199 :: x200 :: x201 :: x202 :: x203 :: x204 :: x205 :: x206 :: x207 :: x208 :: x209 :: x210 :: x211 :: x212 :: x213 :: x214 :: x215 :: x216 :: x217 :: x218 :: x219 :: x220 :: x221 :: x222 :: x223 :: x224 :: x225 :: x226 :: x227 :: x228 :: x229 :: x230 :: x231 :: x232 :: x233 :: x234 :: x235 :: x236 :: x237 :: x238 :: x239 :: x240 :: x241 :: x242 :: x243 :: x244 :: x245 :: x246 :: x247 :: x248 :: x249 :: x250 :: x251 :: x252 :: x253 :: x254 :: x255 :: x256 :: x257 :: x258 :: x259 :: x260 :: x261 :: []), []⟩ W0 := by
  obtain ⟨L, hL⟩ : ∃ L, L = a.bytes.length := ⟨_, rfl⟩
  have HV := Lib.hid (And.intro hvb (And.intro han (And.intro haf hl)))
  have hcv := (hvb.keep H.hb).str Tryd.underlying24 Tryd.underlying5 Tryd.underlying9
  have a2 : W0.cell? ⟨ga, 2, none⟩ = some (.slice pb L cb) := by rw [hL]; exact hB.cell 2
  rw [← hL] at hcv
  have HI := Lib.hid (And.intro H hR)
  have HQ := Lib.hid hQ
  have HAB := Lib.hid hB
  clear H hR hQ hB hvb han haf hL hl
  conv => arg 2; whnf
  refine wp_seq_k ?_
  intro K hK
  refine wp_stop sT1 hK ?_
  intro K2 hK2
  go_wp2_with fail
  exact was_leaf (vb := undef) HT hk HD hkk (by have := HV.out.2.2.2; omega) hls hM30 HV.out.2.2.2 HV.out.2.1 HV.out.2.2.1 HV.out.1 HI.out.1 HI.out.2 HAB.out HQ.out
end Go.Proofs.YtlkhbfafednegaaDoor
namespace Go.Proofs.YtlkhbfafednegaaDoor
open Go Go.RowKit
set_option linter.unusedSimpArgs false
set_option linter.unusedVariables false

noncomputable def sBlk : Code := playAt [1,1,1,1,1,1,1,0,1,0,0,1,0,0,1,1,1,1,0,1]
noncomputable def sC1 : Code := playAt [1,1,1,1,1,1,1,0,1,0,0,1,0,0,1,1,1,1,0,1,0,1]
noncomputable def sC2 : Code := playAt [1,1,1,1,1,1,1,0,1,0,0,1,0,0,1,1,1,1,0,1,0,1,1,1]
noncomputable def sRest : Code := playAt [1,1,1,1,1,1,1,0,1,0,0,1,0,0,1,1,1,1]
noncomputable def sBack : Code := playAt [1,1,1,1,1,1,1,0,1,0,0,1,0,0,1,1,1]
noncomputable def sRound : Code := playAt [1,1,1,1,1,1,1,0,1,0,0,1,0,0,1,1]
theorem setK_lt {sd : Nat → SidV} {kk n : Nat} {t : UInt64 × UInt64} (h : ∀ i, i < 2 → (sd i).1 < 18446744073709551616) (hn : n < 18446744073709551616) : ∀ i, i < 2 → (setK sd kk (n, t) i).1 < 18446744073709551616 := by
  intro i hi
  by_cases e : i = kk
  · subst e
    rw [setK_same]
    exact hn
  · rw [setK_other _ _ e]
    exact h i hi
set_option maxRecDepth 1000000 in
def SwQ (x0 x1 x2 x4 x5 x6 x7 x9 x10 x11 x14 x17 x18 x19 x20 x21 x22 x23 x24 x25 x26 x27 x28 x29 x30 x31 x32 x33 x34 x35 x36 x37 x38 x39 x40 x41 x42 x43 x44 x45 x46 x47 x48 x49 x50 x51 x52 x53 x54 x55 x56 x57 x58 x59 x60 x61 x62 x63 x64 x65 x66 x67 x68 x69 x70 x71 x72 x73 x74 x75 x76 x77 x78 x79 x80 x81 x82 x83 x84 x85 x86 x87 x88 x89 x90 x91 x92 x93 x94 x95 x96 x97 x98 x99 x100 x101 x102 x103 x104 x105 x106 x107 x108 x109 x110 x111 x112 x113 x114 x115 x116 x117 x118 x119 x120 x121 x122 x123 x124 x125 x126 x127 x128 x129 x130 x131 x132 x133 x134 x135 x136 x137 x138 x139 x140 x141 x142 x143 x144 x145 x146 x147 x148 x149 x150 x151 x152 x153 x154 x155 x156 x157 x158 x159 x160 x161 x162 x163 x164 x165 x166 x167 x168 x169 x170 x171 x172 x173 x174 x175 x176 x177 x178 x179 x180 x181 x182 x183 x184 x185 x186 x187 x188 x189 x190 x191 x192 x193 x194 x195 x196 x197 x198 x199 x200 x201 x202 x203 x204 x205 x206 x207 x208 x209 x210 x211 x212 x213 x214 x215 x216 x217 x218 x219 x220 x221 x222 x223 x224 x225 x226 x227 x228 x229 x230 x231 x232 x233 x234 x235 x236 x237 x238 x239 x240 x241 x242 x243 x244 x245 x246 x247 x248 x249 x250 x251 x252 x253 x254 x255 x256 x257 x258 x259 x260 x261 : Value) (Q : Exit → Act → World → Prop) (w : World) (key dk : List UInt8) (g : Nat → Nat) (gs gm ga kk M : Nat) : Prop :=
  ∀ (u17 u18 u19 u20 u21 u22 u23 u24 u25 u26 u27 u28 u76 u77 u78 u79 u80 u81 u82 u83 u84 u85 u86 u87 u88 u89 u90 u91 u92 u93 u94 u95 u96 u97 u98 u99 u100 u101 u102 u103 u104 u105 u106 u107 u108 u109 u110 u111 u112 u113 u114 u115 u116 u117 u118 u119 u120 u121 u122 u123 u124 u125 u126 u127 u128 u129 u130 u131 u132 u133 u134 u135 u136 u137 u138 u139 u140 u141 u142 u143 u144 u145 u146 u147 u148 u149 u150 u151 u152 u153 u154 u155 u156 u157 u158 u159 u160 u161 u162 u163 u164 u165 u166 u167 u168 u169 u170 u171 u172 u173 u174 u175 u176 u177 u178 u179 u180 u181 u182 u183 u184 u185 u186 u187 u188 u189 u190 u191 u192 u193 u194 u195 u196 u197 u198 u199 u200 u201 u202 u203 u204 u205 u206 u207 u208 u209 u210 u211 u212 u213 u214 u215 u216 u217 u218 u219 u220 u221 u222 u223 u224 u225 u226 u227 u228 u229 u230 u231 u232 u233 u234 u235 u236 u237 u238 u239 u240 u241 : Value) (sd2 : Nat → SidV) (A2 : Option Addr) (c2 M2 : Nat) (ls2 : List (List UInt8)) (W2 : World), Bg w W2 key dk g gs gm sd2 sd2 → StrR W2 w.heap.size (.slice A2 M2 c2) M2 ls2 → M2 ≤ M + 1 → (∀ i, i < 2 → (sd2 i).1 < 18446744073709551616) → (∀ l ∈ ls2, l.length ≤ 300) → Q .normal ⟨List.toArray (x0 :: x1 :: x2 :: .pointer (some ⟨w.heap.size, 0, none⟩) :: x4 :: x5 :: x6 :: x7 :: .slice (some ⟨gs, 0, none⟩) 2 2 :: x9 :: x10 :: x11 :: .slice (some ⟨gm, 0, none⟩) 2 2 :: .slice A2 M2 c2 :: x14 :: .pointer (some ⟨ga, 0, none⟩) :: .int .i64 (kk : Int) :: u17 :: u18 :: u19 :: u20 :: u21 :: u22 :: u23 :: u24 :: u25 :: u26 :: u27 :: u28 :: x29 :: x30 :: x31 :: x32 :: x33 :: x34 :: x35 :: x36 :: x37 :: x38 :: x39 :: x40 :: x41 :: x42 :: x43 :: x44 :: x45 :: x46 :: x47 :: x48 :: x49 :: x50 :: x51 :: x52 :: x53 :: x54 :: x55 :: x56 :: x57 :: x58 :: x59 :: x60 :: x61 :: x62 :: x63 :: x64 :: x65 :: x66 :: x67 :: x68 :: x69 :: x70 :: x71 :: x72 :: x73 :: x74 :: x75 :: u76 :: u77 :: u78 :: u79 :: u80 :: u81 :: u82 :: u83 :: u84 :: u85 :: u86 :: u87 :: u88 :: u89 :: u90 :: u91 :: u92 :: u93 :: u94 :: u95 :: u96 :: u97 :: u98 :: u99 :: u100 :: u101 :: u102 :: u103 :: u104 :: u105 :: u106 :: u107 :: u108 :: u109 :: u110 :: u111 :: u112 :: u113 :: u114 :: u115 :: u116 :: u117 :: u118 :: u119 :: u120 :: u121 :: u122 :: u123 :: u124 :: u125 :: u126 :: u127 :: u128 :: u129 :: u130 :: u131 :: u132 :: u133 :: u134 :: u135 :: u136 :: u137 :: u138 :: u139 :: u140 :: u141 :: u142 :: u143 :: u144 :: u145 :: u146 :: u147 :: u148 :: u149 :: u150 :: u151 :: u152 :: u153 :: u154 :: u155 :: u156 :: u157 :: u158 :: u159 :: u160 :: u161 :: u162 :: u163 :: u164 :: u165 :: u166 :: u167 :: u168 :: u169 :: u170 :: u171 :: u172 :: u173 :: u174 :: u175 :: u176 :: u177 :: u178 :: u179 :: u180 :: u181 :: u182 :: u183 :: u184 :: u185 :: u186 :: u187 :: u188 :: u189 :: u190 :: u191 :: u192 :: u193 :: u194 :: u195 :: u196 :: u197 :: u198 :: u199 :: u200 :: u201 :: u202 :: u203 :: u204 :: u205 :: u206 :: u207 :: u208 :: u209 :: u210 :: u211 :: u212 :: u213 :: u214 :: u215 :: u216 :: u217 :: u218 :: u219 :: u220 :: u221 :: u222 :: u223 :: u224 :: u225 :: u226 :: u227 :: u228 :: u229 :: u230 :: u231 :: u232 :: u233 :: u234 :: u235 :: u236 :: u237 :: u238 :: u239 :: u240 :: u241 :: x242 :: x243 :: x244 :: x245 :: x246 :: x247 :: x248 :: x249 :: x250 :: x251 :: x252 :: x253 :: x254 :: x255 :: x256 :: x257 :: x258 :: x259 :: x260 :: x261 :: []), []⟩ W2
set_option maxRecDepth 1000000 in
set_option maxHeartbeats 2000000 in
theorem switch_leaf {x0 x1 x2 x4 x5 x6 x7 x9 x10 x11 x14 x17 x18 x19 x20 x21 x22 x23 x24 x25 x26 x27 x28 x29 x30 x31 x32 x33 x34 x35 x36 x37 x38 x39 x40 x41 x42 x43 x44 x45 x46 x47 x48 x49 x50 x51 x52 x53 x54 x55 x56 x57 x58 x59 x60 x61 x62 x63 x64 x65 x66 x67 x68 x69 x70 x71 x72 x73 x74 x75 x76 x77 x78 x79 x80 x81 x82 x83 x84 x85 x86 x87 x88 x89 x90 x91 x92 x93 x94 x95 x96 x97 x98 x99 x100 x101 x102 x103 x104 x105 x106 x107 x108 x109 x110 x111 x112 x113 x114 x115 x116 x117 x118 x119 x120 x121 x122 x123 x124 x125 x126 x127 x128 x129 x130 x131 x132 x133 x134 x135 x136 x137 x138 x139 x140 x141 x142 x143 x144 x145 x146 x147 x148 x149 x150 x151 x152 x153 x154 x155 x156 x157 x158 x159 x160 x161 x162 x163 x164 x165 x166 x167 x168 x169 x170 x171 x172 x173 x174 x175 x176 x177 x178 x179 x180 x181 x182 x183 x184 x185 x186 x187 x188 x189 x190 x191 x192 x193 x194 x195 x196 x197 x198 x199 x200 x201 x202 x203 x204 x205 x206 x207 x208 x209 x210 x211 x212 x213 x214 x215 x216 x217 x218 x219 x220 x221 x222 x223 x224 x225 x226 x227 x228 x229 x230 x231 x232 x233 x234 x235 x236 x237 x238 x239 x240 x241 x242 x243 x244 x245 x246 x247 x248 x249 x250 x251 x252 x253 x254 x255 x256 x257 x258 x259 x260 x261 : Value} {Q : Exit → Act → World → Prop} {w W0 : World} {key dk : List UInt8} {g : Nat → Nat} {gs gm ga kk : Nat} {sd : Nat → SidV} {vb : Value} {a : ActR} {A : Option Addr} {c M : Nat} {ls : List (List UInt8)} {pb : Option Addr} {cb : Nat} (HT : Hid (∀ W, Below w.heap.size w W → Tab W ∧ 0 < W.heap.size)) (h00 : 0 < w.heap.size) (hk : key.length = 32) (HD : Hid (dk = frameK key)) (hkk : kk < 2) (hls : ∀ l ∈ ls, l.length ≤ 300) (hM30 : M ≤ 30) (hsd : ∀ i, i < 2 → (sd i).1 < 18446744073709551616) (hl : a.bytes.length ≤ 100) (han : a.n < 18446744073709551616) (haf : a.from_ < 18446744073709551616) (hvb : HB w (.slice pb a.bytes.length cb) a.bytes) (H : Bg w W0 key dk g gs gm sd sd) (hR : StrR W0 w.heap.size (.slice A M c) M ls) (hB : Blk W0 ga 50 (actC (.slice pb a.bytes.length cb) a).toArray)
    (hQ : SwQ x0 x1 x2 x4 x5 x6 x7 x9 x10 x11 x14 x17 x18 x19 x20 x21 x22 x23 x24 x25 x26 x27 x28 x29 x30 x31 x32 x33 x34 x35 x36 x37 x38 x39 x40 x41 x42 x43 x44 x45 x46 x47 x48 x49 x50 x51 x52 x53 x54 x55 x56 x57 x58 x59 x60 x61 x62 x63 x64 x65 x66 x67 x68 x69 x70 x71 x72 x73 x74 x75 x76 x77 x78 x79 x80 x81 x82 x83 x84 x85 x86 x87 x88 x89 x90 x91 x92 x93 x94 x95 x96 x97 x98 x99 x100 x101 x102 x103 x104 x105 x106 x107 x108 x109 x110 x111 x112 x113 x114 x115 x116 x117 x118 x119 x120 x121 x122 x123 x124 x125 x126 x127 x128 x129 x130 x131 x132 x133 x134 x135 x136 x137 x138 x139 x140 x141 x142 x143 x144 x145 x146 x147 x148 x149 x150 x151 x152 x153 x154 x155 x156 x157 x158 x159 x160 x161 x162 x163 x164 x165 x166 x167 x168 x169 x170 x171 x172 x173 x174 x175 x176 x177 x178 x179 x180 x181 x182 x183 x184 x185 x186 x187 x188 x189 x190 x191 x192 x193 x194 x195 x196 x197 x198 x199 x200 x201 x202 x203 x204 x205 x206 x207 x208 x209 x210 x211 x212 x213 x214 x215 x216 x217 x218 x219 x220 x221 x222 x223 x224 x225 x226 x227 x228 x229 x230 x231 x232 x233 x234 x235 x236 x237 x238 x239 x240 x241 x242 x243 x244 x245 x246 x247 x248 x249 x250 x251 x252 x253 x254 x255 x256 x257 x258 x259 x260 x261 Q w key dk g gs gm ga kk M) : Code.wp Tryd.prog sSwitch Q ⟨List.toArray (x0 :: x1 :: x2 :: .pointer (some ⟨w.heap.size, 0, none⟩) :: x4 :: x5 :: x6 :: x7 :: .slice (some ⟨gs, 0, none⟩) 2 2 :: x9 :: x10 :: x11 :: .slice (some ⟨gm, 0, none⟩) 2 2 :: .slice A M c :: x14 :: .pointer (some ⟨ga, 0, none⟩) :: .int .i64 (kk : Int) :: x17 :: x18 :: x19 :: x20 :: x21 :: x22 :: x23 :: x24 :: x25 :: x26 :: x27 :: x28 :: x29 :: x30 :: x31 :: x32 :: x33 :: x34 :: x35 :: x36 :: x37 :: x38 :: x39 :: x40 :: x41 :: x42 :: x43 :: x44 :: x45 :: x46 :: x47 :: x48 :: x49 :: x50 :: x51 :: x52 :: x53 :: x54 :: x55 :: x56 :: x57 :: x58 :: x59 :: x60 :: x61 :: x62 :: x63 :: x64 :: x65 :: x66 :: x67 :: x68 :: x69 :: x70 :: x71 :: x72 :: x73 :: x74 :: x75 :: x76 :: x77 :: x78 :: x79 :: x80 :: x81 :: x82 :: x83 :: x84 :: x85 :: x86 :: x87 :: x88 :: x89 :: x90 :: x91 :: x92 :: x93 :: x94 :: x95 :: x96 :: x97 :: x98 :: x99 :: x100 :: x101 :: x102 :: x103 :: x104 :: x105 :: x106 :: x107 :: x108 :: x109 :: x110 :: x111 :: x112 :: x113 :: x114 :: x115 :: x116 :: x117 :: x118 :: x119 :: x120 :: x121 :: x122 :: x123 :: x124 :: x125 :: x126 :: x127 :: x128 :: x129 :: x130 :: x131 :: x132 :: x133 :: x134 :: x135 :: x136 :: x137 :: x138 :: x139 :: x140 :: x141 :: x142 :: x143 :: x144 :: x145 :: x146 :: x147 :: x148 :: x149 :: x150 :: x151 :: x152 :: x153 :: x154 :: x155 :: x156 :: x157 :: x158 :: x159 :: x160 :: x161 :: x162 :: x163 :: x164 :: x165 :: x166 :: x167 :: x168 :: x169 :: x170 :: x171 :: x172 :: x173 :: x174 :: x175 :: x176 :: x177 :: x178 :: x179 :: x180 :: x181 :: x182 :: x183 :: x184 :: x185 :: x186 :: x187 :: x188 :: x189 :: x190 :: x191 :: x192 :: x193 :: x194 :: x195 :: x196 :: x197 :: x198 :: x199 :: x200 :: x201 :: x202 :: x203 :: x204 :: x205 :: x206 :: x207 :: x208 :: x209 :: x210 :: x211 :: x212 :: x213 :: x214 :: x215 :: x216 :: x217 :: x218 :: x219 :: x220 :: x221 :: x222 :: x223 :: x224 :: x225 :: x226 :: x227 :: x228 :: x229 :: x230 :: x231 :: x232 :: x233 :: x234 :: x235 :: x236 :: x237 :: x238 :: x239 :: x240 :: x241 :: x242 :: x243 :: x244 :: x245 :: x246 :: x247 :: x248 :: x249 :: x250 :: x251 :: x252 :: x253 :: x254 :: x255 :: x256 :: x257 :: x258 :: x259 :: x260 :: x261 :: []), []⟩ W0 := by
  have HI := Lib.hid (And.intro H (And.intro hR hB))
  have HV := Lib.hid (And.intro hvb (And.intro han (And.intro haf hl)))
  have HQ := Lib.hid hQ
  have HSD := Lib.hid hsd
  have hdl : dk.length = 32 := by rw [HD.out]; exact frameK_length _
  have a0 : W0.cell? ⟨ga, 0, none⟩ = some (.int .i64 a.kind) := hB.cell 0
  clear H hR hB hvb han haf hl hQ hsd
  obtain ⟨q0, e0⟩ : ∃ c, (bits BinOp.and IntKind.i64 a.kind 7 == 0) = c := ⟨_, rfl⟩
  obtain ⟨q1, e1⟩ : ∃ c, (bits BinOp.and IntKind.i64 a.kind 7 == 1) = c := ⟨_, rfl⟩
  obtain ⟨q2, e2⟩ : ∃ c, (bits BinOp.and IntKind.i64 a.kind 7 == 2) = c := ⟨_, rfl⟩
  conv => arg 2; whnf
  cases q0 with
  | true =>
    refine wp_seq_k ?_
    intro K hK
    refine wp_stop sBlk hK ?_
    intro K1 hK1
    go_wp2_with fail
    unfold Stop
    conv => arg 2; whnf
    refine wp_block ?_
    refine wp_seq_k ?_
    intro K0 hK0
    refine wp_stop sC1 hK0 ?_
    intro K2 hK2
    go_wp2_with fail
    unfold Stop
    conv => arg 2; whnf
    refine wp_cond_true rfl ?_
    refine send_leaf (a := a) (pb := pb) (cb := cb) (sd := sd) (A := A) (c := c) (M := M) (ls := ls) (g := g) (gs := gs) (gm := gm) (ga := ga) (kk := kk) (vb := undef) HT h00 hk HD hkk hM30 (HSD.out kk hkk) HV.out.2.2.2 HV.out.1 HI.out.1 HI.out.2.1 HI.out.2.2 ?_
    intro _ _ _ _ _ _ _ _ _ _ _ _ _ _ _ _ _ _ _ _ _ _ _ _ _ _ _ _ _ _ _ _ _ _ _ _ _ _ _ _ _ _ _ _ _ n2 y2 W2 hn2 hB2 hy2 hR2
    obtain ⟨A2, c2, rfl⟩ := own_form hR2
    exact HQ.out _ _ _ _ _ _ _ _ _ _ _ _ _ _ _ _ _ _ _ _ _ _ _ _ _ _ _ _ _ _ _ _ _ _ _ _ _ _ _ _ _ _ _ _ _ _ _ _ _ _ _ _ _ _ _ _ _ _ _ _ _ _ _ _ _ _ _ _ _ _ _ _ _ _ _ _ _ _ _ _ _ _ _ _ _ _ _ _ _ _ _ _ _ _ _ _ _ _ _ _ _ _ _ _ _ _ _ _ _ _ _ _ _ _ _ _ _ _ _ _ _ _ _ _ _ _ _ _ _ _ _ _ _ _ _ _ _ _ _ _ _ _ _ _ _ _ _ _ _ _ _ _ _ _ _ _ _ _ _ _ _ _ _ _ _ _ _ _ _ _ _ _ _ _ _ _ _ _ _ A2 c2 _ _ _ hB2 hR2 (Nat.le_refl _) (setK_lt HSD.out hn2) (by intro l hl; rcases List.mem_append.1 hl with h | h; exact hls l h; rw [List.mem_singleton.1 h]; exact hy2)
  | false =>
    cases q1 with
    | true =>
      refine wp_seq_k ?_
      intro K hK
      refine wp_stop sBlk hK ?_
      intro K1 hK1
      go_wp2_with fail
      unfold Stop
      conv => arg 2; whnf
      refine wp_block ?_
      refine wp_seq_k ?_
      intro K0 hK0
      refine wp_stop sC1 hK0 ?_
      intro K2 hK2
      go_wp2_with fail
      unfold Stop
      conv => arg 2; whnf
      refine wp_cond_true rfl ?_
      refine send_leaf (a := a) (pb := pb) (cb := cb) (sd := sd) (A := A) (c := c) (M := M) (ls := ls) (g := g) (gs := gs) (gm := gm) (ga := ga) (kk := kk) (vb := undef) HT h00 hk HD hkk hM30 (HSD.out kk hkk) HV.out.2.2.2 HV.out.1 HI.out.1 HI.out.2.1 HI.out.2.2 ?_
      intro _ _ _ _ _ _ _ _ _ _ _ _ _ _ _ _ _ _ _ _ _ _ _ _ _ _ _ _ _ _ _ _ _ _ _ _ _ _ _ _ _ _ _ _ _ n2 y2 W2 hn2 hB2 hy2 hR2
      obtain ⟨A2, c2, rfl⟩ := own_form hR2
      exact HQ.out _ _ _ _ _ _ _ _ _ _ _ _ _ _ _ _ _ _ _ _ _ _ _ _ _ _ _ _ _ _ _ _ _ _ _ _ _ _ _ _ _ _ _ _ _ _ _ _ _ _ _ _ _ _ _ _ _ _ _ _ _ _ _ _ _ _ _ _ _ _ _ _ _ _ _ _ _ _ _ _ _ _ _ _ _ _ _ _ _ _ _ _ _ _ _ _ _ _ _ _ _ _ _ _ _ _ _ _ _ _ _ _ _ _ _ _ _ _ _ _ _ _ _ _ _ _ _ _ _ _ _ _ _ _ _ _ _ _ _ _ _ _ _ _ _ _ _ _ _ _ _ _ _ _ _ _ _ _ _ _ _ _ _ _ _ _ _ _ _ _ _ _ _ _ _ _ _ _ _ A2 c2 _ _ _ hB2 hR2 (Nat.le_refl _) (setK_lt HSD.out hn2) (by intro l hl; rcases List.mem_append.1 hl with h | h; exact hls l h; rw [List.mem_singleton.1 h]; exact hy2)
    | false =>
      refine wp_seq_k ?_
      intro K hK
      refine wp_stop sBlk hK ?_
      intro K1 hK1
      go_wp2_with fail
      unfold Stop
      conv => arg 2; whnf
      refine wp_block ?_
      refine wp_seq_k ?_
      intro K0 hK0
      refine wp_stop sC1 hK0 ?_
      intro K2 hK2
      go_wp2_with fail
      unfold Stop
      conv => arg 2; whnf
      refine wp_cond_false rfl ?_
      refine wp_seq_k ?_
      intro K3 hK3
      refine wp_stop sC2 hK3 ?_
      intro K4 hK4
      go_wp2_with fail
      unfold Stop
      conv => arg 2; whnf
      cases q2 with
      | true =>
        refine wp_cond_true rfl ?_
        refine skip_leaf (a := a) (sd := sd) (A := A) (c := c) (M := M) (ls := ls) (g := g) (gs := gs) (gm := gm) (ga := ga) (kk := kk) hk hdl hkk HI.out.1 HI.out.2.1 HI.out.2.2 ?_
        intro _ _ _ _ _ _ _ _ _ _ _ _ _ _ _ _ _ _ _ _ _ W2 hB2 hR2
        exact HQ.out _ _ _ _ _ _ _ _ _ _ _ _ _ _ _ _ _ _ _ _ _ _ _ _ _ _ _ _ _ _ _ _ _ _ _ _ _ _ _ _ _ _ _ _ _ _ _ _ _ _ _ _ _ _ _ _ _ _ _ _ _ _ _ _ _ _ _ _ _ _ _ _ _ _ _ _ _ _ _ _ _ _ _ _ _ _ _ _ _ _ _ _ _ _ _ _ _ _ _ _ _ _ _ _ _ _ _ _ _ _ _ _ _ _ _ _ _ _ _ _ _ _ _ _ _ _ _ _ _ _ _ _ _ _ _ _ _ _ _ _ _ _ _ _ _ _ _ _ _ _ _ _ _ _ _ _ _ _ _ _ _ _ _ _ _ _ _ _ _ _ _ _ _ _ _ _ _ _ _ A c _ _ _ hB2 hR2 (Nat.le_succ _) (setK_lt HSD.out (by have := HSD.out kk hkk; have := HV.out.2.1; omega)) hls
      | false =>
        refine wp_cond_false rfl ?_
        refine take_leaf (vb := undef) HT hk HD hkk hls hM30 HV.out.2.2.2 HV.out.2.1 HV.out.2.2.1 HV.out.1 HI.out.1 HI.out.2.1 HI.out.2.2 ?_
        intro _ _ _ _ _ _ _ _ _ _ _ _ _ _ _ _ _ _ _ _ _ _ _ _ _ _ _ _ _ _ _ _ _ _ _ _ _ _ _ _ _ _ _ _ _ _ _ _ _ _ _ _ _ _ _ _ _ _ _ _ _ _ _ _ _ _ _ _ _ _ _ _ _ _ _ _ _ _ _ _ _ _ _ _ _ _ _ _ _ _ _ _ _ _ _ _ _ _ _ _ _ _ _ _ _ tb2 W2 hB2 hR2
        exact HQ.out _ _ _ _ _ _ _ _ _ _ _ _ _ _ _ _ _ _ _ _ _ _ _ _ _ _ _ _ _ _ _ _ _ _ _ _ _ _ _ _ _ _ _ _ _ _ _ _ _ _ _ _ _ _ _ _ _ _ _ _ _ _ _ _ _ _ _ _ _ _ _ _ _ _ _ _ _ _ _ _ _ _ _ _ _ _ _ _ _ _ _ _ _ _ _ _ _ _ _ _ _ _ _ _ _ _ _ _ _ _ _ _ _ _ _ _ _ _ _ _ _ _ _ _ _ _ _ _ _ _ _ _ _ _ _ _ _ _ _ _ _ _ _ _ _ _ _ _ _ _ _ _ _ _ _ _ _ _ _ _ _ _ _ _ _ _ _ _ _ _ _ _ _ _ _ _ _ _ _ A c _ _ _ hB2 hR2 (Nat.le_succ _) (setK_lt HSD.out (HSD.out kk hkk)) hls
set_option maxRecDepth 1000000 in
def RoQ (x0 x1 x2 x4 x5 x6 x7 x9 x10 x11 x14 x16 x17 x18 x19 x20 x21 x22 x23 x24 x25 x26 x27 x28 x29 x30 x31 x32 x33 x34 x35 x36 x37 x38 x39 x40 x41 x42 x43 x44 x45 x46 x47 x48 x49 x50 x51 x52 x53 x54 x55 x56 x57 x58 x59 x60 x61 x62 x63 x64 x65 x66 x67 x68 x69 x70 x71 x72 x73 x74 x75 x76 x77 x78 x79 x80 x81 x82 x83 x84 x85 x86 x87 x88 x89 x90 x91 x92 x93 x94 x95 x96 x97 x98 x99 x100 x101 x102 x103 x104 x105 x106 x107 x108 x109 x110 x111 x112 x113 x114 x115 x116 x117 x118 x119 x120 x121 x122 x123 x124 x125 x126 x127 x128 x129 x130 x131 x132 x133 x134 x135 x136 x137 x138 x139 x140 x141 x142 x143 x144 x145 x146 x147 x148 x149 x150 x151 x152 x153 x154 x155 x156 x157 x158 x159 x160 x161 x162 x163 x164 x165 x166 x167 x168 x169 x170 x171 x172 x173 x174 x175 x176 x177 x178 x179 x180 x181 x182 x183 x184 x185 x186 x187 x188 x189 x190 x191 x192 x193 x194 x195 x196 x197 x198 x199 x200 x201 x202 x203 x204 x205 x206 x207 x208 x209 x210 x211 x212 x213 x214 x215 x216 x217 x218 x219 x220 x221 x222 x223 x224 x225 x226 x227 x228 x229 x230 x231 x232 x233 x234 x235 x236 x237 x238 x239 x240 x241 x242 x243 x244 x245 x246 x247 x248 x249 x250 x251 x252 x253 x254 x255 x256 x257 x258 x259 x260 x261 : Value) (Q : Exit → Act → World → Prop) (w : World) (key dk : List UInt8) (g : Nat → Nat) (gs gm ga M : Nat) : Prop :=
  ∀ (u16 u17 u18 u19 u20 u21 u22 u23 u24 u25 u26 u27 u28 u74 u75 u76 u77 u78 u79 u80 u81 u82 u83 u84 u85 u86 u87 u88 u89 u90 u91 u92 u93 u94 u95 u96 u97 u98 u99 u100 u101 u102 u103 u104 u105 u106 u107 u108 u109 u110 u111 u112 u113 u114 u115 u116 u117 u118 u119 u120 u121 u122 u123 u124 u125 u126 u127 u128 u129 u130 u131 u132 u133 u134 u135 u136 u137 u138 u139 u140 u141 u142 u143 u144 u145 u146 u147 u148 u149 u150 u151 u152 u153 u154 u155 u156 u157 u158 u159 u160 u161 u162 u163 u164 u165 u166 u167 u168 u169 u170 u171 u172 u173 u174 u175 u176 u177 u178 u179 u180 u181 u182 u183 u184 u185 u186 u187 u188 u189 u190 u191 u192 u193 u194 u195 u196 u197 u198 u199 u200 u201 u202 u203 u204 u205 u206 u207 u208 u209 u210 u211 u212 u213 u214 u215 u216 u217 u218 u219 u220 u221 u222 u223 u224 u225 u226 u227 u228 u229 u230 u231 u232 u233 u234 u235 u236 u237 u238 u239 u240 u241 u242 u243 u244 u245 u246 u247 u248 u249 u250 u251 u252 u253 u254 u255 u256 u257 u258 u259 u260 u261 : Value) (sd2 : Nat → SidV) (A2 : Option Addr) (c2 M2 : Nat) (ls2 : List (List UInt8)) (W2 : World), Bg w W2 key dk g gs gm sd2 sd2 → StrR W2 w.heap.size (.slice A2 M2 c2) M2 ls2 → M2 ≤ M + 1 → (∀ i, i < 2 → (sd2 i).1 < 18446744073709551616) → (∀ l ∈ ls2, l.length ≤ 300) → Q .normal ⟨List.toArray (x0 :: x1 :: x2 :: .pointer (some ⟨w.heap.size, 0, none⟩) :: x4 :: x5 :: x6 :: x7 :: .slice (some ⟨gs, 0, none⟩) 2 2 :: x9 :: x10 :: x11 :: .slice (some ⟨gm, 0, none⟩) 2 2 :: .slice A2 M2 c2 :: x14 :: .pointer (some ⟨ga, 0, none⟩) :: u16 :: u17 :: u18 :: u19 :: u20 :: u21 :: u22 :: u23 :: u24 :: u25 :: u26 :: u27 :: u28 :: x29 :: x30 :: x31 :: x32 :: x33 :: x34 :: x35 :: x36 :: x37 :: x38 :: x39 :: x40 :: x41 :: x42 :: x43 :: x44 :: x45 :: x46 :: x47 :: x48 :: x49 :: x50 :: x51 :: x52 :: x53 :: x54 :: x55 :: x56 :: x57 :: x58 :: x59 :: x60 :: x61 :: x62 :: x63 :: x64 :: x65 :: x66 :: x67 :: x68 :: x69 :: x70 :: x71 :: x72 :: x73 :: u74 :: u75 :: u76 :: u77 :: u78 :: u79 :: u80 :: u81 :: u82 :: u83 :: u84 :: u85 :: u86 :: u87 :: u88 :: u89 :: u90 :: u91 :: u92 :: u93 :: u94 :: u95 :: u96 :: u97 :: u98 :: u99 :: u100 :: u101 :: u102 :: u103 :: u104 :: u105 :: u106 :: u107 :: u108 :: u109 :: u110 :: u111 :: u112 :: u113 :: u114 :: u115 :: u116 :: u117 :: u118 :: u119 :: u120 :: u121 :: u122 :: u123 :: u124 :: u125 :: u126 :: u127 :: u128 :: u129 :: u130 :: u131 :: u132 :: u133 :: u134 :: u135 :: u136 :: u137 :: u138 :: u139 :: u140 :: u141 :: u142 :: u143 :: u144 :: u145 :: u146 :: u147 :: u148 :: u149 :: u150 :: u151 :: u152 :: u153 :: u154 :: u155 :: u156 :: u157 :: u158 :: u159 :: u160 :: u161 :: u162 :: u163 :: u164 :: u165 :: u166 :: u167 :: u168 :: u169 :: u170 :: u171 :: u172 :: u173 :: u174 :: u175 :: u176 :: u177 :: u178 :: u179 :: u180 :: u181 :: u182 :: u183 :: u184 :: u185 :: u186 :: u187 :: u188 :: u189 :: u190 :: u191 :: u192 :: u193 :: u194 :: u195 :: u196 :: u197 :: u198 :: u199 :: u200 :: u201 :: u202 :: u203 :: u204 :: u205 :: u206 :: u207 :: u208 :: u209 :: u210 :: u211 :: u212 :: u213 :: u214 :: u215 :: u216 :: u217 :: u218 :: u219 :: u220 :: u221 :: u222 :: u223 :: u224 :: u225 :: u226 :: u227 :: u228 :: u229 :: u230 :: u231 :: u232 :: u233 :: u234 :: u235 :: u236 :: u237 :: u238 :: u239 :: u240 :: u241 :: u242 :: u243 :: u244 :: u245 :: u246 :: u247 :: u248 :: u249 :: u250 :: u251 :: u252 :: u253 :: u254 :: u255 :: u256 :: u257 :: u258 :: u259 :: u260 :: u261 :: []), []⟩ W2
set_option maxRecDepth 1000000 in
set_option maxHeartbeats 2000000 in
theorem round_leaf {x0 x1 x2 x4 x5 x6 x7 x9 x10 x11 x14 x16 x17 x18 x19 x20 x21 x22 x23 x24 x25 x26 x27 x28 x29 x30 x31 x32 x33 x34 x35 x36 x37 x38 x39 x40 x41 x42 x43 x44 x45 x46 x47 x48 x49 x50 x51 x52 x53 x54 x55 x56 x57 x58 x59 x60 x61 x62 x63 x64 x65 x66 x67 x68 x69 x70 x71 x72 x73 x74 x75 x76 x77 x78 x79 x80 x81 x82 x83 x84 x85 x86 x87 x88 x89 x90 x91 x92 x93 x94 x95 x96 x97 x98 x99 x100 x101 x102 x103 x104 x105 x106 x107 x108 x109 x110 x111 x112 x113 x114 x115 x116 x117 x118 x119 x120 x121 x122 x123 x124 x125 x126 x127 x128 x129 x130 x131 x132 x133 x134 x135 x136 x137 x138 x139 x140 x141 x142 x143 x144 x145 x146 x147 x148 x149 x150 x151 x152 x153 x154 x155 x156 x157 x158 x159 x160 x161 x162 x163 x164 x165 x166 x167 x168 x169 x170 x171 x172 x173 x174 x175 x176 x177 x178 x179 x180 x181 x182 x183 x184 x185 x186 x187 x188 x189 x190 x191 x192 x193 x194 x195 x196 x197 x198 x199 x200 x201 x202 x203 x204 x205 x206 x207 x208 x209 x210 x211 x212 x213 x214 x215 x216 x217 x218 x219 x220 x221 x222 x223 x224 x225 x226 x227 x228 x229 x230 x231 x232 x233 x234 x235 x236 x237 x238 x239 x240 x241 x242 x243 x244 x245 x246 x247 x248 x249 x250 x251 x252 x253 x254 x255 x256 x257 x258 x259 x260 x261 : Value} {Q : Exit → Act → World → Prop} {w W0 : World} {key dk : List UInt8} {g : Nat → Nat} {gs gm ga : Nat} {sd : Nat → SidV} {vb : Value} {a : ActR} {A : Option Addr} {c M : Nat} {ls : List (List UInt8)} {pb : Option Addr} {cb : Nat} (HT : Hid (∀ W, Below w.heap.size w W → Tab W ∧ 0 < W.heap.size)) (h00 : 0 < w.heap.size) (hk : key.length = 32) (HD : Hid (dk = frameK key)) (hls : ∀ l ∈ ls, l.length ≤ 300) (hM30 : M ≤ 30) (hsd : ∀ i, i < 2 → (sd i).1 < 18446744073709551616) (hl : a.bytes.length ≤ 100) (han : a.n < 18446744073709551616) (haf : a.from_ < 18446744073709551616) (hvb : HB w (.slice pb a.bytes.length cb) a.bytes) (H : Bg w W0 key dk g gs gm sd sd) (hR : StrR W0 w.heap.size (.slice A M c) M ls) (hB : Blk W0 ga 50 (actC (.slice pb a.bytes.length cb) a).toArray)
    (hQ : RoQ x0 x1 x2 x4 x5 x6 x7 x9 x10 x11 x14 x16 x17 x18 x19 x20 x21 x22 x23 x24 x25 x26 x27 x28 x29 x30 x31 x32 x33 x34 x35 x36 x37 x38 x39 x40 x41 x42 x43 x44 x45 x46 x47 x48 x49 x50 x51 x52 x53 x54 x55 x56 x57 x58 x59 x60 x61 x62 x63 x64 x65 x66 x67 x68 x69 x70 x71 x72 x73 x74 x75 x76 x77 x78 x79 x80 x81 x82 x83 x84 x85 x86 x87 x88 x89 x90 x91 x92 x93 x94 x95 x96 x97 x98 x99 x100 x101 x102 x103 x104 x105 x106 x107 x108 x109 x110 x111 x112 x113 x114 x115 x116 x117 x118 x119 x120 x121 x122 x123 x124 x125 x126 x127 x128 x129 x130 x131 x132 x133 x134 x135 x136 x137 x138 x139 x140 x141 x142 x143 x144 x145 x146 x147 x148 x149 x150 x151 x152 x153 x154 x155 x156 x157 x158 x159 x160 x161 x162 x163 x164 x165 x166 x167 x168 x169 x170 x171 x172 x173 x174 x175 x176 x177 x178 x179 x180 x181 x182 x183 x184 x185 x186 x187 x188 x189 x190 x191 x192 x193 x194 x195 x196 x197 x198 x199 x200 x201 x202 x203 x204 x205 x206 x207 x208 x209 x210 x211 x212 x213 x214 x215 x216 x217 x218 x219 x220 x221 x222 x223 x224 x225 x226 x227 x228 x229 x230 x231 x232 x233 x234 x235 x236 x237 x238 x239 x240 x241 x242 x243 x244 x245 x246 x247 x248 x249 x250 x251 x252 x253 x254 x255 x256 x257 x258 x259 x260 x261 Q w key dk g gs gm ga M) : Code.wp Tryd.prog sRound Q ⟨List.toArray (x0 :: x1 :: x2 :: .pointer (some ⟨w.heap.size, 0, none⟩) :: x4 :: x5 :: x6 :: x7 :: .slice (some ⟨gs, 0, none⟩) 2 2 :: x9 :: x10 :: x11 :: .slice (some ⟨gm, 0, none⟩) 2 2 :: .slice A M c :: x14 :: .pointer (some ⟨ga, 0, none⟩) :: x16 :: x17 :: x18 :: x19 :: x20 :: x21 :: x22 :: x23 :: x24 :: x25 :: x26 :: x27 :: x28 :: x29 :: x30 :: x31 :: x32 :: x33 :: x34 :: x35 :: x36 :: x37 :: x38 :: x39 :: x40 :: x41 :: x42 :: x43 :: x44 :: x45 :: x46 :: x47 :: x48 :: x49 :: x50 :: x51 :: x52 :: x53 :: x54 :: x55 :: x56 :: x57 :: x58 :: x59 :: x60 :: x61 :: x62 :: x63 :: x64 :: x65 :: x66 :: x67 :: x68 :: x69 :: x70 :: x71 :: x72 :: x73 :: x74 :: x75 :: x76 :: x77 :: x78 :: x79 :: x80 :: x81 :: x82 :: x83 :: x84 :: x85 :: x86 :: x87 :: x88 :: x89 :: x90 :: x91 :: x92 :: x93 :: x94 :: x95 :: x96 :: x97 :: x98 :: x99 :: x100 :: x101 :: x102 :: x103 :: x104 :: x105 :: x106 :: x107 :: x108 :: x109 :: x110 :: x111 :: x112 :: x113 :: x114 :: x115 :: x116 :: x117 :: x118 :: x119 :: x120 :: x121 :: x122 :: x123 :: x124 :: x125 :: x126 :: x127 :: x128 :: x129 :: x130 :: x131 :: x132 :: x133 :: x134 :: x135 :: x136 :: x137 :: x138 :: x139 :: x140 :: x141 :: x142 :: x143 :: x144 :: x145 :: x146 :: x147 :: x148 :: x149 :: x150 :: x151 :: x152 :: x153 :: x154 :: x155 :: x156 :: x157 :: x158 :: x159 :: x160 :: x161 :: x162 :: x163 :: x164 :: x165 :: x166 :: x167 :: x168 :: x169 :: x170 :: x171 :: x172 :: x173 :: x174 :: x175 :: x176 :: x177 :: x178 :: x179 :: x180 :: x181 :: x182 :: x183 :: x184 :: x185 :: x186 :: x187 :: x188 :: x189 :: x190 :: x191 :: x192 :: x193 :: x194 :: x195 :: x196 :: x197 :: x198 :: x199 :: x200 :: x201 :: x202 :: x203 :: x204 :: x205 :: x206 :: x207 :: x208 :: x209 :: x210 :: x211 :: x212 :: x213 :: x214 :: x215 :: x216 :: x217 :: x218 :: x219 :: x220 :: x221 :: x222 :: x223 :: x224 :: x225 :: x226 :: x227 :: x228 :: x229 :: x230 :: x231 :: x232 :: x233 :: x234 :: x235 :: x236 :: x237 :: x238 :: x239 :: x240 :: x241 :: x242 :: x243 :: x244 :: x245 :: x246 :: x247 :: x248 :: x249 :: x250 :: x251 :: x252 :: x253 :: x254 :: x255 :: x256 :: x257 :: x258 :: x259 :: x260 :: x261 :: []), []⟩ W0 := by
  have HQ := Lib.hid hQ
  have HB0 := Lib.hid hB
  have hdl : dk.length = 32 := by rw [HD.out]; exact frameK_length _
  have a1 : W0.cell? ⟨ga, 1, none⟩ = some (.bool a.back) := hB.cell 1
  have HI := Lib.hid (And.intro H hR)
  clear hQ H hR hB
  conv => arg 2; whnf
  refine wp_seq_k ?_
  intro K hK
  refine wp_stop sBack hK ?_
  intro K1 hK1
  go_wp2_with fail
  unfold Stop
  conv => arg 2; whnf
  refine wp_seq_k ?_
  intro K2 hK2
  refine wp_stop sRest hK2 ?_
  intro K3 hK3
  obtain ⟨bk, hbk⟩ : ∃ b, a.back = b := ⟨_, rfl⟩
  rw [hbk] at a1
  cases bk with
  | false =>
    go_wp2_with fail
    unfold Stop
    conv => arg 2; whnf
    refine wp_seq ?_
    refine switch_leaf (kk := 0) (vb := undef) HT h00 hk HD (by decide) hls hM30 hsd hl han haf hvb HI.out.1 HI.out.2 HB0.out ?_
    intro _ _ _ _ _ _ _ _ _ _ _ _ _ _ _ _ _ _ _ _ _ _ _ _ _ _ _ _ _ _ _ _ _ _ _ _ _ _ _ _ _ _ _ _ _ _ _ _ _ _ _ _ _ _ _ _ _ _ _ _ _ _ _ _ _ _ _ _ _ _ _ _ _ _ _ _ _ _ _ _ _ _ _ _ _ _ _ _ _ _ _ _ _ _ _ _ _ _ _ _ _ _ _ _ _ _ _ _ _ _ _ _ _ _ _ _ _ _ _ _ _ _ _ _ _ _ _ _ _ _ _ _ _ _ _ _ _ _ _ _ _ _ _ _ _ _ _ _ _ _ _ _ _ _ _ _ _ _ _ _ _ _ _ _ _ _ _ _ _ _ _ _ _ _ _ _ _ _ sd2 A2 c2 M2 ls2 W2 h1 h2 h3 h4 h5
    refine tail_leaf hk hdl h1 ?_
    intro _ _ _ _ _ _ _ _ _ _ _ _ _ _ _ _ _ _ _ _ W3 hb3
    exact HQ.out _ _ _ _ _ _ _ _ _ _ _ _ _ _ _ _ _ _ _ _ _ _ _ _ _ _ _ _ _ _ _ _ _ _ _ _ _ _ _ _ _ _ _ _ _ _ _ _ _ _ _ _ _ _ _ _ _ _ _ _ _ _ _ _ _ _ _ _ _ _ _ _ _ _ _ _ _ _ _ _ _ _ _ _ _ _ _ _ _ _ _ _ _ _ _ _ _ _ _ _ _ _ _ _ _ _ _ _ _ _ _ _ _ _ _ _ _ _ _ _ _ _ _ _ _ _ _ _ _ _ _ _ _ _ _ _ _ _ _ _ _ _ _ _ _ _ _ _ _ _ _ _ _ _ _ _ _ _ _ _ _ _ _ _ _ _ _ _ _ _ _ _ _ _ _ _ _ _ _ _ _ _ _ _ _ _ _ _ _ _ _ _ _ _ _ _ _ _ _ _ _ sd2 A2 c2 M2 ls2 W3 (h1.below hb3) (h2.keep hb3) h3 h4 h5
  | true =>
    go_wp2_with fail
    unfold Stop
    conv => arg 2; whnf
    refine wp_seq ?_
    refine switch_leaf (kk := 1) (vb := undef) HT h00 hk HD (by decide) hls hM30 hsd hl han haf hvb HI.out.1 HI.out.2 HB0.out ?_
    intro _ _ _ _ _ _ _ _ _ _ _ _ _ _ _ _ _ _ _ _ _ _ _ _ _ _ _ _ _ _ _ _ _ _ _ _ _ _ _ _ _ _ _ _ _ _ _ _ _ _ _ _ _ _ _ _ _ _ _ _ _ _ _ _ _ _ _ _ _ _ _ _ _ _ _ _ _ _ _ _ _ _ _ _ _ _ _ _ _ _ _ _ _ _ _ _ _ _ _ _ _ _ _ _ _ _ _ _ _ _ _ _ _ _ _ _ _ _ _ _ _ _ _ _ _ _ _ _ _ _ _ _ _ _ _ _ _ _ _ _ _ _ _ _ _ _ _ _ _ _ _ _ _ _ _ _ _ _ _ _ _ _ _ _ _ _ _ _ _ _ _ _ _ _ _ _ _ _ sd2 A2 c2 M2 ls2 W2 h1 h2 h3 h4 h5
    refine tail_leaf hk hdl h1 ?_
    intro _ _ _ _ _ _ _ _ _ _ _ _ _ _ _ _ _ _ _ _ W3 hb3
    exact HQ.out _ _ _ _ _ _ _ _ _ _ _ _ _ _ _ _ _ _ _ _ _ _ _ _ _ _ _ _ _ _ _ _ _ _ _ _ _ _ _ _ _ _ _ _ _ _ _ _ _ _ _ _ _ _ _ _ _ _ _ _ _ _ _ _ _ _ _ _ _ _ _ _ _ _ _ _ _ _ _ _ _ _ _ _ _ _ _ _ _ _ _ _ _ _ _ _ _ _ _ _ _ _ _ _ _ _ _ _ _ _ _ _ _ _ _ _ _ _ _ _ _ _ _ _ _ _ _ _ _ _ _ _ _ _ _ _ _ _ _ _ _ _ _ _ _ _ _ _ _ _ _ _ _ _ _ _ _ _ _ _ _ _ _ _ _ _ _ _ _ _ _ _ _ _ _ _ _ _ _ _ _ _ _ _ _ _ _ _ _ _ _ _ _ _ _ _ _ _ _ _ _ sd2 A2 c2 M2 ls2 W3 (h1.below hb3) (h2.keep hb3) h3 h4 h5
end Go.Proofs.YtlkhbfafednegaaDoor
namespace Go.Proofs.YtlkhbfafednegaaDoor
open Go Go.RowKit
set_option linter.unusedSimpArgs false
set_option linter.unusedVariables false

theorem actC_one (pb : Option Addr) (n cb : Nat) (a : ActR) : (actC (.slice pb n cb) a).toArray.all (·.oneCell') = true := by
  simp [actC, Value.oneCell']
theorem actC_size (pb : Option Addr) (n cb : Nat) (a : ActR) : (actC (.slice pb n cb) a).toArray.size = 8 := rfl
noncomputable def sAll : Code := playAt [1,1,1,1,1,1]
noncomputable def s18 : Code := playAt [1,1,1,1,1,1,1,0,1,0,0,1,0,0,1]
set_option maxRecDepth 1000000 in
set_option maxHeartbeats 4000000 in
theorem plays_leaf {x0 x1 x4 x5 x6 x7 x9 x10 x11 x13 x14 x15 x16 x17 x18 x19 x20 x21 x22 x23 x24 x25 x26 x27 x28 x29 x30 x31 x32 x33 x34 x35 x36 x37 x38 x39 x40 x41 x42 x43 x44 x45 x46 x47 x48 x49 x50 x51 x52 x53 x54 x55 x56 x57 x58 x59 x60 x61 x62 x63 x64 x65 x66 x67 x68 x69 x70 x71 x72 x73 x74 x75 x76 x77 x78 x79 x80 x81 x82 x83 x84 x85 x86 x87 x88 x89 x90 x91 x92 x93 x94 x95 x96 x97 x98 x99 x100 x101 x102 x103 x104 x105 x106 x107 x108 x109 x110 x111 x112 x113 x114 x115 x116 x117 x118 x119 x120 x121 x122 x123 x124 x125 x126 x127 x128 x129 x130 x131 x132 x133 x134 x135 x136 x137 x138 x139 x140 x141 x142 x143 x144 x145 x146 x147 x148 x149 x150 x151 x152 x153 x154 x155 x156 x157 x158 x159 x160 x161 x162 x163 x164 x165 x166 x167 x168 x169 x170 x171 x172 x173 x174 x175 x176 x177 x178 x179 x180 x181 x182 x183 x184 x185 x186 x187 x188 x189 x190 x191 x192 x193 x194 x195 x196 x197 x198 x199 x200 x201 x202 x203 x204 x205 x206 x207 x208 x209 x210 x211 x212 x213 x214 x215 x216 x217 x218 x219 x220 x221 x222 x223 x224 x225 x226 x227 x228 x229 x230 x231 x232 x233 x234 x235 x236 x237 x238 x239 x240 x241 x242 x243 x244 x245 x246 x247 x248 x249 x250 x251 x252 x253 x254 x255 x256 x257 x258 x259 x260 x261 : Value} {Q : Exit → Act → World → Prop} {w W3 : World} {key dk : List UInt8} {g : Nat → Nat} {gs gm N : Nat} {pv : Option Addr} {cv : Nat} {acs : List ActR} (HT : Hid (∀ W, Below w.heap.size w W → Tab W ∧ 0 < W.heap.size)) (h00 : 0 < w.heap.size) (hk : key.length = 32) (HD : Hid (dk = frameK key)) (HN : Hid (N = acs.length)) (hlc : N ≤ cv) (hcm : cv ≤ 9223372036854775807)
    (HAC : Hid (∀ (i : Nat) (a : ActR), acs[i]? = some a → ∃ b o vb, pv = some ⟨b, o, none⟩ ∧ HB w vb a.bytes ∧ w.rangeAt b (o + i * 8) (actC vb a) ∧ a.n < 18446744073709551616 ∧ a.from_ < 18446744073709551616)) (HW3 : Hid (Bg w W3 key dk g gs gm (fun _ => (0, 0, 0)) (fun _ => (0, 0, 0))))
    (hQ : ∀ (u13 u14 u15 u16 u17 u18 u19 u20 u21 u22 u23 u24 u25 u26 u27 u28 u29 u30 u31 u32 u33 u34 u35 u36 u37 u38 u39 u40 u41 u42 u43 u44 u45 u46 u47 u48 u49 u50 u51 u52 u53 u54 u55 u56 u57 u58 u59 u60 u61 u62 u63 u64 u65 u66 u67 u68 u69 u70 u71 u72 u73 u74 u75 u76 u77 u78 u79 u80 u81 u82 u83 u84 u85 u86 u87 u88 u89 u90 u91 u92 u93 u94 u95 u96 u97 u98 u99 u100 u101 u102 u103 u104 u105 u106 u107 u108 u109 u110 u111 u112 u113 u114 u115 u116 u117 u118 u119 u120 u121 u122 u123 u124 u125 u126 u127 u128 u129 u130 u131 u132 u133 u134 u135 u136 u137 u138 u139 u140 u141 u142 u143 u144 u145 u146 u147 u148 u149 u150 u151 u152 u153 u154 u155 u156 u157 u158 u159 u160 u161 u162 u163 u164 u165 u166 u167 u168 u169 u170 u171 u172 u173 u174 u175 u176 u177 u178 u179 u180 u181 u182 u183 u184 u185 u186 u187 u188 u189 u190 u191 u192 u193 u194 u195 u196 u197 u198 u199 u200 u201 u202 u203 u204 u205 u206 u207 u208 u209 u210 u211 u212 u213 u214 u215 u216 u217 u218 u219 u220 u221 u222 u223 u224 u225 u226 u227 u228 u229 u230 u231 u232 u233 u234 u235 u236 u237 u238 u239 u240 u241 u242 u243 u244 u245 u246 u247 u248 u249 u250 u251 u252 u253 u254 u255 u256 u257 u258 u259 u260 u261 : Value) (W' : World), Below w.heap.size w W' → Q .ret ⟨List.toArray (x0 :: x1 :: .slice pv N cv :: .pointer (some ⟨w.heap.size, 0, none⟩) :: x4 :: x5 :: .bool true :: x7 :: .slice (some ⟨gs, 0, none⟩) 2 2 :: x9 :: x10 :: x11 :: .slice (some ⟨gm, 0, none⟩) 2 2 :: u13 :: u14 :: u15 :: u16 :: u17 :: u18 :: u19 :: u20 :: u21 :: u22 :: u23 :: u24 :: u25 :: u26 :: u27 :: u28 :: u29 :: u30 :: u31 :: u32 :: u33 :: u34 :: u35 :: u36 :: u37 :: u38 :: u39 :: u40 :: u41 :: u42 :: u43 :: u44 :: u45 :: u46 :: u47 :: u48 :: u49 :: u50 :: u51 :: u52 :: u53 :: u54 :: u55 :: u56 :: u57 :: u58 :: u59 :: u60 :: u61 :: u62 :: u63 :: u64 :: u65 :: u66 :: u67 :: u68 :: u69 :: u70 :: u71 :: u72 :: u73 :: u74 :: u75 :: u76 :: u77 :: u78 :: u79 :: u80 :: u81 :: u82 :: u83 :: u84 :: u85 :: u86 :: u87 :: u88 :: u89 :: u90 :: u91 :: u92 :: u93 :: u94 :: u95 :: u96 :: u97 :: u98 :: u99 :: u100 :: u101 :: u102 :: u103 :: u104 :: u105 :: u106 :: u107 :: u108 :: u109 :: u110 :: u111 :: u112 :: u113 :: u114 :: u115 :: u116 :: u117 :: u118 :: u119 :: u120 :: u121 :: u122 :: u123 :: u124 :: u125 :: u126 :: u127 :: u128 :: u129 :: u130 :: u131 :: u132 :: u133 :: u134 :: u135 :: u136 :: u137 :: u138 :: u139 :: u140 :: u141 :: u142 :: u143 :: u144 :: u145 :: u146 :: u147 :: u148 :: u149 :: u150 :: u151 :: u152 :: u153 :: u154 :: u155 :: u156 :: u157 :: u158 :: u159 :: u160 :: u161 :: u162 :: u163 :: u164 :: u165 :: u166 :: u167 :: u168 :: u169 :: u170 :: u171 :: u172 :: u173 :: u174 :: u175 :: u176 :: u177 :: u178 :: u179 :: u180 :: u181 :: u182 :: u183 :: u184 :: u185 :: u186 :: u187 :: u188 :: u189 :: u190 :: u191 :: u192 :: u193 :: u194 :: u195 :: u196 :: u197 :: u198 :: u199 :: u200 :: u201 :: u202 :: u203 :: u204 :: u205 :: u206 :: u207 :: u208 :: u209 :: u210 :: u211 :: u212 :: u213 :: u214 :: u215 :: u216 :: u217 :: u218 :: u219 :: u220 :: u221 :: u222 :: u223 :: u224 :: u225 :: u226 :: u227 :: u228 :: u229 :: u230 :: u231 :: u232 :: u233 :: u234 :: u235 :: u236 :: u237 :: u238 :: u239 :: u240 :: u241 :: u242 :: u243 :: u244 :: u245 :: u246 :: u247 :: u248 :: u249 :: u250 :: u251 :: u252 :: u253 :: u254 :: u255 :: u256 :: u257 :: u258 :: u259 :: u260 :: u261 :: []), []⟩ W') : Code.wp Tryd.prog sAll Q ⟨List.toArray (x0 :: x1 :: .slice pv N cv :: .pointer (some ⟨w.heap.size, 0, none⟩) :: x4 :: x5 :: x6 :: x7 :: .slice (some ⟨gs, 0, none⟩) 2 2 :: x9 :: x10 :: x11 :: .slice (some ⟨gm, 0, none⟩) 2 2 :: x13 :: x14 :: x15 :: x16 :: x17 :: x18 :: x19 :: x20 :: x21 :: x22 :: x23 :: x24 :: x25 :: x26 :: x27 :: x28 :: x29 :: x30 :: x31 :: x32 :: x33 :: x34 :: x35 :: x36 :: x37 :: x38 :: x39 :: x40 :: x41 :: x42 :: x43 :: x44 :: x45 :: x46 :: x47 :: x48 :: x49 :: x50 :: x51 :: x52 :: x53 :: x54 :: x55 :: x56 :: x57 :: x58 :: x59 :: x60 :: x61 :: x62 :: x63 :: x64 :: x65 :: x66 :: x67 :: x68 :: x69 :: x70 :: x71 :: x72 :: x73 :: x74 :: x75 :: x76 :: x77 :: x78 :: x79 :: x80 :: x81 :: x82 :: x83 :: x84 :: x85 :: x86 :: x87 :: x88 :: x89 :: x90 :: x91 :: x92 :: x93 :: x94 :: x95 :: x96 :: x97 :: x98 :: x99 :: x100 :: x101 :: x102 :: x103 :: x104 :: x105 :: x106 :: x107 :: x108 :: x109 :: x110 :: x111 :: x112 :: x113 :: x114 :: x115 :: x116 :: x117 :: x118 :: x119 :: x120 :: x121 :: x122 :: x123 :: x124 :: x125 :: x126 :: x127 :: x128 :: x129 :: x130 :: x131 :: x132 :: x133 :: x134 :: x135 :: x136 :: x137 :: x138 :: x139 :: x140 :: x141 :: x142 :: x143 :: x144 :: x145 :: x146 :: x147 :: x148 :: x149 :: x150 :: x151 :: x152 :: x153 :: x154 :: x155 :: x156 :: x157 :: x158 :: x159 :: x160 :: x161 :: x162 :: x163 :: x164 :: x165 :: x166 :: x167 :: x168 :: x169 :: x170 :: x171 :: x172 :: x173 :: x174 :: x175 :: x176 :: x177 :: x178 :: x179 :: x180 :: x181 :: x182 :: x183 :: x184 :: x185 :: x186 :: x187 :: x188 :: x189 :: x190 :: x191 :: x192 :: x193 :: x194 :: x195 :: x196 :: x197 :: x198 :: x199 :: x200 :: x201 :: x202 :: x203 :: x204 :: x205 :: x206 :: x207 :: x208 :: x209 :: x210 :: x211 :: x212 :: x213 :: x214 :: x215 :: x216 :: x217 :: x218 :: x219 :: x220 :: x221 :: x222 :: x223 :: x224 :: x225 :: x226 :: x227 :: x228 :: x229 :: x230 :: x231 :: x232 :: x233 :: x234 :: x235 :: x236 :: x237 :: x238 :: x239 :: x240 :: x241 :: x242 :: x243 :: x244 :: x245 :: x246 :: x247 :: x248 :: x249 :: x250 :: x251 :: x252 :: x253 :: x254 :: x255 :: x256 :: x257 :: x258 :: x259 :: x260 :: x261 :: []), []⟩ W3 := by
  have HQ := Lib.hid hQ
  clear hQ
  conv => arg 2; whnf
  go_wp2_with fail
  go_loopw [13, 14] (fun fr i W => ∃ (k : Nat) (f : Nat → SidV) (ls : List (List UInt8)), k ≤ N ∧ k ≤ 30 ∧ i = .int .i64 (k : Int) ∧ Bg w W key dk g gs gm f f ∧ StrR W w.heap.size fr ls.length ls ∧ Hid ((∀ i, i < 2 → (f i).1 < 18446744073709551616) ∧ ls.length ≤ k ∧ ∀ l ∈ ls, l.length ≤ 300)) (fun _ i _ => 30 - (intOf i).toNat)
  case atStart => exact ⟨0, _, [], by omega, by omega, rfl, HW3.out, World.ownsRow_nil _ _ _ _, Lib.hid ⟨fun _ _ => by decide, Nat.le_refl _, fun l hl => by cases hl⟩⟩
  case round =>
    clear HW3
    obtain ⟨k, f, ls, hkN, hk30, rfl, hB, hR, HF⟩ := hrel
    obtain ⟨A, c, rfl⟩ := own_form hR
    have HI := Lib.hid (And.intro hB hR)
    have hbz := hB.hb.size
    clear hB hR
    obtain ⟨M, hM⟩ : ∃ M, M = ls.length := ⟨_, rfl⟩
    rw [← hM] at HI HF ⊢
    have HM := Lib.hid hM
    clear hM
    by_cases hlt : k < N
    · by_cases hlt30 : k < 30
      · obtain ⟨a, ha⟩ : ∃ a, acs[k]? = some a := ⟨_, List.getElem?_eq_getElem (by rw [← HN.out]; exact hlt)⟩
        obtain ⟨b, o, vb, hp, hvb, hra, han, haf⟩ := HAC.out k a ha
        obtain rfl := hp
        obtain ⟨pb, cb, rfl, hbc, hbm⟩ := hvb.form
        have HAB := Lib.hid (And.intro hvb (And.intro han haf))
        have HRA := Lib.hid (range_below hra (show Below w.heap.size w wr from HI.out.1.hb))
        clear ha hvb hra han haf hbc hbm
        have hki : (k : Int) < (N : Int) := by omega
        have hki30 : (k : Int) < 30 := by omega
        have hk0 : ¬ (k : Int) < 0 := by omega
        go_upto_region 17 with (fail)
        refine wp_stop s18 (by assumption) ?_
        intro K1 hK1
        go_wp2_with (first
          | (refine wpList_load_mid rfl 50 (.tmp 68) rfl b (o + k * 8) rfl (actC (.slice pb a.bytes.length cb) a) _ HRA.out Tryd.underlying50 rfl (by kernel_rfl) ?_)
          | (refine wpList_store_blk rfl 50 (.tmp 15) (.tmp 69) rfl wr.heap.size 50 _ (actC (.slice pb a.bytes.length cb) a).toArray rfl rfl (Blk.new wr _ _) rfl (by rw [actC_size]; kernel_rfl) (actC_one _ _ _ _) ?_
             intro w4 hb4 hg4 hz4
             have HI4 : Hid (Bg w w4 key dk g gs gm f f ∧ StrR w4 w.heap.size (.slice A M c) M ls ∧ Blk w4 wr.heap.size 50 (actC (.slice pb a.bytes.length cb) a).toArray) := Lib.hid (by
               have hB4 : Below wr.heap.size wr w4 := ((Below.refl wr.heap.size wr).alloc (Nat.le_refl _) _).grown hg4 (by simp) (by intro k hk; injection hk with hk; omega)
               exact ⟨HI.out.1.below hB4, HI.out.2.keep hB4, hb4⟩)
             clear hb4 hg4 hz4 HI HRA))
        unfold Stop
        conv => arg 2; whnf
        refine wp_seq_k ?_
        intro K2 hK2
        have a2 : w4.cell? ⟨wr.heap.size, 2, none⟩ = some (.slice pb a.bytes.length cb) := HI4.out.2.2.cell 2
        by_cases hl : a.bytes.length ≤ 100
        · have hli : ¬ (100 : Int) < (a.bytes.length : Int) := by omega
          refine wp_stop sRound hK2 ?_
          intro K3 hK3
          go_wp2_with fail
          unfold Stop
          refine round_leaf (vb := undef) HT h00 hk HD HF.out.2.2 (by have := HF.out.2.1; omega) HF.out.1 hl HAB.out.2.1 HAB.out.2.2 HAB.out.1 HI4.out.1 HI4.out.2.1 HI4.out.2.2 ?_
          intro y16 y17 y18 y19 y20 y21 y22 y23 y24 y25 y26 y27 y28 y74 y75 y76 y77 y78 y79 y80 y81 y82 y83 y84 y85 y86 y87 y88 y89 y90 y91 y92 y93 y94 y95 y96 y97 y98 y99 y100 y101 y102 y103 y104 y105 y106 y107 y108 y109 y110 y111 y112 y113 y114 y115 y116 y117 y118 y119 y120 y121 y122 y123 y124 y125 y126 y127 y128 y129 y130 y131 y132 y133 y134 y135 y136 y137 y138 y139 y140 y141 y142 y143 y144 y145 y146 y147 y148 y149 y150 y151 y152 y153 y154 y155 y156 y157 y158 y159 y160 y161 y162 y163 y164 y165 y166 y167 y168 y169 y170 y171 y172 y173 y174 y175 y176 y177 y178 y179 y180 y181 y182 y183 y184 y185 y186 y187 y188 y189 y190 y191 y192 y193 y194 y195 y196 y197 y198 y199 y200 y201 y202 y203 y204 y205 y206 y207 y208 y209 y210 y211 y212 y213 y214 y215 y216 y217 y218 y219 y220 y221 y222 y223 y224 y225 y226 y227 y228 y229 y230 y231 y232 y233 y234 y235 y236 y237 y238 y239 y240 y241 y242 y243 y244 y245 y246 y247 y248 y249 y250 y251 y252 y253 y254 y255 y256 y257 y258 y259 y260 y261 sd2 A2 c2 M2 ls2 W2 h1 h2 h3 h4 h5
          have hl2 := h2.len
          subst hl2
          have HI6 : Hid (Bg w W2 key dk g gs gm sd2 sd2 ∧ StrR W2 w.heap.size (.slice A2 ls2.length c2) ls2.length ls2 ∧ (∀ i, i < 2 → (sd2 i).1 < 18446744073709551616) ∧ ls2.length ≤ k + 1 ∧ ∀ l ∈ ls2, l.length ≤ 300) := Lib.hid ⟨h1, h2, h4, by have := HF.out.2.1; omega, h5⟩
          clear h1 h2 h3 h4 h5 HI4 HF a2
          go_wp2_with fail
          go_roundw
          case rel => exact ⟨k + 1, sd2, ls2, by omega, by omega, by go_num, HI6.out.1, HI6.out.2.1, Lib.hid HI6.out.2.2⟩
          case measure => simp [intOf]; omega
        · have hli : (100 : Int) < (a.bytes.length : Int) := by omega
          go_wp2_with fail
          exact HQ.out _ _ _ _ _ _ _ _ _ _ _ _ _ _ _ _ _ _ _ _ _ _ _ _ _ _ _ _ _ _ _ _ _ _ _ _ _ _ _ _ _ _ _ _ _ _ _ _ _ _ _ _ _ _ _ _ _ _ _ _ _ _ _ _ _ _ _ _ _ _ _ _ _ _ _ _ _ _ _ _ _ _ _ _ _ _ _ _ _ _ _ _ _ _ _ _ _ _ _ _ _ _ _ _ _ _ _ _ _ _ _ _ _ _ _ _ _ _ _ _ _ _ _ _ _ _ _ _ _ _ _ _ _ _ _ _ _ _ _ _ _ _ _ _ _ _ _ _ _ _ _ _ _ _ _ _ _ _ _ _ _ _ _ _ _ _ _ _ _ _ _ _ _ _ _ _ _ _ _ _ _ _ _ _ _ _ _ _ _ _ _ _ _ _ _ _ _ _ _ _ _ _ _ _ _ _ _ _ _ _ _ _ _ _ _ _ _ _ _ _ _ _ _ _ _ _ _ _ _ _ _ _ _ _ _ _ _ _ _ _ _ _ _ _ _ _ _ _ _ _ HI4.out.1.hb
      · have hki : (k : Int) < (N : Int) := by omega
        have hki30 : ¬ (k : Int) < 30 := by omega
        go_wp2_with fail
        exact HQ.out _ _ _ _ _ _ _ _ _ _ _ _ _ _ _ _ _ _ _ _ _ _ _ _ _ _ _ _ _ _ _ _ _ _ _ _ _ _ _ _ _ _ _ _ _ _ _ _ _ _ _ _ _ _ _ _ _ _ _ _ _ _ _ _ _ _ _ _ _ _ _ _ _ _ _ _ _ _ _ _ _ _ _ _ _ _ _ _ _ _ _ _ _ _ _ _ _ _ _ _ _ _ _ _ _ _ _ _ _ _ _ _ _ _ _ _ _ _ _ _ _ _ _ _ _ _ _ _ _ _ _ _ _ _ _ _ _ _ _ _ _ _ _ _ _ _ _ _ _ _ _ _ _ _ _ _ _ _ _ _ _ _ _ _ _ _ _ _ _ _ _ _ _ _ _ _ _ _ _ _ _ _ _ _ _ _ _ _ _ _ _ _ _ _ _ _ _ _ _ _ _ _ _ _ _ _ _ _ _ _ _ _ _ _ _ _ _ _ _ _ _ _ _ _ _ _ _ _ _ _ _ _ _ _ _ _ _ _ _ _ _ _ _ _ _ _ _ _ _ _ HI.out.1.hb
    · have hki : ¬ (k : Int) < (N : Int) := by omega
      go_wp2_with fail
      exact HQ.out _ _ _ _ _ _ _ _ _ _ _ _ _ _ _ _ _ _ _ _ _ _ _ _ _ _ _ _ _ _ _ _ _ _ _ _ _ _ _ _ _ _ _ _ _ _ _ _ _ _ _ _ _ _ _ _ _ _ _ _ _ _ _ _ _ _ _ _ _ _ _ _ _ _ _ _ _ _ _ _ _ _ _ _ _ _ _ _ _ _ _ _ _ _ _ _ _ _ _ _ _ _ _ _ _ _ _ _ _ _ _ _ _ _ _ _ _ _ _ _ _ _ _ _ _ _ _ _ _ _ _ _ _ _ _ _ _ _ _ _ _ _ _ _ _ _ _ _ _ _ _ _ _ _ _ _ _ _ _ _ _ _ _ _ _ _ _ _ _ _ _ _ _ _ _ _ _ _ _ _ _ _ _ _ _ _ _ _ _ _ _ _ _ _ _ _ _ _ _ _ _ _ _ _ _ _ _ _ _ _ _ _ _ _ _ _ _ _ _ _ _ _ _ _ _ _ _ _ _ _ _ _ _ _ _ _ _ _ _ _ _ _ _ _ _ _ _ _ _ _ HI.out.1.hb
end Go.Proofs.YtlkhbfafednegaaDoor
