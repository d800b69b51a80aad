/-
  The law SessionPlays: what was sent is compared, and kept.
-/
import Derived.Test.YtlkhbfafednegaaDoorSp1
namespace Go.Proofs.YtlkhbfafednegaaDoor
open Go Go.RowKit
set_option linter.unusedSimpArgs false
set_option linter.unusedVariables false

/-- where the walk stops -/
def Stop (p : Prop) : Prop := p
theorem wp_stop {P : Program} {s : Code} {K : Act → World → Prop} {Q : Exit → Act → World → Prop} {a : Act} {w : World} (T : Code) (h : ∀ a w, T.wp P Q a w → K a w) (k : ∀ K' : Act → World → Prop, (∀ a w, Stop (T.wp P Q a w) → K' a w) → s.wp P (Exit.then K' Q) a w) : s.wp P (Exit.then K Q) a w := k K (fun a w hs => h a w hs)
noncomputable def sSent : Code := playAt [1,1,1,1,1,1,1,0,1,0,0,1,0,0,1,1,1,1,0,1,0,1,0,1,1,1]
set_option maxRecDepth 1000000 in
set_option maxHeartbeats 2000000 in
theorem sent_leaf {x0 x1 x2 x3 x4 x5 x6 x7 x8 x9 x10 x11 x12 x14 x15 x16 x19 x22 x23 x24 x25 x26 x27 x28 x29 x30 x31 x32 x33 x34 x35 x36 x37 x38 x39 x40 x41 x42 x43 x44 x45 x46 x47 x48 x49 x50 x51 x52 x53 x54 x55 x56 x57 x58 x59 x60 x61 x62 x63 x64 x65 x66 x67 x68 x69 x70 x71 x72 x73 x74 x75 x76 x77 x78 x79 x80 x81 x82 x83 x84 x85 x86 x87 x88 x89 x90 x91 x92 x93 x94 x95 x96 x97 x98 x99 x100 x101 x102 x103 x104 x105 x106 x107 x108 x109 x110 x111 x112 x113 x114 x115 x116 x117 x118 x119 x120 x121 x122 x123 x124 x125 x126 x127 x128 x129 x130 x131 x132 x133 x134 x135 x136 x137 x138 x139 x140 x141 x142 x143 x144 x145 x146 x147 x148 x149 x150 x151 x152 x153 x154 x155 x156 x157 x158 x159 x160 x161 x162 x163 x164 x165 x166 x167 x168 x169 x170 x171 x172 x173 x174 x175 x176 x177 x178 x179 x180 x181 x182 x183 x184 x185 x186 x187 x188 x189 x190 x191 x192 x193 x194 x195 x196 x197 x198 x199 x200 x201 x202 x203 x204 x205 x206 x207 x208 x209 x210 x211 x212 x213 x214 x215 x216 x217 x218 x219 x220 x221 x222 x223 x224 x225 x226 x227 x228 x229 x230 x231 x232 x233 x234 x235 x236 x237 x238 x239 x240 x241 x242 x243 x244 x245 x246 x247 x248 x249 x250 x251 x252 x253 x254 x255 x256 x257 x258 x259 x260 x261 : Value} {Q : Exit → Act → World → Prop} {w W5 : World} {key dk : List UInt8} {g : Nat → Nat} {gs gm : Nat} {sd : Nat → SidV} {A A3 : Option Addr} {c M Y c3 E : Nat} {y : List UInt8} {ls : List (List UInt8)} (hM : M ≤ 30) (hY : Y = y.length) (H : Bg w W5 key dk g gs gm sd sd) (hR : StrR W5 w.heap.size (.slice A M c) M ls) (hv : HB W5 (.slice A3 Y c3) y)
    (hQ : ∀ (v13 u206 u207 u208 u209 u210 u211 u212 u213 u214 u215 u216 u217 u218 : Value) (W' : World), Bg w W' key dk g gs gm sd sd → StrR W' w.heap.size v13 (M + 1) (ls ++ [y]) → Q .normal ⟨List.toArray (x0 :: x1 :: x2 :: x3 :: x4 :: x5 :: x6 :: x7 :: x8 :: x9 :: x10 :: x11 :: x12 :: v13 :: x14 :: x15 :: x16 :: .slice A3 Y c3 :: .int .i64 (E : Int) :: x19 :: .string (bs y) :: .int .i64 (E : Int) :: x22 :: x23 :: x24 :: x25 :: x26 :: x27 :: x28 :: x29 :: x30 :: x31 :: x32 :: x33 :: x34 :: x35 :: x36 :: x37 :: x38 :: x39 :: x40 :: x41 :: x42 :: x43 :: x44 :: x45 :: x46 :: x47 :: x48 :: x49 :: x50 :: x51 :: x52 :: x53 :: x54 :: x55 :: x56 :: x57 :: x58 :: x59 :: x60 :: x61 :: x62 :: x63 :: x64 :: x65 :: x66 :: x67 :: x68 :: x69 :: x70 :: x71 :: x72 :: x73 :: x74 :: x75 :: x76 :: x77 :: x78 :: x79 :: x80 :: x81 :: x82 :: x83 :: x84 :: x85 :: x86 :: x87 :: x88 :: x89 :: x90 :: x91 :: x92 :: x93 :: x94 :: x95 :: x96 :: x97 :: x98 :: x99 :: x100 :: x101 :: x102 :: x103 :: x104 :: x105 :: x106 :: x107 :: x108 :: x109 :: x110 :: x111 :: x112 :: x113 :: x114 :: x115 :: x116 :: x117 :: x118 :: x119 :: x120 :: x121 :: x122 :: x123 :: x124 :: x125 :: x126 :: x127 :: x128 :: x129 :: x130 :: x131 :: x132 :: x133 :: x134 :: x135 :: x136 :: x137 :: x138 :: x139 :: x140 :: x141 :: x142 :: x143 :: x144 :: x145 :: x146 :: x147 :: x148 :: x149 :: x150 :: x151 :: x152 :: x153 :: x154 :: x155 :: x156 :: x157 :: x158 :: x159 :: x160 :: x161 :: x162 :: x163 :: x164 :: x165 :: x166 :: x167 :: x168 :: x169 :: x170 :: x171 :: x172 :: x173 :: x174 :: x175 :: x176 :: x177 :: x178 :: x179 :: x180 :: x181 :: x182 :: x183 :: x184 :: x185 :: x186 :: x187 :: x188 :: x189 :: x190 :: x191 :: x192 :: x193 :: x194 :: x195 :: x196 :: x197 :: x198 :: x199 :: x200 :: x201 :: x202 :: x203 :: x204 :: x205 :: u206 :: u207 :: u208 :: u209 :: u210 :: u211 :: u212 :: u213 :: u214 :: u215 :: u216 :: u217 :: u218 :: x219 :: x220 :: x221 :: x222 :: x223 :: x224 :: x225 :: x226 :: x227 :: x228 :: x229 :: x230 :: x231 :: x232 :: x233 :: x234 :: x235 :: x236 :: x237 :: x238 :: x239 :: x240 :: x241 :: x242 :: x243 :: x244 :: x245 :: x246 :: x247 :: x248 :: x249 :: x250 :: x251 :: x252 :: x253 :: x254 :: x255 :: x256 :: x257 :: x258 :: x259 :: x260 :: x261 :: []), []⟩ W') : Code.wp Tryd.prog sSent Q ⟨List.toArray (x0 :: x1 :: x2 :: x3 :: x4 :: x5 :: x6 :: x7 :: x8 :: x9 :: x10 :: x11 :: x12 :: .slice A M c :: x14 :: x15 :: x16 :: .slice A3 Y c3 :: .int .i64 (E : Int) :: x19 :: .string (bs y) :: .int .i64 (E : Int) :: x22 :: x23 :: x24 :: x25 :: x26 :: x27 :: x28 :: x29 :: x30 :: x31 :: x32 :: x33 :: x34 :: x35 :: x36 :: x37 :: x38 :: x39 :: x40 :: x41 :: x42 :: x43 :: x44 :: x45 :: x46 :: x47 :: x48 :: x49 :: x50 :: x51 :: x52 :: x53 :: x54 :: x55 :: x56 :: x57 :: x58 :: x59 :: x60 :: x61 :: x62 :: x63 :: x64 :: x65 :: x66 :: x67 :: x68 :: x69 :: x70 :: x71 :: x72 :: x73 :: x74 :: x75 :: x76 :: x77 :: x78 :: x79 :: x80 :: x81 :: x82 :: x83 :: x84 :: x85 :: x86 :: x87 :: x88 :: x89 :: x90 :: x91 :: x92 :: x93 :: x94 :: x95 :: x96 :: x97 :: x98 :: x99 :: x100 :: x101 :: x102 :: x103 :: x104 :: x105 :: x106 :: x107 :: x108 :: x109 :: x110 :: x111 :: x112 :: x113 :: x114 :: x115 :: x116 :: x117 :: x118 :: x119 :: x120 :: x121 :: x122 :: x123 :: x124 :: x125 :: x126 :: x127 :: x128 :: x129 :: x130 :: x131 :: x132 :: x133 :: x134 :: x135 :: x136 :: x137 :: x138 :: x139 :: x140 :: x141 :: x142 :: x143 :: x144 :: x145 :: x146 :: x147 :: x148 :: x149 :: x150 :: x151 :: x152 :: x153 :: x154 :: x155 :: x156 :: x157 :: x158 :: x159 :: x160 :: x161 :: x162 :: x163 :: x164 :: x165 :: x166 :: x167 :: x168 :: x169 :: x170 :: x171 :: x172 :: x173 :: x174 :: x175 :: x176 :: x177 :: x178 :: x179 :: x180 :: x181 :: x182 :: x183 :: x184 :: x185 :: x186 :: x187 :: x188 :: x189 :: x190 :: x191 :: x192 :: x193 :: x194 :: x195 :: x196 :: x197 :: x198 :: x199 :: x200 :: x201 :: x202 :: x203 :: x204 :: x205 :: x206 :: x207 :: x208 :: x209 :: x210 :: x211 :: x212 :: x213 :: x214 :: x215 :: x216 :: x217 :: x218 :: x219 :: x220 :: x221 :: x222 :: x223 :: x224 :: x225 :: x226 :: x227 :: x228 :: x229 :: x230 :: x231 :: x232 :: x233 :: x234 :: x235 :: x236 :: x237 :: x238 :: x239 :: x240 :: x241 :: x242 :: x243 :: x244 :: x245 :: x246 :: x247 :: x248 :: x249 :: x250 :: x251 :: x252 :: x253 :: x254 :: x255 :: x256 :: x257 :: x258 :: x259 :: x260 :: x261 :: []), []⟩ W5 := by
  obtain ⟨is, his, hzs, hss, hbs⟩ := infoStr
  have HIS := Lib.hid his; clear his
  have HQ := Lib.hid hQ
  have HI5 := Lib.hid (And.intro H hR)
  have hcv := hv.str Tryd.underlying24 Tryd.underlying5 Tryd.underlying9
  have HYY := Lib.hid hY
  have hbz := H.hb.size
  clear hQ H hR hv hY
  conv => arg 2; whnf
  go_wp2_with (
    (at_builtin
     have hnew := (Blk.new W5 9 #[.string (bs y)]).cell 0
     have hB5 : Below W5.heap.size W5 (W5.alloc (.cells #[.string (bs y)] 9)) := (Below.refl W5.heap.size W5).alloc (Nat.le_refl _) _
     go_loud (refine wpList_append_own _ rfl (.tmp 215) (.tmp 217) 48 rfl w.heap.size 9 is (.string ByteArray.empty) 1 16 Tryd.underlying48 HIS.out hzs hss hbs rfl (by decide) (.slice A M c) M _ rfl (own_below HI5.out.2 hB5) ⟨W5.heap.size, 0, none⟩ 1 1 [.string (bs y)] rfl rfl (fun j u hj => by
       match j with
       | 0 => simp at hj; subst hj; rw [add0]; exact hnew
       | j + 1 => simp at hj) (fun u hu => by simp at hu; subst hu; rfl) (by simp only [maxLen]; omega) (by omega) (by simp; omega) ?_)
     intro v6 w6 hown6 hgrow6 _
     have HR6 : Hid (StrR w6 w.heap.size v6 (M + 1) (ls ++ [y]) ∧ Bg w w6 key dk g gs gm sd sd) := Lib.hid ⟨by unfold StrR; rw [List.map_append]; exact hown6, (HI5.out.1.below hB5).row (own_below HI5.out.2 hB5) (Nat.le_refl _) hgrow6⟩
     clear hown6 hgrow6 hnew HI5 hcv hB5))
  apply HQ.out
  · exact HR6.out.2
  · exact HR6.out.1
end Go.Proofs.YtlkhbfafednegaaDoor
