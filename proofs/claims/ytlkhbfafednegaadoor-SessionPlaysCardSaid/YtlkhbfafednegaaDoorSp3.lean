/-
  The law SessionPlays: a side sends.
-/
import Derived.Test.YtlkhbfafednegaaDoorSp2
import Derived.Test.YtlkhbfafednegaaDoorSp4
import Derived.Test.YtlkhbfafednegaaDoorRgZ
namespace Go.Proofs.YtlkhbfafednegaaDoor
open Go Go.RowKit
set_option linter.unusedSimpArgs false
set_option linter.unusedVariables false

section
variable {P : Program} {Q : Exit → Act → World → Prop} {fr : (Nat → Value) → Act} {ys : List As} {w : World} {k : Nat} {op : Oper}
theorem oweAs_load_midC (ty : TypeId) (x : Operand) (ho : op.op = .load ty x) (l : Array Value) (hg : guardB ys op = some true) (hv : asAt ys k = .eq (.agg l)) {d : TypeDesc}
    (hu : P.underlying ty = some d) (hd : d.isRow = true) (hi : (P.info? ty).map (·.size) = some l.size)
    (h : ∀ (f : Nat → Value) (W : World), Below w.heap.size w W → DepAs ys f W op.after.toList → ∃ b q, (fr f).eval x = .pointer (some ⟨b, q, none⟩) ∧ W.rangeAt b q l.toList) : OweAs P Q fr ys w k op := by
  unfold OweAs
  rw [hg]
  intro f W hE hdep kk hkk
  obtain ⟨b, q, hx, hr⟩ := h f W hE hdep
  exact wp_load_mid ty x ho b q hx l.toList d hr hu hd (by rw [Array.length_toList]; exact hi) (hkk _ W (by rw [hv]; rfl) (Below.refl _ _))
end
/-- what holds ahead of a call (the seventh operation of its region), and behind it -/
def RXt (P1 P2 : World → Prop) (s : Nat → Bool) (W : World) : Prop := (s 6 = false → P1 W) ∧ (s 6 = true → P2 W)
def SdP (w : World) (key dk : List UInt8) (g : Nat → Nat) (gs gm ga : Nat) (vb : Value) (a : ActR) (A : Option Addr) (c M : Nat) (ls : List (List UInt8)) (s1 s2 : Nat → SidV) (W : World) : Prop :=
  Bg w W key dk g gs gm s1 s2 ∧ StrR W w.heap.size (.slice A M c) M ls ∧ Blk W ga 50 (actC vb a).toArray
section
variable {w W W' : World} {key dk : List UInt8} {g : Nat → Nat} {gs gm ga : Nat} {vb : Value} {a : ActR} {A : Option Addr} {c M : Nat} {ls : List (List UInt8)} {s1 s2 s3 s4 : Nat → SidV}
theorem SdP.below (h : SdP w key dk g gs gm ga vb a A c M ls s1 s2 W) (hb : Below W.heap.size W W') : SdP w key dk g gs gm ga vb a A c M ls s1 s2 W' := ⟨h.1.below hb, h.2.1.keep hb, h.2.2.below hb h.2.2.lt⟩
theorem RXt.below {s : Nat → Bool} (h : RXt (SdP w key dk g gs gm ga vb a A c M ls s1 s2) (SdP w key dk g gs gm ga vb a A c M ls s3 s4) s W) (hb : Below W.heap.size W W') : RXt (SdP w key dk g gs gm ga vb a A c M ls s1 s2) (SdP w key dk g gs gm ga vb a A c M ls s3 s4) s W' := ⟨fun e => (h.1 e).below hb, fun e => (h.2 e).below hb⟩
theorem RXt.ptr {s : Nat → Bool} {kk : Nat} (h : RXt (SdP w key dk g gs gm ga vb a A c M ls s1 s2) (SdP w key dk g gs gm ga vb a A c M ls s3 s4) s W) (hkk : kk < 2) : (Below W.heap.size W W' → W'.cell? ⟨gs, kk, none⟩ = some (.pointer (some ⟨g kk, 0, none⟩))) ∧ (Below W.heap.size W W' → W'.cell? ⟨ga, 2, none⟩ = some vb) := by
  cases e : s 6 with
  | false =>
    have h1 := h.1 e
    exact ⟨fun hb => (h1.1.below hb).ptr hkk, fun hb => (h1.below hb).2.2.cell 2⟩
  | true =>
    have h1 := h.2 e
    exact ⟨fun hb => (h1.1.below hb).ptr hkk, fun hb => (h1.below hb).2.2.cell 2⟩
end
def RXm (B : World → Prop) (gm lo : Nat) (ag : Array Value) (s : Nat → Bool) (f : Nat → Value) (W : World) : Prop := B W ∧ (s 13 = true → ∃ q, f 12 = .pointer (some ⟨q, 0, none⟩) ∧ Blk W q 38 ag ∧ q ≠ gm ∧ lo ≤ q)
theorem RXm.below {B : World → Prop} (hB : ∀ W W', B W → Below W.heap.size W W' → B W') {gm lo : Nat} {ag : Array Value} {s : Nat → Bool} {f : Nat → Value} {W W' : World} (h : RXm B gm lo ag s f W) (hb : Below W.heap.size W W') : RXm B gm lo ag s f W' := ⟨hB _ _ h.1 hb, fun e => by
  obtain ⟨q, h1, h2, h3⟩ := h.2 e
  exact ⟨q, h1, h2.below hb h2.lt, h3⟩⟩
/-- a side, and bytes that it has handed out -/
def SdO (w : World) (key dk : List UInt8) (g : Nat → Nat) (gs gm ga : Nat) (vb : Value) (a : ActR) (A : Option Addr) (c M : Nat) (ls : List (List UInt8)) (s1 s2 : Nat → SidV) (v : Value) (y : List UInt8) (W : World) : Prop :=
  SdP w key dk g gs gm ga vb a A c M ls s1 s2 W ∧ W.ownsRow w.heap.size 5 1 v y.length (y.map bcv)
section
variable {w W W' : World} {key dk : List UInt8} {g : Nat → Nat} {gs gm ga : Nat} {vb : Value} {a : ActR} {A : Option Addr} {c M : Nat} {ls : List (List UInt8)} {s1 s2 s3 s4 : Nat → SidV} {v : Value} {y : List UInt8}
theorem SdO.below (h : SdO w key dk g gs gm ga vb a A c M ls s1 s2 v y W) (hb : Below W.heap.size W W') : SdO w key dk g gs gm ga vb a A c M ls s1 s2 v y W' := ⟨h.1.below hb, own_below h.2 hb⟩
theorem SdO.apart {q : Nat} {cs : Array Value} (h : SdO w key dk g gs gm ga vb a A c M ls s1 s2 v y W) (hq : Blk W q 38 cs) (hne : q ≠ gm) (hlo : w.heap.size ≤ q) (hG : W.grownBy W' (some q)) : SdO w key dk g gs gm ga vb a A c M ls s1 s2 v y W' := by
  obtain ⟨⟨H, hR, hA⟩, hO⟩ := h
  obtain ⟨cm, h1, h2⟩ := H.hm
  refine ⟨⟨⟨H.hkey.grown hG (fun e => by injection e with e; exact blk_ne H.hkey hq (by decide) e), fun i hi => (H.hses i hi).grown hG (fun e => by injection e with e; exact blk_ne (H.hses i hi) hq (by decide) e), H.hptr.grown hG (fun e => by injection e with e; exact blk_ne H.hptr hq (by decide) e), ⟨cm, h1.grown hG (fun e => by injection e with e; exact hne e.symm), h2⟩, fun i hi => range_grown (H.hr i hi) hG (Ne.symm hne), H.hb.grown hG H.hb.size (fun j hj => by injection hj with hj; omega), H.hge, H.hne⟩, hR.grown hG hq (by decide), hA.grown hG (fun e => by injection e with e; exact blk_ne hA hq (by decide) e)⟩, hO.kept hG (.inr (fun e => own_ne_blk hO hq (by decide) e.symm))⟩
end
theorem sendG_lt {dk : List UInt8} {n s o : Nat} {l : List UInt8} (hn : n < 18446744073709551616) : (sendG dk n s o l).2.2 < 18446744073709551616 := by
  unfold sendG
  split
  · exact hn
  · show n + 1 < _; omega
theorem sendG_len {dk : List UInt8} {n s o : Nat} {l : List UInt8} (hn : n < 18446744073709551616) (hs : s < 64) (ho : o < 64) (hl : l.length ≤ 100) : (sendG dk n s o l).2.1.length ≤ 300 := by
  unfold sendG
  split
  · exact Nat.zero_le _
  · show (frameG dk (n + 1) s o l).length ≤ 300
    rw [frameG_length]
    have := bodyG_length (n := n + 1) (from_ := s) («to» := o) (b := l) (by omega) (by omega) (by omega) (by omega)
    omega
theorem wp_enter_call {P : Program} {Q : Exit → Act → World → Prop} {a : Act} {w : World} {K : Act → World → Prop} {o : Oper} (n : FuncId) {args : Array Value} (hr : (execOp a.eval o).run P w = .ok (.enter n args) w) (h : Calls P n args w fun e w' => ∃ v, e = .returned v ∧ K (a.put o.dst v) w') : o.wp P a w K Q := by
  unfold Oper.wp
  rw [hr]
  refine Calls.mono h ?_
  rintro e w' ⟨v, rfl, hv⟩
  exact hv
set_option maxRecDepth 1000000 in
set_option maxHeartbeats 2000000 in
theorem send_leaf {x0 x1 x2 x3 x4 x5 x6 x7 x9 x10 x11 x14 x17 x18 x19 x20 x21 x22 x23 x24 x25 x26 x27 x28 x29 x30 x31 x32 x33 x34 x35 x36 x37 x38 x39 x40 x41 x42 x43 x44 x45 x46 x47 x48 x49 x50 x51 x52 x53 x54 x55 x56 x57 x58 x59 x60 x61 x62 x63 x64 x65 x66 x67 x68 x69 x70 x71 x72 x73 x74 x75 x76 x77 x78 x79 x80 x81 x82 x83 x84 x85 x86 x87 x88 x89 x90 x91 x92 x93 x94 x95 x96 x97 x98 x99 x100 x101 x102 x103 x104 x105 x106 x107 x108 x109 x110 x111 x112 x113 x114 x115 x116 x117 x118 x119 x120 x121 x122 x123 x124 x125 x126 x127 x128 x129 x130 x131 x132 x133 x134 x135 x136 x137 x138 x139 x140 x141 x142 x143 x144 x145 x146 x147 x148 x149 x150 x151 x152 x153 x154 x155 x156 x157 x158 x159 x160 x161 x162 x163 x164 x165 x166 x167 x168 x169 x170 x171 x172 x173 x174 x175 x176 x177 x178 x179 x180 x181 x182 x183 x184 x185 x186 x187 x188 x189 x190 x191 x192 x193 x194 x195 x196 x197 x198 x199 x200 x201 x202 x203 x204 x205 x206 x207 x208 x209 x210 x211 x212 x213 x214 x215 x216 x217 x218 x219 x220 x221 x222 x223 x224 x225 x226 x227 x228 x229 x230 x231 x232 x233 x234 x235 x236 x237 x238 x239 x240 x241 x242 x243 x244 x245 x246 x247 x248 x249 x250 x251 x252 x253 x254 x255 x256 x257 x258 x259 x260 x261 : Value} {Q : Exit → Act → World → Prop} {w W0 : World} {key dk : List UInt8} {g : Nat → Nat} {gs gm ga kk : Nat} {sd : Nat → SidV} {vb : Value} {a : ActR} {A : Option Addr} {c M : Nat} {ls : List (List UInt8)} {pb : Option Addr} {cb : Nat} (HT : Hid (∀ W, Below w.heap.size w W → Tab W ∧ 0 < W.heap.size)) (h00 : 0 < w.heap.size) (hk : key.length = 32) (HD : Hid (dk = frameK key)) (hkk : kk < 2) (hM : M ≤ 30) (hn : (sd kk).1 < 18446744073709551616) (hl : a.bytes.length ≤ 100) (hvb : HB w (.slice pb a.bytes.length cb) a.bytes) (H : Bg w W0 key dk g gs gm sd sd) (hR : StrR W0 w.heap.size (.slice A M c) M ls) (hB : Blk W0 ga 50 (actC (.slice pb a.bytes.length cb) a).toArray)
    (hQ : ∀ (v13 u17 u18 u19 u20 u21 u180 u181 u182 u183 u184 u185 u186 u187 u188 u189 u190 u191 u192 u193 u194 u195 u196 u197 u198 u199 u200 u201 u202 u203 u204 u205 u206 u207 u208 u209 u210 u211 u212 u213 u214 u215 u216 u217 u218 : Value) (n' : Nat) (y : List UInt8) (W' : World), n' < 18446744073709551616 → Bg w W' key dk g gs gm (setK sd kk (n', (sd kk).2)) (setK sd kk (n', (sd kk).2)) → y.length ≤ 300 → StrR W' w.heap.size v13 (M + 1) (ls ++ [y]) → Q .normal ⟨List.toArray (x0 :: x1 :: x2 :: x3 :: x4 :: x5 :: x6 :: x7 :: .slice (some ⟨gs, 0, none⟩) 2 2 :: x9 :: x10 :: x11 :: .slice (some ⟨gm, 0, none⟩) 2 2 :: v13 :: x14 :: .pointer (some ⟨ga, 0, none⟩) :: .int .i64 (kk : Int) :: u17 :: u18 :: u19 :: u20 :: u21 :: x22 :: x23 :: x24 :: x25 :: x26 :: x27 :: x28 :: x29 :: x30 :: x31 :: x32 :: x33 :: x34 :: x35 :: x36 :: x37 :: x38 :: x39 :: x40 :: x41 :: x42 :: x43 :: x44 :: x45 :: x46 :: x47 :: x48 :: x49 :: x50 :: x51 :: x52 :: x53 :: x54 :: x55 :: x56 :: x57 :: x58 :: x59 :: x60 :: x61 :: x62 :: x63 :: x64 :: x65 :: x66 :: x67 :: x68 :: x69 :: x70 :: x71 :: x72 :: x73 :: x74 :: x75 :: x76 :: x77 :: x78 :: x79 :: x80 :: x81 :: x82 :: x83 :: x84 :: x85 :: x86 :: x87 :: x88 :: x89 :: x90 :: x91 :: x92 :: x93 :: x94 :: x95 :: x96 :: x97 :: x98 :: x99 :: x100 :: x101 :: x102 :: x103 :: x104 :: x105 :: x106 :: x107 :: x108 :: x109 :: x110 :: x111 :: x112 :: x113 :: x114 :: x115 :: x116 :: x117 :: x118 :: x119 :: x120 :: x121 :: x122 :: x123 :: x124 :: x125 :: x126 :: x127 :: x128 :: x129 :: x130 :: x131 :: x132 :: x133 :: x134 :: x135 :: x136 :: x137 :: x138 :: x139 :: x140 :: x141 :: x142 :: x143 :: x144 :: x145 :: x146 :: x147 :: x148 :: x149 :: x150 :: x151 :: x152 :: x153 :: x154 :: x155 :: x156 :: x157 :: x158 :: x159 :: x160 :: x161 :: x162 :: x163 :: x164 :: x165 :: x166 :: x167 :: x168 :: x169 :: x170 :: x171 :: x172 :: x173 :: x174 :: x175 :: x176 :: x177 :: x178 :: x179 :: u180 :: u181 :: u182 :: u183 :: u184 :: u185 :: u186 :: u187 :: u188 :: u189 :: u190 :: u191 :: u192 :: u193 :: u194 :: u195 :: u196 :: u197 :: u198 :: u199 :: u200 :: u201 :: u202 :: u203 :: u204 :: u205 :: u206 :: u207 :: u208 :: u209 :: u210 :: u211 :: u212 :: u213 :: u214 :: u215 :: u216 :: u217 :: u218 :: x219 :: x220 :: x221 :: x222 :: x223 :: x224 :: x225 :: x226 :: x227 :: x228 :: x229 :: x230 :: x231 :: x232 :: x233 :: x234 :: x235 :: x236 :: x237 :: x238 :: x239 :: x240 :: x241 :: x242 :: x243 :: x244 :: x245 :: x246 :: x247 :: x248 :: x249 :: x250 :: x251 :: x252 :: x253 :: x254 :: x255 :: x256 :: x257 :: x258 :: x259 :: x260 :: x261 :: []), []⟩ W') : Code.wp Tryd.prog sSend Q ⟨List.toArray (x0 :: x1 :: x2 :: x3 :: x4 :: x5 :: x6 :: x7 :: .slice (some ⟨gs, 0, none⟩) 2 2 :: x9 :: x10 :: x11 :: .slice (some ⟨gm, 0, none⟩) 2 2 :: .slice A M c :: x14 :: .pointer (some ⟨ga, 0, none⟩) :: .int .i64 (kk : Int) :: x17 :: x18 :: x19 :: x20 :: x21 :: x22 :: x23 :: x24 :: x25 :: x26 :: x27 :: x28 :: x29 :: x30 :: x31 :: x32 :: x33 :: x34 :: x35 :: x36 :: x37 :: x38 :: x39 :: x40 :: x41 :: x42 :: x43 :: x44 :: x45 :: x46 :: x47 :: x48 :: x49 :: x50 :: x51 :: x52 :: x53 :: x54 :: x55 :: x56 :: x57 :: x58 :: x59 :: x60 :: x61 :: x62 :: x63 :: x64 :: x65 :: x66 :: x67 :: x68 :: x69 :: x70 :: x71 :: x72 :: x73 :: x74 :: x75 :: x76 :: x77 :: x78 :: x79 :: x80 :: x81 :: x82 :: x83 :: x84 :: x85 :: x86 :: x87 :: x88 :: x89 :: x90 :: x91 :: x92 :: x93 :: x94 :: x95 :: x96 :: x97 :: x98 :: x99 :: x100 :: x101 :: x102 :: x103 :: x104 :: x105 :: x106 :: x107 :: x108 :: x109 :: x110 :: x111 :: x112 :: x113 :: x114 :: x115 :: x116 :: x117 :: x118 :: x119 :: x120 :: x121 :: x122 :: x123 :: x124 :: x125 :: x126 :: x127 :: x128 :: x129 :: x130 :: x131 :: x132 :: x133 :: x134 :: x135 :: x136 :: x137 :: x138 :: x139 :: x140 :: x141 :: x142 :: x143 :: x144 :: x145 :: x146 :: x147 :: x148 :: x149 :: x150 :: x151 :: x152 :: x153 :: x154 :: x155 :: x156 :: x157 :: x158 :: x159 :: x160 :: x161 :: x162 :: x163 :: x164 :: x165 :: x166 :: x167 :: x168 :: x169 :: x170 :: x171 :: x172 :: x173 :: x174 :: x175 :: x176 :: x177 :: x178 :: x179 :: x180 :: x181 :: x182 :: x183 :: x184 :: x185 :: x186 :: x187 :: x188 :: x189 :: x190 :: x191 :: x192 :: x193 :: x194 :: x195 :: x196 :: x197 :: x198 :: x199 :: x200 :: x201 :: x202 :: x203 :: x204 :: x205 :: x206 :: x207 :: x208 :: x209 :: x210 :: x211 :: x212 :: x213 :: x214 :: x215 :: x216 :: x217 :: x218 :: x219 :: x220 :: x221 :: x222 :: x223 :: x224 :: x225 :: x226 :: x227 :: x228 :: x229 :: x230 :: x231 :: x232 :: x233 :: x234 :: x235 :: x236 :: x237 :: x238 :: x239 :: x240 :: x241 :: x242 :: x243 :: x244 :: x245 :: x246 :: x247 :: x248 :: x249 :: x250 :: x251 :: x252 :: x253 :: x254 :: x255 :: x256 :: x257 :: x258 :: x259 :: x260 :: x261 :: []), []⟩ W0 := by
  obtain ⟨is, his, hzs, hss, hbs⟩ := infoStr
  have HIS := Lib.hid his; clear his
  have HI := Lib.hid (And.intro H (And.intro hR hB))
  have HQ := Lib.hid hQ
  have hdl : dk.length = 32 := by rw [HD.out]; exact frameK_length _
  have hgg := blk_ne (H.hses kk hkk) hB (by decide)
  have p0 := H.ptr hkk
  have a2 : W0.cell? ⟨ga, 2, none⟩ = some (.slice pb a.bytes.length cb) := hB.cell 2
  have HC := Lib.hid (And.intro (And.intro (lt_of_cell p0) p0) (And.intro (lt_of_cell a2) a2))
  obtain ⟨L, hL⟩ : ∃ L, L = a.bytes.length := ⟨_, rfl⟩
  have HGE := Lib.hid (And.intro hgg (And.intro hn hL))
  have HVB := Lib.hid (And.intro hvb (H.hge.1 kk hkk))
  have HNI : Hid (NotIn (.slice pb L cb) (g kk)) := Lib.hid (by
    rw [hL]
    intro p' n' c' e h
    injection e with e1 e2 e3
    subst e1; subst e2
    obtain ⟨b2, o2, rfl, h2⟩ := hvb.at_ (at8_get (l := a.bytes) (i := 0) h)
    have h3 := lt_of_cell h2
    have h4 := H.hge.1 kk hkk
    exact ⟨b2, o2, rfl, by omega⟩)
  have hkki : (kk : Int) < 2 := by omega
  have hkk0 : ¬ (kk : Int) < 0 := by omega
  have hsz37 : ∀ x : SidV, (sideC key kk x).size = 37 := fun x => sideC_size hk
  have HSZ := Lib.hid hsz37
  rw [← hL] at HI HC HVB hl
  clear p0 a2 H hR hB hQ hsz37 hL hn hvb hgg
  conv => arg 2; whnf
  go_upto_region 40 with (fail)
  obtain ⟨E, hE0⟩ : ∃ E, E = (sendG dk (sd kk).1 kk (1 - kk) a.bytes).1 := ⟨_, rfl⟩
  obtain ⟨y, hy0⟩ : ∃ y, y = (sendG dk (sd kk).1 kk (1 - kk) a.bytes).2.1 := ⟨_, rfl⟩
  obtain ⟨n', hn0⟩ : ∃ n', n' = (sendG dk (sd kk).1 kk (1 - kk) a.bytes).2.2 := ⟨_, rfl⟩
  have HSG := Lib.hid (And.intro hE0 (And.intro hy0 hn0))
  have HX0 : Hid (RXt (SdP w key dk g gs gm ga (.slice pb L cb) a A c M ls sd sd) (SdP w key dk g gs gm ga (.slice pb L cb) a A c M ls (setK sd kk (n', (sd kk).2)) sd) (fun _ => false) W0.drew) := Lib.hid ⟨fun _ => SdP.below HI.out ((Below.refl _ _).drew), fun h => by cases h⟩
  clear hE0 hy0 hn0
  refine any_region_y (wp_region_any (by kernel_rfl)) (RXt (SdP w key dk g gs gm ga (.slice pb L cb) a A c M ls sd sd) (SdP w key dk g gs gm ga (.slice pb L cb) a A c M ls (setK sd kk (n', (sd kk).2)) sd)) HX0.out 12 [.eq (.slice (some ⟨gs, 0, none⟩) 2 2), .eq (.int .i64 (kk : Int)), .eq (.pointer (some ⟨gs, kk, none⟩)), .eq (.pointer (some ⟨g kk, 0, none⟩)), .eq (.pointer (some ⟨ga, 2, none⟩)), .eq (.slice pb L cb), .st (fun v W => ∃ v3, v = .tuple #[v3, .int .i64 (E : Int)] ∧ W.ownsRow w.heap.size 5 1 v3 y.length (y.map bcv)) (fun v W W' h hb => by obtain ⟨v3, h1, h2⟩ := h; exact ⟨v3, h1, own_below h2 hb⟩), .st (fun v W => ∃ v3, v = .tuple #[v3, .int .i64 (E : Int)] ∧ W.ownsRow w.heap.size 5 1 v3 y.length (y.map bcv)) (fun v W W' h hb => by obtain ⟨v3, h1, h2⟩ := h; exact ⟨v3, h1, own_below h2 hb⟩), .st (fun v W => W.ownsRow w.heap.size 5 1 v y.length (y.map bcv)) (fun v W W' h hb => own_below h hb), .eq (.int .i64 (E : Int)), .st (fun v W => W.ownsRow w.heap.size 5 1 v y.length (y.map bcv)) (fun v W W' h hb => own_below h hb), .eq (.int .i64 (E : Int))] (by kernel_rfl) (by kernel_rfl) (by kernel_rfl) rfl (by decide) (by kernel_rfl) _ (fun f => by simp only [framedL, Act.put, maskF, oldF, Nat.reduceLT, reduceIte, List.getElem?_toArray, List.getElem?_cons_succ, List.getElem?_cons_zero, Option.bind_some, Option.map_some, Option.map_none, Option.getD_some, Option.getD_none, Array.getD_eq_getD_getElem?, List.setIfInBounds_toArray, List.set_cons_zero, List.set_cons_succ, Nat.reduceAdd]; rfl) ⟨?_, ?_, ?_, ?_, ?_, ?_, ?_, ?_, ?_, ?_, ?_, ?_, trivial⟩ ?_
  · refine stepY_of (fun _ _ h => h) (fun _ _ _ h hb => RXt.below h hb) (fun sX W0 hs0 hs1 hX => ?_)
    refine oweAs_pure ((.slice (some ⟨gs, 0, none⟩) 2 2)) rfl (fun f W hE hd => ?_) (fun W hE => rfl)
    go_simp
  · refine stepY_of (fun _ _ h => h) (fun _ _ _ h hb => RXt.below h hb) (fun sX W0 hs0 hs1 hX => ?_)
    refine oweAs_pure ((.int .i64 (kk : Int))) rfl (fun f W hE hd => ?_) (fun W hE => rfl)
    go_simp
  · refine stepY_of (fun _ _ h => h) (fun _ _ _ h hb => RXt.below h hb) (fun sX W0 hs0 hs1 hX => ?_)
    refine oweAs_pure ((.pointer (some ⟨gs, kk, none⟩))) rfl (fun f W hE hd => ?_) (fun W hE => rfl)
    simp only [DepAs, Region.binds, asAt, As.holds, and_true, forall_const] at hd
    go_simp
  · refine stepY_of (fun _ _ h => h) (fun _ _ _ h hb => RXt.below h hb) (fun sX W0 hs0 hs1 hX => ?_)
    refine oweAs_pure ((.pointer (some ⟨g kk, 0, none⟩))) rfl (fun f W hE hd => ?_) (fun W hE => rfl)
    simp only [DepAs, Region.binds, asAt, As.holds, and_true, forall_const] at hd
    have hq := (hX.ptr hkk).1 hE
    go_simp
  · refine stepY_of (fun _ _ h => h) (fun _ _ _ h hb => RXt.below h hb) (fun sX W0 hs0 hs1 hX => ?_)
    refine oweAs_pure ((.pointer (some ⟨ga, 2, none⟩))) rfl (fun f W hE hd => ?_) (fun W hE => rfl)
    simp only [DepAs, Region.binds, asAt, As.holds, and_true, forall_const] at hd
    go_simp
  · refine stepY_of (fun _ _ h => h) (fun _ _ _ h hb => RXt.below h hb) (fun sX W0 hs0 hs1 hX => ?_)
    refine oweAs_pure ((.slice pb L cb)) rfl (fun f W hE hd => ?_) (fun W hE => rfl)
    simp only [DepAs, Region.binds, asAt, As.holds, and_true, forall_const] at hd
    have hq := (hX.ptr hkk).2 hE
    go_simp
  · refine stepY_mk rfl (fun s f W hs0 hs1 hX hd K hK => ?_)
    simp only [DepAs, Region.binds, asAt, As.holds, and_true, forall_const] at hd
    have hP := hX.1 hs0
    have h1 : f 3 = .pointer (some ⟨g kk, 0, none⟩) := hd.1
    have h2 : f 5 = .slice pb L cb := by first | exact hd.2.1 | exact hd.2
    refine wp_enter_call 9 (args := #[.pointer (some ⟨g kk, 0, none⟩), .slice pb L cb]) (by go_simp) ?_
    refine (sendB_any (g kk) dk kk (1 - kk) (sd kk).1 (sd kk).2.1 (sd kk).2.2 _ a.bytes W (HT.out _ hP.1.hb).1 (HT.out _ hP.1.hb).2 (by have := HVB.out.2; omega) (hP.1.hses kk hkk) hdl (HVB.out.1.keep hP.1.hb) HNI.out (by rw [← HGE.out.2.2]; omega) (by omega) (by omega) HGE.out.2.1).mono ?_
    rintro e w3 ⟨v3, rfl, hs3, ho3, hg3⟩
    rw [← HSG.out.1]
    rw [← HSG.out.2.2] at hs3
    rw [← HSG.out.2.1] at ho3
    refine ⟨_, rfl, hK _ w3 ⟨v3, rfl, own_base ho3 hP.1.hb.size⟩ ⟨fun h => by simp at h, fun _ => ⟨hP.1.ses hkk hg3 hs3, hP.2.1.grown hg3 (hP.1.hses kk hkk) (by decide), hP.2.2.grown hg3 (fun e => by injection e with e; exact HGE.out.1 e.symm)⟩⟩ ?_⟩
    intro j hj u hu
    match j, hj, hu with
    | 0, _, hu => exact hu
    | 1, _, hu => exact hu
    | 2, _, hu => exact hu
    | 3, _, hu => exact hu
    | 4, _, hu => exact hu
    | 5, _, hu => exact hu
    | 6, hj, _ => exact absurd rfl hj
    | 7, _, hu => obtain ⟨v3, h1, h2⟩ := hu; exact ⟨v3, h1, h2.kept hg3 (.inr (fun e => own_ne_blk h2 (hP.1.hses kk hkk) (by decide) e.symm))⟩
    | 8, _, hu => exact World.ownsRow.kept hu hg3 (.inr (fun e => own_ne_blk hu (hP.1.hses kk hkk) (by decide) e.symm))
    | 9, _, hu => exact hu
    | 10, _, hu => exact World.ownsRow.kept hu hg3 (.inr (fun e => own_ne_blk hu (hP.1.hses kk hkk) (by decide) e.symm))
    | 11, _, hu => exact hu
    | j + 12, _, hu => trivial
  · refine stepY_of (fun _ _ h => h) (fun _ _ _ h hb => RXt.below h hb) (fun sX W0 hs0 hs1 hX => ?_)
    refine oweAs_made rfl (fun f W hE hd => ?_)
    simp only [DepAs, Region.binds, asAt, As.holds, and_true, forall_const] at hd
    exact ⟨_, W, by first | (go_simp; done) | (go_simp; exact rfl) | (go_simp; exact ⟨rfl, rfl⟩), hd, Below.refl _ _⟩
  · refine stepY_of (fun _ _ h => h) (fun _ _ _ h hb => RXt.below h hb) (fun sX W0 hs0 hs1 hX => ?_)
    refine oweAs_made rfl (fun f W hE hd => ?_)
    simp only [DepAs, Region.binds, asAt, As.holds, and_true, forall_const] at hd
    obtain ⟨v3, h3, h4⟩ := hd
    exact ⟨v3, W, by first | (go_simp; done) | (go_simp; exact rfl) | (go_simp; exact ⟨rfl, rfl⟩), h4, Below.refl _ _⟩
  · refine stepY_of (fun _ _ h => h) (fun _ _ _ h hb => RXt.below h hb) (fun sX W0 hs0 hs1 hX => ?_)
    refine oweAs_made rfl (fun f W hE hd => ?_)
    simp only [DepAs, Region.binds, asAt, As.holds, and_true, forall_const] at hd
    obtain ⟨⟨v3, h3, h4⟩, -⟩ := hd
    exact ⟨_, W, by first | (go_simp; done) | (go_simp; exact rfl) | (go_simp; exact ⟨rfl, rfl⟩), rfl, Below.refl _ _⟩
  · refine stepY_of (fun _ _ h => h) (fun _ _ _ h hb => RXt.below h hb) (fun sX W0 hs0 hs1 hX => ?_)
    refine oweAs_made rfl (fun f W hE hd => ?_)
    simp only [DepAs, Region.binds, asAt, As.holds, and_true, forall_const] at hd
    exact ⟨_, W, by first | (go_simp; done) | (go_simp; exact rfl) | (go_simp; exact ⟨rfl, rfl⟩), (by first | exact hd | exact hd.1), Below.refl _ _⟩
  · refine stepY_of (fun _ _ h => h) (fun _ _ _ h hb => RXt.below h hb) (fun sX W0 hs0 hs1 hX => ?_)
    refine oweAs_pure ((.int .i64 (E : Int))) rfl (fun f W hE hd => ?_) (fun W hE => rfl)
    simp only [DepAs, Region.binds, asAt, As.holds, and_true, forall_const] at hd
    go_simp
  intro f W sX hsX hE hA
  simp only [AllAs, As.holds, Nat.reduceAdd] at hA
  obtain ⟨-, -, -, -, -, -, -, -, -, -, hA10, hA11, -⟩ := hA
  obtain ⟨A3, c3, h17⟩ := own_form hA10
  rw [h17] at hA10 ⊢
  rw [hA11]
  have HNY : Hid (n' < 18446744073709551616 ∧ y.length ≤ 300) := Lib.hid ⟨by rw [HSG.out.2.2]; exact sendG_lt HGE.out.2.1, by rw [HSG.out.2.1]; exact sendG_len HGE.out.2.1 (by omega) (by omega) (by rw [← HGE.out.2.2]; exact hl)⟩
  obtain ⟨Y, hY⟩ : ∃ Y, Y = y.length := ⟨_, rfl⟩
  have HI2 : Hid (SdO w key dk g gs gm ga (.slice pb L cb) a A c M ls (setK sd kk (n', (sd kk).2)) sd (.slice A3 Y c3) y W) := Lib.hid ⟨hE.2 (hsX 6 (by decide)), by rw [hY]; exact hA10⟩
  rw [← hY]
  have HYY := Lib.hid hY
  have HRF : Hid ((sendG (frameK key) (sd kk).1 kk (1 - kk) a.bytes) = (E, y, n')) := Lib.hid (by rw [← HD.out, HSG.out.1, HSG.out.2.1, HSG.out.2.2])
  clear hE hA10 hA11 h17 hsX hY HC HI HX0 HSG
  go_upto_region 41 with (fail)
  refine any_region_z (wp_region_any (by kernel_rfl)) (RXm (SdO w key dk g gs gm ga (.slice pb L cb) a A c M ls (setK sd kk (n', (sd kk).2)) sd (.slice A3 Y c3) y) gm w.heap.size (sideC key kk (n', (sd kk).2))) (fun _ => ⟨HI2.out.below ((Below.refl _ _).drew), fun h => by cases h⟩) 16 [.eq (.slice (some ⟨gm, 0, none⟩) 2 2), .eq (.int .i64 (kk : Int)), .eq (.pointer (some ⟨gm, kk * 37, none⟩)), .eq (.agg (sideC key kk (sd kk))), .eq (.pointer (some ⟨ga, 2, none⟩)), .eq (.slice pb L cb), .eq (.string (bs a.bytes)), .eq (.tuple #[.agg (sideC key kk (n', (sd kk).2)), .string (bs y), .int .i64 (E : Int)]), .eq (.tuple #[.agg (sideC key kk (n', (sd kk).2)), .string (bs y), .int .i64 (E : Int)]), .eq (.agg (sideC key kk (n', (sd kk).2))), .eq (.string (bs y)), .eq (.int .i64 (E : Int)), .st (fun v W => ∃ q cs, v = .pointer (some ⟨q, 0, none⟩) ∧ Blk W q 38 cs ∧ cs.size = 37 ∧ q ≠ gm ∧ w.heap.size ≤ q) (fun v W W' h hb => by obtain ⟨q, cs, h1, h2, h3⟩ := h; exact ⟨q, cs, h1, h2.below hb h2.lt, h3⟩), .any, .eq (.string (bs y)), .eq (.int .i64 (E : Int))] (by kernel_rfl) (by kernel_rfl) (by kernel_rfl) rfl (by decide) (by kernel_rfl) _ (fun f => by simp only [framedL, Act.put, maskF, oldF, Nat.reduceLT, reduceIte, List.getElem?_toArray, List.getElem?_cons_succ, List.getElem?_cons_zero, Option.bind_some, Option.map_some, Option.map_none, Option.getD_some, Option.getD_none, Array.getD_eq_getD_getElem?, List.setIfInBounds_toArray, List.set_cons_zero, List.set_cons_succ, Nat.reduceAdd]; rfl) ⟨?_, ?_, ?_, ?_, ?_, ?_, ?_, ?_, ?_, ?_, ?_, ?_, ?_, ?_, ?_, ?_, trivial⟩ ?_
  · refine stepZ_of (fun _ _ _ _ h => h) (fun _ _ _ _ h hb => RXm.below (fun _ _ h hb => h.below hb) h hb) (fun sX fX W0 hs0 hs1 hX => ?_)
    refine oweAs_pure ((.slice (some ⟨gm, 0, none⟩) 2 2)) rfl (fun f W hE hd => ?_) (fun W hE => rfl)
    go_simp
  · refine stepZ_of (fun _ _ _ _ h => h) (fun _ _ _ _ h hb => RXm.below (fun _ _ h hb => h.below hb) h hb) (fun sX fX W0 hs0 hs1 hX => ?_)
    refine oweAs_pure ((.int .i64 (kk : Int))) rfl (fun f W hE hd => ?_) (fun W hE => rfl)
    go_simp
  · refine stepZ_of (fun _ _ _ _ h => h) (fun _ _ _ _ h hb => RXm.below (fun _ _ h hb => h.below hb) h hb) (fun sX fX W0 hs0 hs1 hX => ?_)
    refine oweAs_pure ((.pointer (some ⟨gm, kk * 37, none⟩))) rfl (fun f W hE hd => ?_) (fun W hE => rfl)
    simp only [DepAs, Region.binds, asAt, As.holds, and_true, forall_const] at hd
    go_simp
  · refine stepZ_of (fun _ _ _ _ h => h) (fun _ _ _ _ h hb => RXm.below (fun _ _ h hb => h.below hb) h hb) (fun sX fX W0 hs0 hs1 hX => ?_)
    exact oweAs_load_midC 38 (.tmp 193) rfl (sideC key kk (sd kk)) rfl rfl Tryd.underlying38 rfl (by rw [HSZ.out]; kernel_rfl) (fun f W hE hd => by (simp only [DepAs, Region.binds, asAt, As.holds, and_true, forall_const] at hd; exact ⟨gm, kk * 37, by go_simp, (hX.1.1.1.below hE).hr kk hkk⟩))
  · refine stepZ_of (fun _ _ _ _ h => h) (fun _ _ _ _ h hb => RXm.below (fun _ _ h hb => h.below hb) h hb) (fun sX fX W0 hs0 hs1 hX => ?_)
    refine oweAs_pure ((.pointer (some ⟨ga, 2, none⟩))) rfl (fun f W hE hd => ?_) (fun W hE => rfl)
    simp only [DepAs, Region.binds, asAt, As.holds, and_true, forall_const] at hd
    go_simp
  · refine stepZ_of (fun _ _ _ _ h => h) (fun _ _ _ _ h hb => RXm.below (fun _ _ h hb => h.below hb) h hb) (fun sX fX W0 hs0 hs1 hX => ?_)
    refine oweAs_pure ((.slice pb L cb)) rfl (fun f W hE hd => ?_) (fun W hE => rfl)
    simp only [DepAs, Region.binds, asAt, As.holds, and_true, forall_const] at hd
    have hq : W.cell? ⟨ga, 2, none⟩ = some (.slice pb L cb) := (hX.1.1.2.2.below hE hX.1.1.2.2.lt).cell 2
    go_simp
  · refine stepZ_of (fun _ _ _ _ h => h) (fun _ _ _ _ h hb => RXm.below (fun _ _ h hb => h.below hb) h hb) (fun sX fX W0 hs0 hs1 hX => ?_)
    refine oweAs_pure ((.string (bs a.bytes))) rfl (fun f W hE hd => ?_) (fun W hE => rfl)
    simp only [DepAs, Region.binds, asAt, As.holds, and_true, forall_const] at hd
    have hcv := (HVB.out.1.keep (hX.1.1.1.below hE).hb).str Tryd.underlying24 Tryd.underlying5 Tryd.underlying9
    go_simp
  · refine stepZ_of (fun _ _ _ _ h => h) (fun _ _ _ _ h hb => RXm.below (fun _ _ h hb => h.below hb) h hb) (fun sX fX W0 hs0 hs1 hX => ?_)
    refine oweAs_call 13 rfl (fun f W hE hd => ?_)
    simp only [DepAs, Region.binds, asAt, As.holds, and_true, forall_const] at hd
    refine ⟨_, by (go_simp; first | exact rfl | exact ⟨rfl, rfl⟩), ?_⟩
    refine (refSend19_any key kk (1 - kk) (sd kk).1 (sd kk).2.1 (sd kk).2.2 a.bytes W hk (by rw [← HGE.out.2.2]; omega) (by omega) (by omega) HGE.out.2.1).mono ?_
    rintro e w' ⟨rfl, hb⟩
    exact ⟨_, rfl, by (show (_ : Value) = _; rw [HRF.out]; rfl), hb⟩
  · refine stepZ_of (fun _ _ _ _ h => h) (fun _ _ _ _ h hb => RXm.below (fun _ _ h hb => h.below hb) h hb) (fun sX fX W0 hs0 hs1 hX => ?_)
    refine oweAs_pure ((.tuple #[.agg (sideC key kk (n', (sd kk).2)), .string (bs y), .int .i64 (E : Int)])) rfl (fun f W hE hd => ?_) (fun W hE => rfl)
    simp only [DepAs, Region.binds, asAt, As.holds, and_true, forall_const] at hd
    go_simp
  · refine stepZ_of (fun _ _ _ _ h => h) (fun _ _ _ _ h hb => RXm.below (fun _ _ h hb => h.below hb) h hb) (fun sX fX W0 hs0 hs1 hX => ?_)
    refine oweAs_pure ((.agg (sideC key kk (n', (sd kk).2)))) rfl (fun f W hE hd => ?_) (fun W hE => rfl)
    simp only [DepAs, Region.binds, asAt, As.holds, and_true, forall_const] at hd
    go_simp
  · refine stepZ_of (fun _ _ _ _ h => h) (fun _ _ _ _ h hb => RXm.below (fun _ _ h hb => h.below hb) h hb) (fun sX fX W0 hs0 hs1 hX => ?_)
    refine oweAs_pure ((.string (bs y))) rfl (fun f W hE hd => ?_) (fun W hE => rfl)
    simp only [DepAs, Region.binds, asAt, As.holds, and_true, forall_const] at hd
    go_simp
  · refine stepZ_of (fun _ _ _ _ h => h) (fun _ _ _ _ h hb => RXm.below (fun _ _ h hb => h.below hb) h hb) (fun sX fX W0 hs0 hs1 hX => ?_)
    refine oweAs_pure ((.int .i64 (E : Int))) rfl (fun f W hE hd => ?_) (fun W hE => rfl)
    simp only [DepAs, Region.binds, asAt, As.holds, and_true, forall_const] at hd
    go_simp
  · refine stepZ_mk rfl (fun s f W hs0 hs1 hX hd K hK => ?_)
    simp only [DepAs, Region.binds, asAt, As.holds, and_true, forall_const] at hd
    have hlt : gm < W.heap.size := by obtain ⟨cm, h1, _⟩ := hX.1.1.1.hm; exact h1.lt
    have hbz := hX.1.1.1.hb.size
    unfold Oper.wp execOp
    go_simp
    have hA := fun x : Obj => (Below.refl W.heap.size W).alloc (Nat.le_refl _) x
    refine hK _ _ ⟨W.heap.size, _, rfl, Blk.new _ _ _, rfl, by omega, hbz⟩ ⟨hX.1.below (hA _), fun e => ?_⟩ ?_
    · have h1 : s 13 = true := e
      rw [hs1 13 12 (by kernel_rfl) h1] at hs0
      cases hs0
    · intro j hj u hu
      exact As.stab _ _ _ _ hu (hA _)
  · refine stepZ_mk rfl (fun s f W hs0 hs1 hX hd K hK => ?_)
    simp only [DepAs, Region.binds, asAt, As.holds, and_true, forall_const] at hd
    obtain ⟨⟨q, cs, h1, h2, h3, h4, h5⟩, h6, _⟩ := hd
    have hsz : (sideC key kk (n', (sd kk).2)).size = cs.size := by rw [HSZ.out, h3]
    obtain ⟨k1, k2, k3⟩ := setCells_blk h2 hsz
    refine wp_store_mid 38 (.tmp 19) (.tmp 199) rfl q 0 (sideC key kk (n', (sd kk).2)) (by go_simp) (by go_simp) ?_ (by rw [HSZ.out]; kernel_rfl) (sideC_one _ _ _) ?_
    · intro j hj
      exact ⟨by rw [Nat.zero_add, h2.cell, Array.getElem?_eq_getElem (by omega)]; rfl, h2.frozen _⟩
    · refine hK undef _ trivial ⟨hX.1.apart h2 h4 h5 k2, fun _ => ⟨q, h1, k1, h4, h5⟩⟩ ?_
      intro j hj u hu
      match j, hj, hu with
      | 0, _, hu => exact hu
      | 1, _, hu => exact hu
      | 2, _, hu => exact hu
      | 3, _, hu => exact hu
      | 4, _, hu => exact hu
      | 5, _, hu => exact hu
      | 6, _, hu => exact hu
      | 7, _, hu => exact hu
      | 8, _, hu => exact hu
      | 9, _, hu => exact hu
      | 10, _, hu => exact hu
      | 11, _, hu => exact hu
      | 12, _, hu =>
        obtain ⟨q2, cs2, m1, m2, m3, m4⟩ := hu
        by_cases e : q2 = q
        · subst e; exact ⟨q2, _, m1, k1, by rw [HSZ.out], m4⟩
        · exact ⟨q2, cs2, m1, m2.grown k2 (fun e2 => by injection e2 with e2; exact e e2), m3, m4⟩
      | 13, hj, _ => exact absurd rfl hj
      | 14, _, hu => exact hu
      | 15, _, hu => exact hu
      | j + 16, _, hu => trivial
  · refine stepZ_of (fun _ _ _ _ h => h) (fun _ _ _ _ h hb => RXm.below (fun _ _ h hb => h.below hb) h hb) (fun sX fX W0 hs0 hs1 hX => ?_)
    refine oweAs_pure ((.string (bs y))) rfl (fun f W hE hd => ?_) (fun W hE => rfl)
    simp only [DepAs, Region.binds, asAt, As.holds, and_true, forall_const] at hd
    go_simp
  · refine stepZ_of (fun _ _ _ _ h => h) (fun _ _ _ _ h hb => RXm.below (fun _ _ h hb => h.below hb) h hb) (fun sX fX W0 hs0 hs1 hX => ?_)
    refine oweAs_pure ((.int .i64 (E : Int))) rfl (fun f W hE hd => ?_) (fun W hE => rfl)
    simp only [DepAs, Region.binds, asAt, As.holds, and_true, forall_const] at hd
    go_simp
  intro f W sX hsX hE hA
  simp only [AllAs, As.holds, Nat.reduceAdd] at hA
  obtain ⟨-, -, -, -, -, -, -, -, -, -, -, -, -, -, hA14, hA15, -⟩ := hA
  obtain ⟨q, hq1, hq2, hq3, hq4⟩ := hE.2 (hsX 13 (by decide))
  rw [hq1, hA14, hA15]
  have HI4 : Hid (SdO w key dk g gs gm ga (.slice pb L cb) a A c M ls (setK sd kk (n', (sd kk).2)) sd (.slice A3 Y c3) y W ∧ Blk W q 38 (sideC key kk (n', (sd kk).2))) := Lib.hid ⟨hE.1, hq2⟩
  clear hE hA14 hA15 hq1 hq2 hq3 hq4 hsX HI2 HRF
  go_upto_region 42 with (fail)
  refine wp_stop sSent (by assumption) ?_
  intro K2 hK2
  go_wp2_with (first
    | (refine wpList_load_blk rfl 38 (.tmp 19) rfl q 38 (sideC key kk (n', (sd kk).2)) rfl HI4.out.2 Tryd.underlying38 rfl (by rw [HSZ.out]; kernel_rfl) ?_)
    | (refine wpList_store_mid rfl 38 (.tmp 205) (.tmp 204) rfl gm (kk * 37) (sideC key kk (n', (sd kk).2)) rfl rfl (by rw [HSZ.out]; exact HI4.out.1.1.1.there hkk) (by rw [HSZ.out]; kernel_rfl) (sideC_one _ _ _) ?_))
  simp only [Act.put]
  have HI5 : Hid (SdO w key dk g gs gm ga (.slice pb L cb) a A c M ls (setK sd kk (n', (sd kk).2)) (setK sd kk (n', (sd kk).2)) (.slice A3 Y c3) y (W.setCells gm (kk * 37) (sideC key kk (n', (sd kk).2)).toList)) := Lib.hid (by
    obtain ⟨⟨H, hR, hA⟩, hO⟩ := HI4.out.1
    obtain ⟨h1, h2, -⟩ := H.mset hkk hk (n', (sd kk).2)
    obtain ⟨cm, h3, -⟩ := H.hm
    exact ⟨⟨h1, hR.grown h2 h3 (by decide), hA.grown h2 (fun e => by injection e with e; exact blk_ne hA h3 (by decide) e)⟩, hO.kept h2 (.inr (fun e => own_ne_blk hO h3 (by decide) e.symm))⟩)
  clear HI4
  refine sent_leaf hM HYY.out HI5.out.1.1 HI5.out.1.2.1 (own_hb HI5.out.2 rfl) ?_
  intro v13 _ _ _ _ _ _ _ _ _ _ _ _ _ W' h1 h2
  exact HQ.out _ _ _ _ _ _ _ _ _ _ _ _ _ _ _ _ _ _ _ _ _ _ _ _ _ _ _ _ _ _ _ _ _ _ _ _ _ _ _ _ _ _ _ _ _ n' y W' HNY.out.1 h1 HNY.out.2 h2
end Go.Proofs.YtlkhbfafednegaaDoor
