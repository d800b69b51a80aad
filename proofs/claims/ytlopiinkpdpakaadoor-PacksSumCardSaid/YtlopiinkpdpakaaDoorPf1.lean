/-
  The walks of proof's split, below, pair, crown.
-/
import Derived.Test.YtlopiinkpdpakaaDoorCo
import Derived.Test.YtlopiinkpdpakaaDoorId
import Derived.Test.YtlopiinkpdpakaaDoorGA
namespace Go.Proofs.YtlopiinkpdpakaaDoor
open Go Go.RowKit
set_option linter.unusedSimpArgs false
set_option linter.unusedVariables false

/-- v is a slice of slices of bytes of the call's own; the bytes are known -/
def RowsH (w : World) (base : Nat) (v : Value) (n : Nat) (ls : List (List UInt8)) : Prop :=
  ls.length = n ∧ ∃ vs, w.ownsRow base 24 1 v n vs ∧ vs.length = n ∧ ∀ (i : Nat) (u : Value) (l : List UInt8), vs[i]? = some u → ls[i]? = some l → HB w u l
theorem RowsH.keep {w w' : World} {base n : Nat} {v : Value} {ls : List (List UInt8)} (h : RowsH w base v n ls) (hb : Below w.heap.size w w') : RowsH w' base v n ls := by
  obtain ⟨h1, vs, h2, h3, h4⟩ := h
  exact ⟨h1, vs, own_below h2 hb, h3, fun i u l hu hl => (h4 i u l hu hl).keep hb⟩
theorem RowsH.form {w : World} {base n : Nat} {v : Value} {ls : List (List UInt8)} (h : RowsH w base v n ls) : ∃ A c, v = .slice A n c := by
  obtain ⟨_, vs, h2, _⟩ := h
  exact own_form h2
theorem RowsH.at_ {w : World} {base n c : Nat} {A : Option Addr} {ls : List (List UInt8)} (h : RowsH w base (.slice A n c) n ls) {i : Nat} {l : List UInt8} (hi : ls[i]? = some l) : ∃ g u, A = some ⟨g, 0, none⟩ ∧ w.cell? ⟨g, i, none⟩ = some u ∧ HB w u l := by
  obtain ⟨h1, vs, h2, h3, h4⟩ := h
  have hin : i < n := by have := (List.getElem?_eq_some_iff.1 hi).1; omega
  obtain ⟨g, cap, cur, e, hb, hg, hc, hm, hs, ht, hl⟩ := own_blk h2 (by omega)
  injection e with e1 _ _
  subst e1
  have hiv : i < vs.length := by omega
  have hcell := h2.cells rfl i vs[i] (List.getElem?_eq_getElem hiv)
  rw [addi, Nat.zero_add] at hcell
  exact ⟨g, vs[i], rfl, hcell, h4 i _ l (List.getElem?_eq_getElem hiv) hi⟩
theorem HB.caps2 {w : World} {p : Option Addr} {n c : Nat} {l : List UInt8} (h : HB w (.slice p n c) l) : n = l.length ∧ n ≤ c ∧ c ≤ maxLen := by
  obtain ⟨p', c', e, h1, h2⟩ := h.form
  injection e with e1 e2 e3
  subst e2; subst e3
  exact ⟨rfl, h1, h2⟩
theorem piece_leaf {w : World} {b0 o c : Nat} {b : List UInt8} (h : HB w (.slice (some ⟨b0, o, none⟩) b.length c) b) {k : Nat} (hk : k < (b.length + 63) / 64) : HB w (pieceV b0 o b.length k) (leafF b k) := by
  have hc := h.caps2
  have h1 : 64 * k < b.length := by omega
  have h2 : 64 * k + pieceN b.length k ≤ b.length := by unfold pieceN; omega
  have hp : 0 < pieceN b.length k := by unfold pieceN; omega
  have hs := h.sub (64 * k) (64 * k + pieceN b.length k) (64 * k + pieceN b.length k) (by omega) h2 (Nat.le_refl _) (by omega)
  rw [if_neg (by omega), show 64 * k + pieceN b.length k - 64 * k = pieceN b.length k by omega] at hs
  have e : (b.drop (64 * k)).take (pieceN b.length k) = leafF b k := by
    unfold leafF pieceN
    rw [Nat.min_def]
    split
    · rfl
    · rw [List.take_of_length_le (by rw [List.length_drop]; omega), List.take_of_length_le (by rw [List.length_drop]; omega)]
  rw [e] at hs
  have e2 : (Option.map (fun x : Addr => x.add (64 * k * 1)) (some ⟨b0, o, none⟩)) = some ⟨b0, o + 64 * k, none⟩ := by simp only [Option.map_some, Nat.mul_one]; rw [addi]
  rw [e2] at hs
  exact hs

set_option maxRecDepth 100000 in
set_option maxHeartbeats 1000000 in
theorem split_any (v : Value) (b : List UInt8) (w : World) (h : HB w v b) (hb : b.length ≤ 100000000) :
    Calls Tryd.prog 45 #[v] w fun e w' => ∃ v', e = .returned v' ∧ RowsH w' w.heap.size v' (nlF b.length) (leafsF b) ∧ Below w.heap.size w w' := by
  obtain ⟨p, cap, rfl, hlc, hcm⟩ := h.form
  by_cases h0 : b.length = 0
  · have hb0 : b = [] := List.eq_nil_of_length_eq_zero h0
    subst hb0
    clear h h0
    go_enter Tryd.func45, Tryd.ntmps45
    go_wp2_with fail
    go_ret
    refine ⟨_, rfl, ⟨rfl, [.slice none 0 0], ?_, rfl, fun i u l hu hl => ?_⟩, (Below.refl _ _).alloc (Nat.le_refl _) _⟩
    · exact own_mk (Nat.le_refl _) (Blk.new w 24 #[.slice none 0 0]) (Nat.le_refl _) (by simp [maxLen]) rfl rfl rfl
    · match i with
      | 0 => simp [leafsF, nlF] at hu hl; subst hu; subst hl; exact HB.nil _
      | i + 1 => simp at hu
  · obtain ⟨b0, o, rfl, -⟩ := h.at_ (at8_get (l := b) (i := 0) (by omega))
    obtain ⟨n, hn⟩ : ∃ n, n = b.length := ⟨_, rfl⟩
    have H := Lib.hid h
    rw [← hn] at h0 hb hlc ⊢
    have HN := Lib.hid hn
    have h0i : ¬ (n : Int) = 0 := by omega
    clear h hn
    go_enter Tryd.func45, Tryd.ntmps45
    go_wp2_with fail
    rw [show (64 : Int) = ((64 : Nat) : Int) from rfl]
    refine (chunkB_any (some ⟨b0, o, none⟩) n cap 64 w (by omega)).mono ?_
    rintro e w1 ⟨rfl, hw1⟩
    have HI : Hid (Below w.heap.size w w1 ∧ w1.cell? ⟨w.heap.size, 0, none⟩ = some (.slice (some ⟨b0, o, none⟩) n cap) ∧ w1.cell? ⟨w.heap.size + 1, 0, none⟩ = some (.int .i64 64) ∧ w.heap.size + 1 < w1.heap.size) := Lib.hid (by
      rw [hw1]
      exact ⟨((Below.refl _ _).alloc (Nat.le_refl _) _).alloc (by simp) _, ((Blk.new w _ _).alloc _).cell 0, (Blk.new' (w := w.alloc _) (by simp) 3 #[.int .i64 64]).cell 0, by simp⟩)
    clear hw1
    go_wp2_with fail
    refine (collect_any w.heap.size b0 o n cap (some ⟨b0, o, none⟩) w1 (fun _ => rfl) hlc hcm hb HI.out.2.2.2 HI.out.2.1 HI.out.2.2.1).mono ?_
    rintro e w2 ⟨v2, rfl, ho2, hb2⟩
    obtain ⟨N, hN⟩ : ∃ N, N = (n + 63) / 64 := ⟨_, rfl⟩
    rw [← hN] at ho2
    have HJ : Hid (RowsH w2 w.heap.size v2 N (leafsF b) ∧ Below w.heap.size w w2 ∧ N = nlF n) := Lib.hid (by
      have hNn : N = nlF n := by rw [hN, nlF]; omega
      have hB2 : Below w.heap.size w w2 := HI.out.1.trans (hb2.mono HI.out.1.size)
      refine ⟨⟨by rw [leafsF_length, ← HN.out, hNn], _, own_base ho2 HI.out.1.size, by simp, fun i u l hu hl => ?_⟩, hB2, hNn⟩
      have hi : i < N := by have := (List.getElem?_eq_some_iff.1 hu).1; simpa using this
      rw [leafsF_at (by rw [← HN.out, ← hNn]; exact hi)] at hl
      rw [List.getElem?_map, List.getElem?_range hi] at hu
      injection hu with hu; injection hl with hl
      subst hu; subst hl
      rw [HN.out]
      exact piece_leaf (H.out.keep hB2) (by rw [← HN.out, ← hN]; exact hi))
    clear ho2 hb2 HI hN
    go_wp2_with fail
    go_ret
    have hj := HJ.out
    rw [hj.2.2] at hj
    exact ⟨_, rfl, hj.1, hj.2.1⟩

set_option maxRecDepth 100000 in
set_option maxHeartbeats 1000000 in
theorem below_any (v : Value) (l : List UInt8) (w : World) (h : HB w v l) (hb : l.length ≤ 100000000) :
    Calls Tryd.prog 46 #[v] w fun e w' => ∃ v', e = .returned v' ∧ w'.ownsRow w.heap.size 5 1 v' (1 + l.length) ((0 :: l).map bcv) ∧ Below w.heap.size w w' := by
  obtain ⟨i8, hi8, hz8, hsz8, hby8⟩ := info8
  have HI8 := Lib.hid hi8; clear hi8
  obtain ⟨p, cap, rfl, hlc, hcm⟩ := h.form
  obtain ⟨n, hn⟩ : ∃ n, n = l.length := ⟨_, rfl⟩
  rw [← hn] at hb ⊢
  have H := Lib.hid h
  have HN := Lib.hid hn
  clear h hn hlc hcm
  go_enter Tryd.func46, Tryd.ntmps46
  go_wp2_with (
    (at_builtin
     have hH := H.out
     rw [← HN.out] at hH
     refine wpList_append_hb rfl (.tmp 3) (.tmp 4) 24 rfl w.heap.size 5 i8 Tryd.underlying24 HI8.out hz8 hsz8 hby8 (.slice (some ⟨w.heap.size, 0, none⟩) 1 1) (.slice p n cap) [0] l 1 rfl (own_new1 w 5 0) rfl (hH.alloc _) (by rw [← HN.out]; omega) (by simp) ?_
     intro v2 w2 ho2 hg2
     rw [← HN.out] at ho2
     have HI : Hid (w2.ownsRow w.heap.size 5 1 v2 (1 + n) ((0 :: l).map bcv) ∧ Below w.heap.size w w2) := Lib.hid ⟨ho2, ((Below.refl w.heap.size w).alloc (Nat.le_refl _) _).grown hg2 (by simp) (fun j hj => by simp [Value.ownBlock] at hj; omega)⟩
     clear ho2 hg2 hH))
  go_ret
  exact ⟨_, rfl, HI.out⟩
end Go.Proofs.YtlopiinkpdpakaaDoor
