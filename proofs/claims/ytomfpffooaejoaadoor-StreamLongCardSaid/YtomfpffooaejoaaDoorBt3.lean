/-
  Copies into a block that is known; loads and appends of bytes. No program is named here.
-/
import Derived.Test.YtomfpffooaejoaaDoorBt2
import Derived.Laws.CopyOwn
namespace Go.Proofs.YtomfpffooaejoaaDoor
open Go Go.RowKit

/-- a row of the call's own is a known slice -/
theorem OwnB.hb {w : World} {base : Nat} {v : Value} {l : List UInt8} (h : OwnB w base v l) : HB w v l := by
  rcases h with ⟨rfl, rfl⟩ | ⟨g, cap, rfl, _, hl, hm, _, _, hx⟩
  · exact HB.nil w
  · exact ⟨_, cap, rfl, hl, hm, (fun h => by cases h), fun _ => ⟨g, 0, rfl, fun i x hi => by rw [Nat.zero_add]; exact hx i x hi⟩⟩
/-- a slice against nil -/
theorem run_eql_nil {P : Program} (w : World) {t e : TypeId} (a : Option Addr) (n c : Nat) (ht : P.underlying t = some (.slice e)) : (binOp .eql t (.slice a n c) (.slice none 0 0)).run P w = .ok (.bool a.isNone) w := by
  have h : ∀ d : Nat, (Op.equalIn (d + 1) t (.slice a n c) (.slice none 0 0)).run P w = .ok a.isNone w := fun d => by
    cases a <;> simp [Op.equalIn, run_underlying ht]
  simp only [binOp]
  simp [Op.equal, Op.maxDepth, h 9999]
theorem addb (b o j : Nat) : ((⟨b, o, none⟩ : Addr).add j).block = b := by unfold Addr.add; split <;> rfl
theorem splice_map {α β : Type} (f : α → β) (l m : List α) (off : Nat) : splice (l.map f) off (m.map f) = (splice l off m).map f := by
  simp [splice, List.map_take, List.map_drop]
section
variable {P : Program} {w : World} {ops : Array Oper} {rest : List Oper} {o : Oper} {a : Act} {Q : Exit → Act → World → Prop}
theorem grown_setRow (w : World) (g : Nat) (cs : Array Value) : w.grownBy (w.setRow g cs) (some g) :=
  ⟨rfl, rfl, rfl, by simp [World.setRow], fun k _ hk => setRow_other w g k cs (fun e => hk (by rw [e]))⟩
/-- bytes are copied into a block that is known -/
theorem wpList_copy_blk (hgd : o.guard = none) (d s : Operand) (dT sT : TypeId)
    (ho : o.op = .call { callee := .builtin .copy, args := #[d, s], argTypes := #[dT, sT] }) (elem : TypeId) (hu : P.underlying dT = some (.slice elem)) (hsz : (P.info? elem).map (·.size) = some 1)
    (dLen dCap : Nat) (sv : Value) (g off : Nat) (t : TypeId) (l m : List UInt8) (hd : a.eval d = .slice (some ⟨g, off, none⟩) dLen dCap) (hs : a.eval s = sv)
    (hg : Blk w g t (bvs l)) (hm : HB w sv m) (hle : m.length ≤ dLen) (hfit : off + m.length ≤ l.length)
    (h : ∀ w', Blk w' g t (bvs (splice l off m)) → w.grownBy w' (some g) → w'.heap.size = w.heap.size → wpList P ops Q rest (a.put o.dst (.int .i64 (m.length : Int))) w') :
    wpList P ops Q (o :: rest) a w := by
  obtain ⟨p, cap, rfl, hl, hmx, hn, hc⟩ := hm
  by_cases h0 : m = []
  · subst h0
    refine wpList_copy_nothing hgd d s dT sT ho elem hu hsz _ p dLen dCap 0 cap hd hs (by simp) ?_
    have := h w (by simpa [splice] using hg) (World.grownBy.refl w _) rfl
    simpa [goInt] using this
  · obtain ⟨b, q, rfl, hcell⟩ := hc h0
    have hbv : bvs l = (l.map bcv).toArray := rfl
    refine wpList_copy_own hgd d s dT sT ho elem hu hsz g off dLen dCap ⟨b, q, none⟩ m.length cap hd hs (bvs l) t hg (m.map bcv) (by rw [List.length_map]; exact (Nat.min_eq_left hle).symm) (fun j v hj => ?_) (by rw [bvs_size, List.length_map]; omega) (fun v hv => ?_) ?_
    · rw [List.getElem?_map] at hj
      obtain ⟨x, hx, rfl⟩ := Option.map_eq_some_iff.1 hj
      rw [addi]; exact hcell j x hx
    · obtain ⟨x, _, rfl⟩ := List.mem_map.1 hv
      rfl
    · rw [List.length_map]
      refine h _ ?_ (grown_setRow w g _) (by simp [World.setRow])
      have e : (w.setRow g ((bvs l).toList.take off ++ (m.map bcv ++ (bvs l).toList.drop (off + m.length))).toArray).heap[g]? = some (.cells (bvs (splice l off m)) t (0, 0)) := by
        rw [setRow_heap w g _ _ t _ hg]
        congr 2
        simp [splice, bvs, List.map_take, List.map_drop]
      exact e
end
end Go.Proofs.YtomfpffooaejoaaDoor
