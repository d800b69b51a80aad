/-
  NARROWER THAN 'FOR EVERY INPUT', by the rows' own cells (each row's printed sentence says how): DigestOf: laid · DigestCuts: laid · DigestTwo: laid · DigestNoughts: laid · DigestLong: laid · DigestBits: laid · MacOf: laid · MacDerive: laid · MacSame: laid · MacCuts: laid · MacKeys: laid.
  DERIVED. THE GIVEN ROWS OF THIS SEAT. 11 by the template 'for every input the law returns true; each argument reads behind the call as it read before'; 0 by the template 'total and deterministic' (their statements: YtjgleonbkipidaaDoorTotals.lean).
  GIVEN WITH THE SEED: the statements are not yours to turn. If you find one false, say at which input.
  Laid BY PROGRAM, IN A SANDBOX (cutbox-rows.mjs): the forced cells as the released guide's own fill.sh prints them over the translation 0ae06f828dbdf75f… (all of the seat's roots in one cut). By AI agents, Wed Nov 11 2026. No macro, syntax, notation, axiom, sorry.
-/
import Derived.Test.YtjgleonbkipidaaDoorChecked
import GoSem.Claim
import GoSem.ClaimJoined
import GoSem.ClaimMapViews
import Derived.JoinedTies
import Derived.KernelRfl
namespace Go.Proofs.YtjgleonbkipidaaDoor
/- THE CELL 'sum', in the pinned program and in every row, IS THE sha256 OF THE DUMP (.gsa) THAT YtjgleonbkipidaaDoorProg.lean LOADS. Nothing in Lean hashes anything: it is a label: what it is worth is what the hold of that sum in a sandbox is worth. -/
noncomputable def Tryd.pinned : Pinned := { name := "ytjgleonbkipidaadoor", sum := "0ae06f828dbdf75f8ba52ccdac2686fe21685d25c6efed3ad729aa582bf93123", checked := Tryd.checked }
namespace Rows
def none {H : Type} : Left H := { results := [], args := [] }

/- WHAT THE LISTED PACKAGE-LEVEL VARIABLES READ AS WHEN THE CALL BEGINS. Each datum BY PROGRAM (the guide's laid-datum.mjs) off the statement by which the dump's own 'gosem.cut.vars' lays the variable. In a bare row this is a premise. The card (YtjgleonbkipidaaDoorCards.lean) ties it to the program's text. -/
def laid_bailee_digest_rounds {H : Type} : DataW H := .agg [.lit (.int .u32 1116352408), .lit (.int .u32 1899447441), .lit (.int .u32 3049323471), .lit (.int .u32 3921009573), .lit (.int .u32 961987163), .lit (.int .u32 1508970993), .lit (.int .u32 2453635748), .lit (.int .u32 2870763221), .lit (.int .u32 3624381080), .lit (.int .u32 310598401), .lit (.int .u32 607225278), .lit (.int .u32 1426881987), .lit (.int .u32 1925078388), .lit (.int .u32 2162078206), .lit (.int .u32 2614888103), .lit (.int .u32 3248222580), .lit (.int .u32 3835390401), .lit (.int .u32 4022224774), .lit (.int .u32 264347078), .lit (.int .u32 604807628), .lit (.int .u32 770255983), .lit (.int .u32 1249150122), .lit (.int .u32 1555081692), .lit (.int .u32 1996064986), .lit (.int .u32 2554220882), .lit (.int .u32 2821834349), .lit (.int .u32 2952996808), .lit (.int .u32 3210313671), .lit (.int .u32 3336571891), .lit (.int .u32 3584528711), .lit (.int .u32 113926993), .lit (.int .u32 338241895), .lit (.int .u32 666307205), .lit (.int .u32 773529912), .lit (.int .u32 1294757372), .lit (.int .u32 1396182291), .lit (.int .u32 1695183700), .lit (.int .u32 1986661051), .lit (.int .u32 2177026350), .lit (.int .u32 2456956037), .lit (.int .u32 2730485921), .lit (.int .u32 2820302411), .lit (.int .u32 3259730800), .lit (.int .u32 3345764771), .lit (.int .u32 3516065817), .lit (.int .u32 3600352804), .lit (.int .u32 4094571909), .lit (.int .u32 275423344), .lit (.int .u32 430227734), .lit (.int .u32 506948616), .lit (.int .u32 659060556), .lit (.int .u32 883997877), .lit (.int .u32 958139571), .lit (.int .u32 1322822218), .lit (.int .u32 1537002063), .lit (.int .u32 1747873779), .lit (.int .u32 1955562222), .lit (.int .u32 2024104815), .lit (.int .u32 2227730452), .lit (.int .u32 2361852424), .lit (.int .u32 2428436474), .lit (.int .u32 2756734187), .lit (.int .u32 3204031479), .lit (.int .u32 3329325298)]

/-- 'baileelaw02.DigestOf': WHATEVER THE INPUT: true; the input reads as it did. -/
def digestOfSpec : ChangeSpec := { name := "digestOf", fn := fun _ => fun
  | [d] => { results := [.lit (.bool true)], args := [d] }
  | _ => none }
def digestOfRow : OpenClaim := { program := "ytjgleonbkipidaadoor", sum := "0ae06f828dbdf75f8ba52ccdac2686fe21685d25c6efed3ad729aa582bf93123", func := "bailee/baileelaw02.DigestOf", spec := "digestOf", inPlace := ["internal/bytealg.MakeNoZero"], named := ["bailee/digest.rounds"], apart := false, laid := [("bailee/digest.rounds", laid_bailee_digest_rounds)] }
def DigestOfSaid : Prop := digestOfRow.holds Tryd.pinned (OpenSpec.ofChange digestOfSpec)

/-- ITS FALSE NEIGHBOUR: 'it returns false'. Refute it at one input. -/
def digestOfWrong : ChangeSpec := { name := "digestOf", fn := fun _ => fun
  | [d] => { results := [.lit (.bool false)], args := [d] }
  | _ => none }
def DigestOfWrongFalsely : Prop := digestOfRow.holds Tryd.pinned (OpenSpec.ofChange digestOfWrong)

/-- 'baileelaw02.DigestCuts': WHATEVER THE INPUT: true; the input reads as it did. -/
def digestCutsSpec : ChangeSpec := { name := "digestCuts", fn := fun _ => fun
  | [d1, d2] => { results := [.lit (.bool true)], args := [d1, d2] }
  | _ => none }
def digestCutsRow : OpenClaim := { program := "ytjgleonbkipidaadoor", sum := "0ae06f828dbdf75f8ba52ccdac2686fe21685d25c6efed3ad729aa582bf93123", func := "bailee/baileelaw02.DigestCuts", spec := "digestCuts", inPlace := ["internal/bytealg.MakeNoZero"], named := ["bailee/digest.rounds"], apart := false, laid := [("bailee/digest.rounds", laid_bailee_digest_rounds)] }
def DigestCutsSaid : Prop := digestCutsRow.holds Tryd.pinned (OpenSpec.ofChange digestCutsSpec)

/-- ITS FALSE NEIGHBOUR: 'it returns false'. Refute it at one input. -/
def digestCutsWrong : ChangeSpec := { name := "digestCuts", fn := fun _ => fun
  | [d1, d2] => { results := [.lit (.bool false)], args := [d1, d2] }
  | _ => none }
def DigestCutsWrongFalsely : Prop := digestCutsRow.holds Tryd.pinned (OpenSpec.ofChange digestCutsWrong)

/-- 'baileelaw02.DigestTwo': WHATEVER THE INPUT: true; the input reads as it did. -/
def digestTwoSpec : ChangeSpec := { name := "digestTwo", fn := fun _ => fun
  | [d1, d2, d3] => { results := [.lit (.bool true)], args := [d1, d2, d3] }
  | _ => none }
def digestTwoRow : OpenClaim := { program := "ytjgleonbkipidaadoor", sum := "0ae06f828dbdf75f8ba52ccdac2686fe21685d25c6efed3ad729aa582bf93123", func := "bailee/baileelaw02.DigestTwo", spec := "digestTwo", inPlace := ["internal/bytealg.MakeNoZero"], named := ["bailee/digest.rounds"], apart := false, laid := [("bailee/digest.rounds", laid_bailee_digest_rounds)] }
def DigestTwoSaid : Prop := digestTwoRow.holds Tryd.pinned (OpenSpec.ofChange digestTwoSpec)

/-- ITS FALSE NEIGHBOUR: 'it returns false'. Refute it at one input. -/
def digestTwoWrong : ChangeSpec := { name := "digestTwo", fn := fun _ => fun
  | [d1, d2, d3] => { results := [.lit (.bool false)], args := [d1, d2, d3] }
  | _ => none }
def DigestTwoWrongFalsely : Prop := digestTwoRow.holds Tryd.pinned (OpenSpec.ofChange digestTwoWrong)

/-- 'baileelaw02.DigestNoughts': WHATEVER THE INPUT: true; the input reads as it did. -/
def digestNoughtsSpec : ChangeSpec := { name := "digestNoughts", fn := fun _ => fun
  | [d1, d2] => { results := [.lit (.bool true)], args := [d1, d2] }
  | _ => none }
def digestNoughtsRow : OpenClaim := { program := "ytjgleonbkipidaadoor", sum := "0ae06f828dbdf75f8ba52ccdac2686fe21685d25c6efed3ad729aa582bf93123", func := "bailee/baileelaw02.DigestNoughts", spec := "digestNoughts", inPlace := ["internal/bytealg.MakeNoZero"], named := ["bailee/digest.rounds"], apart := false, laid := [("bailee/digest.rounds", laid_bailee_digest_rounds)] }
def DigestNoughtsSaid : Prop := digestNoughtsRow.holds Tryd.pinned (OpenSpec.ofChange digestNoughtsSpec)

/-- ITS FALSE NEIGHBOUR: 'it returns false'. Refute it at one input. -/
def digestNoughtsWrong : ChangeSpec := { name := "digestNoughts", fn := fun _ => fun
  | [d1, d2] => { results := [.lit (.bool false)], args := [d1, d2] }
  | _ => none }
def DigestNoughtsWrongFalsely : Prop := digestNoughtsRow.holds Tryd.pinned (OpenSpec.ofChange digestNoughtsWrong)

/-- 'baileelaw02.DigestLong': WHATEVER THE INPUT: true; the input reads as it did. -/
def digestLongSpec : ChangeSpec := { name := "digestLong", fn := fun _ => fun
  | [d1, d2, d3] => { results := [.lit (.bool true)], args := [d1, d2, d3] }
  | _ => none }
def digestLongRow : OpenClaim := { program := "ytjgleonbkipidaadoor", sum := "0ae06f828dbdf75f8ba52ccdac2686fe21685d25c6efed3ad729aa582bf93123", func := "bailee/baileelaw02.DigestLong", spec := "digestLong", inPlace := ["internal/bytealg.MakeNoZero"], named := ["bailee/digest.rounds"], apart := false, laid := [("bailee/digest.rounds", laid_bailee_digest_rounds)] }
def DigestLongSaid : Prop := digestLongRow.holds Tryd.pinned (OpenSpec.ofChange digestLongSpec)

/-- ITS FALSE NEIGHBOUR: 'it returns false'. Refute it at one input. -/
def digestLongWrong : ChangeSpec := { name := "digestLong", fn := fun _ => fun
  | [d1, d2, d3] => { results := [.lit (.bool false)], args := [d1, d2, d3] }
  | _ => none }
def DigestLongWrongFalsely : Prop := digestLongRow.holds Tryd.pinned (OpenSpec.ofChange digestLongWrong)

/-- 'baileelaw02.DigestBits': WHATEVER THE INPUT: true; the input reads as it did. -/
def digestBitsSpec : ChangeSpec := { name := "digestBits", fn := fun _ => fun
  | [d1, d2] => { results := [.lit (.bool true)], args := [d1, d2] }
  | _ => none }
def digestBitsRow : OpenClaim := { program := "ytjgleonbkipidaadoor", sum := "0ae06f828dbdf75f8ba52ccdac2686fe21685d25c6efed3ad729aa582bf93123", func := "bailee/baileelaw02.DigestBits", spec := "digestBits", inPlace := ["internal/bytealg.MakeNoZero"], named := ["bailee/digest.rounds"], apart := false, laid := [("bailee/digest.rounds", laid_bailee_digest_rounds)] }
def DigestBitsSaid : Prop := digestBitsRow.holds Tryd.pinned (OpenSpec.ofChange digestBitsSpec)

/-- ITS FALSE NEIGHBOUR: 'it returns false'. Refute it at one input. -/
def digestBitsWrong : ChangeSpec := { name := "digestBits", fn := fun _ => fun
  | [d1, d2] => { results := [.lit (.bool false)], args := [d1, d2] }
  | _ => none }
def DigestBitsWrongFalsely : Prop := digestBitsRow.holds Tryd.pinned (OpenSpec.ofChange digestBitsWrong)

/-- 'baileelaw03.MacOf': WHATEVER THE INPUT: true; the input reads as it did. -/
def macOfSpec : ChangeSpec := { name := "macOf", fn := fun _ => fun
  | [d1, d2] => { results := [.lit (.bool true)], args := [d1, d2] }
  | _ => none }
def macOfRow : OpenClaim := { program := "ytjgleonbkipidaadoor", sum := "0ae06f828dbdf75f8ba52ccdac2686fe21685d25c6efed3ad729aa582bf93123", func := "bailee/baileelaw03.MacOf", spec := "macOf", inPlace := ["slices.overlaps[[]byte]", "internal/bytealg.MakeNoZero"], named := ["bailee/digest.rounds"], apart := false, laid := [("bailee/digest.rounds", laid_bailee_digest_rounds)] }
def MacOfSaid : Prop := macOfRow.holds Tryd.pinned (OpenSpec.ofChange macOfSpec)

/-- ITS FALSE NEIGHBOUR: 'it returns false'. Refute it at one input. -/
def macOfWrong : ChangeSpec := { name := "macOf", fn := fun _ => fun
  | [d1, d2] => { results := [.lit (.bool false)], args := [d1, d2] }
  | _ => none }
def MacOfWrongFalsely : Prop := macOfRow.holds Tryd.pinned (OpenSpec.ofChange macOfWrong)

/-- 'baileelaw03.MacDerive': WHATEVER THE INPUT: true; the input reads as it did. -/
def macDeriveSpec : ChangeSpec := { name := "macDerive", fn := fun _ => fun
  | [d1, d2, d3] => { results := [.lit (.bool true)], args := [d1, d2, d3] }
  | _ => none }
def macDeriveRow : OpenClaim := { program := "ytjgleonbkipidaadoor", sum := "0ae06f828dbdf75f8ba52ccdac2686fe21685d25c6efed3ad729aa582bf93123", func := "bailee/baileelaw03.MacDerive", spec := "macDerive", inPlace := ["slices.overlaps[[]byte]", "internal/bytealg.MakeNoZero"], named := ["bailee/digest.rounds"], apart := false, laid := [("bailee/digest.rounds", laid_bailee_digest_rounds)] }
def MacDeriveSaid : Prop := macDeriveRow.holds Tryd.pinned (OpenSpec.ofChange macDeriveSpec)

/-- ITS FALSE NEIGHBOUR: 'it returns false'. Refute it at one input. -/
def macDeriveWrong : ChangeSpec := { name := "macDerive", fn := fun _ => fun
  | [d1, d2, d3] => { results := [.lit (.bool false)], args := [d1, d2, d3] }
  | _ => none }
def MacDeriveWrongFalsely : Prop := macDeriveRow.holds Tryd.pinned (OpenSpec.ofChange macDeriveWrong)

/-- 'baileelaw03.MacSame': WHATEVER THE INPUT: true; the input reads as it did. -/
def macSameSpec : ChangeSpec := { name := "macSame", fn := fun _ => fun
  | [d1, d2, d3] => { results := [.lit (.bool true)], args := [d1, d2, d3] }
  | _ => none }
def macSameRow : OpenClaim := { program := "ytjgleonbkipidaadoor", sum := "0ae06f828dbdf75f8ba52ccdac2686fe21685d25c6efed3ad729aa582bf93123", func := "bailee/baileelaw03.MacSame", spec := "macSame", inPlace := ["slices.overlaps[[]byte]", "internal/bytealg.MakeNoZero"], named := ["bailee/digest.rounds"], apart := false, laid := [("bailee/digest.rounds", laid_bailee_digest_rounds)] }
def MacSameSaid : Prop := macSameRow.holds Tryd.pinned (OpenSpec.ofChange macSameSpec)

/-- ITS FALSE NEIGHBOUR: 'it returns false'. Refute it at one input. -/
def macSameWrong : ChangeSpec := { name := "macSame", fn := fun _ => fun
  | [d1, d2, d3] => { results := [.lit (.bool false)], args := [d1, d2, d3] }
  | _ => none }
def MacSameWrongFalsely : Prop := macSameRow.holds Tryd.pinned (OpenSpec.ofChange macSameWrong)

/-- 'baileelaw03.MacCuts': WHATEVER THE INPUT: true; the input reads as it did. -/
def macCutsSpec : ChangeSpec := { name := "macCuts", fn := fun _ => fun
  | [d1, d2, d3] => { results := [.lit (.bool true)], args := [d1, d2, d3] }
  | _ => none }
def macCutsRow : OpenClaim := { program := "ytjgleonbkipidaadoor", sum := "0ae06f828dbdf75f8ba52ccdac2686fe21685d25c6efed3ad729aa582bf93123", func := "bailee/baileelaw03.MacCuts", spec := "macCuts", inPlace := ["slices.overlaps[[]byte]", "internal/bytealg.MakeNoZero"], named := ["bailee/digest.rounds"], apart := false, laid := [("bailee/digest.rounds", laid_bailee_digest_rounds)] }
def MacCutsSaid : Prop := macCutsRow.holds Tryd.pinned (OpenSpec.ofChange macCutsSpec)

/-- ITS FALSE NEIGHBOUR: 'it returns false'. Refute it at one input. -/
def macCutsWrong : ChangeSpec := { name := "macCuts", fn := fun _ => fun
  | [d1, d2, d3] => { results := [.lit (.bool false)], args := [d1, d2, d3] }
  | _ => none }
def MacCutsWrongFalsely : Prop := macCutsRow.holds Tryd.pinned (OpenSpec.ofChange macCutsWrong)

/-- 'baileelaw03.MacKeys': WHATEVER THE INPUT: true; the input reads as it did. -/
def macKeysSpec : ChangeSpec := { name := "macKeys", fn := fun _ => fun
  | [d1, d2, d3, d4] => { results := [.lit (.bool true)], args := [d1, d2, d3, d4] }
  | _ => none }
def macKeysRow : OpenClaim := { program := "ytjgleonbkipidaadoor", sum := "0ae06f828dbdf75f8ba52ccdac2686fe21685d25c6efed3ad729aa582bf93123", func := "bailee/baileelaw03.MacKeys", spec := "macKeys", inPlace := ["slices.overlaps[[]byte]", "internal/bytealg.MakeNoZero"], named := ["bailee/digest.rounds"], apart := false, laid := [("bailee/digest.rounds", laid_bailee_digest_rounds)] }
def MacKeysSaid : Prop := macKeysRow.holds Tryd.pinned (OpenSpec.ofChange macKeysSpec)

/-- ITS FALSE NEIGHBOUR: 'it returns false'. Refute it at one input. -/
def macKeysWrong : ChangeSpec := { name := "macKeys", fn := fun _ => fun
  | [d1, d2, d3, d4] => { results := [.lit (.bool false)], args := [d1, d2, d3, d4] }
  | _ => none }
def MacKeysWrongFalsely : Prop := macKeysRow.holds Tryd.pinned (OpenSpec.ofChange macKeysWrong)

/- THE SECOND FORM. 'bulk': how many values and letters a reading holds, each counted each time it is reached (what is shared counts as often as it is met; a slice's spare places count too). A statement '..UptoSaid' is the law's where the arguments, and the package variables that the reading takes, are together of bulk at most 1048576: NARROWER than '..Said'. Prove '..Said' where nothing that the law and all that it calls make is longer than what came in: it says more and counts as full. Else prove '..UptoSaid'. A law counts once. -/
mutual
def uptoBulk {H : Type} : DataW H → Nat
  | .lit (.string bytes) => bytes.length + 1
  | .lit _ => 1
  | .nil => 1
  | .ptr d => uptoBulk d + 1
  | .slice elems spare => uptoBulkAll elems + uptoBulkAll spare + 1
  | .agg parts => uptoBulkAll parts + 1
  | .iface _ d => uptoBulk d + 1
  | .map entries => uptoBulkEntries entries + 1
  | .held _ => 1
def uptoBulkAll {H : Type} : List (DataW H) → Nat
  | [] => 0
  | d :: r => uptoBulk d + uptoBulkAll r
def uptoBulkEntries {H : Type} : List (Lit × DataW H) → Nat
  | [] => 0
  | x :: r => uptoBulkEntry x + uptoBulkEntries r
def uptoBulkEntry {H : Type} : Lit × DataW H → Nat
  | (.string bytes, d) => bytes.length + uptoBulk d + 1
  | (_, d) => uptoBulk d + 1
 end
def uptoSmall : (H : Type) → List (DataW H) → Bool := fun _ ds => decide (uptoBulkAll ds ≤ 1048576)
def OpenSpec.upto (s : _root_.Go.ChangeSpec) : _root_.Go.OpenSpec := { _root_.Go.OpenSpec.ofChange s with cond := some uptoSmall }

/-- 'baileelaw02.DigestOf', WHERE WHAT IT READS IS OF BULK AT MOST 1048576: true; the input reads as it did. -/
def digestOfUptoRow : OpenClaim := { program := "ytjgleonbkipidaadoor", sum := "0ae06f828dbdf75f8ba52ccdac2686fe21685d25c6efed3ad729aa582bf93123", func := "bailee/baileelaw02.DigestOf", spec := "digestOf", inPlace := ["internal/bytealg.MakeNoZero"], named := ["bailee/digest.rounds"], apart := false, laid := [("bailee/digest.rounds", laid_bailee_digest_rounds)], narrowed := true }
def DigestOfUptoSaid : Prop := digestOfUptoRow.holds Tryd.pinned (OpenSpec.upto digestOfSpec)

/-- 'baileelaw02.DigestCuts', WHERE WHAT IT READS IS OF BULK AT MOST 1048576: true; the input reads as it did. -/
def digestCutsUptoRow : OpenClaim := { program := "ytjgleonbkipidaadoor", sum := "0ae06f828dbdf75f8ba52ccdac2686fe21685d25c6efed3ad729aa582bf93123", func := "bailee/baileelaw02.DigestCuts", spec := "digestCuts", inPlace := ["internal/bytealg.MakeNoZero"], named := ["bailee/digest.rounds"], apart := false, laid := [("bailee/digest.rounds", laid_bailee_digest_rounds)], narrowed := true }
def DigestCutsUptoSaid : Prop := digestCutsUptoRow.holds Tryd.pinned (OpenSpec.upto digestCutsSpec)

/-- 'baileelaw02.DigestTwo', WHERE WHAT IT READS IS OF BULK AT MOST 1048576: true; the input reads as it did. -/
def digestTwoUptoRow : OpenClaim := { program := "ytjgleonbkipidaadoor", sum := "0ae06f828dbdf75f8ba52ccdac2686fe21685d25c6efed3ad729aa582bf93123", func := "bailee/baileelaw02.DigestTwo", spec := "digestTwo", inPlace := ["internal/bytealg.MakeNoZero"], named := ["bailee/digest.rounds"], apart := false, laid := [("bailee/digest.rounds", laid_bailee_digest_rounds)], narrowed := true }
def DigestTwoUptoSaid : Prop := digestTwoUptoRow.holds Tryd.pinned (OpenSpec.upto digestTwoSpec)

/-- 'baileelaw02.DigestNoughts', WHERE WHAT IT READS IS OF BULK AT MOST 1048576: true; the input reads as it did. -/
def digestNoughtsUptoRow : OpenClaim := { program := "ytjgleonbkipidaadoor", sum := "0ae06f828dbdf75f8ba52ccdac2686fe21685d25c6efed3ad729aa582bf93123", func := "bailee/baileelaw02.DigestNoughts", spec := "digestNoughts", inPlace := ["internal/bytealg.MakeNoZero"], named := ["bailee/digest.rounds"], apart := false, laid := [("bailee/digest.rounds", laid_bailee_digest_rounds)], narrowed := true }
def DigestNoughtsUptoSaid : Prop := digestNoughtsUptoRow.holds Tryd.pinned (OpenSpec.upto digestNoughtsSpec)

/-- 'baileelaw02.DigestLong', WHERE WHAT IT READS IS OF BULK AT MOST 1048576: true; the input reads as it did. -/
def digestLongUptoRow : OpenClaim := { program := "ytjgleonbkipidaadoor", sum := "0ae06f828dbdf75f8ba52ccdac2686fe21685d25c6efed3ad729aa582bf93123", func := "bailee/baileelaw02.DigestLong", spec := "digestLong", inPlace := ["internal/bytealg.MakeNoZero"], named := ["bailee/digest.rounds"], apart := false, laid := [("bailee/digest.rounds", laid_bailee_digest_rounds)], narrowed := true }
def DigestLongUptoSaid : Prop := digestLongUptoRow.holds Tryd.pinned (OpenSpec.upto digestLongSpec)

/-- 'baileelaw02.DigestBits', WHERE WHAT IT READS IS OF BULK AT MOST 1048576: true; the input reads as it did. -/
def digestBitsUptoRow : OpenClaim := { program := "ytjgleonbkipidaadoor", sum := "0ae06f828dbdf75f8ba52ccdac2686fe21685d25c6efed3ad729aa582bf93123", func := "bailee/baileelaw02.DigestBits", spec := "digestBits", inPlace := ["internal/bytealg.MakeNoZero"], named := ["bailee/digest.rounds"], apart := false, laid := [("bailee/digest.rounds", laid_bailee_digest_rounds)], narrowed := true }
def DigestBitsUptoSaid : Prop := digestBitsUptoRow.holds Tryd.pinned (OpenSpec.upto digestBitsSpec)

/-- 'baileelaw03.MacOf', WHERE WHAT IT READS IS OF BULK AT MOST 1048576: true; the input reads as it did. -/
def macOfUptoRow : OpenClaim := { program := "ytjgleonbkipidaadoor", sum := "0ae06f828dbdf75f8ba52ccdac2686fe21685d25c6efed3ad729aa582bf93123", func := "bailee/baileelaw03.MacOf", spec := "macOf", inPlace := ["slices.overlaps[[]byte]", "internal/bytealg.MakeNoZero"], named := ["bailee/digest.rounds"], apart := false, laid := [("bailee/digest.rounds", laid_bailee_digest_rounds)], narrowed := true }
def MacOfUptoSaid : Prop := macOfUptoRow.holds Tryd.pinned (OpenSpec.upto macOfSpec)

/-- 'baileelaw03.MacDerive', WHERE WHAT IT READS IS OF BULK AT MOST 1048576: true; the input reads as it did. -/
def macDeriveUptoRow : OpenClaim := { program := "ytjgleonbkipidaadoor", sum := "0ae06f828dbdf75f8ba52ccdac2686fe21685d25c6efed3ad729aa582bf93123", func := "bailee/baileelaw03.MacDerive", spec := "macDerive", inPlace := ["slices.overlaps[[]byte]", "internal/bytealg.MakeNoZero"], named := ["bailee/digest.rounds"], apart := false, laid := [("bailee/digest.rounds", laid_bailee_digest_rounds)], narrowed := true }
def MacDeriveUptoSaid : Prop := macDeriveUptoRow.holds Tryd.pinned (OpenSpec.upto macDeriveSpec)

/-- 'baileelaw03.MacSame', WHERE WHAT IT READS IS OF BULK AT MOST 1048576: true; the input reads as it did. -/
def macSameUptoRow : OpenClaim := { program := "ytjgleonbkipidaadoor", sum := "0ae06f828dbdf75f8ba52ccdac2686fe21685d25c6efed3ad729aa582bf93123", func := "bailee/baileelaw03.MacSame", spec := "macSame", inPlace := ["slices.overlaps[[]byte]", "internal/bytealg.MakeNoZero"], named := ["bailee/digest.rounds"], apart := false, laid := [("bailee/digest.rounds", laid_bailee_digest_rounds)], narrowed := true }
def MacSameUptoSaid : Prop := macSameUptoRow.holds Tryd.pinned (OpenSpec.upto macSameSpec)

/-- 'baileelaw03.MacCuts', WHERE WHAT IT READS IS OF BULK AT MOST 1048576: true; the input reads as it did. -/
def macCutsUptoRow : OpenClaim := { program := "ytjgleonbkipidaadoor", sum := "0ae06f828dbdf75f8ba52ccdac2686fe21685d25c6efed3ad729aa582bf93123", func := "bailee/baileelaw03.MacCuts", spec := "macCuts", inPlace := ["slices.overlaps[[]byte]", "internal/bytealg.MakeNoZero"], named := ["bailee/digest.rounds"], apart := false, laid := [("bailee/digest.rounds", laid_bailee_digest_rounds)], narrowed := true }
def MacCutsUptoSaid : Prop := macCutsUptoRow.holds Tryd.pinned (OpenSpec.upto macCutsSpec)

/-- 'baileelaw03.MacKeys', WHERE WHAT IT READS IS OF BULK AT MOST 1048576: true; the input reads as it did. -/
def macKeysUptoRow : OpenClaim := { program := "ytjgleonbkipidaadoor", sum := "0ae06f828dbdf75f8ba52ccdac2686fe21685d25c6efed3ad729aa582bf93123", func := "bailee/baileelaw03.MacKeys", spec := "macKeys", inPlace := ["slices.overlaps[[]byte]", "internal/bytealg.MakeNoZero"], named := ["bailee/digest.rounds"], apart := false, laid := [("bailee/digest.rounds", laid_bailee_digest_rounds)], narrowed := true }
def MacKeysUptoSaid : Prop := macKeysUptoRow.holds Tryd.pinned (OpenSpec.upto macKeysSpec)

end Rows
end Go.Proofs.YtjgleonbkipidaaDoor
