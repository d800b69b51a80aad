/-
  NARROWER THAN 'FOR EVERY INPUT', by the rows' own cells (each row's printed sentence says how): StreamParts: laid · StreamOver: laid · StreamTwice: laid · StreamPlain: laid · StreamLong: laid.
  DERIVED. THE GIVEN ROWS OF THIS SEAT. 5 by the template 'for every input the law returns true; each argument reads behind the call as it read before'; 0 by the template 'total and deterministic' (their statements: YtomfpffooaejoaaDoorTotals.lean).
  GIVEN WITH THE SEED: the statements are not yours to turn. If you find one false, say at which input.
  Laid BY PROGRAM, IN A SANDBOX (cutbox-rows.mjs): the forced cells as the released guide's own fill.sh prints them over the translation 256efc2f643bb79c… (all of the seat's roots in one cut). By AI agents, Wed Nov 11 2026. No macro, syntax, notation, axiom, sorry.
-/
import Derived.Test.YtomfpffooaejoaaDoorChecked
import GoSem.Claim
import GoSem.ClaimJoined
import GoSem.ClaimMapViews
import Derived.JoinedTies
import Derived.KernelRfl
namespace Go.Proofs.YtomfpffooaejoaaDoor
/- THE CELL 'sum', in the pinned program and in every row, IS THE sha256 OF THE DUMP (.gsa) THAT YtomfpffooaejoaaDoorProg.lean LOADS. Nothing in Lean hashes anything: it is a label: what it is worth is what the hold of that sum in a sandbox is worth. -/
noncomputable def Tryd.pinned : Pinned := { name := "ytomfpffooaejoaadoor", sum := "256efc2f643bb79c526c44b586f9cf4abdd4752ceb21413edc45a5237ca87662", checked := Tryd.checked }
namespace Rows
def none {H : Type} : Left H := { results := [], args := [] }

/- WHAT THE LISTED PACKAGE-LEVEL VARIABLES READ AS WHEN THE CALL BEGINS. Each datum BY PROGRAM (the guide's laid-datum.mjs) off the statement by which the dump's own 'gosem.cut.vars' lays the variable. In a bare row this is a premise. The card (YtomfpffooaejoaaDoorCards.lean) ties it to the program's text. -/
def laid_bailee_stream_quarters {H : Type} : DataW H := .agg [.agg [.lit (.int .i64 0), .lit (.int .i64 4), .lit (.int .i64 8), .lit (.int .i64 12)], .agg [.lit (.int .i64 1), .lit (.int .i64 5), .lit (.int .i64 9), .lit (.int .i64 13)], .agg [.lit (.int .i64 2), .lit (.int .i64 6), .lit (.int .i64 10), .lit (.int .i64 14)], .agg [.lit (.int .i64 3), .lit (.int .i64 7), .lit (.int .i64 11), .lit (.int .i64 15)], .agg [.lit (.int .i64 0), .lit (.int .i64 5), .lit (.int .i64 10), .lit (.int .i64 15)], .agg [.lit (.int .i64 1), .lit (.int .i64 6), .lit (.int .i64 11), .lit (.int .i64 12)], .agg [.lit (.int .i64 2), .lit (.int .i64 7), .lit (.int .i64 8), .lit (.int .i64 13)], .agg [.lit (.int .i64 3), .lit (.int .i64 4), .lit (.int .i64 9), .lit (.int .i64 14)]]

/-- 'baileelaw04.StreamParts': WHATEVER THE INPUT: true; the input reads as it did. -/
def streamPartsSpec : ChangeSpec := { name := "streamParts", fn := fun _ => fun
  | [d1, d2, d3] => { results := [.lit (.bool true)], args := [d1, d2, d3] }
  | _ => none }
def streamPartsRow : OpenClaim := { program := "ytomfpffooaejoaadoor", sum := "256efc2f643bb79c526c44b586f9cf4abdd4752ceb21413edc45a5237ca87662", func := "bailee/baileelaw04.StreamParts", spec := "streamParts", unfollowed := true, recurses := true, named := ["bailee/stream.quarters"], apart := false, laid := [("bailee/stream.quarters", laid_bailee_stream_quarters)] }
def StreamPartsSaid : Prop := streamPartsRow.holds Tryd.pinned (OpenSpec.ofChange streamPartsSpec)

/-- ITS FALSE NEIGHBOUR: 'it returns false'. Refute it at one input. -/
def streamPartsWrong : ChangeSpec := { name := "streamParts", fn := fun _ => fun
  | [d1, d2, d3] => { results := [.lit (.bool false)], args := [d1, d2, d3] }
  | _ => none }
def StreamPartsWrongFalsely : Prop := streamPartsRow.holds Tryd.pinned (OpenSpec.ofChange streamPartsWrong)

/-- 'baileelaw04.StreamOver': WHATEVER THE INPUT: true; the input reads as it did. -/
def streamOverSpec : ChangeSpec := { name := "streamOver", fn := fun _ => fun
  | [d1, d2, d3] => { results := [.lit (.bool true)], args := [d1, d2, d3] }
  | _ => none }
def streamOverRow : OpenClaim := { program := "ytomfpffooaejoaadoor", sum := "256efc2f643bb79c526c44b586f9cf4abdd4752ceb21413edc45a5237ca87662", func := "bailee/baileelaw04.StreamOver", spec := "streamOver", unfollowed := true, recurses := true, named := ["bailee/stream.quarters"], apart := false, laid := [("bailee/stream.quarters", laid_bailee_stream_quarters)] }
def StreamOverSaid : Prop := streamOverRow.holds Tryd.pinned (OpenSpec.ofChange streamOverSpec)

/-- ITS FALSE NEIGHBOUR: 'it returns false'. Refute it at one input. -/
def streamOverWrong : ChangeSpec := { name := "streamOver", fn := fun _ => fun
  | [d1, d2, d3] => { results := [.lit (.bool false)], args := [d1, d2, d3] }
  | _ => none }
def StreamOverWrongFalsely : Prop := streamOverRow.holds Tryd.pinned (OpenSpec.ofChange streamOverWrong)

/-- 'baileelaw04.StreamTwice': WHATEVER THE INPUT: true; the input reads as it did. -/
def streamTwiceSpec : ChangeSpec := { name := "streamTwice", fn := fun _ => fun
  | [d1, d2, d3, d4] => { results := [.lit (.bool true)], args := [d1, d2, d3, d4] }
  | _ => none }
def streamTwiceRow : OpenClaim := { program := "ytomfpffooaejoaadoor", sum := "256efc2f643bb79c526c44b586f9cf4abdd4752ceb21413edc45a5237ca87662", func := "bailee/baileelaw04.StreamTwice", spec := "streamTwice", unfollowed := true, recurses := true, named := ["bailee/stream.quarters"], apart := false, laid := [("bailee/stream.quarters", laid_bailee_stream_quarters)] }
def StreamTwiceSaid : Prop := streamTwiceRow.holds Tryd.pinned (OpenSpec.ofChange streamTwiceSpec)

/-- ITS FALSE NEIGHBOUR: 'it returns false'. Refute it at one input. -/
def streamTwiceWrong : ChangeSpec := { name := "streamTwice", fn := fun _ => fun
  | [d1, d2, d3, d4] => { results := [.lit (.bool false)], args := [d1, d2, d3, d4] }
  | _ => none }
def StreamTwiceWrongFalsely : Prop := streamTwiceRow.holds Tryd.pinned (OpenSpec.ofChange streamTwiceWrong)

/-- 'baileelaw04.StreamPlain': WHATEVER THE INPUT: true; the input reads as it did. -/
def streamPlainSpec : ChangeSpec := { name := "streamPlain", fn := fun _ => fun
  | [d1, d2, d3] => { results := [.lit (.bool true)], args := [d1, d2, d3] }
  | _ => none }
def streamPlainRow : OpenClaim := { program := "ytomfpffooaejoaadoor", sum := "256efc2f643bb79c526c44b586f9cf4abdd4752ceb21413edc45a5237ca87662", func := "bailee/baileelaw04.StreamPlain", spec := "streamPlain", unfollowed := true, recurses := true, named := ["bailee/stream.quarters"], apart := false, laid := [("bailee/stream.quarters", laid_bailee_stream_quarters)] }
def StreamPlainSaid : Prop := streamPlainRow.holds Tryd.pinned (OpenSpec.ofChange streamPlainSpec)

/-- ITS FALSE NEIGHBOUR: 'it returns false'. Refute it at one input. -/
def streamPlainWrong : ChangeSpec := { name := "streamPlain", fn := fun _ => fun
  | [d1, d2, d3] => { results := [.lit (.bool false)], args := [d1, d2, d3] }
  | _ => none }
def StreamPlainWrongFalsely : Prop := streamPlainRow.holds Tryd.pinned (OpenSpec.ofChange streamPlainWrong)

/-- 'baileelaw04.StreamLong': WHATEVER THE INPUT: true; the input reads as it did. -/
def streamLongSpec : ChangeSpec := { name := "streamLong", fn := fun _ => fun
  | [d1, d2, d3, d4] => { results := [.lit (.bool true)], args := [d1, d2, d3, d4] }
  | _ => none }
def streamLongRow : OpenClaim := { program := "ytomfpffooaejoaadoor", sum := "256efc2f643bb79c526c44b586f9cf4abdd4752ceb21413edc45a5237ca87662", func := "bailee/baileelaw04.StreamLong", spec := "streamLong", unfollowed := true, recurses := true, named := ["bailee/stream.quarters"], apart := false, laid := [("bailee/stream.quarters", laid_bailee_stream_quarters)] }
def StreamLongSaid : Prop := streamLongRow.holds Tryd.pinned (OpenSpec.ofChange streamLongSpec)

/-- ITS FALSE NEIGHBOUR: 'it returns false'. Refute it at one input. -/
def streamLongWrong : ChangeSpec := { name := "streamLong", fn := fun _ => fun
  | [d1, d2, d3, d4] => { results := [.lit (.bool false)], args := [d1, d2, d3, d4] }
  | _ => none }
def StreamLongWrongFalsely : Prop := streamLongRow.holds Tryd.pinned (OpenSpec.ofChange streamLongWrong)

/- THE SECOND FORM. 'bulk': how many values and letters a reading holds, each counted each time it is reached (what is shared counts as often as it is met; a slice's spare places count too). A statement '..UptoSaid' is the law's where the arguments, and the package variables that the reading takes, are together of bulk at most 1048576: NARROWER than '..Said'. Prove '..Said' where nothing that the law and all that it calls make is longer than what came in: it says more and counts as full. Else prove '..UptoSaid'. A law counts once. -/
mutual
def uptoBulk {H : Type} : DataW H → Nat
  | .lit (.string bytes) => bytes.length + 1
  | .lit _ => 1
  | .nil => 1
  | .ptr d => uptoBulk d + 1
  | .slice elems spare => uptoBulkAll elems + uptoBulkAll spare + 1
  | .agg parts => uptoBulkAll parts + 1
  | .iface _ d => uptoBulk d + 1
  | .map entries => uptoBulkEntries entries + 1
  | .held _ => 1
def uptoBulkAll {H : Type} : List (DataW H) → Nat
  | [] => 0
  | d :: r => uptoBulk d + uptoBulkAll r
def uptoBulkEntries {H : Type} : List (Lit × DataW H) → Nat
  | [] => 0
  | x :: r => uptoBulkEntry x + uptoBulkEntries r
def uptoBulkEntry {H : Type} : Lit × DataW H → Nat
  | (.string bytes, d) => bytes.length + uptoBulk d + 1
  | (_, d) => uptoBulk d + 1
 end
def uptoSmall : (H : Type) → List (DataW H) → Bool := fun _ ds => decide (uptoBulkAll ds ≤ 1048576)
def OpenSpec.upto (s : _root_.Go.ChangeSpec) : _root_.Go.OpenSpec := { _root_.Go.OpenSpec.ofChange s with cond := some uptoSmall }

/-- 'baileelaw04.StreamParts', WHERE WHAT IT READS IS OF BULK AT MOST 1048576: true; the input reads as it did. -/
def streamPartsUptoRow : OpenClaim := { program := "ytomfpffooaejoaadoor", sum := "256efc2f643bb79c526c44b586f9cf4abdd4752ceb21413edc45a5237ca87662", func := "bailee/baileelaw04.StreamParts", spec := "streamParts", unfollowed := true, recurses := true, named := ["bailee/stream.quarters"], apart := false, laid := [("bailee/stream.quarters", laid_bailee_stream_quarters)], narrowed := true }
def StreamPartsUptoSaid : Prop := streamPartsUptoRow.holds Tryd.pinned (OpenSpec.upto streamPartsSpec)

/-- 'baileelaw04.StreamOver', WHERE WHAT IT READS IS OF BULK AT MOST 1048576: true; the input reads as it did. -/
def streamOverUptoRow : OpenClaim := { program := "ytomfpffooaejoaadoor", sum := "256efc2f643bb79c526c44b586f9cf4abdd4752ceb21413edc45a5237ca87662", func := "bailee/baileelaw04.StreamOver", spec := "streamOver", unfollowed := true, recurses := true, named := ["bailee/stream.quarters"], apart := false, laid := [("bailee/stream.quarters", laid_bailee_stream_quarters)], narrowed := true }
def StreamOverUptoSaid : Prop := streamOverUptoRow.holds Tryd.pinned (OpenSpec.upto streamOverSpec)

/-- 'baileelaw04.StreamTwice', WHERE WHAT IT READS IS OF BULK AT MOST 1048576: true; the input reads as it did. -/
def streamTwiceUptoRow : OpenClaim := { program := "ytomfpffooaejoaadoor", sum := "256efc2f643bb79c526c44b586f9cf4abdd4752ceb21413edc45a5237ca87662", func := "bailee/baileelaw04.StreamTwice", spec := "streamTwice", unfollowed := true, recurses := true, named := ["bailee/stream.quarters"], apart := false, laid := [("bailee/stream.quarters", laid_bailee_stream_quarters)], narrowed := true }
def StreamTwiceUptoSaid : Prop := streamTwiceUptoRow.holds Tryd.pinned (OpenSpec.upto streamTwiceSpec)

/-- 'baileelaw04.StreamPlain', WHERE WHAT IT READS IS OF BULK AT MOST 1048576: true; the input reads as it did. -/
def streamPlainUptoRow : OpenClaim := { program := "ytomfpffooaejoaadoor", sum := "256efc2f643bb79c526c44b586f9cf4abdd4752ceb21413edc45a5237ca87662", func := "bailee/baileelaw04.StreamPlain", spec := "streamPlain", unfollowed := true, recurses := true, named := ["bailee/stream.quarters"], apart := false, laid := [("bailee/stream.quarters", laid_bailee_stream_quarters)], narrowed := true }
def StreamPlainUptoSaid : Prop := streamPlainUptoRow.holds Tryd.pinned (OpenSpec.upto streamPlainSpec)

/-- 'baileelaw04.StreamLong', WHERE WHAT IT READS IS OF BULK AT MOST 1048576: true; the input reads as it did. -/
def streamLongUptoRow : OpenClaim := { program := "ytomfpffooaejoaadoor", sum := "256efc2f643bb79c526c44b586f9cf4abdd4752ceb21413edc45a5237ca87662", func := "bailee/baileelaw04.StreamLong", spec := "streamLong", unfollowed := true, recurses := true, named := ["bailee/stream.quarters"], apart := false, laid := [("bailee/stream.quarters", laid_bailee_stream_quarters)], narrowed := true }
def StreamLongUptoSaid : Prop := streamLongUptoRow.holds Tryd.pinned (OpenSpec.upto streamLongSpec)

end Rows
end Go.Proofs.YtomfpffooaejoaaDoor
