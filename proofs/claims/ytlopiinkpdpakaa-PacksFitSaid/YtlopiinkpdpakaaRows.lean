/-
  No cell of these rows narrows 'for every input' (looked for: loops, veiled, ifaces, maps, wideKeys, modest, calm, conditions, laid).
  DERIVED. THE GIVEN ROWS OF THIS SEAT. 3 by the template 'for every input the law returns true; each argument reads behind the call as it read before'; 0 by the template 'total and deterministic' (their statements: YtlopiinkpdpakaaTotals.lean).
  GIVEN WITH THE SEED: the statements are not yours to turn. If you find one false, say at which input.
  Laid BY PROGRAM, IN A SANDBOX (cutbox-rows.mjs): the forced cells as the released guide's own fill.sh prints them over the translation d1ee117c34928cf9… (all of the seat's roots in one cut). By AI agents, Wed Nov 11 2026. No macro, syntax, notation, axiom, sorry.
-/
import Derived.Test.YtlopiinkpdpakaaChecked
import GoSem.Claim
import GoSem.ClaimJoined
import GoSem.ClaimMapViews
import Derived.JoinedTies
import Derived.KernelRfl
namespace Go.Proofs.Ytlopiinkpdpakaa
/- THE CELL 'sum', in the pinned program and in every row, IS THE sha256 OF THE DUMP (.gsa) THAT YtlopiinkpdpakaaProg.lean LOADS. Nothing in Lean hashes anything: it is a label: what it is worth is what the hold of that sum in a sandbox is worth. -/
noncomputable def Try.pinned : Pinned := { name := "ytlopiinkpdpakaa", sum := "d1ee117c34928cf92ba7cd66a3b40bf3dd0a1bee3341d2fad725217fe64fede9", checked := Try.checked }
namespace Rows
def none {H : Type} : Left H := { results := [], args := [] }

/-- 'baileelaw13.PacksGets': WHATEVER THE INPUT: true; the input reads as it did. -/
def packsGetsSpec : ChangeSpec := { name := "packsGets", fn := fun _ => fun
  | [d] => { results := [.lit (.bool true)], args := [d] }
  | _ => none }
def packsGetsRow : OpenClaim := { program := "ytlopiinkpdpakaa", sum := "d1ee117c34928cf92ba7cd66a3b40bf3dd0a1bee3341d2fad725217fe64fede9", func := "bailee/baileelaw13.PacksGets", spec := "packsGets", unfollowed := true, recurses := true, apart := false }
def PacksGetsSaid : Prop := packsGetsRow.holds Try.pinned (OpenSpec.ofChange packsGetsSpec)

/-- ITS FALSE NEIGHBOUR: 'it returns false'. Refute it at one input. -/
def packsGetsWrong : ChangeSpec := { name := "packsGets", fn := fun _ => fun
  | [d] => { results := [.lit (.bool false)], args := [d] }
  | _ => none }
def PacksGetsWrongFalsely : Prop := packsGetsRow.holds Try.pinned (OpenSpec.ofChange packsGetsWrong)

/-- 'baileelaw13.PacksFills': WHATEVER THE INPUT: true; the input reads as it did. -/
def packsFillsSpec : ChangeSpec := { name := "packsFills", fn := fun _ => fun
  | [d1, d2] => { results := [.lit (.bool true)], args := [d1, d2] }
  | _ => none }
def packsFillsRow : OpenClaim := { program := "ytlopiinkpdpakaa", sum := "d1ee117c34928cf92ba7cd66a3b40bf3dd0a1bee3341d2fad725217fe64fede9", func := "bailee/baileelaw13.PacksFills", spec := "packsFills", unfollowed := true, recurses := true, apart := false }
def PacksFillsSaid : Prop := packsFillsRow.holds Try.pinned (OpenSpec.ofChange packsFillsSpec)

/-- ITS FALSE NEIGHBOUR: 'it returns false'. Refute it at one input. -/
def packsFillsWrong : ChangeSpec := { name := "packsFills", fn := fun _ => fun
  | [d1, d2] => { results := [.lit (.bool false)], args := [d1, d2] }
  | _ => none }
def PacksFillsWrongFalsely : Prop := packsFillsRow.holds Try.pinned (OpenSpec.ofChange packsFillsWrong)

/-- 'baileelaw13.PacksFit': WHATEVER THE INPUT: true; the input reads as it did. -/
def packsFitSpec : ChangeSpec := { name := "packsFit", fn := fun _ => fun
  | [d1, d2] => { results := [.lit (.bool true)], args := [d1, d2] }
  | _ => none }
def packsFitRow : OpenClaim := { program := "ytlopiinkpdpakaa", sum := "d1ee117c34928cf92ba7cd66a3b40bf3dd0a1bee3341d2fad725217fe64fede9", func := "bailee/baileelaw13.PacksFit", spec := "packsFit", unfollowed := true, recurses := true, apart := false }
def PacksFitSaid : Prop := packsFitRow.holds Try.pinned (OpenSpec.ofChange packsFitSpec)

/-- ITS FALSE NEIGHBOUR: 'it returns false'. Refute it at one input. -/
def packsFitWrong : ChangeSpec := { name := "packsFit", fn := fun _ => fun
  | [d1, d2] => { results := [.lit (.bool false)], args := [d1, d2] }
  | _ => none }
def PacksFitWrongFalsely : Prop := packsFitRow.holds Try.pinned (OpenSpec.ofChange packsFitWrong)

/- THE SECOND FORM. 'bulk': how many values and letters a reading holds, each counted each time it is reached (what is shared counts as often as it is met; a slice's spare places count too). A statement '..UptoSaid' is the law's where the arguments, and the package variables that the reading takes, are together of bulk at most 1048576: NARROWER than '..Said'. Prove '..Said' where nothing that the law and all that it calls make is longer than what came in: it says more and counts as full. Else prove '..UptoSaid'. A law counts once. -/
mutual
def uptoBulk {H : Type} : DataW H → Nat
  | .lit (.string bytes) => bytes.length + 1
  | .lit _ => 1
  | .nil => 1
  | .ptr d => uptoBulk d + 1
  | .slice elems spare => uptoBulkAll elems + uptoBulkAll spare + 1
  | .agg parts => uptoBulkAll parts + 1
  | .iface _ d => uptoBulk d + 1
  | .map entries => uptoBulkEntries entries + 1
  | .held _ => 1
def uptoBulkAll {H : Type} : List (DataW H) → Nat
  | [] => 0
  | d :: r => uptoBulk d + uptoBulkAll r
def uptoBulkEntries {H : Type} : List (Lit × DataW H) → Nat
  | [] => 0
  | x :: r => uptoBulkEntry x + uptoBulkEntries r
def uptoBulkEntry {H : Type} : Lit × DataW H → Nat
  | (.string bytes, d) => bytes.length + uptoBulk d + 1
  | (_, d) => uptoBulk d + 1
 end
def uptoSmall : (H : Type) → List (DataW H) → Bool := fun _ ds => decide (uptoBulkAll ds ≤ 1048576)
def OpenSpec.upto (s : _root_.Go.ChangeSpec) : _root_.Go.OpenSpec := { _root_.Go.OpenSpec.ofChange s with cond := some uptoSmall }

/-- 'baileelaw13.PacksGets', WHERE WHAT IT READS IS OF BULK AT MOST 1048576: true; the input reads as it did. -/
def packsGetsUptoRow : OpenClaim := { program := "ytlopiinkpdpakaa", sum := "d1ee117c34928cf92ba7cd66a3b40bf3dd0a1bee3341d2fad725217fe64fede9", func := "bailee/baileelaw13.PacksGets", spec := "packsGets", unfollowed := true, recurses := true, apart := false, narrowed := true }
def PacksGetsUptoSaid : Prop := packsGetsUptoRow.holds Try.pinned (OpenSpec.upto packsGetsSpec)

/-- 'baileelaw13.PacksFills', WHERE WHAT IT READS IS OF BULK AT MOST 1048576: true; the input reads as it did. -/
def packsFillsUptoRow : OpenClaim := { program := "ytlopiinkpdpakaa", sum := "d1ee117c34928cf92ba7cd66a3b40bf3dd0a1bee3341d2fad725217fe64fede9", func := "bailee/baileelaw13.PacksFills", spec := "packsFills", unfollowed := true, recurses := true, apart := false, narrowed := true }
def PacksFillsUptoSaid : Prop := packsFillsUptoRow.holds Try.pinned (OpenSpec.upto packsFillsSpec)

/-- 'baileelaw13.PacksFit', WHERE WHAT IT READS IS OF BULK AT MOST 1048576: true; the input reads as it did. -/
def packsFitUptoRow : OpenClaim := { program := "ytlopiinkpdpakaa", sum := "d1ee117c34928cf92ba7cd66a3b40bf3dd0a1bee3341d2fad725217fe64fede9", func := "bailee/baileelaw13.PacksFit", spec := "packsFit", unfollowed := true, recurses := true, apart := false, narrowed := true }
def PacksFitUptoSaid : Prop := packsFitUptoRow.holds Try.pinned (OpenSpec.upto packsFitSpec)

end Rows
end Go.Proofs.Ytlopiinkpdpakaa
