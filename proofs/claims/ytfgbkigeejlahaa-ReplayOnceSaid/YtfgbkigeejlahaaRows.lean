/-
  No cell of these rows narrows 'for every input' (looked for: loops, veiled, ifaces, maps, wideKeys, modest, calm, conditions, laid).
  DERIVED. THE GIVEN ROWS OF THIS SEAT. 3 by the template 'for every input the law returns true; each argument reads behind the call as it read before'; 0 by the template 'total and deterministic' (their statements: YtfgbkigeejlahaaTotals.lean).
  GIVEN WITH THE SEED: the statements are not yours to turn. If you find one false, say at which input.
  Laid BY PROGRAM, IN A SANDBOX (cutbox-rows.mjs): the forced cells as the released guide's own fill.sh prints them over the translation fafa2fb2502affb9… (all of the seat's roots in one cut). By AI agents, Wed Nov 11 2026. No macro, syntax, notation, axiom, sorry.
-/
import Derived.Test.YtfgbkigeejlahaaChecked
import GoSem.Claim
import GoSem.ClaimJoined
import GoSem.ClaimMapViews
import Derived.JoinedTies
import Derived.KernelRfl
namespace Go.Proofs.Ytfgbkigeejlahaa
/- THE CELL 'sum', in the pinned program and in every row, IS THE sha256 OF THE DUMP (.gsa) THAT YtfgbkigeejlahaaProg.lean LOADS. Nothing in Lean hashes anything: it is a label: what it is worth is what the hold of that sum in a sandbox is worth. -/
noncomputable def Try.pinned : Pinned := { name := "ytfgbkigeejlahaa", sum := "fafa2fb2502affb97415181839a4162598585443b437ede172dec463401f0fbc", checked := Try.checked }
namespace Rows
def none {H : Type} : Left H := { results := [], args := [] }

/-- 'baileelaw18.ReplayTakes': WHATEVER THE INPUT: true; the input reads as it did. -/
def replayTakesSpec : ChangeSpec := { name := "replayTakes", fn := fun _ => fun
  | [d1, d2] => { results := [.lit (.bool true)], args := [d1, d2] }
  | _ => none }
def replayTakesRow : OpenClaim := { program := "ytfgbkigeejlahaa", sum := "fafa2fb2502affb97415181839a4162598585443b437ede172dec463401f0fbc", func := "bailee/baileelaw18.ReplayTakes", spec := "replayTakes", apart := false }
def ReplayTakesSaid : Prop := replayTakesRow.holds Try.pinned (OpenSpec.ofChange replayTakesSpec)

/-- ITS FALSE NEIGHBOUR: 'it returns false'. Refute it at one input. -/
def replayTakesWrong : ChangeSpec := { name := "replayTakes", fn := fun _ => fun
  | [d1, d2] => { results := [.lit (.bool false)], args := [d1, d2] }
  | _ => none }
def ReplayTakesWrongFalsely : Prop := replayTakesRow.holds Try.pinned (OpenSpec.ofChange replayTakesWrong)

/-- 'baileelaw18.ReplayOnce': WHATEVER THE INPUT: true; the input reads as it did. -/
def replayOnceSpec : ChangeSpec := { name := "replayOnce", fn := fun _ => fun
  | [d] => { results := [.lit (.bool true)], args := [d] }
  | _ => none }
def replayOnceRow : OpenClaim := { program := "ytfgbkigeejlahaa", sum := "fafa2fb2502affb97415181839a4162598585443b437ede172dec463401f0fbc", func := "bailee/baileelaw18.ReplayOnce", spec := "replayOnce", apart := false }
def ReplayOnceSaid : Prop := replayOnceRow.holds Try.pinned (OpenSpec.ofChange replayOnceSpec)

/-- ITS FALSE NEIGHBOUR: 'it returns false'. Refute it at one input. -/
def replayOnceWrong : ChangeSpec := { name := "replayOnce", fn := fun _ => fun
  | [d] => { results := [.lit (.bool false)], args := [d] }
  | _ => none }
def ReplayOnceWrongFalsely : Prop := replayOnceRow.holds Try.pinned (OpenSpec.ofChange replayOnceWrong)

/-- 'baileelaw18.ReplayFar': WHATEVER THE INPUT: true; the input reads as it did. -/
def replayFarSpec : ChangeSpec := { name := "replayFar", fn := fun _ => fun
  | [d1, d2] => { results := [.lit (.bool true)], args := [d1, d2] }
  | _ => none }
def replayFarRow : OpenClaim := { program := "ytfgbkigeejlahaa", sum := "fafa2fb2502affb97415181839a4162598585443b437ede172dec463401f0fbc", func := "bailee/baileelaw18.ReplayFar", spec := "replayFar", apart := false }
def ReplayFarSaid : Prop := replayFarRow.holds Try.pinned (OpenSpec.ofChange replayFarSpec)

/-- ITS FALSE NEIGHBOUR: 'it returns false'. Refute it at one input. -/
def replayFarWrong : ChangeSpec := { name := "replayFar", fn := fun _ => fun
  | [d1, d2] => { results := [.lit (.bool false)], args := [d1, d2] }
  | _ => none }
def ReplayFarWrongFalsely : Prop := replayFarRow.holds Try.pinned (OpenSpec.ofChange replayFarWrong)

/- THE SECOND FORM. 'bulk': how many values and letters a reading holds, each counted each time it is reached (what is shared counts as often as it is met; a slice's spare places count too). A statement '..UptoSaid' is the law's where the arguments, and the package variables that the reading takes, are together of bulk at most 1048576: NARROWER than '..Said'. Prove '..Said' where nothing that the law and all that it calls make is longer than what came in: it says more and counts as full. Else prove '..UptoSaid'. A law counts once. -/
mutual
def uptoBulk {H : Type} : DataW H → Nat
  | .lit (.string bytes) => bytes.length + 1
  | .lit _ => 1
  | .nil => 1
  | .ptr d => uptoBulk d + 1
  | .slice elems spare => uptoBulkAll elems + uptoBulkAll spare + 1
  | .agg parts => uptoBulkAll parts + 1
  | .iface _ d => uptoBulk d + 1
  | .map entries => uptoBulkEntries entries + 1
  | .held _ => 1
def uptoBulkAll {H : Type} : List (DataW H) → Nat
  | [] => 0
  | d :: r => uptoBulk d + uptoBulkAll r
def uptoBulkEntries {H : Type} : List (Lit × DataW H) → Nat
  | [] => 0
  | x :: r => uptoBulkEntry x + uptoBulkEntries r
def uptoBulkEntry {H : Type} : Lit × DataW H → Nat
  | (.string bytes, d) => bytes.length + uptoBulk d + 1
  | (_, d) => uptoBulk d + 1
 end
def uptoSmall : (H : Type) → List (DataW H) → Bool := fun _ ds => decide (uptoBulkAll ds ≤ 1048576)
def OpenSpec.upto (s : _root_.Go.ChangeSpec) : _root_.Go.OpenSpec := { _root_.Go.OpenSpec.ofChange s with cond := some uptoSmall }

/-- 'baileelaw18.ReplayTakes', WHERE WHAT IT READS IS OF BULK AT MOST 1048576: true; the input reads as it did. -/
def replayTakesUptoRow : OpenClaim := { program := "ytfgbkigeejlahaa", sum := "fafa2fb2502affb97415181839a4162598585443b437ede172dec463401f0fbc", func := "bailee/baileelaw18.ReplayTakes", spec := "replayTakes", apart := false, narrowed := true }
def ReplayTakesUptoSaid : Prop := replayTakesUptoRow.holds Try.pinned (OpenSpec.upto replayTakesSpec)

/-- 'baileelaw18.ReplayOnce', WHERE WHAT IT READS IS OF BULK AT MOST 1048576: true; the input reads as it did. -/
def replayOnceUptoRow : OpenClaim := { program := "ytfgbkigeejlahaa", sum := "fafa2fb2502affb97415181839a4162598585443b437ede172dec463401f0fbc", func := "bailee/baileelaw18.ReplayOnce", spec := "replayOnce", apart := false, narrowed := true }
def ReplayOnceUptoSaid : Prop := replayOnceUptoRow.holds Try.pinned (OpenSpec.upto replayOnceSpec)

/-- 'baileelaw18.ReplayFar', WHERE WHAT IT READS IS OF BULK AT MOST 1048576: true; the input reads as it did. -/
def replayFarUptoRow : OpenClaim := { program := "ytfgbkigeejlahaa", sum := "fafa2fb2502affb97415181839a4162598585443b437ede172dec463401f0fbc", func := "bailee/baileelaw18.ReplayFar", spec := "replayFar", apart := false, narrowed := true }
def ReplayFarUptoSaid : Prop := replayFarUptoRow.holds Try.pinned (OpenSpec.upto replayFarSpec)

end Rows
end Go.Proofs.Ytfgbkigeejlahaa
