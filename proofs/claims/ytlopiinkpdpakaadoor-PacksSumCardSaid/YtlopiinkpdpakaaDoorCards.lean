/-
  DERIVED. GIVEN WITH THE SEED: THE CARDS: each row of YtlopiinkpdpakaaDoorRows.lean that lists a variable, with what it lists TIED to the program's text (the seventh form; the later family's looks); each row that meets fmt, with fmt's text TOLD by the authors' own Lean function (tested against real Go, not proved from fmt's source: count such statements apart). THE CARD IS WHAT COUNTS. Prove the row's statement (the work); the ties are given (YtlopiinkpdpakaaDoorTie.lean); close each card by the builder's one call (the guide's Derived/Test/ToyasCard.lean, 'card_holds'). Laid BY PROGRAM, IN A SANDBOX (cutbox-door.mjs). By AI agents, Wed Nov 11 2026. No macro, syntax, notation, axiom, sorry.
-/
import Derived.Test.YtlopiinkpdpakaaDoorRows
import GoSem.ClaimSeven
namespace Go.Proofs.YtlopiinkpdpakaaDoor
namespace Rows

/-- THE TIED CARD OF 'baileelaw13.PacksPuts'. -/
def packsPutsCard : Claim7 := { stood := { row := packsPutsRow, standIns := [], harness := (true, "022870ee4479cd5c147c8cef1abaca65fd51ff21dc3508e8be28b32aebbb3952"), looks := false }, kinds := [], alts := [], laidByText := true, laidKinds := [.data], laidTests := true, laidLooks := .later }
def PacksPutsCardSaid : Prop := Claim7.holds Tryd.pinned (.plain (OpenSpec.ofChange packsPutsSpec)) packsPutsCard

/-- THE TIED CARD OF 'baileelaw13.PacksSum'. -/
def packsSumCard : Claim7 := { stood := { row := packsSumRow, standIns := [], harness := (true, "022870ee4479cd5c147c8cef1abaca65fd51ff21dc3508e8be28b32aebbb3952"), looks := false }, kinds := [], alts := [], laidByText := true, laidKinds := [.data], laidTests := true, laidLooks := .later }
def PacksSumCardSaid : Prop := Claim7.holds Tryd.pinned (.plain (OpenSpec.ofChange packsSumSpec)) packsSumCard

/-- THE SECOND FORM's CARD OF 'baileelaw13.PacksPuts'. -/
def packsPutsUptoCard : Claim7 := { stood := { row := packsPutsUptoRow, standIns := [], harness := (true, "022870ee4479cd5c147c8cef1abaca65fd51ff21dc3508e8be28b32aebbb3952"), looks := false }, kinds := [], alts := [], laidByText := true, laidKinds := [.data], laidTests := true, laidLooks := .later }
def PacksPutsUptoCardSaid : Prop := Claim7.holds Tryd.pinned (.plain (OpenSpec.upto packsPutsSpec)) packsPutsUptoCard

/-- THE SECOND FORM's CARD OF 'baileelaw13.PacksSum'. -/
def packsSumUptoCard : Claim7 := { stood := { row := packsSumUptoRow, standIns := [], harness := (true, "022870ee4479cd5c147c8cef1abaca65fd51ff21dc3508e8be28b32aebbb3952"), looks := false }, kinds := [], alts := [], laidByText := true, laidKinds := [.data], laidTests := true, laidLooks := .later }
def PacksSumUptoCardSaid : Prop := Claim7.holds Tryd.pinned (.plain (OpenSpec.upto packsSumSpec)) packsSumUptoCard
end Rows
end Go.Proofs.YtlopiinkpdpakaaDoor
