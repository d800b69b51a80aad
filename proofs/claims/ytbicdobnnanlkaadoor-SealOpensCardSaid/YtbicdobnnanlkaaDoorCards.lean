/-
  DERIVED. GIVEN WITH THE SEED: THE CARDS: each row of YtbicdobnnanlkaaDoorRows.lean that lists a variable, with what it lists TIED to the program's text (the seventh form; the later family's looks); each row that meets fmt, with fmt's text TOLD by the authors' own Lean function (tested against real Go, not proved from fmt's source: count such statements apart). THE CARD IS WHAT COUNTS. Prove the row's statement (the work); the ties are given (YtbicdobnnanlkaaDoorTie.lean); close each card by the builder's one call (the guide's Derived/Test/ToyasCard.lean, 'card_holds'). Laid BY PROGRAM, IN A SANDBOX (cutbox-door.mjs). By AI agents, Wed Nov 11 2026. No macro, syntax, notation, axiom, sorry.
-/
import Derived.Test.YtbicdobnnanlkaaDoorRows
import GoSem.ClaimSeven
namespace Go.Proofs.YtbicdobnnanlkaaDoor
namespace Rows

/-- THE TIED CARD OF 'baileelaw05.SealMakes'. -/
def sealMakesCard : Claim7 := { stood := { row := sealMakesRow, standIns := [], harness := (true, "b8a8f2f394a6c67186e2006a5d07628e84e68477c70186365fb271e2fa984c28"), looks := false }, kinds := [], alts := [], laidByText := true, laidKinds := [.data, .data], laidTests := true, laidLooks := .later }
def SealMakesCardSaid : Prop := Claim7.holds Tryd.pinned (.plain (OpenSpec.ofChange sealMakesSpec)) sealMakesCard

/-- THE TIED CARD OF 'baileelaw05.SealOpens'. -/
def sealOpensCard : Claim7 := { stood := { row := sealOpensRow, standIns := [], harness := (true, "b8a8f2f394a6c67186e2006a5d07628e84e68477c70186365fb271e2fa984c28"), looks := false }, kinds := [], alts := [], laidByText := true, laidKinds := [.data, .data], laidTests := true, laidLooks := .later }
def SealOpensCardSaid : Prop := Claim7.holds Tryd.pinned (.plain (OpenSpec.ofChange sealOpensSpec)) sealOpensCard

/-- THE TIED CARD OF 'baileelaw05.SealRaw'. -/
def sealRawCard : Claim7 := { stood := { row := sealRawRow, standIns := [], harness := (true, "b8a8f2f394a6c67186e2006a5d07628e84e68477c70186365fb271e2fa984c28"), looks := false }, kinds := [], alts := [], laidByText := true, laidKinds := [.data, .data], laidTests := true, laidLooks := .later }
def SealRawCardSaid : Prop := Claim7.holds Tryd.pinned (.plain (OpenSpec.ofChange sealRawSpec)) sealRawCard

/-- THE TIED CARD OF 'baileelaw05.SealHides'. -/
def sealHidesCard : Claim7 := { stood := { row := sealHidesRow, standIns := [], harness := (true, "b8a8f2f394a6c67186e2006a5d07628e84e68477c70186365fb271e2fa984c28"), looks := false }, kinds := [], alts := [], laidByText := true, laidKinds := [.data, .data], laidTests := true, laidLooks := .later }
def SealHidesCardSaid : Prop := Claim7.holds Tryd.pinned (.plain (OpenSpec.ofChange sealHidesSpec)) sealHidesCard

/-- THE TIED CARD OF 'baileelaw05.SealNames'. -/
def sealNamesCard : Claim7 := { stood := { row := sealNamesRow, standIns := [], harness := (true, "b8a8f2f394a6c67186e2006a5d07628e84e68477c70186365fb271e2fa984c28"), looks := false }, kinds := [], alts := [], laidByText := true, laidKinds := [.data, .data], laidTests := true, laidLooks := .later }
def SealNamesCardSaid : Prop := Claim7.holds Tryd.pinned (.plain (OpenSpec.ofChange sealNamesSpec)) sealNamesCard

/-- THE SECOND FORM's CARD OF 'baileelaw05.SealMakes'. -/
def sealMakesUptoCard : Claim7 := { stood := { row := sealMakesUptoRow, standIns := [], harness := (true, "b8a8f2f394a6c67186e2006a5d07628e84e68477c70186365fb271e2fa984c28"), looks := false }, kinds := [], alts := [], laidByText := true, laidKinds := [.data, .data], laidTests := true, laidLooks := .later }
def SealMakesUptoCardSaid : Prop := Claim7.holds Tryd.pinned (.plain (OpenSpec.upto sealMakesSpec)) sealMakesUptoCard

/-- THE SECOND FORM's CARD OF 'baileelaw05.SealOpens'. -/
def sealOpensUptoCard : Claim7 := { stood := { row := sealOpensUptoRow, standIns := [], harness := (true, "b8a8f2f394a6c67186e2006a5d07628e84e68477c70186365fb271e2fa984c28"), looks := false }, kinds := [], alts := [], laidByText := true, laidKinds := [.data, .data], laidTests := true, laidLooks := .later }
def SealOpensUptoCardSaid : Prop := Claim7.holds Tryd.pinned (.plain (OpenSpec.upto sealOpensSpec)) sealOpensUptoCard

/-- THE SECOND FORM's CARD OF 'baileelaw05.SealRaw'. -/
def sealRawUptoCard : Claim7 := { stood := { row := sealRawUptoRow, standIns := [], harness := (true, "b8a8f2f394a6c67186e2006a5d07628e84e68477c70186365fb271e2fa984c28"), looks := false }, kinds := [], alts := [], laidByText := true, laidKinds := [.data, .data], laidTests := true, laidLooks := .later }
def SealRawUptoCardSaid : Prop := Claim7.holds Tryd.pinned (.plain (OpenSpec.upto sealRawSpec)) sealRawUptoCard

/-- THE SECOND FORM's CARD OF 'baileelaw05.SealHides'. -/
def sealHidesUptoCard : Claim7 := { stood := { row := sealHidesUptoRow, standIns := [], harness := (true, "b8a8f2f394a6c67186e2006a5d07628e84e68477c70186365fb271e2fa984c28"), looks := false }, kinds := [], alts := [], laidByText := true, laidKinds := [.data, .data], laidTests := true, laidLooks := .later }
def SealHidesUptoCardSaid : Prop := Claim7.holds Tryd.pinned (.plain (OpenSpec.upto sealHidesSpec)) sealHidesUptoCard

/-- THE SECOND FORM's CARD OF 'baileelaw05.SealNames'. -/
def sealNamesUptoCard : Claim7 := { stood := { row := sealNamesUptoRow, standIns := [], harness := (true, "b8a8f2f394a6c67186e2006a5d07628e84e68477c70186365fb271e2fa984c28"), looks := false }, kinds := [], alts := [], laidByText := true, laidKinds := [.data, .data], laidTests := true, laidLooks := .later }
def SealNamesUptoCardSaid : Prop := Claim7.holds Tryd.pinned (.plain (OpenSpec.upto sealNamesSpec)) sealNamesUptoCard
end Rows
end Go.Proofs.YtbicdobnnanlkaaDoor
