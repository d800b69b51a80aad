/-
  DERIVED. GIVEN WITH THE SEED: THE CARDS: each row of YtlkhbfafednegaaDoorRows.lean that lists a variable, with what it lists TIED to the program's text (the seventh form; the later family's looks); each row that meets fmt, with fmt's text TOLD by the authors' own Lean function (tested against real Go, not proved from fmt's source: count such statements apart). THE CARD IS WHAT COUNTS. Prove the row's statement (the work); the ties are given (YtlkhbfafednegaaDoorTie.lean); close each card by the builder's one call (the guide's Derived/Test/ToyasCard.lean, 'card_holds'). Laid BY PROGRAM, IN A SANDBOX (cutbox-door.mjs). By AI agents, Wed Nov 11 2026. No macro, syntax, notation, axiom, sorry.
-/
import Derived.Test.YtlkhbfafednegaaDoorRows
import GoSem.ClaimSeven
namespace Go.Proofs.YtlkhbfafednegaaDoor
namespace Rows

/-- THE TIED CARD OF 'baileelaw19.SessionSpoiled'. -/
def sessionSpoiledCard : Claim7 := { stood := { row := sessionSpoiledRow, standIns := [], harness := (true, "c5cdf8a4e755be9acd8fa037b60676133dcde44dfdf378b0386175cb26824ced"), looks := false }, kinds := [], alts := [], laidByText := true, laidKinds := [.data], laidTests := true, laidLooks := .later }
def SessionSpoiledCardSaid : Prop := Claim7.holds Tryd.pinned (.plain (OpenSpec.ofChange sessionSpoiledSpec)) sessionSpoiledCard

/-- THE TIED CARD OF 'baileelaw19.SessionOrder'. -/
def sessionOrderCard : Claim7 := { stood := { row := sessionOrderRow, standIns := [], harness := (true, "c5cdf8a4e755be9acd8fa037b60676133dcde44dfdf378b0386175cb26824ced"), looks := false }, kinds := [], alts := [], laidByText := true, laidKinds := [.data], laidTests := true, laidLooks := .later }
def SessionOrderCardSaid : Prop := Claim7.holds Tryd.pinned (.plain (OpenSpec.ofChange sessionOrderSpec)) sessionOrderCard

/-- THE TIED CARD OF 'baileelaw19.SessionPlays'. -/
def sessionPlaysCard : Claim7 := { stood := { row := sessionPlaysRow, standIns := [], harness := (true, "c5cdf8a4e755be9acd8fa037b60676133dcde44dfdf378b0386175cb26824ced"), looks := false }, kinds := [], alts := [], laidByText := true, laidKinds := [.data], laidTests := true, laidLooks := .later }
def SessionPlaysCardSaid : Prop := Claim7.holds Tryd.pinned (.plain (OpenSpec.ofChange sessionPlaysSpec)) sessionPlaysCard

/-- THE TIED CARD OF 'baileelaw19.SessionNone'. -/
def sessionNoneCard : Claim7 := { stood := { row := sessionNoneRow, standIns := [], harness := (true, "c5cdf8a4e755be9acd8fa037b60676133dcde44dfdf378b0386175cb26824ced"), looks := false }, kinds := [], alts := [], laidByText := true, laidKinds := [.data], laidTests := true, laidLooks := .later }
def SessionNoneCardSaid : Prop := Claim7.holds Tryd.pinned (.plain (OpenSpec.ofChange sessionNoneSpec)) sessionNoneCard

/-- THE SECOND FORM's CARD OF 'baileelaw19.SessionSpoiled'. -/
def sessionSpoiledUptoCard : Claim7 := { stood := { row := sessionSpoiledUptoRow, standIns := [], harness := (true, "c5cdf8a4e755be9acd8fa037b60676133dcde44dfdf378b0386175cb26824ced"), looks := false }, kinds := [], alts := [], laidByText := true, laidKinds := [.data], laidTests := true, laidLooks := .later }
def SessionSpoiledUptoCardSaid : Prop := Claim7.holds Tryd.pinned (.plain (OpenSpec.upto sessionSpoiledSpec)) sessionSpoiledUptoCard

/-- THE SECOND FORM's CARD OF 'baileelaw19.SessionOrder'. -/
def sessionOrderUptoCard : Claim7 := { stood := { row := sessionOrderUptoRow, standIns := [], harness := (true, "c5cdf8a4e755be9acd8fa037b60676133dcde44dfdf378b0386175cb26824ced"), looks := false }, kinds := [], alts := [], laidByText := true, laidKinds := [.data], laidTests := true, laidLooks := .later }
def SessionOrderUptoCardSaid : Prop := Claim7.holds Tryd.pinned (.plain (OpenSpec.upto sessionOrderSpec)) sessionOrderUptoCard

/-- THE SECOND FORM's CARD OF 'baileelaw19.SessionPlays'. -/
def sessionPlaysUptoCard : Claim7 := { stood := { row := sessionPlaysUptoRow, standIns := [], harness := (true, "c5cdf8a4e755be9acd8fa037b60676133dcde44dfdf378b0386175cb26824ced"), looks := false }, kinds := [], alts := [], laidByText := true, laidKinds := [.data], laidTests := true, laidLooks := .later }
def SessionPlaysUptoCardSaid : Prop := Claim7.holds Tryd.pinned (.plain (OpenSpec.upto sessionPlaysSpec)) sessionPlaysUptoCard

/-- THE SECOND FORM's CARD OF 'baileelaw19.SessionNone'. -/
def sessionNoneUptoCard : Claim7 := { stood := { row := sessionNoneUptoRow, standIns := [], harness := (true, "c5cdf8a4e755be9acd8fa037b60676133dcde44dfdf378b0386175cb26824ced"), looks := false }, kinds := [], alts := [], laidByText := true, laidKinds := [.data], laidTests := true, laidLooks := .later }
def SessionNoneUptoCardSaid : Prop := Claim7.holds Tryd.pinned (.plain (OpenSpec.upto sessionNoneSpec)) sessionNoneUptoCard
end Rows
end Go.Proofs.YtlkhbfafednegaaDoor
