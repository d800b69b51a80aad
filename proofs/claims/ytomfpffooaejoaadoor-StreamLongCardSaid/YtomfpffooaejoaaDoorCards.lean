/-
  DERIVED. GIVEN WITH THE SEED: THE CARDS: each row of YtomfpffooaejoaaDoorRows.lean that lists a variable, with what it lists TIED to the program's text (the seventh form; the later family's looks); each row that meets fmt, with fmt's text TOLD by the authors' own Lean function (tested against real Go, not proved from fmt's source: count such statements apart). THE CARD IS WHAT COUNTS. Prove the row's statement (the work); the ties are given (YtomfpffooaejoaaDoorTie.lean); close each card by the builder's one call (the guide's Derived/Test/ToyasCard.lean, 'card_holds'). Laid BY PROGRAM, IN A SANDBOX (cutbox-door.mjs). By AI agents, Wed Nov 11 2026. No macro, syntax, notation, axiom, sorry.
-/
import Derived.Test.YtomfpffooaejoaaDoorRows
import GoSem.ClaimSeven
namespace Go.Proofs.YtomfpffooaejoaaDoor
namespace Rows

/-- THE TIED CARD OF 'baileelaw04.StreamParts'. -/
def streamPartsCard : Claim7 := { stood := { row := streamPartsRow, standIns := [], harness := (true, "5cba6e07d543c082d6392e43ae3f1df21d2507d430242429743750eafa8ac4bc"), looks := false }, kinds := [], alts := [], laidByText := true, laidKinds := [.data], laidTests := true, laidLooks := .later }
def StreamPartsCardSaid : Prop := Claim7.holds Tryd.pinned (.plain (OpenSpec.ofChange streamPartsSpec)) streamPartsCard

/-- THE TIED CARD OF 'baileelaw04.StreamOver'. -/
def streamOverCard : Claim7 := { stood := { row := streamOverRow, standIns := [], harness := (true, "5cba6e07d543c082d6392e43ae3f1df21d2507d430242429743750eafa8ac4bc"), looks := false }, kinds := [], alts := [], laidByText := true, laidKinds := [.data], laidTests := true, laidLooks := .later }
def StreamOverCardSaid : Prop := Claim7.holds Tryd.pinned (.plain (OpenSpec.ofChange streamOverSpec)) streamOverCard

/-- THE TIED CARD OF 'baileelaw04.StreamTwice'. -/
def streamTwiceCard : Claim7 := { stood := { row := streamTwiceRow, standIns := [], harness := (true, "5cba6e07d543c082d6392e43ae3f1df21d2507d430242429743750eafa8ac4bc"), looks := false }, kinds := [], alts := [], laidByText := true, laidKinds := [.data], laidTests := true, laidLooks := .later }
def StreamTwiceCardSaid : Prop := Claim7.holds Tryd.pinned (.plain (OpenSpec.ofChange streamTwiceSpec)) streamTwiceCard

/-- THE TIED CARD OF 'baileelaw04.StreamPlain'. -/
def streamPlainCard : Claim7 := { stood := { row := streamPlainRow, standIns := [], harness := (true, "5cba6e07d543c082d6392e43ae3f1df21d2507d430242429743750eafa8ac4bc"), looks := false }, kinds := [], alts := [], laidByText := true, laidKinds := [.data], laidTests := true, laidLooks := .later }
def StreamPlainCardSaid : Prop := Claim7.holds Tryd.pinned (.plain (OpenSpec.ofChange streamPlainSpec)) streamPlainCard

/-- THE TIED CARD OF 'baileelaw04.StreamLong'. -/
def streamLongCard : Claim7 := { stood := { row := streamLongRow, standIns := [], harness := (true, "5cba6e07d543c082d6392e43ae3f1df21d2507d430242429743750eafa8ac4bc"), looks := false }, kinds := [], alts := [], laidByText := true, laidKinds := [.data], laidTests := true, laidLooks := .later }
def StreamLongCardSaid : Prop := Claim7.holds Tryd.pinned (.plain (OpenSpec.ofChange streamLongSpec)) streamLongCard

/-- THE SECOND FORM's CARD OF 'baileelaw04.StreamParts'. -/
def streamPartsUptoCard : Claim7 := { stood := { row := streamPartsUptoRow, standIns := [], harness := (true, "5cba6e07d543c082d6392e43ae3f1df21d2507d430242429743750eafa8ac4bc"), looks := false }, kinds := [], alts := [], laidByText := true, laidKinds := [.data], laidTests := true, laidLooks := .later }
def StreamPartsUptoCardSaid : Prop := Claim7.holds Tryd.pinned (.plain (OpenSpec.upto streamPartsSpec)) streamPartsUptoCard

/-- THE SECOND FORM's CARD OF 'baileelaw04.StreamOver'. -/
def streamOverUptoCard : Claim7 := { stood := { row := streamOverUptoRow, standIns := [], harness := (true, "5cba6e07d543c082d6392e43ae3f1df21d2507d430242429743750eafa8ac4bc"), looks := false }, kinds := [], alts := [], laidByText := true, laidKinds := [.data], laidTests := true, laidLooks := .later }
def StreamOverUptoCardSaid : Prop := Claim7.holds Tryd.pinned (.plain (OpenSpec.upto streamOverSpec)) streamOverUptoCard

/-- THE SECOND FORM's CARD OF 'baileelaw04.StreamTwice'. -/
def streamTwiceUptoCard : Claim7 := { stood := { row := streamTwiceUptoRow, standIns := [], harness := (true, "5cba6e07d543c082d6392e43ae3f1df21d2507d430242429743750eafa8ac4bc"), looks := false }, kinds := [], alts := [], laidByText := true, laidKinds := [.data], laidTests := true, laidLooks := .later }
def StreamTwiceUptoCardSaid : Prop := Claim7.holds Tryd.pinned (.plain (OpenSpec.upto streamTwiceSpec)) streamTwiceUptoCard

/-- THE SECOND FORM's CARD OF 'baileelaw04.StreamPlain'. -/
def streamPlainUptoCard : Claim7 := { stood := { row := streamPlainUptoRow, standIns := [], harness := (true, "5cba6e07d543c082d6392e43ae3f1df21d2507d430242429743750eafa8ac4bc"), looks := false }, kinds := [], alts := [], laidByText := true, laidKinds := [.data], laidTests := true, laidLooks := .later }
def StreamPlainUptoCardSaid : Prop := Claim7.holds Tryd.pinned (.plain (OpenSpec.upto streamPlainSpec)) streamPlainUptoCard

/-- THE SECOND FORM's CARD OF 'baileelaw04.StreamLong'. -/
def streamLongUptoCard : Claim7 := { stood := { row := streamLongUptoRow, standIns := [], harness := (true, "5cba6e07d543c082d6392e43ae3f1df21d2507d430242429743750eafa8ac4bc"), looks := false }, kinds := [], alts := [], laidByText := true, laidKinds := [.data], laidTests := true, laidLooks := .later }
def StreamLongUptoCardSaid : Prop := Claim7.holds Tryd.pinned (.plain (OpenSpec.upto streamLongSpec)) streamLongUptoCard
end Rows
end Go.Proofs.YtomfpffooaejoaaDoor
