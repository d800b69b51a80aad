/-
  DERIVED. GIVEN WITH THE SEED: THE CARDS: each row of YtjgleonbkipidaaDoorRows.lean that lists a variable, with what it lists TIED to the program's text (the seventh form; the later family's looks); each row that meets fmt, with fmt's text TOLD by the authors' own Lean function (tested against real Go, not proved from fmt's source: count such statements apart). THE CARD IS WHAT COUNTS. Prove the row's statement (the work); the ties are given (YtjgleonbkipidaaDoorTie.lean); close each card by the builder's one call (the guide's Derived/Test/ToyasCard.lean, 'card_holds'). Laid BY PROGRAM, IN A SANDBOX (cutbox-door.mjs). By AI agents, Wed Nov 11 2026. No macro, syntax, notation, axiom, sorry.
-/
import Derived.Test.YtjgleonbkipidaaDoorRows
import GoSem.ClaimSeven
namespace Go.Proofs.YtjgleonbkipidaaDoor
namespace Rows

/-- THE TIED CARD OF 'baileelaw02.DigestOf'. -/
def digestOfCard : Claim7 := { stood := { row := digestOfRow, standIns := [], harness := (true, "b6fbfa28285ceafefd8d884e40c9c23082846a2fb9e97df0c8d2b9c0715e57a3"), looks := false }, kinds := [], alts := [], laidByText := true, laidKinds := [.data], laidTests := true, laidLooks := .later }
def DigestOfCardSaid : Prop := Claim7.holds Tryd.pinned (.plain (OpenSpec.ofChange digestOfSpec)) digestOfCard

/-- THE TIED CARD OF 'baileelaw02.DigestCuts'. -/
def digestCutsCard : Claim7 := { stood := { row := digestCutsRow, standIns := [], harness := (true, "b6fbfa28285ceafefd8d884e40c9c23082846a2fb9e97df0c8d2b9c0715e57a3"), looks := false }, kinds := [], alts := [], laidByText := true, laidKinds := [.data], laidTests := true, laidLooks := .later }
def DigestCutsCardSaid : Prop := Claim7.holds Tryd.pinned (.plain (OpenSpec.ofChange digestCutsSpec)) digestCutsCard

/-- THE TIED CARD OF 'baileelaw02.DigestTwo'. -/
def digestTwoCard : Claim7 := { stood := { row := digestTwoRow, standIns := [], harness := (true, "b6fbfa28285ceafefd8d884e40c9c23082846a2fb9e97df0c8d2b9c0715e57a3"), looks := false }, kinds := [], alts := [], laidByText := true, laidKinds := [.data], laidTests := true, laidLooks := .later }
def DigestTwoCardSaid : Prop := Claim7.holds Tryd.pinned (.plain (OpenSpec.ofChange digestTwoSpec)) digestTwoCard

/-- THE TIED CARD OF 'baileelaw02.DigestNoughts'. -/
def digestNoughtsCard : Claim7 := { stood := { row := digestNoughtsRow, standIns := [], harness := (true, "b6fbfa28285ceafefd8d884e40c9c23082846a2fb9e97df0c8d2b9c0715e57a3"), looks := false }, kinds := [], alts := [], laidByText := true, laidKinds := [.data], laidTests := true, laidLooks := .later }
def DigestNoughtsCardSaid : Prop := Claim7.holds Tryd.pinned (.plain (OpenSpec.ofChange digestNoughtsSpec)) digestNoughtsCard

/-- THE TIED CARD OF 'baileelaw02.DigestLong'. -/
def digestLongCard : Claim7 := { stood := { row := digestLongRow, standIns := [], harness := (true, "b6fbfa28285ceafefd8d884e40c9c23082846a2fb9e97df0c8d2b9c0715e57a3"), looks := false }, kinds := [], alts := [], laidByText := true, laidKinds := [.data], laidTests := true, laidLooks := .later }
def DigestLongCardSaid : Prop := Claim7.holds Tryd.pinned (.plain (OpenSpec.ofChange digestLongSpec)) digestLongCard

/-- THE TIED CARD OF 'baileelaw02.DigestBits'. -/
def digestBitsCard : Claim7 := { stood := { row := digestBitsRow, standIns := [], harness := (true, "b6fbfa28285ceafefd8d884e40c9c23082846a2fb9e97df0c8d2b9c0715e57a3"), looks := false }, kinds := [], alts := [], laidByText := true, laidKinds := [.data], laidTests := true, laidLooks := .later }
def DigestBitsCardSaid : Prop := Claim7.holds Tryd.pinned (.plain (OpenSpec.ofChange digestBitsSpec)) digestBitsCard

/-- THE TIED CARD OF 'baileelaw03.MacOf'. -/
def macOfCard : Claim7 := { stood := { row := macOfRow, standIns := [], harness := (true, "b6fbfa28285ceafefd8d884e40c9c23082846a2fb9e97df0c8d2b9c0715e57a3"), looks := false }, kinds := [], alts := [], laidByText := true, laidKinds := [.data], laidTests := true, laidLooks := .later }
def MacOfCardSaid : Prop := Claim7.holds Tryd.pinned (.plain (OpenSpec.ofChange macOfSpec)) macOfCard

/-- THE TIED CARD OF 'baileelaw03.MacDerive'. -/
def macDeriveCard : Claim7 := { stood := { row := macDeriveRow, standIns := [], harness := (true, "b6fbfa28285ceafefd8d884e40c9c23082846a2fb9e97df0c8d2b9c0715e57a3"), looks := false }, kinds := [], alts := [], laidByText := true, laidKinds := [.data], laidTests := true, laidLooks := .later }
def MacDeriveCardSaid : Prop := Claim7.holds Tryd.pinned (.plain (OpenSpec.ofChange macDeriveSpec)) macDeriveCard

/-- THE TIED CARD OF 'baileelaw03.MacSame'. -/
def macSameCard : Claim7 := { stood := { row := macSameRow, standIns := [], harness := (true, "b6fbfa28285ceafefd8d884e40c9c23082846a2fb9e97df0c8d2b9c0715e57a3"), looks := false }, kinds := [], alts := [], laidByText := true, laidKinds := [.data], laidTests := true, laidLooks := .later }
def MacSameCardSaid : Prop := Claim7.holds Tryd.pinned (.plain (OpenSpec.ofChange macSameSpec)) macSameCard

/-- THE TIED CARD OF 'baileelaw03.MacCuts'. -/
def macCutsCard : Claim7 := { stood := { row := macCutsRow, standIns := [], harness := (true, "b6fbfa28285ceafefd8d884e40c9c23082846a2fb9e97df0c8d2b9c0715e57a3"), looks := false }, kinds := [], alts := [], laidByText := true, laidKinds := [.data], laidTests := true, laidLooks := .later }
def MacCutsCardSaid : Prop := Claim7.holds Tryd.pinned (.plain (OpenSpec.ofChange macCutsSpec)) macCutsCard

/-- THE TIED CARD OF 'baileelaw03.MacKeys'. -/
def macKeysCard : Claim7 := { stood := { row := macKeysRow, standIns := [], harness := (true, "b6fbfa28285ceafefd8d884e40c9c23082846a2fb9e97df0c8d2b9c0715e57a3"), looks := false }, kinds := [], alts := [], laidByText := true, laidKinds := [.data], laidTests := true, laidLooks := .later }
def MacKeysCardSaid : Prop := Claim7.holds Tryd.pinned (.plain (OpenSpec.ofChange macKeysSpec)) macKeysCard

/-- THE SECOND FORM's CARD OF 'baileelaw02.DigestOf'. -/
def digestOfUptoCard : Claim7 := { stood := { row := digestOfUptoRow, standIns := [], harness := (true, "b6fbfa28285ceafefd8d884e40c9c23082846a2fb9e97df0c8d2b9c0715e57a3"), looks := false }, kinds := [], alts := [], laidByText := true, laidKinds := [.data], laidTests := true, laidLooks := .later }
def DigestOfUptoCardSaid : Prop := Claim7.holds Tryd.pinned (.plain (OpenSpec.upto digestOfSpec)) digestOfUptoCard

/-- THE SECOND FORM's CARD OF 'baileelaw02.DigestCuts'. -/
def digestCutsUptoCard : Claim7 := { stood := { row := digestCutsUptoRow, standIns := [], harness := (true, "b6fbfa28285ceafefd8d884e40c9c23082846a2fb9e97df0c8d2b9c0715e57a3"), looks := false }, kinds := [], alts := [], laidByText := true, laidKinds := [.data], laidTests := true, laidLooks := .later }
def DigestCutsUptoCardSaid : Prop := Claim7.holds Tryd.pinned (.plain (OpenSpec.upto digestCutsSpec)) digestCutsUptoCard

/-- THE SECOND FORM's CARD OF 'baileelaw02.DigestTwo'. -/
def digestTwoUptoCard : Claim7 := { stood := { row := digestTwoUptoRow, standIns := [], harness := (true, "b6fbfa28285ceafefd8d884e40c9c23082846a2fb9e97df0c8d2b9c0715e57a3"), looks := false }, kinds := [], alts := [], laidByText := true, laidKinds := [.data], laidTests := true, laidLooks := .later }
def DigestTwoUptoCardSaid : Prop := Claim7.holds Tryd.pinned (.plain (OpenSpec.upto digestTwoSpec)) digestTwoUptoCard

/-- THE SECOND FORM's CARD OF 'baileelaw02.DigestNoughts'. -/
def digestNoughtsUptoCard : Claim7 := { stood := { row := digestNoughtsUptoRow, standIns := [], harness := (true, "b6fbfa28285ceafefd8d884e40c9c23082846a2fb9e97df0c8d2b9c0715e57a3"), looks := false }, kinds := [], alts := [], laidByText := true, laidKinds := [.data], laidTests := true, laidLooks := .later }
def DigestNoughtsUptoCardSaid : Prop := Claim7.holds Tryd.pinned (.plain (OpenSpec.upto digestNoughtsSpec)) digestNoughtsUptoCard

/-- THE SECOND FORM's CARD OF 'baileelaw02.DigestLong'. -/
def digestLongUptoCard : Claim7 := { stood := { row := digestLongUptoRow, standIns := [], harness := (true, "b6fbfa28285ceafefd8d884e40c9c23082846a2fb9e97df0c8d2b9c0715e57a3"), looks := false }, kinds := [], alts := [], laidByText := true, laidKinds := [.data], laidTests := true, laidLooks := .later }
def DigestLongUptoCardSaid : Prop := Claim7.holds Tryd.pinned (.plain (OpenSpec.upto digestLongSpec)) digestLongUptoCard

/-- THE SECOND FORM's CARD OF 'baileelaw02.DigestBits'. -/
def digestBitsUptoCard : Claim7 := { stood := { row := digestBitsUptoRow, standIns := [], harness := (true, "b6fbfa28285ceafefd8d884e40c9c23082846a2fb9e97df0c8d2b9c0715e57a3"), looks := false }, kinds := [], alts := [], laidByText := true, laidKinds := [.data], laidTests := true, laidLooks := .later }
def DigestBitsUptoCardSaid : Prop := Claim7.holds Tryd.pinned (.plain (OpenSpec.upto digestBitsSpec)) digestBitsUptoCard

/-- THE SECOND FORM's CARD OF 'baileelaw03.MacOf'. -/
def macOfUptoCard : Claim7 := { stood := { row := macOfUptoRow, standIns := [], harness := (true, "b6fbfa28285ceafefd8d884e40c9c23082846a2fb9e97df0c8d2b9c0715e57a3"), looks := false }, kinds := [], alts := [], laidByText := true, laidKinds := [.data], laidTests := true, laidLooks := .later }
def MacOfUptoCardSaid : Prop := Claim7.holds Tryd.pinned (.plain (OpenSpec.upto macOfSpec)) macOfUptoCard

/-- THE SECOND FORM's CARD OF 'baileelaw03.MacDerive'. -/
def macDeriveUptoCard : Claim7 := { stood := { row := macDeriveUptoRow, standIns := [], harness := (true, "b6fbfa28285ceafefd8d884e40c9c23082846a2fb9e97df0c8d2b9c0715e57a3"), looks := false }, kinds := [], alts := [], laidByText := true, laidKinds := [.data], laidTests := true, laidLooks := .later }
def MacDeriveUptoCardSaid : Prop := Claim7.holds Tryd.pinned (.plain (OpenSpec.upto macDeriveSpec)) macDeriveUptoCard

/-- THE SECOND FORM's CARD OF 'baileelaw03.MacSame'. -/
def macSameUptoCard : Claim7 := { stood := { row := macSameUptoRow, standIns := [], harness := (true, "b6fbfa28285ceafefd8d884e40c9c23082846a2fb9e97df0c8d2b9c0715e57a3"), looks := false }, kinds := [], alts := [], laidByText := true, laidKinds := [.data], laidTests := true, laidLooks := .later }
def MacSameUptoCardSaid : Prop := Claim7.holds Tryd.pinned (.plain (OpenSpec.upto macSameSpec)) macSameUptoCard

/-- THE SECOND FORM's CARD OF 'baileelaw03.MacCuts'. -/
def macCutsUptoCard : Claim7 := { stood := { row := macCutsUptoRow, standIns := [], harness := (true, "b6fbfa28285ceafefd8d884e40c9c23082846a2fb9e97df0c8d2b9c0715e57a3"), looks := false }, kinds := [], alts := [], laidByText := true, laidKinds := [.data], laidTests := true, laidLooks := .later }
def MacCutsUptoCardSaid : Prop := Claim7.holds Tryd.pinned (.plain (OpenSpec.upto macCutsSpec)) macCutsUptoCard

/-- THE SECOND FORM's CARD OF 'baileelaw03.MacKeys'. -/
def macKeysUptoCard : Claim7 := { stood := { row := macKeysUptoRow, standIns := [], harness := (true, "b6fbfa28285ceafefd8d884e40c9c23082846a2fb9e97df0c8d2b9c0715e57a3"), looks := false }, kinds := [], alts := [], laidByText := true, laidKinds := [.data], laidTests := true, laidLooks := .later }
def MacKeysUptoCardSaid : Prop := Claim7.holds Tryd.pinned (.plain (OpenSpec.upto macKeysSpec)) macKeysUptoCard
end Rows
end Go.Proofs.YtjgleonbkipidaaDoor
