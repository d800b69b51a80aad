/-
  DERIVED. GIVEN WITH THE SEED: THE CARDS: each row of YtofbfkkncjcodaaDoorRows.lean that lists a variable, with what it lists TIED to the program's text (the seventh form; the later family's looks); each row that meets fmt, with fmt's text TOLD by the authors' own Lean function (tested against real Go, not proved from fmt's source: count such statements apart). THE CARD IS WHAT COUNTS. Prove the row's statement (the work); the ties are given (YtofbfkkncjcodaaDoorTie.lean); close each card by the builder's one call (the guide's Derived/Test/ToyasCard.lean, 'card_holds'). Laid BY PROGRAM, IN A SANDBOX (cutbox-door.mjs). By AI agents, Wed Nov 11 2026. No macro, syntax, notation, axiom, sorry.
-/
import Derived.Test.YtofbfkkncjcodaaDoorRows
import GoSem.ClaimSeven
namespace Go.Proofs.YtofbfkkncjcodaaDoor
namespace Rows

/-- THE TIED CARD OF 'baileelaw06.ProofMakes'. -/
def proofMakesCard : Claim7 := { stood := { row := proofMakesRow, standIns := [], harness := (true, "897d19d62716665a7b66a903969ebafb52ff36fe328f8f8d59d028c1539938dd"), looks := false }, kinds := [], alts := [], laidByText := true, laidKinds := [.data], laidTests := true, laidLooks := .later }
def ProofMakesCardSaid : Prop := Claim7.holds Tryd.pinned (.plain (OpenSpec.ofChange proofMakesSpec)) proofMakesCard

/-- THE TIED CARD OF 'baileelaw06.ProofChecks'. -/
def proofChecksCard : Claim7 := { stood := { row := proofChecksRow, standIns := [], harness := (true, "897d19d62716665a7b66a903969ebafb52ff36fe328f8f8d59d028c1539938dd"), looks := false }, kinds := [], alts := [], laidByText := true, laidKinds := [.data], laidTests := true, laidLooks := .later }
def ProofChecksCardSaid : Prop := Claim7.holds Tryd.pinned (.plain (OpenSpec.ofChange proofChecksSpec)) proofChecksCard

/-- THE TIED CARD OF 'baileelaw06.ProofHolds'. -/
def proofHoldsCard : Claim7 := { stood := { row := proofHoldsRow, standIns := [], harness := (true, "897d19d62716665a7b66a903969ebafb52ff36fe328f8f8d59d028c1539938dd"), looks := false }, kinds := [], alts := [], laidByText := true, laidKinds := [.data], laidTests := true, laidLooks := .later }
def ProofHoldsCardSaid : Prop := Claim7.holds Tryd.pinned (.plain (OpenSpec.ofChange proofHoldsSpec)) proofHoldsCard

/-- THE TIED CARD OF 'baileelaw06.ProofAll'. -/
def proofAllCard : Claim7 := { stood := { row := proofAllRow, standIns := [], harness := (true, "897d19d62716665a7b66a903969ebafb52ff36fe328f8f8d59d028c1539938dd"), looks := false }, kinds := [], alts := [], laidByText := true, laidKinds := [.data], laidTests := true, laidLooks := .later }
def ProofAllCardSaid : Prop := Claim7.holds Tryd.pinned (.plain (OpenSpec.ofChange proofAllSpec)) proofAllCard

/-- THE TIED CARD OF 'baileelaw06.ProofSwap'. -/
def proofSwapCard : Claim7 := { stood := { row := proofSwapRow, standIns := [], harness := (true, "897d19d62716665a7b66a903969ebafb52ff36fe328f8f8d59d028c1539938dd"), looks := false }, kinds := [], alts := [], laidByText := true, laidKinds := [.data], laidTests := true, laidLooks := .later }
def ProofSwapCardSaid : Prop := Claim7.holds Tryd.pinned (.plain (OpenSpec.ofChange proofSwapSpec)) proofSwapCard

/-- THE TIED CARD OF 'baileelaw06.ProofTwo'. -/
def proofTwoCard : Claim7 := { stood := { row := proofTwoRow, standIns := [], harness := (true, "897d19d62716665a7b66a903969ebafb52ff36fe328f8f8d59d028c1539938dd"), looks := false }, kinds := [], alts := [], laidByText := true, laidKinds := [.data], laidTests := true, laidLooks := .later }
def ProofTwoCardSaid : Prop := Claim7.holds Tryd.pinned (.plain (OpenSpec.ofChange proofTwoSpec)) proofTwoCard

/-- THE SECOND FORM's CARD OF 'baileelaw06.ProofMakes'. -/
def proofMakesUptoCard : Claim7 := { stood := { row := proofMakesUptoRow, standIns := [], harness := (true, "897d19d62716665a7b66a903969ebafb52ff36fe328f8f8d59d028c1539938dd"), looks := false }, kinds := [], alts := [], laidByText := true, laidKinds := [.data], laidTests := true, laidLooks := .later }
def ProofMakesUptoCardSaid : Prop := Claim7.holds Tryd.pinned (.plain (OpenSpec.upto proofMakesSpec)) proofMakesUptoCard

/-- THE SECOND FORM's CARD OF 'baileelaw06.ProofChecks'. -/
def proofChecksUptoCard : Claim7 := { stood := { row := proofChecksUptoRow, standIns := [], harness := (true, "897d19d62716665a7b66a903969ebafb52ff36fe328f8f8d59d028c1539938dd"), looks := false }, kinds := [], alts := [], laidByText := true, laidKinds := [.data], laidTests := true, laidLooks := .later }
def ProofChecksUptoCardSaid : Prop := Claim7.holds Tryd.pinned (.plain (OpenSpec.upto proofChecksSpec)) proofChecksUptoCard

/-- THE SECOND FORM's CARD OF 'baileelaw06.ProofHolds'. -/
def proofHoldsUptoCard : Claim7 := { stood := { row := proofHoldsUptoRow, standIns := [], harness := (true, "897d19d62716665a7b66a903969ebafb52ff36fe328f8f8d59d028c1539938dd"), looks := false }, kinds := [], alts := [], laidByText := true, laidKinds := [.data], laidTests := true, laidLooks := .later }
def ProofHoldsUptoCardSaid : Prop := Claim7.holds Tryd.pinned (.plain (OpenSpec.upto proofHoldsSpec)) proofHoldsUptoCard

/-- THE SECOND FORM's CARD OF 'baileelaw06.ProofAll'. -/
def proofAllUptoCard : Claim7 := { stood := { row := proofAllUptoRow, standIns := [], harness := (true, "897d19d62716665a7b66a903969ebafb52ff36fe328f8f8d59d028c1539938dd"), looks := false }, kinds := [], alts := [], laidByText := true, laidKinds := [.data], laidTests := true, laidLooks := .later }
def ProofAllUptoCardSaid : Prop := Claim7.holds Tryd.pinned (.plain (OpenSpec.upto proofAllSpec)) proofAllUptoCard

/-- THE SECOND FORM's CARD OF 'baileelaw06.ProofSwap'. -/
def proofSwapUptoCard : Claim7 := { stood := { row := proofSwapUptoRow, standIns := [], harness := (true, "897d19d62716665a7b66a903969ebafb52ff36fe328f8f8d59d028c1539938dd"), looks := false }, kinds := [], alts := [], laidByText := true, laidKinds := [.data], laidTests := true, laidLooks := .later }
def ProofSwapUptoCardSaid : Prop := Claim7.holds Tryd.pinned (.plain (OpenSpec.upto proofSwapSpec)) proofSwapUptoCard

/-- THE SECOND FORM's CARD OF 'baileelaw06.ProofTwo'. -/
def proofTwoUptoCard : Claim7 := { stood := { row := proofTwoUptoRow, standIns := [], harness := (true, "897d19d62716665a7b66a903969ebafb52ff36fe328f8f8d59d028c1539938dd"), looks := false }, kinds := [], alts := [], laidByText := true, laidKinds := [.data], laidTests := true, laidLooks := .later }
def ProofTwoUptoCardSaid : Prop := Claim7.holds Tryd.pinned (.plain (OpenSpec.upto proofTwoSpec)) proofTwoUptoCard
end Rows
end Go.Proofs.YtofbfkkncjcodaaDoor
