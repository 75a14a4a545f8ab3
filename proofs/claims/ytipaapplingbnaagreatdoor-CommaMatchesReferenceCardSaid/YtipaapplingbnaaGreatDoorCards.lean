/-
  DERIVED. GIVEN WITH THE SEED: THE CARDS: each row of YtipaapplingbnaaGreatDoorRows.lean that lists a variable, with what it lists TIED to the program's text (the seventh form; the later family's looks); each row that meets fmt, with fmt's text TOLD by the authors' own Lean function (tested against real Go, not proved from fmt's source: count such statements apart). THE CARD IS WHAT COUNTS. Prove the row's statement (the work); the ties are given (YtipaapplingbnaaGreatDoorTie.lean); close each card by the builder's one call (the guide's Derived/Test/ToyasCard.lean, 'card_holds'). Laid BY PROGRAM, IN A SANDBOX (cutbox-door.mjs). By AI agents, Wed Nov 11 2026. No macro, syntax, notation, axiom, sorry.
-/
import Derived.Test.YtipaapplingbnaaGreatDoorRows
import GoSem.ClaimSeven
namespace Go.Proofs.YtipaapplingbnaaGreatDoor
namespace Rows

/-- THE TIED CARD OF 'schismalaw08.CommaMatchesReference'. -/
def commaMatchesReferenceCard : Claim7 := { stood := { row := commaMatchesReferenceRow, standIns := [], harness := (true, "50b93a4c128fb403e10fd4abc22bf4d3160ceff99a45db561d7f5d1447183f18"), looks := true }, kinds := [], alts := [], laidByText := true, laidKinds := [.data, .data, .data, .data, .sentinel, .sentinel, .pinned], laidTests := true, laidLooks := .later }
def CommaMatchesReferenceCardSaid : Prop := Claim7.holds Tryz.pinned (.plain (OpenSpec.ofChange commaMatchesReferenceSpec)) commaMatchesReferenceCard

/-- THE TIED CARD OF 'schismalaw08.CommaLinear'. -/
def commaLinearCard : Claim7 := { stood := { row := commaLinearRow, standIns := [], harness := (true, "50b93a4c128fb403e10fd4abc22bf4d3160ceff99a45db561d7f5d1447183f18"), looks := true }, kinds := [], alts := [], laidByText := true, laidKinds := [.data, .data, .data, .data, .sentinel, .sentinel, .pinned], laidTests := true, laidLooks := .later }
def CommaLinearCardSaid : Prop := Claim7.holds Tryz.pinned (.plain (OpenSpec.ofChange commaLinearSpec)) commaLinearCard

/-- THE SECOND FORM's CARD OF 'schismalaw08.CommaMatchesReference'. -/
def commaMatchesReferenceUptoCard : Claim7 := { stood := { row := commaMatchesReferenceUptoRow, standIns := [], harness := (true, "50b93a4c128fb403e10fd4abc22bf4d3160ceff99a45db561d7f5d1447183f18"), looks := true }, kinds := [], alts := [], laidByText := true, laidKinds := [.data, .data, .data, .data, .sentinel, .sentinel, .pinned], laidTests := true, laidLooks := .later }
def CommaMatchesReferenceUptoCardSaid : Prop := Claim7.holds Tryz.pinned (.plain (OpenSpec.upto commaMatchesReferenceSpec)) commaMatchesReferenceUptoCard

/-- THE SECOND FORM's CARD OF 'schismalaw08.CommaLinear'. -/
def commaLinearUptoCard : Claim7 := { stood := { row := commaLinearUptoRow, standIns := [], harness := (true, "50b93a4c128fb403e10fd4abc22bf4d3160ceff99a45db561d7f5d1447183f18"), looks := true }, kinds := [], alts := [], laidByText := true, laidKinds := [.data, .data, .data, .data, .sentinel, .sentinel, .pinned], laidTests := true, laidLooks := .later }
def CommaLinearUptoCardSaid : Prop := Claim7.holds Tryz.pinned (.plain (OpenSpec.upto commaLinearSpec)) commaLinearUptoCard
end Rows
end Go.Proofs.YtipaapplingbnaaGreatDoor
