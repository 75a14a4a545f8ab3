/-
  DERIVED. GIVEN WITH THE SEED: THE CARDS: each row of YtgcobhlplffpjaaGreatDoorRows.lean that lists a variable, with what it lists TIED to the program's text (the seventh form; the later family's looks); each row that meets fmt, with fmt's text TOLD by the authors' own Lean function (tested against real Go, not proved from fmt's source: count such statements apart). THE CARD IS WHAT COUNTS. Prove the row's statement (the work); the ties are given (YtgcobhlplffpjaaGreatDoorTie.lean); close each card by the builder's one call (the guide's Derived/Test/ToyasCard.lean, 'card_holds'). Laid BY PROGRAM, IN A SANDBOX (cutbox-door.mjs). By AI agents, Wed Nov 11 2026. No macro, syntax, notation, axiom, sorry.
-/
import Derived.Test.YtgcobhlplffpjaaGreatDoorRows
import GoSem.ClaimSeven
namespace Go.Proofs.YtgcobhlplffpjaaGreatDoor
namespace Rows

/-- THE TIED CARD OF 'schismalaw01.NaturalPowers'. -/
def naturalPowersCard : Claim7 := { stood := { row := naturalPowersRow, standIns := [], harness := (true, "b8423bf9370e27a896695b97a94578f92c6c583447660ce34fc68160832f021c"), looks := true }, kinds := [], alts := [], laidByText := true, laidKinds := [.data, .data, .data, .data, .sentinel, .sentinel, .pinned], laidTests := true, laidLooks := .later }
def NaturalPowersCardSaid : Prop := Claim7.holds Tryz.pinned (.plain (OpenSpec.ofChange naturalPowersSpec)) naturalPowersCard

/-- THE TIED CARD OF 'schismalaw01.NaturalSums'. -/
def naturalSumsCard : Claim7 := { stood := { row := naturalSumsRow, standIns := [], harness := (true, "b8423bf9370e27a896695b97a94578f92c6c583447660ce34fc68160832f021c"), looks := true }, kinds := [], alts := [], laidByText := true, laidKinds := [.data, .data, .data, .data, .sentinel, .sentinel, .pinned], laidTests := true, laidLooks := .later }
def NaturalSumsCardSaid : Prop := Claim7.holds Tryz.pinned (.plain (OpenSpec.ofChange naturalSumsSpec)) naturalSumsCard

/-- THE TIED CARD OF 'schismalaw01.NaturalProducts'. -/
def naturalProductsCard : Claim7 := { stood := { row := naturalProductsRow, standIns := [], harness := (true, "b8423bf9370e27a896695b97a94578f92c6c583447660ce34fc68160832f021c"), looks := true }, kinds := [], alts := [], laidByText := true, laidKinds := [.data, .data, .data, .data, .sentinel, .sentinel, .pinned], laidTests := true, laidLooks := .later }
def NaturalProductsCardSaid : Prop := Claim7.holds Tryz.pinned (.plain (OpenSpec.ofChange naturalProductsSpec)) naturalProductsCard

/-- THE TIED CARD OF 'schismalaw01.NaturalDigits'. -/
def naturalDigitsCard : Claim7 := { stood := { row := naturalDigitsRow, standIns := [], harness := (true, "b8423bf9370e27a896695b97a94578f92c6c583447660ce34fc68160832f021c"), looks := true }, kinds := [], alts := [], laidByText := true, laidKinds := [.data, .data, .data, .data, .sentinel, .sentinel, .pinned], laidTests := true, laidLooks := .later }
def NaturalDigitsCardSaid : Prop := Claim7.holds Tryz.pinned (.plain (OpenSpec.ofChange naturalDigitsSpec)) naturalDigitsCard

/-- THE TIED CARD OF 'schismalaw01.NaturalTexts'. -/
def naturalTextsCard : Claim7 := { stood := { row := naturalTextsRow, standIns := [], harness := (true, "b8423bf9370e27a896695b97a94578f92c6c583447660ce34fc68160832f021c"), looks := true }, kinds := [], alts := [], laidByText := true, laidKinds := [.data, .data, .data, .data, .sentinel, .sentinel, .pinned], laidTests := true, laidLooks := .later }
def NaturalTextsCardSaid : Prop := Claim7.holds Tryz.pinned (.plain (OpenSpec.ofChange naturalTextsSpec)) naturalTextsCard

/-- THE TIED CARD OF 'schismalaw01.NaturalMatchesReference'. -/
def naturalMatchesReferenceCard : Claim7 := { stood := { row := naturalMatchesReferenceRow, standIns := [], harness := (true, "b8423bf9370e27a896695b97a94578f92c6c583447660ce34fc68160832f021c"), looks := true }, kinds := [], alts := [], laidByText := true, laidKinds := [.data, .data, .data, .data, .sentinel, .sentinel, .pinned], laidTests := true, laidLooks := .later }
def NaturalMatchesReferenceCardSaid : Prop := Claim7.holds Tryz.pinned (.plain (OpenSpec.ofChange naturalMatchesReferenceSpec)) naturalMatchesReferenceCard

/-- THE TIED CARD OF 'schismalaw01.NaturalDivision'. -/
def naturalDivisionCard : Claim7 := { stood := { row := naturalDivisionRow, standIns := [], harness := (true, "b8423bf9370e27a896695b97a94578f92c6c583447660ce34fc68160832f021c"), looks := true }, kinds := [], alts := [], laidByText := true, laidKinds := [.data, .data, .data, .data, .sentinel, .sentinel, .pinned], laidTests := true, laidLooks := .later }
def NaturalDivisionCardSaid : Prop := Claim7.holds Tryz.pinned (.plain (OpenSpec.ofChange naturalDivisionSpec)) naturalDivisionCard

/-- THE TIED CARD OF 'schismalaw01.NaturalOrder'. -/
def naturalOrderCard : Claim7 := { stood := { row := naturalOrderRow, standIns := [], harness := (true, "b8423bf9370e27a896695b97a94578f92c6c583447660ce34fc68160832f021c"), looks := true }, kinds := [], alts := [], laidByText := true, laidKinds := [.data, .data, .data, .data, .sentinel, .sentinel, .pinned], laidTests := true, laidLooks := .later }
def NaturalOrderCardSaid : Prop := Claim7.holds Tryz.pinned (.plain (OpenSpec.ofChange naturalOrderSpec)) naturalOrderCard

/-- THE TIED CARD OF 'schismalaw01.NaturalMachine'. -/
def naturalMachineCard : Claim7 := { stood := { row := naturalMachineRow, standIns := [], harness := (true, "b8423bf9370e27a896695b97a94578f92c6c583447660ce34fc68160832f021c"), looks := true }, kinds := [], alts := [], laidByText := true, laidKinds := [.data, .data, .data, .data, .sentinel, .sentinel, .pinned], laidTests := true, laidLooks := .later }
def NaturalMachineCardSaid : Prop := Claim7.holds Tryz.pinned (.plain (OpenSpec.ofChange naturalMachineSpec)) naturalMachineCard

/-- THE SECOND FORM's CARD OF 'schismalaw01.NaturalPowers'. -/
def naturalPowersUptoCard : Claim7 := { stood := { row := naturalPowersUptoRow, standIns := [], harness := (true, "b8423bf9370e27a896695b97a94578f92c6c583447660ce34fc68160832f021c"), looks := true }, kinds := [], alts := [], laidByText := true, laidKinds := [.data, .data, .data, .data, .sentinel, .sentinel, .pinned], laidTests := true, laidLooks := .later }
def NaturalPowersUptoCardSaid : Prop := Claim7.holds Tryz.pinned (.plain (OpenSpec.upto naturalPowersSpec)) naturalPowersUptoCard

/-- THE SECOND FORM's CARD OF 'schismalaw01.NaturalSums'. -/
def naturalSumsUptoCard : Claim7 := { stood := { row := naturalSumsUptoRow, standIns := [], harness := (true, "b8423bf9370e27a896695b97a94578f92c6c583447660ce34fc68160832f021c"), looks := true }, kinds := [], alts := [], laidByText := true, laidKinds := [.data, .data, .data, .data, .sentinel, .sentinel, .pinned], laidTests := true, laidLooks := .later }
def NaturalSumsUptoCardSaid : Prop := Claim7.holds Tryz.pinned (.plain (OpenSpec.upto naturalSumsSpec)) naturalSumsUptoCard

/-- THE SECOND FORM's CARD OF 'schismalaw01.NaturalProducts'. -/
def naturalProductsUptoCard : Claim7 := { stood := { row := naturalProductsUptoRow, standIns := [], harness := (true, "b8423bf9370e27a896695b97a94578f92c6c583447660ce34fc68160832f021c"), looks := true }, kinds := [], alts := [], laidByText := true, laidKinds := [.data, .data, .data, .data, .sentinel, .sentinel, .pinned], laidTests := true, laidLooks := .later }
def NaturalProductsUptoCardSaid : Prop := Claim7.holds Tryz.pinned (.plain (OpenSpec.upto naturalProductsSpec)) naturalProductsUptoCard

/-- THE SECOND FORM's CARD OF 'schismalaw01.NaturalDigits'. -/
def naturalDigitsUptoCard : Claim7 := { stood := { row := naturalDigitsUptoRow, standIns := [], harness := (true, "b8423bf9370e27a896695b97a94578f92c6c583447660ce34fc68160832f021c"), looks := true }, kinds := [], alts := [], laidByText := true, laidKinds := [.data, .data, .data, .data, .sentinel, .sentinel, .pinned], laidTests := true, laidLooks := .later }
def NaturalDigitsUptoCardSaid : Prop := Claim7.holds Tryz.pinned (.plain (OpenSpec.upto naturalDigitsSpec)) naturalDigitsUptoCard

/-- THE SECOND FORM's CARD OF 'schismalaw01.NaturalTexts'. -/
def naturalTextsUptoCard : Claim7 := { stood := { row := naturalTextsUptoRow, standIns := [], harness := (true, "b8423bf9370e27a896695b97a94578f92c6c583447660ce34fc68160832f021c"), looks := true }, kinds := [], alts := [], laidByText := true, laidKinds := [.data, .data, .data, .data, .sentinel, .sentinel, .pinned], laidTests := true, laidLooks := .later }
def NaturalTextsUptoCardSaid : Prop := Claim7.holds Tryz.pinned (.plain (OpenSpec.upto naturalTextsSpec)) naturalTextsUptoCard

/-- THE SECOND FORM's CARD OF 'schismalaw01.NaturalMatchesReference'. -/
def naturalMatchesReferenceUptoCard : Claim7 := { stood := { row := naturalMatchesReferenceUptoRow, standIns := [], harness := (true, "b8423bf9370e27a896695b97a94578f92c6c583447660ce34fc68160832f021c"), looks := true }, kinds := [], alts := [], laidByText := true, laidKinds := [.data, .data, .data, .data, .sentinel, .sentinel, .pinned], laidTests := true, laidLooks := .later }
def NaturalMatchesReferenceUptoCardSaid : Prop := Claim7.holds Tryz.pinned (.plain (OpenSpec.upto naturalMatchesReferenceSpec)) naturalMatchesReferenceUptoCard

/-- THE SECOND FORM's CARD OF 'schismalaw01.NaturalDivision'. -/
def naturalDivisionUptoCard : Claim7 := { stood := { row := naturalDivisionUptoRow, standIns := [], harness := (true, "b8423bf9370e27a896695b97a94578f92c6c583447660ce34fc68160832f021c"), looks := true }, kinds := [], alts := [], laidByText := true, laidKinds := [.data, .data, .data, .data, .sentinel, .sentinel, .pinned], laidTests := true, laidLooks := .later }
def NaturalDivisionUptoCardSaid : Prop := Claim7.holds Tryz.pinned (.plain (OpenSpec.upto naturalDivisionSpec)) naturalDivisionUptoCard

/-- THE SECOND FORM's CARD OF 'schismalaw01.NaturalOrder'. -/
def naturalOrderUptoCard : Claim7 := { stood := { row := naturalOrderUptoRow, standIns := [], harness := (true, "b8423bf9370e27a896695b97a94578f92c6c583447660ce34fc68160832f021c"), looks := true }, kinds := [], alts := [], laidByText := true, laidKinds := [.data, .data, .data, .data, .sentinel, .sentinel, .pinned], laidTests := true, laidLooks := .later }
def NaturalOrderUptoCardSaid : Prop := Claim7.holds Tryz.pinned (.plain (OpenSpec.upto naturalOrderSpec)) naturalOrderUptoCard

/-- THE SECOND FORM's CARD OF 'schismalaw01.NaturalMachine'. -/
def naturalMachineUptoCard : Claim7 := { stood := { row := naturalMachineUptoRow, standIns := [], harness := (true, "b8423bf9370e27a896695b97a94578f92c6c583447660ce34fc68160832f021c"), looks := true }, kinds := [], alts := [], laidByText := true, laidKinds := [.data, .data, .data, .data, .sentinel, .sentinel, .pinned], laidTests := true, laidLooks := .later }
def NaturalMachineUptoCardSaid : Prop := Claim7.holds Tryz.pinned (.plain (OpenSpec.upto naturalMachineSpec)) naturalMachineUptoCard
end Rows
end Go.Proofs.YtgcobhlplffpjaaGreatDoor
