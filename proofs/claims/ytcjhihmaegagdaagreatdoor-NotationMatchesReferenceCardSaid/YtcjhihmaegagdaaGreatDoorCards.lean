/-
  DERIVED. GIVEN WITH THE SEED: THE CARDS: each row of YtcjhihmaegagdaaGreatDoorRows.lean that lists a variable, with what it lists TIED to the program's text (the seventh form; the later family's looks); each row that meets fmt, with fmt's text TOLD by the authors' own Lean function (tested against real Go, not proved from fmt's source: count such statements apart). THE CARD IS WHAT COUNTS. Prove the row's statement (the work); the ties are given (YtcjhihmaegagdaaGreatDoorTie.lean); close each card by the builder's one call (the guide's Derived/Test/ToyasCard.lean, 'card_holds'). Laid BY PROGRAM, IN A SANDBOX (cutbox-door.mjs). By AI agents, Wed Nov 11 2026. No macro, syntax, notation, axiom, sorry.
-/
import Derived.Test.YtcjhihmaegagdaaGreatDoorRows
import GoSem.ClaimSeven
namespace Go.Proofs.YtcjhihmaegagdaaGreatDoor
namespace Rows

/-- THE TIED CARD OF 'schismalaw20.NotationMatchesReference'. -/
def notationMatchesReferenceCard : Claim7 := { stood := { row := notationMatchesReferenceRow, standIns := [], harness := (true, "343f6f2b6b25ae640734a03eea9d31df21f835f95c93005e3f0d4389ebce8149"), looks := true }, kinds := [], alts := [], laidByText := true, laidKinds := [.data, .data, .data, .data, .sentinel, .sentinel, .data, .pinned], laidTests := true, laidLooks := .later }
def NotationMatchesReferenceCardSaid : Prop := Claim7.holds Tryz.pinned (.plain (OpenSpec.ofChange notationMatchesReferenceSpec)) notationMatchesReferenceCard

/-- THE TIED CARD OF 'schismalaw20.NotationTokens'. -/
def notationTokensCard : Claim7 := { stood := { row := notationTokensRow, standIns := [], harness := (true, "343f6f2b6b25ae640734a03eea9d31df21f835f95c93005e3f0d4389ebce8149"), looks := true }, kinds := [], alts := [], laidByText := true, laidKinds := [.data, .data, .data, .data, .sentinel, .sentinel, .data, .pinned], laidTests := true, laidLooks := .later }
def NotationTokensCardSaid : Prop := Claim7.holds Tryz.pinned (.plain (OpenSpec.ofChange notationTokensSpec)) notationTokensCard

/-- THE TIED CARD OF 'schismalaw20.NotationBack'. -/
def notationBackCard : Claim7 := { stood := { row := notationBackRow, standIns := [], harness := (true, "343f6f2b6b25ae640734a03eea9d31df21f835f95c93005e3f0d4389ebce8149"), looks := true }, kinds := [], alts := [], laidByText := true, laidKinds := [.data, .data, .data, .data, .sentinel, .sentinel, .data, .pinned], laidTests := true, laidLooks := .later }
def NotationBackCardSaid : Prop := Claim7.holds Tryz.pinned (.plain (OpenSpec.ofChange notationBackSpec)) notationBackCard

/-- THE TIED CARD OF 'schismalaw20.NotationCanonical'. -/
def notationCanonicalCard : Claim7 := { stood := { row := notationCanonicalRow, standIns := [], harness := (true, "343f6f2b6b25ae640734a03eea9d31df21f835f95c93005e3f0d4389ebce8149"), looks := true }, kinds := [], alts := [], laidByText := true, laidKinds := [.data, .data, .data, .data, .sentinel, .sentinel, .data, .pinned], laidTests := true, laidLooks := .later }
def NotationCanonicalCardSaid : Prop := Claim7.holds Tryz.pinned (.plain (OpenSpec.ofChange notationCanonicalSpec)) notationCanonicalCard

/-- THE TIED CARD OF 'schismalaw20.NotationLayout'. -/
def notationLayoutCard : Claim7 := { stood := { row := notationLayoutRow, standIns := [], harness := (true, "343f6f2b6b25ae640734a03eea9d31df21f835f95c93005e3f0d4389ebce8149"), looks := true }, kinds := [], alts := [], laidByText := true, laidKinds := [.data, .data, .data, .data, .sentinel, .sentinel, .data, .pinned], laidTests := true, laidLooks := .later }
def NotationLayoutCardSaid : Prop := Claim7.holds Tryz.pinned (.plain (OpenSpec.ofChange notationLayoutSpec)) notationLayoutCard

/-- THE TIED CARD OF 'schismalaw20.NotationErrors'. -/
def notationErrorsCard : Claim7 := { stood := { row := notationErrorsRow, standIns := [], harness := (true, "343f6f2b6b25ae640734a03eea9d31df21f835f95c93005e3f0d4389ebce8149"), looks := true }, kinds := [], alts := [], laidByText := true, laidKinds := [.data, .data, .data, .data, .sentinel, .sentinel, .data, .pinned], laidTests := true, laidLooks := .later }
def NotationErrorsCardSaid : Prop := Claim7.holds Tryz.pinned (.plain (OpenSpec.ofChange notationErrorsSpec)) notationErrorsCard

/-- THE TIED CARD OF 'schismalaw20.NotationNames'. -/
def notationNamesCard : Claim7 := { stood := { row := notationNamesRow, standIns := [], harness := (true, "343f6f2b6b25ae640734a03eea9d31df21f835f95c93005e3f0d4389ebce8149"), looks := true }, kinds := [], alts := [], laidByText := true, laidKinds := [.data, .data, .data, .data, .sentinel, .sentinel, .data, .pinned], laidTests := true, laidLooks := .later }
def NotationNamesCardSaid : Prop := Claim7.holds Tryz.pinned (.plain (OpenSpec.ofChange notationNamesSpec)) notationNamesCard

/-- THE TIED CARD OF 'schismalaw20.NotationOrder'. -/
def notationOrderCard : Claim7 := { stood := { row := notationOrderRow, standIns := [], harness := (true, "343f6f2b6b25ae640734a03eea9d31df21f835f95c93005e3f0d4389ebce8149"), looks := true }, kinds := [], alts := [], laidByText := true, laidKinds := [.data, .data, .data, .data, .sentinel, .sentinel, .data, .pinned], laidTests := true, laidLooks := .later }
def NotationOrderCardSaid : Prop := Claim7.holds Tryz.pinned (.plain (OpenSpec.ofChange notationOrderSpec)) notationOrderCard

/-- THE SECOND FORM's CARD OF 'schismalaw20.NotationMatchesReference'. -/
def notationMatchesReferenceUptoCard : Claim7 := { stood := { row := notationMatchesReferenceUptoRow, standIns := [], harness := (true, "343f6f2b6b25ae640734a03eea9d31df21f835f95c93005e3f0d4389ebce8149"), looks := true }, kinds := [], alts := [], laidByText := true, laidKinds := [.data, .data, .data, .data, .sentinel, .sentinel, .data, .pinned], laidTests := true, laidLooks := .later }
def NotationMatchesReferenceUptoCardSaid : Prop := Claim7.holds Tryz.pinned (.plain (OpenSpec.upto notationMatchesReferenceSpec)) notationMatchesReferenceUptoCard

/-- THE SECOND FORM's CARD OF 'schismalaw20.NotationTokens'. -/
def notationTokensUptoCard : Claim7 := { stood := { row := notationTokensUptoRow, standIns := [], harness := (true, "343f6f2b6b25ae640734a03eea9d31df21f835f95c93005e3f0d4389ebce8149"), looks := true }, kinds := [], alts := [], laidByText := true, laidKinds := [.data, .data, .data, .data, .sentinel, .sentinel, .data, .pinned], laidTests := true, laidLooks := .later }
def NotationTokensUptoCardSaid : Prop := Claim7.holds Tryz.pinned (.plain (OpenSpec.upto notationTokensSpec)) notationTokensUptoCard

/-- THE SECOND FORM's CARD OF 'schismalaw20.NotationBack'. -/
def notationBackUptoCard : Claim7 := { stood := { row := notationBackUptoRow, standIns := [], harness := (true, "343f6f2b6b25ae640734a03eea9d31df21f835f95c93005e3f0d4389ebce8149"), looks := true }, kinds := [], alts := [], laidByText := true, laidKinds := [.data, .data, .data, .data, .sentinel, .sentinel, .data, .pinned], laidTests := true, laidLooks := .later }
def NotationBackUptoCardSaid : Prop := Claim7.holds Tryz.pinned (.plain (OpenSpec.upto notationBackSpec)) notationBackUptoCard

/-- THE SECOND FORM's CARD OF 'schismalaw20.NotationCanonical'. -/
def notationCanonicalUptoCard : Claim7 := { stood := { row := notationCanonicalUptoRow, standIns := [], harness := (true, "343f6f2b6b25ae640734a03eea9d31df21f835f95c93005e3f0d4389ebce8149"), looks := true }, kinds := [], alts := [], laidByText := true, laidKinds := [.data, .data, .data, .data, .sentinel, .sentinel, .data, .pinned], laidTests := true, laidLooks := .later }
def NotationCanonicalUptoCardSaid : Prop := Claim7.holds Tryz.pinned (.plain (OpenSpec.upto notationCanonicalSpec)) notationCanonicalUptoCard

/-- THE SECOND FORM's CARD OF 'schismalaw20.NotationLayout'. -/
def notationLayoutUptoCard : Claim7 := { stood := { row := notationLayoutUptoRow, standIns := [], harness := (true, "343f6f2b6b25ae640734a03eea9d31df21f835f95c93005e3f0d4389ebce8149"), looks := true }, kinds := [], alts := [], laidByText := true, laidKinds := [.data, .data, .data, .data, .sentinel, .sentinel, .data, .pinned], laidTests := true, laidLooks := .later }
def NotationLayoutUptoCardSaid : Prop := Claim7.holds Tryz.pinned (.plain (OpenSpec.upto notationLayoutSpec)) notationLayoutUptoCard

/-- THE SECOND FORM's CARD OF 'schismalaw20.NotationErrors'. -/
def notationErrorsUptoCard : Claim7 := { stood := { row := notationErrorsUptoRow, standIns := [], harness := (true, "343f6f2b6b25ae640734a03eea9d31df21f835f95c93005e3f0d4389ebce8149"), looks := true }, kinds := [], alts := [], laidByText := true, laidKinds := [.data, .data, .data, .data, .sentinel, .sentinel, .data, .pinned], laidTests := true, laidLooks := .later }
def NotationErrorsUptoCardSaid : Prop := Claim7.holds Tryz.pinned (.plain (OpenSpec.upto notationErrorsSpec)) notationErrorsUptoCard

/-- THE SECOND FORM's CARD OF 'schismalaw20.NotationNames'. -/
def notationNamesUptoCard : Claim7 := { stood := { row := notationNamesUptoRow, standIns := [], harness := (true, "343f6f2b6b25ae640734a03eea9d31df21f835f95c93005e3f0d4389ebce8149"), looks := true }, kinds := [], alts := [], laidByText := true, laidKinds := [.data, .data, .data, .data, .sentinel, .sentinel, .data, .pinned], laidTests := true, laidLooks := .later }
def NotationNamesUptoCardSaid : Prop := Claim7.holds Tryz.pinned (.plain (OpenSpec.upto notationNamesSpec)) notationNamesUptoCard

/-- THE SECOND FORM's CARD OF 'schismalaw20.NotationOrder'. -/
def notationOrderUptoCard : Claim7 := { stood := { row := notationOrderUptoRow, standIns := [], harness := (true, "343f6f2b6b25ae640734a03eea9d31df21f835f95c93005e3f0d4389ebce8149"), looks := true }, kinds := [], alts := [], laidByText := true, laidKinds := [.data, .data, .data, .data, .sentinel, .sentinel, .data, .pinned], laidTests := true, laidLooks := .later }
def NotationOrderUptoCardSaid : Prop := Claim7.holds Tryz.pinned (.plain (OpenSpec.upto notationOrderSpec)) notationOrderUptoCard
end Rows
end Go.Proofs.YtcjhihmaegagdaaGreatDoor
