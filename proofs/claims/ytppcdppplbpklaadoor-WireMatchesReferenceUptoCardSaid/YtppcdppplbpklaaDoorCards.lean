/-
  DERIVED. GIVEN WITH THE SEED: THE CARDS: each row of YtppcdppplbpklaaDoorRows.lean that lists a variable, with what it lists TIED to the program's text (the seventh form; the later family's looks); each row that meets fmt, with fmt's text TOLD by the authors' own Lean function (tested against real Go, not proved from fmt's source: count such statements apart). THE CARD IS WHAT COUNTS. Prove the row's statement (the work); the ties are given (YtppcdppplbpklaaDoorTie.lean); close each card by the builder's one call (the guide's Derived/Test/ToyasCard.lean, 'card_holds'). Laid BY PROGRAM, IN A SANDBOX (cutbox-door.mjs). By AI agents, Wed Nov 11 2026. No macro, syntax, notation, axiom, sorry.
-/
import Derived.Test.YtppcdppplbpklaaDoorRows
import GoSem.ClaimSeven
namespace Go.Proofs.YtppcdppplbpklaaDoor
namespace Rows

/-- THE TIED CARD OF 'schismalaw28.WireInverse'. -/
def wireInverseCard : Claim7 := { stood := { row := wireInverseRow, standIns := [], harness := (true, "7e6438fd3ccf1b120b769f70abf24dc48ec6a9fbdc699ae3705e2442e5a4d0da"), looks := true }, kinds := [], alts := [], laidByText := true, laidKinds := [.handle, .data], laidTests := true, laidLooks := .later }
def WireInverseCardSaid : Prop := Claim7.holds Tryd.pinned (.plain (OpenSpec.ofChange wireInverseSpec)) wireInverseCard

/-- THE TIED CARD OF 'schismalaw28.WireDamage'. -/
def wireDamageCard : Claim7 := { stood := { row := wireDamageRow, standIns := [], harness := (true, "7e6438fd3ccf1b120b769f70abf24dc48ec6a9fbdc699ae3705e2442e5a4d0da"), looks := true }, kinds := [], alts := [], laidByText := true, laidKinds := [.handle, .data], laidTests := true, laidLooks := .later }
def WireDamageCardSaid : Prop := Claim7.holds Tryd.pinned (.plain (OpenSpec.ofChange wireDamageSpec)) wireDamageCard

/-- THE TIED CARD OF 'schismalaw28.WireTruncated'. -/
def wireTruncatedCard : Claim7 := { stood := { row := wireTruncatedRow, standIns := [], harness := (true, "7e6438fd3ccf1b120b769f70abf24dc48ec6a9fbdc699ae3705e2442e5a4d0da"), looks := true }, kinds := [], alts := [], laidByText := true, laidKinds := [.handle, .data], laidTests := true, laidLooks := .later }
def WireTruncatedCardSaid : Prop := Claim7.holds Tryd.pinned (.plain (OpenSpec.ofChange wireTruncatedSpec)) wireTruncatedCard

/-- THE TIED CARD OF 'schismalaw28.WireBursts'. -/
def wireBurstsCard : Claim7 := { stood := { row := wireBurstsRow, standIns := [], harness := (true, "7e6438fd3ccf1b120b769f70abf24dc48ec6a9fbdc699ae3705e2442e5a4d0da"), looks := true }, kinds := [], alts := [], laidByText := true, laidKinds := [.handle, .data], laidTests := true, laidLooks := .later }
def WireBurstsCardSaid : Prop := Claim7.holds Tryd.pinned (.plain (OpenSpec.ofChange wireBurstsSpec)) wireBurstsCard

/-- THE TIED CARD OF 'schismalaw28.WireSums'. -/
def wireSumsCard : Claim7 := { stood := { row := wireSumsRow, standIns := [], harness := (true, "7e6438fd3ccf1b120b769f70abf24dc48ec6a9fbdc699ae3705e2442e5a4d0da"), looks := true }, kinds := [], alts := [], laidByText := true, laidKinds := [.handle, .data], laidTests := true, laidLooks := .later }
def WireSumsCardSaid : Prop := Claim7.holds Tryd.pinned (.plain (OpenSpec.ofChange wireSumsSpec)) wireSumsCard

/-- THE TIED CARD OF 'schismalaw28.WireLengths'. -/
def wireLengthsCard : Claim7 := { stood := { row := wireLengthsRow, standIns := [], harness := (true, "7e6438fd3ccf1b120b769f70abf24dc48ec6a9fbdc699ae3705e2442e5a4d0da"), looks := true }, kinds := [], alts := [], laidByText := true, laidKinds := [.handle, .data], laidTests := true, laidLooks := .later }
def WireLengthsCardSaid : Prop := Claim7.holds Tryd.pinned (.plain (OpenSpec.ofChange wireLengthsSpec)) wireLengthsCard

/-- THE TIED CARD OF 'schismalaw28.WireMatchesReference'. -/
def wireMatchesReferenceCard : Claim7 := { stood := { row := wireMatchesReferenceRow, standIns := [], harness := (true, "7e6438fd3ccf1b120b769f70abf24dc48ec6a9fbdc699ae3705e2442e5a4d0da"), looks := true }, kinds := [], alts := [], laidByText := true, laidKinds := [.handle, .data], laidTests := true, laidLooks := .later }
def WireMatchesReferenceCardSaid : Prop := Claim7.holds Tryd.pinned (.plain (OpenSpec.ofChange wireMatchesReferenceSpec)) wireMatchesReferenceCard

/-- THE TIED CARD OF 'schismalaw28.WireStreams'. -/
def wireStreamsCard : Claim7 := { stood := { row := wireStreamsRow, standIns := [], harness := (true, "7e6438fd3ccf1b120b769f70abf24dc48ec6a9fbdc699ae3705e2442e5a4d0da"), looks := true }, kinds := [], alts := [], laidByText := true, laidKinds := [.handle, .data], laidTests := true, laidLooks := .later }
def WireStreamsCardSaid : Prop := Claim7.holds Tryd.pinned (.plain (OpenSpec.ofChange wireStreamsSpec)) wireStreamsCard

/-- THE SECOND FORM's CARD OF 'schismalaw28.WireInverse'. -/
def wireInverseUptoCard : Claim7 := { stood := { row := wireInverseUptoRow, standIns := [], harness := (true, "7e6438fd3ccf1b120b769f70abf24dc48ec6a9fbdc699ae3705e2442e5a4d0da"), looks := true }, kinds := [], alts := [], laidByText := true, laidKinds := [.handle, .data], laidTests := true, laidLooks := .later }
def WireInverseUptoCardSaid : Prop := Claim7.holds Tryd.pinned (.plain (OpenSpec.upto wireInverseSpec)) wireInverseUptoCard

/-- THE SECOND FORM's CARD OF 'schismalaw28.WireDamage'. -/
def wireDamageUptoCard : Claim7 := { stood := { row := wireDamageUptoRow, standIns := [], harness := (true, "7e6438fd3ccf1b120b769f70abf24dc48ec6a9fbdc699ae3705e2442e5a4d0da"), looks := true }, kinds := [], alts := [], laidByText := true, laidKinds := [.handle, .data], laidTests := true, laidLooks := .later }
def WireDamageUptoCardSaid : Prop := Claim7.holds Tryd.pinned (.plain (OpenSpec.upto wireDamageSpec)) wireDamageUptoCard

/-- THE SECOND FORM's CARD OF 'schismalaw28.WireTruncated'. -/
def wireTruncatedUptoCard : Claim7 := { stood := { row := wireTruncatedUptoRow, standIns := [], harness := (true, "7e6438fd3ccf1b120b769f70abf24dc48ec6a9fbdc699ae3705e2442e5a4d0da"), looks := true }, kinds := [], alts := [], laidByText := true, laidKinds := [.handle, .data], laidTests := true, laidLooks := .later }
def WireTruncatedUptoCardSaid : Prop := Claim7.holds Tryd.pinned (.plain (OpenSpec.upto wireTruncatedSpec)) wireTruncatedUptoCard

/-- THE SECOND FORM's CARD OF 'schismalaw28.WireBursts'. -/
def wireBurstsUptoCard : Claim7 := { stood := { row := wireBurstsUptoRow, standIns := [], harness := (true, "7e6438fd3ccf1b120b769f70abf24dc48ec6a9fbdc699ae3705e2442e5a4d0da"), looks := true }, kinds := [], alts := [], laidByText := true, laidKinds := [.handle, .data], laidTests := true, laidLooks := .later }
def WireBurstsUptoCardSaid : Prop := Claim7.holds Tryd.pinned (.plain (OpenSpec.upto wireBurstsSpec)) wireBurstsUptoCard

/-- THE SECOND FORM's CARD OF 'schismalaw28.WireSums'. -/
def wireSumsUptoCard : Claim7 := { stood := { row := wireSumsUptoRow, standIns := [], harness := (true, "7e6438fd3ccf1b120b769f70abf24dc48ec6a9fbdc699ae3705e2442e5a4d0da"), looks := true }, kinds := [], alts := [], laidByText := true, laidKinds := [.handle, .data], laidTests := true, laidLooks := .later }
def WireSumsUptoCardSaid : Prop := Claim7.holds Tryd.pinned (.plain (OpenSpec.upto wireSumsSpec)) wireSumsUptoCard

/-- THE SECOND FORM's CARD OF 'schismalaw28.WireLengths'. -/
def wireLengthsUptoCard : Claim7 := { stood := { row := wireLengthsUptoRow, standIns := [], harness := (true, "7e6438fd3ccf1b120b769f70abf24dc48ec6a9fbdc699ae3705e2442e5a4d0da"), looks := true }, kinds := [], alts := [], laidByText := true, laidKinds := [.handle, .data], laidTests := true, laidLooks := .later }
def WireLengthsUptoCardSaid : Prop := Claim7.holds Tryd.pinned (.plain (OpenSpec.upto wireLengthsSpec)) wireLengthsUptoCard

/-- THE SECOND FORM's CARD OF 'schismalaw28.WireMatchesReference'. -/
def wireMatchesReferenceUptoCard : Claim7 := { stood := { row := wireMatchesReferenceUptoRow, standIns := [], harness := (true, "7e6438fd3ccf1b120b769f70abf24dc48ec6a9fbdc699ae3705e2442e5a4d0da"), looks := true }, kinds := [], alts := [], laidByText := true, laidKinds := [.handle, .data], laidTests := true, laidLooks := .later }
def WireMatchesReferenceUptoCardSaid : Prop := Claim7.holds Tryd.pinned (.plain (OpenSpec.upto wireMatchesReferenceSpec)) wireMatchesReferenceUptoCard

/-- THE SECOND FORM's CARD OF 'schismalaw28.WireStreams'. -/
def wireStreamsUptoCard : Claim7 := { stood := { row := wireStreamsUptoRow, standIns := [], harness := (true, "7e6438fd3ccf1b120b769f70abf24dc48ec6a9fbdc699ae3705e2442e5a4d0da"), looks := true }, kinds := [], alts := [], laidByText := true, laidKinds := [.handle, .data], laidTests := true, laidLooks := .later }
def WireStreamsUptoCardSaid : Prop := Claim7.holds Tryd.pinned (.plain (OpenSpec.upto wireStreamsSpec)) wireStreamsUptoCard
end Rows
end Go.Proofs.YtppcdppplbpklaaDoor
