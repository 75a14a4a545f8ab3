/-
  DERIVED. GIVEN WITH THE SEED: THE CARDS: each row of YtipaapplingbnaaDoorRows.lean that lists a variable, with what it lists TIED to the program's text (the seventh form; the later family's looks); each row that meets fmt, with fmt's text TOLD by the authors' own Lean function (tested against real Go, not proved from fmt's source: count such statements apart). THE CARD IS WHAT COUNTS. Prove the row's statement (the work); the ties are given (YtipaapplingbnaaDoorTie.lean); close each card by the builder's one call (the guide's Derived/Test/ToyasCard.lean, 'card_holds'). Laid BY PROGRAM, IN A SANDBOX (cutbox-door.mjs). By AI agents, Wed Nov 11 2026. No macro, syntax, notation, axiom, sorry.
-/
import Derived.Test.YtipaapplingbnaaDoorRows
import GoSem.ClaimSeven
namespace Go.Proofs.YtipaapplingbnaaDoor
namespace Rows

/-- THE TIED CARD OF 'schismalaw08.CommaUnique'. -/
def commaUniqueCard : Claim7 := { stood := { row := commaUniqueRow, standIns := [], harness := (true, "a9d1e0274018cc362aa931d999610dbef1a8a24245f4ae9026dee832291c3e78"), looks := true }, kinds := [], alts := [], laidByText := true, laidKinds := [.data, .data, .data, .data, .sentinel, .sentinel, .pinned], laidTests := true, laidLooks := .later }
def CommaUniqueCardSaid : Prop := Claim7.holds Tryd.pinned (.plain (OpenSpec.ofChange commaUniqueSpec)) commaUniqueCard

/-- THE TIED CARD OF 'schismalaw08.CommaOrder'. -/
def commaOrderCard : Claim7 := { stood := { row := commaOrderRow, standIns := [], harness := (true, "a9d1e0274018cc362aa931d999610dbef1a8a24245f4ae9026dee832291c3e78"), looks := true }, kinds := [], alts := [], laidByText := true, laidKinds := [.data, .data, .data, .data, .sentinel, .sentinel, .pinned], laidTests := true, laidLooks := .later }
def CommaOrderCardSaid : Prop := Claim7.holds Tryd.pinned (.plain (OpenSpec.ofChange commaOrderSpec)) commaOrderCard

/-- THE TIED CARD OF 'schismalaw08.CommaText'. -/
def commaTextCard : Claim7 := { stood := { row := commaTextRow, standIns := [], harness := (true, "a9d1e0274018cc362aa931d999610dbef1a8a24245f4ae9026dee832291c3e78"), looks := true }, kinds := [], alts := [], laidByText := true, laidKinds := [.data, .data, .data, .data, .sentinel, .sentinel, .pinned], laidTests := true, laidLooks := .later }
def CommaTextCardSaid : Prop := Claim7.holds Tryd.pinned (.plain (OpenSpec.ofChange commaTextSpec)) commaTextCard

/-- THE TIED CARD OF 'schismalaw08.CommaWalk'. -/
def commaWalkCard : Claim7 := { stood := { row := commaWalkRow, standIns := [], harness := (true, "a9d1e0274018cc362aa931d999610dbef1a8a24245f4ae9026dee832291c3e78"), looks := true }, kinds := [], alts := [], laidByText := true, laidKinds := [.data, .data, .data, .data, .sentinel, .sentinel, .pinned], laidTests := true, laidLooks := .later }
def CommaWalkCardSaid : Prop := Claim7.holds Tryd.pinned (.plain (OpenSpec.ofChange commaWalkSpec)) commaWalkCard

/-- THE TIED CARD OF 'schismalaw08.CommaFewer'. -/
def commaFewerCard : Claim7 := { stood := { row := commaFewerRow, standIns := [], harness := (true, "a9d1e0274018cc362aa931d999610dbef1a8a24245f4ae9026dee832291c3e78"), looks := true }, kinds := [], alts := [], laidByText := true, laidKinds := [.data, .data, .data, .data, .sentinel, .sentinel, .pinned], laidTests := true, laidLooks := .later }
def CommaFewerCardSaid : Prop := Claim7.holds Tryd.pinned (.plain (OpenSpec.ofChange commaFewerSpec)) commaFewerCard

/-- THE SECOND FORM's CARD OF 'schismalaw08.CommaUnique'. -/
def commaUniqueUptoCard : Claim7 := { stood := { row := commaUniqueUptoRow, standIns := [], harness := (true, "a9d1e0274018cc362aa931d999610dbef1a8a24245f4ae9026dee832291c3e78"), looks := true }, kinds := [], alts := [], laidByText := true, laidKinds := [.data, .data, .data, .data, .sentinel, .sentinel, .pinned], laidTests := true, laidLooks := .later }
def CommaUniqueUptoCardSaid : Prop := Claim7.holds Tryd.pinned (.plain (OpenSpec.upto commaUniqueSpec)) commaUniqueUptoCard

/-- THE SECOND FORM's CARD OF 'schismalaw08.CommaOrder'. -/
def commaOrderUptoCard : Claim7 := { stood := { row := commaOrderUptoRow, standIns := [], harness := (true, "a9d1e0274018cc362aa931d999610dbef1a8a24245f4ae9026dee832291c3e78"), looks := true }, kinds := [], alts := [], laidByText := true, laidKinds := [.data, .data, .data, .data, .sentinel, .sentinel, .pinned], laidTests := true, laidLooks := .later }
def CommaOrderUptoCardSaid : Prop := Claim7.holds Tryd.pinned (.plain (OpenSpec.upto commaOrderSpec)) commaOrderUptoCard

/-- THE SECOND FORM's CARD OF 'schismalaw08.CommaText'. -/
def commaTextUptoCard : Claim7 := { stood := { row := commaTextUptoRow, standIns := [], harness := (true, "a9d1e0274018cc362aa931d999610dbef1a8a24245f4ae9026dee832291c3e78"), looks := true }, kinds := [], alts := [], laidByText := true, laidKinds := [.data, .data, .data, .data, .sentinel, .sentinel, .pinned], laidTests := true, laidLooks := .later }
def CommaTextUptoCardSaid : Prop := Claim7.holds Tryd.pinned (.plain (OpenSpec.upto commaTextSpec)) commaTextUptoCard

/-- THE SECOND FORM's CARD OF 'schismalaw08.CommaWalk'. -/
def commaWalkUptoCard : Claim7 := { stood := { row := commaWalkUptoRow, standIns := [], harness := (true, "a9d1e0274018cc362aa931d999610dbef1a8a24245f4ae9026dee832291c3e78"), looks := true }, kinds := [], alts := [], laidByText := true, laidKinds := [.data, .data, .data, .data, .sentinel, .sentinel, .pinned], laidTests := true, laidLooks := .later }
def CommaWalkUptoCardSaid : Prop := Claim7.holds Tryd.pinned (.plain (OpenSpec.upto commaWalkSpec)) commaWalkUptoCard

/-- THE SECOND FORM's CARD OF 'schismalaw08.CommaFewer'. -/
def commaFewerUptoCard : Claim7 := { stood := { row := commaFewerUptoRow, standIns := [], harness := (true, "a9d1e0274018cc362aa931d999610dbef1a8a24245f4ae9026dee832291c3e78"), looks := true }, kinds := [], alts := [], laidByText := true, laidKinds := [.data, .data, .data, .data, .sentinel, .sentinel, .pinned], laidTests := true, laidLooks := .later }
def CommaFewerUptoCardSaid : Prop := Claim7.holds Tryd.pinned (.plain (OpenSpec.upto commaFewerSpec)) commaFewerUptoCard
end Rows
end Go.Proofs.YtipaapplingbnaaDoor
