/-
  DERIVED. GIVEN WITH THE SEED: THE CARDS: each row of YtaioeailgknfjaaGreatDoorRows.lean that lists a variable, with what it lists TIED to the program's text (the seventh form; the later family's looks); each row that meets fmt, with fmt's text TOLD by the authors' own Lean function (tested against real Go, not proved from fmt's source: count such statements apart). THE CARD IS WHAT COUNTS. Prove the row's statement (the work); the ties are given (YtaioeailgknfjaaGreatDoorTie.lean); close each card by the builder's one call (the guide's Derived/Test/ToyasCard.lean, 'card_holds'). Laid BY PROGRAM, IN A SANDBOX (cutbox-door.mjs). By AI agents, Wed Nov 11 2026. No macro, syntax, notation, axiom, sorry.
-/
import Derived.Test.YtaioeailgknfjaaGreatDoorRows
import GoSem.ClaimSeven
namespace Go.Proofs.YtaioeailgknfjaaGreatDoor
namespace Rows

/-- THE TIED CARD OF 'enclavelaw05.ParseMays'. -/
def parseMaysCard : Claim7 := { stood := { row := parseMaysRow, standIns := [], harness := (true, "0b45c9a2ebcd4e4b3b6fb77d613e3ddc2f69bb6f013adfd9d1e2be2adab69752"), looks := true }, kinds := [], alts := [], laidByText := true, laidKinds := [.data, .data, .data, .data, .sentinel, .sentinel, .pinned], laidTests := true, laidLooks := .later }
def ParseMaysCardSaid : Prop := Claim7.holds Tryz.pinned (.plain (OpenSpec.ofChange parseMaysSpec)) parseMaysCard

/-- THE TIED CARD OF 'enclavelaw05.ParseIs'. -/
def parseIsCard : Claim7 := { stood := { row := parseIsRow, standIns := [], harness := (true, "0b45c9a2ebcd4e4b3b6fb77d613e3ddc2f69bb6f013adfd9d1e2be2adab69752"), looks := true }, kinds := [], alts := [], laidByText := true, laidKinds := [.data, .data, .data, .data, .sentinel, .sentinel, .pinned], laidTests := true, laidLooks := .later }
def ParseIsCardSaid : Prop := Claim7.holds Tryz.pinned (.plain (OpenSpec.ofChange parseIsSpec)) parseIsCard

/-- THE TIED CARD OF 'enclavelaw06.ShowIs'. -/
def showIsCard : Claim7 := { stood := { row := showIsRow, standIns := [], harness := (true, "0b45c9a2ebcd4e4b3b6fb77d613e3ddc2f69bb6f013adfd9d1e2be2adab69752"), looks := true }, kinds := [], alts := [], laidByText := true, laidKinds := [.data, .data, .data, .data, .sentinel, .sentinel, .pinned], laidTests := true, laidLooks := .later }
def ShowIsCardSaid : Prop := Claim7.holds Tryz.pinned (.plain (OpenSpec.ofChange showIsSpec)) showIsCard

/-- THE TIED CARD OF 'enclavelaw06.ShowBack'. -/
def showBackCard : Claim7 := { stood := { row := showBackRow, standIns := [], harness := (true, "0b45c9a2ebcd4e4b3b6fb77d613e3ddc2f69bb6f013adfd9d1e2be2adab69752"), looks := true }, kinds := [], alts := [], laidByText := true, laidKinds := [.data, .data, .data, .data, .sentinel, .sentinel, .pinned], laidTests := true, laidLooks := .later }
def ShowBackCardSaid : Prop := Claim7.holds Tryz.pinned (.plain (OpenSpec.ofChange showBackSpec)) showBackCard

/-- THE TIED CARD OF 'enclavelaw06.ShowJoins'. -/
def showJoinsCard : Claim7 := { stood := { row := showJoinsRow, standIns := [], harness := (true, "0b45c9a2ebcd4e4b3b6fb77d613e3ddc2f69bb6f013adfd9d1e2be2adab69752"), looks := true }, kinds := [], alts := [], laidByText := true, laidKinds := [.data, .data, .data, .data, .sentinel, .sentinel, .pinned], laidTests := true, laidLooks := .later }
def ShowJoinsCardSaid : Prop := Claim7.holds Tryz.pinned (.plain (OpenSpec.ofChange showJoinsSpec)) showJoinsCard

/-- THE TIED CARD OF 'enclavelaw06.ShowPrograms'. -/
def showProgramsCard : Claim7 := { stood := { row := showProgramsRow, standIns := [], harness := (true, "0b45c9a2ebcd4e4b3b6fb77d613e3ddc2f69bb6f013adfd9d1e2be2adab69752"), looks := true }, kinds := [], alts := [], laidByText := true, laidKinds := [.data, .data, .data, .data, .sentinel, .sentinel, .pinned], laidTests := true, laidLooks := .later }
def ShowProgramsCardSaid : Prop := Claim7.holds Tryz.pinned (.plain (OpenSpec.ofChange showProgramsSpec)) showProgramsCard

/-- THE TIED CARD OF 'enclavelaw06.ShowStays'. -/
def showStaysCard : Claim7 := { stood := { row := showStaysRow, standIns := [], harness := (true, "0b45c9a2ebcd4e4b3b6fb77d613e3ddc2f69bb6f013adfd9d1e2be2adab69752"), looks := true }, kinds := [], alts := [], laidByText := true, laidKinds := [.data, .data, .data, .data, .sentinel, .sentinel, .pinned], laidTests := true, laidLooks := .later }
def ShowStaysCardSaid : Prop := Claim7.holds Tryz.pinned (.plain (OpenSpec.ofChange showStaysSpec)) showStaysCard

/-- THE SECOND FORM's CARD OF 'enclavelaw05.ParseMays'. -/
def parseMaysUptoCard : Claim7 := { stood := { row := parseMaysUptoRow, standIns := [], harness := (true, "0b45c9a2ebcd4e4b3b6fb77d613e3ddc2f69bb6f013adfd9d1e2be2adab69752"), looks := true }, kinds := [], alts := [], laidByText := true, laidKinds := [.data, .data, .data, .data, .sentinel, .sentinel, .pinned], laidTests := true, laidLooks := .later }
def ParseMaysUptoCardSaid : Prop := Claim7.holds Tryz.pinned (.plain (OpenSpec.upto parseMaysSpec)) parseMaysUptoCard

/-- THE SECOND FORM's CARD OF 'enclavelaw05.ParseIs'. -/
def parseIsUptoCard : Claim7 := { stood := { row := parseIsUptoRow, standIns := [], harness := (true, "0b45c9a2ebcd4e4b3b6fb77d613e3ddc2f69bb6f013adfd9d1e2be2adab69752"), looks := true }, kinds := [], alts := [], laidByText := true, laidKinds := [.data, .data, .data, .data, .sentinel, .sentinel, .pinned], laidTests := true, laidLooks := .later }
def ParseIsUptoCardSaid : Prop := Claim7.holds Tryz.pinned (.plain (OpenSpec.upto parseIsSpec)) parseIsUptoCard

/-- THE SECOND FORM's CARD OF 'enclavelaw06.ShowIs'. -/
def showIsUptoCard : Claim7 := { stood := { row := showIsUptoRow, standIns := [], harness := (true, "0b45c9a2ebcd4e4b3b6fb77d613e3ddc2f69bb6f013adfd9d1e2be2adab69752"), looks := true }, kinds := [], alts := [], laidByText := true, laidKinds := [.data, .data, .data, .data, .sentinel, .sentinel, .pinned], laidTests := true, laidLooks := .later }
def ShowIsUptoCardSaid : Prop := Claim7.holds Tryz.pinned (.plain (OpenSpec.upto showIsSpec)) showIsUptoCard

/-- THE SECOND FORM's CARD OF 'enclavelaw06.ShowBack'. -/
def showBackUptoCard : Claim7 := { stood := { row := showBackUptoRow, standIns := [], harness := (true, "0b45c9a2ebcd4e4b3b6fb77d613e3ddc2f69bb6f013adfd9d1e2be2adab69752"), looks := true }, kinds := [], alts := [], laidByText := true, laidKinds := [.data, .data, .data, .data, .sentinel, .sentinel, .pinned], laidTests := true, laidLooks := .later }
def ShowBackUptoCardSaid : Prop := Claim7.holds Tryz.pinned (.plain (OpenSpec.upto showBackSpec)) showBackUptoCard

/-- THE SECOND FORM's CARD OF 'enclavelaw06.ShowJoins'. -/
def showJoinsUptoCard : Claim7 := { stood := { row := showJoinsUptoRow, standIns := [], harness := (true, "0b45c9a2ebcd4e4b3b6fb77d613e3ddc2f69bb6f013adfd9d1e2be2adab69752"), looks := true }, kinds := [], alts := [], laidByText := true, laidKinds := [.data, .data, .data, .data, .sentinel, .sentinel, .pinned], laidTests := true, laidLooks := .later }
def ShowJoinsUptoCardSaid : Prop := Claim7.holds Tryz.pinned (.plain (OpenSpec.upto showJoinsSpec)) showJoinsUptoCard

/-- THE SECOND FORM's CARD OF 'enclavelaw06.ShowPrograms'. -/
def showProgramsUptoCard : Claim7 := { stood := { row := showProgramsUptoRow, standIns := [], harness := (true, "0b45c9a2ebcd4e4b3b6fb77d613e3ddc2f69bb6f013adfd9d1e2be2adab69752"), looks := true }, kinds := [], alts := [], laidByText := true, laidKinds := [.data, .data, .data, .data, .sentinel, .sentinel, .pinned], laidTests := true, laidLooks := .later }
def ShowProgramsUptoCardSaid : Prop := Claim7.holds Tryz.pinned (.plain (OpenSpec.upto showProgramsSpec)) showProgramsUptoCard

/-- THE SECOND FORM's CARD OF 'enclavelaw06.ShowStays'. -/
def showStaysUptoCard : Claim7 := { stood := { row := showStaysUptoRow, standIns := [], harness := (true, "0b45c9a2ebcd4e4b3b6fb77d613e3ddc2f69bb6f013adfd9d1e2be2adab69752"), looks := true }, kinds := [], alts := [], laidByText := true, laidKinds := [.data, .data, .data, .data, .sentinel, .sentinel, .pinned], laidTests := true, laidLooks := .later }
def ShowStaysUptoCardSaid : Prop := Claim7.holds Tryz.pinned (.plain (OpenSpec.upto showStaysSpec)) showStaysUptoCard
end Rows
end Go.Proofs.YtaioeailgknfjaaGreatDoor
