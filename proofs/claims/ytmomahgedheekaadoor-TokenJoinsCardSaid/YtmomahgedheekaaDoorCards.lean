/-
  DERIVED. GIVEN WITH THE SEED: THE CARDS: each row of YtmomahgedheekaaDoorRows.lean that lists a variable, with what it lists TIED to the program's text (the seventh form; the later family's looks); each row that meets fmt, with fmt's text TOLD by the authors' own Lean function (tested against real Go, not proved from fmt's source: count such statements apart). THE CARD IS WHAT COUNTS. Prove the row's statement (the work); the ties are given (YtmomahgedheekaaDoorTie.lean); close each card by the builder's one call (the guide's Derived/Test/ToyasCard.lean, 'card_holds'). Laid BY PROGRAM, IN A SANDBOX (cutbox-door.mjs). By AI agents, Wed Nov 11 2026. No macro, syntax, notation, axiom, sorry.
-/
import Derived.Test.YtmomahgedheekaaDoorRows
import GoSem.ClaimSeven
namespace Go.Proofs.YtmomahgedheekaaDoor
namespace Rows

/-- THE TIED CARD OF 'enclavelaw18.ValueApart'. -/
def valueApartCard : Claim7 := { stood := { row := valueApartRow, standIns := [], harness := (true, "a4ecc201ead65b4eb08a1cf72206fe890b584e67ccfede3acdc89d191c5e73d0"), looks := true }, kinds := [], alts := [], laidByText := true, laidKinds := [.data, .data, .data], laidTests := true, laidLooks := .later }
def ValueApartCardSaid : Prop := Claim7.holds Tryd.pinned (.plain (OpenSpec.ofChange valueApartSpec)) valueApartCard

/-- THE TIED CARD OF 'enclavelaw18.ValueMakes'. -/
def valueMakesCard : Claim7 := { stood := { row := valueMakesRow, standIns := [], harness := (true, "a4ecc201ead65b4eb08a1cf72206fe890b584e67ccfede3acdc89d191c5e73d0"), looks := true }, kinds := [], alts := [], laidByText := true, laidKinds := [.data, .data, .data], laidTests := true, laidLooks := .later }
def ValueMakesCardSaid : Prop := Claim7.holds Tryd.pinned (.plain (OpenSpec.ofChange valueMakesSpec)) valueMakesCard

/-- THE TIED CARD OF 'enclavelaw07.ScopeIs'. -/
def scopeIsCard : Claim7 := { stood := { row := scopeIsRow, standIns := [], harness := (true, "a4ecc201ead65b4eb08a1cf72206fe890b584e67ccfede3acdc89d191c5e73d0"), looks := true }, kinds := [], alts := [], laidByText := true, laidKinds := [.data, .pinned], laidTests := true, laidLooks := .later }
def ScopeIsCardSaid : Prop := Claim7.holds Tryd.pinned (.plain (OpenSpec.ofChange scopeIsSpec)) scopeIsCard

/-- THE TIED CARD OF 'enclavelaw07.ScopeBinds'. -/
def scopeBindsCard : Claim7 := { stood := { row := scopeBindsRow, standIns := [], harness := (true, "a4ecc201ead65b4eb08a1cf72206fe890b584e67ccfede3acdc89d191c5e73d0"), looks := true }, kinds := [], alts := [], laidByText := true, laidKinds := [.data, .pinned], laidTests := true, laidLooks := .later }
def ScopeBindsCardSaid : Prop := Claim7.holds Tryd.pinned (.plain (OpenSpec.ofChange scopeBindsSpec)) scopeBindsCard

/-- THE TIED CARD OF 'enclavelaw07.ScopeNames'. -/
def scopeNamesCard : Claim7 := { stood := { row := scopeNamesRow, standIns := [], harness := (true, "a4ecc201ead65b4eb08a1cf72206fe890b584e67ccfede3acdc89d191c5e73d0"), looks := true }, kinds := [], alts := [], laidByText := true, laidKinds := [.data, .pinned], laidTests := true, laidLooks := .later }
def ScopeNamesCardSaid : Prop := Claim7.holds Tryd.pinned (.plain (OpenSpec.ofChange scopeNamesSpec)) scopeNamesCard

/-- THE TIED CARD OF 'enclavelaw07.ScopeClosed'. -/
def scopeClosedCard : Claim7 := { stood := { row := scopeClosedRow, standIns := [], harness := (true, "a4ecc201ead65b4eb08a1cf72206fe890b584e67ccfede3acdc89d191c5e73d0"), looks := true }, kinds := [], alts := [], laidByText := true, laidKinds := [.data, .pinned], laidTests := true, laidLooks := .later }
def ScopeClosedCardSaid : Prop := Claim7.holds Tryd.pinned (.plain (OpenSpec.ofChange scopeClosedSpec)) scopeClosedCard

/-- THE TIED CARD OF 'enclavelaw07.ScopeTogether'. -/
def scopeTogetherCard : Claim7 := { stood := { row := scopeTogetherRow, standIns := [], harness := (true, "a4ecc201ead65b4eb08a1cf72206fe890b584e67ccfede3acdc89d191c5e73d0"), looks := true }, kinds := [], alts := [], laidByText := true, laidKinds := [.data, .pinned], laidTests := true, laidLooks := .later }
def ScopeTogetherCardSaid : Prop := Claim7.holds Tryd.pinned (.plain (OpenSpec.ofChange scopeTogetherSpec)) scopeTogetherCard

/-- THE TIED CARD OF 'enclavelaw18.ValueIs'. -/
def valueIsCard : Claim7 := { stood := { row := valueIsRow, standIns := [], harness := (true, "a4ecc201ead65b4eb08a1cf72206fe890b584e67ccfede3acdc89d191c5e73d0"), looks := true }, kinds := [], alts := [], laidByText := true, laidKinds := [.data, .data, .data, .data, .sentinel, .sentinel, .pinned], laidTests := true, laidLooks := .later }
def ValueIsCardSaid : Prop := Claim7.holds Tryd.pinned (.plain (OpenSpec.ofChange valueIsSpec)) valueIsCard

/-- THE TIED CARD OF 'enclavelaw18.ValueReads'. -/
def valueReadsCard : Claim7 := { stood := { row := valueReadsRow, standIns := [], harness := (true, "a4ecc201ead65b4eb08a1cf72206fe890b584e67ccfede3acdc89d191c5e73d0"), looks := true }, kinds := [], alts := [], laidByText := true, laidKinds := [.data, .data, .data, .data, .sentinel, .sentinel, .pinned], laidTests := true, laidLooks := .later }
def ValueReadsCardSaid : Prop := Claim7.holds Tryd.pinned (.plain (OpenSpec.ofChange valueReadsSpec)) valueReadsCard

/-- THE TIED CARD OF 'enclavelaw03.TokenCuts'. -/
def tokenCutsCard : Claim7 := { stood := { row := tokenCutsRow, standIns := [], harness := (true, "a4ecc201ead65b4eb08a1cf72206fe890b584e67ccfede3acdc89d191c5e73d0"), looks := true }, kinds := [], alts := [], laidByText := true, laidKinds := [.data, .data, .data, .data, .sentinel, .sentinel, .pinned], laidTests := true, laidLooks := .later }
def TokenCutsCardSaid : Prop := Claim7.holds Tryd.pinned (.plain (OpenSpec.ofChange tokenCutsSpec)) tokenCutsCard

/-- THE TIED CARD OF 'enclavelaw03.TokenJoins'. -/
def tokenJoinsCard : Claim7 := { stood := { row := tokenJoinsRow, standIns := [], harness := (true, "a4ecc201ead65b4eb08a1cf72206fe890b584e67ccfede3acdc89d191c5e73d0"), looks := true }, kinds := [], alts := [], laidByText := true, laidKinds := [.data, .data, .data, .data, .sentinel, .sentinel, .pinned], laidTests := true, laidLooks := .later }
def TokenJoinsCardSaid : Prop := Claim7.holds Tryd.pinned (.plain (OpenSpec.ofChange tokenJoinsSpec)) tokenJoinsCard

/-- THE TIED CARD OF 'enclavelaw03.TokenPlaces'. -/
def tokenPlacesCard : Claim7 := { stood := { row := tokenPlacesRow, standIns := [], harness := (true, "a4ecc201ead65b4eb08a1cf72206fe890b584e67ccfede3acdc89d191c5e73d0"), looks := true }, kinds := [], alts := [], laidByText := true, laidKinds := [.data, .data, .data, .data, .sentinel, .sentinel, .pinned], laidTests := true, laidLooks := .later }
def TokenPlacesCardSaid : Prop := Claim7.holds Tryd.pinned (.plain (OpenSpec.ofChange tokenPlacesSpec)) tokenPlacesCard

/-- THE TIED CARD OF 'enclavelaw03.TokenLong'. -/
def tokenLongCard : Claim7 := { stood := { row := tokenLongRow, standIns := [], harness := (true, "a4ecc201ead65b4eb08a1cf72206fe890b584e67ccfede3acdc89d191c5e73d0"), looks := true }, kinds := [], alts := [], laidByText := true, laidKinds := [.data, .data, .data, .data, .sentinel, .sentinel, .pinned], laidTests := true, laidLooks := .later }
def TokenLongCardSaid : Prop := Claim7.holds Tryd.pinned (.plain (OpenSpec.ofChange tokenLongSpec)) tokenLongCard

/-- THE TIED CARD OF 'enclavelaw03.TokenBlanks'. -/
def tokenBlanksCard : Claim7 := { stood := { row := tokenBlanksRow, standIns := [], harness := (true, "a4ecc201ead65b4eb08a1cf72206fe890b584e67ccfede3acdc89d191c5e73d0"), looks := true }, kinds := [], alts := [], laidByText := true, laidKinds := [.data, .data, .data, .data, .sentinel, .sentinel, .pinned], laidTests := true, laidLooks := .later }
def TokenBlanksCardSaid : Prop := Claim7.holds Tryd.pinned (.plain (OpenSpec.ofChange tokenBlanksSpec)) tokenBlanksCard

/-- THE SECOND FORM's CARD OF 'enclavelaw18.ValueApart'. -/
def valueApartUptoCard : Claim7 := { stood := { row := valueApartUptoRow, standIns := [], harness := (true, "a4ecc201ead65b4eb08a1cf72206fe890b584e67ccfede3acdc89d191c5e73d0"), looks := true }, kinds := [], alts := [], laidByText := true, laidKinds := [.data, .data, .data], laidTests := true, laidLooks := .later }
def ValueApartUptoCardSaid : Prop := Claim7.holds Tryd.pinned (.plain (OpenSpec.upto valueApartSpec)) valueApartUptoCard

/-- THE SECOND FORM's CARD OF 'enclavelaw18.ValueMakes'. -/
def valueMakesUptoCard : Claim7 := { stood := { row := valueMakesUptoRow, standIns := [], harness := (true, "a4ecc201ead65b4eb08a1cf72206fe890b584e67ccfede3acdc89d191c5e73d0"), looks := true }, kinds := [], alts := [], laidByText := true, laidKinds := [.data, .data, .data], laidTests := true, laidLooks := .later }
def ValueMakesUptoCardSaid : Prop := Claim7.holds Tryd.pinned (.plain (OpenSpec.upto valueMakesSpec)) valueMakesUptoCard

/-- THE SECOND FORM's CARD OF 'enclavelaw07.ScopeIs'. -/
def scopeIsUptoCard : Claim7 := { stood := { row := scopeIsUptoRow, standIns := [], harness := (true, "a4ecc201ead65b4eb08a1cf72206fe890b584e67ccfede3acdc89d191c5e73d0"), looks := true }, kinds := [], alts := [], laidByText := true, laidKinds := [.data, .pinned], laidTests := true, laidLooks := .later }
def ScopeIsUptoCardSaid : Prop := Claim7.holds Tryd.pinned (.plain (OpenSpec.upto scopeIsSpec)) scopeIsUptoCard

/-- THE SECOND FORM's CARD OF 'enclavelaw07.ScopeBinds'. -/
def scopeBindsUptoCard : Claim7 := { stood := { row := scopeBindsUptoRow, standIns := [], harness := (true, "a4ecc201ead65b4eb08a1cf72206fe890b584e67ccfede3acdc89d191c5e73d0"), looks := true }, kinds := [], alts := [], laidByText := true, laidKinds := [.data, .pinned], laidTests := true, laidLooks := .later }
def ScopeBindsUptoCardSaid : Prop := Claim7.holds Tryd.pinned (.plain (OpenSpec.upto scopeBindsSpec)) scopeBindsUptoCard

/-- THE SECOND FORM's CARD OF 'enclavelaw07.ScopeNames'. -/
def scopeNamesUptoCard : Claim7 := { stood := { row := scopeNamesUptoRow, standIns := [], harness := (true, "a4ecc201ead65b4eb08a1cf72206fe890b584e67ccfede3acdc89d191c5e73d0"), looks := true }, kinds := [], alts := [], laidByText := true, laidKinds := [.data, .pinned], laidTests := true, laidLooks := .later }
def ScopeNamesUptoCardSaid : Prop := Claim7.holds Tryd.pinned (.plain (OpenSpec.upto scopeNamesSpec)) scopeNamesUptoCard

/-- THE SECOND FORM's CARD OF 'enclavelaw07.ScopeClosed'. -/
def scopeClosedUptoCard : Claim7 := { stood := { row := scopeClosedUptoRow, standIns := [], harness := (true, "a4ecc201ead65b4eb08a1cf72206fe890b584e67ccfede3acdc89d191c5e73d0"), looks := true }, kinds := [], alts := [], laidByText := true, laidKinds := [.data, .pinned], laidTests := true, laidLooks := .later }
def ScopeClosedUptoCardSaid : Prop := Claim7.holds Tryd.pinned (.plain (OpenSpec.upto scopeClosedSpec)) scopeClosedUptoCard

/-- THE SECOND FORM's CARD OF 'enclavelaw07.ScopeTogether'. -/
def scopeTogetherUptoCard : Claim7 := { stood := { row := scopeTogetherUptoRow, standIns := [], harness := (true, "a4ecc201ead65b4eb08a1cf72206fe890b584e67ccfede3acdc89d191c5e73d0"), looks := true }, kinds := [], alts := [], laidByText := true, laidKinds := [.data, .pinned], laidTests := true, laidLooks := .later }
def ScopeTogetherUptoCardSaid : Prop := Claim7.holds Tryd.pinned (.plain (OpenSpec.upto scopeTogetherSpec)) scopeTogetherUptoCard

/-- THE SECOND FORM's CARD OF 'enclavelaw18.ValueIs'. -/
def valueIsUptoCard : Claim7 := { stood := { row := valueIsUptoRow, standIns := [], harness := (true, "a4ecc201ead65b4eb08a1cf72206fe890b584e67ccfede3acdc89d191c5e73d0"), looks := true }, kinds := [], alts := [], laidByText := true, laidKinds := [.data, .data, .data, .data, .sentinel, .sentinel, .pinned], laidTests := true, laidLooks := .later }
def ValueIsUptoCardSaid : Prop := Claim7.holds Tryd.pinned (.plain (OpenSpec.upto valueIsSpec)) valueIsUptoCard

/-- THE SECOND FORM's CARD OF 'enclavelaw18.ValueReads'. -/
def valueReadsUptoCard : Claim7 := { stood := { row := valueReadsUptoRow, standIns := [], harness := (true, "a4ecc201ead65b4eb08a1cf72206fe890b584e67ccfede3acdc89d191c5e73d0"), looks := true }, kinds := [], alts := [], laidByText := true, laidKinds := [.data, .data, .data, .data, .sentinel, .sentinel, .pinned], laidTests := true, laidLooks := .later }
def ValueReadsUptoCardSaid : Prop := Claim7.holds Tryd.pinned (.plain (OpenSpec.upto valueReadsSpec)) valueReadsUptoCard

/-- THE SECOND FORM's CARD OF 'enclavelaw03.TokenCuts'. -/
def tokenCutsUptoCard : Claim7 := { stood := { row := tokenCutsUptoRow, standIns := [], harness := (true, "a4ecc201ead65b4eb08a1cf72206fe890b584e67ccfede3acdc89d191c5e73d0"), looks := true }, kinds := [], alts := [], laidByText := true, laidKinds := [.data, .data, .data, .data, .sentinel, .sentinel, .pinned], laidTests := true, laidLooks := .later }
def TokenCutsUptoCardSaid : Prop := Claim7.holds Tryd.pinned (.plain (OpenSpec.upto tokenCutsSpec)) tokenCutsUptoCard

/-- THE SECOND FORM's CARD OF 'enclavelaw03.TokenJoins'. -/
def tokenJoinsUptoCard : Claim7 := { stood := { row := tokenJoinsUptoRow, standIns := [], harness := (true, "a4ecc201ead65b4eb08a1cf72206fe890b584e67ccfede3acdc89d191c5e73d0"), looks := true }, kinds := [], alts := [], laidByText := true, laidKinds := [.data, .data, .data, .data, .sentinel, .sentinel, .pinned], laidTests := true, laidLooks := .later }
def TokenJoinsUptoCardSaid : Prop := Claim7.holds Tryd.pinned (.plain (OpenSpec.upto tokenJoinsSpec)) tokenJoinsUptoCard

/-- THE SECOND FORM's CARD OF 'enclavelaw03.TokenPlaces'. -/
def tokenPlacesUptoCard : Claim7 := { stood := { row := tokenPlacesUptoRow, standIns := [], harness := (true, "a4ecc201ead65b4eb08a1cf72206fe890b584e67ccfede3acdc89d191c5e73d0"), looks := true }, kinds := [], alts := [], laidByText := true, laidKinds := [.data, .data, .data, .data, .sentinel, .sentinel, .pinned], laidTests := true, laidLooks := .later }
def TokenPlacesUptoCardSaid : Prop := Claim7.holds Tryd.pinned (.plain (OpenSpec.upto tokenPlacesSpec)) tokenPlacesUptoCard

/-- THE SECOND FORM's CARD OF 'enclavelaw03.TokenLong'. -/
def tokenLongUptoCard : Claim7 := { stood := { row := tokenLongUptoRow, standIns := [], harness := (true, "a4ecc201ead65b4eb08a1cf72206fe890b584e67ccfede3acdc89d191c5e73d0"), looks := true }, kinds := [], alts := [], laidByText := true, laidKinds := [.data, .data, .data, .data, .sentinel, .sentinel, .pinned], laidTests := true, laidLooks := .later }
def TokenLongUptoCardSaid : Prop := Claim7.holds Tryd.pinned (.plain (OpenSpec.upto tokenLongSpec)) tokenLongUptoCard

/-- THE SECOND FORM's CARD OF 'enclavelaw03.TokenBlanks'. -/
def tokenBlanksUptoCard : Claim7 := { stood := { row := tokenBlanksUptoRow, standIns := [], harness := (true, "a4ecc201ead65b4eb08a1cf72206fe890b584e67ccfede3acdc89d191c5e73d0"), looks := true }, kinds := [], alts := [], laidByText := true, laidKinds := [.data, .data, .data, .data, .sentinel, .sentinel, .pinned], laidTests := true, laidLooks := .later }
def TokenBlanksUptoCardSaid : Prop := Claim7.holds Tryd.pinned (.plain (OpenSpec.upto tokenBlanksSpec)) tokenBlanksUptoCard
end Rows
end Go.Proofs.YtmomahgedheekaaDoor
