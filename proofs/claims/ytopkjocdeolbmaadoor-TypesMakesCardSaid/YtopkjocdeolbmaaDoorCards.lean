/-
  DERIVED. GIVEN WITH THE SEED: THE CARDS: each row of YtopkjocdeolbmaaDoorRows.lean that lists a variable, with what it lists TIED to the program's text (the seventh form; the later family's looks); each row that meets fmt, with fmt's text TOLD by the authors' own Lean function (tested against real Go, not proved from fmt's source: count such statements apart). THE CARD IS WHAT COUNTS. Prove the row's statement (the work); the ties are given (YtopkjocdeolbmaaDoorTie.lean); close each card by the builder's one call (the guide's Derived/Test/ToyasCard.lean, 'card_holds'). Laid BY PROGRAM, IN A SANDBOX (cutbox-door.mjs). By AI agents, Wed Nov 11 2026. No macro, syntax, notation, axiom, sorry.
-/
import Derived.Test.YtopkjocdeolbmaaDoorRows
import GoSem.ClaimSeven
namespace Go.Proofs.YtopkjocdeolbmaaDoor
namespace Rows

/-- THE TIED CARD OF 'enclavelaw08.TypesMakes'. -/
def typesMakesCard : Claim7 := { stood := { row := typesMakesRow, standIns := [], harness := (true, "be157e3fce5fbbac797310fd6072830c54ec9e4da1689c2745117df4fb476046"), looks := false }, kinds := [], alts := [], laidByText := true, laidKinds := [.data, .data, .data], laidTests := true, laidLooks := .later }
def TypesMakesCardSaid : Prop := Claim7.holds Tryd.pinned (.plain (OpenSpec.ofChange typesMakesSpec)) typesMakesCard

/-- THE TIED CARD OF 'enclavelaw08.TypesParts'. -/
def typesPartsCard : Claim7 := { stood := { row := typesPartsRow, standIns := [], harness := (true, "be157e3fce5fbbac797310fd6072830c54ec9e4da1689c2745117df4fb476046"), looks := false }, kinds := [], alts := [], laidByText := true, laidKinds := [.data, .data, .data], laidTests := true, laidLooks := .later }
def TypesPartsCardSaid : Prop := Claim7.holds Tryd.pinned (.plain (OpenSpec.ofChange typesPartsSpec)) typesPartsCard

/-- THE TIED CARD OF 'enclavelaw08.TypesMany'. -/
def typesManyCard : Claim7 := { stood := { row := typesManyRow, standIns := [], harness := (true, "be157e3fce5fbbac797310fd6072830c54ec9e4da1689c2745117df4fb476046"), looks := false }, kinds := [], alts := [], laidByText := true, laidKinds := [.data, .data, .data], laidTests := true, laidLooks := .later }
def TypesManyCardSaid : Prop := Claim7.holds Tryd.pinned (.plain (OpenSpec.ofChange typesManySpec)) typesManyCard

/-- THE TIED CARD OF 'enclavelaw08.TypesIs'. -/
def typesIsCard : Claim7 := { stood := { row := typesIsRow, standIns := [], harness := (true, "be157e3fce5fbbac797310fd6072830c54ec9e4da1689c2745117df4fb476046"), looks := false }, kinds := [], alts := [], laidByText := true, laidKinds := [.data, .data, .data], laidTests := true, laidLooks := .later }
def TypesIsCardSaid : Prop := Claim7.holds Tryd.pinned (.plain (OpenSpec.ofChange typesIsSpec)) typesIsCard

/-- THE TIED CARD OF 'enclavelaw08.TypesSame'. -/
def typesSameCard : Claim7 := { stood := { row := typesSameRow, standIns := [], harness := (true, "be157e3fce5fbbac797310fd6072830c54ec9e4da1689c2745117df4fb476046"), looks := false }, kinds := [], alts := [], laidByText := true, laidKinds := [.data, .data, .data], laidTests := true, laidLooks := .later }
def TypesSameCardSaid : Prop := Claim7.holds Tryd.pinned (.plain (OpenSpec.ofChange typesSameSpec)) typesSameCard

/-- THE SECOND FORM's CARD OF 'enclavelaw08.TypesMakes'. -/
def typesMakesUptoCard : Claim7 := { stood := { row := typesMakesUptoRow, standIns := [], harness := (true, "be157e3fce5fbbac797310fd6072830c54ec9e4da1689c2745117df4fb476046"), looks := false }, kinds := [], alts := [], laidByText := true, laidKinds := [.data, .data, .data], laidTests := true, laidLooks := .later }
def TypesMakesUptoCardSaid : Prop := Claim7.holds Tryd.pinned (.plain (OpenSpec.upto typesMakesSpec)) typesMakesUptoCard

/-- THE SECOND FORM's CARD OF 'enclavelaw08.TypesParts'. -/
def typesPartsUptoCard : Claim7 := { stood := { row := typesPartsUptoRow, standIns := [], harness := (true, "be157e3fce5fbbac797310fd6072830c54ec9e4da1689c2745117df4fb476046"), looks := false }, kinds := [], alts := [], laidByText := true, laidKinds := [.data, .data, .data], laidTests := true, laidLooks := .later }
def TypesPartsUptoCardSaid : Prop := Claim7.holds Tryd.pinned (.plain (OpenSpec.upto typesPartsSpec)) typesPartsUptoCard

/-- THE SECOND FORM's CARD OF 'enclavelaw08.TypesMany'. -/
def typesManyUptoCard : Claim7 := { stood := { row := typesManyUptoRow, standIns := [], harness := (true, "be157e3fce5fbbac797310fd6072830c54ec9e4da1689c2745117df4fb476046"), looks := false }, kinds := [], alts := [], laidByText := true, laidKinds := [.data, .data, .data], laidTests := true, laidLooks := .later }
def TypesManyUptoCardSaid : Prop := Claim7.holds Tryd.pinned (.plain (OpenSpec.upto typesManySpec)) typesManyUptoCard

/-- THE SECOND FORM's CARD OF 'enclavelaw08.TypesIs'. -/
def typesIsUptoCard : Claim7 := { stood := { row := typesIsUptoRow, standIns := [], harness := (true, "be157e3fce5fbbac797310fd6072830c54ec9e4da1689c2745117df4fb476046"), looks := false }, kinds := [], alts := [], laidByText := true, laidKinds := [.data, .data, .data], laidTests := true, laidLooks := .later }
def TypesIsUptoCardSaid : Prop := Claim7.holds Tryd.pinned (.plain (OpenSpec.upto typesIsSpec)) typesIsUptoCard

/-- THE SECOND FORM's CARD OF 'enclavelaw08.TypesSame'. -/
def typesSameUptoCard : Claim7 := { stood := { row := typesSameUptoRow, standIns := [], harness := (true, "be157e3fce5fbbac797310fd6072830c54ec9e4da1689c2745117df4fb476046"), looks := false }, kinds := [], alts := [], laidByText := true, laidKinds := [.data, .data, .data], laidTests := true, laidLooks := .later }
def TypesSameUptoCardSaid : Prop := Claim7.holds Tryd.pinned (.plain (OpenSpec.upto typesSameSpec)) typesSameUptoCard
end Rows
end Go.Proofs.YtopkjocdeolbmaaDoor
