/-
  DERIVED. GIVEN WITH THE SEED: THE CARDS: each row of YtljpbikcpjocmaaDoorRows.lean that lists a variable, with what it lists TIED to the program's text (the seventh form; the later family's looks); each row that meets fmt, with fmt's text TOLD by the authors' own Lean function (tested against real Go, not proved from fmt's source: count such statements apart). THE CARD IS WHAT COUNTS. Prove the row's statement (the work); the ties are given (YtljpbikcpjocmaaDoorTie.lean); close each card by the builder's one call (the guide's Derived/Test/ToyasCard.lean, 'card_holds'). Laid BY PROGRAM, IN A SANDBOX (cutbox-door.mjs). By AI agents, Wed Nov 11 2026. No macro, syntax, notation, axiom, sorry.
-/
import Derived.Test.YtljpbikcpjocmaaDoorRows
import GoSem.ClaimSeven
namespace Go.Proofs.YtljpbikcpjocmaaDoor
namespace Rows

/-- THE TIED CARD OF 'enclavelaw02.WordsAll'. -/
def wordsAllCard : Claim7 := { stood := { row := wordsAllRow, standIns := [], harness := (true, "330a2c286512640873582d75660accca75a35340cb97314b737dddca6ba4c5a7"), looks := true }, kinds := [], alts := [], laidByText := true, laidKinds := [.data, .pinned], laidTests := true, laidLooks := .later }
def WordsAllCardSaid : Prop := Claim7.holds Tryd.pinned (.plain (OpenSpec.ofChange wordsAllSpec)) wordsAllCard

/-- THE TIED CARD OF 'enclavelaw02.WordsLonger'. -/
def wordsLongerCard : Claim7 := { stood := { row := wordsLongerRow, standIns := [], harness := (true, "330a2c286512640873582d75660accca75a35340cb97314b737dddca6ba4c5a7"), looks := true }, kinds := [], alts := [], laidByText := true, laidKinds := [.data, .pinned], laidTests := true, laidLooks := .later }
def WordsLongerCardSaid : Prop := Claim7.holds Tryd.pinned (.plain (OpenSpec.ofChange wordsLongerSpec)) wordsLongerCard

/-- THE TIED CARD OF 'enclavelaw04.TermMays'. -/
def termMaysCard : Claim7 := { stood := { row := termMaysRow, standIns := [], harness := (true, "330a2c286512640873582d75660accca75a35340cb97314b737dddca6ba4c5a7"), looks := true }, kinds := [], alts := [], laidByText := true, laidKinds := [.data, .pinned], laidTests := true, laidLooks := .later }
def TermMaysCardSaid : Prop := Claim7.holds Tryd.pinned (.plain (OpenSpec.ofChange termMaysSpec)) termMaysCard

/-- THE TIED CARD OF 'enclavelaw04.TermMany'. -/
def termManyCard : Claim7 := { stood := { row := termManyRow, standIns := [], harness := (true, "330a2c286512640873582d75660accca75a35340cb97314b737dddca6ba4c5a7"), looks := true }, kinds := [], alts := [], laidByText := true, laidKinds := [.data, .pinned], laidTests := true, laidLooks := .later }
def TermManyCardSaid : Prop := Claim7.holds Tryd.pinned (.plain (OpenSpec.ofChange termManySpec)) termManyCard

/-- THE TIED CARD OF 'enclavelaw04.TermCounts'. -/
def termCountsCard : Claim7 := { stood := { row := termCountsRow, standIns := [], harness := (true, "330a2c286512640873582d75660accca75a35340cb97314b737dddca6ba4c5a7"), looks := true }, kinds := [], alts := [], laidByText := true, laidKinds := [.data, .pinned], laidTests := true, laidLooks := .later }
def TermCountsCardSaid : Prop := Claim7.holds Tryd.pinned (.plain (OpenSpec.ofChange termCountsSpec)) termCountsCard

/-- THE TIED CARD OF 'enclavelaw04.TermSums'. -/
def termSumsCard : Claim7 := { stood := { row := termSumsRow, standIns := [], harness := (true, "330a2c286512640873582d75660accca75a35340cb97314b737dddca6ba4c5a7"), looks := true }, kinds := [], alts := [], laidByText := true, laidKinds := [.data, .pinned], laidTests := true, laidLooks := .later }
def TermSumsCardSaid : Prop := Claim7.holds Tryd.pinned (.plain (OpenSpec.ofChange termSumsSpec)) termSumsCard

/-- THE TIED CARD OF 'enclavelaw04.TermSame'. -/
def termSameCard : Claim7 := { stood := { row := termSameRow, standIns := [], harness := (true, "330a2c286512640873582d75660accca75a35340cb97314b737dddca6ba4c5a7"), looks := true }, kinds := [], alts := [], laidByText := true, laidKinds := [.data, .pinned], laidTests := true, laidLooks := .later }
def TermSameCardSaid : Prop := Claim7.holds Tryd.pinned (.plain (OpenSpec.ofChange termSameSpec)) termSameCard

/-- THE TIED CARD OF 'enclavelaw02.WordsIs'. -/
def wordsIsCard : Claim7 := { stood := { row := wordsIsRow, standIns := [], harness := (true, "330a2c286512640873582d75660accca75a35340cb97314b737dddca6ba4c5a7"), looks := true }, kinds := [], alts := [], laidByText := true, laidKinds := [.data, .data, .data, .data, .sentinel, .sentinel, .pinned], laidTests := true, laidLooks := .later }
def WordsIsCardSaid : Prop := Claim7.holds Tryd.pinned (.plain (OpenSpec.ofChange wordsIsSpec)) wordsIsCard

/-- THE TIED CARD OF 'enclavelaw02.WordsApart'. -/
def wordsApartCard : Claim7 := { stood := { row := wordsApartRow, standIns := [], harness := (true, "330a2c286512640873582d75660accca75a35340cb97314b737dddca6ba4c5a7"), looks := true }, kinds := [], alts := [], laidByText := true, laidKinds := [.data, .data, .data, .data, .sentinel, .sentinel, .pinned], laidTests := true, laidLooks := .later }
def WordsApartCardSaid : Prop := Claim7.holds Tryd.pinned (.plain (OpenSpec.ofChange wordsApartSpec)) wordsApartCard

/-- THE TIED CARD OF 'enclavelaw02.WordsBack'. -/
def wordsBackCard : Claim7 := { stood := { row := wordsBackRow, standIns := [], harness := (true, "330a2c286512640873582d75660accca75a35340cb97314b737dddca6ba4c5a7"), looks := true }, kinds := [], alts := [], laidByText := true, laidKinds := [.data, .data, .data, .data, .sentinel, .sentinel, .pinned], laidTests := true, laidLooks := .later }
def WordsBackCardSaid : Prop := Claim7.holds Tryd.pinned (.plain (OpenSpec.ofChange wordsBackSpec)) wordsBackCard

/-- THE SECOND FORM's CARD OF 'enclavelaw02.WordsAll'. -/
def wordsAllUptoCard : Claim7 := { stood := { row := wordsAllUptoRow, standIns := [], harness := (true, "330a2c286512640873582d75660accca75a35340cb97314b737dddca6ba4c5a7"), looks := true }, kinds := [], alts := [], laidByText := true, laidKinds := [.data, .pinned], laidTests := true, laidLooks := .later }
def WordsAllUptoCardSaid : Prop := Claim7.holds Tryd.pinned (.plain (OpenSpec.upto wordsAllSpec)) wordsAllUptoCard

/-- THE SECOND FORM's CARD OF 'enclavelaw02.WordsLonger'. -/
def wordsLongerUptoCard : Claim7 := { stood := { row := wordsLongerUptoRow, standIns := [], harness := (true, "330a2c286512640873582d75660accca75a35340cb97314b737dddca6ba4c5a7"), looks := true }, kinds := [], alts := [], laidByText := true, laidKinds := [.data, .pinned], laidTests := true, laidLooks := .later }
def WordsLongerUptoCardSaid : Prop := Claim7.holds Tryd.pinned (.plain (OpenSpec.upto wordsLongerSpec)) wordsLongerUptoCard

/-- THE SECOND FORM's CARD OF 'enclavelaw04.TermMays'. -/
def termMaysUptoCard : Claim7 := { stood := { row := termMaysUptoRow, standIns := [], harness := (true, "330a2c286512640873582d75660accca75a35340cb97314b737dddca6ba4c5a7"), looks := true }, kinds := [], alts := [], laidByText := true, laidKinds := [.data, .pinned], laidTests := true, laidLooks := .later }
def TermMaysUptoCardSaid : Prop := Claim7.holds Tryd.pinned (.plain (OpenSpec.upto termMaysSpec)) termMaysUptoCard

/-- THE SECOND FORM's CARD OF 'enclavelaw04.TermMany'. -/
def termManyUptoCard : Claim7 := { stood := { row := termManyUptoRow, standIns := [], harness := (true, "330a2c286512640873582d75660accca75a35340cb97314b737dddca6ba4c5a7"), looks := true }, kinds := [], alts := [], laidByText := true, laidKinds := [.data, .pinned], laidTests := true, laidLooks := .later }
def TermManyUptoCardSaid : Prop := Claim7.holds Tryd.pinned (.plain (OpenSpec.upto termManySpec)) termManyUptoCard

/-- THE SECOND FORM's CARD OF 'enclavelaw04.TermCounts'. -/
def termCountsUptoCard : Claim7 := { stood := { row := termCountsUptoRow, standIns := [], harness := (true, "330a2c286512640873582d75660accca75a35340cb97314b737dddca6ba4c5a7"), looks := true }, kinds := [], alts := [], laidByText := true, laidKinds := [.data, .pinned], laidTests := true, laidLooks := .later }
def TermCountsUptoCardSaid : Prop := Claim7.holds Tryd.pinned (.plain (OpenSpec.upto termCountsSpec)) termCountsUptoCard

/-- THE SECOND FORM's CARD OF 'enclavelaw04.TermSums'. -/
def termSumsUptoCard : Claim7 := { stood := { row := termSumsUptoRow, standIns := [], harness := (true, "330a2c286512640873582d75660accca75a35340cb97314b737dddca6ba4c5a7"), looks := true }, kinds := [], alts := [], laidByText := true, laidKinds := [.data, .pinned], laidTests := true, laidLooks := .later }
def TermSumsUptoCardSaid : Prop := Claim7.holds Tryd.pinned (.plain (OpenSpec.upto termSumsSpec)) termSumsUptoCard

/-- THE SECOND FORM's CARD OF 'enclavelaw04.TermSame'. -/
def termSameUptoCard : Claim7 := { stood := { row := termSameUptoRow, standIns := [], harness := (true, "330a2c286512640873582d75660accca75a35340cb97314b737dddca6ba4c5a7"), looks := true }, kinds := [], alts := [], laidByText := true, laidKinds := [.data, .pinned], laidTests := true, laidLooks := .later }
def TermSameUptoCardSaid : Prop := Claim7.holds Tryd.pinned (.plain (OpenSpec.upto termSameSpec)) termSameUptoCard

/-- THE SECOND FORM's CARD OF 'enclavelaw02.WordsIs'. -/
def wordsIsUptoCard : Claim7 := { stood := { row := wordsIsUptoRow, standIns := [], harness := (true, "330a2c286512640873582d75660accca75a35340cb97314b737dddca6ba4c5a7"), looks := true }, kinds := [], alts := [], laidByText := true, laidKinds := [.data, .data, .data, .data, .sentinel, .sentinel, .pinned], laidTests := true, laidLooks := .later }
def WordsIsUptoCardSaid : Prop := Claim7.holds Tryd.pinned (.plain (OpenSpec.upto wordsIsSpec)) wordsIsUptoCard

/-- THE SECOND FORM's CARD OF 'enclavelaw02.WordsApart'. -/
def wordsApartUptoCard : Claim7 := { stood := { row := wordsApartUptoRow, standIns := [], harness := (true, "330a2c286512640873582d75660accca75a35340cb97314b737dddca6ba4c5a7"), looks := true }, kinds := [], alts := [], laidByText := true, laidKinds := [.data, .data, .data, .data, .sentinel, .sentinel, .pinned], laidTests := true, laidLooks := .later }
def WordsApartUptoCardSaid : Prop := Claim7.holds Tryd.pinned (.plain (OpenSpec.upto wordsApartSpec)) wordsApartUptoCard

/-- THE SECOND FORM's CARD OF 'enclavelaw02.WordsBack'. -/
def wordsBackUptoCard : Claim7 := { stood := { row := wordsBackUptoRow, standIns := [], harness := (true, "330a2c286512640873582d75660accca75a35340cb97314b737dddca6ba4c5a7"), looks := true }, kinds := [], alts := [], laidByText := true, laidKinds := [.data, .data, .data, .data, .sentinel, .sentinel, .pinned], laidTests := true, laidLooks := .later }
def WordsBackUptoCardSaid : Prop := Claim7.holds Tryd.pinned (.plain (OpenSpec.upto wordsBackSpec)) wordsBackUptoCard
end Rows
end Go.Proofs.YtljpbikcpjocmaaDoor
