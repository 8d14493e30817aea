/-
  DERIVED. GIVEN WITH THE SEED: THE CARDS: each row of YtfnfmbfkgfpddaaDoorRows.lean that lists a variable, with what it lists TIED to the program's text (the seventh form; the later family's looks); each row that meets fmt, with fmt's text TOLD by the authors' own Lean function (tested against real Go, not proved from fmt's source: count such statements apart). THE CARD IS WHAT COUNTS. Prove the row's statement (the work); the ties are given (YtfnfmbfkgfpddaaDoorTie.lean); close each card by the builder's one call (the guide's Derived/Test/ToyasCard.lean, 'card_holds'). Laid BY PROGRAM, IN A SANDBOX (cutbox-door.mjs). By AI agents, Wed Nov 11 2026. No macro, syntax, notation, axiom, sorry.
-/
import Derived.Test.YtfnfmbfkgfpddaaDoorRows
import GoSem.ClaimSeven
namespace Go.Proofs.YtfnfmbfkgfpddaaDoor
namespace Rows

/-- THE TIED CARD OF 'beadlelaw02.TextNumbers'. -/
def textNumbersCard : Claim7 := { stood := { row := textNumbersRow, standIns := [], harness := (true, "fa43feb941de95f2e80fccd344b9ceee8faa94f6fd6ee821934b0c098a16442d"), looks := true }, kinds := [], alts := [], laidByText := true, laidKinds := [.data, .data, .data, .sentinel, .sentinel], laidTests := true, laidLooks := .later }
def TextNumbersCardSaid : Prop := Claim7.holds Tryd.pinned (.plain (OpenSpec.ofChange textNumbersSpec)) textNumbersCard

/-- THE TIED CARD OF 'beadlelaw02.TextPrints'. -/
def textPrintsCard : Claim7 := { stood := { row := textPrintsRow, standIns := [], harness := (true, "fa43feb941de95f2e80fccd344b9ceee8faa94f6fd6ee821934b0c098a16442d"), looks := true }, kinds := [], alts := [], laidByText := true, laidKinds := [.data, .data, .data, .sentinel, .sentinel], laidTests := true, laidLooks := .later }
def TextPrintsCardSaid : Prop := Claim7.holds Tryd.pinned (.plain (OpenSpec.ofChange textPrintsSpec)) textPrintsCard

/-- THE TIED CARD OF 'beadlelaw02.TextParses'. -/
def textParsesCard : Claim7 := { stood := { row := textParsesRow, standIns := [], harness := (true, "fa43feb941de95f2e80fccd344b9ceee8faa94f6fd6ee821934b0c098a16442d"), looks := true }, kinds := [], alts := [], laidByText := true, laidKinds := [.data, .data, .data, .sentinel, .sentinel], laidTests := true, laidLooks := .later }
def TextParsesCardSaid : Prop := Claim7.holds Tryd.pinned (.plain (OpenSpec.ofChange textParsesSpec)) textParsesCard

/-- THE TIED CARD OF 'beadlelaw02.TextNames'. -/
def textNamesCard : Claim7 := { stood := { row := textNamesRow, standIns := [], harness := (true, "fa43feb941de95f2e80fccd344b9ceee8faa94f6fd6ee821934b0c098a16442d"), looks := true }, kinds := [], alts := [], laidByText := true, laidKinds := [.data, .data, .data, .sentinel, .sentinel], laidTests := true, laidLooks := .later }
def TextNamesCardSaid : Prop := Claim7.holds Tryd.pinned (.plain (OpenSpec.ofChange textNamesSpec)) textNamesCard

/-- THE TIED CARD OF 'beadlelaw02.TextSplits'. -/
def textSplitsCard : Claim7 := { stood := { row := textSplitsRow, standIns := [], harness := (true, "fa43feb941de95f2e80fccd344b9ceee8faa94f6fd6ee821934b0c098a16442d"), looks := true }, kinds := [], alts := [], laidByText := true, laidKinds := [.data, .data, .data, .sentinel, .sentinel], laidTests := true, laidLooks := .later }
def TextSplitsCardSaid : Prop := Claim7.holds Tryd.pinned (.plain (OpenSpec.ofChange textSplitsSpec)) textSplitsCard

/-- THE TIED CARD OF 'beadlelaw02.TextLines'. -/
def textLinesCard : Claim7 := { stood := { row := textLinesRow, standIns := [], harness := (true, "fa43feb941de95f2e80fccd344b9ceee8faa94f6fd6ee821934b0c098a16442d"), looks := true }, kinds := [], alts := [], laidByText := true, laidKinds := [.data, .data, .data, .sentinel, .sentinel], laidTests := true, laidLooks := .later }
def TextLinesCardSaid : Prop := Claim7.holds Tryd.pinned (.plain (OpenSpec.ofChange textLinesSpec)) textLinesCard

/-- THE TIED CARD OF 'beadlelaw02.TextBack'. -/
def textBackCard : Claim7 := { stood := { row := textBackRow, standIns := [], harness := (true, "fa43feb941de95f2e80fccd344b9ceee8faa94f6fd6ee821934b0c098a16442d"), looks := true }, kinds := [], alts := [], laidByText := true, laidKinds := [.data, .data, .data, .sentinel, .sentinel], laidTests := true, laidLooks := .later }
def TextBackCardSaid : Prop := Claim7.holds Tryd.pinned (.plain (OpenSpec.ofChange textBackSpec)) textBackCard

/-- THE TIED CARD OF 'beadlelaw02.TextJoins'. -/
def textJoinsCard : Claim7 := { stood := { row := textJoinsRow, standIns := [], harness := (true, "fa43feb941de95f2e80fccd344b9ceee8faa94f6fd6ee821934b0c098a16442d"), looks := true }, kinds := [], alts := [], laidByText := true, laidKinds := [.data, .data, .data, .sentinel, .sentinel], laidTests := true, laidLooks := .later }
def TextJoinsCardSaid : Prop := Claim7.holds Tryd.pinned (.plain (OpenSpec.ofChange textJoinsSpec)) textJoinsCard

/-- THE TIED CARD OF 'beadlelaw02.TextFresh'. -/
def textFreshCard : Claim7 := { stood := { row := textFreshRow, standIns := [], harness := (true, "fa43feb941de95f2e80fccd344b9ceee8faa94f6fd6ee821934b0c098a16442d"), looks := true }, kinds := [], alts := [], laidByText := true, laidKinds := [.data, .data, .data, .sentinel, .sentinel], laidTests := true, laidLooks := .later }
def TextFreshCardSaid : Prop := Claim7.holds Tryd.pinned (.plain (OpenSpec.ofChange textFreshSpec)) textFreshCard

/-- THE TIED CARD OF 'beadlelaw02.TextWholes'. -/
def textWholesCard : Claim7 := { stood := { row := textWholesRow, standIns := [], harness := (true, "fa43feb941de95f2e80fccd344b9ceee8faa94f6fd6ee821934b0c098a16442d"), looks := true }, kinds := [], alts := [], laidByText := true, laidKinds := [.data, .data, .data, .sentinel, .sentinel], laidTests := true, laidLooks := .later }
def TextWholesCardSaid : Prop := Claim7.holds Tryd.pinned (.plain (OpenSpec.ofChange textWholesSpec)) textWholesCard

/-- THE SECOND FORM's CARD OF 'beadlelaw02.TextNumbers'. -/
def textNumbersUptoCard : Claim7 := { stood := { row := textNumbersUptoRow, standIns := [], harness := (true, "fa43feb941de95f2e80fccd344b9ceee8faa94f6fd6ee821934b0c098a16442d"), looks := true }, kinds := [], alts := [], laidByText := true, laidKinds := [.data, .data, .data, .sentinel, .sentinel], laidTests := true, laidLooks := .later }
def TextNumbersUptoCardSaid : Prop := Claim7.holds Tryd.pinned (.plain (OpenSpec.upto textNumbersSpec)) textNumbersUptoCard

/-- THE SECOND FORM's CARD OF 'beadlelaw02.TextPrints'. -/
def textPrintsUptoCard : Claim7 := { stood := { row := textPrintsUptoRow, standIns := [], harness := (true, "fa43feb941de95f2e80fccd344b9ceee8faa94f6fd6ee821934b0c098a16442d"), looks := true }, kinds := [], alts := [], laidByText := true, laidKinds := [.data, .data, .data, .sentinel, .sentinel], laidTests := true, laidLooks := .later }
def TextPrintsUptoCardSaid : Prop := Claim7.holds Tryd.pinned (.plain (OpenSpec.upto textPrintsSpec)) textPrintsUptoCard

/-- THE SECOND FORM's CARD OF 'beadlelaw02.TextParses'. -/
def textParsesUptoCard : Claim7 := { stood := { row := textParsesUptoRow, standIns := [], harness := (true, "fa43feb941de95f2e80fccd344b9ceee8faa94f6fd6ee821934b0c098a16442d"), looks := true }, kinds := [], alts := [], laidByText := true, laidKinds := [.data, .data, .data, .sentinel, .sentinel], laidTests := true, laidLooks := .later }
def TextParsesUptoCardSaid : Prop := Claim7.holds Tryd.pinned (.plain (OpenSpec.upto textParsesSpec)) textParsesUptoCard

/-- THE SECOND FORM's CARD OF 'beadlelaw02.TextNames'. -/
def textNamesUptoCard : Claim7 := { stood := { row := textNamesUptoRow, standIns := [], harness := (true, "fa43feb941de95f2e80fccd344b9ceee8faa94f6fd6ee821934b0c098a16442d"), looks := true }, kinds := [], alts := [], laidByText := true, laidKinds := [.data, .data, .data, .sentinel, .sentinel], laidTests := true, laidLooks := .later }
def TextNamesUptoCardSaid : Prop := Claim7.holds Tryd.pinned (.plain (OpenSpec.upto textNamesSpec)) textNamesUptoCard

/-- THE SECOND FORM's CARD OF 'beadlelaw02.TextSplits'. -/
def textSplitsUptoCard : Claim7 := { stood := { row := textSplitsUptoRow, standIns := [], harness := (true, "fa43feb941de95f2e80fccd344b9ceee8faa94f6fd6ee821934b0c098a16442d"), looks := true }, kinds := [], alts := [], laidByText := true, laidKinds := [.data, .data, .data, .sentinel, .sentinel], laidTests := true, laidLooks := .later }
def TextSplitsUptoCardSaid : Prop := Claim7.holds Tryd.pinned (.plain (OpenSpec.upto textSplitsSpec)) textSplitsUptoCard

/-- THE SECOND FORM's CARD OF 'beadlelaw02.TextLines'. -/
def textLinesUptoCard : Claim7 := { stood := { row := textLinesUptoRow, standIns := [], harness := (true, "fa43feb941de95f2e80fccd344b9ceee8faa94f6fd6ee821934b0c098a16442d"), looks := true }, kinds := [], alts := [], laidByText := true, laidKinds := [.data, .data, .data, .sentinel, .sentinel], laidTests := true, laidLooks := .later }
def TextLinesUptoCardSaid : Prop := Claim7.holds Tryd.pinned (.plain (OpenSpec.upto textLinesSpec)) textLinesUptoCard

/-- THE SECOND FORM's CARD OF 'beadlelaw02.TextBack'. -/
def textBackUptoCard : Claim7 := { stood := { row := textBackUptoRow, standIns := [], harness := (true, "fa43feb941de95f2e80fccd344b9ceee8faa94f6fd6ee821934b0c098a16442d"), looks := true }, kinds := [], alts := [], laidByText := true, laidKinds := [.data, .data, .data, .sentinel, .sentinel], laidTests := true, laidLooks := .later }
def TextBackUptoCardSaid : Prop := Claim7.holds Tryd.pinned (.plain (OpenSpec.upto textBackSpec)) textBackUptoCard

/-- THE SECOND FORM's CARD OF 'beadlelaw02.TextJoins'. -/
def textJoinsUptoCard : Claim7 := { stood := { row := textJoinsUptoRow, standIns := [], harness := (true, "fa43feb941de95f2e80fccd344b9ceee8faa94f6fd6ee821934b0c098a16442d"), looks := true }, kinds := [], alts := [], laidByText := true, laidKinds := [.data, .data, .data, .sentinel, .sentinel], laidTests := true, laidLooks := .later }
def TextJoinsUptoCardSaid : Prop := Claim7.holds Tryd.pinned (.plain (OpenSpec.upto textJoinsSpec)) textJoinsUptoCard

/-- THE SECOND FORM's CARD OF 'beadlelaw02.TextFresh'. -/
def textFreshUptoCard : Claim7 := { stood := { row := textFreshUptoRow, standIns := [], harness := (true, "fa43feb941de95f2e80fccd344b9ceee8faa94f6fd6ee821934b0c098a16442d"), looks := true }, kinds := [], alts := [], laidByText := true, laidKinds := [.data, .data, .data, .sentinel, .sentinel], laidTests := true, laidLooks := .later }
def TextFreshUptoCardSaid : Prop := Claim7.holds Tryd.pinned (.plain (OpenSpec.upto textFreshSpec)) textFreshUptoCard

/-- THE SECOND FORM's CARD OF 'beadlelaw02.TextWholes'. -/
def textWholesUptoCard : Claim7 := { stood := { row := textWholesUptoRow, standIns := [], harness := (true, "fa43feb941de95f2e80fccd344b9ceee8faa94f6fd6ee821934b0c098a16442d"), looks := true }, kinds := [], alts := [], laidByText := true, laidKinds := [.data, .data, .data, .sentinel, .sentinel], laidTests := true, laidLooks := .later }
def TextWholesUptoCardSaid : Prop := Claim7.holds Tryd.pinned (.plain (OpenSpec.upto textWholesSpec)) textWholesUptoCard
end Rows
end Go.Proofs.YtfnfmbfkgfpddaaDoor
