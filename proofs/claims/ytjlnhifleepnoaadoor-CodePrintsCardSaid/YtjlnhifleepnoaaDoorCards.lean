/-
  DERIVED. GIVEN WITH THE SEED: THE CARDS: each row of YtjlnhifleepnoaaDoorRows.lean that lists a variable, with what it lists TIED to the program's text (the seventh form; the later family's looks); each row that meets fmt, with fmt's text TOLD by the authors' own Lean function (tested against real Go, not proved from fmt's source: count such statements apart). THE CARD IS WHAT COUNTS. Prove the row's statement (the work); the ties are given (YtjlnhifleepnoaaDoorTie.lean); close each card by the builder's one call (the guide's Derived/Test/ToyasCard.lean, 'card_holds'). Laid BY PROGRAM, IN A SANDBOX (cutbox-door.mjs). By AI agents, Wed Nov 11 2026. No macro, syntax, notation, axiom, sorry.
-/
import Derived.Test.YtjlnhifleepnoaaDoorRows
import GoSem.ClaimSeven
namespace Go.Proofs.YtjlnhifleepnoaaDoor
namespace Rows

/-- THE TIED CARD OF 'beadlelaw05.CodeEffects'. -/
def codeEffectsCard : Claim7 := { stood := { row := codeEffectsRow, standIns := [], harness := (true, "e20ecc1fa461df6c15b6dbb31164ae6e40fa5054f0eee4f1802f6ca801a491ae"), looks := true }, kinds := [], alts := [], laidByText := true, laidKinds := [.data, .data, .data, .sentinel, .sentinel], laidTests := true, laidLooks := .later }
def CodeEffectsCardSaid : Prop := Claim7.holds Tryd.pinned (.plain (OpenSpec.ofChange codeEffectsSpec)) codeEffectsCard

/-- THE TIED CARD OF 'beadlelaw05.CodePrints'. -/
def codePrintsCard : Claim7 := { stood := { row := codePrintsRow, standIns := [], harness := (true, "e20ecc1fa461df6c15b6dbb31164ae6e40fa5054f0eee4f1802f6ca801a491ae"), looks := true }, kinds := [], alts := [], laidByText := true, laidKinds := [.data, .data, .data, .sentinel, .sentinel], laidTests := true, laidLooks := .later }
def CodePrintsCardSaid : Prop := Claim7.holds Tryd.pinned (.plain (OpenSpec.ofChange codePrintsSpec)) codePrintsCard

/-- THE TIED CARD OF 'beadlelaw05.CodeChecks'. -/
def codeChecksCard : Claim7 := { stood := { row := codeChecksRow, standIns := [], harness := (true, "e20ecc1fa461df6c15b6dbb31164ae6e40fa5054f0eee4f1802f6ca801a491ae"), looks := true }, kinds := [], alts := [], laidByText := true, laidKinds := [.data, .data, .data, .sentinel, .sentinel], laidTests := true, laidLooks := .later }
def CodeChecksCardSaid : Prop := Claim7.holds Tryd.pinned (.plain (OpenSpec.ofChange codeChecksSpec)) codeChecksCard

/-- THE TIED CARD OF 'beadlelaw05.CodeBack'. -/
def codeBackCard : Claim7 := { stood := { row := codeBackRow, standIns := [], harness := (true, "e20ecc1fa461df6c15b6dbb31164ae6e40fa5054f0eee4f1802f6ca801a491ae"), looks := true }, kinds := [], alts := [], laidByText := true, laidKinds := [.data, .data, .data, .sentinel, .sentinel], laidTests := true, laidLooks := .later }
def CodeBackCardSaid : Prop := Claim7.holds Tryd.pinned (.plain (OpenSpec.ofChange codeBackSpec)) codeBackCard

/-- THE SECOND FORM's CARD OF 'beadlelaw05.CodeEffects'. -/
def codeEffectsUptoCard : Claim7 := { stood := { row := codeEffectsUptoRow, standIns := [], harness := (true, "e20ecc1fa461df6c15b6dbb31164ae6e40fa5054f0eee4f1802f6ca801a491ae"), looks := true }, kinds := [], alts := [], laidByText := true, laidKinds := [.data, .data, .data, .sentinel, .sentinel], laidTests := true, laidLooks := .later }
def CodeEffectsUptoCardSaid : Prop := Claim7.holds Tryd.pinned (.plain (OpenSpec.upto codeEffectsSpec)) codeEffectsUptoCard

/-- THE SECOND FORM's CARD OF 'beadlelaw05.CodePrints'. -/
def codePrintsUptoCard : Claim7 := { stood := { row := codePrintsUptoRow, standIns := [], harness := (true, "e20ecc1fa461df6c15b6dbb31164ae6e40fa5054f0eee4f1802f6ca801a491ae"), looks := true }, kinds := [], alts := [], laidByText := true, laidKinds := [.data, .data, .data, .sentinel, .sentinel], laidTests := true, laidLooks := .later }
def CodePrintsUptoCardSaid : Prop := Claim7.holds Tryd.pinned (.plain (OpenSpec.upto codePrintsSpec)) codePrintsUptoCard

/-- THE SECOND FORM's CARD OF 'beadlelaw05.CodeChecks'. -/
def codeChecksUptoCard : Claim7 := { stood := { row := codeChecksUptoRow, standIns := [], harness := (true, "e20ecc1fa461df6c15b6dbb31164ae6e40fa5054f0eee4f1802f6ca801a491ae"), looks := true }, kinds := [], alts := [], laidByText := true, laidKinds := [.data, .data, .data, .sentinel, .sentinel], laidTests := true, laidLooks := .later }
def CodeChecksUptoCardSaid : Prop := Claim7.holds Tryd.pinned (.plain (OpenSpec.upto codeChecksSpec)) codeChecksUptoCard

/-- THE SECOND FORM's CARD OF 'beadlelaw05.CodeBack'. -/
def codeBackUptoCard : Claim7 := { stood := { row := codeBackUptoRow, standIns := [], harness := (true, "e20ecc1fa461df6c15b6dbb31164ae6e40fa5054f0eee4f1802f6ca801a491ae"), looks := true }, kinds := [], alts := [], laidByText := true, laidKinds := [.data, .data, .data, .sentinel, .sentinel], laidTests := true, laidLooks := .later }
def CodeBackUptoCardSaid : Prop := Claim7.holds Tryd.pinned (.plain (OpenSpec.upto codeBackSpec)) codeBackUptoCard
end Rows
end Go.Proofs.YtjlnhifleepnoaaDoor
