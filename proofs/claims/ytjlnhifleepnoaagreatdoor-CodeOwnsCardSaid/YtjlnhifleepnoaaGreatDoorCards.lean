/-
  DERIVED. GIVEN WITH THE SEED: THE CARDS: each row of YtjlnhifleepnoaaGreatDoorRows.lean that lists a variable, with what it lists TIED to the program's text (the seventh form; the later family's looks); each row that meets fmt, with fmt's text TOLD by the authors' own Lean function (tested against real Go, not proved from fmt's source: count such statements apart). THE CARD IS WHAT COUNTS. Prove the row's statement (the work); the ties are given (YtjlnhifleepnoaaGreatDoorTie.lean); close each card by the builder's one call (the guide's Derived/Test/ToyasCard.lean, 'card_holds'). Laid BY PROGRAM, IN A SANDBOX (cutbox-door.mjs). By AI agents, Wed Nov 11 2026. No macro, syntax, notation, axiom, sorry.
-/
import Derived.Test.YtjlnhifleepnoaaGreatDoorRows
import GoSem.ClaimSeven
namespace Go.Proofs.YtjlnhifleepnoaaGreatDoor
namespace Rows

/-- THE TIED CARD OF 'beadlelaw05.CodeParses'. -/
def codeParsesCard : Claim7 := { stood := { row := codeParsesRow, standIns := [], harness := (true, "8aebed4287b56ae3ae6fb9598b8ab29a32eee263e7920caa4fcc3cdf2c904da4"), looks := true }, kinds := [], alts := [], laidByText := true, laidKinds := [.data, .data, .data, .sentinel, .sentinel], laidTests := true, laidLooks := .later }
def CodeParsesCardSaid : Prop := Claim7.holds Tryz.pinned (.plain (OpenSpec.ofChange codeParsesSpec)) codeParsesCard

/-- THE TIED CARD OF 'beadlelaw05.CodeOwns'. -/
def codeOwnsCard : Claim7 := { stood := { row := codeOwnsRow, standIns := [], harness := (true, "8aebed4287b56ae3ae6fb9598b8ab29a32eee263e7920caa4fcc3cdf2c904da4"), looks := true }, kinds := [], alts := [], laidByText := true, laidKinds := [.data, .data, .data, .sentinel, .sentinel], laidTests := true, laidLooks := .later }
def CodeOwnsCardSaid : Prop := Claim7.holds Tryz.pinned (.plain (OpenSpec.ofChange codeOwnsSpec)) codeOwnsCard

/-- THE SECOND FORM's CARD OF 'beadlelaw05.CodeParses'. -/
def codeParsesUptoCard : Claim7 := { stood := { row := codeParsesUptoRow, standIns := [], harness := (true, "8aebed4287b56ae3ae6fb9598b8ab29a32eee263e7920caa4fcc3cdf2c904da4"), looks := true }, kinds := [], alts := [], laidByText := true, laidKinds := [.data, .data, .data, .sentinel, .sentinel], laidTests := true, laidLooks := .later }
def CodeParsesUptoCardSaid : Prop := Claim7.holds Tryz.pinned (.plain (OpenSpec.upto codeParsesSpec)) codeParsesUptoCard

/-- THE SECOND FORM's CARD OF 'beadlelaw05.CodeOwns'. -/
def codeOwnsUptoCard : Claim7 := { stood := { row := codeOwnsUptoRow, standIns := [], harness := (true, "8aebed4287b56ae3ae6fb9598b8ab29a32eee263e7920caa4fcc3cdf2c904da4"), looks := true }, kinds := [], alts := [], laidByText := true, laidKinds := [.data, .data, .data, .sentinel, .sentinel], laidTests := true, laidLooks := .later }
def CodeOwnsUptoCardSaid : Prop := Claim7.holds Tryz.pinned (.plain (OpenSpec.upto codeOwnsSpec)) codeOwnsUptoCard
end Rows
end Go.Proofs.YtjlnhifleepnoaaGreatDoor
