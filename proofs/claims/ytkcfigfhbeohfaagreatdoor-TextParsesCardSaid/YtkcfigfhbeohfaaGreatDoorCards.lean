/-
  DERIVED. GIVEN WITH THE SEED: THE CARDS: each row of YtkcfigfhbeohfaaGreatDoorRows.lean that lists a variable, with what it lists TIED to the program's text (the seventh form; the later family's looks); each row that meets fmt, with fmt's text TOLD by the authors' own Lean function (tested against real Go, not proved from fmt's source: count such statements apart). THE CARD IS WHAT COUNTS. Prove the row's statement (the work); the ties are given (YtkcfigfhbeohfaaGreatDoorTie.lean); close each card by the builder's one call (the guide's Derived/Test/ToyasCard.lean, 'card_holds'). Laid BY PROGRAM, IN A SANDBOX (cutbox-door.mjs). By AI agents, Wed Nov 11 2026. No macro, syntax, notation, axiom, sorry.
-/
import Derived.Test.YtkcfigfhbeohfaaGreatDoorRows
import GoSem.ClaimSeven
namespace Go.Proofs.YtkcfigfhbeohfaaGreatDoor
namespace Rows

/-- THE TIED CARD OF 'hoggetlaw01.TextParses'. -/
def textParsesCard : Claim7 := { stood := { row := textParsesRow, standIns := [], harness := (true, "f7e67d4bbcdc761f1a17e6b0aad1ec0397402ee8e6d7d64470686843e0c278d6"), looks := true }, kinds := [], alts := [], laidByText := true, laidKinds := [.data, .data, .data, .data, .sentinel, .sentinel, .pinned], laidTests := true, laidLooks := .later }
def TextParsesCardSaid : Prop := Claim7.holds Tryz.pinned (.plain (OpenSpec.ofChange textParsesSpec)) textParsesCard

/-- THE SECOND FORM's CARD OF 'hoggetlaw01.TextParses'. -/
def textParsesUptoCard : Claim7 := { stood := { row := textParsesUptoRow, standIns := [], harness := (true, "f7e67d4bbcdc761f1a17e6b0aad1ec0397402ee8e6d7d64470686843e0c278d6"), looks := true }, kinds := [], alts := [], laidByText := true, laidKinds := [.data, .data, .data, .data, .sentinel, .sentinel, .pinned], laidTests := true, laidLooks := .later }
def TextParsesUptoCardSaid : Prop := Claim7.holds Tryz.pinned (.plain (OpenSpec.upto textParsesSpec)) textParsesUptoCard
end Rows
end Go.Proofs.YtkcfigfhbeohfaaGreatDoor
