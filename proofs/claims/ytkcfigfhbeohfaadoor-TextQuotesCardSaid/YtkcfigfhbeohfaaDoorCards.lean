/-
  DERIVED. GIVEN WITH THE SEED: THE CARDS: each row of YtkcfigfhbeohfaaDoorRows.lean that lists a variable, with what it lists TIED to the program's text (the seventh form; the later family's looks); each row that meets fmt, with fmt's text TOLD by the authors' own Lean function (tested against real Go, not proved from fmt's source: count such statements apart). THE CARD IS WHAT COUNTS. Prove the row's statement (the work); the ties are given (YtkcfigfhbeohfaaDoorTie.lean); close each card by the builder's one call (the guide's Derived/Test/ToyasCard.lean, 'card_holds'). Laid BY PROGRAM, IN A SANDBOX (cutbox-door.mjs). By AI agents, Wed Nov 11 2026. No macro, syntax, notation, axiom, sorry.
-/
import Derived.Test.YtkcfigfhbeohfaaDoorRows
import GoSem.ClaimSeven
namespace Go.Proofs.YtkcfigfhbeohfaaDoor
namespace Rows

/-- THE TIED CARD OF 'hoggetlaw01.TextQuotes'. -/
def textQuotesCard : Claim7 := { stood := { row := textQuotesRow, standIns := [], harness := (true, "d64750b8695b35a7d29b5e9e8ae3cfc7491e37dbbf9f2f15458a0c58d7c78364"), looks := true }, kinds := [], alts := [], laidByText := true, laidKinds := [.data, .data, .data, .data, .sentinel, .sentinel, .pinned], laidTests := true, laidLooks := .later }
def TextQuotesCardSaid : Prop := Claim7.holds Tryd.pinned (.plain (OpenSpec.ofChange textQuotesSpec)) textQuotesCard

/-- THE TIED CARD OF 'hoggetlaw01.TextBack'. -/
def textBackCard : Claim7 := { stood := { row := textBackRow, standIns := [], harness := (true, "d64750b8695b35a7d29b5e9e8ae3cfc7491e37dbbf9f2f15458a0c58d7c78364"), looks := true }, kinds := [], alts := [], laidByText := true, laidKinds := [.data, .data, .data, .data, .sentinel, .sentinel, .pinned], laidTests := true, laidLooks := .later }
def TextBackCardSaid : Prop := Claim7.holds Tryd.pinned (.plain (OpenSpec.ofChange textBackSpec)) textBackCard

/-- THE TIED CARD OF 'hoggetlaw01.TextLists'. -/
def textListsCard : Claim7 := { stood := { row := textListsRow, standIns := [], harness := (true, "d64750b8695b35a7d29b5e9e8ae3cfc7491e37dbbf9f2f15458a0c58d7c78364"), looks := true }, kinds := [], alts := [], laidByText := true, laidKinds := [.data, .data, .data, .data, .sentinel, .sentinel, .pinned], laidTests := true, laidLooks := .later }
def TextListsCardSaid : Prop := Claim7.holds Tryd.pinned (.plain (OpenSpec.ofChange textListsSpec)) textListsCard

/-- THE TIED CARD OF 'hoggetlaw01.TextNumbers'. -/
def textNumbersCard : Claim7 := { stood := { row := textNumbersRow, standIns := [], harness := (true, "d64750b8695b35a7d29b5e9e8ae3cfc7491e37dbbf9f2f15458a0c58d7c78364"), looks := true }, kinds := [], alts := [], laidByText := true, laidKinds := [.data, .data, .data, .data, .sentinel, .sentinel, .pinned], laidTests := true, laidLooks := .later }
def TextNumbersCardSaid : Prop := Claim7.holds Tryd.pinned (.plain (OpenSpec.ofChange textNumbersSpec)) textNumbersCard

/-- THE TIED CARD OF 'hoggetlaw01.TextEnds'. -/
def textEndsCard : Claim7 := { stood := { row := textEndsRow, standIns := [], harness := (true, "d64750b8695b35a7d29b5e9e8ae3cfc7491e37dbbf9f2f15458a0c58d7c78364"), looks := true }, kinds := [], alts := [], laidByText := true, laidKinds := [.data, .data, .data, .data, .sentinel, .sentinel, .pinned], laidTests := true, laidLooks := .later }
def TextEndsCardSaid : Prop := Claim7.holds Tryd.pinned (.plain (OpenSpec.ofChange textEndsSpec)) textEndsCard

/-- THE SECOND FORM's CARD OF 'hoggetlaw01.TextQuotes'. -/
def textQuotesUptoCard : Claim7 := { stood := { row := textQuotesUptoRow, standIns := [], harness := (true, "d64750b8695b35a7d29b5e9e8ae3cfc7491e37dbbf9f2f15458a0c58d7c78364"), looks := true }, kinds := [], alts := [], laidByText := true, laidKinds := [.data, .data, .data, .data, .sentinel, .sentinel, .pinned], laidTests := true, laidLooks := .later }
def TextQuotesUptoCardSaid : Prop := Claim7.holds Tryd.pinned (.plain (OpenSpec.upto textQuotesSpec)) textQuotesUptoCard

/-- THE SECOND FORM's CARD OF 'hoggetlaw01.TextBack'. -/
def textBackUptoCard : Claim7 := { stood := { row := textBackUptoRow, standIns := [], harness := (true, "d64750b8695b35a7d29b5e9e8ae3cfc7491e37dbbf9f2f15458a0c58d7c78364"), looks := true }, kinds := [], alts := [], laidByText := true, laidKinds := [.data, .data, .data, .data, .sentinel, .sentinel, .pinned], laidTests := true, laidLooks := .later }
def TextBackUptoCardSaid : Prop := Claim7.holds Tryd.pinned (.plain (OpenSpec.upto textBackSpec)) textBackUptoCard

/-- THE SECOND FORM's CARD OF 'hoggetlaw01.TextLists'. -/
def textListsUptoCard : Claim7 := { stood := { row := textListsUptoRow, standIns := [], harness := (true, "d64750b8695b35a7d29b5e9e8ae3cfc7491e37dbbf9f2f15458a0c58d7c78364"), looks := true }, kinds := [], alts := [], laidByText := true, laidKinds := [.data, .data, .data, .data, .sentinel, .sentinel, .pinned], laidTests := true, laidLooks := .later }
def TextListsUptoCardSaid : Prop := Claim7.holds Tryd.pinned (.plain (OpenSpec.upto textListsSpec)) textListsUptoCard

/-- THE SECOND FORM's CARD OF 'hoggetlaw01.TextNumbers'. -/
def textNumbersUptoCard : Claim7 := { stood := { row := textNumbersUptoRow, standIns := [], harness := (true, "d64750b8695b35a7d29b5e9e8ae3cfc7491e37dbbf9f2f15458a0c58d7c78364"), looks := true }, kinds := [], alts := [], laidByText := true, laidKinds := [.data, .data, .data, .data, .sentinel, .sentinel, .pinned], laidTests := true, laidLooks := .later }
def TextNumbersUptoCardSaid : Prop := Claim7.holds Tryd.pinned (.plain (OpenSpec.upto textNumbersSpec)) textNumbersUptoCard

/-- THE SECOND FORM's CARD OF 'hoggetlaw01.TextEnds'. -/
def textEndsUptoCard : Claim7 := { stood := { row := textEndsUptoRow, standIns := [], harness := (true, "d64750b8695b35a7d29b5e9e8ae3cfc7491e37dbbf9f2f15458a0c58d7c78364"), looks := true }, kinds := [], alts := [], laidByText := true, laidKinds := [.data, .data, .data, .data, .sentinel, .sentinel, .pinned], laidTests := true, laidLooks := .later }
def TextEndsUptoCardSaid : Prop := Claim7.holds Tryd.pinned (.plain (OpenSpec.upto textEndsSpec)) textEndsUptoCard
end Rows
end Go.Proofs.YtkcfigfhbeohfaaDoor
