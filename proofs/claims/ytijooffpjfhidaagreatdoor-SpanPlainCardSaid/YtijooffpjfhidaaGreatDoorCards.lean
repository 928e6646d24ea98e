/-
  DERIVED. GIVEN WITH THE SEED: THE CARDS: each row of YtijooffpjfhidaaGreatDoorRows.lean that lists a variable, with what it lists TIED to the program's text (the seventh form; the later family's looks); each row that meets fmt, with fmt's text TOLD by the authors' own Lean function (tested against real Go, not proved from fmt's source: count such statements apart). THE CARD IS WHAT COUNTS. Prove the row's statement (the work); the ties are given (YtijooffpjfhidaaGreatDoorTie.lean); close each card by the builder's one call (the guide's Derived/Test/ToyasCard.lean, 'card_holds'). Laid BY PROGRAM, IN A SANDBOX (cutbox-door.mjs). By AI agents, Wed Nov 11 2026. No macro, syntax, notation, axiom, sorry.
-/
import Derived.Test.YtijooffpjfhidaaGreatDoorRows
import GoSem.ClaimSeven
namespace Go.Proofs.YtijooffpjfhidaaGreatDoor
namespace Rows

/-- THE TIED CARD OF 'hoggetlaw05.SpanTexts'. -/
def spanTextsCard : Claim7 := { stood := { row := spanTextsRow, standIns := [], harness := (true, "d4aa48857ce65901a58b5da53e82c14c967b92133cebd921313bbe53226e04bf"), looks := true }, kinds := [], alts := [], laidByText := true, laidKinds := [.data, .data, .data, .data, .sentinel, .sentinel, .data, .pinned], laidTests := true, laidLooks := .later }
def SpanTextsCardSaid : Prop := Claim7.holds Tryz.pinned (.plain (OpenSpec.ofChange spanTextsSpec)) spanTextsCard

/-- THE TIED CARD OF 'hoggetlaw05.SpanHolds'. -/
def spanHoldsCard : Claim7 := { stood := { row := spanHoldsRow, standIns := [], harness := (true, "d4aa48857ce65901a58b5da53e82c14c967b92133cebd921313bbe53226e04bf"), looks := true }, kinds := [], alts := [], laidByText := true, laidKinds := [.data, .data, .data, .data, .sentinel, .sentinel, .data, .pinned], laidTests := true, laidLooks := .later }
def SpanHoldsCardSaid : Prop := Claim7.holds Tryz.pinned (.plain (OpenSpec.ofChange spanHoldsSpec)) spanHoldsCard

/-- THE TIED CARD OF 'hoggetlaw05.SpanBack'. -/
def spanBackCard : Claim7 := { stood := { row := spanBackRow, standIns := [], harness := (true, "d4aa48857ce65901a58b5da53e82c14c967b92133cebd921313bbe53226e04bf"), looks := true }, kinds := [], alts := [], laidByText := true, laidKinds := [.data, .data, .data, .data, .sentinel, .sentinel, .data, .pinned], laidTests := true, laidLooks := .later }
def SpanBackCardSaid : Prop := Claim7.holds Tryz.pinned (.plain (OpenSpec.ofChange spanBackSpec)) spanBackCard

/-- THE TIED CARD OF 'hoggetlaw05.SpanOrder'. -/
def spanOrderCard : Claim7 := { stood := { row := spanOrderRow, standIns := [], harness := (true, "d4aa48857ce65901a58b5da53e82c14c967b92133cebd921313bbe53226e04bf"), looks := true }, kinds := [], alts := [], laidByText := true, laidKinds := [.data, .data, .data, .data, .sentinel, .sentinel, .data, .pinned], laidTests := true, laidLooks := .later }
def SpanOrderCardSaid : Prop := Claim7.holds Tryz.pinned (.plain (OpenSpec.ofChange spanOrderSpec)) spanOrderCard

/-- THE TIED CARD OF 'hoggetlaw05.SpanSelf'. -/
def spanSelfCard : Claim7 := { stood := { row := spanSelfRow, standIns := [], harness := (true, "d4aa48857ce65901a58b5da53e82c14c967b92133cebd921313bbe53226e04bf"), looks := true }, kinds := [], alts := [], laidByText := true, laidKinds := [.data, .data, .data, .data, .sentinel, .sentinel, .data, .pinned], laidTests := true, laidLooks := .later }
def SpanSelfCardSaid : Prop := Claim7.holds Tryz.pinned (.plain (OpenSpec.ofChange spanSelfSpec)) spanSelfCard

/-- THE TIED CARD OF 'hoggetlaw05.SpanPlain'. -/
def spanPlainCard : Claim7 := { stood := { row := spanPlainRow, standIns := [], harness := (true, "d4aa48857ce65901a58b5da53e82c14c967b92133cebd921313bbe53226e04bf"), looks := true }, kinds := [], alts := [], laidByText := true, laidKinds := [.data, .data, .data, .data, .sentinel, .sentinel, .data, .pinned], laidTests := true, laidLooks := .later }
def SpanPlainCardSaid : Prop := Claim7.holds Tryz.pinned (.plain (OpenSpec.ofChange spanPlainSpec)) spanPlainCard

/-- THE TIED CARD OF 'hoggetlaw05.SpanBounds'. -/
def spanBoundsCard : Claim7 := { stood := { row := spanBoundsRow, standIns := [], harness := (true, "d4aa48857ce65901a58b5da53e82c14c967b92133cebd921313bbe53226e04bf"), looks := true }, kinds := [], alts := [], laidByText := true, laidKinds := [.data, .data, .data, .data, .sentinel, .sentinel, .data, .pinned], laidTests := true, laidLooks := .later }
def SpanBoundsCardSaid : Prop := Claim7.holds Tryz.pinned (.plain (OpenSpec.ofChange spanBoundsSpec)) spanBoundsCard

/-- THE SECOND FORM's CARD OF 'hoggetlaw05.SpanTexts'. -/
def spanTextsUptoCard : Claim7 := { stood := { row := spanTextsUptoRow, standIns := [], harness := (true, "d4aa48857ce65901a58b5da53e82c14c967b92133cebd921313bbe53226e04bf"), looks := true }, kinds := [], alts := [], laidByText := true, laidKinds := [.data, .data, .data, .data, .sentinel, .sentinel, .data, .pinned], laidTests := true, laidLooks := .later }
def SpanTextsUptoCardSaid : Prop := Claim7.holds Tryz.pinned (.plain (OpenSpec.upto spanTextsSpec)) spanTextsUptoCard

/-- THE SECOND FORM's CARD OF 'hoggetlaw05.SpanHolds'. -/
def spanHoldsUptoCard : Claim7 := { stood := { row := spanHoldsUptoRow, standIns := [], harness := (true, "d4aa48857ce65901a58b5da53e82c14c967b92133cebd921313bbe53226e04bf"), looks := true }, kinds := [], alts := [], laidByText := true, laidKinds := [.data, .data, .data, .data, .sentinel, .sentinel, .data, .pinned], laidTests := true, laidLooks := .later }
def SpanHoldsUptoCardSaid : Prop := Claim7.holds Tryz.pinned (.plain (OpenSpec.upto spanHoldsSpec)) spanHoldsUptoCard

/-- THE SECOND FORM's CARD OF 'hoggetlaw05.SpanBack'. -/
def spanBackUptoCard : Claim7 := { stood := { row := spanBackUptoRow, standIns := [], harness := (true, "d4aa48857ce65901a58b5da53e82c14c967b92133cebd921313bbe53226e04bf"), looks := true }, kinds := [], alts := [], laidByText := true, laidKinds := [.data, .data, .data, .data, .sentinel, .sentinel, .data, .pinned], laidTests := true, laidLooks := .later }
def SpanBackUptoCardSaid : Prop := Claim7.holds Tryz.pinned (.plain (OpenSpec.upto spanBackSpec)) spanBackUptoCard

/-- THE SECOND FORM's CARD OF 'hoggetlaw05.SpanOrder'. -/
def spanOrderUptoCard : Claim7 := { stood := { row := spanOrderUptoRow, standIns := [], harness := (true, "d4aa48857ce65901a58b5da53e82c14c967b92133cebd921313bbe53226e04bf"), looks := true }, kinds := [], alts := [], laidByText := true, laidKinds := [.data, .data, .data, .data, .sentinel, .sentinel, .data, .pinned], laidTests := true, laidLooks := .later }
def SpanOrderUptoCardSaid : Prop := Claim7.holds Tryz.pinned (.plain (OpenSpec.upto spanOrderSpec)) spanOrderUptoCard

/-- THE SECOND FORM's CARD OF 'hoggetlaw05.SpanSelf'. -/
def spanSelfUptoCard : Claim7 := { stood := { row := spanSelfUptoRow, standIns := [], harness := (true, "d4aa48857ce65901a58b5da53e82c14c967b92133cebd921313bbe53226e04bf"), looks := true }, kinds := [], alts := [], laidByText := true, laidKinds := [.data, .data, .data, .data, .sentinel, .sentinel, .data, .pinned], laidTests := true, laidLooks := .later }
def SpanSelfUptoCardSaid : Prop := Claim7.holds Tryz.pinned (.plain (OpenSpec.upto spanSelfSpec)) spanSelfUptoCard

/-- THE SECOND FORM's CARD OF 'hoggetlaw05.SpanPlain'. -/
def spanPlainUptoCard : Claim7 := { stood := { row := spanPlainUptoRow, standIns := [], harness := (true, "d4aa48857ce65901a58b5da53e82c14c967b92133cebd921313bbe53226e04bf"), looks := true }, kinds := [], alts := [], laidByText := true, laidKinds := [.data, .data, .data, .data, .sentinel, .sentinel, .data, .pinned], laidTests := true, laidLooks := .later }
def SpanPlainUptoCardSaid : Prop := Claim7.holds Tryz.pinned (.plain (OpenSpec.upto spanPlainSpec)) spanPlainUptoCard

/-- THE SECOND FORM's CARD OF 'hoggetlaw05.SpanBounds'. -/
def spanBoundsUptoCard : Claim7 := { stood := { row := spanBoundsUptoRow, standIns := [], harness := (true, "d4aa48857ce65901a58b5da53e82c14c967b92133cebd921313bbe53226e04bf"), looks := true }, kinds := [], alts := [], laidByText := true, laidKinds := [.data, .data, .data, .data, .sentinel, .sentinel, .data, .pinned], laidTests := true, laidLooks := .later }
def SpanBoundsUptoCardSaid : Prop := Claim7.holds Tryz.pinned (.plain (OpenSpec.upto spanBoundsSpec)) spanBoundsUptoCard
end Rows
end Go.Proofs.YtijooffpjfhidaaGreatDoor
