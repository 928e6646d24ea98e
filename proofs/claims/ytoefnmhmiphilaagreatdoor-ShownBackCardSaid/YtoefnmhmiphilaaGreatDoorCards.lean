/-
  DERIVED. GIVEN WITH THE SEED: THE CARDS: each row of YtoefnmhmiphilaaGreatDoorRows.lean that lists a variable, with what it lists TIED to the program's text (the seventh form; the later family's looks); each row that meets fmt, with fmt's text TOLD by the authors' own Lean function (tested against real Go, not proved from fmt's source: count such statements apart). THE CARD IS WHAT COUNTS. Prove the row's statement (the work); the ties are given (YtoefnmhmiphilaaGreatDoorTie.lean); close each card by the builder's one call (the guide's Derived/Test/ToyasCard.lean, 'card_holds'). Laid BY PROGRAM, IN A SANDBOX (cutbox-door.mjs). By AI agents, Wed Nov 11 2026. No macro, syntax, notation, axiom, sorry.
-/
import Derived.Test.YtoefnmhmiphilaaGreatDoorRows
import GoSem.ClaimSeven
namespace Go.Proofs.YtoefnmhmiphilaaGreatDoor
namespace Rows

/-- THE TIED CARD OF 'hoggetlaw02.ShownChecks'. -/
def shownChecksCard : Claim7 := { stood := { row := shownChecksRow, standIns := [], harness := (true, "8895843b071232a294bad721ee7e37f62f0679444f970e3e7ec3ad79c8481fdb"), looks := true }, kinds := [], alts := [], laidByText := true, laidKinds := [.data, .data, .data, .data, .sentinel, .sentinel, .pinned], laidTests := true, laidLooks := .later }
def ShownChecksCardSaid : Prop := Claim7.holds Tryz.pinned (.plain (OpenSpec.ofChange shownChecksSpec)) shownChecksCard

/-- THE TIED CARD OF 'hoggetlaw02.ShownTexts'. -/
def shownTextsCard : Claim7 := { stood := { row := shownTextsRow, standIns := [], harness := (true, "8895843b071232a294bad721ee7e37f62f0679444f970e3e7ec3ad79c8481fdb"), looks := true }, kinds := [], alts := [], laidByText := true, laidKinds := [.data, .data, .data, .data, .sentinel, .sentinel, .pinned], laidTests := true, laidLooks := .later }
def ShownTextsCardSaid : Prop := Claim7.holds Tryz.pinned (.plain (OpenSpec.ofChange shownTextsSpec)) shownTextsCard

/-- THE TIED CARD OF 'hoggetlaw02.ShownGets'. -/
def shownGetsCard : Claim7 := { stood := { row := shownGetsRow, standIns := [], harness := (true, "8895843b071232a294bad721ee7e37f62f0679444f970e3e7ec3ad79c8481fdb"), looks := true }, kinds := [], alts := [], laidByText := true, laidKinds := [.data, .data, .data, .data, .sentinel, .sentinel, .pinned], laidTests := true, laidLooks := .later }
def ShownGetsCardSaid : Prop := Claim7.holds Tryz.pinned (.plain (OpenSpec.ofChange shownGetsSpec)) shownGetsCard

/-- THE TIED CARD OF 'hoggetlaw02.ShownBack'. -/
def shownBackCard : Claim7 := { stood := { row := shownBackRow, standIns := [], harness := (true, "8895843b071232a294bad721ee7e37f62f0679444f970e3e7ec3ad79c8481fdb"), looks := true }, kinds := [], alts := [], laidByText := true, laidKinds := [.data, .data, .data, .data, .sentinel, .sentinel, .pinned], laidTests := true, laidLooks := .later }
def ShownBackCardSaid : Prop := Claim7.holds Tryz.pinned (.plain (OpenSpec.ofChange shownBackSpec)) shownBackCard

/-- THE TIED CARD OF 'hoggetlaw02.ShownParsed'. -/
def shownParsedCard : Claim7 := { stood := { row := shownParsedRow, standIns := [], harness := (true, "8895843b071232a294bad721ee7e37f62f0679444f970e3e7ec3ad79c8481fdb"), looks := true }, kinds := [], alts := [], laidByText := true, laidKinds := [.data, .data, .data, .data, .sentinel, .sentinel, .pinned], laidTests := true, laidLooks := .later }
def ShownParsedCardSaid : Prop := Claim7.holds Tryz.pinned (.plain (OpenSpec.ofChange shownParsedSpec)) shownParsedCard

/-- THE TIED CARD OF 'hoggetlaw02.ShownLists'. -/
def shownListsCard : Claim7 := { stood := { row := shownListsRow, standIns := [], harness := (true, "8895843b071232a294bad721ee7e37f62f0679444f970e3e7ec3ad79c8481fdb"), looks := true }, kinds := [], alts := [], laidByText := true, laidKinds := [.data, .data, .data, .data, .sentinel, .sentinel, .pinned], laidTests := true, laidLooks := .later }
def ShownListsCardSaid : Prop := Claim7.holds Tryz.pinned (.plain (OpenSpec.ofChange shownListsSpec)) shownListsCard

/-- THE TIED CARD OF 'hoggetlaw02.ShownMembers'. -/
def shownMembersCard : Claim7 := { stood := { row := shownMembersRow, standIns := [], harness := (true, "8895843b071232a294bad721ee7e37f62f0679444f970e3e7ec3ad79c8481fdb"), looks := true }, kinds := [], alts := [], laidByText := true, laidKinds := [.data, .data, .data, .data, .sentinel, .sentinel, .pinned], laidTests := true, laidLooks := .later }
def ShownMembersCardSaid : Prop := Claim7.holds Tryz.pinned (.plain (OpenSpec.ofChange shownMembersSpec)) shownMembersCard

/-- THE SECOND FORM's CARD OF 'hoggetlaw02.ShownChecks'. -/
def shownChecksUptoCard : Claim7 := { stood := { row := shownChecksUptoRow, standIns := [], harness := (true, "8895843b071232a294bad721ee7e37f62f0679444f970e3e7ec3ad79c8481fdb"), looks := true }, kinds := [], alts := [], laidByText := true, laidKinds := [.data, .data, .data, .data, .sentinel, .sentinel, .pinned], laidTests := true, laidLooks := .later }
def ShownChecksUptoCardSaid : Prop := Claim7.holds Tryz.pinned (.plain (OpenSpec.upto shownChecksSpec)) shownChecksUptoCard

/-- THE SECOND FORM's CARD OF 'hoggetlaw02.ShownTexts'. -/
def shownTextsUptoCard : Claim7 := { stood := { row := shownTextsUptoRow, standIns := [], harness := (true, "8895843b071232a294bad721ee7e37f62f0679444f970e3e7ec3ad79c8481fdb"), looks := true }, kinds := [], alts := [], laidByText := true, laidKinds := [.data, .data, .data, .data, .sentinel, .sentinel, .pinned], laidTests := true, laidLooks := .later }
def ShownTextsUptoCardSaid : Prop := Claim7.holds Tryz.pinned (.plain (OpenSpec.upto shownTextsSpec)) shownTextsUptoCard

/-- THE SECOND FORM's CARD OF 'hoggetlaw02.ShownGets'. -/
def shownGetsUptoCard : Claim7 := { stood := { row := shownGetsUptoRow, standIns := [], harness := (true, "8895843b071232a294bad721ee7e37f62f0679444f970e3e7ec3ad79c8481fdb"), looks := true }, kinds := [], alts := [], laidByText := true, laidKinds := [.data, .data, .data, .data, .sentinel, .sentinel, .pinned], laidTests := true, laidLooks := .later }
def ShownGetsUptoCardSaid : Prop := Claim7.holds Tryz.pinned (.plain (OpenSpec.upto shownGetsSpec)) shownGetsUptoCard

/-- THE SECOND FORM's CARD OF 'hoggetlaw02.ShownBack'. -/
def shownBackUptoCard : Claim7 := { stood := { row := shownBackUptoRow, standIns := [], harness := (true, "8895843b071232a294bad721ee7e37f62f0679444f970e3e7ec3ad79c8481fdb"), looks := true }, kinds := [], alts := [], laidByText := true, laidKinds := [.data, .data, .data, .data, .sentinel, .sentinel, .pinned], laidTests := true, laidLooks := .later }
def ShownBackUptoCardSaid : Prop := Claim7.holds Tryz.pinned (.plain (OpenSpec.upto shownBackSpec)) shownBackUptoCard

/-- THE SECOND FORM's CARD OF 'hoggetlaw02.ShownParsed'. -/
def shownParsedUptoCard : Claim7 := { stood := { row := shownParsedUptoRow, standIns := [], harness := (true, "8895843b071232a294bad721ee7e37f62f0679444f970e3e7ec3ad79c8481fdb"), looks := true }, kinds := [], alts := [], laidByText := true, laidKinds := [.data, .data, .data, .data, .sentinel, .sentinel, .pinned], laidTests := true, laidLooks := .later }
def ShownParsedUptoCardSaid : Prop := Claim7.holds Tryz.pinned (.plain (OpenSpec.upto shownParsedSpec)) shownParsedUptoCard

/-- THE SECOND FORM's CARD OF 'hoggetlaw02.ShownLists'. -/
def shownListsUptoCard : Claim7 := { stood := { row := shownListsUptoRow, standIns := [], harness := (true, "8895843b071232a294bad721ee7e37f62f0679444f970e3e7ec3ad79c8481fdb"), looks := true }, kinds := [], alts := [], laidByText := true, laidKinds := [.data, .data, .data, .data, .sentinel, .sentinel, .pinned], laidTests := true, laidLooks := .later }
def ShownListsUptoCardSaid : Prop := Claim7.holds Tryz.pinned (.plain (OpenSpec.upto shownListsSpec)) shownListsUptoCard

/-- THE SECOND FORM's CARD OF 'hoggetlaw02.ShownMembers'. -/
def shownMembersUptoCard : Claim7 := { stood := { row := shownMembersUptoRow, standIns := [], harness := (true, "8895843b071232a294bad721ee7e37f62f0679444f970e3e7ec3ad79c8481fdb"), looks := true }, kinds := [], alts := [], laidByText := true, laidKinds := [.data, .data, .data, .data, .sentinel, .sentinel, .pinned], laidTests := true, laidLooks := .later }
def ShownMembersUptoCardSaid : Prop := Claim7.holds Tryz.pinned (.plain (OpenSpec.upto shownMembersSpec)) shownMembersUptoCard
end Rows
end Go.Proofs.YtoefnmhmiphilaaGreatDoor
