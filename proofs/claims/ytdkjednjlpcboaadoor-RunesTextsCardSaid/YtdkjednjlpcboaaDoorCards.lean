/-
  DERIVED. GIVEN WITH THE SEED: THE CARDS: each row of YtdkjednjlpcboaaDoorRows.lean that lists a variable, with what it lists TIED to the program's text (the seventh form; the later family's looks); each row that meets fmt, with fmt's text TOLD by the authors' own Lean function (tested against real Go, not proved from fmt's source: count such statements apart). THE CARD IS WHAT COUNTS. Prove the row's statement (the work); the ties are given (YtdkjednjlpcboaaDoorTie.lean); close each card by the builder's one call (the guide's Derived/Test/ToyasCard.lean, 'card_holds'). Laid BY PROGRAM, IN A SANDBOX (cutbox-door.mjs). By AI agents, Wed Nov 11 2026. No macro, syntax, notation, axiom, sorry.
-/
import Derived.Test.YtdkjednjlpcboaaDoorRows
import GoSem.ClaimSeven
namespace Go.Proofs.YtdkjednjlpcboaaDoor
namespace Rows

/-- THE TIED CARD OF 'tenementlaw2.RunesQuotes'. -/
def runesQuotesCard : Claim7 := { stood := { row := runesQuotesRow, standIns := [], harness := (true, "ffbd5393e18e23d4ef6bbb2ab8577998daa2ef1b58965fa4c8d24e536f1a4390"), looks := false }, kinds := [], alts := [], laidByText := true, laidKinds := [.data, .data, .data, .data, .pinned], laidTests := true, laidLooks := .later }
def RunesQuotesCardSaid : Prop := Claim7.holds Tryd.pinned (.plain (OpenSpec.ofChange runesQuotesSpec)) runesQuotesCard

/-- THE TIED CARD OF 'tenementlaw2.RunesOrder'. -/
def runesOrderCard : Claim7 := { stood := { row := runesOrderRow, standIns := [], harness := (true, "ffbd5393e18e23d4ef6bbb2ab8577998daa2ef1b58965fa4c8d24e536f1a4390"), looks := false }, kinds := [], alts := [], laidByText := true, laidKinds := [.data, .data, .data, .data, .pinned], laidTests := true, laidLooks := .later }
def RunesOrderCardSaid : Prop := Claim7.holds Tryd.pinned (.plain (OpenSpec.ofChange runesOrderSpec)) runesOrderCard

/-- THE TIED CARD OF 'tenementlaw2.RunesJoins'. -/
def runesJoinsCard : Claim7 := { stood := { row := runesJoinsRow, standIns := [], harness := (true, "ffbd5393e18e23d4ef6bbb2ab8577998daa2ef1b58965fa4c8d24e536f1a4390"), looks := false }, kinds := [], alts := [], laidByText := true, laidKinds := [.data, .data, .data, .data, .pinned], laidTests := true, laidLooks := .later }
def RunesJoinsCardSaid : Prop := Claim7.holds Tryd.pinned (.plain (OpenSpec.ofChange runesJoinsSpec)) runesJoinsCard

/-- THE TIED CARD OF 'tenementlaw2.RunesBack'. -/
def runesBackCard : Claim7 := { stood := { row := runesBackRow, standIns := [], harness := (true, "ffbd5393e18e23d4ef6bbb2ab8577998daa2ef1b58965fa4c8d24e536f1a4390"), looks := false }, kinds := [], alts := [], laidByText := true, laidKinds := [.data, .data, .data, .data, .pinned], laidTests := true, laidLooks := .later }
def RunesBackCardSaid : Prop := Claim7.holds Tryd.pinned (.plain (OpenSpec.ofChange runesBackSpec)) runesBackCard

/-- THE TIED CARD OF 'tenementlaw2.RunesTexts'. -/
def runesTextsCard : Claim7 := { stood := { row := runesTextsRow, standIns := [], harness := (true, "ffbd5393e18e23d4ef6bbb2ab8577998daa2ef1b58965fa4c8d24e536f1a4390"), looks := false }, kinds := [], alts := [], laidByText := true, laidKinds := [.data, .data, .data, .data, .pinned], laidTests := true, laidLooks := .later }
def RunesTextsCardSaid : Prop := Claim7.holds Tryd.pinned (.plain (OpenSpec.ofChange runesTextsSpec)) runesTextsCard

/-- THE TIED CARD OF 'tenementlaw2.RunesKnown'. -/
def runesKnownCard : Claim7 := { stood := { row := runesKnownRow, standIns := [], harness := (true, "ffbd5393e18e23d4ef6bbb2ab8577998daa2ef1b58965fa4c8d24e536f1a4390"), looks := false }, kinds := [], alts := [], laidByText := true, laidKinds := [.data, .data, .data, .data, .pinned], laidTests := true, laidLooks := .later }
def RunesKnownCardSaid : Prop := Claim7.holds Tryd.pinned (.plain (OpenSpec.ofChange runesKnownSpec)) runesKnownCard

/-- THE SECOND FORM's CARD OF 'tenementlaw2.RunesQuotes'. -/
def runesQuotesUptoCard : Claim7 := { stood := { row := runesQuotesUptoRow, standIns := [], harness := (true, "ffbd5393e18e23d4ef6bbb2ab8577998daa2ef1b58965fa4c8d24e536f1a4390"), looks := false }, kinds := [], alts := [], laidByText := true, laidKinds := [.data, .data, .data, .data, .pinned], laidTests := true, laidLooks := .later }
def RunesQuotesUptoCardSaid : Prop := Claim7.holds Tryd.pinned (.plain (OpenSpec.upto runesQuotesSpec)) runesQuotesUptoCard

/-- THE SECOND FORM's CARD OF 'tenementlaw2.RunesOrder'. -/
def runesOrderUptoCard : Claim7 := { stood := { row := runesOrderUptoRow, standIns := [], harness := (true, "ffbd5393e18e23d4ef6bbb2ab8577998daa2ef1b58965fa4c8d24e536f1a4390"), looks := false }, kinds := [], alts := [], laidByText := true, laidKinds := [.data, .data, .data, .data, .pinned], laidTests := true, laidLooks := .later }
def RunesOrderUptoCardSaid : Prop := Claim7.holds Tryd.pinned (.plain (OpenSpec.upto runesOrderSpec)) runesOrderUptoCard

/-- THE SECOND FORM's CARD OF 'tenementlaw2.RunesJoins'. -/
def runesJoinsUptoCard : Claim7 := { stood := { row := runesJoinsUptoRow, standIns := [], harness := (true, "ffbd5393e18e23d4ef6bbb2ab8577998daa2ef1b58965fa4c8d24e536f1a4390"), looks := false }, kinds := [], alts := [], laidByText := true, laidKinds := [.data, .data, .data, .data, .pinned], laidTests := true, laidLooks := .later }
def RunesJoinsUptoCardSaid : Prop := Claim7.holds Tryd.pinned (.plain (OpenSpec.upto runesJoinsSpec)) runesJoinsUptoCard

/-- THE SECOND FORM's CARD OF 'tenementlaw2.RunesBack'. -/
def runesBackUptoCard : Claim7 := { stood := { row := runesBackUptoRow, standIns := [], harness := (true, "ffbd5393e18e23d4ef6bbb2ab8577998daa2ef1b58965fa4c8d24e536f1a4390"), looks := false }, kinds := [], alts := [], laidByText := true, laidKinds := [.data, .data, .data, .data, .pinned], laidTests := true, laidLooks := .later }
def RunesBackUptoCardSaid : Prop := Claim7.holds Tryd.pinned (.plain (OpenSpec.upto runesBackSpec)) runesBackUptoCard

/-- THE SECOND FORM's CARD OF 'tenementlaw2.RunesTexts'. -/
def runesTextsUptoCard : Claim7 := { stood := { row := runesTextsUptoRow, standIns := [], harness := (true, "ffbd5393e18e23d4ef6bbb2ab8577998daa2ef1b58965fa4c8d24e536f1a4390"), looks := false }, kinds := [], alts := [], laidByText := true, laidKinds := [.data, .data, .data, .data, .pinned], laidTests := true, laidLooks := .later }
def RunesTextsUptoCardSaid : Prop := Claim7.holds Tryd.pinned (.plain (OpenSpec.upto runesTextsSpec)) runesTextsUptoCard

/-- THE SECOND FORM's CARD OF 'tenementlaw2.RunesKnown'. -/
def runesKnownUptoCard : Claim7 := { stood := { row := runesKnownUptoRow, standIns := [], harness := (true, "ffbd5393e18e23d4ef6bbb2ab8577998daa2ef1b58965fa4c8d24e536f1a4390"), looks := false }, kinds := [], alts := [], laidByText := true, laidKinds := [.data, .data, .data, .data, .pinned], laidTests := true, laidLooks := .later }
def RunesKnownUptoCardSaid : Prop := Claim7.holds Tryd.pinned (.plain (OpenSpec.upto runesKnownSpec)) runesKnownUptoCard
end Rows
end Go.Proofs.YtdkjednjlpcboaaDoor
