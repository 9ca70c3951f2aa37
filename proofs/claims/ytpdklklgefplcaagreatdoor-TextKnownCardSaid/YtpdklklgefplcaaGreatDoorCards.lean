/-
  DERIVED. GIVEN WITH THE SEED: THE CARDS: each row of YtpdklklgefplcaaGreatDoorRows.lean that lists a variable, with what it lists TIED to the program's text (the seventh form; the later family's looks); each row that meets fmt, with fmt's text TOLD by the authors' own Lean function (tested against real Go, not proved from fmt's source: count such statements apart). THE CARD IS WHAT COUNTS. Prove the row's statement (the work); the ties are given (YtpdklklgefplcaaGreatDoorTie.lean); close each card by the builder's one call (the guide's Derived/Test/ToyasCard.lean, 'card_holds'). Laid BY PROGRAM, IN A SANDBOX (cutbox-door.mjs). By AI agents, Wed Nov 11 2026. No macro, syntax, notation, axiom, sorry.
-/
import Derived.Test.YtpdklklgefplcaaGreatDoorRows
import GoSem.ClaimSeven
namespace Go.Proofs.YtpdklklgefplcaaGreatDoor
namespace Rows

/-- THE TIED CARD OF 'tenementlaw7.TextKnown'. -/
def textKnownCard : Claim7 := { stood := { row := textKnownRow, standIns := [], harness := (true, "68ae167440eea8244229bece34c06b85e23e590d732f4001e033b2c6d649be49"), looks := true }, kinds := [], alts := [], laidByText := true, laidKinds := [.data, .data, .data, .data, .pinned], laidTests := true, laidLooks := .later }
def TextKnownCardSaid : Prop := Claim7.holds Tryz.pinned (.plain (OpenSpec.ofChange textKnownSpec)) textKnownCard

/-- THE TIED CARD OF 'tenementlaw7.TextPrints'. -/
def textPrintsCard : Claim7 := { stood := { row := textPrintsRow, standIns := [], harness := (true, "68ae167440eea8244229bece34c06b85e23e590d732f4001e033b2c6d649be49"), looks := true }, kinds := [], alts := [], laidByText := true, laidKinds := [.data, .data, .data, .data, .pinned], laidTests := true, laidLooks := .later }
def TextPrintsCardSaid : Prop := Claim7.holds Tryz.pinned (.plain (OpenSpec.ofChange textPrintsSpec)) textPrintsCard

/-- THE TIED CARD OF 'tenementlaw7.TextReads'. -/
def textReadsCard : Claim7 := { stood := { row := textReadsRow, standIns := [], harness := (true, "68ae167440eea8244229bece34c06b85e23e590d732f4001e033b2c6d649be49"), looks := true }, kinds := [], alts := [], laidByText := true, laidKinds := [.data, .data, .data, .data, .pinned], laidTests := true, laidLooks := .later }
def TextReadsCardSaid : Prop := Claim7.holds Tryz.pinned (.plain (OpenSpec.ofChange textReadsSpec)) textReadsCard

/-- THE TIED CARD OF 'tenementlaw7.TextBack'. -/
def textBackCard : Claim7 := { stood := { row := textBackRow, standIns := [], harness := (true, "68ae167440eea8244229bece34c06b85e23e590d732f4001e033b2c6d649be49"), looks := true }, kinds := [], alts := [], laidByText := true, laidKinds := [.data, .data, .data, .data, .pinned], laidTests := true, laidLooks := .later }
def TextBackCardSaid : Prop := Claim7.holds Tryz.pinned (.plain (OpenSpec.ofChange textBackSpec)) textBackCard

/-- THE TIED CARD OF 'tenementlaw7.TextUnlike'. -/
def textUnlikeCard : Claim7 := { stood := { row := textUnlikeRow, standIns := [], harness := (true, "68ae167440eea8244229bece34c06b85e23e590d732f4001e033b2c6d649be49"), looks := true }, kinds := [], alts := [], laidByText := true, laidKinds := [.data, .data, .data, .data, .pinned], laidTests := true, laidLooks := .later }
def TextUnlikeCardSaid : Prop := Claim7.holds Tryz.pinned (.plain (OpenSpec.ofChange textUnlikeSpec)) textUnlikeCard

/-- THE TIED CARD OF 'tenementlaw7.TextLists'. -/
def textListsCard : Claim7 := { stood := { row := textListsRow, standIns := [], harness := (true, "68ae167440eea8244229bece34c06b85e23e590d732f4001e033b2c6d649be49"), looks := true }, kinds := [], alts := [], laidByText := true, laidKinds := [.data, .data, .data, .data, .pinned], laidTests := true, laidLooks := .later }
def TextListsCardSaid : Prop := Claim7.holds Tryz.pinned (.plain (OpenSpec.ofChange textListsSpec)) textListsCard

/-- THE TIED CARD OF 'tenementlaw7.TextRest'. -/
def textRestCard : Claim7 := { stood := { row := textRestRow, standIns := [], harness := (true, "68ae167440eea8244229bece34c06b85e23e590d732f4001e033b2c6d649be49"), looks := true }, kinds := [], alts := [], laidByText := true, laidKinds := [.data, .data, .data, .data, .pinned], laidTests := true, laidLooks := .later }
def TextRestCardSaid : Prop := Claim7.holds Tryz.pinned (.plain (OpenSpec.ofChange textRestSpec)) textRestCard

/-- THE SECOND FORM's CARD OF 'tenementlaw7.TextKnown'. -/
def textKnownUptoCard : Claim7 := { stood := { row := textKnownUptoRow, standIns := [], harness := (true, "68ae167440eea8244229bece34c06b85e23e590d732f4001e033b2c6d649be49"), looks := true }, kinds := [], alts := [], laidByText := true, laidKinds := [.data, .data, .data, .data, .pinned], laidTests := true, laidLooks := .later }
def TextKnownUptoCardSaid : Prop := Claim7.holds Tryz.pinned (.plain (OpenSpec.upto textKnownSpec)) textKnownUptoCard

/-- THE SECOND FORM's CARD OF 'tenementlaw7.TextPrints'. -/
def textPrintsUptoCard : Claim7 := { stood := { row := textPrintsUptoRow, standIns := [], harness := (true, "68ae167440eea8244229bece34c06b85e23e590d732f4001e033b2c6d649be49"), looks := true }, kinds := [], alts := [], laidByText := true, laidKinds := [.data, .data, .data, .data, .pinned], laidTests := true, laidLooks := .later }
def TextPrintsUptoCardSaid : Prop := Claim7.holds Tryz.pinned (.plain (OpenSpec.upto textPrintsSpec)) textPrintsUptoCard

/-- THE SECOND FORM's CARD OF 'tenementlaw7.TextReads'. -/
def textReadsUptoCard : Claim7 := { stood := { row := textReadsUptoRow, standIns := [], harness := (true, "68ae167440eea8244229bece34c06b85e23e590d732f4001e033b2c6d649be49"), looks := true }, kinds := [], alts := [], laidByText := true, laidKinds := [.data, .data, .data, .data, .pinned], laidTests := true, laidLooks := .later }
def TextReadsUptoCardSaid : Prop := Claim7.holds Tryz.pinned (.plain (OpenSpec.upto textReadsSpec)) textReadsUptoCard

/-- THE SECOND FORM's CARD OF 'tenementlaw7.TextBack'. -/
def textBackUptoCard : Claim7 := { stood := { row := textBackUptoRow, standIns := [], harness := (true, "68ae167440eea8244229bece34c06b85e23e590d732f4001e033b2c6d649be49"), looks := true }, kinds := [], alts := [], laidByText := true, laidKinds := [.data, .data, .data, .data, .pinned], laidTests := true, laidLooks := .later }
def TextBackUptoCardSaid : Prop := Claim7.holds Tryz.pinned (.plain (OpenSpec.upto textBackSpec)) textBackUptoCard

/-- THE SECOND FORM's CARD OF 'tenementlaw7.TextUnlike'. -/
def textUnlikeUptoCard : Claim7 := { stood := { row := textUnlikeUptoRow, standIns := [], harness := (true, "68ae167440eea8244229bece34c06b85e23e590d732f4001e033b2c6d649be49"), looks := true }, kinds := [], alts := [], laidByText := true, laidKinds := [.data, .data, .data, .data, .pinned], laidTests := true, laidLooks := .later }
def TextUnlikeUptoCardSaid : Prop := Claim7.holds Tryz.pinned (.plain (OpenSpec.upto textUnlikeSpec)) textUnlikeUptoCard

/-- THE SECOND FORM's CARD OF 'tenementlaw7.TextLists'. -/
def textListsUptoCard : Claim7 := { stood := { row := textListsUptoRow, standIns := [], harness := (true, "68ae167440eea8244229bece34c06b85e23e590d732f4001e033b2c6d649be49"), looks := true }, kinds := [], alts := [], laidByText := true, laidKinds := [.data, .data, .data, .data, .pinned], laidTests := true, laidLooks := .later }
def TextListsUptoCardSaid : Prop := Claim7.holds Tryz.pinned (.plain (OpenSpec.upto textListsSpec)) textListsUptoCard

/-- THE SECOND FORM's CARD OF 'tenementlaw7.TextRest'. -/
def textRestUptoCard : Claim7 := { stood := { row := textRestUptoRow, standIns := [], harness := (true, "68ae167440eea8244229bece34c06b85e23e590d732f4001e033b2c6d649be49"), looks := true }, kinds := [], alts := [], laidByText := true, laidKinds := [.data, .data, .data, .data, .pinned], laidTests := true, laidLooks := .later }
def TextRestUptoCardSaid : Prop := Claim7.holds Tryz.pinned (.plain (OpenSpec.upto textRestSpec)) textRestUptoCard
end Rows
end Go.Proofs.YtpdklklgefplcaaGreatDoor
