/-
  DERIVED. GIVEN WITH THE SEED: THE CARDS: each row of YtpddkeljhnimdaaDoorRows.lean that lists a variable, with what it lists TIED to the program's text (the seventh form; the later family's looks); each row that meets fmt, with fmt's text TOLD by the authors' own Lean function (tested against real Go, not proved from fmt's source: count such statements apart). THE CARD IS WHAT COUNTS. Prove the row's statement (the work); the ties are given (YtpddkeljhnimdaaDoorTie.lean); close each card by the builder's one call (the guide's Derived/Test/ToyasCard.lean, 'card_holds'). Laid BY PROGRAM, IN A SANDBOX (cutbox-door.mjs). By AI agents, Wed Nov 11 2026. No macro, syntax, notation, axiom, sorry.
-/
import Derived.Test.YtpddkeljhnimdaaDoorRows
import GoSem.ClaimSeven
namespace Go.Proofs.YtpddkeljhnimdaaDoor
namespace Rows

/-- THE TIED CARD OF 'tenementlaw9.BuildRoom'. -/
def buildRoomCard : Claim7 := { stood := { row := buildRoomRow, standIns := [], harness := (true, "58c7613cdddb39f91bc717b5ff099244fdb4d4f34d4f99ae6a80f080d7350368"), looks := false }, kinds := [], alts := [], laidByText := true, laidKinds := [.data, .pinned], laidTests := true, laidLooks := .later }
def BuildRoomCardSaid : Prop := Claim7.holds Tryd.pinned (.plain (OpenSpec.ofChange buildRoomSpec)) buildRoomCard

/-- THE TIED CARD OF 'tenementlaw9.BuildOrder'. -/
def buildOrderCard : Claim7 := { stood := { row := buildOrderRow, standIns := [], harness := (true, "58c7613cdddb39f91bc717b5ff099244fdb4d4f34d4f99ae6a80f080d7350368"), looks := false }, kinds := [], alts := [], laidByText := true, laidKinds := [.data, .pinned], laidTests := true, laidLooks := .later }
def BuildOrderCardSaid : Prop := Claim7.holds Tryd.pinned (.plain (OpenSpec.ofChange buildOrderSpec)) buildOrderCard

/-- THE TIED CARD OF 'tenementlaw9.BuildKnown'. -/
def buildKnownCard : Claim7 := { stood := { row := buildKnownRow, standIns := [], harness := (true, "58c7613cdddb39f91bc717b5ff099244fdb4d4f34d4f99ae6a80f080d7350368"), looks := false }, kinds := [], alts := [], laidByText := true, laidKinds := [.data, .pinned], laidTests := true, laidLooks := .later }
def BuildKnownCardSaid : Prop := Claim7.holds Tryd.pinned (.plain (OpenSpec.ofChange buildKnownSpec)) buildKnownCard

/-- THE SECOND FORM's CARD OF 'tenementlaw9.BuildRoom'. -/
def buildRoomUptoCard : Claim7 := { stood := { row := buildRoomUptoRow, standIns := [], harness := (true, "58c7613cdddb39f91bc717b5ff099244fdb4d4f34d4f99ae6a80f080d7350368"), looks := false }, kinds := [], alts := [], laidByText := true, laidKinds := [.data, .pinned], laidTests := true, laidLooks := .later }
def BuildRoomUptoCardSaid : Prop := Claim7.holds Tryd.pinned (.plain (OpenSpec.upto buildRoomSpec)) buildRoomUptoCard

/-- THE SECOND FORM's CARD OF 'tenementlaw9.BuildOrder'. -/
def buildOrderUptoCard : Claim7 := { stood := { row := buildOrderUptoRow, standIns := [], harness := (true, "58c7613cdddb39f91bc717b5ff099244fdb4d4f34d4f99ae6a80f080d7350368"), looks := false }, kinds := [], alts := [], laidByText := true, laidKinds := [.data, .pinned], laidTests := true, laidLooks := .later }
def BuildOrderUptoCardSaid : Prop := Claim7.holds Tryd.pinned (.plain (OpenSpec.upto buildOrderSpec)) buildOrderUptoCard

/-- THE SECOND FORM's CARD OF 'tenementlaw9.BuildKnown'. -/
def buildKnownUptoCard : Claim7 := { stood := { row := buildKnownUptoRow, standIns := [], harness := (true, "58c7613cdddb39f91bc717b5ff099244fdb4d4f34d4f99ae6a80f080d7350368"), looks := false }, kinds := [], alts := [], laidByText := true, laidKinds := [.data, .pinned], laidTests := true, laidLooks := .later }
def BuildKnownUptoCardSaid : Prop := Claim7.holds Tryd.pinned (.plain (OpenSpec.upto buildKnownSpec)) buildKnownUptoCard
end Rows
end Go.Proofs.YtpddkeljhnimdaaDoor
