/-
  DERIVED. GIVEN WITH THE SEED: THE CARDS: each row of YtleikacgncpfbaaDoorRows.lean that lists a variable, with what it lists TIED to the program's text (the seventh form; the later family's looks); each row that meets fmt, with fmt's text TOLD by the authors' own Lean function (tested against real Go, not proved from fmt's source: count such statements apart). THE CARD IS WHAT COUNTS. Prove the row's statement (the work); the ties are given (YtleikacgncpfbaaDoorTie.lean); close each card by the builder's one call (the guide's Derived/Test/ToyasCard.lean, 'card_holds'). Laid BY PROGRAM, IN A SANDBOX (cutbox-door.mjs). By AI agents, Wed Nov 11 2026. No macro, syntax, notation, axiom, sorry.
-/
import Derived.Test.YtleikacgncpfbaaDoorRows
import GoSem.ClaimSeven
namespace Go.Proofs.YtleikacgncpfbaaDoor
namespace Rows

/-- THE TIED CARD OF 'tenementlaw5.TermMay'. -/
def termMayCard : Claim7 := { stood := { row := termMayRow, standIns := [], harness := (true, "72d9264dcaf3a2fa03d603086f9ffd9272e80996d97dc0ea6833a3ce86da6290"), looks := false }, kinds := [], alts := [], laidByText := true, laidKinds := [.data, .pinned], laidTests := true, laidLooks := .later }
def TermMayCardSaid : Prop := Claim7.holds Tryd.pinned (.plain (OpenSpec.ofChange termMaySpec)) termMayCard

/-- THE TIED CARD OF 'tenementlaw6.OrderPairs'. -/
def orderPairsCard : Claim7 := { stood := { row := orderPairsRow, standIns := [], harness := (true, "72d9264dcaf3a2fa03d603086f9ffd9272e80996d97dc0ea6833a3ce86da6290"), looks := false }, kinds := [], alts := [], laidByText := true, laidKinds := [.data, .pinned], laidTests := true, laidLooks := .later }
def OrderPairsCardSaid : Prop := Claim7.holds Tryd.pinned (.plain (OpenSpec.ofChange orderPairsSpec)) orderPairsCard

/-- THE TIED CARD OF 'tenementlaw6.OrderThree'. -/
def orderThreeCard : Claim7 := { stood := { row := orderThreeRow, standIns := [], harness := (true, "72d9264dcaf3a2fa03d603086f9ffd9272e80996d97dc0ea6833a3ce86da6290"), looks := false }, kinds := [], alts := [], laidByText := true, laidKinds := [.data, .pinned], laidTests := true, laidLooks := .later }
def OrderThreeCardSaid : Prop := Claim7.holds Tryd.pinned (.plain (OpenSpec.ofChange orderThreeSpec)) orderThreeCard

/-- THE TIED CARD OF 'tenementlaw6.OrderKinds'. -/
def orderKindsCard : Claim7 := { stood := { row := orderKindsRow, standIns := [], harness := (true, "72d9264dcaf3a2fa03d603086f9ffd9272e80996d97dc0ea6833a3ce86da6290"), looks := false }, kinds := [], alts := [], laidByText := true, laidKinds := [.data, .pinned], laidTests := true, laidLooks := .later }
def OrderKindsCardSaid : Prop := Claim7.holds Tryd.pinned (.plain (OpenSpec.ofChange orderKindsSpec)) orderKindsCard

/-- THE TIED CARD OF 'tenementlaw5.TermNumbers'. -/
def termNumbersCard : Claim7 := { stood := { row := termNumbersRow, standIns := [], harness := (true, "72d9264dcaf3a2fa03d603086f9ffd9272e80996d97dc0ea6833a3ce86da6290"), looks := false }, kinds := [], alts := [], laidByText := true, laidKinds := [.data, .pinned], laidTests := true, laidLooks := .later }
def TermNumbersCardSaid : Prop := Claim7.holds Tryd.pinned (.plain (OpenSpec.ofChange termNumbersSpec)) termNumbersCard

/-- THE TIED CARD OF 'tenementlaw5.TermParts'. -/
def termPartsCard : Claim7 := { stood := { row := termPartsRow, standIns := [], harness := (true, "72d9264dcaf3a2fa03d603086f9ffd9272e80996d97dc0ea6833a3ce86da6290"), looks := false }, kinds := [], alts := [], laidByText := true, laidKinds := [.data, .pinned], laidTests := true, laidLooks := .later }
def TermPartsCardSaid : Prop := Claim7.holds Tryd.pinned (.plain (OpenSpec.ofChange termPartsSpec)) termPartsCard

/-- THE TIED CARD OF 'tenementlaw5.TermMakes'. -/
def termMakesCard : Claim7 := { stood := { row := termMakesRow, standIns := [], harness := (true, "72d9264dcaf3a2fa03d603086f9ffd9272e80996d97dc0ea6833a3ce86da6290"), looks := false }, kinds := [], alts := [], laidByText := true, laidKinds := [.data, .pinned], laidTests := true, laidLooks := .later }
def TermMakesCardSaid : Prop := Claim7.holds Tryd.pinned (.plain (OpenSpec.ofChange termMakesSpec)) termMakesCard

/-- THE TIED CARD OF 'tenementlaw5.TermSame'. -/
def termSameCard : Claim7 := { stood := { row := termSameRow, standIns := [], harness := (true, "72d9264dcaf3a2fa03d603086f9ffd9272e80996d97dc0ea6833a3ce86da6290"), looks := false }, kinds := [], alts := [], laidByText := true, laidKinds := [.data, .pinned], laidTests := true, laidLooks := .later }
def TermSameCardSaid : Prop := Claim7.holds Tryd.pinned (.plain (OpenSpec.ofChange termSameSpec)) termSameCard

/-- THE TIED CARD OF 'tenementlaw5.TermKnown'. -/
def termKnownCard : Claim7 := { stood := { row := termKnownRow, standIns := [], harness := (true, "72d9264dcaf3a2fa03d603086f9ffd9272e80996d97dc0ea6833a3ce86da6290"), looks := false }, kinds := [], alts := [], laidByText := true, laidKinds := [.data, .pinned], laidTests := true, laidLooks := .later }
def TermKnownCardSaid : Prop := Claim7.holds Tryd.pinned (.plain (OpenSpec.ofChange termKnownSpec)) termKnownCard

/-- THE TIED CARD OF 'tenementlaw6.OrderStable'. -/
def orderStableCard : Claim7 := { stood := { row := orderStableRow, standIns := [], harness := (true, "72d9264dcaf3a2fa03d603086f9ffd9272e80996d97dc0ea6833a3ce86da6290"), looks := false }, kinds := [], alts := [], laidByText := true, laidKinds := [.data, .pinned], laidTests := true, laidLooks := .later }
def OrderStableCardSaid : Prop := Claim7.holds Tryd.pinned (.plain (OpenSpec.ofChange orderStableSpec)) orderStableCard

/-- THE TIED CARD OF 'tenementlaw6.OrderKnown'. -/
def orderKnownCard : Claim7 := { stood := { row := orderKnownRow, standIns := [], harness := (true, "72d9264dcaf3a2fa03d603086f9ffd9272e80996d97dc0ea6833a3ce86da6290"), looks := false }, kinds := [], alts := [], laidByText := true, laidKinds := [.data, .pinned], laidTests := true, laidLooks := .later }
def OrderKnownCardSaid : Prop := Claim7.holds Tryd.pinned (.plain (OpenSpec.ofChange orderKnownSpec)) orderKnownCard

/-- THE TIED CARD OF 'tenementlaw6.OrderSorts'. -/
def orderSortsCard : Claim7 := { stood := { row := orderSortsRow, standIns := [], harness := (true, "72d9264dcaf3a2fa03d603086f9ffd9272e80996d97dc0ea6833a3ce86da6290"), looks := false }, kinds := [], alts := [], laidByText := true, laidKinds := [.data, .pinned], laidTests := true, laidLooks := .later }
def OrderSortsCardSaid : Prop := Claim7.holds Tryd.pinned (.plain (OpenSpec.ofChange orderSortsSpec)) orderSortsCard

/-- THE SECOND FORM's CARD OF 'tenementlaw5.TermMay'. -/
def termMayUptoCard : Claim7 := { stood := { row := termMayUptoRow, standIns := [], harness := (true, "72d9264dcaf3a2fa03d603086f9ffd9272e80996d97dc0ea6833a3ce86da6290"), looks := false }, kinds := [], alts := [], laidByText := true, laidKinds := [.data, .pinned], laidTests := true, laidLooks := .later }
def TermMayUptoCardSaid : Prop := Claim7.holds Tryd.pinned (.plain (OpenSpec.upto termMaySpec)) termMayUptoCard

/-- THE SECOND FORM's CARD OF 'tenementlaw6.OrderPairs'. -/
def orderPairsUptoCard : Claim7 := { stood := { row := orderPairsUptoRow, standIns := [], harness := (true, "72d9264dcaf3a2fa03d603086f9ffd9272e80996d97dc0ea6833a3ce86da6290"), looks := false }, kinds := [], alts := [], laidByText := true, laidKinds := [.data, .pinned], laidTests := true, laidLooks := .later }
def OrderPairsUptoCardSaid : Prop := Claim7.holds Tryd.pinned (.plain (OpenSpec.upto orderPairsSpec)) orderPairsUptoCard

/-- THE SECOND FORM's CARD OF 'tenementlaw6.OrderThree'. -/
def orderThreeUptoCard : Claim7 := { stood := { row := orderThreeUptoRow, standIns := [], harness := (true, "72d9264dcaf3a2fa03d603086f9ffd9272e80996d97dc0ea6833a3ce86da6290"), looks := false }, kinds := [], alts := [], laidByText := true, laidKinds := [.data, .pinned], laidTests := true, laidLooks := .later }
def OrderThreeUptoCardSaid : Prop := Claim7.holds Tryd.pinned (.plain (OpenSpec.upto orderThreeSpec)) orderThreeUptoCard

/-- THE SECOND FORM's CARD OF 'tenementlaw6.OrderKinds'. -/
def orderKindsUptoCard : Claim7 := { stood := { row := orderKindsUptoRow, standIns := [], harness := (true, "72d9264dcaf3a2fa03d603086f9ffd9272e80996d97dc0ea6833a3ce86da6290"), looks := false }, kinds := [], alts := [], laidByText := true, laidKinds := [.data, .pinned], laidTests := true, laidLooks := .later }
def OrderKindsUptoCardSaid : Prop := Claim7.holds Tryd.pinned (.plain (OpenSpec.upto orderKindsSpec)) orderKindsUptoCard

/-- THE SECOND FORM's CARD OF 'tenementlaw5.TermNumbers'. -/
def termNumbersUptoCard : Claim7 := { stood := { row := termNumbersUptoRow, standIns := [], harness := (true, "72d9264dcaf3a2fa03d603086f9ffd9272e80996d97dc0ea6833a3ce86da6290"), looks := false }, kinds := [], alts := [], laidByText := true, laidKinds := [.data, .pinned], laidTests := true, laidLooks := .later }
def TermNumbersUptoCardSaid : Prop := Claim7.holds Tryd.pinned (.plain (OpenSpec.upto termNumbersSpec)) termNumbersUptoCard

/-- THE SECOND FORM's CARD OF 'tenementlaw5.TermParts'. -/
def termPartsUptoCard : Claim7 := { stood := { row := termPartsUptoRow, standIns := [], harness := (true, "72d9264dcaf3a2fa03d603086f9ffd9272e80996d97dc0ea6833a3ce86da6290"), looks := false }, kinds := [], alts := [], laidByText := true, laidKinds := [.data, .pinned], laidTests := true, laidLooks := .later }
def TermPartsUptoCardSaid : Prop := Claim7.holds Tryd.pinned (.plain (OpenSpec.upto termPartsSpec)) termPartsUptoCard

/-- THE SECOND FORM's CARD OF 'tenementlaw5.TermMakes'. -/
def termMakesUptoCard : Claim7 := { stood := { row := termMakesUptoRow, standIns := [], harness := (true, "72d9264dcaf3a2fa03d603086f9ffd9272e80996d97dc0ea6833a3ce86da6290"), looks := false }, kinds := [], alts := [], laidByText := true, laidKinds := [.data, .pinned], laidTests := true, laidLooks := .later }
def TermMakesUptoCardSaid : Prop := Claim7.holds Tryd.pinned (.plain (OpenSpec.upto termMakesSpec)) termMakesUptoCard

/-- THE SECOND FORM's CARD OF 'tenementlaw5.TermSame'. -/
def termSameUptoCard : Claim7 := { stood := { row := termSameUptoRow, standIns := [], harness := (true, "72d9264dcaf3a2fa03d603086f9ffd9272e80996d97dc0ea6833a3ce86da6290"), looks := false }, kinds := [], alts := [], laidByText := true, laidKinds := [.data, .pinned], laidTests := true, laidLooks := .later }
def TermSameUptoCardSaid : Prop := Claim7.holds Tryd.pinned (.plain (OpenSpec.upto termSameSpec)) termSameUptoCard

/-- THE SECOND FORM's CARD OF 'tenementlaw5.TermKnown'. -/
def termKnownUptoCard : Claim7 := { stood := { row := termKnownUptoRow, standIns := [], harness := (true, "72d9264dcaf3a2fa03d603086f9ffd9272e80996d97dc0ea6833a3ce86da6290"), looks := false }, kinds := [], alts := [], laidByText := true, laidKinds := [.data, .pinned], laidTests := true, laidLooks := .later }
def TermKnownUptoCardSaid : Prop := Claim7.holds Tryd.pinned (.plain (OpenSpec.upto termKnownSpec)) termKnownUptoCard

/-- THE SECOND FORM's CARD OF 'tenementlaw6.OrderStable'. -/
def orderStableUptoCard : Claim7 := { stood := { row := orderStableUptoRow, standIns := [], harness := (true, "72d9264dcaf3a2fa03d603086f9ffd9272e80996d97dc0ea6833a3ce86da6290"), looks := false }, kinds := [], alts := [], laidByText := true, laidKinds := [.data, .pinned], laidTests := true, laidLooks := .later }
def OrderStableUptoCardSaid : Prop := Claim7.holds Tryd.pinned (.plain (OpenSpec.upto orderStableSpec)) orderStableUptoCard

/-- THE SECOND FORM's CARD OF 'tenementlaw6.OrderKnown'. -/
def orderKnownUptoCard : Claim7 := { stood := { row := orderKnownUptoRow, standIns := [], harness := (true, "72d9264dcaf3a2fa03d603086f9ffd9272e80996d97dc0ea6833a3ce86da6290"), looks := false }, kinds := [], alts := [], laidByText := true, laidKinds := [.data, .pinned], laidTests := true, laidLooks := .later }
def OrderKnownUptoCardSaid : Prop := Claim7.holds Tryd.pinned (.plain (OpenSpec.upto orderKnownSpec)) orderKnownUptoCard

/-- THE SECOND FORM's CARD OF 'tenementlaw6.OrderSorts'. -/
def orderSortsUptoCard : Claim7 := { stood := { row := orderSortsUptoRow, standIns := [], harness := (true, "72d9264dcaf3a2fa03d603086f9ffd9272e80996d97dc0ea6833a3ce86da6290"), looks := false }, kinds := [], alts := [], laidByText := true, laidKinds := [.data, .pinned], laidTests := true, laidLooks := .later }
def OrderSortsUptoCardSaid : Prop := Claim7.holds Tryd.pinned (.plain (OpenSpec.upto orderSortsSpec)) orderSortsUptoCard
end Rows
end Go.Proofs.YtleikacgncpfbaaDoor
