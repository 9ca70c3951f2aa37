/-
  DERIVED. GIVEN WITH THE SEED: THE CARDS: each row of YtikkpecdkdgmfaaDoorRows.lean that lists a variable, with what it lists TIED to the program's text (the seventh form; the later family's looks); each row that meets fmt, with fmt's text TOLD by the authors' own Lean function (tested against real Go, not proved from fmt's source: count such statements apart). THE CARD IS WHAT COUNTS. Prove the row's statement (the work); the ties are given (YtikkpecdkdgmfaaDoorTie.lean); close each card by the builder's one call (the guide's Derived/Test/ToyasCard.lean, 'card_holds'). Laid BY PROGRAM, IN A SANDBOX (cutbox-door.mjs). By AI agents, Wed Nov 11 2026. No macro, syntax, notation, axiom, sorry.
-/
import Derived.Test.YtikkpecdkdgmfaaDoorRows
import GoSem.ClaimSeven
namespace Go.Proofs.YtikkpecdkdgmfaaDoor
namespace Rows

/-- THE TIED CARD OF 'tenementlaw3.BigTexts'. -/
def bigTextsCard : Claim7 := { stood := { row := bigTextsRow, standIns := [], harness := (true, "6db16c6799d4ae0d504d11ad03fe846106ac58bc5256491c20e3444ee582d5a0"), looks := false }, kinds := [], alts := [], laidByText := true, laidKinds := [.data, .pinned], laidTests := true, laidLooks := .later }
def BigTextsCardSaid : Prop := Claim7.holds Tryd.pinned (.plain (OpenSpec.ofChange bigTextsSpec)) bigTextsCard

/-- THE TIED CARD OF 'tenementlaw3.BigPowers'. -/
def bigPowersCard : Claim7 := { stood := { row := bigPowersRow, standIns := [], harness := (true, "6db16c6799d4ae0d504d11ad03fe846106ac58bc5256491c20e3444ee582d5a0"), looks := false }, kinds := [], alts := [], laidByText := true, laidKinds := [.data, .pinned], laidTests := true, laidLooks := .later }
def BigPowersCardSaid : Prop := Claim7.holds Tryd.pinned (.plain (OpenSpec.ofChange bigPowersSpec)) bigPowersCard

/-- THE TIED CARD OF 'tenementlaw3.BigRules'. -/
def bigRulesCard : Claim7 := { stood := { row := bigRulesRow, standIns := [], harness := (true, "6db16c6799d4ae0d504d11ad03fe846106ac58bc5256491c20e3444ee582d5a0"), looks := false }, kinds := [], alts := [], laidByText := true, laidKinds := [.data, .pinned], laidTests := true, laidLooks := .later }
def BigRulesCardSaid : Prop := Claim7.holds Tryd.pinned (.plain (OpenSpec.ofChange bigRulesSpec)) bigRulesCard

/-- THE TIED CARD OF 'tenementlaw3.BigKnown'. -/
def bigKnownCard : Claim7 := { stood := { row := bigKnownRow, standIns := [], harness := (true, "6db16c6799d4ae0d504d11ad03fe846106ac58bc5256491c20e3444ee582d5a0"), looks := false }, kinds := [], alts := [], laidByText := true, laidKinds := [.data, .pinned], laidTests := true, laidLooks := .later }
def BigKnownCardSaid : Prop := Claim7.holds Tryd.pinned (.plain (OpenSpec.ofChange bigKnownSpec)) bigKnownCard

/-- THE TIED CARD OF 'tenementlaw3.BigReckons'. -/
def bigReckonsCard : Claim7 := { stood := { row := bigReckonsRow, standIns := [], harness := (true, "6db16c6799d4ae0d504d11ad03fe846106ac58bc5256491c20e3444ee582d5a0"), looks := false }, kinds := [], alts := [], laidByText := true, laidKinds := [.data, .pinned], laidTests := true, laidLooks := .later }
def BigReckonsCardSaid : Prop := Claim7.holds Tryd.pinned (.plain (OpenSpec.ofChange bigReckonsSpec)) bigReckonsCard

/-- THE TIED CARD OF 'tenementlaw3.BigSmalls'. -/
def bigSmallsCard : Claim7 := { stood := { row := bigSmallsRow, standIns := [], harness := (true, "6db16c6799d4ae0d504d11ad03fe846106ac58bc5256491c20e3444ee582d5a0"), looks := false }, kinds := [], alts := [], laidByText := true, laidKinds := [.data, .pinned], laidTests := true, laidLooks := .later }
def BigSmallsCardSaid : Prop := Claim7.holds Tryd.pinned (.plain (OpenSpec.ofChange bigSmallsSpec)) bigSmallsCard

/-- THE SECOND FORM's CARD OF 'tenementlaw3.BigTexts'. -/
def bigTextsUptoCard : Claim7 := { stood := { row := bigTextsUptoRow, standIns := [], harness := (true, "6db16c6799d4ae0d504d11ad03fe846106ac58bc5256491c20e3444ee582d5a0"), looks := false }, kinds := [], alts := [], laidByText := true, laidKinds := [.data, .pinned], laidTests := true, laidLooks := .later }
def BigTextsUptoCardSaid : Prop := Claim7.holds Tryd.pinned (.plain (OpenSpec.upto bigTextsSpec)) bigTextsUptoCard

/-- THE SECOND FORM's CARD OF 'tenementlaw3.BigPowers'. -/
def bigPowersUptoCard : Claim7 := { stood := { row := bigPowersUptoRow, standIns := [], harness := (true, "6db16c6799d4ae0d504d11ad03fe846106ac58bc5256491c20e3444ee582d5a0"), looks := false }, kinds := [], alts := [], laidByText := true, laidKinds := [.data, .pinned], laidTests := true, laidLooks := .later }
def BigPowersUptoCardSaid : Prop := Claim7.holds Tryd.pinned (.plain (OpenSpec.upto bigPowersSpec)) bigPowersUptoCard

/-- THE SECOND FORM's CARD OF 'tenementlaw3.BigRules'. -/
def bigRulesUptoCard : Claim7 := { stood := { row := bigRulesUptoRow, standIns := [], harness := (true, "6db16c6799d4ae0d504d11ad03fe846106ac58bc5256491c20e3444ee582d5a0"), looks := false }, kinds := [], alts := [], laidByText := true, laidKinds := [.data, .pinned], laidTests := true, laidLooks := .later }
def BigRulesUptoCardSaid : Prop := Claim7.holds Tryd.pinned (.plain (OpenSpec.upto bigRulesSpec)) bigRulesUptoCard

/-- THE SECOND FORM's CARD OF 'tenementlaw3.BigKnown'. -/
def bigKnownUptoCard : Claim7 := { stood := { row := bigKnownUptoRow, standIns := [], harness := (true, "6db16c6799d4ae0d504d11ad03fe846106ac58bc5256491c20e3444ee582d5a0"), looks := false }, kinds := [], alts := [], laidByText := true, laidKinds := [.data, .pinned], laidTests := true, laidLooks := .later }
def BigKnownUptoCardSaid : Prop := Claim7.holds Tryd.pinned (.plain (OpenSpec.upto bigKnownSpec)) bigKnownUptoCard

/-- THE SECOND FORM's CARD OF 'tenementlaw3.BigReckons'. -/
def bigReckonsUptoCard : Claim7 := { stood := { row := bigReckonsUptoRow, standIns := [], harness := (true, "6db16c6799d4ae0d504d11ad03fe846106ac58bc5256491c20e3444ee582d5a0"), looks := false }, kinds := [], alts := [], laidByText := true, laidKinds := [.data, .pinned], laidTests := true, laidLooks := .later }
def BigReckonsUptoCardSaid : Prop := Claim7.holds Tryd.pinned (.plain (OpenSpec.upto bigReckonsSpec)) bigReckonsUptoCard

/-- THE SECOND FORM's CARD OF 'tenementlaw3.BigSmalls'. -/
def bigSmallsUptoCard : Claim7 := { stood := { row := bigSmallsUptoRow, standIns := [], harness := (true, "6db16c6799d4ae0d504d11ad03fe846106ac58bc5256491c20e3444ee582d5a0"), looks := false }, kinds := [], alts := [], laidByText := true, laidKinds := [.data, .pinned], laidTests := true, laidLooks := .later }
def BigSmallsUptoCardSaid : Prop := Claim7.holds Tryd.pinned (.plain (OpenSpec.upto bigSmallsSpec)) bigSmallsUptoCard
end Rows
end Go.Proofs.YtikkpecdkdgmfaaDoor
