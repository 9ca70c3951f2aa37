/-
  DERIVED. GIVEN WITH THE SEED: THE CARDS: each row of YthdhihbomackeaaGreatDoorRows.lean that lists a variable, with what it lists TIED to the program's text (the seventh form; the later family's looks); each row that meets fmt, with fmt's text TOLD by the authors' own Lean function (tested against real Go, not proved from fmt's source: count such statements apart). THE CARD IS WHAT COUNTS. Prove the row's statement (the work); the ties are given (YthdhihbomackeaaGreatDoorTie.lean); close each card by the builder's one call (the guide's Derived/Test/ToyasCard.lean, 'card_holds'). Laid BY PROGRAM, IN A SANDBOX (cutbox-door.mjs). By AI agents, Wed Nov 11 2026. No macro, syntax, notation, axiom, sorry.
-/
import Derived.Test.YthdhihbomackeaaGreatDoorRows
import GoSem.ClaimSeven
namespace Go.Proofs.YthdhihbomackeaaGreatDoor
namespace Rows

/-- THE TIED CARD OF 'tenementlaw17.CodeEncodes'. -/
def codeEncodesCard : Claim7 := { stood := { row := codeEncodesRow, standIns := [], harness := (true, "0522156b38ab610cecf3cbd368809fe224813908b8a01d18e78664cda1fa3d01"), looks := true }, kinds := [], alts := [], laidByText := true, laidKinds := [.data, .data, .data, .data, .pinned], laidTests := true, laidLooks := .later }
def CodeEncodesCardSaid : Prop := Claim7.holds Tryz.pinned (.plain (OpenSpec.ofChange codeEncodesSpec)) codeEncodesCard

/-- THE TIED CARD OF 'tenementlaw17.CodeSizes'. -/
def codeSizesCard : Claim7 := { stood := { row := codeSizesRow, standIns := [], harness := (true, "0522156b38ab610cecf3cbd368809fe224813908b8a01d18e78664cda1fa3d01"), looks := true }, kinds := [], alts := [], laidByText := true, laidKinds := [.data, .data, .data, .data, .pinned], laidTests := true, laidLooks := .later }
def CodeSizesCardSaid : Prop := Claim7.holds Tryz.pinned (.plain (OpenSpec.ofChange codeSizesSpec)) codeSizesCard

/-- THE TIED CARD OF 'tenementlaw18.CheckKnown'. -/
def checkKnownCard : Claim7 := { stood := { row := checkKnownRow, standIns := [], harness := (true, "0522156b38ab610cecf3cbd368809fe224813908b8a01d18e78664cda1fa3d01"), looks := true }, kinds := [], alts := [], laidByText := true, laidKinds := [.data, .data, .data, .data, .pinned], laidTests := true, laidLooks := .later }
def CheckKnownCardSaid : Prop := Claim7.holds Tryz.pinned (.plain (OpenSpec.ofChange checkKnownSpec)) checkKnownCard

/-- THE TIED CARD OF 'tenementlaw18.CheckPlays'. -/
def checkPlaysCard : Claim7 := { stood := { row := checkPlaysRow, standIns := [], harness := (true, "0522156b38ab610cecf3cbd368809fe224813908b8a01d18e78664cda1fa3d01"), looks := true }, kinds := [], alts := [], laidByText := true, laidKinds := [.data, .data, .data, .data, .pinned], laidTests := true, laidLooks := .later }
def CheckPlaysCardSaid : Prop := Claim7.holds Tryz.pinned (.plain (OpenSpec.ofChange checkPlaysSpec)) checkPlaysCard

/-- THE TIED CARD OF 'tenementlaw18.CheckHolds'. -/
def checkHoldsCard : Claim7 := { stood := { row := checkHoldsRow, standIns := [], harness := (true, "0522156b38ab610cecf3cbd368809fe224813908b8a01d18e78664cda1fa3d01"), looks := true }, kinds := [], alts := [], laidByText := true, laidKinds := [.data, .data, .data, .data, .pinned], laidTests := true, laidLooks := .later }
def CheckHoldsCardSaid : Prop := Claim7.holds Tryz.pinned (.plain (OpenSpec.ofChange checkHoldsSpec)) checkHoldsCard

/-- THE TIED CARD OF 'tenementlaw18.CheckMore'. -/
def checkMoreCard : Claim7 := { stood := { row := checkMoreRow, standIns := [], harness := (true, "0522156b38ab610cecf3cbd368809fe224813908b8a01d18e78664cda1fa3d01"), looks := true }, kinds := [], alts := [], laidByText := true, laidKinds := [.data, .data, .data, .data, .pinned], laidTests := true, laidLooks := .later }
def CheckMoreCardSaid : Prop := Claim7.holds Tryz.pinned (.plain (OpenSpec.ofChange checkMoreSpec)) checkMoreCard

/-- THE TIED CARD OF 'tenementlaw19.PoolCopies'. -/
def poolCopiesCard : Claim7 := { stood := { row := poolCopiesRow, standIns := [], harness := (true, "0522156b38ab610cecf3cbd368809fe224813908b8a01d18e78664cda1fa3d01"), looks := true }, kinds := [], alts := [], laidByText := true, laidKinds := [.data, .data, .data, .data, .pinned], laidTests := true, laidLooks := .later }
def PoolCopiesCardSaid : Prop := Claim7.holds Tryz.pinned (.plain (OpenSpec.ofChange poolCopiesSpec)) poolCopiesCard

/-- THE TIED CARD OF 'tenementlaw17.CodeKnown'. -/
def codeKnownCard : Claim7 := { stood := { row := codeKnownRow, standIns := [], harness := (true, "0522156b38ab610cecf3cbd368809fe224813908b8a01d18e78664cda1fa3d01"), looks := true }, kinds := [], alts := [], laidByText := true, laidKinds := [.data, .data, .data, .data, .pinned], laidTests := true, laidLooks := .later }
def CodeKnownCardSaid : Prop := Claim7.holds Tryz.pinned (.plain (OpenSpec.ofChange codeKnownSpec)) codeKnownCard

/-- THE TIED CARD OF 'tenementlaw17.CodeDecodes'. -/
def codeDecodesCard : Claim7 := { stood := { row := codeDecodesRow, standIns := [], harness := (true, "0522156b38ab610cecf3cbd368809fe224813908b8a01d18e78664cda1fa3d01"), looks := true }, kinds := [], alts := [], laidByText := true, laidKinds := [.data, .data, .data, .data, .pinned], laidTests := true, laidLooks := .later }
def CodeDecodesCardSaid : Prop := Claim7.holds Tryz.pinned (.plain (OpenSpec.ofChange codeDecodesSpec)) codeDecodesCard

/-- THE TIED CARD OF 'tenementlaw17.CodeBack'. -/
def codeBackCard : Claim7 := { stood := { row := codeBackRow, standIns := [], harness := (true, "0522156b38ab610cecf3cbd368809fe224813908b8a01d18e78664cda1fa3d01"), looks := true }, kinds := [], alts := [], laidByText := true, laidKinds := [.data, .data, .data, .data, .pinned], laidTests := true, laidLooks := .later }
def CodeBackCardSaid : Prop := Claim7.holds Tryz.pinned (.plain (OpenSpec.ofChange codeBackSpec)) codeBackCard

/-- THE TIED CARD OF 'tenementlaw19.PoolKnown'. -/
def poolKnownCard : Claim7 := { stood := { row := poolKnownRow, standIns := [], harness := (true, "0522156b38ab610cecf3cbd368809fe224813908b8a01d18e78664cda1fa3d01"), looks := true }, kinds := [], alts := [], laidByText := true, laidKinds := [.data, .data, .data, .data, .pinned], laidTests := true, laidLooks := .later }
def PoolKnownCardSaid : Prop := Claim7.holds Tryz.pinned (.plain (OpenSpec.ofChange poolKnownSpec)) poolKnownCard

/-- THE TIED CARD OF 'tenementlaw19.PoolLoads'. -/
def poolLoadsCard : Claim7 := { stood := { row := poolLoadsRow, standIns := [], harness := (true, "0522156b38ab610cecf3cbd368809fe224813908b8a01d18e78664cda1fa3d01"), looks := true }, kinds := [], alts := [], laidByText := true, laidKinds := [.data, .data, .data, .data, .pinned], laidTests := true, laidLooks := .later }
def PoolLoadsCardSaid : Prop := Claim7.holds Tryz.pinned (.plain (OpenSpec.ofChange poolLoadsSpec)) poolLoadsCard

/-- THE SECOND FORM's CARD OF 'tenementlaw17.CodeEncodes'. -/
def codeEncodesUptoCard : Claim7 := { stood := { row := codeEncodesUptoRow, standIns := [], harness := (true, "0522156b38ab610cecf3cbd368809fe224813908b8a01d18e78664cda1fa3d01"), looks := true }, kinds := [], alts := [], laidByText := true, laidKinds := [.data, .data, .data, .data, .pinned], laidTests := true, laidLooks := .later }
def CodeEncodesUptoCardSaid : Prop := Claim7.holds Tryz.pinned (.plain (OpenSpec.upto codeEncodesSpec)) codeEncodesUptoCard

/-- THE SECOND FORM's CARD OF 'tenementlaw17.CodeSizes'. -/
def codeSizesUptoCard : Claim7 := { stood := { row := codeSizesUptoRow, standIns := [], harness := (true, "0522156b38ab610cecf3cbd368809fe224813908b8a01d18e78664cda1fa3d01"), looks := true }, kinds := [], alts := [], laidByText := true, laidKinds := [.data, .data, .data, .data, .pinned], laidTests := true, laidLooks := .later }
def CodeSizesUptoCardSaid : Prop := Claim7.holds Tryz.pinned (.plain (OpenSpec.upto codeSizesSpec)) codeSizesUptoCard

/-- THE SECOND FORM's CARD OF 'tenementlaw18.CheckKnown'. -/
def checkKnownUptoCard : Claim7 := { stood := { row := checkKnownUptoRow, standIns := [], harness := (true, "0522156b38ab610cecf3cbd368809fe224813908b8a01d18e78664cda1fa3d01"), looks := true }, kinds := [], alts := [], laidByText := true, laidKinds := [.data, .data, .data, .data, .pinned], laidTests := true, laidLooks := .later }
def CheckKnownUptoCardSaid : Prop := Claim7.holds Tryz.pinned (.plain (OpenSpec.upto checkKnownSpec)) checkKnownUptoCard

/-- THE SECOND FORM's CARD OF 'tenementlaw18.CheckPlays'. -/
def checkPlaysUptoCard : Claim7 := { stood := { row := checkPlaysUptoRow, standIns := [], harness := (true, "0522156b38ab610cecf3cbd368809fe224813908b8a01d18e78664cda1fa3d01"), looks := true }, kinds := [], alts := [], laidByText := true, laidKinds := [.data, .data, .data, .data, .pinned], laidTests := true, laidLooks := .later }
def CheckPlaysUptoCardSaid : Prop := Claim7.holds Tryz.pinned (.plain (OpenSpec.upto checkPlaysSpec)) checkPlaysUptoCard

/-- THE SECOND FORM's CARD OF 'tenementlaw18.CheckHolds'. -/
def checkHoldsUptoCard : Claim7 := { stood := { row := checkHoldsUptoRow, standIns := [], harness := (true, "0522156b38ab610cecf3cbd368809fe224813908b8a01d18e78664cda1fa3d01"), looks := true }, kinds := [], alts := [], laidByText := true, laidKinds := [.data, .data, .data, .data, .pinned], laidTests := true, laidLooks := .later }
def CheckHoldsUptoCardSaid : Prop := Claim7.holds Tryz.pinned (.plain (OpenSpec.upto checkHoldsSpec)) checkHoldsUptoCard

/-- THE SECOND FORM's CARD OF 'tenementlaw18.CheckMore'. -/
def checkMoreUptoCard : Claim7 := { stood := { row := checkMoreUptoRow, standIns := [], harness := (true, "0522156b38ab610cecf3cbd368809fe224813908b8a01d18e78664cda1fa3d01"), looks := true }, kinds := [], alts := [], laidByText := true, laidKinds := [.data, .data, .data, .data, .pinned], laidTests := true, laidLooks := .later }
def CheckMoreUptoCardSaid : Prop := Claim7.holds Tryz.pinned (.plain (OpenSpec.upto checkMoreSpec)) checkMoreUptoCard

/-- THE SECOND FORM's CARD OF 'tenementlaw19.PoolCopies'. -/
def poolCopiesUptoCard : Claim7 := { stood := { row := poolCopiesUptoRow, standIns := [], harness := (true, "0522156b38ab610cecf3cbd368809fe224813908b8a01d18e78664cda1fa3d01"), looks := true }, kinds := [], alts := [], laidByText := true, laidKinds := [.data, .data, .data, .data, .pinned], laidTests := true, laidLooks := .later }
def PoolCopiesUptoCardSaid : Prop := Claim7.holds Tryz.pinned (.plain (OpenSpec.upto poolCopiesSpec)) poolCopiesUptoCard

/-- THE SECOND FORM's CARD OF 'tenementlaw17.CodeKnown'. -/
def codeKnownUptoCard : Claim7 := { stood := { row := codeKnownUptoRow, standIns := [], harness := (true, "0522156b38ab610cecf3cbd368809fe224813908b8a01d18e78664cda1fa3d01"), looks := true }, kinds := [], alts := [], laidByText := true, laidKinds := [.data, .data, .data, .data, .pinned], laidTests := true, laidLooks := .later }
def CodeKnownUptoCardSaid : Prop := Claim7.holds Tryz.pinned (.plain (OpenSpec.upto codeKnownSpec)) codeKnownUptoCard

/-- THE SECOND FORM's CARD OF 'tenementlaw17.CodeDecodes'. -/
def codeDecodesUptoCard : Claim7 := { stood := { row := codeDecodesUptoRow, standIns := [], harness := (true, "0522156b38ab610cecf3cbd368809fe224813908b8a01d18e78664cda1fa3d01"), looks := true }, kinds := [], alts := [], laidByText := true, laidKinds := [.data, .data, .data, .data, .pinned], laidTests := true, laidLooks := .later }
def CodeDecodesUptoCardSaid : Prop := Claim7.holds Tryz.pinned (.plain (OpenSpec.upto codeDecodesSpec)) codeDecodesUptoCard

/-- THE SECOND FORM's CARD OF 'tenementlaw17.CodeBack'. -/
def codeBackUptoCard : Claim7 := { stood := { row := codeBackUptoRow, standIns := [], harness := (true, "0522156b38ab610cecf3cbd368809fe224813908b8a01d18e78664cda1fa3d01"), looks := true }, kinds := [], alts := [], laidByText := true, laidKinds := [.data, .data, .data, .data, .pinned], laidTests := true, laidLooks := .later }
def CodeBackUptoCardSaid : Prop := Claim7.holds Tryz.pinned (.plain (OpenSpec.upto codeBackSpec)) codeBackUptoCard

/-- THE SECOND FORM's CARD OF 'tenementlaw19.PoolKnown'. -/
def poolKnownUptoCard : Claim7 := { stood := { row := poolKnownUptoRow, standIns := [], harness := (true, "0522156b38ab610cecf3cbd368809fe224813908b8a01d18e78664cda1fa3d01"), looks := true }, kinds := [], alts := [], laidByText := true, laidKinds := [.data, .data, .data, .data, .pinned], laidTests := true, laidLooks := .later }
def PoolKnownUptoCardSaid : Prop := Claim7.holds Tryz.pinned (.plain (OpenSpec.upto poolKnownSpec)) poolKnownUptoCard

/-- THE SECOND FORM's CARD OF 'tenementlaw19.PoolLoads'. -/
def poolLoadsUptoCard : Claim7 := { stood := { row := poolLoadsUptoRow, standIns := [], harness := (true, "0522156b38ab610cecf3cbd368809fe224813908b8a01d18e78664cda1fa3d01"), looks := true }, kinds := [], alts := [], laidByText := true, laidKinds := [.data, .data, .data, .data, .pinned], laidTests := true, laidLooks := .later }
def PoolLoadsUptoCardSaid : Prop := Claim7.holds Tryz.pinned (.plain (OpenSpec.upto poolLoadsSpec)) poolLoadsUptoCard
end Rows
end Go.Proofs.YthdhihbomackeaaGreatDoor
