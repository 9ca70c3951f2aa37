/-
  NARROWER THAN 'FOR EVERY INPUT', by the rows' own cells (each row's printed sentence says how): TermMay: loops, laid · OrderPairs: loops, laid · OrderThree: loops, laid · OrderKinds: loops, laid · TermNumbers: laid · TermParts: loops, laid · TermMakes: loops, laid · TermSame: loops, laid · TermKnown: laid · OrderStable: loops, laid · OrderKnown: laid · OrderSorts: loops, laid.
  DERIVED. THE GIVEN ROWS OF THIS SEAT. 12 by the template 'for every input the law returns true; each argument reads behind the call as it read before'; 0 by the template 'total and deterministic' (their statements: YtleikacgncpfbaaDoorTotals.lean).
  GIVEN WITH THE SEED: the statements are not yours to turn. If you find one false, say at which input.
  Laid BY PROGRAM, IN A SANDBOX (cutbox-rows.mjs): the forced cells as the released guide's own fill.sh prints them over the translation 4b6c9f1c1a6c2bf0… (all of the seat's roots in one cut). By AI agents, Wed Nov 11 2026. No macro, syntax, notation, axiom, sorry.
-/
import Derived.Test.YtleikacgncpfbaaDoorChecked
import GoSem.PinnedTables
import GoSem.Claim
import GoSem.ClaimJoined
import GoSem.ClaimMapViews
import Derived.JoinedTies
import Derived.KernelRfl
namespace Go.Proofs.YtleikacgncpfbaaDoor
/- THE CELL 'sum', in the pinned program and in every row, IS THE sha256 OF THE DUMP (.gsa) THAT YtleikacgncpfbaaDoorProg.lean LOADS. Nothing in Lean hashes anything: it is a label: what it is worth is what the hold of that sum in a sandbox is worth. -/
noncomputable def Tryd.pinned : Pinned := { name := "ytleikacgncpfbaadoor", sum := "4b6c9f1c1a6c2bf0cf52243de170a3120319606e4ff4b0b710737df8a10ad0ec", checked := Tryd.checked }
namespace Rows
def none {H : Type} : Left H := { results := [], args := [] }

/- WHAT THE LISTED PACKAGE-LEVEL VARIABLES READ AS WHEN THE CALL BEGINS. Each datum BY PROGRAM (the guide's laid-datum.mjs) off the statement by which the dump's own 'gosem.cut.vars' lays the variable. In a bare row this is a premise. The card (YtleikacgncpfbaaDoorCards.lean) ties it to the program's text. -/
def laid_unicode_utf8_acceptRanges {H : Type} : DataW H := .agg [.agg [.lit (.int .u8 128), .lit (.int .u8 191)], .agg [.lit (.int .u8 160), .lit (.int .u8 191)], .agg [.lit (.int .u8 128), .lit (.int .u8 159)], .agg [.lit (.int .u8 144), .lit (.int .u8 191)], .agg [.lit (.int .u8 128), .lit (.int .u8 143)], .agg [.lit (.int .u8 0), .lit (.int .u8 0)], .agg [.lit (.int .u8 0), .lit (.int .u8 0)], .agg [.lit (.int .u8 0), .lit (.int .u8 0)], .agg [.lit (.int .u8 0), .lit (.int .u8 0)], .agg [.lit (.int .u8 0), .lit (.int .u8 0)], .agg [.lit (.int .u8 0), .lit (.int .u8 0)], .agg [.lit (.int .u8 0), .lit (.int .u8 0)], .agg [.lit (.int .u8 0), .lit (.int .u8 0)], .agg [.lit (.int .u8 0), .lit (.int .u8 0)], .agg [.lit (.int .u8 0), .lit (.int .u8 0)], .agg [.lit (.int .u8 0), .lit (.int .u8 0)]]
/-- One of Go's own tables, pinned by name: the form's constant. -/
def laid_unicode_utf8_first : DataW Unit := Go.Pinned.utf8First

/-- 'tenementlaw5.TermMay': WHATEVER THE INPUT: true; the input reads as it did. -/
def termMaySpec : ChangeSpec := { name := "termMay", fn := fun _ => fun
  | [d] => { results := [.lit (.bool true)], args := [d] }
  | _ => none }
def termMayRow : OpenClaim := { program := "ytleikacgncpfbaadoor", sum := "4b6c9f1c1a6c2bf0cf52243de170a3120319606e4ff4b0b710737df8a10ad0ec", func := "tenement/tenementlaw5.TermMay", spec := "termMay", unfollowed := true, recurses := true, named := ["unicode/utf8.first", "unicode/utf8.acceptRanges"], loops := true, apart := false, laid := [("unicode/utf8.acceptRanges", laid_unicode_utf8_acceptRanges), ("unicode/utf8.first", laid_unicode_utf8_first)] }
def TermMaySaid : Prop := termMayRow.holds Tryd.pinned (OpenSpec.ofChange termMaySpec)

/-- ITS FALSE NEIGHBOUR: 'it returns false'. Refute it at one input. -/
def termMayWrong : ChangeSpec := { name := "termMay", fn := fun _ => fun
  | [d] => { results := [.lit (.bool false)], args := [d] }
  | _ => none }
def TermMayWrongFalsely : Prop := termMayRow.holds Tryd.pinned (OpenSpec.ofChange termMayWrong)

/-- 'tenementlaw6.OrderPairs': WHATEVER THE INPUT: true; the input reads as it did. -/
def orderPairsSpec : ChangeSpec := { name := "orderPairs", fn := fun _ => fun
  | [d1, d2] => { results := [.lit (.bool true)], args := [d1, d2] }
  | _ => none }
def orderPairsRow : OpenClaim := { program := "ytleikacgncpfbaadoor", sum := "4b6c9f1c1a6c2bf0cf52243de170a3120319606e4ff4b0b710737df8a10ad0ec", func := "tenement/tenementlaw6.OrderPairs", spec := "orderPairs", inPlace := ["internal/bytealg.Compare"], unfollowed := true, recurses := true, named := ["unicode/utf8.first", "unicode/utf8.acceptRanges"], loops := true, apart := false, laid := [("unicode/utf8.acceptRanges", laid_unicode_utf8_acceptRanges), ("unicode/utf8.first", laid_unicode_utf8_first)] }
def OrderPairsSaid : Prop := orderPairsRow.holds Tryd.pinned (OpenSpec.ofChange orderPairsSpec)

/-- ITS FALSE NEIGHBOUR: 'it returns false'. Refute it at one input. -/
def orderPairsWrong : ChangeSpec := { name := "orderPairs", fn := fun _ => fun
  | [d1, d2] => { results := [.lit (.bool false)], args := [d1, d2] }
  | _ => none }
def OrderPairsWrongFalsely : Prop := orderPairsRow.holds Tryd.pinned (OpenSpec.ofChange orderPairsWrong)

/-- 'tenementlaw6.OrderThree': WHATEVER THE INPUT: true; the input reads as it did. -/
def orderThreeSpec : ChangeSpec := { name := "orderThree", fn := fun _ => fun
  | [d] => { results := [.lit (.bool true)], args := [d] }
  | _ => none }
def orderThreeRow : OpenClaim := { program := "ytleikacgncpfbaadoor", sum := "4b6c9f1c1a6c2bf0cf52243de170a3120319606e4ff4b0b710737df8a10ad0ec", func := "tenement/tenementlaw6.OrderThree", spec := "orderThree", inPlace := ["internal/bytealg.Compare"], unfollowed := true, recurses := true, named := ["unicode/utf8.first", "unicode/utf8.acceptRanges"], loops := true, apart := false, laid := [("unicode/utf8.acceptRanges", laid_unicode_utf8_acceptRanges), ("unicode/utf8.first", laid_unicode_utf8_first)] }
def OrderThreeSaid : Prop := orderThreeRow.holds Tryd.pinned (OpenSpec.ofChange orderThreeSpec)

/-- ITS FALSE NEIGHBOUR: 'it returns false'. Refute it at one input. -/
def orderThreeWrong : ChangeSpec := { name := "orderThree", fn := fun _ => fun
  | [d] => { results := [.lit (.bool false)], args := [d] }
  | _ => none }
def OrderThreeWrongFalsely : Prop := orderThreeRow.holds Tryd.pinned (OpenSpec.ofChange orderThreeWrong)

/-- 'tenementlaw6.OrderKinds': WHATEVER THE INPUT: true; the input reads as it did. -/
def orderKindsSpec : ChangeSpec := { name := "orderKinds", fn := fun _ => fun
  | [d1, d2, d3] => { results := [.lit (.bool true)], args := [d1, d2, d3] }
  | _ => none }
def orderKindsRow : OpenClaim := { program := "ytleikacgncpfbaadoor", sum := "4b6c9f1c1a6c2bf0cf52243de170a3120319606e4ff4b0b710737df8a10ad0ec", func := "tenement/tenementlaw6.OrderKinds", spec := "orderKinds", inPlace := ["internal/bytealg.Compare"], unfollowed := true, recurses := true, named := ["unicode/utf8.first", "unicode/utf8.acceptRanges"], loops := true, apart := false, laid := [("unicode/utf8.acceptRanges", laid_unicode_utf8_acceptRanges), ("unicode/utf8.first", laid_unicode_utf8_first)] }
def OrderKindsSaid : Prop := orderKindsRow.holds Tryd.pinned (OpenSpec.ofChange orderKindsSpec)

/-- ITS FALSE NEIGHBOUR: 'it returns false'. Refute it at one input. -/
def orderKindsWrong : ChangeSpec := { name := "orderKinds", fn := fun _ => fun
  | [d1, d2, d3] => { results := [.lit (.bool false)], args := [d1, d2, d3] }
  | _ => none }
def OrderKindsWrongFalsely : Prop := orderKindsRow.holds Tryd.pinned (OpenSpec.ofChange orderKindsWrong)

/-- 'tenementlaw5.TermNumbers': WHATEVER THE INPUT: true; the input reads as it did. -/
def termNumbersSpec : ChangeSpec := { name := "termNumbers", fn := fun _ => fun
  | [d1, d2] => { results := [.lit (.bool true)], args := [d1, d2] }
  | _ => none }
def termNumbersRow : OpenClaim := { program := "ytleikacgncpfbaadoor", sum := "4b6c9f1c1a6c2bf0cf52243de170a3120319606e4ff4b0b710737df8a10ad0ec", func := "tenement/tenementlaw5.TermNumbers", spec := "termNumbers", unfollowed := true, recurses := true, named := ["unicode/utf8.first", "unicode/utf8.acceptRanges"], apart := false, laid := [("unicode/utf8.acceptRanges", laid_unicode_utf8_acceptRanges), ("unicode/utf8.first", laid_unicode_utf8_first)] }
def TermNumbersSaid : Prop := termNumbersRow.holds Tryd.pinned (OpenSpec.ofChange termNumbersSpec)

/-- ITS FALSE NEIGHBOUR: 'it returns false'. Refute it at one input. -/
def termNumbersWrong : ChangeSpec := { name := "termNumbers", fn := fun _ => fun
  | [d1, d2] => { results := [.lit (.bool false)], args := [d1, d2] }
  | _ => none }
def TermNumbersWrongFalsely : Prop := termNumbersRow.holds Tryd.pinned (OpenSpec.ofChange termNumbersWrong)

/-- 'tenementlaw5.TermParts': WHATEVER THE INPUT: true; the input reads as it did. -/
def termPartsSpec : ChangeSpec := { name := "termParts", fn := fun _ => fun
  | [d] => { results := [.lit (.bool true)], args := [d] }
  | _ => none }
def termPartsRow : OpenClaim := { program := "ytleikacgncpfbaadoor", sum := "4b6c9f1c1a6c2bf0cf52243de170a3120319606e4ff4b0b710737df8a10ad0ec", func := "tenement/tenementlaw5.TermParts", spec := "termParts", unfollowed := true, recurses := true, named := ["unicode/utf8.first", "unicode/utf8.acceptRanges"], loops := true, apart := false, laid := [("unicode/utf8.acceptRanges", laid_unicode_utf8_acceptRanges), ("unicode/utf8.first", laid_unicode_utf8_first)] }
def TermPartsSaid : Prop := termPartsRow.holds Tryd.pinned (OpenSpec.ofChange termPartsSpec)

/-- ITS FALSE NEIGHBOUR: 'it returns false'. Refute it at one input. -/
def termPartsWrong : ChangeSpec := { name := "termParts", fn := fun _ => fun
  | [d] => { results := [.lit (.bool false)], args := [d] }
  | _ => none }
def TermPartsWrongFalsely : Prop := termPartsRow.holds Tryd.pinned (OpenSpec.ofChange termPartsWrong)

/-- 'tenementlaw5.TermMakes': WHATEVER THE INPUT: true; the input reads as it did. -/
def termMakesSpec : ChangeSpec := { name := "termMakes", fn := fun _ => fun
  | [d1, d2, d3] => { results := [.lit (.bool true)], args := [d1, d2, d3] }
  | _ => none }
def termMakesRow : OpenClaim := { program := "ytleikacgncpfbaadoor", sum := "4b6c9f1c1a6c2bf0cf52243de170a3120319606e4ff4b0b710737df8a10ad0ec", func := "tenement/tenementlaw5.TermMakes", spec := "termMakes", unfollowed := true, recurses := true, named := ["unicode/utf8.first", "unicode/utf8.acceptRanges"], loops := true, apart := false, laid := [("unicode/utf8.acceptRanges", laid_unicode_utf8_acceptRanges), ("unicode/utf8.first", laid_unicode_utf8_first)] }
def TermMakesSaid : Prop := termMakesRow.holds Tryd.pinned (OpenSpec.ofChange termMakesSpec)

/-- ITS FALSE NEIGHBOUR: 'it returns false'. Refute it at one input. -/
def termMakesWrong : ChangeSpec := { name := "termMakes", fn := fun _ => fun
  | [d1, d2, d3] => { results := [.lit (.bool false)], args := [d1, d2, d3] }
  | _ => none }
def TermMakesWrongFalsely : Prop := termMakesRow.holds Tryd.pinned (OpenSpec.ofChange termMakesWrong)

/-- 'tenementlaw5.TermSame': WHATEVER THE INPUT: true; the input reads as it did. -/
def termSameSpec : ChangeSpec := { name := "termSame", fn := fun _ => fun
  | [d1, d2] => { results := [.lit (.bool true)], args := [d1, d2] }
  | _ => none }
def termSameRow : OpenClaim := { program := "ytleikacgncpfbaadoor", sum := "4b6c9f1c1a6c2bf0cf52243de170a3120319606e4ff4b0b710737df8a10ad0ec", func := "tenement/tenementlaw5.TermSame", spec := "termSame", unfollowed := true, recurses := true, named := ["unicode/utf8.first", "unicode/utf8.acceptRanges"], loops := true, apart := false, laid := [("unicode/utf8.acceptRanges", laid_unicode_utf8_acceptRanges), ("unicode/utf8.first", laid_unicode_utf8_first)] }
def TermSameSaid : Prop := termSameRow.holds Tryd.pinned (OpenSpec.ofChange termSameSpec)

/-- ITS FALSE NEIGHBOUR: 'it returns false'. Refute it at one input. -/
def termSameWrong : ChangeSpec := { name := "termSame", fn := fun _ => fun
  | [d1, d2] => { results := [.lit (.bool false)], args := [d1, d2] }
  | _ => none }
def TermSameWrongFalsely : Prop := termSameRow.holds Tryd.pinned (OpenSpec.ofChange termSameWrong)

/-- 'tenementlaw5.TermKnown': WHATEVER THE INPUT: true; the input reads as it did. -/
def termKnownSpec : ChangeSpec := { name := "termKnown", fn := fun _ => fun
  | [] => { results := [.lit (.bool true)], args := [] }
  | _ => none }
def termKnownRow : OpenClaim := { program := "ytleikacgncpfbaadoor", sum := "4b6c9f1c1a6c2bf0cf52243de170a3120319606e4ff4b0b710737df8a10ad0ec", func := "tenement/tenementlaw5.TermKnown", spec := "termKnown", unfollowed := true, recurses := true, named := ["unicode/utf8.first", "unicode/utf8.acceptRanges"], apart := false, laid := [("unicode/utf8.acceptRanges", laid_unicode_utf8_acceptRanges), ("unicode/utf8.first", laid_unicode_utf8_first)] }
def TermKnownSaid : Prop := termKnownRow.holds Tryd.pinned (OpenSpec.ofChange termKnownSpec)

/-- ITS FALSE NEIGHBOUR: 'it returns false'. Refute it at one input. -/
def termKnownWrong : ChangeSpec := { name := "termKnown", fn := fun _ => fun
  | [] => { results := [.lit (.bool false)], args := [] }
  | _ => none }
def TermKnownWrongFalsely : Prop := termKnownRow.holds Tryd.pinned (OpenSpec.ofChange termKnownWrong)

/-- 'tenementlaw6.OrderStable': WHATEVER THE INPUT: true; the input reads as it did. -/
def orderStableSpec : ChangeSpec := { name := "orderStable", fn := fun _ => fun
  | [d1, d2] => { results := [.lit (.bool true)], args := [d1, d2] }
  | _ => none }
def orderStableRow : OpenClaim := { program := "ytleikacgncpfbaadoor", sum := "4b6c9f1c1a6c2bf0cf52243de170a3120319606e4ff4b0b710737df8a10ad0ec", func := "tenement/tenementlaw6.OrderStable", spec := "orderStable", inPlace := ["internal/bytealg.Compare"], unfollowed := true, recurses := true, named := ["unicode/utf8.first", "unicode/utf8.acceptRanges"], loops := true, apart := false, laid := [("unicode/utf8.acceptRanges", laid_unicode_utf8_acceptRanges), ("unicode/utf8.first", laid_unicode_utf8_first)] }
def OrderStableSaid : Prop := orderStableRow.holds Tryd.pinned (OpenSpec.ofChange orderStableSpec)

/-- ITS FALSE NEIGHBOUR: 'it returns false'. Refute it at one input. -/
def orderStableWrong : ChangeSpec := { name := "orderStable", fn := fun _ => fun
  | [d1, d2] => { results := [.lit (.bool false)], args := [d1, d2] }
  | _ => none }
def OrderStableWrongFalsely : Prop := orderStableRow.holds Tryd.pinned (OpenSpec.ofChange orderStableWrong)

/-- 'tenementlaw6.OrderKnown': WHATEVER THE INPUT: true; the input reads as it did. -/
def orderKnownSpec : ChangeSpec := { name := "orderKnown", fn := fun _ => fun
  | [] => { results := [.lit (.bool true)], args := [] }
  | _ => none }
def orderKnownRow : OpenClaim := { program := "ytleikacgncpfbaadoor", sum := "4b6c9f1c1a6c2bf0cf52243de170a3120319606e4ff4b0b710737df8a10ad0ec", func := "tenement/tenementlaw6.OrderKnown", spec := "orderKnown", inPlace := ["internal/bytealg.Compare"], unfollowed := true, recurses := true, named := ["unicode/utf8.first", "unicode/utf8.acceptRanges"], apart := false, laid := [("unicode/utf8.acceptRanges", laid_unicode_utf8_acceptRanges), ("unicode/utf8.first", laid_unicode_utf8_first)] }
def OrderKnownSaid : Prop := orderKnownRow.holds Tryd.pinned (OpenSpec.ofChange orderKnownSpec)

/-- ITS FALSE NEIGHBOUR: 'it returns false'. Refute it at one input. -/
def orderKnownWrong : ChangeSpec := { name := "orderKnown", fn := fun _ => fun
  | [] => { results := [.lit (.bool false)], args := [] }
  | _ => none }
def OrderKnownWrongFalsely : Prop := orderKnownRow.holds Tryd.pinned (OpenSpec.ofChange orderKnownWrong)

/-- 'tenementlaw6.OrderSorts': WHATEVER THE INPUT: true; the input reads as it did. -/
def orderSortsSpec : ChangeSpec := { name := "orderSorts", fn := fun _ => fun
  | [d] => { results := [.lit (.bool true)], args := [d] }
  | _ => none }
def orderSortsRow : OpenClaim := { program := "ytleikacgncpfbaadoor", sum := "4b6c9f1c1a6c2bf0cf52243de170a3120319606e4ff4b0b710737df8a10ad0ec", func := "tenement/tenementlaw6.OrderSorts", spec := "orderSorts", inPlace := ["internal/bytealg.Compare"], unfollowed := true, recurses := true, named := ["unicode/utf8.first", "unicode/utf8.acceptRanges"], loops := true, apart := false, laid := [("unicode/utf8.acceptRanges", laid_unicode_utf8_acceptRanges), ("unicode/utf8.first", laid_unicode_utf8_first)] }
def OrderSortsSaid : Prop := orderSortsRow.holds Tryd.pinned (OpenSpec.ofChange orderSortsSpec)

/-- ITS FALSE NEIGHBOUR: 'it returns false'. Refute it at one input. -/
def orderSortsWrong : ChangeSpec := { name := "orderSorts", fn := fun _ => fun
  | [d] => { results := [.lit (.bool false)], args := [d] }
  | _ => none }
def OrderSortsWrongFalsely : Prop := orderSortsRow.holds Tryd.pinned (OpenSpec.ofChange orderSortsWrong)

/- THE SECOND FORM. 'bulk': how many values and letters a reading holds, each counted each time it is reached (what is shared counts as often as it is met; a slice's spare places count too). A statement '..UptoSaid' is the law's where the arguments, and the package variables that the reading takes, are together of bulk at most 1048576: NARROWER than '..Said'. Prove '..Said' where nothing that the law and all that it calls make is longer than what came in: it says more and counts as full. Else prove '..UptoSaid'. A law counts once. -/
mutual
def uptoBulk {H : Type} : DataW H → Nat
  | .lit (.string bytes) => bytes.length + 1
  | .lit _ => 1
  | .nil => 1
  | .ptr d => uptoBulk d + 1
  | .slice elems spare => uptoBulkAll elems + uptoBulkAll spare + 1
  | .agg parts => uptoBulkAll parts + 1
  | .iface _ d => uptoBulk d + 1
  | .map entries => uptoBulkEntries entries + 1
  | .held _ => 1
def uptoBulkAll {H : Type} : List (DataW H) → Nat
  | [] => 0
  | d :: r => uptoBulk d + uptoBulkAll r
def uptoBulkEntries {H : Type} : List (Lit × DataW H) → Nat
  | [] => 0
  | x :: r => uptoBulkEntry x + uptoBulkEntries r
def uptoBulkEntry {H : Type} : Lit × DataW H → Nat
  | (.string bytes, d) => bytes.length + uptoBulk d + 1
  | (_, d) => uptoBulk d + 1
 end
def uptoSmall : (H : Type) → List (DataW H) → Bool := fun _ ds => decide (uptoBulkAll ds ≤ 1048576)
def OpenSpec.upto (s : _root_.Go.ChangeSpec) : _root_.Go.OpenSpec := { _root_.Go.OpenSpec.ofChange s with cond := some uptoSmall }

/-- 'tenementlaw5.TermMay', WHERE WHAT IT READS IS OF BULK AT MOST 1048576: true; the input reads as it did. -/
def termMayUptoRow : OpenClaim := { program := "ytleikacgncpfbaadoor", sum := "4b6c9f1c1a6c2bf0cf52243de170a3120319606e4ff4b0b710737df8a10ad0ec", func := "tenement/tenementlaw5.TermMay", spec := "termMay", unfollowed := true, recurses := true, named := ["unicode/utf8.first", "unicode/utf8.acceptRanges"], loops := true, apart := false, laid := [("unicode/utf8.acceptRanges", laid_unicode_utf8_acceptRanges), ("unicode/utf8.first", laid_unicode_utf8_first)], narrowed := true }
def TermMayUptoSaid : Prop := termMayUptoRow.holds Tryd.pinned (OpenSpec.upto termMaySpec)

/-- 'tenementlaw6.OrderPairs', WHERE WHAT IT READS IS OF BULK AT MOST 1048576: true; the input reads as it did. -/
def orderPairsUptoRow : OpenClaim := { program := "ytleikacgncpfbaadoor", sum := "4b6c9f1c1a6c2bf0cf52243de170a3120319606e4ff4b0b710737df8a10ad0ec", func := "tenement/tenementlaw6.OrderPairs", spec := "orderPairs", inPlace := ["internal/bytealg.Compare"], unfollowed := true, recurses := true, named := ["unicode/utf8.first", "unicode/utf8.acceptRanges"], loops := true, apart := false, laid := [("unicode/utf8.acceptRanges", laid_unicode_utf8_acceptRanges), ("unicode/utf8.first", laid_unicode_utf8_first)], narrowed := true }
def OrderPairsUptoSaid : Prop := orderPairsUptoRow.holds Tryd.pinned (OpenSpec.upto orderPairsSpec)

/-- 'tenementlaw6.OrderThree', WHERE WHAT IT READS IS OF BULK AT MOST 1048576: true; the input reads as it did. -/
def orderThreeUptoRow : OpenClaim := { program := "ytleikacgncpfbaadoor", sum := "4b6c9f1c1a6c2bf0cf52243de170a3120319606e4ff4b0b710737df8a10ad0ec", func := "tenement/tenementlaw6.OrderThree", spec := "orderThree", inPlace := ["internal/bytealg.Compare"], unfollowed := true, recurses := true, named := ["unicode/utf8.first", "unicode/utf8.acceptRanges"], loops := true, apart := false, laid := [("unicode/utf8.acceptRanges", laid_unicode_utf8_acceptRanges), ("unicode/utf8.first", laid_unicode_utf8_first)], narrowed := true }
def OrderThreeUptoSaid : Prop := orderThreeUptoRow.holds Tryd.pinned (OpenSpec.upto orderThreeSpec)

/-- 'tenementlaw6.OrderKinds', WHERE WHAT IT READS IS OF BULK AT MOST 1048576: true; the input reads as it did. -/
def orderKindsUptoRow : OpenClaim := { program := "ytleikacgncpfbaadoor", sum := "4b6c9f1c1a6c2bf0cf52243de170a3120319606e4ff4b0b710737df8a10ad0ec", func := "tenement/tenementlaw6.OrderKinds", spec := "orderKinds", inPlace := ["internal/bytealg.Compare"], unfollowed := true, recurses := true, named := ["unicode/utf8.first", "unicode/utf8.acceptRanges"], loops := true, apart := false, laid := [("unicode/utf8.acceptRanges", laid_unicode_utf8_acceptRanges), ("unicode/utf8.first", laid_unicode_utf8_first)], narrowed := true }
def OrderKindsUptoSaid : Prop := orderKindsUptoRow.holds Tryd.pinned (OpenSpec.upto orderKindsSpec)

/-- 'tenementlaw5.TermNumbers', WHERE WHAT IT READS IS OF BULK AT MOST 1048576: true; the input reads as it did. -/
def termNumbersUptoRow : OpenClaim := { program := "ytleikacgncpfbaadoor", sum := "4b6c9f1c1a6c2bf0cf52243de170a3120319606e4ff4b0b710737df8a10ad0ec", func := "tenement/tenementlaw5.TermNumbers", spec := "termNumbers", unfollowed := true, recurses := true, named := ["unicode/utf8.first", "unicode/utf8.acceptRanges"], apart := false, laid := [("unicode/utf8.acceptRanges", laid_unicode_utf8_acceptRanges), ("unicode/utf8.first", laid_unicode_utf8_first)], narrowed := true }
def TermNumbersUptoSaid : Prop := termNumbersUptoRow.holds Tryd.pinned (OpenSpec.upto termNumbersSpec)

/-- 'tenementlaw5.TermParts', WHERE WHAT IT READS IS OF BULK AT MOST 1048576: true; the input reads as it did. -/
def termPartsUptoRow : OpenClaim := { program := "ytleikacgncpfbaadoor", sum := "4b6c9f1c1a6c2bf0cf52243de170a3120319606e4ff4b0b710737df8a10ad0ec", func := "tenement/tenementlaw5.TermParts", spec := "termParts", unfollowed := true, recurses := true, named := ["unicode/utf8.first", "unicode/utf8.acceptRanges"], loops := true, apart := false, laid := [("unicode/utf8.acceptRanges", laid_unicode_utf8_acceptRanges), ("unicode/utf8.first", laid_unicode_utf8_first)], narrowed := true }
def TermPartsUptoSaid : Prop := termPartsUptoRow.holds Tryd.pinned (OpenSpec.upto termPartsSpec)

/-- 'tenementlaw5.TermMakes', WHERE WHAT IT READS IS OF BULK AT MOST 1048576: true; the input reads as it did. -/
def termMakesUptoRow : OpenClaim := { program := "ytleikacgncpfbaadoor", sum := "4b6c9f1c1a6c2bf0cf52243de170a3120319606e4ff4b0b710737df8a10ad0ec", func := "tenement/tenementlaw5.TermMakes", spec := "termMakes", unfollowed := true, recurses := true, named := ["unicode/utf8.first", "unicode/utf8.acceptRanges"], loops := true, apart := false, laid := [("unicode/utf8.acceptRanges", laid_unicode_utf8_acceptRanges), ("unicode/utf8.first", laid_unicode_utf8_first)], narrowed := true }
def TermMakesUptoSaid : Prop := termMakesUptoRow.holds Tryd.pinned (OpenSpec.upto termMakesSpec)

/-- 'tenementlaw5.TermSame', WHERE WHAT IT READS IS OF BULK AT MOST 1048576: true; the input reads as it did. -/
def termSameUptoRow : OpenClaim := { program := "ytleikacgncpfbaadoor", sum := "4b6c9f1c1a6c2bf0cf52243de170a3120319606e4ff4b0b710737df8a10ad0ec", func := "tenement/tenementlaw5.TermSame", spec := "termSame", unfollowed := true, recurses := true, named := ["unicode/utf8.first", "unicode/utf8.acceptRanges"], loops := true, apart := false, laid := [("unicode/utf8.acceptRanges", laid_unicode_utf8_acceptRanges), ("unicode/utf8.first", laid_unicode_utf8_first)], narrowed := true }
def TermSameUptoSaid : Prop := termSameUptoRow.holds Tryd.pinned (OpenSpec.upto termSameSpec)

/-- 'tenementlaw5.TermKnown', WHERE WHAT IT READS IS OF BULK AT MOST 1048576: true; the input reads as it did. -/
def termKnownUptoRow : OpenClaim := { program := "ytleikacgncpfbaadoor", sum := "4b6c9f1c1a6c2bf0cf52243de170a3120319606e4ff4b0b710737df8a10ad0ec", func := "tenement/tenementlaw5.TermKnown", spec := "termKnown", unfollowed := true, recurses := true, named := ["unicode/utf8.first", "unicode/utf8.acceptRanges"], apart := false, laid := [("unicode/utf8.acceptRanges", laid_unicode_utf8_acceptRanges), ("unicode/utf8.first", laid_unicode_utf8_first)], narrowed := true }
def TermKnownUptoSaid : Prop := termKnownUptoRow.holds Tryd.pinned (OpenSpec.upto termKnownSpec)

/-- 'tenementlaw6.OrderStable', WHERE WHAT IT READS IS OF BULK AT MOST 1048576: true; the input reads as it did. -/
def orderStableUptoRow : OpenClaim := { program := "ytleikacgncpfbaadoor", sum := "4b6c9f1c1a6c2bf0cf52243de170a3120319606e4ff4b0b710737df8a10ad0ec", func := "tenement/tenementlaw6.OrderStable", spec := "orderStable", inPlace := ["internal/bytealg.Compare"], unfollowed := true, recurses := true, named := ["unicode/utf8.first", "unicode/utf8.acceptRanges"], loops := true, apart := false, laid := [("unicode/utf8.acceptRanges", laid_unicode_utf8_acceptRanges), ("unicode/utf8.first", laid_unicode_utf8_first)], narrowed := true }
def OrderStableUptoSaid : Prop := orderStableUptoRow.holds Tryd.pinned (OpenSpec.upto orderStableSpec)

/-- 'tenementlaw6.OrderKnown', WHERE WHAT IT READS IS OF BULK AT MOST 1048576: true; the input reads as it did. -/
def orderKnownUptoRow : OpenClaim := { program := "ytleikacgncpfbaadoor", sum := "4b6c9f1c1a6c2bf0cf52243de170a3120319606e4ff4b0b710737df8a10ad0ec", func := "tenement/tenementlaw6.OrderKnown", spec := "orderKnown", inPlace := ["internal/bytealg.Compare"], unfollowed := true, recurses := true, named := ["unicode/utf8.first", "unicode/utf8.acceptRanges"], apart := false, laid := [("unicode/utf8.acceptRanges", laid_unicode_utf8_acceptRanges), ("unicode/utf8.first", laid_unicode_utf8_first)], narrowed := true }
def OrderKnownUptoSaid : Prop := orderKnownUptoRow.holds Tryd.pinned (OpenSpec.upto orderKnownSpec)

/-- 'tenementlaw6.OrderSorts', WHERE WHAT IT READS IS OF BULK AT MOST 1048576: true; the input reads as it did. -/
def orderSortsUptoRow : OpenClaim := { program := "ytleikacgncpfbaadoor", sum := "4b6c9f1c1a6c2bf0cf52243de170a3120319606e4ff4b0b710737df8a10ad0ec", func := "tenement/tenementlaw6.OrderSorts", spec := "orderSorts", inPlace := ["internal/bytealg.Compare"], unfollowed := true, recurses := true, named := ["unicode/utf8.first", "unicode/utf8.acceptRanges"], loops := true, apart := false, laid := [("unicode/utf8.acceptRanges", laid_unicode_utf8_acceptRanges), ("unicode/utf8.first", laid_unicode_utf8_first)], narrowed := true }
def OrderSortsUptoSaid : Prop := orderSortsUptoRow.holds Tryd.pinned (OpenSpec.upto orderSortsSpec)

end Rows
end Go.Proofs.YtleikacgncpfbaaDoor
