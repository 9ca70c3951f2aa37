/-
  NARROWER THAN 'FOR EVERY INPUT', by the rows' own cells (each row's printed sentence says how): BigTexts: laid · BigPowers: laid · BigRules: laid · BigKnown: laid · BigReckons: laid · BigSmalls: laid.
  DERIVED. THE GIVEN ROWS OF THIS SEAT. 6 by the template 'for every input the law returns true; each argument reads behind the call as it read before'; 0 by the template 'total and deterministic' (their statements: YtikkpecdkdgmfaaDoorTotals.lean).
  GIVEN WITH THE SEED: the statements are not yours to turn. If you find one false, say at which input.
  Laid BY PROGRAM, IN A SANDBOX (cutbox-rows.mjs): the forced cells as the released guide's own fill.sh prints them over the translation 8c313d20f4673279… (all of the seat's roots in one cut). By AI agents, Wed Nov 11 2026. No macro, syntax, notation, axiom, sorry.
-/
import Derived.Test.YtikkpecdkdgmfaaDoorChecked
import GoSem.PinnedTables
import GoSem.Claim
import GoSem.ClaimJoined
import GoSem.ClaimMapViews
import Derived.JoinedTies
import Derived.KernelRfl
namespace Go.Proofs.YtikkpecdkdgmfaaDoor
/- THE CELL 'sum', in the pinned program and in every row, IS THE sha256 OF THE DUMP (.gsa) THAT YtikkpecdkdgmfaaDoorProg.lean LOADS. Nothing in Lean hashes anything: it is a label: what it is worth is what the hold of that sum in a sandbox is worth. -/
noncomputable def Tryd.pinned : Pinned := { name := "ytikkpecdkdgmfaadoor", sum := "8c313d20f4673279c0583bb18f0d8a9dafcb20135a153face6f5cdaae0baf16c", checked := Tryd.checked }
namespace Rows
def none {H : Type} : Left H := { results := [], args := [] }

/- WHAT THE LISTED PACKAGE-LEVEL VARIABLES READ AS WHEN THE CALL BEGINS. Each datum BY PROGRAM (the guide's laid-datum.mjs) off the statement by which the dump's own 'gosem.cut.vars' lays the variable. In a bare row this is a premise. The card (YtikkpecdkdgmfaaDoorCards.lean) ties it to the program's text. -/
def laid_unicode_utf8_acceptRanges {H : Type} : DataW H := .agg [.agg [.lit (.int .u8 128), .lit (.int .u8 191)], .agg [.lit (.int .u8 160), .lit (.int .u8 191)], .agg [.lit (.int .u8 128), .lit (.int .u8 159)], .agg [.lit (.int .u8 144), .lit (.int .u8 191)], .agg [.lit (.int .u8 128), .lit (.int .u8 143)], .agg [.lit (.int .u8 0), .lit (.int .u8 0)], .agg [.lit (.int .u8 0), .lit (.int .u8 0)], .agg [.lit (.int .u8 0), .lit (.int .u8 0)], .agg [.lit (.int .u8 0), .lit (.int .u8 0)], .agg [.lit (.int .u8 0), .lit (.int .u8 0)], .agg [.lit (.int .u8 0), .lit (.int .u8 0)], .agg [.lit (.int .u8 0), .lit (.int .u8 0)], .agg [.lit (.int .u8 0), .lit (.int .u8 0)], .agg [.lit (.int .u8 0), .lit (.int .u8 0)], .agg [.lit (.int .u8 0), .lit (.int .u8 0)], .agg [.lit (.int .u8 0), .lit (.int .u8 0)]]
/-- One of Go's own tables, pinned by name: the form's constant. -/
def laid_unicode_utf8_first : DataW Unit := Go.Pinned.utf8First

/-- 'tenementlaw3.BigTexts': WHATEVER THE INPUT: true; the input reads as it did. -/
def bigTextsSpec : ChangeSpec := { name := "bigTexts", fn := fun _ => fun
  | [d1, d2, d3] => { results := [.lit (.bool true)], args := [d1, d2, d3] }
  | _ => none }
def bigTextsRow : OpenClaim := { program := "ytikkpecdkdgmfaadoor", sum := "8c313d20f4673279c0583bb18f0d8a9dafcb20135a153face6f5cdaae0baf16c", func := "tenement/tenementlaw3.BigTexts", spec := "bigTexts", inPlace := ["internal/abi.NoEscape", "internal/bytealg.MakeNoZero", "internal/bytealg.IndexByteString", "internal/bytealg.IndexString"], named := ["unicode/utf8.first", "unicode/utf8.acceptRanges", "internal/bytealg.MaxLen"], apart := false, laid := [("unicode/utf8.acceptRanges", laid_unicode_utf8_acceptRanges), ("unicode/utf8.first", laid_unicode_utf8_first)] }
def BigTextsSaid : Prop := bigTextsRow.holds Tryd.pinned (OpenSpec.ofChange bigTextsSpec)

/-- ITS FALSE NEIGHBOUR: 'it returns false'. Refute it at one input. -/
def bigTextsWrong : ChangeSpec := { name := "bigTexts", fn := fun _ => fun
  | [d1, d2, d3] => { results := [.lit (.bool false)], args := [d1, d2, d3] }
  | _ => none }
def BigTextsWrongFalsely : Prop := bigTextsRow.holds Tryd.pinned (OpenSpec.ofChange bigTextsWrong)

/-- 'tenementlaw3.BigPowers': WHATEVER THE INPUT: true; the input reads as it did. -/
def bigPowersSpec : ChangeSpec := { name := "bigPowers", fn := fun _ => fun
  | [d1, d2] => { results := [.lit (.bool true)], args := [d1, d2] }
  | _ => none }
def bigPowersRow : OpenClaim := { program := "ytikkpecdkdgmfaadoor", sum := "8c313d20f4673279c0583bb18f0d8a9dafcb20135a153face6f5cdaae0baf16c", func := "tenement/tenementlaw3.BigPowers", spec := "bigPowers", inPlace := ["internal/abi.NoEscape", "internal/bytealg.MakeNoZero", "internal/bytealg.IndexByteString", "internal/bytealg.IndexString"], named := ["unicode/utf8.first", "unicode/utf8.acceptRanges", "internal/bytealg.MaxLen"], apart := false, laid := [("unicode/utf8.acceptRanges", laid_unicode_utf8_acceptRanges), ("unicode/utf8.first", laid_unicode_utf8_first)] }
def BigPowersSaid : Prop := bigPowersRow.holds Tryd.pinned (OpenSpec.ofChange bigPowersSpec)

/-- ITS FALSE NEIGHBOUR: 'it returns false'. Refute it at one input. -/
def bigPowersWrong : ChangeSpec := { name := "bigPowers", fn := fun _ => fun
  | [d1, d2] => { results := [.lit (.bool false)], args := [d1, d2] }
  | _ => none }
def BigPowersWrongFalsely : Prop := bigPowersRow.holds Tryd.pinned (OpenSpec.ofChange bigPowersWrong)

/-- 'tenementlaw3.BigRules': WHATEVER THE INPUT: true; the input reads as it did. -/
def bigRulesSpec : ChangeSpec := { name := "bigRules", fn := fun _ => fun
  | [d1, d2, d3] => { results := [.lit (.bool true)], args := [d1, d2, d3] }
  | _ => none }
def bigRulesRow : OpenClaim := { program := "ytikkpecdkdgmfaadoor", sum := "8c313d20f4673279c0583bb18f0d8a9dafcb20135a153face6f5cdaae0baf16c", func := "tenement/tenementlaw3.BigRules", spec := "bigRules", inPlace := ["internal/abi.NoEscape", "internal/bytealg.MakeNoZero", "internal/bytealg.IndexByteString", "internal/bytealg.IndexString"], named := ["unicode/utf8.first", "unicode/utf8.acceptRanges", "internal/bytealg.MaxLen"], apart := false, laid := [("unicode/utf8.acceptRanges", laid_unicode_utf8_acceptRanges), ("unicode/utf8.first", laid_unicode_utf8_first)] }
def BigRulesSaid : Prop := bigRulesRow.holds Tryd.pinned (OpenSpec.ofChange bigRulesSpec)

/-- ITS FALSE NEIGHBOUR: 'it returns false'. Refute it at one input. -/
def bigRulesWrong : ChangeSpec := { name := "bigRules", fn := fun _ => fun
  | [d1, d2, d3] => { results := [.lit (.bool false)], args := [d1, d2, d3] }
  | _ => none }
def BigRulesWrongFalsely : Prop := bigRulesRow.holds Tryd.pinned (OpenSpec.ofChange bigRulesWrong)

/-- 'tenementlaw3.BigKnown': WHATEVER THE INPUT: true; the input reads as it did. -/
def bigKnownSpec : ChangeSpec := { name := "bigKnown", fn := fun _ => fun
  | [] => { results := [.lit (.bool true)], args := [] }
  | _ => none }
def bigKnownRow : OpenClaim := { program := "ytikkpecdkdgmfaadoor", sum := "8c313d20f4673279c0583bb18f0d8a9dafcb20135a153face6f5cdaae0baf16c", func := "tenement/tenementlaw3.BigKnown", spec := "bigKnown", inPlace := ["internal/abi.NoEscape", "internal/bytealg.MakeNoZero", "internal/bytealg.IndexByteString", "internal/bytealg.IndexString"], named := ["unicode/utf8.first", "unicode/utf8.acceptRanges", "internal/bytealg.MaxLen"], apart := false, laid := [("unicode/utf8.acceptRanges", laid_unicode_utf8_acceptRanges), ("unicode/utf8.first", laid_unicode_utf8_first)] }
def BigKnownSaid : Prop := bigKnownRow.holds Tryd.pinned (OpenSpec.ofChange bigKnownSpec)

/-- ITS FALSE NEIGHBOUR: 'it returns false'. Refute it at one input. -/
def bigKnownWrong : ChangeSpec := { name := "bigKnown", fn := fun _ => fun
  | [] => { results := [.lit (.bool false)], args := [] }
  | _ => none }
def BigKnownWrongFalsely : Prop := bigKnownRow.holds Tryd.pinned (OpenSpec.ofChange bigKnownWrong)

/-- 'tenementlaw3.BigReckons': WHATEVER THE INPUT: true; the input reads as it did. -/
def bigReckonsSpec : ChangeSpec := { name := "bigReckons", fn := fun _ => fun
  | [d1, d2] => { results := [.lit (.bool true)], args := [d1, d2] }
  | _ => none }
def bigReckonsRow : OpenClaim := { program := "ytikkpecdkdgmfaadoor", sum := "8c313d20f4673279c0583bb18f0d8a9dafcb20135a153face6f5cdaae0baf16c", func := "tenement/tenementlaw3.BigReckons", spec := "bigReckons", inPlace := ["internal/abi.NoEscape", "internal/bytealg.MakeNoZero", "internal/bytealg.IndexByteString", "internal/bytealg.IndexString"], named := ["unicode/utf8.first", "unicode/utf8.acceptRanges", "internal/bytealg.MaxLen"], apart := false, laid := [("unicode/utf8.acceptRanges", laid_unicode_utf8_acceptRanges), ("unicode/utf8.first", laid_unicode_utf8_first)] }
def BigReckonsSaid : Prop := bigReckonsRow.holds Tryd.pinned (OpenSpec.ofChange bigReckonsSpec)

/-- ITS FALSE NEIGHBOUR: 'it returns false'. Refute it at one input. -/
def bigReckonsWrong : ChangeSpec := { name := "bigReckons", fn := fun _ => fun
  | [d1, d2] => { results := [.lit (.bool false)], args := [d1, d2] }
  | _ => none }
def BigReckonsWrongFalsely : Prop := bigReckonsRow.holds Tryd.pinned (OpenSpec.ofChange bigReckonsWrong)

/-- 'tenementlaw3.BigSmalls': WHATEVER THE INPUT: true; the input reads as it did. -/
def bigSmallsSpec : ChangeSpec := { name := "bigSmalls", fn := fun _ => fun
  | [d1, d2] => { results := [.lit (.bool true)], args := [d1, d2] }
  | _ => none }
def bigSmallsRow : OpenClaim := { program := "ytikkpecdkdgmfaadoor", sum := "8c313d20f4673279c0583bb18f0d8a9dafcb20135a153face6f5cdaae0baf16c", func := "tenement/tenementlaw3.BigSmalls", spec := "bigSmalls", inPlace := ["internal/abi.NoEscape", "internal/bytealg.MakeNoZero", "internal/bytealg.IndexByteString", "internal/bytealg.IndexString"], named := ["unicode/utf8.first", "unicode/utf8.acceptRanges", "internal/bytealg.MaxLen"], apart := false, laid := [("unicode/utf8.acceptRanges", laid_unicode_utf8_acceptRanges), ("unicode/utf8.first", laid_unicode_utf8_first)] }
def BigSmallsSaid : Prop := bigSmallsRow.holds Tryd.pinned (OpenSpec.ofChange bigSmallsSpec)

/-- ITS FALSE NEIGHBOUR: 'it returns false'. Refute it at one input. -/
def bigSmallsWrong : ChangeSpec := { name := "bigSmalls", fn := fun _ => fun
  | [d1, d2] => { results := [.lit (.bool false)], args := [d1, d2] }
  | _ => none }
def BigSmallsWrongFalsely : Prop := bigSmallsRow.holds Tryd.pinned (OpenSpec.ofChange bigSmallsWrong)

/- THE SECOND FORM. 'bulk': how many values and letters a reading holds, each counted each time it is reached (what is shared counts as often as it is met; a slice's spare places count too). A statement '..UptoSaid' is the law's where the arguments, and the package variables that the reading takes, are together of bulk at most 1048576: NARROWER than '..Said'. Prove '..Said' where nothing that the law and all that it calls make is longer than what came in: it says more and counts as full. Else prove '..UptoSaid'. A law counts once. -/
mutual
def uptoBulk {H : Type} : DataW H → Nat
  | .lit (.string bytes) => bytes.length + 1
  | .lit _ => 1
  | .nil => 1
  | .ptr d => uptoBulk d + 1
  | .slice elems spare => uptoBulkAll elems + uptoBulkAll spare + 1
  | .agg parts => uptoBulkAll parts + 1
  | .iface _ d => uptoBulk d + 1
  | .map entries => uptoBulkEntries entries + 1
  | .held _ => 1
def uptoBulkAll {H : Type} : List (DataW H) → Nat
  | [] => 0
  | d :: r => uptoBulk d + uptoBulkAll r
def uptoBulkEntries {H : Type} : List (Lit × DataW H) → Nat
  | [] => 0
  | x :: r => uptoBulkEntry x + uptoBulkEntries r
def uptoBulkEntry {H : Type} : Lit × DataW H → Nat
  | (.string bytes, d) => bytes.length + uptoBulk d + 1
  | (_, d) => uptoBulk d + 1
 end
def uptoSmall : (H : Type) → List (DataW H) → Bool := fun _ ds => decide (uptoBulkAll ds ≤ 1048576)
def OpenSpec.upto (s : _root_.Go.ChangeSpec) : _root_.Go.OpenSpec := { _root_.Go.OpenSpec.ofChange s with cond := some uptoSmall }

/-- 'tenementlaw3.BigTexts', WHERE WHAT IT READS IS OF BULK AT MOST 1048576: true; the input reads as it did. -/
def bigTextsUptoRow : OpenClaim := { program := "ytikkpecdkdgmfaadoor", sum := "8c313d20f4673279c0583bb18f0d8a9dafcb20135a153face6f5cdaae0baf16c", func := "tenement/tenementlaw3.BigTexts", spec := "bigTexts", inPlace := ["internal/abi.NoEscape", "internal/bytealg.MakeNoZero", "internal/bytealg.IndexByteString", "internal/bytealg.IndexString"], named := ["unicode/utf8.first", "unicode/utf8.acceptRanges", "internal/bytealg.MaxLen"], apart := false, laid := [("unicode/utf8.acceptRanges", laid_unicode_utf8_acceptRanges), ("unicode/utf8.first", laid_unicode_utf8_first)], narrowed := true }
def BigTextsUptoSaid : Prop := bigTextsUptoRow.holds Tryd.pinned (OpenSpec.upto bigTextsSpec)

/-- 'tenementlaw3.BigPowers', WHERE WHAT IT READS IS OF BULK AT MOST 1048576: true; the input reads as it did. -/
def bigPowersUptoRow : OpenClaim := { program := "ytikkpecdkdgmfaadoor", sum := "8c313d20f4673279c0583bb18f0d8a9dafcb20135a153face6f5cdaae0baf16c", func := "tenement/tenementlaw3.BigPowers", spec := "bigPowers", inPlace := ["internal/abi.NoEscape", "internal/bytealg.MakeNoZero", "internal/bytealg.IndexByteString", "internal/bytealg.IndexString"], named := ["unicode/utf8.first", "unicode/utf8.acceptRanges", "internal/bytealg.MaxLen"], apart := false, laid := [("unicode/utf8.acceptRanges", laid_unicode_utf8_acceptRanges), ("unicode/utf8.first", laid_unicode_utf8_first)], narrowed := true }
def BigPowersUptoSaid : Prop := bigPowersUptoRow.holds Tryd.pinned (OpenSpec.upto bigPowersSpec)

/-- 'tenementlaw3.BigRules', WHERE WHAT IT READS IS OF BULK AT MOST 1048576: true; the input reads as it did. -/
def bigRulesUptoRow : OpenClaim := { program := "ytikkpecdkdgmfaadoor", sum := "8c313d20f4673279c0583bb18f0d8a9dafcb20135a153face6f5cdaae0baf16c", func := "tenement/tenementlaw3.BigRules", spec := "bigRules", inPlace := ["internal/abi.NoEscape", "internal/bytealg.MakeNoZero", "internal/bytealg.IndexByteString", "internal/bytealg.IndexString"], named := ["unicode/utf8.first", "unicode/utf8.acceptRanges", "internal/bytealg.MaxLen"], apart := false, laid := [("unicode/utf8.acceptRanges", laid_unicode_utf8_acceptRanges), ("unicode/utf8.first", laid_unicode_utf8_first)], narrowed := true }
def BigRulesUptoSaid : Prop := bigRulesUptoRow.holds Tryd.pinned (OpenSpec.upto bigRulesSpec)

/-- 'tenementlaw3.BigKnown', WHERE WHAT IT READS IS OF BULK AT MOST 1048576: true; the input reads as it did. -/
def bigKnownUptoRow : OpenClaim := { program := "ytikkpecdkdgmfaadoor", sum := "8c313d20f4673279c0583bb18f0d8a9dafcb20135a153face6f5cdaae0baf16c", func := "tenement/tenementlaw3.BigKnown", spec := "bigKnown", inPlace := ["internal/abi.NoEscape", "internal/bytealg.MakeNoZero", "internal/bytealg.IndexByteString", "internal/bytealg.IndexString"], named := ["unicode/utf8.first", "unicode/utf8.acceptRanges", "internal/bytealg.MaxLen"], apart := false, laid := [("unicode/utf8.acceptRanges", laid_unicode_utf8_acceptRanges), ("unicode/utf8.first", laid_unicode_utf8_first)], narrowed := true }
def BigKnownUptoSaid : Prop := bigKnownUptoRow.holds Tryd.pinned (OpenSpec.upto bigKnownSpec)

/-- 'tenementlaw3.BigReckons', WHERE WHAT IT READS IS OF BULK AT MOST 1048576: true; the input reads as it did. -/
def bigReckonsUptoRow : OpenClaim := { program := "ytikkpecdkdgmfaadoor", sum := "8c313d20f4673279c0583bb18f0d8a9dafcb20135a153face6f5cdaae0baf16c", func := "tenement/tenementlaw3.BigReckons", spec := "bigReckons", inPlace := ["internal/abi.NoEscape", "internal/bytealg.MakeNoZero", "internal/bytealg.IndexByteString", "internal/bytealg.IndexString"], named := ["unicode/utf8.first", "unicode/utf8.acceptRanges", "internal/bytealg.MaxLen"], apart := false, laid := [("unicode/utf8.acceptRanges", laid_unicode_utf8_acceptRanges), ("unicode/utf8.first", laid_unicode_utf8_first)], narrowed := true }
def BigReckonsUptoSaid : Prop := bigReckonsUptoRow.holds Tryd.pinned (OpenSpec.upto bigReckonsSpec)

/-- 'tenementlaw3.BigSmalls', WHERE WHAT IT READS IS OF BULK AT MOST 1048576: true; the input reads as it did. -/
def bigSmallsUptoRow : OpenClaim := { program := "ytikkpecdkdgmfaadoor", sum := "8c313d20f4673279c0583bb18f0d8a9dafcb20135a153face6f5cdaae0baf16c", func := "tenement/tenementlaw3.BigSmalls", spec := "bigSmalls", inPlace := ["internal/abi.NoEscape", "internal/bytealg.MakeNoZero", "internal/bytealg.IndexByteString", "internal/bytealg.IndexString"], named := ["unicode/utf8.first", "unicode/utf8.acceptRanges", "internal/bytealg.MaxLen"], apart := false, laid := [("unicode/utf8.acceptRanges", laid_unicode_utf8_acceptRanges), ("unicode/utf8.first", laid_unicode_utf8_first)], narrowed := true }
def BigSmallsUptoSaid : Prop := bigSmallsUptoRow.holds Tryd.pinned (OpenSpec.upto bigSmallsSpec)

end Rows
end Go.Proofs.YtikkpecdkdgmfaaDoor
