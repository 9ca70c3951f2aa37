/-
  No cell of these rows narrows 'for every input' (looked for: loops, veiled, ifaces, maps, wideKeys, modest, calm, conditions, laid).
  DERIVED. THE GIVEN ROWS OF THIS SEAT. 6 by the template 'for every input the law returns true; each argument reads behind the call as it read before'; 0 by the template 'total and deterministic' (their statements: YtmeimiflflilpaaTotals.lean).
  GIVEN WITH THE SEED: the statements are not yours to turn. If you find one false, say at which input.
  Laid BY PROGRAM, IN A SANDBOX (cutbox-rows.mjs): the forced cells as the released guide's own fill.sh prints them over the translation 7cdf4be13fa7bcb4… (all of the seat's roots in one cut). By AI agents, Wed Nov 11 2026. No macro, syntax, notation, axiom, sorry.
-/
import Derived.Test.YtmeimiflflilpaaChecked
import GoSem.Claim
import GoSem.ClaimJoined
import GoSem.ClaimMapViews
import Derived.JoinedTies
import Derived.KernelRfl
namespace Go.Proofs.Ytmeimiflflilpaa
/- THE CELL 'sum', in the pinned program and in every row, IS THE sha256 OF THE DUMP (.gsa) THAT YtmeimiflflilpaaProg.lean LOADS. Nothing in Lean hashes anything: it is a label: what it is worth is what the hold of that sum in a sandbox is worth. -/
noncomputable def Try.pinned : Pinned := { name := "ytmeimiflflilpaa", sum := "7cdf4be13fa7bcb47903a3fd1e1e372edea9a04feda3a4da9ea33c56a86d3743", checked := Try.checked }
namespace Rows
def none {H : Type} : Left H := { results := [], args := [] }

/-- 'tenementlaw20.MailKnown': WHATEVER THE INPUT: true; the input reads as it did. -/
def mailKnownSpec : ChangeSpec := { name := "mailKnown", fn := fun _ => fun
  | [] => { results := [.lit (.bool true)], args := [] }
  | _ => none }
def mailKnownRow : OpenClaim := { program := "ytmeimiflflilpaa", sum := "7cdf4be13fa7bcb47903a3fd1e1e372edea9a04feda3a4da9ea33c56a86d3743", func := "tenement/tenementlaw20.MailKnown", spec := "mailKnown", apart := false }
def MailKnownSaid : Prop := mailKnownRow.holds Try.pinned (OpenSpec.ofChange mailKnownSpec)

/-- ITS FALSE NEIGHBOUR: 'it returns false'. Refute it at one input. -/
def mailKnownWrong : ChangeSpec := { name := "mailKnown", fn := fun _ => fun
  | [] => { results := [.lit (.bool false)], args := [] }
  | _ => none }
def MailKnownWrongFalsely : Prop := mailKnownRow.holds Try.pinned (OpenSpec.ofChange mailKnownWrong)

/-- 'tenementlaw20.MailOrder': WHATEVER THE INPUT: true; the input reads as it did. -/
def mailOrderSpec : ChangeSpec := { name := "mailOrder", fn := fun _ => fun
  | [d1, d2] => { results := [.lit (.bool true)], args := [d1, d2] }
  | _ => none }
def mailOrderRow : OpenClaim := { program := "ytmeimiflflilpaa", sum := "7cdf4be13fa7bcb47903a3fd1e1e372edea9a04feda3a4da9ea33c56a86d3743", func := "tenement/tenementlaw20.MailOrder", spec := "mailOrder", apart := false }
def MailOrderSaid : Prop := mailOrderRow.holds Try.pinned (OpenSpec.ofChange mailOrderSpec)

/-- ITS FALSE NEIGHBOUR: 'it returns false'. Refute it at one input. -/
def mailOrderWrong : ChangeSpec := { name := "mailOrder", fn := fun _ => fun
  | [d1, d2] => { results := [.lit (.bool false)], args := [d1, d2] }
  | _ => none }
def MailOrderWrongFalsely : Prop := mailOrderRow.holds Try.pinned (OpenSpec.ofChange mailOrderWrong)

/-- 'tenementlaw20.MailSelects': WHATEVER THE INPUT: true; the input reads as it did. -/
def mailSelectsSpec : ChangeSpec := { name := "mailSelects", fn := fun _ => fun
  | [d1, d2] => { results := [.lit (.bool true)], args := [d1, d2] }
  | _ => none }
def mailSelectsRow : OpenClaim := { program := "ytmeimiflflilpaa", sum := "7cdf4be13fa7bcb47903a3fd1e1e372edea9a04feda3a4da9ea33c56a86d3743", func := "tenement/tenementlaw20.MailSelects", spec := "mailSelects", apart := false }
def MailSelectsSaid : Prop := mailSelectsRow.holds Try.pinned (OpenSpec.ofChange mailSelectsSpec)

/-- ITS FALSE NEIGHBOUR: 'it returns false'. Refute it at one input. -/
def mailSelectsWrong : ChangeSpec := { name := "mailSelects", fn := fun _ => fun
  | [d1, d2] => { results := [.lit (.bool false)], args := [d1, d2] }
  | _ => none }
def MailSelectsWrongFalsely : Prop := mailSelectsRow.holds Try.pinned (OpenSpec.ofChange mailSelectsWrong)

/-- 'tenementlaw20.MailPlays': WHATEVER THE INPUT: true; the input reads as it did. -/
def mailPlaysSpec : ChangeSpec := { name := "mailPlays", fn := fun _ => fun
  | [d1, d2] => { results := [.lit (.bool true)], args := [d1, d2] }
  | _ => none }
def mailPlaysRow : OpenClaim := { program := "ytmeimiflflilpaa", sum := "7cdf4be13fa7bcb47903a3fd1e1e372edea9a04feda3a4da9ea33c56a86d3743", func := "tenement/tenementlaw20.MailPlays", spec := "mailPlays", apart := false }
def MailPlaysSaid : Prop := mailPlaysRow.holds Try.pinned (OpenSpec.ofChange mailPlaysSpec)

/-- ITS FALSE NEIGHBOUR: 'it returns false'. Refute it at one input. -/
def mailPlaysWrong : ChangeSpec := { name := "mailPlays", fn := fun _ => fun
  | [d1, d2] => { results := [.lit (.bool false)], args := [d1, d2] }
  | _ => none }
def MailPlaysWrongFalsely : Prop := mailPlaysRow.holds Try.pinned (OpenSpec.ofChange mailPlaysWrong)

/-- 'tenementlaw23.WheelOrder': WHATEVER THE INPUT: true; the input reads as it did. -/
def wheelOrderSpec : ChangeSpec := { name := "wheelOrder", fn := fun _ => fun
  | [d1, d2] => { results := [.lit (.bool true)], args := [d1, d2] }
  | _ => none }
def wheelOrderRow : OpenClaim := { program := "ytmeimiflflilpaa", sum := "7cdf4be13fa7bcb47903a3fd1e1e372edea9a04feda3a4da9ea33c56a86d3743", func := "tenement/tenementlaw23.WheelOrder", spec := "wheelOrder", inPlace := ["slices.overlaps[tenement/wheel.Timer[int]]"], unfollowed := true, recurses := true, apart := false }
def WheelOrderSaid : Prop := wheelOrderRow.holds Try.pinned (OpenSpec.ofChange wheelOrderSpec)

/-- ITS FALSE NEIGHBOUR: 'it returns false'. Refute it at one input. -/
def wheelOrderWrong : ChangeSpec := { name := "wheelOrder", fn := fun _ => fun
  | [d1, d2] => { results := [.lit (.bool false)], args := [d1, d2] }
  | _ => none }
def WheelOrderWrongFalsely : Prop := wheelOrderRow.holds Try.pinned (OpenSpec.ofChange wheelOrderWrong)

/-- 'tenementlaw23.WheelPlays': WHATEVER THE INPUT: true; the input reads as it did. -/
def wheelPlaysSpec : ChangeSpec := { name := "wheelPlays", fn := fun _ => fun
  | [d1, d2] => { results := [.lit (.bool true)], args := [d1, d2] }
  | _ => none }
def wheelPlaysRow : OpenClaim := { program := "ytmeimiflflilpaa", sum := "7cdf4be13fa7bcb47903a3fd1e1e372edea9a04feda3a4da9ea33c56a86d3743", func := "tenement/tenementlaw23.WheelPlays", spec := "wheelPlays", inPlace := ["slices.overlaps[tenement/wheel.Timer[int]]"], unfollowed := true, recurses := true, apart := false }
def WheelPlaysSaid : Prop := wheelPlaysRow.holds Try.pinned (OpenSpec.ofChange wheelPlaysSpec)

/-- ITS FALSE NEIGHBOUR: 'it returns false'. Refute it at one input. -/
def wheelPlaysWrong : ChangeSpec := { name := "wheelPlays", fn := fun _ => fun
  | [d1, d2] => { results := [.lit (.bool false)], args := [d1, d2] }
  | _ => none }
def WheelPlaysWrongFalsely : Prop := wheelPlaysRow.holds Try.pinned (OpenSpec.ofChange wheelPlaysWrong)

/- THE SECOND FORM. 'bulk': how many values and letters a reading holds, each counted each time it is reached (what is shared counts as often as it is met; a slice's spare places count too). A statement '..UptoSaid' is the law's where the arguments, and the package variables that the reading takes, are together of bulk at most 1048576: NARROWER than '..Said'. Prove '..Said' where nothing that the law and all that it calls make is longer than what came in: it says more and counts as full. Else prove '..UptoSaid'. A law counts once. -/
mutual
def uptoBulk {H : Type} : DataW H → Nat
  | .lit (.string bytes) => bytes.length + 1
  | .lit _ => 1
  | .nil => 1
  | .ptr d => uptoBulk d + 1
  | .slice elems spare => uptoBulkAll elems + uptoBulkAll spare + 1
  | .agg parts => uptoBulkAll parts + 1
  | .iface _ d => uptoBulk d + 1
  | .map entries => uptoBulkEntries entries + 1
  | .held _ => 1
def uptoBulkAll {H : Type} : List (DataW H) → Nat
  | [] => 0
  | d :: r => uptoBulk d + uptoBulkAll r
def uptoBulkEntries {H : Type} : List (Lit × DataW H) → Nat
  | [] => 0
  | x :: r => uptoBulkEntry x + uptoBulkEntries r
def uptoBulkEntry {H : Type} : Lit × DataW H → Nat
  | (.string bytes, d) => bytes.length + uptoBulk d + 1
  | (_, d) => uptoBulk d + 1
 end
def uptoSmall : (H : Type) → List (DataW H) → Bool := fun _ ds => decide (uptoBulkAll ds ≤ 1048576)
def OpenSpec.upto (s : _root_.Go.ChangeSpec) : _root_.Go.OpenSpec := { _root_.Go.OpenSpec.ofChange s with cond := some uptoSmall }

/-- 'tenementlaw20.MailKnown', WHERE WHAT IT READS IS OF BULK AT MOST 1048576: true; the input reads as it did. -/
def mailKnownUptoRow : OpenClaim := { program := "ytmeimiflflilpaa", sum := "7cdf4be13fa7bcb47903a3fd1e1e372edea9a04feda3a4da9ea33c56a86d3743", func := "tenement/tenementlaw20.MailKnown", spec := "mailKnown", apart := false, narrowed := true }
def MailKnownUptoSaid : Prop := mailKnownUptoRow.holds Try.pinned (OpenSpec.upto mailKnownSpec)

/-- 'tenementlaw20.MailOrder', WHERE WHAT IT READS IS OF BULK AT MOST 1048576: true; the input reads as it did. -/
def mailOrderUptoRow : OpenClaim := { program := "ytmeimiflflilpaa", sum := "7cdf4be13fa7bcb47903a3fd1e1e372edea9a04feda3a4da9ea33c56a86d3743", func := "tenement/tenementlaw20.MailOrder", spec := "mailOrder", apart := false, narrowed := true }
def MailOrderUptoSaid : Prop := mailOrderUptoRow.holds Try.pinned (OpenSpec.upto mailOrderSpec)

/-- 'tenementlaw20.MailSelects', WHERE WHAT IT READS IS OF BULK AT MOST 1048576: true; the input reads as it did. -/
def mailSelectsUptoRow : OpenClaim := { program := "ytmeimiflflilpaa", sum := "7cdf4be13fa7bcb47903a3fd1e1e372edea9a04feda3a4da9ea33c56a86d3743", func := "tenement/tenementlaw20.MailSelects", spec := "mailSelects", apart := false, narrowed := true }
def MailSelectsUptoSaid : Prop := mailSelectsUptoRow.holds Try.pinned (OpenSpec.upto mailSelectsSpec)

/-- 'tenementlaw20.MailPlays', WHERE WHAT IT READS IS OF BULK AT MOST 1048576: true; the input reads as it did. -/
def mailPlaysUptoRow : OpenClaim := { program := "ytmeimiflflilpaa", sum := "7cdf4be13fa7bcb47903a3fd1e1e372edea9a04feda3a4da9ea33c56a86d3743", func := "tenement/tenementlaw20.MailPlays", spec := "mailPlays", apart := false, narrowed := true }
def MailPlaysUptoSaid : Prop := mailPlaysUptoRow.holds Try.pinned (OpenSpec.upto mailPlaysSpec)

/-- 'tenementlaw23.WheelOrder', WHERE WHAT IT READS IS OF BULK AT MOST 1048576: true; the input reads as it did. -/
def wheelOrderUptoRow : OpenClaim := { program := "ytmeimiflflilpaa", sum := "7cdf4be13fa7bcb47903a3fd1e1e372edea9a04feda3a4da9ea33c56a86d3743", func := "tenement/tenementlaw23.WheelOrder", spec := "wheelOrder", inPlace := ["slices.overlaps[tenement/wheel.Timer[int]]"], unfollowed := true, recurses := true, apart := false, narrowed := true }
def WheelOrderUptoSaid : Prop := wheelOrderUptoRow.holds Try.pinned (OpenSpec.upto wheelOrderSpec)

/-- 'tenementlaw23.WheelPlays', WHERE WHAT IT READS IS OF BULK AT MOST 1048576: true; the input reads as it did. -/
def wheelPlaysUptoRow : OpenClaim := { program := "ytmeimiflflilpaa", sum := "7cdf4be13fa7bcb47903a3fd1e1e372edea9a04feda3a4da9ea33c56a86d3743", func := "tenement/tenementlaw23.WheelPlays", spec := "wheelPlays", inPlace := ["slices.overlaps[tenement/wheel.Timer[int]]"], unfollowed := true, recurses := true, apart := false, narrowed := true }
def WheelPlaysUptoSaid : Prop := wheelPlaysUptoRow.holds Try.pinned (OpenSpec.upto wheelPlaysSpec)

end Rows
end Go.Proofs.Ytmeimiflflilpaa
