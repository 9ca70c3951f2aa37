/- 'tenementlaw20.MailKnown' answers true, whatever stands in memory; there is no argument; no condition. -/
import Derived.Test.YtmeimiflflilpaaRows
import Derived.Test.YtmeimiflflilpaaDenZg
import Derived.Test.YtmeimiflflilpaaDenT
import Derived.WalkKit
import Derived.ProofKit
import Derived.OpenShut
namespace Go.Proofs.Ytmeimiflflilpaa.mailKnown
open Go.ChangeShapes Go.WideShapes Go.ChangeAt Go.RowKit
open Go.Den

/-- The functions that the law reaches. -/
def reached : List FuncId := (List.range 85).filter fun f => f != 38

noncomputable def env0 : Env := { P := Try.prog, pol := fun _ => .plain, ann := fun _ => {}, glob := fun _ => none }

/-- What is said of a function's regions, reckoned off its code. -/
noncomputable def tab (f : FuncId) : FAnn :=
  match Try.prog.funcs[f]? with
  | some fn => { depth := Nat.log2 fn.ntmps + 1, draws := mkDraws env0 [] fn }
  | none => {}

noncomputable def env : Env := { P := Try.prog, pol := fun _ => .plain, ann := fun f => if f ∈ reached then tab f else {}, glob := fun _ => none }

theorem env_ok : EnvOK env := envOK reached (by kernel_rfl) (fun f hf => by show (if f ∈ reached then tab f else {}).draws = []; rw [if_neg hf]) (by kernel_rfl)

theorem calls_ok (n : Nat) : CallOK env (callF env n) := callF_plain env_ok (by kernel_rfl) (fun _ => rfl) n

def saysTrue : Option AV → Bool
  | some (.bool true) => true
  | _ => false

theorem says_true {x : Option AV} (h : saysTrue x = true) : x = some (.bool true) := by
  unfold saysTrue at h
  split at h
  · rfl
  · cases h

theorem known : answer env 100 3 [] = some (.bool true) := says_true (by kernel_rfl)

theorem own : ownKnob Try.prog.godebug = none := by kernel_rfl

theorem walk (w : World) : Calls Try.prog 3 #[] w fun e w' => e = .returned (.bool true) ∧ Below w.heap.size w w' :=
  closed_calls (E := env) (calls_ok 100) (fun _ => rfl) known Try.func3 rfl

set_option maxRecDepth 100000 in
theorem lifted (os : Os) (started : os.Started) (H : Type) (enc : TypeId × Value → H) :
    ReturnsInHanded {} Try.checked os 3 .any (Rows.mailKnownSpec.pre6 enc Try.prog Try.f3 Rows.mailKnownRow.domain false) (Rows.mailKnownSpec.post enc Try.prog Try.f3 false true false false) := by
  refine returnsInHanded_of_change (C := Try.checked) own started (by kernel_rfl) Try.func3
    (ChangeSpec.witness6 (enc := enc) (C := Try.checked) false ⟨#[], #[], []⟩ 8 (by kernel_rfl) (by kernel_rfl) (by kernel_rfl) (by kernel_rfl)) ?_
  intro W base args ds gs before hval0 hW hcnd _
  have hW' := hW
  obtain ⟨p, q, hA0, hV, rfl, hfz, hnd⟩ := hW
  have hA : DataW.TrodAll enc Try.prog W 0 (fun _ => true) true Try.f3.params.toList args.toList ds p := hA0
  rw [Try.params3] at hA
  obtain ⟨rfl, rfl, rfl⟩ := trodAll_none hA
  obtain ⟨rfl, rfl⟩ := trodVars_none hV
  clear hA0
  simp only [List.append_nil] at hW'
  refine (walk W).mono fun e W' ⟨he, hg⟩ => ?_
  subst he
  exact ⟨_, rfl, [], [], [], [], [], [], hW', (trodAll_cons_mk (shut_bool Try.underlying4 _) trodAll_mk0), trodAll_mk0, rfl, hg.frame _, fun h => by cases h⟩

theorem over : Rows.mailKnownRow.holds Try.pinned (OpenSpec.ofChange Rows.mailKnownSpec) :=
  OpenClaim.holds_of_wide 3 Try.f3 rfl rfl rfl rfl rfl rfl rfl ⟨rfl, rfl, rfl, rfl, rfl⟩ rfl rfl rfl rfl rfl (by kernel_rfl) Try.func3 (by kernel_rfl)
    (of_decide_eq_true (by kernel_rfl)) (by unfold Func.isWrapper; first | (rw [if_pos (by decide +kernel)]; kernel_rfl) | (rw [if_neg (by decide +kernel)]; exact ⟨rfl, rfl⟩))
    (fun os started H enc _ => lifted os started H enc)

theorem proved : Rows.MailKnownSaid := over
#print axioms proved
end Go.Proofs.Ytmeimiflflilpaa.mailKnown
