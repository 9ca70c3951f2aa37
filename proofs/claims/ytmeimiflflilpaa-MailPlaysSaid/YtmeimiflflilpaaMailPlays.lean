/- 'tenementlaw20.MailPlays' answers true, whatever stands in memory, for every input; no condition. -/
import Derived.Test.YtmeimiflflilpaaRows
import Derived.Test.YtmeimiflflilpaaMwPlays
import Derived.Test.YtmeimiflflilpaaDenZi
set_option maxRecDepth 100000
namespace Go.Proofs.Ytmeimiflflilpaa.mailPlays
open Go Go.Den Go.ChangeShapes Go.WideShapes Go.ChangeAt Go.RowKit

theorem env_ok : EnvOK env := envOK described (by kernel_rfl) (fun f hf => lookAnn_none hf) (by kernel_rfl)
theorem calls_ok (n : Nat) : CallOK env (callF env n) := callF_plain env_ok (by kernel_rfl) (fun _ => rfl) n
theorem own : ownKnob Try.prog.godebug = none := by kernel_rfl
theorem types_ok : [3, 40, 45].all (tyOk Try.prog [3, 40, 45]) = true := by kernel_rfl
theorem params_ok : Try.f6.params.toList.all (fun t => [3, 40, 45].contains t && Try.prog.readableRec t && decide (t < Try.prog.types.size)) = true := by kernel_rfl

theorem lifted (os : Os) (started : os.Started) (H : Type) (enc : TypeId × Value → H) :
    ReturnsInHanded {} Try.checked os 6 .any (Rows.mailPlaysSpec.pre6 enc Try.prog Try.f6 Rows.mailPlaysRow.domain false) (Rows.mailPlaysSpec.post enc Try.prog Try.f6 false true false false) :=
  law_lifted (E := env) (C := Try.checked) (tb := 4) rfl (fun _ => rfl) calls_ok own started (by kernel_rfl) Try.func6 rfl
    (ChangeSpec.witness6 (enc := enc) (C := Try.checked) false ⟨#[], #[.int .i64 0, .slice none 0 0], []⟩ 8 (by kernel_rfl) (by kernel_rfl) (by kernel_rfl) (by kernel_rfl))
    (by kernel_rfl) rfl (fun H ds h => by
      match ds, h with
      | [d0, d1], _ => rfl)
    (by kernel_rfl) (by kernel_rfl) (ts := [3, 40, 45]) (fun t ht => List.all_eq_true.1 types_ok t ht)
    (fun t ht => by
      have := List.all_eq_true.1 params_ok t ht
      simp only [Bool.and_eq_true, List.contains_iff_mem, decide_eq_true_eq] at this
      exact ⟨this.1.1, this.1.2, this.2⟩)
    lawMailPlays

theorem over : Rows.mailPlaysRow.holds Try.pinned (OpenSpec.ofChange Rows.mailPlaysSpec) :=
  OpenClaim.holds_of_wide 6 Try.f6 rfl rfl rfl rfl rfl rfl rfl ⟨rfl, rfl, rfl, rfl, rfl⟩ rfl rfl rfl rfl rfl (by kernel_rfl) Try.func6 (by kernel_rfl)
    (of_decide_eq_true (by kernel_rfl)) (by unfold Func.isWrapper; first | (rw [if_pos (by decide +kernel)]; kernel_rfl) | (rw [if_neg (by decide +kernel)]; exact ⟨rfl, rfl⟩))
    (fun os started H enc _ => lifted os started H enc)

theorem proved : Rows.MailPlaysSaid := over
#print axioms proved
end Go.Proofs.Ytmeimiflflilpaa.mailPlays
