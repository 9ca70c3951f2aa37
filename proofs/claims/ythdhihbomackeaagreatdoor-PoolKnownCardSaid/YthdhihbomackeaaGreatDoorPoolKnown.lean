/- 'tenement/tenementlaw19.PoolKnown' answers true, whatever stands in memory, for every input; the row and its card. -/
import Derived.Test.YthdhihbomackeaaGreatDoorMf
import Derived.Test.YthdhihbomackeaaGreatDoorCards
import Derived.Test.YthdhihbomackeaaGreatDoorTie
import Derived.LaidLaws
import Derived.MakeChecks
import Derived.SevenTiedAt

set_option maxRecDepth 100000
namespace Go.Proofs.YthdhihbomackeaaGreatDoor.poolKnown
open Go Go.Den Go.ChangeShapes Go.WideShapes Go.ChangeAt Go.RowKit

theorem own : ownKnob Tryz.prog.godebug = none := by kernel_rfl
theorem types_ok : ([] : List TypeId).all (tyOk Tryz.prog []) = true := by kernel_rfl
theorem params_ok : Tryz.f13.params.toList.all (fun t => ([] : List TypeId).contains t && Tryz.prog.readableRec t && decide (t < Tryz.prog.types.size)) = true := by kernel_rfl

theorem lifted (os : Os) (started : os.Started) (H : Type) (enc : TypeId × Value → H) :
    ReturnsInHanded {} Tryz.checked os 13 .any (fun w args => (Rows.poolKnownSpec.pre enc Tryz.prog Tryz.f13 [] false w args ∧ laidMetH Tryz.prog Rows.poolKnownRow.laid w) ∧ sizedMet enc Tryz.prog Tryz.f13 (OpenSpec.ofChange Rows.poolKnownSpec) false w args)
      (Rows.poolKnownSpec.post enc Tryz.prog Tryz.f13 false true false false) :=
  law_lifted_laid (E := env101) (C := Tryz.checked) (tb := 4) rfl globs_ok calls_ok1 own started (by kernel_rfl) Tryz.func13 rfl
    (ChangeSpec.witness_shaped (enc := enc) (C := Tryz.checked) (os := os) (X := fun w _ => laidMetH Tryz.prog Rows.poolKnownRow.laid w) false (World.laidAll Tryz.prog os Rows.poolKnownRow.laid) #[] 8 (World.laidAll_os _ _ _)
      (World.shaped_of_ZipB (by kernel_rfl) (by kernel_rfl)) (by kernel_rfl) (by kernel_rfl) (by kernel_rfl)
      (by rw [MakeChecks.laidMetH_plain _ _ _ (by kernel_rfl)]; exact laidMet_laidAll _ (by kernel_rfl) (by kernel_rfl)))
    (by kernel_rfl) rfl (fun H ds h => by
      match ds, h with
      | [], _ => rfl)
    (by kernel_rfl) (by kernel_rfl) (ts := []) (fun t ht => List.all_eq_true.1 types_ok t ht)
    (fun t ht => by
      have := List.all_eq_true.1 params_ok t ht
      simp only [Bool.and_eq_true, List.contains_iff_mem, decide_eq_true_eq] at this
      exact ⟨this.1.1, this.1.2, this.2⟩)
    law

theorem named : Tryz.pinned.checked.prog.funcNamed Rows.poolKnownRow.func = some 13 := by kernel_rfl
theorem instance_of : Tryz.f13.isInstance Tryz.pinned.checked.prog Rows.poolKnownRow.origin Rows.poolKnownRow.targs := of_decide_eq_true (by kernel_rfl)
theorem wrapped : Tryz.f13.isWrapper Tryz.pinned.checked.prog Rows.poolKnownRow.wrapper Rows.poolKnownRow.mainSum := by unfold Func.isWrapper; first | (rw [if_pos (by decide +kernel)]; kernel_rfl) | (rw [if_neg (by decide +kernel)]; exact ⟨rfl, rfl⟩)
theorem closed : joinedFacts Tryz.pinned.checked.prog 13 Tryz.f13 Rows.poolKnownSpec Rows.poolKnownRow = true := by kernel_rfl

theorem over : Rows.poolKnownRow.holds Tryz.pinned (OpenSpec.ofChange Rows.poolKnownSpec) :=
  OpenClaim.holds_of_wide 13 Tryz.f13 rfl rfl rfl rfl rfl rfl rfl ⟨rfl, rfl, rfl, rfl, rfl⟩ rfl rfl rfl rfl rfl named Tryz.func13 closed instance_of wrapped
    (fun os started H enc _ => lifted os started H enc)

theorem stand_ins : ∀ (j : Nat) t, Tryz.f13.params[j]? = some t → Tryz.prog.wantsStandIn t = false := fun j t ht => by
  have hm : t ∈ Tryz.f13.params.toList := by simpa using Array.mem_of_getElem? ht
  have hall : (Tryz.f13.params.toList.all fun u => !Tryz.prog.wantsStandIn u) = true := by kernel_rfl
  simpa using List.all_eq_true.1 hall t hm

theorem proved : Rows.PoolKnownCardSaid :=
  Claim7.holds_tied_plain_at .later [] [.data, .data, .data, .data, .pinned] true (true, "0522156b38ab610cecf3cbd368809fe224813908b8a01d18e78664cda1fa3d01") true over (fun _ h => by cases h) (by kernel_rfl) (fun _ h => by cases h) poolKnown_row_tie rfl ⟨rfl, rfl⟩ (by kernel_rfl) rfl
    (fun f fn hf hfn => by
      obtain rfl : f = 13 := Option.some.inj ((show Tryz.prog.funcNamed "tenement/tenementlaw19.PoolKnown" = some 13 by kernel_rfl).symm.trans hf) |>.symm
      obtain rfl : fn = Tryz.f13 := (Option.some.inj (Tryz.func13.symm.trans hfn)).symm
      exact ⟨by kernel_rfl, stand_ins⟩)
    (by kernel_rfl)
#print axioms proved
end Go.Proofs.YthdhihbomackeaaGreatDoor.poolKnown
