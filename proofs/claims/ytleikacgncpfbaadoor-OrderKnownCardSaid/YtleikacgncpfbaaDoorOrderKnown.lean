/- 'tenement/tenementlaw6.OrderKnown' answers true, whatever stands in memory, for every input; the row and its card. -/
import Derived.Test.YtleikacgncpfbaaDoorCards
import Derived.Test.YtleikacgncpfbaaDoorTie
import Derived.Test.YtleikacgncpfbaaDoorDenT
import Derived.Test.YtleikacgncpfbaaDoorDenZk
import Derived.LaidLaws
import Derived.MakeChecks
import Derived.SevenTiedAt
set_option maxRecDepth 100000
namespace Go.Proofs.YtleikacgncpfbaaDoor.orderKnown
open Go Go.Den Go.ChangeShapes Go.WideShapes Go.ChangeAt Go.RowKit

/-- The functions that the law reaches. -/
def reached : List FuncId := [13, 23, 25, 27, 29, 32, 35, 36, 44, 46, 51, 52, 59, 60, 61, 62, 63, 68, 71, 72, 73, 76, 82, 84, 85, 86, 87, 88, 89, 90, 91, 94, 96, 97, 99, 100, 101, 102, 103, 104, 105, 106, 107, 108, 109, 111, 112, 113, 114, 115, 116, 117]
noncomputable def env0 : Env := { P := Tryd.prog, pol := fun _ => .plain, ann := fun _ => {}, glob := fun _ => none }
/-- The places where a function's own variables are laid. -/
def siteTable : List (Nat × List (Nat × Nat × Nat)) := [(46, [(0, 0, 0), (0, 1, 1), (1, 15, 2)])]
def sitesIn : List (Nat × List (Nat × Nat × Nat)) → Nat → List (Nat × Nat × Nat)
  | [], _ => []
  | (g, l) :: r, f => bif Nat.beq g f then l else sitesIn r f
/-- What is said of a function's regions, reckoned off its code. -/
noncomputable def tab (f : FuncId) : FAnn :=
  match Tryd.prog.funcs[f]? with
  | some fn => { depth := Nat.log2 fn.ntmps + 1, sites := sitesIn siteTable f, draws := mkDraws env0 (sitesIn siteTable f) fn }
  | none => {}
noncomputable def env : Env := { P := Tryd.prog, pol := fun _ => .plain, ann := fun f => if f ∈ reached then tab f else {}, glob := fun _ => none }
theorem env_ok : EnvOK env := envOK reached (by kernel_rfl) (fun f hf => by show (if f ∈ reached then tab f else {}).draws = []; rw [if_neg hf]) (by kernel_rfl)
theorem calls_ok (n : Nat) : CallOK env (callF env n) := callF_plain env_ok (by kernel_rfl) (fun _ => rfl) n
def saysTrue : Option AV → Bool
  | some (.bool true) => true
  | _ => false
theorem says_true {x : Option AV} (h : saysTrue x = true) : x = some (.bool true) := by
  unfold saysTrue at h
  split at h
  · rfl
  · cases h
theorem known : answer env 300 13 [] = some (.bool true) := says_true (by kernel_rfl)
theorem law : ∀ vs : List AV, vs.length = Tryd.f13.params.size → (∀ (j : Nat) t v, Tryd.f13.params[j]? = some t → vs[j]? = some v → ∃ n, Ty Tryd.prog n t v) → ∃ n, answer env n 13 vs = some (.bool true) := fun vs hv _ => by
  have e : vs = [] := List.eq_nil_of_length_eq_zero (by rw [hv]; kernel_rfl)
  subst e
  exact ⟨300, known⟩
theorem own : ownKnob Tryd.prog.godebug = none := by kernel_rfl
theorem types_ok : ([] : List TypeId).all (tyOk Tryd.prog []) = true := by kernel_rfl
theorem params_ok : Tryd.f13.params.toList.all (fun t => ([] : List TypeId).contains t && Tryd.prog.readableRec t && decide (t < Tryd.prog.types.size)) = true := by kernel_rfl

theorem lifted (os : Os) (started : os.Started) (H : Type) (enc : TypeId × Value → H) :
    ReturnsInHanded {} Tryd.checked os 13 .any (fun w args => (Rows.orderKnownSpec.pre enc Tryd.prog Tryd.f13 [] false w args ∧ laidMetH Tryd.prog Rows.orderKnownRow.laid w) ∧ sizedMet enc Tryd.prog Tryd.f13 (OpenSpec.ofChange Rows.orderKnownSpec) false w args)
      (Rows.orderKnownSpec.post enc Tryd.prog Tryd.f13 false true false false) :=
  law_lifted_laid (E := env) (C := Tryd.checked) (tb := 4) rfl (fun W _ => GlobOK.none (fun _ => rfl) W) calls_ok own started (by kernel_rfl) Tryd.func13 rfl
    (ChangeSpec.witness_shaped (enc := enc) (C := Tryd.checked) (os := os) (X := fun w _ => laidMetH Tryd.prog Rows.orderKnownRow.laid w) false (World.laidAll Tryd.prog os Rows.orderKnownRow.laid) #[] 8 (World.laidAll_os _ _ _)
      (World.shaped_of_ZipB (by kernel_rfl) (by kernel_rfl)) (by kernel_rfl) (by kernel_rfl) (by kernel_rfl)
      (by rw [MakeChecks.laidMetH_plain _ _ _ (by kernel_rfl)]; exact laidMet_laidAll _ (by kernel_rfl) (by kernel_rfl)))
    (by kernel_rfl) rfl (fun H ds h => by
      match ds, h with
      | [], _ => rfl)
    (by kernel_rfl) (by kernel_rfl) (ts := []) (fun t ht => List.all_eq_true.1 types_ok t ht)
    (fun t ht => by
      have := List.all_eq_true.1 params_ok t ht
      simp only [Bool.and_eq_true, List.contains_iff_mem, decide_eq_true_eq] at this
      exact ⟨this.1.1, this.1.2, this.2⟩)
    law

theorem over : Rows.orderKnownRow.holds Tryd.pinned (OpenSpec.ofChange Rows.orderKnownSpec) :=
  OpenClaim.holds_of_wide 13 Tryd.f13 rfl rfl rfl rfl rfl rfl rfl ⟨rfl, rfl, rfl, rfl, rfl⟩ rfl rfl rfl rfl rfl (by kernel_rfl) Tryd.func13 (by kernel_rfl)
    (of_decide_eq_true (by kernel_rfl)) (by unfold Func.isWrapper; first | (rw [if_pos (by decide +kernel)]; kernel_rfl) | (rw [if_neg (by decide +kernel)]; exact ⟨rfl, rfl⟩))
    (fun os started H enc _ => lifted os started H enc)

theorem stand_ins : ∀ (j : Nat) t, Tryd.f13.params[j]? = some t → Tryd.prog.wantsStandIn t = false := fun j t ht => by
  have hm : t ∈ Tryd.f13.params.toList := by simpa using Array.mem_of_getElem? ht
  have hall : (Tryd.f13.params.toList.all fun u => !Tryd.prog.wantsStandIn u) = true := by kernel_rfl
  simpa using List.all_eq_true.1 hall t hm

theorem proved : Rows.OrderKnownCardSaid :=
  Claim7.holds_tied_plain_at .later [] [.data, .pinned] true (true, "72d9264dcaf3a2fa03d603086f9ffd9272e80996d97dc0ea6833a3ce86da6290") false over (fun _ h => by cases h) (by kernel_rfl) (fun _ h => by cases h) orderKnown_row_tie rfl ⟨rfl, rfl⟩ (by kernel_rfl) rfl
    (fun f fn hf hfn => by
      obtain rfl : f = 13 := Option.some.inj ((show Tryd.prog.funcNamed "tenement/tenementlaw6.OrderKnown" = some 13 by kernel_rfl).symm.trans hf) |>.symm
      obtain rfl : fn = Tryd.f13 := (Option.some.inj (Tryd.func13.symm.trans hfn)).symm
      exact ⟨by kernel_rfl, stand_ins⟩)
    (by kernel_rfl)
#print axioms proved
end Go.Proofs.YtleikacgncpfbaaDoor.orderKnown
