/- 'tenement/tenementlaw9.BuildKnown' answers true, whatever stands in memory, for every input; the row and its card. -/
import Derived.Test.YtpddkeljhnimdaaDoorMe
import Derived.Test.YtpddkeljhnimdaaDoorCards
import Derived.Test.YtpddkeljhnimdaaDoorTie
import Derived.LaidLaws
import Derived.MakeChecks
import Derived.SevenTiedAt

set_option maxRecDepth 100000
namespace Go.Proofs.YtpddkeljhnimdaaDoor.buildKnown
open Go Go.Den Go.ChangeShapes Go.WideShapes Go.ChangeAt Go.RowKit

/-- The functions that the law reaches. -/
def reached : List FuncId := [5, 6, 11, 12, 14, 15, 26, 27, 28, 29, 33, 34, 35, 36, 37, 38, 39, 40, 45, 46, 47, 48, 49, 50, 51, 52, 56, 57, 58, 59, 60, 61, 62, 63, 64, 65, 66, 67, 68, 69, 70, 71, 72, 73, 74, 75, 76, 77, 78, 79, 80, 81, 82, 83, 84, 85, 86, 87, 88, 89, 90, 91, 92, 93, 94, 95, 96, 97, 98, 99, 100, 101, 102]
noncomputable def env0 : Env := { P := Tryd.prog, pol := fun _ => .plain, ann := fun _ => {}, glob := fun g => bif Nat.beq g 0 then flatD (H := Unit) Rows.laid_unicode_utf8_first else bif Nat.beq g 1 then flatD (H := Unit) Rows.laid_unicode_utf8_acceptRanges else none }
/-- The places where a function's own variables are laid. -/
def siteTable : List (Nat × List (Nat × Nat × Nat)) := [(46, [(0, 0, 0), (0, 1, 1), (1, 15, 2)]), (83, [(0, 0, 0), (1, 10, 1)])]
def sitesIn : List (Nat × List (Nat × Nat × Nat)) → Nat → List (Nat × Nat × Nat)
  | [], _ => []
  | (g, l) :: r, f => bif Nat.beq g f then l else sitesIn r f
/-- What is said of a function's regions, reckoned off its code. -/
noncomputable def tab (f : FuncId) : FAnn :=
  match Tryd.prog.funcs[f]? with
  | some fn => { depth := Nat.log2 fn.ntmps + 1, sites := sitesIn siteTable f, draws := mkDraws env0 (sitesIn siteTable f) fn }
  | none => {}
noncomputable def env : Env := { env0 with ann := fun f => if f ∈ reached then tab f else {} }
theorem env_ok : EnvOK env := envOK reached (by kernel_rfl) (fun f hf => by show (if f ∈ reached then tab f else {}).draws = []; rw [if_neg hf]) (by kernel_rfl)
theorem prims_ok : ∀ f, env.pol f = .plain ∨ ∃ F, env.pol f = .prim F ∧ PrimOK env f F := fun f => by
  refine .inl ?_
  show ( Pol.plain) = _
  rfl
theorem flat_ok : ([5, 144, 146, 147] : List TypeId).all (flatTy Tryd.prog [5, 144, 146, 147]) = true := by kernel_rfl
theorem globs_ok (W : World) (hL : laidMetH Tryd.prog Rows.buildKnownRow.laid W) : GlobOK env W := fun g cs h => by
  rw [MakeChecks.laidMetH_plain _ _ _ (by kernel_rfl)] at hL
  have h1 : (bif Nat.beq g 0 then flatD (H := Unit) Rows.laid_unicode_utf8_first else bif Nat.beq g 1 then flatD (H := Unit) Rows.laid_unicode_utf8_acceptRanges else none) = some cs := h
  cases h0g : Nat.beq g 0
  case true =>
    obtain rfl := Nat.eq_of_beq_eq_true h0g
    simp only [h0g, cond_true, cond_false] at h1
    exact glob_of_reads (n := "unicode/utf8.first") (d := Rows.laid_unicode_utf8_first) (ts := [5, 144, 146, 147]) (fun t ht => List.all_eq_true.1 flat_ok t ht) (Lib.laidMet.reads hL (.tail _ (.head _))) (by kernel_rfl)
      (fun t ht => by
        have e : ((Tryd.prog.globals[0]?).map (·.type)) = some 144 := by kernel_rfl
        rw [e] at ht
        cases ht
        decide) h1
  case false =>
    cases h1g : Nat.beq g 1
    case true =>
      obtain rfl := Nat.eq_of_beq_eq_true h1g
      simp only [h1g, h0g, cond_true, cond_false] at h1
      exact glob_of_reads (n := "unicode/utf8.acceptRanges") (d := Rows.laid_unicode_utf8_acceptRanges) (ts := [5, 144, 146, 147]) (fun t ht => List.all_eq_true.1 flat_ok t ht) (Lib.laidMet.reads hL (.head _)) (by kernel_rfl)
        (fun t ht => by
          have e : ((Tryd.prog.globals[1]?).map (·.type)) = some 147 := by kernel_rfl
          rw [e] at ht
          cases ht
          decide) h1
    case false =>
      simp only [h0g, h1g, cond_false] at h1
      cases h1
theorem calls_ok (n : Nat) : CallOK env (callF env n) := callF_prims env_ok (by kernel_rfl) prims_ok n
def saysTrue : Option AV → Bool
  | some (.bool true) => true
  | _ => false
theorem says_true {x : Option AV} (h : saysTrue x = true) : x = some (.bool true) := by
  unfold saysTrue at h
  split at h
  · rfl
  · cases h
theorem known : answer env 300 5 [] = some (.bool true) := says_true (by kernel_rfl)
theorem law : ∀ vs : List AV, vs.length = Tryd.f5.params.size → (∀ (j : Nat) t v, Tryd.f5.params[j]? = some t → vs[j]? = some v → ∃ n, Ty Tryd.prog n t v) → ∃ n, answer env n 5 vs = some (.bool true) := fun vs hv _ => by
  have e : vs = [] := List.eq_nil_of_length_eq_zero (by rw [hv]; kernel_rfl)
  subst e
  exact ⟨300, known⟩
theorem own : ownKnob Tryd.prog.godebug = none := by kernel_rfl
theorem types_ok : ([] : List TypeId).all (tyOk Tryd.prog []) = true := by kernel_rfl
theorem params_ok : Tryd.f5.params.toList.all (fun t => ([] : List TypeId).contains t && Tryd.prog.readableRec t && decide (t < Tryd.prog.types.size)) = true := by kernel_rfl

theorem lifted (os : Os) (started : os.Started) (H : Type) (enc : TypeId × Value → H) :
    ReturnsInHanded {} Tryd.checked os 5 .any (fun w args => (Rows.buildKnownSpec.pre enc Tryd.prog Tryd.f5 [] false w args ∧ laidMetH Tryd.prog Rows.buildKnownRow.laid w) ∧ sizedMet enc Tryd.prog Tryd.f5 (OpenSpec.ofChange Rows.buildKnownSpec) false w args)
      (Rows.buildKnownSpec.post enc Tryd.prog Tryd.f5 false true false false) :=
  law_lifted_laid (E := env) (C := Tryd.checked) (tb := 4) rfl globs_ok calls_ok own started (by kernel_rfl) Tryd.func5 rfl
    (ChangeSpec.witness_shaped (enc := enc) (C := Tryd.checked) (os := os) (X := fun w _ => laidMetH Tryd.prog Rows.buildKnownRow.laid w) false (World.laidAll Tryd.prog os Rows.buildKnownRow.laid) #[] 8 (World.laidAll_os _ _ _)
      (World.shaped_of_ZipB (by kernel_rfl) (by kernel_rfl)) (by kernel_rfl) (by kernel_rfl) (by kernel_rfl)
      (by rw [MakeChecks.laidMetH_plain _ _ _ (by kernel_rfl)]; exact laidMet_laidAll _ (by kernel_rfl) (by kernel_rfl)))
    (by kernel_rfl) rfl (fun H ds h => by
      match ds, h with
      | [], _ => rfl)
    (by kernel_rfl) (by kernel_rfl) (ts := []) (fun t ht => List.all_eq_true.1 types_ok t ht)
    (fun t ht => by
      have := List.all_eq_true.1 params_ok t ht
      simp only [Bool.and_eq_true, List.contains_iff_mem, decide_eq_true_eq] at this
      exact ⟨this.1.1, this.1.2, this.2⟩)
    law

theorem over : Rows.buildKnownRow.holds Tryd.pinned (OpenSpec.ofChange Rows.buildKnownSpec) :=
  OpenClaim.holds_of_wide 5 Tryd.f5 rfl rfl rfl rfl rfl rfl rfl ⟨rfl, rfl, rfl, rfl, rfl⟩ rfl rfl rfl rfl rfl (by kernel_rfl) Tryd.func5 (by kernel_rfl)
    (of_decide_eq_true (by kernel_rfl)) (by unfold Func.isWrapper; first | (rw [if_pos (by decide +kernel)]; kernel_rfl) | (rw [if_neg (by decide +kernel)]; exact ⟨rfl, rfl⟩))
    (fun os started H enc _ => lifted os started H enc)

theorem stand_ins : ∀ (j : Nat) t, Tryd.f5.params[j]? = some t → Tryd.prog.wantsStandIn t = false := fun j t ht => by
  have hm : t ∈ Tryd.f5.params.toList := by simpa using Array.mem_of_getElem? ht
  have hall : (Tryd.f5.params.toList.all fun u => !Tryd.prog.wantsStandIn u) = true := by kernel_rfl
  simpa using List.all_eq_true.1 hall t hm

theorem proved : Rows.BuildKnownCardSaid :=
  Claim7.holds_tied_plain_at .later [] [.data, .pinned] true (true, "58c7613cdddb39f91bc717b5ff099244fdb4d4f34d4f99ae6a80f080d7350368") false over (fun _ h => by cases h) (by kernel_rfl) (fun _ h => by cases h) buildKnown_row_tie rfl ⟨rfl, rfl⟩ (by kernel_rfl) rfl
    (fun f fn hf hfn => by
      obtain rfl : f = 5 := Option.some.inj ((show Tryd.prog.funcNamed "tenement/tenementlaw9.BuildKnown" = some 5 by kernel_rfl).symm.trans hf) |>.symm
      obtain rfl : fn = Tryd.f5 := (Option.some.inj (Tryd.func5.symm.trans hfn)).symm
      exact ⟨by kernel_rfl, stand_ins⟩)
    (by kernel_rfl)
#print axioms proved
end Go.Proofs.YtpddkeljhnimdaaDoor.buildKnown
