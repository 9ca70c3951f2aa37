/- 'tenement/tenementlaw3.BigKnown' answers true, whatever stands in memory, for every input; the row and its card. -/
import Derived.Test.YtikkpecdkdgmfaaDoorCards
import Derived.Test.YtikkpecdkdgmfaaDoorTie
import Derived.Test.YtikkpecdkdgmfaaDoorDenT
import Derived.Test.YtikkpecdkdgmfaaDoorDenZk
import Derived.Test.YtikkpecdkdgmfaaDoorDenZl
import Derived.Test.YtikkpecdkdgmfaaDoorDenZm
import Derived.Test.YtikkpecdkdgmfaaDoorDenZn
import Derived.Test.YtikkpecdkdgmfaaDoorDenPv
import Derived.LaidLaws
import Derived.MakeChecks
import Derived.SevenTiedAt
set_option maxRecDepth 100000
namespace Go.Proofs.YtikkpecdkdgmfaaDoor.bigKnown
open Go Go.Den Go.ChangeShapes Go.WideShapes Go.ChangeAt Go.RowKit

/-- The functions that the law reaches. -/
def reached : List FuncId := [6, 9, 10, 13, 16, 19, 20, 21, 22, 32, 33, 34, 36, 37, 38, 39, 40, 41, 44, 45, 52, 53, 54, 55, 56, 57, 58, 59, 60, 61, 62, 63, 64, 65, 66, 67, 68, 71, 72, 73, 74, 75, 76, 77, 78, 79, 80, 81, 82, 83, 84, 85, 88, 89, 90, 92]
noncomputable def env0 : Env := { P := Tryd.prog, pol := fun f => bif Nat.beq f 86 then .prim sameF else bif Nat.beq f 87 then .prim (noZeroF 5) else bif Nat.beq f 93 then .prim indexByteF else .plain, ann := fun _ => {}, glob := fun g => bif Nat.beq g 0 then flatD (H := Unit) Rows.laid_unicode_utf8_first else bif Nat.beq g 1 then flatD (H := Unit) Rows.laid_unicode_utf8_acceptRanges else none }
/-- The places where a function's own variables are laid. -/
def siteTable : List (Nat × List (Nat × Nat × Nat)) := [(21, [(8, 6, 1000)])]
def sitesIn : List (Nat × List (Nat × Nat × Nat)) → Nat → List (Nat × Nat × Nat)
  | [], _ => []
  | (g, l) :: r, f => bif Nat.beq g f then l else sitesIn r f
/-- What is said of a function's regions, reckoned off its code. -/
noncomputable def tab (f : FuncId) : FAnn :=
  match Tryd.prog.funcs[f]? with
  | some fn => { depth := Nat.log2 fn.ntmps + 1, sites := sitesIn siteTable f, draws := mkDraws env0 (sitesIn siteTable f) fn }
  | none => {}
noncomputable def envp : Env := { env0 with ann := fun f => if f ∈ reached then tab f else {} }
/-- Calls that leave the small heap alone are read with one of their own. -/
noncomputable def env : Env := envp.with fun f => bif Nat.beq f 34 then .still (fun xs => callF envp 200 AV 34 xs [] fun v G => A.freezeB true 64 G v) else bif Nat.beq f 36 then .still (fun xs => callF envp 200 AV 36 xs [] fun v G => A.freezeB true 64 G v) else envp.pol f
theorem envp_ok : EnvOK envp := envOK reached (by kernel_rfl) (fun f hf => by show (if f ∈ reached then tab f else {}).draws = []; rw [if_neg hf]) (by kernel_rfl)
theorem env_ok : EnvOK env := envp_ok.with
theorem prims_ok : ∀ f, envp.pol f = .plain ∨ ∃ F, envp.pol f = .prim F ∧ PrimOK envp f F := fun f => by
  cases h86 : Nat.beq f 86
  case true =>
    obtain rfl := Nat.eq_of_beq_eq_true h86
    exact .inr ⟨sameF, rfl, same_prim (fn := Tryd.f86) Tryd.func86 (by kernel_rfl) (by kernel_rfl) (by kernel_rfl) (by kernel_rfl)⟩
  case false =>
    cases h87 : Nat.beq f 87
    case true =>
      obtain rfl := Nat.eq_of_beq_eq_true h87
      exact .inr ⟨(noZeroF 5), rfl, noZero_prim (t := 83) (ps := #[3]) (ht := by kernel_rfl) (fn := Tryd.f87) Tryd.func87 (by kernel_rfl) (by kernel_rfl) (by kernel_rfl) (by kernel_rfl)⟩
    case false =>
      cases h93 : Nat.beq f 93
      case true =>
        obtain rfl := Nat.eq_of_beq_eq_true h93
        exact .inr ⟨indexByteF, rfl, indexByte_prim (fn := Tryd.f93) Tryd.func93 (by kernel_rfl) (by kernel_rfl) (by kernel_rfl) (by kernel_rfl)⟩
      case false =>
        refine .inl ?_
        show (bif Nat.beq f 86 then Pol.prim sameF else bif Nat.beq f 87 then Pol.prim (noZeroF 5) else bif Nat.beq f 93 then Pol.prim indexByteF else Pol.plain) = _
        simp only [h86, h87, h93, cond_false]
theorem callsp_ok (n : Nat) : CallOK envp (callF envp n) := callF_prims envp_ok (by kernel_rfl) prims_ok n
theorem pols_ok : ∀ f, PolOK env f (env.pol f) := fun f => by
  cases h34q : Nat.beq f 34
  case true =>
    obtain rfl := Nat.eq_of_beq_eq_true h34q
    exact pure_prim (E := env) (E' := envp) rfl rfl callsp_ok fun xs v h => ⟨200, h⟩
  case false =>
    cases h36q : Nat.beq f 36
    case true =>
      obtain rfl := Nat.eq_of_beq_eq_true h36q
      exact pure_prim (E := env) (E' := envp) rfl rfl callsp_ok fun xs v h => ⟨200, h⟩
    case false =>
      have e : env.pol f = envp.pol f := by
        show (bif Nat.beq f 34 then Pol.still (fun xs => callF envp 200 AV 34 xs [] fun v G => A.freezeB true 64 G v) else bif Nat.beq f 36 then Pol.still (fun xs => callF envp 200 AV 36 xs [] fun v G => A.freezeB true 64 G v) else envp.pol f) = _
        simp only [h34q, h36q, cond_false]
      rw [e]
      rcases prims_ok f with h1 | ⟨F, h1, h2⟩
      · rw [h1]; trivial
      · rw [h1]; exact PrimOK.to_with h2
theorem flat_ok : ([5, 128, 130, 131] : List TypeId).all (flatTy Tryd.prog [5, 128, 130, 131]) = true := by kernel_rfl
theorem globs_ok (W : World) (hL : laidMetH Tryd.prog Rows.bigKnownRow.laid W) : GlobOK env W := fun g cs h => by
  rw [MakeChecks.laidMetH_plain _ _ _ (by kernel_rfl)] at hL
  have h1 : (bif Nat.beq g 0 then flatD (H := Unit) Rows.laid_unicode_utf8_first else bif Nat.beq g 1 then flatD (H := Unit) Rows.laid_unicode_utf8_acceptRanges else none) = some cs := h
  cases h0g : Nat.beq g 0
  case true =>
    obtain rfl := Nat.eq_of_beq_eq_true h0g
    simp only [h0g, cond_true, cond_false] at h1
    exact glob_of_reads (n := "unicode/utf8.first") (d := Rows.laid_unicode_utf8_first) (ts := [5, 128, 130, 131]) (fun t ht => List.all_eq_true.1 flat_ok t ht) (Lib.laidMet.reads hL (.tail _ (.head _))) (by kernel_rfl)
      (fun t ht => by
        have e : ((Tryd.prog.globals[0]?).map (·.type)) = some 128 := by kernel_rfl
        rw [e] at ht
        cases ht
        decide) h1
  case false =>
    cases h1g : Nat.beq g 1
    case true =>
      obtain rfl := Nat.eq_of_beq_eq_true h1g
      simp only [h1g, h0g, cond_true, cond_false] at h1
      exact glob_of_reads (n := "unicode/utf8.acceptRanges") (d := Rows.laid_unicode_utf8_acceptRanges) (ts := [5, 128, 130, 131]) (fun t ht => List.all_eq_true.1 flat_ok t ht) (Lib.laidMet.reads hL (.head _)) (by kernel_rfl)
        (fun t ht => by
          have e : ((Tryd.prog.globals[1]?).map (·.type)) = some 131 := by kernel_rfl
          rw [e] at ht
          cases ht
          decide) h1
    case false =>
      simp only [h0g, h1g, cond_false] at h1
      cases h1
theorem calls_ok (n : Nat) : CallOK env (callF env n) := callF_pols env_ok (by kernel_rfl) pols_ok n
def saysTrue : Option AV → Bool
  | some (.bool true) => true
  | _ => false
theorem says_true {x : Option AV} (h : saysTrue x = true) : x = some (.bool true) := by
  unfold saysTrue at h
  split at h
  · rfl
  · cases h
theorem known : answer env 300 6 [] = some (.bool true) := says_true (by kernel_rfl)
theorem law : ∀ vs : List AV, vs.length = Tryd.f6.params.size → (∀ (j : Nat) t v, Tryd.f6.params[j]? = some t → vs[j]? = some v → ∃ n, Ty Tryd.prog n t v) → ∃ n, answer env n 6 vs = some (.bool true) := fun vs hv _ => by
  have e : vs = [] := List.eq_nil_of_length_eq_zero (by rw [hv]; kernel_rfl)
  subst e
  exact ⟨300, known⟩
theorem own : ownKnob Tryd.prog.godebug = none := by kernel_rfl
theorem types_ok : ([] : List TypeId).all (tyOk Tryd.prog []) = true := by kernel_rfl
theorem params_ok : Tryd.f6.params.toList.all (fun t => ([] : List TypeId).contains t && Tryd.prog.readableRec t && decide (t < Tryd.prog.types.size)) = true := by kernel_rfl

theorem lifted (os : Os) (started : os.Started) (H : Type) (enc : TypeId × Value → H) :
    ReturnsInHanded {} Tryd.checked os 6 .any (fun w args => (Rows.bigKnownSpec.pre enc Tryd.prog Tryd.f6 [] false w args ∧ laidMetH Tryd.prog Rows.bigKnownRow.laid w) ∧ sizedMet enc Tryd.prog Tryd.f6 (OpenSpec.ofChange Rows.bigKnownSpec) false w args)
      (Rows.bigKnownSpec.post enc Tryd.prog Tryd.f6 false true false false) :=
  law_lifted_laid (E := env) (C := Tryd.checked) (tb := 4) rfl globs_ok calls_ok own started (by kernel_rfl) Tryd.func6 rfl
    (ChangeSpec.witness_shaped (enc := enc) (C := Tryd.checked) (os := os) (X := fun w _ => laidMetH Tryd.prog Rows.bigKnownRow.laid w) false (World.laidAll Tryd.prog os Rows.bigKnownRow.laid) #[] 8 (World.laidAll_os _ _ _)
      (World.shaped_of_ZipB (by kernel_rfl) (by kernel_rfl)) (by kernel_rfl) (by kernel_rfl) (by kernel_rfl)
      (by rw [MakeChecks.laidMetH_plain _ _ _ (by kernel_rfl)]; exact laidMet_laidAll _ (by kernel_rfl) (by kernel_rfl)))
    (by kernel_rfl) rfl (fun H ds h => by
      match ds, h with
      | [], _ => rfl)
    (by kernel_rfl) (by kernel_rfl) (ts := []) (fun t ht => List.all_eq_true.1 types_ok t ht)
    (fun t ht => by
      have := List.all_eq_true.1 params_ok t ht
      simp only [Bool.and_eq_true, List.contains_iff_mem, decide_eq_true_eq] at this
      exact ⟨this.1.1, this.1.2, this.2⟩)
    law

theorem over : Rows.bigKnownRow.holds Tryd.pinned (OpenSpec.ofChange Rows.bigKnownSpec) :=
  OpenClaim.holds_of_wide 6 Tryd.f6 rfl rfl rfl rfl rfl rfl rfl ⟨rfl, rfl, rfl, rfl, rfl⟩ rfl rfl rfl rfl rfl (by kernel_rfl) Tryd.func6 (by kernel_rfl)
    (of_decide_eq_true (by kernel_rfl)) (by unfold Func.isWrapper; first | (rw [if_pos (by decide +kernel)]; kernel_rfl) | (rw [if_neg (by decide +kernel)]; exact ⟨rfl, rfl⟩))
    (fun os started H enc _ => lifted os started H enc)

theorem stand_ins : ∀ (j : Nat) t, Tryd.f6.params[j]? = some t → Tryd.prog.wantsStandIn t = false := fun j t ht => by
  have hm : t ∈ Tryd.f6.params.toList := by simpa using Array.mem_of_getElem? ht
  have hall : (Tryd.f6.params.toList.all fun u => !Tryd.prog.wantsStandIn u) = true := by kernel_rfl
  simpa using List.all_eq_true.1 hall t hm

theorem proved : Rows.BigKnownCardSaid :=
  Claim7.holds_tied_plain_at .later [] [.data, .pinned] true (true, "6db16c6799d4ae0d504d11ad03fe846106ac58bc5256491c20e3444ee582d5a0") false over (fun _ h => by cases h) (by kernel_rfl) (fun _ h => by cases h) bigKnown_row_tie rfl ⟨rfl, rfl⟩ (by kernel_rfl) rfl
    (fun f fn hf hfn => by
      obtain rfl : f = 6 := Option.some.inj ((show Tryd.prog.funcNamed "tenement/tenementlaw3.BigKnown" = some 6 by kernel_rfl).symm.trans hf) |>.symm
      obtain rfl : fn = Tryd.f6 := (Option.some.inj (Tryd.func6.symm.trans hfn)).symm
      exact ⟨by kernel_rfl, stand_ins⟩)
    (by kernel_rfl)
#print axioms proved
end Go.Proofs.YtikkpecdkdgmfaaDoor.bigKnown
