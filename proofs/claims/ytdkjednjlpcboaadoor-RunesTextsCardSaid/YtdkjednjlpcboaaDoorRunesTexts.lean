/- 'tenement/tenementlaw2.RunesTexts' answers true, whatever stands in memory, for every input; the row and its card. -/
import Derived.Test.YtdkjednjlpcboaaDoorMi
import Derived.Test.YtdkjednjlpcboaaDoorCards
import Derived.Test.YtdkjednjlpcboaaDoorTie
import Derived.LaidLaws
import Derived.MakeChecks
import Derived.SevenTiedAt

set_option maxRecDepth 100000
namespace Go.Proofs.YtdkjednjlpcboaaDoor.runesTexts
open Go Go.Den Go.ChangeShapes Go.WideShapes Go.ChangeAt Go.RowKit
/-- The law's environment: what is said of the functions that it calls. -/
noncomputable def env : Env := base.with (polT TLt)
theorem q79 : ([5, 65, 67, 69, 70, 91, 96, 97] : List TypeId).all (flatTy Tryd.prog [5, 65, 67, 69, 70, 91, 96, 97]) = true := by kernel_rfl
theorem qi7 (W : World) (hL : laidMetH Tryd.prog Rows.runesTextsRow.laid W) : GlobOK env W := fun g cs h => by
  rw [MakeChecks.laidMetH_plain _ _ _ (by kernel_rfl)] at hL
  have h1 : (bif Nat.beq g 0 then flatD (H := Unit) Rows.laid_unicode_utf8_first else bif Nat.beq g 1 then flatD (H := Unit) Rows.laid_unicode_utf8_acceptRanges else bif Nat.beq g 2 then flatD (H := Unit) Rows.laid_internal_strconv_uint64pow10 else bif Nat.beq g 3 then flatD (H := Unit) Rows.laid_math_bits_deBruijn32tab else bif Nat.beq g 4 then flatD (H := Unit) Rows.laid_math_bits_deBruijn64tab else none) = some cs := h
  cases h0g : Nat.beq g 0
  case true =>
    obtain rfl := Nat.eq_of_beq_eq_true h0g
    simp only [h0g, cond_true, cond_false] at h1
    exact q1l (n := "unicode/utf8.first") (d := Rows.laid_unicode_utf8_first) (ts := [5, 65, 67, 69, 70, 91, 96, 97]) (fun t ht => List.all_eq_true.1 q79 t ht) (Lib.laidMet.reads hL (.tail _ (.tail _ (.tail _ (.tail _ (.head _)))))) (by kernel_rfl)
      (fun t ht => by
        have e : ((Tryd.prog.globals[0]?).map (·.type)) = some 67 := by kernel_rfl
        rw [e] at ht
        cases ht
        decide) h1
  case false =>
    cases h1g : Nat.beq g 1
    case true =>
      obtain rfl := Nat.eq_of_beq_eq_true h1g
      simp only [h1g, h0g, cond_true, cond_false] at h1
      exact q1l (n := "unicode/utf8.acceptRanges") (d := Rows.laid_unicode_utf8_acceptRanges) (ts := [5, 65, 67, 69, 70, 91, 96, 97]) (fun t ht => List.all_eq_true.1 q79 t ht) (Lib.laidMet.reads hL (.tail _ (.tail _ (.tail _ (.head _))))) (by kernel_rfl)
        (fun t ht => by
          have e : ((Tryd.prog.globals[1]?).map (·.type)) = some 70 := by kernel_rfl
          rw [e] at ht
          cases ht
          decide) h1
    case false =>
      cases h2g : Nat.beq g 2
      case true =>
        obtain rfl := Nat.eq_of_beq_eq_true h2g
        simp only [h2g, h0g, h1g, cond_true, cond_false] at h1
        exact q1l (n := "internal/strconv.uint64pow10") (d := Rows.laid_internal_strconv_uint64pow10) (ts := [5, 65, 67, 69, 70, 91, 96, 97]) (fun t ht => List.all_eq_true.1 q79 t ht) (Lib.laidMet.reads hL (.tail _ (.tail _ (.head _)))) (by kernel_rfl)
          (fun t ht => by
            have e : ((Tryd.prog.globals[2]?).map (·.type)) = some 91 := by kernel_rfl
            rw [e] at ht
            cases ht
            decide) h1
      case false =>
        cases h3g : Nat.beq g 3
        case true =>
          obtain rfl := Nat.eq_of_beq_eq_true h3g
          simp only [h3g, h0g, h1g, h2g, cond_true, cond_false] at h1
          exact q1l (n := "math/bits.deBruijn32tab") (d := Rows.laid_math_bits_deBruijn32tab) (ts := [5, 65, 67, 69, 70, 91, 96, 97]) (fun t ht => List.all_eq_true.1 q79 t ht) (Lib.laidMet.reads hL (.head _)) (by kernel_rfl)
            (fun t ht => by
              have e : ((Tryd.prog.globals[3]?).map (·.type)) = some 96 := by kernel_rfl
              rw [e] at ht
              cases ht
              decide) h1
        case false =>
          cases h4g : Nat.beq g 4
          case true =>
            obtain rfl := Nat.eq_of_beq_eq_true h4g
            simp only [h4g, h0g, h1g, h2g, h3g, cond_true, cond_false] at h1
            exact q1l (n := "math/bits.deBruijn64tab") (d := Rows.laid_math_bits_deBruijn64tab) (ts := [5, 65, 67, 69, 70, 91, 96, 97]) (fun t ht => List.all_eq_true.1 q79 t ht) (Lib.laidMet.reads hL (.tail _ (.head _))) (by kernel_rfl)
              (fun t ht => by
                have e : ((Tryd.prog.globals[4]?).map (·.type)) = some 97 := by kernel_rfl
                rw [e] at ht
                cases ht
                decide) h1
          case false =>
            simp only [h0g, h1g, h2g, h3g, h4g, cond_false] at h1
            cases h1
theorem calls_ok (n : Nat) : CallOK env (callF env n) := q5r base_ok.env base_ok.mixed okTLt n
theorem law : ∀ vs : List AV, vs.length = Tryd.f7.params.size → (∀ (j : Nat) t v, Tryd.f7.params[j]? = some t → vs[j]? = some v → ∃ n, Ty Tryd.prog n t v) → ∃ n, answer env n 7 vs = some (.bool true) := fun vs hl h => by
  have hp : Tryd.f7.params = #[9] := by kernel_rfl
  rw [hp] at hl h
  match vs, hl with
  | [u], _ =>
    obtain ⟨n1, h1⟩ := h 0 9 u rfl rfl
    obtain ⟨a, rfl, ha⟩ := h1.str (by kernel_rfl)
    exact qfg (qga a (by
      unfold notbig
      unfold maxLen at ha
      omega))
theorem own : ownKnob Tryd.prog.godebug = none := by kernel_rfl
theorem qj1 : ([9] : List TypeId).all (tyOk Tryd.prog [9]) = true := by kernel_rfl
theorem qgz : Tryd.f7.params.toList.all (fun t => ([9] : List TypeId).contains t && Tryd.prog.readableRec t && decide (t < Tryd.prog.types.size)) = true := by kernel_rfl

theorem lifted (os : Os) (started : os.Started) (H : Type) (enc : TypeId × Value → H) :
    ReturnsInHanded {} Tryd.checked os 7 .any (fun w args => (Rows.runesTextsSpec.pre enc Tryd.prog Tryd.f7 [] false w args ∧ laidMetH Tryd.prog Rows.runesTextsRow.laid w) ∧ sizedMet enc Tryd.prog Tryd.f7 (OpenSpec.ofChange Rows.runesTextsSpec) false w args)
      (Rows.runesTextsSpec.post enc Tryd.prog Tryd.f7 false true false false) :=
  q7j (E := env) (C := Tryd.checked) (tb := 4) rfl qi7 calls_ok own started (by kernel_rfl) Tryd.func7 rfl
    (ChangeSpec.witness_shaped (enc := enc) (C := Tryd.checked) (os := os) (X := fun w _ => laidMetH Tryd.prog Rows.runesTextsRow.laid w) false (World.laidAll Tryd.prog os Rows.runesTextsRow.laid) #[.string ⟨#[]⟩] 8 (World.laidAll_os _ _ _)
      (World.shaped_of_ZipB (by kernel_rfl) (by kernel_rfl)) (by kernel_rfl) (by kernel_rfl) (by kernel_rfl)
      (by rw [MakeChecks.laidMetH_plain _ _ _ (by kernel_rfl)]; exact laidMet_laidAll _ (by kernel_rfl) (by kernel_rfl)))
    (by kernel_rfl) rfl (fun H ds h => by
      match ds, h with
      | [d0], _ => rfl)
    (by kernel_rfl) (by kernel_rfl) (ts := [9]) (fun t ht => List.all_eq_true.1 qj1 t ht)
    (fun t ht => by
      have := List.all_eq_true.1 qgz t ht
      simp only [Bool.and_eq_true, List.contains_iff_mem, decide_eq_true_eq] at this
      exact ⟨this.1.1, this.1.2, this.2⟩)
    law

theorem named : Tryd.pinned.checked.prog.funcNamed Rows.runesTextsRow.func = some 7 := by kernel_rfl
theorem qcb : Tryd.f7.isInstance Tryd.pinned.checked.prog Rows.runesTextsRow.origin Rows.runesTextsRow.targs := of_decide_eq_true (by kernel_rfl)
theorem wrapped : Tryd.f7.isWrapper Tryd.pinned.checked.prog Rows.runesTextsRow.wrapper Rows.runesTextsRow.mainSum := by unfold Func.isWrapper; first | (rw [if_pos (by decide +kernel)]; kernel_rfl) | (rw [if_neg (by decide +kernel)]; exact ⟨rfl, rfl⟩)
theorem closed : joinedFacts Tryd.pinned.checked.prog 7 Tryd.f7 Rows.runesTextsSpec Rows.runesTextsRow = true := by kernel_rfl

theorem over : Rows.runesTextsRow.holds Tryd.pinned (OpenSpec.ofChange Rows.runesTextsSpec) :=
  OpenClaim.holds_of_wide 7 Tryd.f7 rfl rfl rfl rfl rfl rfl rfl ⟨rfl, rfl, rfl, rfl, rfl⟩ rfl rfl rfl rfl rfl named Tryd.func7 closed qcb wrapped
    (fun os started H enc _ => lifted os started H enc)

theorem qhc : ∀ (j : Nat) t, Tryd.f7.params[j]? = some t → Tryd.prog.wantsStandIn t = false := fun j t ht => by
  have hm : t ∈ Tryd.f7.params.toList := by simpa using Array.mem_of_getElem? ht
  have hall : (Tryd.f7.params.toList.all fun u => !Tryd.prog.wantsStandIn u) = true := by kernel_rfl
  simpa using List.all_eq_true.1 hall t hm

theorem proved : Rows.RunesTextsCardSaid :=
  Claim7.holds_tied_plain_at .later [] [.data, .data, .data, .data, .pinned] true (true, "ffbd5393e18e23d4ef6bbb2ab8577998daa2ef1b58965fa4c8d24e536f1a4390") false over (fun _ h => by cases h) (by kernel_rfl) (fun _ h => by cases h) runesTexts_row_tie rfl ⟨rfl, rfl⟩ (by kernel_rfl) rfl
    (fun f fn hf hfn => by
      obtain rfl : f = 7 := Option.some.inj ((show Tryd.prog.funcNamed "tenement/tenementlaw2.RunesTexts" = some 7 by kernel_rfl).symm.trans hf) |>.symm
      obtain rfl : fn = Tryd.f7 := (Option.some.inj (Tryd.func7.symm.trans hfn)).symm
      exact ⟨by kernel_rfl, qhc⟩)
    (by kernel_rfl)
#print axioms proved
end Go.Proofs.YtdkjednjlpcboaaDoor.runesTexts
