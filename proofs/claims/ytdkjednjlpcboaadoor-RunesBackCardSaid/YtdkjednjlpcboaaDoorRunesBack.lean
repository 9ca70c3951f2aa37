/- 'tenement/tenementlaw2.RunesBack' answers true, whatever stands in memory, for every input; the row and its card. -/
import Derived.Test.YtdkjednjlpcboaaDoorMh
import Derived.Test.YtdkjednjlpcboaaDoorCards
import Derived.Test.YtdkjednjlpcboaaDoorTie
import Derived.LaidLaws
import Derived.MakeChecks
import Derived.SevenTiedAt

set_option maxRecDepth 100000
namespace Go.Proofs.YtdkjednjlpcboaaDoor.runesBack
open Go Go.Den Go.ChangeShapes Go.WideShapes Go.ChangeAt Go.RowKit
/-- The law's environment: what is said of the functions that it calls. -/
noncomputable def env : Env := base.with (polT TLb)
theorem q6p : ([5, 65, 67, 69, 70, 91, 96, 97] : List TypeId).all (flatTy Tryd.prog [5, 65, 67, 69, 70, 91, 96, 97]) = true := by kernel_rfl
theorem qgt (W : World) (hL : laidMetH Tryd.prog Rows.runesBackRow.laid W) : GlobOK env W := fun g cs h => by
  rw [MakeChecks.laidMetH_plain _ _ _ (by kernel_rfl)] at hL
  have h1 : (bif Nat.beq g 0 then flatD (H := Unit) Rows.laid_unicode_utf8_first else bif Nat.beq g 1 then flatD (H := Unit) Rows.laid_unicode_utf8_acceptRanges else bif Nat.beq g 2 then flatD (H := Unit) Rows.laid_internal_strconv_uint64pow10 else bif Nat.beq g 3 then flatD (H := Unit) Rows.laid_math_bits_deBruijn32tab else bif Nat.beq g 4 then flatD (H := Unit) Rows.laid_math_bits_deBruijn64tab else none) = some cs := h
  cases h0g : Nat.beq g 0
  case true =>
    obtain rfl := Nat.eq_of_beq_eq_true h0g
    simp only [h0g, cond_true, cond_false] at h1
    exact q1g (n := "unicode/utf8.first") (d := Rows.laid_unicode_utf8_first) (ts := [5, 65, 67, 69, 70, 91, 96, 97]) (fun t ht => List.all_eq_true.1 q6p t ht) (Lib.laidMet.reads hL (.tail _ (.tail _ (.tail _ (.tail _ (.head _)))))) (by kernel_rfl)
      (fun t ht => by
        have e : ((Tryd.prog.globals[0]?).map (·.type)) = some 67 := by kernel_rfl
        rw [e] at ht
        cases ht
        decide) h1
  case false =>
    cases h1g : Nat.beq g 1
    case true =>
      obtain rfl := Nat.eq_of_beq_eq_true h1g
      simp only [h1g, h0g, cond_true, cond_false] at h1
      exact q1g (n := "unicode/utf8.acceptRanges") (d := Rows.laid_unicode_utf8_acceptRanges) (ts := [5, 65, 67, 69, 70, 91, 96, 97]) (fun t ht => List.all_eq_true.1 q6p t ht) (Lib.laidMet.reads hL (.tail _ (.tail _ (.tail _ (.head _))))) (by kernel_rfl)
        (fun t ht => by
          have e : ((Tryd.prog.globals[1]?).map (·.type)) = some 70 := by kernel_rfl
          rw [e] at ht
          cases ht
          decide) h1
    case false =>
      cases h2g : Nat.beq g 2
      case true =>
        obtain rfl := Nat.eq_of_beq_eq_true h2g
        simp only [h2g, h0g, h1g, cond_true, cond_false] at h1
        exact q1g (n := "internal/strconv.uint64pow10") (d := Rows.laid_internal_strconv_uint64pow10) (ts := [5, 65, 67, 69, 70, 91, 96, 97]) (fun t ht => List.all_eq_true.1 q6p t ht) (Lib.laidMet.reads hL (.tail _ (.tail _ (.head _)))) (by kernel_rfl)
          (fun t ht => by
            have e : ((Tryd.prog.globals[2]?).map (·.type)) = some 91 := by kernel_rfl
            rw [e] at ht
            cases ht
            decide) h1
      case false =>
        cases h3g : Nat.beq g 3
        case true =>
          obtain rfl := Nat.eq_of_beq_eq_true h3g
          simp only [h3g, h0g, h1g, h2g, cond_true, cond_false] at h1
          exact q1g (n := "math/bits.deBruijn32tab") (d := Rows.laid_math_bits_deBruijn32tab) (ts := [5, 65, 67, 69, 70, 91, 96, 97]) (fun t ht => List.all_eq_true.1 q6p t ht) (Lib.laidMet.reads hL (.head _)) (by kernel_rfl)
            (fun t ht => by
              have e : ((Tryd.prog.globals[3]?).map (·.type)) = some 96 := by kernel_rfl
              rw [e] at ht
              cases ht
              decide) h1
        case false =>
          cases h4g : Nat.beq g 4
          case true =>
            obtain rfl := Nat.eq_of_beq_eq_true h4g
            simp only [h4g, h0g, h1g, h2g, h3g, cond_true, cond_false] at h1
            exact q1g (n := "math/bits.deBruijn64tab") (d := Rows.laid_math_bits_deBruijn64tab) (ts := [5, 65, 67, 69, 70, 91, 96, 97]) (fun t ht => List.all_eq_true.1 q6p t ht) (Lib.laidMet.reads hL (.tail _ (.head _))) (by kernel_rfl)
              (fun t ht => by
                have e : ((Tryd.prog.globals[4]?).map (·.type)) = some 97 := by kernel_rfl
                rw [e] at ht
                cases ht
                decide) h1
          case false =>
            simp only [h0g, h1g, h2g, h3g, h4g, cond_false] at h1
            cases h1
theorem calls_ok (n : Nat) : CallOK env (callF env n) := q55 base_ok.env base_ok.mixed okTLb n
theorem law : ∀ vs : List AV, vs.length = Tryd.f6.params.size → (∀ (j : Nat) t v, Tryd.f6.params[j]? = some t → vs[j]? = some v → ∃ n, Ty Tryd.prog n t v) → ∃ n, answer env n 6 vs = some (.bool true) := fun vs hl h => by
  have hp : Tryd.f6.params = #[9, 9] := by kernel_rfl
  rw [hp] at hl h
  match vs, hl with
  | [u, v], _ =>
    obtain ⟨n1, h1⟩ := h 0 9 u rfl rfl
    obtain ⟨n2, h2⟩ := h 1 9 v rfl rfl
    obtain ⟨a, rfl, ha⟩ := h1.str (by kernel_rfl)
    obtain ⟨b, rfl, -⟩ := h2.str (by kernel_rfl)
    exact qek (qgy a b (by
      unfold notbig
      unfold maxLen at ha
      omega))
theorem own : ownKnob Tryd.prog.godebug = none := by kernel_rfl
theorem qhm : ([9] : List TypeId).all (tyOk Tryd.prog [9]) = true := by kernel_rfl
theorem qfw : Tryd.f6.params.toList.all (fun t => ([9] : List TypeId).contains t && Tryd.prog.readableRec t && decide (t < Tryd.prog.types.size)) = true := by kernel_rfl

theorem lifted (os : Os) (started : os.Started) (H : Type) (enc : TypeId × Value → H) :
    ReturnsInHanded {} Tryd.checked os 6 .any (fun w args => (Rows.runesBackSpec.pre enc Tryd.prog Tryd.f6 [] false w args ∧ laidMetH Tryd.prog Rows.runesBackRow.laid w) ∧ sizedMet enc Tryd.prog Tryd.f6 (OpenSpec.ofChange Rows.runesBackSpec) false w args)
      (Rows.runesBackSpec.post enc Tryd.prog Tryd.f6 false true false false) :=
  q6z (E := env) (C := Tryd.checked) (tb := 4) rfl qgt calls_ok own started (by kernel_rfl) Tryd.func6 rfl
    (ChangeSpec.witness_shaped (enc := enc) (C := Tryd.checked) (os := os) (X := fun w _ => laidMetH Tryd.prog Rows.runesBackRow.laid w) false (World.laidAll Tryd.prog os Rows.runesBackRow.laid) #[.string ⟨#[]⟩, .string ⟨#[]⟩] 8 (World.laidAll_os _ _ _)
      (World.shaped_of_ZipB (by kernel_rfl) (by kernel_rfl)) (by kernel_rfl) (by kernel_rfl) (by kernel_rfl)
      (by rw [MakeChecks.laidMetH_plain _ _ _ (by kernel_rfl)]; exact laidMet_laidAll _ (by kernel_rfl) (by kernel_rfl)))
    (by kernel_rfl) rfl (fun H ds h => by
      match ds, h with
      | [d0, d1], _ => rfl)
    (by kernel_rfl) (by kernel_rfl) (ts := [9]) (fun t ht => List.all_eq_true.1 qhm t ht)
    (fun t ht => by
      have := List.all_eq_true.1 qfw t ht
      simp only [Bool.and_eq_true, List.contains_iff_mem, decide_eq_true_eq] at this
      exact ⟨this.1.1, this.1.2, this.2⟩)
    law

theorem named : Tryd.pinned.checked.prog.funcNamed Rows.runesBackRow.func = some 6 := by kernel_rfl
theorem qbq : Tryd.f6.isInstance Tryd.pinned.checked.prog Rows.runesBackRow.origin Rows.runesBackRow.targs := of_decide_eq_true (by kernel_rfl)
theorem wrapped : Tryd.f6.isWrapper Tryd.pinned.checked.prog Rows.runesBackRow.wrapper Rows.runesBackRow.mainSum := by unfold Func.isWrapper; first | (rw [if_pos (by decide +kernel)]; kernel_rfl) | (rw [if_neg (by decide +kernel)]; exact ⟨rfl, rfl⟩)
theorem closed : joinedFacts Tryd.pinned.checked.prog 6 Tryd.f6 Rows.runesBackSpec Rows.runesBackRow = true := by kernel_rfl

theorem over : Rows.runesBackRow.holds Tryd.pinned (OpenSpec.ofChange Rows.runesBackSpec) :=
  OpenClaim.holds_of_wide 6 Tryd.f6 rfl rfl rfl rfl rfl rfl rfl ⟨rfl, rfl, rfl, rfl, rfl⟩ rfl rfl rfl rfl rfl named Tryd.func6 closed qbq wrapped
    (fun os started H enc _ => lifted os started H enc)

theorem qg5 : ∀ (j : Nat) t, Tryd.f6.params[j]? = some t → Tryd.prog.wantsStandIn t = false := fun j t ht => by
  have hm : t ∈ Tryd.f6.params.toList := by simpa using Array.mem_of_getElem? ht
  have hall : (Tryd.f6.params.toList.all fun u => !Tryd.prog.wantsStandIn u) = true := by kernel_rfl
  simpa using List.all_eq_true.1 hall t hm

theorem proved : Rows.RunesBackCardSaid :=
  Claim7.holds_tied_plain_at .later [] [.data, .data, .data, .data, .pinned] true (true, "ffbd5393e18e23d4ef6bbb2ab8577998daa2ef1b58965fa4c8d24e536f1a4390") false over (fun _ h => by cases h) (by kernel_rfl) (fun _ h => by cases h) runesBack_row_tie rfl ⟨rfl, rfl⟩ (by kernel_rfl) rfl
    (fun f fn hf hfn => by
      obtain rfl : f = 6 := Option.some.inj ((show Tryd.prog.funcNamed "tenement/tenementlaw2.RunesBack" = some 6 by kernel_rfl).symm.trans hf) |>.symm
      obtain rfl : fn = Tryd.f6 := (Option.some.inj (Tryd.func6.symm.trans hfn)).symm
      exact ⟨by kernel_rfl, qg5⟩)
    (by kernel_rfl)
#print axioms proved
end Go.Proofs.YtdkjednjlpcboaaDoor.runesBack
