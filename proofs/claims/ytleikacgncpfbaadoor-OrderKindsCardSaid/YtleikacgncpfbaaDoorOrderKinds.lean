/- 'tenement/tenementlaw6.OrderKinds' answers true, whatever stands in memory, for every input; the row and its card. -/
import Derived.Test.YtleikacgncpfbaaDoorMi
import Derived.Test.YtleikacgncpfbaaDoorCards
import Derived.Test.YtleikacgncpfbaaDoorTie
import Derived.LaidLaws
import Derived.MakeChecks
import Derived.SevenTiedAt

set_option maxRecDepth 100000
namespace Go.Proofs.YtleikacgncpfbaaDoor.orderKinds
open Go Go.Den Go.ChangeShapes Go.WideShapes Go.ChangeAt Go.RowKit
/-- The law's environment: what is said of the functions that it calls. -/
noncomputable def env : Env := base.with (polT TLki)
theorem qhv : ([5, 106, 108, 109] : List TypeId).all (flatTy Tryd.prog [5, 106, 108, 109]) = true := by kernel_rfl
theorem globs_ok (W : World) (hL : laidMetH Tryd.prog Rows.orderKindsRow.laid W) : GlobOK env W := fun g cs h => by
  rw [MakeChecks.laidMetH_plain _ _ _ (by kernel_rfl)] at hL
  have h1 : (bif Nat.beq g 0 then flatD (H := Unit) Rows.laid_unicode_utf8_first else bif Nat.beq g 1 then flatD (H := Unit) Rows.laid_unicode_utf8_acceptRanges else none) = some cs := h
  cases h0g : Nat.beq g 0
  case true =>
    obtain rfl := Nat.eq_of_beq_eq_true h0g
    simp only [h0g, cond_true, cond_false] at h1
    exact q5i (n := "unicode/utf8.first") (d := Rows.laid_unicode_utf8_first) (ts := [5, 106, 108, 109]) (fun t ht => List.all_eq_true.1 qhv t ht) (Lib.laidMet.reads hL (.tail _ (.head _))) (by kernel_rfl)
      (fun t ht => by
        have e : ((Tryd.prog.globals[0]?).map (·.type)) = some 106 := by kernel_rfl
        rw [e] at ht
        cases ht
        decide) h1
  case false =>
    cases h1g : Nat.beq g 1
    case true =>
      obtain rfl := Nat.eq_of_beq_eq_true h1g
      simp only [h1g, h0g, cond_true, cond_false] at h1
      exact q5i (n := "unicode/utf8.acceptRanges") (d := Rows.laid_unicode_utf8_acceptRanges) (ts := [5, 106, 108, 109]) (fun t ht => List.all_eq_true.1 qhv t ht) (Lib.laidMet.reads hL (.head _)) (by kernel_rfl)
        (fun t ht => by
          have e : ((Tryd.prog.globals[1]?).map (·.type)) = some 109 := by kernel_rfl
          rw [e] at ht
          cases ht
          decide) h1
    case false =>
      simp only [h0g, h1g, cond_false] at h1
      cases h1
theorem calls_ok (n : Nat) : CallOK env (callF env n) := q9k base_ok.env base_ok.mixed okTLki n
theorem law : ∀ vs : List AV, vs.length = Tryd.f6.params.size → (∀ (j : Nat) t v, Tryd.f6.params[j]? = some t → vs[j]? = some v → ∃ n, Ty Tryd.prog n t v) → ∃ n, answer env n 6 vs = some (.bool true) := fun vs hl h => by
  have hp : Tryd.f6.params = #[26, 26, 23] := by kernel_rfl
  rw [hp] at hl h
  match vs, hl with
  | [u, v, w], _ =>
    obtain ⟨n1, h1⟩ := h 0 26 u rfl rfl
    obtain ⟨n2, h2⟩ := h 1 26 v rfl rfl
    obtain ⟨n3, h3⟩ := h 2 23 w rfl rfl
    obtain ⟨a, rfl⟩ := ty_tm _ _ h1
    obtain ⟨b, rfl⟩ := ty_tm _ _ h2
    obtain ⟨o, rfl⟩ := ty_tms_in h3
    exact qha (qis a b o)
theorem own : ownKnob Tryd.prog.godebug = none := by kernel_rfl
theorem types_ok : ([26, 3, 4, 22, 59, 9, 23, 24, 5] : List TypeId).all (tyOk Tryd.prog [26, 3, 4, 22, 59, 9, 23, 24, 5]) = true := by kernel_rfl
theorem params_ok : Tryd.f6.params.toList.all (fun t => ([26, 3, 4, 22, 59, 9, 23, 24, 5] : List TypeId).contains t && Tryd.prog.readableRec t && decide (t < Tryd.prog.types.size)) = true := by kernel_rfl

theorem lifted (os : Os) (started : os.Started) (H : Type) (enc : TypeId × Value → H) :
    ReturnsInHanded {} Tryd.checked os 6 .any (fun w args => (Rows.orderKindsSpec.pre enc Tryd.prog Tryd.f6 [] false w args ∧ laidMetH Tryd.prog Rows.orderKindsRow.laid w) ∧ sizedMet enc Tryd.prog Tryd.f6 (OpenSpec.ofChange Rows.orderKindsSpec) false w args)
      (Rows.orderKindsSpec.post enc Tryd.prog Tryd.f6 false true false false) :=
  q8g (E := env) (C := Tryd.checked) (tb := 4) rfl globs_ok calls_ok own started (by kernel_rfl) Tryd.func6 rfl
    (ChangeSpec.witness_shaped (enc := enc) (C := Tryd.checked) (os := os) (X := fun w _ => laidMetH Tryd.prog Rows.orderKindsRow.laid w) false (World.laidAll Tryd.prog os Rows.orderKindsRow.laid) #[.agg #[.int .i64 0, .bool false, .slice none 0 0, .string ⟨#[]⟩, .int .i64 0, .slice none 0 0, .slice none 0 0], .agg #[.int .i64 0, .bool false, .slice none 0 0, .string ⟨#[]⟩, .int .i64 0, .slice none 0 0, .slice none 0 0], .slice none 0 0] 8 (World.laidAll_os _ _ _)
      (World.shaped_of_ZipB (by kernel_rfl) (by kernel_rfl)) (by kernel_rfl) (by kernel_rfl) (by kernel_rfl)
      (by rw [MakeChecks.laidMetH_plain _ _ _ (by kernel_rfl)]; exact laidMet_laidAll _ (by kernel_rfl) (by kernel_rfl)))
    (by kernel_rfl) rfl (fun H ds h => by
      match ds, h with
      | [d0, d1, d2], _ => rfl)
    (by kernel_rfl) (by kernel_rfl) (ts := [26, 3, 4, 22, 59, 9, 23, 24, 5]) (fun t ht => List.all_eq_true.1 types_ok t ht)
    (fun t ht => by
      have := List.all_eq_true.1 params_ok t ht
      simp only [Bool.and_eq_true, List.contains_iff_mem, decide_eq_true_eq] at this
      exact ⟨this.1.1, this.1.2, this.2⟩)
    law

theorem named : Tryd.pinned.checked.prog.funcNamed Rows.orderKindsRow.func = some 6 := by kernel_rfl
theorem qdx : Tryd.f6.isInstance Tryd.pinned.checked.prog Rows.orderKindsRow.origin Rows.orderKindsRow.targs := of_decide_eq_true (by kernel_rfl)
theorem wrapped : Tryd.f6.isWrapper Tryd.pinned.checked.prog Rows.orderKindsRow.wrapper Rows.orderKindsRow.mainSum := by unfold Func.isWrapper; first | (rw [if_pos (by decide +kernel)]; kernel_rfl) | (rw [if_neg (by decide +kernel)]; exact ⟨rfl, rfl⟩)
theorem closed : joinedFacts Tryd.pinned.checked.prog 6 Tryd.f6 Rows.orderKindsSpec Rows.orderKindsRow = true := by kernel_rfl

theorem over : Rows.orderKindsRow.holds Tryd.pinned (OpenSpec.ofChange Rows.orderKindsSpec) :=
  OpenClaim.holds_of_wide 6 Tryd.f6 rfl rfl rfl rfl rfl rfl rfl ⟨rfl, rfl, rfl, rfl, rfl⟩ rfl rfl rfl rfl rfl named Tryd.func6 closed qdx wrapped
    (fun os started H enc _ => lifted os started H enc)

theorem stand_ins : ∀ (j : Nat) t, Tryd.f6.params[j]? = some t → Tryd.prog.wantsStandIn t = false := fun j t ht => by
  have hm : t ∈ Tryd.f6.params.toList := by simpa using Array.mem_of_getElem? ht
  have hall : (Tryd.f6.params.toList.all fun u => !Tryd.prog.wantsStandIn u) = true := by kernel_rfl
  simpa using List.all_eq_true.1 hall t hm

theorem proved : Rows.OrderKindsCardSaid :=
  Claim7.holds_tied_plain_at .later [] [.data, .pinned] true (true, "72d9264dcaf3a2fa03d603086f9ffd9272e80996d97dc0ea6833a3ce86da6290") false over (fun _ h => by cases h) (by kernel_rfl) (fun _ h => by cases h) orderKinds_row_tie rfl ⟨rfl, rfl⟩ (by kernel_rfl) rfl
    (fun f fn hf hfn => by
      obtain rfl : f = 6 := Option.some.inj ((show Tryd.prog.funcNamed "tenement/tenementlaw6.OrderKinds" = some 6 by kernel_rfl).symm.trans hf) |>.symm
      obtain rfl : fn = Tryd.f6 := (Option.some.inj (Tryd.func6.symm.trans hfn)).symm
      exact ⟨by kernel_rfl, stand_ins⟩)
    (by kernel_rfl)
#print axioms proved
end Go.Proofs.YtleikacgncpfbaaDoor.orderKinds
