/- 'tenement/tenementlaw3.BigTexts' answers true, whatever stands in memory, for every input; the row and its card. -/
import Derived.Test.YtikkpecdkdgmfaaDoorMi
import Derived.Test.YtikkpecdkdgmfaaDoorCards
import Derived.Test.YtikkpecdkdgmfaaDoorTie
import Derived.LaidLaws
import Derived.MakeChecks
import Derived.SevenTiedAt

set_option maxRecDepth 100000
namespace Go.Proofs.YtikkpecdkdgmfaaDoor.bigTexts
open Go Go.Den Go.ChangeShapes Go.WideShapes Go.ChangeAt Go.RowKit
/-- The law's environment: what is said of the functions that it calls. -/
noncomputable def env : Env := base.with (polT TTexts)
theorem q8i : ([5, 128, 130, 131] : List TypeId).all (flatTy Tryd.prog [5, 128, 130, 131]) = true := by kernel_rfl
theorem qbp (W : World) (hL : laidMetH Tryd.prog Rows.bigTextsRow.laid W) : GlobOK env W := fun g cs h => by
  rw [MakeChecks.laidMetH_plain _ _ _ (by kernel_rfl)] at hL
  have h1 : (bif Nat.beq g 0 then flatD (H := Unit) Rows.laid_unicode_utf8_first else bif Nat.beq g 1 then flatD (H := Unit) Rows.laid_unicode_utf8_acceptRanges else none) = some cs := h
  cases h0g : Nat.beq g 0
  case true =>
    obtain rfl := Nat.eq_of_beq_eq_true h0g
    simp only [h0g, cond_true, cond_false] at h1
    exact q2t (n := "unicode/utf8.first") (d := Rows.laid_unicode_utf8_first) (ts := [5, 128, 130, 131]) (fun t ht => List.all_eq_true.1 q8i t ht) (Lib.laidMet.reads hL (.tail _ (.head _))) (by kernel_rfl)
      (fun t ht => by
        have e : ((Tryd.prog.globals[0]?).map (·.type)) = some 128 := by kernel_rfl
        rw [e] at ht
        cases ht
        decide) h1
  case false =>
    cases h1g : Nat.beq g 1
    case true =>
      obtain rfl := Nat.eq_of_beq_eq_true h1g
      simp only [h1g, h0g, cond_true, cond_false] at h1
      exact q2t (n := "unicode/utf8.acceptRanges") (d := Rows.laid_unicode_utf8_acceptRanges) (ts := [5, 128, 130, 131]) (fun t ht => List.all_eq_true.1 q8i t ht) (Lib.laidMet.reads hL (.head _)) (by kernel_rfl)
        (fun t ht => by
          have e : ((Tryd.prog.globals[1]?).map (·.type)) = some 131 := by kernel_rfl
          rw [e] at ht
          cases ht
          decide) h1
    case false =>
      simp only [h0g, h1g, cond_false] at h1
      cases h1
theorem calls_ok (n : Nat) : CallOK env (callF env n) := q4n base_ok.env base_ok.mixed okTTexts n
theorem law : ∀ vs : List AV, vs.length = Tryd.f3.params.size → (∀ (j : Nat) t v, Tryd.f3.params[j]? = some t → vs[j]? = some v → ∃ n, Ty Tryd.prog n t v) → ∃ n, answer env n 3 vs = some (.bool true) := fun vs hl h => by
  have hp : Tryd.f3.params = #[9, 24, 2] := by kernel_rfl
  rw [hp] at hl h
  match vs, hl with
  | [u, v, w], _ =>
    obtain ⟨n1, h1⟩ := h 0 9 u rfl rfl
    obtain ⟨n2, h2⟩ := h 1 24 v rfl rfl
    obtain ⟨n3, h3⟩ := h 2 2 w rfl rfl
    obtain ⟨s, rfl, -⟩ := h1.str (by kernel_rfl)
    obtain ⟨a, rfl⟩ := ty_num h2
    obtain ⟨z, rfl, z1, z2⟩ := h3.int (k := .i64) (by kernel_rfl)
    exact qcw (law_texts s a z1 z2)
theorem own : ownKnob Tryd.prog.godebug = none := by kernel_rfl
theorem qco : ([9, 24, 4, 22, 64, 2] : List TypeId).all (tyOk Tryd.prog [9, 24, 4, 22, 64, 2]) = true := by kernel_rfl
theorem q8x : Tryd.f3.params.toList.all (fun t => ([9, 24, 4, 22, 64, 2] : List TypeId).contains t && Tryd.prog.readableRec t && decide (t < Tryd.prog.types.size)) = true := by kernel_rfl

theorem lifted (os : Os) (started : os.Started) (H : Type) (enc : TypeId × Value → H) :
    ReturnsInHanded {} Tryd.checked os 3 .any (fun w args => (Rows.bigTextsSpec.pre enc Tryd.prog Tryd.f3 [] false w args ∧ laidMetH Tryd.prog Rows.bigTextsRow.laid w) ∧ sizedMet enc Tryd.prog Tryd.f3 (OpenSpec.ofChange Rows.bigTextsSpec) false w args)
      (Rows.bigTextsSpec.post enc Tryd.prog Tryd.f3 false true false false) :=
  q4b (E := env) (C := Tryd.checked) (tb := 4) rfl qbp calls_ok own started (by kernel_rfl) Tryd.func3 rfl
    (ChangeSpec.witness_shaped (enc := enc) (C := Tryd.checked) (os := os) (X := fun w _ => laidMetH Tryd.prog Rows.bigTextsRow.laid w) false (World.laidAll Tryd.prog os Rows.bigTextsRow.laid) #[.string ⟨#[]⟩, .agg #[.bool false, .slice none 0 0], .int .i64 0] 8 (World.laidAll_os _ _ _)
      (World.shaped_of_ZipB (by kernel_rfl) (by kernel_rfl)) (by kernel_rfl) (by kernel_rfl) (by kernel_rfl)
      (by rw [MakeChecks.laidMetH_plain _ _ _ (by kernel_rfl)]; exact laidMet_laidAll _ (by kernel_rfl) (by kernel_rfl)))
    (by kernel_rfl) rfl (fun H ds h => by
      match ds, h with
      | [d0, d1, d2], _ => rfl)
    (by kernel_rfl) (by kernel_rfl) (ts := [9, 24, 4, 22, 64, 2]) (fun t ht => List.all_eq_true.1 qco t ht)
    (fun t ht => by
      have := List.all_eq_true.1 q8x t ht
      simp only [Bool.and_eq_true, List.contains_iff_mem, decide_eq_true_eq] at this
      exact ⟨this.1.1, this.1.2, this.2⟩)
    law

theorem named : Tryd.pinned.checked.prog.funcNamed Rows.bigTextsRow.func = some 3 := by kernel_rfl
theorem q56 : Tryd.f3.isInstance Tryd.pinned.checked.prog Rows.bigTextsRow.origin Rows.bigTextsRow.targs := of_decide_eq_true (by kernel_rfl)
theorem qfz : Tryd.f3.isWrapper Tryd.pinned.checked.prog Rows.bigTextsRow.wrapper Rows.bigTextsRow.mainSum := by unfold Func.isWrapper; first | (rw [if_pos (by decide +kernel)]; kernel_rfl) | (rw [if_neg (by decide +kernel)]; exact ⟨rfl, rfl⟩)
theorem closed : joinedFacts Tryd.pinned.checked.prog 3 Tryd.f3 Rows.bigTextsSpec Rows.bigTextsRow = true := by kernel_rfl

theorem over : Rows.bigTextsRow.holds Tryd.pinned (OpenSpec.ofChange Rows.bigTextsSpec) :=
  OpenClaim.holds_of_wide 3 Tryd.f3 rfl rfl rfl rfl rfl rfl rfl ⟨rfl, rfl, rfl, rfl, rfl⟩ rfl rfl rfl rfl rfl named Tryd.func3 closed q56 qfz
    (fun os started H enc _ => lifted os started H enc)

theorem q9a : ∀ (j : Nat) t, Tryd.f3.params[j]? = some t → Tryd.prog.wantsStandIn t = false := fun j t ht => by
  have hm : t ∈ Tryd.f3.params.toList := by simpa using Array.mem_of_getElem? ht
  have hall : (Tryd.f3.params.toList.all fun u => !Tryd.prog.wantsStandIn u) = true := by kernel_rfl
  simpa using List.all_eq_true.1 hall t hm

theorem proved : Rows.BigTextsCardSaid :=
  Claim7.holds_tied_plain_at .later [] [.data, .pinned] true (true, "6db16c6799d4ae0d504d11ad03fe846106ac58bc5256491c20e3444ee582d5a0") false over (fun _ h => by cases h) (by kernel_rfl) (fun _ h => by cases h) bigTexts_row_tie rfl ⟨rfl, rfl⟩ (by kernel_rfl) rfl
    (fun f fn hf hfn => by
      obtain rfl : f = 3 := Option.some.inj ((show Tryd.prog.funcNamed "tenement/tenementlaw3.BigTexts" = some 3 by kernel_rfl).symm.trans hf) |>.symm
      obtain rfl : fn = Tryd.f3 := (Option.some.inj (Tryd.func3.symm.trans hfn)).symm
      exact ⟨by kernel_rfl, q9a⟩)
    (by kernel_rfl)
#print axioms proved
end Go.Proofs.YtikkpecdkdgmfaaDoor.bigTexts
