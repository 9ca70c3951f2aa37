/- 'tenement/tenementlaw6.OrderStable' answers true, whatever stands in memory, for every input; the row and its card. -/
import Derived.Test.YtleikacgncpfbaaDoorMi
import Derived.Test.YtleikacgncpfbaaDoorCards
import Derived.Test.YtleikacgncpfbaaDoorTie
import Derived.LaidLaws
import Derived.MakeChecks
import Derived.SevenTiedAt

set_option maxRecDepth 100000
namespace Go.Proofs.YtleikacgncpfbaaDoor.orderStable
open Go Go.Den Go.ChangeShapes Go.WideShapes Go.ChangeAt Go.RowKit
/-- The law's environment: what is said of the functions that it calls. -/
noncomputable def env : Env := base.with (polT TLt)
theorem q4h : ([5, 106, 108, 109] : List TypeId).all (flatTy Tryd.prog [5, 106, 108, 109]) = true := by kernel_rfl
theorem q6g (W : World) (hL : laidMetH Tryd.prog Rows.orderStableRow.laid W) : GlobOK env W := fun g cs h => by
  rw [MakeChecks.laidMetH_plain _ _ _ (by kernel_rfl)] at hL
  have h1 : (bif Nat.beq g 0 then flatD (H := Unit) Rows.laid_unicode_utf8_first else bif Nat.beq g 1 then flatD (H := Unit) Rows.laid_unicode_utf8_acceptRanges else none) = some cs := h
  cases h0g : Nat.beq g 0
  case true =>
    obtain rfl := Nat.eq_of_beq_eq_true h0g
    simp only [h0g, cond_true, cond_false] at h1
    exact q1c (n := "unicode/utf8.first") (d := Rows.laid_unicode_utf8_first) (ts := [5, 106, 108, 109]) (fun t ht => List.all_eq_true.1 q4h t ht) (Lib.laidMet.reads hL (.tail _ (.head _))) (by kernel_rfl)
      (fun t ht => by
        have e : ((Tryd.prog.globals[0]?).map (·.type)) = some 106 := by kernel_rfl
        rw [e] at ht
        cases ht
        decide) h1
  case false =>
    cases h1g : Nat.beq g 1
    case true =>
      obtain rfl := Nat.eq_of_beq_eq_true h1g
      simp only [h1g, h0g, cond_true, cond_false] at h1
      exact q1c (n := "unicode/utf8.acceptRanges") (d := Rows.laid_unicode_utf8_acceptRanges) (ts := [5, 106, 108, 109]) (fun t ht => List.all_eq_true.1 q4h t ht) (Lib.laidMet.reads hL (.head _)) (by kernel_rfl)
        (fun t ht => by
          have e : ((Tryd.prog.globals[1]?).map (·.type)) = some 109 := by kernel_rfl
          rw [e] at ht
          cases ht
          decide) h1
    case false =>
      simp only [h0g, h1g, cond_false] at h1
      cases h1
theorem calls_ok (n : Nat) : CallOK env (callF env n) := q3k base_ok.env base_ok.mixed okTLt n
theorem law : ∀ vs : List AV, vs.length = Tryd.f12.params.size → (∀ (j : Nat) t v, Tryd.f12.params[j]? = some t → vs[j]? = some v → ∃ n, Ty Tryd.prog n t v) → ∃ n, answer env n 12 vs = some (.bool true) := fun vs hl h => by
  have hp : Tryd.f12.params = #[23, 5] := by kernel_rfl
  rw [hp] at hl h
  match vs, hl with
  | [u, v], _ =>
    obtain ⟨n1, h1⟩ := h 0 23 u rfl rfl
    obtain ⟨n2, h2⟩ := h 1 5 v rfl rfl
    obtain ⟨o, rfl⟩ := qf0 h1
    obtain ⟨z, rfl, z1, z2⟩ := h2.int (k := .u8) (by kernel_rfl)
    exact q8z (qip o z z1 z2)
theorem own : ownKnob Tryd.prog.godebug = none := by kernel_rfl
theorem q72 : ([23, 26, 3, 4, 22, 59, 9, 24, 5] : List TypeId).all (tyOk Tryd.prog [23, 26, 3, 4, 22, 59, 9, 24, 5]) = true := by kernel_rfl
theorem q4p : Tryd.f12.params.toList.all (fun t => ([23, 26, 3, 4, 22, 59, 9, 24, 5] : List TypeId).contains t && Tryd.prog.readableRec t && decide (t < Tryd.prog.types.size)) = true := by kernel_rfl

theorem lifted (os : Os) (started : os.Started) (H : Type) (enc : TypeId × Value → H) :
    ReturnsInHanded {} Tryd.checked os 12 .any (fun w args => (Rows.orderStableSpec.pre enc Tryd.prog Tryd.f12 [] false w args ∧ laidMetH Tryd.prog Rows.orderStableRow.laid w) ∧ sizedMet enc Tryd.prog Tryd.f12 (OpenSpec.ofChange Rows.orderStableSpec) false w args)
      (Rows.orderStableSpec.post enc Tryd.prog Tryd.f12 false true false false) :=
  q2y (E := env) (C := Tryd.checked) (tb := 4) rfl q6g calls_ok own started (by kernel_rfl) Tryd.func12 rfl
    (ChangeSpec.witness_shaped (enc := enc) (C := Tryd.checked) (os := os) (X := fun w _ => laidMetH Tryd.prog Rows.orderStableRow.laid w) false (World.laidAll Tryd.prog os Rows.orderStableRow.laid) #[.slice none 0 0, .int .u8 0] 8 (World.laidAll_os _ _ _)
      (World.shaped_of_ZipB (by kernel_rfl) (by kernel_rfl)) (by kernel_rfl) (by kernel_rfl) (by kernel_rfl)
      (by rw [MakeChecks.laidMetH_plain _ _ _ (by kernel_rfl)]; exact laidMet_laidAll _ (by kernel_rfl) (by kernel_rfl)))
    (by kernel_rfl) rfl (fun H ds h => by
      match ds, h with
      | [d0, d1], _ => rfl)
    (by kernel_rfl) (by kernel_rfl) (ts := [23, 26, 3, 4, 22, 59, 9, 24, 5]) (fun t ht => List.all_eq_true.1 q72 t ht)
    (fun t ht => by
      have := List.all_eq_true.1 q4p t ht
      simp only [Bool.and_eq_true, List.contains_iff_mem, decide_eq_true_eq] at this
      exact ⟨this.1.1, this.1.2, this.2⟩)
    law

theorem named : Tryd.pinned.checked.prog.funcNamed Rows.orderStableRow.func = some 12 := by kernel_rfl
theorem q2x : Tryd.f12.isInstance Tryd.pinned.checked.prog Rows.orderStableRow.origin Rows.orderStableRow.targs := of_decide_eq_true (by kernel_rfl)
theorem qaf : Tryd.f12.isWrapper Tryd.pinned.checked.prog Rows.orderStableRow.wrapper Rows.orderStableRow.mainSum := by unfold Func.isWrapper; first | (rw [if_pos (by decide +kernel)]; kernel_rfl) | (rw [if_neg (by decide +kernel)]; exact ⟨rfl, rfl⟩)
theorem closed : joinedFacts Tryd.pinned.checked.prog 12 Tryd.f12 Rows.orderStableSpec Rows.orderStableRow = true := by kernel_rfl

theorem over : Rows.orderStableRow.holds Tryd.pinned (OpenSpec.ofChange Rows.orderStableSpec) :=
  OpenClaim.holds_of_wide 12 Tryd.f12 rfl rfl rfl rfl rfl rfl rfl ⟨rfl, rfl, rfl, rfl, rfl⟩ rfl rfl rfl rfl rfl named Tryd.func12 closed q2x qaf
    (fun os started H enc _ => lifted os started H enc)

theorem q4v : ∀ (j : Nat) t, Tryd.f12.params[j]? = some t → Tryd.prog.wantsStandIn t = false := fun j t ht => by
  have hm : t ∈ Tryd.f12.params.toList := by simpa using Array.mem_of_getElem? ht
  have hall : (Tryd.f12.params.toList.all fun u => !Tryd.prog.wantsStandIn u) = true := by kernel_rfl
  simpa using List.all_eq_true.1 hall t hm

theorem proved : Rows.OrderStableCardSaid :=
  Claim7.holds_tied_plain_at .later [] [.data, .pinned] true (true, "72d9264dcaf3a2fa03d603086f9ffd9272e80996d97dc0ea6833a3ce86da6290") false over (fun _ h => by cases h) (by kernel_rfl) (fun _ h => by cases h) orderStable_row_tie rfl ⟨rfl, rfl⟩ (by kernel_rfl) rfl
    (fun f fn hf hfn => by
      obtain rfl : f = 12 := Option.some.inj ((show Tryd.prog.funcNamed "tenement/tenementlaw6.OrderStable" = some 12 by kernel_rfl).symm.trans hf) |>.symm
      obtain rfl : fn = Tryd.f12 := (Option.some.inj (Tryd.func12.symm.trans hfn)).symm
      exact ⟨by kernel_rfl, q4v⟩)
    (by kernel_rfl)
#print axioms proved
end Go.Proofs.YtleikacgncpfbaaDoor.orderStable
