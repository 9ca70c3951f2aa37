/- 'tenement/tenementlaw6.OrderThree' answers true, whatever stands in memory, for every input; the row and its card. -/
import Derived.Test.YtleikacgncpfbaaDoorMj
import Derived.Test.YtleikacgncpfbaaDoorCards
import Derived.Test.YtleikacgncpfbaaDoorTie
import Derived.LaidLaws
import Derived.MakeChecks
import Derived.SevenTiedAt

set_option maxRecDepth 100000
namespace Go.Proofs.YtleikacgncpfbaaDoor.orderThree
open Go Go.Den Go.ChangeShapes Go.WideShapes Go.ChangeAt Go.RowKit
/-- The law's environment: what is said of the functions that it calls. -/
noncomputable def env : Env := base.with (polT TLh)
theorem q8v : ([5, 106, 108, 109] : List TypeId).all (flatTy Tryd.prog [5, 106, 108, 109]) = true := by kernel_rfl
theorem qbp (W : World) (hL : laidMetH Tryd.prog Rows.orderThreeRow.laid W) : GlobOK env W := fun g cs h => by
  rw [MakeChecks.laidMetH_plain _ _ _ (by kernel_rfl)] at hL
  have h1 : (bif Nat.beq g 0 then flatD (H := Unit) Rows.laid_unicode_utf8_first else bif Nat.beq g 1 then flatD (H := Unit) Rows.laid_unicode_utf8_acceptRanges else none) = some cs := h
  cases h0g : Nat.beq g 0
  case true =>
    obtain rfl := Nat.eq_of_beq_eq_true h0g
    simp only [h0g, cond_true, cond_false] at h1
    exact q2l (n := "unicode/utf8.first") (d := Rows.laid_unicode_utf8_first) (ts := [5, 106, 108, 109]) (fun t ht => List.all_eq_true.1 q8v t ht) (Lib.laidMet.reads hL (.tail _ (.head _))) (by kernel_rfl)
      (fun t ht => by
        have e : ((Tryd.prog.globals[0]?).map (·.type)) = some 106 := by kernel_rfl
        rw [e] at ht
        cases ht
        decide) h1
  case false =>
    cases h1g : Nat.beq g 1
    case true =>
      obtain rfl := Nat.eq_of_beq_eq_true h1g
      simp only [h1g, h0g, cond_true, cond_false] at h1
      exact q2l (n := "unicode/utf8.acceptRanges") (d := Rows.laid_unicode_utf8_acceptRanges) (ts := [5, 106, 108, 109]) (fun t ht => List.all_eq_true.1 q8v t ht) (Lib.laidMet.reads hL (.head _)) (by kernel_rfl)
        (fun t ht => by
          have e : ((Tryd.prog.globals[1]?).map (·.type)) = some 109 := by kernel_rfl
          rw [e] at ht
          cases ht
          decide) h1
    case false =>
      simp only [h0g, h1g, cond_false] at h1
      cases h1
theorem calls_ok (n : Nat) : CallOK env (callF env n) := q4s base_ok.env base_ok.mixed okTLh n
theorem law : ∀ vs : List AV, vs.length = Tryd.f5.params.size → (∀ (j : Nat) t v, Tryd.f5.params[j]? = some t → vs[j]? = some v → ∃ n, Ty Tryd.prog n t v) → ∃ n, answer env n 5 vs = some (.bool true) := fun vs hl h => by
  have hp : Tryd.f5.params = #[34] := by kernel_rfl
  rw [hp] at hl h
  match vs, hl with
  | [u], _ =>
    obtain ⟨n1, h1⟩ := h 0 34 u rfl rfl
    obtain ⟨a, b, c, rfl⟩ := ty_three h1
    exact qcx (law_three a b c)
theorem own : ownKnob Tryd.prog.godebug = none := by kernel_rfl
theorem qcr : ([34, 26, 3, 4, 22, 59, 9, 23, 24, 5] : List TypeId).all (tyOk Tryd.prog [34, 26, 3, 4, 22, 59, 9, 23, 24, 5]) = true := by kernel_rfl
theorem q9j : Tryd.f5.params.toList.all (fun t => ([34, 26, 3, 4, 22, 59, 9, 23, 24, 5] : List TypeId).contains t && Tryd.prog.readableRec t && decide (t < Tryd.prog.types.size)) = true := by kernel_rfl

theorem lifted (os : Os) (started : os.Started) (H : Type) (enc : TypeId × Value → H) :
    ReturnsInHanded {} Tryd.checked os 5 .any (fun w args => (Rows.orderThreeSpec.pre enc Tryd.prog Tryd.f5 [] false w args ∧ laidMetH Tryd.prog Rows.orderThreeRow.laid w) ∧ sizedMet enc Tryd.prog Tryd.f5 (OpenSpec.ofChange Rows.orderThreeSpec) false w args)
      (Rows.orderThreeSpec.post enc Tryd.prog Tryd.f5 false true false false) :=
  q4a (E := env) (C := Tryd.checked) (tb := 4) rfl qbp calls_ok own started (by kernel_rfl) Tryd.func5 rfl
    (ChangeSpec.witness_shaped (enc := enc) (C := Tryd.checked) (os := os) (X := fun w _ => laidMetH Tryd.prog Rows.orderThreeRow.laid w) false (World.laidAll Tryd.prog os Rows.orderThreeRow.laid) #[.agg #[.int .i64 0, .bool false, .slice none 0 0, .string ⟨#[]⟩, .int .i64 0, .slice none 0 0, .slice none 0 0, .int .i64 0, .bool false, .slice none 0 0, .string ⟨#[]⟩, .int .i64 0, .slice none 0 0, .slice none 0 0, .int .i64 0, .bool false, .slice none 0 0, .string ⟨#[]⟩, .int .i64 0, .slice none 0 0, .slice none 0 0]] 8 (World.laidAll_os _ _ _)
      (World.shaped_of_ZipB (by kernel_rfl) (by kernel_rfl)) (by kernel_rfl) (by kernel_rfl) (by kernel_rfl)
      (by rw [MakeChecks.laidMetH_plain _ _ _ (by kernel_rfl)]; exact laidMet_laidAll _ (by kernel_rfl) (by kernel_rfl)))
    (by kernel_rfl) rfl (fun H ds h => by
      match ds, h with
      | [d0], _ => rfl)
    (by kernel_rfl) (by kernel_rfl) (ts := [34, 26, 3, 4, 22, 59, 9, 23, 24, 5]) (fun t ht => List.all_eq_true.1 qcr t ht)
    (fun t ht => by
      have := List.all_eq_true.1 q9j t ht
      simp only [Bool.and_eq_true, List.contains_iff_mem, decide_eq_true_eq] at this
      exact ⟨this.1.1, this.1.2, this.2⟩)
    law

theorem named : Tryd.pinned.checked.prog.funcNamed Rows.orderThreeRow.func = some 5 := by kernel_rfl
theorem q5g : Tryd.f5.isInstance Tryd.pinned.checked.prog Rows.orderThreeRow.origin Rows.orderThreeRow.targs := of_decide_eq_true (by kernel_rfl)
theorem qfu : Tryd.f5.isWrapper Tryd.pinned.checked.prog Rows.orderThreeRow.wrapper Rows.orderThreeRow.mainSum := by unfold Func.isWrapper; first | (rw [if_pos (by decide +kernel)]; kernel_rfl) | (rw [if_neg (by decide +kernel)]; exact ⟨rfl, rfl⟩)
theorem closed : joinedFacts Tryd.pinned.checked.prog 5 Tryd.f5 Rows.orderThreeSpec Rows.orderThreeRow = true := by kernel_rfl

theorem over : Rows.orderThreeRow.holds Tryd.pinned (OpenSpec.ofChange Rows.orderThreeSpec) :=
  OpenClaim.holds_of_wide 5 Tryd.f5 rfl rfl rfl rfl rfl rfl rfl ⟨rfl, rfl, rfl, rfl, rfl⟩ rfl rfl rfl rfl rfl named Tryd.func5 closed q5g qfu
    (fun os started H enc _ => lifted os started H enc)

theorem q9o : ∀ (j : Nat) t, Tryd.f5.params[j]? = some t → Tryd.prog.wantsStandIn t = false := fun j t ht => by
  have hm : t ∈ Tryd.f5.params.toList := by simpa using Array.mem_of_getElem? ht
  have hall : (Tryd.f5.params.toList.all fun u => !Tryd.prog.wantsStandIn u) = true := by kernel_rfl
  simpa using List.all_eq_true.1 hall t hm

theorem proved : Rows.OrderThreeCardSaid :=
  Claim7.holds_tied_plain_at .later [] [.data, .pinned] true (true, "72d9264dcaf3a2fa03d603086f9ffd9272e80996d97dc0ea6833a3ce86da6290") false over (fun _ h => by cases h) (by kernel_rfl) (fun _ h => by cases h) orderThree_row_tie rfl ⟨rfl, rfl⟩ (by kernel_rfl) rfl
    (fun f fn hf hfn => by
      obtain rfl : f = 5 := Option.some.inj ((show Tryd.prog.funcNamed "tenement/tenementlaw6.OrderThree" = some 5 by kernel_rfl).symm.trans hf) |>.symm
      obtain rfl : fn = Tryd.f5 := (Option.some.inj (Tryd.func5.symm.trans hfn)).symm
      exact ⟨by kernel_rfl, q9o⟩)
    (by kernel_rfl)
#print axioms proved
end Go.Proofs.YtleikacgncpfbaaDoor.orderThree
