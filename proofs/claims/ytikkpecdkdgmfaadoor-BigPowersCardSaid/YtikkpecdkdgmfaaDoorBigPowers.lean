/- 'tenement/tenementlaw3.BigPowers' answers true, whatever stands in memory, for every input; the row and its card. -/
import Derived.Test.YtikkpecdkdgmfaaDoorMi
import Derived.Test.YtikkpecdkdgmfaaDoorCards
import Derived.Test.YtikkpecdkdgmfaaDoorTie
import Derived.LaidLaws
import Derived.MakeChecks
import Derived.SevenTiedAt

set_option maxRecDepth 100000
namespace Go.Proofs.YtikkpecdkdgmfaaDoor.bigPowers
open Go Go.Den Go.ChangeShapes Go.WideShapes Go.ChangeAt Go.RowKit
/-- The law's environment: what is said of the functions that it calls. -/
noncomputable def env : Env := base.with (polT TPow)
theorem q8i : ([5, 128, 130, 131] : List TypeId).all (flatTy Tryd.prog [5, 128, 130, 131]) = true := by kernel_rfl
theorem qbp (W : World) (hL : laidMetH Tryd.prog Rows.bigPowersRow.laid W) : GlobOK env W := fun g cs h => by
  rw [MakeChecks.laidMetH_plain _ _ _ (by kernel_rfl)] at hL
  have h1 : (bif Nat.beq g 0 then flatD (H := Unit) Rows.laid_unicode_utf8_first else bif Nat.beq g 1 then flatD (H := Unit) Rows.laid_unicode_utf8_acceptRanges else none) = some cs := h
  cases h0g : Nat.beq g 0
  case true =>
    obtain rfl := Nat.eq_of_beq_eq_true h0g
    simp only [h0g, cond_true, cond_false] at h1
    exact q2t (n := "unicode/utf8.first") (d := Rows.laid_unicode_utf8_first) (ts := [5, 128, 130, 131]) (fun t ht => List.all_eq_true.1 q8i t ht) (Lib.laidMet.reads hL (.tail _ (.head _))) (by kernel_rfl)
      (fun t ht => by
        have e : ((Tryd.prog.globals[0]?).map (·.type)) = some 128 := by kernel_rfl
        rw [e] at ht
        cases ht
        decide) h1
  case false =>
    cases h1g : Nat.beq g 1
    case true =>
      obtain rfl := Nat.eq_of_beq_eq_true h1g
      simp only [h1g, h0g, cond_true, cond_false] at h1
      exact q2t (n := "unicode/utf8.acceptRanges") (d := Rows.laid_unicode_utf8_acceptRanges) (ts := [5, 128, 130, 131]) (fun t ht => List.all_eq_true.1 q8i t ht) (Lib.laidMet.reads hL (.head _)) (by kernel_rfl)
        (fun t ht => by
          have e : ((Tryd.prog.globals[1]?).map (·.type)) = some 131 := by kernel_rfl
          rw [e] at ht
          cases ht
          decide) h1
    case false =>
      simp only [h0g, h1g, cond_false] at h1
      cases h1
theorem calls_ok (n : Nat) : CallOK env (callF env n) := q4n base_ok.env base_ok.mixed okTPow n
theorem law : ∀ vs : List AV, vs.length = Tryd.f4.params.size → (∀ (j : Nat) t v, Tryd.f4.params[j]? = some t → vs[j]? = some v → ∃ n, Ty Tryd.prog n t v) → ∃ n, answer env n 4 vs = some (.bool true) := fun vs hl h => by
  have hp : Tryd.f4.params = #[24, 5] := by kernel_rfl
  rw [hp] at hl h
  match vs, hl with
  | [u, v], _ =>
    obtain ⟨n1, h1⟩ := h 0 24 u rfl rfl
    obtain ⟨n2, h2⟩ := h 1 5 v rfl rfl
    obtain ⟨a, rfl⟩ := ty_num h1
    obtain ⟨z, rfl, z1, z2⟩ := h2.int (k := .u8) (by kernel_rfl)
    exact qcw (qhw a z1 z2)
theorem own : ownKnob Tryd.prog.godebug = none := by kernel_rfl
theorem qco : ([24, 4, 22, 64, 5] : List TypeId).all (tyOk Tryd.prog [24, 4, 22, 64, 5]) = true := by kernel_rfl
theorem q8x : Tryd.f4.params.toList.all (fun t => ([24, 4, 22, 64, 5] : List TypeId).contains t && Tryd.prog.readableRec t && decide (t < Tryd.prog.types.size)) = true := by kernel_rfl

theorem lifted (os : Os) (started : os.Started) (H : Type) (enc : TypeId × Value → H) :
    ReturnsInHanded {} Tryd.checked os 4 .any (fun w args => (Rows.bigPowersSpec.pre enc Tryd.prog Tryd.f4 [] false w args ∧ laidMetH Tryd.prog Rows.bigPowersRow.laid w) ∧ sizedMet enc Tryd.prog Tryd.f4 (OpenSpec.ofChange Rows.bigPowersSpec) false w args)
      (Rows.bigPowersSpec.post enc Tryd.prog Tryd.f4 false true false false) :=
  q4b (E := env) (C := Tryd.checked) (tb := 4) rfl qbp calls_ok own started (by kernel_rfl) Tryd.func4 rfl
    (ChangeSpec.witness_shaped (enc := enc) (C := Tryd.checked) (os := os) (X := fun w _ => laidMetH Tryd.prog Rows.bigPowersRow.laid w) false (World.laidAll Tryd.prog os Rows.bigPowersRow.laid) #[.agg #[.bool false, .slice none 0 0], .int .u8 0] 8 (World.laidAll_os _ _ _)
      (World.shaped_of_ZipB (by kernel_rfl) (by kernel_rfl)) (by kernel_rfl) (by kernel_rfl) (by kernel_rfl)
      (by rw [MakeChecks.laidMetH_plain _ _ _ (by kernel_rfl)]; exact laidMet_laidAll _ (by kernel_rfl) (by kernel_rfl)))
    (by kernel_rfl) rfl (fun H ds h => by
      match ds, h with
      | [d0, d1], _ => rfl)
    (by kernel_rfl) (by kernel_rfl) (ts := [24, 4, 22, 64, 5]) (fun t ht => List.all_eq_true.1 qco t ht)
    (fun t ht => by
      have := List.all_eq_true.1 q8x t ht
      simp only [Bool.and_eq_true, List.contains_iff_mem, decide_eq_true_eq] at this
      exact ⟨this.1.1, this.1.2, this.2⟩)
    law

theorem named : Tryd.pinned.checked.prog.funcNamed Rows.bigPowersRow.func = some 4 := by kernel_rfl
theorem q56 : Tryd.f4.isInstance Tryd.pinned.checked.prog Rows.bigPowersRow.origin Rows.bigPowersRow.targs := of_decide_eq_true (by kernel_rfl)
theorem qfz : Tryd.f4.isWrapper Tryd.pinned.checked.prog Rows.bigPowersRow.wrapper Rows.bigPowersRow.mainSum := by unfold Func.isWrapper; first | (rw [if_pos (by decide +kernel)]; kernel_rfl) | (rw [if_neg (by decide +kernel)]; exact ⟨rfl, rfl⟩)
theorem closed : joinedFacts Tryd.pinned.checked.prog 4 Tryd.f4 Rows.bigPowersSpec Rows.bigPowersRow = true := by kernel_rfl

theorem over : Rows.bigPowersRow.holds Tryd.pinned (OpenSpec.ofChange Rows.bigPowersSpec) :=
  OpenClaim.holds_of_wide 4 Tryd.f4 rfl rfl rfl rfl rfl rfl rfl ⟨rfl, rfl, rfl, rfl, rfl⟩ rfl rfl rfl rfl rfl named Tryd.func4 closed q56 qfz
    (fun os started H enc _ => lifted os started H enc)

theorem q9a : ∀ (j : Nat) t, Tryd.f4.params[j]? = some t → Tryd.prog.wantsStandIn t = false := fun j t ht => by
  have hm : t ∈ Tryd.f4.params.toList := by simpa using Array.mem_of_getElem? ht
  have hall : (Tryd.f4.params.toList.all fun u => !Tryd.prog.wantsStandIn u) = true := by kernel_rfl
  simpa using List.all_eq_true.1 hall t hm

theorem proved : Rows.BigPowersCardSaid :=
  Claim7.holds_tied_plain_at .later [] [.data, .pinned] true (true, "6db16c6799d4ae0d504d11ad03fe846106ac58bc5256491c20e3444ee582d5a0") false over (fun _ h => by cases h) (by kernel_rfl) (fun _ h => by cases h) bigPowers_row_tie rfl ⟨rfl, rfl⟩ (by kernel_rfl) rfl
    (fun f fn hf hfn => by
      obtain rfl : f = 4 := Option.some.inj ((show Tryd.prog.funcNamed "tenement/tenementlaw3.BigPowers" = some 4 by kernel_rfl).symm.trans hf) |>.symm
      obtain rfl : fn = Tryd.f4 := (Option.some.inj (Tryd.func4.symm.trans hfn)).symm
      exact ⟨by kernel_rfl, q9a⟩)
    (by kernel_rfl)
#print axioms proved
end Go.Proofs.YtikkpecdkdgmfaaDoor.bigPowers
