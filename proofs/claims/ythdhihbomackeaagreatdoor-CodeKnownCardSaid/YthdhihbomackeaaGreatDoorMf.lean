/- Texts put together: CodeKnownEnv. -/
import Derived.Test.YthdhihbomackeaaGreatDoorMe
import Derived.Test.YthdhihbomackeaaGreatDoorCards
import Derived.Test.YthdhihbomackeaaGreatDoorTie
import Derived.LaidLaws
import Derived.MakeChecks
import Derived.SevenTiedAt

/- The reading of a closed law. -/
set_option maxRecDepth 100000
namespace Go.Proofs.YthdhihbomackeaaGreatDoor.codeKnown
open Go Go.Den Go.ChangeShapes Go.WideShapes Go.ChangeAt Go.RowKit

/-- The functions that the law reaches. -/
def reached : List FuncId := [10, 15, 17, 20, 22, 36, 45, 46, 47, 52, 66, 67, 68, 69, 70, 78, 79, 82, 83, 88, 89, 91, 92, 93, 101, 103, 104, 105, 106, 112, 113, 114, 115, 116, 119, 121, 122, 123, 124, 125, 126, 127, 128, 129, 130, 135, 136, 137, 147, 149, 150, 151, 152, 153, 154, 155, 156, 157, 158, 159, 161, 162, 163, 164, 165, 166, 167, 173, 174, 175, 176, 177, 178, 179, 180, 181, 182, 183, 184, 185, 186, 187, 188, 189, 190, 191, 192, 196, 197, 198, 199, 200, 201, 202, 203, 204, 205, 206, 207, 208, 209, 210, 211, 212, 213, 216, 217, 218, 219, 220, 222, 223, 224, 225, 226, 227, 228, 229, 230, 231, 233, 234, 235, 236, 237]
noncomputable def env0 : Env := { P := Tryz.prog, pol := fun f => bif Nat.beq f 148 then .prim sameF else bif Nat.beq f 221 then .prim (noZeroF 5) else bif Nat.beq f 238 then .prim indexByteF else .plain, ann := fun _ => {}, glob := fun g => bif Nat.beq g 0 then flatD (H := Unit) Rows.laid_unicode_utf8_first else bif Nat.beq g 1 then flatD (H := Unit) Rows.laid_unicode_utf8_acceptRanges else bif Nat.beq g 2 then flatD (H := Unit) Rows.laid_internal_strconv_uint64pow10 else bif Nat.beq g 4 then flatD (H := Unit) Rows.laid_math_bits_deBruijn32tab else bif Nat.beq g 5 then flatD (H := Unit) Rows.laid_math_bits_deBruijn64tab else none }
/-- The places where a function's own variables are laid. -/
def siteTable : List (Nat × List (Nat × Nat × Nat)) := [(165, [(0, 0, 0), (0, 1, 1), (3, 3, 2)]), (167, [(0, 0, 0), (0, 2, 1), (6, 7, 2)])]
def sitesIn : List (Nat × List (Nat × Nat × Nat)) → Nat → List (Nat × Nat × Nat)
  | [], _ => []
  | (g, l) :: r, f => bif Nat.beq g f then l else sitesIn r f
/-- Remarks on loops in which a function's own variables are laid. -/
def annsIn (f : Nat) : Ann := bif Nat.beq f 167 then (.two .nil (.two (.one (.lp ⟨7, [0, 1, 2, 3, 4, 6, 8, 9, 11, 12, 13, 14, 15, 16, 17, 18, 19, 20, 21, 22, 23, 24, 25, 26, 27, 28, 29, 30, 31, 32, 33, 34, 35, 36, 37, 38, 39, 40, 41, 42, 43, 44, 45, 46, 47, 48, 49, 50, 51, 52, 53, 54, 55, 56, 57, 58, 59, 60, 61, 62, 63, 64, 65, 66, 67, 68, 69, 70, 71, 72, 73, 74, 75, 76, 77, 78, 79, 80, 81, 82, 83, 84, 85, 86, 87, 88], [(5, 0, 0), (7, 1, 0)], [0, 1]⟩ .nil)) .nil)) else .nil
/-- What is said of a function's regions, reckoned off its code. -/
noncomputable def tab (f : FuncId) : FAnn :=
  match Tryz.prog.funcs[f]? with
  | some fn => { ann := annsIn f, depth := Nat.log2 fn.ntmps + 1, sites := sitesIn siteTable f, draws := mkDraws env0 (sitesIn siteTable f) fn }
  | none => {}
noncomputable def env : Env := { env0 with ann := fun f => if f ∈ reached then tab f else {} }
theorem env_ok : EnvOK env := envOK reached (by kernel_rfl) (fun f hf => by show (if f ∈ reached then tab f else {}).draws = []; rw [if_neg hf]) (by kernel_rfl)
theorem prims_ok : ∀ f, env.pol f = .plain ∨ ∃ F, env.pol f = .prim F ∧ PrimOK env f F := fun f => by
  cases h148 : Nat.beq f 148
  case true =>
    obtain rfl := Nat.eq_of_beq_eq_true h148
    exact .inr ⟨sameF, rfl, same_prim (fn := Tryz.f148) Tryz.func148 (by kernel_rfl) (by kernel_rfl) (by kernel_rfl) (by kernel_rfl)⟩
  case false =>
    cases h221 : Nat.beq f 221
    case true =>
      obtain rfl := Nat.eq_of_beq_eq_true h221
      exact .inr ⟨(noZeroF 5), rfl, noZero_prim (t := 28) (ps := #[3]) (ht := by kernel_rfl) (fn := Tryz.f221) Tryz.func221 (by kernel_rfl) (by kernel_rfl) (by kernel_rfl) (by kernel_rfl)⟩
    case false =>
      cases h238 : Nat.beq f 238
      case true =>
        obtain rfl := Nat.eq_of_beq_eq_true h238
        exact .inr ⟨indexByteF, rfl, indexByte_prim (fn := Tryz.f238) Tryz.func238 (by kernel_rfl) (by kernel_rfl) (by kernel_rfl) (by kernel_rfl)⟩
      case false =>
        refine .inl ?_
        show (bif Nat.beq f 148 then Pol.prim sameF else bif Nat.beq f 221 then Pol.prim (noZeroF 5) else bif Nat.beq f 238 then Pol.prim indexByteF else Pol.plain) = _
        simp only [h148, h221, h238, cond_false]
theorem flat_ok : ([5, 174, 237, 239, 240, 305, 314, 315] : List TypeId).all (flatTy Tryz.prog [5, 174, 237, 239, 240, 305, 314, 315]) = true := by kernel_rfl
theorem globs_ok (W : World) (hL : laidMetH Tryz.prog Rows.codeKnownRow.laid W) : GlobOK env W := fun g cs h => by
  rw [MakeChecks.laidMetH_plain _ _ _ (by kernel_rfl)] at hL
  have h1 : (bif Nat.beq g 0 then flatD (H := Unit) Rows.laid_unicode_utf8_first else bif Nat.beq g 1 then flatD (H := Unit) Rows.laid_unicode_utf8_acceptRanges else bif Nat.beq g 2 then flatD (H := Unit) Rows.laid_internal_strconv_uint64pow10 else bif Nat.beq g 4 then flatD (H := Unit) Rows.laid_math_bits_deBruijn32tab else bif Nat.beq g 5 then flatD (H := Unit) Rows.laid_math_bits_deBruijn64tab else none) = some cs := h
  cases h0g : Nat.beq g 0
  case true =>
    obtain rfl := Nat.eq_of_beq_eq_true h0g
    simp only [h0g, cond_true, cond_false] at h1
    exact glob_of_reads (n := "unicode/utf8.first") (d := Rows.laid_unicode_utf8_first) (ts := [5, 174, 237, 239, 240, 305, 314, 315]) (fun t ht => List.all_eq_true.1 flat_ok t ht) (Lib.laidMet.reads hL (.tail _ (.tail _ (.tail _ (.tail _ (.head _)))))) (by kernel_rfl)
      (fun t ht => by
        have e : ((Tryz.prog.globals[0]?).map (·.type)) = some 237 := by kernel_rfl
        rw [e] at ht
        cases ht
        decide) h1
  case false =>
    cases h1g : Nat.beq g 1
    case true =>
      obtain rfl := Nat.eq_of_beq_eq_true h1g
      simp only [h1g, h0g, cond_true, cond_false] at h1
      exact glob_of_reads (n := "unicode/utf8.acceptRanges") (d := Rows.laid_unicode_utf8_acceptRanges) (ts := [5, 174, 237, 239, 240, 305, 314, 315]) (fun t ht => List.all_eq_true.1 flat_ok t ht) (Lib.laidMet.reads hL (.tail _ (.tail _ (.tail _ (.head _))))) (by kernel_rfl)
        (fun t ht => by
          have e : ((Tryz.prog.globals[1]?).map (·.type)) = some 240 := by kernel_rfl
          rw [e] at ht
          cases ht
          decide) h1
    case false =>
      cases h2g : Nat.beq g 2
      case true =>
        obtain rfl := Nat.eq_of_beq_eq_true h2g
        simp only [h2g, h0g, h1g, cond_true, cond_false] at h1
        exact glob_of_reads (n := "internal/strconv.uint64pow10") (d := Rows.laid_internal_strconv_uint64pow10) (ts := [5, 174, 237, 239, 240, 305, 314, 315]) (fun t ht => List.all_eq_true.1 flat_ok t ht) (Lib.laidMet.reads hL (.tail _ (.tail _ (.head _)))) (by kernel_rfl)
          (fun t ht => by
            have e : ((Tryz.prog.globals[2]?).map (·.type)) = some 305 := by kernel_rfl
            rw [e] at ht
            cases ht
            decide) h1
      case false =>
        cases h4g : Nat.beq g 4
        case true =>
          obtain rfl := Nat.eq_of_beq_eq_true h4g
          simp only [h4g, h0g, h1g, h2g, cond_true, cond_false] at h1
          exact glob_of_reads (n := "math/bits.deBruijn32tab") (d := Rows.laid_math_bits_deBruijn32tab) (ts := [5, 174, 237, 239, 240, 305, 314, 315]) (fun t ht => List.all_eq_true.1 flat_ok t ht) (Lib.laidMet.reads hL (.head _)) (by kernel_rfl)
            (fun t ht => by
              have e : ((Tryz.prog.globals[4]?).map (·.type)) = some 314 := by kernel_rfl
              rw [e] at ht
              cases ht
              decide) h1
        case false =>
          cases h5g : Nat.beq g 5
          case true =>
            obtain rfl := Nat.eq_of_beq_eq_true h5g
            simp only [h5g, h0g, h1g, h2g, h4g, cond_true, cond_false] at h1
            exact glob_of_reads (n := "math/bits.deBruijn64tab") (d := Rows.laid_math_bits_deBruijn64tab) (ts := [5, 174, 237, 239, 240, 305, 314, 315]) (fun t ht => List.all_eq_true.1 flat_ok t ht) (Lib.laidMet.reads hL (.tail _ (.head _))) (by kernel_rfl)
              (fun t ht => by
                have e : ((Tryz.prog.globals[5]?).map (·.type)) = some 315 := by kernel_rfl
                rw [e] at ht
                cases ht
                decide) h1
          case false =>
            simp only [h0g, h1g, h2g, h4g, h5g, cond_false] at h1
            cases h1
theorem calls_ok (n : Nat) : CallOK env (callF env n) := callF_prims env_ok (by kernel_rfl) prims_ok n
def saysTrue : Option AV → Bool
  | some (.bool true) => true
  | _ => false
theorem says_true {x : Option AV} (h : saysTrue x = true) : x = some (.bool true) := by
  unfold saysTrue at h
  split at h
  · rfl
  · cases h
theorem known : answer env 300 10 [] = some (.bool true) := says_true (by kernel_rfl)
theorem law : ∀ vs : List AV, vs.length = Tryz.f10.params.size → (∀ (j : Nat) t v, Tryz.f10.params[j]? = some t → vs[j]? = some v → ∃ n, Ty Tryz.prog n t v) → ∃ n, answer env n 10 vs = some (.bool true) := fun vs hv _ => by
  have e : vs = [] := List.eq_nil_of_length_eq_zero (by rw [hv]; kernel_rfl)
  subst e
  exact ⟨300, known⟩
end Go.Proofs.YthdhihbomackeaaGreatDoor.codeKnown
