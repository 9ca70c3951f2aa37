/- Texts put together: PoolKnownEnv, PoolKnownK1a, PoolKnownK1b, PoolKnownK1c, PoolKnownK1, PoolKnownKn. -/
import Derived.Test.YthdhihbomackeaaGreatDoorMe
import Derived.Test.YthdhihbomackeaaGreatDoorCards
import Derived.Test.YthdhihbomackeaaGreatDoorTie
import Derived.LaidLaws
import Derived.MakeChecks
import Derived.SevenTiedAt

/- The reading of a closed law. -/
set_option maxRecDepth 100000
namespace Go.Proofs.YthdhihbomackeaaGreatDoor.poolKnown
open Go Go.Den Go.ChangeShapes Go.WideShapes Go.ChangeAt Go.RowKit

/-- The functions that the law reaches. -/
def reached : List FuncId := [13, 20, 22, 25, 29, 30, 31, 33, 36, 40, 41, 42, 46, 52, 54, 55, 56, 60, 61, 62, 66, 67, 68, 69, 70, 78, 79, 82, 83, 84, 85, 86, 87, 88, 89, 90, 91, 92, 93, 94, 95, 101, 103, 104, 105, 106, 112, 113, 114, 115, 116, 119, 121, 122, 123, 124, 125, 126, 127, 128, 129, 130, 135, 136, 137, 147, 149, 150, 151, 152, 153, 154, 155, 156, 157, 158, 159, 161, 162, 163, 164, 165, 166, 167, 173, 174, 175, 176, 177, 178, 179, 180, 181, 182, 183, 184, 185, 186, 187, 188, 189, 190, 191, 192, 196, 197, 198, 199, 200, 201, 202, 203, 204, 205, 206, 207, 208, 209, 210, 211, 212, 213, 216, 217, 218, 219, 220, 222, 223, 224, 225, 226, 227, 228, 229, 230, 231, 233, 234, 235, 236, 237]
noncomputable def env0 : Env := { P := Tryz.prog, pol := fun f => bif Nat.beq f 148 then .prim sameF else bif Nat.beq f 221 then .prim (noZeroF 5) else bif Nat.beq f 238 then .prim indexByteF else .plain, ann := fun _ => {}, glob := fun g => bif Nat.beq g 0 then flatD (H := Unit) Rows.laid_unicode_utf8_first else bif Nat.beq g 1 then flatD (H := Unit) Rows.laid_unicode_utf8_acceptRanges else bif Nat.beq g 2 then flatD (H := Unit) Rows.laid_internal_strconv_uint64pow10 else bif Nat.beq g 4 then flatD (H := Unit) Rows.laid_math_bits_deBruijn32tab else bif Nat.beq g 5 then flatD (H := Unit) Rows.laid_math_bits_deBruijn64tab else none }
/-- The places where a function's own variables are laid. -/
def siteTable : List (Nat × List (Nat × Nat × Nat)) := [(30, [(0, 0, 0), (7, 2, 1), (16, 6, 2), (8, 8, 1000)]), (41, [(3, 9, 0)]), (56, [(0, 0, 0), (4, 3, 1), (6, 7, 2), (11, 12, 3)]), (165, [(0, 0, 0), (0, 1, 1), (3, 3, 2)]), (167, [(0, 0, 0), (0, 2, 1), (6, 7, 2)])]
def sitesIn : List (Nat × List (Nat × Nat × Nat)) → Nat → List (Nat × Nat × Nat)
  | [], _ => []
  | (g, l) :: r, f => bif Nat.beq g f then l else sitesIn r f
/-- Remarks on loops in which a function's own variables are laid. -/
def annsIn (f : Nat) : Ann := bif Nat.beq f 30 then (.two .nil (.two .nil (.two .nil (.two .nil (.two (.two .nil (.one (.lp ⟨7, [0, 2, 3, 4, 5, 6, 7, 8, 9, 11, 12, 14, 15, 16, 17, 18, 19, 20, 21, 22, 23, 24, 25, 26, 27, 29, 30, 31, 32, 33, 34, 35, 36, 37, 38, 39, 40, 41, 42, 43, 44, 45, 46, 47, 48, 49, 50, 51, 52, 53, 54, 55, 56, 57, 58, 59, 60, 61, 62, 63, 64, 65, 67, 68, 69, 70, 71, 72, 73, 74, 75, 76, 77, 78, 79, 80, 81, 82, 83, 84, 85, 86, 87, 88, 89, 90, 91, 92, 93, 94, 95, 96, 97, 98, 99, 100, 101, 102, 103, 104, 105, 106, 107, 108, 109, 110, 111, 112, 113, 114], [(1, 0, 0)], [0]⟩ .nil))) (.two .nil (.two (.two .nil (.one (.lp ⟨7, [0, 2, 3, 4, 5, 6, 7, 8, 9, 11, 12, 14, 15, 16, 17, 18, 19, 20, 21, 22, 23, 24, 25, 26, 27, 29, 30, 31, 32, 33, 34, 35, 36, 37, 38, 39, 40, 41, 42, 43, 44, 45, 46, 47, 48, 49, 50, 51, 52, 53, 54, 55, 56, 57, 58, 59, 60, 61, 62, 63, 64, 65, 67, 68, 69, 70, 71, 72, 73, 74, 75, 76, 77, 78, 79, 80, 81, 82, 83, 84, 85, 86, 87, 88, 89, 90, 91, 92, 93, 94, 95, 96, 97, 98, 99, 100, 101, 102, 103, 104, 105, 106, 107, 108, 109, 110, 111, 112, 113, 114], [(1, 0, 0)], [0]⟩ .nil))) .nil))))))) else bif Nat.beq f 56 then (.two .nil (.two .nil (.two .nil (.two (.one (.lp ⟨7, [0, 2, 3, 4, 5, 6, 9, 11, 12, 13, 14, 15, 16, 17, 18, 19, 20, 21, 22, 23, 24, 26, 27, 28, 29, 30, 31, 33, 34, 36, 37, 39, 41, 42, 44, 46, 47, 48, 50, 51, 52, 53, 54, 55, 57, 58, 60, 62, 63, 64, 66, 68, 69, 70, 71, 72], [(1, 0, 0)], [0]⟩ .nil)) .nil)))) else bif Nat.beq f 167 then (.two .nil (.two (.one (.lp ⟨7, [0, 1, 2, 3, 4, 6, 8, 9, 11, 12, 13, 14, 15, 16, 17, 18, 19, 20, 21, 22, 23, 24, 25, 26, 27, 28, 29, 30, 31, 32, 33, 34, 35, 36, 37, 38, 39, 40, 41, 42, 43, 44, 45, 46, 47, 48, 49, 50, 51, 52, 53, 54, 55, 56, 57, 58, 59, 60, 61, 62, 63, 64, 65, 66, 67, 68, 69, 70, 71, 72, 73, 74, 75, 76, 77, 78, 79, 80, 81, 82, 83, 84, 85, 86, 87, 88], [(5, 0, 0), (7, 1, 0)], [0, 1]⟩ .nil)) .nil)) else .nil
/-- What is said of a function's regions, reckoned off its code. -/
noncomputable def tab (f : FuncId) : FAnn :=
  match Tryz.prog.funcs[f]? with
  | some fn => { ann := annsIn f, depth := Nat.log2 fn.ntmps + 1, sites := sitesIn siteTable f, draws := mkDraws env0 (sitesIn siteTable f) fn }
  | none => {}
noncomputable def env : Env := { env0 with ann := fun f => if f ∈ reached then tab f else {} }
theorem env_ok : EnvOK env := envOK reached (by kernel_rfl) (fun f hf => by show (if f ∈ reached then tab f else {}).draws = []; rw [if_neg hf]) (by kernel_rfl)
theorem prims_ok : ∀ f, env.pol f = .plain ∨ ∃ F, env.pol f = .prim F ∧ PrimOK env f F := fun f => by
  cases h148 : Nat.beq f 148
  case true =>
    obtain rfl := Nat.eq_of_beq_eq_true h148
    exact .inr ⟨sameF, rfl, same_prim (fn := Tryz.f148) Tryz.func148 (by kernel_rfl) (by kernel_rfl) (by kernel_rfl) (by kernel_rfl)⟩
  case false =>
    cases h221 : Nat.beq f 221
    case true =>
      obtain rfl := Nat.eq_of_beq_eq_true h221
      exact .inr ⟨(noZeroF 5), rfl, noZero_prim (t := 28) (ps := #[3]) (ht := by kernel_rfl) (fn := Tryz.f221) Tryz.func221 (by kernel_rfl) (by kernel_rfl) (by kernel_rfl) (by kernel_rfl)⟩
    case false =>
      cases h238 : Nat.beq f 238
      case true =>
        obtain rfl := Nat.eq_of_beq_eq_true h238
        exact .inr ⟨indexByteF, rfl, indexByte_prim (fn := Tryz.f238) Tryz.func238 (by kernel_rfl) (by kernel_rfl) (by kernel_rfl) (by kernel_rfl)⟩
      case false =>
        refine .inl ?_
        show (bif Nat.beq f 148 then Pol.prim sameF else bif Nat.beq f 221 then Pol.prim (noZeroF 5) else bif Nat.beq f 238 then Pol.prim indexByteF else Pol.plain) = _
        simp only [h148, h221, h238, cond_false]
theorem flat_ok : ([5, 174, 237, 239, 240, 305, 314, 315] : List TypeId).all (flatTy Tryz.prog [5, 174, 237, 239, 240, 305, 314, 315]) = true := by kernel_rfl
theorem globs_ok (W : World) (hL : laidMetH Tryz.prog Rows.poolKnownRow.laid W) : GlobOK env W := fun g cs h => by
  rw [MakeChecks.laidMetH_plain _ _ _ (by kernel_rfl)] at hL
  have h1 : (bif Nat.beq g 0 then flatD (H := Unit) Rows.laid_unicode_utf8_first else bif Nat.beq g 1 then flatD (H := Unit) Rows.laid_unicode_utf8_acceptRanges else bif Nat.beq g 2 then flatD (H := Unit) Rows.laid_internal_strconv_uint64pow10 else bif Nat.beq g 4 then flatD (H := Unit) Rows.laid_math_bits_deBruijn32tab else bif Nat.beq g 5 then flatD (H := Unit) Rows.laid_math_bits_deBruijn64tab else none) = some cs := h
  cases h0g : Nat.beq g 0
  case true =>
    obtain rfl := Nat.eq_of_beq_eq_true h0g
    simp only [h0g, cond_true, cond_false] at h1
    exact glob_of_reads (n := "unicode/utf8.first") (d := Rows.laid_unicode_utf8_first) (ts := [5, 174, 237, 239, 240, 305, 314, 315]) (fun t ht => List.all_eq_true.1 flat_ok t ht) (Lib.laidMet.reads hL (.tail _ (.tail _ (.tail _ (.tail _ (.head _)))))) (by kernel_rfl)
      (fun t ht => by
        have e : ((Tryz.prog.globals[0]?).map (·.type)) = some 237 := by kernel_rfl
        rw [e] at ht
        cases ht
        decide) h1
  case false =>
    cases h1g : Nat.beq g 1
    case true =>
      obtain rfl := Nat.eq_of_beq_eq_true h1g
      simp only [h1g, h0g, cond_true, cond_false] at h1
      exact glob_of_reads (n := "unicode/utf8.acceptRanges") (d := Rows.laid_unicode_utf8_acceptRanges) (ts := [5, 174, 237, 239, 240, 305, 314, 315]) (fun t ht => List.all_eq_true.1 flat_ok t ht) (Lib.laidMet.reads hL (.tail _ (.tail _ (.tail _ (.head _))))) (by kernel_rfl)
        (fun t ht => by
          have e : ((Tryz.prog.globals[1]?).map (·.type)) = some 240 := by kernel_rfl
          rw [e] at ht
          cases ht
          decide) h1
    case false =>
      cases h2g : Nat.beq g 2
      case true =>
        obtain rfl := Nat.eq_of_beq_eq_true h2g
        simp only [h2g, h0g, h1g, cond_true, cond_false] at h1
        exact glob_of_reads (n := "internal/strconv.uint64pow10") (d := Rows.laid_internal_strconv_uint64pow10) (ts := [5, 174, 237, 239, 240, 305, 314, 315]) (fun t ht => List.all_eq_true.1 flat_ok t ht) (Lib.laidMet.reads hL (.tail _ (.tail _ (.head _)))) (by kernel_rfl)
          (fun t ht => by
            have e : ((Tryz.prog.globals[2]?).map (·.type)) = some 305 := by kernel_rfl
            rw [e] at ht
            cases ht
            decide) h1
      case false =>
        cases h4g : Nat.beq g 4
        case true =>
          obtain rfl := Nat.eq_of_beq_eq_true h4g
          simp only [h4g, h0g, h1g, h2g, cond_true, cond_false] at h1
          exact glob_of_reads (n := "math/bits.deBruijn32tab") (d := Rows.laid_math_bits_deBruijn32tab) (ts := [5, 174, 237, 239, 240, 305, 314, 315]) (fun t ht => List.all_eq_true.1 flat_ok t ht) (Lib.laidMet.reads hL (.head _)) (by kernel_rfl)
            (fun t ht => by
              have e : ((Tryz.prog.globals[4]?).map (·.type)) = some 314 := by kernel_rfl
              rw [e] at ht
              cases ht
              decide) h1
        case false =>
          cases h5g : Nat.beq g 5
          case true =>
            obtain rfl := Nat.eq_of_beq_eq_true h5g
            simp only [h5g, h0g, h1g, h2g, h4g, cond_true, cond_false] at h1
            exact glob_of_reads (n := "math/bits.deBruijn64tab") (d := Rows.laid_math_bits_deBruijn64tab) (ts := [5, 174, 237, 239, 240, 305, 314, 315]) (fun t ht => List.all_eq_true.1 flat_ok t ht) (Lib.laidMet.reads hL (.tail _ (.head _))) (by kernel_rfl)
              (fun t ht => by
                have e : ((Tryz.prog.globals[5]?).map (·.type)) = some 315 := by kernel_rfl
                rw [e] at ht
                cases ht
                decide) h1
          case false =>
            simp only [h0g, h1g, h2g, h4g, h5g, cond_false] at h1
            cases h1
theorem calls_ok (n : Nat) : CallOK env (callF env n) := callF_prims env_ok (by kernel_rfl) prims_ok n
def saysTrue : Option AV → Bool
  | some (.bool true) => true
  | _ => false
theorem says_true {x : Option AV} (h : saysTrue x = true) : x = some (.bool true) := by
  unfold saysTrue at h
  split at h
  · rfl
  · cases h
end Go.Proofs.YthdhihbomackeaaGreatDoor.poolKnown

/- Calls reckoned one by one. -/
set_option maxRecDepth 100000
namespace Go.Proofs.YthdhihbomackeaaGreatDoor.poolKnown
open Go Go.Den Go.ChangeShapes Go.WideShapes Go.ChangeAt Go.RowKit
theorem k1_0 : says (reck env 300 29 []) (AV.bool true) = true := by kernel_rfl
end Go.Proofs.YthdhihbomackeaaGreatDoor.poolKnown

/- Calls reckoned one by one. -/
set_option maxRecDepth 100000
namespace Go.Proofs.YthdhihbomackeaaGreatDoor.poolKnown
open Go Go.Den Go.ChangeShapes Go.WideShapes Go.ChangeAt Go.RowKit
theorem k1_1 : says (reck env 300 36 [.sh 1 [.int .u8 84, .int .u8 78, .int .u8 77, .int .u8 49, .int .u8 0, .int .u8 1, .int .u8 0, .int .u8 0, .int .u8 0, .int .u8 5, .int .u8 91, .int .u8 49, .int .u8 44, .int .u8 50, .int .u8 93, .int .u8 0, .int .u8 1, .int .u8 3]]) (AV.tup [(AV.agg [(AV.sh 7 [(AV.agg [(AV.int Go.IntKind.i64 (6)), (AV.bool false), AV.nils, (AV.str []), (AV.int Go.IntKind.i64 (0)), (AV.sh 7 [(AV.agg [(AV.int Go.IntKind.i64 (0)), (AV.bool false), (AV.sh 1 [(AV.int Go.IntKind.u32 (1))]), (AV.str []), (AV.int Go.IntKind.i64 (0)), AV.nils, AV.nils]), (AV.agg [(AV.int Go.IntKind.i64 (6)), (AV.bool false), AV.nils, (AV.str []), (AV.int Go.IntKind.i64 (0)), (AV.sh 7 [(AV.agg [(AV.int Go.IntKind.i64 (0)), (AV.bool false), (AV.sh 1 [(AV.int Go.IntKind.u32 (2))]), (AV.str []), (AV.int Go.IntKind.i64 (0)), AV.nils, AV.nils]), (AV.agg [(AV.int Go.IntKind.i64 (5)), (AV.bool false), AV.nils, (AV.str []), (AV.int Go.IntKind.i64 (0)), AV.nils, AV.nils])]), AV.nils])]), AV.nils])]), (AV.sh 4 [(AV.agg [(AV.int Go.IntKind.i64 (3)), AV.nils, AV.nils, AV.nils])])]), (AV.int Go.IntKind.i64 (0))]) = true := by kernel_rfl
end Go.Proofs.YthdhihbomackeaaGreatDoor.poolKnown

/- Calls reckoned one by one. -/
set_option maxRecDepth 100000
namespace Go.Proofs.YthdhihbomackeaaGreatDoor.poolKnown
open Go Go.Den Go.ChangeShapes Go.WideShapes Go.ChangeAt Go.RowKit
theorem k1_2 : says (reck env 300 36 [.sh 1 [.int .u8 120]]) (AV.tup [(AV.agg [AV.nils, AV.nils]), (AV.int Go.IntKind.i64 (2))]) = true := by kernel_rfl
end Go.Proofs.YthdhihbomackeaaGreatDoor.poolKnown

/- What these calls answer. -/
set_option maxRecDepth 100000
namespace Go.Proofs.YthdhihbomackeaaGreatDoor.poolKnown
open Go Go.Den Go.ChangeShapes Go.WideShapes Go.ChangeAt Go.RowKit
def K1 : List (FuncId × List (List AV × AV)) := [(29, [([], (AV.bool true))]),
  (36, [([.sh 1 [.int .u8 84, .int .u8 78, .int .u8 77, .int .u8 49, .int .u8 0, .int .u8 1, .int .u8 0, .int .u8 0, .int .u8 0, .int .u8 5, .int .u8 91, .int .u8 49, .int .u8 44, .int .u8 50, .int .u8 93, .int .u8 0, .int .u8 1, .int .u8 3]], (AV.tup [(AV.agg [(AV.sh 7 [(AV.agg [(AV.int Go.IntKind.i64 (6)), (AV.bool false), AV.nils, (AV.str []), (AV.int Go.IntKind.i64 (0)), (AV.sh 7 [(AV.agg [(AV.int Go.IntKind.i64 (0)), (AV.bool false), (AV.sh 1 [(AV.int Go.IntKind.u32 (1))]), (AV.str []), (AV.int Go.IntKind.i64 (0)), AV.nils, AV.nils]), (AV.agg [(AV.int Go.IntKind.i64 (6)), (AV.bool false), AV.nils, (AV.str []), (AV.int Go.IntKind.i64 (0)), (AV.sh 7 [(AV.agg [(AV.int Go.IntKind.i64 (0)), (AV.bool false), (AV.sh 1 [(AV.int Go.IntKind.u32 (2))]), (AV.str []), (AV.int Go.IntKind.i64 (0)), AV.nils, AV.nils]), (AV.agg [(AV.int Go.IntKind.i64 (5)), (AV.bool false), AV.nils, (AV.str []), (AV.int Go.IntKind.i64 (0)), AV.nils, AV.nils])]), AV.nils])]), AV.nils])]), (AV.sh 4 [(AV.agg [(AV.int Go.IntKind.i64 (3)), AV.nils, AV.nils, AV.nils])])]), (AV.int Go.IntKind.i64 (0))])),
    ([.sh 1 [.int .u8 120]], (AV.tup [(AV.agg [AV.nils, AV.nils]), (AV.int Go.IntKind.i64 (2))]))])]
theorem known_all1 : KnownAll env K1 := ⟨⟨⟨300, says_eq k1_0⟩, trivial⟩, ⟨⟨300, says_eq k1_1⟩, ⟨300, says_eq k1_2⟩, trivial⟩, trivial⟩
noncomputable def env101 : Env := env.knows K1
theorem calls_ok1 (n : Nat) : CallOK env101 (callF env101 n) := known_calls env_ok (by kernel_rfl) (prims_pols prims_ok) calls_ok known_all1 n
theorem pols_ok1 (f : FuncId) : PolOK env101 f (env101.pol f) := known_pols (prims_pols prims_ok) calls_ok known_all1 f
theorem env_ok1 : EnvOK env101 := EnvOK.with env_ok
end Go.Proofs.YthdhihbomackeaaGreatDoor.poolKnown

/- The reading of a closed law. -/
set_option maxRecDepth 100000
namespace Go.Proofs.YthdhihbomackeaaGreatDoor.poolKnown
open Go Go.Den Go.ChangeShapes Go.WideShapes Go.ChangeAt Go.RowKit
theorem known : answer env101 300 13 [] = some (.bool true) := says_true (by kernel_rfl)
theorem law : ∀ vs : List AV, vs.length = Tryz.f13.params.size → (∀ (j : Nat) t v, Tryz.f13.params[j]? = some t → vs[j]? = some v → ∃ n, Ty Tryz.prog n t v) → ∃ n, answer env101 n 13 vs = some (.bool true) := fun vs hv _ => by
  have e : vs = [] := List.eq_nil_of_length_eq_zero (by rw [hv]; kernel_rfl)
  subst e
  exact ⟨300, known⟩
end Go.Proofs.YthdhihbomackeaaGreatDoor.poolKnown
