/- Texts put together: TextKnownEnv, TextKnownK1a, TextKnownK1b, TextKnownK1c, TextKnownK1d, TextKnownK1, TextKnownKn. -/
import Derived.Test.YtpdklklgefplcaaGreatDoorMe
import Derived.Test.YtpdklklgefplcaaGreatDoorCards
import Derived.Test.YtpdklklgefplcaaGreatDoorTie
import Derived.LaidLaws
import Derived.MakeChecks
import Derived.SevenTiedAt

/- The reading of a closed law. -/
set_option maxRecDepth 100000
namespace Go.Proofs.YtpdklklgefplcaaGreatDoor.textKnown
open Go Go.Den Go.ChangeShapes Go.WideShapes Go.ChangeAt Go.RowKit

/-- The functions that the law reaches. -/
def reached : List FuncId := [3, 10, 11, 12, 14, 21, 22, 23, 24, 25, 26, 33, 34, 35, 36, 37, 38, 39, 40, 41, 42, 43, 44, 45, 64, 65, 66, 67, 68, 69, 70, 71, 72, 73, 74, 75, 76, 77, 78, 79, 80, 81, 82, 83, 84, 85, 86, 87, 99, 100, 101, 102, 103, 104, 105, 106, 107, 108, 110, 111, 112, 113, 114, 115, 116, 117, 118, 119, 120, 121, 126, 127, 128, 129, 130, 131, 132, 133, 134, 135, 136, 137, 138, 139, 140, 141, 144, 145, 146, 147, 148, 149, 150, 151, 152, 153, 154, 155, 156, 157, 158, 159, 160, 161, 163, 164, 165, 166, 167, 168, 169, 171, 172, 173]
noncomputable def env0 : Env := { P := Tryz.prog, pol := fun f => bif Nat.beq f 109 then .prim sameF else bif Nat.beq f 162 then .prim (noZeroF 5) else bif Nat.beq f 174 then .prim indexByteF else .plain, ann := fun _ => {}, glob := fun g => bif Nat.beq g 0 then flatD (H := Unit) Rows.laid_unicode_utf8_first else bif Nat.beq g 1 then flatD (H := Unit) Rows.laid_unicode_utf8_acceptRanges else bif Nat.beq g 2 then flatD (H := Unit) Rows.laid_internal_strconv_uint64pow10 else bif Nat.beq g 4 then flatD (H := Unit) Rows.laid_math_bits_deBruijn32tab else bif Nat.beq g 5 then flatD (H := Unit) Rows.laid_math_bits_deBruijn64tab else none }
/-- The places where a function's own variables are laid. -/
def siteTable : List (Nat × List (Nat × Nat × Nat)) := [(33, [(0, 0, 0), (0, 1, 1), (1, 15, 2)]), (38, [(0, 0, 0), (0, 1, 1), (3, 3, 2)]), (40, [(0, 0, 0), (0, 2, 1), (6, 7, 2)])]
def sitesIn : List (Nat × List (Nat × Nat × Nat)) → Nat → List (Nat × Nat × Nat)
  | [], _ => []
  | (g, l) :: r, f => bif Nat.beq g f then l else sitesIn r f
/-- Remarks on loops in which a function's own variables are laid. -/
def annsIn (f : Nat) : Ann := bif Nat.beq f 40 then (.two .nil (.two (.one (.lp ⟨7, [0, 1, 2, 3, 4, 6, 8, 9, 11, 12, 13, 14, 15, 16, 17, 18, 19, 20, 21, 22, 23, 24, 25, 26, 27, 28, 29, 30, 31, 32, 33, 34, 35, 36, 37, 38, 39, 40, 41, 42, 43, 44, 45, 46, 47, 48, 49, 50, 51, 52, 53, 54, 55, 56, 57, 58, 59, 60, 61, 62, 63, 64, 65, 66, 67, 68, 69, 70, 71, 72, 73, 74, 75, 76, 77, 78, 79, 80, 81, 82, 83, 84, 85, 86, 87, 88], [(5, 0, 0), (7, 1, 0)], [0, 1]⟩ .nil)) .nil)) else .nil
/-- What is said of a function's regions, reckoned off its code. -/
noncomputable def tab (f : FuncId) : FAnn :=
  match Tryz.prog.funcs[f]? with
  | some fn => { ann := annsIn f, depth := Nat.log2 fn.ntmps + 1, sites := sitesIn siteTable f, draws := mkDraws env0 (sitesIn siteTable f) fn }
  | none => {}
noncomputable def env : Env := { env0 with ann := fun f => if f ∈ reached then tab f else {} }
theorem env_ok : EnvOK env := envOK reached (by kernel_rfl) (fun f hf => by show (if f ∈ reached then tab f else {}).draws = []; rw [if_neg hf]) (by kernel_rfl)
theorem prims_ok : ∀ f, env.pol f = .plain ∨ ∃ F, env.pol f = .prim F ∧ PrimOK env f F := fun f => by
  cases h109 : Nat.beq f 109
  case true =>
    obtain rfl := Nat.eq_of_beq_eq_true h109
    exact .inr ⟨sameF, rfl, same_prim (fn := Tryz.f109) Tryz.func109 (by kernel_rfl) (by kernel_rfl) (by kernel_rfl) (by kernel_rfl)⟩
  case false =>
    cases h162 : Nat.beq f 162
    case true =>
      obtain rfl := Nat.eq_of_beq_eq_true h162
      exact .inr ⟨(noZeroF 5), rfl, noZero_prim (t := 25) (ps := #[3]) (ht := by kernel_rfl) (fn := Tryz.f162) Tryz.func162 (by kernel_rfl) (by kernel_rfl) (by kernel_rfl) (by kernel_rfl)⟩
    case false =>
      cases h174 : Nat.beq f 174
      case true =>
        obtain rfl := Nat.eq_of_beq_eq_true h174
        exact .inr ⟨indexByteF, rfl, indexByte_prim (fn := Tryz.f174) Tryz.func174 (by kernel_rfl) (by kernel_rfl) (by kernel_rfl) (by kernel_rfl)⟩
      case false =>
        refine .inl ?_
        show (bif Nat.beq f 109 then Pol.prim sameF else bif Nat.beq f 162 then Pol.prim (noZeroF 5) else bif Nat.beq f 174 then Pol.prim indexByteF else Pol.plain) = _
        simp only [h109, h162, h174, cond_false]
theorem flat_ok : ([5, 93, 104, 106, 107, 210, 216, 217] : List TypeId).all (flatTy Tryz.prog [5, 93, 104, 106, 107, 210, 216, 217]) = true := by kernel_rfl
theorem globs_ok (W : World) (hL : laidMetH Tryz.prog Rows.textKnownRow.laid W) : GlobOK env W := fun g cs h => by
  rw [MakeChecks.laidMetH_plain _ _ _ (by kernel_rfl)] at hL
  have h1 : (bif Nat.beq g 0 then flatD (H := Unit) Rows.laid_unicode_utf8_first else bif Nat.beq g 1 then flatD (H := Unit) Rows.laid_unicode_utf8_acceptRanges else bif Nat.beq g 2 then flatD (H := Unit) Rows.laid_internal_strconv_uint64pow10 else bif Nat.beq g 4 then flatD (H := Unit) Rows.laid_math_bits_deBruijn32tab else bif Nat.beq g 5 then flatD (H := Unit) Rows.laid_math_bits_deBruijn64tab else none) = some cs := h
  cases h0g : Nat.beq g 0
  case true =>
    obtain rfl := Nat.eq_of_beq_eq_true h0g
    simp only [h0g, cond_true, cond_false] at h1
    exact glob_of_reads (n := "unicode/utf8.first") (d := Rows.laid_unicode_utf8_first) (ts := [5, 93, 104, 106, 107, 210, 216, 217]) (fun t ht => List.all_eq_true.1 flat_ok t ht) (Lib.laidMet.reads hL (.tail _ (.tail _ (.tail _ (.tail _ (.head _)))))) (by kernel_rfl)
      (fun t ht => by
        have e : ((Tryz.prog.globals[0]?).map (·.type)) = some 104 := by kernel_rfl
        rw [e] at ht
        cases ht
        decide) h1
  case false =>
    cases h1g : Nat.beq g 1
    case true =>
      obtain rfl := Nat.eq_of_beq_eq_true h1g
      simp only [h1g, h0g, cond_true, cond_false] at h1
      exact glob_of_reads (n := "unicode/utf8.acceptRanges") (d := Rows.laid_unicode_utf8_acceptRanges) (ts := [5, 93, 104, 106, 107, 210, 216, 217]) (fun t ht => List.all_eq_true.1 flat_ok t ht) (Lib.laidMet.reads hL (.tail _ (.tail _ (.tail _ (.head _))))) (by kernel_rfl)
        (fun t ht => by
          have e : ((Tryz.prog.globals[1]?).map (·.type)) = some 107 := by kernel_rfl
          rw [e] at ht
          cases ht
          decide) h1
    case false =>
      cases h2g : Nat.beq g 2
      case true =>
        obtain rfl := Nat.eq_of_beq_eq_true h2g
        simp only [h2g, h0g, h1g, cond_true, cond_false] at h1
        exact glob_of_reads (n := "internal/strconv.uint64pow10") (d := Rows.laid_internal_strconv_uint64pow10) (ts := [5, 93, 104, 106, 107, 210, 216, 217]) (fun t ht => List.all_eq_true.1 flat_ok t ht) (Lib.laidMet.reads hL (.tail _ (.tail _ (.head _)))) (by kernel_rfl)
          (fun t ht => by
            have e : ((Tryz.prog.globals[2]?).map (·.type)) = some 210 := by kernel_rfl
            rw [e] at ht
            cases ht
            decide) h1
      case false =>
        cases h4g : Nat.beq g 4
        case true =>
          obtain rfl := Nat.eq_of_beq_eq_true h4g
          simp only [h4g, h0g, h1g, h2g, cond_true, cond_false] at h1
          exact glob_of_reads (n := "math/bits.deBruijn32tab") (d := Rows.laid_math_bits_deBruijn32tab) (ts := [5, 93, 104, 106, 107, 210, 216, 217]) (fun t ht => List.all_eq_true.1 flat_ok t ht) (Lib.laidMet.reads hL (.head _)) (by kernel_rfl)
            (fun t ht => by
              have e : ((Tryz.prog.globals[4]?).map (·.type)) = some 216 := by kernel_rfl
              rw [e] at ht
              cases ht
              decide) h1
        case false =>
          cases h5g : Nat.beq g 5
          case true =>
            obtain rfl := Nat.eq_of_beq_eq_true h5g
            simp only [h5g, h0g, h1g, h2g, h4g, cond_true, cond_false] at h1
            exact glob_of_reads (n := "math/bits.deBruijn64tab") (d := Rows.laid_math_bits_deBruijn64tab) (ts := [5, 93, 104, 106, 107, 210, 216, 217]) (fun t ht => List.all_eq_true.1 flat_ok t ht) (Lib.laidMet.reads hL (.tail _ (.head _))) (by kernel_rfl)
              (fun t ht => by
                have e : ((Tryz.prog.globals[5]?).map (·.type)) = some 217 := by kernel_rfl
                rw [e] at ht
                cases ht
                decide) h1
          case false =>
            simp only [h0g, h1g, h2g, h4g, h5g, cond_false] at h1
            cases h1
theorem calls_ok (n : Nat) : CallOK env (callF env n) := callF_prims env_ok (by kernel_rfl) prims_ok n
def saysTrue : Option AV → Bool
  | some (.bool true) => true
  | _ => false
theorem says_true {x : Option AV} (h : saysTrue x = true) : x = some (.bool true) := by
  unfold saysTrue at h
  split at h
  · rfl
  · cases h
end Go.Proofs.YtpdklklgefplcaaGreatDoor.textKnown

/- Calls reckoned one by one. -/
set_option maxRecDepth 100000
namespace Go.Proofs.YtpdklklgefplcaaGreatDoor.textKnown
open Go Go.Den Go.ChangeShapes Go.WideShapes Go.ChangeAt Go.RowKit
theorem k1_0 : says (reck env 300 11 [.str [123, 111, 107, 44, 91, 49, 44, 60, 51, 62, 124, 35, 52, 93, 44, 60, 60, 49, 44, 50, 62, 62, 125]]) (AV.tup [(AV.agg [(AV.int Go.IntKind.i64 (4)), (AV.bool false), AV.nils, (AV.str []), (AV.int Go.IntKind.i64 (0)), (AV.sh 7 [(AV.agg [(AV.int Go.IntKind.i64 (1)), (AV.bool false), AV.nils, (AV.str [111, 107]), (AV.int Go.IntKind.i64 (0)), AV.nils, AV.nils]), (AV.agg [(AV.int Go.IntKind.i64 (6)), (AV.bool false), AV.nils, (AV.str []), (AV.int Go.IntKind.i64 (0)), (AV.sh 7 [(AV.agg [(AV.int Go.IntKind.i64 (0)), (AV.bool false), (AV.sh 1 [(AV.int Go.IntKind.u32 (1))]), (AV.str []), (AV.int Go.IntKind.i64 (0)), AV.nils, AV.nils]), (AV.agg [(AV.int Go.IntKind.i64 (6)), (AV.bool false), AV.nils, (AV.str []), (AV.int Go.IntKind.i64 (0)), (AV.sh 7 [(AV.agg [(AV.int Go.IntKind.i64 (3)), (AV.bool false), AV.nils, (AV.str []), (AV.int Go.IntKind.i64 (3)), AV.nils, AV.nils]), (AV.agg [(AV.int Go.IntKind.i64 (2)), (AV.bool false), AV.nils, (AV.str []), (AV.int Go.IntKind.i64 (4)), AV.nils, AV.nils])]), AV.nils])]), AV.nils]), (AV.agg [(AV.int Go.IntKind.i64 (7)), (AV.bool false), AV.nils, (AV.str []), (AV.int Go.IntKind.i64 (0)), AV.nils, (AV.sh 1 [(AV.int Go.IntKind.u8 (1)), (AV.int Go.IntKind.u8 (2))])])]), AV.nils]), (AV.int Go.IntKind.i64 (0))]) = true := by kernel_rfl
theorem k1_4 : says (reck env 300 11 [.str [45, 48]]) (AV.tup [(AV.agg [(AV.int Go.IntKind.i64 (0)), (AV.bool false), AV.nils, (AV.str []), (AV.int Go.IntKind.i64 (0)), AV.nils, AV.nils]), (AV.int Go.IntKind.i64 (10))]) = true := by kernel_rfl
theorem k1_8 : says (reck env 300 11 [.str [60, 60, 50, 53, 54, 62, 62]]) (AV.tup [(AV.agg [(AV.int Go.IntKind.i64 (0)), (AV.bool false), AV.nils, (AV.str []), (AV.int Go.IntKind.i64 (0)), AV.nils, AV.nils]), (AV.int Go.IntKind.i64 (10))]) = true := by kernel_rfl
theorem k1_12 : says (reck env 300 11 [.str [97, 32, 98]]) (AV.tup [(AV.agg [(AV.int Go.IntKind.i64 (0)), (AV.bool false), AV.nils, (AV.str []), (AV.int Go.IntKind.i64 (0)), AV.nils, AV.nils]), (AV.int Go.IntKind.i64 (10))]) = true := by kernel_rfl
theorem k1_16 : says (reck env 300 11 [.str [65]]) (AV.tup [(AV.agg [(AV.int Go.IntKind.i64 (0)), (AV.bool false), AV.nils, (AV.str []), (AV.int Go.IntKind.i64 (0)), AV.nils, AV.nils]), (AV.int Go.IntKind.i64 (10))]) = true := by kernel_rfl
end Go.Proofs.YtpdklklgefplcaaGreatDoor.textKnown

/- Calls reckoned one by one. -/
set_option maxRecDepth 100000
namespace Go.Proofs.YtpdklklgefplcaaGreatDoor.textKnown
open Go Go.Den Go.ChangeShapes Go.WideShapes Go.ChangeAt Go.RowKit
theorem k1_1 : says (reck env 300 10 []) (AV.bool true) = true := by kernel_rfl
theorem k1_5 : says (reck env 300 11 [.str [91, 97, 124, 91, 98, 93, 93]]) (AV.tup [(AV.agg [(AV.int Go.IntKind.i64 (0)), (AV.bool false), AV.nils, (AV.str []), (AV.int Go.IntKind.i64 (0)), AV.nils, AV.nils]), (AV.int Go.IntKind.i64 (10))]) = true := by kernel_rfl
theorem k1_9 : says (reck env 300 11 [.str [91, 97]]) (AV.tup [(AV.agg [(AV.int Go.IntKind.i64 (0)), (AV.bool false), AV.nils, (AV.str []), (AV.int Go.IntKind.i64 (0)), AV.nils, AV.nils]), (AV.int Go.IntKind.i64 (10))]) = true := by kernel_rfl
theorem k1_13 : says (reck env 300 11 [.str [91, 124, 97, 93]]) (AV.tup [(AV.agg [(AV.int Go.IntKind.i64 (0)), (AV.bool false), AV.nils, (AV.str []), (AV.int Go.IntKind.i64 (0)), AV.nils, AV.nils]), (AV.int Go.IntKind.i64 (10))]) = true := by kernel_rfl
theorem k1_17 : says (reck env 300 12 [.str [91, 93, 120]]) (AV.tup [(AV.agg [(AV.int Go.IntKind.i64 (5)), (AV.bool false), AV.nils, (AV.str []), (AV.int Go.IntKind.i64 (0)), AV.nils, AV.nils]), (AV.int Go.IntKind.i64 (2)), (AV.int Go.IntKind.i64 (0))]) = true := by kernel_rfl
end Go.Proofs.YtpdklklgefplcaaGreatDoor.textKnown

/- Calls reckoned one by one. -/
set_option maxRecDepth 100000
namespace Go.Proofs.YtpdklklgefplcaaGreatDoor.textKnown
open Go Go.Den Go.ChangeShapes Go.WideShapes Go.ChangeAt Go.RowKit
theorem k1_2 : says (reck env 300 11 [.str []]) (AV.tup [(AV.agg [(AV.int Go.IntKind.i64 (0)), (AV.bool false), AV.nils, (AV.str []), (AV.int Go.IntKind.i64 (0)), AV.nils, AV.nils]), (AV.int Go.IntKind.i64 (10))]) = true := by kernel_rfl
theorem k1_6 : says (reck env 300 11 [.str [39, 97, 39]]) (AV.tup [(AV.agg [(AV.int Go.IntKind.i64 (0)), (AV.bool false), AV.nils, (AV.str []), (AV.int Go.IntKind.i64 (0)), AV.nils, AV.nils]), (AV.int Go.IntKind.i64 (10))]) = true := by kernel_rfl
theorem k1_10 : says (reck env 300 11 [.str [60, 49]]) (AV.tup [(AV.agg [(AV.int Go.IntKind.i64 (0)), (AV.bool false), AV.nils, (AV.str []), (AV.int Go.IntKind.i64 (0)), AV.nils, AV.nils]), (AV.int Go.IntKind.i64 (10))]) = true := by kernel_rfl
theorem k1_14 : says (reck env 300 11 [.str [39, 92, 120, 48, 52, 49, 59, 39]]) (AV.tup [(AV.agg [(AV.int Go.IntKind.i64 (0)), (AV.bool false), AV.nils, (AV.str []), (AV.int Go.IntKind.i64 (0)), AV.nils, AV.nils]), (AV.int Go.IntKind.i64 (10))]) = true := by kernel_rfl
end Go.Proofs.YtpdklklgefplcaaGreatDoor.textKnown

/- Calls reckoned one by one. -/
set_option maxRecDepth 100000
namespace Go.Proofs.YtpdklklgefplcaaGreatDoor.textKnown
open Go Go.Den Go.ChangeShapes Go.WideShapes Go.ChangeAt Go.RowKit
theorem k1_3 : says (reck env 300 11 [.str [48, 49]]) (AV.tup [(AV.agg [(AV.int Go.IntKind.i64 (0)), (AV.bool false), AV.nils, (AV.str []), (AV.int Go.IntKind.i64 (0)), AV.nils, AV.nils]), (AV.int Go.IntKind.i64 (10))]) = true := by kernel_rfl
theorem k1_7 : says (reck env 300 11 [.str [123, 97, 44, 125]]) (AV.tup [(AV.agg [(AV.int Go.IntKind.i64 (0)), (AV.bool false), AV.nils, (AV.str []), (AV.int Go.IntKind.i64 (0)), AV.nils, AV.nils]), (AV.int Go.IntKind.i64 (10))]) = true := by kernel_rfl
theorem k1_11 : says (reck env 300 11 [.str [35, 32, 49]]) (AV.tup [(AV.agg [(AV.int Go.IntKind.i64 (0)), (AV.bool false), AV.nils, (AV.str []), (AV.int Go.IntKind.i64 (0)), AV.nils, AV.nils]), (AV.int Go.IntKind.i64 (10))]) = true := by kernel_rfl
theorem k1_15 : says (reck env 300 11 [.str [39, 92, 120, 49, 70, 59, 39]]) (AV.tup [(AV.agg [(AV.int Go.IntKind.i64 (0)), (AV.bool false), AV.nils, (AV.str []), (AV.int Go.IntKind.i64 (0)), AV.nils, AV.nils]), (AV.int Go.IntKind.i64 (10))]) = true := by kernel_rfl
end Go.Proofs.YtpdklklgefplcaaGreatDoor.textKnown

/- What these calls answer. -/
set_option maxRecDepth 100000
namespace Go.Proofs.YtpdklklgefplcaaGreatDoor.textKnown
open Go Go.Den Go.ChangeShapes Go.WideShapes Go.ChangeAt Go.RowKit
def K1 : List (FuncId × List (List AV × AV)) := [(11, [([.str [123, 111, 107, 44, 91, 49, 44, 60, 51, 62, 124, 35, 52, 93, 44, 60, 60, 49, 44, 50, 62, 62, 125]], (AV.tup [(AV.agg [(AV.int Go.IntKind.i64 (4)), (AV.bool false), AV.nils, (AV.str []), (AV.int Go.IntKind.i64 (0)), (AV.sh 7 [(AV.agg [(AV.int Go.IntKind.i64 (1)), (AV.bool false), AV.nils, (AV.str [111, 107]), (AV.int Go.IntKind.i64 (0)), AV.nils, AV.nils]), (AV.agg [(AV.int Go.IntKind.i64 (6)), (AV.bool false), AV.nils, (AV.str []), (AV.int Go.IntKind.i64 (0)), (AV.sh 7 [(AV.agg [(AV.int Go.IntKind.i64 (0)), (AV.bool false), (AV.sh 1 [(AV.int Go.IntKind.u32 (1))]), (AV.str []), (AV.int Go.IntKind.i64 (0)), AV.nils, AV.nils]), (AV.agg [(AV.int Go.IntKind.i64 (6)), (AV.bool false), AV.nils, (AV.str []), (AV.int Go.IntKind.i64 (0)), (AV.sh 7 [(AV.agg [(AV.int Go.IntKind.i64 (3)), (AV.bool false), AV.nils, (AV.str []), (AV.int Go.IntKind.i64 (3)), AV.nils, AV.nils]), (AV.agg [(AV.int Go.IntKind.i64 (2)), (AV.bool false), AV.nils, (AV.str []), (AV.int Go.IntKind.i64 (4)), AV.nils, AV.nils])]), AV.nils])]), AV.nils]), (AV.agg [(AV.int Go.IntKind.i64 (7)), (AV.bool false), AV.nils, (AV.str []), (AV.int Go.IntKind.i64 (0)), AV.nils, (AV.sh 1 [(AV.int Go.IntKind.u8 (1)), (AV.int Go.IntKind.u8 (2))])])]), AV.nils]), (AV.int Go.IntKind.i64 (0))])),
    ([.str []], (AV.tup [(AV.agg [(AV.int Go.IntKind.i64 (0)), (AV.bool false), AV.nils, (AV.str []), (AV.int Go.IntKind.i64 (0)), AV.nils, AV.nils]), (AV.int Go.IntKind.i64 (10))])),
    ([.str [48, 49]], (AV.tup [(AV.agg [(AV.int Go.IntKind.i64 (0)), (AV.bool false), AV.nils, (AV.str []), (AV.int Go.IntKind.i64 (0)), AV.nils, AV.nils]), (AV.int Go.IntKind.i64 (10))])),
    ([.str [45, 48]], (AV.tup [(AV.agg [(AV.int Go.IntKind.i64 (0)), (AV.bool false), AV.nils, (AV.str []), (AV.int Go.IntKind.i64 (0)), AV.nils, AV.nils]), (AV.int Go.IntKind.i64 (10))])),
    ([.str [91, 97, 124, 91, 98, 93, 93]], (AV.tup [(AV.agg [(AV.int Go.IntKind.i64 (0)), (AV.bool false), AV.nils, (AV.str []), (AV.int Go.IntKind.i64 (0)), AV.nils, AV.nils]), (AV.int Go.IntKind.i64 (10))])),
    ([.str [39, 97, 39]], (AV.tup [(AV.agg [(AV.int Go.IntKind.i64 (0)), (AV.bool false), AV.nils, (AV.str []), (AV.int Go.IntKind.i64 (0)), AV.nils, AV.nils]), (AV.int Go.IntKind.i64 (10))])),
    ([.str [123, 97, 44, 125]], (AV.tup [(AV.agg [(AV.int Go.IntKind.i64 (0)), (AV.bool false), AV.nils, (AV.str []), (AV.int Go.IntKind.i64 (0)), AV.nils, AV.nils]), (AV.int Go.IntKind.i64 (10))])),
    ([.str [60, 60, 50, 53, 54, 62, 62]], (AV.tup [(AV.agg [(AV.int Go.IntKind.i64 (0)), (AV.bool false), AV.nils, (AV.str []), (AV.int Go.IntKind.i64 (0)), AV.nils, AV.nils]), (AV.int Go.IntKind.i64 (10))])),
    ([.str [91, 97]], (AV.tup [(AV.agg [(AV.int Go.IntKind.i64 (0)), (AV.bool false), AV.nils, (AV.str []), (AV.int Go.IntKind.i64 (0)), AV.nils, AV.nils]), (AV.int Go.IntKind.i64 (10))])),
    ([.str [60, 49]], (AV.tup [(AV.agg [(AV.int Go.IntKind.i64 (0)), (AV.bool false), AV.nils, (AV.str []), (AV.int Go.IntKind.i64 (0)), AV.nils, AV.nils]), (AV.int Go.IntKind.i64 (10))])),
    ([.str [35, 32, 49]], (AV.tup [(AV.agg [(AV.int Go.IntKind.i64 (0)), (AV.bool false), AV.nils, (AV.str []), (AV.int Go.IntKind.i64 (0)), AV.nils, AV.nils]), (AV.int Go.IntKind.i64 (10))])),
    ([.str [97, 32, 98]], (AV.tup [(AV.agg [(AV.int Go.IntKind.i64 (0)), (AV.bool false), AV.nils, (AV.str []), (AV.int Go.IntKind.i64 (0)), AV.nils, AV.nils]), (AV.int Go.IntKind.i64 (10))])),
    ([.str [91, 124, 97, 93]], (AV.tup [(AV.agg [(AV.int Go.IntKind.i64 (0)), (AV.bool false), AV.nils, (AV.str []), (AV.int Go.IntKind.i64 (0)), AV.nils, AV.nils]), (AV.int Go.IntKind.i64 (10))])),
    ([.str [39, 92, 120, 48, 52, 49, 59, 39]], (AV.tup [(AV.agg [(AV.int Go.IntKind.i64 (0)), (AV.bool false), AV.nils, (AV.str []), (AV.int Go.IntKind.i64 (0)), AV.nils, AV.nils]), (AV.int Go.IntKind.i64 (10))])),
    ([.str [39, 92, 120, 49, 70, 59, 39]], (AV.tup [(AV.agg [(AV.int Go.IntKind.i64 (0)), (AV.bool false), AV.nils, (AV.str []), (AV.int Go.IntKind.i64 (0)), AV.nils, AV.nils]), (AV.int Go.IntKind.i64 (10))])),
    ([.str [65]], (AV.tup [(AV.agg [(AV.int Go.IntKind.i64 (0)), (AV.bool false), AV.nils, (AV.str []), (AV.int Go.IntKind.i64 (0)), AV.nils, AV.nils]), (AV.int Go.IntKind.i64 (10))]))]),
  (10, [([], (AV.bool true))]),
  (12, [([.str [91, 93, 120]], (AV.tup [(AV.agg [(AV.int Go.IntKind.i64 (5)), (AV.bool false), AV.nils, (AV.str []), (AV.int Go.IntKind.i64 (0)), AV.nils, AV.nils]), (AV.int Go.IntKind.i64 (2)), (AV.int Go.IntKind.i64 (0))]))])]
theorem known_all1 : KnownAll env K1 := ⟨⟨⟨300, says_eq k1_0⟩, ⟨300, says_eq k1_2⟩, ⟨300, says_eq k1_3⟩, ⟨300, says_eq k1_4⟩, ⟨300, says_eq k1_5⟩, ⟨300, says_eq k1_6⟩, ⟨300, says_eq k1_7⟩, ⟨300, says_eq k1_8⟩, ⟨300, says_eq k1_9⟩, ⟨300, says_eq k1_10⟩, ⟨300, says_eq k1_11⟩, ⟨300, says_eq k1_12⟩, ⟨300, says_eq k1_13⟩, ⟨300, says_eq k1_14⟩, ⟨300, says_eq k1_15⟩, ⟨300, says_eq k1_16⟩, trivial⟩, ⟨⟨300, says_eq k1_1⟩, trivial⟩, ⟨⟨300, says_eq k1_17⟩, trivial⟩, trivial⟩
noncomputable def env101 : Env := env.knows K1
theorem calls_ok1 (n : Nat) : CallOK env101 (callF env101 n) := known_calls env_ok (by kernel_rfl) (prims_pols prims_ok) calls_ok known_all1 n
theorem pols_ok1 (f : FuncId) : PolOK env101 f (env101.pol f) := known_pols (prims_pols prims_ok) calls_ok known_all1 f
theorem env_ok1 : EnvOK env101 := EnvOK.with env_ok
end Go.Proofs.YtpdklklgefplcaaGreatDoor.textKnown

/- The reading of a closed law. -/
set_option maxRecDepth 100000
namespace Go.Proofs.YtpdklklgefplcaaGreatDoor.textKnown
open Go Go.Den Go.ChangeShapes Go.WideShapes Go.ChangeAt Go.RowKit
theorem known : answer env101 300 3 [] = some (.bool true) := says_true (by kernel_rfl)
theorem law : ∀ vs : List AV, vs.length = Tryz.f3.params.size → (∀ (j : Nat) t v, Tryz.f3.params[j]? = some t → vs[j]? = some v → ∃ n, Ty Tryz.prog n t v) → ∃ n, answer env101 n 3 vs = some (.bool true) := fun vs hv _ => by
  have e : vs = [] := List.eq_nil_of_length_eq_zero (by rw [hv]; kernel_rfl)
  subst e
  exact ⟨300, known⟩
end Go.Proofs.YtpdklklgefplcaaGreatDoor.textKnown
