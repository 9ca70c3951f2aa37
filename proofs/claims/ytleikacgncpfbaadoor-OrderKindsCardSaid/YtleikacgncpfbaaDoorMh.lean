/- Texts put together: Num3, Num4, Num5, Num6, Tm1, Tm2, Tm3, Tm4, Tm5, Tm6, Tm7, Tm8, Tm9, Tm10, Tm11, Ma1, Ma2, U1, U2, U3, U4, U5, U6, U7, MaV, Ma8, Ma9, MaA, Mb1, Mb2, Mb3, Mb3A, Mb3B, Mb3C, Mb3D, Mb3E, Mb4, Mb5, Cp1, Cp2, Cq1, Cp3, Cp4, Cp5, Cp6, Cp7, Cp8, Cp9, Rms, Awake5, Lw5c. -/
import Derived.Test.YtleikacgncpfbaaDoorMg
import Derived.Test.YtleikacgncpfbaaDoorRows

/- Numbers of any size: the reference's plain numbers; which are the same; numbers that fit into a word. -/
set_option maxRecDepth 100000
namespace Go.Proofs.YtleikacgncpfbaaDoor
open Go Go.Den
/-! ### the reference's numbers without noughts -/
def rnormS (a : Nm) : Nm := (a.1 && decide (0 < (lim (val (a.2.getD []))).length), nz (lim (val (a.2.getD []))))
noncomputable def pRnorm : Pol := .still (p1 cN eN (fun a => few a.2) rnormS)
theorem qgx {pol : FuncId → Pol} {a : Nm} {cs : List AV} {H : Heap} (hB : Go.Den.Box H 0 2 40 [.bool a.1, eD a.2]) (hf : (a.2.getD []).length ≤ 1000000) : ∀ i, i ≤ (a.2.getD []).length →
    LDoes (L35_0 pol) ⟨[.ptr 0 0 0 0, .int .i64 i], [cs]⟩ H 0 ⟨[.ptr 0 0 0 0, .int .i64 (lim (val ((a.2.getD []).take i))).length], [cs]⟩ H := by
  intro i
  induction i with
  | zero =>
    intro _
    refine LDoes.step (Evs.of fun n m => ?_)
    simp [↓q00, ↓q01, ↓q04, ↓q03, q62, val, q0x]
  | succ i ih =>
    intro hi
    have hx := q9y (d := a.2) (H := H) (k := .i64) (i := i) (by omega)
    have hp : (0 : Int) < (i : Int) + 1 := by omega
    by_cases h0 : (a.2.getD [])[i] = 0
    · have h0' : ((a.2.getD [])[i]).toNat = 0 := by rw [h0]; rfl
      refine LDoes.step (Evs.withL (ih (by omega)) (Evs.of fun n m h1 h2 => ?_))
      rw [q7g (by omega), if_pos h0]
      simp (disch := omega) [↓q00, ↓q01, ↓q04, ↓q03, q62, hp, q0o, hB.fa, hB.load, hx, h0', h2]
    · have h0' : ¬ ((a.2.getD [])[i]).toNat = 0 := fun e => h0 (UInt32.toNat_inj.1 (by simpa using e))
      refine LDoes.step (Evs.of fun n m => ?_)
      rw [q7g (by omega), if_neg h0]
      simp (disch := omega) [↓q00, ↓q01, ↓q04, ↓q03, q62, hp, q0o, hB.fa, hB.load, hx, h0']
theorem qe4 : PolOK base 35 pRnorm := still1 base_ok [] trivial fun a hf => by
  unfold few at hf
  have hB : Go.Den.Box [.row 0 2 40 [eN a]] 0 2 40 [.bool a.1, eD a.2] := rfl
  have hL := qgx (pol := polT []) (cs := [.bool false, .nils]) hB hf _ (Nat.le_refl _)
  refine Evs.withL hL (Evs.of fun n m h1 _ => ?_)
  rw [List.take_length] at h1
  have hle := q2i (a.2.getD [])
  have hs : A.slice 1 (eD a.2) none (some (.int .i64 ((lim (val (a.2.getD []))).length : Nat))) none [.row 0 2 40 [eN a]] = some (eD (a.2.map fun _ => lim (val (a.2.getD [])))) := by
    cases h : a.2 with
    | none => simp [val, q0x, eL, A.slice, A.bound]
    | some l =>
      rw [h] at hle
      simp only [Option.getD_some] at hle
      simp [eL, A.slice, A.bound, hle]
      rw [← List.map_take, qg0]
  have hr : ((a.2.map fun _ => lim (val (a.2.getD []))).getD []) = lim (val (a.2.getD [])) := by
    cases a.2 <;> simp [val, q0x]
  unfold rnormS
  generalize hl : lim (val (a.2.getD [])) = l at *
  have hap : ∃ v H', A.append 1 4 59 .nils (l.map eu) [.row 0 2 40 [eN a]] = some (v, H') ∧ A.freezeB true 64 H' (.agg [.bool (a.1 && decide (0 < l.length)), v]) = some (eN (a.1 && decide (0 < l.length), nz l)) ∧ v.cells = [v] ∧ v.isDef = true ∧ v.one = true := by
    cases l with
    | nil => exact ⟨.nils, _, rfl, by simp [nz]; exact frz_eN (d := none), rfl, rfl, rfl⟩
    | cons x l =>
      refine ⟨_, _, nil_append (news := (x :: l).map eu) (by simp) (by omega) (by simp only [List.length_map]; omega), ?_, rfl, rfl, rfl⟩
      have := qi0 (H := [.row 0 2 40 [eN a]] ++ [.row 0 1 59 ((x :: l).map eu)]) (id := 1) (ver := 0) (n := (x :: l).length) (cap := (x :: l).length) (ty := 59) (l := x :: l) (b := a.1 && decide (0 < (x :: l).length)) rfl rfl
      simp only [List.length_map]
      exact this
  obtain ⟨v, H', ha1, ha2, ha3, ha4, ha5⟩ := hap
  cases hb : a.1
  · rw [hb] at ha2
    simp only [Bool.false_and] at ha2
    simp [↓q06, ↓q0a, ↓q09, ↓q01, ↓q04, ↓q0b, ↓q0i, ↓q03, ↓q07, ↓q05, S35, hB.fa, hB.load, h1, hb, hs, q0v q2v, hr, ha1, A.fill, A.splice, ha3, ha4, A.fits, ha5, AV.heapy, A.ofList, ha2]
  · rw [hb] at ha2
    simp only [Bool.true_and] at ha2
    simp [↓q06, ↓q0a, ↓q09, ↓q01, ↓q04, ↓q0b, ↓q0i, ↓q03, ↓q07, ↓q05, S35, hB.fa, hB.load, h1, hb, hs, q0v q2v, hr, ha1, A.fill, A.splice, ha3, ha4, A.fits, ha5, AV.heapy, A.ofList, ha2]
theorem kRnorm {R : Type} {a : Nm} (hf : few a.2) {H : Heap} {k : AV → Heap → Option R} : polK pRnorm [eN a] H k = k (eN (rnormS a)) H := by
  simp [pRnorm, q0c, hf]
def sameS (a b : Nm) : Bool := decide (a.1 = b.1 ∧ a.2.getD [] = b.2.getD [])
noncomputable def pSame : Pol := .still (p2 cN cN .bool (fun a b => few a.2 ∧ few b.2) sameS)
theorem same_loop {pol : FuncId → Pol} {a b : Nm} {H : Heap} {p q : Nat} (hA : Go.Den.Box H p 2 40 [.bool a.1, eD a.2]) (hB : Go.Den.Box H q 2 40 [.bool b.1, eD b.2]) (hl : (a.2.getD []).length = (b.2.getD []).length) (hf : (a.2.getD []).length ≤ 1000000) : ∀ k i, k + i = (a.2.getD []).length →
    LDoes (L34_0 pol) ⟨[.ptr p 0 0 0, .ptr q 0 0 0, .int .i64 (i : Nat)], []⟩ H (if (a.2.getD []).drop i = (b.2.getD []).drop i then 0 else 1) ⟨[if (a.2.getD []).drop i = (b.2.getD []).drop i then .undef else .bool false], []⟩ H := by
  intro k
  induction k with
  | zero =>
    intro i hi
    have e : (a.2.getD []).drop i = (b.2.getD []).drop i := by rw [List.drop_of_length_le (by omega), List.drop_of_length_le (by omega)]
    rw [if_pos e, if_pos e]
    refine LDoes.step (Evs.of fun n m => ?_)
    have : ¬ i < (a.2.getD []).length := by omega
    simp [↓q00, ↓q01, q61, hA.fa, hA.load, this]
  | succ k ih =>
    intro i hi
    have hx := q9y (d := a.2) (H := H) (k := .i64) (i := i) (by omega)
    have hy := q9y (d := b.2) (H := H) (k := .i64) (i := i) (by omega)
    have hlt : i < (a.2.getD []).length := by omega
    have d1 := List.drop_eq_getElem_cons (l := a.2.getD []) (i := i) (by omega)
    have d2 := List.drop_eq_getElem_cons (l := b.2.getD []) (i := i) (by omega)
    have hih := ih (i + 1) (by omega)
    by_cases h0 : (a.2.getD [])[i] = (b.2.getD [])[i]
    · have e : ((a.2.getD []).drop i = (b.2.getD []).drop i) ↔ ((a.2.getD []).drop (i + 1) = (b.2.getD []).drop (i + 1)) := by
        rw [d1, d2, h0]
        exact ⟨fun h => (List.cons.inj h).2, fun h => by rw [h]⟩
      simp only [e]
      refine LDoes.step (Evs.withL hih (Evs.of fun n m _ h2 => ?_))
      simp only [Int.natCast_add, Int.natCast_one] at h2
      simp (disch := omega) [↓q00, ↓q01, q61, hA.fa, hA.load, hB.fa, hB.load, hlt, hx, hy, h0, q0o, h2]
    · have e : ¬ (a.2.getD []).drop i = (b.2.getD []).drop i := by
        rw [d1, d2]
        exact fun h => h0 (List.cons.inj h).1
      rw [if_neg e, if_neg e]
      have h0' : ¬ (((a.2.getD [])[i]).toNat : Int) = ((b.2.getD [])[i]).toNat := fun e => h0 (UInt32.toNat_inj.1 (by omega))
      refine LDoes.step (Evs.of fun n m => ?_)
      simp (disch := omega) [↓q00, ↓q01, q61, hA.fa, hA.load, hB.fa, hB.load, hlt, hx, hy, h0']
theorem okSame : PolOK base 34 pSame := still2 base_ok [] trivial fun a b ⟨ha, hb⟩ => by
  unfold few at ha hb
  have hA1 : Go.Den.Box [.row 0 2 40 [eN a]] 0 2 40 [.bool a.1, eD a.2] := rfl
  have hA : Go.Den.Box [.row 0 2 40 [eN a], .row 0 2 40 [eN b]] 0 2 40 [.bool a.1, eD a.2] := rfl
  have hB : Go.Den.Box [.row 0 2 40 [eN a], .row 0 2 40 [eN b]] 1 2 40 [.bool b.1, eD b.2] := rfl
  by_cases hs : a.1 = b.1
  · by_cases hl : (a.2.getD []).length = (b.2.getD []).length
    · refine Evs.withL (same_loop (pol := polT []) hA hB hl ha _ 0 rfl) (Evs.of fun n m h1 _ => ?_)
      simp only [List.drop_zero, Int.cast_ofNat_Int] at h1
      by_cases he : a.2.getD [] = b.2.getD []
      · simp only [he, if_true] at h1
        simp [↓q00, ↓q06, ↓q09, ↓q01, ↓q04, ↓q03, ↓q07, ↓q05, S34, hA.fa, hA.load, hB.fa, hB.load, A.bin_bne q8z, hs, h1, sameS, he]
      · simp only [he, if_false] at h1
        simp [↓q00, ↓q06, ↓q09, ↓q01, ↓q04, ↓q03, ↓q07, ↓q05, S34, hA.fa, hA.load, hB.fa, hB.load, A.bin_bne q8z, hs, hl, h1, sameS, he]
    · refine Evs.of fun n m => ?_
      have hl' : ¬ ((a.2.getD []).length : Int) = (b.2.getD []).length := by omega
      have he : ¬ a.2.getD [] = b.2.getD [] := fun e => hl (by rw [e])
      simp [↓q00, ↓q06, ↓q09, ↓q01, ↓q04, ↓q03, ↓q05, S34, hA.fa, hA.load, hB.fa, hB.load, A.bin_bne q8z, hs, hl', sameS, he]
  · refine Evs.of fun n m => ?_
    have hs' : (a.1 == b.1) = false := by simpa using hs
    simp [↓q00, ↓q06, ↓q09, ↓q01, ↓q04, ↓q03, ↓q05, S34, hA.fa, hA.load, hB.fa, hB.load, A.bin_bne q8z, hs, hs', sameS]
theorem kSame {R : Type} {a b : Nm} (ha : few a.2) (hb : few b.2) {H : Heap} {k : AV → Heap → Option R} : polK pSame [eN a, eN b] H k = k (.bool (sameS a b)) H := by
  simp [pSame, q0c, ha, hb]
def rofS (n : Int) : Nm := rnormS (decide (n < 0), some (digs 2 n.natAbs))
noncomputable def pRof : Pol := .still (p1 (cI .i64) eN (fun n => -9223372036854775808 ≤ n ∧ n ≤ 9223372036854775807) rofS)
theorem okRof : PolOK base 36 pRof := still1 base_ok [(35, pRnorm)] ⟨qe4, trivial⟩ fun z ⟨h1, h2⟩ => by
  refine Evs.of fun n m => ?_
  have hm : ∀ (x y : UInt32) (b : Bool) (k : AV → Heap → Option AV), polK pRnorm [.agg [.bool b, .sl 0 0 0 2 2]] [.row 0 1 59 [eu x, eu y]] k = k (eN (rnormS (b, some [x, y]))) (bif (eN (rnormS (b, some [x, y]))).flat then [.row 0 1 59 [eu x, eu y]] else kill ([AV.agg [.bool b, .sl 0 0 0 2 2]].flatMap (reach 64 [.row 0 1 59 [eu x, eu y]])) [.row 0 1 59 [eu x, eu y]]) := fun x y b k => by
    unfold pRnorm
    have hz : q10 [.row 0 1 59 [eu x, eu y]] [.agg [.bool b, .sl 0 0 0 2 2]] = some [.agg [.bool b, eD (some [x, y])]] := q2y (qi0 (l := [x, y]) rfl rfl) rfl
    rw [qbi hz]
    have hf : few (some [x, y]) := by simp [few]
    simp [hf]
  have hu : ∃ u : Nat, u = z.natAbs ∧ u < 18446744073709551616 := ⟨_, rfl, by omega⟩
  obtain ⟨u, hu1, hu2⟩ := hu
  have hs' : A.bin base.P .shr 82 (.int .u64 (u : Int)) (.int .u64 32) true [] = some (.int .u64 ((u / 4294967296 : Nat) : Int)) := shr_u64 (P := base.P) (t := 82) (c := true) (H := []) (a := u) (s := 32) (j := .u64) (by omega)
  have hlo : IntKind.wrap .u32 (u : Int) = (UInt32.ofNat u).toNat := qag u
  have hhi : IntKind.wrap .u32 ((u / 4294967296 : Nat) : Int) = (UInt32.ofNat (u / 4294967296)).toNat := qag _
  have hone : ∀ x y : UInt32, A.fillElems 1 [AV.int .u32 0, .int .u32 0] [(0, 1, eu x), (1, 1, eu y)] = some [eu x, eu y] := fun x y => by simp [A.fillElems]
  have hd : digs 2 z.natAbs = [UInt32.ofNat u, UInt32.ofNat (u / 4294967296)] := by rw [← hu1]; rfl
  unfold rofS
  rw [hd]
  generalize UInt32.ofNat u = lo at *
  generalize UInt32.ofNat (u / 4294967296) = hi at *
  generalize u / 4294967296 = u1 at *
  by_cases hz : z < 0
  · have hw : IntKind.wrap .u64 (-IntKind.wrap .u64 z) = u := by
      simp only [IntKind.wrap, IntKind.bits, IntKind.signed]
      simp
      omega
    simp [↓q00, ↓q06, ↓q0a, ↓q09, ↓q01, ↓q0b, ↓q07, ↓q05, S36, q9q, hz, A.un, hw, qev, hlo, hs', hhi, hone, hm, A.fill, A.fits, A.splice, A.ofList]
  · have hw : IntKind.wrap .u64 z = u := by rw [q3o (by omega) (by omega)]; omega
    simp [↓q00, ↓q06, ↓q0a, ↓q09, ↓q01, ↓q0b, ↓q07, ↓q05, S36, q9q, hz, hw, qev, hlo, hs', hhi, hone, hm, A.fill, A.fits, A.splice, A.ofList]
theorem kRof {R : Type} {n : Int} (h1 : -9223372036854775808 ≤ n) (h2 : n ≤ 9223372036854775807) {H : Heap} {k : AV → Heap → Option R} : polK pRof [.int .i64 n] H k = k (eN (rofS n)) H := by
  simp [pRof, q0c, h1, h2]
end Go.Proofs.YtleikacgncpfbaaDoor

/- Numbers of any size: numbers that fit into a word; by one limb; products. -/
set_option maxRecDepth 100000
namespace Go.Proofs.YtleikacgncpfbaaDoor
open Go Go.Den
/-! ### words -/
def fitsS (n : Int) : Bool := decide (-576460752303423488 ≤ n ∧ n ≤ 576460752303423487)
noncomputable def pFits : Pol := .still (p1 (cI .i64) .bool (fun _ => True) fitsS)
def smallV (b : Bool) (N : Nat) : Int × Bool := if fitsS (if b then -(N : Int) else N) then ((if b then -(N : Int) else N), true) else (0, false)
def smallS (a : Nm) : Int × Bool := smallV a.1 (val (a.2.getD []))
noncomputable def pSmall : Pol := .still (p1 cN (fun r : Int × Bool => .tup [.int .i64 r.1, .bool r.2]) (fun a => few a.2) smallS)
end Go.Proofs.YtleikacgncpfbaaDoor

/- Numbers of any size: whole numbers. -/
set_option maxRecDepth 100000
set_option maxHeartbeats 2000000
namespace Go.Proofs.YtleikacgncpfbaaDoor
open Go Go.Den
def mag (a : Nm) : Nat := val (a.2.getD [])
def sgn (b : Bool) (n : Nat) : Int := if b then -(n : Int) else n
def toI (a : Nm) : Int := sgn a.1 (mag a)
def Rep (a : Nm) (z : Int) : Prop := a.1 = decide (z < 0) ∧ a.2.getD [] = lim z.natAbs
theorem Rep.same {a b : Nm} {z : Int} (h : Rep a z) (g : Rep b z) : sameS a b = true := by
  unfold sameS
  rw [h.1, h.2, g.1, g.2]
  simp
theorem Rep.inj {a b : Nm} {y z : Int} (h : Rep a y) (g : Rep b z) (hs : sameS a b = true) : y = z := by
  unfold sameS at hs
  have hs := of_decide_eq_true hs
  obtain ⟨h1, h2⟩ := hs
  rw [h.2, g.2] at h2
  have := lim_inj h2
  have h3 : (y < 0) = (z < 0) := by
    have e := h.1.symm.trans (h1.trans g.1)
    exact propext ⟨fun hy => of_decide_eq_true (by rw [← e]; exact decide_eq_true hy), fun hz => of_decide_eq_true (by rw [e]; exact decide_eq_true hz)⟩
  have h4 : y < 0 ↔ z < 0 := by rw [h3]
  omega
theorem Rep.toI {a : Nm} {z : Int} (h : Rep a z) : toI a = z := by
  unfold Go.Proofs.YtleikacgncpfbaaDoor.toI mag sgn
  rw [h.2, q3l, h.1]
  by_cases hz : z < 0
  · rw [if_pos (decide_eq_true hz)]; omega
  · rw [if_neg (by simpa using hz)]; omega
theorem qfu (p : Bool) (d : Option (List UInt32)) : Rep (madeS p d) (sgn p (val (d.getD []))) := by
  have e : 0 < (lim (val (d.getD []))).length ↔ val (d.getD []) ≠ 0 := by
    rw [List.length_pos_iff]
    exact not_congr lim_nil
  unfold madeS Rep sgn
  refine ⟨?_, ?_⟩
  · dsimp only
    rw [q7d]
    cases p
    · simp
    · by_cases h : val (d.getD []) = 0
      · simp [h, q0x]
      · have h1 : 0 < (lim (val (d.getD []))).length := e.2 h
        have h2 : -(val (d.getD []) : Int) < 0 := by omega
        simp only [Bool.true_and, if_true]
        rw [decide_eq_true h1, decide_eq_true h2]
  · dsimp only
    rw [q7d]
    cases p
    · simp
    · simp
theorem q7l (a : Nm) : Rep (normS a) (toI a) := qfu _ _
theorem rep_rnorm (a : Nm) : Rep (rnormS a) (toI a) := by
  have h := qfu a.1 a.2
  unfold Rep madeS at h
  unfold Rep rnormS
  dsimp only at h ⊢
  rw [q7d] at h
  exact ⟨h.1, by rw [q3z]; exact h.2⟩
theorem val_digs2 {n : Nat} (h : n < 18446744073709551616) : val (digs 2 n) = n := q91 (by simpa using h)
theorem rep_rof {z : Int} (h1 : -9223372036854775808 ≤ z) (h2 : z ≤ 9223372036854775807) : Rep (rofS z) z := by
  have h := rep_rnorm (decide (z < 0), some (digs 2 z.natAbs))
  have e : toI (decide (z < 0), some (digs 2 z.natAbs)) = z := by
    unfold toI mag sgn
    simp only [Option.getD_some]
    rw [val_digs2 (by omega)]
    by_cases hz : z < 0
    · rw [if_pos (decide_eq_true hz)]; omega
    · rw [if_neg (by simpa using hz)]; omega
  rw [e] at h
  exact h
theorem q4i (a : Nm) : toI (normS a) = toI a := (q7l a).toI
theorem qc2 {a b : Nm} : sizeS (normS a).2 (normS b).2 = cmpN (mag (normS a)) (mag (normS b)) := by
  rw [sizeS_lim (x := mag a) (y := mag b) q5p q5p]
  unfold mag
  rw [q5p, q5p, q3l, q3l]
theorem qgf (a b : Nm) : q5e a b = cmpI (toI a) (toI b) := by
  have hsz := qc2 (a := a) (b := b)
  have hsz2 := qc2 (a := b) (b := a)
  have ra := q7l a
  have rb := q7l b
  rw [← q4i a, ← q4i b]
  unfold q5e
  unfold Rep at ra rb
  rw [← q4i a] at ra
  rw [← q4i b] at rb
  generalize normS a = x at *
  generalize normS b = y at *
  obtain ⟨p, d⟩ := x
  obtain ⟨q, e⟩ := y
  unfold mag at hsz hsz2
  unfold toI mag sgn at *
  dsimp only at *
  rw [hsz, hsz2]
  have r1 := ra.1
  have r2 := rb.1
  generalize val (d.getD []) = m at *
  generalize val (e.getD []) = n at *
  cases p <;> cases q <;> simp at r1 r2 ⊢ <;> (try unfold cmpN) <;> unfold cmpI <;> (repeat' split) <;> omega
end Go.Proofs.YtleikacgncpfbaaDoor

/- Numbers of any size: the reference's words. -/
set_option maxRecDepth 100000
set_option maxHeartbeats 2000000
namespace Go.Proofs.YtleikacgncpfbaaDoor
open Go Go.Den
noncomputable def pSmallof : Pol := .still (p1 cN (fun r : Int × Bool => .tup [.int .i64 r.1, .bool r.2]) (fun a => few a.2) smallS)
end Go.Proofs.YtleikacgncpfbaaDoor

/- Terms: is one small? -/
set_option maxRecDepth 100000
set_option maxHeartbeats 2000000
namespace Go.Proofs.YtleikacgncpfbaaDoor
open Go Go.Den
mutual
def roomS : Tm → Int → Int → Bool
  | .mk _ _ d s _ l b, dep, most => !(decide (dep < 0) || decide (most < (l.getD []).length) || decide (5000 < (b.getD []).length) || decide (100 < (d.getD []).length) || decide (1100 < s.length)) && roomSo l (dep - 1) most
def roomSo : Option (List Tm) → Int → Int → Bool
  | none, _, _ => true
  | some l, dep, most => roomSs l dep most
def roomSs : List Tm → Int → Int → Bool
  | [], _, _ => true
  | t :: l, dep, most => roomS t dep most && roomSs l dep most
end
theorem qa7 : ∀ (l : List Tm) (dep most : Int), roomSs l dep most = l.all fun t => roomS t dep most
  | [], _, _ => by rw [roomSs]; rfl
  | t :: l, dep, most => by rw [roomSs, qa7 l]; rfl
theorem q4e (t : Tm) (dep most : Int) : roomS t dep most = (!(decide (dep < 0) || decide (most < (t.kids.length : Int)) || decide (5000 < (t.b.getD []).length) || decide (100 < (t.d.getD []).length) || decide (1100 < t.name.length)) && t.kids.all fun u => roomS u (dep - 1) most) := by
  cases t with
  | mk k x d s n l b =>
    rw [roomS]
    cases l with
    | none => rw [roomSo]; rfl
    | some l => rw [roomSo, qa7]; rfl
theorem q17 {t : Tm} {H : Heap} : A.load true 7 (.rop (eT t).cells) H = some (eT t) := by
  rw [q02, q3c]
  rfl
theorem q6w (t : Tm) (H : Heap) (b : Nat) (h : H[b]? = some (.row 0 7 26 [eT t])) : Go.Den.Box H b 7 26 (eT t).cells := by
  rw [q3c] at h
  rw [q02]
  exact h
noncomputable def pRoom (n : Nat) : Pol := .still (p3 cT (cI .i64) (cI .i64) .bool (fun t dep most => t.size ≤ n ∧ -1 ≤ dep ∧ dep ≤ 1000 ∧ most ≤ 1000) roomS)
theorem kRoom {n : Nat} {R : Type} {t : Tm} {dep most : Int} (h : t.size ≤ n) (h0 : -1 ≤ dep) (h1 : dep ≤ 1000) (h2 : most ≤ 1000) {H : Heap} {k : AV → Heap → Option R} : polK (pRoom n) [eT t, .int .i64 dep, .int .i64 most] H k = k (.bool (roomS t dep most)) H := by
  simp [pRoom, q0c, h, h0, h1, h2]
theorem room_loop {n : Nat} {t : Tm} {dep most : Int} {H : Heap} (hs : t.size ≤ n + 1) (h0 : 0 ≤ dep) (h1 : dep ≤ 1000) (h2 : most ≤ 1000) (hl : t.kids.length ≤ 1000) (hB : Go.Den.Box H 0 7 26 (eT t).cells) : ∀ (k i : Nat), i + k = t.kids.length →
    LDoes (L16_0 (polT [(16, pRoom n)])) ⟨[.int .i64 dep, .int .i64 most, .ptr 0 0 0 0, .int .i64 (i : Int)], []⟩ H (if (t.kids.drop i).all fun u => roomS u (dep - 1) most then 0 else 1) ⟨[if (t.kids.drop i).all fun u => roomS u (dep - 1) most then .undef else .bool false], []⟩ H := by
  have p1 := hB.fa (o := 5)
  have p2 := hB.load (o := 5)
  rw [q02] at p2
  simp only [List.getElem?_cons_succ, List.getElem?_cons_zero] at p2
  have hk : t.l.getD [] = t.kids := rfl
  intro k
  induction k with
  | zero =>
    intro i hi
    have : i = t.kids.length := by omega
    subst this
    rw [List.drop_length]
    refine LDoes.step (Evs.of fun n m => ?_)
    simp [↓q00, ↓q01, q5z, p1, p2, hk]
  | succ k ih =>
    intro i hi
    have hlt : i < t.kids.length := by omega
    have hx := q4n (sz := 7) (e := eT) (o := t.l) (H := H) (k := .i64) (i := i) hlt
    have hw : IntKind.wrap .i64 (dep - 1) = dep - 1 := q0o (by omega) (by omega)
    have hi1 : IntKind.wrap .i64 ((i : Int) + 1) = (i : Int) + 1 := q0o (by omega) (by omega)
    have hsz : (t.kids[i]).size ≤ n := by
      have := Tm.size_kid (t := t) (u := t.kids[i]) (List.getElem_mem hlt)
      omega
    have hr : ∀ (k : AV → Heap → Option (Nat × Live × Heap)), polK (pRoom n) [eT t.kids[i], .int .i64 (dep - 1), .int .i64 most] H k = k (.bool (roomS t.kids[i] (dep - 1) most)) H := fun k => kRoom hsz (by omega) (by omega) h2
    have hd : t.kids.drop i = t.kids[i] :: t.kids.drop (i + 1) := List.drop_eq_getElem_cons hlt
    rw [hd, List.all_cons]
    have hxx : A.idx 7 (eL 7 eT t.l) (.int .i64 (i : Int)) H = some (.rop (eT t.kids[i]).cells) := hx
    have hld := q17 (t := t.kids[i]) (H := H)
    have ih1 := ih (i + 1) (by omega)
    simp only [Int.natCast_add, Int.natCast_one] at ih1
    have hlt' : (i : Int) < (t.kids.length : Int) := by omega
    generalize (t.kids.drop (i + 1)).all (fun u => roomS u (dep - 1) most) = rest at *
    generalize (eT t.kids[i]).cells = cs at *
    cases hq : roomS t.kids[i] (dep - 1) most
    · refine LDoes.step (Evs.of fun n m => ?_)
      rw [hq] at hr
      simp [↓q00, ↓q01, q5z, p1, p2, hk, hlt, hxx, hld, hw, hr]
    · refine LDoes.step (Evs.withL ih1 (Evs.of fun n m _ h2 => ?_))
      rw [hq] at hr
      simp [↓q00, ↓q01, q5z, p1, p2, hk, hlt, hxx, hld, hw, hr, hi1, h2]
end Go.Proofs.YtleikacgncpfbaaDoor

/- Terms: is one small: the entry. -/
set_option maxRecDepth 100000
set_option maxHeartbeats 2000000
namespace Go.Proofs.YtleikacgncpfbaaDoor
open Go Go.Den
theorem okRoom : ∀ n, PolOK base 16 (pRoom n)
  | 0 => still3 base_ok [] trivial fun t dep most ⟨hs, _⟩ => by
    have := t.size_eq
    omega
  | n + 1 => still3 base_ok [(16, pRoom n)] ⟨okRoom n, trivial⟩ fun t dep most ⟨hs, h0, h1, h2⟩ => by
    have hB := q6w t [.row 0 7 26 [eT t]] 0 rfl
    have p := fun o => hB.fa (o := o)
    have q := fun o => hB.load (o := o)
    rw [q02] at q
    have q5 := q 5
    have q6 := q 6
    have q2 := q 2
    have q3 := q 3
    simp only [List.getElem?_cons_succ, List.getElem?_cons_zero] at q5 q6 q2 q3
    have hk : t.l.getD [] = t.kids := rfl
    have hce : (eT t).cells.length = 7 := by rw [q02]; rfl
    rw [q4e]
    by_cases c1 : dep < 0
    · have hp : ((t.kids.length : Int) : Int) = t.kids.length := rfl
      refine Evs.of fun n m => ?_
      simp [↓q00, ↓q06, ↓q09, ↓q01, ↓q04, ↓q03, ↓q05, S16, c1]
    by_cases c2 : most < (t.kids.length : Int)
    · refine Evs.of fun n m => ?_
      simp [↓q00, ↓q06, ↓q09, ↓q01, ↓q04, ↓q03, ↓q05, S16, c1, p, q5, hk, c2]
    by_cases c3 : 5000 < (t.b.getD []).length
    · have c3' : (5000 : Int) < ((t.b.getD []).length : Int) := by omega
      refine Evs.of fun n m => ?_
      simp [↓q00, ↓q06, ↓q09, ↓q01, ↓q04, ↓q03, ↓q05, S16, c1, p, q5, hk, c2, q6, c3, c3']
    have c3' : ¬ (5000 : Int) < ((t.b.getD []).length : Int) := by omega
    by_cases c4 : 100 < (t.d.getD []).length
    · have c4' : (100 : Int) < ((t.d.getD []).length : Int) := by omega
      refine Evs.of fun n m => ?_
      simp [↓q00, ↓q06, ↓q09, ↓q01, ↓q04, ↓q03, ↓q05, S16, c1, p, q5, hk, c2, q6, c3, c3', q2, c4, c4']
    have c4' : ¬ (100 : Int) < ((t.d.getD []).length : Int) := by omega
    by_cases c5 : 1100 < t.name.length
    · have c5' : (1100 : Int) < (t.name.length : Int) := by omega
      refine Evs.of fun n m => ?_
      simp [↓q00, ↓q06, ↓q09, ↓q01, ↓q04, ↓q03, ↓q05, S16, c1, p, q5, hk, c2, q6, c3, c3', q2, c4, c4', q3, A.lenStr, c5, c5']
    have c5' : ¬ (1100 : Int) < (t.name.length : Int) := by omega
    have hL := room_loop (n := n) (t := t) (dep := dep) (most := most) hs (by omega) h1 h2 (by omega) hB t.kids.length 0 (by omega)
    rw [List.drop_zero] at hL
    refine Evs.withL hL (Evs.of fun n m h3 _ => ?_)
    simp only [Int.natCast_zero] at h3
    generalize t.kids.all (fun u => roomS u (dep - 1) most) = w at *
    cases w <;> simp [↓q00, ↓q06, ↓q09, ↓q01, ↓q04, ↓q03, ↓q07, ↓q05, S16, c1, p, q5, hk, c2, q6, c3, c3', q2, c4, c4', q3, A.lenStr, c5, c5', h3]
end Go.Proofs.YtleikacgncpfbaaDoor

/- Terms: the walk through a term. -/
set_option maxRecDepth 100000
set_option maxHeartbeats 2000000
namespace Go.Proofs.YtleikacgncpfbaaDoor
open Go Go.Den
def partsO (t : Tm) : Option (List Tm) := if t.kind = 4 ∨ t.kind = 6 then t.l else none
noncomputable def pParts : Pol := .still (p1 cT (fun o => eL 7 eT o) (fun _ => True) partsO)
theorem q1e : base.P.underlying 23 = some (.slice 26) := by kernel_rfl
def visitB {σ : Type} (ok go : σ → Tm → Bool) (step : σ → Tm → σ) : Nat → List Tm → σ → Option (σ × Bool)
  | _, [], s => some (s, true)
  | 0, _ :: _, _ => none
  | b + 1, x :: st, s => if ok s x then (if go s x then visitB ok go step b (((partsO x).getD []).reverse ++ st) (step s x) else some (step s x, false)) else none
def YDoes (T : List (FuncId × Pol)) (idl : Nat) (x : Tm) (H : Heap) (v : AV) (H' : Heap) : Prop :=
  ∃ N, ∀ n, N ≤ n → ∀ (R : Type) (k : AV → Heap → Option R), clV base (polT T) n (.yl idl) [eT x] H k = k v H'
end Go.Proofs.YtleikacgncpfbaaDoor

/- Terms: how many parts a term has. -/
set_option maxRecDepth 100000
set_option maxHeartbeats 2000000
namespace Go.Proofs.YtleikacgncpfbaaDoor
open Go Go.Den
noncomputable def pWalk : Pol := .prim (runF base [] 55)
noncomputable abbrev TTree1 : List (FuncId × Pol) := [(75, pParts)]
noncomputable def pWalkTree : Pol := .prim (runF base TTree1 77)
noncomputable def LDt (t : Tm) : LoopD := LD19 (eT t) (.int .i64 0) (.ptr 0 0 0 0) (eT t) (.fn (.func 77) [] [.ptr 1 0 0 0])
def InvT (t : Tm) (s : Nat) (H : Heap) : Prop := s ≤ 65536 ∧ H[0]? = some (.row 0 1 3 [.int .i64 (s : Int)]) ∧ H[2]? = some (.loop (LDt t))
def FinT (t : Tm) (s : Nat) (H : Heap) : Prop := s = 65537 ∧ H[0]? = some (.row 0 1 3 [.int .i64 (s : Int)]) ∧ H[2]? = some (.loop { LDt t with state := 2, pending := some (.exit 0) })
end Go.Proofs.YtleikacgncpfbaaDoor

/- Terms: how many parts a term has: the entry. -/
set_option maxRecDepth 100000
set_option maxHeartbeats 2000000
namespace Go.Proofs.YtleikacgncpfbaaDoor
open Go Go.Den
mutual
def szT : Tm → Nat
  | .mk k _ _ _ _ l _ => 1 + (if k = 4 ∨ k = 6 then szO l else 0)
def szO : Option (List Tm) → Nat
  | none => 0
  | some l => szs l
def szs : List Tm → Nat
  | [] => 0
  | t :: l => szT t + szs l
end
theorem szT_eq (t : Tm) : szT t = 1 + szs ((partsO t).getD []) := by
  cases t with
  | mk k x d s n l b =>
    rw [szT]
    unfold partsO Tm.kind Tm.l
    dsimp only
    split
    · cases l with
      | none => rw [szO]; rfl
      | some l => rw [szO]; rfl
    · rfl
noncomputable def pTree : Pol := .still (p1 cT (fun n : Nat => .int .i64 (n : Int)) (fun t => t.thin 1000) (fun t => min (szT t) 65537))
end Go.Proofs.YtleikacgncpfbaaDoor

/- Terms: how many words a term takes. -/
set_option maxRecDepth 100000
set_option maxHeartbeats 4000000
namespace Go.Proofs.YtleikacgncpfbaaDoor
open Go Go.Den
def wordsOne (x : Tm) : Nat :=
  if x.kind = 0 then (if (smallS (x.neg, x.d)).2 then 0 else 1 + ((normS (false, x.d)).2.getD []).length)
  else if x.kind = 6 then 1 + x.kids.length else if x.kind = 4 then 1 + x.kids.length else if x.kind = 7 then 4 else 0
noncomputable abbrev TWords1 : List (FuncId × Pol) := [(75, pParts), (58, pSmall), (59, pNorm)]
noncomputable def pWalkWords : Pol := .prim (runF base TWords1 77)
noncomputable def LDw (t : Tm) : LoopD := LD21 (eT t) (.int .i64 0) (.ptr 0 0 0 0) (eT t) (.fn (.func 77) [] [.ptr 1 0 0 0])
def okW (s : Nat × Nat) (x : Tm) : Bool := decide ((x.d.getD []).length ≤ 1000000) && decide (x.kids.length ≤ 1000) && decide (s.1 < 65537)
def InvW (t : Tm) (s : Nat × Nat) (H : Heap) : Prop := s.2 ≤ s.1 * 1000002 ∧ s.1 ≤ 65537 ∧ H[0]? = some (.row 0 1 3 [.int .i64 (s.2 : Int)]) ∧ H[2]? = some (.loop (LDw t))
end Go.Proofs.YtleikacgncpfbaaDoor

/- Terms: how many words a term takes: the entry. -/
set_option maxRecDepth 100000
set_option maxHeartbeats 4000000
namespace Go.Proofs.YtleikacgncpfbaaDoor
open Go Go.Den
mutual
def wT : Tm → Nat
  | .mk k x d s n l b => wordsOne (.mk k x d s n l b) + (if k = 4 ∨ k = 6 then wTo l else 0)
def wTo : Option (List Tm) → Nat
  | none => 0
  | some l => wTs l
def wTs : List Tm → Nat
  | [] => 0
  | t :: l => wT t + wTs l
end
noncomputable def pWords : Pol := .still (p1 cT (fun n : Nat => .int .i64 (n : Int)) (fun t => t.thin 1000 ∧ t.fewd ∧ szT t ≤ 65536) wT)
end Go.Proofs.YtleikacgncpfbaaDoor

/- Terms: numbers as terms, more. -/
set_option maxRecDepth 100000
set_option maxHeartbeats 2000000
namespace Go.Proofs.YtleikacgncpfbaaDoor
open Go Go.Den
def intT (a : Nm) : Tm := .mk 0 a.1 a.2 [] 0 none none
noncomputable def pTnum : Pol := .still (p1 cN eT (fun a => few a.2) fun a => intT (normS a))
noncomputable def pTint : Pol := .still (p1 (cI .i64) eT (fun n => -9223372036854775808 ≤ n ∧ n ≤ 9223372036854775807) fun n => intT (normS (ofS n)))
end Go.Proofs.YtleikacgncpfbaaDoor

/- Terms: the number that a term is. -/
set_option maxRecDepth 100000
set_option maxHeartbeats 2000000
namespace Go.Proofs.YtleikacgncpfbaaDoor
open Go Go.Den
def numOf (t : Tm) : Nm × Bool := if t.kind = 0 then (normS (t.neg, t.d), true) else ((false, none), false)
noncomputable def pTof : Pol := .still (p1 cT (fun r : Nm × Bool => .tup [eN r.1, .bool r.2]) (fun t => few t.d) numOf)
theorem okTof : PolOK base 32 pTof := still1 base_ok [(59, pNorm)] ⟨okNorm, trivial⟩ fun t hf => by
  have hk : ∀ (H : Heap) (k : AV → Heap → Option AV), polK pNorm [.agg [.bool t.neg, eD t.d]] H k = k (eN (normS (t.neg, t.d))) H := fun H k => kNorm (a := (t.neg, t.d)) hf
  have hz : ∀ (H : Heap) (N : Nm) (b : Bool), A.freezeB true 64 H (.tup [.agg [.bool N.1, eD N.2], .bool b]) = some (.tup [.agg [.bool N.1, eD N.2], .bool b]) := fun H N b => q6c (by simp)
  refine Evs.of fun n m => ?_
  unfold numOf
  by_cases c : t.kind = 0
  · rw [if_pos c]
    generalize normS (t.neg, t.d) = N at *
    simp [↓q00, ↓q0a, ↓q01, ↓q05, S32, c, hk, A.ofList, A.fill, A.fits, A.splice, hz]
  · rw [if_neg c]
    have hz0 := hz [] (false, none) false
    simp [↓q00, ↓q0a, ↓q01, ↓q05, S32, c, A.ofList, A.fill, A.fits, A.splice]
    exact hz0
theorem kTof {R : Type} {t : Tm} (h : few t.d) {H : Heap} {k : AV → Heap → Option R} : polK pTof [eT t] H k = k (.tup [eN (numOf t).1, .bool (numOf t).2]) H := by
  simp [pTof, q0c, h]
end Go.Proofs.YtleikacgncpfbaaDoor

/- Terms: may a number be one? -/
set_option maxRecDepth 100000
set_option maxHeartbeats 2000000
namespace Go.Proofs.YtleikacgncpfbaaDoor
open Go Go.Den
def isI (t : Tm) : Prop := ∃ a, t = intT a
noncomputable def pSpareI : Pol := .still (p1 cT .bool isI fun _ => true)
end Go.Proofs.YtleikacgncpfbaaDoor

/- Terms: a number in its plain form may be one. -/
set_option maxRecDepth 100000
set_option maxHeartbeats 2000000
namespace Go.Proofs.YtleikacgncpfbaaDoor
open Go Go.Den
def plainI (t : Tm) : Prop := ∃ a z, t = intT a ∧ Rep a z ∧ (a.2.getD []).length ≤ 64
noncomputable def pOneI : Pol := .still (p1 cT .bool plainI fun _ => true)
end Go.Proofs.YtleikacgncpfbaaDoor

/- Terms: what one is that may be, in plain words. -/
set_option maxRecDepth 100000
set_option maxHeartbeats 2000000
namespace Go.Proofs.YtleikacgncpfbaaDoor
open Go Go.Den
mutual
def evT (p : Tm → Prop) : Tm → Prop
  | .mk k x d s n l b => p (.mk k x d s n l b) ∧ evTo p l
def evTo (p : Tm → Prop) : Option (List Tm) → Prop
  | none => True
  | some l => evTs p l
def evTs (p : Tm → Prop) : List Tm → Prop
  | [] => True
  | t :: l => evT p t ∧ evTs p l
end
theorem qf1 {p : Tm → Prop} : ∀ {l : List Tm}, evTs p l ↔ ∀ u ∈ l, evT p u
  | [] => by simp [evTs]
  | t :: l => by rw [evTs, qf1 (l := l)]; simp
theorem qf0 {p : Tm → Prop} {t : Tm} : evT p t ↔ p t ∧ ∀ u ∈ t.kids, evT p u := by
  cases t with
  | mk k x d s n l b =>
    rw [evT]
    cases l with
    | none => rw [evTo]; simp [Tm.kids, Tm.l]
    | some l => rw [evTo, qf1]; rfl
theorem q4p {P : Tm → Prop} (h : ∀ t, (∀ u ∈ t.kids, P u) → P t) (t : Tm) : P t := by
  have : ∀ n, ∀ t : Tm, t.size ≤ n → P t := by
    intro n
    induction n with
    | zero =>
      intro t ht
      have := t.size_eq
      omega
    | succ n ih =>
      intro t ht
      exact h t fun u hu => ih u (by have := Tm.size_kid hu; omega)
  exact this t.size t (Nat.le_refl _)
def tameOne (u : Tm) : Prop := (u.d.getD []).length ≤ 1000000 ∧ u.name.length ≤ 1000000 ∧ u.kids.length ≤ 1000
def tame (t : Tm) : Prop := evT tameOne t
theorem tame_eq {t : Tm} : tame t ↔ tameOne t ∧ ∀ u ∈ t.kids, tame u := qf0
theorem tame_thin : ∀ t, tame t → t.thin 1000 := q4p fun t ih h => by
  rw [tame_eq] at h
  exact Tm.thin_eq.2 ⟨h.1.2.2, fun u hu => ih u hu (h.2 u hu)⟩
theorem q42 {most : Int} (hm : most ≤ 1000) : ∀ t dep, roomS t dep most = true → tame t := fun t => q4p (P := fun t => ∀ dep, roomS t dep most = true → tame t) (fun t ih dep h => by
  rw [q4e] at h
  simp only [Bool.and_eq_true, Bool.not_eq_true', Bool.or_eq_false_iff, decide_eq_false_iff_not, List.all_eq_true] at h
  obtain ⟨⟨⟨⟨⟨h1, h2⟩, h3⟩, h4⟩, h5⟩, h6⟩ := h
  exact tame_eq.2 ⟨⟨by omega, by omega, by omega⟩, fun u hu => ih u hu _ (h6 u hu)⟩) t
def spareS (t : Tm) : Bool :=
  (decide (t.kind = 0) || (!t.neg && decide ((t.d.getD []).length = 0))) && ((decide (t.kind = 3) || decide (t.kind = 2)) || decide (t.n = 0)) && ((decide (t.kind = 4) || decide (t.kind = 6)) || decide (t.kids.length = 0)) && (decide (t.kind = 1) || decide (t.name = [])) && (decide (t.kind = 7) || decide ((t.b.getD []).length = 0))
def plainN (neg : Bool) (d : List UInt32) : Bool := match d.getLast? with
  | none => !neg
  | some x => decide (x ≠ 0)
def oneS (cnt : List UInt8 → Int) (t : Tm) : Bool := spareS t && (
  if t.kind = 0 then decide ((t.d.getD []).length ≤ 64) && plainN t.neg (t.d.getD [])
  else if t.kind = 1 then decide (0 ≤ cnt t.name) && decide (cnt t.name ≤ 255)
  else if t.kind = 2 ∨ t.kind = 3 then decide (0 ≤ t.n) && decide (t.n ≤ 1073741824)
  else if t.kind = 4 then decide (t.kids.length ≤ 255)
  else if t.kind = 6 then decide (t.kids.length = 2)
  else if t.kind = 7 then decide ((t.b.getD []).length ≤ 4096)
  else decide (t.kind = 5))
mutual
def mayT (cnt : List UInt8 → Int) : Tm → Bool
  | .mk k x d s n l b => oneS cnt (.mk k x d s n l b) && (if k = 4 ∨ k = 6 then mayTo cnt l else true)
def mayTo (cnt : List UInt8 → Int) : Option (List Tm) → Bool
  | none => true
  | some l => mayTs cnt l
def mayTs (cnt : List UInt8 → Int) : List Tm → Bool
  | [] => true
  | t :: l => mayT cnt t && mayTs cnt l
end
theorem qcu {cnt : List UInt8 → Int} : ∀ l : List Tm, mayTs cnt l = l.all (mayT cnt)
  | [] => by simp [mayTs]
  | t :: l => by rw [mayTs, qcu l]; rfl
theorem q50 {cnt : List UInt8 → Int} (t : Tm) : mayT cnt t = (oneS cnt t && ((partsO t).getD []).all (mayT cnt)) := by
  cases t with
  | mk k x d s n l b =>
    rw [mayT]
    unfold partsO Tm.kind Tm.l
    dsimp only
    split
    · cases l with
      | none => rw [mayTo]; rfl
      | some l => rw [mayTo, qcu]; rfl
    · rfl
theorem lim_ends {n : Nat} {x : UInt32} (h : (lim n).getLast? = some x) : x ≠ 0 := by
  by_cases hn : n = 0
  · subst hn
    rw [q0x] at h
    cases h
  · obtain ⟨y, hy, h0⟩ := lim_last hn
    rw [h] at hy
    injection hy with hy
    rw [hy]
    exact h0
theorem q36 {neg : Bool} {d : Option (List UInt32)} : sameS (neg, d) (rnormS (neg, d)) = plainN neg (d.getD []) := by
  have hg : ∀ l : List UInt32, (nz l).getD [] = l := fun l => by cases l <;> rfl
  unfold sameS rnormS plainN
  dsimp only
  rw [hg]
  generalize d.getD [] = l
  cases h : l.getLast? with
  | none =>
    have : l = [] := List.getLast?_eq_none_iff.1 h
    subst this
    simp [val, q0x]
  | some x =>
    dsimp only
    by_cases hx : x = 0
    · have hne : ¬ l = lim (val l) := fun e => by
        rw [e] at h
        exact lim_ends h hx
      simp [hx, hne]
    · have e : lim (val l) = l := q75 (fun y hy => by
        rw [h] at hy
        injection hy with hy
        rw [← hy]
        exact hx)
      have hl : 0 < l.length := by
        cases l with
        | nil => cases h
        | cons => simp
      rw [e]
      simp [hx, hl]
end Go.Proofs.YtleikacgncpfbaaDoor

/- Terms: whether the fields that a kind does not use are zero. -/
set_option maxRecDepth 100000
set_option maxHeartbeats 4000000
namespace Go.Proofs.YtleikacgncpfbaaDoor
open Go Go.Den
noncomputable def pSpare : Pol := .still (p1 cT .bool (fun _ => True) spareS)
end Go.Proofs.YtleikacgncpfbaaDoor

/- Texts: bits; eight bytes as a word; the tables of what begins a sign. -/
set_option maxRecDepth 100000
set_option maxHeartbeats 4000000
namespace Go.Proofs.YtleikacgncpfbaaDoor
open Go Go.Den Go.Lib
/-! ### bits -/
def andI (k : IntKind) (a b : Int) : Int := k.wrap ((BitVec.ofInt k.bits a &&& BitVec.ofInt k.bits b).toNat : Int)
def orI (k : IntKind) (a b : Int) : Int := k.wrap ((BitVec.ofInt k.bits a ||| BitVec.ofInt k.bits b).toNat : Int)
theorem q0m {P : Program} {t : TypeId} {k : IntKind} {a b : Int} {c : Bool} {H : Heap} : A.bin P .and t (.int k a) (.int k b) c H = some (.int k (andI k a b)) := by
  simp [A.bin, A.binInt, A.bits, andI]
theorem q4r {P : Program} {t : TypeId} {k : IntKind} {a b : Int} {c : Bool} {H : Heap} : A.bin P .or t (.int k a) (.int k b) c H = some (.int k (orI k a b)) := by
  simp [A.bin, A.binInt, A.bits, orI]
theorem q7n {a b : Nat} (ha : a < 18446744073709551616) (hb : b < 18446744073709551616) : andI .u64 (a : Int) (b : Int) = ((a &&& b : Nat) : Int) := by
  unfold andI
  rw [show IntKind.bits .u64 = 64 from rfl, BitVec.toNat_and]
  simp
  rw [Nat.mod_eq_of_lt ha, Nat.mod_eq_of_lt hb]
  have := Nat.and_le_left (n := a) (m := b)
  exact q3o (by omega) (by omega)
theorem qfp {a b : Nat} (ha : a < 18446744073709551616) (hb : b < 18446744073709551616) : orI .u64 (a : Int) (b : Int) = ((a ||| b : Nat) : Int) := by
  unfold orI
  rw [show IntKind.bits .u64 = 64 from rfl, BitVec.toNat_or]
  simp
  rw [Nat.mod_eq_of_lt ha, Nat.mod_eq_of_lt hb]
  have : a ||| b < 2 ^ 64 := Nat.or_lt_two_pow (by simpa using ha) (by simpa using hb)
  exact q3o (by omega) (by omega)
theorem wrap_u8n {a : Nat} (h : a < 256) : IntKind.wrap .u8 (a : Int) = a := by
  simp [IntKind.wrap, IntKind.bits, IntKind.signed]
  omega
theorem andI_8 {a b : Nat} (ha : a < 256) (hb : b < 256) : andI .u8 (a : Int) (b : Int) = ((a &&& b : Nat) : Int) := by
  unfold andI
  rw [show IntKind.bits .u8 = 8 from rfl, BitVec.toNat_and]
  simp
  rw [Nat.mod_eq_of_lt ha, Nat.mod_eq_of_lt hb]
  have := Nat.and_le_left (n := a) (m := b)
  exact wrap_u8n (by omega)
theorem andI_7 {a : Nat} (ha : a < 256) : andI .u8 (a : Int) 7 = ((a % 8 : Nat) : Int) := by
  have := andI_8 (b := 7) ha (by omega)
  rw [Nat.and_two_pow_sub_one_eq_mod a 3] at this
  exact this
/-! ### texts -/
theorem q11 {s : List UInt8} {i : Nat} {k : IntKind} (h : i ≤ s.length) : A.sliceStr (.str s) (some (.int k (i : Int))) none = some (.str (s.drop i)) := by
  have e : (s.drop i).take (s.length - i) = s.drop i := List.take_of_length_le (by simp)
  simp [A.sliceStr, A.bound, h, e]
theorem q3x {s : List UInt8} : A.lenStr (.str s) = some (.int .i64 (s.length : Int)) := rfl
theorem q3f {s : List UInt8} {i : Nat} {k : IntKind} (h : i < s.length) : A.index (.str s) (.int k (i : Int)) = some (.int .u8 ((s.getD i 0).toNat : Int)) := by
  simp [A.index, h]
theorem cv_8_64 (n : Int) (j : IntKind) : Go.Den.convert base 5 82 (.int j n) = some (.int .u64 (IntKind.wrap .u64 n)) := q5f (x := .int .u8) (by kernel_rfl) (by kernel_rfl)
theorem q0r (n : Int) (j : IntKind) : Go.Den.convert base 5 3 (.int j n) = some (.int .i64 (IntKind.wrap .i64 n)) := q5f (x := .int .u8) (by kernel_rfl) (by kernel_rfl)
/-! ### eight bytes as a word -/
def wordN (s : List UInt8) : Nat := leNat (s.take 8)
theorem q3n (s : List UInt8) : wordN s < 18446744073709551616 := by
  have := leNat_lt (s.take 8)
  have h2 : (256 : Nat) ^ (s.take 8).length ≤ 256 ^ 8 := Nat.pow_le_pow_right (by omega) (by simp; omega)
  unfold wordN
  omega
noncomputable def pWord : Pol := .still (p1 cS (.int .u64) (fun s => 8 ≤ s.length) (fun s => (wordN s : Int)))
theorem kWord {R : Type} {s : List UInt8} (h : 8 ≤ s.length) {H : Heap} {k : AV → Heap → Option R} : polK pWord [.str s] H k = k (.int .u64 (wordN s : Nat)) H := by
  simp [pWord, q0c, h]
theorem okWord : PolOK base 106 pWord := still1 base_ok [] trivial fun s h => Evs.of fun n _ => by
  obtain ⟨c0, c1, c2, c3, c4, c5, c6, c7, r, rfl⟩ : ∃ c0 c1 c2 c3 c4 c5 c6 c7 r, s = c0 :: c1 :: c2 :: c3 :: c4 :: c5 :: c6 :: c7 :: r := by
    match s, h with
    | c0 :: c1 :: c2 :: c3 :: c4 :: c5 :: c6 :: c7 :: r, _ => exact ⟨c0, c1, c2, c3, c4, c5, c6, c7, r, rfl⟩
  have x0 : A.index (.str (c0 :: c1 :: c2 :: c3 :: c4 :: c5 :: c6 :: c7 :: r)) (.int .i64 0) = some (.int .u8 (c0.toNat : Int)) := rfl
  have x1 : A.index (.str (c0 :: c1 :: c2 :: c3 :: c4 :: c5 :: c6 :: c7 :: r)) (.int .i64 1) = some (.int .u8 (c1.toNat : Int)) := rfl
  have x2 : A.index (.str (c0 :: c1 :: c2 :: c3 :: c4 :: c5 :: c6 :: c7 :: r)) (.int .i64 2) = some (.int .u8 (c2.toNat : Int)) := rfl
  have x3 : A.index (.str (c0 :: c1 :: c2 :: c3 :: c4 :: c5 :: c6 :: c7 :: r)) (.int .i64 3) = some (.int .u8 (c3.toNat : Int)) := rfl
  have x4 : A.index (.str (c0 :: c1 :: c2 :: c3 :: c4 :: c5 :: c6 :: c7 :: r)) (.int .i64 4) = some (.int .u8 (c4.toNat : Int)) := rfl
  have x5 : A.index (.str (c0 :: c1 :: c2 :: c3 :: c4 :: c5 :: c6 :: c7 :: r)) (.int .i64 5) = some (.int .u8 (c5.toNat : Int)) := rfl
  have x6 : A.index (.str (c0 :: c1 :: c2 :: c3 :: c4 :: c5 :: c6 :: c7 :: r)) (.int .i64 6) = some (.int .u8 (c6.toNat : Int)) := rfl
  have x7 : A.index (.str (c0 :: c1 :: c2 :: c3 :: c4 :: c5 :: c6 :: c7 :: r)) (.int .i64 7) = some (.int .u8 (c7.toNat : Int)) := rfl
  have hw : wordN (c0 :: c1 :: c2 :: c3 :: c4 :: c5 :: c6 :: c7 :: r) = c0.toNat + 2 ^ 8 * c1.toNat + 2 ^ 16 * c2.toNat + 2 ^ 24 * c3.toNat + 2 ^ 32 * c4.toNat + 2 ^ 40 * c5.toNat + 2 ^ 48 * c6.toNat + 2 ^ 56 * c7.toNat := by
    simp only [wordN, List.take_succ_cons, List.take_zero, leNat]
    omega
  have l0 := c0.toNat_lt
  have l1 := c1.toNat_lt
  have l2 := c2.toNat_lt
  have l3 := c3.toNat_lt
  have l4 := c4.toNat_lt
  have l5 := c5.toNat_lt
  have l6 := c6.toNat_lt
  have l7 := c7.toNat_lt
  rw [hw]
  simp only [enc_cS]
  generalize (c0 :: c1 :: c2 :: c3 :: c4 :: c5 :: c6 :: c7 :: r) = s at *
  generalize c0.toNat = b0 at *
  generalize c1.toNat = b1 at *
  generalize c2.toNat = b2 at *
  generalize c3.toNat = b3 at *
  generalize c4.toNat = b4 at *
  generalize c5.toNat = b5 at *
  generalize c6.toNat = b6 at *
  generalize c7.toNat = b7 at *
  have w : ∀ b : Nat, b < 256 → IntKind.wrap .u64 (b : Int) = b := fun b hb => q3o (by omega) (by omega)
  have s1 : ∀ H, A.bin base.P .shl 82 (.int .u64 (b1 : Int)) (.int .u64 8) true H = some (.int .u64 ((2 ^ 8 * b1 : Nat) : Int)) := fun H => q55 (s := 8) (by omega) (by omega)
  have s2 : ∀ H, A.bin base.P .shl 82 (.int .u64 (b2 : Int)) (.int .u64 16) true H = some (.int .u64 ((2 ^ 16 * b2 : Nat) : Int)) := fun H => q55 (s := 16) (by omega) (by omega)
  have s3 : ∀ H, A.bin base.P .shl 82 (.int .u64 (b3 : Int)) (.int .u64 24) true H = some (.int .u64 ((2 ^ 24 * b3 : Nat) : Int)) := fun H => q55 (s := 24) (by omega) (by omega)
  have s4 : ∀ H, A.bin base.P .shl 82 (.int .u64 (b4 : Int)) (.int .u64 32) true H = some (.int .u64 ((2 ^ 32 * b4 : Nat) : Int)) := fun H => q55 (s := 32) (by omega) (by omega)
  have s5 : ∀ H, A.bin base.P .shl 82 (.int .u64 (b5 : Int)) (.int .u64 40) true H = some (.int .u64 ((2 ^ 40 * b5 : Nat) : Int)) := fun H => q55 (s := 40) (by omega) (by omega)
  have s6 : ∀ H, A.bin base.P .shl 82 (.int .u64 (b6 : Int)) (.int .u64 48) true H = some (.int .u64 ((2 ^ 48 * b6 : Nat) : Int)) := fun H => q55 (s := 48) (by omega) (by omega)
  have s7 : ∀ H, A.bin base.P .shl 82 (.int .u64 (b7 : Int)) (.int .u64 56) true H = some (.int .u64 ((2 ^ 56 * b7 : Nat) : Int)) := fun H => q55 (s := 56) (by omega) (by omega)
  have o1 := fun H => (q8n (x := b0) (y := b1) (s := 8) (by omega) (by omega) (P := base.P) (t := 82) (c := false) (H := H)).1
  have o2 := fun H => (q8n (x := b0 + 2 ^ 8 * b1) (y := b2) (s := 16) (by omega) (by omega) (P := base.P) (t := 82) (c := false) (H := H)).1
  have o3 := fun H => (q8n (x := b0 + 2 ^ 8 * b1 + 2 ^ 16 * b2) (y := b3) (s := 24) (by omega) (by omega) (P := base.P) (t := 82) (c := false) (H := H)).1
  have o4 := fun H => (q8n (x := b0 + 2 ^ 8 * b1 + 2 ^ 16 * b2 + 2 ^ 24 * b3) (y := b4) (s := 32) (by omega) (by omega) (P := base.P) (t := 82) (c := false) (H := H)).1
  have o5 := fun H => (q8n (x := b0 + 2 ^ 8 * b1 + 2 ^ 16 * b2 + 2 ^ 24 * b3 + 2 ^ 32 * b4) (y := b5) (s := 40) (by omega) (by omega) (P := base.P) (t := 82) (c := false) (H := H)).1
  have o6 := fun H => (q8n (x := b0 + 2 ^ 8 * b1 + 2 ^ 16 * b2 + 2 ^ 24 * b3 + 2 ^ 32 * b4 + 2 ^ 40 * b5) (y := b6) (s := 48) (by omega) (by omega) (P := base.P) (t := 82) (c := false) (H := H)).1
  have o7 := fun H => (q8n (x := b0 + 2 ^ 8 * b1 + 2 ^ 16 * b2 + 2 ^ 24 * b3 + 2 ^ 32 * b4 + 2 ^ 40 * b5 + 2 ^ 48 * b6) (y := b7) (s := 56) (by omega) (by omega) (P := base.P) (t := 82) (c := false) (H := H)).1
  clear hw
  generalize hv1 : b0 + 2 ^ 8 * b1 = v1 at *
  generalize hv2 : v1 + 2 ^ 16 * b2 = v2 at *
  generalize hv3 : v2 + 2 ^ 24 * b3 = v3 at *
  generalize hv4 : v3 + 2 ^ 32 * b4 = v4 at *
  generalize hv5 : v4 + 2 ^ 40 * b5 = v5 at *
  generalize hv6 : v5 + 2 ^ 48 * b6 = v6 at *
  generalize hv7 : v6 + 2 ^ 56 * b7 = v7 at *
  generalize 2 ^ 8 * b1 = y1 at *
  generalize 2 ^ 16 * b2 = y2 at *
  generalize 2 ^ 24 * b3 = y3 at *
  generalize 2 ^ 32 * b4 = y4 at *
  generalize 2 ^ 40 * b5 = y5 at *
  generalize 2 ^ 48 * b6 = y6 at *
  generalize 2 ^ 56 * b7 = y7 at *
  have w0 := w b0 l0
  have w1 := w b1 l1
  have w2 := w b2 l2
  have w3 := w b3 l3
  have w4 := w b4 l4
  have w5 := w b5 l5
  have w6 := w b6 l6
  have w7 := w b7 l7
  simp [↓q00, ↓q01, S106, x0, x1, x2, x3, x4, x5, x6, x7, cv_8_64, w0, w1, w2, w3, w4, w5, w6, w7, s1, s2, s3, s4, s5, s6, s7, o1, o2, o3, o4, o5, o6, o7]
theorem q93 (s : List UInt8) (h : 8 ≤ s.length) : andI .u64 (wordN s : Nat) 9259542123273814144 = 0 ↔ ∀ b ∈ s.take 8, b.toNat < 128 := by
  have e := q7n (a := wordN s) (b := 9259542123273814144) (q3n s) (by omega)
  have hl : (s.take 8).length = 8 := by simp; omega
  have hm := leNat_mask (s.take 8)
  rw [hl, maskN8] at hm
  have e' : andI .u64 (wordN s : Nat) 9259542123273814144 = ((wordN s &&& 9259542123273814144 : Nat) : Int) := e
  rw [e', ← hm]
  unfold wordN
  omega
theorem qh8 (s t : List UInt8) (h : 8 ≤ s.length) (g : 8 ≤ t.length) : andI .u64 (orI .u64 (wordN s : Nat) (wordN t : Nat)) 9259542123273814144 = 0 ↔ (∀ b ∈ s.take 8, b.toNat < 128) ∧ ∀ b ∈ t.take 8, b.toNat < 128 := by
  have ls := q3n s
  have lt := q3n t
  have lo : wordN s ||| wordN t < 2 ^ 64 := Nat.or_lt_two_pow (by simpa using ls) (by simpa using lt)
  have e : andI .u64 ((wordN s ||| wordN t : Nat) : Int) 9259542123273814144 = (((wordN s ||| wordN t) &&& 9259542123273814144 : Nat) : Int) := q7n (b := 9259542123273814144) (by omega) (by omega)
  have e1 : andI .u64 ((wordN s : Nat) : Int) 9259542123273814144 = ((wordN s &&& 9259542123273814144 : Nat) : Int) := q7n (b := 9259542123273814144) ls (by omega)
  have e2 : andI .u64 ((wordN t : Nat) : Int) 9259542123273814144 = ((wordN t &&& 9259542123273814144 : Nat) : Int) := q7n (b := 9259542123273814144) lt (by omega)
  rw [qfp ls lt, e, ← q93 s h, ← q93 t g, e1, e2]
  have := or_mask (wordN s) (wordN t) 9259542123273814144
  omega
/-! ### the tables -/
theorem qhu : (base.glob 0).getD [] = (List.range 256).map fun i => AV.int .u8 (firstT i : Nat) := by kernel_rfl
theorem acc_all : (base.glob 1).getD [] = (List.range 16).flatMap fun i => [AV.int .u8 (accLo i : Nat), AV.int .u8 (accHi i : Nat)] := by kernel_rfl
theorem qf2 (z : Nat) (h1 : z < 256) : ∃ p : AV, ∀ H, A.idxArr 1 256 (globV base 0) (.int .u8 (z : Int)) H = some p ∧ A.load false 1 p H = some (.int .u8 (firstT z : Nat)) := by
  unfold globV
  rw [qhu]
  generalize hcs : (List.range 256).map (fun i => AV.int .u8 (firstT i : Nat)) = cs
  have hg : cs[z]? = some (.int .u8 (firstT z : Nat)) := by rw [← hcs]; simp [h1]
  refine ⟨.rop (cs.drop z), fun H => ⟨?_, ?_⟩⟩
  · have : 0 ≤ (z : Int) ∧ (z : Int) < ((256 : Nat) : Int) := ⟨by omega, by omega⟩
    show (if 0 ≤ (z : Int) ∧ (z : Int) < ((256 : Nat) : Int) then A.fa ((z : Int).toNat * 1) (.rop cs) H else none) = _
    rw [if_pos this, Nat.mul_one]
    rfl
  · show A.ofList false 1 (cs.drop z) 0 = _
    simp [A.ofList, hg]
theorem acc_at (z : Nat) (h1 : z < 16) : ∃ p : AV, ∀ H, A.idxArr 2 16 (globV base 1) (.int .u8 (z : Int)) H = some p ∧ A.load true 2 p H = some (.agg [.int .u8 (accLo z : Nat), .int .u8 (accHi z : Nat)]) := by
  unfold globV
  rw [acc_all]
  generalize hcs : (List.range 16).flatMap (fun i => [AV.int .u8 (accLo i : Nat), AV.int .u8 (accHi i : Nat)]) = cs
  have hg : A.ofList true 2 (cs.drop (z * 2)) 0 = some (.agg [.int .u8 (accLo z : Nat), .int .u8 (accHi z : Nat)]) := by
    rw [← hcs]
    have hz : z = 0 ∨ z = 1 ∨ z = 2 ∨ z = 3 ∨ z = 4 ∨ z = 5 ∨ z = 6 ∨ z = 7 ∨ z = 8 ∨ z = 9 ∨ z = 10 ∨ z = 11 ∨ z = 12 ∨ z = 13 ∨ z = 14 ∨ z = 15 := by omega
    rcases hz with rfl | rfl | rfl | rfl | rfl | rfl | rfl | rfl | rfl | rfl | rfl | rfl | rfl | rfl | rfl | rfl <;> rfl
  refine ⟨.rop (cs.drop (z * 2)), fun H => ⟨?_, hg⟩⟩
  have : 0 ≤ (z : Int) ∧ (z : Int) < ((16 : Nat) : Int) := ⟨by omega, by omega⟩
  show (if 0 ≤ (z : Int) ∧ (z : Int) < ((16 : Nat) : Int) then A.fa ((z : Int).toNat * 2) (.rop cs) H else none) = _
  rw [if_pos this]
  rfl
theorem shr4 {P : Program} {t : TypeId} {j : IntKind} {a : Nat} {c : Bool} {H : Heap} : A.bin P .shr t (.int .u8 (a : Int)) (.int j 4) c H = some (.int .u8 ((a / 16 : Nat) : Int)) := by
  have : (a : Int).fdiv 16 = ((a / 16 : Nat) : Int) := by rw [Int.fdiv_eq_ediv_of_nonneg _ (by omega)]; rfl
  simp [A.bin, A.binInt, IntKind.bits, this]
theorem qf3 (z : Nat) : firstT z < 256 := by
  unfold firstT
  repeat' split
  all_goals omega
end Go.Proofs.YtleikacgncpfbaaDoor

/- Texts: is one well-formed: the loops. -/
set_option maxRecDepth 100000
set_option maxHeartbeats 4000000
namespace Go.Proofs.YtleikacgncpfbaaDoor
open Go Go.Den Go.Lib
noncomputable abbrev TVal : List (FuncId × Pol) := [(106, pWord)]
theorem qai {s : List UInt8} {k : Nat} (h : ∀ b ∈ s.take k, b.toNat < 128) : validD s = validD (s.drop k) := validD_ascii k s h
theorem take_add {s : List UInt8} {a b : Nat} (h1 : ∀ x ∈ s.take a, x.toNat < 128) (h2 : ∀ x ∈ (s.drop a).take b, x.toNat < 128) : ∀ x ∈ s.take (a + b), x.toNat < 128 := fun x hx => by
  rw [List.take_add] at hx
  rcases List.mem_append.1 hx with h | h
  · exact h1 x h
  · exact h2 x h
theorem qad : ∀ (N : Nat) (s : List UInt8), s.length ≤ N → ∀ H : Heap, ∃ s' : List UInt8, s'.length ≤ s.length ∧ validD s' = validD s ∧ LDoes (L99_1 (polT TVal)) ⟨[.str s], []⟩ H 0 ⟨[.str s'], []⟩ H
  | N, s, hN, H => by
    by_cases h : 32 < s.length
    · have hlt : (32 : Int) < (s.length : Int) := by omega
      have d8 := q11 (s := s) (k := .i64) (i := 8) (by omega)
      have d16 := q11 (s := s) (k := .i64) (i := 16) (by omega)
      have d24 := q11 (s := s) (k := .i64) (i := 24) (by omega)
      have d32 := q11 (s := s) (k := .i64) (i := 32) (by omega)
      have e8 : 8 ≤ s.length - 8 := by omega
      have e16 : 8 ≤ s.length - 16 := by omega
      have e24 : 8 ≤ s.length - 24 := by omega
      have e0 : 8 ≤ s.length := by omega
      have w0 : ∀ (R : Type) (H : Heap) (k : AV → Heap → Option R), polK pWord [.str s] H k = k (.int .u64 (wordN s : Nat)) H := fun R H k => kWord e0
      have w8 : ∀ (R : Type) (H : Heap) (k : AV → Heap → Option R), polK pWord [.str (s.drop 8)] H k = k (.int .u64 (wordN (s.drop 8) : Nat)) H := fun R H k => kWord (by simpa using e8)
      have w16 : ∀ (R : Type) (H : Heap) (k : AV → Heap → Option R), polK pWord [.str (s.drop 16)] H k = k (.int .u64 (wordN (s.drop 16) : Nat)) H := fun R H k => kWord (by simpa using e16)
      have w24 : ∀ (R : Type) (H : Heap) (k : AV → Heap → Option R), polK pWord [.str (s.drop 24)] H k = k (.int .u64 (wordN (s.drop 24) : Nat)) H := fun R H k => kWord (by simpa using e24)
      have hl : A.lenStr (.str s) = some (.int .i64 (s.length : Int)) := q3x
      have hm : andI .u64 (orI .u64 (orI .u64 (wordN s : Nat) (wordN (s.drop 8) : Nat)) (orI .u64 (wordN (s.drop 16) : Nat) (wordN (s.drop 24) : Nat))) 9259542123273814144 = 0 → ∀ x ∈ s.take 32, x.toNat < 128 := fun hc => by
        have n0 := q3n s
        have n8 := q3n (s.drop 8)
        have n16 := q3n (s.drop 16)
        have n24 := q3n (s.drop 24)
        have p1 : wordN s ||| wordN (s.drop 8) < 2 ^ 64 := Nat.or_lt_two_pow (by simpa using n0) (by simpa using n8)
        have p2 : wordN (s.drop 16) ||| wordN (s.drop 24) < 2 ^ 64 := Nat.or_lt_two_pow (by simpa using n16) (by simpa using n24)
        have p3 : (wordN s ||| wordN (s.drop 8)) ||| (wordN (s.drop 16) ||| wordN (s.drop 24)) < 2 ^ 64 := Nat.or_lt_two_pow p1 p2
        rw [qfp n0 n8, qfp n16 n24, qfp (by omega) (by omega)] at hc
        have e := q7n (a := (wordN s ||| wordN (s.drop 8)) ||| (wordN (s.drop 16) ||| wordN (s.drop 24))) (b := 9259542123273814144) (by omega) (by omega)
        have e' : (((((wordN s ||| wordN (s.drop 8)) ||| (wordN (s.drop 16) ||| wordN (s.drop 24))) &&& 9259542123273814144 : Nat)) : Int) = 0 := e.symm.trans hc
        have hz : (((wordN s ||| wordN (s.drop 8)) ||| (wordN (s.drop 16) ||| wordN (s.drop 24))) &&& 9259542123273814144) = 0 := by omega
        rw [or_mask, or_mask, or_mask] at hz
        have mk : ∀ t : List UInt8, 8 ≤ t.length → wordN t &&& 9259542123273814144 = 0 → ∀ x ∈ t.take 8, x.toNat < 128 := fun t ht h => by
          have hl : (t.take 8).length = 8 := by simp; omega
          have := leNat_mask (t.take 8)
          rw [hl, maskN8] at this
          exact this.1 h
        have m0 := mk s e0 hz.1.1
        have m8 := mk (s.drop 8) (by simpa using e8) hz.1.2
        have m16 := mk (s.drop 16) (by simpa using e16) hz.2.1
        have m24 := mk (s.drop 24) (by simpa using e24) hz.2.2
        exact take_add (a := 24) (b := 8) (take_add (a := 16) (b := 8) (take_add (a := 8) (b := 8) m0 m8) m16) m24
      generalize ((wordN s : Nat) : Int) = a0 at *
      generalize ((wordN (s.drop 8) : Nat) : Int) = a8 at *
      generalize ((wordN (s.drop 16) : Nat) : Int) = a16 at *
      generalize ((wordN (s.drop 24) : Nat) : Int) = a24 at *
      simp only [Int.cast_ofNat_Int] at d8 d16 d24 d32
      by_cases hc : andI .u64 (orI .u64 (orI .u64 a0 a8) (orI .u64 a16 a24)) 9259542123273814144 = 0
      · match N with
        | 0 => omega
        | N + 1 =>
          obtain ⟨s', hs, hv, hL⟩ := qad N (s.drop 32) (by simp; omega) H
          simp only [List.length_drop] at hs
          refine ⟨s', by omega, by rw [hv, ← qai (hm hc)], LDoes.step (Evs.withL hL (Evs.of fun n m _ h2 => ?_))⟩
          generalize s.drop 8 = s8 at *
          generalize s.drop 16 = s16 at *
          generalize s.drop 24 = s24 at *
          generalize s.drop 32 = s32 at *
          generalize (s.length : Int) = N at *
          simp [↓q00, ↓q01, ↓q04, ↓q03, ↓q05, q66, hl, hlt, d8, d16, d24, d32, w0, w8, w16, w24, q4r, q0m, hc, AV.heapy, h2]
      · refine ⟨s, Nat.le_refl _, rfl, LDoes.step (Evs.of fun n m => ?_)⟩
        generalize s.drop 8 = s8 at *
        generalize s.drop 16 = s16 at *
        generalize s.drop 24 = s24 at *
        generalize s.drop 32 = s32 at *
        generalize (s.length : Int) = N at *
        simp [↓q00, ↓q01, ↓q04, ↓q03, ↓q05, q66, hl, hlt, d8, d16, d24, w0, w8, w16, w24, q4r, q0m, hc, AV.heapy]
    · have hlt : ¬ (32 : Int) < (s.length : Int) := by omega
      have hl : A.lenStr (.str s) = some (.int .i64 (s.length : Int)) := q3x
      generalize (s.length : Int) = N at *
      refine ⟨s, Nat.le_refl _, rfl, LDoes.step (Evs.of fun n m => ?_)⟩
      simp [↓q00, ↓q01, ↓q04, ↓q03, ↓q05, q66, hl, hlt, AV.heapy]
end Go.Proofs.YtleikacgncpfbaaDoor

/- Texts: is one well-formed: bytes below 128. -/
set_option maxRecDepth 100000
set_option maxHeartbeats 8000000
namespace Go.Proofs.YtleikacgncpfbaaDoor
open Go Go.Den Go.Lib
def q23 (s : List UInt8) : Prop := ∀ H : Heap, ∃ (H' : Heap), LDoes (L99_0 (polT TVal)) ⟨[.str s], []⟩ H (if validD s then 0 else 1) ⟨[if validD s then .undef else .bool false], []⟩ H'
theorem valid_nil : q23 [] := fun H => by
  have hl : A.lenStr (.str []) = some (.int .i64 0) := q3x
  exact ⟨H, LDoes.step (Evs.of fun n m => by simp [↓q00, ↓q01, q0j, hl, validD_nil])⟩
theorem qeo (c : UInt8) (r : List UInt8) (hc : c.toNat < 128) (ih : ∀ s, s.length ≤ r.length → q23 s) : q23 (c :: r) := fun H => by
  have hl : A.lenStr (.str (c :: r)) = some (.int .i64 ((r.length + 1 : Nat) : Int)) := q3x
  have hp : (0 : Int) < ((r.length + 1 : Nat) : Int) := by omega
  have hx : A.index (.str (c :: r)) (.int .i64 0) = some (.int .u8 (c.toNat : Int)) := rfl
  have d1 : A.sliceStr (.str (c :: r)) (some (.int .i64 1)) none = some (.str r) := q11 (s := c :: r) (i := 1) (by simp)
  have hr : A.lenStr (.str r) = some (.int .i64 (r.length : Int)) := q3x
  have hz : (c.toNat : Int) < 128 := by omega
  have ih8 := ih (r.drop 8) (by simp)
  have ih24 : ∀ s', s'.length ≤ (r.drop 24).length → q23 s' := fun s' h => ih s' (by simp at h; omega)
  have ihr := ih r (Nat.le_refl _)
  have hvc : validD (c :: r) = validD r := validD_cons c r hc
  rw [hvc]
  clear hvc
  generalize ((r.length + 1 : Nat) : Int) = N1 at *
  generalize (c.toNat : Int) = z at *
  generalize c :: r = s at *
  by_cases h8 : 8 < r.length
  · have h8' : (8 : Int) < (r.length : Int) := by omega
    have d8 : A.sliceStr (.str r) (some (.int .i64 8)) none = some (.str (r.drop 8)) := q11 (s := r) (i := 8) (by omega)
    have w0 : ∀ (R : Type) (H : Heap) (k : AV → Heap → Option R), polK pWord [.str r] H k = k (.int .u64 (wordN r : Nat)) H := fun R H k => kWord (by omega)
    have hm8 := (q93 r (by omega)).1
    generalize ((wordN r : Nat) : Int) = a0 at *
    by_cases c0 : andI .u64 a0 9259542123273814144 = 0
    · have hv8 : validD r = validD (r.drop 8) := qai (hm8 c0)
      rw [hv8]
      have hr8 : A.lenStr (.str (r.drop 8)) = some (.int .i64 ((r.length - 8 : Nat) : Int)) := by rw [q3x]; simp
      by_cases h16 : 16 < r.length - 8
      · have h16i : (16 : Int) < ((r.length - 8 : Nat) : Int) := by omega
        have d16 : A.sliceStr (.str (r.drop 8)) (some (.int .i64 8)) none = some (.str (r.drop 16)) := by
          have := q11 (s := r.drop 8) (k := .i64) (i := 8) (by simp; omega)
          rw [List.drop_drop] at this
          exact this
        have d24 : A.sliceStr (.str (r.drop 8)) (some (.int .i64 16)) none = some (.str (r.drop 24)) := by
          have := q11 (s := r.drop 8) (k := .i64) (i := 16) (by simp; omega)
          rw [List.drop_drop] at this
          exact this
        have w8 : ∀ (R : Type) (H : Heap) (k : AV → Heap → Option R), polK pWord [.str (r.drop 8)] H k = k (.int .u64 (wordN (r.drop 8) : Nat)) H := fun R H k => kWord (by simp; omega)
        have w16 : ∀ (R : Type) (H : Heap) (k : AV → Heap → Option R), polK pWord [.str (r.drop 16)] H k = k (.int .u64 (wordN (r.drop 16) : Nat)) H := fun R H k => kWord (by simp; omega)
        have hm16 := (qh8 (r.drop 8) (r.drop 16) (by simp; omega) (by simp; omega)).1
        generalize ((wordN (r.drop 8) : Nat) : Int) = a8 at *
        generalize ((wordN (r.drop 16) : Nat) : Int) = a16 at *
        by_cases c1 : andI .u64 (orI .u64 a8 a16) 9259542123273814144 = 0
        · have h16' := hm16 c1
          have hd16 : (r.drop 8).drop 8 = r.drop 16 := by rw [List.drop_drop]
          have hv16 : validD (r.drop 8) = validD (r.drop 24) := by
            have := qai (s := r.drop 8) (k := 8 + 8) (take_add h16'.1 (by rw [hd16]; exact h16'.2))
            rw [this, List.drop_drop]
          obtain ⟨s', hs', hvs, hL1⟩ := qad _ (r.drop 24) (Nat.le_refl _) H
          rw [hv16, ← hvs]
          clear hv16 hd16
          obtain ⟨H', hL⟩ := ih24 s' hs' H
          refine ⟨H', LDoes.step (Evs.withL hL1 (Evs.withL hL (Evs.of fun n m _ h2 h3 _ => ?_)))⟩
          generalize r.drop 8 = r8 at *
          generalize r.drop 16 = r16 at *
          generalize r.drop 24 = r24 at *
          generalize (r.length : Int) = N at *
          generalize ((r.length - 8 : Nat) : Int) = N8 at *
          simp [↓q00, ↓q06, ↓q01, ↓q04, ↓q03, ↓q07, ↓q05, q0j, hl, hp, hx, hz, d1, hr, h8', d8, w0, q0m, c0, hr8, h16i, d16, w8, w16, q4r, c1, d24, AV.heapy, h2, h3]
        · obtain ⟨H', hL⟩ := ih8 H
          refine ⟨H', LDoes.step (Evs.withL hL (Evs.of fun n m _ h2 => ?_))⟩
          generalize r.drop 8 = r8 at *
          generalize r.drop 16 = r16 at *
          generalize (r.length : Int) = N at *
          generalize ((r.length - 8 : Nat) : Int) = N8 at *
          simp [↓q00, ↓q06, ↓q01, ↓q04, ↓q03, ↓q07, ↓q05, q0j, hl, hp, hx, hz, d1, hr, h8', d8, w0, q0m, c0, hr8, h16i, d16, w8, w16, q4r, c1, AV.heapy, h2]
      · have h16i : ¬ (16 : Int) < ((r.length - 8 : Nat) : Int) := by omega
        obtain ⟨H', hL⟩ := ih8 H
        refine ⟨H', LDoes.step (Evs.withL hL (Evs.of fun n m _ h2 => ?_))⟩
        generalize r.drop 8 = r8 at *
        generalize (r.length : Int) = N at *
        generalize ((r.length - 8 : Nat) : Int) = N8 at *
        simp [↓q00, ↓q06, ↓q01, ↓q04, ↓q03, ↓q07, ↓q05, q0j, hl, hp, hx, hz, d1, hr, h8', d8, w0, q0m, c0, hr8, h16i, AV.heapy, h2]
    · obtain ⟨H', hL⟩ := ihr H
      refine ⟨H', LDoes.step (Evs.withL hL (Evs.of fun n m _ h2 => ?_))⟩
      generalize (r.length : Int) = N at *
      simp [↓q00, ↓q06, ↓q01, ↓q04, ↓q03, ↓q07, q0j, hl, hp, hx, hz, d1, hr, h8', w0, q0m, c0, h2]
  · have h8' : ¬ (8 : Int) < (r.length : Int) := by omega
    obtain ⟨H', hL⟩ := ihr H
    refine ⟨H', LDoes.step (Evs.withL hL (Evs.of fun n m _ h2 => ?_))⟩
    generalize (r.length : Int) = N at *
    simp [↓q00, ↓q06, ↓q01, ↓q04, ↓q03, ↓q07, q0j, hl, hp, hx, hz, d1, hr, h8', h2]
end Go.Proofs.YtleikacgncpfbaaDoor

/- Texts: is one well-formed: signs of more bytes than one; the entry. -/
set_option maxRecDepth 100000
set_option maxHeartbeats 8000000
namespace Go.Proofs.YtleikacgncpfbaaDoor
open Go Go.Den Go.Lib
theorem qh6 (s : List UInt8) (h0 : 0 < s.length) (hc : 128 ≤ (s.getD 0 0).toNat) (ih : ∀ s' : List UInt8, s'.length < s.length → q23 s') : q23 s := fun H => by
  have hne : s ≠ [] := fun e => by rw [e] at h0; simp at h0
  have hv := validD_lead s hne hc
  have hl : A.lenStr (.str s) = some (.int .i64 (s.length : Int)) := q3x
  have hx : A.index (.str s) (.int .i64 0) = some (.int .u8 ((s.getD 0 0).toNat : Int)) := q3f (i := 0) h0
  have hx1 : 1 < s.length → A.index (.str s) (.int .i64 1) = some (.int .u8 ((s.getD 1 0).toNat : Int)) := fun h => q3f (i := 1) h
  have hx2 : 2 < s.length → A.index (.str s) (.int .i64 2) = some (.int .u8 ((s.getD 2 0).toNat : Int)) := fun h => q3f (i := 2) h
  have hx3 : 3 < s.length → A.index (.str s) (.int .i64 3) = some (.int .u8 ((s.getD 3 0).toNat : Int)) := fun h => q3f (i := 3) h
  have hz1 : (s.getD 0 0).toNat < 256 := (s.getD 0 0).toNat_lt
  generalize (s.getD 0 0).toNat = z at *
  generalize (s.getD 1 0).toNat = z1 at *
  generalize (s.getD 2 0).toNat = z2 at *
  generalize (s.getD 3 0).toNat = z3 at *
  have hz : ¬ z < 128 := by omega
  have hzi : ¬ (z : Int) < 128 := by omega
  have hw2 : IntKind.wrap .i64 2 = 2 := rfl
  have hw3 : IntKind.wrap .i64 3 = 3 := rfl
  have hw4 : IntKind.wrap .i64 4 = 4 := rfl
  have h0i : (0 : Int) < (s.length : Int) := by omega
  obtain ⟨p0, hfirst⟩ := qf2 z hz1
  have hx256 := qf3 z
  have h7 := andI_7 hx256
  obtain ⟨p1, hacc⟩ := acc_at (firstT z / 16) (by omega)
  have hf1 := fun H => (hfirst H).1
  have hf2 := fun H => (hfirst H).2
  have ha1 := fun H => (hacc H).1
  have ha2 := fun H => (hacc H).2
  have hshr : ∀ H, A.bin base.P .shr 5 (.int .u8 (firstT z : Nat)) (.int .u64 4) true H = some (.int .u8 ((firstT z / 16 : Nat) : Int)) := fun H => shr4
  have hy : IntKind.wrap .i64 ((firstT z % 8 : Nat) : Int) = ((firstT z % 8 : Nat) : Int) := q0o (by omega) (by omega)
  generalize accLo (firstT z / 16) = lo at *
  generalize accHi (firstT z / 16) = hi at *
  generalize firstT z / 16 = w at *
  generalize hyy : firstT z % 8 = y at *
  generalize firstT z = x at *
  have hst : A.store 2 (.ptr H.length 0 0 0) (.agg [.int .u8 (lo : Nat), .int .u8 (hi : Nat)]) (H ++ [.row 0 2 108 [.agg [.int .u8 0, .int .u8 0]]]) = some (H ++ [.row 0 2 108 [.agg [.int .u8 (lo : Nat), .int .u8 (hi : Nat)]]]) := by
    have hb : Go.Den.Box (H ++ [.row 0 2 108 [.agg [.int .u8 0, .int .u8 0]]]) H.length 2 108 [.int .u8 0, .int .u8 0] := q3j
    have := q7q (ds := [.int .u8 (lo : Nat), .int .u8 (hi : Nat)]) hb rfl rfl (by simp)
    rw [this]
    simp
  have hB : Go.Den.Box (H ++ [.row 0 2 108 [.agg [.int .u8 (lo : Nat), .int .u8 (hi : Nat)]]]) H.length 2 108 [.int .u8 (lo : Nat), .int .u8 (hi : Nat)] := q3j
  have fa := fun o => hB.fa (o := o)
  have ld0 := hB.load (o := 0)
  have ld1 := hB.load (o := 1)
  have fa0 := fa 0
  have fa1 := fa 1
  simp only [List.getElem?_cons_succ, List.getElem?_cons_zero] at ld0 ld1
  generalize H ++ [.row 0 2 108 [.agg [.int .u8 (lo : Nat), .int .u8 (hi : Nat)]]] = Hx at *
  by_cases y2 : y = 2
  case pos =>
    by_cases hk : s.length < 2
    case pos =>
      have hki : (s.length : Int) < (2 : Int) := by omega
      have e : validD s = false := by rw [hv]; simp [checkN, y2, hk]
      rw [e]
      exact ⟨Hx, LDoes.step (Evs.of fun n m => by simp [↓q00, ↓q06, ↓q09, ↓q01, ↓q04, ↓q0h, ↓q03, ↓q07, q0j, hl, h0, hx, hzi, hf1, hf2, q0m, h7, q0r, hw2, hshr, ha1, ha2, hst, fa0, fa1, y2, hki])⟩
    have hki : ¬ (s.length : Int) < (2 : Int) := by omega
    have dk := q11 (s := s) (k := .i64) (i := 2) (by omega)
    have i1 := hx1 (by omega)
    simp only [Int.cast_ofNat_Int] at dk
    by_cases a1 : z1 < lo
    case pos =>
      have a1i : (z1 : Int) < (lo : Int) := by omega
      have e : validD s = false := by rw [hv]; simp [checkN, y2, hk, a1]
      rw [e]
      exact ⟨Hx, LDoes.step (Evs.of fun n m => by simp [↓q00, ↓q06, ↓q09, ↓q01, ↓q04, ↓q0h, ↓q03, ↓q07, q0j, hl, h0, hx, hzi, hf1, hf2, q0m, h7, q0r, hw2, hshr, ha1, ha2, hst, fa0, fa1, ld0, y2, hki, i1, a1i])⟩
    have a1i : ¬ (z1 : Int) < (lo : Int) := by omega
    by_cases b1 : hi < z1
    case pos =>
      have b1i : (hi : Int) < (z1 : Int) := by omega
      have e : validD s = false := by rw [hv]; simp [checkN, y2, hk, a1, b1]
      rw [e]
      exact ⟨Hx, LDoes.step (Evs.of fun n m => by simp [↓q00, ↓q06, ↓q09, ↓q01, ↓q04, ↓q0h, ↓q03, ↓q07, q0j, hl, h0, hx, hzi, hf1, hf2, q0m, h7, q0r, hw2, hshr, ha1, ha2, hst, fa0, fa1, ld0, ld1, y2, hki, i1, a1i, b1i])⟩
    have b1i : ¬ (hi : Int) < (z1 : Int) := by omega
    have e : validD s = validD (s.drop 2) := by rw [hv]; simp [checkN, y2, hk, a1, b1]
    rw [e]
    obtain ⟨H', hL⟩ := ih (s.drop 2) (by simp; omega) Hx
    refine ⟨H', LDoes.step (Evs.withL hL (Evs.of fun n m _ h2 => ?_))⟩
    generalize s.drop 2 = sk at *
    simp [↓q00, ↓q06, ↓q09, ↓q01, ↓q04, ↓q0h, ↓q03, ↓q07, q0j, hl, h0, hx, hzi, hf1, hf2, q0m, h7, q0r, hw2, hshr, ha1, ha2, hst, fa0, fa1, ld0, ld1, y2, hki, dk, i1, a1i, b1i, h2]
  by_cases y3 : y = 3
  case pos =>
    by_cases hk : s.length < 3
    case pos =>
      have hki : (s.length : Int) < (3 : Int) := by omega
      have e : validD s = false := by rw [hv]; simp [checkN, y3, hk]
      rw [e]
      exact ⟨Hx, LDoes.step (Evs.of fun n m => by simp [↓q00, ↓q06, ↓q09, ↓q01, ↓q04, ↓q0h, ↓q03, ↓q07, q0j, hl, h0, hx, hzi, hf1, hf2, q0m, h7, q0r, hw3, hshr, ha1, ha2, hst, fa0, fa1, y3, hki])⟩
    have hki : ¬ (s.length : Int) < (3 : Int) := by omega
    have dk := q11 (s := s) (k := .i64) (i := 3) (by omega)
    have i1 := hx1 (by omega)
    have i2 := hx2 (by omega)
    simp only [Int.cast_ofNat_Int] at dk
    by_cases a1 : z1 < lo
    case pos =>
      have a1i : (z1 : Int) < (lo : Int) := by omega
      have e : validD s = false := by rw [hv]; simp [checkN, y3, hk, a1]
      rw [e]
      exact ⟨Hx, LDoes.step (Evs.of fun n m => by simp [↓q00, ↓q06, ↓q09, ↓q01, ↓q04, ↓q0h, ↓q03, ↓q07, q0j, hl, h0, hx, hzi, hf1, hf2, q0m, h7, q0r, hw3, hshr, ha1, ha2, hst, fa0, fa1, ld0, y3, hki, i1, a1i])⟩
    have a1i : ¬ (z1 : Int) < (lo : Int) := by omega
    by_cases b1 : hi < z1
    case pos =>
      have b1i : (hi : Int) < (z1 : Int) := by omega
      have e : validD s = false := by rw [hv]; simp [checkN, y3, hk, a1, b1]
      rw [e]
      exact ⟨Hx, LDoes.step (Evs.of fun n m => by simp [↓q00, ↓q06, ↓q09, ↓q01, ↓q04, ↓q0h, ↓q03, ↓q07, q0j, hl, h0, hx, hzi, hf1, hf2, q0m, h7, q0r, hw3, hshr, ha1, ha2, hst, fa0, fa1, ld0, ld1, y3, hki, i1, a1i, b1i])⟩
    have b1i : ¬ (hi : Int) < (z1 : Int) := by omega
    by_cases a2 : z2 < 128
    case pos =>
      have a2i : (z2 : Int) < (128 : Int) := by omega
      have e : validD s = false := by rw [hv]; simp [checkN, y3, hk, a1, b1, a2]
      rw [e]
      exact ⟨Hx, LDoes.step (Evs.of fun n m => by simp [↓q00, ↓q06, ↓q09, ↓q01, ↓q04, ↓q0h, ↓q03, ↓q07, q0j, hl, h0, hx, hzi, hf1, hf2, q0m, h7, q0r, hw3, hshr, ha1, ha2, hst, fa0, fa1, ld0, ld1, y3, hki, i1, i2, a1i, b1i, a2i])⟩
    have a2i : ¬ (z2 : Int) < (128 : Int) := by omega
    by_cases b2 : 191 < z2
    case pos =>
      have b2i : (191 : Int) < (z2 : Int) := by omega
      have e : validD s = false := by rw [hv]; simp [checkN, y3, hk, a1, b1, a2, b2]
      rw [e]
      exact ⟨Hx, LDoes.step (Evs.of fun n m => by simp [↓q00, ↓q06, ↓q09, ↓q01, ↓q04, ↓q0h, ↓q03, ↓q07, q0j, hl, h0, hx, hzi, hf1, hf2, q0m, h7, q0r, hw3, hshr, ha1, ha2, hst, fa0, fa1, ld0, ld1, y3, hki, i1, i2, a1i, b1i, a2i, b2i])⟩
    have b2i : ¬ (191 : Int) < (z2 : Int) := by omega
    have e : validD s = validD (s.drop 3) := by rw [hv]; simp [checkN, y3, hk, a1, b1, a2, b2]
    rw [e]
    obtain ⟨H', hL⟩ := ih (s.drop 3) (by simp; omega) Hx
    refine ⟨H', LDoes.step (Evs.withL hL (Evs.of fun n m _ h2 => ?_))⟩
    generalize s.drop 3 = sk at *
    simp [↓q00, ↓q06, ↓q09, ↓q01, ↓q04, ↓q0h, ↓q03, ↓q07, q0j, hl, h0, hx, hzi, hf1, hf2, q0m, h7, q0r, hw3, hshr, ha1, ha2, hst, fa0, fa1, ld0, ld1, y3, hki, dk, i1, i2, a1i, b1i, a2i, b2i, h2]
  by_cases y4 : y = 4
  case pos =>
    by_cases hk : s.length < 4
    case pos =>
      have hki : (s.length : Int) < (4 : Int) := by omega
      have e : validD s = false := by rw [hv]; simp [checkN, y4, hk]
      rw [e]
      exact ⟨Hx, LDoes.step (Evs.of fun n m => by simp [↓q00, ↓q06, ↓q09, ↓q01, ↓q04, ↓q0h, ↓q03, ↓q07, q0j, hl, h0, hx, hzi, hf1, hf2, q0m, h7, q0r, hw4, hshr, ha1, ha2, hst, fa0, fa1, y4, hki])⟩
    have hki : ¬ (s.length : Int) < (4 : Int) := by omega
    have dk := q11 (s := s) (k := .i64) (i := 4) (by omega)
    have i1 := hx1 (by omega)
    have i2 := hx2 (by omega)
    have i3 := hx3 (by omega)
    simp only [Int.cast_ofNat_Int] at dk
    by_cases a1 : z1 < lo
    case pos =>
      have a1i : (z1 : Int) < (lo : Int) := by omega
      have e : validD s = false := by rw [hv]; simp [checkN, y4, hk, a1]
      rw [e]
      exact ⟨Hx, LDoes.step (Evs.of fun n m => by simp [↓q00, ↓q06, ↓q09, ↓q01, ↓q04, ↓q0h, ↓q03, ↓q07, q0j, hl, h0, hx, hzi, hf1, hf2, q0m, h7, q0r, hw4, hshr, ha1, ha2, hst, fa0, fa1, ld0, y4, hki, i1, a1i])⟩
    have a1i : ¬ (z1 : Int) < (lo : Int) := by omega
    by_cases b1 : hi < z1
    case pos =>
      have b1i : (hi : Int) < (z1 : Int) := by omega
      have e : validD s = false := by rw [hv]; simp [checkN, y4, hk, a1, b1]
      rw [e]
      exact ⟨Hx, LDoes.step (Evs.of fun n m => by simp [↓q00, ↓q06, ↓q09, ↓q01, ↓q04, ↓q0h, ↓q03, ↓q07, q0j, hl, h0, hx, hzi, hf1, hf2, q0m, h7, q0r, hw4, hshr, ha1, ha2, hst, fa0, fa1, ld0, ld1, y4, hki, i1, a1i, b1i])⟩
    have b1i : ¬ (hi : Int) < (z1 : Int) := by omega
    by_cases a2 : z2 < 128
    case pos =>
      have a2i : (z2 : Int) < (128 : Int) := by omega
      have e : validD s = false := by rw [hv]; simp [checkN, y4, hk, a1, b1, a2]
      rw [e]
      exact ⟨Hx, LDoes.step (Evs.of fun n m => by simp [↓q00, ↓q06, ↓q09, ↓q01, ↓q04, ↓q0h, ↓q03, ↓q07, q0j, hl, h0, hx, hzi, hf1, hf2, q0m, h7, q0r, hw4, hshr, ha1, ha2, hst, fa0, fa1, ld0, ld1, y4, hki, i1, i2, a1i, b1i, a2i])⟩
    have a2i : ¬ (z2 : Int) < (128 : Int) := by omega
    by_cases b2 : 191 < z2
    case pos =>
      have b2i : (191 : Int) < (z2 : Int) := by omega
      have e : validD s = false := by rw [hv]; simp [checkN, y4, hk, a1, b1, a2, b2]
      rw [e]
      exact ⟨Hx, LDoes.step (Evs.of fun n m => by simp [↓q00, ↓q06, ↓q09, ↓q01, ↓q04, ↓q0h, ↓q03, ↓q07, q0j, hl, h0, hx, hzi, hf1, hf2, q0m, h7, q0r, hw4, hshr, ha1, ha2, hst, fa0, fa1, ld0, ld1, y4, hki, i1, i2, a1i, b1i, a2i, b2i])⟩
    have b2i : ¬ (191 : Int) < (z2 : Int) := by omega
    by_cases a3 : z3 < 128
    case pos =>
      have a3i : (z3 : Int) < (128 : Int) := by omega
      have e : validD s = false := by rw [hv]; simp [checkN, y4, hk, a1, b1, a2, b2, a3]
      rw [e]
      exact ⟨Hx, LDoes.step (Evs.of fun n m => by simp [↓q00, ↓q06, ↓q09, ↓q01, ↓q04, ↓q0h, ↓q03, ↓q07, q0j, hl, h0, hx, hzi, hf1, hf2, q0m, h7, q0r, hw4, hshr, ha1, ha2, hst, fa0, fa1, ld0, ld1, y4, hki, i1, i2, i3, a1i, b1i, a2i, b2i, a3i])⟩
    have a3i : ¬ (z3 : Int) < (128 : Int) := by omega
    by_cases b3 : 191 < z3
    case pos =>
      have b3i : (191 : Int) < (z3 : Int) := by omega
      have e : validD s = false := by rw [hv]; simp [checkN, y4, hk, a1, b1, a2, b2, a3, b3]
      rw [e]
      exact ⟨Hx, LDoes.step (Evs.of fun n m => by simp [↓q00, ↓q06, ↓q09, ↓q01, ↓q04, ↓q0h, ↓q03, ↓q07, q0j, hl, h0, hx, hzi, hf1, hf2, q0m, h7, q0r, hw4, hshr, ha1, ha2, hst, fa0, fa1, ld0, ld1, y4, hki, i1, i2, i3, a1i, b1i, a2i, b2i, a3i, b3i])⟩
    have b3i : ¬ (191 : Int) < (z3 : Int) := by omega
    have e : validD s = validD (s.drop 4) := by rw [hv]; simp [checkN, y4, hk, a1, b1, a2, b2, a3, b3]
    rw [e]
    obtain ⟨H', hL⟩ := ih (s.drop 4) (by simp; omega) Hx
    refine ⟨H', LDoes.step (Evs.withL hL (Evs.of fun n m _ h2 => ?_))⟩
    generalize s.drop 4 = sk at *
    simp [↓q00, ↓q06, ↓q09, ↓q01, ↓q04, ↓q0h, ↓q03, ↓q07, q0j, hl, h0, hx, hzi, hf1, hf2, q0m, h7, q0r, hw4, hshr, ha1, ha2, hst, fa0, fa1, ld0, ld1, y4, hki, dk, i1, i2, i3, a1i, b1i, a2i, b2i, a3i, b3i, h2]
  have y2i : ¬ (y : Int) = 2 := by omega
  have y3i : ¬ (y : Int) = 3 := by omega
  have y4i : ¬ (y : Int) = 4 := by omega
  have e : validD s = false := by rw [hv]; simp [checkN, y2, y3, y4]
  rw [e]
  exact ⟨Hx, LDoes.step (Evs.of fun n m => by simp [↓q00, ↓q06, ↓q09, ↓q01, ↓q0h, ↓q07, q0j, hl, h0, hx, hzi, hf1, hf2, q0m, h7, q0r, hy, hshr, ha1, ha2, hst, y2i, y3i, y4i])⟩
theorem qac : ∀ (N : Nat) (s : List UInt8), s.length ≤ N → q23 s
  | _, [], _ => valid_nil
  | 0, _ :: _, h => by simp at h
  | N + 1, c :: r, h => by
    have ih : ∀ s' : List UInt8, s'.length < (c :: r).length → q23 s' := fun s' h' => qac N s' (by simp at h h'; omega)
    by_cases hc : c.toNat < 128
    · exact qeo c r hc fun s' h' => ih s' (by simp; omega)
    · exact qh6 (c :: r) (by simp) (by simp; omega) ih
noncomputable def pValid : Pol := .still (p1 cS .bool (fun _ => True) validD)
theorem okValid : PolOK base 99 pValid := still1 base_ok TVal ⟨okWord, trivial⟩ fun s _ => by
  obtain ⟨H', hL⟩ := qac _ s (Nat.le_refl _) []
  refine Evs.withL hL (Evs.of fun n m h1 _ => ?_)
  generalize validD s = b at *
  cases b <;> simp [↓q06, ↓q07, S99, h1]
theorem kValid {R : Type} {s : List UInt8} {H : Heap} {k : AV → Heap → Option R} : polK pValid [.str s] H k = k (.bool (validD s)) H := by
  simp [pValid, q0c]
end Go.Proofs.YtleikacgncpfbaaDoor

/- Texts: the first sign of a well-formed one. -/
set_option maxRecDepth 100000
set_option maxHeartbeats 8000000
namespace Go.Proofs.YtleikacgncpfbaaDoor
open Go Go.Den Go.Lib
theorem slow_all (n b0 b1 b2 b3 : Nat) (hn : 1 ≤ n) (h0 : 128 ≤ b0) (h0' : b0 < 256) (h1 : b1 < 256) (h2 : b2 < 256) (h3 : b3 < 256) (hs : 2 ≤ firstT b0 % 8) : slowN n b0 b1 b2 b3 (firstT b0 % 8) (accLo (firstT b0 / 16)) (accHi (firstT b0 / 16)) = decodeN n b0 b1 b2 b3 ∧ firstT b0 < 240 ∧ firstT b0 % 8 ≤ 4 := by
  by_cases c0 : b0 < 194
  · simp [firstT, show ¬ b0 < 128 by omega, c0] at hs
  by_cases c1 : b0 < 224
  · have e : firstT b0 = 2 := by simp [firstT, show ¬ b0 < 128 by omega, c0, c1]
    rw [e]; exact ⟨slow_C2 n b0 b1 b2 b3 hn h1 h2 h3 ⟨by omega, c1⟩, by omega, by omega⟩
  by_cases c2 : b0 = 224
  · subst c2; exact ⟨slow_E0 n 224 b1 b2 b3 hn h1 h2 h3 rfl, by decide, by decide⟩
  by_cases c3 : b0 < 237
  · have e : firstT b0 = 3 := by simp [firstT, show ¬ b0 < 128 by omega, c0, c1, c2, c3]
    rw [e]; exact ⟨slow_E1 n b0 b1 b2 b3 hn h1 h2 h3 (.inl ⟨by omega, c3⟩), by omega, by omega⟩
  by_cases c4 : b0 = 237
  · subst c4; exact ⟨slow_ED n 237 b1 b2 b3 hn h1 h2 h3 rfl, by decide, by decide⟩
  by_cases c5 : b0 < 240
  · have e : firstT b0 = 3 := by simp [firstT, show ¬ b0 < 128 by omega, c0, c1, c2, c3, c4, c5]
    rw [e]; exact ⟨slow_E1 n b0 b1 b2 b3 hn h1 h2 h3 (.inr ⟨by omega, c5⟩), by omega, by omega⟩
  by_cases c6 : b0 = 240
  · subst c6; exact ⟨slow_F0 n 240 b1 b2 b3 hn h1 h2 h3 rfl, by decide, by decide⟩
  by_cases c7 : b0 < 244
  · have e : firstT b0 = 4 := by simp [firstT, show ¬ b0 < 128 by omega, c0, c1, c2, c3, c4, c5, c6, c7]
    rw [e]; exact ⟨slow_F1 n b0 b1 b2 b3 hn h1 h2 h3 ⟨by omega, c7⟩, by omega, by omega⟩
  by_cases c8 : b0 = 244
  · subst c8; exact ⟨slow_F4 n 244 b1 b2 b3 hn h1 h2 h3 rfl, by decide, by decide⟩
  · simp [firstT, show ¬ b0 < 128 by omega, c0, c1, c2, c3, c4, c5, c6, c7, c8] at hs
theorem q46 {a k : Nat} (ha : a < 256) (hk : k ≤ 7) : andI .u8 (a : Int) ((2 ^ k - 1 : Nat) : Int) = ((a % 2 ^ k : Nat) : Int) := by
  have h : 2 ^ k - 1 < 256 := by
    have : 2 ^ k ≤ 2 ^ 7 := Nat.pow_le_pow_right (by omega) hk
    omega
  rw [andI_8 ha h, Nat.and_two_pow_sub_one_eq_mod]
theorem q5y {a : Nat} (h : a < 2147483648) : IntKind.wrap .i32 (a : Int) = a := by
  simp [IntKind.wrap, IntKind.bits, IntKind.signed]
  omega
theorem qa3 {a b s : Nat} (ha : a % 2 ^ s = 0) (hb : b < 2 ^ s) (h : a + b < 2147483648) : orI .i32 (a : Int) (b : Int) = ((a + b : Nat) : Int) := by
  unfold orI
  rw [show IntKind.bits .i32 = 32 from rfl, BitVec.toNat_or]
  simp
  have e : a ||| b = a + b := by
    have := Nat.two_pow_add_eq_or_of_lt hb (a / 2 ^ s)
    have e2 : 2 ^ s * (a / 2 ^ s) = a := by have := Nat.div_add_mod a (2 ^ s); omega
    rw [e2] at this
    exact this.symm
  rw [Nat.mod_eq_of_lt (by omega), Nat.mod_eq_of_lt (by omega), e]
  have := q5y h
  simpa using this
theorem qap (n : Int) (j : IntKind) : Go.Den.convert base 5 21 (.int j n) = some (.int .i32 (IntKind.wrap .i32 n)) := q5f (x := .int .u8) (by kernel_rfl) (by kernel_rfl)
theorem q6o {P : Program} {t : TypeId} {j : IntKind} {a s : Nat} {c : Bool} {H : Heap} (hs : s ≤ 32) (h : a * 2 ^ s < 2147483648) : A.bin P .shl t (.int .i32 (a : Int)) (.int j (s : Int)) c H = some (.int .i32 ((a * 2 ^ s : Nat) : Int)) := by
  have hm : min s 32 = s := by omega
  have hw := q5y h
  have hn : ¬ (s : Int) < 0 := by omega
  simp only [A.bin, A.binInt]
  rw [if_neg hn]
  have e : min ((s : Int).toNat) (IntKind.bits .i32) = s := by
    show min ((s : Int).toNat) 32 = s
    omega
  rw [e]
  have e2 : (a : Int) * 2 ^ s = ((a * 2 ^ s : Nat) : Int) := by push_cast; rfl
  rw [e2, hw]
def decR (s : List UInt8) : Nat × Nat := if s = [] then (65533, 0) else decodeL s
def slowOk (s : List UInt8) : Prop := validD s = true ∧ (s = [] ∨ 128 ≤ (s.getD 0 0).toNat)
noncomputable def pSlow : Pol := .still (p1 cS (fun r : Nat × Nat => .tup [.int .i32 r.1, .int .i64 r.2]) slowOk decR)
theorem kSlow {R : Type} {s : List UInt8} (h : validD s = true) (h2 : s = [] ∨ 128 ≤ (s.getD 0 0).toNat) {H : Heap} {k : AV → Heap → Option R} : polK pSlow [.str s] H k = k (.tup [.int .i32 (decR s).1, .int .i64 (decR s).2]) H := by
  have : slowOk s := ⟨h, h2⟩
  unfold pSlow
  rw [q0c (by simp)]
  simp [this]
theorem okSlow : PolOK base 114 pSlow := still1 base_ok [] trivial fun s ⟨hv, h2⟩ => by
  have hl : A.lenStr (.str s) = some (.int .i64 (s.length : Int)) := q3x
  by_cases hne : s = []
  · subst hne
    have hl0 : A.lenStr (.str []) = some (.int .i64 0) := rfl
    exact Evs.of fun n m => by
      simp [↓q00, ↓q01, S114, hl0, decR]
      rfl
  have hc : 128 ≤ (s.getD 0 0).toNat := by
    rcases h2 with h | h
    · exact absurd h hne
    · exact h
  have h0 : 0 < s.length := List.length_pos_iff.2 hne
  have hlead := validD_lead s hne hc
  rw [hv] at hlead
  have hdec := decodeL_N s
  unfold decR
  rw [if_neg hne, hdec]
  have hx : A.index (.str s) (.int .i64 0) = some (.int .u8 ((s.getD 0 0).toNat : Int)) := q3f (i := 0) h0
  have hx1 : 1 < s.length → A.index (.str s) (.int .i64 1) = some (.int .u8 ((s.getD 1 0).toNat : Int)) := fun h => q3f (i := 1) h
  have hx2 : 2 < s.length → A.index (.str s) (.int .i64 2) = some (.int .u8 ((s.getD 2 0).toNat : Int)) := fun h => q3f (i := 2) h
  have hx3 : 3 < s.length → A.index (.str s) (.int .i64 3) = some (.int .u8 ((s.getD 3 0).toNat : Int)) := fun h => q3f (i := 3) h
  have hz0 : (s.getD 0 0).toNat < 256 := (s.getD 0 0).toNat_lt
  have hz1 : (s.getD 1 0).toNat < 256 := (s.getD 1 0).toNat_lt
  have hz2 : (s.getD 2 0).toNat < 256 := (s.getD 2 0).toNat_lt
  have hz3 : (s.getD 3 0).toNat < 256 := (s.getD 3 0).toNat_lt
  generalize (s.getD 0 0).toNat = z at *
  generalize (s.getD 1 0).toNat = z1 at *
  generalize (s.getD 2 0).toNat = z2 at *
  generalize (s.getD 3 0).toNat = z3 at *
  clear hdec
  obtain ⟨p0, hfirst⟩ := qf2 z hz0
  have hx256 := qf3 z
  have h7 := andI_7 hx256
  obtain ⟨p1, hacc⟩ := acc_at (firstT z / 16) (by omega)
  have hf1 := fun H => (hfirst H).1
  have hf2 := fun H => (hfirst H).2
  have ha1 := fun H => (hacc H).1
  have ha2 := fun H => (hacc H).2
  have hshr : ∀ H, A.bin base.P .shr 5 (.int .u8 (firstT z : Nat)) (.int .u64 4) true H = some (.int .u8 ((firstT z / 16 : Nat) : Int)) := fun H => shr4
  have hy : IntKind.wrap .i64 ((firstT z % 8 : Nat) : Int) = ((firstT z % 8 : Nat) : Int) := q0o (by omega) (by omega)
  have hsz : 2 ≤ firstT z % 8 := by
    unfold checkN at hlead
    by_cases e2 : firstT z % 8 = 2
    · omega
    by_cases e3 : firstT z % 8 = 3
    · omega
    by_cases e4 : firstT z % 8 = 4
    · omega
    · rw [if_neg e2, if_neg e3, if_neg e4] at hlead
      cases hlead
  obtain ⟨hsl, h240, h4⟩ := slow_all s.length z z1 z2 z3 (by omega) hc hz0 hz1 hz2 hz3 hsz
  rw [← hsl]
  generalize accLo (firstT z / 16) = lo at *
  generalize accHi (firstT z / 16) = hi at *
  generalize firstT z / 16 = w at *
  generalize hyy : firstT z % 8 = y at *
  generalize firstT z = x at *
  have h240' : ¬ (240 : Int) ≤ (x : Int) := by omega
  have h1' : ¬ (s.length : Int) < 1 := by omega
  have hst : A.store 2 (.ptr 0 0 0 0) (.agg [.int .u8 (lo : Nat), .int .u8 (hi : Nat)]) [.row 0 2 108 [.agg [.int .u8 0, .int .u8 0]]] = some [.row 0 2 108 [.agg [.int .u8 (lo : Nat), .int .u8 (hi : Nat)]]] := q7q (cs := [.int .u8 0, .int .u8 0]) (ds := [.int .u8 (lo : Nat), .int .u8 (hi : Nat)]) (H := [.row 0 2 108 [.agg [.int .u8 0, .int .u8 0]]]) rfl rfl rfl (by simp)
  have hB : Go.Den.Box [.row 0 2 108 [.agg [.int .u8 (lo : Nat), .int .u8 (hi : Nat)]]] 0 2 108 [.int .u8 (lo : Nat), .int .u8 (hi : Nat)] := rfl
  have fa0 := hB.fa (o := 0)
  have fa1 := hB.fa (o := 1)
  have ld0 := hB.load (o := 0)
  have ld1 := hB.load (o := 1)
  simp only [List.getElem?_cons_succ, List.getElem?_cons_zero] at ld0 ld1
  have m1 : andI .u8 (z1 : Int) 63 = ((z1 % 64 : Nat) : Int) := q46 (k := 6) hz1 (by omega)
  have m2 : andI .u8 (z2 : Int) 63 = ((z2 % 64 : Nat) : Int) := q46 (k := 6) hz2 (by omega)
  have m3 : andI .u8 (z3 : Int) 63 = ((z3 % 64 : Nat) : Int) := q46 (k := 6) hz3 (by omega)
  have v : ∀ a : Nat, a < 256 → IntKind.wrap .i32 (a : Int) = a := fun a ha => q5y (by omega)
  have v1 := v (z1 % 64) (by omega)
  have v2 := v (z2 % 64) (by omega)
  have v3 := v (z3 % 64) (by omega)
  have hfz : ∀ (H : Heap) (a b : Int), A.freezeB true 64 H (.tup [.int .i32 a, .int .i64 b]) = some (.tup [.int .i32 a, .int .i64 b]) := fun H a b => rfl
  unfold checkN at hlead
  unfold slowN
  by_cases y2 : y = 2
  case pos =>
    rw [if_pos y2] at hlead
    by_cases hk : s.length < 2 ∨ z1 < lo ∨ hi < z1
    · rw [if_pos hk] at hlead
      cases hlead
    have hk1 : ¬ (s.length : Int) < 2 := by omega
    have a1 : ¬ (z1 : Int) < (lo : Int) := by omega
    have b1 : ¬ (hi : Int) < (z1 : Int) := by omega
    have i1 := hx1 (by omega)
    rw [if_neg (by omega), if_neg (by omega), if_pos (by omega)]
    have n0 : andI .u8 (z : Int) 31 = ((z % 32 : Nat) : Int) := q46 (k := 5) hz0 (by omega)
    have v0 := v (z % 32) (by omega)
    have s0 : ∀ H, A.bin base.P .shl 21 (.int .i32 ((z % 32 : Nat) : Int)) (.int .u64 6) true H = some (.int .i32 ((z % 32 * 64 : Nat) : Int)) := fun H => q6o (s := 6) (by omega) (by omega)
    have o0 := qa3 (a := z % 32 * 64) (b := z1 % 64) (s := 6) (by omega) (by omega) (by omega)
    subst y2
    have hw2 : IntKind.wrap .i64 2 = 2 := rfl
    generalize z % 32 * 64 + z1 % 64 = out at *
    generalize z % 32 * 64 = g1 at *
    generalize z % 32 = g0 at *
    generalize z1 % 64 = g2 at *
    exact Evs.of fun n m => by simp [↓q00, ↓q06, ↓q09, ↓q01, ↓q04, ↓q0h, ↓q03, S114, hl, h1', hx, hf1, hf2, h240', q0m, h7, q0r, hw2, hshr, ha1, ha2, hst, hk1, i1, fa0, ld0, a1, fa1, ld1, b1, n0, qap, v0, s0, m1, v1, q4r, o0, hfz]
  by_cases y3 : y = 3
  case pos =>
    rw [if_neg y2, if_pos y3] at hlead
    by_cases hk : s.length < 3 ∨ z1 < lo ∨ hi < z1 ∨ z2 < 128 ∨ 191 < z2
    · rw [if_pos hk] at hlead
      cases hlead
    have hk1 : ¬ (s.length : Int) < 3 := by omega
    have a1 : ¬ (z1 : Int) < (lo : Int) := by omega
    have b1 : ¬ (hi : Int) < (z1 : Int) := by omega
    have a2 : ¬ (z2 : Int) < 128 := by omega
    have b2 : ¬ (191 : Int) < (z2 : Int) := by omega
    have i1 := hx1 (by omega)
    have i2 := hx2 (by omega)
    rw [if_neg (by omega), if_neg (by omega), if_neg (by omega), if_neg (by omega), if_pos (by omega)]
    have n0 : andI .u8 (z : Int) 15 = ((z % 16 : Nat) : Int) := q46 (k := 4) hz0 (by omega)
    have v0 := v (z % 16) (by omega)
    have s0 : ∀ H, A.bin base.P .shl 21 (.int .i32 ((z % 16 : Nat) : Int)) (.int .u64 12) true H = some (.int .i32 ((z % 16 * 4096 : Nat) : Int)) := fun H => q6o (s := 12) (by omega) (by omega)
    have s1 : ∀ H, A.bin base.P .shl 21 (.int .i32 ((z1 % 64 : Nat) : Int)) (.int .u64 6) true H = some (.int .i32 ((z1 % 64 * 64 : Nat) : Int)) := fun H => q6o (s := 6) (by omega) (by omega)
    have o0 := qa3 (a := z % 16 * 4096) (b := z1 % 64 * 64) (s := 12) (by omega) (by omega) (by omega)
    have o1 := qa3 (a := z % 16 * 4096 + z1 % 64 * 64) (b := z2 % 64) (s := 6) (by omega) (by omega) (by omega)
    subst y3
    have hw3 : IntKind.wrap .i64 3 = 3 := rfl
    generalize z % 16 * 4096 + z1 % 64 * 64 + z2 % 64 = out at *
    generalize z % 16 * 4096 + z1 % 64 * 64 = g5 at *
    generalize z % 16 * 4096 = g1 at *
    generalize z1 % 64 * 64 = g4 at *
    generalize z % 16 = g0 at *
    generalize z1 % 64 = g2 at *
    generalize z2 % 64 = g3 at *
    exact Evs.of fun n m => by simp [↓q00, ↓q06, ↓q09, ↓q01, ↓q04, ↓q0h, ↓q03, S114, hl, h1', hx, hf1, hf2, h240', q0m, h7, q0r, hw3, hshr, ha1, ha2, hst, hk1, i1, fa0, ld0, a1, fa1, ld1, b1, i2, a2, b2, n0, qap, v0, s0, m1, v1, s1, q4r, o0, m2, v2, o1, hfz]
  · have y4 : y = 4 := by omega
    rw [if_neg y2, if_neg y3, if_pos y4] at hlead
    by_cases hk : s.length < 4 ∨ z1 < lo ∨ hi < z1 ∨ z2 < 128 ∨ 191 < z2 ∨ z3 < 128 ∨ 191 < z3
    · rw [if_pos hk] at hlead
      cases hlead
    have hk1 : ¬ (s.length : Int) < 4 := by omega
    have a1 : ¬ (z1 : Int) < (lo : Int) := by omega
    have b1 : ¬ (hi : Int) < (z1 : Int) := by omega
    have a2 : ¬ (z2 : Int) < 128 := by omega
    have b2 : ¬ (191 : Int) < (z2 : Int) := by omega
    have a3 : ¬ (z3 : Int) < 128 := by omega
    have b3 : ¬ (191 : Int) < (z3 : Int) := by omega
    have i1 := hx1 (by omega)
    have i2 := hx2 (by omega)
    have i3 := hx3 (by omega)
    rw [if_neg (by omega), if_neg (by omega), if_neg (by omega), if_neg (by omega), if_neg (by omega), if_neg (by omega)]
    obtain ⟨g0, e0⟩ : ∃ g, z % 8 = g := ⟨_, rfl⟩
    obtain ⟨g2, e2⟩ : ∃ g, z1 % 64 = g := ⟨_, rfl⟩
    obtain ⟨g3, e3⟩ : ∃ g, z2 % 64 = g := ⟨_, rfl⟩
    obtain ⟨g8, e8⟩ : ∃ g, z3 % 64 = g := ⟨_, rfl⟩
    have n0 : andI .u8 (z : Int) 7 = ((z % 8 : Nat) : Int) := q46 (k := 3) hz0 (by omega)
    have v0 := v (z % 8) (by omega)
    rw [e0] at n0 v0 ⊢
    rw [e2] at m1 v1 ⊢
    rw [e3] at m2 v2 ⊢
    rw [e8] at m3 v3 ⊢
    have q0 : g0 < 8 := by omega
    have q2 : g2 < 64 := by omega
    have q3 : g3 < 64 := by omega
    have q8 : g8 < 64 := by omega
    obtain ⟨g1, e1⟩ : ∃ g, g0 * 262144 = g := ⟨_, rfl⟩
    obtain ⟨g4, e4⟩ : ∃ g, g2 * 4096 = g := ⟨_, rfl⟩
    obtain ⟨g7, e7⟩ : ∃ g, g3 * 64 = g := ⟨_, rfl⟩
    rw [e1, e4, e7]
    have s0 : ∀ H, A.bin base.P .shl 21 (.int .i32 (g0 : Int)) (.int .u64 18) true H = some (.int .i32 (g1 : Int)) := fun H => by rw [← e1]; exact q6o (s := 18) (by omega) (by omega)
    have s1 : ∀ H, A.bin base.P .shl 21 (.int .i32 (g2 : Int)) (.int .u64 12) true H = some (.int .i32 (g4 : Int)) := fun H => by rw [← e4]; exact q6o (s := 12) (by omega) (by omega)
    have s2 : ∀ H, A.bin base.P .shl 21 (.int .i32 (g3 : Int)) (.int .u64 6) true H = some (.int .i32 (g7 : Int)) := fun H => by rw [← e7]; exact q6o (s := 6) (by omega) (by omega)
    have o0 := qa3 (a := g1) (b := g4) (s := 18) (by omega) (by omega) (by omega)
    have o1 := qa3 (a := g1 + g4) (b := g7) (s := 12) (by omega) (by omega) (by omega)
    have o2 := qa3 (a := g1 + g4 + g7) (b := g8) (s := 6) (by omega) (by omega) (by omega)
    obtain ⟨g5, e5⟩ : ∃ g, g1 + g4 = g := ⟨_, rfl⟩
    rw [e5] at o0 o1 o2 ⊢
    obtain ⟨g6, e6⟩ : ∃ g, g5 + g7 = g := ⟨_, rfl⟩
    rw [e6] at o1 o2 ⊢
    obtain ⟨out, e9⟩ : ∃ g, g6 + g8 = g := ⟨_, rfl⟩
    rw [e9] at o2 ⊢
    clear hsl
    subst y4
    have hw4 : IntKind.wrap .i64 4 = 4 := rfl
    exact Evs.of fun n m => by simp [↓q00, ↓q06, ↓q09, ↓q01, ↓q04, ↓q0h, ↓q03, S114, hl, h1', hx, hf1, hf2, h240', q0m, h7, q0r, hw4, hshr, ha1, ha2, hst, hk1, i1, fa0, ld0, a1, fa1, ld1, b1, i2, a2, b2, i3, a3, b3, n0, qap, v0, s0, m1, v1, s1, q4r, o0, m2, v2, s2, o1, m3, v3, o2, hfz]
noncomputable def pDec : Pol := .still (p1 cS (fun r : Nat × Nat => .tup [.int .i32 r.1, .int .i64 r.2]) (fun s => validD s = true) decR)
theorem kDec {R : Type} {s : List UInt8} (h : validD s = true) {H : Heap} {k : AV → Heap → Option R} : polK pDec [.str s] H k = k (.tup [.int .i32 (decR s).1, .int .i64 (decR s).2]) H := by
  unfold pDec
  rw [q0c (by simp)]
  simp [h]
theorem str_ne {t : TypeId} {c : Bool} {H : Heap} (s : List UInt8) : A.bin base.P .neq t (.str s) (.str []) c H = some (.bool (!decide (s = []))) := by
  cases s <;> rfl
theorem okDec : PolOK base 108 pDec := still1 base_ok [(114, pSlow)] ⟨okSlow, trivial⟩ fun s hv => by
  have hfz : ∀ (H : Heap) (a b : Int), A.freezeB true 64 H (.tup [.int .i32 a, .int .i64 b]) = some (.tup [.int .i32 a, .int .i64 b]) := fun H a b => rfl
  have hn := fun H => str_ne (t := 9) (c := true) (H := H) s
  by_cases hne : s = []
  · subst hne
    have hk : ∀ (R : Type) (H : Heap) (k : AV → Heap → Option R), polK pSlow [.str []] H k = k (.tup [.int .i32 (decR []).1, .int .i64 (decR []).2]) H := fun R H k => kSlow hv (.inl rfl)
    exact Evs.of fun n m => by simp [↓q00, ↓q01, ↓q04, ↓q03, S108, hn, hk, hfz]
  have h0 : 0 < s.length := List.length_pos_iff.2 hne
  have hx : A.index (.str s) (.int .i64 0) = some (.int .u8 ((s.getD 0 0).toNat : Int)) := q3f (i := 0) h0
  by_cases hc : (s.getD 0 0).toNat < 128
  · have hc' : ((s.getD 0 0).toNat : Int) < 128 := by omega
    have e : decR s = ((s.getD 0 0).toNat, 1) := by
      unfold decR
      rw [if_neg hne, decodeL_N]
      unfold decodeN
      rw [if_pos hc]
    have hw : IntKind.wrap .i32 ((s.getD 0 0).toNat : Int) = ((s.getD 0 0).toNat : Int) := q5y (by omega)
    rw [e]
    generalize (s.getD 0 0).toNat = z at *
    exact Evs.of fun n m => by simp [↓q00, ↓q01, ↓q04, ↓q03, S108, hn, hne, hx, hc', qap, hw, hfz]
  · have hc' : ¬ ((s.getD 0 0).toNat : Int) < 128 := by omega
    have hk : ∀ (R : Type) (H : Heap) (k : AV → Heap → Option R), polK pSlow [.str s] H k = k (.tup [.int .i32 (decR s).1, .int .i64 (decR s).2]) H := fun R H k => kSlow hv (.inr (by omega))
    generalize (s.getD 0 0).toNat = z at *
    exact Evs.of fun n m => by simp [↓q00, ↓q01, ↓q04, ↓q03, S108, hn, hne, hx, hc', hk, hfz]
end Go.Proofs.YtleikacgncpfbaaDoor

/- Texts: how many signs; which is less. -/
set_option maxRecDepth 100000
set_option maxHeartbeats 8000000
namespace Go.Proofs.YtleikacgncpfbaaDoor
open Go Go.Den Go.Lib
/-! ### how many signs -/
theorem drop_dec (l : List UInt8) (pos : Nat) : Utf8.decode ⟨l.toArray⟩ pos = decodeL (l.drop pos) := by
  have := decodeL_drop ⟨l.toArray⟩ pos
  have e0 : (⟨l.toArray⟩ : ByteArray).data.toList = l := by simp
  rw [e0] at this
  exact this.symm
theorem drop_ne {l : List UInt8} {pos : Nat} (h : pos < l.length) : l.drop pos ≠ [] := fun e => by
  have := congrArg List.length e
  simp at this
  omega
def q1o (s : List UInt8) : Prop := s.length ≤ 1000000
noncomputable def pRunes : Pol := .still (p1 cS (.int .i64) q1o (fun s => ((rs s).length : Int)))
noncomputable def q2b : Pol := .still (p1 cS .bool (fun _ => True) validD)
theorem qfo : PolOK base 80 q2b := still1 base_ok [(99, pValid)] ⟨okValid, trivial⟩ fun s _ => Evs.of fun n m => by
  simp [S80, kValid]
theorem q6d {R : Type} {s : List UInt8} {H : Heap} {k : AV → Heap → Option R} : polK q2b [.str s] H k = k (.bool (validD s)) H := by
  simp [q2b, q0c]
noncomputable def qbg : Pol := .still (p1 cS .bool (fun _ => True) validD)
theorem okTvalid : PolOK base 97 qbg := still1 base_ok [(99, pValid)] ⟨okValid, trivial⟩ fun s _ => Evs.of fun n m => by
  simp [S97, kValid]
theorem qdy {R : Type} {s : List UInt8} {H : Heap} {k : AV → Heap → Option R} : polK qbg [.str s] H k = k (.bool (validD s)) H := by
  simp [qbg, q0c]
def countR (s : List UInt8) : Int := if validD s then ((rs s).length : Nat) else -1
noncomputable def pCount : Pol := .still (p1 cS (.int .i64) q1o countR)
def ordI (x y : Int) : Int := if x < y then -1 else if y < x then 1 else 0
noncomputable def pNanI : Pol := .still (p1 (cI .i64) .bool (fun _ => True) fun _ => false)
theorem okNanI : PolOK base 100 pNanI := still1 base_ok [] trivial fun x _ => Evs.of fun n m => by simp [↓q01, S100]
theorem kNanI {R : Type} {x : Int} {H : Heap} {k : AV → Heap → Option R} : polK pNanI [.int .i64 x] H k = k (.bool false) H := by
  simp [pNanI, q0c]
noncomputable def pNanR : Pol := .still (p1 (cI .i32) .bool (fun _ => True) fun _ => false)
theorem okNanR : PolOK base 115 pNanR := still1 base_ok [] trivial fun x _ => Evs.of fun n m => by simp [↓q01, S115]
theorem kNanR {R : Type} {x : Int} {H : Heap} {k : AV → Heap → Option R} : polK pNanR [.int .i32 x] H k = k (.bool false) H := by
  simp [pNanR, q0c]
noncomputable def pNanS : Pol := .still (p1 cS .bool (fun _ => True) fun _ => false)
theorem okNanS : PolOK base 113 pNanS := still1 base_ok [] trivial fun x _ => Evs.of fun n m => by
  have h : ∀ H, A.bin base.P .neq 9 (.str x) (.str x) false H = some (.bool false) := fun H => by simp [A.bin, A.binStr]
  simp [↓q01, S113, h]
theorem kNanS {R : Type} {x : List UInt8} {H : Heap} {k : AV → Heap → Option R} : polK pNanS [.str x] H k = k (.bool false) H := by
  simp [pNanS, q0c]
noncomputable def pCmpI : Pol := .still (p2 (cI .i64) (cI .i64) (.int .i64) (fun _ _ => True) ordI)
theorem okCmpI : PolOK base 85 pCmpI := still2 base_ok [(100, pNanI)] ⟨okNanI, trivial⟩ fun x y _ => by
  unfold ordI
  by_cases h1 : x < y
  · exact Evs.of fun n m => by simp [↓q00, ↓q01, S85, kNanI, h1]
  · by_cases h2 : y < x
    · exact Evs.of fun n m => by simp [↓q00, ↓q01, S85, kNanI, h1, h2]
    · exact Evs.of fun n m => by simp [↓q00, ↓q01, S85, kNanI, h1, h2]
theorem kCmpI {R : Type} {x y : Int} {H : Heap} {k : AV → Heap → Option R} : polK pCmpI [.int .i64 x, .int .i64 y] H k = k (.int .i64 (ordI x y)) H := by
  simp [pCmpI, q0c]
noncomputable def pCmpR : Pol := .still (p2 (cI .i32) (cI .i32) (.int .i64) (fun _ _ => True) ordI)
theorem okCmpR : PolOK base 109 pCmpR := still2 base_ok [(115, pNanR)] ⟨okNanR, trivial⟩ fun x y _ => by
  unfold ordI
  by_cases h1 : x < y
  · exact Evs.of fun n m => by simp [↓q00, ↓q01, S109, kNanR, h1]
  · by_cases h2 : y < x
    · exact Evs.of fun n m => by simp [↓q00, ↓q01, S109, kNanR, h1, h2]
    · exact Evs.of fun n m => by simp [↓q00, ↓q01, S109, kNanR, h1, h2]
theorem kCmpR {R : Type} {x y : Int} {H : Heap} {k : AV → Heap → Option R} : polK pCmpR [.int .i32 x, .int .i32 y] H k = k (.int .i64 (ordI x y)) H := by
  simp [pCmpR, q0c]
noncomputable def pCmpS : Pol := .still (p2 cS cS (.int .i64) (fun _ _ => True) fun a b => lexR (nums a) (nums b))
theorem okCmpS : PolOK base 107 pCmpS := still2 base_ok [(113, pNanS)] ⟨okNanS, trivial⟩ fun a b _ => by
  have h1 : ∀ H, A.bin base.P .lss 9 (.str a) (.str b) false H = some (.bool (decide (lexR (nums a) (nums b) < 0))) := fun H => by
    show A.binStr .lss a b = _
    simp only [A.binStr, q7v]
  have h2 : ∀ H, A.bin base.P .gtr 9 (.str a) (.str b) false H = some (.bool (decide (0 < lexR (nums a) (nums b)))) := fun H => by
    show A.binStr .gtr a b = _
    simp only [A.binStr, q7v]
    congr 2
    have hr := q8h (nums a) (nums b)
    have hz := q4c (nums a) (nums b)
    by_cases e : a = b
    · subst e
      rw [qfc]
      simp
    · have : lexR (nums a) (nums b) ≠ 0 := fun h => e (qfm (hz.1 h))
      have eb : (a == b) = false := by simp [e]
      rw [eb, Bool.or_false]
      rcases hr with h | h | h
      · rw [h]; rfl
      · exact absurd h this
      · rw [h]; rfl
  have hr := q8h (nums a) (nums b)
  generalize lexR (nums a) (nums b) = x at *
  rcases hr with rfl | rfl | rfl
  · exact Evs.of fun n m => by simp [↓q00, ↓q01, S107, kNanS, h1]
  · exact Evs.of fun n m => by simp [↓q00, ↓q01, S107, kNanS, h1, h2]
  · exact Evs.of fun n m => by simp [↓q00, ↓q01, S107, kNanS, h1, h2]
theorem kCmpS {R : Type} {a b : List UInt8} {H : Heap} {k : AV → Heap → Option R} : polK pCmpS [.str a, .str b] H k = k (.int .i64 (lexR (nums a) (nums b))) H := by
  simp [pCmpS, q0c]
noncomputable abbrev TLess : List (FuncId × Pol) := [(97, qbg), (107, pCmpS), (108, pDec), (85, pCmpI), (109, pCmpR)]
theorem dec_w {s : List UInt8} (hne : s ≠ []) (hv : validD s = true) : decR s = decodeL s ∧ 1 ≤ (decodeL s).2 ∧ (decodeL s).2 ≤ s.length ∧ validD (s.drop (decodeL s).2) = true := by
  have hs := hv
  rw [validD_step s hne] at hs
  by_cases hg : (decodeL s).1 = 65533 ∧ (decodeL s).2 = 1
  · rw [if_pos hg] at hs; cases hs
  · rw [if_neg hg] at hs
    obtain ⟨-, -, h3, h4⟩ := qew hne hg
    exact ⟨by unfold decR; rw [if_neg hne], h4, h3, hs⟩
theorem qiy : ∀ (N : Nat) (a b : List UInt8) (H : Heap), a.length ≤ N → validD a = true → validD b = true →
    LDoes (qeq (polT TLess)) ⟨[.str a, .str b], []⟩ H 0 ⟨[.int .i64 (lexR (rs a) (rs b))], []⟩ H := by
  intro N
  induction N with
  | zero =>
    intro a b H hN ha hb
    have : a = [] := List.eq_nil_of_length_eq_zero (by omega)
    subst this
    have ka : ∀ (R : Type) (H : Heap) (k : AV → Heap → Option R), polK pDec [.str []] H k = k (.tup [.int .i32 65533, .int .i64 0]) H := fun R H k => kDec ha
    by_cases hbe : b = []
    · subst hbe
      have e : lexR (rs []) (rs []) = 0 := rfl
      have eo : ordI 0 0 = 0 := rfl
      rw [e]
      exact LDoes.step (Evs.of fun n m => by simp [↓q00, ↓q01, ↓q04, ↓q03, q1f, ka, kCmpI, eo])
    · obtain ⟨d1, d2, d3, d4⟩ := dec_w hbe hb
      have kb : ∀ (R : Type) (H : Heap) (k : AV → Heap → Option R), polK pDec [.str b] H k = k (.tup [.int .i32 (decodeL b).1, .int .i64 (decodeL b).2]) H := fun R H k => by rw [kDec hb, d1]
      have e : lexR (rs []) (rs b) = -1 := by rw [q53 hbe]; rfl
      have eo : ordI 0 ((decodeL b).2 : Int) = -1 := by unfold ordI; rw [if_pos (by omega)]
      rw [e]
      generalize ((decodeL b).2 : Int) = m at *
      generalize ((decodeL b).1 : Int) = r at *
      exact LDoes.step (Evs.of fun n m => by simp [↓q00, ↓q01, ↓q04, ↓q03, q1f, ka, kb, kCmpI, eo])
  | succ N ih =>
    intro a b H hN ha hb
    by_cases hae : a = []
    · subst hae
      exact (by
        have ka : ∀ (R : Type) (H : Heap) (k : AV → Heap → Option R), polK pDec [.str []] H k = k (.tup [.int .i32 65533, .int .i64 0]) H := fun R H k => kDec ha
        by_cases hbe : b = []
        · subst hbe
          have e : lexR (rs []) (rs []) = 0 := rfl
          have eo : ordI 0 0 = 0 := rfl
          rw [e]
          exact LDoes.step (Evs.of fun n m => by simp [↓q00, ↓q01, ↓q04, ↓q03, q1f, ka, kCmpI, eo])
        · obtain ⟨d1, d2, d3, d4⟩ := dec_w hbe hb
          have kb : ∀ (R : Type) (H : Heap) (k : AV → Heap → Option R), polK pDec [.str b] H k = k (.tup [.int .i32 (decodeL b).1, .int .i64 (decodeL b).2]) H := fun R H k => by rw [kDec hb, d1]
          have e : lexR (rs []) (rs b) = -1 := by rw [q53 hbe]; rfl
          have eo : ordI 0 ((decodeL b).2 : Int) = -1 := by unfold ordI; rw [if_pos (by omega)]
          rw [e]
          generalize ((decodeL b).2 : Int) = m at *
          generalize ((decodeL b).1 : Int) = r at *
          exact LDoes.step (Evs.of fun n m => by simp [↓q00, ↓q01, ↓q04, ↓q03, q1f, ka, kb, kCmpI, eo]))
    obtain ⟨c1, c2, c3, c4⟩ := dec_w hae ha
    have ka : ∀ (R : Type) (H : Heap) (k : AV → Heap → Option R), polK pDec [.str a] H k = k (.tup [.int .i32 (decodeL a).1, .int .i64 (decodeL a).2]) H := fun R H k => by rw [kDec ha, c1]
    have ia : ¬ ((decodeL a).2 : Int) = 0 := by omega
    by_cases hbe : b = []
    · subst hbe
      have kb : ∀ (R : Type) (H : Heap) (k : AV → Heap → Option R), polK pDec [.str []] H k = k (.tup [.int .i32 65533, .int .i64 0]) H := fun R H k => kDec hb
      have e : lexR (rs a) (rs []) = 1 := by rw [q53 hae]; rfl
      have eo : ordI ((decodeL a).2 : Int) 0 = 1 := by unfold ordI; rw [if_neg (by omega), if_pos (by omega)]
      rw [e]
      generalize ((decodeL a).2 : Int) = m at *
      generalize ((decodeL a).1 : Int) = r at *
      exact LDoes.step (Evs.of fun n m => by simp [↓q00, ↓q01, ↓q04, ↓q03, q1f, ka, kb, ia, kCmpI, eo])
    obtain ⟨d1, d2, d3, d4⟩ := dec_w hbe hb
    have kb : ∀ (R : Type) (H : Heap) (k : AV → Heap → Option R), polK pDec [.str b] H k = k (.tup [.int .i32 (decodeL b).1, .int .i64 (decodeL b).2]) H := fun R H k => by rw [kDec hb, d1]
    have ib : ¬ ((decodeL b).2 : Int) = 0 := by omega
    rw [q53 hae, q53 hbe]
    by_cases hr : (decodeL a).1 = (decodeL b).1
    · have e : lexR ((decodeL a).1 :: rs (a.drop (decodeL a).2)) ((decodeL b).1 :: rs (b.drop (decodeL b).2)) = lexR (rs (a.drop (decodeL a).2)) (rs (b.drop (decodeL b).2)) := by
        show (if (decodeL a).1 < (decodeL b).1 then (-1 : Int) else if (decodeL b).1 < (decodeL a).1 then 1 else lexR (rs (a.drop (decodeL a).2)) (rs (b.drop (decodeL b).2))) = _
        rw [if_neg (by omega), if_neg (by omega)]
      rw [e]
      have sa := q11 (s := a) (k := .i64) c3
      have sb := q11 (s := b) (k := .i64) d3
      have hL := ih (a.drop (decodeL a).2) (b.drop (decodeL b).2) H (by rw [List.length_drop]; omega) c4 d4
      have hri : ((decodeL a).1 : Int) = ((decodeL b).1 : Int) := by rw [hr]
      refine LDoes.step (Evs.withL hL (Evs.of fun n m _ h2 => ?_))
      generalize a.drop (decodeL a).2 = a' at *
      generalize b.drop (decodeL b).2 = b' at *
      generalize ((decodeL a).2 : Int) = wa at *
      generalize ((decodeL b).2 : Int) = wb at *
      generalize ((decodeL a).1 : Int) = ra at *
      generalize ((decodeL b).1 : Int) = rb at *
      simp [↓q00, ↓q01, ↓q04, ↓q03, q1f, ka, kb, ia, ib, hri, sa, sb, h2]
    · have e : lexR ((decodeL a).1 :: rs (a.drop (decodeL a).2)) ((decodeL b).1 :: rs (b.drop (decodeL b).2)) = ordI ((decodeL a).1 : Int) ((decodeL b).1 : Int) := by
        unfold lexR ordI
        by_cases h1 : (decodeL a).1 < (decodeL b).1
        · rw [if_pos h1, if_pos (by omega)]
        · rw [if_neg h1, if_pos (by omega), if_neg (by omega), if_pos (by omega)]
      rw [e]
      have hri : ¬ ((decodeL a).1 : Int) = ((decodeL b).1 : Int) := by omega
      generalize ((decodeL a).2 : Int) = wa at *
      generalize ((decodeL b).2 : Int) = wb at *
      generalize ((decodeL a).1 : Int) = ra at *
      generalize ((decodeL b).1 : Int) = rb at *
      exact LDoes.step (Evs.of fun n m => by simp [↓q00, ↓q01, ↓q04, ↓q03, q1f, ka, kb, ia, ib, hri, kCmpR])
noncomputable def pLess : Pol := .still (p2 cS cS (.int .i64) (fun _ _ => True) lessR)
theorem okLess : PolOK base 101 pLess := still2 base_ok TLess ⟨okTvalid, okCmpS, okDec, okCmpI, okCmpR, trivial⟩ fun a b _ => by
  unfold lessR
  cases ha : validD a
  · rw [if_neg (by simp)]
    exact Evs.of fun n m => by simp [↓q00, ↓q06, ↓q01, ↓q04, ↓q03, S101, qdy, ha, kCmpS]
  · cases hb : validD b
    · rw [if_neg (by simp)]
      exact Evs.of fun n m => by simp [↓q00, ↓q06, ↓q01, ↓q04, ↓q03, S101, qdy, ha, hb, kCmpS]
    · rw [if_pos (by simp)]
      refine Evs.withL (qiy _ a b [] (Nat.le_refl _) ha hb) (Evs.of fun n m h1 _ => ?_)
      generalize lexR (rs a) (rs b) = x at *
      simp [↓q00, ↓q06, ↓q01, ↓q04, ↓q03, ↓q07, S101, qdy, ha, hb, h1]
theorem kLess {R : Type} {a b : List UInt8} {H : Heap} {k : AV → Heap → Option R} : polK pLess [.str a, .str b] H k = k (.int .i64 (lessR a b)) H := by
  simp [pLess, q0c]
end Go.Proofs.YtleikacgncpfbaaDoor

/- Texts, the reference: which is less. -/
set_option maxRecDepth 100000
set_option maxHeartbeats 8000000
namespace Go.Proofs.YtleikacgncpfbaaDoor
open Go Go.Den Go.Lib
def diffR : List Nat → List Nat → Option Int
  | x :: p, y :: q => if x = y then diffR p q else some (ordI x y)
  | _, _ => none
noncomputable def pOrd : Pol := .still (p2 (cI .i64) (cI .i64) (.int .i64) (fun _ _ => True) ordI)
def cBy : Cd (Option (List UInt8)) := ⟨eL 1 eb, fun a b h => qdo (fun l m _ _ hm => q7h (fun a b => eb_inj) hm) h, fun a => by cases a <;> rfl⟩
@[simp] theorem enc_cBy {a : Option (List UInt8)} : cBy.enc a = eL 1 eb a := id rfl
@[simp] theorem dec_cBy {a : Option (List UInt8)} : cBy.dec (eL 1 eb a) = some a := cBy.dec_enc a
noncomputable abbrev TOrd : List (FuncId × Pol) := [(64, pOrd)]
def bywOk (a _ : Option (List UInt8)) : Prop := (a.getD []).length ≤ 1000000
noncomputable def pByw : Pol := .still (p2 cBy cBy (.int .i64) bywOk fun a b => lexR (nums (a.getD [])) (nums (b.getD [])))
theorem ty_bytes : base.P.underlying 24 = some (.slice 5) := by kernel_rfl
abbrev er (r : Nat) : AV := .int .i32 (r : Int)
noncomputable abbrev TRless : List (FuncId × Pol) := [(80, q2b), (67, pByw), (64, pOrd)]
def lessOk (a b : List UInt8) : Prop := q1o a ∧ q1o b
noncomputable def pRless : Pol := .still (p2 cS cS (.int .i64) lessOk lessR)
end Go.Proofs.YtleikacgncpfbaaDoor

/- How many signs a text has, by the reference. -/
set_option maxRecDepth 100000
set_option maxHeartbeats 8000000
namespace Go.Proofs.YtleikacgncpfbaaDoor
open Go Go.Den Go.Lib
theorem qgh {pol : FuncId → Pol} {l : List UInt8} {id : Nat} : ∀ (N pos : Nat) (c : Int) (H : Heap), l.length - pos ≤ N → H[id]? = some (.iter l pos) → 0 ≤ c → c + N ≤ 1000000000 →
    ∃ H', LDoes (L81_0 pol) ⟨[.int .i64 c, .it id], []⟩ H 0 ⟨[.int .i64 (c + (rs (l.drop pos)).length)], []⟩ H' := by
  intro N
  induction N with
  | zero =>
    intro pos c H hN hH h0 h1
    have hp : ¬ pos < l.length := by omega
    have hd : l.drop pos = [] := List.drop_of_length_le (by omega)
    rw [hd]
    refine ⟨H, LDoes.step (Evs.of fun n m => ?_)⟩
    simp [↓q00, ↓q01, q64, nextK, hH, hp, rs_nil]
  | succ N ih =>
    intro pos c H hN hH h0 h1
    by_cases hp : pos < l.length
    · have hne := drop_ne hp
      have hw := decodeL_width (l.drop pos)
      have hid : id < H.length := (List.getElem?_eq_some_iff.1 hH).1
      obtain ⟨H', hL⟩ := ih (pos + (decodeL (l.drop pos)).2) (c + 1) (H.set id (.iter l (pos + (decodeL (l.drop pos)).2))) (by omega) (List.getElem?_set_self hid) (by omega) (by omega)
      have hc : IntKind.wrap .i64 (c + 1) = c + 1 := q0o (by omega) (by omega)
      have e : c + ((rs (l.drop pos)).length : Int) = c + 1 + ((rs (l.drop (pos + (decodeL (l.drop pos)).2))).length : Int) := by
        rw [q53 hne, List.drop_drop, List.length_cons]
        omega
      rw [e]
      have hdd := drop_dec l pos
      generalize decodeL (l.drop pos) = d at *
      refine ⟨H', LDoes.step (Evs.withL hL (Evs.of fun n m _ h2 => ?_))⟩
      simp [↓q00, ↓q01, q64, nextK, hH, hp, hdd, hc, h2]
    · have hd : l.drop pos = [] := List.drop_of_length_le (by omega)
      rw [hd]
      refine ⟨H, LDoes.step (Evs.of fun n m => ?_)⟩
      simp [↓q00, ↓q01, q64, nextK, hH, hp, rs_nil]
noncomputable def q3h : Pol := .still (p1 cS (.int .i64) q1o countR)
theorem okRcount : PolOK base 81 q3h := still1 base_ok [(80, q2b)] ⟨qfo, trivial⟩ fun s hs => by
  unfold q1o at hs
  obtain ⟨H', hL⟩ := qgh (pol := polT [(80, q2b)]) (l := s) (id := 0) s.length 0 0 [.iter s 0] (by omega) rfl (by omega) (by omega)
  refine Evs.withL hL (Evs.of fun n m h1 _ => ?_)
  simp only [Int.zero_add, List.drop_zero] at h1
  unfold countR
  generalize ((rs s).length : Int) = N at *
  cases h : validD s <;> simp [↓q00, ↓q06, ↓q01, ↓q07, S81, q6d, h, rangeK, h1]
theorem q8f {R : Type} {s : List UInt8} (h : q1o s) {H : Heap} {k : AV → Heap → Option R} : polK q3h [.str s] H k = k (.int .i64 (countR s)) H := by
  simp [q3h, q0c, h]
theorem q25 {s : List UInt8} : (0 ≤ countR s ↔ validD s = true) := by
  unfold countR
  cases validD s
  · simp
  · simp
end Go.Proofs.YtleikacgncpfbaaDoor

/- Terms: may one be, but for what is in it. -/
set_option maxRecDepth 100000
set_option maxHeartbeats 4000000
namespace Go.Proofs.YtleikacgncpfbaaDoor
open Go Go.Den
def shortOne (t : Tm) : Prop := (t.d.getD []).length ≤ 1000000 ∧ t.name.length ≤ 1000000
noncomputable def pOne : Pol := .still (p1 cT .bool shortOne (oneS countR))
end Go.Proofs.YtleikacgncpfbaaDoor

/- Terms: may one be: a round. -/
set_option maxRecDepth 100000
set_option maxHeartbeats 4000000
namespace Go.Proofs.YtleikacgncpfbaaDoor
open Go Go.Den
noncomputable abbrev TMay1 : List (FuncId × Pol) := [(75, pParts), (56, pOne)]
noncomputable def pWalkMay : Pol := .prim (runF base TMay1 77)
noncomputable def LDm (t : Tm) : LoopD := LD17 (eT t) (.ptr 0 0 0 0) (.ptr 1 0 0 0) (eT t) (.fn (.func 77) [] [.ptr 2 0 0 0])
def okM (_ : Nat) (x : Tm) : Bool := decide ((x.d.getD []).length ≤ 1000000) && decide (x.name.length ≤ 1000000)
noncomputable def goM (s : Nat) (x : Tm) : Bool := decide (s + 1 ≤ 65536) && oneS countR x
def InvM (t : Tm) (s : Nat) (H : Heap) : Prop := s ≤ 65536 ∧ H[0]? = some (.row 0 1 4 [.bool false]) ∧ H[1]? = some (.row 0 1 3 [.int .i64 (s : Int)]) ∧ H[3]? = some (.loop (LDm t))
def FinM (t : Tm) (_ : Nat) (H : Heap) : Prop := H[0]? = some (.row 0 1 4 [.bool false]) ∧ H[3]? = some (.loop { LDm t with state := 2, pending := some .ret })
end Go.Proofs.YtleikacgncpfbaaDoor

/- Terms: may one be: the entry. -/
set_option maxRecDepth 100000
set_option maxHeartbeats 4000000
namespace Go.Proofs.YtleikacgncpfbaaDoor
open Go Go.Den
noncomputable def mayS (t : Tm) : Bool := decide (szT t ≤ 65536) && mayT countR t
noncomputable def pMay : Pol := .still (p1 cT .bool tame mayS)
end Go.Proofs.YtleikacgncpfbaaDoor

/- Terms, the reference: how many parts a term has. -/
set_option maxRecDepth 100000
set_option maxHeartbeats 4000000
namespace Go.Proofs.YtleikacgncpfbaaDoor
open Go Go.Den
theorem szs_drop {l : List Tm} {i : Nat} (h : i < l.length) : szs (l.drop i) = szT l[i] + szs (l.drop (i + 1)) := by
  rw [List.drop_eq_getElem_cons h, szs]
theorem min_int {a b : Int} {k : IntKind} : A.minv (.int k a) (.int k b) = some (.int k (if b < a then b else a)) := by simp [A.minv]
noncomputable def pRtree (n : Nat) : Pol := .still (p1 cT (fun n : Nat => .int .i64 (n : Int)) (fun t => t.size ≤ n ∧ t.thin 1000) (fun t => min (szT t) 65537))
theorem kRtree {n : Nat} {R : Type} {t : Tm} (h : t.size ≤ n) (h2 : t.thin 1000) {H : Heap} {k : AV → Heap → Option R} : polK (pRtree n) [eT t] H k = k (.int .i64 ((min (szT t) 65537 : Nat) : Int)) H := by
  simp [pRtree, q0c, h, h2]
theorem qh0 {n : Nat} {t : Tm} {H : Heap} (hs : t.size ≤ n + 1) (ht : t.thin 1000) (hB : Go.Den.Box H 0 7 26 (eT t).cells) : ∀ (k i c : Nat), i + k = t.kids.length → c ≤ 200000 →
    ∃ c' : Nat, min c' 65537 = min (c + szs (t.kids.drop i)) 65537 ∧ LDoes (qg6 (polT [(20, pRtree n)])) ⟨[.ptr 0 0 0 0, .int .i64 (c : Int), .int .i64 (i : Int)], []⟩ H 0 ⟨[.int .i64 (c' : Int)], []⟩ H := by
  have p1 := hB.fa (o := 5)
  have p2 := hB.load (o := 5)
  rw [q02] at p2
  simp only [List.getElem?_cons_succ, List.getElem?_cons_zero] at p2
  have hl : t.kids.length ≤ 1000 := (Tm.thin_eq.1 ht).1
  have hlen : A.len (eL 7 eT t.l) H = some (.int .i64 ((t.kids.length : Nat) : Int)) := q08
  intro k
  induction k with
  | zero =>
    intro i c hi hc
    have : i = t.kids.length := by omega
    subst this
    have h0 : szs [] = 0 := by rw [szs]
    rw [List.drop_length, h0]
    refine ⟨c, rfl, LDoes.step (Evs.of fun n m => ?_)⟩
    generalize (t.kids.length : Int) = N at *
    simp [↓q00, ↓q01, ↓q04, ↓q03, q60, p1, p2, hlen]
  | succ k ih =>
    intro i c hi hc
    have hlt : i < t.kids.length := by omega
    have hlt' : (i : Int) < (t.kids.length : Int) := by omega
    by_cases h6 : c ≤ 65536
    · have h6' : (c : Int) ≤ 65536 := by omega
      have hx : A.idx 7 (eL 7 eT t.l) (.int .i64 (i : Int)) H = some (.rop (eT t.kids[i]).cells) := q4n (sz := 7) (e := eT) (o := t.l) (H := H) (k := .i64) (i := i) hlt
      have hi1 : IntKind.wrap .i64 ((i : Int) + 1) = (i : Int) + 1 := q0o (by omega) (by omega)
      have hsz : (t.kids[i]).size ≤ n := by
        have := Tm.size_kid (t := t) (u := t.kids[i]) (List.getElem_mem hlt)
        omega
      have hr : ∀ (R : Type) (H : Heap) (k : AV → Heap → Option R), polK (pRtree n) [eT t.kids[i]] H k = k (.int .i64 ((min (szT t.kids[i]) 65537 : Nat) : Int)) H := fun R H k => kRtree hsz ((Tm.thin_eq.1 ht).2 _ (List.getElem_mem hlt))
      have hld := q17 (t := t.kids[i]) (H := H)
      generalize hm : min (szT t.kids[i]) 65537 = m at *
      obtain ⟨c', hc', hL⟩ := ih (i + 1) (c + m) (by omega) (by omega)
      have hw : IntKind.wrap .i64 ((c : Int) + (m : Int)) = (c : Int) + (m : Int) := q0o (by omega) (by omega)
      simp only [Int.natCast_add, Int.natCast_one] at hL
      refine ⟨c', ?_, LDoes.step (Evs.withL hL (Evs.of fun n m _ h2 => ?_))⟩
      · rw [hc', szs_drop hlt]
        omega
      · generalize (eT t.kids[i]).cells = cs at *
        generalize eT t.kids[i] = v at *
        generalize (t.kids.length : Int) = N at *
        simp [↓q00, ↓q01, ↓q04, ↓q03, q60, p1, p2, hlen, hlt', h6', hx, hld, hr, hw, hi1, h2]
    · have h6' : ¬ (c : Int) ≤ 65536 := by omega
      refine ⟨c, by omega, LDoes.step (Evs.of fun n m => ?_)⟩
      generalize (t.kids.length : Int) = N at *
      simp [↓q00, ↓q01, ↓q04, ↓q03, q60, p1, p2, hlen, hlt', h6']
theorem okRtree : ∀ n, PolOK base 20 (pRtree n)
  | 0 => still1 base_ok [] trivial fun t ⟨hs, _⟩ => by
    have := t.size_eq
    omega
  | n + 1 => still1 base_ok [(20, pRtree n)] ⟨okRtree n, trivial⟩ fun t ⟨hs, ht⟩ => by
    have hB := q6w t [.row 0 7 26 [eT t]] 0 rfl
    have p := fun o => hB.fa (o := o)
    have q := fun o => hB.load (o := o)
    rw [q02] at q
    have q0 := q 0
    simp only [List.getElem?_cons_zero] at q0
    have hce : (eT t).cells.length = 7 := by rw [q02]; rfl
    obtain ⟨c', hc', hL⟩ := qh0 (n := n) (t := t) hs ht hB t.kids.length 0 1 (by omega) (by omega)
    have hmin : ∀ a : Nat, A.minv (.int .i64 (a : Int)) (.int .i64 65537) = some (.int .i64 ((min a 65537 : Nat) : Int)) := fun a => by
      rw [min_int]
      congr 2
      split <;> omega
    refine Evs.withL hL (Evs.of fun n m h1 _ => ?_)
    rw [szT_eq]
    unfold partsO
    by_cases c4 : t.kind = 4
    · have e : min c' 65537 = min (1 + szs (t.l.getD [])) 65537 := hc'
      rw [if_pos (Or.inl c4), ← e]
      rw [c4] at q0
      have h1' : qg6 (polT [(20, pRtree _)]) n n ⟨[.ptr 0 0 0 0, .int .i64 1, .int .i64 0], []⟩ [.row 0 7 26 [eT t]] = some (0, ⟨[.int .i64 (c' : Int)], []⟩, [.row 0 7 26 [eT t]]) := h1
      have hm := hmin c'
      generalize ((min c' 65537 : Nat) : Int) = r at *
      simp [-q02, S20, hce, p, q0, h1', hm]
    · by_cases c6 : t.kind = 6
      · have e : min c' 65537 = min (1 + szs (t.l.getD [])) 65537 := hc'
        rw [if_pos (Or.inr c6), ← e]
        rw [c6] at q0
        have h1' : qg6 (polT [(20, pRtree _)]) n n ⟨[.ptr 0 0 0 0, .int .i64 1, .int .i64 0], []⟩ [.row 0 7 26 [eT t]] = some (0, ⟨[.int .i64 (c' : Int)], []⟩, [.row 0 7 26 [eT t]]) := h1
        have hm := hmin c'
        generalize ((min c' 65537 : Nat) : Int) = r at *
        simp [-q02, S20, hce, p, q0, h1', hm]
      · rw [if_neg (by omega)]
        have e0 : min (1 + szs ((none : Option (List Tm)).getD [])) 65537 = 1 := by
          have h0 : szs [] = 0 := by rw [szs]
          show min (1 + szs []) 65537 = 1
          rw [h0]
          rfl
        have hm := hmin 1
        rw [e0]
        simp only [Int.natCast_one] at hm
        simp [-q02, S20, hce, p, q0, c4, c6]
end Go.Proofs.YtleikacgncpfbaaDoor

/- Terms, the reference: how many words a term takes. -/
set_option maxRecDepth 100000
set_option maxHeartbeats 4000000
namespace Go.Proofs.YtleikacgncpfbaaDoor
open Go Go.Den
def fineW (t : Tm) : Prop := t.thin 1000 ∧ t.fewd ∧ szT t ≤ 65536
noncomputable def pRwords (n : Nat) : Pol := .still (p1 cT (fun n : Nat => .int .i64 (n : Int)) (fun t => t.size ≤ n ∧ fineW t) wT)
noncomputable abbrev TRw (n : Nat) : List (FuncId × Pol) := [(22, pRwords n), (33, pSmallof), (35, pRnorm)]
end Go.Proofs.YtleikacgncpfbaaDoor

/- Terms, the reference: may one be, but for how many parts it has. -/
set_option maxRecDepth 100000
set_option maxHeartbeats 8000000
namespace Go.Proofs.YtleikacgncpfbaaDoor
open Go Go.Den
theorem q0y {t : TypeId} {c : Bool} {H : Heap} (s : List UInt8) : A.bin base.P .neq t (.str s) (.str []) c H = some (.bool (!decide (s = []))) := by
  cases s <;> rfl
theorem q33 {a : Nm} (h : few a.2) : few (rnormS a).2 := by
  unfold few at h ⊢
  have e : (rnormS a).2.getD [] = lim (val (a.2.getD [])) := by
    unfold rnormS
    cases lim (val (a.2.getD [])) <;> rfl
  have := q2i (a.2.getD [])
  rw [e]
  omega
noncomputable def pRmay (n : Nat) : Pol := .still (p1 cT .bool (fun t => t.size ≤ n ∧ tame t) (mayT countR))
theorem kRmay {n : Nat} {R : Type} {t : Tm} (h : t.size ≤ n) (h2 : tame t) {H : Heap} {k : AV → Heap → Option R} : polK (pRmay n) [eT t] H k = k (.bool (mayT countR t)) H := by
  simp [pRmay, q0c, h, h2]
noncomputable abbrev TRm (n : Nat) : List (FuncId × Pol) := [(57, pRmay n), (35, pRnorm), (34, pSame), (80, q2b), (81, q3h)]
theorem q41 {n : Nat} {t : Tm} {H : Heap} (hs : t.size ≤ n + 1) (ht : tame t) (hB : Go.Den.Box H 0 7 26 (eT t).cells) : ∀ (k i : Nat), i + k = t.kids.length →
    LDoes (L57_0 (polT (TRm n))) ⟨[.ptr 0 0 0 0, .int .i64 (i : Int)], []⟩ H (if (t.kids.drop i).all (mayT countR) then 0 else 1) ⟨[if (t.kids.drop i).all (mayT countR) then .undef else .bool false], []⟩ H := by
  have p1 := hB.fa (o := 5)
  have p2 := hB.load (o := 5)
  rw [q02] at p2
  simp only [List.getElem?_cons_succ, List.getElem?_cons_zero] at p2
  have hl : t.kids.length ≤ 1000 := (tame_eq.1 ht).1.2.2
  have hlen : A.len (eL 7 eT t.l) H = some (.int .i64 ((t.kids.length : Nat) : Int)) := q08
  intro k
  induction k with
  | zero =>
    intro i hi
    have : i = t.kids.length := by omega
    subst this
    rw [List.drop_length]
    refine LDoes.step (Evs.of fun n m => ?_)
    generalize (t.kids.length : Int) = N at *
    simp [-q08, q63, p1, p2, hlen]
  | succ k ih =>
    intro i hi
    have hlt : i < t.kids.length := by omega
    have hlt' : (i : Int) < (t.kids.length : Int) := by omega
    have hmem : t.kids[i] ∈ t.kids := List.getElem_mem hlt
    have hx : A.idx 7 (eL 7 eT t.l) (.int .i64 (i : Int)) H = some (.rop (eT t.kids[i]).cells) := q4n (sz := 7) (e := eT) (o := t.l) (H := H) (k := .i64) (i := i) hlt
    have hi1 : IntKind.wrap .i64 ((i : Int) + 1) = (i : Int) + 1 := q0o (by omega) (by omega)
    have hsz : (t.kids[i]).size ≤ n := by
      have := Tm.size_kid (t := t) (u := t.kids[i]) hmem
      omega
    have hr : ∀ (R : Type) (H : Heap) (k : AV → Heap → Option R), polK (pRmay n) [eT t.kids[i]] H k = k (.bool (mayT countR t.kids[i])) H := fun R H k => kRmay hsz ((tame_eq.1 ht).2 _ hmem)
    have hld := q17 (t := t.kids[i]) (H := H)
    have hL := ih (i + 1) (by omega)
    simp only [Int.natCast_add, Int.natCast_one] at hL
    rw [List.drop_eq_getElem_cons hlt, List.all_cons]
    generalize (t.kids.drop (i + 1)).all (mayT countR) = rest at *
    generalize (eT t.kids[i]).cells = cs at *
    generalize (t.kids.length : Int) = N at *
    cases hm : mayT countR t.kids[i]
    · rw [hm] at hr
      generalize eT t.kids[i] = v at *
      refine LDoes.step (Evs.of fun n m => ?_)
      simp [-q08, q63, p1, p2, hlen, hlt', hx, hld, hr]
    · rw [hm] at hr
      generalize eT t.kids[i] = v at *
      refine LDoes.step (Evs.withL hL (Evs.of fun n m _ h2 => ?_))
      simp [-q08, q63, p1, p2, hlen, hlt', hx, hld, hr, hi1, h2]
end Go.Proofs.YtleikacgncpfbaaDoor

/- Terms, the reference: may one be, but for how many parts it has: kinds 0, 1. -/
set_option maxRecDepth 100000
set_option maxHeartbeats 8000000
namespace Go.Proofs.YtleikacgncpfbaaDoor
open Go Go.Den
theorem rmay_A (n : Nat) (t : Tm) (hs : t.size ≤ n + 1) (ht : tame t) (hkd : t.kind = 0 ∨ t.kind = 1) : Evs fun n' _ => callF (base.with (polT (TRm n))) (n' + 1) AV 57 [cT.enc t] [] (fun v G => A.freezeB true 64 G v) = some (.bool (mayT countR t)) := by
  have hB : Go.Den.Box [.row 0 7 26 [eT t]] 0 7 26 (eT t).cells := q6w t _ 0 rfl
  have p := fun o => hB.fa (o := o)
  have q := fun o => hB.load (o := o)
  rw [q02] at q
  have q0 := q 0
  have q1 := q 1
  have q2 := q 2
  have q3 := q 3
  have q4 := q 4
  have q5 := q 5
  have q6 := q 6
  simp only [List.getElem?_cons_succ, List.getElem?_cons_zero] at q0 q1 q2 q3 q4 q5 q6
  have hcl : (eT t).cells.length = 7 := by rw [q02]; rfl
  have hl5 : A.len (eL 7 eT t.l) [.row 0 7 26 [eT t]] = some (.int .i64 ((t.kids.length : Nat) : Int)) := q08
  have hl2 : A.len (eD t.d) [.row 0 7 26 [eT t]] = some (.int .i64 ((t.d.getD []).length : Int)) := q08
  have hl6 : A.len (eL 1 eb t.b) [.row 0 7 26 [eT t]] = some (.int .i64 ((t.b.getD []).length : Int)) := q08
  have hsn := fun H => q0y (t := 9) (c := true) (H := H) t.name
  have hs0 := fun H => q0y (t := 9) (c := true) (H := H) []
  have hfew : few t.d := (tame_eq.1 ht).1.1
  have hnl : q1o t.name := (tame_eq.1 ht).1.2.1
  have hnm : ∀ (R : Type) (H : Heap) (k : AV → Heap → Option R), polK pRnorm [.agg [.bool t.neg, eD t.d]] H k = k (eN (rnormS (t.neg, t.d))) H := fun R H k => kRnorm (a := (t.neg, t.d)) hfew
  have hsm : ∀ (R : Type) (H : Heap) (k : AV → Heap → Option R), polK pSame [.agg [.bool t.neg, eD t.d], eN (rnormS (t.neg, t.d))] H k = k (.bool (sameS (t.neg, t.d) (rnormS (t.neg, t.d)))) H := fun R H k => kSame (a := (t.neg, t.d)) hfew (q33 hfew)
  have hfill : A.fill [.bool false, .nils] [(0, 1, .bool t.neg), (1, 1, eD t.d)] = some [.bool t.neg, eD t.d] := by simp [A.fill, A.splice]
  have hva : ∀ (R : Type) (H : Heap) (k : AV → Heap → Option R), polK q2b [.str t.name] H k = k (.bool (Lib.validD t.name)) H := fun R H k => q6d
  have hco : ∀ (R : Type) (H : Heap) (k : AV → Heap → Option R), polK q3h [.str t.name] H k = k (.int .i64 (countR t.name)) H := fun R H k => q8f hnl
  have hcv := q25 (s := t.name)
  have hL := q41 hs ht hB t.kids.length 0 (by omega)
  rw [List.drop_zero] at hL
  have hrest : ∀ kd, t.kind = kd → (kd = 4 ∨ kd = 6) → ((partsO t).getD []).all (mayT countR) = t.kids.all (mayT countR) := fun kd e hkd => by
    unfold partsO
    rw [if_pos (by rw [e]; exact hkd)]
    rfl
  have hrest0 : t.kind ≠ 4 → t.kind ≠ 6 → ((partsO t).getD []).all (mayT countR) = true := fun e1 e2 => by
    unfold partsO
    rw [if_neg (by omega)]
    rfl
  rw [q50]
  unfold oneS spareS
  rw [← q36]
  generalize sameS (t.neg, t.d) (rnormS (t.neg, t.d)) = sn at *
  generalize rnormS (t.neg, t.d) = rn at *
  generalize ((partsO t).getD []).all (mayT countR) = rest at *
  generalize t.kids.all (mayT countR) = kall at *
  generalize countR t.name = cn at *
  generalize Lib.validD t.name = vn at *
  generalize t.kids.length = nl at *
  generalize (t.d.getD []).length = nd at *
  generalize (t.b.getD []).length = nb at *
  generalize t.kind = kd at *
  generalize t.neg = ng at *
  generalize t.n = nn at *
  generalize eL 7 eT t.l = vl at *
  generalize eD t.d = vd at *
  generalize eL 1 eb t.b = vb at *
  clear q
  have e64 : decide ((nd : Int) ≤ 64) = decide (nd ≤ 64) := decide_eq_decide.2 (by omega)
  have e4096 : decide ((nb : Int) ≤ 4096) = decide (nb ≤ 4096) := decide_eq_decide.2 (by omega)
  by_cases c0 : kd = 0
  case pos =>
    by_cases a5 : t.name = []
    case neg =>
      exact Evs.of fun n m => by simp [-q08, -q02, S57, hcl, p, q0, q2, q3, q6, hl2, hl6, hsn, c0, a5]
    by_cases a3 : nn = 0
    case neg =>
      exact Evs.of fun n m => by simp [-q08, -q02, S57, hcl, p, q0, q2, q3, q4, q6, hl2, hl6, hs0, c0, a5, a3]
    by_cases a4 : nl = 0
    case neg =>
      have a4p : 0 < nl := by omega
      exact Evs.of fun n m => by simp [-q08, -q02, S57, hcl, p, q0, q2, q3, q4, q5, q6, hl5, hl2, hl6, hs0, c0, a5, a3, a4, a4p]
    by_cases a6 : nb = 0
    case neg =>
      have a6p : 0 < nb := by omega
      exact Evs.of fun n m => by simp [-q08, -q02, S57, hcl, p, q0, q2, q3, q4, q5, q6, hl5, hl2, hl6, hs0, c0, a5, a3, a4, a6, a6p]
    have hr := hrest0 (by omega) (by omega)
    by_cases h64 : nd ≤ 64
    · exact Evs.of fun n m => by simp [-q08, -q02, S57, hcl, p, q0, q1, q2, q3, q4, q5, q6, hl5, hl2, hl6, hs0, c0, a5, a3, a4, a6, e64, h64, hfill, hnm, hsm, hr, AV.beq_refl, AV.heapy]
    · exact Evs.of fun n m => by simp [-q08, -q02, S57, hcl, p, q0, q2, q3, q4, q5, q6, hl5, hl2, hl6, hs0, c0, a5, a3, a4, a6, e64, h64, hr, AV.heapy]
  by_cases c1 : kd = 1
  case pos =>
    by_cases a1 : ng = true
    case pos =>
      exact Evs.of fun n m => by simp [-q08, -q02, S57, hcl, p, q0, q1, q2, q3, q6, hl2, hl6, c1, a1]
    by_cases a2 : nd = 0
    case neg =>
      have a2p : 0 < nd := by omega
      exact Evs.of fun n m => by simp [-q08, -q02, S57, hcl, p, q0, q1, q2, q3, q6, hl2, hl6, c1, a1, a2, a2p]
    by_cases a3 : nn = 0
    case neg =>
      exact Evs.of fun n m => by simp [-q08, -q02, S57, hcl, p, q0, q1, q2, q3, q4, q6, hl2, hl6, c1, a1, a2, a3]
    by_cases a4 : nl = 0
    case neg =>
      have a4p : 0 < nl := by omega
      exact Evs.of fun n m => by simp [-q08, -q02, S57, hcl, p, q0, q1, q2, q3, q4, q5, q6, hl5, hl2, hl6, c1, a1, a2, a3, a4, a4p]
    by_cases a6 : nb = 0
    case neg =>
      have a6p : 0 < nb := by omega
      exact Evs.of fun n m => by simp [-q08, -q02, S57, hcl, p, q0, q1, q2, q3, q4, q5, q6, hl5, hl2, hl6, c1, a1, a2, a3, a4, a6, a6p]
    have hr := hrest0 (by omega) (by omega)
    cases vn
    · have h0 : ¬ 0 ≤ cn := fun h => by simpa using hcv.1 h
      exact Evs.of fun n m => by simp [-q08, -q02, S57, hcl, p, q0, q1, q2, q3, q4, q5, q6, hl5, hl2, hl6, c1, a1, a2, a3, a4, a6, hva, h0, hr]
    · have h0 : 0 ≤ cn := hcv.2 rfl
      exact Evs.of fun n m => by simp [-q08, -q02, S57, hcl, p, q0, q1, q2, q3, q4, q5, q6, hl5, hl2, hl6, c1, a1, a2, a3, a4, a6, hva, hco, h0, hr]
  omega
end Go.Proofs.YtleikacgncpfbaaDoor

/- Terms, the reference: may one be, but for how many parts it has: kinds 2, 3. -/
set_option maxRecDepth 100000
set_option maxHeartbeats 8000000
namespace Go.Proofs.YtleikacgncpfbaaDoor
open Go Go.Den
theorem rmay_B (n : Nat) (t : Tm) (hs : t.size ≤ n + 1) (ht : tame t) (hkd : t.kind = 2 ∨ t.kind = 3) : Evs fun n' _ => callF (base.with (polT (TRm n))) (n' + 1) AV 57 [cT.enc t] [] (fun v G => A.freezeB true 64 G v) = some (.bool (mayT countR t)) := by
  have hB : Go.Den.Box [.row 0 7 26 [eT t]] 0 7 26 (eT t).cells := q6w t _ 0 rfl
  have p := fun o => hB.fa (o := o)
  have q := fun o => hB.load (o := o)
  rw [q02] at q
  have q0 := q 0
  have q1 := q 1
  have q2 := q 2
  have q3 := q 3
  have q4 := q 4
  have q5 := q 5
  have q6 := q 6
  simp only [List.getElem?_cons_succ, List.getElem?_cons_zero] at q0 q1 q2 q3 q4 q5 q6
  have hcl : (eT t).cells.length = 7 := by rw [q02]; rfl
  have hl5 : A.len (eL 7 eT t.l) [.row 0 7 26 [eT t]] = some (.int .i64 ((t.kids.length : Nat) : Int)) := q08
  have hl2 : A.len (eD t.d) [.row 0 7 26 [eT t]] = some (.int .i64 ((t.d.getD []).length : Int)) := q08
  have hl6 : A.len (eL 1 eb t.b) [.row 0 7 26 [eT t]] = some (.int .i64 ((t.b.getD []).length : Int)) := q08
  have hsn := fun H => q0y (t := 9) (c := true) (H := H) t.name
  have hs0 := fun H => q0y (t := 9) (c := true) (H := H) []
  have hfew : few t.d := (tame_eq.1 ht).1.1
  have hnl : q1o t.name := (tame_eq.1 ht).1.2.1
  have hnm : ∀ (R : Type) (H : Heap) (k : AV → Heap → Option R), polK pRnorm [.agg [.bool t.neg, eD t.d]] H k = k (eN (rnormS (t.neg, t.d))) H := fun R H k => kRnorm (a := (t.neg, t.d)) hfew
  have hsm : ∀ (R : Type) (H : Heap) (k : AV → Heap → Option R), polK pSame [.agg [.bool t.neg, eD t.d], eN (rnormS (t.neg, t.d))] H k = k (.bool (sameS (t.neg, t.d) (rnormS (t.neg, t.d)))) H := fun R H k => kSame (a := (t.neg, t.d)) hfew (q33 hfew)
  have hfill : A.fill [.bool false, .nils] [(0, 1, .bool t.neg), (1, 1, eD t.d)] = some [.bool t.neg, eD t.d] := by simp [A.fill, A.splice]
  have hva : ∀ (R : Type) (H : Heap) (k : AV → Heap → Option R), polK q2b [.str t.name] H k = k (.bool (Lib.validD t.name)) H := fun R H k => q6d
  have hco : ∀ (R : Type) (H : Heap) (k : AV → Heap → Option R), polK q3h [.str t.name] H k = k (.int .i64 (countR t.name)) H := fun R H k => q8f hnl
  have hcv := q25 (s := t.name)
  have hL := q41 hs ht hB t.kids.length 0 (by omega)
  rw [List.drop_zero] at hL
  have hrest : ∀ kd, t.kind = kd → (kd = 4 ∨ kd = 6) → ((partsO t).getD []).all (mayT countR) = t.kids.all (mayT countR) := fun kd e hkd => by
    unfold partsO
    rw [if_pos (by rw [e]; exact hkd)]
    rfl
  have hrest0 : t.kind ≠ 4 → t.kind ≠ 6 → ((partsO t).getD []).all (mayT countR) = true := fun e1 e2 => by
    unfold partsO
    rw [if_neg (by omega)]
    rfl
  rw [q50]
  unfold oneS spareS
  rw [← q36]
  generalize sameS (t.neg, t.d) (rnormS (t.neg, t.d)) = sn at *
  generalize rnormS (t.neg, t.d) = rn at *
  generalize ((partsO t).getD []).all (mayT countR) = rest at *
  generalize t.kids.all (mayT countR) = kall at *
  generalize countR t.name = cn at *
  generalize Lib.validD t.name = vn at *
  generalize t.kids.length = nl at *
  generalize (t.d.getD []).length = nd at *
  generalize (t.b.getD []).length = nb at *
  generalize t.kind = kd at *
  generalize t.neg = ng at *
  generalize t.n = nn at *
  generalize eL 7 eT t.l = vl at *
  generalize eD t.d = vd at *
  generalize eL 1 eb t.b = vb at *
  clear q
  have e64 : decide ((nd : Int) ≤ 64) = decide (nd ≤ 64) := decide_eq_decide.2 (by omega)
  have e4096 : decide ((nb : Int) ≤ 4096) = decide (nb ≤ 4096) := decide_eq_decide.2 (by omega)
  have c0 : ¬ kd = 0 := by omega
  have c1 : ¬ kd = 1 := by omega
  by_cases c2 : kd = 2
  case pos =>
    by_cases a1 : ng = true
    case pos =>
      exact Evs.of fun n m => by simp [-q08, -q02, S57, hcl, p, q0, q1, q2, q3, q4, hl2, c2, a1]
    by_cases a2 : nd = 0
    case neg =>
      have a2p : 0 < nd := by omega
      exact Evs.of fun n m => by simp [-q08, -q02, S57, hcl, p, q0, q1, q2, q3, q4, hl2, c2, a1, a2, a2p]
    by_cases a5 : t.name = []
    case neg =>
      exact Evs.of fun n m => by simp [-q08, -q02, S57, hcl, p, q0, q1, q2, q3, q4, hl2, hsn, c2, a1, a2, a5]
    by_cases a4 : nl = 0
    case neg =>
      have a4p : 0 < nl := by omega
      exact Evs.of fun n m => by simp [-q08, -q02, S57, hcl, p, q0, q1, q2, q3, q4, q5, hl5, hl2, hs0, c2, a1, a2, a5, a4, a4p]
    by_cases a6 : nb = 0
    case neg =>
      have a6p : 0 < nb := by omega
      exact Evs.of fun n m => by simp [-q08, -q02, S57, hcl, p, q0, q1, q2, q3, q4, q5, q6, hl5, hl2, hl6, hs0, c2, a1, a2, a5, a4, a6, a6p]
    have hr := hrest0 (by omega) (by omega)
    by_cases h0 : 0 ≤ nn
    · exact Evs.of fun n m => by simp [-q08, -q02, S57, hcl, p, q0, q1, q2, q3, q4, q5, q6, hl5, hl2, hl6, hs0, c2, a1, a2, a5, a4, a6, h0, hr]
    · exact Evs.of fun n m => by simp [-q08, -q02, S57, hcl, p, q0, q1, q2, q3, q4, q5, q6, hl5, hl2, hl6, hs0, c2, a1, a2, a5, a4, a6, h0, hr]
  by_cases c3 : kd = 3
  case pos =>
    by_cases a1 : ng = true
    case pos =>
      exact Evs.of fun n m => by simp [-q08, -q02, S57, hcl, p, q0, q1, q2, q3, q4, hl2, c3, a1]
    by_cases a2 : nd = 0
    case neg =>
      have a2p : 0 < nd := by omega
      exact Evs.of fun n m => by simp [-q08, -q02, S57, hcl, p, q0, q1, q2, q3, q4, hl2, c3, a1, a2, a2p]
    by_cases a5 : t.name = []
    case neg =>
      exact Evs.of fun n m => by simp [-q08, -q02, S57, hcl, p, q0, q1, q2, q3, q4, hl2, hsn, c3, a1, a2, a5]
    by_cases a4 : nl = 0
    case neg =>
      have a4p : 0 < nl := by omega
      exact Evs.of fun n m => by simp [-q08, -q02, S57, hcl, p, q0, q1, q2, q3, q4, q5, hl5, hl2, hs0, c3, a1, a2, a5, a4, a4p]
    by_cases a6 : nb = 0
    case neg =>
      have a6p : 0 < nb := by omega
      exact Evs.of fun n m => by simp [-q08, -q02, S57, hcl, p, q0, q1, q2, q3, q4, q5, q6, hl5, hl2, hl6, hs0, c3, a1, a2, a5, a4, a6, a6p]
    have hr := hrest0 (by omega) (by omega)
    by_cases h0 : 0 ≤ nn
    · exact Evs.of fun n m => by simp [-q08, -q02, S57, hcl, p, q0, q1, q2, q3, q4, q5, q6, hl5, hl2, hl6, hs0, c3, a1, a2, a5, a4, a6, h0, hr]
    · exact Evs.of fun n m => by simp [-q08, -q02, S57, hcl, p, q0, q1, q2, q3, q4, q5, q6, hl5, hl2, hl6, hs0, c3, a1, a2, a5, a4, a6, h0, hr]
  omega
end Go.Proofs.YtleikacgncpfbaaDoor

/- Terms, the reference: may one be, but for how many parts it has: kinds 4, 5. -/
set_option maxRecDepth 100000
set_option maxHeartbeats 8000000
namespace Go.Proofs.YtleikacgncpfbaaDoor
open Go Go.Den
theorem rmay_C (n : Nat) (t : Tm) (hs : t.size ≤ n + 1) (ht : tame t) (hkd : t.kind = 4 ∨ t.kind = 5) : Evs fun n' _ => callF (base.with (polT (TRm n))) (n' + 1) AV 57 [cT.enc t] [] (fun v G => A.freezeB true 64 G v) = some (.bool (mayT countR t)) := by
  have hB : Go.Den.Box [.row 0 7 26 [eT t]] 0 7 26 (eT t).cells := q6w t _ 0 rfl
  have p := fun o => hB.fa (o := o)
  have q := fun o => hB.load (o := o)
  rw [q02] at q
  have q0 := q 0
  have q1 := q 1
  have q2 := q 2
  have q3 := q 3
  have q4 := q 4
  have q5 := q 5
  have q6 := q 6
  simp only [List.getElem?_cons_succ, List.getElem?_cons_zero] at q0 q1 q2 q3 q4 q5 q6
  have hcl : (eT t).cells.length = 7 := by rw [q02]; rfl
  have hl5 : A.len (eL 7 eT t.l) [.row 0 7 26 [eT t]] = some (.int .i64 ((t.kids.length : Nat) : Int)) := q08
  have hl2 : A.len (eD t.d) [.row 0 7 26 [eT t]] = some (.int .i64 ((t.d.getD []).length : Int)) := q08
  have hl6 : A.len (eL 1 eb t.b) [.row 0 7 26 [eT t]] = some (.int .i64 ((t.b.getD []).length : Int)) := q08
  have hsn := fun H => q0y (t := 9) (c := true) (H := H) t.name
  have hs0 := fun H => q0y (t := 9) (c := true) (H := H) []
  have hfew : few t.d := (tame_eq.1 ht).1.1
  have hnl : q1o t.name := (tame_eq.1 ht).1.2.1
  have hnm : ∀ (R : Type) (H : Heap) (k : AV → Heap → Option R), polK pRnorm [.agg [.bool t.neg, eD t.d]] H k = k (eN (rnormS (t.neg, t.d))) H := fun R H k => kRnorm (a := (t.neg, t.d)) hfew
  have hsm : ∀ (R : Type) (H : Heap) (k : AV → Heap → Option R), polK pSame [.agg [.bool t.neg, eD t.d], eN (rnormS (t.neg, t.d))] H k = k (.bool (sameS (t.neg, t.d) (rnormS (t.neg, t.d)))) H := fun R H k => kSame (a := (t.neg, t.d)) hfew (q33 hfew)
  have hfill : A.fill [.bool false, .nils] [(0, 1, .bool t.neg), (1, 1, eD t.d)] = some [.bool t.neg, eD t.d] := by simp [A.fill, A.splice]
  have hva : ∀ (R : Type) (H : Heap) (k : AV → Heap → Option R), polK q2b [.str t.name] H k = k (.bool (Lib.validD t.name)) H := fun R H k => q6d
  have hco : ∀ (R : Type) (H : Heap) (k : AV → Heap → Option R), polK q3h [.str t.name] H k = k (.int .i64 (countR t.name)) H := fun R H k => q8f hnl
  have hcv := q25 (s := t.name)
  have hL := q41 hs ht hB t.kids.length 0 (by omega)
  rw [List.drop_zero] at hL
  have hrest : ∀ kd, t.kind = kd → (kd = 4 ∨ kd = 6) → ((partsO t).getD []).all (mayT countR) = t.kids.all (mayT countR) := fun kd e hkd => by
    unfold partsO
    rw [if_pos (by rw [e]; exact hkd)]
    rfl
  have hrest0 : t.kind ≠ 4 → t.kind ≠ 6 → ((partsO t).getD []).all (mayT countR) = true := fun e1 e2 => by
    unfold partsO
    rw [if_neg (by omega)]
    rfl
  rw [q50]
  unfold oneS spareS
  rw [← q36]
  generalize sameS (t.neg, t.d) (rnormS (t.neg, t.d)) = sn at *
  generalize rnormS (t.neg, t.d) = rn at *
  generalize ((partsO t).getD []).all (mayT countR) = rest at *
  generalize t.kids.all (mayT countR) = kall at *
  generalize countR t.name = cn at *
  generalize Lib.validD t.name = vn at *
  generalize t.kids.length = nl at *
  generalize (t.d.getD []).length = nd at *
  generalize (t.b.getD []).length = nb at *
  generalize t.kind = kd at *
  generalize t.neg = ng at *
  generalize t.n = nn at *
  generalize eL 7 eT t.l = vl at *
  generalize eD t.d = vd at *
  generalize eL 1 eb t.b = vb at *
  clear q
  have e64 : decide ((nd : Int) ≤ 64) = decide (nd ≤ 64) := decide_eq_decide.2 (by omega)
  have e4096 : decide ((nb : Int) ≤ 4096) = decide (nb ≤ 4096) := decide_eq_decide.2 (by omega)
  have c0 : ¬ kd = 0 := by omega
  have c1 : ¬ kd = 1 := by omega
  have c2 : ¬ kd = 2 := by omega
  have c3 : ¬ kd = 3 := by omega
  by_cases c4 : kd = 4
  case pos =>
    by_cases a1 : ng = true
    case pos =>
      exact Evs.of fun n m => by simp [-q08, -q02, S57, hcl, p, q0, q1, q2, q3, q5, q6, hl5, hl2, hl6, c4, a1]
    by_cases a2 : nd = 0
    case neg =>
      have a2p : 0 < nd := by omega
      exact Evs.of fun n m => by simp [-q08, -q02, S57, hcl, p, q0, q1, q2, q3, q5, q6, hl5, hl2, hl6, c4, a1, a2, a2p]
    by_cases a5 : t.name = []
    case neg =>
      exact Evs.of fun n m => by simp [-q08, -q02, S57, hcl, p, q0, q1, q2, q3, q5, q6, hl5, hl2, hl6, hsn, c4, a1, a2, a5]
    by_cases a3 : nn = 0
    case neg =>
      exact Evs.of fun n m => by simp [-q08, -q02, S57, hcl, p, q0, q1, q2, q3, q4, q5, q6, hl5, hl2, hl6, hs0, c4, a1, a2, a5, a3]
    by_cases a6 : nb = 0
    case neg =>
      have a6p : 0 < nb := by omega
      exact Evs.of fun n m => by simp [-q08, -q02, S57, hcl, p, q0, q1, q2, q3, q4, q5, q6, hl5, hl2, hl6, hs0, c4, a1, a2, a5, a3, a6, a6p]
    have hr := hrest 4 c4 (Or.inl rfl)
    by_cases h255 : nl ≤ 255
    · have hg : ¬ (255 : Int) < (nl : Int) := by omega
      have hg' : ¬ 255 < nl := by omega
      refine Evs.withL hL (Evs.of fun n m h1 _ => ?_)
      simp only [Int.natCast_zero] at h1
      cases kall <;> simp [-q08, -q02, S57, hcl, p, q0, q1, q2, q3, q4, q5, q6, hl5, hl2, hl6, hs0, c4, a1, a2, a5, a3, a6, h255, hg, hr, h1]
    · have hg : (255 : Int) < (nl : Int) := by omega
      have hg' : 255 < nl := by omega
      exact Evs.of fun n m => by simp [-q08, -q02, S57, hcl, p, q0, q1, q2, q3, q4, q5, q6, hl5, hl2, hl6, hs0, c4, a1, a2, a5, a3, a6, h255, hg, hr]
  by_cases c5 : kd = 5
  case pos =>
    by_cases a1 : ng = true
    case pos =>
      exact Evs.of fun n m => by simp [-q08, -q02, S57, hcl, p, q0, q1, q2, q3, q6, hl2, hl6, c5, a1]
    by_cases a2 : nd = 0
    case neg =>
      have a2p : 0 < nd := by omega
      exact Evs.of fun n m => by simp [-q08, -q02, S57, hcl, p, q0, q1, q2, q3, q6, hl2, hl6, c5, a1, a2, a2p]
    by_cases a5 : t.name = []
    case neg =>
      exact Evs.of fun n m => by simp [-q08, -q02, S57, hcl, p, q0, q1, q2, q3, q6, hl2, hl6, hsn, c5, a1, a2, a5]
    by_cases a3 : nn = 0
    case neg =>
      exact Evs.of fun n m => by simp [-q08, -q02, S57, hcl, p, q0, q1, q2, q3, q4, q6, hl2, hl6, hs0, c5, a1, a2, a5, a3]
    by_cases a4 : nl = 0
    case neg =>
      have a4p : 0 < nl := by omega
      exact Evs.of fun n m => by simp [-q08, -q02, S57, hcl, p, q0, q1, q2, q3, q4, q5, q6, hl5, hl2, hl6, hs0, c5, a1, a2, a5, a3, a4, a4p]
    by_cases a6 : nb = 0
    case neg =>
      have a6p : 0 < nb := by omega
      exact Evs.of fun n m => by simp [-q08, -q02, S57, hcl, p, q0, q1, q2, q3, q4, q5, q6, hl5, hl2, hl6, hs0, c5, a1, a2, a5, a3, a4, a6, a6p]
    have hr := hrest0 (by omega) (by omega)
    exact Evs.of fun n m => by simp [-q08, -q02, S57, hcl, p, q0, q1, q2, q3, q4, q5, q6, hl5, hl2, hl6, hs0, c5, a1, a2, a5, a3, a4, a6, hr]
  omega
end Go.Proofs.YtleikacgncpfbaaDoor

/- Terms, the reference: may one be, but for how many parts it has: kinds 6. -/
set_option maxRecDepth 100000
set_option maxHeartbeats 8000000
namespace Go.Proofs.YtleikacgncpfbaaDoor
open Go Go.Den
theorem rmay_D (n : Nat) (t : Tm) (hs : t.size ≤ n + 1) (ht : tame t) (hkd : t.kind = 6) : Evs fun n' _ => callF (base.with (polT (TRm n))) (n' + 1) AV 57 [cT.enc t] [] (fun v G => A.freezeB true 64 G v) = some (.bool (mayT countR t)) := by
  have hB : Go.Den.Box [.row 0 7 26 [eT t]] 0 7 26 (eT t).cells := q6w t _ 0 rfl
  have p := fun o => hB.fa (o := o)
  have q := fun o => hB.load (o := o)
  rw [q02] at q
  have q0 := q 0
  have q1 := q 1
  have q2 := q 2
  have q3 := q 3
  have q4 := q 4
  have q5 := q 5
  have q6 := q 6
  simp only [List.getElem?_cons_succ, List.getElem?_cons_zero] at q0 q1 q2 q3 q4 q5 q6
  have hcl : (eT t).cells.length = 7 := by rw [q02]; rfl
  have hl5 : A.len (eL 7 eT t.l) [.row 0 7 26 [eT t]] = some (.int .i64 ((t.kids.length : Nat) : Int)) := q08
  have hl2 : A.len (eD t.d) [.row 0 7 26 [eT t]] = some (.int .i64 ((t.d.getD []).length : Int)) := q08
  have hl6 : A.len (eL 1 eb t.b) [.row 0 7 26 [eT t]] = some (.int .i64 ((t.b.getD []).length : Int)) := q08
  have hsn := fun H => q0y (t := 9) (c := true) (H := H) t.name
  have hs0 := fun H => q0y (t := 9) (c := true) (H := H) []
  have hfew : few t.d := (tame_eq.1 ht).1.1
  have hnl : q1o t.name := (tame_eq.1 ht).1.2.1
  have hnm : ∀ (R : Type) (H : Heap) (k : AV → Heap → Option R), polK pRnorm [.agg [.bool t.neg, eD t.d]] H k = k (eN (rnormS (t.neg, t.d))) H := fun R H k => kRnorm (a := (t.neg, t.d)) hfew
  have hsm : ∀ (R : Type) (H : Heap) (k : AV → Heap → Option R), polK pSame [.agg [.bool t.neg, eD t.d], eN (rnormS (t.neg, t.d))] H k = k (.bool (sameS (t.neg, t.d) (rnormS (t.neg, t.d)))) H := fun R H k => kSame (a := (t.neg, t.d)) hfew (q33 hfew)
  have hfill : A.fill [.bool false, .nils] [(0, 1, .bool t.neg), (1, 1, eD t.d)] = some [.bool t.neg, eD t.d] := by simp [A.fill, A.splice]
  have hva : ∀ (R : Type) (H : Heap) (k : AV → Heap → Option R), polK q2b [.str t.name] H k = k (.bool (Lib.validD t.name)) H := fun R H k => q6d
  have hco : ∀ (R : Type) (H : Heap) (k : AV → Heap → Option R), polK q3h [.str t.name] H k = k (.int .i64 (countR t.name)) H := fun R H k => q8f hnl
  have hcv := q25 (s := t.name)
  have hL := q41 hs ht hB t.kids.length 0 (by omega)
  rw [List.drop_zero] at hL
  have hrest : ∀ kd, t.kind = kd → (kd = 4 ∨ kd = 6) → ((partsO t).getD []).all (mayT countR) = t.kids.all (mayT countR) := fun kd e hkd => by
    unfold partsO
    rw [if_pos (by rw [e]; exact hkd)]
    rfl
  have hrest0 : t.kind ≠ 4 → t.kind ≠ 6 → ((partsO t).getD []).all (mayT countR) = true := fun e1 e2 => by
    unfold partsO
    rw [if_neg (by omega)]
    rfl
  rw [q50]
  unfold oneS spareS
  rw [← q36]
  generalize sameS (t.neg, t.d) (rnormS (t.neg, t.d)) = sn at *
  generalize rnormS (t.neg, t.d) = rn at *
  generalize ((partsO t).getD []).all (mayT countR) = rest at *
  generalize t.kids.all (mayT countR) = kall at *
  generalize countR t.name = cn at *
  generalize Lib.validD t.name = vn at *
  generalize t.kids.length = nl at *
  generalize (t.d.getD []).length = nd at *
  generalize (t.b.getD []).length = nb at *
  generalize t.kind = kd at *
  generalize t.neg = ng at *
  generalize t.n = nn at *
  generalize eL 7 eT t.l = vl at *
  generalize eD t.d = vd at *
  generalize eL 1 eb t.b = vb at *
  clear q
  have e64 : decide ((nd : Int) ≤ 64) = decide (nd ≤ 64) := decide_eq_decide.2 (by omega)
  have e4096 : decide ((nb : Int) ≤ 4096) = decide (nb ≤ 4096) := decide_eq_decide.2 (by omega)
  have c0 : ¬ kd = 0 := by omega
  have c1 : ¬ kd = 1 := by omega
  have c2 : ¬ kd = 2 := by omega
  have c3 : ¬ kd = 3 := by omega
  have c4 : ¬ kd = 4 := by omega
  have c5 : ¬ kd = 5 := by omega
  by_cases c6 : kd = 6
  case pos =>
    by_cases a1 : ng = true
    case pos =>
      exact Evs.of fun n m => by simp [-q08, -q02, S57, hcl, p, q0, q1, q2, q3, q5, q6, hl5, hl2, hl6, c6, a1]
    by_cases a2 : nd = 0
    case neg =>
      have a2p : 0 < nd := by omega
      exact Evs.of fun n m => by simp [-q08, -q02, S57, hcl, p, q0, q1, q2, q3, q5, q6, hl5, hl2, hl6, c6, a1, a2, a2p]
    by_cases a5 : t.name = []
    case neg =>
      exact Evs.of fun n m => by simp [-q08, -q02, S57, hcl, p, q0, q1, q2, q3, q5, q6, hl5, hl2, hl6, hsn, c6, a1, a2, a5]
    by_cases a3 : nn = 0
    case neg =>
      exact Evs.of fun n m => by simp [-q08, -q02, S57, hcl, p, q0, q1, q2, q3, q4, q5, q6, hl5, hl2, hl6, hs0, c6, a1, a2, a5, a3]
    by_cases a6 : nb = 0
    case neg =>
      have a6p : 0 < nb := by omega
      exact Evs.of fun n m => by simp [-q08, -q02, S57, hcl, p, q0, q1, q2, q3, q4, q5, q6, hl5, hl2, hl6, hs0, c6, a1, a2, a5, a3, a6, a6p]
    have hr := hrest 6 c6 (Or.inr rfl)
    by_cases h2 : nl = 2
    · subst h2
      refine Evs.withL hL (Evs.of fun n m h1 _ => ?_)
      simp only [Int.natCast_zero] at h1
      cases kall <;> simp [-q08, -q02, S57, hcl, p, q0, q1, q2, q3, q4, q5, q6, hl5, hl2, hl6, hs0, c6, a1, a2, a5, a3, a6, hr, h1]
    · have h2' : ¬ (nl : Int) = 2 := by omega
      exact Evs.of fun n m => by simp [-q08, -q02, S57, hcl, p, q0, q1, q2, q3, q4, q5, q6, hl5, hl2, hl6, hs0, c6, a1, a2, a5, a3, a6, h2, h2', hr]
  omega
end Go.Proofs.YtleikacgncpfbaaDoor

/- Terms, the reference: may one be, but for how many parts it has: the rest. -/
set_option maxRecDepth 100000
set_option maxHeartbeats 8000000
namespace Go.Proofs.YtleikacgncpfbaaDoor
open Go Go.Den
theorem rmay_E (n : Nat) (t : Tm) (hs : t.size ≤ n + 1) (ht : tame t) (hkd : t.kind ≠ 0 ∧ t.kind ≠ 1 ∧ t.kind ≠ 2 ∧ t.kind ≠ 3 ∧ t.kind ≠ 4 ∧ t.kind ≠ 5 ∧ t.kind ≠ 6) : Evs fun n' _ => callF (base.with (polT (TRm n))) (n' + 1) AV 57 [cT.enc t] [] (fun v G => A.freezeB true 64 G v) = some (.bool (mayT countR t)) := by
  have hB : Go.Den.Box [.row 0 7 26 [eT t]] 0 7 26 (eT t).cells := q6w t _ 0 rfl
  have p := fun o => hB.fa (o := o)
  have q := fun o => hB.load (o := o)
  rw [q02] at q
  have q0 := q 0
  have q1 := q 1
  have q2 := q 2
  have q3 := q 3
  have q4 := q 4
  have q5 := q 5
  have q6 := q 6
  simp only [List.getElem?_cons_succ, List.getElem?_cons_zero] at q0 q1 q2 q3 q4 q5 q6
  have hcl : (eT t).cells.length = 7 := by rw [q02]; rfl
  have hl5 : A.len (eL 7 eT t.l) [.row 0 7 26 [eT t]] = some (.int .i64 ((t.kids.length : Nat) : Int)) := q08
  have hl2 : A.len (eD t.d) [.row 0 7 26 [eT t]] = some (.int .i64 ((t.d.getD []).length : Int)) := q08
  have hl6 : A.len (eL 1 eb t.b) [.row 0 7 26 [eT t]] = some (.int .i64 ((t.b.getD []).length : Int)) := q08
  have hsn := fun H => q0y (t := 9) (c := true) (H := H) t.name
  have hs0 := fun H => q0y (t := 9) (c := true) (H := H) []
  have hfew : few t.d := (tame_eq.1 ht).1.1
  have hnl : q1o t.name := (tame_eq.1 ht).1.2.1
  have hnm : ∀ (R : Type) (H : Heap) (k : AV → Heap → Option R), polK pRnorm [.agg [.bool t.neg, eD t.d]] H k = k (eN (rnormS (t.neg, t.d))) H := fun R H k => kRnorm (a := (t.neg, t.d)) hfew
  have hsm : ∀ (R : Type) (H : Heap) (k : AV → Heap → Option R), polK pSame [.agg [.bool t.neg, eD t.d], eN (rnormS (t.neg, t.d))] H k = k (.bool (sameS (t.neg, t.d) (rnormS (t.neg, t.d)))) H := fun R H k => kSame (a := (t.neg, t.d)) hfew (q33 hfew)
  have hfill : A.fill [.bool false, .nils] [(0, 1, .bool t.neg), (1, 1, eD t.d)] = some [.bool t.neg, eD t.d] := by simp [A.fill, A.splice]
  have hva : ∀ (R : Type) (H : Heap) (k : AV → Heap → Option R), polK q2b [.str t.name] H k = k (.bool (Lib.validD t.name)) H := fun R H k => q6d
  have hco : ∀ (R : Type) (H : Heap) (k : AV → Heap → Option R), polK q3h [.str t.name] H k = k (.int .i64 (countR t.name)) H := fun R H k => q8f hnl
  have hcv := q25 (s := t.name)
  have hL := q41 hs ht hB t.kids.length 0 (by omega)
  rw [List.drop_zero] at hL
  have hrest : ∀ kd, t.kind = kd → (kd = 4 ∨ kd = 6) → ((partsO t).getD []).all (mayT countR) = t.kids.all (mayT countR) := fun kd e hkd => by
    unfold partsO
    rw [if_pos (by rw [e]; exact hkd)]
    rfl
  have hrest0 : t.kind ≠ 4 → t.kind ≠ 6 → ((partsO t).getD []).all (mayT countR) = true := fun e1 e2 => by
    unfold partsO
    rw [if_neg (by omega)]
    rfl
  rw [q50]
  unfold oneS spareS
  rw [← q36]
  generalize sameS (t.neg, t.d) (rnormS (t.neg, t.d)) = sn at *
  generalize rnormS (t.neg, t.d) = rn at *
  generalize ((partsO t).getD []).all (mayT countR) = rest at *
  generalize t.kids.all (mayT countR) = kall at *
  generalize countR t.name = cn at *
  generalize Lib.validD t.name = vn at *
  generalize t.kids.length = nl at *
  generalize (t.d.getD []).length = nd at *
  generalize (t.b.getD []).length = nb at *
  generalize t.kind = kd at *
  generalize t.neg = ng at *
  generalize t.n = nn at *
  generalize eL 7 eT t.l = vl at *
  generalize eD t.d = vd at *
  generalize eL 1 eb t.b = vb at *
  clear q
  have e64 : decide ((nd : Int) ≤ 64) = decide (nd ≤ 64) := decide_eq_decide.2 (by omega)
  have e4096 : decide ((nb : Int) ≤ 4096) = decide (nb ≤ 4096) := decide_eq_decide.2 (by omega)
  have c0 : ¬ kd = 0 := by omega
  have c1 : ¬ kd = 1 := by omega
  have c2 : ¬ kd = 2 := by omega
  have c3 : ¬ kd = 3 := by omega
  have c4 : ¬ kd = 4 := by omega
  have c5 : ¬ kd = 5 := by omega
  have c6 : ¬ kd = 6 := by omega
  by_cases c7 : kd = 7
  case pos =>
    by_cases a1 : ng = true
    case pos =>
      exact Evs.of fun n m => by simp [-q08, -q02, S57, hcl, p, q0, q1, q2, q3, q6, hl2, hl6, c7, a1]
    by_cases a2 : nd = 0
    case neg =>
      have a2p : 0 < nd := by omega
      exact Evs.of fun n m => by simp [-q08, -q02, S57, hcl, p, q0, q1, q2, q3, q6, hl2, hl6, c7, a1, a2, a2p]
    by_cases a5 : t.name = []
    case neg =>
      exact Evs.of fun n m => by simp [-q08, -q02, S57, hcl, p, q0, q1, q2, q3, q6, hl2, hl6, hsn, c7, a1, a2, a5]
    by_cases a3 : nn = 0
    case neg =>
      exact Evs.of fun n m => by simp [-q08, -q02, S57, hcl, p, q0, q1, q2, q3, q4, q6, hl2, hl6, hs0, c7, a1, a2, a5, a3]
    by_cases a4 : nl = 0
    case neg =>
      have a4p : 0 < nl := by omega
      exact Evs.of fun n m => by simp [-q08, -q02, S57, hcl, p, q0, q1, q2, q3, q4, q5, q6, hl5, hl2, hl6, hs0, c7, a1, a2, a5, a3, a4, a4p]
    have hr := hrest0 (by omega) (by omega)
    exact Evs.of fun n m => by simp [-q08, -q02, S57, hcl, p, q0, q1, q2, q3, q4, q5, q6, hl5, hl2, hl6, hs0, c7, a1, a2, a5, a3, a4, e4096, hr]
  by_cases a1 : ng = true
  case pos =>
    exact Evs.of fun n m => by simp [-q08, -q02, S57, hcl, p, q0, q1, q2, q3, q6, hl2, hl6, c0, c1, c2, c3, c4, c5, c6, c7, a1]
  by_cases a2 : nd = 0
  case neg =>
    have a2p : 0 < nd := by omega
    exact Evs.of fun n m => by simp [-q08, -q02, S57, hcl, p, q0, q1, q2, q3, q6, hl2, hl6, c0, c1, c2, c3, c4, c5, c6, c7, a1, a2, a2p]
  by_cases a5 : t.name = []
  case neg =>
    exact Evs.of fun n m => by simp [-q08, -q02, S57, hcl, p, q0, q1, q2, q3, q6, hl2, hl6, hsn, c0, c1, c2, c3, c4, c5, c6, c7, a1, a2, a5]
  by_cases a3 : nn = 0
  case neg =>
    exact Evs.of fun n m => by simp [-q08, -q02, S57, hcl, p, q0, q1, q2, q3, q4, q6, hl2, hl6, hs0, c0, c1, c2, c3, c4, c5, c6, c7, a1, a2, a5, a3]
  by_cases a4 : nl = 0
  case neg =>
    have a4p : 0 < nl := by omega
    exact Evs.of fun n m => by simp [-q08, -q02, S57, hcl, p, q0, q1, q2, q3, q4, q5, q6, hl5, hl2, hl6, hs0, c0, c1, c2, c3, c4, c5, c6, c7, a1, a2, a5, a3, a4, a4p]
  by_cases a6 : nb = 0
  case neg =>
    have a6p : 0 < nb := by omega
    exact Evs.of fun n m => by simp [-q08, -q02, S57, hcl, p, q0, q1, q2, q3, q4, q5, q6, hl5, hl2, hl6, hs0, c0, c1, c2, c3, c4, c5, c6, c7, a1, a2, a5, a3, a4, a6, a6p]
  exact Evs.of fun n m => by simp [-q08, -q02, S57, hcl, p, q0, q1, q2, q3, q4, q5, q6, hl5, hl2, hl6, hs0, c0, c1, c2, c3, c4, c5, c6, c7, a1, a2, a5, a3, a4, a6]
end Go.Proofs.YtleikacgncpfbaaDoor

/- Terms, the reference: may one be, but for how many parts it has; and all of it. -/
set_option maxRecDepth 100000
namespace Go.Proofs.YtleikacgncpfbaaDoor
open Go Go.Den
theorem okRmay : ∀ n, PolOK base 57 (pRmay n)
  | 0 => still1 base_ok [] trivial fun t ⟨hs, _⟩ => by
    have := t.size_eq
    omega
  | n + 1 => still1 base_ok (TRm n) ⟨okRmay n, qe4, okSame, qfo, okRcount, trivial⟩ fun t ⟨hs, ht⟩ => by
    by_cases a : t.kind = 0 ∨ t.kind = 1
    · exact rmay_A n t hs ht a
    by_cases b : t.kind = 2 ∨ t.kind = 3
    · exact rmay_B n t hs ht b
    by_cases c : t.kind = 4 ∨ t.kind = 5
    · exact rmay_C n t hs ht c
    by_cases d : t.kind = 6
    · exact rmay_D n t hs ht d
    · exact rmay_E n t hs ht (by omega)
noncomputable def pRMay (n : Nat) : Pol := .still (p1 cT .bool (fun t => t.size ≤ n ∧ tame t) mayS)
theorem okRMay (n : Nat) : PolOK base 18 (pRMay n) := still1 base_ok [(20, pRtree n), (57, pRmay n)] ⟨okRtree n, okRmay n, trivial⟩ fun t ⟨hs, ht⟩ => by
  have hcl : (eT t).cells.length = 7 := by rw [q02]; rfl
  have hof : A.ofList true 7 (eT t).cells 0 = some (eT t) := q17 (H := [])
  have h1 : ∀ (R : Type) (H : Heap) (k : AV → Heap → Option R), polK (pRtree n) [eT t] H k = k (.int .i64 ((min (szT t) 65537 : Nat) : Int)) H := fun R H k => kRtree hs (tame_thin t ht)
  have h2 : ∀ (R : Type) (H : Heap) (k : AV → Heap → Option R), polK (pRmay n) [eT t] H k = k (.bool (mayT countR t)) H := fun R H k => kRmay hs ht
  unfold mayS
  by_cases hc : szT t ≤ 65536
  · have hc' : ((min (szT t) 65537 : Nat) : Int) ≤ 65536 := by omega
    generalize ((min (szT t) 65537 : Nat) : Int) = N at *
    refine Evs.of fun n m => ?_
    simp [↓q0a, ↓q01, ↓q04, ↓q03, ↓q05, -q02, S18, hcl, hof, h1, h2, hc, hc']
  · have hc' : ¬ ((min (szT t) 65537 : Nat) : Int) ≤ 65536 := by omega
    generalize ((min (szT t) 65537 : Nat) : Int) = N at *
    refine Evs.of fun n m => ?_
    simp [↓q0a, ↓q01, ↓q04, ↓q03, ↓q05, -q02, S18, hcl, hof, h1, hc, hc']
end Go.Proofs.YtleikacgncpfbaaDoor

/- Terms: what is known of them, of any size; what is handed in. -/
set_option maxRecDepth 100000
set_option maxHeartbeats 4000000
namespace Go.Proofs.YtleikacgncpfbaaDoor
open Go Go.Den
noncomputable def pRoomA : Pol := .still (p3 cT (cI .i64) (cI .i64) .bool (fun _ dep most => -1 ≤ dep ∧ dep ≤ 1000 ∧ most ≤ 1000) roomS)
theorem okRoomA : PolOK base 16 pRoomA := q6r (F := fun n => p3 cT (cI .i64) (cI .i64) .bool (fun t dep most => t.size ≤ n ∧ -1 ≤ dep ∧ dep ≤ 1000 ∧ most ≤ 1000) roomS) okRoom fun zs v h => by
  match zs, h with
  | [a, b, c], h =>
    simp only [p3_app, Option.bind_eq_some_iff] at h ⊢
    obtain ⟨t, ht, d, hd, m, hm, h⟩ := h
    split at h
    · rename_i hc
      exact ⟨t.size, t, ht, d, hd, m, hm, by rw [if_pos ⟨Nat.le_refl _, hc⟩]; exact h⟩
    · cases h
theorem kRoomA {R : Type} {t : Tm} {dep most : Int} (h0 : -1 ≤ dep) (h1 : dep ≤ 1000) (h2 : most ≤ 1000) {H : Heap} {k : AV → Heap → Option R} : polK pRoomA [eT t, .int .i64 dep, .int .i64 most] H k = k (.bool (roomS t dep most)) H := by
  simp [pRoomA, q0c, h0, h1, h2]
noncomputable def pRtreeA : Pol := .still (p1 cT (fun n : Nat => .int .i64 (n : Int)) (fun t => t.thin 1000) (fun t => min (szT t) 65537))
noncomputable def pRwordsA : Pol := .still (p1 cT (fun n : Nat => .int .i64 (n : Int)) fineW wT)
noncomputable def pRMayA : Pol := .still (p1 cT .bool tame mayS)
theorem okRMayA : PolOK base 18 pRMayA := q6r (F := fun n => p1 cT .bool (fun t => t.size ≤ n ∧ tame t) mayS) okRMay fun zs v h => by
  match zs, h with
  | [a], h =>
    simp only [p1_app, Option.bind_eq_some_iff] at h ⊢
    obtain ⟨t, ht, h⟩ := h
    split at h
    · rename_i hc
      exact ⟨t.size, t, ht, by rw [if_pos ⟨Nat.le_refl _, hc⟩]; exact h⟩
    · cases h
theorem kRMayA {R : Type} {t : Tm} (h : tame t) {H : Heap} {k : AV → Heap → Option R} : polK pRMayA [eT t] H k = k (.bool (mayS t)) H := by
  simp [pRMayA, q0c, h]
theorem ty_u32s {n : Nat} {y : AV} (hy : Ty Tryd.prog n 22 y) : ∃ d : Option (List UInt32), y = eD d := by
  obtain ⟨l, hl, hb, -⟩ := hy.ints (k := .u32) (e := 59) (by kernel_rfl) (by kernel_rfl) (by kernel_rfl)
  have hll : l.map (AV.int .u32) = (l.map fun i => UInt32.ofNat i.toNat).map eu := by
    rw [List.map_map]
    refine List.map_congr_left fun i hi => ?_
    have := hb i hi
    have h5 : (0 : Int) ≤ i ∧ i ≤ 4294967295 := this
    show AV.int .u32 i = AV.int .u32 ((UInt32.ofNat i.toNat).toNat : Int)
    rw [q8j, Nat.mod_eq_of_lt (by omega)]
    congr 1
    omega
  rw [hll] at hl
  generalize hm : (l.map fun i => UInt32.ofNat i.toNat).map eu = es at hl
  cases hl with
  | nil => exact ⟨none, rfl⟩
  | sh _ =>
    subst hm
    exact ⟨some (l.map fun i => UInt32.ofNat i.toNat), rfl⟩
theorem ty_u8s {n : Nat} {y : AV} (hy : Ty Tryd.prog n 24 y) : ∃ d : Option (List UInt8), y = eL 1 eb d := by
  obtain ⟨l, hl, hb, -⟩ := hy.ints (k := .u8) (e := 5) (by kernel_rfl) (by kernel_rfl) (by kernel_rfl)
  have hll : l.map (AV.int .u8) = (l.map fun i => UInt8.ofNat i.toNat).map eb := by
    rw [List.map_map]
    refine List.map_congr_left fun i hi => ?_
    have := hb i hi
    have h5 : (0 : Int) ≤ i ∧ i ≤ 255 := this
    show AV.int .u8 i = AV.int .u8 ((UInt8.ofNat i.toNat).toNat : Int)
    rw [UInt8.toNat_ofNat']
    congr 1
    omega
  rw [hll] at hl
  generalize hm : (l.map fun i => UInt8.ofNat i.toNat).map eb = es at hl
  cases hl with
  | nil => exact ⟨none, rfl⟩
  | sh _ =>
    subst hm
    exact ⟨some (l.map fun i => UInt8.ofNat i.toNat), rfl⟩
theorem ty_tm : ∀ (n : Nat) (v : AV), Ty Tryd.prog n 26 v → ∃ t : Tm, v = eT t
  | 0, _, h => by cases h
  | 1, v, h => by
    obtain ⟨m, vs, hm, h1, h2, h3⟩ := h.struct (fs := #[{ name := "Kind", type := 3, offset := 0, embedded := false, tag := "", pkgPath := "", byteOffset := 0 }, { name := "Neg", type := 4, offset := 1, embedded := false, tag := "", pkgPath := "", byteOffset := 8 }, { name := "D", type := 22, offset := 2, embedded := false, tag := "", pkgPath := "", byteOffset := 16 }, { name := "Name", type := 9, offset := 3, embedded := false, tag := "", pkgPath := "", byteOffset := 40 }, { name := "N", type := 3, offset := 4, embedded := false, tag := "", pkgPath := "", byteOffset := 56 }, { name := "L", type := 23, offset := 5, embedded := false, tag := "", pkgPath := "", byteOffset := 64 }, { name := "B", type := 24, offset := 6, embedded := false, tag := "", pkgPath := "", byteOffset := 88 }]) (by kernel_rfl)
    match vs, h2 with
    | [x0, x1, x2, x3, x4, x5, x6], _ =>
      have y0 := (h3 0 _ x0 rfl rfl).1
      have : m = 0 := by omega
      subst this
      cases y0
  | n + 2, v, h => by
    obtain ⟨m, vs, hm, h1, h2, h3⟩ := h.struct (fs := #[{ name := "Kind", type := 3, offset := 0, embedded := false, tag := "", pkgPath := "", byteOffset := 0 }, { name := "Neg", type := 4, offset := 1, embedded := false, tag := "", pkgPath := "", byteOffset := 8 }, { name := "D", type := 22, offset := 2, embedded := false, tag := "", pkgPath := "", byteOffset := 16 }, { name := "Name", type := 9, offset := 3, embedded := false, tag := "", pkgPath := "", byteOffset := 40 }, { name := "N", type := 3, offset := 4, embedded := false, tag := "", pkgPath := "", byteOffset := 56 }, { name := "L", type := 23, offset := 5, embedded := false, tag := "", pkgPath := "", byteOffset := 64 }, { name := "B", type := 24, offset := 6, embedded := false, tag := "", pkgPath := "", byteOffset := 88 }]) (by kernel_rfl)
    have hmn : m = n + 1 := by omega
    subst hmn
    match vs, h2 with
    | [x0, x1, x2, x3, x4, x5, x6], _ =>
      have y0 := (h3 0 _ x0 rfl rfl).1
      have y1 := (h3 1 _ x1 rfl rfl).1
      have y2 := (h3 2 _ x2 rfl rfl).1
      have y3 := (h3 3 _ x3 rfl rfl).1
      have y4 := (h3 4 _ x4 rfl rfl).1
      have y5 := (h3 5 _ x5 rfl rfl).1
      have y6 := (h3 6 _ x6 rfl rfl).1
      obtain ⟨i0, rfl, -⟩ := y0.int (k := .i64) (by kernel_rfl)
      obtain ⟨b1, rfl⟩ := y1.bool (by kernel_rfl)
      obtain ⟨d2, rfl⟩ := ty_u32s y2
      obtain ⟨s3, rfl, -⟩ := y3.str (by kernel_rfl)
      obtain ⟨i4, rfl, -⟩ := y4.int (k := .i64) (by kernel_rfl)
      obtain ⟨d6, rfl⟩ := ty_u8s y6
      obtain ⟨m, es, hm, him, -, hes⟩ := y5.slice (e := 26) (by kernel_rfl)
      have hmn : m = n := by omega
      subst hmn
      obtain ⟨l, hl, -⟩ := q4d (f := eT) (p := fun _ => True) (es := es) fun x hx => by
        obtain ⟨t, ht⟩ := ty_tm m x (hes x hx)
        exact ⟨t, ht, trivial⟩
      have hc : Tryd.prog.cellsOf 26 = 7 := by kernel_rfl
      rw [hc] at him
      have hv : ∃ o : Option (List Tm), x5 = eL 7 eT o := by
        cases him with
        | nil => exact ⟨none, rfl⟩
        | sh _ =>
          subst hl
          exact ⟨some l, rfl⟩
      obtain ⟨o, rfl⟩ := hv
      refine ⟨.mk i0 b1 d2 s3 i4 o d6, ?_⟩
      rw [h1, q3c]
      have e2 : (eD d2).cells = [eD d2] := by cases d2 <;> rfl
      have e5 : (eL 7 eT o).cells = [eL 7 eT o] := by cases o <;> rfl
      have e6 : (eL 1 eb d6).cells = [eL 1 eb d6] := by cases d6 <;> rfl
      simp only [List.flatMap_cons, List.flatMap_nil, e2, e5, e6]
      rfl
end Go.Proofs.YtleikacgncpfbaaDoor

/- Terms: copies of rows. -/
set_option maxRecDepth 100000
set_option maxHeartbeats 2000000
namespace Go.Proofs.YtleikacgncpfbaaDoor
open Go Go.Den
/-! ### bytes -/
def fewB (d : Option (List UInt8)) : Prop := (d.getD []).length ≤ 1000000
noncomputable def pBclone : Pol := .still (p1 cBy (eL 1 eb) fewB id)
noncomputable def pTclone : Pol := .prim (runF base [] 73)
def cw (l : List Tm) : Nat := if l = [] then 0 else 1
def cv (id : Nat) : Option (List Tm) → AV
  | none => .nils
  | some l => .sl id (cw l) 0 l.length l.length
def cr (o : Option (List Tm)) (es : List AV) : List HObj := match o with
  | none => []
  | some l => [.row (cw l) 7 26 es]
end Go.Proofs.YtleikacgncpfbaaDoor

/- Terms: a value of the small heap that stands for a term. -/
set_option maxRecDepth 100000
set_option maxHeartbeats 2000000
namespace Go.Proofs.YtleikacgncpfbaaDoor
open Go Go.Den
def op (t : Tm) (vl : AV) : AV := .agg [.int .i64 t.kind, .bool t.neg, eD t.d, .str t.name, .int .i64 t.n, vl, eL 1 eb t.b]
theorem op_eT (t : Tm) : op t (eL 7 eT t.l) = eT t := (q3c t).symm
inductive Rd (H : Heap) : AV → Tm → Prop
  | imm (t : Tm) : Rd H (eT t) t
  | nil (t : Tm) (h : t.l = none) : Rd H (op t .nils) t
  | own (t : Tm) (l : List Tm) (id w cap : Nat) (es : List AV) (h : t.l = some l) (hr : H[id]? = some (.row w 7 26 es)) (hn : es.length = l.length) (he : ∀ i (hi : i < es.length), Rd H es[i] (l[i]'(hn ▸ hi))) : Rd H (op t (.sl id w 0 l.length cap)) t
theorem rd_mono {H H' : Heap} (hm : ∀ (id w : Nat) (es : List AV), H[id]? = some (.row w 7 26 es) → ∃ es' : List AV, H'[id]? = some (.row w 7 26 es') ∧ ∃ hl : es'.length = es.length, ∀ i (hi : i < es.length), es'[i]'(hl ▸ hi) = es[i] ∨ ∀ u, Rd H es[i] u → Rd H' (es'[i]'(hl ▸ hi)) u) {v : AV} {t : Tm} (h : Rd H v t) : Rd H' v t := by
  induction h with
  | imm t => exact .imm t
  | nil t h => exact .nil t h
  | own t l id w cap es h hr hn he ih =>
    obtain ⟨es', h1, hl, h2⟩ := hm id w es hr
    refine .own t l id w cap es' h h1 (by omega) fun i hi => ?_
    have hi' : i < es.length := by omega
    rcases h2 i hi' with h3 | h3
    · rw [h3]
      exact ih i hi'
    · exact h3 _ (he i hi')
theorem rd_push {H X : Heap} {v : AV} {t : Tm} (h : Rd H v t) : Rd (H ++ X) v t := rd_mono (fun id w es hr => ⟨es, by rw [List.getElem?_append_left (List.getElem?_eq_some_iff.1 hr).1]; exact hr, rfl, fun _ _ => .inl rfl⟩) h
def shal : Nat → Tm → Prop
  | 0, _ => False
  | n + 1, t => ∀ u ∈ t.kids, shal n u
theorem qd1 {most : Int} : ∀ (n : Nat) (t : Tm) (dep : Int), dep < n → roomS t dep most = true → shal n t
  | 0, t, dep, hd, h => by
    rw [q4e] at h
    simp only [Bool.and_eq_true, Bool.not_eq_true', Bool.or_eq_false_iff, decide_eq_false_iff_not] at h
    omega
  | n + 1, t, dep, hd, h => by
    rw [q4e] at h
    simp only [Bool.and_eq_true, Bool.not_eq_true', Bool.or_eq_false_iff, decide_eq_false_iff_not, List.all_eq_true] at h
    exact fun u hu => qd1 n u (dep - 1) (by omega) (h.2 u hu)
theorem qfj {α β : Type} {f : α → Option β} {g : List β} : ∀ {l : List α}, (hl : l.length = g.length) → (∀ i (hi : i < l.length), f l[i] = some (g[i]'(hl ▸ hi))) → l.mapM f = some g := by
  induction g with
  | nil =>
    intro l hl _
    have : l = [] := List.length_eq_zero_iff.1 hl
    subst this
    rfl
  | cons b g ih =>
    intro l hl h
    cases l with
    | nil => simp at hl
    | cons a l =>
      have h0 := h 0 (by simp)
      simp only [List.getElem_cons_zero] at h0
      have h1 := ih (l := l) (by simpa using hl) fun i hi => by
        have := h (i + 1) (by simp; omega)
        simpa using this
      simp [List.mapM_cons, h0, h1]
theorem qf7 {n sz : Nat} {α : Type} {e : α → AV} {H : Heap} {o : Option (List α)} : A.freezeB true (n + 1) H (eL sz e o) = some (eL sz e o) := by cases o <;> rfl
theorem qf8 {n : Nat} {H : Heap} {t : Tm} {v w : AV} (h : A.freezeB true (n + 1) H v = some w) : A.freezeB true (n + 2) H (op t v) = some (op t w) := by
  have hd : A.freezeB true (n + 1) H (eD t.d) = some (eD t.d) := qf7
  have hb : A.freezeB true (n + 1) H (eL 1 eb t.b) = some (eL 1 eb t.b) := qf7
  show ([AV.int .i64 t.kind, .bool t.neg, eD t.d, .str t.name, .int .i64 t.n, v, eL 1 eb t.b].mapM (A.freezeB true (n + 1) H)).map AV.agg = _
  have h0 : A.freezeB true (n + 1) H (.int .i64 t.kind) = some (.int .i64 t.kind) := rfl
  have h1 : A.freezeB true (n + 1) H (.bool t.neg) = some (.bool t.neg) := rfl
  have h3 : A.freezeB true (n + 1) H (.str t.name) = some (.str t.name) := rfl
  have h4 : A.freezeB true (n + 1) H (.int .i64 t.n) = some (.int .i64 t.n) := rfl
  simp [List.mapM_cons, h0, h1, hd, h3, h4, h, hb, op]
theorem rd_agg {H : Heap} {v : AV} {t : Tm} (h : Rd H v t) : ∃ cs, v = .agg cs := by
  cases h with
  | imm => exact ⟨_, q3c t⟩
  | nil => exact ⟨_, rfl⟩
  | own => exact ⟨_, rfl⟩
theorem q8q {H : Heap} : ∀ (n : Nat) (t : Tm) (v : AV), shal n t → Rd H v t → A.freezeB true (n + 1) H v = some (eT t)
  | 0, _, _, hs, _ => by cases hs
  | n + 1, t, v, hs, h => by
    cases h with
    | imm =>
      rw [← op_eT]
      exact qf8 qf7
    | nil _ h =>
      rw [← op_eT, h]
      exact qf8 rfl
    | own _ l id w cap es h hr hn he =>
      rw [← op_eT, h]
      refine qf8 ?_
      have hk : ∀ u ∈ l, shal n u := fun u hu => hs u (by unfold Tm.kids; rw [h]; exact hu)
      show (match H[id]? with | some (.row w' z _ es) => if w' = w ∧ 0 + l.length ≤ es.length then (((es.drop 0).take l.length).mapM fun (e : AV) => match e with | AV.agg cs => (cs.mapM (A.freezeB true n H)).map AV.agg | e => A.freezeB true n H e).map (AV.sh z) else none | _ => none) = _
      rw [hr]
      dsimp only
      rw [if_pos ⟨rfl, by omega⟩, List.drop_zero, List.take_of_length_le (by omega)]
      have : (es.mapM fun (e : AV) => match e with | AV.agg cs => (cs.mapM (A.freezeB true n H)).map AV.agg | e => A.freezeB true n H e) = some (l.map eT) := qfj (by simpa using hn) fun i hi => by
        have hri := he i hi
        have hf := q8q n _ _ (hk _ (List.getElem_mem (by omega))) hri
        obtain ⟨cs, hcs⟩ := rd_agg hri
        rw [hcs] at hf ⊢
        simp only [List.getElem_map]
        exact hf
      rw [this]
      rfl
end Go.Proofs.YtleikacgncpfbaaDoor

/- Terms: copies of limbs and bytes: rows of their own, as long as there is no other row of terms than the first. -/
set_option maxRecDepth 100000
set_option maxHeartbeats 2000000
namespace Go.Proofs.YtleikacgncpfbaaDoor
open Go Go.Den
def isR7 : HObj → Bool
  | .row _ sz _ _ => sz == 7
  | _ => false
def bigH (H : Heap) : Bool := (H.drop 1).any isR7
noncomputable def mixP (f : FuncId) (F : List AV → Option AV) : Pol := .prim fun args H => bif bigH H then pureF F args H else runF base [] f args H
section
variable {α : Type}
def cwG (l : List α) : Nat := if l = [] then 0 else 1
def cvG (id : Nat) : Option (List α) → AV
  | none => .nils
  | some l => .sl id (cwG l) 0 l.length l.length
def crG (ty : TypeId) (e : α → AV) (o : Option (List α)) : List HObj := match o with
  | none => []
  | some l => [.row (cwG l) 1 ty (l.map e)]
end
noncomputable def pBcl : Pol := mixP 71 (p1 cBy (eL 1 eb) fewB id)
noncomputable def pDcl : Pol := mixP 72 (p1 cD eD few id)
end Go.Proofs.YtleikacgncpfbaaDoor

/- Terms: what still is to be copied. -/
set_option maxRecDepth 100000
set_option maxHeartbeats 4000000
namespace Go.Proofs.YtleikacgncpfbaaDoor
open Go Go.Den
section
variable {H : Heap} {id ver sz j : Nat} {ty : TypeId} {es cs : List AV}
end
end Go.Proofs.YtleikacgncpfbaaDoor

/- Terms: one more is copied. -/
set_option maxRecDepth 100000
set_option maxHeartbeats 4000000
namespace Go.Proofs.YtleikacgncpfbaaDoor
open Go Go.Den
structure Ent where
  r : Nat
  w : Nat
  i : Nat
  u : Tm
  id : Nat
def op2 (t : Tm) (vd vl vb : AV) : AV := .agg [.int .i64 t.kind, .bool t.neg, vd, .str t.name, .int .i64 t.n, vl, vb]
def Ent.ptr (e : Ent) : AV := .ptr e.r e.w e.i 0
def Ent.own (e : Ent) : Prop := e.u.l ≠ none
def Pend (H : Heap) (e : Ent) : Prop := ∃ (es : List AV) (vd vb : AV), H[e.r]? = some (.row e.w 7 26 es) ∧ es[e.i]? = some (op2 e.u vd (cv e.id e.u.l) vb) ∧ ∀ l, e.u.l = some l → H[e.id]? = some (.row (cw l) 7 26 (l.map eT))
structure CInv (t : Tm) (vd vl vb : AV) (K : List HObj) (q ver cap : Nat) (P : List Ent) (H : Heap) : Prop where
  root : H[0]? = some (.row 0 7 26 [op2 t vd vl vb]) ∧ Rd H (op t vl) t
  todo : ∃ es : List AV, H[q]? = some (.row ver 1 86 es) ∧ es.take P.length = P.map Ent.ptr ∧ P.length ≤ cap
  pend : ∀ e ∈ P, Pend H e
  ids : ∀ e ∈ P, e.own → e.id ≠ q ∧ e.id < H.length ∧ K.length < e.id
  dist : P.Pairwise fun e f => e.own → f.own → e.id ≠ f.id
  apart : ∀ e ∈ P, ∀ f ∈ P, f.own → e.r ≠ f.id
  keep : ∀ (j : Nat) (o : HObj), K[j]? = some o → H[j + 1]? = some o
  kq : K.length < q
structure Cur (K : List HObj) (p : Ent) (l : List Tm) (i q : Nat) (P : List Ent) (H : Heap) : Prop where
  ul : p.u.l = some l
  cell : ∃ (es : List AV) (vd vb : AV), H[p.r]? = some (.row p.w 7 26 es) ∧ es[p.i]? = some (op2 p.u vd (cv p.id p.u.l) vb)
  rows : ∃ es : List AV, H[p.id]? = some (.row (cw l) 7 26 es) ∧ es.length = l.length ∧ ∀ j (hj : j < l.length), i ≤ j → es[j]? = some (eT l[j])
  idq : p.id ≠ q
  id0 : K.length < p.id
  rid : p.r ≠ p.id
  oth : ∀ e ∈ P, e.own → e.id ≠ p.id ∧ e.id ≠ p.r
  kid : ∀ e ∈ P, e.r = p.id → e.i < i
end Go.Proofs.YtleikacgncpfbaaDoor

/- Terms: the parts of one are copied; all are. -/
set_option maxRecDepth 100000
set_option maxHeartbeats 4000000
namespace Go.Proofs.YtleikacgncpfbaaDoor
open Go Go.Den
def qht (u : Tm) : Prop := few u.d ∧ fewB u.b ∧ u.kids.length ≤ 1000
noncomputable abbrev TCp : List (FuncId × Pol) := [(72, pDcl), (71, pBcl), (73, pTclone)]
end Go.Proofs.YtleikacgncpfbaaDoor

/- Terms: all that is still to be copied. -/
set_option maxRecDepth 100000
set_option maxHeartbeats 4000000
namespace Go.Proofs.YtleikacgncpfbaaDoor
open Go Go.Den
def fineT (t : Tm) : Prop := evT qht t
theorem fineT_eq {t : Tm} : fineT t ↔ qht t ∧ ∀ u ∈ t.kids, fineT u := qf0
end Go.Proofs.YtleikacgncpfbaaDoor

/- Terms: a copy is the term. -/
set_option maxRecDepth 100000
set_option maxHeartbeats 4000000
namespace Go.Proofs.YtleikacgncpfbaaDoor
open Go Go.Den
theorem qft {H : Heap} {v : AV} {t : Tm} (h : Rd H v t) : v.cells.length = 7 ∧ A.fits 7 v = true ∧ A.ofList true 7 v.cells 0 = some v ∧ v.isDef = true ∧ A.splice [.int .i64 0, .bool false, .nils, .str [], .int .i64 0, .nils, .nils] 0 v.cells = v.cells := by
  have hop : ∀ (u : Tm) (w : AV), w.one = true → (op u w).cells.length = 7 ∧ A.fits 7 (op u w) = true ∧ A.ofList true 7 (op u w).cells 0 = some (op u w) ∧ (op u w).isDef = true ∧ A.splice [.int .i64 0, .bool false, .nils, .str [], .int .i64 0, .nils, .nils] 0 (op u w).cells = (op u w).cells := fun u w hw => by
    have hd : (eD u.d).one = true := by cases u.d <;> rfl
    have hb : (eL 1 eb u.b).one = true := by cases u.b <;> rfl
    refine ⟨rfl, ?_, rfl, rfl, rfl⟩
    show (((op u w).cells.length == 7) && (op u w).cells.all AV.one) = true
    show ((7 == 7) && [AV.int .i64 u.kind, .bool u.neg, eD u.d, .str u.name, .int .i64 u.n, w, eL 1 eb u.b].all AV.one) = true
    simp only [List.all_cons, List.all_nil, hd, hb, hw]
    rfl
  cases h with
  | imm =>
    rw [← op_eT]
    exact hop _ _ (by cases t.l <;> rfl)
  | nil => exact hop _ _ rfl
  | own => exact hop _ _ rfl
def copyT (t : Tm) : Prop := fineT t ∧ shal 63 t ∧ t.size ≤ 1000000000
noncomputable def pCopy : Pol := .still (p1 cT eT copyT id)
def kb (t : Tm) : Nat := 1 + (crG 59 eu t.d).length
def kl (t : Tm) : Nat := kb t + (crG 5 eb t.b).length
def kK (t : Tm) : List HObj := crG 59 eu t.d ++ crG 5 eb t.b
noncomputable def pCopyR : Pol := .prim (runF base TCp 44)
end Go.Proofs.YtleikacgncpfbaaDoor

/- Terms: tuples and lists. -/
set_option maxRecDepth 100000
set_option maxHeartbeats 4000000
namespace Go.Proofs.YtleikacgncpfbaaDoor
open Go Go.Den
theorem qd8 : ∀ (n : Nat) (t : Tm), shal n t → shal (n + 1) t
  | 0, _, h => by cases h
  | n + 1, _, h => fun u hu => qd8 n u (h u hu)
theorem qed {n m : Nat} (h : n ≤ m) {t : Tm} (ht : shal n t) : shal m t := by
  induction h with
  | refl => exact ht
  | step _ ih => exact qd8 _ _ ih
def tupT (l : List Tm) : Tm := .mk 4 false none [] 0 (nz l) none
def listT : List Tm → Tm
  | [] => .mk 5 false none [] 0 none none
  | x :: r => .mk 6 false none [] 0 (some [x, listT r]) none
theorem q1a (l : List Tm) : (tupT l).kids = l := q3z l
theorem qg5 (w : AV) (hw : w.one = true) (k : Int) : A.fits 7 (.agg [.int .i64 k, .bool false, .nils, .str [], .int .i64 0, w, .nils]) = true := by
  show ((7 == 7) && [AV.int .i64 k, .bool false, .nils, .str [], .int .i64 0, w, .nils].all AV.one) = true
  simp only [List.all_cons, List.all_nil, hw]
  rfl
/-! ### a tuple -/
theorem out_rd {H : Heap} {v : AV} {l : List Tm} (h : Out eT 7 26 H v l) : Rd H (op (tupT l) v) (tupT l) := by
  rcases h with ⟨rfl, rfl⟩ | ⟨id, ver, h0, rfl, h2⟩
  · exact .nil _ rfl
  · have hl : (tupT l).l = some l := by
      show nz l = some l
      unfold nz
      rw [if_neg h0]
    refine .own _ l id ver _ (l.map eT) hl h2 (by simp) fun i hi => ?_
    rw [List.getElem_map]
    exact .imm _
theorem out_one {H : Heap} {v : AV} {l : List Tm} (h : Out eT 7 26 H v l) : v.one = true ∧ v.cells = [v] := by
  rcases h with ⟨-, rfl⟩ | ⟨_, _, -, rfl, -⟩ <;> exact ⟨rfl, rfl⟩
def partT (u : Tm) : Prop := copyT u ∧ shal 20 u
noncomputable abbrev TTup : List (FuncId × Pol) := [(44, pCopy)]
def allP (o : Option (List Tm)) : Prop := (∀ u ∈ o.getD [], partT u) ∧ (o.getD []).length ≤ 1000
noncomputable def pTuple : Pol := .still (p1 cTs eT allP fun o => tupT (o.getD []))
end Go.Proofs.YtleikacgncpfbaaDoor

/- Terms: lists. -/
set_option maxRecDepth 100000
set_option maxHeartbeats 4000000
namespace Go.Proofs.YtleikacgncpfbaaDoor
open Go Go.Den
noncomputable def pNil : Pol := .still (Cd.f0 (eT (listT [])))
noncomputable abbrev TLst : List (FuncId × Pol) := [(47, pNil), (44, pCopy)]
def allL (o : Option (List Tm)) : Prop := (∀ u ∈ o.getD [], partT u) ∧ (o.getD []).length ≤ 40
theorem qd7 : ∀ l : List Tm, (∀ u ∈ l, shal 20 u) → shal (l.length + 21) (listT l)
  | [], _ => fun u hu => by simp [listT, Tm.kids, Tm.l] at hu
  | x :: r, h => fun u hu => by
    have ih := qd7 r fun u hu => h u (by simp [hu])
    have : u ∈ [x, listT r] := hu
    simp only [List.mem_cons, List.not_mem_nil, or_false] at this
    rcases this with rfl | rfl
    · exact qed (n := 20) (m := r.length + 21) (by omega) (h u (by simp))
    · exact ih
noncomputable def pList : Pol := .still (p1 cTs eT allL fun o => listT (o.getD []))
end Go.Proofs.YtleikacgncpfbaaDoor

/- Terms in a row: are they few and small. -/
set_option maxRecDepth 100000
set_option maxHeartbeats 4000000
namespace Go.Proofs.YtleikacgncpfbaaDoor
open Go Go.Den
def roomsAll (l : List Tm) : Prop := ∀ u ∈ l, roomS u 8 40 = true ∧ mayS u = true
noncomputable def roomsS (o : Option (List Tm)) (most : Int) : Bool := decide (((o.getD []).length : Int) ≤ most) && (o.getD []).all fun u => roomS u 8 40 && mayS u
noncomputable abbrev TRms : List (FuncId × Pol) := [(16, pRoomA), (18, pRMayA)]
theorem qgy {o : Option (List Tm)} (hlen : (o.getD []).length ≤ 1000) (H : Heap) : ∀ (k i : Nat), i + k = (o.getD []).length →
    LDoes (L24_0 (polT TRms)) ⟨[eL 7 eT o, .int .i64 (i : Int)], []⟩ H (if ((o.getD []).drop i).all (fun u => roomS u 8 40 && mayS u) then 0 else 1) ⟨[if ((o.getD []).drop i).all (fun u => roomS u 8 40 && mayS u) then .undef else .bool false], []⟩ H := by
  have hln : A.len (eL 7 eT o) H = some (.int .i64 ((o.getD []).length : Int)) := q08
  intro k
  induction k with
  | zero =>
    intro i hi
    have : i = (o.getD []).length := by omega
    subst this
    rw [List.drop_length]
    refine LDoes.step (Evs.of fun n m => ?_)
    generalize ((o.getD []).length : Int) = N at *
    simp [↓q00, ↓q06, ↓q0a, ↓q09, ↓q01, ↓q04, ↓q0b, ↓q0h, ↓q0i, ↓q03, ↓q07, ↓q05, -q08, q45, hln]
  | succ k ih =>
    intro i hi
    have hlt : i < (o.getD []).length := by omega
    have hlt' : (i : Int) < ((o.getD []).length : Int) := by omega
    have hx : A.idx 7 (eL 7 eT o) (.int .i64 (i : Int)) H = some (.rop (eT (o.getD [])[i]).cells) := q4n (sz := 7) (e := eT) (o := o) (H := H) (k := .i64) (i := i) hlt
    have hld := q17 (t := (o.getD [])[i]) (H := H)
    have hi1 : IntKind.wrap .i64 ((i : Int) + 1) = (i : Int) + 1 := q0o (by omega) (by omega)
    have hr : ∀ (R : Type) (H : Heap) (k : AV → Heap → Option R), polK pRoomA [eT (o.getD [])[i], .int .i64 8, .int .i64 40] H k = k (.bool (roomS (o.getD [])[i] 8 40)) H := fun R H k => kRoomA (by omega) (by omega) (by omega)
    have hL := ih (i + 1) (by omega)
    simp only [Int.natCast_add, Int.natCast_one] at hL
    rw [List.drop_eq_getElem_cons hlt, List.all_cons]
    generalize ((o.getD []).drop (i + 1)).all (fun u => roomS u 8 40 && mayS u) = rest at *
    cases hrm : roomS (o.getD [])[i] 8 40
    · rw [hrm] at hr
      refine LDoes.step (Evs.of fun n m => ?_)
      generalize eT (o.getD [])[i] = v at *
      generalize ((o.getD []).length : Int) = N at *
      simp [↓q00, ↓q06, ↓q0a, ↓q09, ↓q01, ↓q04, ↓q0b, ↓q0h, ↓q0i, ↓q03, ↓q07, ↓q05, -q08, q45, hln, hlt', hx, hld, hr]
    · rw [hrm] at hr
      have hm : ∀ (R : Type) (H : Heap) (k : AV → Heap → Option R), polK pRMayA [eT (o.getD [])[i]] H k = k (.bool (mayS (o.getD [])[i])) H := fun R H k => kRMayA (q42 (by omega) _ 8 hrm)
      cases hmy : mayS (o.getD [])[i]
      · rw [hmy] at hm
        refine LDoes.step (Evs.of fun n m => ?_)
        generalize eT (o.getD [])[i] = v at *
        generalize ((o.getD []).length : Int) = N at *
        simp [↓q00, ↓q06, ↓q0a, ↓q09, ↓q01, ↓q04, ↓q0b, ↓q0h, ↓q0i, ↓q03, ↓q07, ↓q05, -q08, q45, hln, hlt', hx, hld, hr, hm]
      · rw [hmy] at hm
        refine LDoes.step (Evs.withL hL (Evs.of fun n m _ h2 => ?_))
        generalize eT (o.getD [])[i] = v at *
        generalize ((o.getD []).length : Int) = N at *
        simp [↓q00, ↓q06, ↓q0a, ↓q09, ↓q01, ↓q04, ↓q0b, ↓q0h, ↓q0i, ↓q03, ↓q07, ↓q05, -q08, q45, hln, hlt', hx, hld, hr, hm, hi1, h2]
noncomputable def pRooms : Pol := .still (p2 cTs (cI .i64) .bool (fun _ most => most ≤ 1000) roomsS)
theorem kRooms {R : Type} {o : Option (List Tm)} {most : Int} (h : most ≤ 1000) {H : Heap} {k : AV → Heap → Option R} : polK pRooms [eL 7 eT o, .int .i64 most] H k = k (.bool (roomsS o most)) H := by
  simp [pRooms, q0c, h]
theorem okRooms : PolOK base 24 pRooms := still2 base_ok TRms ⟨okRoomA, okRMayA, trivial⟩ fun o most hm => by
  have hln : A.len (eL 7 eT o) [] = some (.int .i64 ((o.getD []).length : Int)) := q08
  unfold roomsS
  by_cases hc : ((o.getD []).length : Int) ≤ most
  · have hc' : ¬ most < ((o.getD []).length : Int) := by omega
    have hL := qgy (o := o) (by omega) [] (o.getD []).length 0 (by omega)
    rw [List.drop_zero] at hL
    refine Evs.withL hL (Evs.of fun n m h1 _ => ?_)
    simp only [Int.natCast_zero, Int.ofNat_zero] at h1
    generalize (o.getD []).all (fun u => roomS u 8 40 && mayS u) = w at *
    generalize ((o.getD []).length : Int) = N at *
    cases w <;> simp [↓q00, ↓q06, ↓q0a, ↓q09, ↓q01, ↓q04, ↓q0b, ↓q0h, ↓q0i, ↓q03, ↓q07, ↓q05, -q08, S24, hln, hc, hc', h1]
  · have hc' : most < ((o.getD []).length : Int) := by omega
    generalize ((o.getD []).length : Int) = N at *
    exact Evs.of fun n m => by simp [↓q00, ↓q06, ↓q0a, ↓q09, ↓q01, ↓q04, ↓q0b, ↓q0h, ↓q0i, ↓q03, ↓q07, ↓q05, -q08, S24, hln, hc, hc']
theorem qa8 {o : Option (List Tm)} {most : Int} (h : roomsS o most = true) : ((o.getD []).length : Int) ≤ most ∧ roomsAll (o.getD []) := by
  unfold roomsS at h
  simp only [Bool.and_eq_true, decide_eq_true_eq, List.all_eq_true] at h
  exact h
/-! ### a term that may be: as great as it has parts -/
theorem qfy : ∀ t : Tm, mayT countR t = true → t.size = szT t := q4p fun t ih h => by
  rw [q50] at h
  simp only [Bool.and_eq_true, List.all_eq_true] at h
  obtain ⟨ho, hk⟩ := h
  have hl : ∀ l : List Tm, (∀ u ∈ l, u ∈ t.kids) → (∀ u ∈ l, mayT countR u = true) → Tm.sizes l = szs l := by
    intro l
    induction l with
    | nil => intro _ _; simp [Tm.sizes, szs]
    | cons u l ihl =>
      intro h1 h2
      rw [Tm.sizes, szs, ih u (h1 u (by simp)) (h2 u (by simp)), ihl (fun x hx => h1 x (by simp [hx])) fun x hx => h2 x (by simp [hx])]
  have hs : spareS t = true := by
    unfold oneS at ho
    simp only [Bool.and_eq_true] at ho
    exact ho.1
  rw [t.size_eq, szT_eq]
  congr 1
  unfold partsO
  unfold partsO at hk
  by_cases hc : t.kind = 4 ∨ t.kind = 6
  · rw [if_pos hc] at hk ⊢
    exact hl _ (fun u hu => hu) hk
  · rw [if_neg hc]
    have hz : t.kids.length = 0 := by
      unfold spareS at hs
      simp only [Bool.and_eq_true, Bool.or_eq_true, decide_eq_true_eq] at hs
      rcases hs.1.1.2 with h | h
      · exact absurd h hc
      · exact h
    rw [List.length_eq_zero_iff.1 hz]
    rfl
end Go.Proofs.YtleikacgncpfbaaDoor

/- The seat's first question: by computation. -/
set_option maxRecDepth 100000
namespace Go.Proofs.YtleikacgncpfbaaDoor.awake5
open Go Go.Den
def q51 : List FuncId := [15, 17, 19, 21, 30, 31, 39, 44, 47, 54, 55, 56, 58, 59, 69, 71, 72, 73, 75, 77, 78, 79, 82, 83, 84, 97, 98, 99, 106]
noncomputable def env0 : Env := { P := Tryd.prog, pol := fun _ => .plain, ann := fun _ => {}, glob := fun g => bif Nat.beq g 0 then flatD (H := Unit) Rows.laid_unicode_utf8_first else bif Nat.beq g 1 then flatD (H := Unit) Rows.laid_unicode_utf8_acceptRanges else none }
def q43 : List (Nat × List (Nat × Nat × Nat)) := []
def q58 : List (Nat × List (Nat × Nat × Nat)) → Nat → List (Nat × Nat × Nat)
  | [], _ => []
  | (g, l) :: r, f => bif Nat.beq g f then l else q58 r f
def annsIn (f : Nat) : Ann :=  .nil
noncomputable def tab (f : FuncId) : FAnn :=
  match Tryd.prog.funcs[f]? with
  | some fn => { ann := annsIn f, depth := Nat.log2 fn.ntmps + 1, sites := q58 q43 f, draws := qj7 env0 (q58 q43 f) fn }
  | none => {}
noncomputable def env : Env := { env0 with ann := fun f => if f ∈ q51 then tab f else {} }
theorem qhp : EnvOK env := envOK q51 (by kernel_rfl) (fun f hf => by show (if f ∈ q51 then tab f else {}).draws = []; rw [if_neg hf]) (by kernel_rfl)
theorem qbj : ∀ f, env.pol f = .plain ∨ ∃ F, env.pol f = .prim F ∧ PrimOK env f F := fun f => by
  refine .inl ?_
  show ( Pol.plain) = _
  rfl
theorem calls_ok (n : Nat) : CallOK env (callF env n) := q7w qhp (by kernel_rfl) qbj n
def q4g : Option AV → Bool
  | some (.bool true) => true
  | _ => false
theorem q8r {x : Option AV} (h : q4g x = true) : x = some (.bool true) := by
  unfold q4g at h
  split at h
  · rfl
  · cases h
theorem known : callF env 300 AV 15 [] [] (fun v G => A.freezeB true 64 G v) = some (.bool true) := q8r (by kernel_rfl)
end Go.Proofs.YtleikacgncpfbaaDoor.awake5
namespace Go.Proofs.YtleikacgncpfbaaDoor
open Go Go.Den
noncomputable def pAwake5 : Pol := .still (Cd.f0 (.bool true))
end Go.Proofs.YtleikacgncpfbaaDoor

/- Terms in a row: are they few and small; how many parts and words a tuple and a list have. -/
set_option maxRecDepth 100000
set_option maxHeartbeats 4000000
namespace Go.Proofs.YtleikacgncpfbaaDoor
open Go Go.Den
theorem room_fine {most : Int} (hm : most ≤ 1000) : ∀ t dep, roomS t dep most = true → fineT t := fun t => q4p (P := fun t => ∀ dep, roomS t dep most = true → fineT t) (fun t ih dep h => by
  rw [q4e] at h
  simp only [Bool.and_eq_true, Bool.not_eq_true', Bool.or_eq_false_iff, decide_eq_false_iff_not, List.all_eq_true] at h
  obtain ⟨⟨⟨⟨⟨h1, h2⟩, h3⟩, h4⟩, h5⟩, h6⟩ := h
  exact fineT_eq.2 ⟨⟨by unfold few; omega, by unfold fewB; omega, by omega⟩, fun u hu => ih u hu _ (h6 u hu)⟩) t
theorem qg1 {l : List Tm} (h : ∀ u ∈ l, tame u) (hl : l.length ≤ 1000) : tame (tupT l) := by
  rw [tame_eq, q1a]
  refine ⟨⟨by simp [tupT, Tm.d], by simp [tupT, Tm.name], by rw [q1a]; exact hl⟩, h⟩
theorem q8v : ∀ {l : List Tm}, (∀ u ∈ l, tame u) → tame (listT l)
  | [], _ => by
    rw [tame_eq]
    exact ⟨⟨by simp [listT, Tm.d], by simp [listT, Tm.name], by simp [listT, Tm.kids, Tm.l]⟩, fun u hu => by simp [listT, Tm.kids, Tm.l] at hu⟩
  | x :: r, h => by
    rw [tame_eq]
    refine ⟨⟨by simp [listT, Tm.d], by simp [listT, Tm.name], by simp [listT, Tm.kids, Tm.l]⟩, fun u hu => ?_⟩
    have : u ∈ [x, listT r] := hu
    simp only [List.mem_cons, List.not_mem_nil, or_false] at this
    rcases this with rfl | rfl
    · exact h _ (by simp)
    · exact q8v fun u hu => h u (by simp [hu])
end Go.Proofs.YtleikacgncpfbaaDoor
