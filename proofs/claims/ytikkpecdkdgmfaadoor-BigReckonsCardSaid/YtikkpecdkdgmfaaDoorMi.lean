/- Texts put together: LawReckons. -/
import Derived.Test.YtikkpecdkdgmfaaDoorMh

/- The law on what is reckoned of any two numbers: what its function answers. -/
set_option maxRecDepth 100000
set_option maxHeartbeats 4000000
namespace Go.Proofs.YtikkpecdkdgmfaaDoor
open Go Go.Den
theorem kRdiv {R : Type} {a b : Nm} (la : (a.2.getD []).length ≤ 1000) (lb : (b.2.getD []).length ≤ 1000) {H : Heap} {k : AV → Heap → Option R} : polK pRdiv [eN a, eN b] H k = k (eDiv (rdivS a b)) H := by
  simp [pRdiv, polK_imm, la, lb]
theorem mag_rnorm (a : Nm) : mag (rnormS a) = mag a := by
  have := rep_mag' (rep_rnorm a)
  rw [this, mag_toI]
theorem rep_rmul {a b : Nm} (ha : (lim (mag a)).length ≤ 128) (hb : (lim (mag b)).length ≤ 128) (hp : (lim (mag a * mag b)).length ≤ 128) : (rmulS a b).2 = true ∧ Rep (rmulS a b).1 (toI a * toI b) := by
  unfold rmulS
  rw [if_neg (by omega), if_neg (by omega)]
  refine ⟨rfl, ?_⟩
  have h := rep_rnorm ((rnormS a).1 != (rnormS b).1, some (lim (mag a * mag b)))
  have e : toI ((rnormS a).1 != (rnormS b).1, some (lim (mag a * mag b))) = toI a * toI b := by
    rw [← toI_rnorm a, ← toI_rnorm b]
    have e1 := mag_rnorm a
    have e2 := mag_rnorm b
    generalize rnormS a = x at *
    generalize rnormS b = y at *
    unfold toI
    rw [e1, e2]
    have : mag (x.1 != y.1, some (lim (mag a * mag b))) = mag a * mag b := by unfold mag; exact val_lim _
    rw [this]
    unfold sgn
    cases x.1 <;> cases y.1 <;> simp [Int.mul_neg, Int.neg_mul]
  rw [e] at h
  exact h
theorem rep_rdiv {a b : Nm} (hm : mag b ≠ 0) : (rdivS a b).2.2 = true ∧ Rep (rdivS a b).1 ((toI a).tdiv (toI b)) ∧ Rep (rdivS a b).2.1 ((toI a).tmod (toI b)) := by
  unfold rdivS
  rw [if_neg hm]
  have h1 := rep_rnorm ((rnormS a).1 != (rnormS b).1, nz (lim (mag a / mag b)))
  have h2 := rep_rnorm ((rnormS a).1, nz (lim (mag a % mag b)))
  have e1 := mag_rnorm a
  have e2 := mag_rnorm b
  have q1 : toI ((rnormS a).1 != (rnormS b).1, nz (lim (mag a / mag b))) = (toI a).tdiv (toI b) := by
    rw [← toI_rnorm a, ← toI_rnorm b]
    generalize rnormS a = x at *
    generalize rnormS b = y at *
    unfold toI
    rw [e1, e2]
    have : mag (x.1 != y.1, nz (lim (mag a / mag b))) = mag a / mag b := by unfold mag; dsimp only; rw [nz_get]; exact val_lim _
    rw [this]
    unfold sgn
    have e : ((mag a : Int)).tdiv (mag b) = ((mag a / mag b : Nat) : Int) := by rw [Int.tdiv_eq_ediv_of_nonneg (by omega)]; rfl
    cases x.1 <;> cases y.1 <;> simp [e]
  have q2 : toI ((rnormS a).1, nz (lim (mag a % mag b))) = (toI a).tmod (toI b) := by
    rw [← toI_rnorm a, ← toI_rnorm b]
    generalize rnormS a = x at *
    generalize rnormS b = y at *
    unfold toI
    rw [e1, e2]
    have : mag (x.1, nz (lim (mag a % mag b))) = mag a % mag b := by unfold mag; dsimp only; rw [nz_get]; exact val_lim _
    rw [this]
    unfold sgn
    have e : ((mag a : Int)).tmod (mag b) = ((mag a % mag b : Nat) : Int) := by rw [Int.tmod_eq_emod_of_nonneg (by omega)]; rfl
    cases x.1 <;> cases y.1 <;> simp [e]
  rw [q1] at h1
  rw [q2] at h2
  exact ⟨rfl, h1, h2⟩
noncomputable abbrev TReck : List (FuncId × Pol) := [(9, pAwake), (14, pNum), (20, pMul), (25, pRmul), (21, pDiv), (26, pRdiv), (27, pSmall), (28, pSmallof), (23, pAdd), (29, pRadd), (12, pSame3), (24, pSub), (30, pRsub), (22, pCompare), (31, pRcmp), (19, pNorm), (18, pRnorm)]
theorem okTReck : TabOK base TReck := ⟨okAwake, okNum, okMul, okRmul, okDiv, okRdiv, okSmall, okSmallof, okAdd, okRadd, okSame3, okSub, okRsub, okCompare, okRcmp, okNorm, okRnorm, trivial⟩
theorem same_zero : sameS (false, none) (false, none) = true := rfl
theorem same_few {x y : Nm} (hx : few x.2) (hy : few y.2) (h : sameS x y = true) {R : Type} {H : Heap} {k : AV → Heap → Option R} : polK pSame3 [eN x, eN y] H k = k (.bool true) H := by rw [kSame3 hx hy, h]
theorem same_fewQ {x y : Nm} (hx : few x.2) (hy : few y.2) (h : sameS x y = true) {R : Type} {H : Heap} {k : AV → Heap → Option R} : polQ pSame3 [eN x, eN y] H k = k (.bool true) H := by rw [qSame3 hx hy, h]
theorem law_reckons (a b : Nm) : Evs fun n _ => callF (base.with (polT TReck)) (n + 1) AV 7 [eN a, eN b] [] (fun v _ => some v) = some (.bool true) := by
  refine Evs.of fun n m => ?_
  have hB0 : ∀ r : List HObj, Go.Den.Box (.row 0 2 24 [eN b] :: r) 0 2 24 [.bool b.1, eD b.2] := fun r => rfl
  have p1 := fun r => (hB0 r).fa (o := 1)
  have p2 := fun r => (hB0 r).load (o := 1)
  have p5 := fun r => box_load (hB0 r) rfl
  simp only [List.getElem?_cons_succ, List.getElem?_cons_zero] at p2
  by_cases ca : 140 < (a.2.getD []).length
  · have ca' : (140 : Int) < ((a.2.getD []).length : Int) := by omega
    simp [↓test_bool, ↓bindV_eq, ↓bindC_eq, ↓bindH_eq, ↓withV_of, ↓withP_some, ↓withB_some, ↓chkD_true, S7, kAwake, A.ofList, ca']
  have ca' : ¬ (140 : Int) < ((a.2.getD []).length : Int) := by omega
  by_cases cb : 140 < (b.2.getD []).length
  · have cb' : (140 : Int) < ((b.2.getD []).length : Int) := by omega
    simp [↓test_bool, ↓bindV_eq, ↓bindC_eq, ↓bindH_eq, ↓withV_of, ↓withP_some, ↓withB_some, ↓chkD_true, S7, kAwake, A.ofList, ca', cb', p1, p2]
  have cb' : ¬ (140 : Int) < ((b.2.getD []).length : Int) := by omega
  have bX : (toI a).natAbs < 4294967296 ^ 140 := mag_lt (by omega)
  have bY : (toI b).natAbs < 4294967296 ^ 140 := mag_lt (by omega)
  have mA := mag_toI a
  have mB := mag_toI b
  have fa : few a.2 := by unfold few; omega
  have fb : few b.2 := by unfold few; omega
  have ga : lot a.2 := by unfold lot; omega
  have gb : lot b.2 := by unfold lot; omega
  have fewR : ∀ {x : Nm} {z : Int} {k : Nat}, Rep x z → z.natAbs < 4294967296 ^ k → k ≤ 1000 → few x.2 := fun h hz hk => by
    unfold few
    have := rep_len h hz
    omega
  have fz : few (none : Option (List UInt32)) := by simp [few]
  -- products
  have hmul : (mulS a b).2 = (rmulS a b).2 ∧ sameS (mulS a b).1 (rmulS a b).1 = true ∧ few (mulS a b).1.2 ∧ few (rmulS a b).1.2 := by
    by_cases h1 : 128 < (lim (mag a)).length ∨ 128 < (lim (mag b)).length
    · have e1 : mulS a b = ((false, none), false) := by unfold mulS; exact if_pos h1
      have e2 : rmulS a b = ((false, none), false) := by unfold rmulS; exact if_pos h1
      rw [e1, e2]
      exact ⟨rfl, rfl, fz, fz⟩
    · by_cases h2 : 128 < (lim (mag a * mag b)).length
      · have e1 : mulS a b = ((false, none), false) := (if_neg h1).trans (if_pos h2)
        have e2 : rmulS a b = ((false, none), false) := (if_neg h1).trans (if_pos h2)
        rw [e1, e2]
        exact ⟨rfl, rfl, fz, fz⟩
      · obtain ⟨m1, r1⟩ := mul_eq (a := a) (b := b) (by omega) (by omega) (by omega)
        obtain ⟨m2, r2⟩ := rep_rmul (a := a) (b := b) (by omega) (by omega) (by omega)
        have hb : (toI a * toI b).natAbs < 4294967296 ^ 128 := by
          rw [Int.natAbs_mul, mA, mB]
          exact lim_le.1 (by omega)
        exact ⟨m1.trans m2.symm, r1.same r2, fewR r1 hb (by omega), fewR r2 hb (by omega)⟩
  -- quotients
  have hdiv : (divS a b).2.2 = (rdivS a b).2.2 ∧ sameS (divS a b).1 (rdivS a b).1 = true ∧ sameS (divS a b).2.1 (rdivS a b).2.1 = true ∧ few (divS a b).1.2 ∧ few (rdivS a b).1.2 ∧ few (divS a b).2.1.2 ∧ few (rdivS a b).2.1.2 := by
    by_cases h0 : mag b = 0
    · have e1 : divS a b = ((false, none), (false, none), false) := by unfold divS; exact if_pos h0
      have e2 : rdivS a b = ((false, none), (false, none), false) := by unfold rdivS; exact if_pos h0
      rw [e1, e2]
      exact ⟨rfl, rfl, rfl, fz, fz, fz, fz⟩
    · have hY0 : toI b ≠ 0 := fun e => h0 (by rw [← mB, e]; rfl)
      obtain ⟨d1, d2, d3⟩ := div_eq (a := a) (b := b) hY0
      obtain ⟨e1, e2, e3⟩ := rep_rdiv (a := a) (b := b) h0
      have b1 : ((toI a).tdiv (toI b)).natAbs < 4294967296 ^ 140 := by
        rw [Int.natAbs_tdiv]
        exact Nat.lt_of_le_of_lt (Nat.div_le_self _ _) bX
      have b2 : ((toI a).tmod (toI b)).natAbs < 4294967296 ^ 140 := by
        rw [Int.natAbs_tmod]
        exact Nat.lt_of_le_of_lt (Nat.mod_le _ _) bX
      exact ⟨d1.trans e1.symm, d2.same e2, d3.same e3, fewR d2 b1 (by omega), fewR e2 b1 (by omega), fewR d3 b2 (by omega), fewR e3 b2 (by omega)⟩
  -- sums, differences, plain forms
  have bS : (toI a + toI b).natAbs < 4294967296 ^ 141 := by
    rw [Nat.pow_succ]
    omega
  have bD : (toI a - toI b).natAbs < 4294967296 ^ 141 := by
    rw [Nat.pow_succ]
    omega
  have rA := rep_add a b
  have rA2 := rep_radd a b
  have rS := rep_sub a b
  have rS2 := rep_rsub a b
  have rN := rep_norm a
  have rN2 := rep_rnorm a
  have k1 : ∀ (H : Heap) (k : AV → Heap → Option AV), polQ pNum [eN a] H k = k (eN a) H := fun H k => qNum
  have k2 : ∀ (H : Heap) (k : AV → Heap → Option AV), polQ pNum [eN b] H k = k (eN b) H := fun H k => qNum
  have k3 : ∀ (H : Heap) (k : AV → Heap → Option AV), polK pMul [eN a, eN b] H k = k (.tup [eN (mulS a b).1, .bool (rmulS a b).2]) H := fun H k => by rw [kMul fa fb, hmul.1]
  have k4 : ∀ (H : Heap) (k : AV → Heap → Option AV), polK pRmul [eN a, eN b] H k = k (.tup [eN (rmulS a b).1, .bool (rmulS a b).2]) H := fun H k => kRmul fa fb
  have k5 : ∀ (H : Heap) (k : AV → Heap → Option AV), polK pDiv [eN a, eN b] H k = k (.tup [eN (divS a b).1, eN (divS a b).2.1, .bool (rdivS a b).2.2]) H := fun H k => by rw [kDiv ga gb, tup3, hdiv.1]
  have k6 : ∀ (H : Heap) (k : AV → Heap → Option AV), polK pRdiv [eN a, eN b] H k = k (.tup [eN (rdivS a b).1, eN (rdivS a b).2.1, .bool (rdivS a b).2.2]) H := fun H k => by rw [kRdiv (by omega) (by omega), tup3]
  have k7 : ∀ (H : Heap) (k : AV → Heap → Option AV), polK pSmall [eN a] H k = k (.tup [.int .i64 (smallS a).1, .bool (smallS a).2]) H := fun H k => kSmall fa
  have k8 : ∀ (H : Heap) (k : AV → Heap → Option AV), polK pSmallof [eN a] H k = k (.tup [.int .i64 (smallS a).1, .bool (smallS a).2]) H := fun H k => kSmallof fa
  have k9 : ∀ (H : Heap) (k : AV → Heap → Option AV), polQ pAdd [eN a, eN b] H k = k (eN (addS a b)) H := fun H k => qAdd ga gb
  have k10 : ∀ (H : Heap) (k : AV → Heap → Option AV), polQ pRadd [eN a, eN b] H k = k (eN (raddS a b)) H := fun H k => qRadd ga gb
  have k11 : ∀ (H : Heap) (k : AV → Heap → Option (AV × Heap)), polK pSub [eN a, eN b] H k = k (eN (subS a b)) H := fun H k => kSub ga gb
  have k12 : ∀ (H : Heap) (k : AV → Heap → Option (AV × Heap)), polK pRsub [eN a, eN b] H k = k (eN (rsubS a b)) H := fun H k => kRsub ga gb
  have k13 : ∀ (H : Heap) (k : AV → Heap → Option (AV × Heap)), polK pCompare [eN a, eN b] H k = k (.int .i64 (cmpI (toI a) (toI b))) H := fun H k => by rw [kCompare fa fb, compare_eq]
  have k14 : ∀ (H : Heap) (k : AV → Heap → Option (AV × Heap)), polK pRcmp [eN a, eN b] H k = k (.int .i64 (cmpI (toI a) (toI b))) H := fun H k => kRcmp fa fb
  have k15 : ∀ (H : Heap) (k : AV → Heap → Option (AV × Heap)), polK pNorm [eN a] H k = k (eN (normS a)) H := fun H k => kNorm fa
  have k16 : ∀ (H : Heap) (k : AV → Heap → Option (AV × Heap)), polK pRnorm [eN a] H k = k (eN (rnormS a)) H := fun H k => kRnorm fa
  have s1 : ∀ (H : Heap) (k : AV → Heap → Option AV), polQ pSame3 [eN (addS a b), eN (raddS a b)] H k = k (.bool true) H := fun H k => same_fewQ (fewR rA bS (by omega)) (fewR rA2 bS (by omega)) (rA.same rA2)
  have s2 : ∀ (H : Heap) (k : AV → Heap → Option (AV × Heap)), polK pSame3 [eN (subS a b), eN (rsubS a b)] H k = k (.bool true) H := fun H k => same_few (fewR rS bD (by omega)) (fewR rS2 bD (by omega)) (rS.same rS2)
  have s3 : ∀ (H : Heap) (k : AV → Heap → Option (AV × Heap)), polK pSame3 [eN (mulS a b).1, eN (rmulS a b).1] H k = k (.bool true) H := fun H k => same_few hmul.2.2.1 hmul.2.2.2 hmul.2.1
  have s4 : ∀ (H : Heap) (k : AV → Heap → Option (AV × Heap)), polK pSame3 [eN (divS a b).1, eN (rdivS a b).1] H k = k (.bool true) H := fun H k => same_few hdiv.2.2.2.1 hdiv.2.2.2.2.1 hdiv.2.1
  have s5 : ∀ (H : Heap) (k : AV → Heap → Option (AV × Heap)), polK pSame3 [eN (divS a b).2.1, eN (rdivS a b).2.1] H k = k (.bool true) H := fun H k => same_few hdiv.2.2.2.2.2.1 hdiv.2.2.2.2.2.2 hdiv.2.2.1
  have s6 : ∀ (H : Heap) (k : AV → Heap → Option (AV × Heap)), polK pSame3 [eN (normS a), eN (rnormS a)] H k = k (.bool true) H := fun H k => same_few (fewR rN bX (by omega)) (fewR rN2 bX (by omega)) (rN.same rN2)
  generalize (mulS a b).1 = x1 at *
  generalize (rmulS a b).1 = x2 at *
  generalize (rmulS a b).2 = x3 at *
  generalize (divS a b).1 = y1 at *
  generalize (divS a b).2.1 = y2 at *
  generalize (rdivS a b).1 = y3 at *
  generalize (rdivS a b).2.1 = y4 at *
  generalize (rdivS a b).2.2 = y5 at *
  generalize addS a b = z1 at *
  generalize raddS a b = z2 at *
  generalize subS a b = z3 at *
  generalize rsubS a b = z4 at *
  generalize normS a = z5 at *
  generalize rnormS a = z6 at *
  generalize smallS a = z7 at *
  generalize cmpI (toI a) (toI b) = z8 at *
  clear bX bY bS bD rA rA2 rS rS2 rN rN2 hmul hdiv mA mB
  simp (maxSteps := 3000000) [↓test_bool, ↓bindV_eq, ↓bindC_eq, ↓bindH_eq, ↓withV_of, ↓withP_some, ↓withB_some, ↓chkD_true, S7, kAwake, A.ofList, A.fits, A.splice, ca', cb', p1, p2, p5, k1, k2, k3, k4, k5, k6, k7, k8, k9, k10, k11, k12, k13, k14, k15, k16, s1, s2, s3, s4, s5, s6, A.bin_beq ty_bool]
end Go.Proofs.YtikkpecdkdgmfaaDoor
