/- Texts put together: LawRules. -/
import Derived.Test.YtikkpecdkdgmfaaDoorMn

/- The law on numbers of any size: what its function answers. -/
set_option maxRecDepth 100000
set_option maxHeartbeats 4000000
namespace Go.Proofs.YtikkpecdkdgmfaaDoor
open Go Go.Den

noncomputable def pNum : Pol := .still (p1 cN eN (fun _ => True) id)
theorem okNum : PolOK base 14 pNum := still1 base_ok [] trivial fun a _ => by
  obtain ⟨a1, a2⟩ := a
  refine Evs.of fun n m => ?_
  simp [↓bindC_eq, ↓withV_of, ↓chkD_true, S14, A.ofList, A.fill, A.fits, A.splice]
theorem kNum {R : Type} {a : Nm} {H : Heap} {k : AV → Heap → Option R} : polK pNum [eN a] H k = k (eN a) H := by
  simp [pNum, polK_imm]
theorem qNum {R : Type} {a : Nm} {H : Heap} {k : AV → Heap → Option R} : polQ pNum [eN a] H k = k (eN a) H := by
  simp [pNum, polQ_imm]

/-! ### how great the numbers are -/
theorem rep_len {a : Nm} {z : Int} {k : Nat} (h : Rep a z) (hz : z.natAbs < 4294967296 ^ k) : (a.2.getD []).length ≤ k := by rw [h.2]; exact lim_le.2 hz
theorem rep_mag' {a : Nm} {z : Int} (h : Rep a z) : mag a = z.natAbs := by unfold mag; rw [h.2, val_lim]
theorem mag_toI (a : Nm) : (toI a).natAbs = mag a := by
  unfold toI sgn
  split <;> omega
theorem mag_lt {a : Nm} {k : Nat} (h : (a.2.getD []).length ≤ k) : (toI a).natAbs < 4294967296 ^ k := by
  rw [mag_toI]
  exact Nat.lt_of_lt_of_le (val_lt _) (Nat.pow_le_pow_right (by omega) h)

noncomputable abbrev TRules : List (FuncId × Pol) := [(9, pAwake), (14, pNum), (20, pMul), (23, pAdd), (24, pSub), (22, pCompare), (21, pDiv), (19, pNorm), (18, pRnorm)]
theorem okTRules : TabOK base TRules := ⟨okAwake, okNum, okMul, okAdd, okSub, okCompare, okDiv, okNorm, okRnorm, trivial⟩

theorem tup3 (x : Nm × Nm × Bool) : eDiv x = .tup [eN x.1, eN x.2.1, .bool x.2.2] := rfl

theorem law_rules (a b c : Nm) : Evs fun n _ => callF (base.with (polT TRules)) (n + 1) AV 5 [eN a, eN b, eN c] [] (fun v _ => some v) = some (.bool true) := by
  refine Evs.of fun n m => ?_
  have hB0 : ∀ r : List HObj, Go.Den.Box (.row 0 2 24 [eN b] :: r) 0 2 24 [.bool b.1, eD b.2] := fun r => rfl
  have hB1 : ∀ r : List HObj, Go.Den.Box (.row 0 2 24 [eN b] :: .row 0 2 24 [eN c] :: r) 1 2 24 [.bool c.1, eD c.2] := fun r => rfl
  have p1 := fun r => (hB0 r).fa (o := 1)
  have p2 := fun r => (hB0 r).load (o := 1)
  have p3 := fun r => (hB1 r).fa (o := 1)
  have p4 := fun r => (hB1 r).load (o := 1)
  have p5 := fun r => box_load (hB0 r) rfl
  have p6 := fun r => box_load (hB1 r) rfl
  simp only [List.getElem?_cons_succ, List.getElem?_cons_zero] at p2 p4
  have len_eD : ∀ (d : Option (List UInt32)) (H : Heap), A.len (eD d) H = some (.int .i64 ((d.getD []).length : Nat)) := fun d H => by simp
  by_cases ca : 40 < (a.2.getD []).length
  · have ca' : (40 : Int) < ((a.2.getD []).length : Int) := by omega
    simp [↓test_bool, ↓bindV_eq, ↓bindC_eq, ↓bindH_eq, ↓withV_of, ↓withP_some, ↓withB_some, ↓chkD_true, S5, kAwake, A.ofList, ca']
  have ca' : ¬ (40 : Int) < ((a.2.getD []).length : Int) := by omega
  by_cases cb : 40 < (b.2.getD []).length
  · have cb' : (40 : Int) < ((b.2.getD []).length : Int) := by omega
    simp [↓test_bool, ↓bindV_eq, ↓bindC_eq, ↓bindH_eq, ↓withV_of, ↓withP_some, ↓withB_some, ↓chkD_true, S5, kAwake, A.ofList, ca', cb', p1, p2, p3]
  have cb' : ¬ (40 : Int) < ((b.2.getD []).length : Int) := by omega
  by_cases cc : 40 < (c.2.getD []).length
  · have cc' : (40 : Int) < ((c.2.getD []).length : Int) := by omega
    simp [↓test_bool, ↓bindV_eq, ↓bindC_eq, ↓bindH_eq, ↓withV_of, ↓withP_some, ↓withB_some, ↓chkD_true, S5, kAwake, A.ofList, ca', cb', cc', p1, p2, p3, p4]
  have cc' : ¬ (40 : Int) < ((c.2.getD []).length : Int) := by omega
  -- the numbers
  obtain ⟨X, hX⟩ : ∃ X, toI a = X := ⟨_, rfl⟩
  obtain ⟨Y, hY⟩ : ∃ Y, toI b = Y := ⟨_, rfl⟩
  obtain ⟨Z, hZ⟩ : ∃ Z, toI c = Z := ⟨_, rfl⟩
  have mX := mag_toI a
  have mY := mag_toI b
  have mZ := mag_toI c
  rw [hX] at mX
  rw [hY] at mY
  rw [hZ] at mZ
  have bX : X.natAbs < 4294967296 ^ 40 := by rw [← hX]; exact mag_lt (by omega)
  have bY : Y.natAbs < 4294967296 ^ 40 := by rw [← hY]; exact mag_lt (by omega)
  have bZ : Z.natAbs < 4294967296 ^ 40 := by rw [← hZ]; exact mag_lt (by omega)
  have mul_b : ∀ (u v : Int) (i j k : Nat), u.natAbs < 4294967296 ^ i → v.natAbs < 4294967296 ^ j → i + j ≤ k → (u * v).natAbs < 4294967296 ^ k := fun u v i j k h1 h2 h3 => by
    rw [Int.natAbs_mul]
    have e : 4294967296 ^ (i + j) ≤ 4294967296 ^ k := Nat.pow_le_pow_right (by omega) h3
    rw [Nat.pow_add] at e
    exact Nat.lt_of_lt_of_le (Nat.mul_lt_mul'' h1 h2) e
  have add_b : ∀ (u v : Int) (i : Nat), u.natAbs < 4294967296 ^ i → v.natAbs < 4294967296 ^ i → (u + v).natAbs < 4294967296 ^ (i + 1) := fun u v i h1 h2 => by
    rw [Nat.pow_succ]
    omega
  have bYZ := add_b Y Z 40 bY bZ
  have bXY := mul_b X Y 40 40 80 bX bY (by omega)
  have bXZ := mul_b X Z 40 40 80 bX bZ (by omega)
  have bXYZ := mul_b X (Y + Z) 40 41 81 bX bYZ (by omega)
  have bXpY := add_b X Y 40 bX bY
  -- what is reckoned
  have l40 : ∀ {w : Nat}, w < 4294967296 ^ 40 → (lim w).length ≤ 128 := fun h => Nat.le_trans (lim_le.2 h) (by omega)
  have l81 : ∀ {w : Nat}, w < 4294967296 ^ 81 → (lim w).length ≤ 128 := fun h => Nat.le_trans (lim_le.2 h) (by omega)
  have l80 : ∀ {w : Nat}, w < 4294967296 ^ 80 → (lim w).length ≤ 128 := fun h => Nat.le_trans (lim_le.2 h) (by omega)
  have l41 : ∀ {w : Nat}, w < 4294967296 ^ 41 → (lim w).length ≤ 128 := fun h => Nat.le_trans (lim_le.2 h) (by omega)
  obtain ⟨m1, r1⟩ := mul_eq (a := a) (b := b) (by rw [← mX]; exact l40 bX) (by rw [← mY]; exact l40 bY) (by rw [← mX, ← mY, ← Int.natAbs_mul]; exact l80 bXY)
  obtain ⟨m2, r2⟩ := mul_eq (a := a) (b := c) (by rw [← mX]; exact l40 bX) (by rw [← mZ]; exact l40 bZ) (by rw [← mX, ← mZ, ← Int.natAbs_mul]; exact l80 bXZ)
  have r3 := rep_add b c
  rw [hX, hY] at r1
  rw [hX, hZ] at r2
  rw [hY, hZ] at r3
  have mS := rep_mag' r3
  obtain ⟨m4, r4⟩ := mul_eq (a := a) (b := addS b c) (by rw [← mX]; exact l40 bX) (by rw [mS]; exact l41 bYZ) (by rw [← mX, mS, ← Int.natAbs_mul]; exact l81 bXYZ)
  rw [hX, r3.toI] at r4
  have r5 := rep_add (mulS a b).1 (mulS a c).1
  rw [r1.toI, r2.toI] at r5
  have r6 := rep_add a b
  rw [hX, hY] at r6
  have r7 := rep_sub (addS a b) b
  rw [r6.toI, hY] at r7
  have c1 : compareS (mulS a (addS b c)).1 (addS (mulS a b).1 (mulS a c).1) = 0 := by
    rw [compare_eq, r4.toI, r5.toI, Int.mul_add]; exact cmpI_self _
  have c2 : compareS (subS (addS a b) b) a = 0 := by
    rw [compare_eq, r7.toI, hX, Int.add_sub_cancel]; exact cmpI_self _
  have c3 : compareS a b = cmpI X Y := by rw [compare_eq, hX, hY]
  have c4 : compareS b a = -(cmpI X Y) := by rw [compare_eq, hX, hY, cmpI_swap]
  have fa : few a.2 := by unfold few; omega
  have fb : few b.2 := by unfold few; omega
  have fc : few c.2 := by unfold few; omega
  have ga : lot a.2 := by unfold lot; omega
  have gb : lot b.2 := by unfold lot; omega
  have gc : lot c.2 := by unfold lot; omega
  have b5 : (X * Y + X * Z).natAbs < 4294967296 ^ 81 := add_b _ _ 80 bXY bXZ
  have lotR : ∀ {x : Nm} {z : Int} {k : Nat}, Rep x z → z.natAbs < 4294967296 ^ k → k ≤ 200 → lot x.2 := fun h hz hk => by
    unfold lot
    have := rep_len h hz
    omega
  have g1 := lotR r1 bXY (by omega)
  have g2 := lotR r2 bXZ (by omega)
  have g3 := lotR r3 bYZ (by omega)
  have g4 := lotR r4 bXYZ (by omega)
  have g5 := lotR r5 b5 (by omega)
  have g6 := lotR r6 bXpY (by omega)
  have g7 : lot (subS (addS a b) b).2 := lotR r7 (by rw [Int.add_sub_cancel]; exact bX) (by omega)
  -- calls
  have e1 : ∀ (R : Type) (H : Heap) (k : AV → Heap → Option R), polK pMul [eN a, eN b] H k = k (.tup [eN (mulS a b).1, .bool true]) H := fun R H k => by rw [kMul fa fb, m1]
  have e2 : ∀ (R : Type) (H : Heap) (k : AV → Heap → Option R), polK pMul [eN a, eN c] H k = k (.tup [eN (mulS a c).1, .bool true]) H := fun R H k => by rw [kMul fa fc, m2]
  have e3 : ∀ (R : Type) (H : Heap) (k : AV → Heap → Option R), polQ pAdd [eN b, eN c] H k = k (eN (addS b c)) H := fun R H k => qAdd gb gc
  have e4 : ∀ (R : Type) (H : Heap) (k : AV → Heap → Option R), polQ pMul [eN a, eN (addS b c)] H k = k (.tup [eN (mulS a (addS b c)).1, .bool true]) H := fun R H k => by rw [qMul fa g3.few, m4]
  have e5 : ∀ (R : Type) (H : Heap) (k : AV → Heap → Option R), polK pAdd [eN (mulS a b).1, eN (mulS a c).1] H k = k (eN (addS (mulS a b).1 (mulS a c).1)) H := fun R H k => kAdd g1 g2
  have e6 : ∀ (R : Type) (H : Heap) (k : AV → Heap → Option R), polK pCompare [eN (mulS a (addS b c)).1, eN (addS (mulS a b).1 (mulS a c).1)] H k = k (.int .i64 0) H := fun R H k => by rw [kCompare g4.few g5.few, c1]
  have e7 : ∀ (R : Type) (H : Heap) (k : AV → Heap → Option R), polK pAdd [eN a, eN b] H k = k (eN (addS a b)) H := fun R H k => kAdd ga gb
  have e8 : ∀ (R : Type) (H : Heap) (k : AV → Heap → Option R), polK pSub [eN (addS a b), eN b] H k = k (eN (subS (addS a b) b)) H := fun R H k => kSub g6 gb
  have e9 : ∀ (R : Type) (H : Heap) (k : AV → Heap → Option R), polK pCompare [eN (subS (addS a b) b), eN a] H k = k (.int .i64 0) H := fun R H k => by rw [kCompare g7.few fa, c2]
  have e10 : ∀ (R : Type) (H : Heap) (k : AV → Heap → Option R), polK pCompare [eN a, eN b] H k = k (.int .i64 (cmpI X Y)) H := fun R H k => by rw [kCompare fa fb, c3]
  have e11 : ∀ (R : Type) (H : Heap) (k : AV → Heap → Option R), polK pCompare [eN b, eN a] H k = k (.int .i64 (-(cmpI X Y))) H := fun R H k => by rw [kCompare fb fa, c4]
  have hcr : -1 ≤ cmpI X Y ∧ cmpI X Y ≤ 1 := by unfold cmpI; split <;> (try split) <;> omega
  have hneg : A.un .neg (.int .i64 (-(cmpI X Y))) = some (.int .i64 (cmpI X Y)) := by
    show some (AV.int .i64 (IntKind.wrap .i64 (0 - -(cmpI X Y)))) = _
    rw [wrap_i64 (by omega) (by omega)]
    congr 2
    omega
  have e12 : ∀ (R : Type) (H : Heap) (k : AV → Heap → Option R), polK pDiv [eN a, eN b] H k = k (eDiv (divS a b)) H := fun R H k => kDiv ga gb
  have e0 : ∀ (R : Type) (x : Nm) (H : Heap) (k : AV → Heap → Option R), polQ pNum [eN x] H k = k (eN x) H := fun R x H k => qNum
  generalize cmpI X Y = cxy at *
  by_cases hY0 : Y = 0
  · have hd : divS a b = ((false, none), (false, none), false) := by
      unfold divS
      rw [if_pos (by rw [← mY, hY0]; rfl)]
    rw [hd] at e12
    have hrn := rep_rnorm b
    rw [hY, hY0] at hrn
    have hrl : ((rnormS b).2.getD []) = [] := by rw [hrn.2]; exact lim_zero
    have e13 : ∀ (R : Type) (H : Heap) (k : AV → Heap → Option R), polK pRnorm [eN b] H k = k (eN (rnormS b)) H := fun R H k => kRnorm fb
    generalize (mulS a (addS b c)).1 = xa at *
    generalize addS (mulS a b).1 (mulS a c).1 = xs at *
    generalize (mulS a b).1 = xm at *
    generalize (mulS a c).1 = xn at *
    generalize subS (addS a b) b = xd at *
    generalize addS a b = xp at *
    generalize addS b c = xq at *
    generalize rnormS b = xr at *
    clear hX hY hZ mX mY mZ
    simp [↓test_bool, ↓bindV_eq, ↓bindC_eq, ↓bindH_eq, ↓withV_of, ↓withP_some, ↓withH_some, ↓withB_some, ↓chkD_true, S5, kAwake, A.ofList, A.fits, A.splice, ca', cb', cc', p1, p2, p3, p4, p5, p6, e0, e1, e2, e3, e4, e5, e6, e7, e8, e9, e10, e11, hneg, e12, e13, A.store, A.setElem, A.field, hrl]
  · obtain ⟨d1, d2, d3⟩ := div_eq (a := a) (b := b) (by rw [hY]; exact hY0)
    rw [hX, hY] at d2 d3
    have hQ : X.tdiv Y * Y + X.tmod Y = X := by have := Int.mul_tdiv_add_tmod X Y; rw [Int.mul_comm]; exact this
    have hRl : (X.tmod Y).natAbs < Y.natAbs := by
      rw [Int.natAbs_tmod]
      exact Nat.mod_lt _ (by omega)
    have bQ : (X.tdiv Y).natAbs < 4294967296 ^ 40 := by
      rw [Int.natAbs_tdiv]
      exact Nat.lt_of_le_of_lt (Nat.div_le_self _ _) bX
    have bR : (X.tmod Y).natAbs < 4294967296 ^ 40 := Nat.lt_trans hRl bY
    have bQY := mul_b (X.tdiv Y) Y 40 40 80 bQ bY (by omega)
    have mQ := rep_mag' d2
    obtain ⟨m8, r8⟩ := mul_eq (a := (divS a b).1) (b := b) (by rw [mQ]; exact l40 bQ) (by rw [← mY]; exact l40 bY) (by rw [mQ, ← mY, ← Int.natAbs_mul]; exact l80 bQY)
    rw [d2.toI, hY] at r8
    have r9 := rep_add (mulS (divS a b).1 b).1 (divS a b).2.1
    rw [r8.toI, d3.toI, hQ] at r9
    have c5 : compareS (addS (mulS (divS a b).1 b).1 (divS a b).2.1) a = 0 := by rw [compare_eq, r9.toI, hX]; exact cmpI_self _
    have rO := rep_norm b
    rw [hY] at rO
    have rP := rep_norm a
    rw [hX] at rP
    have c6 : compareS (false, (divS a b).2.1.2) (false, (normS b).2) = -1 := by
      rw [compare_eq]
      have e1 : toI (false, (divS a b).2.1.2) = (X.tmod Y).natAbs := by
        show ((mag (divS a b).2.1 : Nat) : Int) = _
        rw [rep_mag' d3]
      have e2 : toI (false, (normS b).2) = Y.natAbs := by
        show ((mag (normS b) : Nat) : Int) = _
        rw [rep_mag' rO]
      rw [e1, e2]
      unfold cmpI
      rw [if_pos (by omega)]
    have g8 := lotR d2 bQ (by omega)
    have g9 := lotR d3 bR (by omega)
    have g10 := lotR r8 bQY (by omega)
    have g11 := lotR r9 bX (by omega)
    have g12 := lotR rO bY (by omega)
    have e13 : ∀ (R : Type) (H : Heap) (k : AV → Heap → Option R), polK pMul [eN (divS a b).1, eN b] H k = k (.tup [eN (mulS (divS a b).1 b).1, .bool true]) H := fun R H k => by rw [kMul g8.few fb, m8]
    have e14 : ∀ (R : Type) (H : Heap) (k : AV → Heap → Option R), polK pNorm [eN b] H k = k (eN (normS b)) H := fun R H k => kNorm fb
    have e15 : ∀ (R : Type) (H : Heap) (k : AV → Heap → Option R), polK pAdd [eN (mulS (divS a b).1 b).1, eN (divS a b).2.1] H k = k (eN (addS (mulS (divS a b).1 b).1 (divS a b).2.1)) H := fun R H k => kAdd g10 g9
    have e16 : ∀ (R : Type) (H : Heap) (k : AV → Heap → Option R), polK pCompare [eN (addS (mulS (divS a b).1 b).1 (divS a b).2.1), eN a] H k = k (.int .i64 0) H := fun R H k => by rw [kCompare g11.few fa, c5]
    have e17 : ∀ (R : Type) (H : Heap) (k : AV → Heap → Option R), polK pCompare [.agg [.bool false, eD (divS a b).2.1.2], .agg [.bool false, eD (normS b).2]] H k = k (.int .i64 (-1)) H := fun R H k => by
      have := kCompare (a := (false, (divS a b).2.1.2)) (b := (false, (normS b).2)) g9.few g12.few (H := H) (k := k)
      rw [c6] at this
      exact this
    have e18 : ∀ (R : Type) (H : Heap) (k : AV → Heap → Option R), polK pNorm [eN a] H k = k (eN (normS a)) H := fun R H k => kNorm fa
    have e12' : ∀ (R : Type) (H : Heap) (k : AV → Heap → Option R), polK pDiv [eN a, eN b] H k = k (.tup [eN (divS a b).1, eN (divS a b).2.1, .bool true]) H := fun R H k => by rw [e12, tup3, d1]
    have hsign : ((divS a b).2.1.2.getD []).length = 0 ∨ (divS a b).2.1.1 = (normS a).1 := by
      rw [d3.1, d3.2, rP.1]
      by_cases h0 : X.tmod Y = 0
      · left
        rw [h0]
        exact congrArg List.length lim_zero
      · right
        by_cases hx : X < 0
        · rw [decide_eq_true hx]
          refine decide_eq_true ?_
          have h1 : X.tmod Y ≤ 0 := by
            have h2 : (-X).tmod Y = -(X.tmod Y) := Int.neg_tmod X Y
            have h3 := Int.tmod_nonneg (a := -X) Y (by omega)
            omega
          omega
        · rw [decide_eq_false hx]
          refine decide_eq_false ?_
          have := Int.tmod_nonneg (a := X) Y (by omega)
          omega
    have hB2 : ∀ (r0 r1 : HObj), Go.Den.Box [r0, r1, .row 0 2 26 [eN (divS a b).2.1]] 2 2 26 [.bool (divS a b).2.1.1, eD (divS a b).2.1.2] := fun _ _ => rfl
    have q1 := fun r0 r1 => (hB2 r0 r1).fa (o := 1)
    have q2 := fun r0 r1 => (hB2 r0 r1).load (o := 1)
    have q3 := fun r0 r1 => (hB2 r0 r1).fa (o := 0)
    have q4 := fun r0 r1 => (hB2 r0 r1).load (o := 0)
    have q5 := fun r0 r1 => box_load (hB2 r0 r1) rfl
    simp only [List.getElem?_cons_succ, List.getElem?_cons_zero] at q2 q4
    have qs : ∀ (r0 r1 : HObj), A.store 2 (.ptr 2 0 0 0) (eN (divS a b).2.1) [r0, r1, .row 0 2 26 [.agg [.bool false, .nils]]] = some [r0, r1, .row 0 2 26 [eN (divS a b).2.1]] := fun r0 r1 => by
      have h0 : Go.Den.Box [r0, r1, .row 0 2 26 [.agg [.bool false, .nils]]] 2 2 26 [.bool false, .nils] := rfl
      have := box_store (ds := [.bool (divS a b).2.1.1, eD (divS a b).2.1.2]) h0 rfl rfl ((fun d => by cases d <;> rfl : ∀ d : Option (List UInt32), [AV.bool (divS a b).2.1.1, eD d].all AV.one = true) _)
      exact this
    generalize addS (mulS (divS a b).1 b).1 (divS a b).2.1 = yb at *
    generalize (mulS (divS a b).1 b).1 = ya at *
    generalize (divS a b).1 = yq at *
    generalize (divS a b).2.1 = yr at *
    generalize normS b = yn at *
    generalize normS a = ym at *
    generalize (mulS a (addS b c)).1 = xa at *
    generalize addS (mulS a b).1 (mulS a c).1 = xs at *
    generalize (mulS a b).1 = xm at *
    generalize (mulS a c).1 = xn at *
    generalize subS (addS a b) b = xd at *
    generalize addS a b = xp at *
    generalize addS b c = xq at *
    clear hX hY hZ mX mY mZ
    rcases hsign with hs | hs
    · have hs' : ((yr.2.getD []).length : Int) = 0 := by omega
      simp [↓test_bool, ↓bindV_eq, ↓bindC_eq, ↓bindH_eq, ↓withV_of, ↓withP_some, ↓withH_some, ↓withB_some, ↓chkD_true, S5, kAwake, A.ofList, A.fits, A.splice, ca', cb', cc', p1, p2, p3, p4, p5, p6, e0, e1, e2, e3, e4, e5, e6, e7, e8, e9, e10, e11, hneg, e12', e13, e14, e15, e16, e17, q1, q2, q3, q5, qs, A.field, hs']
    · by_cases hz : (yr.2.getD []).length = 0
      · have hs' : ((yr.2.getD []).length : Int) = 0 := by omega
        simp [↓test_bool, ↓bindV_eq, ↓bindC_eq, ↓bindH_eq, ↓withV_of, ↓withP_some, ↓withH_some, ↓withB_some, ↓chkD_true, S5, kAwake, A.ofList, A.fits, A.splice, ca', cb', cc', p1, p2, p3, p4, p5, p6, e0, e1, e2, e3, e4, e5, e6, e7, e8, e9, e10, e11, hneg, e12', e13, e14, e15, e16, e17, q1, q2, q3, q5, qs, A.field, hs']
      · have hs' : ¬ ((yr.2.getD []).length : Int) = 0 := by omega
        have hz2 : yr.2.getD [] ≠ [] := fun e => hz (by rw [e]; rfl)
        have hbe : ∀ H, A.bin base.P .eql 4 (.bool yr.1) (.bool ym.1) false H = some (.bool true) := fun H => by rw [A.bin_beq ty_bool, hs]; simp
        clear hs
        simp [↓test_bool, ↓bindV_eq, ↓bindC_eq, ↓bindH_eq, ↓withV_of, ↓withP_some, ↓withH_some, ↓withB_some, ↓chkD_true, S5, kAwake, A.ofList, A.fits, A.splice, ca', cb', cc', p1, p2, p3, p4, p5, p6, e0, e1, e2, e3, e4, e5, e6, e7, e8, e9, e10, e11, hneg, e12', e13, e14, e15, e16, e17, e18, q1, q2, q3, q4, q5, qs, A.field, hz2, hbe]

/-! ### what it is handed -/
theorem ty_num {n : Nat} {v : AV} (h : Ty Tryd.prog n 24 v) : ∃ a : Nm, v = eN a := by
  obtain ⟨m, vs, rfl, h1, h2, h3⟩ := h.struct (fs := #[{ name := "Neg", type := 4, offset := 0, embedded := false, tag := "", pkgPath := "", byteOffset := 0 }, { name := "D", type := 22, offset := 1, embedded := false, tag := "", pkgPath := "", byteOffset := 8 }]) (by kernel_rfl)
  match vs, h2 with
  | [x, y], _ =>
    have hx := (h3 0 _ x rfl rfl).1
    have hy := (h3 1 _ y rfl rfl).1
    obtain ⟨p, rfl⟩ := hx.bool (by kernel_rfl)
    obtain ⟨l, hl, hb, -⟩ := hy.ints (k := .u32) (e := 64) (by kernel_rfl) (by kernel_rfl) (by kernel_rfl)
    have hll : l.map (AV.int .u32) = (l.map fun i => UInt32.ofNat i.toNat).map eu := by
      rw [List.map_map]
      refine List.map_congr_left fun i hi => ?_
      have := hb i hi
      have h5 : (0 : Int) ≤ i ∧ i ≤ 4294967295 := this
      show AV.int .u32 i = AV.int .u32 ((UInt32.ofNat i.toNat).toNat : Int)
      rw [limb_of, Nat.mod_eq_of_lt (by omega)]
      congr 1
      omega
    rw [hll] at hl
    generalize hm : (l.map fun i => UInt32.ofNat i.toNat).map eu = es at hl
    cases hl with
    | nil => exact ⟨(p, none), by rw [h1]; rfl⟩
    | sh _ =>
      subst hm
      exact ⟨(p, some (l.map fun i => UInt32.ofNat i.toNat)), by rw [h1]; rfl⟩
end Go.Proofs.YtikkpecdkdgmfaaDoor
