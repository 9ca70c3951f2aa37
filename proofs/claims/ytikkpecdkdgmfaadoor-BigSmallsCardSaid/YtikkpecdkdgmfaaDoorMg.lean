/- Texts put together: LawSmalls. -/
import Derived.Test.YtikkpecdkdgmfaaDoorMf

/- The law on numbers that go into a machine's word: what its function answers. -/
set_option maxRecDepth 100000
set_option maxHeartbeats 4000000
namespace Go.Proofs.YtikkpecdkdgmfaaDoor
open Go Go.Den

noncomputable abbrev TSmalls : List (FuncId × Pol) := [(9, pAwake), (16, pOf), (20, pMul), (21, pDiv1), (17, pRof), (12, pSame3), (22, pCompare), (27, pSmall), (23, pAdd), (24, pSub)]
theorem okTSmalls : TabOK base TSmalls := ⟨okAwake, okOf, okMul, okDiv1, okRof, okSame3, okCompare, okSmall, okAdd, okSub, trivial⟩
theorem cv_i32_i64 (n : Int) (j : IntKind) : Go.Den.convert base 21 2 (.int j n) = some (.int .i64 (IntKind.wrap .i64 n)) := conv_int (x := .int .i32) (by kernel_rfl) (by kernel_rfl)

theorem rep_lot {a : Nm} {z : Int} (h : Rep a z) (hz : z.natAbs < 18446744073709551616) : lot a.2 := by
  unfold lot
  rw [h.2]
  have := (lim_le (n := z.natAbs) (k := 2)).2 (by simpa using hz)
  omega
theorem rep_mag {a : Nm} {z : Int} (h : Rep a z) : mag a = z.natAbs := by
  unfold mag
  rw [h.2, val_lim]

theorem law_smalls {a b : Int} (a1 : -2147483648 ≤ a) (a2 : a ≤ 2147483647) (b1 : -2147483648 ≤ b) (b2 : b ≤ 2147483647) :
    Evs fun n _ => callF (base.with (polT TSmalls)) (n + 1) AV 8 [.int .i32 a, .int .i32 b] [] (fun v _ => some v) = some (.bool true) := by
  refine Evs.of fun n m => ?_
  have ra : Rep (ofS a) a := rep_of (by omega) (by omega)
  have rb : Rep (ofS b) b := rep_of (by omega) (by omega)
  have la := rep_lot ra (by omega)
  have lb := rep_lot rb (by omega)
  have ma := rep_mag ra
  have mb := rep_mag rb
  have l1 : ∀ z : Int, z.natAbs < 4294967296 → (lim z.natAbs).length ≤ 1 := fun z hz => lim_le.2 (by simpa using hz)
  have l2 : ∀ k : Nat, k < 18446744073709551616 → (lim k).length ≤ 2 := fun k hk => lim_le.2 (by simpa using hk)
  have hb1 : (lim (mag (ofS b))).length ≤ 1 := by rw [mb]; exact l1 b (by omega)
  have hprod : a.natAbs * b.natAbs ≤ 4611686018427387904 := by
    have : a.natAbs * b.natAbs ≤ 2147483648 * 2147483648 := Nat.mul_le_mul (by omega) (by omega)
    omega
  have hab : (a * b).natAbs = a.natAbs * b.natAbs := Int.natAbs_mul a b
  have m2 : -9223372036854775808 ≤ a * b ∧ a * b ≤ 9223372036854775807 := by omega
  obtain ⟨hm1, hm2⟩ := mul_eq (a := ofS a) (b := ofS b) (by rw [ma]; have := l1 a (by omega); omega) (by rw [mb]; have := l1 b (by omega); omega) (by rw [ma, mb]; have := l2 (a.natAbs * b.natAbs) (by omega); omega)
  rw [ra.toI, rb.toI] at hm2
  have radd := rep_add (ofS a) (ofS b)
  have rsub := rep_sub (ofS a) (ofS b)
  rw [ra.toI, rb.toI] at radd rsub
  have hcmp := compare_eq (ofS a) (ofS b)
  rw [ra.toI, rb.toI] at hcmp
  have hsm : smallS (ofS a) = (a, true) := by
    rw [small_eq, ra.toI, if_pos]
    unfold fitsS
    simp
    omega
  -- the reference's
  have s1 : sameS (addS (ofS a) (ofS b)) (rofS (a + b)) = true := radd.same (rep_rof (by omega) (by omega))
  have s2 : sameS (subS (ofS a) (ofS b)) (rofS (a - b)) = true := rsub.same (rep_rof (by omega) (by omega))
  have s3 : sameS (mulS (ofS a) (ofS b)).1 (rofS (a * b)) = true := hm2.same (rep_rof m2.1 m2.2)
  have f1 := (rep_lot radd (by omega)).few
  have f2 := (rep_lot rsub (by omega)).few
  have f3 := (rep_lot hm2 (by omega)).few
  have g1 := (rep_lot (rep_rof (z := a + b) (by omega) (by omega)) (by omega)).few
  have g2 := (rep_lot (rep_rof (z := a - b) (by omega) (by omega)) (by omega)).few
  have g3 := (rep_lot (rep_rof (z := a * b) m2.1 m2.2) (by omega)).few
  have k1 : ∀ (H : Heap) (k : AV → Heap → Option AV), polK pOf [.int .i64 a] H k = k (eN (ofS a)) H := fun H k => kOf (by omega) (by omega)
  have k2 : ∀ (H : Heap) (k : AV → Heap → Option AV), polK pOf [.int .i64 b] H k = k (eN (ofS b)) H := fun H k => kOf (by omega) (by omega)
  have k3 : ∀ (H : Heap) (k : AV → Heap → Option AV), polK pMul [eN (ofS a), eN (ofS b)] H k = k (.tup [eN (mulS (ofS a) (ofS b)).1, .bool true]) H := fun H k => by rw [kMul la.few lb.few, hm1]
  have k4 : ∀ (H : Heap) (k : AV → Heap → Option AV), polK pDiv1 [eN (ofS a), eN (ofS b)] H k = k (eDiv (divS (ofS a) (ofS b))) H := fun H k => kDiv1 la lb hb1
  have k5 : ∀ (z : Int) (H : Heap) (k : AV → Heap → Option (AV × Heap)), -9223372036854775808 ≤ z → z ≤ 9223372036854775807 → polK pRof [.int .i64 z] H k = k (eN (rofS z)) H := fun z H k h1 h2 => kRof h1 h2
  have k6 : ∀ (H : Heap) (k : AV → Heap → Option (AV × Heap)), polK pAdd [eN (ofS a), eN (ofS b)] H k = k (eN (addS (ofS a) (ofS b))) H := fun H k => kAdd la lb
  have k7 : ∀ (H : Heap) (k : AV → Heap → Option (AV × Heap)), polK pSub [eN (ofS a), eN (ofS b)] H k = k (eN (subS (ofS a) (ofS b))) H := fun H k => kSub la lb
  have k8 : ∀ (H : Heap) (k : AV → Heap → Option (AV × Heap)), polK pCompare [eN (ofS a), eN (ofS b)] H k = k (.int .i64 (cmpI a b)) H := fun H k => by rw [kCompare la.few lb.few, hcmp]
  have k9 : ∀ (H : Heap) (k : AV → Heap → Option AV), polK pSmall [eN (ofS a)] H k = k (.tup [.int .i64 a, .bool true]) H := fun H k => by rw [kSmall la.few, hsm]
  have t1 : ∀ (H : Heap) (k : AV → Heap → Option (AV × Heap)), polK pSame3 [eN (addS (ofS a) (ofS b)), eN (rofS (a + b))] H k = k (.bool true) H := fun H k => by rw [kSame3 f1 g1, s1]
  have t2 : ∀ (H : Heap) (k : AV → Heap → Option (AV × Heap)), polK pSame3 [eN (subS (ofS a) (ofS b)), eN (rofS (a - b))] H k = k (.bool true) H := fun H k => by rw [kSame3 f2 g2, s2]
  have t3 : ∀ (H : Heap) (k : AV → Heap → Option (AV × Heap)), polK pSame3 [eN (mulS (ofS a) (ofS b)).1, eN (rofS (a * b))] H k = k (.bool true) H := fun H k => by rw [kSame3 f3 g3, s3]
  have wm : IntKind.wrap .i64 (a * b) = a * b := wrap_i64 m2.1 m2.2
  have kr3 : ∀ (H : Heap) (k : AV → Heap → Option (AV × Heap)), polK pRof [.int .i64 (a * b)] H k = k (eN (rofS (a * b))) H := fun H k => kRof m2.1 m2.2
  have wp : IntKind.wrap .i64 (a + b) = a + b := wrap_i64 (by omega) (by omega)
  have ws : IntKind.wrap .i64 (a - b) = a - b := wrap_i64 (by omega) (by omega)
  have wa : IntKind.wrap .i64 a = a := wrap_i64 (by omega) (by omega)
  have wb : IntKind.wrap .i64 b = b := wrap_i64 (by omega) (by omega)
  have kr1 : ∀ (H : Heap) (k : AV → Heap → Option (AV × Heap)), polK pRof [.int .i64 (a + b)] H k = k (eN (rofS (a + b))) H := fun H k => kRof (by omega) (by omega)
  have kr2 : ∀ (H : Heap) (k : AV → Heap → Option (AV × Heap)), polK pRof [.int .i64 (a - b)] H k = k (eN (rofS (a - b))) H := fun H k => kRof (by omega) (by omega)
  have hc : (a < b ∧ cmpI a b = -1) ∨ (¬ a < b ∧ b < a ∧ cmpI a b = 1) ∨ (¬ a < b ∧ ¬ b < a ∧ cmpI a b = 0) := by
    unfold cmpI
    split
    · rename_i h; exact .inl ⟨h, rfl⟩
    · split
      · rename_i h h2; exact .inr (.inl ⟨h, h2, rfl⟩)
      · rename_i h h2; exact .inr (.inr ⟨h, h2, rfl⟩)
  by_cases hb : b = 0
  · have hd : (divS (ofS a) (ofS b)) = ((false, none), (false, none), false) := by
      unfold divS
      rw [if_pos (by rw [mb, hb]; rfl)]
    rw [hd] at k4
    have hne : ∀ H, A.bin base.P .neq 21 (.int .i32 b) (.int .i32 0) true H = some (.bool false) := fun H => by rw [A.bin_neq]; simp [hb]
    generalize addS (ofS a) (ofS b) = xadd at *
    generalize subS (ofS a) (ofS b) = xsub at *
    generalize (mulS (ofS a) (ofS b)).1 = xmul at *
    generalize rofS (a + b) = yadd at *
    generalize rofS (a - b) = ysub at *
    generalize rofS (a * b) = ymul at *
    generalize ofS a = xa at *
    generalize ofS b = xb at *
    rcases hc with ⟨hc1, hc2⟩ | ⟨hc1, hc2, hc3⟩ | ⟨hc1, hc2, hc3⟩
    · simp [↓test_bool, ↓bindV_eq, ↓bindC_eq, ↓bindH_eq, ↓withV_of, ↓withP_some, ↓withL_some, ↓withH_some, ↓withVH_some, ↓withB_some, ↓bindX_some, ↓chkD_true, S8, kAwake, cv_i32_i64, wa, wb, k1, k2, k3, k4, k6, k7, k8, k9, kr1, kr2, kr3, t1, t2, t3, wp, ws, wm, A.bin_bne ty_bool, A.bin_beq ty_bool, A.ofList, A.fits, A.splice, ↓hne, hc1, hc2]
    · simp [↓test_bool, ↓bindV_eq, ↓bindC_eq, ↓bindH_eq, ↓withV_of, ↓withP_some, ↓withL_some, ↓withH_some, ↓withVH_some, ↓withB_some, ↓bindX_some, ↓chkD_true, S8, kAwake, cv_i32_i64, wa, wb, k1, k2, k3, k4, k6, k7, k8, k9, kr1, kr2, kr3, t1, t2, t3, wp, ws, wm, A.bin_bne ty_bool, A.bin_beq ty_bool, A.ofList, A.fits, A.splice, ↓hne, hc1, hc2, hc3]
    · simp [↓test_bool, ↓bindV_eq, ↓bindC_eq, ↓bindH_eq, ↓withV_of, ↓withP_some, ↓withL_some, ↓withH_some, ↓withVH_some, ↓withB_some, ↓bindX_some, ↓chkD_true, S8, kAwake, cv_i32_i64, wa, wb, k1, k2, k3, k4, k6, k7, k8, k9, kr1, kr2, kr3, t1, t2, t3, wp, ws, wm, A.bin_bne ty_bool, A.bin_beq ty_bool, A.ofList, A.fits, A.splice, ↓hne, hc1, hc2, hc3]
  · obtain ⟨d1, d2, d3⟩ := div_eq (a := ofS a) (b := ofS b) (by rw [rb.toI]; exact hb)
    rw [ra.toI, rb.toI] at d2 d3
    have hne : ∀ H, A.bin base.P .neq 21 (.int .i32 b) (.int .i32 0) true H = some (.bool true) := fun H => by rw [A.bin_neq]; simp [hb]
    have bq : -2147483648 ≤ a.tdiv b ∧ a.tdiv b ≤ 2147483648 := by
      have h : (a.tdiv b).natAbs = a.natAbs / b.natAbs := Int.natAbs_tdiv a b
      have h2 : a.natAbs / b.natAbs ≤ a.natAbs := Nat.div_le_self _ _
      generalize a.natAbs / b.natAbs = q at h h2
      omega
    have br : -2147483648 ≤ a.tmod b ∧ a.tmod b ≤ 2147483648 := by
      have h : (a.tmod b).natAbs = a.natAbs % b.natAbs := Int.natAbs_tmod a b
      have h2 : a.natAbs % b.natAbs ≤ a.natAbs := Nat.mod_le _ _
      generalize a.natAbs % b.natAbs = q at h h2
      omega
    have s4 : sameS (divS (ofS a) (ofS b)).1 (rofS (a.tdiv b)) = true := d2.same (rep_rof (by omega) (by omega))
    have s5 : sameS (divS (ofS a) (ofS b)).2.1 (rofS (a.tmod b)) = true := d3.same (rep_rof (by omega) (by omega))
    have f4 := (rep_lot d2 (by omega)).few
    have f5 := (rep_lot d3 (by omega)).few
    have g4 := (rep_lot (rep_rof (z := a.tdiv b) (by omega) (by omega)) (by omega)).few
    have g5 := (rep_lot (rep_rof (z := a.tmod b) (by omega) (by omega)) (by omega)).few
    have t4 : ∀ (H : Heap) (k : AV → Heap → Option (AV × Heap)), polK pSame3 [eN (divS (ofS a) (ofS b)).1, eN (rofS (a.tdiv b))] H k = k (.bool true) H := fun H k => by rw [kSame3 f4 g4, s4]
    have t5 : ∀ (H : Heap) (k : AV → Heap → Option (AV × Heap)), polK pSame3 [eN (divS (ofS a) (ofS b)).2.1, eN (rofS (a.tmod b))] H k = k (.bool true) H := fun H k => by rw [kSame3 f5 g5, s5]
    have wq : IntKind.wrap .i64 (a.tdiv b) = a.tdiv b := wrap_i64 (by omega) (by omega)
    have hquo : ∀ H, A.bin base.P .quo 2 (.int .i64 a) (.int .i64 b) false H = some (.int .i64 (a.tdiv b)) := fun H => by rw [A.bin_quo, if_neg hb, wq]
    have hrem : ∀ H, A.bin base.P .rem 2 (.int .i64 a) (.int .i64 b) false H = some (.int .i64 (a.tmod b)) := fun H => by rw [A.bin_rem, if_neg hb]
    have kr4 : ∀ (H : Heap) (k : AV → Heap → Option (AV × Heap)), polK pRof [.int .i64 (a.tdiv b)] H k = k (eN (rofS (a.tdiv b))) H := fun H k => kRof (by omega) (by omega)
    have kr5 : ∀ (H : Heap) (k : AV → Heap → Option (AV × Heap)), polK pRof [.int .i64 (a.tmod b)] H k = k (eN (rofS (a.tmod b))) H := fun H k => kRof (by omega) (by omega)
    have k4' : ∀ (H : Heap) (k : AV → Heap → Option AV), polK pDiv1 [eN (ofS a), eN (ofS b)] H k = k (.tup [eN (divS (ofS a) (ofS b)).1, eN (divS (ofS a) (ofS b)).2.1, .bool true]) H := fun H k => by rw [k4, ← d1]
    generalize a.tdiv b = dq at *
    generalize a.tmod b = dr at *
    generalize addS (ofS a) (ofS b) = xadd at *
    generalize subS (ofS a) (ofS b) = xsub at *
    generalize (mulS (ofS a) (ofS b)).1 = xmul at *
    generalize (divS (ofS a) (ofS b)).1 = xdq at *
    generalize (divS (ofS a) (ofS b)).2.1 = xdr at *
    generalize rofS (a + b) = yadd at *
    generalize rofS (a - b) = ysub at *
    generalize rofS (a * b) = ymul at *
    generalize rofS dq = ydq at *
    generalize rofS dr = ydr at *
    generalize ofS a = xa at *
    generalize ofS b = xb at *
    rcases hc with ⟨hc1, hc2⟩ | ⟨hc1, hc2, hc3⟩ | ⟨hc1, hc2, hc3⟩
    · simp [↓test_bool, ↓bindV_eq, ↓bindC_eq, ↓bindH_eq, ↓withV_of, ↓withP_some, ↓withL_some, ↓withH_some, ↓withVH_some, ↓withB_some, ↓bindX_some, ↓chkD_true, S8, kAwake, cv_i32_i64, wa, wb, k1, k2, k3, k4', k6, k7, k8, k9, kr1, kr2, kr3, kr4, kr5, t1, t2, t3, t4, t5, wp, ws, wm, hquo, hrem, A.bin_bne ty_bool, A.bin_beq ty_bool, A.ofList, A.fits, A.splice, ↓hne, hc1, hc2]
    · simp [↓test_bool, ↓bindV_eq, ↓bindC_eq, ↓bindH_eq, ↓withV_of, ↓withP_some, ↓withL_some, ↓withH_some, ↓withVH_some, ↓withB_some, ↓bindX_some, ↓chkD_true, S8, kAwake, cv_i32_i64, wa, wb, k1, k2, k3, k4', k6, k7, k8, k9, kr1, kr2, kr3, kr4, kr5, t1, t2, t3, t4, t5, wp, ws, wm, hquo, hrem, A.bin_bne ty_bool, A.bin_beq ty_bool, A.ofList, A.fits, A.splice, ↓hne, hc1, hc2, hc3]
    · simp [↓test_bool, ↓bindV_eq, ↓bindC_eq, ↓bindH_eq, ↓withV_of, ↓withP_some, ↓withL_some, ↓withH_some, ↓withVH_some, ↓withB_some, ↓bindX_some, ↓chkD_true, S8, kAwake, cv_i32_i64, wa, wb, k1, k2, k3, k4', k6, k7, k8, k9, kr1, kr2, kr3, kr4, kr5, t1, t2, t3, t4, t5, wp, ws, wm, hquo, hrem, A.bin_bne ty_bool, A.bin_beq ty_bool, A.ofList, A.fits, A.splice, ↓hne, hc1, hc2, hc3]
end Go.Proofs.YtikkpecdkdgmfaaDoor
