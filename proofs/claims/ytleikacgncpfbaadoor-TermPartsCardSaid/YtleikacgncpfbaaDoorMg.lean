/- Texts put together: Num4, Num5, Num6, Tm1, Tm2, Tm3, Tm4, Tm5, Tm6, Tm7, Tm8, Tm9, Tm10, Tm11, Ma1, Ma2, Ma3, Ma4, Ma5, Ma6, Ma7, Ma8, Ma9, MaA, Mb1, Mb2, Mb3, Mb3A, Mb3B, Mb3C, Mb3D, Mb3E, Mb4. -/
import Derived.Test.YtleikacgncpfbaaDoorMf

/- Numbers of any size: numbers that fit into a word; by one limb; products. -/
set_option maxRecDepth 100000
namespace Go.Proofs.YtleikacgncpfbaaDoor
open Go Go.Den
/-! ### words -/
def fitsS (n : Int) : Bool := decide (-576460752303423488 ≤ n ∧ n ≤ 576460752303423487)
noncomputable def pFits : Pol := .still (p1 (cI .i64) .bool (fun _ => True) fitsS)
theorem okFits : PolOK base 83 pFits := still1 base_ok [] trivial fun a _ => Evs.of fun n m => by
  by_cases h : -576460752303423488 ≤ a <;> simp [↓withV_of, ↓withP_some, ↓withB_some, S83, h, fitsS]
theorem kFits {R : Type} {n : Int} {H : Heap} {k : AV → Heap → Option R} : polK pFits [.int .i64 n] H k = k (.bool (fitsS n)) H := by
  simp [pFits, polK_imm]
def smallV (b : Bool) (N : Nat) : Int × Bool := if fitsS (if b then -(N : Int) else N) then ((if b then -(N : Int) else N), true) else (0, false)
def smallS (a : Nm) : Int × Bool := smallV a.1 (val (a.2.getD []))
theorem smallV_big {b : Bool} {N : Nat} (h : 576460752303423488 < N) : smallV b N = (0, false) := by
  unfold smallV
  rw [if_neg]
  unfold fitsS
  cases b <;> simp <;> omega
noncomputable def pSmall : Pol := .still (p1 cN (fun r : Int × Bool => .tup [.int .i64 r.1, .bool r.2]) (fun a => few a.2) smallS)
theorem small_loop {pol : FuncId → Pol} {d : Option (List UInt32)} {cs : List AV} {H : Heap} (hl : (d.getD []).length ≤ 2) : ∀ k i, k + i = (d.getD []).length →
    LDoes (L58_0 pol) ⟨[.int .u64 (val ((d.getD []).take i) : Nat), eD d, .int .i64 ((d.getD []).length : Nat), .int .i64 (i : Nat)], [cs]⟩ H 0 ⟨[.int .u64 (val (d.getD []) : Nat)], [cs]⟩ H := by
  intro k
  induction k with
  | zero =>
    intro i hi
    refine LDoes.step (Evs.of fun n m => ?_)
    have e : i = (d.getD []).length := by omega
    subst e
    rw [List.take_length]
    simp [↓test_bool, ↓withV_of, L58_0_step]
  | succ k ih =>
    intro i hi
    have hlt : i < (d.getD []).length := by omega
    have hx := idx_eD (d := d) (H := H) (k := .i64) (i := i) (by omega)
    have hih := ih (i + 1) (by omega)
    have h1 := val_take_lt (d.getD []) i
    have h2 := limb_lt (d.getD [])[i]
    have hp : (4294967296 : Nat) ^ i = 2 ^ (32 * i) := by rw [Nat.pow_mul]
    rw [hp] at h1
    have hb : 2 ^ (32 * i) * ((d.getD [])[i]).toNat + 2 ^ (32 * i) ≤ 18446744073709551616 := by
      have h01 : i = 0 ∨ i = 1 := by omega
      rcases h01 with rfl | rfl
      · simp; omega
      · simp; omega
    have hsh : A.bin base.P .shl 82 (.int .u64 (((d.getD [])[i]).toNat : Int)) (.int .i64 (32 * (i : Int))) false H = some (.int .u64 ((2 ^ (32 * i) * ((d.getD [])[i]).toNat : Nat) : Int)) := by
      have := shl_nat (P := base.P) (t := 82) (c := false) (H := H) (a := ((d.getD [])[i]).toNat) (s := 32 * i) (j := .i64) (by omega) (by omega)
      rw [show ((32 * i : Nat) : Int) = 32 * (i : Int) by omega] at this
      exact this
    have hor := (or_nat (P := base.P) (t := 82) (c := false) (H := H) h1 (y := ((d.getD [])[i]).toNat) (by omega)).1
    have hv : val ((d.getD []).take i) + 2 ^ (32 * i) * ((d.getD [])[i]).toNat = val ((d.getD []).take (i + 1)) := by rw [val_take_succ hlt, hp]
    rw [hv] at hor
    refine LDoes.step (Evs.withL hih (Evs.of fun n m _ h3 => ?_))
    simp only [Int.natCast_add, Int.natCast_one] at h3
    generalize ((2 ^ (32 * i) * ((d.getD [])[i]).toNat : Nat) : Int) = sh at *
    simp (disch := omega) [↓test_bool, ↓withV_of, L58_0_step, hlt, hx, cv_32_64, wrap_i64, hsh, hor, h3]
theorem okSmall : PolOK base 58 pSmall := still1 base_ok [(82, pCut), (83, pFits)] ⟨okCut, okFits, trivial⟩ fun a hf => by
  have gc : (cutS a.2).getD [] = lim (val (a.2.getD [])) := cutS_get
  unfold smallS
  generalize hN : val (a.2.getD []) = N at *
  by_cases hl : ((cutS a.2).getD []).length ≤ 2
  · refine Evs.withL (small_loop (pol := polT [(82, pCut), (83, pFits)]) (cs := [.bool a.1, eD a.2]) (H := []) hl _ 0 rfl) (Evs.of fun n m h1 _ => ?_)
    have hlt : N < 18446744073709551616 := by
      rw [gc] at hl
      have := lim_le.1 hl
      simpa using this
    rw [gc] at hl
    have hl' : ¬ (2 : Int) < ((lim N).length : Nat) := by omega
    simp only [List.take_zero, val, gc, val_lim, Int.cast_ofNat_Int] at h1
    by_cases hb : 576460752303423488 < N
    · have hb' : (576460752303423488 : Int) < N := by omega
      rw [smallV_big hb]
      simp [↓test_bool, ↓bindV_eq, ↓bindC_eq, ↓withV_of, ↓bindX_some, ↓chkD_true, S58, kCut hf, gc, hl', h1, hb']
    · have hb' : ¬ (576460752303423488 : Int) < N := by omega
      have hc : Go.Den.convert base 82 2 (.int .u64 (N : Int)) = some (.int .i64 N) := by
        rw [conv_int (x := .int .u64) (k := .i64) ty_u64 (by kernel_rfl), wrap_i64 (by omega) (by omega)]
      unfold smallV
      cases h0 : a.1 <;> rw [h0] at h1
      · by_cases hfs : fitsS (N : Int) = true <;> simp (disch := omega) [↓test_bool, ↓bindV_eq, ↓bindC_eq, ↓withV_of, ↓bindX_some, ↓chkD_true, S58, kCut hf, gc, hl', h1, hb', hc, h0, kFits, hfs]
      · have hn : A.un .neg (.int .i64 (N : Int)) = some (.int .i64 (-(N : Int))) := by
          simp only [A.un]
          rw [wrap_i64 (by omega) (by omega)]
          simp
        by_cases hfs : fitsS (-(N : Int)) = true <;> simp (disch := omega) [↓test_bool, ↓bindV_eq, ↓bindC_eq, ↓withV_of, ↓bindX_some, ↓chkD_true, S58, kCut hf, gc, hl', h1, hb', hc, h0, hn, kFits, hfs]
  · rw [gc] at hl
    have hl' : (2 : Int) < ((lim N).length : Nat) := by omega
    refine Evs.of fun n m => ?_
    have hN2 : 576460752303423488 < N := by
      rcases Nat.lt_or_ge N 18446744073709551616 with h | h
      · have := (lim_le (n := N) (k := 2)).2 (by simpa using h)
        omega
      · omega
    rw [smallV_big hN2]
    simp [↓test_bool, ↓bindV_eq, ↓bindC_eq, ↓withV_of, ↓chkD_true, S58, kCut hf, gc, hl']
theorem kSmall {R : Type} {a : Nm} (hf : few a.2) {H : Heap} {k : AV → Heap → Option R} : polK pSmall [eN a] H k = k (.tup [.int .i64 (smallS a).1, .bool (smallS a).2]) H := by
  simp [pSmall, polK_imm, hf]
end Go.Proofs.YtleikacgncpfbaaDoor

/- Numbers of any size: whole numbers. -/
set_option maxRecDepth 100000
set_option maxHeartbeats 2000000
namespace Go.Proofs.YtleikacgncpfbaaDoor
open Go Go.Den
def mag (a : Nm) : Nat := val (a.2.getD [])
def sgn (b : Bool) (n : Nat) : Int := if b then -(n : Int) else n
def toI (a : Nm) : Int := sgn a.1 (mag a)
def Rep (a : Nm) (z : Int) : Prop := a.1 = decide (z < 0) ∧ a.2.getD [] = lim z.natAbs
theorem Rep.same {a b : Nm} {z : Int} (h : Rep a z) (g : Rep b z) : sameS a b = true := by
  unfold sameS
  rw [h.1, h.2, g.1, g.2]
  simp
theorem Rep.inj {a b : Nm} {y z : Int} (h : Rep a y) (g : Rep b z) (hs : sameS a b = true) : y = z := by
  unfold sameS at hs
  have hs := of_decide_eq_true hs
  obtain ⟨h1, h2⟩ := hs
  rw [h.2, g.2] at h2
  have := lim_inj h2
  have h3 : (y < 0) = (z < 0) := by
    have e := h.1.symm.trans (h1.trans g.1)
    exact propext ⟨fun hy => of_decide_eq_true (by rw [← e]; exact decide_eq_true hy), fun hz => of_decide_eq_true (by rw [e]; exact decide_eq_true hz)⟩
  have h4 : y < 0 ↔ z < 0 := by rw [h3]
  omega
theorem Rep.toI {a : Nm} {z : Int} (h : Rep a z) : toI a = z := by
  unfold Go.Proofs.YtleikacgncpfbaaDoor.toI mag sgn
  rw [h.2, val_lim, h.1]
  by_cases hz : z < 0
  · rw [if_pos (decide_eq_true hz)]; omega
  · rw [if_neg (by simpa using hz)]; omega
theorem rep_made (p : Bool) (d : Option (List UInt32)) : Rep (madeS p d) (sgn p (val (d.getD []))) := by
  have e : 0 < (lim (val (d.getD []))).length ↔ val (d.getD []) ≠ 0 := by
    rw [List.length_pos_iff]
    exact not_congr lim_nil
  unfold madeS Rep sgn
  refine ⟨?_, ?_⟩
  · dsimp only
    rw [cutS_get]
    cases p
    · simp
    · by_cases h : val (d.getD []) = 0
      · simp [h, lim_zero]
      · have h1 : 0 < (lim (val (d.getD []))).length := e.2 h
        have h2 : -(val (d.getD []) : Int) < 0 := by omega
        simp only [Bool.true_and, if_true]
        rw [decide_eq_true h1, decide_eq_true h2]
  · dsimp only
    rw [cutS_get]
    cases p
    · simp
    · simp
theorem rep_rnorm (a : Nm) : Rep (rnormS a) (toI a) := by
  have h := rep_made a.1 a.2
  unfold Rep madeS at h
  unfold Rep rnormS
  dsimp only at h ⊢
  rw [cutS_get] at h
  exact ⟨h.1, by rw [nz_get]; exact h.2⟩
theorem small_eq (a : Nm) : smallS a = if fitsS (toI a) then (toI a, true) else (0, false) := rfl
end Go.Proofs.YtleikacgncpfbaaDoor

/- Numbers of any size: the reference's words. -/
set_option maxRecDepth 100000
set_option maxHeartbeats 2000000
namespace Go.Proofs.YtleikacgncpfbaaDoor
open Go Go.Den
theorem smallof_loop {pol : FuncId → Pol} {p : Bool} {d : Option (List UInt32)} {H : Heap} (hB : Go.Den.Box H 0 2 40 [.bool p, eD d]) (hl : (d.getD []).length ≤ 2) : ∀ j, j ≤ (d.getD []).length →
    LDoes (L33_0 pol) ⟨[.ptr 0 0 0 0, .int .u64 (val ((d.getD []).drop j) : Nat), .int .i64 ((j : Int) - 1)], []⟩ H 0 ⟨[.ptr 0 0 0 0, .int .u64 (val (d.getD []) : Nat)], []⟩ H := by
  intro j
  induction j with
  | zero =>
    intro _
    rw [List.drop_zero]
    refine LDoes.step (Evs.of fun n m => ?_)
    simp [↓test_bool, ↓withV_of, L33_0_step]
  | succ j ih =>
    intro hj
    have hjl : j < (d.getD []).length := by omega
    have hx := at_idx (d := d) hjl H
    have hxl := at_lt (d.getD []) j
    have hv : val ((d.getD []).drop j) = at_ (d.getD []) j + 2 ^ 32 * val ((d.getD []).drop (j + 1)) := by
      rw [List.drop_eq_getElem_cons hjl, val, at_, dif_pos hjl]
    have hsm : val ((d.getD []).drop (j + 1)) < 4294967296 := by
      have h1 := val_lt ((d.getD []).drop (j + 1))
      have h2 : ((d.getD []).drop (j + 1)).length ≤ 1 := by rw [List.length_drop]; omega
      have h3 : 4294967296 ^ ((d.getD []).drop (j + 1)).length ≤ 4294967296 ^ 1 := Nat.pow_le_pow_right (by omega) h2
      rw [Nat.pow_one] at h3
      omega
    have hih := ih (by omega)
    rw [hv] at hih
    have e : ((j + 1 : Nat) : Int) - 1 = j := by omega
    rw [e]
    have hj0 : (0 : Int) ≤ (j : Int) := by omega
    refine LDoes.step (Evs.withL hih (Evs.of fun n m _ h3 => ?_))
    have f1 := hB.fa (o := 1)
    have f2 := hB.load (o := 1)
    simp only [List.getElem?_cons_succ, List.getElem?_cons_zero] at f2
    generalize val ((d.getD []).drop (j + 1)) = w at *
    generalize at_ (d.getD []) j = x at *
    have hshl : A.bin base.P .shl 82 (.int .u64 (w : Int)) (.int .u64 32) true H = some (.int .u64 ((2 ^ 32 * w : Nat) : Int)) := shl_nat (s := 32) (by omega) (by omega)
    have hor : A.bin base.P .or 82 (.int .u64 ((2 ^ 32 * w : Nat) : Int)) (.int .u64 (x : Int)) false H = some (.int .u64 ((x + 2 ^ 32 * w : Nat) : Int)) := (or_nat (s := 32) (by omega) (by omega)).2
    generalize ((x + 2 ^ 32 * w : Nat) : Int) = r at *
    generalize ((2 ^ 32 * w : Nat) : Int) = y at *
    simp (disch := omega) [↓test_bool, ↓withV_of, L33_0_step, hj0, f1, f2, hx, cv_32_64, wrap_u64, wrap_i64, hshl, hor, h3]
theorem cv_64_i64 (n : Int) (j : IntKind) : Go.Den.convert base 82 2 (.int j n) = some (.int .i64 (IntKind.wrap .i64 n)) := conv_int (x := .int .u64) (by kernel_rfl) (by kernel_rfl)
noncomputable def pSmallof : Pol := .still (p1 cN (fun r : Int × Bool => .tup [.int .i64 r.1, .bool r.2]) (fun a => few a.2) smallS)
theorem okSmallof : PolOK base 33 pSmallof := still1 base_ok [(35, pRnorm)] ⟨okRnorm, trivial⟩ fun a ha => by
  have hr := rep_rnorm a
  have e1 : ∀ (H : Heap) (k : AV → Heap → Option AV), polK pRnorm [eN a] H k = k (eN (rnormS a)) H := fun H k => kRnorm ha
  rw [small_eq]
  generalize toI a = Z at *
  generalize rnormS a = x at *
  obtain ⟨p, d⟩ := x
  obtain ⟨h1, h2⟩ := hr
  dsimp only at h1 h2
  have b0 : Go.Den.Box [.row 0 2 40 [eN a]] 0 2 40 [.bool a.1, eD a.2] := rfl
  have b1 : Go.Den.Box [.row 0 2 40 [eN (p, d)]] 0 2 40 [.bool p, eD d] := rfl
  have l0 := box_load b0 rfl
  have s0 : A.store 2 (.ptr 0 0 0 0) (eN (p, d)) [.row 0 2 40 [eN a]] = some [.row 0 2 40 [eN (p, d)]] :=
    box_store (ds := [.bool p, eD d]) b0 rfl rfl ((fun d => by cases d <;> rfl : ∀ d : Option (List UInt32), [AV.bool p, eD d].all AV.one = true) _)
  have f1 := b1.fa (o := 1)
  have f2 := b1.load (o := 1)
  have f3 := b1.fa (o := 0)
  have f4 := b1.load (o := 0)
  simp only [List.getElem?_cons_succ, List.getElem?_cons_zero] at f2 f4
  by_cases hbig : 2 < (d.getD []).length
  · have hbig' : (2 : Int) < ((d.getD []).length : Int) := by omega
    have hnf : fitsS Z = false := by
      rw [h2] at hbig
      have : ¬ Z.natAbs < 4294967296 ^ 2 := fun h => by have := lim_le.2 h; omega
      unfold fitsS
      refine decide_eq_false ?_
      omega
    refine Evs.of fun n m => ?_
    simp [↓test_bool, ↓bindV_eq, ↓bindH_eq, ↓withV_of, ↓withH_some, ↓chkD_true, S33, l0, e1, s0, f1, f2, hbig', hnf]
  · have hbig' : ¬ (2 : Int) < ((d.getD []).length : Int) := by omega
    have hL := smallof_loop (pol := polT [(35, pRnorm)]) b1 (by omega) (d.getD []).length (Nat.le_refl _)
    have hN : val (d.getD []) = Z.natAbs := by rw [h2, val_lim]
    rw [List.drop_length, hN] at hL
    refine Evs.withL hL (Evs.of fun n m h3 _ => ?_)
    have e0 : ((val [] : Nat) : Int) = 0 := rfl
    rw [e0] at h3
    by_cases hz : Z < 0
    · rw [decide_eq_true hz] at h1
      subst h1
      obtain ⟨N, hNN⟩ : ∃ N, Z.natAbs = N := ⟨_, rfl⟩
      rw [hNN] at h3
      have hZ : Z = -(N : Int) := by omega
      by_cases hc : 576460752303423488 < N
      · have hc' : (576460752303423488 : Int) < (N : Int) := by omega
        have hnf : fitsS Z = false := by unfold fitsS; exact decide_eq_false (by omega)
        simp (disch := omega) [↓test_bool, ↓bindV_eq, ↓bindH_eq, ↓withV_of, ↓withP_some, ↓withH_some, ↓withB_some, ↓bindX_some, ↓chkD_true, S33, l0, e1, s0, f1, f2, f3, hbig', wrap_i64, h3, hc', hnf]
      · have hc' : ¬ (576460752303423488 : Int) < (N : Int) := by omega
        have hnf : fitsS Z = true := by unfold fitsS; exact decide_eq_true (by omega)
        have hneg : A.un .neg (.int .i64 (N : Int)) = some (.int .i64 Z) := by
          show some (AV.int .i64 (IntKind.wrap .i64 (0 - (N : Int)))) = _
          rw [wrap_i64 (by omega) (by omega)]
          congr 2
          omega
        by_cases he : (N : Int) = 576460752303423488 <;> simp (disch := omega) [↓test_bool, ↓bindV_eq, ↓bindH_eq, ↓withV_of, ↓withP_some, ↓withH_some, ↓withB_some, ↓bindX_some, ↓chkD_true, S33, l0, e1, s0, f1, f2, f3, f4, hbig', wrap_i64, h3, hc', hnf, he, cv_64_i64, hneg]
        all_goals (rw [he] at hneg; simp [hneg])
    · rw [decide_eq_false hz] at h1
      subst h1
      obtain ⟨N, hNN⟩ : ∃ N, Z.natAbs = N := ⟨_, rfl⟩
      rw [hNN] at h3
      have hZ : Z = (N : Int) := by omega
      subst hZ
      by_cases hc : 576460752303423488 < N
      · have hc' : (576460752303423488 : Int) < (N : Int) := by omega
        have hnf : fitsS (N : Int) = false := by unfold fitsS; exact decide_eq_false (by omega)
        simp (disch := omega) [↓test_bool, ↓bindV_eq, ↓bindH_eq, ↓withV_of, ↓withP_some, ↓withH_some, ↓withB_some, ↓bindX_some, ↓chkD_true, S33, l0, e1, s0, f1, f2, f3, hbig', wrap_i64, h3, hc', hnf]
      · have hc' : ¬ (576460752303423488 : Int) < (N : Int) := by omega
        by_cases he : (N : Int) = 576460752303423488
        · have hnf : fitsS (N : Int) = false := by unfold fitsS; exact decide_eq_false (by omega)
          simp (disch := omega) [↓test_bool, ↓bindV_eq, ↓bindH_eq, ↓withV_of, ↓withP_some, ↓withH_some, ↓withB_some, ↓bindX_some, ↓chkD_true, S33, l0, e1, s0, f1, f2, f3, f4, hbig', wrap_i64, h3, he, (by decide : fitsS 576460752303423488 = false)]
        · have hnf : fitsS (N : Int) = true := by unfold fitsS; exact decide_eq_true (by omega)
          simp (disch := omega) [↓test_bool, ↓bindV_eq, ↓bindH_eq, ↓withV_of, ↓withP_some, ↓withH_some, ↓withB_some, ↓bindX_some, ↓chkD_true, S33, l0, e1, s0, f1, f2, f3, f4, hbig', wrap_i64, h3, hc', hnf, he, cv_64_i64]
theorem kSmallof {R : Type} {a : Nm} (hf : few a.2) {H : Heap} {k : AV → Heap → Option R} : polK pSmallof [eN a] H k = k (.tup [.int .i64 (smallS a).1, .bool (smallS a).2]) H := by
  simp [pSmallof, polK_imm, hf]
end Go.Proofs.YtleikacgncpfbaaDoor

/- Terms: is one small? -/
set_option maxRecDepth 100000
set_option maxHeartbeats 2000000
namespace Go.Proofs.YtleikacgncpfbaaDoor
open Go Go.Den
mutual
def roomS : Tm → Int → Int → Bool
  | .mk _ _ d s _ l b, dep, most => !(decide (dep < 0) || decide (most < (l.getD []).length) || decide (5000 < (b.getD []).length) || decide (100 < (d.getD []).length) || decide (1100 < s.length)) && roomSo l (dep - 1) most
def roomSo : Option (List Tm) → Int → Int → Bool
  | none, _, _ => true
  | some l, dep, most => roomSs l dep most
def roomSs : List Tm → Int → Int → Bool
  | [], _, _ => true
  | t :: l, dep, most => roomS t dep most && roomSs l dep most
end
theorem roomSs_all : ∀ (l : List Tm) (dep most : Int), roomSs l dep most = l.all fun t => roomS t dep most
  | [], _, _ => by rw [roomSs]; rfl
  | t :: l, dep, most => by rw [roomSs, roomSs_all l]; rfl
theorem roomS_eq (t : Tm) (dep most : Int) : roomS t dep most = (!(decide (dep < 0) || decide (most < (t.kids.length : Int)) || decide (5000 < (t.b.getD []).length) || decide (100 < (t.d.getD []).length) || decide (1100 < t.name.length)) && t.kids.all fun u => roomS u (dep - 1) most) := by
  cases t with
  | mk k x d s n l b =>
    rw [roomS]
    cases l with
    | none => rw [roomSo]; rfl
    | some l => rw [roomSo, roomSs_all]; rfl
theorem load_eT {t : Tm} {H : Heap} : A.load true 7 (.rop (eT t).cells) H = some (eT t) := by
  rw [cells_eT, eT_eq]
  rfl
theorem box_eT (t : Tm) (H : Heap) (b : Nat) (h : H[b]? = some (.row 0 7 26 [eT t])) : Go.Den.Box H b 7 26 (eT t).cells := by
  rw [eT_eq] at h
  rw [cells_eT]
  exact h
noncomputable def pRoom (n : Nat) : Pol := .still (p3 cT (cI .i64) (cI .i64) .bool (fun t dep most => t.size ≤ n ∧ -1 ≤ dep ∧ dep ≤ 1000 ∧ most ≤ 1000) roomS)
theorem kRoom {n : Nat} {R : Type} {t : Tm} {dep most : Int} (h : t.size ≤ n) (h0 : -1 ≤ dep) (h1 : dep ≤ 1000) (h2 : most ≤ 1000) {H : Heap} {k : AV → Heap → Option R} : polK (pRoom n) [eT t, .int .i64 dep, .int .i64 most] H k = k (.bool (roomS t dep most)) H := by
  simp [pRoom, polK_imm, h, h0, h1, h2]
theorem room_loop {n : Nat} {t : Tm} {dep most : Int} {H : Heap} (hs : t.size ≤ n + 1) (h0 : 0 ≤ dep) (h1 : dep ≤ 1000) (h2 : most ≤ 1000) (hl : t.kids.length ≤ 1000) (hB : Go.Den.Box H 0 7 26 (eT t).cells) : ∀ (k i : Nat), i + k = t.kids.length →
    LDoes (L16_0 (polT [(16, pRoom n)])) ⟨[.int .i64 dep, .int .i64 most, .ptr 0 0 0 0, .int .i64 (i : Int)], []⟩ H (if (t.kids.drop i).all fun u => roomS u (dep - 1) most then 0 else 1) ⟨[if (t.kids.drop i).all fun u => roomS u (dep - 1) most then .undef else .bool false], []⟩ H := by
  have p1 := hB.fa (o := 5)
  have p2 := hB.load (o := 5)
  rw [cells_eT] at p2
  simp only [List.getElem?_cons_succ, List.getElem?_cons_zero] at p2
  have hk : t.l.getD [] = t.kids := rfl
  intro k
  induction k with
  | zero =>
    intro i hi
    have : i = t.kids.length := by omega
    subst this
    rw [List.drop_length]
    refine LDoes.step (Evs.of fun n m => ?_)
    simp [↓test_bool, ↓withV_of, L16_0_step, p1, p2, hk]
  | succ k ih =>
    intro i hi
    have hlt : i < t.kids.length := by omega
    have hx := idx_eL (sz := 7) (e := eT) (o := t.l) (H := H) (k := .i64) (i := i) hlt
    have hw : IntKind.wrap .i64 (dep - 1) = dep - 1 := wrap_i64 (by omega) (by omega)
    have hi1 : IntKind.wrap .i64 ((i : Int) + 1) = (i : Int) + 1 := wrap_i64 (by omega) (by omega)
    have hsz : (t.kids[i]).size ≤ n := by
      have := Tm.size_kid (t := t) (u := t.kids[i]) (List.getElem_mem hlt)
      omega
    have hr : ∀ (k : AV → Heap → Option (Nat × Live × Heap)), polK (pRoom n) [eT t.kids[i], .int .i64 (dep - 1), .int .i64 most] H k = k (.bool (roomS t.kids[i] (dep - 1) most)) H := fun k => kRoom hsz (by omega) (by omega) h2
    have hd : t.kids.drop i = t.kids[i] :: t.kids.drop (i + 1) := List.drop_eq_getElem_cons hlt
    rw [hd, List.all_cons]
    have hxx : A.idx 7 (eL 7 eT t.l) (.int .i64 (i : Int)) H = some (.rop (eT t.kids[i]).cells) := hx
    have hld := load_eT (t := t.kids[i]) (H := H)
    have ih1 := ih (i + 1) (by omega)
    simp only [Int.natCast_add, Int.natCast_one] at ih1
    have hlt' : (i : Int) < (t.kids.length : Int) := by omega
    generalize (t.kids.drop (i + 1)).all (fun u => roomS u (dep - 1) most) = rest at *
    generalize (eT t.kids[i]).cells = cs at *
    cases hq : roomS t.kids[i] (dep - 1) most
    · refine LDoes.step (Evs.of fun n m => ?_)
      rw [hq] at hr
      simp [↓test_bool, ↓withV_of, L16_0_step, p1, p2, hk, hlt, hxx, hld, hw, hr]
    · refine LDoes.step (Evs.withL ih1 (Evs.of fun n m _ h2 => ?_))
      rw [hq] at hr
      simp [↓test_bool, ↓withV_of, L16_0_step, p1, p2, hk, hlt, hxx, hld, hw, hr, hi1, h2]
end Go.Proofs.YtleikacgncpfbaaDoor

/- Terms: is one small: the entry. -/
set_option maxRecDepth 100000
set_option maxHeartbeats 2000000
namespace Go.Proofs.YtleikacgncpfbaaDoor
open Go Go.Den
theorem okRoom : ∀ n, PolOK base 16 (pRoom n)
  | 0 => still3 base_ok [] trivial fun t dep most ⟨hs, _⟩ => by
    have := t.size_eq
    omega
  | n + 1 => still3 base_ok [(16, pRoom n)] ⟨okRoom n, trivial⟩ fun t dep most ⟨hs, h0, h1, h2⟩ => by
    have hB := box_eT t [.row 0 7 26 [eT t]] 0 rfl
    have p := fun o => hB.fa (o := o)
    have q := fun o => hB.load (o := o)
    rw [cells_eT] at q
    have q5 := q 5
    have q6 := q 6
    have q2 := q 2
    have q3 := q 3
    simp only [List.getElem?_cons_succ, List.getElem?_cons_zero] at q5 q6 q2 q3
    have hk : t.l.getD [] = t.kids := rfl
    have hce : (eT t).cells.length = 7 := by rw [cells_eT]; rfl
    rw [roomS_eq]
    by_cases c1 : dep < 0
    · have hp : ((t.kids.length : Int) : Int) = t.kids.length := rfl
      refine Evs.of fun n m => ?_
      simp [↓test_bool, ↓bindV_eq, ↓bindH_eq, ↓withV_of, ↓withP_some, ↓withB_some, ↓chkD_true, S16, c1]
    by_cases c2 : most < (t.kids.length : Int)
    · refine Evs.of fun n m => ?_
      simp [↓test_bool, ↓bindV_eq, ↓bindH_eq, ↓withV_of, ↓withP_some, ↓withB_some, ↓chkD_true, S16, c1, p, q5, hk, c2]
    by_cases c3 : 5000 < (t.b.getD []).length
    · have c3' : (5000 : Int) < ((t.b.getD []).length : Int) := by omega
      refine Evs.of fun n m => ?_
      simp [↓test_bool, ↓bindV_eq, ↓bindH_eq, ↓withV_of, ↓withP_some, ↓withB_some, ↓chkD_true, S16, c1, p, q5, hk, c2, q6, c3, c3']
    have c3' : ¬ (5000 : Int) < ((t.b.getD []).length : Int) := by omega
    by_cases c4 : 100 < (t.d.getD []).length
    · have c4' : (100 : Int) < ((t.d.getD []).length : Int) := by omega
      refine Evs.of fun n m => ?_
      simp [↓test_bool, ↓bindV_eq, ↓bindH_eq, ↓withV_of, ↓withP_some, ↓withB_some, ↓chkD_true, S16, c1, p, q5, hk, c2, q6, c3, c3', q2, c4, c4']
    have c4' : ¬ (100 : Int) < ((t.d.getD []).length : Int) := by omega
    by_cases c5 : 1100 < t.name.length
    · have c5' : (1100 : Int) < (t.name.length : Int) := by omega
      refine Evs.of fun n m => ?_
      simp [↓test_bool, ↓bindV_eq, ↓bindH_eq, ↓withV_of, ↓withP_some, ↓withB_some, ↓chkD_true, S16, c1, p, q5, hk, c2, q6, c3, c3', q2, c4, c4', q3, A.lenStr, c5, c5']
    have c5' : ¬ (1100 : Int) < (t.name.length : Int) := by omega
    have hL := room_loop (n := n) (t := t) (dep := dep) (most := most) hs (by omega) h1 h2 (by omega) hB t.kids.length 0 (by omega)
    rw [List.drop_zero] at hL
    refine Evs.withL hL (Evs.of fun n m h3 _ => ?_)
    simp only [Int.natCast_zero] at h3
    generalize t.kids.all (fun u => roomS u (dep - 1) most) = w at *
    cases w <;> simp [↓test_bool, ↓bindV_eq, ↓bindH_eq, ↓withV_of, ↓withP_some, ↓withB_some, ↓bindX_some, ↓chkD_true, S16, c1, p, q5, hk, c2, q6, c3, c3', q2, c4, c4', q3, A.lenStr, c5, c5', h3]
end Go.Proofs.YtleikacgncpfbaaDoor

/- Terms: the walk through a term. -/
set_option maxRecDepth 100000
set_option maxHeartbeats 2000000
namespace Go.Proofs.YtleikacgncpfbaaDoor
open Go Go.Den
def partsO (t : Tm) : Option (List Tm) := if t.kind = 4 ∨ t.kind = 6 then t.l else none
noncomputable def pParts : Pol := .still (p1 cT (fun o => eL 7 eT o) (fun _ => True) partsO)
theorem okParts : PolOK base 75 pParts := still1 base_ok [] trivial fun t _ => by
  have hB := box_eT t [.row 0 7 26 [eT t]] 0 rfl
  have p := fun o => hB.fa (o := o)
  have q := fun o => hB.load (o := o)
  rw [cells_eT] at q
  have q0 := q 0
  have q5 := q 5
  simp only [List.getElem?_cons_succ, List.getElem?_cons_zero] at q5 q0
  refine Evs.of fun n m => ?_
  unfold partsO
  have hz : A.freezeB true 64 [.row 0 7 26 [eT t]] (eL 7 eT t.l) = some (eL 7 eT t.l) := frz_imm (by simp)
  have h1 : ((t.kind : Int) = 4 ∨ ¬ (t.kind : Int) = 4) := by omega
  by_cases c1 : t.kind = 4
  · simp [↓test_bool, ↓bindV_eq, ↓bindH_eq, ↓withV_of, ↓withP_some, ↓withB_some, ↓chkD_true, S75, p, q0, q5, c1, hz]
  · by_cases c2 : t.kind = 6
    · simp [↓test_bool, ↓bindV_eq, ↓bindH_eq, ↓withV_of, ↓withP_some, ↓withB_some, ↓chkD_true, S75, p, q0, q5, c2, hz]
    · simp [↓test_bool, ↓bindV_eq, ↓bindH_eq, ↓withV_of, ↓withP_some, ↓withB_some, ↓chkD_true, S75, p, q0, c1, c2]
      rfl
theorem kParts {R : Type} {t : Tm} {H : Heap} {k : AV → Heap → Option R} : polK pParts [eT t] H k = k (eL 7 eT (partsO t)) H := by
  simp [pParts, polK_imm]
theorem ty_terms : base.P.underlying 23 = some (.slice 26) := by kernel_rfl
def visitB {σ : Type} (ok go : σ → Tm → Bool) (step : σ → Tm → σ) : Nat → List Tm → σ → Option (σ × Bool)
  | _, [], s => some (s, true)
  | 0, _ :: _, _ => none
  | b + 1, x :: st, s => if ok s x then (if go s x then visitB ok go step b (((partsO x).getD []).reverse ++ st) (step s x) else some (step s x, false)) else none
def YDoes (T : List (FuncId × Pol)) (idl : Nat) (x : Tm) (H : Heap) (v : AV) (H' : Heap) : Prop :=
  ∃ N, ∀ n, N ≤ n → ∀ (R : Type) (k : AV → Heap → Option R), clV base (polT T) n (.yl idl) [eT x] H k = k v H'
theorem Evs.withY {T : List (FuncId × Pol)} {idl : Nat} {x : Tm} {H : Heap} {v : AV} {H' : Heap} {P : Nat → Nat → Prop} (hy : YDoes T idl x H v H') (h : Evs fun n m => (∀ (R : Type) (k : AV → Heap → Option R), clV base (polT T) n (.yl idl) [eT x] H k = k v H') → P n m) : Evs P := by
  obtain ⟨N, hy⟩ := hy
  obtain ⟨M, h⟩ := h
  exact ⟨max N M, fun n m h1 h2 => h n m (by omega) (by omega) (hy n (by omega))⟩
theorem top_row {es : List AV} {todo : List Tm} {x : Tm} (h : es.take (todo ++ [x]).length = (todo ++ [x]).map eT) : es[todo.length]? = some (eT x) ∧ todo.length + 1 ≤ es.length ∧ es.take todo.length = todo.map eT := by
  have hl := congrArg List.length h
  simp only [List.length_take, List.length_map, List.length_append, List.length_cons, List.length_nil] at hl
  have h2 := congrArg (fun l => l[todo.length]?) h
  simp only [List.getElem?_take, List.map_append, List.map_cons, List.map_nil] at h2
  refine ⟨?_, by omega, ?_⟩
  · rw [if_pos (by simp)] at h2
    rw [h2, List.getElem?_append_right (by simp)]
    simp
  · have h3 := congrArg (List.take todo.length) h
    rw [List.take_take] at h3
    simpa using h3
theorem walk_loop {T : List (FuncId × Pol)} {σ : Type} {ok go : σ → Tm → Bool} {step : σ → Tm → σ} {Inv Fin : σ → Heap → Prop} {B : List Nat} {idl : Nat} (hT : lookT T 75 = pParts)
    (hround : ∀ s x H, ok s x = true → Inv s H → ∃ H', YDoes T idl x H (.bool (go s x)) H' ∧ (if go s x then Inv (step s x) H' else Fin (step s x) H') ∧ ∀ q o, q ∉ B → H[q]? = some o → H'[q]? = some o)
    (hset : ∀ s H q o, Inv s H → q ∉ B → Inv s (H.set q o)) {W : Nat} (hW : W ≤ 1000) : ∀ (b : Nat) (todo : List Tm) (s s' : σ) (r : Bool), visitB ok go step b todo.reverse s = some (s', r) → todo.length + 1000 * b ≤ 1000000000 → (∀ t ∈ todo, t.thin W) →
      ∀ (H : Heap) (q ver cap : Nat) (es : List AV), Inv s H → q ∉ B → H[q]? = some (.row ver 7 26 es) → es.take todo.length = todo.map eT → todo.length ≤ cap →
        ∃ H', LDoes (L77_0 (polT T)) ⟨[.yl idl, .sl q ver 0 todo.length cap], []⟩ H (if r then 0 else 1) ⟨[], []⟩ H' ∧ (if r then Inv s' H' else Fin s' H') := by
  intro b
  induction b with
  | zero =>
    intro todo s s' r hv hb ht H q ver cap es hI hq hH htk hcap
    rcases List.eq_nil_or_concat todo with rfl | ⟨todo, x, rfl⟩
    · simp [visitB] at hv
      obtain ⟨rfl, rfl⟩ := hv
      have f0 : A.len (.sl q ver 0 0 cap) H = some (.int .i64 0) := by simp [A.len, A.alive, hH]
      refine ⟨H, LDoes.step (Evs.of fun n m => ?_), by simpa using hI⟩
      simp [↓test_bool, ↓withV_of, L77_0_step, f0]
    · simp [visitB] at hv
  | succ b ih =>
    intro todo s s' r hv hb ht H q ver cap es hI hq hH htk hcap
    rcases List.eq_nil_or_concat todo with rfl | ⟨todo, x, rfl⟩
    · simp [visitB] at hv
      obtain ⟨rfl, rfl⟩ := hv
      have f0 : A.len (.sl q ver 0 0 cap) H = some (.int .i64 0) := by simp [A.len, A.alive, hH]
      refine ⟨H, LDoes.step (Evs.of fun n m => ?_), by simpa using hI⟩
      simp [↓test_bool, ↓withV_of, L77_0_step, f0]
    · simp only [List.concat_eq_append] at hv hb ht htk hcap ⊢
      obtain ⟨t1, t2, t3⟩ := top_row htk
      have hn : (todo ++ [x]).length = todo.length + 1 := by simp
      rw [hn] at hcap hb ⊢
      have hwl : todo.length ≤ 1000000000 := by omega
      have e1 : ((todo.length + 1 : Nat) : Int) - 1 = (todo.length : Int) := by omega
      have hw : IntKind.wrap .i64 (((todo.length + 1 : Nat) : Int) - 1) = (todo.length : Int) := by rw [wrap_i64 (by omega) (by omega), e1]
      have f1 : A.len (.sl q ver 0 (todo.length + 1) cap) H = some (.int .i64 ((todo.length + 1 : Nat) : Int)) := by simp [A.len, A.alive, hH]
      have f2 : A.idx 7 (.sl q ver 0 (todo.length + 1) cap) (.int .i64 (todo.length : Int)) H = some (.ptr q ver todo.length 0) := by
        simp [A.idx, A.aliveZ, hH]
        omega
      have f3 : A.load true 7 (.ptr q ver todo.length 0) H = some (eT x) := by
        have hc : A.ofList true 7 (eT x).cells 0 = some (eT x) := load_eT (H := H)
        simp [-cells_eT, A.load, A.elemAt, hH, t1, hc]
      have f4 : A.slice 7 (.sl q ver 0 (todo.length + 1) cap) none (some (.int .i64 (todo.length : Int))) none H = some (.sl q ver 0 todo.length cap) := by
        simp [A.slice, A.bound, A.aliveZ, hH]
        omega
      have f5 : A.ofList true 7 (A.splice [.int .i64 0, .bool false, .nils, .str [], .int .i64 0, .nils, .nils] 0 (eT x).cells) 0 = some (eT x) := by
        rw [cells_eT]
        have := load_eT (t := x) (H := H)
        rw [cells_eT] at this
        exact this
      have f7 : (eT x).cells.length = 7 := by rw [cells_eT]; rfl
      have f6 : A.fits 7 (eT x) = true := by simp [A.fits]
      have hrev : (todo ++ [x]).reverse = x :: todo.reverse := by simp
      rw [hrev] at hv
      unfold visitB at hv
      have hok : ok s x = true := by
        cases h : ok s x
        · rw [h] at hv
          cases hv
        · rfl
      rw [if_pos hok] at hv
      obtain ⟨H1, hy, hI1, hkeep⟩ := hround s x H hok hI
      have hH1 := hkeep q _ hq hH
      cases hg : go s x
      · rw [hg] at hv hy hI1
        simp only [Bool.false_eq_true, if_false] at hI1
        simp at hv
        obtain ⟨rfl, rfl⟩ := hv
        refine ⟨H1, LDoes.step (Evs.withY hy (Evs.of fun n m hyy => ?_)), by simpa using hI1⟩
        have hpos : (0 : Int) < ((todo.length + 1 : Nat) : Int) := by omega
        generalize ((todo.length + 1 : Nat) : Int) = N at *
        simp [-cells_eT, L77_0_step, f7, f1, f2, f3, f4, f5, f6, hw, hyy, hpos]
      · rw [hg] at hv hy hI1
        simp only [if_true] at hv hI1
        have hkt : ∀ u ∈ (partsO x).getD [], u.thin W := fun u hu => by
          have hx : x.thin W := ht x (by simp)
          unfold partsO at hu
          split at hu
          · exact (Tm.thin_eq.1 hx).2 u hu
          · simp at hu
        have hkl : ((partsO x).getD []).length ≤ 1000 := by
          have hx : x.thin W := ht x (by simp)
          unfold partsO
          split
          · exact Nat.le_trans (Tm.thin_eq.1 hx).1 hW
          · simp
        have hrv : ((partsO x).getD []).reverse ++ todo.reverse = (todo ++ (partsO x).getD []).reverse := by simp
        rw [hrv] at hv
        generalize hK : (partsO x).getD [] = K at *
        have hap : ∃ ver' cap' es', A.append 7 112 26 (.sl q ver 0 todo.length cap) (K.map eT) H1 = some (.sl q ver' 0 (todo ++ K).length cap', H1.set q (.row ver' 7 26 es')) ∧ es'.take (todo ++ K).length = (todo ++ K).map eT ∧ (todo ++ K).length ≤ cap' := by
          have hb1 : (todo.length + K.length) * 112 ≤ 140737488355328 := by omega
          by_cases hc : todo.length + K.length ≤ cap
          · refine ⟨ver, cap, A.splice es todo.length (K.map eT), ?_, ?_, by simpa using hc⟩
            · simp only [A.append, hH1]
              rw [if_pos ⟨trivial, trivial, trivial, by omega, by omega, by simpa using hb1, by omega⟩, if_pos (by simpa using hc)]
              simp
            · have : A.splice es todo.length (K.map eT) = es.take todo.length ++ K.map eT ++ es.drop (todo.length + (K.map eT).length) := rfl
              rw [this, t3, List.map_append, List.take_append_of_le_length (by simp), List.take_of_length_le (by simp)]
          · refine ⟨ver + 1, (todo ++ K).length, todo.map eT ++ K.map eT, ?_, ?_, Nat.le_refl _⟩
            · simp only [A.append, hH1]
              rw [if_pos ⟨trivial, trivial, trivial, by omega, by omega, by simpa using hb1, by omega⟩, if_neg (by simpa using hc)]
              simp [t3]
            · rw [← List.map_append, List.take_of_length_le (by simp)]
        obtain ⟨ver', cap', es', g1, g2, g3⟩ := hap
        have hq1 : q < H1.length := (List.getElem?_eq_some_iff.1 hH1).1
        obtain ⟨H', hL, hI'⟩ := ih (todo ++ K) (step s x) s' r hv (by simp; omega) (fun u hu => by
          rcases List.mem_append.1 hu with hu | hu
          · exact ht u (by simp [hu])
          · exact hkt u hu) (H1.set q (.row ver' 7 26 es')) q ver' cap' es' (hset _ _ _ _ hI1 hq) hq (List.getElem?_set_self hq1) g2 g3
        refine ⟨H', LDoes.step (Evs.withY hy (Evs.withL hL (Evs.of fun n m _ h2 hyy => ?_))), hI'⟩
        have hpos : (0 : Int) < ((todo.length + 1 : Nat) : Int) := by omega
        have hrd : A.read 7 (eL 7 eT (partsO x)) H1 = some (K.map eT) := by rw [read_eL, hK]
        generalize ((todo.length + 1 : Nat) : Int) = N at *
        generalize (todo ++ K).length = M at *
        simp [-cells_eT, L77_0_step, f7, f1, f2, f3, f4, f5, f6, hw, hyy, hpos, hT, kParts, newsZ_sl ty_terms, hK, g1, h2]
end Go.Proofs.YtleikacgncpfbaaDoor

/- Terms: how many parts a term has. -/
set_option maxRecDepth 100000
set_option maxHeartbeats 2000000
namespace Go.Proofs.YtleikacgncpfbaaDoor
open Go Go.Den
theorem clV_yl {pol : FuncId → Pol} {n id : Nat} {R : Type} {args : List AV} {H : Heap} {k : AV → Heap → Option R} : clV base pol (n + 1) (.yl id) args H k = runRound (base.with pol) (callF (base.with pol) n) n id args H k := by
  show callF (base.with pol) (n + 1) R (yBase + id) args H k = _
  have h1 : Nat.blt (yBase + id) yBase = false := by
    cases h : Nat.blt (yBase + id) yBase
    · rfl
    · have := Nat.le_of_ble_eq_true h
      omega
  show (bif !Nat.blt (yBase + id) yBase then runRound (base.with pol) (callF (base.with pol) n) n (R := R) (yBase + id - yBase) args H k else _) = _
  rw [h1, Nat.add_sub_cancel_left]
  rfl
theorem callK_polT {T : List (FuncId × Pol)} {cf : CallFn} {R : Type} {f : FuncId} {args : List AV} {H : Heap} {k : AV → Heap → Option R} : callK (base.with (polT T)) cf f args H k = polK (lookT T f) args H k := by
  unfold callK
  show (match polT T f with | .plain => _ | .prim F => _ | .still F => _) = _
  unfold polT
  cases lookT T f <;> rfl
theorem rfK_run {T T2 : List (FuncId × Pol)} {n : Nat} {f : FuncId} {cap : List AV} {L L1 : LoopD} {H H1 : Heap} {v : AV} (hb : hasBody base f = true) (hT : lookT T f = .prim (runF base T2 f)) (h : runF base T2 f (.yl H.length :: cap) (H ++ [.loop L]) = some (v, H1)) (hL : H1[H.length]? = some (.loop L1)) (hs : Nat.beq L1.state 1 = false)
    {R : Type} {k : AExit → Heap → Option R} : rfK (base.with (polT T)) n (.fn (.func f) [] cap) L H k = (match L1.pending with | none => k .normal (H1.set H.length .dead) | some e => k e (H1.set H.length .dead)) := by
  unfold rfK
  have hb' : hasBody (base.with (polT T)) f = true := hb
  simp only [hb', Bool.not_true, cond_false]
  rw [callK_polT, hT, k_run h]
  simp only [hL, hs, cond_false]
  cases L1.pending <;> rfl
noncomputable def pWalk : Pol := .prim (runF base [] 55)
theorem okWalk : PolOK base 55 pWalk := ok_run base_ok [] trivial
theorem kWalk {R : Type} {t : Tm} {H : Heap} {k : AV → Heap → Option R} : polK pWalk [eT t] H k = k (.fn (.func 77) [] [.ptr H.length 0 0 0]) (H ++ [.row 0 7 26 [eT t]]) := by
  have h : runF base [] 55 [eT t] H = some (.fn (.func 77) [] [.ptr H.length 0 0 0], H ++ [.row 0 7 26 [eT t]]) := runF_of (Evs.of fun n m => by simp [↓bindV_eq, ↓bindH_eq, ↓chkD_true, S55])
  exact k_run h
noncomputable abbrev TTree1 : List (FuncId × Pol) := [(75, pParts)]
noncomputable def pWalkTree : Pol := .prim (runF base TTree1 77)
theorem okWalkTree : PolOK base 77 pWalkTree := ok_run base_ok TTree1 ⟨okParts, trivial⟩
noncomputable def LDt (t : Tm) : LoopD := LD19 (eT t) (.int .i64 0) (.ptr 0 0 0 0) (eT t) (.fn (.func 77) [] [.ptr 1 0 0 0])
theorem LDt_state (t : Tm) : (LDt t).state = 0 := rfl
def InvT (t : Tm) (s : Nat) (H : Heap) : Prop := s ≤ 65536 ∧ H[0]? = some (.row 0 1 3 [.int .i64 (s : Int)]) ∧ H[2]? = some (.loop (LDt t))
def FinT (t : Tm) (s : Nat) (H : Heap) : Prop := s = 65537 ∧ H[0]? = some (.row 0 1 3 [.int .i64 (s : Int)]) ∧ H[2]? = some (.loop { LDt t with state := 2, pending := some (.exit 0) })
theorem tree_round (t : Tm) (s : Nat) (x : Tm) (H : Heap) (hI : InvT t s H) : ∃ H', YDoes TTree1 2 x H (.bool (decide (s + 1 ≤ 65536))) H' ∧ (if decide (s + 1 ≤ 65536) then InvT t (s + 1) H' else FinT t (s + 1) H') ∧ ∀ q o, q ∉ [0, 2] → H[q]? = some o → H'[q]? = some o := by
  obtain ⟨hs, h0, h2⟩ := hI
  have l0 : 0 < H.length := (List.getElem?_eq_some_iff.1 h0).1
  have l2 : 2 < H.length := (List.getElem?_eq_some_iff.1 h2).1
  generalize hX : (HObj.loop { LDt t with state := 1 }) = X
  have a0 : (H.set 2 X)[0]? = some (.row 0 1 3 [.int .i64 (s : Int)]) := by rw [List.getElem?_set_ne (by omega)]; exact h0
  generalize hY : (HObj.row 0 1 3 [.int .i64 ((s : Int) + 1)]) = Y
  have a1 : ((H.set 2 X).set 0 Y)[2]? = some X := by rw [List.getElem?_set_ne (by omega), List.getElem?_set_self l2]
  have a2 : ((H.set 2 X).set 0 Y)[0]? = some Y := List.getElem?_set_self (by simpa using l0)
  have hw : IntKind.wrap .i64 ((s : Int) + 1) = (s : Int) + 1 := wrap_i64 (by omega) (by omega)
  have b1 : A.load false 1 (.ptr 0 0 0 0) (H.set 2 X) = some (.int .i64 (s : Int)) := by simp [A.load, A.elemAt, a0, A.ofList, AV.cells]
  have b2 : A.store 1 (.ptr 0 0 0 0) (.int .i64 ((s : Int) + 1)) (H.set 2 X) = some ((H.set 2 X).set 0 Y) := by
    rw [← hY]
    exact row_store a0 rfl rfl rfl
  have b3 : A.load false 1 (.ptr 0 0 0 0) ((H.set 2 X).set 0 Y) = some (.int .i64 ((s : Int) + 1)) := by
    rw [← hY] at a2 ⊢
    simp [A.load, A.elemAt, a2, A.ofList, AV.cells]
  have hlg : ∀ (R : Type) (f : LoopD → Option R), loopGet H 2 f = f (LDt t) := fun R f => by unfold loopGet; rw [h2]
  by_cases hc : s + 1 ≤ 65536
  · have hc' : ¬ (65536 : Int) < (s : Int) + 1 := by omega
    have hrk : ∀ (R : Type) (k : AV → Heap → Option R), roundK 2 k .normal ((H.set 2 X).set 0 Y) = k (.bool true) (((H.set 2 X).set 0 Y).set 2 (.loop (LDt t))) := fun R k => by
      unfold roundK
      rw [a1, ← hX]
      rfl
    refine ⟨((H.set 2 X).set 0 Y).set 2 (.loop (LDt t)), ⟨1, fun n hn R k => ?_⟩, ?_, fun q o hq ho => ?_⟩
    · obtain ⟨n, rfl⟩ : ∃ j, n = j + 1 := ⟨n - 1, by omega⟩
      rw [clV_yl, R19_step _ _ _ _ _ _ _ _ _ _ _ _ h2]
      simp [hlg, LDt_state, hX, b1, hw, b2, b3, hc', hrk, hc]
    · rw [if_pos (by simpa using hc)]
      refine ⟨hc, ?_, List.getElem?_set_self (by simpa using l2)⟩
      rw [List.getElem?_set_ne (by omega), a2, ← hY]
      rfl
    · simp at hq
      rw [List.getElem?_set_ne (by omega), List.getElem?_set_ne (by omega), List.getElem?_set_ne (by omega)]
      exact ho
  · have hc' : (65536 : Int) < (s : Int) + 1 := by omega
    have hrk : ∀ (R : Type) (k : AV → Heap → Option R), roundK 2 k (.exit 0) ((H.set 2 X).set 0 Y) = k (.bool false) (((H.set 2 X).set 0 Y).set 2 (.loop { LDt t with state := 2, pending := some (.exit 0) })) := fun R k => by
      unfold roundK
      rw [a1, ← hX]
      rfl
    refine ⟨((H.set 2 X).set 0 Y).set 2 (.loop { LDt t with state := 2, pending := some (.exit 0) }), ⟨1, fun n hn R k => ?_⟩, ?_, fun q o hq ho => ?_⟩
    · obtain ⟨n, rfl⟩ : ∃ j, n = j + 1 := ⟨n - 1, by omega⟩
      rw [clV_yl, R19_step _ _ _ _ _ _ _ _ _ _ _ _ h2]
      simp [hlg, LDt_state, hX, b1, hw, b2, b3, hc', hrk, hc]
    · rw [if_neg (by simpa using hc)]
      refine ⟨by omega, ?_, List.getElem?_set_self (by simpa using l2)⟩
      rw [List.getElem?_set_ne (by omega), a2, ← hY]
      rfl
    · simp at hq
      rw [List.getElem?_set_ne (by omega), List.getElem?_set_ne (by omega), List.getElem?_set_ne (by omega)]
      exact ho
end Go.Proofs.YtleikacgncpfbaaDoor

/- Terms: how many parts a term has: the entry. -/
set_option maxRecDepth 100000
set_option maxHeartbeats 2000000
namespace Go.Proofs.YtleikacgncpfbaaDoor
open Go Go.Den
mutual
def szT : Tm → Nat
  | .mk k _ _ _ _ l _ => 1 + (if k = 4 ∨ k = 6 then szO l else 0)
def szO : Option (List Tm) → Nat
  | none => 0
  | some l => szs l
def szs : List Tm → Nat
  | [] => 0
  | t :: l => szT t + szs l
end
theorem szT_eq (t : Tm) : szT t = 1 + szs ((partsO t).getD []) := by
  cases t with
  | mk k x d s n l b =>
    rw [szT]
    unfold partsO Tm.kind Tm.l
    dsimp only
    split
    · cases l with
      | none => rw [szO]; rfl
      | some l => rw [szO]; rfl
    · rfl
theorem szs_append : ∀ (a b : List Tm), szs (a ++ b) = szs a + szs b
  | [], b => by rw [szs]; simp
  | t :: a, b => by rw [List.cons_append, szs, szs, szs_append a b]; omega
theorem szs_reverse : ∀ a : List Tm, szs a.reverse = szs a
  | [] => rfl
  | t :: a => by
    have e0 : szs ([] : List Tm) = 0 := by rw [szs]
    have e1 : szs (t :: a) = szT t + szs a := by rw [szs]
    have e2 : szs [t] = szT t := by simp [szs]
    rw [List.reverse_cons, szs_append, szs_reverse a]
    omega
theorem tree_visit : ∀ (b : Nat) (st : List Tm) (s : Nat), s ≤ 65536 → min (szs st) (65537 - s) ≤ b →
    visitB (fun _ _ => true) (fun (s : Nat) (_ : Tm) => decide (s + 1 ≤ 65536)) (fun s _ => s + 1) b st s = some (min (s + szs st) 65537, decide (s + szs st ≤ 65536))
  | b, [], s, hs, _ => by
    have h0 : szs [] = 0 := by rw [szs]
    have e1 : min (s + 0) 65537 = s := by omega
    have e2 : decide (s + 0 ≤ 65536) = true := by simpa using hs
    cases b <;> (unfold visitB; rw [h0, e1, e2])
  | 0, x :: st, s, hs, hb => by
    rw [szs, szT_eq] at hb
    omega
  | b + 1, x :: st, s, hs, hb => by
    unfold visitB
    rw [if_pos rfl, szs, szT_eq]
    rw [szs, szT_eq] at hb
    by_cases h : s + 1 ≤ 65536
    · rw [if_pos (by simpa using h), tree_visit b _ (s + 1) h (by rw [szs_append, szs_reverse]; omega), szs_append, szs_reverse]
      congr 2
      · omega
      · congr 1
        exact propext (by omega)
    · rw [if_neg (by simpa using h)]
      have e1 : min (s + (1 + szs ((partsO x).getD []) + szs st)) 65537 = s + 1 := by omega
      have e2 : ¬ s + (1 + szs ((partsO x).getD []) + szs st) ≤ 65536 := by omega
      rw [e1]
      simp [e2]
noncomputable def pTree : Pol := .still (p1 cT (fun n : Nat => .int .i64 (n : Int)) (fun t => t.thin 1000) (fun t => min (szT t) 65537))
theorem kTree {R : Type} {t : Tm} (h : t.thin 1000) {H : Heap} {k : AV → Heap → Option R} : polK pTree [eT t] H k = k (.int .i64 ((min (szT t) 65537 : Nat) : Int)) H := by
  simp [pTree, polK_imm, h]
theorem has77 : hasBody base 77 = true := by kernel_rfl
theorem okTree : PolOK base 19 pTree := still1 base_ok [(55, pWalk), (77, pWalkTree)] ⟨okWalk, okWalkTree, trivial⟩ fun t ht => by
  have hsz : szs [t] = szT t := by rw [szs, szs]; rfl
  have hv := tree_visit 65537 [t] 0 (by omega) (by omega)
  rw [hsz, Nat.zero_add] at hv
  generalize hr : decide (szT t ≤ 65536) = r at hv
  generalize hs' : min (szT t) 65537 = s' at hv ⊢
  have hI0 : InvT t 0 [.row 0 1 3 [.int .i64 0], .row 0 7 26 [eT t], .loop (LDt t), .row 0 7 26 [eT t]] := ⟨by omega, rfl, rfl⟩
  obtain ⟨H5, hL, hF⟩ := walk_loop (T := TTree1) (Inv := InvT t) (Fin := FinT t) (B := [0, 2]) (idl := 2) rfl (fun s x H _ hI => tree_round t s x H hI) (fun s H q o hI hq => by
    obtain ⟨h1, h2, h3⟩ := hI
    simp at hq
    exact ⟨h1, by rw [List.getElem?_set_ne (by omega)]; exact h2, by rw [List.getElem?_set_ne (by omega)]; exact h3⟩) (W := 1000) (by omega) 65537 [t] 0 s' r (by simpa using hv) (by simp) (fun u hu => by simp at hu; rw [hu]; exact ht)
    [.row 0 1 3 [.int .i64 0], .row 0 7 26 [eT t], .loop (LDt t), .row 0 7 26 [eT t]] 3 0 1 [eT t] hI0 (by simp) rfl rfl (by simp)
  have hrun : runF base TTree1 77 [.yl 2, .ptr 1 0 0 0] [.row 0 1 3 [.int .i64 0], .row 0 7 26 [eT t], .loop (LDt t)] = some (.tup [], H5) := runF_of (by
    refine Evs.withL hL (Evs.of fun n m h1 _ => ?_)
    have hone : A.fillElems 7 [.agg [.int .i64 0, .bool false, .nils, .str [], .int .i64 0, .nils, .nils]] [(0, 1, eT t)] = some [eT t] := by simp [A.fillElems, cells_eT]
    have hld : A.load true 7 (.ptr 1 0 0 0) [.row 0 1 3 [.int .i64 0], .row 0 7 26 [eT t], .loop (LDt t)] = some (eT t) := by
      have hc : A.ofList true 7 (eT t).cells 0 = some (eT t) := load_eT (H := [])
      simp [-cells_eT, A.load, A.elemAt, hc]
    have h1' : L77_0 (polT TTree1) n n ⟨[.yl 2, .sl 3 0 0 1 1], []⟩ [.row 0 1 3 [.int .i64 0], .row 0 7 26 [eT t], .loop (LDt t), .row 0 7 26 [eT t]] = some (if r then 0 else 1, ⟨[], []⟩, H5) := h1
    cases r <;> simp [-cells_eT, S77, hld, hone, h1'])
  have hfin : ∀ (x : List HObj), H5[0]? = some (.row 0 1 3 [.int .i64 (s' : Int)]) → A.load false 1 (.ptr 0 0 0 0) (H5.set 2 .dead) = some (.int .i64 (s' : Int)) := fun _ h => by
    have : (H5.set 2 .dead)[0]? = some (.row 0 1 3 [.int .i64 (s' : Int)]) := by rw [List.getElem?_set_ne (by omega)]; exact h
    simp [A.load, A.elemAt, this, A.ofList, AV.cells]
  refine Evs.of fun n m => ?_
  have hst : A.store 1 (.ptr 0 0 0 0) (.int .i64 0) [.row 0 1 3 [.int .i64 0]] = some [.row 0 1 3 [.int .i64 0]] := rfl
  have hof : A.ofList true 7 (eT t).cells 0 = some (eT t) := load_eT (H := [])
  have hcl : (eT t).cells.length = 7 := by rw [cells_eT]; rfl
  cases r
  · simp only [Bool.false_eq_true, if_false] at hF
    obtain ⟨_, f0, f2⟩ := hF
    have hrf : ∀ (R : Type) (k : AExit → Heap → Option R), rfK (base.with (polT [(55, pWalk), (77, pWalkTree)])) n (.fn (.func 77) [] [.ptr 1 0 0 0]) (LDt t) [.row 0 1 3 [.int .i64 0], .row 0 7 26 [eT t]] k = k (.exit 0) (H5.set 2 .dead) := fun R k => by rw [rfK_run (T := [(55, pWalk), (77, pWalkTree)]) (H := [.row 0 1 3 [.int .i64 0], .row 0 7 26 [eT t]]) (L := LDt t) (cap := [.ptr 1 0 0 0]) has77 rfl hrun f2 rfl]; rfl
    unfold LDt at hrf
    simp [-cells_eT, S19, hcl, hst, hof, kWalk, hrf, exitK, hfin [] f0]
  · simp only [if_true] at hF
    obtain ⟨_, f0, f2⟩ := hF
    have hrf : ∀ (R : Type) (k : AExit → Heap → Option R), rfK (base.with (polT [(55, pWalk), (77, pWalkTree)])) n (.fn (.func 77) [] [.ptr 1 0 0 0]) (LDt t) [.row 0 1 3 [.int .i64 0], .row 0 7 26 [eT t]] k = k .normal (H5.set 2 .dead) := fun R k => by rw [rfK_run (T := [(55, pWalk), (77, pWalkTree)]) (H := [.row 0 1 3 [.int .i64 0], .row 0 7 26 [eT t]]) (L := LDt t) (cap := [.ptr 1 0 0 0]) has77 rfl hrun f2 rfl]; rfl
    unfold LDt at hrf
    simp [-cells_eT, S19, hcl, hst, hof, kWalk, hrf, exitK, hfin [] f0]
end Go.Proofs.YtleikacgncpfbaaDoor

/- Terms: how many words a term takes. -/
set_option maxRecDepth 100000
set_option maxHeartbeats 4000000
namespace Go.Proofs.YtleikacgncpfbaaDoor
open Go Go.Den
def wordsOne (x : Tm) : Nat :=
  if x.kind = 0 then (if (smallS (x.neg, x.d)).2 then 0 else 1 + ((normS (false, x.d)).2.getD []).length)
  else if x.kind = 6 then 1 + x.kids.length else if x.kind = 4 then 1 + x.kids.length else if x.kind = 7 then 4 else 0
noncomputable abbrev TWords1 : List (FuncId × Pol) := [(75, pParts), (58, pSmall), (59, pNorm)]
noncomputable def pWalkWords : Pol := .prim (runF base TWords1 77)
theorem okWalkWords : PolOK base 77 pWalkWords := ok_run base_ok TWords1 ⟨okParts, okSmall, okNorm, trivial⟩
noncomputable def LDw (t : Tm) : LoopD := LD21 (eT t) (.int .i64 0) (.ptr 0 0 0 0) (eT t) (.fn (.func 77) [] [.ptr 1 0 0 0])
theorem LDw_state (t : Tm) : (LDw t).state = 0 := rfl
def okW (s : Nat × Nat) (x : Tm) : Bool := decide ((x.d.getD []).length ≤ 1000000) && decide (x.kids.length ≤ 1000) && decide (s.1 < 65537)
def InvW (t : Tm) (s : Nat × Nat) (H : Heap) : Prop := s.2 ≤ s.1 * 1000002 ∧ s.1 ≤ 65537 ∧ H[0]? = some (.row 0 1 3 [.int .i64 (s.2 : Int)]) ∧ H[2]? = some (.loop (LDw t))
theorem words_le {x : Tm} (h1 : (x.d.getD []).length ≤ 1000000) (h2 : x.kids.length ≤ 1000) : wordsOne x ≤ 1000002 := by
  unfold wordsOne
  have := lim_len_le (x.d.getD [])
  have e : (normS (false, x.d)).2.getD [] = lim (val (x.d.getD [])) := normS_get
  rw [e]
  split
  · split <;> omega
  · split
    · omega
    · split
      · omega
      · split <;> omega
theorem roundK_ready {H : Heap} {id : Nat} {L : LoopD} {R : Type} {k : AV → Heap → Option R} (h : H[id]? = some (.loop { L with state := 1 })) (hs : L.state = 0) (hp : L.pending = none) : roundK id k .normal H = k (.bool true) (H.set id (.loop L)) := by
  unfold roundK
  rw [h]
  cases L
  simp only at hs hp
  subst hs hp
  rfl
theorem words_round (t : Tm) (s : Nat × Nat) (x : Tm) (H : Heap) (hok : okW s x = true) (hI : InvW t s H) : ∃ H', YDoes TWords1 2 x H (.bool true) H' ∧ (if true = true then InvW t (s.1 + 1, s.2 + wordsOne x) H' else False) ∧ ∀ q o, q ∉ [0, 2] → H[q]? = some o → H'[q]? = some o := by
  obtain ⟨hs, hc, h0, h2⟩ := hI
  unfold okW at hok
  simp only [Bool.and_eq_true, decide_eq_true_eq] at hok
  obtain ⟨⟨o1, o2⟩, o3⟩ := hok
  have hwl := words_le o1 o2
  have l0 : 0 < H.length := (List.getElem?_eq_some_iff.1 h0).1
  have l2 : 2 < H.length := (List.getElem?_eq_some_iff.1 h2).1
  have hst0 : A.store 7 (.ptr H.length 0 0 0) (eT x) (H ++ [.row 0 7 26 [.agg [.int .i64 0, .bool false, .nils, .str [], .int .i64 0, .nils, .nils]]]) = some (H ++ [.row 0 7 26 [eT x]]) := by
    have hb : Go.Den.Box (H ++ [.row 0 7 26 [.agg [.int .i64 0, .bool false, .nils, .str [], .int .i64 0, .nils, .nils]]]) H.length 7 26 [.int .i64 0, .bool false, .nils, .str [], .int .i64 0, .nils, .nils] := row_push
    have := box_store (ds := (eT x).cells) hb rfl (by rw [cells_eT]; rfl) (by rw [cells_eT]; simp)
    have e : AV.agg (eT x).cells = eT x := by rw [cells_eT, eT_eq]
    rw [e] at this
    rw [this]
    simp
  generalize hH2 : H ++ [.row 0 7 26 [eT x]] = H2 at *
  have g0 : H2[0]? = some (.row 0 1 3 [.int .i64 (s.2 : Int)]) := by rw [← hH2, List.getElem?_append_left l0]; exact h0
  have g2 : H2[2]? = some (.loop (LDw t)) := by rw [← hH2, List.getElem?_append_left l2]; exact h2
  have gx : H2[H.length]? = some (.row 0 7 26 [eT x]) := by rw [← hH2]; simp
  have gq : ∀ q o, H[q]? = some o → H2[q]? = some o := fun q o h => by
    rw [← hH2, List.getElem?_append_left (List.getElem?_eq_some_iff.1 h).1]
    exact h
  have k2 : 2 < H2.length := (List.getElem?_eq_some_iff.1 g2).1
  generalize hX : (HObj.loop { LDw t with state := 1 }) = X
  have a0 : (H2.set 2 X)[0]? = some (.row 0 1 3 [.int .i64 (s.2 : Int)]) := by rw [List.getElem?_set_ne (by omega)]; exact g0
  have ax : (H2.set 2 X)[H.length]? = some (.row 0 7 26 [eT x]) := by rw [List.getElem?_set_ne (by omega)]; exact gx
  have a2 : (H2.set 2 X)[2]? = some X := List.getElem?_set_self k2
  have hB := box_eT x _ _ ax
  have p := fun o => hB.fa (o := o)
  have q := fun o => hB.load (o := o)
  rw [cells_eT] at q
  have q0 := q 0
  have q1 := q 1
  have q2 := q 2
  have q5 := q 5
  simp only [List.getElem?_cons_succ, List.getElem?_cons_zero] at q0 q1 q2 q5
  have b1 : A.load false 1 (.ptr 0 0 0 0) (H2.set 2 X) = some (.int .i64 (s.2 : Int)) := by simp [A.load, A.elemAt, a0, A.ofList, AV.cells]
  have hlg : ∀ (R : Type) (f : LoopD → Option R), loopGet H2 2 f = f (LDw t) := fun R f => by unfold loopGet; rw [g2]
  have hsm : ∀ (R : Type) (H : Heap) (k : AV → Heap → Option R), polK pSmall [.agg [.bool x.neg, eD x.d]] H k = k (.tup [.int .i64 (smallS (x.neg, x.d)).1, .bool (smallS (x.neg, x.d)).2]) H := fun R H k => kSmall (a := (x.neg, x.d)) o1
  have hnm : ∀ (R : Type) (H : Heap) (k : AV → Heap → Option R), polQ pNorm [.agg [.bool false, eD x.d]] H k = k (eN (normS (false, x.d))) H := fun R H k => qNorm (a := (false, x.d)) o1
  have hrk0 : ∀ (R : Type) (k : AV → Heap → Option R), roundK 2 k .normal (H2.set 2 X) = k (.bool true) ((H2.set 2 X).set 2 (.loop (LDw t))) := fun R k => roundK_ready (by rw [hX]; exact a2) rfl rfl
  have hrk : ∀ (y : HObj) (R : Type) (k : AV → Heap → Option R), roundK 2 k .normal ((H2.set 2 X).set 0 y) = k (.bool true) (((H2.set 2 X).set 0 y).set 2 (.loop (LDw t))) := fun y R k => by
    have a2' : ((H2.set 2 X).set 0 y)[2]? = some X := by rw [List.getElem?_set_ne (by omega)]; exact a2
    exact roundK_ready (by rw [hX]; exact a2') rfl rfl
  have keep0 : ∀ q o, q ∉ [0, 2] → H[q]? = some o → ((H2.set 2 X).set 2 (.loop (LDw t)))[q]? = some o := fun q o hq ho => by
    simp at hq
    rw [List.getElem?_set_ne (by omega), List.getElem?_set_ne (by omega)]
    exact gq q o ho
  have keep : ∀ (y : HObj) q o, q ∉ [0, 2] → H[q]? = some o → (((H2.set 2 X).set 0 y).set 2 (.loop (LDw t)))[q]? = some o := fun y q o hq ho => by
    simp at hq
    rw [List.getElem?_set_ne (by omega), List.getElem?_set_ne (by omega), List.getElem?_set_ne (by omega)]
    exact gq q o ho
  have inv0 : wordsOne x = 0 → InvW t (s.1 + 1, s.2 + wordsOne x) ((H2.set 2 X).set 2 (.loop (LDw t))) := fun h => by
    refine ⟨by dsimp only; omega, by dsimp only; omega, ?_, List.getElem?_set_self (by simpa using k2)⟩
    rw [List.getElem?_set_ne (by omega), a0, h]
    rfl
  have inv : InvW t (s.1 + 1, s.2 + wordsOne x) (((H2.set 2 X).set 0 (.row 0 1 3 [.int .i64 ((s.2 : Int) + (wordsOne x : Nat))])).set 2 (.loop (LDw t))) := by
    refine ⟨by dsimp only; omega, by dsimp only; omega, ?_, List.getElem?_set_self (by simpa using k2)⟩
    rw [List.getElem?_set_ne (by omega), List.getElem?_set_self (by simp; omega)]
    simp
  have hst : ∀ w : Nat, A.store 1 (.ptr 0 0 0 0) (.int .i64 ((s.2 : Int) + (w : Nat))) (H2.set 2 X) = some ((H2.set 2 X).set 0 (.row 0 1 3 [.int .i64 ((s.2 : Int) + (w : Nat))])) := fun w => row_store a0 rfl rfl rfl
  have hwr : ∀ w : Nat, w ≤ 1000002 → IntKind.wrap .i64 ((s.2 : Int) + (w : Nat)) = (s.2 : Int) + (w : Nat) := fun w h => wrap_i64 (by omega) (by omega)
  have hfill1 : A.fill [.bool false, .nils] [(0, 1, .bool x.neg), (1, 1, eD x.d)] = some [.bool x.neg, eD x.d] := by simp [A.fill, A.splice]
  have hfill2 : A.fill [.bool false, .nils] [(1, 1, eD x.d)] = some [.bool false, eD x.d] := by simp [A.fill, A.splice]
  by_cases c0 : x.kind = 0
  · cases hb : (smallS (x.neg, x.d)).2
    · have hwo : wordsOne x = 1 + ((normS (false, x.d)).2.getD []).length := by unfold wordsOne; rw [if_pos c0, hb]; rfl
      have hle : ((normS (false, x.d)).2.getD []).length ≤ 1000000 := by
        have e : (normS (false, x.d)).2.getD [] = lim (val (x.d.getD [])) := normS_get
        have := lim_len_le (x.d.getD [])
        rw [e]
        omega
      have h1 : IntKind.wrap .i64 (1 + (((normS (false, x.d)).2.getD []).length : Int)) = ((wordsOne x : Nat) : Int) := by rw [hwo, wrap_i64 (by omega) (by omega)]; push_cast; rfl
      have h3 := hwr _ hwl
      have h4 := hst (wordsOne x)
      rw [hb] at hsm
      generalize wordsOne x = w at *
      generalize normS (false, x.d) = N at *
      exact ⟨((H2.set 2 X).set 0 (.row 0 1 3 [.int .i64 ((s.2 : Int) + (w : Nat))])).set 2 (.loop (LDw t)), ⟨1, fun n hn R k => by
        obtain ⟨n, rfl⟩ : ∃ j, n = j + 1 := ⟨n - 1, by omega⟩
        rw [clV_yl, R21_step _ _ _ _ _ _ _ _ _ _ _ _ h2]
        simp [-cells_eT, hlg, hst0, LDw_state, hX, p, q0, q1, q2, q5, b1, c0, hfill1, hsm, hfill2, hnm, A.field, A.ofList, h1, h3, h4, hrk]⟩, by rw [if_pos rfl]; exact inv, keep _⟩
    · have hw0 : wordsOne x = 0 := by unfold wordsOne; rw [if_pos c0, hb]; rfl
      rw [hb] at hsm
      exact ⟨(H2.set 2 X).set 2 (.loop (LDw t)), ⟨1, fun n hn R k => by
        obtain ⟨n, rfl⟩ : ∃ j, n = j + 1 := ⟨n - 1, by omega⟩
        rw [clV_yl, R21_step _ _ _ _ _ _ _ _ _ _ _ _ h2]
        simp [-cells_eT, hlg, hst0, LDw_state, hX, p, q0, q1, q2, q5, b1, c0, hfill1, hsm, hrk0]⟩, by rw [if_pos rfl]; exact inv0 hw0, keep0⟩
  · have kk : x.l.getD [] = x.kids := rfl
    have h1 : IntKind.wrap .i64 (1 + (x.kids.length : Int)) = ((1 + x.kids.length : Nat) : Int) := by rw [wrap_i64 (by omega) (by omega)]; push_cast; rfl
    have h3 := hwr _ hwl
    have h4 := hst (wordsOne x)
    by_cases c6 : x.kind = 6
    · have hwo : wordsOne x = 1 + x.kids.length := by unfold wordsOne; rw [if_neg c0, if_pos c6]
      rw [← hwo] at h1
      generalize wordsOne x = w at *
      exact ⟨((H2.set 2 X).set 0 (.row 0 1 3 [.int .i64 ((s.2 : Int) + (w : Nat))])).set 2 (.loop (LDw t)), ⟨1, fun n hn R k => by
        obtain ⟨n, rfl⟩ : ∃ j, n = j + 1 := ⟨n - 1, by omega⟩
        rw [clV_yl, R21_step _ _ _ _ _ _ _ _ _ _ _ _ h2]
        simp [-cells_eT, hlg, hst0, LDw_state, hX, p, q0, q1, q2, q5, b1, c6, kk, h1, h3, h4, hrk]⟩, by rw [if_pos rfl]; exact inv, keep _⟩
    · by_cases c4 : x.kind = 4
      · have hwo : wordsOne x = 1 + x.kids.length := by unfold wordsOne; rw [if_neg c0, if_neg c6, if_pos c4]
        rw [← hwo] at h1
        generalize wordsOne x = w at *
        exact ⟨((H2.set 2 X).set 0 (.row 0 1 3 [.int .i64 ((s.2 : Int) + (w : Nat))])).set 2 (.loop (LDw t)), ⟨1, fun n hn R k => by
          obtain ⟨n, rfl⟩ : ∃ j, n = j + 1 := ⟨n - 1, by omega⟩
          rw [clV_yl, R21_step _ _ _ _ _ _ _ _ _ _ _ _ h2]
          simp [-cells_eT, hlg, hst0, LDw_state, hX, p, q0, q1, q2, q5, b1, c4, kk, h1, h3, h4, hrk]⟩, by rw [if_pos rfl]; exact inv, keep _⟩
      · by_cases c7 : x.kind = 7
        · have hwo : wordsOne x = 4 := by unfold wordsOne; rw [if_neg c0, if_neg c6, if_neg c4, if_pos c7]
          rw [hwo] at h3 h4
          simp only [Int.cast_ofNat_Int] at h3 h4
          exact ⟨((H2.set 2 X).set 0 (.row 0 1 3 [.int .i64 ((s.2 : Int) + (4 : Int))])).set 2 (.loop (LDw t)), ⟨1, fun n hn R k => by
            obtain ⟨n, rfl⟩ : ∃ j, n = j + 1 := ⟨n - 1, by omega⟩
            rw [clV_yl, R21_step _ _ _ _ _ _ _ _ _ _ _ _ h2]
            simp [-cells_eT, hlg, hst0, LDw_state, hX, p, q0, q1, q2, q5, b1, c7, h3, h4, hrk]⟩, by rw [if_pos rfl]; have := inv; rw [hwo] at this ⊢; simpa using this, keep _⟩
        · have hw0 : wordsOne x = 0 := by unfold wordsOne; rw [if_neg c0, if_neg c6, if_neg c4, if_neg c7]
          exact ⟨(H2.set 2 X).set 2 (.loop (LDw t)), ⟨1, fun n hn R k => by
            obtain ⟨n, rfl⟩ : ∃ j, n = j + 1 := ⟨n - 1, by omega⟩
            rw [clV_yl, R21_step _ _ _ _ _ _ _ _ _ _ _ _ h2]
            simp [-cells_eT, hlg, hst0, LDw_state, hX, p, q0, q1, q2, q5, b1, c0, c6, c4, c7, hrk0]⟩, by rw [if_pos rfl]; exact inv0 hw0, keep0⟩
end Go.Proofs.YtleikacgncpfbaaDoor

/- Terms: how many words a term takes: the entry. -/
set_option maxRecDepth 100000
set_option maxHeartbeats 4000000
namespace Go.Proofs.YtleikacgncpfbaaDoor
open Go Go.Den
mutual
def wT : Tm → Nat
  | .mk k x d s n l b => wordsOne (.mk k x d s n l b) + (if k = 4 ∨ k = 6 then wTo l else 0)
def wTo : Option (List Tm) → Nat
  | none => 0
  | some l => wTs l
def wTs : List Tm → Nat
  | [] => 0
  | t :: l => wT t + wTs l
end
theorem wT_eq (t : Tm) : wT t = wordsOne t + wTs ((partsO t).getD []) := by
  cases t with
  | mk k x d s n l b =>
    rw [wT]
    unfold partsO Tm.kind Tm.l
    dsimp only
    split
    · cases l with
      | none => rw [wTo]; simp [wTs]
      | some l => rw [wTo]; rfl
    · simp [wTs]
theorem wTs_append : ∀ (a b : List Tm), wTs (a ++ b) = wTs a + wTs b
  | [], b => by simp [wTs]
  | t :: a, b => by simp only [List.cons_append, wTs, wTs_append a b]; omega
theorem wTs_reverse : ∀ a : List Tm, wTs a.reverse = wTs a
  | [] => rfl
  | t :: a => by
    rw [List.reverse_cons, wTs_append, wTs_reverse a]
    simp only [wTs]
    omega
theorem parts_sub {x : Tm} {u : Tm} (h : u ∈ (partsO x).getD []) : u ∈ x.kids := by
  unfold partsO at h
  split at h
  · exact h
  · simp at h
theorem words_visit : ∀ (b : Nat) (st : List Tm) (c s : Nat), (∀ x ∈ st, x.thin 1000 ∧ x.fewd) → c + szs st ≤ 65537 → szs st ≤ b →
    visitB okW (fun _ _ => true) (fun s x => (s.1 + 1, s.2 + wordsOne x)) b st (c, s) = some ((c + szs st, s + wTs st), true)
  | b, [], c, s, _, _, _ => by cases b <;> simp [visitB, szs, wTs]
  | 0, x :: st, c, s, _, _, hb => by
    simp only [szs, szT_eq] at hb
    omega
  | b + 1, x :: st, c, s, hx, hc, hb => by
    simp only [szs, szT_eq x] at hc hb
    have h1 := hx x List.mem_cons_self
    have hok : okW (c, s) x = true := by
      unfold okW
      have h2 := (Tm.thin_eq.1 h1.1).1
      have h3 := (Tm.fewd_eq.1 h1.2).1
      simp only [Bool.and_eq_true, decide_eq_true_eq]
      exact ⟨⟨h3, h2⟩, by omega⟩
    unfold visitB
    rw [if_pos hok, if_pos rfl]
    rw [words_visit b _ (c + 1) (s + wordsOne x) (fun u hu => by
      rcases List.mem_append.1 hu with hu | hu
      · have hk := parts_sub (List.mem_reverse.1 hu)
        exact ⟨(Tm.thin_eq.1 h1.1).2 u hk, (Tm.fewd_eq.1 h1.2).2 u hk⟩
      · exact hx u (List.mem_cons_of_mem _ hu)) (by rw [szs_append, szs_reverse]; omega) (by rw [szs_append, szs_reverse]; omega)]
    simp only [szs_append, szs_reverse, wTs_append, wTs_reverse, szs, wTs, szT_eq x, wT_eq x]
    congr 2
    exact Prod.ext (by dsimp only; omega) (by dsimp only; omega)
noncomputable def pWords : Pol := .still (p1 cT (fun n : Nat => .int .i64 (n : Int)) (fun t => t.thin 1000 ∧ t.fewd ∧ szT t ≤ 65536) wT)
theorem kWords {R : Type} {t : Tm} (h : t.thin 1000) (h2 : t.fewd) (h3 : szT t ≤ 65536) {H : Heap} {k : AV → Heap → Option R} : polK pWords [eT t] H k = k (.int .i64 (wT t : Nat)) H := by
  simp [pWords, polK_imm, h, h2, h3]
theorem okWords : PolOK base 21 pWords := still1 base_ok [(55, pWalk), (77, pWalkWords)] ⟨okWalk, okWalkWords, trivial⟩ fun t ht => by
  have hsz : szs [t] = szT t := by simp [szs]
  have hwt : wTs [t] = wT t := by simp [wTs]
  have hv := words_visit 65537 [t] 0 0 (fun x hx => by simp at hx; rw [hx]; exact ⟨ht.1, ht.2.1⟩) (by rw [hsz]; omega) (by rw [hsz]; omega)
  rw [hsz, Nat.zero_add, Nat.zero_add, hwt] at hv
  have hI0 : InvW t (0, 0) [.row 0 1 3 [.int .i64 0], .row 0 7 26 [eT t], .loop (LDw t), .row 0 7 26 [eT t]] := ⟨by dsimp only; omega, by dsimp only; omega, rfl, rfl⟩
  obtain ⟨H5, hL, hF⟩ := walk_loop (T := TWords1) (Inv := InvW t) (Fin := fun _ _ => False) (B := [0, 2]) (idl := 2) rfl (fun s x H hok hI => words_round t s x H hok hI) (fun s H q o hI hq => by
    obtain ⟨h1, h2, h3, h4⟩ := hI
    simp at hq
    exact ⟨h1, h2, by rw [List.getElem?_set_ne (by omega)]; exact h3, by rw [List.getElem?_set_ne (by omega)]; exact h4⟩) (W := 1000) (by omega) 65537 [t] (0, 0) (szT t, wT t) true (by simpa using hv) (by simp) (fun u hu => by simp at hu; rw [hu]; exact ht.1)
    [.row 0 1 3 [.int .i64 0], .row 0 7 26 [eT t], .loop (LDw t), .row 0 7 26 [eT t]] 3 0 1 [eT t] hI0 (by simp) rfl rfl (by simp)
  generalize wT t = s' at *
  simp only [if_true] at hF hL
  obtain ⟨_, _, f0, f2⟩ := hF
  have hrun : runF base TWords1 77 [.yl 2, .ptr 1 0 0 0] [.row 0 1 3 [.int .i64 0], .row 0 7 26 [eT t], .loop (LDw t)] = some (.tup [], H5) := runF_of (by
    refine Evs.withL hL (Evs.of fun n m h1 _ => ?_)
    have hone : A.fillElems 7 [.agg [.int .i64 0, .bool false, .nils, .str [], .int .i64 0, .nils, .nils]] [(0, 1, eT t)] = some [eT t] := by simp [A.fillElems, cells_eT]
    have hld : A.load true 7 (.ptr 1 0 0 0) [.row 0 1 3 [.int .i64 0], .row 0 7 26 [eT t], .loop (LDw t)] = some (eT t) := by
      have hc : A.ofList true 7 (eT t).cells 0 = some (eT t) := load_eT (H := [])
      simp [-cells_eT, A.load, A.elemAt, hc]
    have h1' : L77_0 (polT TWords1) n n ⟨[.yl 2, .sl 3 0 0 1 1], []⟩ [.row 0 1 3 [.int .i64 0], .row 0 7 26 [eT t], .loop (LDw t), .row 0 7 26 [eT t]] = some (0, ⟨[], []⟩, H5) := h1
    simp [-cells_eT, S77, hld, hone, h1'])
  have hfin : ∀ (x : List HObj), H5[0]? = some (.row 0 1 3 [.int .i64 (s' : Int)]) → A.load false 1 (.ptr 0 0 0 0) (H5.set 2 .dead) = some (.int .i64 (s' : Int)) := fun _ h => by
    have : (H5.set 2 .dead)[0]? = some (.row 0 1 3 [.int .i64 (s' : Int)]) := by rw [List.getElem?_set_ne (by omega)]; exact h
    simp [A.load, A.elemAt, this, A.ofList, AV.cells]
  refine Evs.of fun n m => ?_
  have hst : A.store 1 (.ptr 0 0 0 0) (.int .i64 0) [.row 0 1 3 [.int .i64 0]] = some [.row 0 1 3 [.int .i64 0]] := rfl
  have hof : A.ofList true 7 (eT t).cells 0 = some (eT t) := load_eT (H := [])
  have hcl : (eT t).cells.length = 7 := by rw [cells_eT]; rfl
  have hrf : ∀ (R : Type) (k : AExit → Heap → Option R), rfK (base.with (polT [(55, pWalk), (77, pWalkWords)])) n (.fn (.func 77) [] [.ptr 1 0 0 0]) (LDw t) [.row 0 1 3 [.int .i64 0], .row 0 7 26 [eT t]] k = k .normal (H5.set 2 .dead) := fun R k => by rw [rfK_run (T := [(55, pWalk), (77, pWalkWords)]) (H := [.row 0 1 3 [.int .i64 0], .row 0 7 26 [eT t]]) (L := LDw t) (cap := [.ptr 1 0 0 0]) has77 rfl hrun f2 rfl]; rfl
  unfold LDw at hrf
  simp [-cells_eT, S21, hcl, hst, hof, kWalk, hrf, exitK, hfin [] f0]
end Go.Proofs.YtleikacgncpfbaaDoor

/- Terms: numbers as terms, more. -/
set_option maxRecDepth 100000
set_option maxHeartbeats 2000000
namespace Go.Proofs.YtleikacgncpfbaaDoor
open Go Go.Den
def intT (a : Nm) : Tm := .mk 0 a.1 a.2 [] 0 none none
noncomputable def pTnum : Pol := .still (p1 cN eT (fun a => few a.2) fun a => intT (normS a))
noncomputable def pTint : Pol := .still (p1 (cI .i64) eT (fun n => -9223372036854775808 ≤ n ∧ n ≤ 9223372036854775807) fun n => intT (normS (ofS n)))
end Go.Proofs.YtleikacgncpfbaaDoor

/- Terms: the number that a term is. -/
set_option maxRecDepth 100000
set_option maxHeartbeats 2000000
namespace Go.Proofs.YtleikacgncpfbaaDoor
open Go Go.Den
def numOf (t : Tm) : Nm × Bool := if t.kind = 0 then (normS (t.neg, t.d), true) else ((false, none), false)
noncomputable def pTof : Pol := .still (p1 cT (fun r : Nm × Bool => .tup [eN r.1, .bool r.2]) (fun t => few t.d) numOf)
end Go.Proofs.YtleikacgncpfbaaDoor

/- Terms: may a number be one? -/
set_option maxRecDepth 100000
set_option maxHeartbeats 2000000
namespace Go.Proofs.YtleikacgncpfbaaDoor
open Go Go.Den
def isI (t : Tm) : Prop := ∃ a, t = intT a
noncomputable def pSpareI : Pol := .still (p1 cT .bool isI fun _ => true)
end Go.Proofs.YtleikacgncpfbaaDoor

/- Terms: a number in its plain form may be one. -/
set_option maxRecDepth 100000
set_option maxHeartbeats 2000000
namespace Go.Proofs.YtleikacgncpfbaaDoor
open Go Go.Den
def plainI (t : Tm) : Prop := ∃ a z, t = intT a ∧ Rep a z ∧ (a.2.getD []).length ≤ 64
noncomputable def pOneI : Pol := .still (p1 cT .bool plainI fun _ => true)
end Go.Proofs.YtleikacgncpfbaaDoor

/- Terms: what one is that may be, in plain words. -/
set_option maxRecDepth 100000
set_option maxHeartbeats 2000000
namespace Go.Proofs.YtleikacgncpfbaaDoor
open Go Go.Den
mutual
def evT (p : Tm → Prop) : Tm → Prop
  | .mk k x d s n l b => p (.mk k x d s n l b) ∧ evTo p l
def evTo (p : Tm → Prop) : Option (List Tm) → Prop
  | none => True
  | some l => evTs p l
def evTs (p : Tm → Prop) : List Tm → Prop
  | [] => True
  | t :: l => evT p t ∧ evTs p l
end
theorem evTs_all {p : Tm → Prop} : ∀ {l : List Tm}, evTs p l ↔ ∀ u ∈ l, evT p u
  | [] => by simp [evTs]
  | t :: l => by rw [evTs, evTs_all (l := l)]; simp
theorem evT_eq {p : Tm → Prop} {t : Tm} : evT p t ↔ p t ∧ ∀ u ∈ t.kids, evT p u := by
  cases t with
  | mk k x d s n l b =>
    rw [evT]
    cases l with
    | none => rw [evTo]; simp [Tm.kids, Tm.l]
    | some l => rw [evTo, evTs_all]; rfl
theorem tm_ind {P : Tm → Prop} (h : ∀ t, (∀ u ∈ t.kids, P u) → P t) (t : Tm) : P t := by
  have : ∀ n, ∀ t : Tm, t.size ≤ n → P t := by
    intro n
    induction n with
    | zero =>
      intro t ht
      have := t.size_eq
      omega
    | succ n ih =>
      intro t ht
      exact h t fun u hu => ih u (by have := Tm.size_kid hu; omega)
  exact this t.size t (Nat.le_refl _)
theorem parts_kids {t u : Tm} (h : u ∈ (partsO t).getD []) : u ∈ t.kids := by
  unfold partsO at h
  split at h
  · exact h
  · simp at h
def tameOne (u : Tm) : Prop := (u.d.getD []).length ≤ 1000000 ∧ u.name.length ≤ 1000000 ∧ u.kids.length ≤ 1000
def tame (t : Tm) : Prop := evT tameOne t
theorem tame_eq {t : Tm} : tame t ↔ tameOne t ∧ ∀ u ∈ t.kids, tame u := evT_eq
theorem tame_thin : ∀ t, tame t → t.thin 1000 := tm_ind fun t ih h => by
  rw [tame_eq] at h
  exact Tm.thin_eq.2 ⟨h.1.2.2, fun u hu => ih u hu (h.2 u hu)⟩
theorem tame_fewd : ∀ t, tame t → t.fewd := tm_ind fun t ih h => by
  rw [tame_eq] at h
  exact Tm.fewd_eq.2 ⟨h.1.1, fun u hu => ih u hu (h.2 u hu)⟩
theorem room_tame {most : Int} (hm : most ≤ 1000) : ∀ t dep, roomS t dep most = true → tame t := fun t => tm_ind (P := fun t => ∀ dep, roomS t dep most = true → tame t) (fun t ih dep h => by
  rw [roomS_eq] at h
  simp only [Bool.and_eq_true, Bool.not_eq_true', Bool.or_eq_false_iff, decide_eq_false_iff_not, List.all_eq_true] at h
  obtain ⟨⟨⟨⟨⟨h1, h2⟩, h3⟩, h4⟩, h5⟩, h6⟩ := h
  exact tame_eq.2 ⟨⟨by omega, by omega, by omega⟩, fun u hu => ih u hu _ (h6 u hu)⟩) t
def spareS (t : Tm) : Bool :=
  (decide (t.kind = 0) || (!t.neg && decide ((t.d.getD []).length = 0))) && ((decide (t.kind = 3) || decide (t.kind = 2)) || decide (t.n = 0)) && ((decide (t.kind = 4) || decide (t.kind = 6)) || decide (t.kids.length = 0)) && (decide (t.kind = 1) || decide (t.name = [])) && (decide (t.kind = 7) || decide ((t.b.getD []).length = 0))
def plainN (neg : Bool) (d : List UInt32) : Bool := match d.getLast? with
  | none => !neg
  | some x => decide (x ≠ 0)
def oneS (cnt : List UInt8 → Int) (t : Tm) : Bool := spareS t && (
  if t.kind = 0 then decide ((t.d.getD []).length ≤ 64) && plainN t.neg (t.d.getD [])
  else if t.kind = 1 then decide (0 ≤ cnt t.name) && decide (cnt t.name ≤ 255)
  else if t.kind = 2 ∨ t.kind = 3 then decide (0 ≤ t.n) && decide (t.n ≤ 1073741824)
  else if t.kind = 4 then decide (t.kids.length ≤ 255)
  else if t.kind = 6 then decide (t.kids.length = 2)
  else if t.kind = 7 then decide ((t.b.getD []).length ≤ 4096)
  else decide (t.kind = 5))
mutual
def mayT (cnt : List UInt8 → Int) : Tm → Bool
  | .mk k x d s n l b => oneS cnt (.mk k x d s n l b) && (if k = 4 ∨ k = 6 then mayTo cnt l else true)
def mayTo (cnt : List UInt8 → Int) : Option (List Tm) → Bool
  | none => true
  | some l => mayTs cnt l
def mayTs (cnt : List UInt8 → Int) : List Tm → Bool
  | [] => true
  | t :: l => mayT cnt t && mayTs cnt l
end
theorem mayTs_all {cnt : List UInt8 → Int} : ∀ l : List Tm, mayTs cnt l = l.all (mayT cnt)
  | [] => by simp [mayTs]
  | t :: l => by rw [mayTs, mayTs_all l]; rfl
theorem mayT_eq {cnt : List UInt8 → Int} (t : Tm) : mayT cnt t = (oneS cnt t && ((partsO t).getD []).all (mayT cnt)) := by
  cases t with
  | mk k x d s n l b =>
    rw [mayT]
    unfold partsO Tm.kind Tm.l
    dsimp only
    split
    · cases l with
      | none => rw [mayTo]; rfl
      | some l => rw [mayTo, mayTs_all]; rfl
    · rfl
theorem may_visit {cnt : List UInt8 → Int} : ∀ (b : Nat) (st : List Tm) (s : Nat), s ≤ 65536 → (∀ u ∈ st, tame u) → min (szs st) (65537 - s) ≤ b →
    ∃ s', visitB (fun _ x => decide ((x.d.getD []).length ≤ 1000000) && decide (x.name.length ≤ 1000000)) (fun (s : Nat) (x : Tm) => decide (s + 1 ≤ 65536) && oneS cnt x) (fun s _ => s + 1) b st s = some (s', decide (s + szs st ≤ 65536) && st.all (mayT cnt))
  | b, [], s, hs, _, _ => by
    have h0 : szs [] = 0 := by rw [szs]
    have e2 : decide (s + 0 ≤ 65536) = true := by simpa using hs
    refine ⟨s, ?_⟩
    cases b <;> (unfold visitB; rw [h0, e2]; rfl)
  | 0, x :: st, s, hs, _, hb => by
    rw [szs, szT_eq] at hb
    omega
  | b + 1, x :: st, s, hs, ht, hb => by
    unfold visitB
    have hx := (tame_eq.1 (ht x (by simp))).1
    rw [if_pos (by simp [hx.1, hx.2.1]), szs, szT_eq]
    rw [szs, szT_eq] at hb
    rw [List.all_cons, mayT_eq x]
    by_cases h : s + 1 ≤ 65536
    · cases ho : oneS cnt x
      · refine ⟨s + 1, ?_⟩
        rw [if_neg (by simp)]
        simp
      · rw [if_pos (by simp [h])]
        obtain ⟨s', hv⟩ := may_visit b (((partsO x).getD []).reverse ++ st) (s + 1) h (fun u hu => by
          rcases List.mem_append.1 hu with hu | hu
          · exact (tame_eq.1 (ht x (by simp))).2 u (parts_kids (List.mem_reverse.1 hu))
          · exact ht u (by simp [hu])) (by rw [szs_append, szs_reverse]; omega)
        refine ⟨s', ?_⟩
        rw [hv, szs_append, szs_reverse, List.all_append, List.all_reverse]
        congr 2
        rw [Bool.true_and]
        congr 1
        exact decide_eq_decide.2 (by omega)
    · refine ⟨s + 1, ?_⟩
      rw [if_neg (by simp [h])]
      have e2 : ¬ s + (1 + szs ((partsO x).getD []) + szs st) ≤ 65536 := by omega
      simp [e2]
theorem lim_ends {n : Nat} {x : UInt32} (h : (lim n).getLast? = some x) : x ≠ 0 := by
  by_cases hn : n = 0
  · subst hn
    rw [lim_zero] at h
    cases h
  · obtain ⟨y, hy, h0⟩ := lim_last hn
    rw [h] at hy
    injection hy with hy
    rw [hy]
    exact h0
theorem same_plain {neg : Bool} {d : Option (List UInt32)} : sameS (neg, d) (rnormS (neg, d)) = plainN neg (d.getD []) := by
  have hg : ∀ l : List UInt32, (nz l).getD [] = l := fun l => by cases l <;> rfl
  unfold sameS rnormS plainN
  dsimp only
  rw [hg]
  generalize d.getD [] = l
  cases h : l.getLast? with
  | none =>
    have : l = [] := List.getLast?_eq_none_iff.1 h
    subst this
    simp [val, lim_zero]
  | some x =>
    dsimp only
    by_cases hx : x = 0
    · have hne : ¬ l = lim (val l) := fun e => by
        rw [e] at h
        exact lim_ends h hx
      simp [hx, hne]
    · have e : lim (val l) = l := lim_val_last (fun y hy => by
        rw [h] at hy
        injection hy with hy
        rw [← hy]
        exact hx)
      have hl : 0 < l.length := by
        cases l with
        | nil => cases h
        | cons => simp
      rw [e]
      simp [hx, hl]
end Go.Proofs.YtleikacgncpfbaaDoor

/- Terms: whether the fields that a kind does not use are zero. -/
set_option maxRecDepth 100000
set_option maxHeartbeats 4000000
namespace Go.Proofs.YtleikacgncpfbaaDoor
open Go Go.Den
noncomputable def pSpare : Pol := .still (p1 cT .bool (fun _ => True) spareS)
theorem kSpare {R : Type} {t : Tm} {H : Heap} {k : AV → Heap → Option R} : polK pSpare [eT t] H k = k (.bool (spareS t)) H := by
  simp [pSpare, polK_imm]
theorem str_nil {t : TypeId} {c : Bool} {H : Heap} (s : List UInt8) : A.bin base.P .eql t (.str s) (.str []) c H = some (.bool (decide (s = []))) := by
  cases s <;> rfl
theorem okSpare : PolOK base 78 pSpare := still1 base_ok [] trivial fun t _ => by
  have hB : Go.Den.Box [.row 0 7 26 [eT t]] 0 7 26 (eT t).cells := box_eT t _ 0 rfl
  have p := fun o => hB.fa (o := o)
  have q := fun o => hB.load (o := o)
  rw [cells_eT] at q
  have q0 := q 0
  have q1 := q 1
  have q2 := q 2
  have q3 := q 3
  have q4 := q 4
  have q5 := q 5
  have q6 := q 6
  simp only [List.getElem?_cons_succ, List.getElem?_cons_zero] at q0 q1 q2 q3 q4 q5 q6
  have hl5 := len_eL (sz := 7) (e := eT) (H := [.row 0 7 26 [eT t]]) (o := t.l)
  have hl2 : A.len (eD t.d) [.row 0 7 26 [eT t]] = some (.int .i64 ((t.d.getD []).length : Int)) := len_eL
  have hl6 := len_eL (sz := 1) (e := eb) (H := [.row 0 7 26 [eT t]]) (o := t.b)
  have hs := fun H => str_nil (t := 9) (c := true) (H := H) t.name
  have hs0 : ∀ H, A.bin base.P .eql 9 (.str []) (.str []) true H = some (.bool true) := fun H => rfl
  have hk : t.kids.length = (t.l.getD []).length := rfl
  unfold spareS
  rw [hk]
  generalize (t.l.getD []).length = nl at *
  generalize (t.d.getD []).length = nd at *
  generalize (t.b.getD []).length = nb at *
  generalize t.kind = kd at *
  generalize t.neg = ng at *
  generalize t.n = nn at *
  generalize eL 7 eT t.l = vl at *
  generalize eD t.d = vd at *
  generalize eL 1 eb t.b = vb at *
  by_cases c0 : kd = 0
  case pos =>
    by_cases a3 : nn = 0
    case neg => exact Evs.of fun n m => by simp [↓bindV_eq, ↓bindH_eq, ↓withV_of, ↓withP_some, ↓withB_some, ↓chkD_true, S78, p, q0, q4, c0, a3]
    by_cases a4 : nl = 0
    case neg => exact Evs.of fun n m => by simp [↓bindV_eq, ↓bindH_eq, ↓withV_of, ↓withP_some, ↓withB_some, ↓chkD_true, S78, p, q0, q4, q5, hl5, c0, a3, a4]
    by_cases a5 : t.name = []
    case neg => exact Evs.of fun n m => by simp [↓bindV_eq, ↓bindH_eq, ↓withV_of, ↓withP_some, ↓withB_some, ↓chkD_true, S78, p, q0, q3, q4, q5, hl5, hs, c0, a3, a4, a5]
    by_cases a6 : nb = 0
    case neg => exact Evs.of fun n m => by simp [↓bindV_eq, ↓bindH_eq, ↓withV_of, ↓withP_some, ↓withB_some, ↓chkD_true, S78, p, q0, q3, q4, q5, q6, hl5, hl6, hs0, c0, a3, a4, a5, a6]
    exact Evs.of fun n m => by simp [↓bindV_eq, ↓bindH_eq, ↓withV_of, ↓withP_some, ↓withB_some, ↓chkD_true, S78, p, q0, q3, q4, q5, q6, hl5, hl6, hs0, c0, a3, a4, a5, a6]
  by_cases c1 : kd = 1
  case pos =>
    by_cases a1 : ng = true
    case pos => exact Evs.of fun n m => by simp [↓bindV_eq, ↓bindH_eq, ↓withV_of, ↓withP_some, ↓withB_some, ↓chkD_true, S78, p, q0, q1, c1, a1]
    by_cases a2 : nd = 0
    case neg => exact Evs.of fun n m => by simp [↓bindV_eq, ↓bindH_eq, ↓withV_of, ↓withP_some, ↓withB_some, ↓chkD_true, S78, p, q0, q1, q2, hl2, c1, a1, a2]
    by_cases a3 : nn = 0
    case neg => exact Evs.of fun n m => by simp [↓bindV_eq, ↓bindH_eq, ↓withV_of, ↓withP_some, ↓withB_some, ↓chkD_true, S78, p, q0, q1, q2, q4, hl2, c1, a1, a2, a3]
    by_cases a4 : nl = 0
    case neg => exact Evs.of fun n m => by simp [↓bindV_eq, ↓bindH_eq, ↓withV_of, ↓withP_some, ↓withB_some, ↓chkD_true, S78, p, q0, q1, q2, q4, q5, hl5, hl2, c1, a1, a2, a3, a4]
    by_cases a6 : nb = 0
    case neg => exact Evs.of fun n m => by simp [↓bindV_eq, ↓bindH_eq, ↓withV_of, ↓withP_some, ↓withB_some, ↓chkD_true, S78, p, q0, q1, q2, q4, q5, q6, hl5, hl2, hl6, c1, a1, a2, a3, a4, a6]
    exact Evs.of fun n m => by simp [↓bindV_eq, ↓bindH_eq, ↓withV_of, ↓withP_some, ↓withB_some, ↓chkD_true, S78, p, q0, q1, q2, q4, q5, q6, hl5, hl2, hl6, c1, a1, a2, a3, a4, a6]
  by_cases c2 : kd = 2
  case pos =>
    by_cases a1 : ng = true
    case pos => exact Evs.of fun n m => by simp [↓bindV_eq, ↓bindH_eq, ↓withV_of, ↓withP_some, ↓withB_some, ↓chkD_true, S78, p, q0, q1, c2, a1]
    by_cases a2 : nd = 0
    case neg => exact Evs.of fun n m => by simp [↓bindV_eq, ↓bindH_eq, ↓withV_of, ↓withP_some, ↓withB_some, ↓chkD_true, S78, p, q0, q1, q2, hl2, c2, a1, a2]
    by_cases a4 : nl = 0
    case neg => exact Evs.of fun n m => by simp [↓bindV_eq, ↓bindH_eq, ↓withV_of, ↓withP_some, ↓withB_some, ↓chkD_true, S78, p, q0, q1, q2, q5, hl5, hl2, c2, a1, a2, a4]
    by_cases a5 : t.name = []
    case neg => exact Evs.of fun n m => by simp [↓bindV_eq, ↓bindH_eq, ↓withV_of, ↓withP_some, ↓withB_some, ↓chkD_true, S78, p, q0, q1, q2, q3, q5, hl5, hl2, hs, c2, a1, a2, a4, a5]
    by_cases a6 : nb = 0
    case neg => exact Evs.of fun n m => by simp [↓bindV_eq, ↓bindH_eq, ↓withV_of, ↓withP_some, ↓withB_some, ↓chkD_true, S78, p, q0, q1, q2, q3, q5, q6, hl5, hl2, hl6, hs0, c2, a1, a2, a4, a5, a6]
    exact Evs.of fun n m => by simp [↓bindV_eq, ↓bindH_eq, ↓withV_of, ↓withP_some, ↓withB_some, ↓chkD_true, S78, p, q0, q1, q2, q3, q5, q6, hl5, hl2, hl6, hs0, c2, a1, a2, a4, a5, a6]
  by_cases c3 : kd = 3
  case pos =>
    by_cases a1 : ng = true
    case pos => exact Evs.of fun n m => by simp [↓bindV_eq, ↓bindH_eq, ↓withV_of, ↓withP_some, ↓withB_some, ↓chkD_true, S78, p, q0, q1, c3, a1]
    by_cases a2 : nd = 0
    case neg => exact Evs.of fun n m => by simp [↓bindV_eq, ↓bindH_eq, ↓withV_of, ↓withP_some, ↓withB_some, ↓chkD_true, S78, p, q0, q1, q2, hl2, c3, a1, a2]
    by_cases a4 : nl = 0
    case neg => exact Evs.of fun n m => by simp [↓bindV_eq, ↓bindH_eq, ↓withV_of, ↓withP_some, ↓withB_some, ↓chkD_true, S78, p, q0, q1, q2, q5, hl5, hl2, c3, a1, a2, a4]
    by_cases a5 : t.name = []
    case neg => exact Evs.of fun n m => by simp [↓bindV_eq, ↓bindH_eq, ↓withV_of, ↓withP_some, ↓withB_some, ↓chkD_true, S78, p, q0, q1, q2, q3, q5, hl5, hl2, hs, c3, a1, a2, a4, a5]
    by_cases a6 : nb = 0
    case neg => exact Evs.of fun n m => by simp [↓bindV_eq, ↓bindH_eq, ↓withV_of, ↓withP_some, ↓withB_some, ↓chkD_true, S78, p, q0, q1, q2, q3, q5, q6, hl5, hl2, hl6, hs0, c3, a1, a2, a4, a5, a6]
    exact Evs.of fun n m => by simp [↓bindV_eq, ↓bindH_eq, ↓withV_of, ↓withP_some, ↓withB_some, ↓chkD_true, S78, p, q0, q1, q2, q3, q5, q6, hl5, hl2, hl6, hs0, c3, a1, a2, a4, a5, a6]
  by_cases c4 : kd = 4
  case pos =>
    by_cases a1 : ng = true
    case pos => exact Evs.of fun n m => by simp [↓bindV_eq, ↓bindH_eq, ↓withV_of, ↓withP_some, ↓withB_some, ↓chkD_true, S78, p, q0, q1, c4, a1]
    by_cases a2 : nd = 0
    case neg => exact Evs.of fun n m => by simp [↓bindV_eq, ↓bindH_eq, ↓withV_of, ↓withP_some, ↓withB_some, ↓chkD_true, S78, p, q0, q1, q2, hl2, c4, a1, a2]
    by_cases a3 : nn = 0
    case neg => exact Evs.of fun n m => by simp [↓bindV_eq, ↓bindH_eq, ↓withV_of, ↓withP_some, ↓withB_some, ↓chkD_true, S78, p, q0, q1, q2, q4, hl2, c4, a1, a2, a3]
    by_cases a5 : t.name = []
    case neg => exact Evs.of fun n m => by simp [↓bindV_eq, ↓bindH_eq, ↓withV_of, ↓withP_some, ↓withB_some, ↓chkD_true, S78, p, q0, q1, q2, q3, q4, hl2, hs, c4, a1, a2, a3, a5]
    by_cases a6 : nb = 0
    case neg => exact Evs.of fun n m => by simp [↓bindV_eq, ↓bindH_eq, ↓withV_of, ↓withP_some, ↓withB_some, ↓chkD_true, S78, p, q0, q1, q2, q3, q4, q6, hl2, hl6, hs0, c4, a1, a2, a3, a5, a6]
    exact Evs.of fun n m => by simp [↓bindV_eq, ↓bindH_eq, ↓withV_of, ↓withP_some, ↓withB_some, ↓chkD_true, S78, p, q0, q1, q2, q3, q4, q6, hl2, hl6, hs0, c4, a1, a2, a3, a5, a6]
  by_cases c6 : kd = 6
  case pos =>
    by_cases a1 : ng = true
    case pos => exact Evs.of fun n m => by simp [↓bindV_eq, ↓bindH_eq, ↓withV_of, ↓withP_some, ↓withB_some, ↓chkD_true, S78, p, q0, q1, c6, a1]
    by_cases a2 : nd = 0
    case neg => exact Evs.of fun n m => by simp [↓bindV_eq, ↓bindH_eq, ↓withV_of, ↓withP_some, ↓withB_some, ↓chkD_true, S78, p, q0, q1, q2, hl2, c6, a1, a2]
    by_cases a3 : nn = 0
    case neg => exact Evs.of fun n m => by simp [↓bindV_eq, ↓bindH_eq, ↓withV_of, ↓withP_some, ↓withB_some, ↓chkD_true, S78, p, q0, q1, q2, q4, hl2, c6, a1, a2, a3]
    by_cases a5 : t.name = []
    case neg => exact Evs.of fun n m => by simp [↓bindV_eq, ↓bindH_eq, ↓withV_of, ↓withP_some, ↓withB_some, ↓chkD_true, S78, p, q0, q1, q2, q3, q4, hl2, hs, c6, a1, a2, a3, a5]
    by_cases a6 : nb = 0
    case neg => exact Evs.of fun n m => by simp [↓bindV_eq, ↓bindH_eq, ↓withV_of, ↓withP_some, ↓withB_some, ↓chkD_true, S78, p, q0, q1, q2, q3, q4, q6, hl2, hl6, hs0, c6, a1, a2, a3, a5, a6]
    exact Evs.of fun n m => by simp [↓bindV_eq, ↓bindH_eq, ↓withV_of, ↓withP_some, ↓withB_some, ↓chkD_true, S78, p, q0, q1, q2, q3, q4, q6, hl2, hl6, hs0, c6, a1, a2, a3, a5, a6]
  by_cases c7 : kd = 7
  case pos =>
    by_cases a1 : ng = true
    case pos => exact Evs.of fun n m => by simp [↓bindV_eq, ↓bindH_eq, ↓withV_of, ↓withP_some, ↓withB_some, ↓chkD_true, S78, p, q0, q1, c7, a1]
    by_cases a2 : nd = 0
    case neg => exact Evs.of fun n m => by simp [↓bindV_eq, ↓bindH_eq, ↓withV_of, ↓withP_some, ↓withB_some, ↓chkD_true, S78, p, q0, q1, q2, hl2, c7, a1, a2]
    by_cases a3 : nn = 0
    case neg => exact Evs.of fun n m => by simp [↓bindV_eq, ↓bindH_eq, ↓withV_of, ↓withP_some, ↓withB_some, ↓chkD_true, S78, p, q0, q1, q2, q4, hl2, c7, a1, a2, a3]
    by_cases a4 : nl = 0
    case neg => exact Evs.of fun n m => by simp [↓bindV_eq, ↓bindH_eq, ↓withV_of, ↓withP_some, ↓withB_some, ↓chkD_true, S78, p, q0, q1, q2, q4, q5, hl5, hl2, c7, a1, a2, a3, a4]
    by_cases a5 : t.name = []
    case neg => exact Evs.of fun n m => by simp [↓bindV_eq, ↓bindH_eq, ↓withV_of, ↓withP_some, ↓withB_some, ↓chkD_true, S78, p, q0, q1, q2, q3, q4, q5, hl5, hl2, hs, c7, a1, a2, a3, a4, a5]
    exact Evs.of fun n m => by simp [↓bindV_eq, ↓bindH_eq, ↓withV_of, ↓withP_some, ↓withB_some, ↓chkD_true, S78, p, q0, q1, q2, q3, q4, q5, hl5, hl2, hs0, c7, a1, a2, a3, a4, a5]
  by_cases a1 : ng = true
  case pos => exact Evs.of fun n m => by simp [↓bindV_eq, ↓bindH_eq, ↓withV_of, ↓withP_some, ↓withB_some, ↓chkD_true, S78, p, q0, q1, c0, c1, c2, c3, c4, c6, c7, a1]
  by_cases a2 : nd = 0
  case neg => exact Evs.of fun n m => by simp [↓bindV_eq, ↓bindH_eq, ↓withV_of, ↓withP_some, ↓withB_some, ↓chkD_true, S78, p, q0, q1, q2, hl2, c0, c1, c2, c3, c4, c6, c7, a1, a2]
  by_cases a3 : nn = 0
  case neg => exact Evs.of fun n m => by simp [↓bindV_eq, ↓bindH_eq, ↓withV_of, ↓withP_some, ↓withB_some, ↓chkD_true, S78, p, q0, q1, q2, q4, hl2, c0, c1, c2, c3, c4, c6, c7, a1, a2, a3]
  by_cases a4 : nl = 0
  case neg => exact Evs.of fun n m => by simp [↓bindV_eq, ↓bindH_eq, ↓withV_of, ↓withP_some, ↓withB_some, ↓chkD_true, S78, p, q0, q1, q2, q4, q5, hl5, hl2, c0, c1, c2, c3, c4, c6, c7, a1, a2, a3, a4]
  by_cases a5 : t.name = []
  case neg => exact Evs.of fun n m => by simp [↓bindV_eq, ↓bindH_eq, ↓withV_of, ↓withP_some, ↓withB_some, ↓chkD_true, S78, p, q0, q1, q2, q3, q4, q5, hl5, hl2, hs, c0, c1, c2, c3, c4, c6, c7, a1, a2, a3, a4, a5]
  by_cases a6 : nb = 0
  case neg => exact Evs.of fun n m => by simp [↓bindV_eq, ↓bindH_eq, ↓withV_of, ↓withP_some, ↓withB_some, ↓chkD_true, S78, p, q0, q1, q2, q3, q4, q5, q6, hl5, hl2, hl6, hs0, c0, c1, c2, c3, c4, c6, c7, a1, a2, a3, a4, a5, a6]
  exact Evs.of fun n m => by simp [↓bindV_eq, ↓bindH_eq, ↓withV_of, ↓withP_some, ↓withB_some, ↓chkD_true, S78, p, q0, q1, q2, q3, q4, q5, q6, hl5, hl2, hl6, hs0, c0, c1, c2, c3, c4, c6, c7, a1, a2, a3, a4, a5, a6]
end Go.Proofs.YtleikacgncpfbaaDoor

/- Texts: is one well-formed: it is found out, one way or the other. -/
set_option maxRecDepth 100000
set_option maxHeartbeats 4000000
namespace Go.Proofs.YtleikacgncpfbaaDoor
open Go Go.Den
def andI (k : IntKind) (a b : Int) : Int := k.wrap ((BitVec.ofInt k.bits a &&& BitVec.ofInt k.bits b).toNat : Int)
def orI (k : IntKind) (a b : Int) : Int := k.wrap ((BitVec.ofInt k.bits a ||| BitVec.ofInt k.bits b).toNat : Int)
theorem bin_andI {P : Program} {t : TypeId} {k : IntKind} {a b : Int} {c : Bool} {H : Heap} : A.bin P .and t (.int k a) (.int k b) c H = some (.int k (andI k a b)) := by
  simp [A.bin, A.binInt, A.bits, andI]
theorem bin_orI {P : Program} {t : TypeId} {k : IntKind} {a b : Int} {c : Bool} {H : Heap} : A.bin P .or t (.int k a) (.int k b) c H = some (.int k (orI k a b)) := by
  simp [A.bin, A.binInt, A.bits, orI]
theorem slice_str {s : List UInt8} {i : Nat} {k : IntKind} (h : i ≤ s.length) : A.sliceStr (.str s) (some (.int k (i : Int))) none = some (.str (s.drop i)) := by
  have e : (s.drop i).take (s.length - i) = s.drop i := List.take_of_length_le (by simp)
  simp [A.sliceStr, A.bound, h, e]
theorem len_str {s : List UInt8} : A.lenStr (.str s) = some (.int .i64 (s.length : Int)) := rfl
/-! ### eight bytes as a word -/
theorem cv_8_int (n : Int) (j : IntKind) : Go.Den.convert base 5 3 (.int j n) = some (.int .i64 (IntKind.wrap .i64 n)) := conv_int (x := .int .u8) (by kernel_rfl) (by kernel_rfl)
theorem frz_i {k : IntKind} {x : Int} {H : Heap} : A.freezeB true 64 H (.int k x) = some (.int k x) := rfl
theorem word_ex (s : List UInt8) (h : 8 ≤ s.length) : ∃ v : Int, ∀ n, callF (base.with (polT [])) (n + 1) AV 106 [.str s] [] (fun v G => A.freezeB true 64 G v) = some (.int .u64 v) := by
  obtain ⟨c0, c1, c2, c3, c4, c5, c6, c7, r, rfl⟩ : ∃ c0 c1 c2 c3 c4 c5 c6 c7 r, s = c0 :: c1 :: c2 :: c3 :: c4 :: c5 :: c6 :: c7 :: r := by
    match s, h with
    | c0 :: c1 :: c2 :: c3 :: c4 :: c5 :: c6 :: c7 :: r, _ => exact ⟨c0, c1, c2, c3, c4, c5, c6, c7, r, rfl⟩
  have x0 : A.index (.str (c0 :: c1 :: c2 :: c3 :: c4 :: c5 :: c6 :: c7 :: r)) (.int .i64 0) = some (.int .u8 (c0.toNat : Int)) := rfl
  have x1 : A.index (.str (c0 :: c1 :: c2 :: c3 :: c4 :: c5 :: c6 :: c7 :: r)) (.int .i64 1) = some (.int .u8 (c1.toNat : Int)) := rfl
  have x2 : A.index (.str (c0 :: c1 :: c2 :: c3 :: c4 :: c5 :: c6 :: c7 :: r)) (.int .i64 2) = some (.int .u8 (c2.toNat : Int)) := rfl
  have x3 : A.index (.str (c0 :: c1 :: c2 :: c3 :: c4 :: c5 :: c6 :: c7 :: r)) (.int .i64 3) = some (.int .u8 (c3.toNat : Int)) := rfl
  have x4 : A.index (.str (c0 :: c1 :: c2 :: c3 :: c4 :: c5 :: c6 :: c7 :: r)) (.int .i64 4) = some (.int .u8 (c4.toNat : Int)) := rfl
  have x5 : A.index (.str (c0 :: c1 :: c2 :: c3 :: c4 :: c5 :: c6 :: c7 :: r)) (.int .i64 5) = some (.int .u8 (c5.toNat : Int)) := rfl
  have x6 : A.index (.str (c0 :: c1 :: c2 :: c3 :: c4 :: c5 :: c6 :: c7 :: r)) (.int .i64 6) = some (.int .u8 (c6.toNat : Int)) := rfl
  have x7 : A.index (.str (c0 :: c1 :: c2 :: c3 :: c4 :: c5 :: c6 :: c7 :: r)) (.int .i64 7) = some (.int .u8 (c7.toNat : Int)) := rfl
  generalize (c0 :: c1 :: c2 :: c3 :: c4 :: c5 :: c6 :: c7 :: r) = s at *
  refine ⟨?_, fun n => ?_⟩
  rotate_left
  · rw [S106]
    have h8 : ¬ (8 : Int) < 0 := by decide
    have h16 : ¬ (16 : Int) < 0 := by decide
    have h24 : ¬ (24 : Int) < 0 := by decide
    have h32 : ¬ (32 : Int) < 0 := by decide
    have h40 : ¬ (40 : Int) < 0 := by decide
    have h48 : ¬ (48 : Int) < 0 := by decide
    have h56 : ¬ (56 : Int) < 0 := by decide
    rw [test_bool]
    simp only [x0, x1, x2, x3, x4, x5, x6, x7]
    exact frz_i (H := [])
noncomputable def wordV (s : List UInt8) : Int := open Classical in if h : 8 ≤ s.length then (word_ex s h).choose else 0
noncomputable def pWord : Pol := .still (p1 cS (.int .u64) (fun s => 8 ≤ s.length) wordV)
theorem okWord : PolOK base 106 pWord := still1 base_ok [] trivial fun s h => Evs.of fun n _ => by
  have := (word_ex s h).choose_spec n
  unfold wordV
  rw [dif_pos h]
  exact this
theorem kWord {R : Type} {s : List UInt8} (h : 8 ≤ s.length) {H : Heap} {k : AV → Heap → Option R} : polK pWord [.str s] H k = k (.int .u64 (wordV s)) H := by
  simp [pWord, polK_imm, h]
/-! ### the tables -/
theorem first_all : ((base.glob 0).getD []).length = 256 ∧ ((base.glob 0).getD []).all (fun v => match v with | .int .u8 n => decide (0 ≤ n) && decide (n < 256) | _ => false) = true := by
  constructor <;> kernel_rfl
theorem first_ex (z : Int) (h0 : 0 ≤ z) (h1 : z < 256) : ∃ (p : AV) (x : Int), 0 ≤ x ∧ x < 256 ∧ ∀ H, A.idxArr 1 256 (globV base 0) (.int .u8 z) H = some p ∧ A.load false 1 p H = some (.int .u8 x) := by
  obtain ⟨hl, ha⟩ := first_all
  unfold globV
  generalize (base.glob 0).getD [] = cs at *
  have hz : z.toNat < cs.length := by omega
  have hm : cs[z.toNat] ∈ cs := List.getElem_mem hz
  have hx := List.all_eq_true.1 ha _ hm
  generalize hv : cs[z.toNat] = v at hx
  split at hx
  · rename_i n
    simp only [Bool.and_eq_true, decide_eq_true_eq] at hx
    refine ⟨.rop (cs.drop z.toNat), n, hx.1, hx.2, fun H => ⟨?_, ?_⟩⟩
    · have : 0 ≤ z ∧ z < ((256 : Nat) : Int) := ⟨h0, by omega⟩
      show (if 0 ≤ z ∧ z < ((256 : Nat) : Int) then A.fa (z.toNat * 1) (.rop cs) H else none) = _
      rw [if_pos this, Nat.mul_one]
      rfl
    · show A.ofList false 1 (cs.drop z.toNat) 0 = _
      simp [A.ofList, hz, hv]
  · cases hx
theorem acc_all : ((base.glob 1).getD []).length = 32 ∧ ((base.glob 1).getD []).all (fun v => match v with | .int .u8 n => decide (0 ≤ n) && decide (n < 256) | _ => false) = true := by
  constructor <;> kernel_rfl
theorem acc_ex (z : Int) (h0 : 0 ≤ z) (h1 : z < 16) : ∃ (p : AV) (lo hi : Int), ∀ H, A.idxArr 2 16 (globV base 1) (.int .u8 z) H = some p ∧ A.load true 2 p H = some (.agg [.int .u8 lo, .int .u8 hi]) := by
  obtain ⟨hl, ha⟩ := acc_all
  unfold globV
  generalize (base.glob 1).getD [] = cs at *
  have hz : z.toNat * 2 + 1 < cs.length := by omega
  have e1 : ∃ n, cs[z.toNat * 2] = .int .u8 n := by
    have hx := List.all_eq_true.1 ha _ (List.getElem_mem (show z.toNat * 2 < cs.length by omega))
    generalize hv : cs[z.toNat * 2] = v at hx
    split at hx
    · exact ⟨_, rfl⟩
    · cases hx
  have e2 : ∃ n, cs[z.toNat * 2 + 1] = .int .u8 n := by
    have hx := List.all_eq_true.1 ha _ (List.getElem_mem hz)
    generalize hv : cs[z.toNat * 2 + 1] = v at hx
    split at hx
    · exact ⟨_, rfl⟩
    · cases hx
  obtain ⟨lo, e1⟩ := e1
  obtain ⟨hi, e2⟩ := e2
  refine ⟨.rop (cs.drop (z.toNat * 2)), lo, hi, fun H => ⟨?_, ?_⟩⟩
  · have : 0 ≤ z ∧ z < ((16 : Nat) : Int) := ⟨h0, by omega⟩
    show (if 0 ≤ z ∧ z < ((16 : Nat) : Int) then A.fa (z.toNat * 2) (.rop cs) H else none) = _
    rw [if_pos this]
    rfl
  · show A.ofList true 2 (cs.drop (z.toNat * 2)) 0 = _
    have hd : cs.drop (z.toNat * 2) = .int .u8 lo :: .int .u8 hi :: cs.drop (z.toNat * 2 + 2) := by
      rw [List.drop_eq_getElem_cons (show z.toNat * 2 < cs.length by omega), e1, List.drop_eq_getElem_cons hz, e2]
    rw [hd]
    simp [A.ofList]
theorem shr4 {P : Program} {t : TypeId} {j : IntKind} {a : Int} {c : Bool} (h0 : 0 ≤ a) (h1 : a < 256) : ∃ w, 0 ≤ w ∧ w < 16 ∧ ∀ H, A.bin P .shr t (.int .u8 a) (.int j 4) c H = some (.int .u8 w) := by
  refine ⟨a.fdiv 16, ?_, ?_, fun H => ?_⟩
  · exact Int.fdiv_nonneg h0 (by omega)
  · rw [Int.fdiv_eq_ediv_of_nonneg _ (by omega)]
    omega
  · simp [A.bin, A.binInt, IntKind.bits]
end Go.Proofs.YtleikacgncpfbaaDoor

/- Texts: is one well-formed: the loops. -/
set_option maxRecDepth 100000
set_option maxHeartbeats 4000000
namespace Go.Proofs.YtleikacgncpfbaaDoor
open Go Go.Den
noncomputable abbrev TVal : List (FuncId × Pol) := [(106, pWord)]
theorem valid_skip : ∀ (N : Nat) (s : List UInt8), s.length ≤ N → ∀ H : Heap, ∃ s' : List UInt8, s'.length ≤ s.length ∧ LDoes (L99_1 (polT TVal)) ⟨[.str s], []⟩ H 0 ⟨[.str s'], []⟩ H
  | N, s, hN, H => by
    by_cases h : 32 < s.length
    · have hlt : (32 : Int) < (s.length : Int) := by omega
      have d8 := slice_str (s := s) (k := .i64) (i := 8) (by omega)
      have d16 := slice_str (s := s) (k := .i64) (i := 16) (by omega)
      have d24 := slice_str (s := s) (k := .i64) (i := 24) (by omega)
      have d32 := slice_str (s := s) (k := .i64) (i := 32) (by omega)
      have e8 : 8 ≤ s.length - 8 := by omega
      have e16 : 8 ≤ s.length - 16 := by omega
      have e24 : 8 ≤ s.length - 24 := by omega
      have e0 : 8 ≤ s.length := by omega
      have w0 : ∀ (R : Type) (H : Heap) (k : AV → Heap → Option R), polK pWord [.str s] H k = k (.int .u64 (wordV s)) H := fun R H k => kWord e0
      have w8 : ∀ (R : Type) (H : Heap) (k : AV → Heap → Option R), polK pWord [.str (s.drop 8)] H k = k (.int .u64 (wordV (s.drop 8))) H := fun R H k => kWord (by simpa using e8)
      have w16 : ∀ (R : Type) (H : Heap) (k : AV → Heap → Option R), polK pWord [.str (s.drop 16)] H k = k (.int .u64 (wordV (s.drop 16))) H := fun R H k => kWord (by simpa using e16)
      have w24 : ∀ (R : Type) (H : Heap) (k : AV → Heap → Option R), polK pWord [.str (s.drop 24)] H k = k (.int .u64 (wordV (s.drop 24))) H := fun R H k => kWord (by simpa using e24)
      have hl : A.lenStr (.str s) = some (.int .i64 (s.length : Int)) := len_str
      generalize wordV s = a0 at *
      generalize wordV (s.drop 8) = a8 at *
      generalize wordV (s.drop 16) = a16 at *
      generalize wordV (s.drop 24) = a24 at *
      simp only [Int.cast_ofNat_Int] at d8 d16 d24 d32
      by_cases hc : andI .u64 (orI .u64 (orI .u64 a0 a8) (orI .u64 a16 a24)) 9259542123273814144 = 0
      · match N with
        | 0 => omega
        | N + 1 =>
          obtain ⟨s', hs, hL⟩ := valid_skip N (s.drop 32) (by simp; omega) H
          simp only [List.length_drop] at hs
          refine ⟨s', by omega, LDoes.step (Evs.withL hL (Evs.of fun n m _ h2 => ?_))⟩
          generalize s.drop 8 = s8 at *
          generalize s.drop 16 = s16 at *
          generalize s.drop 24 = s24 at *
          generalize s.drop 32 = s32 at *
          generalize (s.length : Int) = N at *
          simp [↓test_bool, ↓withV_of, ↓withP_some, ↓withB_some, ↓chkD_true, L99_1_step, hl, hlt, d8, d16, d24, d32, w0, w8, w16, w24, bin_orI, bin_andI, hc, AV.heapy, h2]
      · refine ⟨s, Nat.le_refl _, LDoes.step (Evs.of fun n m => ?_)⟩
        generalize s.drop 8 = s8 at *
        generalize s.drop 16 = s16 at *
        generalize s.drop 24 = s24 at *
        generalize s.drop 32 = s32 at *
        generalize (s.length : Int) = N at *
        simp [↓test_bool, ↓withV_of, ↓withP_some, ↓withB_some, ↓chkD_true, L99_1_step, hl, hlt, d8, d16, d24, w0, w8, w16, w24, bin_orI, bin_andI, hc, AV.heapy]
    · have hlt : ¬ (32 : Int) < (s.length : Int) := by omega
      have hl : A.lenStr (.str s) = some (.int .i64 (s.length : Int)) := len_str
      generalize (s.length : Int) = N at *
      refine ⟨s, Nat.le_refl _, LDoes.step (Evs.of fun n m => ?_)⟩
      simp [↓test_bool, ↓withV_of, ↓withP_some, ↓withB_some, ↓chkD_true, L99_1_step, hl, hlt, AV.heapy]
end Go.Proofs.YtleikacgncpfbaaDoor

/- Texts: is one well-formed: the loop over its signs. -/
set_option maxRecDepth 100000
set_option maxHeartbeats 8000000
namespace Go.Proofs.YtleikacgncpfbaaDoor
open Go Go.Den
def ValidFrom (s : List UInt8) : Prop := ∀ H : Heap, ∃ (b : Bool) (H' : Heap), LDoes (L99_0 (polT TVal)) ⟨[.str s], []⟩ H (if b then 0 else 1) ⟨[if b then .undef else .bool false], []⟩ H'
theorem valid_nil : ValidFrom [] := fun H => by
  have hl : A.lenStr (.str []) = some (.int .i64 0) := len_str
  exact ⟨true, H, LDoes.step (Evs.of fun n m => by simp [↓test_bool, ↓withV_of, L99_0_step, hl])⟩
theorem valid_ascii (c : UInt8) (r : List UInt8) (hc : c.toNat < 128) (ih : ∀ s, s.length ≤ r.length → ValidFrom s) : ValidFrom (c :: r) := fun H => by
  have hl : A.lenStr (.str (c :: r)) = some (.int .i64 ((r.length + 1 : Nat) : Int)) := len_str
  have hp : (0 : Int) < ((r.length + 1 : Nat) : Int) := by omega
  have hx : A.index (.str (c :: r)) (.int .i64 0) = some (.int .u8 (c.toNat : Int)) := rfl
  have d1 : A.sliceStr (.str (c :: r)) (some (.int .i64 1)) none = some (.str r) := slice_str (s := c :: r) (i := 1) (by simp)
  have hr : A.lenStr (.str r) = some (.int .i64 (r.length : Int)) := len_str
  have hz : (c.toNat : Int) < 128 := by omega
  have ih8 := ih (r.drop 8) (by simp)
  have ih24 : ∀ s', s'.length ≤ (r.drop 24).length → ValidFrom s' := fun s' h => ih s' (by simp at h; omega)
  have ihr := ih r (Nat.le_refl _)
  generalize ((r.length + 1 : Nat) : Int) = N1 at *
  generalize (c.toNat : Int) = z at *
  generalize c :: r = s at *
  by_cases h8 : 8 < r.length
  · have h8' : (8 : Int) < (r.length : Int) := by omega
    have d8 : A.sliceStr (.str r) (some (.int .i64 8)) none = some (.str (r.drop 8)) := slice_str (s := r) (i := 8) (by omega)
    have w0 : ∀ (R : Type) (H : Heap) (k : AV → Heap → Option R), polK pWord [.str r] H k = k (.int .u64 (wordV r)) H := fun R H k => kWord (by omega)
    generalize wordV r = a0 at *
    by_cases c0 : andI .u64 a0 9259542123273814144 = 0
    · have hr8 : A.lenStr (.str (r.drop 8)) = some (.int .i64 ((r.length - 8 : Nat) : Int)) := by rw [len_str]; simp
      by_cases h16 : 16 < r.length - 8
      · have h16' : (16 : Int) < ((r.length - 8 : Nat) : Int) := by omega
        have d16 : A.sliceStr (.str (r.drop 8)) (some (.int .i64 8)) none = some (.str (r.drop 16)) := by
          have := slice_str (s := r.drop 8) (k := .i64) (i := 8) (by simp; omega)
          rw [List.drop_drop] at this
          exact this
        have d24 : A.sliceStr (.str (r.drop 8)) (some (.int .i64 16)) none = some (.str (r.drop 24)) := by
          have := slice_str (s := r.drop 8) (k := .i64) (i := 16) (by simp; omega)
          rw [List.drop_drop] at this
          exact this
        have w8 : ∀ (R : Type) (H : Heap) (k : AV → Heap → Option R), polK pWord [.str (r.drop 8)] H k = k (.int .u64 (wordV (r.drop 8))) H := fun R H k => kWord (by simp; omega)
        have w16 : ∀ (R : Type) (H : Heap) (k : AV → Heap → Option R), polK pWord [.str (r.drop 16)] H k = k (.int .u64 (wordV (r.drop 16))) H := fun R H k => kWord (by simp; omega)
        generalize wordV (r.drop 8) = a8 at *
        generalize wordV (r.drop 16) = a16 at *
        by_cases c1 : andI .u64 (orI .u64 a8 a16) 9259542123273814144 = 0
        · obtain ⟨s', hs', hL1⟩ := valid_skip _ (r.drop 24) (Nat.le_refl _) H
          obtain ⟨b, H', hL⟩ := ih24 s' hs' H
          refine ⟨b, H', LDoes.step (Evs.withL hL1 (Evs.withL hL (Evs.of fun n m _ h2 h3 _ => ?_)))⟩
          generalize r.drop 8 = r8 at *
          generalize r.drop 16 = r16 at *
          generalize r.drop 24 = r24 at *
          generalize (r.length : Int) = N at *
          generalize ((r.length - 8 : Nat) : Int) = N8 at *
          simp [↓test_bool, ↓bindV_eq, ↓withV_of, ↓withP_some, ↓withB_some, ↓bindX_some, ↓chkD_true, L99_0_step, hl, hp, hx, hz, d1, hr, h8', d8, w0, bin_andI, c0, hr8, h16', d16, w8, w16, bin_orI, c1, d24, AV.heapy, h2, h3]
        · obtain ⟨b, H', hL⟩ := ih8 H
          refine ⟨b, H', LDoes.step (Evs.withL hL (Evs.of fun n m _ h2 => ?_))⟩
          generalize r.drop 8 = r8 at *
          generalize r.drop 16 = r16 at *
          generalize (r.length : Int) = N at *
          generalize ((r.length - 8 : Nat) : Int) = N8 at *
          simp [↓test_bool, ↓bindV_eq, ↓withV_of, ↓withP_some, ↓withB_some, ↓bindX_some, ↓chkD_true, L99_0_step, hl, hp, hx, hz, d1, hr, h8', d8, w0, bin_andI, c0, hr8, h16', d16, w8, w16, bin_orI, c1, AV.heapy, h2]
      · have h16' : ¬ (16 : Int) < ((r.length - 8 : Nat) : Int) := by omega
        obtain ⟨b, H', hL⟩ := ih8 H
        refine ⟨b, H', LDoes.step (Evs.withL hL (Evs.of fun n m _ h2 => ?_))⟩
        generalize r.drop 8 = r8 at *
        generalize (r.length : Int) = N at *
        generalize ((r.length - 8 : Nat) : Int) = N8 at *
        simp [↓test_bool, ↓bindV_eq, ↓withV_of, ↓withP_some, ↓withB_some, ↓bindX_some, ↓chkD_true, L99_0_step, hl, hp, hx, hz, d1, hr, h8', d8, w0, bin_andI, c0, hr8, h16', AV.heapy, h2]
    · obtain ⟨b, H', hL⟩ := ihr H
      refine ⟨b, H', LDoes.step (Evs.withL hL (Evs.of fun n m _ h2 => ?_))⟩
      generalize (r.length : Int) = N at *
      simp [↓test_bool, ↓bindV_eq, ↓withV_of, ↓withP_some, ↓withB_some, ↓bindX_some, L99_0_step, hl, hp, hx, hz, d1, hr, h8', w0, bin_andI, c0, h2]
  · have h8' : ¬ (8 : Int) < (r.length : Int) := by omega
    obtain ⟨b, H', hL⟩ := ihr H
    refine ⟨b, H', LDoes.step (Evs.withL hL (Evs.of fun n m _ h2 => ?_))⟩
    generalize (r.length : Int) = N at *
    simp [↓test_bool, ↓bindV_eq, ↓withV_of, ↓withP_some, ↓withB_some, ↓bindX_some, L99_0_step, hl, hp, hx, hz, d1, hr, h8', h2]
end Go.Proofs.YtleikacgncpfbaaDoor

/- Texts: is one well-formed: signs of more bytes than one; the entry. -/
set_option maxRecDepth 100000
set_option maxHeartbeats 8000000
namespace Go.Proofs.YtleikacgncpfbaaDoor
open Go Go.Den
theorem idx_str {s : List UInt8} {i : Nat} {k : IntKind} (h : i < s.length) : A.index (.str s) (.int k (i : Int)) = some (.int .u8 ((s[i]).toNat : Int)) := by
  simp [A.index, h]
theorem valid_high (s : List UInt8) (h0 : 0 < s.length) (hc : 128 ≤ (s[0]).toNat) (ih : ∀ s' : List UInt8, s'.length < s.length → ValidFrom s') : ValidFrom s := fun H => by
  have hl : A.lenStr (.str s) = some (.int .i64 (s.length : Int)) := len_str
  have hp : (0 : Int) < (s.length : Int) := by omega
  have hx : A.index (.str s) (.int .i64 0) = some (.int .u8 ((s[0]).toNat : Int)) := idx_str (i := 0) h0
  have hz : ¬ ((s[0]).toNat : Int) < 128 := by omega
  have hz0 : 0 ≤ ((s[0]).toNat : Int) := by omega
  have hz1 : ((s[0]).toNat : Int) < 256 := by have := (s[0]).toNat_lt; omega
  generalize ((s[0]).toNat : Int) = z at *
  obtain ⟨p0, x, hx0, hx1, hfirst⟩ := first_ex z hz0 hz1
  obtain ⟨w, hw0, hw1, hshr⟩ := shr4 (P := base.P) (t := 5) (j := .u64) (c := true) hx0 hx1
  obtain ⟨p1, lo, hi, hacc⟩ := acc_ex w hw0 hw1
  have hf1 := fun H => (hfirst H).1
  have hf2 := fun H => (hfirst H).2
  have ha1 := fun H => (hacc H).1
  have ha2 := fun H => (hacc H).2
  generalize hy : IntKind.wrap .i64 (andI .u8 x 7) = y
  have hst : A.store 2 (.ptr H.length 0 0 0) (.agg [.int .u8 lo, .int .u8 hi]) (H ++ [.row 0 2 108 [.agg [.int .u8 0, .int .u8 0]]]) = some (H ++ [.row 0 2 108 [.agg [.int .u8 lo, .int .u8 hi]]]) := by
    have hb : Go.Den.Box (H ++ [.row 0 2 108 [.agg [.int .u8 0, .int .u8 0]]]) H.length 2 108 [.int .u8 0, .int .u8 0] := row_push
    have := box_store (ds := [.int .u8 lo, .int .u8 hi]) hb rfl rfl (by simp)
    rw [this]
    simp
  have hB : Go.Den.Box (H ++ [.row 0 2 108 [.agg [.int .u8 lo, .int .u8 hi]]]) H.length 2 108 [.int .u8 lo, .int .u8 hi] := row_push
  have fa := fun o => hB.fa (o := o)
  have ld0 := hB.load (o := 0)
  have ld1 := hB.load (o := 1)
  have fa0 := fa 0
  have fa1 := fa 1
  simp only [List.getElem?_cons_succ, List.getElem?_cons_zero] at ld0 ld1
  generalize H ++ [.row 0 2 108 [.agg [.int .u8 lo, .int .u8 hi]]] = Hx at *
  obtain ⟨N, hN⟩ : ∃ N : Int, N = (s.length : Int) := ⟨_, rfl⟩
  rw [← hN] at hl hp
  by_cases y2 : y = 2
  case pos =>
    by_cases hk : N < 2
    case pos =>
      exact ⟨false, Hx, LDoes.step (Evs.of fun n m => by simp [↓test_bool, ↓bindV_eq, ↓bindH_eq, ↓withV_of, ↓withP_some, ↓withH_some, ↓withB_some, ↓bindX_some, L99_0_step, hl, hp, hx, hz, hf1, hf2, bin_andI, cv_8_int, hy, hshr, ha1, ha2, hst, fa0, fa1, y2, hk])⟩
    have dk := slice_str (s := s) (k := .i64) (i := 2) (by omega)
    have i1 : A.index (.str s) (.int .i64 1) = some (.int .u8 ((s[1]'(by omega)).toNat : Int)) := idx_str (i := 1) (by omega)
    generalize ((s[1]'(by omega)).toNat : Int) = z1 at i1
    simp only [Int.cast_ofNat_Int] at dk
    by_cases a1 : z1 < lo
    case pos =>
      exact ⟨false, Hx, LDoes.step (Evs.of fun n m => by simp [↓test_bool, ↓bindV_eq, ↓bindH_eq, ↓withV_of, ↓withP_some, ↓withH_some, ↓withB_some, ↓bindX_some, L99_0_step, hl, hp, hx, hz, hf1, hf2, bin_andI, cv_8_int, hy, hshr, ha1, ha2, hst, fa0, fa1, ld0, y2, hk, i1, a1])⟩
    by_cases b1 : hi < z1
    case pos =>
      exact ⟨false, Hx, LDoes.step (Evs.of fun n m => by simp [↓test_bool, ↓bindV_eq, ↓bindH_eq, ↓withV_of, ↓withP_some, ↓withH_some, ↓withB_some, ↓bindX_some, L99_0_step, hl, hp, hx, hz, hf1, hf2, bin_andI, cv_8_int, hy, hshr, ha1, ha2, hst, fa0, fa1, ld0, ld1, y2, hk, i1, a1, b1])⟩
    obtain ⟨b, H', hL⟩ := ih (s.drop 2) (by simp; omega) Hx
    refine ⟨b, H', LDoes.step (Evs.withL hL (Evs.of fun n m _ h2 => ?_))⟩
    generalize s.drop 2 = sk at *
    simp [↓test_bool, ↓bindV_eq, ↓bindH_eq, ↓withV_of, ↓withP_some, ↓withH_some, ↓withB_some, ↓bindX_some, L99_0_step, hl, hp, hx, hz, hf1, hf2, bin_andI, cv_8_int, hy, hshr, ha1, ha2, hst, fa0, fa1, ld0, ld1, y2, hk, dk, i1, a1, b1, h2]
  by_cases y3 : y = 3
  case pos =>
    by_cases hk : N < 3
    case pos =>
      exact ⟨false, Hx, LDoes.step (Evs.of fun n m => by simp [↓test_bool, ↓bindV_eq, ↓bindH_eq, ↓withV_of, ↓withP_some, ↓withH_some, ↓withB_some, ↓bindX_some, L99_0_step, hl, hp, hx, hz, hf1, hf2, bin_andI, cv_8_int, hy, hshr, ha1, ha2, hst, fa0, fa1, y3, hk])⟩
    have dk := slice_str (s := s) (k := .i64) (i := 3) (by omega)
    have i1 : A.index (.str s) (.int .i64 1) = some (.int .u8 ((s[1]'(by omega)).toNat : Int)) := idx_str (i := 1) (by omega)
    generalize ((s[1]'(by omega)).toNat : Int) = z1 at i1
    have i2 : A.index (.str s) (.int .i64 2) = some (.int .u8 ((s[2]'(by omega)).toNat : Int)) := idx_str (i := 2) (by omega)
    generalize ((s[2]'(by omega)).toNat : Int) = z2 at i2
    simp only [Int.cast_ofNat_Int] at dk
    by_cases a1 : z1 < lo
    case pos =>
      exact ⟨false, Hx, LDoes.step (Evs.of fun n m => by simp [↓test_bool, ↓bindV_eq, ↓bindH_eq, ↓withV_of, ↓withP_some, ↓withH_some, ↓withB_some, ↓bindX_some, L99_0_step, hl, hp, hx, hz, hf1, hf2, bin_andI, cv_8_int, hy, hshr, ha1, ha2, hst, fa0, fa1, ld0, y3, hk, i1, a1])⟩
    by_cases b1 : hi < z1
    case pos =>
      exact ⟨false, Hx, LDoes.step (Evs.of fun n m => by simp [↓test_bool, ↓bindV_eq, ↓bindH_eq, ↓withV_of, ↓withP_some, ↓withH_some, ↓withB_some, ↓bindX_some, L99_0_step, hl, hp, hx, hz, hf1, hf2, bin_andI, cv_8_int, hy, hshr, ha1, ha2, hst, fa0, fa1, ld0, ld1, y3, hk, i1, a1, b1])⟩
    by_cases a2 : z2 < 128
    case pos =>
      exact ⟨false, Hx, LDoes.step (Evs.of fun n m => by simp [↓test_bool, ↓bindV_eq, ↓bindH_eq, ↓withV_of, ↓withP_some, ↓withH_some, ↓withB_some, ↓bindX_some, L99_0_step, hl, hp, hx, hz, hf1, hf2, bin_andI, cv_8_int, hy, hshr, ha1, ha2, hst, fa0, fa1, ld0, ld1, y3, hk, i1, i2, a1, b1, a2])⟩
    by_cases b2 : 191 < z2
    case pos =>
      exact ⟨false, Hx, LDoes.step (Evs.of fun n m => by simp [↓test_bool, ↓bindV_eq, ↓bindH_eq, ↓withV_of, ↓withP_some, ↓withH_some, ↓withB_some, ↓bindX_some, L99_0_step, hl, hp, hx, hz, hf1, hf2, bin_andI, cv_8_int, hy, hshr, ha1, ha2, hst, fa0, fa1, ld0, ld1, y3, hk, i1, i2, a1, b1, a2, b2])⟩
    obtain ⟨b, H', hL⟩ := ih (s.drop 3) (by simp; omega) Hx
    refine ⟨b, H', LDoes.step (Evs.withL hL (Evs.of fun n m _ h2 => ?_))⟩
    generalize s.drop 3 = sk at *
    simp [↓test_bool, ↓bindV_eq, ↓bindH_eq, ↓withV_of, ↓withP_some, ↓withH_some, ↓withB_some, ↓bindX_some, L99_0_step, hl, hp, hx, hz, hf1, hf2, bin_andI, cv_8_int, hy, hshr, ha1, ha2, hst, fa0, fa1, ld0, ld1, y3, hk, dk, i1, i2, a1, b1, a2, b2, h2]
  by_cases y4 : y = 4
  case pos =>
    by_cases hk : N < 4
    case pos =>
      exact ⟨false, Hx, LDoes.step (Evs.of fun n m => by simp [↓test_bool, ↓bindV_eq, ↓bindH_eq, ↓withV_of, ↓withP_some, ↓withH_some, ↓withB_some, ↓bindX_some, L99_0_step, hl, hp, hx, hz, hf1, hf2, bin_andI, cv_8_int, hy, hshr, ha1, ha2, hst, fa0, fa1, y4, hk])⟩
    have dk := slice_str (s := s) (k := .i64) (i := 4) (by omega)
    have i1 : A.index (.str s) (.int .i64 1) = some (.int .u8 ((s[1]'(by omega)).toNat : Int)) := idx_str (i := 1) (by omega)
    generalize ((s[1]'(by omega)).toNat : Int) = z1 at i1
    have i2 : A.index (.str s) (.int .i64 2) = some (.int .u8 ((s[2]'(by omega)).toNat : Int)) := idx_str (i := 2) (by omega)
    generalize ((s[2]'(by omega)).toNat : Int) = z2 at i2
    have i3 : A.index (.str s) (.int .i64 3) = some (.int .u8 ((s[3]'(by omega)).toNat : Int)) := idx_str (i := 3) (by omega)
    generalize ((s[3]'(by omega)).toNat : Int) = z3 at i3
    simp only [Int.cast_ofNat_Int] at dk
    by_cases a1 : z1 < lo
    case pos =>
      exact ⟨false, Hx, LDoes.step (Evs.of fun n m => by simp [↓test_bool, ↓bindV_eq, ↓bindH_eq, ↓withV_of, ↓withP_some, ↓withH_some, ↓withB_some, ↓bindX_some, L99_0_step, hl, hp, hx, hz, hf1, hf2, bin_andI, cv_8_int, hy, hshr, ha1, ha2, hst, fa0, fa1, ld0, y4, hk, i1, a1])⟩
    by_cases b1 : hi < z1
    case pos =>
      exact ⟨false, Hx, LDoes.step (Evs.of fun n m => by simp [↓test_bool, ↓bindV_eq, ↓bindH_eq, ↓withV_of, ↓withP_some, ↓withH_some, ↓withB_some, ↓bindX_some, L99_0_step, hl, hp, hx, hz, hf1, hf2, bin_andI, cv_8_int, hy, hshr, ha1, ha2, hst, fa0, fa1, ld0, ld1, y4, hk, i1, a1, b1])⟩
    by_cases a2 : z2 < 128
    case pos =>
      exact ⟨false, Hx, LDoes.step (Evs.of fun n m => by simp [↓test_bool, ↓bindV_eq, ↓bindH_eq, ↓withV_of, ↓withP_some, ↓withH_some, ↓withB_some, ↓bindX_some, L99_0_step, hl, hp, hx, hz, hf1, hf2, bin_andI, cv_8_int, hy, hshr, ha1, ha2, hst, fa0, fa1, ld0, ld1, y4, hk, i1, i2, a1, b1, a2])⟩
    by_cases b2 : 191 < z2
    case pos =>
      exact ⟨false, Hx, LDoes.step (Evs.of fun n m => by simp [↓test_bool, ↓bindV_eq, ↓bindH_eq, ↓withV_of, ↓withP_some, ↓withH_some, ↓withB_some, ↓bindX_some, L99_0_step, hl, hp, hx, hz, hf1, hf2, bin_andI, cv_8_int, hy, hshr, ha1, ha2, hst, fa0, fa1, ld0, ld1, y4, hk, i1, i2, a1, b1, a2, b2])⟩
    by_cases a3 : z3 < 128
    case pos =>
      exact ⟨false, Hx, LDoes.step (Evs.of fun n m => by simp [↓test_bool, ↓bindV_eq, ↓bindH_eq, ↓withV_of, ↓withP_some, ↓withH_some, ↓withB_some, ↓bindX_some, L99_0_step, hl, hp, hx, hz, hf1, hf2, bin_andI, cv_8_int, hy, hshr, ha1, ha2, hst, fa0, fa1, ld0, ld1, y4, hk, i1, i2, i3, a1, b1, a2, b2, a3])⟩
    by_cases b3 : 191 < z3
    case pos =>
      exact ⟨false, Hx, LDoes.step (Evs.of fun n m => by simp [↓test_bool, ↓bindV_eq, ↓bindH_eq, ↓withV_of, ↓withP_some, ↓withH_some, ↓withB_some, ↓bindX_some, L99_0_step, hl, hp, hx, hz, hf1, hf2, bin_andI, cv_8_int, hy, hshr, ha1, ha2, hst, fa0, fa1, ld0, ld1, y4, hk, i1, i2, i3, a1, b1, a2, b2, a3, b3])⟩
    obtain ⟨b, H', hL⟩ := ih (s.drop 4) (by simp; omega) Hx
    refine ⟨b, H', LDoes.step (Evs.withL hL (Evs.of fun n m _ h2 => ?_))⟩
    generalize s.drop 4 = sk at *
    simp [↓test_bool, ↓bindV_eq, ↓bindH_eq, ↓withV_of, ↓withP_some, ↓withH_some, ↓withB_some, ↓bindX_some, L99_0_step, hl, hp, hx, hz, hf1, hf2, bin_andI, cv_8_int, hy, hshr, ha1, ha2, hst, fa0, fa1, ld0, ld1, y4, hk, dk, i1, i2, i3, a1, b1, a2, b2, a3, b3, h2]
  exact ⟨false, Hx, LDoes.step (Evs.of fun n m => by simp [↓test_bool, ↓bindV_eq, ↓bindH_eq, ↓withV_of, ↓withH_some, ↓bindX_some, L99_0_step, hl, hp, hx, hz, hf1, hf2, bin_andI, cv_8_int, hy, hshr, ha1, ha2, hst, y2, y3, y4])⟩
theorem valid_from : ∀ (N : Nat) (s : List UInt8), s.length ≤ N → ValidFrom s
  | _, [], _ => valid_nil
  | 0, _ :: _, h => by simp at h
  | N + 1, c :: r, h => by
    have ih : ∀ s' : List UInt8, s'.length < (c :: r).length → ValidFrom s' := fun s' h' => valid_from N s' (by simp at h h'; omega)
    by_cases hc : c.toNat < 128
    · exact valid_ascii c r hc fun s' h' => ih s' (by simp; omega)
    · exact valid_high (c :: r) (by simp) (by simp; omega) ih
theorem valid_ex (s : List UInt8) : ∃ b : Bool, Evs fun n _ => callF (base.with (polT TVal)) (n + 1) AV 99 [.str s] [] (fun v G => A.freezeB true 64 G v) = some (.bool b) := by
  obtain ⟨b, H', hL⟩ := valid_from _ s (Nat.le_refl _) []
  refine ⟨b, Evs.withL hL (Evs.of fun n m h1 _ => ?_)⟩
  cases b <;> simp [↓bindV_eq, ↓bindX_some, S99, h1]
noncomputable def validV (s : List UInt8) : Bool := (valid_ex s).choose
noncomputable def pValid : Pol := .still (p1 cS .bool (fun _ => True) validV)
theorem okValid : PolOK base 99 pValid := still1 base_ok TVal ⟨okWord, trivial⟩ fun s _ => (valid_ex s).choose_spec
theorem kValid {R : Type} {s : List UInt8} {H : Heap} {k : AV → Heap → Option R} : polK pValid [.str s] H k = k (.bool (validV s)) H := by
  simp [pValid, polK_imm]
end Go.Proofs.YtleikacgncpfbaaDoor

/- Texts: how many signs one has. -/
set_option maxRecDepth 100000
set_option maxHeartbeats 4000000
namespace Go.Proofs.YtleikacgncpfbaaDoor
open Go Go.Den
theorem width_ge (s : ByteArray) (pos : Nat) : 1 ≤ (Utf8.decode s pos).2 := by
  unfold Utf8.decode
  repeat' (first | omega | split | (dsimp only))
def signs (l : List UInt8) : Nat → Nat → Nat
  | 0, _ => 0
  | N + 1, pos => if pos < l.length then 1 + signs l N (pos + (Utf8.decode ⟨l.toArray⟩ pos).2) else 0
theorem runes_loop {pol : FuncId → Pol} {l : List UInt8} {id : Nat} : ∀ (N pos : Nat) (c : Int) (H : Heap), l.length - pos ≤ N → H[id]? = some (.iter l pos) → 0 ≤ c → c + N ≤ 1000000000 →
    ∃ H', LDoes (L98_0 pol) ⟨[.int .i64 c, .it id], []⟩ H 0 ⟨[.int .i64 (c + signs l N pos)], []⟩ H' := by
  intro N
  induction N with
  | zero =>
    intro pos c H hN hH h0 h1
    have hp : ¬ pos < l.length := by omega
    refine ⟨H, LDoes.step (Evs.of fun n m => ?_)⟩
    simp [↓test_bool, ↓withV_of, L98_0_step, nextK, hH, hp, signs]
  | succ N ih =>
    intro pos c H hN hH h0 h1
    by_cases hp : pos < l.length
    · have hw := width_ge ⟨l.toArray⟩ pos
      have hid : id < H.length := (List.getElem?_eq_some_iff.1 hH).1
      obtain ⟨H', hL⟩ := ih (pos + (Utf8.decode ⟨l.toArray⟩ pos).2) (c + 1) (H.set id (.iter l (pos + (Utf8.decode ⟨l.toArray⟩ pos).2))) (by omega) (List.getElem?_set_self hid) (by omega) (by omega)
      have hc : IntKind.wrap .i64 (c + 1) = c + 1 := wrap_i64 (by omega) (by omega)
      have e : c + (signs l (N + 1) pos : Nat) = c + 1 + (signs l N (pos + (Utf8.decode ⟨l.toArray⟩ pos).2) : Nat) := by
        have : signs l (N + 1) pos = 1 + signs l N (pos + (Utf8.decode ⟨l.toArray⟩ pos).2) := by rw [signs, if_pos hp]
        omega
      rw [e]
      refine ⟨H', LDoes.step (Evs.withL hL (Evs.of fun n m _ h2 => ?_))⟩
      simp [↓test_bool, ↓withV_of, L98_0_step, nextK, hH, hp, hc, h2]
    · refine ⟨H, LDoes.step (Evs.of fun n m => ?_)⟩
      simp [↓test_bool, ↓withV_of, L98_0_step, nextK, hH, hp, signs]
theorem count_loop {pol : FuncId → Pol} {l : List UInt8} {id : Nat} : ∀ (N pos : Nat) (c : Int) (H : Heap), l.length - pos ≤ N → H[id]? = some (.iter l pos) → 0 ≤ c → c + N ≤ 1000000000 →
    ∃ H', LDoes (L81_0 pol) ⟨[.int .i64 c, .it id], []⟩ H 0 ⟨[.int .i64 (c + signs l N pos)], []⟩ H' := by
  intro N
  induction N with
  | zero =>
    intro pos c H hN hH h0 h1
    have hp : ¬ pos < l.length := by omega
    refine ⟨H, LDoes.step (Evs.of fun n m => ?_)⟩
    simp [↓test_bool, ↓withV_of, L81_0_step, nextK, hH, hp, signs]
  | succ N ih =>
    intro pos c H hN hH h0 h1
    by_cases hp : pos < l.length
    · have hw := width_ge ⟨l.toArray⟩ pos
      have hid : id < H.length := (List.getElem?_eq_some_iff.1 hH).1
      obtain ⟨H', hL⟩ := ih (pos + (Utf8.decode ⟨l.toArray⟩ pos).2) (c + 1) (H.set id (.iter l (pos + (Utf8.decode ⟨l.toArray⟩ pos).2))) (by omega) (List.getElem?_set_self hid) (by omega) (by omega)
      have hc : IntKind.wrap .i64 (c + 1) = c + 1 := wrap_i64 (by omega) (by omega)
      have e : c + (signs l (N + 1) pos : Nat) = c + 1 + (signs l N (pos + (Utf8.decode ⟨l.toArray⟩ pos).2) : Nat) := by
        have : signs l (N + 1) pos = 1 + signs l N (pos + (Utf8.decode ⟨l.toArray⟩ pos).2) := by rw [signs, if_pos hp]
        omega
      rw [e]
      refine ⟨H', LDoes.step (Evs.withL hL (Evs.of fun n m _ h2 => ?_))⟩
      simp [↓test_bool, ↓withV_of, L81_0_step, nextK, hH, hp, hc, h2]
    · refine ⟨H, LDoes.step (Evs.of fun n m => ?_)⟩
      simp [↓test_bool, ↓withV_of, L81_0_step, nextK, hH, hp, signs]
def notlong (s : List UInt8) : Prop := s.length ≤ 1000000
noncomputable def pRunes : Pol := .still (p1 cS (.int .i64) notlong (fun s => (signs s s.length 0 : Int)))
theorem okRunes : PolOK base 98 pRunes := still1 base_ok [] trivial fun s hs => by
  unfold notlong at hs
  obtain ⟨H', hL⟩ := runes_loop (pol := polT []) (l := s) (id := 0) s.length 0 0 [.iter s 0] (by omega) rfl (by omega) (by omega)
  refine Evs.withL hL (Evs.of fun n m h1 _ => ?_)
  simp only [Int.zero_add] at h1
  simp [↓bindV_eq, ↓bindX_some, S98, rangeK, h1]
theorem kRunes {R : Type} {s : List UInt8} (h : notlong s) {H : Heap} {k : AV → Heap → Option R} : polK pRunes [.str s] H k = k (.int .i64 (signs s s.length 0 : Nat)) H := by
  simp [pRunes, polK_imm, h]
noncomputable def pRvalid : Pol := .still (p1 cS .bool (fun _ => True) validV)
theorem okRvalid : PolOK base 80 pRvalid := still1 base_ok [(99, pValid)] ⟨okValid, trivial⟩ fun s _ => Evs.of fun n m => by
  simp [S80, kValid]
theorem kRvalid {R : Type} {s : List UInt8} {H : Heap} {k : AV → Heap → Option R} : polK pRvalid [.str s] H k = k (.bool (validV s)) H := by
  simp [pRvalid, polK_imm]
noncomputable def pTvalid : Pol := .still (p1 cS .bool (fun _ => True) validV)
theorem okTvalid : PolOK base 97 pTvalid := still1 base_ok [(99, pValid)] ⟨okValid, trivial⟩ fun s _ => Evs.of fun n m => by
  simp [S97, kValid]
theorem kTvalid {R : Type} {s : List UInt8} {H : Heap} {k : AV → Heap → Option R} : polK pTvalid [.str s] H k = k (.bool (validV s)) H := by
  simp [pTvalid, polK_imm]
noncomputable def countV (s : List UInt8) : Int := if validV s then (signs s s.length 0 : Nat) else -1
noncomputable def pCount : Pol := .still (p1 cS (.int .i64) notlong countV)
theorem okCount : PolOK base 79 pCount := still1 base_ok [(97, pTvalid), (98, pRunes)] ⟨okTvalid, okRunes, trivial⟩ fun s hs => Evs.of fun n m => by
  have hk : ∀ (H : Heap) (k : AV → Heap → Option AV), polK pRunes [.str s] H k = k (.int .i64 (signs s s.length 0 : Nat)) H := fun H k => kRunes hs
  unfold countV
  cases h : validV s <;> simp [↓test_bool, ↓withV_of, S79, kTvalid, h, hk]
theorem kCount {R : Type} {s : List UInt8} (h : notlong s) {H : Heap} {k : AV → Heap → Option R} : polK pCount [.str s] H k = k (.int .i64 (countV s)) H := by
  simp [pCount, polK_imm, h]
noncomputable def pRcount : Pol := .still (p1 cS (.int .i64) notlong countV)
theorem okRcount : PolOK base 81 pRcount := still1 base_ok [(80, pRvalid)] ⟨okRvalid, trivial⟩ fun s hs => by
  unfold notlong at hs
  obtain ⟨H', hL⟩ := count_loop (pol := polT [(80, pRvalid)]) (l := s) (id := 0) s.length 0 0 [.iter s 0] (by omega) rfl (by omega) (by omega)
  refine Evs.withL hL (Evs.of fun n m h1 _ => ?_)
  simp only [Int.zero_add] at h1
  unfold countV
  cases h : validV s <;> simp [↓test_bool, ↓bindV_eq, ↓withV_of, ↓bindX_some, S81, kRvalid, h, rangeK, h1]
theorem kRcount {R : Type} {s : List UInt8} (h : notlong s) {H : Heap} {k : AV → Heap → Option R} : polK pRcount [.str s] H k = k (.int .i64 (countV s)) H := by
  simp [pRcount, polK_imm, h]
theorem countV_valid {s : List UInt8} : (0 ≤ countV s ↔ validV s = true) := by
  unfold countV
  cases validV s
  · simp
  · simp
end Go.Proofs.YtleikacgncpfbaaDoor

/- Terms: may one be, but for what is in it. -/
set_option maxRecDepth 100000
set_option maxHeartbeats 4000000
namespace Go.Proofs.YtleikacgncpfbaaDoor
open Go Go.Den
def shortOne (t : Tm) : Prop := (t.d.getD []).length ≤ 1000000 ∧ t.name.length ≤ 1000000
noncomputable def pOne : Pol := .still (p1 cT .bool shortOne (oneS countV))
theorem kOne {R : Type} {t : Tm} (h : shortOne t) {H : Heap} {k : AV → Heap → Option R} : polK pOne [eT t] H k = k (.bool (oneS countV t)) H := by
  simp [pOne, polK_imm, h]
theorem okOne : PolOK base 56 pOne := still1 base_ok [(78, pSpare), (79, pCount)] ⟨okSpare, okCount, trivial⟩ fun t ⟨hd, hn⟩ => by
  have hB : Go.Den.Box [.row 0 7 26 [eT t]] 0 7 26 (eT t).cells := box_eT t _ 0 rfl
  have p := fun o => hB.fa (o := o)
  have q := fun o => hB.load (o := o)
  rw [cells_eT] at q
  have q0 := q 0
  have q1 := q 1
  have q2 := q 2
  have q3 := q 3
  have q4 := q 4
  have q5 := q 5
  have q6 := q 6
  simp only [List.getElem?_cons_succ, List.getElem?_cons_zero] at q0 q1 q2 q3 q4 q5 q6
  have hl5 : A.len (eL 7 eT t.l) [.row 0 7 26 [eT t]] = some (.int .i64 ((t.kids.length : Nat) : Int)) := len_eL
  have hl2 : A.len (eD t.d) [.row 0 7 26 [eT t]] = some (.int .i64 ((t.d.getD []).length : Int)) := len_eL
  have hl6 : A.len (eL 1 eb t.b) [.row 0 7 26 [eT t]] = some (.int .i64 ((t.b.getD []).length : Int)) := len_eL
  have hld : A.load true 7 (.ptr 0 0 0 0) [.row 0 7 26 [eT t]] = some (eT t) := by
    have hc : A.ofList true 7 (eT t).cells 0 = some (eT t) := load_eT (H := [])
    simp [-cells_eT, A.load, A.elemAt, hc]
  have hcl : (eT t).cells.length = 7 := by rw [cells_eT]; rfl
  have hsp : ∀ (H : Heap) (k : AV → Heap → Option AV), polK pSpare [eT t] H k = k (.bool (spareS t)) H := fun H k => kSpare
  have cs : ∀ (H : Heap) (k : AV → Heap → Option AV), polK pCount [.str t.name] H k = k (.int .i64 (countV t.name)) H := fun H k => kCount hn
  have hix : ∀ i (h : i < (t.d.getD []).length), A.idx 1 (eD t.d) (.int .i64 (i : Int)) [.row 0 7 26 [eT t]] = some (.rop [.int .u32 ((t.d.getD [])[i]).toNat]) := fun i h => idx_eD h
  unfold oneS plainN
  generalize spareS t = sp at *
  generalize countV t.name = cn at *
  generalize t.kind = kd at *
  generalize t.neg = ng at *
  generalize t.n = nn at *
  generalize t.kids.length = nl at *
  generalize (t.b.getD []).length = nb at *
  generalize eD t.d = vd at *
  generalize eL 7 eT t.l = vl at *
  generalize eL 1 eb t.b = vb at *
  generalize t.d.getD [] = dl at *
  clear q
  cases sp
  · exact Evs.of fun n m => by simp [-cells_eT, S56, p, q0, q2, q3, hld, hcl, hsp, hl2, cs]
  by_cases c0 : kd = 0
  case pos =>
    by_cases h64 : dl.length ≤ 64
    case neg =>
      have h64' : ¬ (dl.length : Int) ≤ 64 := by omega
      generalize (dl.length : Int) = N at *
      exact Evs.of fun n m => by simp [-cells_eT, S56, p, q0, q2, q3, q5, q6, hld, hcl, hsp, hl2, hl5, hl6, cs, c0, h64, h64']
    have h64' : (dl.length : Int) ≤ 64 := by omega
    rcases List.eq_nil_or_concat dl with rfl | ⟨l, x, rfl⟩
    · cases ng <;> exact Evs.of fun n m => by simp [-cells_eT, S56, p, q0, q1, q2, q3, q5, q6, hld, hcl, hsp, hl2, hl5, hl6, cs, c0]
    · simp only [List.concat_eq_append] at *
      have hlast := hix l.length (by simp)
      have hx : (l ++ [x])[l.length]'(by simp) = x := by simp
      rw [hx] at hlast
      have hln : (l ++ [x]).length = l.length + 1 := by simp
      have h63 : l.length ≤ 63 := by omega
      have hw : IntKind.wrap .i64 (((l ++ [x]).length : Int) - 1) = (l.length : Int) := by rw [wrap_i64 (by omega) (by omega)]; omega
      have hp : (0 : Int) < ((l ++ [x]).length : Int) := by omega
      have hp0 : ¬ ((l ++ [x]).length : Int) = 0 := by omega
      have hgl : (l ++ [x]).getLast? = some x := by simp
      rw [hgl]
      generalize (l.length : Int) = N0 at *
      generalize ((l ++ [x]).length : Int) = N at *
      by_cases hx0 : x = 0
      · have hxn : (x.toNat : Int) = 0 := by rw [hx0]; rfl
        generalize (x.toNat : Int) = xn at *
        exact Evs.of fun n m => by simp [-cells_eT, S56, p, q0, q2, q3, q5, q6, hld, hcl, hsp, hl2, hl5, hl6, cs, c0, h64', hw, hp, hp0, hlast, hxn, hx0, h63]
      · have hxn : ¬ (x.toNat : Int) = 0 := fun e => hx0 (UInt32.toNat_inj.1 (by simpa using e))
        generalize (x.toNat : Int) = xn at *
        exact Evs.of fun n m => by simp [-cells_eT, S56, p, q0, q2, q3, q5, q6, hld, hcl, hsp, hl2, hl5, hl6, cs, c0, h64', hw, hp, hp0, hlast, hxn, hx0, h63]
  by_cases c1 : kd = 1
  case pos =>
    by_cases h0 : 0 ≤ cn
    · exact Evs.of fun n m => by simp [-cells_eT, S56, p, q0, q2, q3, q5, q6, hld, hcl, hsp, hl2, hl5, hl6, cs, c1, h0]
    · exact Evs.of fun n m => by simp [-cells_eT, S56, p, q0, q2, q3, q5, q6, hld, hcl, hsp, hl2, hl5, hl6, cs, c1, h0]
  by_cases c2 : kd = 2
  case pos =>
    by_cases h0 : 0 ≤ nn
    · exact Evs.of fun n m => by simp [-cells_eT, S56, p, q0, q2, q3, q4, hld, hcl, hsp, hl2, cs, c2, h0]
    · exact Evs.of fun n m => by simp [-cells_eT, S56, p, q0, q2, q3, q4, hld, hcl, hsp, hl2, cs, c2, h0]
  by_cases c3 : kd = 3
  case pos =>
    by_cases h0 : 0 ≤ nn
    · exact Evs.of fun n m => by simp [-cells_eT, S56, p, q0, q2, q3, q4, hld, hcl, hsp, hl2, cs, c3, h0]
    · exact Evs.of fun n m => by simp [-cells_eT, S56, p, q0, q2, q3, q4, hld, hcl, hsp, hl2, cs, c3, h0]
  have e255 : decide ((nl : Int) ≤ 255) = decide (nl ≤ 255) := decide_eq_decide.2 (by omega)
  have e2 : decide ((nl : Int) = 2) = decide (nl = 2) := decide_eq_decide.2 (by omega)
  have e4096 : decide ((nb : Int) ≤ 4096) = decide (nb ≤ 4096) := decide_eq_decide.2 (by omega)
  by_cases c4 : kd = 4
  case pos => exact Evs.of fun n m => by simp [-cells_eT, S56, p, q0, q2, q3, q5, q6, hld, hcl, hsp, hl2, hl5, hl6, cs, c4, e255]
  by_cases c6 : kd = 6
  case pos => exact Evs.of fun n m => by simp [-cells_eT, S56, p, q0, q2, q3, q5, q6, hld, hcl, hsp, hl2, hl5, hl6, cs, c6, e2]
  by_cases c7 : kd = 7
  case pos => exact Evs.of fun n m => by simp [-cells_eT, S56, p, q0, q2, q3, q5, q6, hld, hcl, hsp, hl2, hl5, hl6, cs, c7, e4096]
  exact Evs.of fun n m => by simp [-cells_eT, S56, p, q0, q2, q3, q5, q6, hld, hcl, hsp, hl2, hl5, hl6, cs, c0, c1, c2, c3, c4, c6, c7]
end Go.Proofs.YtleikacgncpfbaaDoor

/- Terms: may one be: a round. -/
set_option maxRecDepth 100000
set_option maxHeartbeats 4000000
namespace Go.Proofs.YtleikacgncpfbaaDoor
open Go Go.Den
noncomputable abbrev TMay1 : List (FuncId × Pol) := [(75, pParts), (56, pOne)]
noncomputable def pWalkMay : Pol := .prim (runF base TMay1 77)
theorem okWalkMay : PolOK base 77 pWalkMay := ok_run base_ok TMay1 ⟨okParts, okOne, trivial⟩
noncomputable def LDm (t : Tm) : LoopD := LD17 (eT t) (.ptr 0 0 0 0) (.ptr 1 0 0 0) (eT t) (.fn (.func 77) [] [.ptr 2 0 0 0])
theorem LDm_state (t : Tm) : (LDm t).state = 0 := rfl
def okM (_ : Nat) (x : Tm) : Bool := decide ((x.d.getD []).length ≤ 1000000) && decide (x.name.length ≤ 1000000)
noncomputable def goM (s : Nat) (x : Tm) : Bool := decide (s + 1 ≤ 65536) && oneS countV x
def InvM (t : Tm) (s : Nat) (H : Heap) : Prop := s ≤ 65536 ∧ H[0]? = some (.row 0 1 4 [.bool false]) ∧ H[1]? = some (.row 0 1 3 [.int .i64 (s : Int)]) ∧ H[3]? = some (.loop (LDm t))
def FinM (t : Tm) (_ : Nat) (H : Heap) : Prop := H[0]? = some (.row 0 1 4 [.bool false]) ∧ H[3]? = some (.loop { LDm t with state := 2, pending := some .ret })
theorem may_round (t : Tm) (s : Nat) (x : Tm) (H : Heap) (hok : okM s x = true) (hI : InvM t s H) : ∃ H', YDoes TMay1 3 x H (.bool (goM s x)) H' ∧ (if goM s x then InvM t (s + 1) H' else FinM t (s + 1) H') ∧ ∀ q o, q ∉ [0, 1, 3] → H[q]? = some o → H'[q]? = some o := by
  obtain ⟨hs, h0, h1, h3⟩ := hI
  unfold okM at hok
  simp only [Bool.and_eq_true, decide_eq_true_eq] at hok
  have l0 : 0 < H.length := (List.getElem?_eq_some_iff.1 h0).1
  have l1 : 1 < H.length := (List.getElem?_eq_some_iff.1 h1).1
  have l3 : 3 < H.length := (List.getElem?_eq_some_iff.1 h3).1
  have hst0 : A.store 7 (.ptr H.length 0 0 0) (eT x) (H ++ [.row 0 7 26 [.agg [.int .i64 0, .bool false, .nils, .str [], .int .i64 0, .nils, .nils]]]) = some (H ++ [.row 0 7 26 [eT x]]) := by
    have hb : Go.Den.Box (H ++ [.row 0 7 26 [.agg [.int .i64 0, .bool false, .nils, .str [], .int .i64 0, .nils, .nils]]]) H.length 7 26 [.int .i64 0, .bool false, .nils, .str [], .int .i64 0, .nils, .nils] := row_push
    have := box_store (ds := (eT x).cells) hb rfl (by rw [cells_eT]; rfl) (by rw [cells_eT]; simp)
    have e : AV.agg (eT x).cells = eT x := by rw [cells_eT, eT_eq]
    rw [e] at this
    rw [this]
    simp
  generalize hH2 : H ++ [.row 0 7 26 [eT x]] = H2 at *
  have g0 : H2[0]? = some (.row 0 1 4 [.bool false]) := by rw [← hH2, List.getElem?_append_left l0]; exact h0
  have g1 : H2[1]? = some (.row 0 1 3 [.int .i64 (s : Int)]) := by rw [← hH2, List.getElem?_append_left l1]; exact h1
  have g3 : H2[3]? = some (.loop (LDm t)) := by rw [← hH2, List.getElem?_append_left l3]; exact h3
  have gx : H2[H.length]? = some (.row 0 7 26 [eT x]) := by rw [← hH2]; simp
  have gq : ∀ q o, H[q]? = some o → H2[q]? = some o := fun q o h => by
    rw [← hH2, List.getElem?_append_left (List.getElem?_eq_some_iff.1 h).1]
    exact h
  have k3 : 3 < H2.length := (List.getElem?_eq_some_iff.1 g3).1
  have k1 : 1 < H2.length := (List.getElem?_eq_some_iff.1 g1).1
  have k0 : 0 < H2.length := (List.getElem?_eq_some_iff.1 g0).1
  generalize hX : (HObj.loop { LDm t with state := 1 }) = X
  generalize hY : (HObj.row 0 1 3 [.int .i64 ((s : Int) + 1)]) = Y
  have a1 : (H2.set 3 X)[1]? = some (.row 0 1 3 [.int .i64 (s : Int)]) := by rw [List.getElem?_set_ne (by omega)]; exact g1
  have ax : ((H2.set 3 X).set 1 Y)[H.length]? = some (.row 0 7 26 [eT x]) := by rw [List.getElem?_set_ne (by omega), List.getElem?_set_ne (by omega)]; exact gx
  have a0 : ((H2.set 3 X).set 1 Y)[0]? = some (.row 0 1 4 [.bool false]) := by rw [List.getElem?_set_ne (by omega), List.getElem?_set_ne (by omega)]; exact g0
  have a3 : ((H2.set 3 X).set 1 Y)[3]? = some X := by rw [List.getElem?_set_ne (by omega), List.getElem?_set_self k3]
  have a1' : ((H2.set 3 X).set 1 Y)[1]? = some Y := List.getElem?_set_self (by simpa using k1)
  have hw : IntKind.wrap .i64 ((s : Int) + 1) = (s : Int) + 1 := wrap_i64 (by omega) (by omega)
  have b1 : A.load false 1 (.ptr 1 0 0 0) (H2.set 3 X) = some (.int .i64 (s : Int)) := by simp [A.load, A.elemAt, a1, A.ofList, AV.cells]
  have b2 : A.store 1 (.ptr 1 0 0 0) (.int .i64 ((s : Int) + 1)) (H2.set 3 X) = some ((H2.set 3 X).set 1 Y) := by
    rw [← hY]
    exact row_store a1 rfl rfl rfl
  have b3 : A.load false 1 (.ptr 1 0 0 0) ((H2.set 3 X).set 1 Y) = some (.int .i64 ((s : Int) + 1)) := by
    rw [← hY] at a1' ⊢
    simp [A.load, A.elemAt, a1', A.ofList, AV.cells]
  have b4 : A.load true 7 (.ptr H.length 0 0 0) ((H2.set 3 X).set 1 Y) = some (eT x) := by
    have hc : A.ofList true 7 (eT x).cells 0 = some (eT x) := load_eT (H := [])
    simp [-cells_eT, A.load, A.elemAt, ax, hc]
  have b5 : A.store 1 (.ptr 0 0 0 0) (.bool false) ((H2.set 3 X).set 1 Y) = some (((H2.set 3 X).set 1 Y).set 0 (.row 0 1 4 [.bool false])) := row_store a0 rfl rfl rfl
  have hlg : ∀ (R : Type) (f : LoopD → Option R), loopGet H2 3 f = f (LDm t) := fun R f => by unfold loopGet; rw [g3]
  have hone : ∀ (R : Type) (H : Heap) (k : AV → Heap → Option R), polK pOne [eT x] H k = k (.bool (oneS countV x)) H := fun R H k => kOne hok
  have hrk : ∀ (R : Type) (k : AV → Heap → Option R), roundK 3 k .normal ((H2.set 3 X).set 1 Y) = k (.bool true) (((H2.set 3 X).set 1 Y).set 3 (.loop (LDm t))) := fun R k => roundK_ready (by rw [hX]; exact a3) rfl rfl
  have hrr : ∀ (R : Type) (k : AV → Heap → Option R), roundK 3 k .ret (((H2.set 3 X).set 1 Y).set 0 (.row 0 1 4 [.bool false])) = k (.bool false) ((((H2.set 3 X).set 1 Y).set 0 (.row 0 1 4 [.bool false])).set 3 (.loop { LDm t with state := 2, pending := some .ret })) := fun R k => by
    have : (((H2.set 3 X).set 1 Y).set 0 (.row 0 1 4 [.bool false]))[3]? = some X := by rw [List.getElem?_set_ne (by omega)]; exact a3
    unfold roundK
    rw [this, ← hX]
    rfl
  have fin : FinM t (s + 1) ((((H2.set 3 X).set 1 Y).set 0 (.row 0 1 4 [.bool false])).set 3 (.loop { LDm t with state := 2, pending := some .ret })) := by
    refine ⟨?_, List.getElem?_set_self (by simpa using k3)⟩
    rw [List.getElem?_set_ne (by omega), List.getElem?_set_self (by simpa using k0)]
  have keepf : ∀ q o, q ∉ [0, 1, 3] → H[q]? = some o → ((((H2.set 3 X).set 1 Y).set 0 (.row 0 1 4 [.bool false])).set 3 (.loop { LDm t with state := 2, pending := some .ret }))[q]? = some o := fun q o hq ho => by
    simp at hq
    rw [List.getElem?_set_ne (by omega), List.getElem?_set_ne (by omega), List.getElem?_set_ne (by omega), List.getElem?_set_ne (by omega)]
    exact gq q o ho
  unfold goM
  generalize oneS countV x = w at *
  by_cases hc : s + 1 ≤ 65536
  · have hc' : ¬ (65536 : Int) < (s : Int) + 1 := by omega
    cases w
    · refine ⟨_, ⟨1, fun n hn R k => ?_⟩, by simpa [hc] using fin, keepf⟩
      obtain ⟨n, rfl⟩ : ∃ j, n = j + 1 := ⟨n - 1, by omega⟩
      rw [clV_yl, R17_step (h := h3)]
      simp [-cells_eT, hst0, hlg, LDm_state, hX, b1, hw, b2, b3, hc', b4, hone, b5, hrr]
    · refine ⟨((H2.set 3 X).set 1 Y).set 3 (.loop (LDm t)), ⟨1, fun n hn R k => ?_⟩, ?_, fun q o hq ho => ?_⟩
      · obtain ⟨n, rfl⟩ : ∃ j, n = j + 1 := ⟨n - 1, by omega⟩
        rw [clV_yl, R17_step (h := h3)]
        simp [-cells_eT, hst0, hlg, LDm_state, hX, b1, hw, b2, b3, hc', b4, hone, hrk, hc]
      · rw [if_pos (by simpa using hc)]
        refine ⟨hc, ?_, ?_, List.getElem?_set_self (by simpa using k3)⟩
        · rw [List.getElem?_set_ne (by omega), a0]
        · rw [List.getElem?_set_ne (by omega), a1', ← hY]
          rfl
      · simp at hq
        rw [List.getElem?_set_ne (by omega), List.getElem?_set_ne (by omega), List.getElem?_set_ne (by omega)]
        exact gq q o ho
  · have hc' : (65536 : Int) < (s : Int) + 1 := by omega
    refine ⟨_, ⟨1, fun n hn R k => ?_⟩, by simpa [hc] using fin, keepf⟩
    obtain ⟨n, rfl⟩ : ∃ j, n = j + 1 := ⟨n - 1, by omega⟩
    rw [clV_yl, R17_step (h := h3)]
    simp [-cells_eT, hst0, hlg, LDm_state, hX, b1, hw, b2, b3, hc', hc, b5, hrr]
end Go.Proofs.YtleikacgncpfbaaDoor

/- Terms: may one be: the entry. -/
set_option maxRecDepth 100000
set_option maxHeartbeats 4000000
namespace Go.Proofs.YtleikacgncpfbaaDoor
open Go Go.Den
noncomputable def mayS (t : Tm) : Bool := decide (szT t ≤ 65536) && mayT countV t
noncomputable def pMay : Pol := .still (p1 cT .bool tame mayS)
theorem kMay {R : Type} {t : Tm} (h : tame t) {H : Heap} {k : AV → Heap → Option R} : polK pMay [eT t] H k = k (.bool (mayS t)) H := by
  simp [pMay, polK_imm, h]
theorem okMay : PolOK base 17 pMay := still1 base_ok [(55, pWalk), (77, pWalkMay)] ⟨okWalk, okWalkMay, trivial⟩ fun t ht => by
  have hsz : szs [t] = szT t := by simp [szs]
  obtain ⟨s', hv⟩ := may_visit (cnt := countV) 65537 [t] 0 (by omega) (fun u hu => by simp at hu; rw [hu]; exact ht) (by omega)
  rw [hsz, Nat.zero_add] at hv
  have hr0 : (decide (szT t ≤ 65536) && [t].all (mayT countV)) = mayS t := by simp [mayS]
  rw [hr0] at hv
  generalize mayS t = r at *
  have hI0 : InvM t 0 [.row 0 1 4 [.bool false], .row 0 1 3 [.int .i64 0], .row 0 7 26 [eT t], .loop (LDm t), .row 0 7 26 [eT t]] := ⟨by omega, rfl, rfl, rfl⟩
  obtain ⟨H5, hL, hF⟩ := walk_loop (T := TMay1) (ok := okM) (go := goM) (step := fun s _ => s + 1) (Inv := InvM t) (Fin := FinM t) (B := [0, 1, 3]) (idl := 3) rfl (fun s x H hok hI => may_round t s x H hok hI) (fun s H q o hI hq => by
    obtain ⟨h1, h2, h3, h4⟩ := hI
    simp at hq
    exact ⟨h1, by rw [List.getElem?_set_ne (by omega)]; exact h2, by rw [List.getElem?_set_ne (by omega)]; exact h3, by rw [List.getElem?_set_ne (by omega)]; exact h4⟩) (W := 1000) (by omega) 65537 [t] 0 s' r hv (by simp) (fun u hu => by simp at hu; rw [hu]; exact tame_thin t ht)
    [.row 0 1 4 [.bool false], .row 0 1 3 [.int .i64 0], .row 0 7 26 [eT t], .loop (LDm t), .row 0 7 26 [eT t]] 4 0 1 [eT t] hI0 (by simp) rfl rfl (by simp)
  have hrun : runF base TMay1 77 [.yl 3, .ptr 2 0 0 0] [.row 0 1 4 [.bool false], .row 0 1 3 [.int .i64 0], .row 0 7 26 [eT t], .loop (LDm t)] = some (.tup [], H5) := runF_of (by
    refine Evs.withL hL (Evs.of fun n m h1 _ => ?_)
    have hone : A.fillElems 7 [.agg [.int .i64 0, .bool false, .nils, .str [], .int .i64 0, .nils, .nils]] [(0, 1, eT t)] = some [eT t] := by simp [A.fillElems, cells_eT]
    have hld : A.load true 7 (.ptr 2 0 0 0) [.row 0 1 4 [.bool false], .row 0 1 3 [.int .i64 0], .row 0 7 26 [eT t], .loop (LDm t)] = some (eT t) := by
      have hc : A.ofList true 7 (eT t).cells 0 = some (eT t) := load_eT (H := [])
      simp [-cells_eT, A.load, A.elemAt, hc]
    have h1' : L77_0 (polT TMay1) n n ⟨[.yl 3, .sl 4 0 0 1 1], []⟩ [.row 0 1 4 [.bool false], .row 0 1 3 [.int .i64 0], .row 0 7 26 [eT t], .loop (LDm t), .row 0 7 26 [eT t]] = some (if r then 0 else 1, ⟨[], []⟩, H5) := h1
    cases r <;> simp [-cells_eT, S77, hld, hone, h1'])
  refine Evs.of fun n m => ?_
  have hst : A.store 1 (.ptr 1 0 0 0) (.int .i64 0) [.row 0 1 4 [.bool false], .row 0 1 3 [.int .i64 0]] = some [.row 0 1 4 [.bool false], .row 0 1 3 [.int .i64 0]] := rfl
  have hof : A.ofList true 7 (eT t).cells 0 = some (eT t) := load_eT (H := [])
  have hcl : (eT t).cells.length = 7 := by rw [cells_eT]; rfl
  cases r
  · simp only [Bool.false_eq_true, if_false] at hF
    obtain ⟨f0, f3⟩ := hF
    have hfin : A.load false 1 (.ptr 0 0 0 0) (H5.set 3 .dead) = some (.bool false) := by
      have : (H5.set 3 .dead)[0]? = some (.row 0 1 4 [.bool false]) := by rw [List.getElem?_set_ne (by omega)]; exact f0
      simp [A.load, A.elemAt, this, A.ofList, AV.cells]
    have hrf : ∀ (R : Type) (k : AExit → Heap → Option R), rfK (base.with (polT [(55, pWalk), (77, pWalkMay)])) n (.fn (.func 77) [] [.ptr 2 0 0 0]) (LDm t) [.row 0 1 4 [.bool false], .row 0 1 3 [.int .i64 0], .row 0 7 26 [eT t]] k = k .ret (H5.set 3 .dead) := fun R k => by rw [rfK_run (T := [(55, pWalk), (77, pWalkMay)]) (H := [.row 0 1 4 [.bool false], .row 0 1 3 [.int .i64 0], .row 0 7 26 [eT t]]) (L := LDm t) (cap := [.ptr 2 0 0 0]) has77 rfl hrun f3 rfl]; rfl
    unfold LDm at hrf
    simp [-cells_eT, S17, hcl, hst, hof, kWalk, hrf, exitK, hfin]
  · simp only [if_true] at hF
    obtain ⟨_, f0, _, f3⟩ := hF
    have hg : (H5.set 3 .dead)[0]? = some (.row 0 1 4 [.bool false]) := by rw [List.getElem?_set_ne (by omega)]; exact f0
    have hst2 : A.store 1 (.ptr 0 0 0 0) (.bool true) (H5.set 3 .dead) = some ((H5.set 3 .dead).set 0 (.row 0 1 4 [.bool true])) := row_store hg rfl rfl rfl
    have hfin : A.load false 1 (.ptr 0 0 0 0) ((H5.set 3 .dead).set 0 (.row 0 1 4 [.bool true])) = some (.bool true) := by
      have : ((H5.set 3 .dead).set 0 (.row 0 1 4 [.bool true]))[0]? = some (.row 0 1 4 [.bool true]) := List.getElem?_set_self (List.getElem?_eq_some_iff.1 hg).1
      simp [A.load, A.elemAt, this, A.ofList, AV.cells]
    have hrf : ∀ (R : Type) (k : AExit → Heap → Option R), rfK (base.with (polT [(55, pWalk), (77, pWalkMay)])) n (.fn (.func 77) [] [.ptr 2 0 0 0]) (LDm t) [.row 0 1 4 [.bool false], .row 0 1 3 [.int .i64 0], .row 0 7 26 [eT t]] k = k .normal (H5.set 3 .dead) := fun R k => by rw [rfK_run (T := [(55, pWalk), (77, pWalkMay)]) (H := [.row 0 1 4 [.bool false], .row 0 1 3 [.int .i64 0], .row 0 7 26 [eT t]]) (L := LDm t) (cap := [.ptr 2 0 0 0]) has77 rfl hrun f3 rfl]; rfl
    unfold LDm at hrf
    simp [-cells_eT, S17, hcl, hst, hof, kWalk, hrf, exitK, hst2, hfin]
end Go.Proofs.YtleikacgncpfbaaDoor

/- Terms, the reference: how many parts a term has. -/
set_option maxRecDepth 100000
set_option maxHeartbeats 4000000
namespace Go.Proofs.YtleikacgncpfbaaDoor
open Go Go.Den
theorem szs_drop {l : List Tm} {i : Nat} (h : i < l.length) : szs (l.drop i) = szT l[i] + szs (l.drop (i + 1)) := by
  rw [List.drop_eq_getElem_cons h, szs]
theorem min_int {a b : Int} {k : IntKind} : A.minv (.int k a) (.int k b) = some (.int k (if b < a then b else a)) := by simp [A.minv]
noncomputable def pRtree (n : Nat) : Pol := .still (p1 cT (fun n : Nat => .int .i64 (n : Int)) (fun t => t.size ≤ n ∧ t.thin 1000) (fun t => min (szT t) 65537))
theorem kRtree {n : Nat} {R : Type} {t : Tm} (h : t.size ≤ n) (h2 : t.thin 1000) {H : Heap} {k : AV → Heap → Option R} : polK (pRtree n) [eT t] H k = k (.int .i64 ((min (szT t) 65537 : Nat) : Int)) H := by
  simp [pRtree, polK_imm, h, h2]
theorem rtree_loop {n : Nat} {t : Tm} {H : Heap} (hs : t.size ≤ n + 1) (ht : t.thin 1000) (hB : Go.Den.Box H 0 7 26 (eT t).cells) : ∀ (k i c : Nat), i + k = t.kids.length → c ≤ 200000 →
    ∃ c' : Nat, min c' 65537 = min (c + szs (t.kids.drop i)) 65537 ∧ LDoes (L20_0 (polT [(20, pRtree n)])) ⟨[.ptr 0 0 0 0, .int .i64 (c : Int), .int .i64 (i : Int)], []⟩ H 0 ⟨[.int .i64 (c' : Int)], []⟩ H := by
  have p1 := hB.fa (o := 5)
  have p2 := hB.load (o := 5)
  rw [cells_eT] at p2
  simp only [List.getElem?_cons_succ, List.getElem?_cons_zero] at p2
  have hl : t.kids.length ≤ 1000 := (Tm.thin_eq.1 ht).1
  have hlen : A.len (eL 7 eT t.l) H = some (.int .i64 ((t.kids.length : Nat) : Int)) := len_eL
  intro k
  induction k with
  | zero =>
    intro i c hi hc
    have : i = t.kids.length := by omega
    subst this
    have h0 : szs [] = 0 := by rw [szs]
    rw [List.drop_length, h0]
    refine ⟨c, rfl, LDoes.step (Evs.of fun n m => ?_)⟩
    generalize (t.kids.length : Int) = N at *
    simp [↓test_bool, ↓withV_of, ↓withP_some, ↓withB_some, L20_0_step, p1, p2, hlen]
  | succ k ih =>
    intro i c hi hc
    have hlt : i < t.kids.length := by omega
    have hlt' : (i : Int) < (t.kids.length : Int) := by omega
    by_cases h6 : c ≤ 65536
    · have h6' : (c : Int) ≤ 65536 := by omega
      have hx : A.idx 7 (eL 7 eT t.l) (.int .i64 (i : Int)) H = some (.rop (eT t.kids[i]).cells) := idx_eL (sz := 7) (e := eT) (o := t.l) (H := H) (k := .i64) (i := i) hlt
      have hi1 : IntKind.wrap .i64 ((i : Int) + 1) = (i : Int) + 1 := wrap_i64 (by omega) (by omega)
      have hsz : (t.kids[i]).size ≤ n := by
        have := Tm.size_kid (t := t) (u := t.kids[i]) (List.getElem_mem hlt)
        omega
      have hr : ∀ (R : Type) (H : Heap) (k : AV → Heap → Option R), polK (pRtree n) [eT t.kids[i]] H k = k (.int .i64 ((min (szT t.kids[i]) 65537 : Nat) : Int)) H := fun R H k => kRtree hsz ((Tm.thin_eq.1 ht).2 _ (List.getElem_mem hlt))
      have hld := load_eT (t := t.kids[i]) (H := H)
      generalize hm : min (szT t.kids[i]) 65537 = m at *
      obtain ⟨c', hc', hL⟩ := ih (i + 1) (c + m) (by omega) (by omega)
      have hw : IntKind.wrap .i64 ((c : Int) + (m : Int)) = (c : Int) + (m : Int) := wrap_i64 (by omega) (by omega)
      simp only [Int.natCast_add, Int.natCast_one] at hL
      refine ⟨c', ?_, LDoes.step (Evs.withL hL (Evs.of fun n m _ h2 => ?_))⟩
      · rw [hc', szs_drop hlt]
        omega
      · generalize (eT t.kids[i]).cells = cs at *
        generalize eT t.kids[i] = v at *
        generalize (t.kids.length : Int) = N at *
        simp [↓test_bool, ↓withV_of, ↓withP_some, ↓withB_some, L20_0_step, p1, p2, hlen, hlt', h6', hx, hld, hr, hw, hi1, h2]
    · have h6' : ¬ (c : Int) ≤ 65536 := by omega
      refine ⟨c, by omega, LDoes.step (Evs.of fun n m => ?_)⟩
      generalize (t.kids.length : Int) = N at *
      simp [↓test_bool, ↓withV_of, ↓withP_some, ↓withB_some, L20_0_step, p1, p2, hlen, hlt', h6']
theorem okRtree : ∀ n, PolOK base 20 (pRtree n)
  | 0 => still1 base_ok [] trivial fun t ⟨hs, _⟩ => by
    have := t.size_eq
    omega
  | n + 1 => still1 base_ok [(20, pRtree n)] ⟨okRtree n, trivial⟩ fun t ⟨hs, ht⟩ => by
    have hB := box_eT t [.row 0 7 26 [eT t]] 0 rfl
    have p := fun o => hB.fa (o := o)
    have q := fun o => hB.load (o := o)
    rw [cells_eT] at q
    have q0 := q 0
    simp only [List.getElem?_cons_zero] at q0
    have hce : (eT t).cells.length = 7 := by rw [cells_eT]; rfl
    obtain ⟨c', hc', hL⟩ := rtree_loop (n := n) (t := t) hs ht hB t.kids.length 0 1 (by omega) (by omega)
    have hmin : ∀ a : Nat, A.minv (.int .i64 (a : Int)) (.int .i64 65537) = some (.int .i64 ((min a 65537 : Nat) : Int)) := fun a => by
      rw [min_int]
      congr 2
      split <;> omega
    refine Evs.withL hL (Evs.of fun n m h1 _ => ?_)
    rw [szT_eq]
    unfold partsO
    by_cases c4 : t.kind = 4
    · have e : min c' 65537 = min (1 + szs (t.l.getD [])) 65537 := hc'
      rw [if_pos (Or.inl c4), ← e]
      rw [c4] at q0
      have h1' : L20_0 (polT [(20, pRtree _)]) n n ⟨[.ptr 0 0 0 0, .int .i64 1, .int .i64 0], []⟩ [.row 0 7 26 [eT t]] = some (0, ⟨[.int .i64 (c' : Int)], []⟩, [.row 0 7 26 [eT t]]) := h1
      have hm := hmin c'
      generalize ((min c' 65537 : Nat) : Int) = r at *
      simp [-cells_eT, S20, hce, p, q0, h1', hm]
    · by_cases c6 : t.kind = 6
      · have e : min c' 65537 = min (1 + szs (t.l.getD [])) 65537 := hc'
        rw [if_pos (Or.inr c6), ← e]
        rw [c6] at q0
        have h1' : L20_0 (polT [(20, pRtree _)]) n n ⟨[.ptr 0 0 0 0, .int .i64 1, .int .i64 0], []⟩ [.row 0 7 26 [eT t]] = some (0, ⟨[.int .i64 (c' : Int)], []⟩, [.row 0 7 26 [eT t]]) := h1
        have hm := hmin c'
        generalize ((min c' 65537 : Nat) : Int) = r at *
        simp [-cells_eT, S20, hce, p, q0, h1', hm]
      · rw [if_neg (by omega)]
        have e0 : min (1 + szs ((none : Option (List Tm)).getD [])) 65537 = 1 := by
          have h0 : szs [] = 0 := by rw [szs]
          show min (1 + szs []) 65537 = 1
          rw [h0]
          rfl
        have hm := hmin 1
        rw [e0]
        simp only [Int.natCast_one] at hm
        simp [-cells_eT, S20, hce, p, q0, c4, c6]
end Go.Proofs.YtleikacgncpfbaaDoor

/- Terms, the reference: how many words a term takes. -/
set_option maxRecDepth 100000
set_option maxHeartbeats 4000000
namespace Go.Proofs.YtleikacgncpfbaaDoor
open Go Go.Den
theorem wordsOne_le {x : Tm} (h : x.thin 1000) (h2 : x.fewd) : wordsOne x ≤ 1000002 := words_le (Tm.fewd_eq.1 h2).1 (Tm.thin_eq.1 h).1
theorem wT_le : ∀ t : Tm, t.thin 1000 → t.fewd → wT t ≤ 1000002 * szT t := tm_ind fun t ih h1 h2 => by
  have hl : ∀ l : List Tm, (∀ u ∈ l, u ∈ t.kids) → wTs l ≤ 1000002 * szs l := by
    intro l
    induction l with
    | nil => intro _; simp [wTs]
    | cons u l ihl =>
      intro hl
      have hu := hl u (by simp)
      have a := ih u hu ((Tm.thin_eq.1 h1).2 u hu) ((Tm.fewd_eq.1 h2).2 u hu)
      have b := ihl fun x hx => hl x (by simp [hx])
      rw [wTs, szs]
      omega
  have a := wordsOne_le h1 h2
  have b := hl _ fun u hu => parts_kids hu
  rw [wT_eq, szT_eq]
  omega
theorem szs_mem {l : List Tm} {u : Tm} (h : u ∈ l) : szT u ≤ szs l := by
  induction l with
  | nil => cases h
  | cons t l ih =>
    rw [szs]
    rcases List.mem_cons.1 h with rfl | h
    · omega
    · have := ih h
      omega
theorem wTs_drop {l : List Tm} {i : Nat} (h : i < l.length) : wTs (l.drop i) = wT l[i] + wTs (l.drop (i + 1)) := by
  rw [List.drop_eq_getElem_cons h, wTs]
def fineW (t : Tm) : Prop := t.thin 1000 ∧ t.fewd ∧ szT t ≤ 65536
noncomputable def pRwords (n : Nat) : Pol := .still (p1 cT (fun n : Nat => .int .i64 (n : Int)) (fun t => t.size ≤ n ∧ fineW t) wT)
theorem kRwords {n : Nat} {R : Type} {t : Tm} (h : t.size ≤ n) (h2 : fineW t) {H : Heap} {k : AV → Heap → Option R} : polK (pRwords n) [eT t] H k = k (.int .i64 (wT t : Nat)) H := by
  simp [pRwords, polK_imm, h, h2]
noncomputable abbrev TRw (n : Nat) : List (FuncId × Pol) := [(22, pRwords n), (33, pSmallof), (35, pRnorm)]
theorem rwords_loop {n : Nat} {t : Tm} {H : Heap} (hs : t.size ≤ n + 1) (ht : fineW t) (hp : partsO t = t.l) : ∀ (k i c : Nat), i + k = t.kids.length → c + wTs (t.kids.drop i) ≤ 100000000000 →
    LDoes (L22_0 (polT (TRw n))) ⟨[.int .i64 (c : Int), .int .i64 (i : Int)], [(eT t).cells]⟩ H 0 ⟨[.int .i64 ((c + wTs (t.kids.drop i) : Nat) : Int)], []⟩ H := by
  have hl : t.kids.length ≤ 1000 := (Tm.thin_eq.1 ht.1).1
  have hlen : A.len (eL 7 eT t.l) H = some (.int .i64 ((t.kids.length : Nat) : Int)) := len_eL
  have h5 : A.ofList false 1 (eT t).cells 5 = some (eL 7 eT t.l) := by rw [cells_eT]; rfl
  have hpk : (partsO t).getD [] = t.kids := by rw [hp]; rfl
  intro k
  induction k with
  | zero =>
    intro i c hi hc
    have : i = t.kids.length := by omega
    subst this
    have h0 : wTs [] = 0 := by simp [wTs]
    rw [List.drop_length, h0]
    refine LDoes.step (Evs.of fun n m => ?_)
    generalize (eT t).cells = cs at *
    generalize (t.kids.length : Int) = N at *
    simp [↓test_bool, ↓withV_of, L22_0_step, h5, hlen]
  | succ k ih =>
    intro i c hi hc
    have hlt : i < t.kids.length := by omega
    have hlt' : (i : Int) < (t.kids.length : Int) := by omega
    have hmem : t.kids[i] ∈ t.kids := List.getElem_mem hlt
    have hx : A.idx 7 (eL 7 eT t.l) (.int .i64 (i : Int)) H = some (.rop (eT t.kids[i]).cells) := idx_eL (sz := 7) (e := eT) (o := t.l) (H := H) (k := .i64) (i := i) hlt
    have hi1 : IntKind.wrap .i64 ((i : Int) + 1) = (i : Int) + 1 := wrap_i64 (by omega) (by omega)
    have hsz : (t.kids[i]).size ≤ n := by
      have := Tm.size_kid (t := t) (u := t.kids[i]) hmem
      omega
    have hfw : fineW t.kids[i] := by
      refine ⟨(Tm.thin_eq.1 ht.1).2 _ hmem, (Tm.fewd_eq.1 ht.2.1).2 _ hmem, ?_⟩
      have h1 := ht.2.2
      rw [szT_eq, hpk] at h1
      have h2 := szs_mem hmem
      omega
    have hr : ∀ (R : Type) (H : Heap) (k : AV → Heap → Option R), polK (pRwords n) [eT t.kids[i]] H k = k (.int .i64 (wT t.kids[i] : Nat)) H := fun R H k => kRwords hsz hfw
    have hld := load_eT (t := t.kids[i]) (H := H)
    rw [wTs_drop hlt] at hc ⊢
    generalize wT t.kids[i] = m at *
    have hL := ih (i + 1) (c + m) (by omega) (by omega)
    have hw : IntKind.wrap .i64 ((c : Int) + (m : Int)) = (c : Int) + (m : Int) := wrap_i64 (by omega) (by omega)
    rw [Nat.add_assoc] at hL
    generalize c + (m + wTs (t.kids.drop (i + 1))) = out at *
    simp only [Int.natCast_add, Int.natCast_one] at hL
    refine LDoes.step (Evs.withL hL (Evs.of fun n m _ h2 => ?_))
    generalize (eT t.kids[i]).cells = cs at *
    generalize (eT t).cells = cs0 at *
    generalize eT t.kids[i] = v at *
    generalize (t.kids.length : Int) = N at *
    simp [↓test_bool, ↓withV_of, L22_0_step, h5, hlen, hlt', hx, hld, hr, hw, hi1, h2]
theorem okRwords : ∀ n, PolOK base 22 (pRwords n)
  | 0 => still1 base_ok [] trivial fun t ⟨hs, _⟩ => by
    have := t.size_eq
    omega
  | n + 1 => still1 base_ok (TRw n) ⟨okRwords n, okSmallof, okRnorm, trivial⟩ fun t ⟨hs, ht⟩ => by
    have hlen : A.len (eL 7 eT t.l) [] = some (.int .i64 ((t.kids.length : Nat) : Int)) := len_eL
    have hfew : few t.d := (Tm.fewd_eq.1 ht.2.1).1
    have hsm : ∀ (H : Heap) (k : AV → Heap → Option AV), polK pSmallof [.agg [.bool t.neg, eD t.d]] H k = k (.tup [.int .i64 (smallS (t.neg, t.d)).1, .bool (smallS (t.neg, t.d)).2]) H := fun H k => kSmallof (a := (t.neg, t.d)) hfew
    have hnm : ∀ (H : Heap) (k : AV → Heap → Option AV), polK pRnorm [.agg [.bool t.neg, eD t.d]] H k = k (eN (rnormS (t.neg, t.d))) H := fun H k => kRnorm (a := (t.neg, t.d)) hfew
    have hfill1 : A.fill [.bool false, .nils] [(0, 1, .bool t.neg), (1, 1, eD t.d)] = some [.bool t.neg, eD t.d] := by simp [A.fill, A.splice]
    have hbig := wT_le t ht.1 ht.2.1
    have hle := wordsOne_le ht.1 ht.2.1
    have hkl : t.kids.length ≤ 1000 := (Tm.thin_eq.1 ht.1).1
    have hk : ∀ kd : Int, t.kind = kd → (kd = 4 ∨ kd = 6) → Evs fun n m => L22_0 (polT (TRw _)) n n ⟨[.int .i64 ((1 + t.kids.length : Nat) : Int), .int .i64 0], [(eT t).cells]⟩ [] = some (0, ⟨[.int .i64 (wT t : Nat)], []⟩, []) := fun kd e hkd => by
      have hp : partsO t = t.l := by unfold partsO; rw [if_pos (by rw [e]; exact hkd)]
      have hwo : wordsOne t = 1 + t.kids.length := by
        unfold wordsOne
        rcases hkd with rfl | rfl
        · rw [if_neg (by omega), if_neg (by omega), if_pos e]
        · rw [if_neg (by omega), if_pos e]
      have hw : wT t = 1 + t.kids.length + wTs (t.kids.drop 0) := by
        rw [wT_eq, hwo, hp]
        rfl
      have hL := rwords_loop (n := _) (t := t) (H := []) hs ht hp t.kids.length 0 (1 + t.kids.length) (by omega) (by rw [← hw]; have := ht.2.2; omega)
      rw [← hw] at hL
      obtain ⟨N, hN⟩ := hL
      exact ⟨N, fun n m h1 h2 => hN n n h1 h1⟩
    by_cases c0 : t.kind = 0
    · have hwt : wT t = wordsOne t := by
        rw [wT_eq]
        unfold partsO
        rw [if_neg (by omega)]
        simp [wTs]
      rw [hwt]
      unfold wordsOne
      rw [if_pos c0]
      have hnl : ((normS (false, t.d)).2.getD []) = (rnormS (t.neg, t.d)).2.getD [] := by
        rw [normS_get]
        unfold rnormS
        cases lim (val (t.d.getD [])) <;> rfl
      rw [hnl]
      have hll : ((rnormS (t.neg, t.d)).2.getD []).length ≤ 1000000 := by
        rw [← hnl, normS_get]
        have h := lim_len_le (t.d.getD [])
        unfold few at hfew
        exact Nat.le_trans h hfew
      cases hb : (smallS (t.neg, t.d)).2
      · rw [hb] at hsm
        generalize rnormS (t.neg, t.d) = r at *
        obtain ⟨rn, rd⟩ := r
        have hfd : A.field false 1 1 (eN (rn, rd)) = some (eD rd) := rfl
        have hln : A.len (eD rd) [] = some (.int .i64 ((rd.getD []).length : Int)) := len_eL
        have hw : IntKind.wrap .i64 (1 + ((rd.getD []).length : Int)) = 1 + ((rd.getD []).length : Int) := wrap_i64 (by omega) (by dsimp only at hll; omega)
        refine Evs.of fun n m => ?_
        simp only [Bool.false_eq_true, if_false, Int.natCast_add, Int.natCast_one]
        generalize ((rd.getD []).length : Int) = N at *
        simp [↓test_bool, ↓bindC_eq, ↓withV_of, ↓chkD_true, -len_eL, S22, c0, hfill1, hsm, hnm, hfd, hln, hw]
      · rw [hb] at hsm
        refine Evs.of fun n m => ?_
        simp [↓test_bool, ↓bindC_eq, ↓withV_of, ↓chkD_true, -len_eL, S22, c0, hfill1, hsm]
    by_cases c7 : t.kind = 7
    · have hwt : wT t = 4 := by
        rw [wT_eq]
        unfold partsO wordsOne
        simp [c7, wTs]
      rw [hwt]
      refine Evs.of fun n m => ?_
      simp [↓test_bool, ↓bindC_eq, ↓withV_of, ↓chkD_true, -len_eL, S22, c7]
    have hw1 : IntKind.wrap .i64 (1 + (t.kids.length : Int)) = ((1 + t.kids.length : Nat) : Int) := by rw [wrap_i64 (by omega) (by omega)]; omega
    by_cases c4 : t.kind = 4
    · obtain ⟨N, hN⟩ := hk 4 c4 (Or.inl rfl)
      refine ⟨N, fun n m h1' h2' => ?_⟩
      have hL := hN n m h1' h2'
      rw [cells_eT, c4] at hL
      generalize ((1 + t.kids.length : Nat) : Int) = N1 at *
      generalize (t.kids.length : Int) = N2 at *
      simp [↓test_bool, ↓bindV_eq, ↓bindC_eq, ↓withV_of, ↓bindX_some, ↓chkD_true, -len_eL, S22, c4, hlen, hw1, hL]
    by_cases c6 : t.kind = 6
    · obtain ⟨N, hN⟩ := hk 6 c6 (Or.inr rfl)
      refine ⟨N, fun n m h1' h2' => ?_⟩
      have hL := hN n m h1' h2'
      rw [cells_eT, c6] at hL
      generalize ((1 + t.kids.length : Nat) : Int) = N1 at *
      generalize (t.kids.length : Int) = N2 at *
      simp [↓test_bool, ↓bindV_eq, ↓bindC_eq, ↓withV_of, ↓bindX_some, ↓chkD_true, -len_eL, S22, c6, hlen, hw1, hL]
    · have hwt : wT t = 0 := by
        rw [wT_eq]
        unfold partsO wordsOne
        simp [c0, c4, c6, c7, wTs]
      rw [hwt]
      refine Evs.of fun n m => ?_
      simp [↓test_bool, ↓bindV_eq, ↓bindC_eq, ↓withV_of, ↓bindX_some, ↓chkD_true, -len_eL, S22, c0, c7, c4, c6]
end Go.Proofs.YtleikacgncpfbaaDoor

/- Terms, the reference: may one be, but for how many parts it has. -/
set_option maxRecDepth 100000
set_option maxHeartbeats 8000000
namespace Go.Proofs.YtleikacgncpfbaaDoor
open Go Go.Den
theorem str_nil_neq {t : TypeId} {c : Bool} {H : Heap} (s : List UInt8) : A.bin base.P .neq t (.str s) (.str []) c H = some (.bool (!decide (s = []))) := by
  cases s <;> rfl
theorem few_rnorm {a : Nm} (h : few a.2) : few (rnormS a).2 := by
  unfold few at h ⊢
  have e : (rnormS a).2.getD [] = lim (val (a.2.getD [])) := by
    unfold rnormS
    cases lim (val (a.2.getD [])) <;> rfl
  have := lim_len_le (a.2.getD [])
  rw [e]
  omega
noncomputable def pRmay (n : Nat) : Pol := .still (p1 cT .bool (fun t => t.size ≤ n ∧ tame t) (mayT countV))
theorem kRmay {n : Nat} {R : Type} {t : Tm} (h : t.size ≤ n) (h2 : tame t) {H : Heap} {k : AV → Heap → Option R} : polK (pRmay n) [eT t] H k = k (.bool (mayT countV t)) H := by
  simp [pRmay, polK_imm, h, h2]
noncomputable abbrev TRm (n : Nat) : List (FuncId × Pol) := [(57, pRmay n), (35, pRnorm), (34, pSame), (80, pRvalid), (81, pRcount)]
theorem rmay_loop {n : Nat} {t : Tm} {H : Heap} (hs : t.size ≤ n + 1) (ht : tame t) (hB : Go.Den.Box H 0 7 26 (eT t).cells) : ∀ (k i : Nat), i + k = t.kids.length →
    LDoes (L57_0 (polT (TRm n))) ⟨[.ptr 0 0 0 0, .int .i64 (i : Int)], []⟩ H (if (t.kids.drop i).all (mayT countV) then 0 else 1) ⟨[if (t.kids.drop i).all (mayT countV) then .undef else .bool false], []⟩ H := by
  have p1 := hB.fa (o := 5)
  have p2 := hB.load (o := 5)
  rw [cells_eT] at p2
  simp only [List.getElem?_cons_succ, List.getElem?_cons_zero] at p2
  have hl : t.kids.length ≤ 1000 := (tame_eq.1 ht).1.2.2
  have hlen : A.len (eL 7 eT t.l) H = some (.int .i64 ((t.kids.length : Nat) : Int)) := len_eL
  intro k
  induction k with
  | zero =>
    intro i hi
    have : i = t.kids.length := by omega
    subst this
    rw [List.drop_length]
    refine LDoes.step (Evs.of fun n m => ?_)
    generalize (t.kids.length : Int) = N at *
    simp [-len_eL, L57_0_step, p1, p2, hlen]
  | succ k ih =>
    intro i hi
    have hlt : i < t.kids.length := by omega
    have hlt' : (i : Int) < (t.kids.length : Int) := by omega
    have hmem : t.kids[i] ∈ t.kids := List.getElem_mem hlt
    have hx : A.idx 7 (eL 7 eT t.l) (.int .i64 (i : Int)) H = some (.rop (eT t.kids[i]).cells) := idx_eL (sz := 7) (e := eT) (o := t.l) (H := H) (k := .i64) (i := i) hlt
    have hi1 : IntKind.wrap .i64 ((i : Int) + 1) = (i : Int) + 1 := wrap_i64 (by omega) (by omega)
    have hsz : (t.kids[i]).size ≤ n := by
      have := Tm.size_kid (t := t) (u := t.kids[i]) hmem
      omega
    have hr : ∀ (R : Type) (H : Heap) (k : AV → Heap → Option R), polK (pRmay n) [eT t.kids[i]] H k = k (.bool (mayT countV t.kids[i])) H := fun R H k => kRmay hsz ((tame_eq.1 ht).2 _ hmem)
    have hld := load_eT (t := t.kids[i]) (H := H)
    have hL := ih (i + 1) (by omega)
    simp only [Int.natCast_add, Int.natCast_one] at hL
    rw [List.drop_eq_getElem_cons hlt, List.all_cons]
    generalize (t.kids.drop (i + 1)).all (mayT countV) = rest at *
    generalize (eT t.kids[i]).cells = cs at *
    generalize (t.kids.length : Int) = N at *
    cases hm : mayT countV t.kids[i]
    · rw [hm] at hr
      generalize eT t.kids[i] = v at *
      refine LDoes.step (Evs.of fun n m => ?_)
      simp [-len_eL, L57_0_step, p1, p2, hlen, hlt', hx, hld, hr]
    · rw [hm] at hr
      generalize eT t.kids[i] = v at *
      refine LDoes.step (Evs.withL hL (Evs.of fun n m _ h2 => ?_))
      simp [-len_eL, L57_0_step, p1, p2, hlen, hlt', hx, hld, hr, hi1, h2]
end Go.Proofs.YtleikacgncpfbaaDoor

/- Terms, the reference: may one be, but for how many parts it has: kinds 0, 1. -/
set_option maxRecDepth 100000
set_option maxHeartbeats 8000000
namespace Go.Proofs.YtleikacgncpfbaaDoor
open Go Go.Den
theorem rmay_A (n : Nat) (t : Tm) (hs : t.size ≤ n + 1) (ht : tame t) (hkd : t.kind = 0 ∨ t.kind = 1) : Evs fun n' _ => callF (base.with (polT (TRm n))) (n' + 1) AV 57 [cT.enc t] [] (fun v G => A.freezeB true 64 G v) = some (.bool (mayT countV t)) := by
  have hB : Go.Den.Box [.row 0 7 26 [eT t]] 0 7 26 (eT t).cells := box_eT t _ 0 rfl
  have p := fun o => hB.fa (o := o)
  have q := fun o => hB.load (o := o)
  rw [cells_eT] at q
  have q0 := q 0
  have q1 := q 1
  have q2 := q 2
  have q3 := q 3
  have q4 := q 4
  have q5 := q 5
  have q6 := q 6
  simp only [List.getElem?_cons_succ, List.getElem?_cons_zero] at q0 q1 q2 q3 q4 q5 q6
  have hcl : (eT t).cells.length = 7 := by rw [cells_eT]; rfl
  have hl5 : A.len (eL 7 eT t.l) [.row 0 7 26 [eT t]] = some (.int .i64 ((t.kids.length : Nat) : Int)) := len_eL
  have hl2 : A.len (eD t.d) [.row 0 7 26 [eT t]] = some (.int .i64 ((t.d.getD []).length : Int)) := len_eL
  have hl6 : A.len (eL 1 eb t.b) [.row 0 7 26 [eT t]] = some (.int .i64 ((t.b.getD []).length : Int)) := len_eL
  have hsn := fun H => str_nil_neq (t := 9) (c := true) (H := H) t.name
  have hs0 := fun H => str_nil_neq (t := 9) (c := true) (H := H) []
  have hfew : few t.d := (tame_eq.1 ht).1.1
  have hnl : notlong t.name := (tame_eq.1 ht).1.2.1
  have hnm : ∀ (R : Type) (H : Heap) (k : AV → Heap → Option R), polK pRnorm [.agg [.bool t.neg, eD t.d]] H k = k (eN (rnormS (t.neg, t.d))) H := fun R H k => kRnorm (a := (t.neg, t.d)) hfew
  have hsm : ∀ (R : Type) (H : Heap) (k : AV → Heap → Option R), polK pSame [.agg [.bool t.neg, eD t.d], eN (rnormS (t.neg, t.d))] H k = k (.bool (sameS (t.neg, t.d) (rnormS (t.neg, t.d)))) H := fun R H k => kSame (a := (t.neg, t.d)) hfew (few_rnorm hfew)
  have hfill : A.fill [.bool false, .nils] [(0, 1, .bool t.neg), (1, 1, eD t.d)] = some [.bool t.neg, eD t.d] := by simp [A.fill, A.splice]
  have hva : ∀ (R : Type) (H : Heap) (k : AV → Heap → Option R), polK pRvalid [.str t.name] H k = k (.bool (validV t.name)) H := fun R H k => kRvalid
  have hco : ∀ (R : Type) (H : Heap) (k : AV → Heap → Option R), polK pRcount [.str t.name] H k = k (.int .i64 (countV t.name)) H := fun R H k => kRcount hnl
  have hcv := countV_valid (s := t.name)
  have hL := rmay_loop hs ht hB t.kids.length 0 (by omega)
  rw [List.drop_zero] at hL
  have hrest : ∀ kd, t.kind = kd → (kd = 4 ∨ kd = 6) → ((partsO t).getD []).all (mayT countV) = t.kids.all (mayT countV) := fun kd e hkd => by
    unfold partsO
    rw [if_pos (by rw [e]; exact hkd)]
    rfl
  have hrest0 : t.kind ≠ 4 → t.kind ≠ 6 → ((partsO t).getD []).all (mayT countV) = true := fun e1 e2 => by
    unfold partsO
    rw [if_neg (by omega)]
    rfl
  rw [mayT_eq]
  unfold oneS spareS
  rw [← same_plain]
  generalize sameS (t.neg, t.d) (rnormS (t.neg, t.d)) = sn at *
  generalize rnormS (t.neg, t.d) = rn at *
  generalize ((partsO t).getD []).all (mayT countV) = rest at *
  generalize t.kids.all (mayT countV) = kall at *
  generalize countV t.name = cn at *
  generalize validV t.name = vn at *
  generalize t.kids.length = nl at *
  generalize (t.d.getD []).length = nd at *
  generalize (t.b.getD []).length = nb at *
  generalize t.kind = kd at *
  generalize t.neg = ng at *
  generalize t.n = nn at *
  generalize eL 7 eT t.l = vl at *
  generalize eD t.d = vd at *
  generalize eL 1 eb t.b = vb at *
  clear q
  have e64 : decide ((nd : Int) ≤ 64) = decide (nd ≤ 64) := decide_eq_decide.2 (by omega)
  have e4096 : decide ((nb : Int) ≤ 4096) = decide (nb ≤ 4096) := decide_eq_decide.2 (by omega)
  by_cases c0 : kd = 0
  case pos =>
    by_cases a5 : t.name = []
    case neg =>
      exact Evs.of fun n m => by simp [-len_eL, -cells_eT, S57, hcl, p, q0, q2, q3, q6, hl2, hl6, hsn, c0, a5]
    by_cases a3 : nn = 0
    case neg =>
      exact Evs.of fun n m => by simp [-len_eL, -cells_eT, S57, hcl, p, q0, q2, q3, q4, q6, hl2, hl6, hs0, c0, a5, a3]
    by_cases a4 : nl = 0
    case neg =>
      have a4p : 0 < nl := by omega
      exact Evs.of fun n m => by simp [-len_eL, -cells_eT, S57, hcl, p, q0, q2, q3, q4, q5, q6, hl5, hl2, hl6, hs0, c0, a5, a3, a4, a4p]
    by_cases a6 : nb = 0
    case neg =>
      have a6p : 0 < nb := by omega
      exact Evs.of fun n m => by simp [-len_eL, -cells_eT, S57, hcl, p, q0, q2, q3, q4, q5, q6, hl5, hl2, hl6, hs0, c0, a5, a3, a4, a6, a6p]
    have hr := hrest0 (by omega) (by omega)
    by_cases h64 : nd ≤ 64
    · exact Evs.of fun n m => by simp [-len_eL, -cells_eT, S57, hcl, p, q0, q1, q2, q3, q4, q5, q6, hl5, hl2, hl6, hs0, c0, a5, a3, a4, a6, e64, h64, hfill, hnm, hsm, hr, AV.beq_refl, AV.heapy]
    · exact Evs.of fun n m => by simp [-len_eL, -cells_eT, S57, hcl, p, q0, q2, q3, q4, q5, q6, hl5, hl2, hl6, hs0, c0, a5, a3, a4, a6, e64, h64, hr, AV.heapy]
  by_cases c1 : kd = 1
  case pos =>
    by_cases a1 : ng = true
    case pos =>
      exact Evs.of fun n m => by simp [-len_eL, -cells_eT, S57, hcl, p, q0, q1, q2, q3, q6, hl2, hl6, c1, a1]
    by_cases a2 : nd = 0
    case neg =>
      have a2p : 0 < nd := by omega
      exact Evs.of fun n m => by simp [-len_eL, -cells_eT, S57, hcl, p, q0, q1, q2, q3, q6, hl2, hl6, c1, a1, a2, a2p]
    by_cases a3 : nn = 0
    case neg =>
      exact Evs.of fun n m => by simp [-len_eL, -cells_eT, S57, hcl, p, q0, q1, q2, q3, q4, q6, hl2, hl6, c1, a1, a2, a3]
    by_cases a4 : nl = 0
    case neg =>
      have a4p : 0 < nl := by omega
      exact Evs.of fun n m => by simp [-len_eL, -cells_eT, S57, hcl, p, q0, q1, q2, q3, q4, q5, q6, hl5, hl2, hl6, c1, a1, a2, a3, a4, a4p]
    by_cases a6 : nb = 0
    case neg =>
      have a6p : 0 < nb := by omega
      exact Evs.of fun n m => by simp [-len_eL, -cells_eT, S57, hcl, p, q0, q1, q2, q3, q4, q5, q6, hl5, hl2, hl6, c1, a1, a2, a3, a4, a6, a6p]
    have hr := hrest0 (by omega) (by omega)
    cases vn
    · have h0 : ¬ 0 ≤ cn := fun h => by simpa using hcv.1 h
      exact Evs.of fun n m => by simp [-len_eL, -cells_eT, S57, hcl, p, q0, q1, q2, q3, q4, q5, q6, hl5, hl2, hl6, c1, a1, a2, a3, a4, a6, hva, h0, hr]
    · have h0 : 0 ≤ cn := hcv.2 rfl
      exact Evs.of fun n m => by simp [-len_eL, -cells_eT, S57, hcl, p, q0, q1, q2, q3, q4, q5, q6, hl5, hl2, hl6, c1, a1, a2, a3, a4, a6, hva, hco, h0, hr]
  omega
end Go.Proofs.YtleikacgncpfbaaDoor

/- Terms, the reference: may one be, but for how many parts it has: kinds 2, 3. -/
set_option maxRecDepth 100000
set_option maxHeartbeats 8000000
namespace Go.Proofs.YtleikacgncpfbaaDoor
open Go Go.Den
theorem rmay_B (n : Nat) (t : Tm) (hs : t.size ≤ n + 1) (ht : tame t) (hkd : t.kind = 2 ∨ t.kind = 3) : Evs fun n' _ => callF (base.with (polT (TRm n))) (n' + 1) AV 57 [cT.enc t] [] (fun v G => A.freezeB true 64 G v) = some (.bool (mayT countV t)) := by
  have hB : Go.Den.Box [.row 0 7 26 [eT t]] 0 7 26 (eT t).cells := box_eT t _ 0 rfl
  have p := fun o => hB.fa (o := o)
  have q := fun o => hB.load (o := o)
  rw [cells_eT] at q
  have q0 := q 0
  have q1 := q 1
  have q2 := q 2
  have q3 := q 3
  have q4 := q 4
  have q5 := q 5
  have q6 := q 6
  simp only [List.getElem?_cons_succ, List.getElem?_cons_zero] at q0 q1 q2 q3 q4 q5 q6
  have hcl : (eT t).cells.length = 7 := by rw [cells_eT]; rfl
  have hl5 : A.len (eL 7 eT t.l) [.row 0 7 26 [eT t]] = some (.int .i64 ((t.kids.length : Nat) : Int)) := len_eL
  have hl2 : A.len (eD t.d) [.row 0 7 26 [eT t]] = some (.int .i64 ((t.d.getD []).length : Int)) := len_eL
  have hl6 : A.len (eL 1 eb t.b) [.row 0 7 26 [eT t]] = some (.int .i64 ((t.b.getD []).length : Int)) := len_eL
  have hsn := fun H => str_nil_neq (t := 9) (c := true) (H := H) t.name
  have hs0 := fun H => str_nil_neq (t := 9) (c := true) (H := H) []
  have hfew : few t.d := (tame_eq.1 ht).1.1
  have hnl : notlong t.name := (tame_eq.1 ht).1.2.1
  have hnm : ∀ (R : Type) (H : Heap) (k : AV → Heap → Option R), polK pRnorm [.agg [.bool t.neg, eD t.d]] H k = k (eN (rnormS (t.neg, t.d))) H := fun R H k => kRnorm (a := (t.neg, t.d)) hfew
  have hsm : ∀ (R : Type) (H : Heap) (k : AV → Heap → Option R), polK pSame [.agg [.bool t.neg, eD t.d], eN (rnormS (t.neg, t.d))] H k = k (.bool (sameS (t.neg, t.d) (rnormS (t.neg, t.d)))) H := fun R H k => kSame (a := (t.neg, t.d)) hfew (few_rnorm hfew)
  have hfill : A.fill [.bool false, .nils] [(0, 1, .bool t.neg), (1, 1, eD t.d)] = some [.bool t.neg, eD t.d] := by simp [A.fill, A.splice]
  have hva : ∀ (R : Type) (H : Heap) (k : AV → Heap → Option R), polK pRvalid [.str t.name] H k = k (.bool (validV t.name)) H := fun R H k => kRvalid
  have hco : ∀ (R : Type) (H : Heap) (k : AV → Heap → Option R), polK pRcount [.str t.name] H k = k (.int .i64 (countV t.name)) H := fun R H k => kRcount hnl
  have hcv := countV_valid (s := t.name)
  have hL := rmay_loop hs ht hB t.kids.length 0 (by omega)
  rw [List.drop_zero] at hL
  have hrest : ∀ kd, t.kind = kd → (kd = 4 ∨ kd = 6) → ((partsO t).getD []).all (mayT countV) = t.kids.all (mayT countV) := fun kd e hkd => by
    unfold partsO
    rw [if_pos (by rw [e]; exact hkd)]
    rfl
  have hrest0 : t.kind ≠ 4 → t.kind ≠ 6 → ((partsO t).getD []).all (mayT countV) = true := fun e1 e2 => by
    unfold partsO
    rw [if_neg (by omega)]
    rfl
  rw [mayT_eq]
  unfold oneS spareS
  rw [← same_plain]
  generalize sameS (t.neg, t.d) (rnormS (t.neg, t.d)) = sn at *
  generalize rnormS (t.neg, t.d) = rn at *
  generalize ((partsO t).getD []).all (mayT countV) = rest at *
  generalize t.kids.all (mayT countV) = kall at *
  generalize countV t.name = cn at *
  generalize validV t.name = vn at *
  generalize t.kids.length = nl at *
  generalize (t.d.getD []).length = nd at *
  generalize (t.b.getD []).length = nb at *
  generalize t.kind = kd at *
  generalize t.neg = ng at *
  generalize t.n = nn at *
  generalize eL 7 eT t.l = vl at *
  generalize eD t.d = vd at *
  generalize eL 1 eb t.b = vb at *
  clear q
  have e64 : decide ((nd : Int) ≤ 64) = decide (nd ≤ 64) := decide_eq_decide.2 (by omega)
  have e4096 : decide ((nb : Int) ≤ 4096) = decide (nb ≤ 4096) := decide_eq_decide.2 (by omega)
  have c0 : ¬ kd = 0 := by omega
  have c1 : ¬ kd = 1 := by omega
  by_cases c2 : kd = 2
  case pos =>
    by_cases a1 : ng = true
    case pos =>
      exact Evs.of fun n m => by simp [-len_eL, -cells_eT, S57, hcl, p, q0, q1, q2, q3, q4, hl2, c2, a1]
    by_cases a2 : nd = 0
    case neg =>
      have a2p : 0 < nd := by omega
      exact Evs.of fun n m => by simp [-len_eL, -cells_eT, S57, hcl, p, q0, q1, q2, q3, q4, hl2, c2, a1, a2, a2p]
    by_cases a5 : t.name = []
    case neg =>
      exact Evs.of fun n m => by simp [-len_eL, -cells_eT, S57, hcl, p, q0, q1, q2, q3, q4, hl2, hsn, c2, a1, a2, a5]
    by_cases a4 : nl = 0
    case neg =>
      have a4p : 0 < nl := by omega
      exact Evs.of fun n m => by simp [-len_eL, -cells_eT, S57, hcl, p, q0, q1, q2, q3, q4, q5, hl5, hl2, hs0, c2, a1, a2, a5, a4, a4p]
    by_cases a6 : nb = 0
    case neg =>
      have a6p : 0 < nb := by omega
      exact Evs.of fun n m => by simp [-len_eL, -cells_eT, S57, hcl, p, q0, q1, q2, q3, q4, q5, q6, hl5, hl2, hl6, hs0, c2, a1, a2, a5, a4, a6, a6p]
    have hr := hrest0 (by omega) (by omega)
    by_cases h0 : 0 ≤ nn
    · exact Evs.of fun n m => by simp [-len_eL, -cells_eT, S57, hcl, p, q0, q1, q2, q3, q4, q5, q6, hl5, hl2, hl6, hs0, c2, a1, a2, a5, a4, a6, h0, hr]
    · exact Evs.of fun n m => by simp [-len_eL, -cells_eT, S57, hcl, p, q0, q1, q2, q3, q4, q5, q6, hl5, hl2, hl6, hs0, c2, a1, a2, a5, a4, a6, h0, hr]
  by_cases c3 : kd = 3
  case pos =>
    by_cases a1 : ng = true
    case pos =>
      exact Evs.of fun n m => by simp [-len_eL, -cells_eT, S57, hcl, p, q0, q1, q2, q3, q4, hl2, c3, a1]
    by_cases a2 : nd = 0
    case neg =>
      have a2p : 0 < nd := by omega
      exact Evs.of fun n m => by simp [-len_eL, -cells_eT, S57, hcl, p, q0, q1, q2, q3, q4, hl2, c3, a1, a2, a2p]
    by_cases a5 : t.name = []
    case neg =>
      exact Evs.of fun n m => by simp [-len_eL, -cells_eT, S57, hcl, p, q0, q1, q2, q3, q4, hl2, hsn, c3, a1, a2, a5]
    by_cases a4 : nl = 0
    case neg =>
      have a4p : 0 < nl := by omega
      exact Evs.of fun n m => by simp [-len_eL, -cells_eT, S57, hcl, p, q0, q1, q2, q3, q4, q5, hl5, hl2, hs0, c3, a1, a2, a5, a4, a4p]
    by_cases a6 : nb = 0
    case neg =>
      have a6p : 0 < nb := by omega
      exact Evs.of fun n m => by simp [-len_eL, -cells_eT, S57, hcl, p, q0, q1, q2, q3, q4, q5, q6, hl5, hl2, hl6, hs0, c3, a1, a2, a5, a4, a6, a6p]
    have hr := hrest0 (by omega) (by omega)
    by_cases h0 : 0 ≤ nn
    · exact Evs.of fun n m => by simp [-len_eL, -cells_eT, S57, hcl, p, q0, q1, q2, q3, q4, q5, q6, hl5, hl2, hl6, hs0, c3, a1, a2, a5, a4, a6, h0, hr]
    · exact Evs.of fun n m => by simp [-len_eL, -cells_eT, S57, hcl, p, q0, q1, q2, q3, q4, q5, q6, hl5, hl2, hl6, hs0, c3, a1, a2, a5, a4, a6, h0, hr]
  omega
end Go.Proofs.YtleikacgncpfbaaDoor

/- Terms, the reference: may one be, but for how many parts it has: kinds 4, 5. -/
set_option maxRecDepth 100000
set_option maxHeartbeats 8000000
namespace Go.Proofs.YtleikacgncpfbaaDoor
open Go Go.Den
theorem rmay_C (n : Nat) (t : Tm) (hs : t.size ≤ n + 1) (ht : tame t) (hkd : t.kind = 4 ∨ t.kind = 5) : Evs fun n' _ => callF (base.with (polT (TRm n))) (n' + 1) AV 57 [cT.enc t] [] (fun v G => A.freezeB true 64 G v) = some (.bool (mayT countV t)) := by
  have hB : Go.Den.Box [.row 0 7 26 [eT t]] 0 7 26 (eT t).cells := box_eT t _ 0 rfl
  have p := fun o => hB.fa (o := o)
  have q := fun o => hB.load (o := o)
  rw [cells_eT] at q
  have q0 := q 0
  have q1 := q 1
  have q2 := q 2
  have q3 := q 3
  have q4 := q 4
  have q5 := q 5
  have q6 := q 6
  simp only [List.getElem?_cons_succ, List.getElem?_cons_zero] at q0 q1 q2 q3 q4 q5 q6
  have hcl : (eT t).cells.length = 7 := by rw [cells_eT]; rfl
  have hl5 : A.len (eL 7 eT t.l) [.row 0 7 26 [eT t]] = some (.int .i64 ((t.kids.length : Nat) : Int)) := len_eL
  have hl2 : A.len (eD t.d) [.row 0 7 26 [eT t]] = some (.int .i64 ((t.d.getD []).length : Int)) := len_eL
  have hl6 : A.len (eL 1 eb t.b) [.row 0 7 26 [eT t]] = some (.int .i64 ((t.b.getD []).length : Int)) := len_eL
  have hsn := fun H => str_nil_neq (t := 9) (c := true) (H := H) t.name
  have hs0 := fun H => str_nil_neq (t := 9) (c := true) (H := H) []
  have hfew : few t.d := (tame_eq.1 ht).1.1
  have hnl : notlong t.name := (tame_eq.1 ht).1.2.1
  have hnm : ∀ (R : Type) (H : Heap) (k : AV → Heap → Option R), polK pRnorm [.agg [.bool t.neg, eD t.d]] H k = k (eN (rnormS (t.neg, t.d))) H := fun R H k => kRnorm (a := (t.neg, t.d)) hfew
  have hsm : ∀ (R : Type) (H : Heap) (k : AV → Heap → Option R), polK pSame [.agg [.bool t.neg, eD t.d], eN (rnormS (t.neg, t.d))] H k = k (.bool (sameS (t.neg, t.d) (rnormS (t.neg, t.d)))) H := fun R H k => kSame (a := (t.neg, t.d)) hfew (few_rnorm hfew)
  have hfill : A.fill [.bool false, .nils] [(0, 1, .bool t.neg), (1, 1, eD t.d)] = some [.bool t.neg, eD t.d] := by simp [A.fill, A.splice]
  have hva : ∀ (R : Type) (H : Heap) (k : AV → Heap → Option R), polK pRvalid [.str t.name] H k = k (.bool (validV t.name)) H := fun R H k => kRvalid
  have hco : ∀ (R : Type) (H : Heap) (k : AV → Heap → Option R), polK pRcount [.str t.name] H k = k (.int .i64 (countV t.name)) H := fun R H k => kRcount hnl
  have hcv := countV_valid (s := t.name)
  have hL := rmay_loop hs ht hB t.kids.length 0 (by omega)
  rw [List.drop_zero] at hL
  have hrest : ∀ kd, t.kind = kd → (kd = 4 ∨ kd = 6) → ((partsO t).getD []).all (mayT countV) = t.kids.all (mayT countV) := fun kd e hkd => by
    unfold partsO
    rw [if_pos (by rw [e]; exact hkd)]
    rfl
  have hrest0 : t.kind ≠ 4 → t.kind ≠ 6 → ((partsO t).getD []).all (mayT countV) = true := fun e1 e2 => by
    unfold partsO
    rw [if_neg (by omega)]
    rfl
  rw [mayT_eq]
  unfold oneS spareS
  rw [← same_plain]
  generalize sameS (t.neg, t.d) (rnormS (t.neg, t.d)) = sn at *
  generalize rnormS (t.neg, t.d) = rn at *
  generalize ((partsO t).getD []).all (mayT countV) = rest at *
  generalize t.kids.all (mayT countV) = kall at *
  generalize countV t.name = cn at *
  generalize validV t.name = vn at *
  generalize t.kids.length = nl at *
  generalize (t.d.getD []).length = nd at *
  generalize (t.b.getD []).length = nb at *
  generalize t.kind = kd at *
  generalize t.neg = ng at *
  generalize t.n = nn at *
  generalize eL 7 eT t.l = vl at *
  generalize eD t.d = vd at *
  generalize eL 1 eb t.b = vb at *
  clear q
  have e64 : decide ((nd : Int) ≤ 64) = decide (nd ≤ 64) := decide_eq_decide.2 (by omega)
  have e4096 : decide ((nb : Int) ≤ 4096) = decide (nb ≤ 4096) := decide_eq_decide.2 (by omega)
  have c0 : ¬ kd = 0 := by omega
  have c1 : ¬ kd = 1 := by omega
  have c2 : ¬ kd = 2 := by omega
  have c3 : ¬ kd = 3 := by omega
  by_cases c4 : kd = 4
  case pos =>
    by_cases a1 : ng = true
    case pos =>
      exact Evs.of fun n m => by simp [-len_eL, -cells_eT, S57, hcl, p, q0, q1, q2, q3, q5, q6, hl5, hl2, hl6, c4, a1]
    by_cases a2 : nd = 0
    case neg =>
      have a2p : 0 < nd := by omega
      exact Evs.of fun n m => by simp [-len_eL, -cells_eT, S57, hcl, p, q0, q1, q2, q3, q5, q6, hl5, hl2, hl6, c4, a1, a2, a2p]
    by_cases a5 : t.name = []
    case neg =>
      exact Evs.of fun n m => by simp [-len_eL, -cells_eT, S57, hcl, p, q0, q1, q2, q3, q5, q6, hl5, hl2, hl6, hsn, c4, a1, a2, a5]
    by_cases a3 : nn = 0
    case neg =>
      exact Evs.of fun n m => by simp [-len_eL, -cells_eT, S57, hcl, p, q0, q1, q2, q3, q4, q5, q6, hl5, hl2, hl6, hs0, c4, a1, a2, a5, a3]
    by_cases a6 : nb = 0
    case neg =>
      have a6p : 0 < nb := by omega
      exact Evs.of fun n m => by simp [-len_eL, -cells_eT, S57, hcl, p, q0, q1, q2, q3, q4, q5, q6, hl5, hl2, hl6, hs0, c4, a1, a2, a5, a3, a6, a6p]
    have hr := hrest 4 c4 (Or.inl rfl)
    by_cases h255 : nl ≤ 255
    · have hg : ¬ (255 : Int) < (nl : Int) := by omega
      have hg' : ¬ 255 < nl := by omega
      refine Evs.withL hL (Evs.of fun n m h1 _ => ?_)
      simp only [Int.natCast_zero] at h1
      cases kall <;> simp [-len_eL, -cells_eT, S57, hcl, p, q0, q1, q2, q3, q4, q5, q6, hl5, hl2, hl6, hs0, c4, a1, a2, a5, a3, a6, h255, hg, hr, h1]
    · have hg : (255 : Int) < (nl : Int) := by omega
      have hg' : 255 < nl := by omega
      exact Evs.of fun n m => by simp [-len_eL, -cells_eT, S57, hcl, p, q0, q1, q2, q3, q4, q5, q6, hl5, hl2, hl6, hs0, c4, a1, a2, a5, a3, a6, h255, hg, hr]
  by_cases c5 : kd = 5
  case pos =>
    by_cases a1 : ng = true
    case pos =>
      exact Evs.of fun n m => by simp [-len_eL, -cells_eT, S57, hcl, p, q0, q1, q2, q3, q6, hl2, hl6, c5, a1]
    by_cases a2 : nd = 0
    case neg =>
      have a2p : 0 < nd := by omega
      exact Evs.of fun n m => by simp [-len_eL, -cells_eT, S57, hcl, p, q0, q1, q2, q3, q6, hl2, hl6, c5, a1, a2, a2p]
    by_cases a5 : t.name = []
    case neg =>
      exact Evs.of fun n m => by simp [-len_eL, -cells_eT, S57, hcl, p, q0, q1, q2, q3, q6, hl2, hl6, hsn, c5, a1, a2, a5]
    by_cases a3 : nn = 0
    case neg =>
      exact Evs.of fun n m => by simp [-len_eL, -cells_eT, S57, hcl, p, q0, q1, q2, q3, q4, q6, hl2, hl6, hs0, c5, a1, a2, a5, a3]
    by_cases a4 : nl = 0
    case neg =>
      have a4p : 0 < nl := by omega
      exact Evs.of fun n m => by simp [-len_eL, -cells_eT, S57, hcl, p, q0, q1, q2, q3, q4, q5, q6, hl5, hl2, hl6, hs0, c5, a1, a2, a5, a3, a4, a4p]
    by_cases a6 : nb = 0
    case neg =>
      have a6p : 0 < nb := by omega
      exact Evs.of fun n m => by simp [-len_eL, -cells_eT, S57, hcl, p, q0, q1, q2, q3, q4, q5, q6, hl5, hl2, hl6, hs0, c5, a1, a2, a5, a3, a4, a6, a6p]
    have hr := hrest0 (by omega) (by omega)
    exact Evs.of fun n m => by simp [-len_eL, -cells_eT, S57, hcl, p, q0, q1, q2, q3, q4, q5, q6, hl5, hl2, hl6, hs0, c5, a1, a2, a5, a3, a4, a6, hr]
  omega
end Go.Proofs.YtleikacgncpfbaaDoor

/- Terms, the reference: may one be, but for how many parts it has: kinds 6. -/
set_option maxRecDepth 100000
set_option maxHeartbeats 8000000
namespace Go.Proofs.YtleikacgncpfbaaDoor
open Go Go.Den
theorem rmay_D (n : Nat) (t : Tm) (hs : t.size ≤ n + 1) (ht : tame t) (hkd : t.kind = 6) : Evs fun n' _ => callF (base.with (polT (TRm n))) (n' + 1) AV 57 [cT.enc t] [] (fun v G => A.freezeB true 64 G v) = some (.bool (mayT countV t)) := by
  have hB : Go.Den.Box [.row 0 7 26 [eT t]] 0 7 26 (eT t).cells := box_eT t _ 0 rfl
  have p := fun o => hB.fa (o := o)
  have q := fun o => hB.load (o := o)
  rw [cells_eT] at q
  have q0 := q 0
  have q1 := q 1
  have q2 := q 2
  have q3 := q 3
  have q4 := q 4
  have q5 := q 5
  have q6 := q 6
  simp only [List.getElem?_cons_succ, List.getElem?_cons_zero] at q0 q1 q2 q3 q4 q5 q6
  have hcl : (eT t).cells.length = 7 := by rw [cells_eT]; rfl
  have hl5 : A.len (eL 7 eT t.l) [.row 0 7 26 [eT t]] = some (.int .i64 ((t.kids.length : Nat) : Int)) := len_eL
  have hl2 : A.len (eD t.d) [.row 0 7 26 [eT t]] = some (.int .i64 ((t.d.getD []).length : Int)) := len_eL
  have hl6 : A.len (eL 1 eb t.b) [.row 0 7 26 [eT t]] = some (.int .i64 ((t.b.getD []).length : Int)) := len_eL
  have hsn := fun H => str_nil_neq (t := 9) (c := true) (H := H) t.name
  have hs0 := fun H => str_nil_neq (t := 9) (c := true) (H := H) []
  have hfew : few t.d := (tame_eq.1 ht).1.1
  have hnl : notlong t.name := (tame_eq.1 ht).1.2.1
  have hnm : ∀ (R : Type) (H : Heap) (k : AV → Heap → Option R), polK pRnorm [.agg [.bool t.neg, eD t.d]] H k = k (eN (rnormS (t.neg, t.d))) H := fun R H k => kRnorm (a := (t.neg, t.d)) hfew
  have hsm : ∀ (R : Type) (H : Heap) (k : AV → Heap → Option R), polK pSame [.agg [.bool t.neg, eD t.d], eN (rnormS (t.neg, t.d))] H k = k (.bool (sameS (t.neg, t.d) (rnormS (t.neg, t.d)))) H := fun R H k => kSame (a := (t.neg, t.d)) hfew (few_rnorm hfew)
  have hfill : A.fill [.bool false, .nils] [(0, 1, .bool t.neg), (1, 1, eD t.d)] = some [.bool t.neg, eD t.d] := by simp [A.fill, A.splice]
  have hva : ∀ (R : Type) (H : Heap) (k : AV → Heap → Option R), polK pRvalid [.str t.name] H k = k (.bool (validV t.name)) H := fun R H k => kRvalid
  have hco : ∀ (R : Type) (H : Heap) (k : AV → Heap → Option R), polK pRcount [.str t.name] H k = k (.int .i64 (countV t.name)) H := fun R H k => kRcount hnl
  have hcv := countV_valid (s := t.name)
  have hL := rmay_loop hs ht hB t.kids.length 0 (by omega)
  rw [List.drop_zero] at hL
  have hrest : ∀ kd, t.kind = kd → (kd = 4 ∨ kd = 6) → ((partsO t).getD []).all (mayT countV) = t.kids.all (mayT countV) := fun kd e hkd => by
    unfold partsO
    rw [if_pos (by rw [e]; exact hkd)]
    rfl
  have hrest0 : t.kind ≠ 4 → t.kind ≠ 6 → ((partsO t).getD []).all (mayT countV) = true := fun e1 e2 => by
    unfold partsO
    rw [if_neg (by omega)]
    rfl
  rw [mayT_eq]
  unfold oneS spareS
  rw [← same_plain]
  generalize sameS (t.neg, t.d) (rnormS (t.neg, t.d)) = sn at *
  generalize rnormS (t.neg, t.d) = rn at *
  generalize ((partsO t).getD []).all (mayT countV) = rest at *
  generalize t.kids.all (mayT countV) = kall at *
  generalize countV t.name = cn at *
  generalize validV t.name = vn at *
  generalize t.kids.length = nl at *
  generalize (t.d.getD []).length = nd at *
  generalize (t.b.getD []).length = nb at *
  generalize t.kind = kd at *
  generalize t.neg = ng at *
  generalize t.n = nn at *
  generalize eL 7 eT t.l = vl at *
  generalize eD t.d = vd at *
  generalize eL 1 eb t.b = vb at *
  clear q
  have e64 : decide ((nd : Int) ≤ 64) = decide (nd ≤ 64) := decide_eq_decide.2 (by omega)
  have e4096 : decide ((nb : Int) ≤ 4096) = decide (nb ≤ 4096) := decide_eq_decide.2 (by omega)
  have c0 : ¬ kd = 0 := by omega
  have c1 : ¬ kd = 1 := by omega
  have c2 : ¬ kd = 2 := by omega
  have c3 : ¬ kd = 3 := by omega
  have c4 : ¬ kd = 4 := by omega
  have c5 : ¬ kd = 5 := by omega
  by_cases c6 : kd = 6
  case pos =>
    by_cases a1 : ng = true
    case pos =>
      exact Evs.of fun n m => by simp [-len_eL, -cells_eT, S57, hcl, p, q0, q1, q2, q3, q5, q6, hl5, hl2, hl6, c6, a1]
    by_cases a2 : nd = 0
    case neg =>
      have a2p : 0 < nd := by omega
      exact Evs.of fun n m => by simp [-len_eL, -cells_eT, S57, hcl, p, q0, q1, q2, q3, q5, q6, hl5, hl2, hl6, c6, a1, a2, a2p]
    by_cases a5 : t.name = []
    case neg =>
      exact Evs.of fun n m => by simp [-len_eL, -cells_eT, S57, hcl, p, q0, q1, q2, q3, q5, q6, hl5, hl2, hl6, hsn, c6, a1, a2, a5]
    by_cases a3 : nn = 0
    case neg =>
      exact Evs.of fun n m => by simp [-len_eL, -cells_eT, S57, hcl, p, q0, q1, q2, q3, q4, q5, q6, hl5, hl2, hl6, hs0, c6, a1, a2, a5, a3]
    by_cases a6 : nb = 0
    case neg =>
      have a6p : 0 < nb := by omega
      exact Evs.of fun n m => by simp [-len_eL, -cells_eT, S57, hcl, p, q0, q1, q2, q3, q4, q5, q6, hl5, hl2, hl6, hs0, c6, a1, a2, a5, a3, a6, a6p]
    have hr := hrest 6 c6 (Or.inr rfl)
    by_cases h2 : nl = 2
    · subst h2
      refine Evs.withL hL (Evs.of fun n m h1 _ => ?_)
      simp only [Int.natCast_zero] at h1
      cases kall <;> simp [-len_eL, -cells_eT, S57, hcl, p, q0, q1, q2, q3, q4, q5, q6, hl5, hl2, hl6, hs0, c6, a1, a2, a5, a3, a6, hr, h1]
    · have h2' : ¬ (nl : Int) = 2 := by omega
      exact Evs.of fun n m => by simp [-len_eL, -cells_eT, S57, hcl, p, q0, q1, q2, q3, q4, q5, q6, hl5, hl2, hl6, hs0, c6, a1, a2, a5, a3, a6, h2, h2', hr]
  omega
end Go.Proofs.YtleikacgncpfbaaDoor

/- Terms, the reference: may one be, but for how many parts it has: the rest. -/
set_option maxRecDepth 100000
set_option maxHeartbeats 8000000
namespace Go.Proofs.YtleikacgncpfbaaDoor
open Go Go.Den
theorem rmay_E (n : Nat) (t : Tm) (hs : t.size ≤ n + 1) (ht : tame t) (hkd : t.kind ≠ 0 ∧ t.kind ≠ 1 ∧ t.kind ≠ 2 ∧ t.kind ≠ 3 ∧ t.kind ≠ 4 ∧ t.kind ≠ 5 ∧ t.kind ≠ 6) : Evs fun n' _ => callF (base.with (polT (TRm n))) (n' + 1) AV 57 [cT.enc t] [] (fun v G => A.freezeB true 64 G v) = some (.bool (mayT countV t)) := by
  have hB : Go.Den.Box [.row 0 7 26 [eT t]] 0 7 26 (eT t).cells := box_eT t _ 0 rfl
  have p := fun o => hB.fa (o := o)
  have q := fun o => hB.load (o := o)
  rw [cells_eT] at q
  have q0 := q 0
  have q1 := q 1
  have q2 := q 2
  have q3 := q 3
  have q4 := q 4
  have q5 := q 5
  have q6 := q 6
  simp only [List.getElem?_cons_succ, List.getElem?_cons_zero] at q0 q1 q2 q3 q4 q5 q6
  have hcl : (eT t).cells.length = 7 := by rw [cells_eT]; rfl
  have hl5 : A.len (eL 7 eT t.l) [.row 0 7 26 [eT t]] = some (.int .i64 ((t.kids.length : Nat) : Int)) := len_eL
  have hl2 : A.len (eD t.d) [.row 0 7 26 [eT t]] = some (.int .i64 ((t.d.getD []).length : Int)) := len_eL
  have hl6 : A.len (eL 1 eb t.b) [.row 0 7 26 [eT t]] = some (.int .i64 ((t.b.getD []).length : Int)) := len_eL
  have hsn := fun H => str_nil_neq (t := 9) (c := true) (H := H) t.name
  have hs0 := fun H => str_nil_neq (t := 9) (c := true) (H := H) []
  have hfew : few t.d := (tame_eq.1 ht).1.1
  have hnl : notlong t.name := (tame_eq.1 ht).1.2.1
  have hnm : ∀ (R : Type) (H : Heap) (k : AV → Heap → Option R), polK pRnorm [.agg [.bool t.neg, eD t.d]] H k = k (eN (rnormS (t.neg, t.d))) H := fun R H k => kRnorm (a := (t.neg, t.d)) hfew
  have hsm : ∀ (R : Type) (H : Heap) (k : AV → Heap → Option R), polK pSame [.agg [.bool t.neg, eD t.d], eN (rnormS (t.neg, t.d))] H k = k (.bool (sameS (t.neg, t.d) (rnormS (t.neg, t.d)))) H := fun R H k => kSame (a := (t.neg, t.d)) hfew (few_rnorm hfew)
  have hfill : A.fill [.bool false, .nils] [(0, 1, .bool t.neg), (1, 1, eD t.d)] = some [.bool t.neg, eD t.d] := by simp [A.fill, A.splice]
  have hva : ∀ (R : Type) (H : Heap) (k : AV → Heap → Option R), polK pRvalid [.str t.name] H k = k (.bool (validV t.name)) H := fun R H k => kRvalid
  have hco : ∀ (R : Type) (H : Heap) (k : AV → Heap → Option R), polK pRcount [.str t.name] H k = k (.int .i64 (countV t.name)) H := fun R H k => kRcount hnl
  have hcv := countV_valid (s := t.name)
  have hL := rmay_loop hs ht hB t.kids.length 0 (by omega)
  rw [List.drop_zero] at hL
  have hrest : ∀ kd, t.kind = kd → (kd = 4 ∨ kd = 6) → ((partsO t).getD []).all (mayT countV) = t.kids.all (mayT countV) := fun kd e hkd => by
    unfold partsO
    rw [if_pos (by rw [e]; exact hkd)]
    rfl
  have hrest0 : t.kind ≠ 4 → t.kind ≠ 6 → ((partsO t).getD []).all (mayT countV) = true := fun e1 e2 => by
    unfold partsO
    rw [if_neg (by omega)]
    rfl
  rw [mayT_eq]
  unfold oneS spareS
  rw [← same_plain]
  generalize sameS (t.neg, t.d) (rnormS (t.neg, t.d)) = sn at *
  generalize rnormS (t.neg, t.d) = rn at *
  generalize ((partsO t).getD []).all (mayT countV) = rest at *
  generalize t.kids.all (mayT countV) = kall at *
  generalize countV t.name = cn at *
  generalize validV t.name = vn at *
  generalize t.kids.length = nl at *
  generalize (t.d.getD []).length = nd at *
  generalize (t.b.getD []).length = nb at *
  generalize t.kind = kd at *
  generalize t.neg = ng at *
  generalize t.n = nn at *
  generalize eL 7 eT t.l = vl at *
  generalize eD t.d = vd at *
  generalize eL 1 eb t.b = vb at *
  clear q
  have e64 : decide ((nd : Int) ≤ 64) = decide (nd ≤ 64) := decide_eq_decide.2 (by omega)
  have e4096 : decide ((nb : Int) ≤ 4096) = decide (nb ≤ 4096) := decide_eq_decide.2 (by omega)
  have c0 : ¬ kd = 0 := by omega
  have c1 : ¬ kd = 1 := by omega
  have c2 : ¬ kd = 2 := by omega
  have c3 : ¬ kd = 3 := by omega
  have c4 : ¬ kd = 4 := by omega
  have c5 : ¬ kd = 5 := by omega
  have c6 : ¬ kd = 6 := by omega
  by_cases c7 : kd = 7
  case pos =>
    by_cases a1 : ng = true
    case pos =>
      exact Evs.of fun n m => by simp [-len_eL, -cells_eT, S57, hcl, p, q0, q1, q2, q3, q6, hl2, hl6, c7, a1]
    by_cases a2 : nd = 0
    case neg =>
      have a2p : 0 < nd := by omega
      exact Evs.of fun n m => by simp [-len_eL, -cells_eT, S57, hcl, p, q0, q1, q2, q3, q6, hl2, hl6, c7, a1, a2, a2p]
    by_cases a5 : t.name = []
    case neg =>
      exact Evs.of fun n m => by simp [-len_eL, -cells_eT, S57, hcl, p, q0, q1, q2, q3, q6, hl2, hl6, hsn, c7, a1, a2, a5]
    by_cases a3 : nn = 0
    case neg =>
      exact Evs.of fun n m => by simp [-len_eL, -cells_eT, S57, hcl, p, q0, q1, q2, q3, q4, q6, hl2, hl6, hs0, c7, a1, a2, a5, a3]
    by_cases a4 : nl = 0
    case neg =>
      have a4p : 0 < nl := by omega
      exact Evs.of fun n m => by simp [-len_eL, -cells_eT, S57, hcl, p, q0, q1, q2, q3, q4, q5, q6, hl5, hl2, hl6, hs0, c7, a1, a2, a5, a3, a4, a4p]
    have hr := hrest0 (by omega) (by omega)
    exact Evs.of fun n m => by simp [-len_eL, -cells_eT, S57, hcl, p, q0, q1, q2, q3, q4, q5, q6, hl5, hl2, hl6, hs0, c7, a1, a2, a5, a3, a4, e4096, hr]
  by_cases a1 : ng = true
  case pos =>
    exact Evs.of fun n m => by simp [-len_eL, -cells_eT, S57, hcl, p, q0, q1, q2, q3, q6, hl2, hl6, c0, c1, c2, c3, c4, c5, c6, c7, a1]
  by_cases a2 : nd = 0
  case neg =>
    have a2p : 0 < nd := by omega
    exact Evs.of fun n m => by simp [-len_eL, -cells_eT, S57, hcl, p, q0, q1, q2, q3, q6, hl2, hl6, c0, c1, c2, c3, c4, c5, c6, c7, a1, a2, a2p]
  by_cases a5 : t.name = []
  case neg =>
    exact Evs.of fun n m => by simp [-len_eL, -cells_eT, S57, hcl, p, q0, q1, q2, q3, q6, hl2, hl6, hsn, c0, c1, c2, c3, c4, c5, c6, c7, a1, a2, a5]
  by_cases a3 : nn = 0
  case neg =>
    exact Evs.of fun n m => by simp [-len_eL, -cells_eT, S57, hcl, p, q0, q1, q2, q3, q4, q6, hl2, hl6, hs0, c0, c1, c2, c3, c4, c5, c6, c7, a1, a2, a5, a3]
  by_cases a4 : nl = 0
  case neg =>
    have a4p : 0 < nl := by omega
    exact Evs.of fun n m => by simp [-len_eL, -cells_eT, S57, hcl, p, q0, q1, q2, q3, q4, q5, q6, hl5, hl2, hl6, hs0, c0, c1, c2, c3, c4, c5, c6, c7, a1, a2, a5, a3, a4, a4p]
  by_cases a6 : nb = 0
  case neg =>
    have a6p : 0 < nb := by omega
    exact Evs.of fun n m => by simp [-len_eL, -cells_eT, S57, hcl, p, q0, q1, q2, q3, q4, q5, q6, hl5, hl2, hl6, hs0, c0, c1, c2, c3, c4, c5, c6, c7, a1, a2, a5, a3, a4, a6, a6p]
  exact Evs.of fun n m => by simp [-len_eL, -cells_eT, S57, hcl, p, q0, q1, q2, q3, q4, q5, q6, hl5, hl2, hl6, hs0, c0, c1, c2, c3, c4, c5, c6, c7, a1, a2, a5, a3, a4, a6]
end Go.Proofs.YtleikacgncpfbaaDoor

/- Terms, the reference: may one be, but for how many parts it has; and all of it. -/
set_option maxRecDepth 100000
namespace Go.Proofs.YtleikacgncpfbaaDoor
open Go Go.Den
theorem okRmay : ∀ n, PolOK base 57 (pRmay n)
  | 0 => still1 base_ok [] trivial fun t ⟨hs, _⟩ => by
    have := t.size_eq
    omega
  | n + 1 => still1 base_ok (TRm n) ⟨okRmay n, okRnorm, okSame, okRvalid, okRcount, trivial⟩ fun t ⟨hs, ht⟩ => by
    by_cases a : t.kind = 0 ∨ t.kind = 1
    · exact rmay_A n t hs ht a
    by_cases b : t.kind = 2 ∨ t.kind = 3
    · exact rmay_B n t hs ht b
    by_cases c : t.kind = 4 ∨ t.kind = 5
    · exact rmay_C n t hs ht c
    by_cases d : t.kind = 6
    · exact rmay_D n t hs ht d
    · exact rmay_E n t hs ht (by omega)
noncomputable def pRMay (n : Nat) : Pol := .still (p1 cT .bool (fun t => t.size ≤ n ∧ tame t) mayS)
theorem okRMay (n : Nat) : PolOK base 18 (pRMay n) := still1 base_ok [(20, pRtree n), (57, pRmay n)] ⟨okRtree n, okRmay n, trivial⟩ fun t ⟨hs, ht⟩ => by
  have hcl : (eT t).cells.length = 7 := by rw [cells_eT]; rfl
  have hof : A.ofList true 7 (eT t).cells 0 = some (eT t) := load_eT (H := [])
  have h1 : ∀ (R : Type) (H : Heap) (k : AV → Heap → Option R), polK (pRtree n) [eT t] H k = k (.int .i64 ((min (szT t) 65537 : Nat) : Int)) H := fun R H k => kRtree hs (tame_thin t ht)
  have h2 : ∀ (R : Type) (H : Heap) (k : AV → Heap → Option R), polK (pRmay n) [eT t] H k = k (.bool (mayT countV t)) H := fun R H k => kRmay hs ht
  unfold mayS
  by_cases hc : szT t ≤ 65536
  · have hc' : ((min (szT t) 65537 : Nat) : Int) ≤ 65536 := by omega
    generalize ((min (szT t) 65537 : Nat) : Int) = N at *
    refine Evs.of fun n m => ?_
    simp [↓bindC_eq, ↓withV_of, ↓withP_some, ↓withB_some, ↓chkD_true, -cells_eT, S18, hcl, hof, h1, h2, hc, hc']
  · have hc' : ¬ ((min (szT t) 65537 : Nat) : Int) ≤ 65536 := by omega
    generalize ((min (szT t) 65537 : Nat) : Int) = N at *
    refine Evs.of fun n m => ?_
    simp [↓bindC_eq, ↓withV_of, ↓withP_some, ↓withB_some, ↓chkD_true, -cells_eT, S18, hcl, hof, h1, hc, hc']
end Go.Proofs.YtleikacgncpfbaaDoor
