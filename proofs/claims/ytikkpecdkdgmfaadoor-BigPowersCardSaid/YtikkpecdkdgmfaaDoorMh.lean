/- Texts put together: Big5, Big6, Big7, Big8, Big9, Big10, Big11, Big12, Big13, Big14, Big15, Big16, Big17, Big18, Big19, Big20, Big21, Big22, Big23, Big24, Big25, Big26. -/
import Derived.Test.YtikkpecdkdgmfaaDoorMg

/- Numbers of any size: the reference's plain numbers; which are the same; numbers that fit into a word. -/
set_option maxRecDepth 100000
namespace Go.Proofs.YtikkpecdkdgmfaaDoor
open Go Go.Den
/-! ### the reference's numbers without noughts -/
def rnormS (a : Nm) : Nm := (a.1 && decide (0 < (lim (val (a.2.getD []))).length), nz (lim (val (a.2.getD []))))
noncomputable def pRnorm : Pol := .still (p1 cN eN (fun a => few a.2) rnormS)
theorem qib {pol : FuncId → Pol} {a : Nm} {cs : List AV} {H : Heap} (hB : Go.Den.Box H 0 2 24 [.bool a.1, eD a.2]) (hf : (a.2.getD []).length ≤ 1000000) : ∀ i, i ≤ (a.2.getD []).length →
    LDoes (L18_0 pol) ⟨[.ptr 0 0 0 0, .int .i64 i], [cs]⟩ H 0 ⟨[.ptr 0 0 0 0, .int .i64 (lim (val ((a.2.getD []).take i))).length], [cs]⟩ H := by
  intro i
  induction i with
  | zero =>
    intro _
    refine LDoes.step (Evs.of fun n m => ?_)
    simp [↓q00, ↓q01, ↓q04, ↓q05, q69, val, q0o]
  | succ i ih =>
    intro hi
    have hx := q1w (d := a.2) (H := H) (k := .i64) (i := i) (by omega)
    have hp : (0 : Int) < (i : Int) + 1 := by omega
    by_cases h0 : (a.2.getD [])[i] = 0
    · have h0' : ((a.2.getD [])[i]).toNat = 0 := by rw [h0]; rfl
      refine LDoes.step (Evs.withL (ih (by omega)) (Evs.of fun n m h1 h2 => ?_))
      rw [q7s (by omega), if_pos h0]
      simp (disch := omega) [↓q00, ↓q01, ↓q04, ↓q05, q69, hp, q08, hB.fa, hB.load, hx, h0', h2]
    · have h0' : ¬ ((a.2.getD [])[i]).toNat = 0 := fun e => h0 (UInt32.toNat_inj.1 (by simpa using e))
      refine LDoes.step (Evs.of fun n m => ?_)
      rw [q7s (by omega), if_neg h0]
      simp (disch := omega) [↓q00, ↓q01, ↓q04, ↓q05, q69, hp, q08, hB.fa, hB.load, hx, h0']
theorem q5a : PolOK base 18 pRnorm := still1 base_ok [] trivial fun a hf => by
  unfold few at hf
  have hB : Go.Den.Box [.row 0 2 24 [eN a]] 0 2 24 [.bool a.1, eD a.2] := rfl
  have hL := qib (pol := polT []) (cs := [.bool false, .nils]) hB hf _ (Nat.le_refl _)
  refine Evs.withL hL (Evs.of fun n m h1 _ => ?_)
  rw [List.take_length] at h1
  have hle := q2w (a.2.getD [])
  have hs : A.slice 1 (eD a.2) none (some (.int .i64 ((lim (val (a.2.getD []))).length : Nat))) none [.row 0 2 24 [eN a]] = some (eD (a.2.map fun _ => lim (val (a.2.getD [])))) := by
    cases h : a.2 with
    | none => simp [val, q0o, eL, A.slice, A.bound]
    | some l =>
      rw [h] at hle
      simp only [Option.getD_some] at hle
      simp [eL, A.slice, A.bound, hle]
      rw [← List.map_take, qh6]
  have hr : ((a.2.map fun _ => lim (val (a.2.getD []))).getD []) = lim (val (a.2.getD [])) := by
    cases a.2 <;> simp [val, q0o]
  unfold rnormS
  generalize hl : lim (val (a.2.getD [])) = l at *
  have hap : ∃ v H', A.append 1 4 64 .nils (l.map eu) [.row 0 2 24 [eN a]] = some (v, H') ∧ A.freezeB true 64 H' (.agg [.bool (a.1 && decide (0 < l.length)), v]) = some (eN (a.1 && decide (0 < l.length), nz l)) ∧ v.cells = [v] ∧ v.isDef = true ∧ v.one = true := by
    cases l with
    | nil => exact ⟨.nils, _, rfl, by simp [nz]; exact frz_eN (d := none), rfl, rfl, rfl⟩
    | cons x l =>
      refine ⟨_, _, nil_append (news := (x :: l).map eu) (by simp) (by omega) (by simp only [List.length_map]; omega), ?_, rfl, rfl, rfl⟩
      have := qbn (H := [.row 0 2 24 [eN a]] ++ [.row 0 1 64 ((x :: l).map eu)]) (id := 1) (ver := 0) (n := (x :: l).length) (cap := (x :: l).length) (ty := 64) (l := x :: l) (b := a.1 && decide (0 < (x :: l).length)) rfl rfl
      simp only [List.length_map]
      exact this
  obtain ⟨v, H', ha1, ha2, ha3, ha4, ha5⟩ := hap
  cases hb : a.1
  · rw [hb] at ha2
    simp only [Bool.false_and] at ha2
    simp [↓q03, ↓q07, ↓q0f, ↓q01, ↓q04, ↓q0w, ↓q0k, ↓q05, ↓q02, ↓q06, S18, hB.fa, hB.load, h1, hb, hs, q20 q1m, hr, ha1, A.fill, A.splice, ha3, ha4, A.fits, ha5, AV.heapy, A.ofList, ha2]
  · rw [hb] at ha2
    simp only [Bool.true_and] at ha2
    simp [↓q03, ↓q07, ↓q0f, ↓q01, ↓q04, ↓q0w, ↓q0k, ↓q05, ↓q02, ↓q06, S18, hB.fa, hB.load, h1, hb, hs, q20 q1m, hr, ha1, A.fill, A.splice, ha3, ha4, A.fits, ha5, AV.heapy, A.ofList, ha2]
theorem kRnorm {R : Type} {a : Nm} (hf : few a.2) {H : Heap} {k : AV → Heap → Option R} : polK pRnorm [eN a] H k = k (eN (rnormS a)) H := by
  simp [pRnorm, q0h, hf]
theorem qRnorm {R : Type} {a : Nm} (hf : few a.2) {H : Heap} {k : AV → Heap → Option R} : polQ pRnorm [eN a] H k = k (eN (rnormS a)) H := by
  simp [pRnorm, q1e, hf]
/-! ### which are the same -/
def sameS (a b : Nm) : Bool := decide (a.1 = b.1 ∧ a.2.getD [] = b.2.getD [])
noncomputable def pSame : Pol := .still (p2 cN cN .bool (fun a b => few a.2 ∧ few b.2) sameS)
theorem same_loop {pol : FuncId → Pol} {a b : Nm} {H : Heap} {p q : Nat} (hA : Go.Den.Box H p 2 24 [.bool a.1, eD a.2]) (hB : Go.Den.Box H q 2 24 [.bool b.1, eD b.2]) (hl : (a.2.getD []).length = (b.2.getD []).length) (hf : (a.2.getD []).length ≤ 1000000) : ∀ k i, k + i = (a.2.getD []).length →
    LDoes (L35_0 pol) ⟨[.ptr p 0 0 0, .ptr q 0 0 0, .int .i64 (i : Nat)], []⟩ H (if (a.2.getD []).drop i = (b.2.getD []).drop i then 0 else 1) ⟨[if (a.2.getD []).drop i = (b.2.getD []).drop i then .undef else .bool false], []⟩ H := by
  intro k
  induction k with
  | zero =>
    intro i hi
    have e : (a.2.getD []).drop i = (b.2.getD []).drop i := by rw [List.drop_of_length_le (by omega), List.drop_of_length_le (by omega)]
    rw [if_pos e, if_pos e]
    refine LDoes.step (Evs.of fun n m => ?_)
    have : ¬ i < (a.2.getD []).length := by omega
    simp [↓q00, ↓q01, q6a, hA.fa, hA.load, this]
  | succ k ih =>
    intro i hi
    have hx := q1w (d := a.2) (H := H) (k := .i64) (i := i) (by omega)
    have hy := q1w (d := b.2) (H := H) (k := .i64) (i := i) (by omega)
    have hlt : i < (a.2.getD []).length := by omega
    have d1 := List.drop_eq_getElem_cons (l := a.2.getD []) (i := i) (by omega)
    have d2 := List.drop_eq_getElem_cons (l := b.2.getD []) (i := i) (by omega)
    have hih := ih (i + 1) (by omega)
    by_cases h0 : (a.2.getD [])[i] = (b.2.getD [])[i]
    · have e : ((a.2.getD []).drop i = (b.2.getD []).drop i) ↔ ((a.2.getD []).drop (i + 1) = (b.2.getD []).drop (i + 1)) := by
        rw [d1, d2, h0]
        exact ⟨fun h => (List.cons.inj h).2, fun h => by rw [h]⟩
      simp only [e]
      refine LDoes.step (Evs.withL hih (Evs.of fun n m _ h2 => ?_))
      simp only [Int.natCast_add, Int.natCast_one] at h2
      simp (disch := omega) [↓q00, ↓q01, q6a, hA.fa, hA.load, hB.fa, hB.load, hlt, hx, hy, h0, q08, h2]
    · have e : ¬ (a.2.getD []).drop i = (b.2.getD []).drop i := by
        rw [d1, d2]
        exact fun h => h0 (List.cons.inj h).1
      rw [if_neg e, if_neg e]
      have h0' : ¬ (((a.2.getD [])[i]).toNat : Int) = ((b.2.getD [])[i]).toNat := fun e => h0 (UInt32.toNat_inj.1 (by omega))
      refine LDoes.step (Evs.of fun n m => ?_)
      simp (disch := omega) [↓q00, ↓q01, q6a, hA.fa, hA.load, hB.fa, hB.load, hlt, hx, hy, h0']
theorem okSame : PolOK base 35 pSame := still2 base_ok [] trivial fun a b ⟨ha, hb⟩ => by
  unfold few at ha hb
  have hA1 : Go.Den.Box [.row 0 2 24 [eN a]] 0 2 24 [.bool a.1, eD a.2] := rfl
  have hA : Go.Den.Box [.row 0 2 24 [eN a], .row 0 2 24 [eN b]] 0 2 24 [.bool a.1, eD a.2] := rfl
  have hB : Go.Den.Box [.row 0 2 24 [eN a], .row 0 2 24 [eN b]] 1 2 24 [.bool b.1, eD b.2] := rfl
  by_cases hs : a.1 = b.1
  · by_cases hl : (a.2.getD []).length = (b.2.getD []).length
    · refine Evs.withL (same_loop (pol := polT []) hA hB hl ha _ 0 rfl) (Evs.of fun n m h1 _ => ?_)
      simp only [List.drop_zero, Int.cast_ofNat_Int] at h1
      by_cases he : a.2.getD [] = b.2.getD []
      · simp only [he, if_true] at h1
        simp [↓q00, ↓q03, ↓q0f, ↓q01, ↓q04, ↓q05, ↓q02, ↓q06, S35, hA.fa, hA.load, hB.fa, hB.load, A.bin_bne q36, hs, h1, sameS, he]
      · simp only [he, if_false] at h1
        simp [↓q00, ↓q03, ↓q0f, ↓q01, ↓q04, ↓q05, ↓q02, ↓q06, S35, hA.fa, hA.load, hB.fa, hB.load, A.bin_bne q36, hs, hl, h1, sameS, he]
    · refine Evs.of fun n m => ?_
      have hl' : ¬ ((a.2.getD []).length : Int) = (b.2.getD []).length := by omega
      have he : ¬ a.2.getD [] = b.2.getD [] := fun e => hl (by rw [e])
      simp [↓q00, ↓q03, ↓q0f, ↓q01, ↓q04, ↓q05, ↓q06, S35, hA.fa, hA.load, hB.fa, hB.load, A.bin_bne q36, hs, hl', sameS, he]
  · refine Evs.of fun n m => ?_
    have hs' : (a.1 == b.1) = false := by simpa using hs
    simp [↓q00, ↓q03, ↓q0f, ↓q01, ↓q04, ↓q05, ↓q06, S35, hA.fa, hA.load, hB.fa, hB.load, A.bin_bne q36, hs, hs', sameS]
theorem kSame {R : Type} {a b : Nm} (ha : few a.2) (hb : few b.2) {H : Heap} {k : AV → Heap → Option R} : polK pSame [eN a, eN b] H k = k (.bool (sameS a b)) H := by
  simp [pSame, q0h, ha, hb]
def rofS (n : Int) : Nm := rnormS (decide (n < 0), some (digs 2 n.natAbs))
noncomputable def pRof : Pol := .still (p1 (cI .i64) eN (fun n => -9223372036854775808 ≤ n ∧ n ≤ 9223372036854775807) rofS)
theorem okRof : PolOK base 17 pRof := still1 base_ok [(18, pRnorm)] ⟨q5a, trivial⟩ fun z ⟨h1, h2⟩ => by
  refine Evs.of fun n m => ?_
  have hm : ∀ (x y : UInt32) (b : Bool) (k : AV → Heap → Option AV), polK pRnorm [.agg [.bool b, .sl 0 0 0 2 2]] [.row 0 1 64 [eu x, eu y]] k = k (eN (rnormS (b, some [x, y]))) (bif (eN (rnormS (b, some [x, y]))).flat then [.row 0 1 64 [eu x, eu y]] else kill ([AV.agg [.bool b, .sl 0 0 0 2 2]].flatMap (reach 64 [.row 0 1 64 [eu x, eu y]])) [.row 0 1 64 [eu x, eu y]]) := fun x y b k => by
    unfold pRnorm
    have hz : q0r [.row 0 1 64 [eu x, eu y]] [.agg [.bool b, .sl 0 0 0 2 2]] = some [.agg [.bool b, eD (some [x, y])]] := q0m (qbn (l := [x, y]) rfl rfl) rfl
    rw [q2d hz]
    have hf : few (some [x, y]) := by simp [few]
    simp [hf]
  have hu : ∃ u : Nat, u = z.natAbs ∧ u < 18446744073709551616 := ⟨_, rfl, by omega⟩
  obtain ⟨u, hu1, hu2⟩ := hu
  have hs' : A.bin base.P .shr 63 (.int .u64 (u : Int)) (.int .u64 32) true [] = some (.int .u64 ((u / 4294967296 : Nat) : Int)) := q2r (P := base.P) (t := 63) (c := true) (H := []) (a := u) (s := 32) (j := .u64) (by omega)
  have hlo : IntKind.wrap .u32 (u : Int) = (UInt32.ofNat u).toNat := q0n u
  have hhi : IntKind.wrap .u32 ((u / 4294967296 : Nat) : Int) = (UInt32.ofNat (u / 4294967296)).toNat := q0n _
  have hone : ∀ x y : UInt32, A.fillElems 1 [AV.int .u32 0, .int .u32 0] [(0, 1, eu x), (1, 1, eu y)] = some [eu x, eu y] := fun x y => by simp [A.fillElems]
  have hd : digs 2 z.natAbs = [UInt32.ofNat u, UInt32.ofNat (u / 4294967296)] := by rw [← hu1]; rfl
  unfold rofS
  rw [hd]
  generalize UInt32.ofNat u = lo at *
  generalize UInt32.ofNat (u / 4294967296) = hi at *
  generalize u / 4294967296 = u1 at *
  by_cases hz : z < 0
  · have hw : IntKind.wrap .u64 (-IntKind.wrap .u64 z) = u := by
      simp only [IntKind.wrap, IntKind.bits, IntKind.signed]
      simp
      omega
    simp [↓q00, ↓q03, ↓q07, ↓q0f, ↓q01, ↓q0w, ↓q02, ↓q06, S17, q4o, hz, A.un, hw, q0p, hlo, hs', hhi, hone, hm, A.fill, A.fits, A.splice, A.ofList]
  · have hw : IntKind.wrap .u64 z = u := by rw [q0g (by omega) (by omega)]; omega
    simp [↓q00, ↓q03, ↓q07, ↓q0f, ↓q01, ↓q0w, ↓q02, ↓q06, S17, q4o, hz, hw, q0p, hlo, hs', hhi, hone, hm, A.fill, A.fits, A.splice, A.ofList]
theorem kRof {R : Type} {n : Int} (h1 : -9223372036854775808 ≤ n) (h2 : n ≤ 9223372036854775807) {H : Heap} {k : AV → Heap → Option R} : polK pRof [.int .i64 n] H k = k (eN (rofS n)) H := by
  simp [pRof, q0h, h1, h2]
theorem qRof {R : Type} {n : Int} (h1 : -9223372036854775808 ≤ n) (h2 : n ≤ 9223372036854775807) {H : Heap} {k : AV → Heap → Option R} : polQ pRof [.int .i64 n] H k = k (eN (rofS n)) H := by
  simp [pRof, q1e, h1, h2]
end Go.Proofs.YtikkpecdkdgmfaaDoor

/- Numbers of any size: numbers that fit into a word; by one limb; products. -/
set_option maxRecDepth 100000
namespace Go.Proofs.YtikkpecdkdgmfaaDoor
open Go Go.Den
/-! ### words -/
def fitsS (n : Int) : Bool := decide (-576460752303423488 ≤ n ∧ n ≤ 576460752303423487)
noncomputable def pFits : Pol := .still (p1 (cI .i64) .bool (fun _ => True) fitsS)
def smallV (b : Bool) (N : Nat) : Int × Bool := if fitsS (if b then -(N : Int) else N) then ((if b then -(N : Int) else N), true) else (0, false)
def smallS (a : Nm) : Int × Bool := smallV a.1 (val (a.2.getD []))
noncomputable def pSmall : Pol := .still (p1 cN (fun r : Int × Bool => .tup [.int .i64 r.1, .bool r.2]) (fun a => few a.2) smallS)
def byOneS (a : Option (List UInt32)) (b : UInt32) : Option (List UInt32) × UInt32 := (some (digs (a.getD []).length (val (a.getD []) / b.toNat)), UInt32.ofNat (val (a.getD []) % b.toNat))
theorem qg4 {T b x : Nat} (hb : 0 < b) : (x + 4294967296 * T) / b = 4294967296 * (T / b) + (4294967296 * (T % b) + x) / b ∧ (x + 4294967296 * T) % b = (4294967296 * (T % b) + x) % b := by
  have h := Nat.div_add_mod T b
  have e : x + 4294967296 * T = b * (4294967296 * (T / b)) + (4294967296 * (T % b) + x) := by
    conv => lhs; rw [← h]
    generalize T / b = p
    generalize T % b = q
    grind
  rw [e]
  exact ⟨by rw [Nat.mul_add_div hb], by rw [Nat.mul_add_mod]⟩
theorem qhh {pol : FuncId → Pol} {a : Option (List UInt32)} {b : UInt32} {id : Nat} (hb : b.toNat ≠ 0) (hf : (a.getD []).length ≤ 1000000) : ∀ (j : Nat) (o : List UInt32) (H : Heap), j ≤ (a.getD []).length → o.length = (a.getD []).length → o.drop j = digs ((a.getD []).length - j) (val ((a.getD []).drop j) / b.toNat) →
    H[id]? = some (.row 0 1 64 (o.map eu)) →
    ∃ H', LDoes (L36_0 pol) ⟨[eD a, eu b, .sl id 0 0 (a.getD []).length (a.getD []).length, .int .u64 ((val ((a.getD []).drop j) % b.toNat : Nat) : Int), .int .i64 ((j : Int) - 1)], []⟩ H 0
      ⟨[.sl id 0 0 (a.getD []).length (a.getD []).length, .int .u64 ((val (a.getD []) % b.toNat : Nat) : Int)], []⟩ H' ∧ H'[id]? = some (.row 0 1 64 ((digs (a.getD []).length (val (a.getD []) / b.toNat)).map eu)) := by
  intro j
  induction j with
  | zero =>
    intro o H hj ho hd hH
    simp only [List.drop_zero, Nat.sub_zero] at hd
    rw [hd] at hH
    refine ⟨H, LDoes.step (Evs.of fun n m => ?_), hH⟩
    simp [↓q00, ↓q01, qa0]
  | succ j ih =>
    intro o H hj ho hd hH
    have hlt : j < (a.getD []).length := by omega
    have hx := q1w (d := a) (H := H) (k := .i64) (i := j) (by omega)
    have h2 := q14 (a.getD [])[j]
    have hb2 := q14 b
    have hdr := List.drop_eq_getElem_cons hlt
    have hv : val ((a.getD []).drop j) = ((a.getD [])[j]).toNat + 4294967296 * val ((a.getD []).drop (j + 1)) := by rw [hdr, val]
    obtain ⟨s1, s2⟩ := qg4 (T := val ((a.getD []).drop (j + 1))) (b := b.toNat) (x := ((a.getD [])[j]).toNat) (by omega)
    rw [← hv] at s1 s2
    have hr : val ((a.getD []).drop (j + 1)) % b.toNat < b.toNat := Nat.mod_lt _ (by omega)
    obtain ⟨r1, r2, r3⟩ := lrow (k := .i64) (n := (a.getD []).length) (j := j) (i := (j : Int)) hH ho.symm (by omega) rfl
    generalize hR : val ((a.getD []).drop (j + 1)) % b.toNat = R at *
    have hq : (4294967296 * R + ((a.getD [])[j]).toNat) / b.toNat < 4294967296 := Nat.div_lt_of_lt_mul (by
      have : b.toNat * 4294967296 = 4294967296 * b.toNat := Nat.mul_comm _ _
      omega)
    generalize hQ : (4294967296 * R + ((a.getD [])[j]).toNat) / b.toNat = Q at *
    have hd' : (o.set j (UInt32.ofNat Q)).drop j = digs ((a.getD []).length - j) (val ((a.getD []).drop j) / b.toNat) := by
      rw [show (a.getD []).length - j = ((a.getD []).length - (j + 1)) + 1 by omega, digs, s1, List.drop_eq_getElem_cons (by rw [List.length_set]; omega)]
      rw [List.getElem_set_self, List.drop_set_of_lt (by omega), hd]
      congr 1
      · exact UInt32.toNat_inj.1 (by rw [q0v, q0v]; omega)
      · congr 1; omega
    obtain ⟨H', hL, hr'⟩ := ih (o.set j (UInt32.ofNat Q)) _ (by omega) (by rw [List.length_set, ho]) hd' (q1o hH)
    refine ⟨H', LDoes.step (Evs.withL hL (Evs.of fun n m _ h3 => ?_)), hr'⟩
    rw [s2] at h3
    have hsh : A.bin base.P .shl 63 (.int .u64 (R : Int)) (.int .u64 32) true H = some (.int .u64 ((2 ^ 32 * R : Nat) : Int)) := q74 (a := R) (s := 32) (j := .u64) (by omega) (by omega)
    have hor := (qdx (P := base.P) (t := 63) (c := false) (H := H) (x := ((a.getD [])[j]).toNat) (s := 32) (y := R) (by omega) (by omega)).2
    have hnum : ((a.getD [])[j]).toNat + 2 ^ 32 * R = 4294967296 * R + ((a.getD [])[j]).toNat := by omega
    rw [hnum] at hor
    have hquo := qca (P := base.P) (t := 63) (c := false) (H := H) (x := 4294967296 * R + ((a.getD [])[j]).toNat) (y := b.toNat) hb (by omega)
    have hrem := qcb (P := base.P) (t := 63) (c := false) (H := H.set id (.row 0 1 64 ((o.set j (UInt32.ofNat Q)).map eu))) (x := 4294967296 * R + ((a.getD [])[j]).toNat) (y := b.toNat) hb
    rw [hQ] at hquo
    have hst := r3 (UInt32.ofNat Q)
    have hw : IntKind.wrap .u32 (Q : Int) = (UInt32.ofNat Q).toNat := q0n Q
    have hge : (0 : Int) ≤ (j : Int) + 1 - 1 := by omega
    have hj1 : ((j + 1 : Nat) : Int) - 1 = j := by omega
    rw [hj1]
    have hj0 : (0 : Int) ≤ j := by omega
    generalize UInt32.ofNat Q = dq at *
    generalize ((2 ^ 32 * R : Nat) : Int) = sh at *
    generalize 4294967296 * R + ((a.getD [])[j]).toNat = num at *
    generalize ((num % b.toNat : Nat) : Int) = rm at hrem h3
    simp only [List.map_set] at h3 hrem hst
    simp (disch := omega) [↓q00, ↓q01, ↓q0e, qa0, hj0, hx, q0x, q0p, q08, hsh, hor, hquo, r1, hw, hst, hrem, h3]
noncomputable def pByOne : Pol := .still (p2 cD cU32 (fun r : Option (List UInt32) × UInt32 => .tup [eD r.1, eu r.2]) (fun a b => few a ∧ b.toNat ≠ 0) byOneS)
theorem okByOne : PolOK base 36 pByOne := still2 base_ok [] trivial fun a b ⟨ha, hb⟩ => by
  unfold few at ha
  have hmk := q3y (H := []) (sz := 1) (ty := 64) (bytes := 4) (z := .int .u32 0) (l := ((a.getD []).length : Nat)) (by omega) (by omega) (by omega)
  simp only [List.length_nil, Int.toNat_natCast, List.nil_append] at hmk
  have hz : List.replicate (a.getD []).length (AV.int .u32 0) = (List.replicate (a.getD []).length (0 : UInt32)).map eu := by simp
  rw [hz] at hmk
  obtain ⟨H', hL, hr⟩ := qhh (pol := polT []) (a := a) (b := b) (id := 0) hb ha (a.getD []).length (List.replicate (a.getD []).length 0) [.row 0 1 64 ((List.replicate (a.getD []).length (0 : UInt32)).map eu)] (Nat.le_refl _) (by simp) (by simp [digs]) rfl
  refine Evs.withL hL (Evs.of fun n m h1 _ => ?_)
  rw [List.drop_length] at h1
  simp only [val, Nat.zero_mod, Int.cast_ofNat_Int, List.map_replicate] at h1
  have hlt : val (a.getD []) % b.toNat < 4294967296 := by
    have := Nat.mod_lt (val (a.getD [])) (show 0 < b.toNat by omega)
    have := q14 b
    omega
  have hw : IntKind.wrap .u32 ((val (a.getD []) % b.toNat : Nat) : Int) = (UInt32.ofNat (val (a.getD []) % b.toNat)).toNat := q0n _
  have hfz : A.freezeB true 63 H' (.sl 0 0 0 (a.getD []).length (a.getD []).length) = some (eD (some (digs (a.getD []).length (val (a.getD []) / b.toNat)))) := q1p hr (by rw [q0a]) 61
  have hf2 : ∀ x : AV, x.leaf = true → A.freezeB true 64 H' (.tup [.sl 0 0 0 (a.getD []).length (a.getD []).length, x]) = some (.tup [eD (some (digs (a.getD []).length (val (a.getD []) / b.toNat))), x]) := fun x hx => by
    rw [q7f, List.mapM_cons, hfz, List.mapM_cons, (q2c hx 62 H').1]
    rfl
  unfold byOneS
  generalize UInt32.ofNat (val (a.getD []) % b.toNat) = r at *
  have hf3 := hf2 (eu r) rfl
  generalize ((val (a.getD []) % b.toNat : Nat) : Int) = rz at *
  simp (disch := omega) [↓q03, ↓q01, ↓q0k, ↓q02, S36, hmk, q08, h1, q0p, hw, hf3]
theorem kByOne {R : Type} {a : Option (List UInt32)} {b : UInt32} (ha : few a) (hb : b.toNat ≠ 0) {H : Heap} {k : AV → Heap → Option R} : polK pByOne [eD a, eu b] H k = k (.tup [eD (byOneS a b).1, eu (byOneS a b).2]) H := by
  simp [pByOne, q0h, ha, hb]
end Go.Proofs.YtikkpecdkdgmfaaDoor

/- Numbers of any size: products. -/
set_option maxRecDepth 100000
set_option maxHeartbeats 2000000
namespace Go.Proofs.YtikkpecdkdgmfaaDoor
open Go Go.Den
theorem mul_alg {V V0 V1 W P Q B T u y c d r q t : Nat} (hset : V1 + W * d = V + W * r) (hdm : t = r + B * q) (ht : t = c + (u * y + d)) (hinv : V + c * W = V0 + P * (u * T)) (hW : W = P * Q) : V1 + q * (W * B) = V0 + P * (u * (T + Q * y)) := by
  have h1 : V1 + q * (W * B) + W * d = V + W * t := by rw [hdm]; grind
  have h2 : V + W * t = V + W * c + W * (u * y) + W * d := by rw [ht]; grind
  have h3 : V + W * c = V0 + P * (u * T) := by rw [Nat.mul_comm W c]; exact hinv
  have h4 : P * (u * (T + Q * y)) = P * (u * T) + W * (u * y) := by rw [hW]; grind
  omega
theorem qdv {u y c d : Nat} (hu : u < 4294967296) (hy : y < 4294967296) (hc : c < 4294967296) (hd : d < 4294967296) : u * y ≤ 18446744065119617025 ∧ c + (u * y + d) < 18446744073709551616 := by
  have h1 : u * y ≤ 4294967295 * 4294967295 := Nat.mul_le_mul (by omega) (by omega)
  omega
theorem mul_inner {pol : FuncId → Pol} {dx dy : Option (List UInt32)} {id : Nat} {u : UInt32} {i : Nat} {o0 : List UInt32} {lx : AV} {c0 c1 c2 : List AV} (hL : i + (dy.getD []).length < o0.length) (hbig : o0.length ≤ 2000000) : ∀ (k j c : Nat) (o : List UInt32) (H : Heap), k + j = (dy.getD []).length → o.length = o0.length → o.drop (i + j) = o0.drop (i + j) → c < 4294967296 →
    val o + c * 4294967296 ^ (i + j) = val o0 + 4294967296 ^ i * (u.toNat * val ((dy.getD []).take j)) → H[id]? = some (.row 0 1 64 (o.map eu)) →
    ∃ H' o' c', LDoes (L20_1 pol) ⟨[eD dy, .sl id 0 0 o0.length o0.length, .int .i64 (i : Nat), eu u, .int .u64 (c : Nat), eD dx, lx, .int .i64 (i : Nat), eD dy, .int .i64 ((dy.getD []).length : Nat), .int .i64 (j : Nat)], [c0, c1, c2]⟩ H 0
      ⟨[eD dy, .sl id 0 0 o0.length o0.length, .int .i64 (i : Nat), .int .u64 (c' : Nat), eD dx, lx, .int .i64 (i : Nat)], [c0, c1, c2]⟩ H' ∧ H'[id]? = some (.row 0 1 64 (o'.map eu)) ∧ o'.length = o0.length ∧ o'.drop (i + (dy.getD []).length) = o0.drop (i + (dy.getD []).length) ∧ c' < 4294967296 ∧
      val o' + c' * 4294967296 ^ (i + (dy.getD []).length) = val o0 + 4294967296 ^ i * (u.toNat * val (dy.getD [])) := by
  intro k
  induction k with
  | zero =>
    intro j c o H hk ho hd hc hv hH
    have : j = (dy.getD []).length := by omega
    subst this
    rw [List.take_length] at hv
    refine ⟨H, o, c, LDoes.step (Evs.of fun n m => ?_), hH, ho, hd, hc, hv⟩
    simp [↓q00, ↓q01, q9x]
  | succ k ih =>
    intro j c o H hk ho hd hc hv hH
    have hlt : j < (dy.getD []).length := by omega
    have hx := q1w (d := dy) (H := H) (k := .i64) (i := j) (by omega)
    have hio : i + j < o.length := by omega
    obtain ⟨r1, r2, r3⟩ := lrow (k := .i64) (n := o0.length) (j := i + j) (i := (i : Int) + (j : Int)) hH ho.symm hio (by omega)
    have hu := q14 u
    have hy := q14 (dy.getD [])[j]
    have hod := q14 o[i + j]
    obtain ⟨hb1, hb2⟩ := qdv hu hy hc hod
    have hset := q77 hio (UInt32.ofNat (c + (u.toNat * ((dy.getD [])[j]).toNat + (o[i + j]).toNat)))
    rw [q0v] at hset
    have hvt := q0z hlt
    have hdm := Nat.div_add_mod (c + (u.toNat * ((dy.getD [])[j]).toNat + (o[i + j]).toNat)) 4294967296
    have hnew := mul_alg (B := 4294967296) (q := (c + (u.toNat * ((dy.getD [])[j]).toNat + (o[i + j]).toNat)) / 4294967296) hset (Nat.mod_add_div _ _).symm rfl hv (Nat.pow_add _ _ _)
    rw [← hvt] at hnew
    have hdrop : (o.set (i + j) (UInt32.ofNat (c + (u.toNat * ((dy.getD [])[j]).toNat + (o[i + j]).toNat)))).drop (i + (j + 1)) = o0.drop (i + (j + 1)) := by
      rw [List.drop_set_of_lt (by omega)]
      have e1 : o.drop (i + (j + 1)) = (o.drop (i + j)).drop 1 := by rw [List.drop_drop]; congr 1
      have e2 : o0.drop (i + (j + 1)) = (o0.drop (i + j)).drop 1 := by rw [List.drop_drop]; congr 1
      rw [e1, e2, hd]
    obtain ⟨H', o', c', hL', q1, q2, q3, q4, q5⟩ := ih (j + 1) ((c + (u.toNat * ((dy.getD [])[j]).toNat + (o[i + j]).toNat)) / 4294967296) (o.set (i + j) (UInt32.ofNat (c + (u.toNat * ((dy.getD [])[j]).toNat + (o[i + j]).toNat)))) _ (by omega) (by rw [List.length_set, ho]) hdrop (by omega) (by rw [show i + (j + 1) = (i + j) + 1 by omega, Nat.pow_succ]; exact hnew) (q1o hH)
    refine ⟨H', o', c', LDoes.step (Evs.withL hL' (Evs.of fun n m _ h3 => ?_)), q1, q2, q3, q4, q5⟩
    have hst := r3 (UInt32.ofNat (c + (u.toNat * ((dy.getD [])[j]).toNat + (o[i + j]).toNat)))
    generalize o[i + j] = ol at *
    generalize (dy.getD [])[j] = yl at *
    have hp0 : (0 : Int) ≤ (u.toNat : Int) * (yl.toNat : Int) := by rw [← Int.natCast_mul]; omega
    have hp1 : (u.toNat : Int) * (yl.toNat : Int) ≤ 18446744065119617025 := by rw [← Int.natCast_mul]; omega
    have hcast : (c : Int) + ((u.toNat : Int) * (yl.toNat : Int) + (ol.toNat : Int)) = ((c + (u.toNat * yl.toNat + ol.toNat) : Nat) : Int) := by simp only [Int.natCast_add, Int.natCast_mul]
    have hb2' : (c : Int) + ((u.toNat : Int) * (yl.toNat : Int) + (ol.toNat : Int)) < 18446744073709551616 := by rw [hcast]; omega
    have hw : IntKind.wrap .u32 ((c : Int) + ((u.toNat : Int) * (yl.toNat : Int) + (ol.toNat : Int))) = (UInt32.ofNat (c + (u.toNat * yl.toNat + ol.toNat))).toNat := by rw [hcast]; exact q0n _
    have hsh : ∀ H, A.bin base.P .shr 63 (.int .u64 ((c : Int) + ((u.toNat : Int) * (yl.toNat : Int) + (ol.toNat : Int)))) (.int .u64 32) true H = some (.int .u64 (((c + (u.toNat * yl.toNat + ol.toNat)) / 4294967296 : Nat) : Int)) := fun H => by
      rw [hcast]
      exact q2r (s := 32) (by omega)
    generalize (((c + (u.toNat * yl.toNat + ol.toNat)) / 4294967296 : Nat) : Int) = cq at *
    generalize UInt32.ofNat (c + (u.toNat * yl.toNat + ol.toNat)) = dg at *
    simp only [Int.natCast_add, Int.natCast_one, List.map_set] at h3
    simp (disch := omega) [↓q00, ↓q01, ↓q0e, q9x, hlt, hx, q0x, q0p, q0g, q08, r1, r2, hw, hst, hsh, h3]
theorem mul_outer {pol : FuncId → Pol} {dx dy : Option (List UInt32)} {id : Nat} {c0 c1 c2 : List AV} (hbx : (dx.getD []).length ≤ 128) (hby : (dy.getD []).length ≤ 128) : ∀ (k i : Nat) (o : List UInt32) (H : Heap), k + i = (dx.getD []).length → o.length = (dx.getD []).length + (dy.getD []).length + 1 → val o = val ((dx.getD []).take i) * val (dy.getD []) →
    H[id]? = some (.row 0 1 64 (o.map eu)) →
    ∃ H', LDoes (L20_0 pol) ⟨[eD dy, .sl id 0 0 ((dx.getD []).length + (dy.getD []).length + 1) ((dx.getD []).length + (dy.getD []).length + 1), eD dx, .int .i64 ((dx.getD []).length : Nat), .int .i64 (i : Nat)], [c0, c1, c2]⟩ H 0 ⟨[.sl id 0 0 ((dx.getD []).length + (dy.getD []).length + 1) ((dx.getD []).length + (dy.getD []).length + 1)], [c0, c1, c2]⟩ H' ∧
      H'[id]? = some (.row 0 1 64 ((digs ((dx.getD []).length + (dy.getD []).length + 1) (val (dx.getD []) * val (dy.getD []))).map eu)) := by
  intro k
  induction k with
  | zero =>
    intro i o H hk ho hv hH
    have : i = (dx.getD []).length := by omega
    subst this
    rw [List.take_length] at hv
    have e : o = digs ((dx.getD []).length + (dy.getD []).length + 1) (val (dx.getD []) * val (dy.getD [])) := q6o ho hv
    rw [e] at hH
    refine ⟨H, LDoes.step (Evs.of fun n m => ?_), hH⟩
    simp [↓q00, ↓q01, q9w]
  | succ k ih =>
    intro i o H hk ho hv hH
    have hlt : i < (dx.getD []).length := by omega
    have hx := q1w (d := dx) (H := H) (k := .i64) (i := i) (by omega)
    obtain ⟨H1, o1, c1', hI, q1, q2, q3, q4, q5⟩ := mul_inner (pol := pol) (dx := dx) (dy := dy) (id := id) (u := (dx.getD [])[i]) (i := i) (o0 := o) (lx := .int .i64 ((dx.getD []).length : Nat)) (c0 := c0) (c1 := c1) (c2 := c2) (by omega) (by omega) (dy.getD []).length 0 0 o H (by omega) rfl rfl (by omega) (by simp [val]) hH
    have hlim : val o < 4294967296 ^ (i + (dy.getD []).length) := by
      rw [hv, Nat.pow_add]
      have h1 := q15 (dx.getD []) i
      have h2 := q1n (dy.getD [])
      generalize 4294967296 ^ (dy.getD []).length = p at *
      generalize 4294967296 ^ i = q at *
      rcases Nat.eq_zero_or_pos (val (dy.getD [])) with h | h
      · rw [h, Nat.mul_zero]
        exact Nat.mul_pos (by omega) (by omega)
      · calc val ((dx.getD []).take i) * val (dy.getD []) < q * val (dy.getD []) := Nat.mul_lt_mul_of_pos_right h1 h
          _ ≤ q * p := Nat.mul_le_mul_left _ (by omega)
    have hio : i + (dy.getD []).length < o1.length := by omega
    have hzero : o1[i + (dy.getD []).length] = 0 := by
      have h1 := List.drop_eq_getElem_cons (l := o1) (i := i + (dy.getD []).length) hio
      have h2 := List.drop_eq_getElem_cons (l := o) (i := i + (dy.getD []).length) (by omega)
      rw [q3, h2] at h1
      rw [← (List.cons.inj h1).1]
      exact qdo hlim (Nat.le_refl _) (by omega)
    have hset := q77 hio (UInt32.ofNat c1')
    rw [hzero, q0v, Nat.mod_eq_of_lt q4] at hset
    simp only [UInt32.toNat_zero, Nat.mul_zero, Nat.add_zero] at hset
    have hvn : val (o1.set (i + (dy.getD []).length) (UInt32.ofNat c1')) = val ((dx.getD []).take (i + 1)) * val (dy.getD []) := by
      rw [hset, Nat.mul_comm _ c1', q5, hv, q0z hlt]
      grind
    obtain ⟨r1, r2, r3⟩ := lrow (k := .i64) (n := (dx.getD []).length + (dy.getD []).length + 1) (j := i + (dy.getD []).length) (i := (i : Int) + ((dy.getD []).length : Int)) q1 (by omega) hio (by omega)
    obtain ⟨H', hL', hr⟩ := ih (i + 1) (o1.set (i + (dy.getD []).length) (UInt32.ofNat c1')) _ (by omega) (by rw [List.length_set]; omega) hvn (q1o q1)
    refine ⟨H', LDoes.step (Evs.withL hI (Evs.withL hL' (Evs.of fun n m _ h3 h4 h5 => ?_))), hr⟩
    have hst := r3 (UInt32.ofNat c1')
    have hw : IntKind.wrap .u32 (c1' : Int) = (UInt32.ofNat c1').toNat := q0n _
    generalize UInt32.ofNat c1' = dg at *
    rw [ho] at h4
    simp only [Int.natCast_add, List.map_set, Int.cast_ofNat_Int] at h3 h4 hst
    simp (disch := omega) [↓q00, ↓q03, ↓q07, ↓q01, ↓q0e, ↓q02, q9w, hlt, hx, q0p, q08, h4, r1, hw, hst, h3]
def mulS (a b : Nm) : Nm × Bool :=
  if 128 < (lim (val (a.2.getD []))).length ∨ 128 < (lim (val (b.2.getD []))).length then ((false, none), false) else
  if 128 < (lim (val (a.2.getD []) * val (b.2.getD []))).length then ((false, none), false) else
  (madeS (a.1 != b.1) (some (digs ((lim (val (a.2.getD []))).length + (lim (val (b.2.getD []))).length + 1) (val (a.2.getD []) * val (b.2.getD [])))), true)
noncomputable def pMul : Pol := .still (p2 cN cN (fun r : Nm × Bool => .tup [eN r.1, .bool r.2]) (fun a b => few a.2 ∧ few b.2) mulS)
noncomputable abbrev TMul : List (FuncId × Pol) := [(38, pCut), (34, pMade)]
theorem okMul : PolOK base 20 pMul := still2 base_ok TMul ⟨okCut, okMade, trivial⟩ fun a b ⟨ha, hb⟩ => by
  have ga : (cutS a.2).getD [] = lim (val (a.2.getD [])) := q2a
  have gb : (cutS b.2).getD [] = lim (val (b.2.getD [])) := q2a
  unfold mulS
  generalize hx : val (a.2.getD []) = x at *
  generalize hy : val (b.2.getD []) = y at *
  by_cases h1 : 128 < (lim x).length
  · refine Evs.of fun n m => ?_
    have h1' : (128 : Int) < ((lim x).length : Nat) := by omega
    rw [if_pos (.inl h1)]
    simp [↓q00, ↓q03, ↓q07, ↓q01, ↓q04, ↓q05, ↓q06, S20, qCut ha, qCut hb, A.ofList, ga, h1', A.fill, A.fits, A.splice]
    exact qaj (d := none)
  · have h1' : ¬ (128 : Int) < ((lim x).length : Nat) := by omega
    by_cases h2 : 128 < (lim y).length
    · refine Evs.of fun n m => ?_
      have h2' : (128 : Int) < ((lim y).length : Nat) := by omega
      rw [if_pos (.inr h2)]
      simp [↓q00, ↓q03, ↓q07, ↓q01, ↓q04, ↓q05, ↓q06, S20, qCut ha, qCut hb, A.ofList, ga, gb, h1', h2', A.fill, A.fits, A.splice]
      exact qaj (d := none)
    · have h2' : ¬ (128 : Int) < ((lim y).length : Nat) := by omega
      rw [if_neg (by omega)]
      have hmk := q3y (H := []) (sz := 1) (ty := 64) (bytes := 4) (z := .int .u32 0) (l := (((lim x).length + (lim y).length + 1 : Nat) : Int)) (by omega) (by omega) (by omega)
      simp only [List.length_nil, Int.toNat_natCast, List.nil_append] at hmk
      have hz : List.replicate ((lim x).length + (lim y).length + 1) (AV.int .u32 0) = (List.replicate ((lim x).length + (lim y).length + 1) (0 : UInt32)).map eu := by simp
      obtain ⟨H', hL, hr⟩ := mul_outer (pol := polT TMul) (dx := cutS a.2) (dy := cutS b.2) (id := 0) (c0 := [.bool a.1, eD a.2]) (c1 := [.bool b.1, eD b.2]) (c2 := [.bool false, .nils]) (by rw [ga]; omega) (by rw [gb]; omega) (lim x).length 0 (List.replicate ((lim x).length + (lim y).length + 1) 0) [.row 0 1 64 ((List.replicate ((lim x).length + (lim y).length + 1) (0 : UInt32)).map eu)] (by rw [ga]; omega) (by rw [ga, gb]; simp) (by simp [val, q9j]) rfl
      rw [ga, gb, q0q, q0q] at hr
      rw [hz] at hmk
      have hfz : ∀ p : Bool, q0r H' [.bool p, .sl 0 0 0 ((lim x).length + (lim y).length + 1) ((lim x).length + (lim y).length + 1)] = some [.bool p, eD (some (digs ((lim x).length + (lim y).length + 1) (x * y)))] := fun p =>
        q2b (q0m (q1p hr (by rw [q0a]) 62) rfl)
      have hfew : few (some (digs ((lim x).length + (lim y).length + 1) (x * y))) := by unfold few; simp only [Option.getD_some, q0a]; omega
      obtain ⟨p, hp⟩ : ∃ p, (a.1 != b.1) = p := ⟨_, rfl⟩
      have hbin : ∀ H, A.bin base.P .neq 4 (.bool a.1) (.bool b.1) false H = some (.bool p) := fun H => by rw [A.bin_bne q36, ← hp]; rfl
      obtain ⟨G, hm⟩ : ∃ G : Heap, ∀ (k : AV → Heap → Option AV), polK pMade [.bool p, .sl 0 0 0 ((lim x).length + (lim y).length + 1) ((lim x).length + (lim y).length + 1)] H' k = k (eN (madeS p (some (digs ((lim x).length + (lim y).length + 1) (x * y))))) G := ⟨_, fun k => by
        unfold pMade
        rw [q2d (hfz p)]
        simp only [p2_app, dec_cB, qd7, Option.bind_some]
        rw [if_pos hfew]
        rfl⟩
      have hprod : x * y < 4294967296 ^ ((lim x).length + (lim y).length + 1) := by
        have e1 := lim_le.1 (Nat.le_refl (lim x).length)
        have e2 := lim_le.1 (Nat.le_refl (lim y).length)
        rw [Nat.pow_succ, Nat.pow_add]
        generalize 4294967296 ^ (lim x).length = p at *
        generalize 4294967296 ^ (lim y).length = q at *
        have : x * y ≤ p * q := Nat.mul_le_mul (by omega) (by omega)
        have : 0 < p * q := Nat.mul_pos (by omega) (by omega)
        omega
      have hg : (madeS p (some (digs ((lim x).length + (lim y).length + 1) (x * y)))).2.getD [] = lim (x * y) := by
        unfold madeS
        rw [q2a]
        simp only [Option.getD_some]
        rw [q11 hprod]
      rw [hp]
      generalize madeS p (some (digs ((lim x).length + (lim y).length + 1) (x * y))) = M at *
      obtain ⟨M1, M2⟩ := M
      dsimp only at hg
      refine Evs.withL hL (Evs.of fun n m h3 _ => ?_)
      rw [ga, gb] at h3
      simp only [Int.cast_ofNat_Int, List.map_replicate, Int.natCast_add] at h3 hmk
      generalize (lim x).length + (lim y).length + 1 = L at *
      by_cases h5 : 128 < (lim (x * y)).length
      · have h5' : (128 : Int) < ((lim (x * y)).length : Nat) := by omega
        rw [if_pos h5]
        simp (disch := omega) [↓q00, ↓q03, ↓q07, ↓q01, ↓q04, ↓q0k, ↓q05, ↓q02, ↓q06, S20, qCut ha, qCut hb, A.ofList, ga, gb, h1', h2', hmk, q08, h3, hbin, hm, hg, h5', A.fill, A.fits, A.splice]
        exact qaj (d := none)
      · have h5' : ¬ (128 : Int) < ((lim (x * y)).length : Nat) := by omega
        rw [if_neg h5]
        simp (disch := omega) [↓q00, ↓q03, ↓q07, ↓q01, ↓q04, ↓q0k, ↓q05, ↓q02, ↓q06, S20, qCut ha, qCut hb, A.ofList, ga, gb, h1', h2', hmk, q08, h3, hbin, hm, hg, h5', A.fill, A.fits, A.splice]
theorem qMul {R : Type} {a b : Nm} (ha : few a.2) (hb : few b.2) {H : Heap} {k : AV → Heap → Option R} : polQ pMul [eN a, eN b] H k = k (.tup [eN (mulS a b).1, .bool (mulS a b).2]) H := by
  simp [pMul, q1e, ha, hb]
end Go.Proofs.YtikkpecdkdgmfaaDoor

/- Numbers of any size: what all this comes to, in whole numbers; quotients by one limb. -/
set_option maxRecDepth 100000
set_option maxHeartbeats 2000000
namespace Go.Proofs.YtikkpecdkdgmfaaDoor
open Go Go.Den
/-! ### in whole numbers -/
def mag (a : Nm) : Nat := val (a.2.getD [])
def sgn (b : Bool) (n : Nat) : Int := if b then -(n : Int) else n
def toI (a : Nm) : Int := sgn a.1 (mag a)
def Rep (a : Nm) (z : Int) : Prop := a.1 = decide (z < 0) ∧ a.2.getD [] = lim z.natAbs
theorem Rep.same {a b : Nm} {z : Int} (h : Rep a z) (g : Rep b z) : sameS a b = true := by
  unfold sameS
  rw [h.1, h.2, g.1, g.2]
  simp
theorem Rep.inj {a b : Nm} {y z : Int} (h : Rep a y) (g : Rep b z) (hs : sameS a b = true) : y = z := by
  unfold sameS at hs
  have hs := of_decide_eq_true hs
  obtain ⟨h1, h2⟩ := hs
  rw [h.2, g.2] at h2
  have := lim_inj h2
  have h3 : (y < 0) = (z < 0) := by
    have e := h.1.symm.trans (h1.trans g.1)
    exact propext ⟨fun hy => of_decide_eq_true (by rw [← e]; exact decide_eq_true hy), fun hz => of_decide_eq_true (by rw [e]; exact decide_eq_true hz)⟩
  have h4 : y < 0 ↔ z < 0 := by rw [h3]
  omega
theorem Rep.toI {a : Nm} {z : Int} (h : Rep a z) : toI a = z := by
  unfold Go.Proofs.YtikkpecdkdgmfaaDoor.toI mag sgn
  rw [h.2, q0q, h.1]
  by_cases hz : z < 0
  · rw [if_pos (decide_eq_true hz)]; omega
  · rw [if_neg (by simpa using hz)]; omega
theorem q4t (p : Bool) (d : Option (List UInt32)) : Rep (madeS p d) (sgn p (val (d.getD []))) := by
  have e : 0 < (lim (val (d.getD []))).length ↔ val (d.getD []) ≠ 0 := by
    rw [List.length_pos_iff]
    exact not_congr lim_nil
  unfold madeS Rep sgn
  refine ⟨?_, ?_⟩
  · dsimp only
    rw [q2a]
    cases p
    · simp
    · by_cases h : val (d.getD []) = 0
      · simp [h, q0o]
      · have h1 : 0 < (lim (val (d.getD []))).length := e.2 h
        have h2 : -(val (d.getD []) : Int) < 0 := by omega
        simp only [Bool.true_and, if_true]
        rw [decide_eq_true h1, decide_eq_true h2]
  · dsimp only
    rw [q2a]
    cases p
    · simp
    · simp
theorem q4v (a : Nm) : Rep (normS a) (toI a) := q4t _ _
theorem q3l (a : Nm) : Rep (rnormS a) (toI a) := by
  have h := q4t a.1 a.2
  unfold Rep madeS at h
  unfold Rep rnormS
  dsimp only at h ⊢
  rw [q2a] at h
  exact ⟨h.1, by rw [q2m]; exact h.2⟩
theorem qee {n : Nat} (h : n < 18446744073709551616) : val (digs 2 n) = n := q11 (by simpa using h)
theorem rep_of {z : Int} (h1 : -9223372036854775808 ≤ z) (h2 : z ≤ 9223372036854775807) : Rep (ofS z) z := by
  have h := q4t (decide (z < 0)) (some (digs 2 z.natAbs))
  simp only [Option.getD_some] at h
  rw [qee (by omega)] at h
  have e : sgn (decide (z < 0)) z.natAbs = z := by
    unfold sgn
    by_cases hz : z < 0
    · rw [if_pos (decide_eq_true hz)]; omega
    · rw [if_neg (by simpa using hz)]; omega
  rw [e] at h
  exact h
theorem qcc {z : Int} (h1 : -9223372036854775808 ≤ z) (h2 : z ≤ 9223372036854775807) : Rep (rofS z) z := by
  have h := q3l (decide (z < 0), some (digs 2 z.natAbs))
  have e : toI (decide (z < 0), some (digs 2 z.natAbs)) = z := by
    unfold toI mag sgn
    simp only [Option.getD_some]
    rw [qee (by omega)]
    by_cases hz : z < 0
    · rw [if_pos (decide_eq_true hz)]; omega
    · rw [if_neg (by simpa using hz)]; omega
  rw [e] at h
  exact h
theorem q7w (a : Nm) : toI (normS a) = toI a := (q4v a).toI
theorem qd4 {a b : Nm} : sizeS (normS a).2 (normS b).2 = cmpN (mag (normS a)) (mag (normS b)) := by
  rw [q98 (x := mag a) (y := mag b) q5u q5u]
  unfold mag
  rw [q5u, q5u, q0q, q0q]
theorem qhl (a b : Nm) : q5l a b = cmpI (toI a) (toI b) := by
  have hsz := qd4 (a := a) (b := b)
  have hsz2 := qd4 (a := b) (b := a)
  have ra := q4v a
  have rb := q4v b
  rw [← q7w a, ← q7w b]
  unfold q5l
  unfold Rep at ra rb
  rw [← q7w a] at ra
  rw [← q7w b] at rb
  generalize normS a = x at *
  generalize normS b = y at *
  obtain ⟨p, d⟩ := x
  obtain ⟨q, e⟩ := y
  unfold mag at hsz hsz2
  unfold toI mag sgn at *
  dsimp only at *
  rw [hsz, hsz2]
  have r1 := ra.1
  have r2 := rb.1
  generalize val (d.getD []) = m at *
  generalize val (e.getD []) = n at *
  cases p <;> cases q <;> simp at r1 r2 ⊢ <;> (try unfold cmpN) <;> unfold cmpI <;> (repeat' split) <;> omega
theorem mul_eq {a b : Nm} (ha : (lim (mag a)).length ≤ 128) (hb : (lim (mag b)).length ≤ 128) (hp : (lim (mag a * mag b)).length ≤ 128) : (mulS a b).2 = true ∧ Rep (mulS a b).1 (toI a * toI b) := by
  unfold mag at ha hb hp
  unfold mulS
  rw [if_neg (by omega), if_neg (by omega)]
  refine ⟨rfl, ?_⟩
  have h := q4t (a.1 != b.1) (some (digs ((lim (val (a.2.getD []))).length + (lim (val (b.2.getD []))).length + 1) (val (a.2.getD []) * val (b.2.getD []))))
  simp only [Option.getD_some] at h
  have hprod : val (a.2.getD []) * val (b.2.getD []) < 4294967296 ^ ((lim (val (a.2.getD []))).length + (lim (val (b.2.getD []))).length + 1) := by
    generalize val (a.2.getD []) = x
    generalize val (b.2.getD []) = y
    have e1 := lim_le.1 (Nat.le_refl (lim x).length)
    have e2 := lim_le.1 (Nat.le_refl (lim y).length)
    rw [Nat.pow_succ, Nat.pow_add]
    generalize 4294967296 ^ (lim x).length = p at *
    generalize 4294967296 ^ (lim y).length = q at *
    have : x * y ≤ p * q := Nat.mul_le_mul (by omega) (by omega)
    have : 0 < p * q := Nat.mul_pos (by omega) (by omega)
    omega
  rw [q11 hprod] at h
  have e : toI a * toI b = sgn (a.1 != b.1) (val (a.2.getD []) * val (b.2.getD [])) := by
    unfold toI mag sgn
    cases a.1 <;> cases b.1 <;> simp [Int.mul_neg, Int.neg_mul]
  rw [e]
  exact h
def divS (a b : Nm) : Nm × Nm × Bool :=
  if mag b = 0 then ((false, none), (false, none), false) else
  if mag a < mag b then ((false, none), normS a, true) else
  (madeS (a.1 != b.1) (some (lim (mag a / mag b))), madeS a.1 (some (lim (mag a % mag b))), true)
theorem q7t {p : Bool} {l m : List UInt32} (h : val l = val m) : madeS p (some l) = madeS p (some m) := by
  unfold madeS cutS
  simp only [Option.map_some, h]
theorem qgu : Rep (false, none) 0 := ⟨rfl, by simp [q0o]⟩
theorem div_eq {a b : Nm} (hb : toI b ≠ 0) : (divS a b).2.2 = true ∧ Rep (divS a b).1 ((toI a).tdiv (toI b)) ∧ Rep (divS a b).2.1 ((toI a).tmod (toI b)) := by
  have hm : mag b ≠ 0 := fun e => hb (by unfold toI sgn; rw [e]; simp)
  unfold divS
  rw [if_neg hm]
  have tq : (toI a).tdiv (toI b) = sgn (a.1 != b.1) (mag a / mag b) := by
    unfold toI sgn
    have e : ((mag a : Int)).tdiv (mag b) = ((mag a / mag b : Nat) : Int) := by rw [Int.tdiv_eq_ediv_of_nonneg (by omega)]; rfl
    cases a.1 <;> cases b.1 <;> simp [e]
  have tr : (toI a).tmod (toI b) = sgn a.1 (mag a % mag b) := by
    unfold toI sgn
    have e : ((mag a : Int)).tmod (mag b) = ((mag a % mag b : Nat) : Int) := by rw [Int.tmod_eq_emod_of_nonneg (by omega)]; rfl
    cases a.1 <;> cases b.1 <;> simp [e]
  rw [tq, tr]
  by_cases hlt : mag a < mag b
  · rw [if_pos hlt, Nat.div_eq_of_lt hlt, Nat.mod_eq_of_lt hlt]
    refine ⟨rfl, ?_, q4v a⟩
    have : sgn (a.1 != b.1) 0 = 0 := by unfold sgn; split <;> rfl
    rw [this]
    exact qgu
  · rw [if_neg hlt]
    have h1 := q4t (a.1 != b.1) (some (lim (mag a / mag b)))
    have h2 := q4t a.1 (some (lim (mag a % mag b)))
    simp only [Option.getD_some, q0q] at h1 h2
    exact ⟨rfl, h1, h2⟩
end Go.Proofs.YtikkpecdkdgmfaaDoor

/- Numbers of any size: quotients by one limb; the law's own functions. -/
set_option maxRecDepth 100000
set_option maxHeartbeats 2000000
namespace Go.Proofs.YtikkpecdkdgmfaaDoor
open Go Go.Den
abbrev eDiv (r : Nm × Nm × Bool) : AV := .tup [eN r.1, eN r.2.1, .bool r.2.2]
noncomputable def pDiv1 : Pol := .still (p2 cN cN eDiv (fun a b => lot a.2 ∧ lot b.2 ∧ (lim (mag b)).length ≤ 1) divS)
noncomputable abbrev TDiv1 : List (FuncId × Pol) := [(38, pCut), (44, pSize), (19, pNorm), (36, pByOne), (34, pMade)]
noncomputable def pSame3 : Pol := .still (p2 cN cN .bool (fun a b => few a.2 ∧ few b.2) sameS)
theorem okSame3 : PolOK base 12 pSame3 := still2 base_ok [(35, pSame)] ⟨okSame, trivial⟩ fun a b ⟨ha, hb⟩ => by
  refine Evs.of fun n m => ?_
  simp [↓q07, ↓q01, ↓q06, S12, A.ofList, A.fill, A.splice, kSame ha hb]
theorem kSame3 {R : Type} {a b : Nm} (ha : few a.2) (hb : few b.2) {H : Heap} {k : AV → Heap → Option R} : polK pSame3 [eN a, eN b] H k = k (.bool (sameS a b)) H := by
  simp [pSame3, q0h, ha, hb]
end Go.Proofs.YtikkpecdkdgmfaaDoor

/- Numbers of any size: shifts by some bits. -/
set_option maxRecDepth 100000
set_option maxHeartbeats 2000000
namespace Go.Proofs.YtikkpecdkdgmfaaDoor
open Go Go.Den
/-! ### so many bits more -/
theorem or_u32 {P : Program} {t : TypeId} {c : Bool} {H : Heap} {x y s : Nat} (hx : x < 2 ^ s) (h : x + 2 ^ s * y < 4294967296) :
    A.bin P .or t (.int .u32 (x : Int)) (.int .u32 ((2 ^ s * y : Nat) : Int)) c H = some (.int .u32 ((x + 2 ^ s * y : Nat) : Int)) := by
  have e : x ||| 2 ^ s * y = x + 2 ^ s * y := by rw [Nat.or_comm, ← Nat.two_pow_add_eq_or_of_lt hx, Nat.add_comm]
  have key : ∀ p q : Nat, p < 4294967296 → q < 4294967296 → (BitVec.ofInt 32 (p : Int) ||| BitVec.ofInt 32 (q : Int)).toNat = p ||| q := fun p q hp hq => by
    rw [BitVec.toNat_or]
    simp
    rw [Nat.mod_eq_of_lt hp, Nat.mod_eq_of_lt hq]
  simp only [A.bin, decide_true, cond_true, A.binInt, A.bits, Option.map_some]
  rw [show IntKind.bits .u32 = 32 from rfl, key _ _ (by omega) (by omega), e, q7x (by omega) (by omega)]
theorem q8y {s : Nat} (h : s ≤ 31) : 2 ^ s * 2 ^ (32 - s) = 4294967296 := by
  rw [← Nat.pow_add, Nat.add_sub_cancel' (by omega : s ≤ 32)]
theorem qdz {s : Nat} (h : s ≤ 31) : 2 ^ s ≤ 2147483648 := by
  have : 2 ^ s ≤ 2 ^ 31 := Nat.pow_le_pow_right (by omega) h
  exact this
theorem shift_low {p p' x : Nat} (h : p * p' = 4294967296) : ∃ z, (p * x) % 4294967296 = p * z ∧ ∀ r, r < p → r + p * z < 4294967296 := by
  refine ⟨x % p', by rw [← h, Nat.mul_mod_mul_left], fun r hr => ?_⟩
  have hp : 0 < p' := by
    rcases Nat.eq_zero_or_pos p' with h0 | h0
    · rw [h0] at h; omega
    · exact h0
  have h2 : x % p' < p' := Nat.mod_lt _ hp
  have h3 : p * (x % p' + 1) ≤ p * p' := Nat.mul_le_mul_left _ h2
  rw [h, Nat.mul_add] at h3
  omega
theorem shift_alg {v V1 V2 od al T w p z hi B : Nat} (hset1 : V1 + w * od = v + w * (od + p * z)) (hset2 : V2 + w * B * 0 = V1 + w * B * hi) (hdm : p * z + B * hi = p * al) (hv : v = p * T) : V2 = p * (T + w * al) := by
  have e2 : V1 = v + w * (p * z) := by
    have : w * (od + p * z) = w * od + w * (p * z) := Nat.mul_add _ _ _
    omega
  have e1 : V2 = V1 + w * B * hi := by rw [Nat.mul_zero] at hset2; exact hset2
  rw [e1, e2, hv, Nat.mul_assoc w B hi, Nat.add_assoc, ← Nat.mul_add w, hdm, Nat.mul_add p, Nat.mul_left_comm w p al]
def q0s (l : List UInt32) (s : Nat) : List UInt32 := digs (l.length + 1) (2 ^ s * val l)
theorem qeb {pol : FuncId → Pol} {a : Option (List UInt32)} {s id : Nat} (hs : s ≤ 31) (hf : (a.getD []).length ≤ 1000000) : ∀ (k i : Nat) (o : List UInt32) (H : Heap), k + i = (a.getD []).length → o.length = (a.getD []).length + 1 → val o = 2 ^ s * val ((a.getD []).take i) →
    H[id]? = some (.row 0 1 64 (o.map eu)) →
    ∃ H', LDoes (L64_0 pol) ⟨[.int .i64 (s : Nat), .sl id 0 0 ((a.getD []).length + 1) ((a.getD []).length + 1), eD a, .int .i64 ((a.getD []).length : Nat), .int .i64 (i : Nat)], []⟩ H 0 ⟨[.sl id 0 0 ((a.getD []).length + 1) ((a.getD []).length + 1)], []⟩ H' ∧
      H'[id]? = some (.row 0 1 64 ((q0s (a.getD []) s).map eu)) ∧ H'.length = H.length ∧ ∀ j, j ≠ id → H'[j]? = H[j]? := by
  intro k
  induction k with
  | zero =>
    intro i o H hk ho hv hH
    have : i = (a.getD []).length := by omega
    subst this
    rw [List.take_length] at hv
    have e : o = q0s (a.getD []) s := q6o ho hv
    rw [e] at hH
    refine ⟨H, LDoes.step (Evs.of fun n m => ?_), hH, rfl, fun _ _ => rfl⟩
    simp [↓q00, ↓q01, qa6]
  | succ k ih =>
    intro i o H hk ho hv hH
    have hlt : i < (a.getD []).length := by omega
    have hx := q1w (d := a) (H := H) (k := .i64) (i := i) (by omega)
    have hal := q14 (a.getD [])[i]
    have hps : 0 < 2 ^ s := Nat.pow_pos (by omega)
    have hp31 := qdz hs
    -- what stood there: the carry
    have hcar : val o < 4294967296 ^ i * 2 ^ s := by
      rw [hv, Nat.mul_comm]
      exact Nat.mul_lt_mul_of_pos_right (q15 _ _) hps
    have hio : i < o.length := by omega
    have hio2 : i + 1 < o.length := by omega
    have hdr := q1q (l := o) (n := i) (by omega)
    have hd1 : o.drop i = o[i] :: o[i + 1] :: o.drop (i + 2) := by rw [List.drop_eq_getElem_cons hio, List.drop_eq_getElem_cons hio2]
    have hsmall : val (o.drop i) < 2 ^ s := by
      have : 4294967296 ^ i * val (o.drop i) < 4294967296 ^ i * 2 ^ s := by omega
      exact Nat.lt_of_mul_lt_mul_left this
    have hoi : (o[i]).toNat < 2 ^ s := by rw [hd1, val] at hsmall; omega
    have hoi2 : (o[i + 1]).toNat = 0 := by
      rw [hd1, val, val] at hsmall
      omega
    have hy : 2 ^ s * ((a.getD [])[i]).toNat < 9223372036854775808 := by
      have : 2 ^ s * ((a.getD [])[i]).toNat ≤ 2147483648 * 4294967295 := Nat.mul_le_mul hp31 (by omega)
      omega
    -- the low bits of what is laid there
    obtain ⟨z, hz, hzf⟩ := shift_low (x := ((a.getD [])[i]).toNat) (q8y hs)
    have hfit := hzf _ hoi
    have hset1 := q77 hio (UInt32.ofNat ((o[i]).toNat + 2 ^ s * z))
    have hset2 := q77 (l := o.set i (UInt32.ofNat ((o[i]).toNat + 2 ^ s * z))) (i := i + 1) (by rw [List.length_set]; exact hio2) (UInt32.ofNat (2 ^ s * ((a.getD [])[i]).toNat / 4294967296))
    have hne : (o.set i (UInt32.ofNat ((o[i]).toNat + 2 ^ s * z)))[i + 1]'(by rw [List.length_set]; exact hio2) = o[i + 1] := List.getElem_set_ne (by omega) _
    rw [hne, hoi2, q0v, Nat.mod_eq_of_lt (by omega)] at hset2
    rw [q0v, Nat.mod_eq_of_lt hfit] at hset1
    have hvn : val ((o.set i (UInt32.ofNat ((o[i]).toNat + 2 ^ s * z))).set (i + 1) (UInt32.ofNat (2 ^ s * ((a.getD [])[i]).toNat / 4294967296))) = 2 ^ s * val ((a.getD []).take (i + 1)) := by
      rw [q0z hlt]
      have hdm := Nat.mod_add_div (2 ^ s * ((a.getD [])[i]).toNat) 4294967296
      rw [hz] at hdm
      rw [Nat.pow_succ] at hset2
      exact shift_alg hset1 hset2 hdm hv
    obtain ⟨r1, r2, r3⟩ := lrow (k := .i64) (n := (a.getD []).length + 1) (j := i) (i := (i : Int)) hH ho.symm hio rfl
    have hH1 := q1o (x := .row 0 1 64 ((o.set i (UInt32.ofNat ((o[i]).toNat + 2 ^ s * z))).map eu)) hH
    obtain ⟨q1, q2, q3⟩ := lrow (k := .i64) (n := (a.getD []).length + 1) (j := i + 1) (i := (i : Int) + 1) hH1 (by rw [List.length_set, ho]) (by rw [List.length_set]; omega) (by omega)
    obtain ⟨H', hL, hr, hlen, hoth⟩ := ih (i + 1) _ _ (by omega) (by rw [List.length_set, List.length_set, ho]) hvn (q1o hH1)
    refine ⟨H', LDoes.step (Evs.withL hL (Evs.of fun n m _ h3 => ?_)), hr, by rw [hlen]; simp, fun j hj => by rw [hoth j hj, get_set_ne (Ne.symm hj), get_set_ne (Ne.symm hj)]⟩
    have hsh : ∀ (t : TypeId) (H : Heap), A.bin base.P .shl t (.int .u64 (((a.getD [])[i]).toNat : Int)) (.int .i64 (s : Int)) false H = some (.int .u64 ((2 ^ s * ((a.getD [])[i]).toNat : Nat) : Int)) := fun t H => q74 (by omega) (by omega)
    have hw : IntKind.wrap .u32 ((2 ^ s * ((a.getD [])[i]).toNat : Nat) : Int) = ((2 ^ s * z : Nat) : Int) := by rw [q0n, q0v, hz]
    have hor := or_u32 (P := base.P) (t := 64) (c := false) (H := H) hoi hfit
    have hlo : (((o[i]).toNat + 2 ^ s * z : Nat) : Int) = ((UInt32.ofNat ((o[i]).toNat + 2 ^ s * z)).toNat : Nat) := by rw [q0v, Nat.mod_eq_of_lt hfit]
    rw [hlo] at hor
    have hst := r3 (UInt32.ofNat ((o[i]).toNat + 2 ^ s * z))
    have hsr : ∀ (H : Heap), A.bin base.P .shr 63 (.int .u64 ((2 ^ s * ((a.getD [])[i]).toNat : Nat) : Int)) (.int .u64 32) true H = some (.int .u64 ((2 ^ s * ((a.getD [])[i]).toNat / 4294967296 : Nat) : Int)) := fun H => q2r (s := 32) (by omega)
    have hhi : IntKind.wrap .u32 ((2 ^ s * ((a.getD [])[i]).toNat / 4294967296 : Nat) : Int) = (UInt32.ofNat (2 ^ s * ((a.getD [])[i]).toNat / 4294967296)).toNat := q0n _
    have hst2 := q3 (UInt32.ofNat (2 ^ s * ((a.getD [])[i]).toNat / 4294967296))
    generalize UInt32.ofNat (2 ^ s * ((a.getD [])[i]).toNat / 4294967296) = dhi at *
    generalize ((2 ^ s * ((a.getD [])[i]).toNat / 4294967296 : Nat) : Int) = hii at *
    generalize ((2 ^ s * ((a.getD [])[i]).toNat : Nat) : Int) = yy at *
    generalize UInt32.ofNat ((o[i]).toNat + 2 ^ s * z) = dlo at *
    generalize ((2 ^ s * z : Nat) : Int) = zz at *
    simp only [Int.natCast_add, Int.natCast_one, List.map_set, List.set_set] at h3 hst hst2 q1 q2
    simp (disch := omega) [↓q00, ↓q01, ↓q0e, qa6, hlt, hx, q0x, q0p, hsh, r1, r2, hw, hor, hst, q08, hsr, hhi, q1, hst2, h3]
end Go.Proofs.YtikkpecdkdgmfaaDoor

/- Numbers of any size: what a step of a long division takes away and gives back. -/
set_option maxRecDepth 100000
set_option maxHeartbeats 2000000
namespace Go.Proofs.YtikkpecdkdgmfaaDoor
open Go Go.Den
theorem and_low {P : Program} {t : TypeId} {c : Bool} {H : Heap} {x : Nat} (h : x < 18446744073709551616) : A.bin P .and t (.int .u64 (x : Int)) (.int .u64 4294967295) c H = some (.int .u64 ((x % 4294967296 : Nat) : Int)) := by
  have key : (BitVec.ofInt 64 (x : Int) &&& BitVec.ofInt 64 4294967295).toNat = x % 4294967296 := by
    rw [BitVec.toNat_and]
    have e : (BitVec.ofInt 64 4294967295).toNat = 2 ^ 32 - 1 := by decide
    rw [e, Nat.and_two_pow_sub_one_eq_mod]
    simp
  simp only [A.bin, decide_true, cond_true, A.binInt, A.bits, Option.map_some]
  rw [show IntKind.bits .u64 = 64 from rfl, key, q0g (by omega) (by omega)]
theorem qd8 {l : List UInt32} {i : Nat} (h : i < l.length) : (l.drop i).headD 0 = l[i] := by rw [List.drop_eq_getElem_cons h]; rfl
theorem qae {l : List UInt32} {i : Nat} (h : ¬ i < l.length) : (l.drop i).headD 0 = 0 := by rw [List.drop_eq_nil_of_le (by omega)]; rfl
theorem mid_get {pre rs post : List UInt32} {r : UInt32} {j : Nat} (h : pre.length = j) (hj : j < (pre ++ r :: rs ++ post).length) : (pre ++ r :: rs ++ post)[j] = r := by
  subst h
  simp
theorem qfd {pre rs post : List UInt32} {r d : UInt32} {j : Nat} (h : pre.length = j) : (pre ++ r :: rs ++ post).set j d = (pre ++ [d]) ++ rs ++ post := by
  subst h
  simp
theorem take_loop {pol : FuncId → Pol} {d : Option (List UInt32)} {id N kk q n : Nat} {post : List UInt32} (hn : (d.getD []).length = n) (hN : N ≤ 2000000) (hq : q ≤ 4294967296) : ∀ (seg pre : List UInt32) (i c b : Nat) (H : Heap), pre.length = kk + i → i + seg.length = n + 1 → N = (pre ++ seg ++ post).length → c < 4294967296 → b ≤ 1 →
    H[id]? = some (.row 0 1 64 ((pre ++ seg ++ post).map eu)) →
    LDoes (L66_0 pol) ⟨[.sl id 0 0 N N, eD d, .int .i64 (kk : Nat), .int .u64 (q : Nat), .int .u64 (c : Nat), .int .u64 (b : Nat), .int .i64 ((n : Int) + 1), .int .i64 (i : Nat)], []⟩ H 0
      ⟨[.int .u64 ((takeS q seg ((d.getD []).drop i) c b).2 : Nat)], []⟩ (H.set id (.row 0 1 64 ((pre ++ (takeS q seg ((d.getD []).drop i) c b).1 ++ post).map eu))) := by
  intro seg
  induction seg with
  | nil =>
    intro pre i c b H hp hi hl hc hb hH
    have : i = n + 1 := by simpa using hi
    subst this
    rw [show (takeS q [] ((d.getD []).drop (n + 1)) c b) = ([], b) from rfl, qh1 hH]
    refine LDoes.step (Evs.of fun n m => ?_)
    simp [↓q00, ↓q01, q3f]
  | cons r rs ih =>
    intro pre i c b H hp hi hl hc hb hH
    simp only [List.length_cons] at hi
    have hlen : pre.length + (rs.length + 1) + post.length = N := by rw [hl]; simp; omega
    have hj : kk + i < (pre ++ r :: rs ++ post).length := by rw [← hl]; omega
    obtain ⟨r1, r2, r3⟩ := lrow (k := .i64) (n := N) (j := kk + i) (i := (kk : Int) + (i : Int)) hH hl hj (by omega)
    rw [mid_get hp hj] at r2
    have hr := q14 r
    have hxl := q14 (((d.getD []).drop i).headD 0)
    have ht := take_t hq hc hxl
    have htail : ((d.getD []).drop i).tail = (d.getD []).drop (i + 1) := by rw [List.tail_drop]
    have hm := Nat.mod_lt (c + q * (((d.getD []).drop i).headD 0).toNat) (show 0 < 4294967296 by omega)
    have hcar : (c + q * (((d.getD []).drop i).headD 0).toNat) / 4294967296 < 4294967296 := by omega
    have hcastT : (c : Int) + (q : Int) * ((((d.getD []).drop i).headD 0).toNat : Int) = ((c + q * (((d.getD []).drop i).headD 0).toNat : Nat) : Int) := by simp only [Int.natCast_add, Int.natCast_mul]
    have hand : ∀ (t : TypeId) (H : Heap), A.bin base.P .and t (.int .u64 ((c : Int) + (q : Int) * ((((d.getD []).drop i).headD 0).toNat : Int))) (.int .u64 4294967295) true H = some (.int .u64 (((c + q * (((d.getD []).drop i).headD 0).toNat) % 4294967296 : Nat) : Int)) := fun t H => by rw [hcastT]; exact and_low ht
    have hshr : ∀ (t : TypeId) (H : Heap), A.bin base.P .shr t (.int .u64 ((c : Int) + (q : Int) * ((((d.getD []).drop i).headD 0).toNat : Int))) (.int .u64 32) true H = some (.int .u64 (((c + q * (((d.getD []).drop i).headD 0).toNat) / 4294967296 : Nat) : Int)) := fun t H => by rw [hcastT]; exact q2r (s := 32) (by omega)
    have hx1 : i < n → ∀ H, A.idx 1 (eD d) (.int .i64 (i : Int)) H = some (.rop [eu (((d.getD []).drop i).headD 0)]) := fun h H => by
      rw [qd8 (by omega)]
      exact q1w (by omega)
    have hx0 : ¬ i < n → ((d.getD []).drop i).headD 0 = 0 := fun h => qae (by omega)
    have hp0 : (0 : Int) ≤ (q : Int) * ((((d.getD []).drop i).headD 0).toNat : Int) := by rw [← Int.natCast_mul]; omega
    have hp1 : (c : Int) + (q : Int) * ((((d.getD []).drop i).headD 0).toNat : Int) < 18446744073709551616 := by rw [← Int.natCast_mul]; omega
    have hin1 : (i : Int) < (n : Int) + 1 := by omega
    unfold takeS
    rw [htail]
    have ih' := ih (pre := pre ++ [if r.toNat < (c + q * (((d.getD []).drop i).headD 0).toNat) % 4294967296 + b then UInt32.ofNat (r.toNat + 4294967296 - ((c + q * (((d.getD []).drop i).headD 0).toNat) % 4294967296 + b)) else UInt32.ofNat (r.toNat - ((c + q * (((d.getD []).drop i).headD 0).toNat) % 4294967296 + b))]) (i := i + 1)
      (c := (c + q * (((d.getD []).drop i).headD 0).toNat) / 4294967296) (b := if r.toNat < (c + q * (((d.getD []).drop i).headD 0).toNat) % 4294967296 + b then 1 else 0)
      (H.set id (.row 0 1 64 (((pre ++ [if r.toNat < (c + q * (((d.getD []).drop i).headD 0).toNat) % 4294967296 + b then UInt32.ofNat (r.toNat + 4294967296 - ((c + q * (((d.getD []).drop i).headD 0).toNat) % 4294967296 + b)) else UInt32.ofNat (r.toNat - ((c + q * (((d.getD []).drop i).headD 0).toNat) % 4294967296 + b))]) ++ rs ++ post).map eu)))
      (by simp; omega) (by omega) (by rw [← hlen]; simp; omega) hcar (by split <;> omega) (q1o hH)
    rw [List.set_set] at ih'
    have hcn : (d.getD []).length = n := hn
    generalize hX : ((d.getD []).drop i).headD 0 = X at *
    generalize hY : (c + q * X.toNat) % 4294967296 = y at *
    generalize hC : (c + q * X.toNat) / 4294967296 = c' at *
    by_cases hlt : r.toNat < y + b
    · rw [if_pos hlt] at ih' ⊢
      rw [if_pos hlt] at ih'
      have hlt' : (r.toNat : Int) < (y : Int) + (b : Int) := by omega
      have hst := r3 (UInt32.ofNat (r.toNat + 4294967296 - (y + b)))
      rw [qfd hp] at hst
      have hw : IntKind.wrap .u32 ((r.toNat : Int) + 4294967296 - ((y : Int) + (b : Int))) = ((UInt32.ofNat (r.toNat + 4294967296 - (y + b))).toNat : Int) := by
        rw [show ((r.toNat : Int) + 4294967296 - ((y : Int) + (b : Int))) = ((r.toNat + 4294967296 - (y + b) : Nat) : Int) by omega]
        exact q0n _
      generalize UInt32.ofNat (r.toNat + 4294967296 - (y + b)) = dg at *
      rw [List.append_assoc pre [dg]] at ih'
      generalize takeS q rs ((d.getD []).drop (i + 1)) c' 1 = res at *
      refine LDoes.step (Evs.withL ih' (Evs.of fun n' m _ h3 => ?_))
      have e1 : ((1 : Nat) : Int) = 1 := rfl
      simp only [Int.natCast_add, e1, List.map_append, List.map_cons, List.append_assoc, List.cons_append, List.nil_append] at h3 hst
      by_cases hin : i < n
      · have hx := hx1 hin
        clear ih ih' r3 hx1 hx0 hH
        simp (disch := omega) [↓q00, ↓q03, ↓q01, ↓q0e, ↓q02, q3f, hin1, hcn, hin, hx, q0x, q0p, q0g, q08, r1, r2, hand, hshr, hlt', hw, hst, h3]
      · have hX0 := hx0 hin
        subst hX0
        clear ih ih' r3 hx1 hx0 hH
        have ez : (((0 : UInt32).toNat : Nat) : Int) = 0 := rfl
        rw [ez, Int.mul_zero, Int.add_zero] at hand hshr
        simp (disch := omega) [↓q00, ↓q03, ↓q01, ↓q0e, ↓q02, q3f, hin1, hcn, hin, q0x, q0p, q0g, q08, r1, r2, hand, hshr, hlt', hw, hst, h3]
    · rw [if_neg hlt] at ih' ⊢
      rw [if_neg hlt] at ih'
      have hlt' : ¬ (r.toNat : Int) < (y : Int) + (b : Int) := by omega
      have hst := r3 (UInt32.ofNat (r.toNat - (y + b)))
      rw [qfd hp] at hst
      have hw : IntKind.wrap .u32 ((r.toNat : Int) - ((y : Int) + (b : Int))) = ((UInt32.ofNat (r.toNat - (y + b))).toNat : Int) := by
        rw [show ((r.toNat : Int) - ((y : Int) + (b : Int))) = ((r.toNat - (y + b) : Nat) : Int) by omega]
        exact q0n _
      generalize UInt32.ofNat (r.toNat - (y + b)) = dg at *
      rw [List.append_assoc pre [dg]] at ih'
      generalize takeS q rs ((d.getD []).drop (i + 1)) c' 0 = res at *
      refine LDoes.step (Evs.withL ih' (Evs.of fun n' m _ h3 => ?_))
      have e1 : ((0 : Nat) : Int) = 0 := rfl
      have e2 : ((1 : Nat) : Int) = 1 := rfl
      simp only [Int.natCast_add, e1, e2, List.map_append, List.map_cons, List.append_assoc, List.cons_append, List.nil_append] at h3 hst
      by_cases hin : i < n
      · have hx := hx1 hin
        clear ih ih' r3 hx1 hx0 hH
        simp (disch := omega) [↓q00, ↓q03, ↓q01, ↓q0e, ↓q02, q3f, hin1, hcn, hin, hx, q0x, q0p, q0g, q08, r1, r2, hand, hshr, hlt', hw, hst, h3]
      · have hX0 := hx0 hin
        subst hX0
        clear ih ih' r3 hx1 hx0 hH
        have ez : (((0 : UInt32).toNat : Nat) : Int) = 0 := rfl
        rw [ez, Int.mul_zero, Int.add_zero] at hand hshr
        simp (disch := omega) [↓q00, ↓q03, ↓q01, ↓q0e, ↓q02, q3f, hin1, hcn, hin, q0x, q0p, q0g, q08, r1, r2, hand, hshr, hlt', hw, hst, h3]
theorem give_loop {pol : FuncId → Pol} {d : Option (List UInt32)} {id N kk n : Nat} {post : List UInt32} (hn : (d.getD []).length = n) (hN : N ≤ 2000000) : ∀ (seg pre : List UInt32) (i c : Nat) (H : Heap), pre.length = kk + i → i + seg.length = n + 1 → N = (pre ++ seg ++ post).length → c < 4294967296 →
    H[id]? = some (.row 0 1 64 ((pre ++ seg ++ post).map eu)) →
    LDoes (L67_0 pol) ⟨[.sl id 0 0 N N, eD d, .int .i64 (kk : Nat), .int .u64 (c : Nat), .int .i64 ((n : Int) + 1), .int .i64 (i : Nat)], []⟩ H 0
      ⟨[], []⟩ (H.set id (.row 0 1 64 ((pre ++ giveS seg ((d.getD []).drop i) c ++ post).map eu))) := by
  intro seg
  induction seg with
  | nil =>
    intro pre i c H hp hi hl hc hH
    have : i = n + 1 := by simpa using hi
    subst this
    rw [show (giveS [] ((d.getD []).drop (n + 1)) c) = [] from rfl, qh1 hH]
    refine LDoes.step (Evs.of fun n m => ?_)
    simp [↓q00, ↓q01, q6j]
  | cons r rs ih =>
    intro pre i c H hp hi hl hc hH
    simp only [List.length_cons] at hi
    have hlen : pre.length + (rs.length + 1) + post.length = N := by rw [hl]; simp; omega
    have hj : kk + i < (pre ++ r :: rs ++ post).length := by rw [← hl]; omega
    obtain ⟨r1, r2, r3⟩ := lrow (k := .i64) (n := N) (j := kk + i) (i := (kk : Int) + (i : Int)) hH hl hj (by omega)
    rw [mid_get hp hj] at r2
    have hr := q14 r
    have hxl := q14 (((d.getD []).drop i).headD 0)
    have htail : ((d.getD []).drop i).tail = (d.getD []).drop (i + 1) := by rw [List.tail_drop]
    have hx1 : i < n → ∀ H, A.idx 1 (eD d) (.int .i64 (i : Int)) H = some (.rop [eu (((d.getD []).drop i).headD 0)]) := fun h H => by
      rw [qd8 (by omega)]
      exact q1w (by omega)
    have hx0 : ¬ i < n → ((d.getD []).drop i).headD 0 = 0 := fun h => qae (by omega)
    have hin1 : (i : Int) < (n : Int) + 1 := by omega
    unfold giveS
    rw [htail]
    have ih' := ih (pre := pre ++ [UInt32.ofNat (c + r.toNat + (((d.getD []).drop i).headD 0).toNat)]) (i := i + 1) (c := (c + r.toNat + (((d.getD []).drop i).headD 0).toNat) / 4294967296)
      (H.set id (.row 0 1 64 (((pre ++ [UInt32.ofNat (c + r.toNat + (((d.getD []).drop i).headD 0).toNat)]) ++ rs ++ post).map eu)))
      (by simp; omega) (by omega) (by rw [← hlen]; simp; omega) (by omega) (q1o hH)
    rw [List.set_set] at ih'
    have hcn : (d.getD []).length = n := hn
    generalize hX : ((d.getD []).drop i).headD 0 = X at *
    have hst := r3 (UInt32.ofNat (c + r.toNat + X.toNat))
    rw [qfd hp] at hst
    have hcast : (c : Int) + (r.toNat : Int) + (X.toNat : Int) = ((c + r.toNat + X.toNat : Nat) : Int) := by simp only [Int.natCast_add]
    have hw : IntKind.wrap .u32 ((c : Int) + (r.toNat : Int) + (X.toNat : Int)) = ((UInt32.ofNat (c + r.toNat + X.toNat)).toNat : Int) := by rw [hcast]; exact q0n _
    have hshr : ∀ (t : TypeId) (H : Heap), A.bin base.P .shr t (.int .u64 ((c : Int) + (r.toNat : Int) + (X.toNat : Int))) (.int .u64 32) true H = some (.int .u64 (((c + r.toNat + X.toNat) / 4294967296 : Nat) : Int)) := fun t H => by rw [hcast]; exact q2r (s := 32) (by omega)
    generalize (c + r.toNat + X.toNat) / 4294967296 = c' at *
    generalize hdg : UInt32.ofNat (c + r.toNat + X.toNat) = dg at *
    rw [List.append_assoc pre [dg]] at ih'
    generalize giveS rs ((d.getD []).drop (i + 1)) c' = res at *
    refine LDoes.step (Evs.withL ih' (Evs.of fun n' m _ h3 => ?_))
    have e2 : ((1 : Nat) : Int) = 1 := rfl
    simp only [Int.natCast_add, e2, List.map_append, List.map_cons, List.append_assoc, List.cons_append, List.nil_append] at h3 hst
    by_cases hin : i < n
    · have hx := hx1 hin
      clear ih ih' r3 hx1 hx0 hH
      simp (disch := omega) [↓q00, ↓q03, ↓q01, ↓q0e, ↓q02, q6j, hin1, hcn, hin, hx, q0x, q0p, q0g, q08, r1, r2, hshr, hw, hst, h3]
    · have hX0 := hx0 hin
      subst hX0
      clear ih ih' r3 hx1 hx0 hH
      have ez : (((0 : UInt32).toNat : Nat) : Int) = 0 := rfl
      rw [ez, Int.add_zero] at hw hshr
      simp (disch := omega) [↓q00, ↓q03, ↓q01, ↓q0e, ↓q02, q6j, hin1, hcn, hin, q0x, q0p, q0g, q08, r1, r2, hshr, hw, hst, h3]
structure TakeIn where
  id : Nat
  u : List UInt32
  d : Option (List UInt32)
  k : Nat
  q : Nat
def segS (x : TakeIn) : List UInt32 := (x.u.drop x.k).take ((x.d.getD []).length + 1)
def putS (x : TakeIn) (r : List UInt32) : List UInt32 := x.u.take x.k ++ r ++ x.u.drop (x.k + (x.d.getD []).length + 1)
theorem qe7 (x : TakeIn) : x.u = x.u.take x.k ++ segS x ++ x.u.drop (x.k + (x.d.getD []).length + 1) := by
  unfold segS
  conv => lhs; rw [← List.take_append_drop x.k x.u, ← List.take_append_drop ((x.d.getD []).length + 1) (x.u.drop x.k), List.drop_drop, ← List.append_assoc]
  rw [Nat.add_assoc]
def atRow (x : TakeIn) (H : Heap) : Prop := H[x.id]? = some (.row 0 1 64 (x.u.map eu)) ∧ x.u.length ≤ 2000000 ∧ x.k + (x.d.getD []).length + 1 ≤ x.u.length
def qbh (x : TakeIn) : List AV := [.sl x.id 0 0 x.u.length x.u.length, eD x.d, .int .i64 (x.k : Nat), .int .u64 (x.q : Nat)]
def qbg (x : TakeIn) : List AV := [.sl x.id 0 0 x.u.length x.u.length, eD x.d, .int .i64 (x.k : Nat)]
def q95 (x : TakeIn) (H : Heap) : AV × Heap := (.bool (decide ((takeS x.q (segS x) (x.d.getD []) 0 0).2 = 1)), H.set x.id (.row 0 1 64 ((putS x (takeS x.q (segS x) (x.d.getD []) 0 0).1).map eu)))
def q94 (x : TakeIn) (H : Heap) : AV × Heap := (.tup [], H.set x.id (.row 0 1 64 ((putS x (giveS (segS x) (x.d.getD []) 0)).map eu)))
noncomputable def pTake : Pol := .prim (hp qbh (fun x H => atRow x H ∧ x.q ≤ 4294967296) q95)
noncomputable def pGive : Pol := .prim (hp qbg atRow q94)
theorem qhy {a b : List UInt32} (h : a.map eu = b.map eu) : a = b := qfc (f := eu) (fun _ _ h => cU32.inj _ _ h) h
theorem qgx {H : Heap} {i j : Nat} {a b : List UInt32} (e : i = j) (h1 : H[i]? = some (.row 0 1 64 (a.map eu))) (h2 : H[j]? = some (.row 0 1 64 (b.map eu))) : a = b := by
  subst e
  rw [h1] at h2
  simp only [Option.some.injEq, HObj.row.injEq, true_and] at h2
  exact qhy h2
theorem qjc {a b : Option (List UInt32)} (h : eD a = eD b) : a = b := cD.inj _ _ h
theorem kTake {R : Type} {x : TakeIn} {H : Heap} (h : atRow x H) (hq : x.q ≤ 4294967296) {k : AV → Heap → Option R} : polK pTake [.sl x.id 0 0 x.u.length x.u.length, eD x.d, .int .i64 (x.k : Nat), .int .u64 (x.q : Nat)] H k = k (q95 x H).1 (q95 x H).2 :=
  qfj (enc := qbh) (fun x y H e hx hy => by
    obtain ⟨xi, xu, xd, xk, xq⟩ := x
    obtain ⟨yi, yu, yd, yk, yq⟩ := y
    simp only [qbh, List.cons.injEq, AV.sl.injEq, AV.int.injEq, true_and, and_true] at e
    obtain ⟨⟨e1, _⟩, e2, e3, e4⟩ := e
    have e5 : xu = yu := qgx e1 hx.1.1 hy.1.1
    have e6 := qjc e2
    have e7 : xk = yk := by omega
    have e8 : xq = yq := by omega
    subst e1 e5 e6 e7 e8
    rfl) ⟨h, hq⟩
theorem kGive {R : Type} {x : TakeIn} {H : Heap} (h : atRow x H) {k : AV → Heap → Option R} : polK pGive [.sl x.id 0 0 x.u.length x.u.length, eD x.d, .int .i64 (x.k : Nat)] H k = k (q94 x H).1 (q94 x H).2 :=
  qfj (enc := qbg) (fun x y H e hx hy => by
    obtain ⟨xi, xu, xd, xk, xq⟩ := x
    obtain ⟨yi, yu, yd, yk, yq⟩ := y
    simp only [qbg, List.cons.injEq, AV.sl.injEq, AV.int.injEq, true_and, and_true] at e
    obtain ⟨⟨e1, _⟩, e2, e3⟩ := e
    have e5 : xu = yu := qgx e1 hx.1 hy.1
    have e6 := qjc e2
    have e7 : xk = yk := by omega
    subst e1 e5 e6 e7
    rfl) h
theorem okTake : PolOK base 66 pTake := qf4 base_ok [] trivial fun x H ⟨⟨hH, hN, hk⟩, hq⟩ => by
  have hs := qe7 x
  have hlp : (x.u.take x.k).length = x.k + 0 := by rw [List.length_take]; omega
  have hls : 0 + (segS x).length = (x.d.getD []).length + 1 := by unfold segS; rw [List.length_take, List.length_drop]; omega
  have hL := take_loop (pol := polT []) (d := x.d) (id := x.id) (kk := x.k) (q := x.q) (post := x.u.drop (x.k + (x.d.getD []).length + 1)) rfl hN hq (segS x) (x.u.take x.k) 0 0 0 H hlp hls (by rw [← hs]) (by omega) (by omega) (by rw [← hs]; exact hH)
  rw [List.drop_zero] at hL
  refine Evs.withL hL (Evs.of fun n m h1 h2 => ?_)
  have e0 : ((0 : Nat) : Int) = 0 := rfl
  simp only [e0] at h1
  have hlen := hk
  have hd : (x.d.getD []).length ≤ 2000000 := by omega
  unfold qbh q95 putS
  generalize takeS x.q (segS x) (x.d.getD []) 0 0 = res at *
  simp (disch := omega) [↓q03, ↓q01, ↓q02, S66, q08, h1]
  omega
theorem okGive : PolOK base 67 pGive := qf4 base_ok [] trivial fun x H ⟨hH, hN, hk⟩ => by
  have hs := qe7 x
  have hlp : (x.u.take x.k).length = x.k + 0 := by rw [List.length_take]; omega
  have hls : 0 + (segS x).length = (x.d.getD []).length + 1 := by unfold segS; rw [List.length_take, List.length_drop]; omega
  have hL := give_loop (pol := polT []) (d := x.d) (id := x.id) (kk := x.k) (post := x.u.drop (x.k + (x.d.getD []).length + 1)) rfl hN (segS x) (x.u.take x.k) 0 0 H hlp hls (by rw [← hs]) (by omega) (by rw [← hs]; exact hH)
  rw [List.drop_zero] at hL
  refine Evs.withL hL (Evs.of fun n m h1 h2 => ?_)
  have e0 : ((0 : Nat) : Int) = 0 := rfl
  simp only [e0] at h1
  have hd : (x.d.getD []).length ≤ 2000000 := by omega
  unfold qbg q94 putS
  generalize giveS (segS x) (x.d.getD []) 0 = res at *
  simp (disch := omega) [↓q01, ↓q02, S67, q08, h1]
end Go.Proofs.YtikkpecdkdgmfaaDoor

/- Numbers of any size: shifts as entries; a digit of a quotient is guessed. -/
set_option maxRecDepth 100000
set_option maxHeartbeats 2000000
namespace Go.Proofs.YtikkpecdkdgmfaaDoor
open Go Go.Den
/-! ### so many bits more, as an entry -/
def q7r (x : Option (List UInt32) × Nat) : List AV := [eD x.1, .int .i64 (x.2 : Nat)]
def qgv (x : Option (List UInt32) × Nat) (H : Heap) : AV × Heap := (.sl H.length 0 0 ((x.1.getD []).length + 1) ((x.1.getD []).length + 1), H ++ [.row 0 1 64 ((q0s (x.1.getD []) x.2).map eu)])
noncomputable def q5z : Pol := .prim (hp q7r (fun x _ => few x.1 ∧ x.2 ≤ 31) qgv)
theorem qgb {R : Type} {d : Option (List UInt32)} {s : Nat} {H : Heap} (hd : few d) (hs : s ≤ 31) {k : AV → Heap → Option R} : polK q5z [eD d, .int .i64 (s : Nat)] H k = k (.sl H.length 0 0 ((d.getD []).length + 1) ((d.getD []).length + 1)) (H ++ [.row 0 1 64 ((q0s (d.getD []) s).map eu)]) :=
  qfj (enc := q7r) (x := (d, s)) (fun x y H e hx hy => by
    obtain ⟨xd, xs⟩ := x
    obtain ⟨yd, ys⟩ := y
    simp only [q7r, List.cons.injEq, AV.int.injEq, true_and, and_true] at e
    have e1 := qjc e.1
    have e2 : xs = ys := by omega
    subst e1 e2
    rfl) ⟨hd, hs⟩
theorem okShifted : PolOK base 64 q5z := qf4 base_ok [] trivial fun x H ⟨hd, hs⟩ => by
  obtain ⟨d, s⟩ := x
  unfold few at hd
  dsimp only at hd hs
  have hmk := q3y (H := H) (sz := 1) (ty := 64) (bytes := 4) (z := .int .u32 0) (l := (((d.getD []).length + 1 : Nat) : Int)) (by omega) (by omega) (by omega)
  simp only [Int.toNat_natCast] at hmk
  have hz : List.replicate ((d.getD []).length + 1) (AV.int .u32 0) = (List.replicate ((d.getD []).length + 1) (0 : UInt32)).map eu := by simp
  rw [hz] at hmk
  obtain ⟨H', hL, hr, hlen, hoth⟩ := qeb (pol := polT []) (a := d) (s := s) (id := H.length) hs hd (d.getD []).length 0 (List.replicate ((d.getD []).length + 1) 0) (H ++ [.row 0 1 64 ((List.replicate ((d.getD []).length + 1) (0 : UInt32)).map eu)]) (by omega) (by simp) (by simp [val, q9j]) q2e
  have hH' : H' = H ++ [.row 0 1 64 ((q0s (d.getD []) s).map eu)] := by
    apply List.ext_getElem?
    intro j
    by_cases hj : j = H.length
    · subst hj; rw [hr, q2e]
    · rw [hoth j hj]
      rcases Nat.lt_or_ge j H.length with h | h
      · rw [List.getElem?_append_left h, List.getElem?_append_left h]
      · rw [List.getElem?_eq_none (by simp; omega), List.getElem?_eq_none (by simp; omega)]
  subst hH'
  refine Evs.withL hL (Evs.of fun n m h3 _ => ?_)
  unfold q7r qgv
  have e0 : ((0 : Nat) : Int) = 0 := rfl
  simp only [e0, Int.natCast_add, Int.natCast_one] at h3 hmk
  generalize q0s (d.getD []) s = out at *
  generalize hrep : (List.replicate ((d.getD []).length + 1) (0 : UInt32)).map eu = rep at *
  simp (disch := omega) [↓q03, ↓q01, ↓q0k, ↓q02, S64, q08, hmk, h3]
/-! ### so many bits less -/
theorem qhf {l : List UInt32} {i s : Nat} (hs : s ≤ 31) (h : i < l.length) : UInt32.ofNat ((at_ l i + 2 ^ 32 * at_ l (i + 1)) / 2 ^ s) = UInt32.ofNat (val l / 2 ^ s / 4294967296 ^ i) := by
  have h1 : val l / 4294967296 ^ i = val (l.drop i) := by
    rw [q1q (l := l) (n := i) (by omega), Nat.add_mul_div_left _ _ (Nat.pow_pos (by omega)), Nat.div_eq_of_lt (q15 _ _), Nat.zero_add]
  have h2 : val (l.drop i) = (at_ l i + 2 ^ 32 * at_ l (i + 1)) + 4294967296 * 4294967296 * val (l.drop (i + 2)) := by
    rw [List.drop_eq_getElem_cons h, val]
    rcases Nat.lt_or_ge (i + 1) l.length with h3 | h3
    · rw [List.drop_eq_getElem_cons h3, val, at_, dif_pos h, at_, dif_pos h3, show i + 1 + 1 = i + 2 from rfl]
      omega
    · rw [List.drop_eq_nil_of_le h3, List.drop_eq_nil_of_le (by omega), val, at_, dif_pos h, at_, dif_neg (by omega)]
  have h3 := q8y hs
  have h4 : val l / 2 ^ s / 4294967296 ^ i = val l / 4294967296 ^ i / 2 ^ s := by rw [Nat.div_div_eq_div_mul, Nat.div_div_eq_div_mul, Nat.mul_comm]
  rw [h4, h1, h2]
  generalize at_ l i + 2 ^ 32 * at_ l (i + 1) = y
  have e : 4294967296 * 4294967296 * val (l.drop (i + 2)) = 2 ^ s * (4294967296 * (2 ^ (32 - s) * val (l.drop (i + 2)))) := by
    generalize val (l.drop (i + 2)) = w
    generalize 2 ^ s = p at *
    generalize 2 ^ (32 - s) = p' at *
    rw [← h3]
    simp only [Nat.mul_left_comm, Nat.mul_comm]
  rw [e, Nat.add_mul_div_left _ _ (Nat.pow_pos (by omega))]
  generalize 2 ^ (32 - s) * val (l.drop (i + 2)) = w
  generalize y / 2 ^ s = z
  refine (qbw ?_).symm
  rw [q0v]
  omega
def backS (a : Option (List UInt32)) (s : Int) : Option (List UInt32) := some (digs (a.getD []).length (val (a.getD []) / 2 ^ s.toNat))
theorem qit {pol : FuncId → Pol} {a : Option (List UInt32)} {s id : Nat} (hs : s ≤ 31) (hf : (a.getD []).length ≤ 2000000) : ∀ (k i : Nat) (o : List UInt32) (H : Heap), k + i = (a.getD []).length → o.length = (a.getD []).length → o.take i = digs i (val (a.getD []) / 2 ^ s) →
    H[id]? = some (.row 0 1 64 (o.map eu)) →
    ∃ H', LDoes (L68_0 pol) ⟨[eD a, .int .i64 (s : Nat), .sl id 0 0 (a.getD []).length (a.getD []).length, eD a, .int .i64 ((a.getD []).length : Nat), .int .i64 (i : Nat)], []⟩ H 0 ⟨[.sl id 0 0 (a.getD []).length (a.getD []).length], []⟩ H' ∧
      H'[id]? = some (.row 0 1 64 ((digs (a.getD []).length (val (a.getD []) / 2 ^ s)).map eu)) := by
  intro k
  induction k with
  | zero =>
    intro i o H hk ho hv hH
    have : i = (a.getD []).length := by omega
    subst this
    rw [List.take_of_length_le (by omega)] at hv
    rw [hv] at hH
    refine ⟨H, LDoes.step (Evs.of fun n m => ?_), hH⟩
    simp [↓q00, ↓q01, q6k]
  | succ k ih =>
    intro i o H hk ho hv hH
    have hlt : i < (a.getD []).length := by omega
    have hx := q42 (d := a) hlt H
    have hio : i < o.length := by omega
    have h0 := q3g (a.getD []) i
    have h1 := q3g (a.getD []) (i + 1)
    obtain ⟨r1, r2, r3⟩ := lrow (k := .i64) (n := (a.getD []).length) (j := i) (i := (i : Int)) hH ho.symm hio rfl
    have hd := qhf hs hlt
    have hnew : (o.set i (UInt32.ofNat ((at_ (a.getD []) i + 2 ^ 32 * at_ (a.getD []) (i + 1)) / 2 ^ s))).take (i + 1) = digs (i + 1) (val (a.getD []) / 2 ^ s) := by
      rw [hd, q2z, ← hv, List.take_succ_eq_append_getElem (by rw [List.length_set]; exact hio), List.take_set_of_le (Nat.le_refl i), List.getElem_set_self]
    obtain ⟨H', hL, hr⟩ := ih (i + 1) _ _ (by omega) (by rw [List.length_set, ho]) hnew (q1o hH)
    refine ⟨H', LDoes.step (Evs.withL hL (Evs.of fun n m _ h3 => ?_)), hr⟩
    have hshr : ∀ (t : TypeId) (H : Heap), A.bin base.P .shr t (.int .u64 ((at_ (a.getD []) i + 2 ^ 32 * at_ (a.getD []) (i + 1) : Nat) : Int)) (.int .i64 (s : Int)) false H = some (.int .u64 (((at_ (a.getD []) i + 2 ^ 32 * at_ (a.getD []) (i + 1)) / 2 ^ s : Nat) : Int)) := fun t H => q2r (by omega)
    have hshl : ∀ (t : TypeId) (H : Heap), A.bin base.P .shl t (.int .u64 (at_ (a.getD []) (i + 1) : Int)) (.int .u64 32) true H = some (.int .u64 ((2 ^ 32 * at_ (a.getD []) (i + 1) : Nat) : Int)) := fun t H => q74 (s := 32) (by omega) (by omega)
    have hor : ∀ (t : TypeId) (H : Heap), A.bin base.P .or t (.int .u64 (at_ (a.getD []) i : Int)) (.int .u64 ((2 ^ 32 * at_ (a.getD []) (i + 1) : Nat) : Int)) false H = some (.int .u64 ((at_ (a.getD []) i + 2 ^ 32 * at_ (a.getD []) (i + 1) : Nat) : Int)) := fun t H => (qdx (s := 32) (by omega) (by omega)).1
    have hst := r3 (UInt32.ofNat ((at_ (a.getD []) i + 2 ^ 32 * at_ (a.getD []) (i + 1)) / 2 ^ s))
    have hw : IntKind.wrap .u32 (((at_ (a.getD []) i + 2 ^ 32 * at_ (a.getD []) (i + 1)) / 2 ^ s : Nat) : Int) = ((UInt32.ofNat ((at_ (a.getD []) i + 2 ^ 32 * at_ (a.getD []) (i + 1)) / 2 ^ s)).toNat : Int) := q0n _
    have hx1 : i + 1 < (a.getD []).length → ∀ H, A.idx 1 (eD a) (.int .i64 ((i : Int) + 1)) H = some (.rop [.int .u32 (at_ (a.getD []) (i + 1) : Nat)]) := fun h H => q42 (d := a) h H
    have hx0 : ¬ i + 1 < (a.getD []).length → at_ (a.getD []) (i + 1) = 0 := fun h => qis h
    have hsm : ((at_ (a.getD []) i + 2 ^ 32 * at_ (a.getD []) (i + 1)) : Nat) = at_ (a.getD []) i + 4294967296 * at_ (a.getD []) (i + 1) := rfl
    clear hnew hd ih
    generalize UInt32.ofNat ((at_ (a.getD []) i + 2 ^ 32 * at_ (a.getD []) (i + 1)) / 2 ^ s) = dg at *
    generalize (((at_ (a.getD []) i + 2 ^ 32 * at_ (a.getD []) (i + 1)) / 2 ^ s : Nat) : Int) = dn at *
    simp only [Int.natCast_add, Int.natCast_one, List.map_set] at h3 hst
    by_cases hin : i + 1 < (a.getD []).length
    · have hin' : (i : Int) + 1 < ((a.getD []).length : Int) := by omega
      have hx' := hx1 hin H
      generalize ((at_ (a.getD []) i + 2 ^ 32 * at_ (a.getD []) (i + 1) : Nat) : Int) = yy at *
      generalize ((2 ^ 32 * at_ (a.getD []) (i + 1) : Nat) : Int) = y2 at *
      generalize at_ (a.getD []) (i + 1) = x1 at *
      generalize at_ (a.getD []) i = x0 at *
      clear hx1 hx0 r3 hsm
      simp (disch := omega) [↓q00, ↓q03, ↓q01, ↓q0e, ↓q02, q6k, hlt, hin', hx, hx', q0x, q0p, q0g, q08, hshl, hor, hshr, hw, r1, hst, h3]
    · have hin' : ¬ (i : Int) + 1 < ((a.getD []).length : Int) := by omega
      have hz := hx0 hin
      rw [hz, Nat.mul_zero, Nat.add_zero] at hshr
      generalize at_ (a.getD []) i = x0 at *
      clear hx1 hx0 r3 hsm hshl hor
      simp (disch := omega) [↓q00, ↓q03, ↓q01, ↓q0e, ↓q02, q6k, hlt, hin', hx, q0x, q0p, q0g, q08, hshr, hw, r1, hst, h3]
noncomputable def pBack : Pol := .still (p2 cD (cI .i64) eD (fun a s => (a.getD []).length ≤ 2000000 ∧ 0 ≤ s ∧ s ≤ 31) backS)
theorem okBack : PolOK base 68 pBack := still2 base_ok [] trivial fun a s ⟨hf, hs0, hs⟩ => by
  obtain ⟨s, rfl⟩ : ∃ t : Nat, s = t := ⟨s.toNat, by omega⟩
  have hmk := q3y (H := []) (sz := 1) (ty := 64) (bytes := 4) (z := .int .u32 0) (l := (((a.getD []).length : Nat) : Int)) (by omega) (by omega) (by omega)
  simp only [List.length_nil, Int.toNat_natCast, List.nil_append] at hmk
  have hz : List.replicate (a.getD []).length (AV.int .u32 0) = (List.replicate (a.getD []).length (0 : UInt32)).map eu := by simp
  rw [hz] at hmk
  obtain ⟨H', hL, hr⟩ := qit (pol := polT []) (a := a) (s := s) (id := 0) (by omega) hf (a.getD []).length 0 (List.replicate (a.getD []).length 0) [.row 0 1 64 ((List.replicate (a.getD []).length (0 : UInt32)).map eu)] (by omega) (by simp) (by simp [digs]) rfl
  refine Evs.withL hL (Evs.of fun n m h3 _ => ?_)
  have e0 : ((0 : Nat) : Int) = 0 := rfl
  simp only [e0] at h3
  have hfz := q1p hr (q0a _ _).symm 62 (n := (a.getD []).length) (cap := (a.getD []).length)
  unfold backS
  simp only [Int.toNat_natCast]
  generalize digs (a.getD []).length (val (a.getD []) / 2 ^ s) = out at *
  generalize hrep : (List.replicate (a.getD []).length (0 : UInt32)).map eu = rep at *
  simp (disch := omega) [↓q03, ↓q01, ↓q0k, ↓q02, S68, hmk, h3, hfz]
end Go.Proofs.YtikkpecdkdgmfaaDoor

/- Numbers of any size: a digit of a quotient is guessed. -/
set_option maxRecDepth 100000
set_option maxHeartbeats 2000000
namespace Go.Proofs.YtikkpecdkdgmfaaDoor
open Go Go.Den
theorem qhv {pol : FuncId → Pol} {u v : Option (List UInt32)} {k n : Nat} (hn : (v.getD []).length = n) (h2 : 2 ≤ n) (hnb : n ≤ 2000000) (hk : k + n < (u.getD []).length) (hub : (u.getD []).length ≤ 2000000) : ∀ (f q r : Nat) (H : Heap), q ≤ 4294967297 → r < 4294967296 → 4294967296 ≤ r + f * at_ (v.getD []) (n - 1) →
    LDoes (L65_0 pol) ⟨[eD u, eD v, .int .i64 (k : Nat), .int .i64 (n : Nat), .int .u64 (q : Nat), .int .u64 (r : Nat)], []⟩ H 0 ⟨[.int .u64 ((guessG (at_ (v.getD []) (n - 1)) (at_ (v.getD []) (n - 2)) (at_ (u.getD []) (k + n - 2)) f q r : Nat) : Int)], []⟩ H := by
  intro f
  induction f with
  | zero =>
    intro q r H hq hr hf
    exfalso
    omega
  | succ f ih =>
    intro q r H hq hr hf
    have hv1 := q3g (v.getD []) (n - 1)
    have hv2 := q3g (v.getD []) (n - 2)
    have hu2 := q3g (u.getD []) (k + n - 2)
    have i1 : ∀ H, A.idx 1 (eD v) (.int .i64 ((n : Int) - 1)) H = some (.rop [.int .u32 (at_ (v.getD []) (n - 1) : Nat)]) := fun H => by
      rw [show (n : Int) - 1 = ((n - 1 : Nat) : Int) by omega]
      exact q42 (d := v) (by omega) H
    have i2 : ∀ H, A.idx 1 (eD v) (.int .i64 ((n : Int) - 2)) H = some (.rop [.int .u32 (at_ (v.getD []) (n - 2) : Nat)]) := fun H => by
      rw [show (n : Int) - 2 = ((n - 2 : Nat) : Int) by omega]
      exact q42 (d := v) (by omega) H
    have i3 : ∀ H, A.idx 1 (eD u) (.int .i64 ((k : Int) + (n : Int) - 2)) H = some (.rop [.int .u32 (at_ (u.getD []) (k + n - 2) : Nat)]) := fun H => by
      rw [show (k : Int) + (n : Int) - 2 = ((k + n - 2 : Nat) : Int) by omega]
      exact q42 (d := u) (by omega) H
    unfold guessG
    have ihs := ih (q - 1) (r + at_ (v.getD []) (n - 1)) H (by omega)
    have hfm : (f + 1) * at_ (v.getD []) (n - 1) = f * at_ (v.getD []) (n - 1) + at_ (v.getD []) (n - 1) := by rw [Nat.add_mul, Nat.one_mul]
    rw [hfm] at hf
    generalize at_ (v.getD []) (n - 1) = v1 at *
    generalize at_ (v.getD []) (n - 2) = v2 at *
    generalize at_ (u.getD []) (k + n - 2) = u2 at *
    have hshl : ∀ (t : TypeId) (H : Heap), A.bin base.P .shl t (.int .u64 (r : Int)) (.int .u64 32) true H = some (.int .u64 ((2 ^ 32 * r : Nat) : Int)) := fun t H => q74 (s := 32) (by omega) (by omega)
    have hor : ∀ (t : TypeId) (H : Heap), A.bin base.P .or t (.int .u64 ((2 ^ 32 * r : Nat) : Int)) (.int .u64 (u2 : Int)) false H = some (.int .u64 ((u2 + 2 ^ 32 * r : Nat) : Int)) := fun t H => (qdx (s := 32) (by omega) (by omega)).2
    have hS : 2 ^ 32 * r = 4294967296 * r := rfl
    rw [hS] at hor hshl
    generalize hSS : 4294967296 * r = S at *
    by_cases hc1 : 4294967296 ≤ q
    · rw [if_pos (.inl hc1)]
      have hc1' : (4294967296 : Int) ≤ (q : Int) := by omega
      have hq1 : (q : Int) - 1 = ((q - 1 : Nat) : Int) := by omega
      by_cases hrr : 4294967296 ≤ r + v1
      · rw [if_pos hrr]
        have hrr' : (4294967296 : Int) ≤ (r : Int) + (v1 : Int) := by omega
        refine LDoes.step (Evs.of fun n' m => ?_)
        simp (disch := omega) [↓q00, ↓q01, ↓q04, ↓q05, q3e, hc1', i1, q0x, q0g, q08, hrr']
        omega
      · rw [if_neg hrr]
        have hrr' : ¬ (4294967296 : Int) ≤ (r : Int) + (v1 : Int) := by omega
        refine LDoes.step (Evs.withL (ihs (by omega) (by omega)) (Evs.of fun n' m _ h3 => ?_))
        generalize guessG v1 v2 u2 f (q - 1) (r + v1) = res at *
        rw [← hq1] at h3
        simp only [Int.natCast_add] at h3
        simp (disch := omega) [↓q00, ↓q01, ↓q04, ↓q05, q3e, hc1', i1, q0x, q0g, q08, hrr', h3]
    · have hc1' : ¬ (4294967296 : Int) ≤ (q : Int) := by omega
      have hp : q * v2 ≤ 4294967295 * 4294967295 := Nat.mul_le_mul (by omega) (by omega)
      have hp0 : (0 : Int) ≤ (q : Int) * (v2 : Int) := by rw [← Int.natCast_mul]; omega
      have hp1 : (q : Int) * (v2 : Int) < 18446744073709551616 := by rw [← Int.natCast_mul]; omega
      by_cases hc2 : S + u2 < q * v2
      · rw [if_pos (.inr hc2)]
        have hc2' : (u2 : Int) + (S : Int) < (q : Int) * (v2 : Int) := by rw [← Int.natCast_mul]; omega
        have hqpos : 1 ≤ q := by
          rcases Nat.eq_zero_or_pos q with h0 | h0
          · rw [h0, Nat.zero_mul] at hc2; omega
          · exact h0
        have hq1 : (q : Int) - 1 = ((q - 1 : Nat) : Int) := by omega
        by_cases hrr : 4294967296 ≤ r + v1
        · rw [if_pos hrr]
          have hrr' : (4294967296 : Int) ≤ (r : Int) + (v1 : Int) := by omega
          refine LDoes.step (Evs.of fun n' m => ?_)
          simp (disch := omega) [↓q00, ↓q01, ↓q04, ↓q05, q3e, hc1', i1, i2, i3, q0x, q0g, q08, hrr', hshl, hor, hc2']
          omega
        · rw [if_neg hrr]
          have hrr' : ¬ (4294967296 : Int) ≤ (r : Int) + (v1 : Int) := by omega
          refine LDoes.step (Evs.withL (ihs (by omega) (by omega)) (Evs.of fun n' m _ h3 => ?_))
          generalize guessG v1 v2 u2 f (q - 1) (r + v1) = res at *
          rw [← hq1] at h3
          simp only [Int.natCast_add] at h3
          simp (disch := omega) [↓q00, ↓q01, ↓q04, ↓q05, q3e, hc1', i1, i2, i3, q0x, q0g, q08, hrr', hshl, hor, hc2', h3]
      · rw [if_neg (by omega)]
        have hc2' : ¬ (u2 : Int) + (S : Int) < (q : Int) * (v2 : Int) := by rw [← Int.natCast_mul]; omega
        refine LDoes.step (Evs.of fun n' m => ?_)
        simp (disch := omega) [↓q00, ↓q01, ↓q04, ↓q05, q3e, hc1', i2, i3, q0x, q0g, q08, hshl, hor, hc2']
def topS (u v : Option (List UInt32)) (k : Nat) : Nat := 4294967296 * at_ (u.getD []) (k + (v.getD []).length) + at_ (u.getD []) (k + (v.getD []).length - 1)
def guessS (u v : Option (List UInt32)) (k : Int) : Int := (guessG (at_ (v.getD []) ((v.getD []).length - 1)) (at_ (v.getD []) ((v.getD []).length - 2)) (at_ (u.getD []) (k.toNat + (v.getD []).length - 2)) 3 (topS u v k.toNat / at_ (v.getD []) ((v.getD []).length - 1)) (topS u v k.toNat % at_ (v.getD []) ((v.getD []).length - 1)) : Nat)
def guessP (u v : Option (List UInt32)) (k : Int) : Prop := 0 ≤ k ∧ 2 ≤ (v.getD []).length ∧ (v.getD []).length ≤ 2000000 ∧ k.toNat + (v.getD []).length < (u.getD []).length ∧ (u.getD []).length ≤ 2000000 ∧ 2147483648 ≤ at_ (v.getD []) ((v.getD []).length - 1) ∧ at_ (u.getD []) (k.toNat + (v.getD []).length) ≤ at_ (v.getD []) ((v.getD []).length - 1)
noncomputable def pGuess : Pol := .still (p3 cD cD (cI .i64) (.int .u64) guessP guessS)
theorem okGuess : PolOK base 65 pGuess := still3 base_ok [] trivial fun u v k ⟨hk0, h2, hnb, hkn, hub, hv1, hu0⟩ => by
  obtain ⟨k, rfl⟩ : ∃ t : Nat, k = t := ⟨k.toNat, by omega⟩
  unfold guessS topS
  simp only [Int.toNat_natCast] at hkn hu0 ⊢
  clear hk0
  generalize hn : (v.getD []).length = n at *
  have hu0l := q3g (u.getD []) (k + n)
  have hu1l := q3g (u.getD []) (k + n - 1)
  have hv1l := q3g (v.getD []) (n - 1)
  have i1 : ∀ H, A.idx 1 (eD v) (.int .i64 ((n : Int) - 1)) H = some (.rop [.int .u32 (at_ (v.getD []) (n - 1) : Nat)]) := fun H => by
    rw [show (n : Int) - 1 = ((n - 1 : Nat) : Int) by omega]
    exact q42 (d := v) (by omega) H
  have j0 : ∀ H, A.idx 1 (eD u) (.int .i64 ((k : Int) + (n : Int))) H = some (.rop [.int .u32 (at_ (u.getD []) (k + n) : Nat)]) := fun H => by
    rw [show (k : Int) + (n : Int) = ((k + n : Nat) : Int) by omega]
    exact q42 (d := u) (by omega) H
  have j1 : ∀ H, A.idx 1 (eD u) (.int .i64 ((k : Int) + (n : Int) - 1)) H = some (.rop [.int .u32 (at_ (u.getD []) (k + n - 1) : Nat)]) := fun H => by
    rw [show (k : Int) + (n : Int) - 1 = ((k + n - 1 : Nat) : Int) by omega]
    exact q42 (d := u) (by omega) H
  have hdm := Nat.mod_add_div (4294967296 * at_ (u.getD []) (k + n) + at_ (u.getD []) (k + n - 1)) (at_ (v.getD []) (n - 1))
  have hml := Nat.mod_lt (4294967296 * at_ (u.getD []) (k + n) + at_ (u.getD []) (k + n - 1)) (show 0 < at_ (v.getD []) (n - 1) by omega)
  have hql : (4294967296 * at_ (u.getD []) (k + n) + at_ (u.getD []) (k + n - 1)) / at_ (v.getD []) (n - 1) ≤ 4294967297 := by
    have : (4294967296 * at_ (u.getD []) (k + n) + at_ (u.getD []) (k + n - 1)) / at_ (v.getD []) (n - 1) < 4294967298 := by
      rw [Nat.div_lt_iff_lt_mul (by omega)]
      omega
    omega
  have hL := qhv (pol := polT []) (u := u) (v := v) (k := k) (n := n) hn h2 hnb hkn hub 3 ((4294967296 * at_ (u.getD []) (k + n) + at_ (u.getD []) (k + n - 1)) / at_ (v.getD []) (n - 1)) ((4294967296 * at_ (u.getD []) (k + n) + at_ (u.getD []) (k + n - 1)) % at_ (v.getD []) (n - 1)) [] hql (by omega) (by omega)
  generalize guessG (at_ (v.getD []) (n - 1)) (at_ (v.getD []) (n - 2)) (at_ (u.getD []) (k + n - 2)) 3 ((4294967296 * at_ (u.getD []) (k + n) + at_ (u.getD []) (k + n - 1)) / at_ (v.getD []) (n - 1)) ((4294967296 * at_ (u.getD []) (k + n) + at_ (u.getD []) (k + n - 1)) % at_ (v.getD []) (n - 1)) = res at *
  have hshl : ∀ (t : TypeId) (H : Heap), A.bin base.P .shl t (.int .u64 (at_ (u.getD []) (k + n) : Int)) (.int .u64 32) true H = some (.int .u64 ((2 ^ 32 * at_ (u.getD []) (k + n) : Nat) : Int)) := fun t H => q74 (s := 32) (by omega) (by omega)
  have hor : ∀ (t : TypeId) (H : Heap), A.bin base.P .or t (.int .u64 ((2 ^ 32 * at_ (u.getD []) (k + n) : Nat) : Int)) (.int .u64 (at_ (u.getD []) (k + n - 1) : Int)) false H = some (.int .u64 ((4294967296 * at_ (u.getD []) (k + n) + at_ (u.getD []) (k + n - 1) : Nat) : Int)) := fun t H => by
    rw [(qdx (s := 32) (by omega) (by omega)).2, Nat.add_comm]
  have hquo : ∀ (t : TypeId) (H : Heap), A.bin base.P .quo t (.int .u64 ((4294967296 * at_ (u.getD []) (k + n) + at_ (u.getD []) (k + n - 1) : Nat) : Int)) (.int .u64 (at_ (v.getD []) (n - 1) : Int)) false H = some (.int .u64 (((4294967296 * at_ (u.getD []) (k + n) + at_ (u.getD []) (k + n - 1)) / at_ (v.getD []) (n - 1) : Nat) : Int)) := fun t H => qca (by omega) (by omega)
  have hrem : ∀ (t : TypeId) (H : Heap), A.bin base.P .rem t (.int .u64 ((4294967296 * at_ (u.getD []) (k + n) + at_ (u.getD []) (k + n - 1) : Nat) : Int)) (.int .u64 (at_ (v.getD []) (n - 1) : Int)) false H = some (.int .u64 (((4294967296 * at_ (u.getD []) (k + n) + at_ (u.getD []) (k + n - 1)) % at_ (v.getD []) (n - 1) : Nat) : Int)) := fun t H => qcb (by omega)
  refine Evs.withL hL (Evs.of fun n' m h3 _ => ?_)
  generalize ((2 ^ 32 * at_ (u.getD []) (k + n) : Nat) : Int) = y0 at *
  generalize (((4294967296 * at_ (u.getD []) (k + n) + at_ (u.getD []) (k + n - 1)) / at_ (v.getD []) (n - 1) : Nat) : Int) = qq at *
  generalize (((4294967296 * at_ (u.getD []) (k + n) + at_ (u.getD []) (k + n - 1)) % at_ (v.getD []) (n - 1) : Nat) : Int) = rr at *
  generalize ((4294967296 * at_ (u.getD []) (k + n) + at_ (u.getD []) (k + n - 1) : Nat) : Int) = tt at *
  simp (disch := omega) [↓q03, ↓q01, ↓q02, S65, q08, q0g, q0x, hn, i1, j0, j1, hshl, hor, hquo, hrem, h3]
end Go.Proofs.YtikkpecdkdgmfaaDoor

/- Numbers of any size: one step of a long division, on lists of limbs. -/
set_option maxRecDepth 100000
set_option maxHeartbeats 2000000
namespace Go.Proofs.YtikkpecdkdgmfaaDoor
open Go Go.Den
theorem qb7 (l : List UInt32) (k i : Nat) : at_ (l.drop k) i = at_ l (k + i) := by
  unfold at_
  by_cases h : k + i < l.length
  · rw [dif_pos h, dif_pos (by rw [List.length_drop]; omega)]
    simp
  · rw [dif_neg h, dif_neg (by rw [List.length_drop]; omega)]
theorem val_top {l : List UInt32} {m : Nat} (h : l.length = m + 2) : val l = 4294967296 ^ m * (4294967296 * at_ l (m + 1) + at_ l m) + val (l.take m) := by
  have e : val l = val (l.take (m + 1 + 1)) := by rw [List.take_of_length_le (by omega)]
  rw [e, q37, q37, Nat.pow_succ, Nat.mul_add]
  rw [show 4294967296 ^ m * (4294967296 * at_ l (m + 1)) = 4294967296 ^ m * 4294967296 * at_ l (m + 1) from (Nat.mul_assoc _ _ _).symm]
  omega
theorem val_top3 {l : List UInt32} {m : Nat} (h : val (l.drop (m + 3)) = 0) (hl : m + 3 ≤ l.length) : val l = 4294967296 ^ m * (4294967296 * (4294967296 * at_ l (m + 2) + at_ l (m + 1)) + at_ l m) + val (l.take m) := by
  have e := q1q (l := l) (n := m + 3) hl
  rw [h, Nat.mul_zero, Nat.add_zero, show m + 3 = m + 2 + 1 from rfl, q37, show m + 2 = m + 1 + 1 from rfl, q37, q37] at e
  simp only [Nat.pow_succ] at e
  rw [e]
  clear e
  generalize 4294967296 ^ m = p
  have e1 : p * (4294967296 * (4294967296 * at_ l (m + 2) + at_ l (m + 1)) + at_ l m) = p * 4294967296 * 4294967296 * at_ l (m + 2) + p * 4294967296 * at_ l (m + 1) + p * at_ l m := by
    simp only [Nat.mul_add, Nat.mul_assoc]
  have e2 : at_ l (m + 1 + 1) = at_ l (m + 2) := rfl
  rw [e1, e2]
  omega
theorem qja {u v : List UInt32} {k n : Nat} (hn : v.length = n) (h2 : 2 ≤ n) (hk : k + n + 1 ≤ u.length) (htop : 2147483648 ≤ at_ v (n - 1)) (hinv : val (u.drop (k + 1)) < val v) :
    at_ u (k + n) ≤ at_ v (n - 1) ∧ ∃ x b Q : Nat, guessS (some u) (some v) (k : Nat) = (x : Nat) ∧ x < 4294967296 ∧ Q < 4294967296 ∧
      (takeS x (segS ⟨0, u, some v, k, x⟩) v 0 0).2 = b ∧ val (u.drop k) < 4294967296 * val v ∧
      (b = 1 → x = Q + 1 ∧ val (giveS (takeS x (segS ⟨0, u, some v, k, x⟩) v 0 0).1 v 0) + Q * val v = val (u.drop k) ∧ val (giveS (takeS x (segS ⟨0, u, some v, k, x⟩) v 0 0).1 v 0) < val v) ∧
      (b ≠ 1 → x = Q ∧ val (takeS x (segS ⟨0, u, some v, k, x⟩) v 0 0).1 + Q * val v = val (u.drop k) ∧ val (takeS x (segS ⟨0, u, some v, k, x⟩) v 0 0).1 < val v) := by
  obtain ⟨m, rfl⟩ : ∃ m, n = m + 2 := ⟨n - 2, by omega⟩
  have hv := val_top hn
  have hv3 := q15 v m
  have hP : 0 < 4294967296 ^ m := Nat.pow_pos (by omega)
  have hvn : val v < 4294967296 ^ (m + 2) := by rw [← hn]; exact q1n v
  rw [show m + 2 - 1 = m + 1 from rfl] at htop ⊢
  -- nothing stands above
  have hz : val (u.drop (k + 1 + (m + 2))) = 0 := by
    have e := q1q (l := u.drop (k + 1)) (n := m + 2) (by rw [List.length_drop]; omega)
    rw [List.drop_drop] at e
    rcases Nat.eq_zero_or_pos (val (u.drop (k + 1 + (m + 2)))) with h0 | h0
    · exact h0
    · exfalso
      have : 4294967296 ^ (m + 2) * 1 ≤ 4294967296 ^ (m + 2) * val (u.drop (k + 1 + (m + 2))) := Nat.mul_le_mul_left _ h0
      omega
  have hz' : val ((u.drop k).drop (m + 3)) = 0 := by rw [List.drop_drop, show k + (m + 3) = k + 1 + (m + 2) by omega]; exact hz
  have hS := val_top3 hz' (by rw [List.length_drop]; omega)
  rw [qb7, qb7, qb7] at hS
  have hu3 := q15 (u.drop k) m
  -- the top limb
  have hu0 : at_ u (k + (m + 2)) ≤ at_ v (m + 1) := by
    have e := q1q (l := u.drop (k + 1)) (n := m + 2) (by rw [List.length_drop]; omega)
    rw [List.drop_drop, hz, Nat.mul_zero, Nat.add_zero, show m + 2 = m + 1 + 1 from rfl, q37, qb7, show k + 1 + (m + 1) = k + (m + 2) by omega] at e
    have h1 : 4294967296 ^ (m + 1) * at_ u (k + (m + 2)) < 4294967296 ^ (m + 1) * (at_ v (m + 1) + 1) := by
      have h3 := q3g v m
      have e2 : val v = val (v.take (m + 1)) + 4294967296 ^ (m + 1) * at_ v (m + 1) := by rw [← q37, List.take_of_length_le (by omega)]
      have h4 := q15 v (m + 1)
      rw [Nat.mul_add, Nat.mul_one]
      omega
    have := Nat.lt_of_mul_lt_mul_left h1
    omega
  have hS2 : val (u.drop k) = at_ u k + 4294967296 * val (u.drop (k + 1)) := by
    rw [List.drop_eq_getElem_cons (by omega), val, at_, dif_pos (by omega)]
  have hukl := q3g u k
  have hSB : val (u.drop k) < 4294967296 * val v := by omega
  have hVpos : 0 < val v := by omega
  have hQB : val (u.drop k) / val v < 4294967296 := Nat.div_lt_of_lt_mul (by rw [Nat.mul_comm]; exact hSB)
  have hQ1 : (val (u.drop k) / val v) * val v ≤ val (u.drop k) := Nat.div_mul_le_self _ _
  have hQ2 : val (u.drop k) < (val (u.drop k) / val v + 1) * val v := by
    have := Nat.lt_mul_div_succ (val (u.drop k)) hVpos
    rw [Nat.mul_comm]; exact this
  have hu1l := q3g u (k + (m + 1))
  have hu2l := q3g u (k + m)
  have hv1l := q3g v (m + 1)
  have hv2l := q3g v m
  -- the guess
  have hdm := Nat.div_add_mod (4294967296 * at_ u (k + (m + 2)) + at_ u (k + (m + 1))) (at_ v (m + 1))
  have hml := Nat.mod_lt (4294967296 * at_ u (k + (m + 2)) + at_ u (k + (m + 1))) (show 0 < at_ v (m + 1) by omega)
  have hQq : val (u.drop k) / val v ≤ (4294967296 * at_ u (k + (m + 2)) + at_ u (k + (m + 1))) / at_ v (m + 1) := by
    rw [Nat.le_div_iff_mul_le (by omega)]
    generalize val (u.drop k) / val v = Q at *
    have h1 : 4294967296 ^ m * 4294967296 * (Q * at_ v (m + 1)) < 4294967296 ^ m * 4294967296 * (4294967296 * at_ u (k + (m + 2)) + at_ u (k + (m + 1)) + 1) := by
      have e1 : 4294967296 ^ m * 4294967296 * (Q * at_ v (m + 1)) ≤ Q * val v := by
        rw [hv]
        have e2 : 4294967296 ^ m * 4294967296 * (Q * at_ v (m + 1)) = Q * (4294967296 ^ m * (4294967296 * at_ v (m + 1))) := by
          simp only [Nat.mul_assoc, Nat.mul_left_comm]
        rw [e2]
        refine Nat.mul_le_mul_left _ ?_
        rw [Nat.mul_add]
        omega
      have e3 : val (u.drop k) < 4294967296 ^ m * 4294967296 * (4294967296 * at_ u (k + (m + 2)) + at_ u (k + (m + 1)) + 1) := by
        rw [hS]
        generalize 4294967296 * at_ u (k + (m + 2)) + at_ u (k + (m + 1)) = T
        have e4 : 4294967296 ^ m * 4294967296 * (T + 1) = 4294967296 ^ m * (4294967296 * T + 4294967295) + 4294967296 ^ m := by
          have e6 : 4294967296 * (T + 1) = 4294967296 * T + 4294967295 + 1 := by omega
          rw [Nat.mul_assoc, e6, Nat.mul_add (4294967296 ^ m) (4294967296 * T + 4294967295) 1, Nat.mul_one]
        have e5 : 4294967296 ^ m * (4294967296 * T + at_ u (k + m)) ≤ 4294967296 ^ m * (4294967296 * T + 4294967295) := Nat.mul_le_mul_left _ (by omega)
        omega
      omega
    have := Nat.lt_of_mul_lt_mul_left h1
    omega
  have hg := guess_ok (P := 4294967296 ^ m) (Q := val (u.drop k) / val v) (v1 := at_ v (m + 1)) (v2 := at_ v m) (v3 := val (v.take m)) (u0 := at_ u (k + (m + 2))) (u1 := at_ u (k + (m + 1))) (u2 := at_ u (k + m)) (u3 := val ((u.drop k).take m)) hP hu3 hu1l hu2l hv1l htop hv2l hv3 hu0
    (by rw [← hv, ← hS]; exact hQ1) (by rw [← hv, ← hS]; exact hQ2) hQB 3 _ ((4294967296 * at_ u (k + (m + 2)) + at_ u (k + (m + 1))) % at_ v (m + 1)) (by rw [Nat.mul_comm]; exact hdm) hQq (by omega) (by omega)
  refine ⟨hu0, ?_⟩
  obtain ⟨x, hx⟩ : ∃ x, guessG (at_ v (m + 1)) (at_ v m) (at_ u (k + m)) 3 ((4294967296 * at_ u (k + (m + 2)) + at_ u (k + (m + 1))) / at_ v (m + 1)) ((4294967296 * at_ u (k + (m + 2)) + at_ u (k + (m + 1))) % at_ v (m + 1)) = x := ⟨_, rfl⟩
  rw [hx] at hg
  obtain ⟨g1, g2, g3⟩ := hg
  -- what is taken
  have hsl : (segS ⟨0, u, some v, k, x⟩).length = m + 3 := by
    unfold segS
    simp only [Option.getD_some, List.length_take, List.length_drop]
    omega
  have hsv : val (segS ⟨0, u, some v, k, x⟩) = val (u.drop k) := by
    unfold segS
    simp only [Option.getD_some]
    have e := q1q (l := u.drop k) (n := m + 3) (by rw [List.length_drop]; omega)
    rw [hz', Nat.mul_zero, Nat.add_zero] at e
    rw [hn, e]
  have hpow : 4294967296 ^ (m + 3) = 4294967296 * 4294967296 ^ (m + 2) := by rw [Nat.pow_succ, Nat.mul_comm]
  have hxv : x * val v + 0 < 4294967296 ^ (m + 3) := by
    have h1 : x * val v ≤ 4294967295 * val v := Nat.mul_le_mul_right _ (by omega)
    rw [hpow]
    omega
  have ht := q9f (q := x) (by omega) (segS ⟨0, u, some v, k, x⟩) v 0 0 (by omega) (by omega) (by omega) (by rw [hsl]; exact hxv)
  have hol := q9e x (segS ⟨0, u, some v, k, x⟩) v 0 0
  rw [hsl] at ht hol
  rw [hsv] at ht
  have hob := q1n (takeS x (segS ⟨0, u, some v, k, x⟩) v 0 0).1
  rw [hol] at hob
  have hgv := qdj (takeS x (segS ⟨0, u, some v, k, x⟩) v 0 0).1 v 0 (by omega)
  rw [hol] at hgv
  refine ⟨x, (takeS x (segS ⟨0, u, some v, k, x⟩) v 0 0).2, val (u.drop k) / val v, ?_, g3, hQB, rfl, hSB, ?_⟩
  · unfold guessS topS
    simp only [Option.getD_some, Int.toNat_natCast, hn, show m + 2 - 1 = m + 1 from rfl, show m + 2 - 2 = m from rfl, show k + (m + 2) - 2 = k + m by omega, show k + (m + 2) - 1 = k + (m + 1) by omega]
    rw [hx]
  · obtain ⟨ht1, ht2⟩ := ht
    generalize val (u.drop k) / val v = Q at *
    generalize takeS x (segS ⟨0, u, some v, k, x⟩) v 0 0 = tk at *
    have hSW : val (u.drop k) < 4294967296 ^ (m + 3) := by rw [hpow]; omega
    generalize 4294967296 ^ (m + 3) = W at *
    have hQ3 : (Q + 1) * val v = Q * val v + val v := by rw [Nat.add_mul, Nat.one_mul]
    rw [hQ3] at hQ2
    rcases (show x = Q ∨ x = Q + 1 by omega) with rfl | rfl
    · have hb0 : tk.2 = 0 := by
        rcases (show tk.2 = 0 ∨ tk.2 = 1 by omega) with h | h
        · exact h
        · rw [h] at ht1; omega
      refine ⟨fun h => by omega, fun _ => ⟨rfl, ?_, ?_⟩⟩
      · rw [hb0] at ht1; omega
      · rw [hb0] at ht1; omega
    · rw [hQ3] at ht1
      have hb1 : tk.2 = 1 := by
        rcases (show tk.2 = 0 ∨ tk.2 = 1 by omega) with h | h
        · rw [h] at ht1; omega
        · exact h
      rw [hb1] at ht1
      have hg2 : val (giveS tk.1 v 0) = val (u.drop k) - Q * val v := by
        rw [hgv, show val tk.1 + val v + 0 = (val (u.drop k) - Q * val v) + W by omega, Nat.add_mod_right, Nat.mod_eq_of_lt (by omega)]
      refine ⟨fun _ => ⟨rfl, by omega, by omega⟩, fun h => absurd hb1 h⟩
end Go.Proofs.YtikkpecdkdgmfaaDoor

/- Numbers of any size: long division. -/
set_option maxRecDepth 100000
set_option maxHeartbeats 2000000
namespace Go.Proofs.YtikkpecdkdgmfaaDoor
open Go Go.Den
theorem qfl {H : Heap} {id ver off n cap : Nat} {ty : TypeId} {l : List UInt32} (h : H[id]? = some (.row ver 1 ty (l.map eu))) : reach 64 H (.sl id ver off n cap) = [id] := by
  show id :: (match H[id]? with | some (.row _ _ _ es) => es.flatMap fun e => e.cells.flatMap (reach 63 H) | _ => []) = [id]
  rw [h]
  dsimp only
  rw [List.cons.injEq]
  refine ⟨rfl, List.flatMap_eq_nil_iff.2 fun e he => ?_⟩
  obtain ⟨x, _, rfl⟩ := List.mem_map.1 he
  rfl
theorem kGuessH {R : Type} {id : Nat} {u : List UInt32} {v : Option (List UInt32)} {i : Int} {H : Heap} (h : H[id]? = some (.row 0 1 64 (u.map eu))) (hp : guessP (some u) v i) {k : AV → Heap → Option R} : polK pGuess [.sl id 0 0 u.length u.length, eD v, .int .i64 i] H k = k (.int .u64 (guessS (some u) v i)) H := by
  unfold pGuess
  have hf : q0r H [.sl id 0 0 u.length u.length, eD v, .int .i64 i] = some [eD (some u), eD v, .int .i64 i] := q0m (q1p h rfl 62) (q0m frz_eD (q0m rfl rfl))
  rw [q2d hf]
  simp only [p3_app, qd7, dec_cI, Option.bind_some]
  rw [if_pos hp]
  rfl
theorem kBackH {R : Type} {id : Nat} {u : List UInt32} {s : Nat} {H : Heap} (h : H[id]? = some (.row 0 1 64 (u.map eu))) (hu : u.length ≤ 2000000) (hs : s ≤ 31) {k : AV → Heap → Option R} : polK pBack [.sl id 0 0 u.length u.length, .int .i64 (s : Nat)] H k = k (eD (some (digs u.length (val u / 2 ^ s)))) (H.set id .dead) := by
  unfold pBack
  have hf : q0r H [.sl id 0 0 u.length u.length, .int .i64 (s : Nat)] = some [eD (some u), .int .i64 (s : Nat)] := q0m (q1p h rfl 62) (q0m rfl rfl)
  rw [q2d hf]
  simp only [p2_app, qd7, dec_cI, Option.bind_some]
  rw [if_pos ⟨hu, by omega, by omega⟩]
  have hr : ([AV.sl id 0 0 u.length u.length, .int .i64 (s : Nat)]).flatMap (reach 64 H) = [id] := by
    simp only [List.flatMap_cons, List.flatMap_nil, qfl h]
    rfl
  rw [hr]
  rfl
noncomputable abbrev TDvd : List (FuncId × Pol) := [(65, pGuess), (66, pTake), (67, pGive), (64, q5z), (38, pCut), (68, pBack)]
theorem div_loop {v : List UInt32} {ui qi n N M s : Nat} (hn : v.length = n) (h2 : 2 ≤ n) (htop : 2147483648 ≤ at_ v (n - 1)) (hN : N ≤ 2000000) (hM : M ≤ 2000000) (hne : ui ≠ qi) : ∀ (j : Nat) (u q : List UInt32) (H : Heap), u.length = N → q.length = M → j ≤ M → j + n ≤ N → val (u.drop j) < val v →
    H[ui]? = some (.row 0 1 64 (u.map eu)) → H[qi]? = some (.row 0 1 64 (q.map eu)) →
    ∃ (H' : Heap) (u' q' : List UInt32), LDoes (L45_1 (polT TDvd)) ⟨[.int .i64 (s : Nat), eD (some v), .sl ui 0 0 N N, .sl qi 0 0 M M, .int .i64 ((j : Int) - 1)], []⟩ H 0 ⟨[.int .i64 (s : Nat), .sl ui 0 0 N N, .sl qi 0 0 M M], []⟩ H' ∧
      H'[ui]? = some (.row 0 1 64 (u'.map eu)) ∧ H'[qi]? = some (.row 0 1 64 (q'.map eu)) ∧ u'.length = N ∧ q'.length = M ∧ val u' < val v ∧ val u' + val v * val (q'.take j) = val u ∧ q'.drop j = q.drop j := by
  intro j
  induction j with
  | zero =>
    intro u q H hu hq hjM hjN hinv hHu hHq
    refine ⟨H, u, q, LDoes.step (Evs.of fun n m => ?_), hHu, hHq, hu, hq, by simpa using hinv, by simp [val], rfl⟩
    simp [↓q00, ↓q01, q6e]
  | succ k ih =>
    intro u q H hu hq hjM hjN hinv hHu hHq
    obtain ⟨hu0, x, b, Q, hg, hx, hQ, hb, hSB, hb1, hb0⟩ := qja (u := u) (v := v) (k := k) hn h2 (by omega) htop hinv
    have hgP : guessP (some u) (some v) (k : Nat) := by
      unfold guessP
      simp only [Option.getD_some, Int.toNat_natCast, hn]
      exact ⟨by omega, h2, by omega, by omega, by omega, htop, hu0⟩
    have hG := @kGuessH
    have hgk : ∀ (K : AV → Heap → Option (Nat × Live × Heap)), polK pGuess [.sl ui 0 0 N N, eD (some v), .int .i64 (k : Nat)] H K = K (.int .u64 (x : Nat)) H := fun K => by
      have h := kGuessH (k := K) hHu hgP
      rw [hg, hu] at h
      exact h
    have hat : atRow ⟨ui, u, some v, k, x⟩ H := ⟨hHu, by dsimp only; omega, by simp only [Option.getD_some, hn]; omega⟩
    have hseg : ∀ i : Nat, segS ⟨i, u, some v, k, x⟩ = segS ⟨0, u, some v, k, x⟩ := fun _ => rfl
    have htl := q9e x (segS ⟨0, u, some v, k, x⟩) v 0 0
    have hsl : (segS ⟨0, u, some v, k, x⟩).length = n + 1 := by
      unfold segS
      simp only [Option.getD_some, List.length_take, List.length_drop, hn]
      omega
    rw [hsl] at htl
    have htk : ∀ (K : AV → Heap → Option (Nat × Live × Heap)), polK pTake [.sl ui 0 0 N N, eD (some v), .int .i64 (k : Nat), .int .u64 (x : Nat)] H K = K (.bool (decide (b = 1))) (H.set ui (.row 0 1 64 ((putS ⟨0, u, some v, k, x⟩ (takeS x (segS ⟨0, u, some v, k, x⟩) v 0 0).1).map eu))) := fun K => by
      have h := kTake (k := K) hat (by dsimp only; omega)
      dsimp only at h
      rw [hu] at h
      rw [h]
      unfold q95
      dsimp only [Option.getD_some]
      simp only [hseg, hb]
      rfl
    generalize takeS x (segS ⟨0, u, some v, k, x⟩) v 0 0 = tk at *
    -- what stands in the row: o where the digit is taken
    have put_len : ∀ o : List UInt32, o.length = n + 1 → (putS ⟨0, u, some v, k, x⟩ o).length = N := fun o ho => by
      unfold putS
      simp only [Option.getD_some, List.length_append, List.length_take, List.length_drop, ho, hn]
      omega
    have put_val : ∀ o : List UInt32, o.length = n + 1 → val o + Q * val v = val (u.drop k) → val o < val v → val (putS ⟨0, u, some v, k, x⟩ o) + val v * (4294967296 ^ k * Q) = val u ∧ val ((putS ⟨0, u, some v, k, x⟩ o).drop k) < val v := fun o ho hov hol => by
      have hzz : val (u.drop (k + n + 1)) = 0 := by
        have e := q1q (l := u.drop (k + 1)) (n := n) (by rw [List.length_drop]; omega)
        rw [List.drop_drop, show k + 1 + n = k + n + 1 by omega] at e
        have hvn : val v < 4294967296 ^ n := by rw [← hn]; exact q1n v
        rcases Nat.eq_zero_or_pos (val (u.drop (k + n + 1))) with h0 | h0
        · exact h0
        · exfalso
          have : 4294967296 ^ n * 1 ≤ 4294967296 ^ n * val (u.drop (k + n + 1)) := Nat.mul_le_mul_left _ h0
          omega
      have hku : (u.take k).length = k := by rw [List.length_take]; omega
      have hdr : (putS ⟨0, u, some v, k, x⟩ o).drop k = o ++ u.drop (k + n + 1) := by
        unfold putS
        simp only [Option.getD_some, hn]
        rw [List.append_assoc, List.drop_append, List.drop_of_length_le (by omega), hku, Nat.sub_self, List.drop_zero, List.nil_append]
      have hvd : val (o ++ u.drop (k + n + 1)) = val o := by rw [q3q, hzz, Nat.mul_zero, Nat.add_zero]
      refine ⟨?_, by rw [hdr, hvd]; exact hol⟩
      have e1 : val (putS ⟨0, u, some v, k, x⟩ o) = val (u.take k) + 4294967296 ^ k * val o := by
        unfold putS
        simp only [Option.getD_some, hn]
        rw [List.append_assoc, q3q, hku, hvd]
      rw [e1, q1q (l := u) (n := k) (by omega), ← hov, Nat.mul_add, ← Nat.mul_assoc, Nat.mul_comm (val v), Nat.mul_assoc, Nat.add_assoc, Nat.mul_comm Q]
    have hkq : k < q.length := by omega
    obtain ⟨hdig, o', ho', hov', hol', hwalk⟩ : (if b = 1 then x - 1 else x) = Q ∧ ∃ o' : List UInt32, o'.length = n + 1 ∧ val o' + Q * val v = val (u.drop k) ∧ val o' < val v ∧
        (if b = 1 then ∀ (K : AV → Heap → Option (Nat × Live × Heap)), polK pGive [.sl ui 0 0 N N, eD (some v), .int .i64 (k : Nat)] (H.set ui (.row 0 1 64 ((putS ⟨0, u, some v, k, x⟩ tk.1).map eu))) K = K (.tup []) (H.set ui (.row 0 1 64 ((putS ⟨0, u, some v, k, x⟩ o').map eu))) else o' = tk.1) := by
      by_cases hbb : b = 1
      · obtain ⟨hx1, hv1, hl1⟩ := hb1 hbb
        rw [if_pos hbb]
        refine ⟨by omega, giveS tk.1 v 0, by rw [qdi]; exact htl, hv1, hl1, ?_⟩
        rw [if_pos hbb]
        intro K
        have hku : (u.take k).length = k := by rw [List.length_take]; omega
        have hps : segS ⟨ui, putS ⟨0, u, some v, k, x⟩ tk.1, some v, k, x⟩ = tk.1 := by
          unfold segS putS
          simp only [Option.getD_some, hn]
          rw [List.append_assoc, List.drop_append, List.drop_of_length_le (by omega), hku, Nat.sub_self, List.drop_zero, List.nil_append, List.take_append_of_le_length (by omega), List.take_of_length_le (by omega)]
        have hpp : ∀ r, putS ⟨ui, putS ⟨0, u, some v, k, x⟩ tk.1, some v, k, x⟩ r = putS ⟨0, u, some v, k, x⟩ r := fun r => by
          unfold putS
          simp only [Option.getD_some, hn]
          congr 1
          · congr 1
            rw [List.append_assoc, List.take_append_of_le_length (by omega), List.take_of_length_le (by omega)]
          · rw [List.drop_append, List.drop_of_length_le (by simp only [List.length_append]; omega), List.nil_append]
            simp only [List.length_append, hku, htl]
            rw [show k + n + 1 - (k + (n + 1)) = 0 by omega, List.drop_zero]
        have hat2 : atRow ⟨ui, putS ⟨0, u, some v, k, x⟩ tk.1, some v, k, x⟩ (H.set ui (.row 0 1 64 ((putS ⟨0, u, some v, k, x⟩ tk.1).map eu))) := ⟨q1o hHu, by dsimp only; rw [put_len _ htl]; exact hN, by simp only [Option.getD_some, hn]; rw [put_len _ htl]; omega⟩
        have h := kGive (k := K) hat2
        dsimp only at h
        rw [put_len _ htl] at h
        rw [h]
        unfold q94
        dsimp only [Option.getD_some]
        rw [hps, hpp, List.set_set]
      · obtain ⟨hx0, hv0, hl0⟩ := hb0 hbb
        rw [if_neg hbb]
        refine ⟨hx0, tk.1, htl, hv0, hl0, ?_⟩
        rw [if_neg hbb]
    obtain ⟨hval, hdrop⟩ := put_val o' ho' hov' hol'
    have hH1q : (H.set ui (.row 0 1 64 ((putS ⟨0, u, some v, k, x⟩ o').map eu)))[qi]? = some (.row 0 1 64 (q.map eu)) := by rw [get_set_ne hne]; exact hHq
    obtain ⟨r1, r2, r3⟩ := lrow (k := .i64) (n := M) (j := k) (i := (k : Int)) hH1q hq.symm hkq rfl
    have hst := r3 (UInt32.ofNat Q)
    have hHu2 : ((H.set ui (.row 0 1 64 ((putS ⟨0, u, some v, k, x⟩ o').map eu))).set qi (.row 0 1 64 ((q.set k (UInt32.ofNat Q)).map eu)))[ui]? = some (.row 0 1 64 ((putS ⟨0, u, some v, k, x⟩ o').map eu)) := by
      rw [get_set_ne (Ne.symm hne)]
      exact q1o hHu
    obtain ⟨H', u', q', hL, s1, s2, s3, s4, s5, s6, s7⟩ := ih (putS ⟨0, u, some v, k, x⟩ o') (q.set k (UInt32.ofNat Q)) _ (put_len o' ho') (by rw [List.length_set, hq]) (by omega) (by omega) hdrop hHu2 (q1o hH1q)
    have hkq' : k < q'.length := by omega
    have hqk : q'[k] = UInt32.ofNat Q := by
      have e : (q'.drop k)[0]? = ((q.set k (UInt32.ofNat Q)).drop k)[0]? := by rw [s7]
      rw [List.getElem?_drop, List.getElem?_drop, Nat.add_zero, List.getElem?_eq_getElem hkq', List.getElem?_set_self hkq] at e
      exact Option.some.inj e
    refine ⟨H', u', q', ?_, s1, s2, s3, s4, s5, ?_, ?_⟩
    · refine LDoes.step (Evs.withL hL (Evs.of fun n' m _ h3 => ?_))
      have hj1 : ((k + 1 : Nat) : Int) - 1 = (k : Nat) := by omega
      rw [hj1]
      have hk0 : (0 : Int) ≤ (k : Int) := by omega
      have hw : IntKind.wrap .u32 (Q : Int) = ((UInt32.ofNat Q).toNat : Int) := q0n Q
      simp only [List.map_set] at h3 hst
      generalize UInt32.ofNat Q = dq at *
      by_cases hbb : b = 1
      · rw [if_pos hbb] at hwalk hdig
        have hxQ : (x : Int) - 1 = (Q : Int) := by
          have := (hb1 hbb).1
          omega
        generalize (putS ⟨0, u, some v, k, x⟩ o').map eu = row1 at *
        generalize (putS ⟨0, u, some v, k, x⟩ tk.1).map eu = row0 at *
        clear ih hL put_len put_val hG hb0 hb1 hat r3
        simp (disch := omega) [↓q00, ↓q03, ↓q01, ↓q0e, ↓q02, q6e, hk0, hgk, htk, hbb, hwalk, hxQ, q0g, q08, q0p, hw, r1, hst, h3]
      · rw [if_neg hbb] at hwalk hdig
        subst hwalk
        subst hdig
        generalize (putS ⟨0, u, some v, k, x⟩ tk.1).map eu = row0 at *
        clear ih hL put_len put_val hG hb0 hb1 hat r3
        simp (disch := omega) [↓q00, ↓q03, ↓q01, ↓q0e, ↓q02, q6e, hk0, hgk, htk, hbb, q08, q0p, hw, r1, hst, h3]
    · rw [q0z hkq', hqk, q0v, Nat.mod_eq_of_lt hQ, Nat.mul_add, ← Nat.add_assoc, s6]
      exact hval
    · have e1 : q'.drop (k + 1) = (q'.drop k).drop 1 := by rw [List.drop_drop]
      have e2 : q.drop (k + 1) = ((q.set k (UInt32.ofNat Q)).drop k).drop 1 := by rw [List.drop_drop, List.drop_set_of_lt (by omega)]
      rw [e1, e2, s7]
end Go.Proofs.YtikkpecdkdgmfaaDoor

/- Numbers of any size: long division, as an entry. -/
set_option maxRecDepth 100000
set_option maxHeartbeats 2000000
namespace Go.Proofs.YtikkpecdkdgmfaaDoor
open Go Go.Den
theorem shr_u32 {P : Program} {t : TypeId} {c : Bool} {H : Heap} {a s : Nat} {j : IntKind} (h : s ≤ 32) : A.bin P .shr t (.int .u32 (a : Int)) (.int j (s : Int)) c H = some (.int .u32 ((a / 2 ^ s : Nat) : Int)) := by
  simp only [A.bin, A.binInt]
  rw [if_neg (by omega)]
  have : min (s : Int).toNat (IntKind.bits .u32) = s := by simp [IntKind.bits]; omega
  have e : (2 : Int) ^ s = ((2 ^ s : Nat) : Int) := by push_cast; rfl
  rw [this, e, Int.fdiv_eq_ediv_of_nonneg _ (Int.natCast_nonneg _)]
  rfl
theorem shl_u32 {P : Program} {t : TypeId} {c : Bool} {H : Heap} {a s : Nat} {j : IntKind} (h : s ≤ 32) (hl : 2 ^ s * a < 4294967296) : A.bin P .shl t (.int .u32 (a : Int)) (.int j (s : Int)) c H = some (.int .u32 ((2 ^ s * a : Nat) : Int)) := by
  rw [Nat.mul_comm] at hl ⊢
  simp only [A.bin, A.binInt]
  rw [if_neg (by omega)]
  have : min (s : Int).toNat (IntKind.bits .u32) = s := by simp [IntKind.bits]; omega
  rw [this]
  have e : (a : Int) * 2 ^ s = ((a * 2 ^ s : Nat) : Int) := by push_cast; rfl
  rw [e, q7x (by omega) (by omega)]
theorem qie {pol : FuncId → Pol} {a0 : AV} {d : Option (List UInt32)} {n : Nat} (hn : (d.getD []).length = n) (h1 : 1 ≤ n) (hnb : n ≤ 2000000) (ht : at_ (d.getD []) (n - 1) ≠ 0) (H : Heap) : ∀ (f s : Nat), s + f = 32 → 2 ^ s * at_ (d.getD []) (n - 1) < 4294967296 →
    ∃ s', s' ≤ 31 ∧ 2147483648 ≤ 2 ^ s' * at_ (d.getD []) (n - 1) ∧ 2 ^ s' * at_ (d.getD []) (n - 1) < 4294967296 ∧ LDoes (L45_0 pol) ⟨[a0, eD d, .int .i64 (s : Nat)], []⟩ H 0 ⟨[a0, eD d, .int .i64 (s' : Nat)], []⟩ H := by
  intro f
  induction f with
  | zero =>
    intro s hs hlt
    exfalso
    have : s = 32 := by omega
    subst this
    omega
  | succ f ih =>
    intro s hs hlt
    have i1 : A.idx 1 (eD d) (.int .i64 ((n : Int) - 1)) H = some (.rop [.int .u32 (at_ (d.getD []) (n - 1) : Nat)]) := by
      rw [show (n : Int) - 1 = ((n - 1 : Nat) : Int) by omega]
      exact q42 (d := d) (by omega) H
    have hshl : A.bin base.P .shl 64 (.int .u32 (at_ (d.getD []) (n - 1) : Int)) (.int .i64 (s : Int)) false H = some (.int .u32 ((2 ^ s * at_ (d.getD []) (n - 1) : Nat) : Int)) := shl_u32 (by omega) hlt
    have hshr : A.bin base.P .shr 64 (.int .u32 ((2 ^ s * at_ (d.getD []) (n - 1) : Nat) : Int)) (.int .u64 31) true H = some (.int .u32 ((2 ^ s * at_ (d.getD []) (n - 1) / 2 ^ 31 : Nat) : Int)) := shr_u32 (s := 31) (by omega)
    by_cases hc : 2 ^ s * at_ (d.getD []) (n - 1) < 2147483648
    · obtain ⟨s', g1, g2, g3, hL⟩ := ih (s + 1) (by omega) (by rw [Nat.pow_succ, Nat.mul_comm (2 ^ s) 2, Nat.mul_assoc]; omega)
      refine ⟨s', g1, g2, g3, LDoes.step (Evs.withL hL (Evs.of fun n' m _ h3 => ?_))⟩
      have hz : ((2 ^ s * at_ (d.getD []) (n - 1) / 2 ^ 31 : Nat) : Int) = 0 := by
        rw [Nat.div_eq_of_lt (by omega)]; rfl
      rw [hz] at hshr
      generalize ((2 ^ s * at_ (d.getD []) (n - 1) : Nat) : Int) = y at *
      simp only [Int.natCast_add, Int.natCast_one] at h3
      simp (disch := omega) [↓q00, ↓q01, qa5, hn, q08, i1, hshl, hshr, h3]
    · refine ⟨s, by omega, by omega, hlt, LDoes.step (Evs.of fun n' m => ?_)⟩
      have hz : ((2 ^ s * at_ (d.getD []) (n - 1) / 2 ^ 31 : Nat) : Int) = 1 := by
        have : 2 ^ s * at_ (d.getD []) (n - 1) / 2 ^ 31 = 1 := by omega
        rw [this]; rfl
      rw [hz] at hshr
      generalize ((2 ^ s * at_ (d.getD []) (n - 1) : Nat) : Int) = y at *
      simp (disch := omega) [↓q00, ↓q01, qa5, hn, q08, i1, hshl, hshr]
theorem norm_top {b : List UInt32} {n s : Nat} (hn : b.length = n) (h1 : 1 ≤ n) (hs : s ≤ 31) (hlo : 2147483648 ≤ 2 ^ s * at_ b (n - 1)) (hhi : 2 ^ s * at_ b (n - 1) < 4294967296) :
    (lim (2 ^ s * val b)).length = n ∧ 2147483648 ≤ at_ (lim (2 ^ s * val b)) (n - 1) ∧ 2147483648 * 4294967296 ^ (n - 1) ≤ 2 ^ s * val b := by
  obtain ⟨m, rfl⟩ : ∃ m, n = m + 1 := ⟨n - 1, by omega⟩
  rw [show m + 1 - 1 = m from rfl] at *
  have hb : val b = val (b.take m) + 4294967296 ^ m * at_ b m := by rw [← q37, List.take_of_length_le (by omega)]
  have hbt := q15 b m
  have hsp := q8y hs
  have hP : 0 < 2 ^ s := Nat.pow_pos (by omega)
  have htop : 2 ^ s * (at_ b m + 1) ≤ 4294967296 := by
    rw [← hsp] at hhi ⊢
    have := Nat.lt_of_mul_lt_mul_left hhi
    exact Nat.mul_le_mul_left _ this
  have hge : 2147483648 * 4294967296 ^ m ≤ 2 ^ s * val b := by
    rw [hb, Nat.mul_add, Nat.mul_left_comm]
    have : 4294967296 ^ m * 2147483648 ≤ 4294967296 ^ m * (2 ^ s * at_ b m) := Nat.mul_le_mul_left _ hlo
    rw [Nat.mul_comm 2147483648]
    exact Nat.le_trans this (Nat.le_add_left _ _)
  have hlt : 2 ^ s * val b < 4294967296 ^ (m + 1) := by
    have h2 : val b < 4294967296 ^ m * (at_ b m + 1) := by rw [hb, Nat.mul_add, Nat.mul_one]; omega
    have h3 : 2 ^ s * val b < 2 ^ s * (4294967296 ^ m * (at_ b m + 1)) := Nat.mul_lt_mul_of_pos_left h2 hP
    have h4 : 2 ^ s * (4294967296 ^ m * (at_ b m + 1)) ≤ 4294967296 ^ (m + 1) := by
      rw [Nat.mul_left_comm, Nat.pow_succ]
      exact Nat.mul_le_mul_left _ htop
    exact Nat.lt_of_lt_of_le h3 h4
  have hle : (lim (2 ^ s * val b)).length ≤ m + 1 := lim_le.2 hlt
  have hat : 2147483648 ≤ at_ (lim (2 ^ s * val b)) m := by
    have e : val (lim (2 ^ s * val b)) = val ((lim (2 ^ s * val b)).take m) + 4294967296 ^ m * at_ (lim (2 ^ s * val b)) m := by rw [← q37, List.take_of_length_le hle]
    rw [q0q] at e
    have h4 := q15 (lim (2 ^ s * val b)) m
    have h5 : 4294967296 ^ m * 2147483648 < 4294967296 ^ m * (at_ (lim (2 ^ s * val b)) m + 1) := by
      rw [Nat.mul_add, Nat.mul_one, Nat.mul_comm _ 2147483648]
      omega
    have := Nat.lt_of_mul_lt_mul_left h5
    omega
  refine ⟨?_, hat, hge⟩
  rcases Nat.lt_or_ge (lim (2 ^ s * val b)).length (m + 1) with h | h
  · rw [qis (by omega)] at hat
    omega
  · omega
def q4q (a b : Option (List UInt32)) : List UInt32 × List UInt32 := (digs ((a.getD []).length - (b.getD []).length + 1) (val (a.getD []) / val (b.getD [])), digs ((a.getD []).length + 1) (val (a.getD []) % val (b.getD [])))
def q7q (a b : Option (List UInt32)) : Prop := 2 ≤ (b.getD []).length ∧ (b.getD []).length ≤ (a.getD []).length ∧ (a.getD []).length ≤ 900000 ∧ at_ (b.getD []) ((b.getD []).length - 1) ≠ 0
noncomputable def q5y : Pol := .still (p2 cD cD (fun r : List UInt32 × List UInt32 => .tup [eD (some r.1), eD (some r.2)]) q7q q4q)
theorem quot_val {A B V U q r p : Nat} (hp : 0 < p) (hV : V = p * B) (hU : U = p * A) (h : r + V * q = U) (hr : r < V) : q = A / B ∧ r / p = A % B := by
  subst hV hU
  have hB : 0 < p * B := by omega
  have h1 : (p * A) / (p * B) = q := by
    rw [← h, Nat.add_mul_div_left _ _ hB, Nat.div_eq_of_lt hr, Nat.zero_add]
  have h2 : (p * A) % (p * B) = r := by
    rw [← h, Nat.add_mul_mod_self_left, Nat.mod_eq_of_lt hr]
  rw [Nat.mul_div_mul_left _ _ hp] at h1
  rw [Nat.mul_mod_mul_left] at h2
  exact ⟨h1.symm, by rw [← h2, Nat.mul_div_cancel_left _ hp]⟩
theorem frz_two {H : Heap} {id n : Nat} {ty : TypeId} {l : List UInt32} {d : Option (List UInt32)} (h : H[id]? = some (.row 0 1 ty (l.map eu))) (hn : n = l.length) : A.freezeB true 64 H (.tup [.sl id 0 0 n n, eD d]) = some (.tup [eD (some l), eD d]) := by
  have h1 : A.freezeB true 63 H (.sl id 0 0 n n) = _ := q1p h hn 61
  have h2 : A.freezeB true 63 H (eD d) = some (eD d) := (qf5 (v := eD d) (by simp) 60 H).1
  rw [q7f]
  simp [h1, h2]
theorem okDivided : PolOK base 45 q5y := still2 base_ok TDvd ⟨okGuess, okTake, okGive, okShifted, okCut, okBack, trivial⟩ fun a b ⟨h2, hab, hla, htop⟩ => by
  obtain ⟨n, hn⟩ : ∃ n, (b.getD []).length = n := ⟨_, rfl⟩
  obtain ⟨la, hal⟩ : ∃ n, (a.getD []).length = n := ⟨_, rfl⟩
  rw [hn, hal] at hab
  rw [hn] at h2 htop
  rw [hal] at hla
  have fa : few a := by unfold few; omega
  have fb : few b := by unfold few; omega
  obtain ⟨s, hs, hlo, hhi, hL0⟩ := qie (pol := polT TDvd) (a0 := eD a) (d := b) (n := n) hn (by omega) (by omega) htop [] 32 0 rfl (by have := q3g (b.getD []) (n - 1); omega)
  obtain ⟨hvl, hvt, hvV⟩ := norm_top hn (by omega) hs hlo hhi
  have hps : 0 < 2 ^ s := Nat.pow_pos (by omega)
  have hp31 := qdz hs
  have sh_val : ∀ l : List UInt32, val (q0s l s) = 2 ^ s * val l := fun l => by
    unfold q0s
    refine q11 ?_
    have := q1n l
    rw [Nat.pow_succ, Nat.mul_comm _ 4294967296]
    exact Nat.lt_of_lt_of_le (Nat.mul_lt_mul_of_pos_left this hps) (Nat.mul_le_mul_right _ (by omega))
  have sh_len : ∀ l : List UInt32, (q0s l s).length = l.length + 1 := fun l => by unfold q0s; rw [q0a]
  -- what it is divided by
  obtain ⟨G, hcut⟩ : ∃ G : Heap, ∀ (k : AV → Heap → Option AV), polK pCut [.sl 0 0 0 (n + 1) (n + 1)] [.row 0 1 64 ((q0s (b.getD []) s).map eu)] k = k (eD (some (lim (2 ^ s * val (b.getD []))))) G := ⟨_, fun k => by
    unfold pCut
    have hf : q0r [.row 0 1 64 ((q0s (b.getD []) s).map eu)] [.sl 0 0 0 (n + 1) (n + 1)] = some [eD (some (q0s (b.getD []) s))] := q0m (q1p (l := q0s (b.getD []) s) rfl (by rw [sh_len, hn]) 62) rfl
    rw [q2d hf]
    simp only [p1_app, qd7, Option.bind_some]
    rw [if_pos (by unfold few; rw [Option.getD_some, sh_len]; omega)]
    unfold cutS
    rw [Option.map_some, sh_val]
    rfl⟩
  have hV : val (lim (2 ^ s * val (b.getD []))) = 2 ^ s * val (b.getD []) := q0q _
  generalize lim (2 ^ s * val (b.getD [])) = v at *
  -- the digits
  obtain ⟨M, hM⟩ : ∃ M, M = la - n + 1 := ⟨_, rfl⟩
  have hmk : A.makeSlice 1 4 64 (.int .u32 0) (.int .i64 ((la : Int) - (n : Int) + 1)) (.int .i64 ((la : Int) - (n : Int) + 1)) (G ++ [.row 0 1 64 ((q0s (a.getD []) s).map eu)]) = some (.sl (G.length + 1) 0 0 M M, G ++ [.row 0 1 64 ((q0s (a.getD []) s).map eu)] ++ [.row 0 1 64 ((List.replicate M (0 : UInt32)).map eu)]) := by
    rw [show (la : Int) - (n : Int) + 1 = ((M : Nat) : Int) by omega, q3y (bytes := 4) (l := ((M : Nat) : Int)) (by omega) (by omega) (by omega)]
    simp
  have hinv : val ((q0s (a.getD []) s).drop M) < val v := by
    have e := q1q (l := q0s (a.getD []) s) (n := M) (by rw [sh_len, hal]; omega)
    rw [sh_val] at e
    have h3 := q1n (a.getD [])
    rw [hal] at h3
    have h4 : 4294967296 ^ M * val ((q0s (a.getD []) s).drop M) < 4294967296 ^ M * (2147483648 * 4294967296 ^ (n - 1)) := by
      have e1 : 4294967296 ^ M * (2147483648 * 4294967296 ^ (n - 1)) = 2147483648 * 4294967296 ^ la := by
        rw [Nat.mul_left_comm, ← Nat.pow_add, show M + (n - 1) = la by omega]
      rw [e1]
      have h5 : 2 ^ s * val (a.getD []) < 2 ^ s * 4294967296 ^ la := Nat.mul_lt_mul_of_pos_left h3 hps
      have h6 : 2 ^ s * 4294967296 ^ la ≤ 2147483648 * 4294967296 ^ la := Nat.mul_le_mul_right _ hp31
      generalize 4294967296 ^ M * val ((q0s (a.getD []) s).drop M) = X at *
      omega
    have := Nat.lt_of_mul_lt_mul_left h4
    rw [hV]
    omega
  obtain ⟨H', u', q', hL, s1, s2, s3, s4, s5, s6, -⟩ := div_loop (v := v) (ui := G.length) (qi := G.length + 1) (n := n) (N := la + 1) (M := M) (s := s) hvl h2 hvt (by omega) (by omega) (by omega) M (q0s (a.getD []) s) (List.replicate M 0) (G ++ [.row 0 1 64 ((q0s (a.getD []) s).map eu)] ++ [.row 0 1 64 ((List.replicate M (0 : UInt32)).map eu)])
    (by rw [sh_len, hal]) (by simp) (Nat.le_refl _) (by omega) hinv (by simp) (by simp)
  rw [List.take_of_length_le (by omega), sh_val] at s6
  obtain ⟨hq, hr⟩ := quot_val hps hV rfl s6 s5
  have hbk : ∀ (k : AV → Heap → Option AV), polK pBack [.sl G.length 0 0 (la + 1) (la + 1), .int .i64 (s : Nat)] H' k = k (eD (some (digs (la + 1) (val (a.getD []) % val (b.getD []))))) (H'.set G.length .dead) := fun k => by
    have h := kBackH (k := k) (s := s) s1 (by omega) hs
    rw [s3, hr] at h
    exact h
  have hfz : A.freezeB true 64 (H'.set G.length .dead) (.tup [.sl (G.length + 1) 0 0 M M, eD (some (digs (la + 1) (val (a.getD []) % val (b.getD []))))]) = some (.tup [eD (some q'), eD (some (digs (la + 1) (val (a.getD []) % val (b.getD []))))]) :=
    frz_two (by rw [get_set_ne (by omega)]; exact s2) s4.symm
  have hqd : q' = digs M (val (a.getD []) / val (b.getD [])) := q6o s4 hq
  refine Evs.withL hL0 (Evs.withL hL (Evs.of fun n' m g3 _ g0 _ => ?_))
  unfold q4q
  dsimp only
  rw [hal, hn, ← hM, ← hqd]
  have hM1 : (M : Int) - 1 = (la : Int) - (n : Int) := by omega
  rw [hM1] at g3
  have e0 : ((0 : Nat) : Int) = 0 := rfl
  simp only [e0] at g0
  have hsh1 : ∀ (k : AV → Heap → Option AV), polK q5z [eD b, .int .i64 (s : Nat)] [] k = k (.sl 0 0 0 (n + 1) (n + 1)) [.row 0 1 64 ((q0s (b.getD []) s).map eu)] := fun k => by
    rw [qgb fb hs, hn]
    rfl
  have hsh2 : ∀ (k : AV → Heap → Option AV), polK q5z [eD a, .int .i64 (s : Nat)] G k = k (.sl G.length 0 0 (la + 1) (la + 1)) (G ++ [.row 0 1 64 ((q0s (a.getD []) s).map eu)]) := fun k => by
    rw [qgb fa hs, hal]
  generalize digs (la + 1) (val (a.getD []) % val (b.getD [])) = rd at *
  generalize G ++ [.row 0 1 64 ((q0s (a.getD []) s).map eu)] ++ [.row 0 1 64 ((List.replicate M (0 : UInt32)).map eu)] = H7 at *
  generalize G ++ [.row 0 1 64 ((q0s (a.getD []) s).map eu)] = H6 at *
  generalize [HObj.row 0 1 64 ((q0s (b.getD []) s).map eu)] = H2 at *
  simp (disch := omega) [↓q03, ↓q01, ↓q0k, ↓q02, S45, g0, hsh1, hcut, hsh2, hal, hn, q08, hmk, g3, hbk, hfz]
end Go.Proofs.YtikkpecdkdgmfaaDoor

/- Numbers of any size: quotients. -/
set_option maxRecDepth 100000
set_option maxHeartbeats 2000000
namespace Go.Proofs.YtikkpecdkdgmfaaDoor
open Go Go.Den
theorem kDivided {R : Type} {a b : Option (List UInt32)} (h : q7q a b) {H : Heap} {k : AV → Heap → Option R} : polK q5y [eD a, eD b] H k = k (.tup [eD (some (q4q a b).1), eD (some (q4q a b).2)]) H := by
  simp [q5y, q0h, h]
noncomputable def pDiv : Pol := .still (p2 cN cN eDiv (fun a b => lot a.2 ∧ lot b.2) divS)
noncomputable abbrev TDiv : List (FuncId × Pol) := [(38, pCut), (44, pSize), (19, pNorm), (36, pByOne), (34, pMade), (45, q5y)]
theorem okDiv : PolOK base 21 pDiv := still2 base_ok TDiv ⟨okCut, okSize, okNorm, okByOne, okMade, okDivided, trivial⟩ fun a b ⟨la, lb⟩ => by
  refine Evs.of fun n m => ?_
  have ha := la.few
  have hb := lb.few
  have ga : (cutS a.2).getD [] = lim (mag a) := q2a
  have gb : (cutS b.2).getD [] = lim (mag b) := q2a
  have fa := qbl ha
  have fb := qbl hb
  have hsz : sizeS (cutS a.2) (cutS b.2) = cmpN (mag a) (mag b) := q98 ga gb
  unfold divS
  by_cases hB : mag b = 0
  · rw [if_pos hB]
    have gb0 : (cutS b.2).getD [] = [] := by rw [gb, hB, q0o]
    simp [↓q00, ↓q03, ↓q07, ↓q0f, ↓q01, ↓q06, S21, qCut ha, qCut hb, A.ofList, gb0, A.fill, A.fits, A.splice]
    exact frz_nnb (d := none) (e := none)
  · rw [if_neg hB]
    have hne : lim (mag b) ≠ [] := fun e => hB (lim_nil.1 e)
    have hl0 : ¬ ((lim (mag b)).length : Int) = 0 := by
      have : lim (mag b) ≠ [] := fun e => hB (lim_nil.1 e)
      have := List.length_pos_iff.2 this
      omega
    by_cases hlt : mag a < mag b
    · rw [if_pos hlt]
      have hc : cmpN (mag a) (mag b) < 0 := by unfold cmpN cmpI; rw [if_pos (by omega)]; omega
      simp [↓q00, ↓q03, ↓q07, ↓q0f, ↓q01, ↓q06, S21, qCut ha, qCut hb, A.ofList, gb, hne, kSize fa fb, hsz, hc, kNorm ha, A.fill, A.fits, A.splice]
      exact frz_nnb (d := none)
    · rw [if_neg hlt]
      have hc : ¬ cmpN (mag a) (mag b) < 0 := by
        unfold cmpN cmpI
        rw [if_neg (by omega)]
        split <;> omega
      by_cases hl : (lim (mag b)).length = 1
      · have hl1 : ((lim (mag b)).length : Int) = 1 := by omega
        have hb32 : mag b < 4294967296 := by
          have := lim_le.1 (Nat.le_of_eq hl)
          simpa using this
        have hy : lim (mag b) = [UInt32.ofNat (mag b)] := by
          rw [q6s hB, Nat.div_eq_of_lt hb32, q0o]
        have hyn : (UInt32.ofNat (mag b)).toNat = mag b := by rw [q0v, Nat.mod_eq_of_lt hb32]
        have hx : A.idx 1 (eD (cutS b.2)) (.int .i64 0) [] = some (.rop [eu (UInt32.ofNat (mag b))]) := by
          have h := q1w (d := cutS b.2) (H := []) (k := .i64) (i := 0) (by rw [gb, hl]; omega)
          have e : ((cutS b.2).getD [])[0]'(by rw [gb, hl]; omega) = UInt32.ofNat (mag b) := by
            have : (cutS b.2).getD [] = [UInt32.ofNat (mag b)] := by rw [gb, hy]
            simp only [this]
            rfl
          rw [e] at h
          exact h
        have hby : byOneS (cutS a.2) (UInt32.ofNat (mag b)) = (some (digs (lim (mag a)).length (mag a / mag b)), UInt32.ofNat (mag a % mag b)) := by
          unfold byOneS
          rw [ga, q0q, hyn]
        have hk : ∀ (H : Heap) (k : AV → Heap → Option AV), polK pByOne [eD (cutS a.2), eu (UInt32.ofNat (mag b))] H k = k (.tup [eD (some (digs (lim (mag a)).length (mag a / mag b))), eu (UInt32.ofNat (mag a % mag b))]) H := fun H k => by
          rw [kByOne fa (by rw [hyn]; exact hB), hby]
        obtain ⟨p, hp⟩ : ∃ p, (a.1 != b.1) = p := ⟨_, rfl⟩
        have hbin : ∀ H, A.bin base.P .neq 4 (.bool a.1) (.bool b.1) false H = some (.bool p) := fun H => by rw [A.bin_bne q36, ← hp]; rfl
        have hq : madeS p (some (digs (lim (mag a)).length (mag a / mag b))) = madeS p (some (lim (mag a / mag b))) := q7t (by
          rw [q0q]
          refine q11 ?_
          have := lim_le.1 (Nat.le_refl (lim (mag a)).length)
          exact Nat.lt_of_le_of_lt (Nat.div_le_self _ _) this)
        have hrm : mag a % mag b < mag b := Nat.mod_lt _ (by omega)
        have hr : madeS a.1 (some [UInt32.ofNat (mag a % mag b)]) = madeS a.1 (some (lim (mag a % mag b))) := q7t (by
          rw [q0q, val, val, q0v, Nat.mod_eq_of_lt (by omega), Nat.mul_zero, Nat.add_zero])
        have fq : few (some (digs (lim (mag a)).length (mag a / mag b))) := by
          unfold few
          simp only [Option.getD_some, q0a]
          have := lot_cut la
          unfold lot at this
          rw [ga] at this
          omega
        generalize UInt32.ofNat (mag a % mag b) = r at *
        generalize UInt32.ofNat (mag b) = y at *
        generalize digs (lim (mag a)).length (mag a / mag b) = q at *
        have hfz : q0r [.row 0 1 64 [eu r]] [.bool a.1, .sl 0 0 0 1 1] = some [.bool a.1, eD (some [r])] := q2b (q0m (q1p (l := [r]) rfl rfl 62) rfl)
        obtain ⟨G, hm⟩ : ∃ G : Heap, ∀ (k : AV → Heap → Option AV), polK pMade [.bool a.1, .sl 0 0 0 1 1] [.row 0 1 64 [eu r]] k = k (eN (madeS a.1 (some [r]))) G := ⟨_, fun k => by
          unfold pMade
          rw [q2d hfz]
          simp only [p2_app, dec_cB, qd7, Option.bind_some]
          rw [if_pos (by simp [few])]
          rfl⟩
        rw [hp, ← hq, ← hr]
        have hone := q2s (eu r) (.int .u32 0) rfl rfl
        have hqm : ∀ (H : Heap) (k : AV → Heap → Option AV), polQ pMade [.bool p, eD (some q)] H k = k (eN (madeS p (some q))) H := fun H k => qMade fq
        generalize madeS p (some q) = M at *
        generalize madeS a.1 (some [r]) = N at *
        obtain ⟨M1, M2⟩ := M
        obtain ⟨N1, N2⟩ := N
        simp [↓q00, ↓q03, ↓q07, ↓q0f, ↓q01, ↓q0w, ↓q06, S21, qCut ha, qCut hb, A.ofList, gb, hl1, kSize fa fb, hsz, hc, hx, hk, hbin, hqm, hone, hm, A.fill, A.fits, A.splice]
      · have hl1 : ¬ ((lim (mag b)).length : Int) = 1 := by omega
        have hge : mag b ≤ mag a := by omega
        have hlab : (lim (mag b)).length ≤ (lim (mag a)).length := by
          refine lim_le.2 (Nat.lt_of_le_of_lt hge ?_)
          exact lim_le.1 (Nat.le_refl _)
        have hlot : (lim (mag a)).length ≤ 900000 := by
          have := lot_cut la
          unfold lot at this
          rw [ga] at this
          exact this
        have htop : at_ (lim (mag b)) ((lim (mag b)).length - 1) ≠ 0 := by
          obtain ⟨x, hx, hx0⟩ := lim_last hB
          have hlt' : (lim (mag b)).length - 1 < (lim (mag b)).length := by omega
          rw [List.getLast?_eq_getElem?, List.getElem?_eq_getElem hlt'] at hx
          unfold at_
          rw [dif_pos hlt', Option.some.inj hx]
          exact fun e => hx0 (UInt32.toNat_inj.1 e)
        have hdP : q7q (cutS a.2) (cutS b.2) := by
          unfold q7q
          rw [ga, gb]
          exact ⟨by omega, hlab, hlot, htop⟩
        have hS : q4q (cutS a.2) (cutS b.2) = (digs ((lim (mag a)).length - (lim (mag b)).length + 1) (mag a / mag b), digs ((lim (mag a)).length + 1) (mag a % mag b)) := by
          unfold q4q
          rw [ga, gb, q0q, q0q]
        have hk : ∀ (H : Heap) (k : AV → Heap → Option AV), polK q5y [eD (cutS a.2), eD (cutS b.2)] H k = k (.tup [eD (some (digs ((lim (mag a)).length - (lim (mag b)).length + 1) (mag a / mag b))), eD (some (digs ((lim (mag a)).length + 1) (mag a % mag b)))]) H := fun H k => by
          rw [kDivided hdP, hS]
        obtain ⟨p, hp⟩ : ∃ p, (a.1 != b.1) = p := ⟨_, rfl⟩
        have hbin : ∀ H, A.bin base.P .neq 4 (.bool a.1) (.bool b.1) false H = some (.bool p) := fun H => by rw [A.bin_bne q36, ← hp]; rfl
        have hqlt : mag a / mag b < 4294967296 ^ ((lim (mag a)).length - (lim (mag b)).length + 1) := by
          have h1 := lim_le.1 (Nat.le_refl (lim (mag a)).length)
          have h2 := q70 hB
          rw [Nat.div_lt_iff_lt_mul (by omega)]
          refine Nat.lt_of_lt_of_le h1 (Nat.le_trans ?_ (Nat.mul_le_mul_left _ h2))
          rw [← Nat.pow_add]
          exact Nat.pow_le_pow_right (by omega) (by omega)
        have hrlt : mag a % mag b < 4294967296 ^ ((lim (mag a)).length + 1) := by
          have h1 := lim_le.1 (Nat.le_refl (lim (mag a)).length)
          have h3 : 4294967296 ^ (lim (mag a)).length ≤ 4294967296 ^ ((lim (mag a)).length + 1) := Nat.pow_le_pow_right (by omega) (by omega)
          exact Nat.lt_of_le_of_lt (Nat.mod_le _ _) (Nat.lt_of_lt_of_le h1 h3)
        have hq : madeS p (some (digs ((lim (mag a)).length - (lim (mag b)).length + 1) (mag a / mag b))) = madeS p (some (lim (mag a / mag b))) := q7t (by rw [q0q]; exact q11 hqlt)
        have hr : madeS a.1 (some (digs ((lim (mag a)).length + 1) (mag a % mag b))) = madeS a.1 (some (lim (mag a % mag b))) := q7t (by rw [q0q]; exact q11 hrlt)
        have fq : few (some (digs ((lim (mag a)).length - (lim (mag b)).length + 1) (mag a / mag b))) := by
          unfold few
          simp only [Option.getD_some, q0a]
          omega
        have fr : few (some (digs ((lim (mag a)).length + 1) (mag a % mag b))) := by
          unfold few
          simp only [Option.getD_some, q0a]
          omega
        rw [hp, ← hq, ← hr]
        generalize digs ((lim (mag a)).length - (lim (mag b)).length + 1) (mag a / mag b) = q at *
        generalize digs ((lim (mag a)).length + 1) (mag a % mag b) = r at *
        have hqm : ∀ (H : Heap) (k : AV → Heap → Option AV), polQ pMade [.bool p, eD (some q)] H k = k (eN (madeS p (some q))) H := fun H k => qMade fq
        have hrm : ∀ (H : Heap) (k : AV → Heap → Option AV), polQ pMade [.bool a.1, eD (some r)] H k = k (eN (madeS a.1 (some r))) H := fun H k => qMade fr
        generalize madeS p (some q) = M at *
        generalize madeS a.1 (some r) = N at *
        obtain ⟨M1, M2⟩ := M
        obtain ⟨N1, N2⟩ := N
        simp [↓q00, ↓q03, ↓q07, ↓q0f, ↓q01, ↓q06, S21, qCut ha, qCut hb, A.ofList, gb, hne, hl1, kSize fa fb, hsz, hc, hk, hbin, hqm, hrm, A.fill, A.fits, A.splice]
theorem qDiv {R : Type} {a b : Nm} (la : lot a.2) (lb : lot b.2) {H : Heap} {k : AV → Heap → Option R} : polQ pDiv [eN a, eN b] H k = k (eDiv (divS a b)) H := by
  simp [pDiv, q1e, la, lb]
end Go.Proofs.YtikkpecdkdgmfaaDoor

/- Numbers of any size: the reference's own: order, limbs, which is greater. -/
set_option maxRecDepth 100000
set_option maxHeartbeats 2000000
namespace Go.Proofs.YtikkpecdkdgmfaaDoor
open Go Go.Den
noncomputable def pOrder : Pol := .still (p2 (cI .i64) (cI .i64) (.int .i64) (fun _ _ => True) cmpI)
theorem okOrder : PolOK base 70 pOrder := still2 base_ok [] trivial fun a b _ => Evs.of fun n m => by
  unfold cmpI
  by_cases h : a < b
  · simp [↓q00, ↓q01, S70, h]
  · by_cases h2 : b < a
    · simp [↓q00, ↓q01, S70, h, h2]
    · simp [↓q00, ↓q01, S70, h, h2]
theorem kOrder {R : Type} {a b : Int} {H : Heap} {k : AV → Heap → Option R} : polK pOrder [.int .i64 a, .int .i64 b] H k = k (.int .i64 (cmpI a b)) H := by
  simp [pOrder, q0h]
theorem qOrder {R : Type} {a b : Int} {H : Heap} {k : AV → Heap → Option R} : polQ pOrder [.int .i64 a, .int .i64 b] H k = k (.int .i64 (cmpI a b)) H := by
  simp [pOrder, q1e]
noncomputable def pLimb : Pol := .still (p2 cD (cI .i64) (.int .u64) (fun a i => few a ∧ 0 ≤ i) (fun a i => (at_ (a.getD []) i.toNat : Int)))
theorem okLimb : PolOK base 69 pLimb := still2 base_ok [] trivial fun a i ⟨ha, hi⟩ => by
  obtain ⟨i, rfl⟩ : ∃ t : Nat, i = t := ⟨i.toNat, by omega⟩
  refine Evs.of fun n m => ?_
  have hl := q3g (a.getD []) i
  simp only [Int.toNat_natCast]
  by_cases h : i < (a.getD []).length
  · have hx := q42 (d := a) h []
    generalize at_ (a.getD []) i = x at *
    simp (disch := omega) [↓q00, ↓q01, S69, h, hx, q0x, q0g]
  · rw [qis h]
    simp [↓q00, ↓q01, S69, h]
theorem kLimb {R : Type} {a : Option (List UInt32)} {i : Nat} (ha : few a) (hi : (0 : Int) ≤ (i : Int)) {H : Heap} {k : AV → Heap → Option R} : polK pLimb [eD a, .int .i64 (i : Int)] H k = k (.int .u64 (at_ (a.getD []) (i : Int).toNat : Int)) H := by
  simp [pLimb, q0h, ha, hi]
theorem qLimb {R : Type} {a : Option (List UInt32)} {i : Nat} (ha : few a) (hi : (0 : Int) ≤ (i : Int)) {H : Heap} {k : AV → Heap → Option R} : polQ pLimb [eD a, .int .i64 (i : Int)] H k = k (.int .u64 (at_ (a.getD []) (i : Int).toNat : Int)) H := by
  simp [pLimb, q1e, ha, hi]
noncomputable abbrev TMags : List (FuncId × Pol) := [(70, pOrder)]
noncomputable def pMags : Pol := .still (p2 cD cD (.int .i64) (fun a b => few a ∧ few b) sizeS)
theorem qj2 (n : Int) (j : IntKind) : Go.Den.convert base 64 2 (.int j n) = some (.int .i64 (IntKind.wrap .i64 n)) := q38 (x := .int .u32) (by kernel_rfl) (by kernel_rfl)
theorem mags_loop {a b : Option (List UInt32)} (hab : (a.getD []).length = (b.getD []).length) (hf : (a.getD []).length ≤ 1000000) (H : Heap) : ∀ i, i ≤ (a.getD []).length →
    LDoes (L49_0 (polT TMags)) ⟨[eD a, eD b, .int .i64 ((i : Int) - 1)], []⟩ H (if cmpN (val ((a.getD []).take i)) (val ((b.getD []).take i)) = 0 then 0 else 1) ⟨[if cmpN (val ((a.getD []).take i)) (val ((b.getD []).take i)) = 0 then .undef else .int .i64 (cmpN (val ((a.getD []).take i)) (val ((b.getD []).take i)))], []⟩ H := by
  intro i
  induction i with
  | zero =>
    intro _
    refine LDoes.step (Evs.of fun n m => ?_)
    have : cmpN (val []) (val []) = 0 := qd3 _
    simp [↓q00, ↓q01, q6g, this]
  | succ i ih =>
    intro hi
    have hx := q1w (d := a) (H := H) (k := .i64) (i := i) (by omega)
    have hy := q1w (d := b) (H := H) (k := .i64) (i := i) (by omega)
    rw [qiy (by omega) (by omega)]
    have e : ((i + 1 : Nat) : Int) - 1 = i := by omega
    rw [e]
    have hp : (0 : Int) ≤ i := by omega
    by_cases h0 : (a.getD [])[i] = (b.getD [])[i]
    · rw [if_pos h0]
      refine LDoes.step (Evs.withL (ih (by omega)) (Evs.of fun n m h1 h2 => ?_))
      simp (disch := omega) [↓q00, ↓q01, q6g, hx, hy, h0, hp, q08, h2]
    · rw [if_neg h0]
      have h0' : ¬ (((a.getD [])[i]).toNat : Int) = ((b.getD [])[i]).toNat := fun e => h0 (UInt32.toNat_inj.1 (by omega))
      have h1 : ¬ cmpI ((a.getD [])[i]).toNat ((b.getD [])[i]).toNat = 0 := fun e => h0' (cmpI_eq.1 e)
      have l1 := q14 (a.getD [])[i]
      have l2 := q14 (b.getD [])[i]
      refine LDoes.step (Evs.of fun n m => ?_)
      generalize (a.getD [])[i] = x at *
      generalize (b.getD [])[i] = y at *
      simp (disch := omega) [↓q00, ↓q01, q6g, hx, hy, h0', hp, qj2, q08, qOrder, h1]
theorem okMags : PolOK base 49 pMags := still2 base_ok TMags ⟨okOrder, trivial⟩ fun a b ⟨ha, hb⟩ => by
  unfold few at ha hb
  by_cases hl : (a.getD []).length = (b.getD []).length
  · refine Evs.withL (mags_loop hl ha [] _ (Nat.le_refl _)) (Evs.of fun n m h1 _ => ?_)
    rw [List.take_length, hl, List.take_length] at h1
    have e : sizeS a b = cmpN (val (a.getD [])) (val (b.getD [])) := by unfold sizeS; rw [if_neg (by simp [hl])]
    rw [e]
    by_cases h0 : cmpN (val (a.getD [])) (val (b.getD [])) = 0
    · simp only [h0, if_true] at h1
      simp (disch := omega) [↓q00, ↓q03, ↓q01, ↓q02, S49, hl, q08, h1, h0]
    · simp only [h0, if_false] at h1
      simp (disch := omega) [↓q00, ↓q03, ↓q01, ↓q02, S49, hl, q08, h1]
  · refine Evs.of fun n m => ?_
    have hl' : ¬ ((a.getD []).length : Int) = (b.getD []).length := by omega
    simp [↓q00, ↓q01, S49, sizeS, hl, hl', kOrder]
theorem kMags {R : Type} {a b : Option (List UInt32)} (ha : few a) (hb : few b) {H : Heap} {k : AV → Heap → Option R} : polK pMags [eD a, eD b] H k = k (.int .i64 (sizeS a b)) H := by
  simp [pMags, q0h, ha, hb]
end Go.Proofs.YtikkpecdkdgmfaaDoor

/- Numbers of any size: the reference's sums of rows of limbs. -/
set_option maxRecDepth 100000
set_option maxHeartbeats 2000000
namespace Go.Proofs.YtikkpecdkdgmfaaDoor
open Go Go.Den
noncomputable abbrev TLimb : List (FuncId × Pol) := [(69, pLimb)]
theorem limbK {R : Type} {a : Option (List UInt32)} {i : Nat} (ha : few a) {H : Heap} {k : AV → Heap → Option R} : polK pLimb [eD a, .int .i64 (i : Int)] H k = k (.int .u64 (at_ (a.getD []) i : Nat)) H := kLimb ha (by omega)
theorem limbQ {R : Type} {a : Option (List UInt32)} {i : Nat} (ha : few a) {H : Heap} {k : AV → Heap → Option R} : polQ pLimb [eD a, .int .i64 (i : Int)] H k = k (.int .u64 (at_ (a.getD []) i : Nat)) H := qLimb ha (by omega)
theorem qid {a b : Option (List UInt32)} (ha : few a) (hb : few b) : ∀ (k i : Nat) (H : Heap) (out : AV), k + i = plusM a b → Out eu 1 64 H out (digs i (plusT a b i)) →
    ∃ H' out', LDoes (L48_0 (polT TLimb)) ⟨[eD a, eD b, out, .int .u64 ((plusT a b i / 4294967296 ^ i : Nat) : Int), .int .i64 i], []⟩ H 0 ⟨[out', .int .u64 ((plusT a b (plusM a b) / 4294967296 ^ plusM a b : Nat) : Int)], []⟩ H' ∧ Out eu 1 64 H' out' (digs (plusM a b) (plusT a b (plusM a b))) := by
  have ka := @limbK (AV × Heap)
  have hfa := ha
  have hfb := hb
  unfold few at ha hb
  have hM : plusM a b ≤ 1000000 := by unfold plusM; omega
  intro k
  induction k with
  | zero =>
    intro i H out hi ho
    have : i = plusM a b := by omega
    subst this
    refine ⟨H, out, LDoes.step (Evs.of fun n m => ?_), ho⟩
    have hA : ¬ plusM a b < (a.getD []).length := by unfold plusM; omega
    have hB : ¬ plusM a b < (b.getD []).length := by unfold plusM; omega
    generalize plusT a b (plusM a b) / 4294967296 ^ plusM a b = C at *
    generalize plusM a b = K at *
    simp [↓q00, ↓q01, ↓q04, ↓q05, q6f, hA, hB]
  | succ k ih =>
    intro i H out hi ho
    have hg : i < (a.getD []).length ∨ i < (b.getD []).length := by
      have : i < plusM a b := by omega
      unfold plusM at this
      omega
    have hc := qfi a b i
    have hx := q3g (a.getD []) i
    have hy := q3g (b.getD []) i
    generalize hC : plusT a b i / 4294967296 ^ i = C at *
    have hdig := qi7 a b i
    have hsuc := qas a b i
    rw [hC] at hdig hsuc
    have hcar : plusT a b (i + 1) / 4294967296 ^ (i + 1) = (C + at_ (a.getD []) i + at_ (b.getD []) i) / 4294967296 := by
      rw [Nat.pow_succ, ← Nat.div_div_eq_div_mul, hsuc]
    obtain ⟨v', H1, hap, hO⟩ := ho.push (x := UInt32.ofNat (C + at_ (a.getD []) i + at_ (b.getD []) i)) (bytes := 4) (by omega) (by rw [q0a]; omega)
    rw [← hdig] at hO
    have hnum : ((at_ (a.getD []) i : Int) + at_ (b.getD []) i + C) = ((C + at_ (a.getD []) i + at_ (b.getD []) i : Nat) : Int) := by omega
    have hw : IntKind.wrap .u32 ((at_ (a.getD []) i : Int) + at_ (b.getD []) i + C) = ((UInt32.ofNat (C + at_ (a.getD []) i + at_ (b.getD []) i)).toNat : Nat) := by
      rw [hnum, ← q0n]
    generalize UInt32.ofNat (C + at_ (a.getD []) i + at_ (b.getD []) i) = dig at hap hw
    obtain ⟨H', out', hL, hO'⟩ := ih (i + 1) H1 v' (by omega) hO
    refine ⟨H', out', LDoes.step (Evs.withL hL (Evs.of fun n m _ h2 => ?_)), hO'⟩
    rw [hcar] at h2
    have hs : ∀ H, A.bin base.P .shr 63 (.int .u64 ((at_ (a.getD []) i : Int) + at_ (b.getD []) i + C)) (.int .u64 32) true H = some (.int .u64 (((C + at_ (a.getD []) i + at_ (b.getD []) i) / 4294967296 : Nat) : Int)) := fun H => by
      rw [hnum]
      exact q2r (s := 32) (by omega)
    have hone := q2s (eu dig) (.int .u32 0) rfl rfl
    have hread := qcm (H := H) (sz := 1) (ty := 64) (x := eu dig)
    have hi1 : IntKind.wrap .i64 ((i : Int) + 1) = (i : Int) + 1 := q08 (by omega) (by omega)
    have q1 : ∀ (H : Heap) (k : AV → Heap → Option (Nat × Live × Heap)), polK pLimb [eD a, .int .i64 (i : Int)] H k = k (.int .u64 (at_ (a.getD []) i : Nat)) H := fun H k => limbK hfa
    have q2 : ∀ (H : Heap) (k : AV → Heap → Option (Nat × Live × Heap)), polK pLimb [eD b, .int .i64 (i : Int)] H k = k (.int .u64 (at_ (b.getD []) i : Nat)) H := fun H k => limbK hfb
    generalize (((C + at_ (a.getD []) i + at_ (b.getD []) i) / 4294967296 : Nat) : Int) = cq at *
    generalize plusT a b (plusM a b) / 4294967296 ^ plusM a b = CC at *
    simp only [Int.natCast_add, Int.natCast_one] at h2
    by_cases hA : i < (a.getD []).length
    · simp (disch := omega) [↓q00, ↓q03, ↓q0f, ↓q01, ↓q04, ↓q0w, ↓q0k, ↓q05, q6f, hA, q1, q2, q0p, q0g, hw, hs, hone, q20 q1m, hread, hap, hi1, h2]
    · have hB : i < (b.getD []).length := by omega
      simp (disch := omega) [↓q00, ↓q03, ↓q0f, ↓q01, ↓q04, ↓q0w, ↓q0k, ↓q05, q6f, hA, hB, q1, q2, q0p, q0g, hw, hs, hone, q20 q1m, hread, hap, hi1, h2]
def rplusS (a b : Option (List UInt32)) : Option (List UInt32) := some (digs (plusM a b + 1) (plusN a b))
noncomputable def pRplus : Pol := .still (p2 cD cD eD (fun a b => few a ∧ few b) rplusS)
theorem okRplus : PolOK base 48 pRplus := still2 base_ok TLimb ⟨okLimb, trivial⟩ fun a b ⟨ha, hb⟩ => by
  obtain ⟨H', out', hL, hO⟩ := qid ha hb (plusM a b) 0 [] .nils (by omega) .nil
  have hM : plusM a b ≤ 1000000 := by unfold few at ha hb; unfold plusM; omega
  have hN : plusT a b (plusM a b) = plusN a b := plusT_end (Nat.le_refl _)
  rw [hN] at hL hO
  obtain ⟨v', H1, hap, hO1⟩ := hO.push (x := UInt32.ofNat (plusN a b / 4294967296 ^ plusM a b)) (bytes := 4) (by omega) (by rw [q0a]; omega)
  rw [← q2z] at hO1
  refine Evs.withL hL (Evs.of fun n m h1 _ => ?_)
  have e0 : plusT a b 0 / 4294967296 ^ 0 = 0 := by simp [plusT, val]
  rw [e0] at h1
  simp only [Int.natCast_zero] at h1
  have hw : IntKind.wrap .u32 ((plusN a b / 4294967296 ^ plusM a b : Nat) : Int) = ((UInt32.ofNat (plusN a b / 4294967296 ^ plusM a b)).toNat : Nat) := q0n _
  have hfz := hO1.frz qjf
  have hnz : nz (digs (plusM a b + 1) (plusN a b)) = rplusS a b := rfl
  rw [hnz] at hfz
  generalize UInt32.ofNat (plusN a b / 4294967296 ^ plusM a b) = dig at *
  generalize ((plusN a b / 4294967296 ^ plusM a b : Nat) : Int) = cc at *
  have hone := q2s (eu dig) (.int .u32 0) rfl rfl
  have hread := qcm (H := H') (sz := 1) (ty := 64) (x := eu dig)
  simp [↓q03, ↓q0f, ↓q01, ↓q0w, ↓q0k, ↓q02, S48, h1, q0p, hw, hone, q20 q1m, hread, hap, hfz]
theorem qRplus {R : Type} {a b : Option (List UInt32)} (ha : few a) (hb : few b) {H : Heap} {k : AV → Heap → Option R} : polQ pRplus [eD a, eD b] H k = k (eD (rplusS a b)) H := by
  simp [pRplus, q1e, ha, hb]
end Go.Proofs.YtikkpecdkdgmfaaDoor

/- Numbers of any size: the reference's differences of rows of limbs. -/
set_option maxRecDepth 100000
set_option maxHeartbeats 2000000
namespace Go.Proofs.YtikkpecdkdgmfaaDoor
open Go Go.Den
theorem qha {x : Int} (h1 : -18446744073709551616 ≤ x) (h2 : x < 0) : IntKind.wrap .u64 x = x + 18446744073709551616 := by
  simp [IntKind.wrap, IntKind.bits, IntKind.signed]
  omega
theorem wrap_lo {x : Int} {z : Nat} (h : x = z + 18446744069414584320) (hz : z < 4294967296) : IntKind.wrap .u32 x = z := by
  simp [IntKind.wrap, IntKind.bits, IntKind.signed]
  omega
theorem qfn {o : List UInt32} {A B T U c c' w x y z : Nat} (hv : val o + B = A + c * w) (hz : z + (c + y) = x + c' * T) (hU : U = w * T) : val o + w * z + (B + w * y) = A + w * x + c' * U := by
  subst hU
  have e : w * z + w * (c + y) = w * x + w * (c' * T) := by rw [← Nat.mul_add, hz, Nat.mul_add]
  rw [Nat.mul_add] at e
  have e2 : c' * (w * T) = w * (c' * T) := Nat.mul_left_comm _ _ _
  have e3 : c * w = w * c := Nat.mul_comm _ _
  rw [e2]
  omega
theorem qfm {a b : Option (List UInt32)} (ha : few a) (hb : few b) : ∀ (k i c : Nat) (o : List UInt32) (H : Heap) (out : AV), k + i = (a.getD []).length → o.length = i → c ≤ 1 → val o + val ((b.getD []).take i) = val ((a.getD []).take i) + c * 4294967296 ^ i → Out eu 1 64 H out o →
    ∃ (H' : Heap) (out' : AV) (o' : List UInt32) (c' : Nat), LDoes (L50_0 (polT TLimb)) ⟨[eD a, eD b, out, .int .u64 (c : Nat), .int .i64 (i : Nat)], []⟩ H 0 ⟨[out'], []⟩ H' ∧ Out eu 1 64 H' out' o' ∧ o'.length = (a.getD []).length ∧ c' ≤ 1 ∧
      val o' + val ((b.getD []).take (a.getD []).length) = val (a.getD []) + c' * 4294967296 ^ (a.getD []).length := by
  have hfb := hb
  unfold few at ha hb
  intro k
  induction k with
  | zero =>
    intro i c o H out hi hol hc hv ho
    have : i = (a.getD []).length := by omega
    subst this
    rw [List.take_length] at hv
    refine ⟨H, out, o, c, LDoes.step (Evs.of fun n m => ?_), ho, hol, hc, hv⟩
    simp [↓q00, ↓q01, q6h]
  | succ k ih =>
    intro i c o H out hi hol hc hv ho
    have hil : i < (a.getD []).length := by omega
    have hax := q42 (d := a) hil H
    have hx := q3g (a.getD []) i
    have hy := q3g (b.getD []) i
    have q2 : ∀ (H : Heap) (k : AV → Heap → Option (Nat × Live × Heap)), polQ pLimb [eD b, .int .i64 (i : Int)] H k = k (.int .u64 (at_ (b.getD []) i : Nat)) H := fun H k => limbQ hfb
    have hi1 : IntKind.wrap .i64 ((i : Int) + 1) = (i : Int) + 1 := q08 (by omega) (by omega)
    obtain ⟨c', z, hz, hzl, hc'⟩ : ∃ c' z : Nat, z + (c + at_ (b.getD []) i) = at_ (a.getD []) i + c' * 4294967296 ∧ z < 4294967296 ∧ ((c' = 0 ∧ c + at_ (b.getD []) i ≤ at_ (a.getD []) i) ∨ (c' = 1 ∧ at_ (a.getD []) i < c + at_ (b.getD []) i)) := by
      by_cases h : c + at_ (b.getD []) i ≤ at_ (a.getD []) i
      · exact ⟨0, at_ (a.getD []) i - (c + at_ (b.getD []) i), by omega, by omega, .inl ⟨rfl, h⟩⟩
      · exact ⟨1, at_ (a.getD []) i + 4294967296 - (c + at_ (b.getD []) i), by omega, by omega, .inr ⟨rfl, by omega⟩⟩
    have hnew : val (o ++ [UInt32.ofNat z]) + val ((b.getD []).take (i + 1)) = val ((a.getD []).take (i + 1)) + c' * 4294967296 ^ (i + 1) := by
      rw [q3q, q37, q37, hol, val, val, q0v, Nat.mod_eq_of_lt hzl, Nat.mul_zero, Nat.add_zero]
      exact qfn hv hz (Nat.pow_succ _ _)
    obtain ⟨v', H1, hap, hO⟩ := ho.push (x := UInt32.ofNat z) (bytes := 4) (by omega) (by omega)
    obtain ⟨H', out', o', c2, hL, s1, s2, s3, s4⟩ := ih (i + 1) c' (o ++ [UInt32.ofNat z]) H1 v' (by omega) (by simp [hol]) (by omega) hnew hO
    refine ⟨H', out', o', c2, LDoes.step (Evs.withL hL (Evs.of fun n m _ h2 => ?_)), s1, s2, s3, s4⟩
    have hzz : (z : Int) = ((UInt32.ofNat z).toNat : Int) := by rw [q0v, Nat.mod_eq_of_lt hzl]
    have hdig : ∃ dig : UInt32, UInt32.ofNat z = dig := ⟨_, rfl⟩
    obtain ⟨dig, hdg⟩ := hdig
    rw [hdg] at hap hzz
    have hone := q2s (eu dig) (.int .u32 0) rfl rfl
    have hread := qcm (H := H) (sz := 1) (ty := 64) (x := eu dig)
    rcases hc' with ⟨h0, hle⟩ | ⟨h1, hlt⟩
    · subst h0
      have e0 : ((0 : Nat) : Int) = 0 := rfl
      simp only [Int.natCast_add, Int.natCast_one, e0] at h2
      have hE : (at_ (a.getD []) i : Int) - (at_ (b.getD []) i : Int) - (c : Int) = (z : Int) := by omega
      have hw : IntKind.wrap .u32 (z : Int) = (dig.toNat : Int) := by rw [q7x (by omega) (by omega), hzz]
      have hs : ∀ H, A.bin base.P .shr 63 (.int .u64 (z : Int)) (.int .u64 63) true H = some (.int .u64 0) := fun H => by
        have := q2r (P := base.P) (t := 63) (c := true) (H := H) (a := z) (s := 63) (j := .u64) (by omega)
        rw [Nat.div_eq_of_lt (by omega)] at this
        exact this
      generalize at_ (a.getD []) i = x at *
      generalize at_ (b.getD []) i = y at *
      simp (disch := omega) [↓q00, ↓q03, ↓q0f, ↓q01, ↓q0w, ↓q0k, q6h, hil, hax, q2, q0x, q0p, q0g, hE, hw, hs, hone, q20 q1m, hread, hap, hi1, h2]
    · subst h1
      have e0 : ((1 : Nat) : Int) = 1 := rfl
      simp only [Int.natCast_add, e0] at h2
      have hw : ∀ E : Int, E = (z : Int) + 18446744069414584320 → IntKind.wrap .u32 E = (dig.toNat : Int) := fun E hE => by rw [wrap_lo hE hzl, hzz]
      have hs : ∀ (E : Int) (H : Heap), E = (z : Int) + 18446744069414584320 → A.bin base.P .shr 63 (.int .u64 E) (.int .u64 63) true H = some (.int .u64 1) := fun E H hE => by
        have := q2r (P := base.P) (t := 63) (c := true) (H := H) (a := z + 18446744069414584320) (s := 63) (j := .u64) (by omega)
        rw [show (z + 18446744069414584320) / 2 ^ 63 = 1 by omega] at this
        rw [hE]
        exact this
      have w2 : IntKind.wrap .u64 (IntKind.wrap .u64 ((at_ (a.getD []) i : Int) - (at_ (b.getD []) i : Int)) - (c : Int)) = (z : Int) + 18446744069414584320 := by
        by_cases hxy : at_ (a.getD []) i < at_ (b.getD []) i
        · rw [qha (x := (at_ (a.getD []) i : Int) - (at_ (b.getD []) i : Int)) (by omega) (by omega), q0g (by omega) (by omega)]
          omega
        · rw [q0g (x := (at_ (a.getD []) i : Int) - (at_ (b.getD []) i : Int)) (by omega) (by omega), qha (by omega) (by omega)]
          omega
      have hw' := hw _ rfl
      have hs' := fun H => hs _ H rfl
      generalize at_ (a.getD []) i = x at *
      generalize at_ (b.getD []) i = y at *
      generalize (z : Int) + 18446744069414584320 = E at *
      have wx : IntKind.wrap .u64 (x : Int) = x := q0g (by omega) (by omega)
      clear hw hs
      simp [↓q00, ↓q03, ↓q0f, ↓q01, ↓q0w, ↓q0k, q6h, hil, hax, q2, q0x, q0p, wx, w2, hw', hs', hone, q20 q1m, hread, hap, hi1, h2]
def q16 (a b : Option (List UInt32)) : Option (List UInt32) := nz (digs (a.getD []).length (val (a.getD []) - val (b.getD [])))
noncomputable def q6z : Pol := .still (p2 cD cD eD (fun a b => few a ∧ few b ∧ val (b.getD []) ≤ val (a.getD [])) q16)
theorem okRminus : PolOK base 50 q6z := still2 base_ok TLimb ⟨okLimb, trivial⟩ fun a b ⟨ha, hb, hv⟩ => by
  obtain ⟨H', out', o', c', hL, hO, hl, hc, hval⟩ := qfm ha hb (a.getD []).length 0 0 [] [] .nils (by omega) rfl (by omega) (by simp [val]) .nil
  have h1 := q1n o'
  rw [hl] at h1
  have hbt : val ((b.getD []).take (a.getD []).length) = val (b.getD []) := by
    rcases Nat.lt_or_ge (b.getD []).length (a.getD []).length with h | h
    · rw [List.take_of_length_le (by omega)]
    · have e := q1q (l := b.getD []) (n := (a.getD []).length) h
      have h2 := q1n (a.getD [])
      rcases Nat.eq_zero_or_pos (val ((b.getD []).drop (a.getD []).length)) with h0 | h0
      · rw [h0, Nat.mul_zero, Nat.add_zero] at e
        exact e.symm
      · exfalso
        have : 4294967296 ^ (a.getD []).length * 1 ≤ 4294967296 ^ (a.getD []).length * val ((b.getD []).drop (a.getD []).length) := Nat.mul_le_mul_left _ h0
        omega
  rw [hbt] at hval
  have hd : o' = digs (a.getD []).length (val (a.getD []) - val (b.getD [])) := by
    refine q6o hl ?_
    rcases (show c' = 0 ∨ c' = 1 by omega) with h | h
    · rw [h] at hval; omega
    · rw [h] at hval
      omega
  refine Evs.withL hL (Evs.of fun n m h3 _ => ?_)
  have e0 : ((0 : Nat) : Int) = 0 := rfl
  simp only [e0] at h3
  have hfz := hO.frz qjf
  have hnz : nz o' = q16 a b := by unfold q16; rw [hd]
  rw [hnz] at hfz
  simp [↓q03, ↓q02, S50, h3, hfz]
theorem qRminus {R : Type} {a b : Option (List UInt32)} (ha : few a) (hb : few b) (hv : val (b.getD []) ≤ val (a.getD [])) {H : Heap} {k : AV → Heap → Option R} : polQ q6z [eD a, eD b] H k = k (eD (q16 a b)) H := by
  simp [q6z, q1e, ha, hb, hv]
end Go.Proofs.YtikkpecdkdgmfaaDoor

/- Numbers of any size: the reference's sums, differences, order. -/
set_option maxRecDepth 100000
set_option maxHeartbeats 2000000
namespace Go.Proofs.YtikkpecdkdgmfaaDoor
open Go Go.Den
theorem rplus_val (a b : Option (List UInt32)) : val ((rplusS a b).getD []) = val (a.getD []) + val (b.getD []) := by
  unfold rplusS
  simp only [Option.getD_some]
  refine q11 ?_
  have h1 := q1n (a.getD [])
  have h2 := q1n (b.getD [])
  have h3 : 4294967296 ^ (a.getD []).length ≤ 4294967296 ^ plusM a b := Nat.pow_le_pow_right (by omega) (by unfold plusM; omega)
  have h4 : 4294967296 ^ (b.getD []).length ≤ 4294967296 ^ plusM a b := Nat.pow_le_pow_right (by omega) (by unfold plusM; omega)
  unfold plusN
  rw [Nat.pow_succ]
  omega
theorem qax (a b : Option (List UInt32)) : val ((q16 a b).getD []) = val (a.getD []) - val (b.getD []) := by
  unfold q16
  rw [q2m]
  refine q11 ?_
  have h1 := q1n (a.getD [])
  omega
theorem qaw (a b : Option (List UInt32)) : ((q16 a b).getD []).length = (a.getD []).length := by
  unfold q16
  rw [q2m, q0a]
theorem rplus_len (a b : Option (List UInt32)) : ((rplusS a b).getD []).length = plusM a b + 1 := by
  unfold rplusS
  rw [Option.getD_some, q0a]
theorem qe3 (a : Nm) : ((rnormS a).2.getD []).length ≤ (a.2.getD []).length := by
  unfold rnormS
  dsimp only
  rw [q2m]
  exact q2w _
def raddC (x y : Nm) : Nm :=
  if x.1 = y.1 then rnormS (x.1, rplusS x.2 y.2)
  else if 0 ≤ sizeS x.2 y.2 then rnormS (x.1, q16 x.2 y.2)
  else rnormS (y.1, q16 y.2 x.2)
def raddS (a b : Nm) : Nm := raddC (rnormS a) (rnormS b)
theorem qh4 {a b : Nm} : sizeS (rnormS a).2 (rnormS b).2 = cmpN (val ((rnormS a).2.getD [])) (val ((rnormS b).2.getD [])) := by
  unfold rnormS
  dsimp only
  rw [q2m, q2m, q0q, q0q]
  exact q98 (q2m ..) (q2m ..)
theorem q4g (a : Nm) : toI (rnormS a) = toI a := (q3l a).toI
theorem rep_radd (a b : Nm) : Rep (raddS a b) (toI a + toI b) := by
  have hsz := qh4 (a := a) (b := b)
  rw [← q4g a, ← q4g b]
  unfold raddS raddC
  generalize rnormS a = x at *
  generalize rnormS b = y at *
  obtain ⟨p, d⟩ := x
  obtain ⟨q, e⟩ := y
  dsimp only at hsz ⊢
  by_cases hpq : p = q
  · subst hpq
    rw [if_pos rfl]
    have h := q3l (p, rplusS d e)
    have : toI (p, rplusS d e) = toI (p, d) + toI (p, e) := by
      unfold toI mag sgn
      dsimp only
      rw [rplus_val]
      cases p <;> simp <;> omega
    rw [this] at h
    exact h
  · rw [if_neg hpq, hsz]
    by_cases hs : 0 ≤ cmpN (val (d.getD [])) (val (e.getD []))
    · rw [if_pos hs]
      have h := q3l (p, q16 d e)
      have hle : val (e.getD []) ≤ val (d.getD []) := by
        unfold cmpN cmpI at hs
        split at hs <;> omega
      have : toI (p, q16 d e) = toI (p, d) + toI (q, e) := by
        unfold toI mag sgn
        dsimp only
        rw [qax]
        cases p <;> cases q <;> simp at hpq ⊢ <;> omega
      rw [this] at h
      exact h
    · rw [if_neg hs]
      have h := q3l (q, q16 e d)
      have hle : val (d.getD []) ≤ val (e.getD []) := by
        unfold cmpN cmpI at hs
        split at hs <;> (try split at hs) <;> omega
      have : toI (q, q16 e d) = toI (p, d) + toI (q, e) := by
        unfold toI mag sgn
        dsimp only
        rw [qax]
        cases p <;> cases q <;> simp at hpq ⊢ <;> omega
      rw [this] at h
      exact h
noncomputable abbrev TRadd : List (FuncId × Pol) := [(18, pRnorm), (48, pRplus), (49, pMags), (50, q6z)]
noncomputable def pRadd : Pol := .still (p2 cN cN eN (fun a b => lot a.2 ∧ lot b.2) raddS)
theorem okRadd : PolOK base 29 pRadd := still2 base_ok TRadd ⟨q5a, okRplus, okMags, okRminus, trivial⟩ fun a b ⟨la, lb⟩ => by
  refine Evs.of fun n m => ?_
  have ha := la.few
  have hb := lb.few
  have lx := qe3 a
  have ly := qe3 b
  have hsz := qh4 (a := a) (b := b)
  unfold lot at la lb
  have e1 : ∀ (H : Heap) (k : AV → Heap → Option AV), polQ pRnorm [eN a] H k = k (eN (rnormS a)) H := fun H k => qRnorm ha
  have e2 : ∀ (H : Heap) (k : AV → Heap → Option AV), polQ pRnorm [eN b] H k = k (eN (rnormS b)) H := fun H k => qRnorm hb
  unfold raddS raddC
  generalize rnormS a = x at *
  generalize rnormS b = y at *
  have fx : few x.2 := by unfold few; omega
  have fy : few y.2 := by unfold few; omega
  have hM : plusM x.2 y.2 ≤ 900000 := by unfold plusM; omega
  by_cases hpq : x.1 = y.1
  · rw [if_pos hpq]
    have hbin : ∀ H, A.bin base.P .eql 4 (.bool x.1) (.bool y.1) false H = some (.bool true) := fun H => by rw [A.bin_beq q36, hpq]; simp
    have e3 : ∀ (H : Heap) (k : AV → Heap → Option AV), polQ pRplus [eD x.2, eD y.2] H k = k (eD (rplusS x.2 y.2)) H := fun H k => qRplus fx fy
    have e4 : ∀ (H : Heap) (k : AV → Heap → Option AV), polQ pRnorm [.agg [.bool x.1, eD (rplusS x.2 y.2)]] H k = k (eN (rnormS (x.1, rplusS x.2 y.2))) H := fun H k => qRnorm (a := (x.1, rplusS x.2 y.2)) (by unfold few; dsimp only; rw [rplus_len]; omega)
    clear hpq
    generalize rplusS x.2 y.2 = w at *
    generalize rnormS (x.1, w) = z at *
    simp [↓q00, ↓q07, ↓q01, ↓q06, S29, A.ofList, A.fits, A.splice, A.fill, e1, e2, hbin, e3, e4]
  · rw [if_neg hpq]
    have hbin : ∀ H, A.bin base.P .eql 4 (.bool x.1) (.bool y.1) false H = some (.bool false) := fun H => by rw [A.bin_beq q36]; simp [hpq]
    have e3 : ∀ (H : Heap) (k : AV → Heap → Option AV), polK pMags [eD x.2, eD y.2] H k = k (.int .i64 (sizeS x.2 y.2)) H := fun H k => kMags fx fy
    by_cases hs : 0 ≤ sizeS x.2 y.2
    · rw [if_pos hs]
      rw [hsz] at hs
      have hle : val (y.2.getD []) ≤ val (x.2.getD []) := by
        unfold cmpN cmpI at hs
        split at hs <;> omega
      rw [← hsz] at hs
      have e5 : ∀ (H : Heap) (k : AV → Heap → Option AV), polQ q6z [eD x.2, eD y.2] H k = k (eD (q16 x.2 y.2)) H := fun H k => qRminus fx fy hle
      have e6 : ∀ (H : Heap) (k : AV → Heap → Option AV), polQ pRnorm [.agg [.bool x.1, eD (q16 x.2 y.2)]] H k = k (eN (rnormS (x.1, q16 x.2 y.2))) H := fun H k => qRnorm (a := (x.1, q16 x.2 y.2)) (by unfold few; dsimp only; rw [qaw]; omega)
      generalize q16 x.2 y.2 = w at *
      generalize rnormS (x.1, w) = z at *
      simp [↓q00, ↓q07, ↓q01, ↓q06, S29, A.ofList, A.fits, A.splice, A.fill, e1, e2, hbin, e3, hs, e5, e6]
    · rw [if_neg hs]
      rw [hsz] at hs
      have hle : val (x.2.getD []) ≤ val (y.2.getD []) := by
        unfold cmpN cmpI at hs
        split at hs <;> (try split at hs) <;> omega
      rw [← hsz] at hs
      have e5 : ∀ (H : Heap) (k : AV → Heap → Option AV), polQ q6z [eD y.2, eD x.2] H k = k (eD (q16 y.2 x.2)) H := fun H k => qRminus fy fx hle
      have e6 : ∀ (H : Heap) (k : AV → Heap → Option AV), polQ pRnorm [.agg [.bool y.1, eD (q16 y.2 x.2)]] H k = k (eN (rnormS (y.1, q16 y.2 x.2))) H := fun H k => qRnorm (a := (y.1, q16 y.2 x.2)) (by unfold few; dsimp only; rw [qaw]; omega)
      generalize q16 y.2 x.2 = w at *
      generalize rnormS (y.1, w) = z at *
      simp [↓q00, ↓q07, ↓q01, ↓q06, S29, A.ofList, A.fits, A.splice, A.fill, e1, e2, hbin, e3, hs, e5, e6]
theorem qRadd {R : Type} {a b : Nm} (la : lot a.2) (lb : lot b.2) {H : Heap} {k : AV → Heap → Option R} : polQ pRadd [eN a, eN b] H k = k (eN (raddS a b)) H := by
  simp [pRadd, q1e, la, lb]
end Go.Proofs.YtikkpecdkdgmfaaDoor

/- Numbers of any size: the reference's differences and order. -/
set_option maxRecDepth 100000
set_option maxHeartbeats 2000000
namespace Go.Proofs.YtikkpecdkdgmfaaDoor
open Go Go.Den
def rsubS (a b : Nm) : Nm := raddS a (!(rnormS b).1, (rnormS b).2)
noncomputable def pRsub : Pol := .still (p2 cN cN eN (fun a b => lot a.2 ∧ lot b.2) rsubS)
noncomputable def pRcmp : Pol := .still (p2 cN cN (.int .i64) (fun a b => few a.2 ∧ few b.2) (fun a b => cmpI (toI a) (toI b)))
end Go.Proofs.YtikkpecdkdgmfaaDoor

/- Numbers of any size: the reference's words. -/
set_option maxRecDepth 100000
set_option maxHeartbeats 2000000
namespace Go.Proofs.YtikkpecdkdgmfaaDoor
open Go Go.Den
noncomputable def pSmallof : Pol := .still (p1 cN (fun r : Int × Bool => .tup [.int .i64 r.1, .bool r.2]) (fun a => few a.2) smallS)
end Go.Proofs.YtikkpecdkdgmfaaDoor

/- Numbers of any size: the reference's products. -/
set_option maxRecDepth 100000
set_option maxHeartbeats 2000000
namespace Go.Proofs.YtikkpecdkdgmfaaDoor
open Go Go.Den
theorem qi9 {pol : FuncId → Pol} {dx dy : Option (List UInt32)} {id bi : Nat} {p q : Bool} {i : Nat} {o0 : List UInt32} {t6 : AV} {c1 : List AV} (hne : bi ≠ id) (hiu : i < (dx.getD []).length) (hL : i + (dy.getD []).length < o0.length) (hbig : o0.length ≤ 2000000) : ∀ (k j c : Nat) (o : List UInt32) (H : Heap), k + j = (dy.getD []).length → o.length = o0.length → o.drop (i + j) = o0.drop (i + j) → c < 4294967296 →
    val o + c * 4294967296 ^ (i + j) = val o0 + 4294967296 ^ i * (((dx.getD [])[i]).toNat * val ((dy.getD []).take j)) → H[id]? = some (.row 0 1 64 (o.map eu)) → Go.Den.Box H bi 2 24 [.bool q, eD dy] →
    ∃ (H' : Heap) (o' : List UInt32) (c' : Nat), LDoes (L25_1 pol) ⟨[.ptr bi 0 0 0, t6, .sl id 0 0 o0.length o0.length, .int .i64 (i : Nat), .int .u64 (c : Nat), .int .i64 (j : Nat)], [[.bool p, eD dx], c1]⟩ H 0
      ⟨[.ptr bi 0 0 0, t6, .sl id 0 0 o0.length o0.length, .int .i64 (i : Nat), .int .u64 (c' : Nat)], [[.bool p, eD dx], c1]⟩ H' ∧ Go.Den.Box H' bi 2 24 [.bool q, eD dy] ∧ H'[id]? = some (.row 0 1 64 (o'.map eu)) ∧ o'.length = o0.length ∧ o'.drop (i + (dy.getD []).length) = o0.drop (i + (dy.getD []).length) ∧ c' < 4294967296 ∧
      val o' + c' * 4294967296 ^ (i + (dy.getD []).length) = val o0 + 4294967296 ^ i * (((dx.getD [])[i]).toNat * val (dy.getD [])) := by
  intro k
  induction k with
  | zero =>
    intro j c o H hk ho hd hc hv hH hBx
    have : j = (dy.getD []).length := by omega
    subst this
    rw [List.take_length] at hv
    refine ⟨H, o, c, LDoes.step (Evs.of fun n m => ?_), hBx, hH, ho, hd, hc, hv⟩
    have f1 := hBx.fa (o := 1)
    have f2 := hBx.load (o := 1)
    simp only [List.getElem?_cons_succ, List.getElem?_cons_zero] at f2
    simp [↓q00, ↓q01, q9z, f1, f2]
  | succ k ih =>
    intro j c o H hk ho hd hc hv hH hBx
    have hlt : j < (dy.getD []).length := by omega
    have hx := q1w (d := dy) (H := H) (k := .i64) (i := j) (by omega)
    have hxu := q1w (d := dx) (H := H) (k := .i64) (i := i) (by omega)
    have f1 := hBx.fa (o := 1)
    have f2 := hBx.load (o := 1)
    simp only [List.getElem?_cons_succ, List.getElem?_cons_zero] at f2
    have hio : i + j < o.length := by omega
    obtain ⟨r1, r2, r3⟩ := lrow (k := .i64) (n := o0.length) (j := i + j) (i := (i : Int) + (j : Int)) hH ho.symm hio (by omega)
    have hu := q14 (dx.getD [])[i]
    have hy := q14 (dy.getD [])[j]
    have hod := q14 o[i + j]
    obtain ⟨hb1, hb2⟩ := qdv hu hy hc hod
    have hset := q77 hio (UInt32.ofNat (c + (((dx.getD [])[i]).toNat * ((dy.getD [])[j]).toNat + (o[i + j]).toNat)))
    rw [q0v] at hset
    have hvt := q0z hlt
    have hdm := Nat.div_add_mod (c + (((dx.getD [])[i]).toNat * ((dy.getD [])[j]).toNat + (o[i + j]).toNat)) 4294967296
    have hnew := mul_alg (B := 4294967296) (q := (c + (((dx.getD [])[i]).toNat * ((dy.getD [])[j]).toNat + (o[i + j]).toNat)) / 4294967296) hset (Nat.mod_add_div _ _).symm rfl hv (Nat.pow_add _ _ _)
    rw [← hvt] at hnew
    have hdrop : (o.set (i + j) (UInt32.ofNat (c + (((dx.getD [])[i]).toNat * ((dy.getD [])[j]).toNat + (o[i + j]).toNat)))).drop (i + (j + 1)) = o0.drop (i + (j + 1)) := by
      rw [List.drop_set_of_lt (by omega)]
      have e1 : o.drop (i + (j + 1)) = (o.drop (i + j)).drop 1 := by rw [List.drop_drop]; congr 1
      have e2 : o0.drop (i + (j + 1)) = (o0.drop (i + j)).drop 1 := by rw [List.drop_drop]; congr 1
      rw [e1, e2, hd]
    obtain ⟨H', o', c', hL', q0, q1, q2, q3, q4, q5⟩ := ih (j + 1) ((c + (((dx.getD [])[i]).toNat * ((dy.getD [])[j]).toNat + (o[i + j]).toNat)) / 4294967296) (o.set (i + j) (UInt32.ofNat (c + (((dx.getD [])[i]).toNat * ((dy.getD [])[j]).toNat + (o[i + j]).toNat)))) _ (by omega) (by rw [List.length_set, ho]) hdrop (by omega) (by rw [show i + (j + 1) = (i + j) + 1 by omega, Nat.pow_succ]; exact hnew) (q1o hH) (by unfold Go.Den.Box; rw [get_set_ne (Ne.symm hne)]; exact hBx)
    refine ⟨H', o', c', LDoes.step (Evs.withL hL' (Evs.of fun n m _ h3 => ?_)), q0, q1, q2, q3, q4, q5⟩
    have hst := r3 (UInt32.ofNat (c + (((dx.getD [])[i]).toNat * ((dy.getD [])[j]).toNat + (o[i + j]).toNat)))
    generalize (dx.getD [])[i] = u at *
    generalize o[i + j] = ol at *
    generalize (dy.getD [])[j] = yl at *
    have hp0 : (0 : Int) ≤ (u.toNat : Int) * (yl.toNat : Int) := by rw [← Int.natCast_mul]; omega
    have hp1 : (u.toNat : Int) * (yl.toNat : Int) ≤ 18446744065119617025 := by rw [← Int.natCast_mul]; omega
    have hcast : (u.toNat : Int) * (yl.toNat : Int) + (ol.toNat : Int) + (c : Int) = ((c + (u.toNat * yl.toNat + ol.toNat) : Nat) : Int) := by simp only [Int.natCast_add, Int.natCast_mul]; omega
    have hb2' : (u.toNat : Int) * (yl.toNat : Int) + (ol.toNat : Int) + (c : Int) < 18446744073709551616 := by rw [hcast]; omega
    have hw : IntKind.wrap .u32 ((u.toNat : Int) * (yl.toNat : Int) + (ol.toNat : Int) + (c : Int)) = (UInt32.ofNat (c + (u.toNat * yl.toNat + ol.toNat))).toNat := by rw [hcast]; exact q0n _
    have hsh : ∀ H, A.bin base.P .shr 63 (.int .u64 ((u.toNat : Int) * (yl.toNat : Int) + (ol.toNat : Int) + (c : Int))) (.int .u64 32) true H = some (.int .u64 (((c + (u.toNat * yl.toNat + ol.toNat)) / 4294967296 : Nat) : Int)) := fun H => by
      rw [hcast]
      exact q2r (s := 32) (by omega)
    generalize (((c + (u.toNat * yl.toNat + ol.toNat)) / 4294967296 : Nat) : Int) = cq at *
    generalize UInt32.ofNat (c + (u.toNat * yl.toNat + ol.toNat)) = dg at *
    simp only [Int.natCast_add, Int.natCast_one, List.map_set] at h3
    simp (disch := omega) [↓q00, ↓q01, ↓q0e, q9z, A.ofList, hlt, hx, hxu, f1, f2, q0x, q0p, q0g, q08, r1, r2, hw, hst, hsh, h3]
end Go.Proofs.YtikkpecdkdgmfaaDoor

/- Numbers of any size: the reference's products. -/
set_option maxRecDepth 100000
set_option maxHeartbeats 2000000
namespace Go.Proofs.YtikkpecdkdgmfaaDoor
open Go Go.Den
theorem qia {pol : FuncId → Pol} {dx dy : Option (List UInt32)} {id bi : Nat} {p q : Bool} {t6 : AV} {c1 : List AV} (hne : bi ≠ id) (hbx : (dx.getD []).length ≤ 128) (hby : (dy.getD []).length ≤ 128) : ∀ (k i : Nat) (o : List UInt32) (H : Heap), k + i = (dx.getD []).length → o.length = (dx.getD []).length + (dy.getD []).length → val o = val ((dx.getD []).take i) * val (dy.getD []) →
    H[id]? = some (.row 0 1 64 (o.map eu)) → Go.Den.Box H bi 2 24 [.bool q, eD dy] →
    ∃ H', LDoes (L25_0 pol) ⟨[.ptr bi 0 0 0, t6, .sl id 0 0 ((dx.getD []).length + (dy.getD []).length) ((dx.getD []).length + (dy.getD []).length), .int .i64 (i : Nat)], [[.bool p, eD dx], c1]⟩ H 0 ⟨[.ptr bi 0 0 0, t6, .sl id 0 0 ((dx.getD []).length + (dy.getD []).length) ((dx.getD []).length + (dy.getD []).length)], [[.bool p, eD dx], c1]⟩ H' ∧ Go.Den.Box H' bi 2 24 [.bool q, eD dy] ∧
      H'[id]? = some (.row 0 1 64 ((digs ((dx.getD []).length + (dy.getD []).length) (val (dx.getD []) * val (dy.getD []))).map eu)) := by
  intro k
  induction k with
  | zero =>
    intro i o H hk ho hv hH hBx
    have : i = (dx.getD []).length := by omega
    subst this
    rw [List.take_length] at hv
    have e : o = digs ((dx.getD []).length + (dy.getD []).length) (val (dx.getD []) * val (dy.getD [])) := q6o ho hv
    rw [e] at hH
    refine ⟨H, LDoes.step (Evs.of fun n m => ?_), hBx, hH⟩
    simp [↓q00, ↓q03, ↓q07, ↓q01, q9y, A.ofList]
  | succ k ih =>
    intro i o H hk ho hv hH hBx
    have hlt : i < (dx.getD []).length := by omega
    have hx := q1w (d := dx) (H := H) (k := .i64) (i := i) (by omega)
    obtain ⟨H1, o1, c1', hI, q0, q1, q2, q3, q4, q5⟩ := qi9 (pol := pol) (dx := dx) (dy := dy) (id := id) (bi := bi) (p := p) (q := q) (t6 := t6) (c1 := c1) (i := i) (o0 := o) hne hlt (by omega) (by omega) (dy.getD []).length 0 0 o H (by omega) rfl rfl (by omega) (by simp [val]) hH hBx
    have f1 := q0.fa (o := 1)
    have f2 := q0.load (o := 1)
    simp only [List.getElem?_cons_succ, List.getElem?_cons_zero] at f2
    have hlim : val o < 4294967296 ^ (i + (dy.getD []).length) := by
      rw [hv, Nat.pow_add]
      have h1 := q15 (dx.getD []) i
      have h2 := q1n (dy.getD [])
      generalize 4294967296 ^ (dy.getD []).length = p' at *
      generalize 4294967296 ^ i = q' at *
      rcases Nat.eq_zero_or_pos (val (dy.getD [])) with h | h
      · rw [h, Nat.mul_zero]
        exact Nat.mul_pos (by omega) (by omega)
      · calc val ((dx.getD []).take i) * val (dy.getD []) < q' * val (dy.getD []) := Nat.mul_lt_mul_of_pos_right h1 h
          _ ≤ q' * p' := Nat.mul_le_mul_left _ (by omega)
    have hio : i + (dy.getD []).length < o1.length := by omega
    have hzero : o1[i + (dy.getD []).length] = 0 := by
      have h1 := List.drop_eq_getElem_cons (l := o1) (i := i + (dy.getD []).length) hio
      have h2 := List.drop_eq_getElem_cons (l := o) (i := i + (dy.getD []).length) (by omega)
      rw [q3, h2] at h1
      rw [← (List.cons.inj h1).1]
      exact qdo hlim (Nat.le_refl _) (by omega)
    have hset := q77 hio (UInt32.ofNat c1')
    rw [hzero, q0v, Nat.mod_eq_of_lt q4] at hset
    simp only [UInt32.toNat_zero, Nat.mul_zero, Nat.add_zero] at hset
    have hvn : val (o1.set (i + (dy.getD []).length) (UInt32.ofNat c1')) = val ((dx.getD []).take (i + 1)) * val (dy.getD []) := by
      rw [hset, Nat.mul_comm _ c1', q5, hv, q0z hlt]
      grind
    obtain ⟨r1, r2, r3⟩ := lrow (k := .i64) (n := (dx.getD []).length + (dy.getD []).length) (j := i + (dy.getD []).length) (i := (i : Int) + ((dy.getD []).length : Int)) q1 (by omega) hio (by omega)
    obtain ⟨H', hL', hb', hr⟩ := ih (i + 1) (o1.set (i + (dy.getD []).length) (UInt32.ofNat c1')) _ (by omega) (by rw [List.length_set]; omega) hvn (q1o q1) (by unfold Go.Den.Box; rw [get_set_ne (Ne.symm hne)]; exact q0)
    refine ⟨H', LDoes.step (Evs.withL hI (Evs.withL hL' (Evs.of fun n m _ h3 h4 h5 => ?_))), hb', hr⟩
    have hst := r3 (UInt32.ofNat c1')
    have hw : IntKind.wrap .u32 (c1' : Int) = (UInt32.ofNat c1').toNat := q0n _
    generalize UInt32.ofNat c1' = dg at *
    rw [ho] at h4
    simp only [Int.natCast_add, List.map_set, Int.cast_ofNat_Int] at h3 h4 hst
    simp (disch := omega) [↓q00, ↓q03, ↓q07, ↓q01, ↓q0e, ↓q02, q9y, A.ofList, hlt, f1, f2, q0p, q08, h4, r1, hw, hst, h3]
end Go.Proofs.YtikkpecdkdgmfaaDoor

/- Numbers of any size: the reference's products, as an entry. -/
set_option maxRecDepth 100000
set_option maxHeartbeats 2000000
namespace Go.Proofs.YtikkpecdkdgmfaaDoor
open Go Go.Den
def rmulS (a b : Nm) : Nm × Bool :=
  if 128 < (lim (mag a)).length ∨ 128 < (lim (mag b)).length then ((false, none), false)
  else if 128 < (lim (mag a * mag b)).length then ((false, none), false)
  else (rnormS ((rnormS a).1 != (rnormS b).1, some (lim (mag a * mag b))), true)
theorem rnorm_val {p : Bool} {l m : List UInt32} (h : val l = val m) : rnormS (p, some l) = rnormS (p, some m) := by
  unfold rnormS
  simp only [Option.getD_some, h]
noncomputable def pRmul : Pol := .still (p2 cN cN (fun r : Nm × Bool => .tup [eN r.1, .bool r.2]) (fun a b => few a.2 ∧ few b.2) rmulS)
noncomputable abbrev TRmul : List (FuncId × Pol) := [(18, pRnorm)]
theorem okRmul : PolOK base 25 pRmul := still2 base_ok TRmul ⟨q5a, trivial⟩ fun a b ⟨ha, hb⟩ => by
  have e1 : ∀ (H : Heap) (k : AV → Heap → Option AV), polQ pRnorm [eN a] H k = k (eN (rnormS a)) H := fun H k => qRnorm ha
  have e2 : ∀ (H : Heap) (k : AV → Heap → Option AV), polQ pRnorm [eN b] H k = k (eN (rnormS b)) H := fun H k => qRnorm hb
  have gx : (rnormS a).2.getD [] = lim (mag a) := by unfold rnormS; exact q2m ..
  have gy : (rnormS b).2.getD [] = lim (mag b) := by unfold rnormS; exact q2m ..
  unfold rmulS
  generalize hX : mag a = X at *
  generalize hY : mag b = Y at *
  generalize rnormS a = x at *
  generalize rnormS b = y at *
  obtain ⟨p, dx⟩ := x
  obtain ⟨q, dy⟩ := y
  dsimp only at gx gy ⊢
  have b0 : Go.Den.Box [.row 0 2 24 [eN b]] 0 2 24 [.bool b.1, eD b.2] := rfl
  have b1 : Go.Den.Box [.row 0 2 24 [eN (q, dy)]] 0 2 24 [.bool q, eD dy] := rfl
  have l0 := qb9 b0 rfl
  have s0 : A.store 2 (.ptr 0 0 0 0) (eN (q, dy)) [.row 0 2 24 [eN b]] = some [.row 0 2 24 [eN (q, dy)]] :=
    q80 (ds := [.bool q, eD dy]) b0 rfl rfl ((fun d => by cases d <;> rfl : ∀ d : Option (List UInt32), [AV.bool q, eD d].all AV.one = true) _)
  have f1 := b1.fa (o := 1)
  have f2 := b1.load (o := 1)
  simp only [List.getElem?_cons_succ, List.getElem?_cons_zero] at f2
  by_cases h1 : 128 < (lim X).length
  · rw [if_pos (.inl h1)]
    have h1' : (128 : Int) < ((lim X).length : Int) := by omega
    refine Evs.of fun n m => ?_
    simp [↓q00, ↓q03, ↓q07, ↓q0f, ↓q01, ↓q04, ↓q0e, ↓q05, ↓q06, S25, A.ofList, A.fits, A.splice, A.fill, e1, l0, e2, s0, gx, h1']
    exact qaj (d := none)
  have h1' : ¬ (128 : Int) < ((lim X).length : Int) := by omega
  by_cases h2 : 128 < (lim Y).length
  · rw [if_pos (.inr h2)]
    have h2' : (128 : Int) < ((lim Y).length : Int) := by omega
    refine Evs.of fun n m => ?_
    simp [↓q00, ↓q03, ↓q07, ↓q0f, ↓q01, ↓q04, ↓q0e, ↓q05, ↓q06, S25, A.ofList, A.fits, A.splice, A.fill, e1, l0, e2, s0, f1, f2, gx, gy, h1', h2']
    exact qaj (d := none)
  have h2' : ¬ (128 : Int) < ((lim Y).length : Int) := by omega
  rw [if_neg (by omega)]
  obtain ⟨L, hLL⟩ : ∃ L, (lim X).length + (lim Y).length = L := ⟨_, rfl⟩
  have hmk : A.makeSlice 1 4 64 (.int .u32 0) (.int .i64 (((lim X).length : Int) + ((lim Y).length : Int))) (.int .i64 (((lim X).length : Int) + ((lim Y).length : Int))) [.row 0 2 24 [eN (q, dy)]] = some (.sl 1 0 0 L L, [.row 0 2 24 [eN (q, dy)], .row 0 1 64 ((List.replicate L (0 : UInt32)).map eu)]) := by
    rw [show ((lim X).length : Int) + ((lim Y).length : Int) = ((L : Nat) : Int) by omega, q3y (bytes := 4) (l := ((L : Nat) : Int)) (by omega) (by omega) (by omega)]
    simp
  obtain ⟨H', hL, hbx, hr⟩ := qia (pol := polT TRmul) (dx := dx) (dy := dy) (id := 1) (bi := 0) (p := p) (q := q) (t6 := .int .i64 128) (c1 := [.bool false, .nils]) (by omega) (by rw [gx]; omega) (by rw [gy]; omega) (lim X).length 0 (List.replicate L 0) [.row 0 2 24 [eN (q, dy)], .row 0 1 64 ((List.replicate L (0 : UInt32)).map eu)]
    (by rw [gx]; omega) (by rw [gx, gy]; simp [hLL]) (by simp [val, q9j]) rfl rfl
  rw [gx, gy, hLL] at hL hr
  rw [q0q, q0q] at hr
  have g3 := hbx.fa (o := 0)
  have g4 := hbx.load (o := 0)
  simp only [List.getElem?_cons_zero] at g4
  obtain ⟨w, hw⟩ : ∃ w, (p != q) = w := ⟨_, rfl⟩
  have hbin : ∀ H, A.bin base.P .neq 4 (.bool p) (.bool q) false H = some (.bool w) := fun H => by rw [A.bin_bne q36, ← hw]; rfl
  have hprod : X * Y < 4294967296 ^ L := by
    have e1 := lim_le.1 (Nat.le_refl (lim X).length)
    have e2 := lim_le.1 (Nat.le_refl (lim Y).length)
    rw [← hLL, Nat.pow_add]
    exact Nat.mul_lt_mul'' e1 e2
  obtain ⟨G, hm⟩ : ∃ G : Heap, ∀ (k : AV → Heap → Option AV), polK pRnorm [.agg [.bool w, .sl 1 0 0 L L]] H' k = k (eN (rnormS (w, some (lim (X * Y))))) G := ⟨_, fun k => by
    unfold pRnorm
    have hz : q0r H' [.agg [.bool w, .sl 1 0 0 L L]] = some [.agg [.bool w, eD (some (digs L (X * Y)))]] := q0m (qbn hr (by rw [q0a])) rfl
    rw [q2d hz]
    simp only [p1_app, dec_cN, Option.bind_some]
    rw [if_pos (by unfold few; simp only [Option.getD_some, q0a]; omega), rnorm_val (l := digs L (X * Y)) (m := lim (X * Y)) (by rw [q11 hprod, q0q])]
    rfl⟩
  have hg : (rnormS (w, some (lim (X * Y)))).2.getD [] = lim (X * Y) := by
    unfold rnormS
    dsimp only
    rw [q2m, Option.getD_some, q0q]
  rw [hw]
  generalize rnormS (w, some (lim (X * Y))) = M at *
  obtain ⟨M1, M2⟩ := M
  dsimp only at hg
  refine Evs.withL hL (Evs.of fun n m h3 _ => ?_)
  have e0 : ((0 : Nat) : Int) = 0 := rfl
  simp only [e0] at h3
  generalize (List.replicate L (0 : UInt32)).map eu = zz at *
  by_cases h5 : 128 < (lim (X * Y)).length
  · rw [if_pos h5]
    have h5' : (128 : Int) < ((lim (X * Y)).length : Int) := by omega
    simp (disch := omega) [↓q00, ↓q03, ↓q07, ↓q0f, ↓q01, ↓q04, ↓q0e, ↓q0k, ↓q05, ↓q02, ↓q06, S25, A.ofList, A.fits, A.splice, A.fill, e1, l0, e2, s0, f1, f2, gx, gy, h1', h2', hmk, q08, h3, g3, g4, hbin, hm, hg, h5']
    exact qaj (d := none)
  · rw [if_neg h5]
    have h5' : ¬ (128 : Int) < ((lim (X * Y)).length : Int) := by omega
    simp (disch := omega) [↓q00, ↓q03, ↓q07, ↓q0f, ↓q01, ↓q04, ↓q0e, ↓q0k, ↓q05, ↓q02, ↓q06, S25, A.ofList, A.fits, A.splice, A.fill, e1, l0, e2, s0, f1, f2, gx, gy, h1', h2', hmk, q08, h3, g3, g4, hbin, hm, hg, h5']
theorem qRmul {R : Type} {a b : Nm} (ha : few a.2) (hb : few b.2) {H : Heap} {k : AV → Heap → Option R} : polQ pRmul [eN a, eN b] H k = k (.tup [eN (rmulS a b).1, .bool (rmulS a b).2]) H := by
  simp [pRmul, q1e, ha, hb]
end Go.Proofs.YtikkpecdkdgmfaaDoor
