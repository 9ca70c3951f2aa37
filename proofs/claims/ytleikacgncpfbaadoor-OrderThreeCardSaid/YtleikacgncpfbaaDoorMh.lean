/- Texts put together: BgO, Big1, Num2, Num3, Num4, Num5, Num6, Tm1, Tm2, Tm3, Tm4, Tm5, Tm6, Tm7, Tm8, Tm9, Tm10, Tm11, Ma1, Ma2, U1, U2, U3, U4, U5, U6, U7, MaV, Ma8, Ma9, MaA, Or1, Or5, Or6, Or2, Or3. -/
import Derived.Test.YtleikacgncpfbaaDoorMg

/- The base of all that is proved of the seat's functions. -/
set_option maxRecDepth 100000
namespace Go.Proofs.YtleikacgncpfbaaDoor
open Go Go.Den
theorem base_ok : BaseOK base := ⟨envOK qiz (by kernel_rfl) (fun f hf => q7v hf) (by kernel_rfl), by kernel_rfl⟩
end Go.Proofs.YtleikacgncpfbaaDoor

/- Numbers of any size: copies, cuts, which is less. -/
set_option maxRecDepth 100000
namespace Go.Proofs.YtleikacgncpfbaaDoor
open Go Go.Den
theorem q1g : base.P.underlying 22 = some (.slice 59) := by kernel_rfl
theorem q7i : base.P.underlying 4 = some .bool := by kernel_rfl
noncomputable def pClone : Pol := .still (p1 cD eD few id)
theorem kClone {R : Type} {d : Option (List UInt32)} (hf : few d) {H : Heap} {k : AV → Heap → Option R} : polK pClone [eD d] H k = k (eD d) H := by
  simp [pClone, q0b, hf]
theorem okClone : PolOK base 72 pClone := still1 base_ok [] trivial fun d hf => by
  unfold few at hf
  refine Evs.of fun n _ => ?_
  cases d with
  | none => simp [↓q00, ↓q05, ↓q09, ↓q01, S72, eL, A.bin, q1g, A.eqNil]
  | some l =>
    simp only [Option.getD_some] at hf
    cases l with
    | nil =>
      have h1 := q1h (H := [.row 0 1 59 []]) (id := 0) (ver := 0) (sz := 1) (ty := 59) (es := []) (n := 0) (bytes := 4) rfl rfl (by omega) (by simp)
      simp [↓q00, ↓q05, ↓q09, ↓q01, ↓q0c, ↓q0m, S72, eL, A.bin, q1g, A.eqNil, A.fillElems, q0y q1g, A.read, h1]
      exact q1d (b := true) (m := 62) (es := []) rfl rfl (by simp)
    | cons x l =>
      have h1 := q1q (H := [.row 0 1 59 []]) (id := 0) (ver := 0) (sz := 1) (ty := 59) (es := []) (n := 0) (bytes := 4) (news := (x :: l).map eu) rfl rfl (by simp) (by omega) (by simp at hf ⊢; omega)
      simp only [List.nil_append] at h1
      simp [↓q00, ↓q05, ↓q09, ↓q01, ↓q0c, S72, eL, A.bin, q1g, A.eqNil, A.fillElems, q0y q1g, A.read]
      simp at h1
      simp [h1]
      exact q1d (b := true) (m := 62) (es := (x :: l).map eu) rfl (by simp) (qhp _)
def cutS (d : Option (List UInt32)) : Option (List UInt32) := d.map fun l => lim (val l)
noncomputable def pCut : Pol := .still (p1 cD eD few cutS)
theorem cut_loop {pol : FuncId → Pol} {d : Option (List UInt32)} {l : List UInt32} (hd : d.getD [] = l) (hf : l.length ≤ 1000000) (H : Heap) : ∀ i, i ≤ l.length → LDoes (L82_0 pol) ⟨[eD d, .int .i64 i], []⟩ H 0 ⟨[eD d, .int .i64 (lim (val (l.take i))).length], []⟩ H := by
  intro i
  induction i with
  | zero =>
    intro _
    refine LDoes.step (Evs.of fun n m => ?_)
    simp [↓q00, ↓q01, ↓q04, ↓q03, q6t, val, q0x]
  | succ i ih =>
    intro hi
    have hl : i < (d.getD []).length := by rw [hd]; omega
    have hx := q7s (H := H) (k := .i64) hl
    by_cases h0 : l[i] = 0
    · have hL := ih (by omega)
      refine LDoes.step (Evs.withL hL (Evs.of fun n m h1 h2 => ?_))
      have h0' : ((d.getD [])[i]).toNat = 0 := by simp only [hd, h0]; rfl
      have hp : (0 : Int) < (i : Int) + 1 := by omega
      rw [q87 (by omega), if_pos h0]
      simp (disch := omega) [↓q00, ↓q01, ↓q04, ↓q03, q6t, hp, q0f, hx, h0', h2]
    · refine LDoes.step (Evs.of fun n m => ?_)
      have h0' : ¬ ((d.getD [])[i]).toNat = 0 := by
        simp only [hd]
        exact fun e => h0 (UInt32.toNat_inj.1 (by simpa using e))
      have hp : (0 : Int) < (i : Int) + 1 := by omega
      rw [q87 (by omega), if_neg h0]
      simp (disch := omega) [↓q00, ↓q01, ↓q04, ↓q03, q6t, hp, q0f, hx, h0']
theorem okCut : PolOK base 82 pCut := still1 base_ok [(72, pClone)] ⟨okClone, trivial⟩ fun d hf => by
  unfold few at hf
  have hL := cut_loop (pol := polT [(72, pClone)]) (d := d) rfl hf [] _ (Nat.le_refl _)
  refine Evs.withL hL (Evs.of fun n m h1 _ => ?_)
  have hs : ∀ k : Nat, k ≤ (d.getD []).length → A.slice 1 (eD d) none (some (.int .i64 k)) none [] = some (eD (d.map fun l => l.take k)) := fun k hk => by
    cases d with
    | none => simp at hk; subst hk; rfl
    | some l =>
      simp at hk
      simp [eL, A.slice, A.bound, hk]
  have hle := q21 (d.getD [])
  have e : (d.map fun l => l.take (lim (val (d.getD []))).length) = cutS d := by
    cases d with
    | none => rfl
    | some l => simp [cutS, qh7]
  have hk := hs _ hle
  rw [e] at hk
  have hf2 : few (cutS d) := by
    rw [← e]
    unfold few
    cases d with
    | none => simp
    | some l => simp at hf ⊢; omega
  rw [List.take_length] at h1
  simp [↓q05, ↓q01, ↓q06, S82, h1, hk, kClone hf2]
theorem kCut {R : Type} {d : Option (List UInt32)} (hf : few d) {H : Heap} {k : AV → Heap → Option R} : polK pCut [eD d] H k = k (eD (cutS d)) H := by
  simp [pCut, q0b, hf]
theorem qj5 {d : Option (List UInt32)} (h : few d) : few (cutS d) := by
  unfold few at h ⊢
  cases d with
  | none => simp [cutS]
  | some l =>
    have := q21 l
    simp [cutS] at h ⊢
    omega
def madeS (b : Bool) (d : Option (List UInt32)) : Nm := (b && decide (0 < ((cutS d).getD []).length), cutS d)
noncomputable def pMade : Pol := .still (p2 cB cD eN (fun _ d => few d) madeS)
theorem okMade : PolOK base 84 pMade := still2 base_ok [(82, pCut)] ⟨okCut, trivial⟩ fun b d hf => by
  refine Evs.of fun n m => ?_
  cases b <;> simp [↓q0a, ↓q01, ↓q04, ↓q03, ↓q07, S84, kCut hf, madeS, A.fill, A.splice, A.fits, A.ofList]
theorem kMade {R : Type} {b : Bool} {d : Option (List UInt32)} (hf : few d) {H : Heap} {k : AV → Heap → Option R} : polK pMade [.bool b, eD d] H k = k (eN (madeS b d)) H := by
  simp [pMade, q0b, hf]
def normS (a : Nm) : Nm := madeS a.1 a.2
noncomputable def pNorm : Pol := .still (p1 cN eN (fun a => few a.2) normS)
theorem okNorm : PolOK base 59 pNorm := still1 base_ok [(84, pMade)] ⟨okMade, trivial⟩ fun a hf => by
  refine Evs.of fun n m => ?_
  simp [↓q0a, ↓q01, ↓q07, S59, kMade hf, normS, A.splice, A.fits, A.ofList]
theorem kNorm {R : Type} {a : Nm} (hf : few a.2) {H : Heap} {k : AV → Heap → Option R} : polK pNorm [eN a] H k = k (eN (normS a)) H := by
  simp [pNorm, q0b, hf]
theorem qNorm {R : Type} {a : Nm} (hf : few a.2) {H : Heap} {k : AV → Heap → Option R} : polQ pNorm [eN a] H k = k (eN (normS a)) H := by
  simp [pNorm, q29, hf]
/-! ### which is less -/
noncomputable def pNan : Pol := .still (p1 (cI .i64) .bool (fun _ => True) fun _ => false)
theorem okNan : PolOK base 100 pNan := still1 base_ok [] trivial fun a _ => Evs.of fun n m => by simp [↓q01, S100]
noncomputable def pNan32 : Pol := .still (p1 cU32 .bool (fun _ => True) fun _ => false)
theorem okNan32 : PolOK base 116 pNan32 := still1 base_ok [] trivial fun a _ => Evs.of fun n m => by simp [↓q01, S116]
noncomputable def pCmp : Pol := .still (p2 (cI .i64) (cI .i64) (.int .i64) (fun _ _ => True) cmpI)
theorem okCmp : PolOK base 85 pCmp := still2 base_ok [(100, pNan)] ⟨okNan, trivial⟩ fun a b _ => Evs.of fun n m => by
  have h : ∀ (R : Type) (x : Int) (H : Heap) (k : AV → Heap → Option R), polK pNan [.int .i64 x] H k = k (.bool false) H := fun R x H k => by simp [pNan, q0b]
  simp [↓q00, ↓q01, S85, h, cmpI]
  split <;> (try split) <;> simp
theorem kCmp {R : Type} {a b : Int} {H : Heap} {k : AV → Heap → Option R} : polK pCmp [.int .i64 a, .int .i64 b] H k = k (.int .i64 (cmpI a b)) H := by
  simp [pCmp, q0b]
noncomputable def pCmp32 : Pol := .still (p2 cU32 cU32 (.int .i64) (fun _ _ => True) fun x y => cmpI x.toNat y.toNat)
theorem okCmp32 : PolOK base 111 pCmp32 := still2 base_ok [(116, pNan32)] ⟨okNan32, trivial⟩ fun a b _ => Evs.of fun n m => by
  have h : ∀ (R : Type) (x : UInt32) (H : Heap) (k : AV → Heap → Option R), polK pNan32 [eu x] H k = k (.bool false) H := fun R x H k => by simp [pNan32, q0b]
  simp [↓q00, ↓q01, S111, h, cmpI]
  split <;> (try split) <;> simp
theorem qCmp32 {R : Type} {a b : UInt32} {H : Heap} {k : AV → Heap → Option R} : polQ pCmp32 [eu a, eu b] H k = k (.int .i64 (cmpI a.toNat b.toNat)) H := by
  simp [pCmp32, q29]
def sizeS (a b : Option (List UInt32)) : Int := if (a.getD []).length ≠ (b.getD []).length then cmpI (a.getD []).length (b.getD []).length else cmpN (val (a.getD [])) (val (b.getD []))
noncomputable def pSize : Pol := .still (p2 cD cD (.int .i64) (fun a b => few a ∧ few b) sizeS)
noncomputable abbrev TSize : List (FuncId × Pol) := [(85, pCmp), (111, pCmp32)]
theorem size_loop {a b : Option (List UInt32)} (hab : (a.getD []).length = (b.getD []).length) (hf : (a.getD []).length ≤ 1000000) (H : Heap) : ∀ i, i ≤ (a.getD []).length →
    LDoes (qfw (polT TSize)) ⟨[eD a, eD b, .int .i64 ((i : Int) - 1)], []⟩ H (if cmpN (val ((a.getD []).take i)) (val ((b.getD []).take i)) = 0 then 0 else 1) ⟨[if cmpN (val ((a.getD []).take i)) (val ((b.getD []).take i)) = 0 then .undef else .int .i64 (cmpN (val ((a.getD []).take i)) (val ((b.getD []).take i)))], []⟩ H := by
  intro i
  induction i with
  | zero =>
    intro _
    refine LDoes.step (Evs.of fun n m => ?_)
    have : cmpN (val []) (val []) = 0 := qd4 _
    simp [↓q00, ↓q01, q57, this]
  | succ i ih =>
    intro hi
    have hx := q7s (d := a) (H := H) (k := .i64) (i := i) (by omega)
    have hy := q7s (d := b) (H := H) (k := .i64) (i := i) (by omega)
    rw [qiu (by omega) (by omega)]
    have e : ((i + 1 : Nat) : Int) - 1 = i := by omega
    rw [e]
    have hp : (0 : Int) ≤ i := by omega
    by_cases h0 : (a.getD [])[i] = (b.getD [])[i]
    · rw [if_pos h0]
      refine LDoes.step (Evs.withL (ih (by omega)) (Evs.of fun n m h1 h2 => ?_))
      simp (disch := omega) [↓q00, ↓q01, q57, hx, hy, h0, hp, q0f, h2]
    · rw [if_neg h0]
      have h0' : ¬ (((a.getD [])[i]).toNat : Int) = ((b.getD [])[i]).toNat := fun e => h0 (UInt32.toNat_inj.1 (by omega))
      have h1 : ¬ cmpI ((a.getD [])[i]).toNat ((b.getD [])[i]).toNat = 0 := fun e => h0' (cmpI_eq.1 e)
      refine LDoes.step (Evs.of fun n m => ?_)
      simp (disch := omega) [↓q00, ↓q01, q57, hx, hy, h0', hp, qCmp32, h1]
theorem okSize : PolOK base 103 pSize := still2 base_ok TSize ⟨okCmp, okCmp32, trivial⟩ fun a b ⟨ha, hb⟩ => by
  unfold few at ha hb
  by_cases hl : (a.getD []).length = (b.getD []).length
  · refine Evs.withL (size_loop hl ha [] _ (Nat.le_refl _)) (Evs.of fun n m h1 _ => ?_)
    rw [List.take_length, hl, List.take_length] at h1
    have e : sizeS a b = cmpN (val (a.getD [])) (val (b.getD [])) := by unfold sizeS; rw [if_neg (by simp [hl])]
    rw [e]
    by_cases h0 : cmpN (val (a.getD [])) (val (b.getD [])) = 0
    · simp only [h0, if_true] at h1
      simp (disch := omega) [↓q00, ↓q05, ↓q01, ↓q06, S103, hl, q0f, h1, h0]
    · simp only [h0, if_false] at h1
      simp (disch := omega) [↓q00, ↓q05, ↓q01, ↓q06, S103, hl, q0f, h1]
  · refine Evs.of fun n m => ?_
    have hl' : ¬ ((a.getD []).length : Int) = (b.getD []).length := by omega
    simp [↓q00, ↓q01, S103, sizeS, hl, hl', kCmp]
theorem kSize {R : Type} {a b : Option (List UInt32)} (ha : few a) (hb : few b) {H : Heap} {k : AV → Heap → Option R} : polK pSize [eD a, eD b] H k = k (.int .i64 (sizeS a b)) H := by
  simp [pSize, q0b, ha, hb]
def q5x (a b : Nm) : Int :=
  let a := normS a
  let b := normS b
  if a.1 ≠ b.1 then (if a.1 then -1 else 1) else if a.1 then sizeS b.2 a.2 else sizeS a.2 b.2
noncomputable def q3r : Pol := .still (p2 cN cN (.int .i64) (fun a b => few a.2 ∧ few b.2) q5x)
theorem qdy : PolOK base 94 q3r := still2 base_ok [(59, pNorm), (103, pSize)] ⟨okNorm, okSize, trivial⟩ fun a b ⟨ha, hb⟩ => by
  refine Evs.of fun n m => ?_
  have h1 : Go.Den.Box [.row 0 2 42 [eN a]] 0 2 42 [.bool a.1, eD a.2] := rfl
  have h2 : Go.Den.Box [.row 0 2 42 [eN (normS a)]] 0 2 42 [.bool (normS a).1, eD (normS a).2] := rfl
  have hs := q5v (ds := [.bool (normS a).1, eD (normS a).2]) h1 rfl rfl (by simp)
  have fa : few (normS a).2 := qj5 ha
  have fb : few (normS b).2 := qj5 hb
  unfold q5x
  generalize hna : normS a = x at *
  generalize hnb : normS b = y at *
  obtain ⟨p, d⟩ := x
  obtain ⟨q, e⟩ := y
  simp only [List.set_cons_zero] at hs
  cases p <;> cases q <;> simp [↓q00, ↓q05, ↓q0a, ↓q09, ↓q01, ↓q04, ↓q0d, ↓q03, ↓q07, S94, box_load h1, qNorm ha, qNorm hb, hna, hnb, hs, A.ofList, A.fits, h2.fa, h2.load, A.splice, A.bin_bne q7i, kSize fa fb, kSize fb fa]
theorem qgd {R : Type} {a b : Nm} (ha : few a.2) (hb : few b.2) {H : Heap} {k : AV → Heap → Option R} : polK q3r [eN a, eN b] H k = k (.int .i64 (q5x a b)) H := by
  simp [q3r, q0b, ha, hb]
end Go.Proofs.YtleikacgncpfbaaDoor

/- Numbers of any size: of a machine word. -/
set_option maxRecDepth 100000
set_option maxHeartbeats 2000000
namespace Go.Proofs.YtleikacgncpfbaaDoor
open Go Go.Den
def at_ (l : List UInt32) (i : Nat) : Nat := if h : i < l.length then (l[i]).toNat else 0
theorem q83 {d : Option (List UInt32)} : (cutS d).getD [] = lim (val (d.getD [])) := by
  cases d with
  | none => simp [cutS, val, q0x]
  | some l => rfl
theorem q67 {a : Nm} : (normS a).2.getD [] = lim (val (a.2.getD [])) := q83
theorem qee {a b : Option (List UInt32)} {x y : Nat} (ha : a.getD [] = lim x) (hb : b.getD [] = lim y) : sizeS a b = cmpN x y := by
  unfold sizeS
  rw [ha, hb, q26, q26]
  split
  · rename_i h; exact (cmp_len h).symm
  · rfl
def lot (d : Option (List UInt32)) : Prop := (d.getD []).length ≤ 900000
theorem lot.few {d : Option (List UInt32)} (h : lot d) : few d := by unfold lot at h; unfold Go.Den.few; omega
def ofS (n : Int) : Nm := madeS (decide (n < 0)) (some (digs 2 n.natAbs))
noncomputable def pOf : Pol := .still (p1 (cI .i64) eN (fun n => -9223372036854775808 ≤ n ∧ n ≤ 9223372036854775807) ofS)
end Go.Proofs.YtleikacgncpfbaaDoor

/- Numbers of any size: the reference's plain numbers; which are the same; numbers that fit into a word. -/
set_option maxRecDepth 100000
namespace Go.Proofs.YtleikacgncpfbaaDoor
open Go Go.Den
/-! ### the reference's numbers without noughts -/
def rnormS (a : Nm) : Nm := (a.1 && decide (0 < (lim (val (a.2.getD []))).length), nz (lim (val (a.2.getD []))))
noncomputable def pRnorm : Pol := .still (p1 cN eN (fun a => few a.2) rnormS)
theorem qi6 {pol : FuncId → Pol} {a : Nm} {cs : List AV} {H : Heap} (hB : Go.Den.Box H 0 2 40 [.bool a.1, eD a.2]) (hf : (a.2.getD []).length ≤ 1000000) : ∀ i, i ≤ (a.2.getD []).length →
    LDoes (L35_0 pol) ⟨[.ptr 0 0 0 0, .int .i64 i], [cs]⟩ H 0 ⟨[.ptr 0 0 0 0, .int .i64 (lim (val ((a.2.getD []).take i))).length], [cs]⟩ H := by
  intro i
  induction i with
  | zero =>
    intro _
    refine LDoes.step (Evs.of fun n m => ?_)
    simp [↓q00, ↓q01, ↓q04, ↓q03, q6p, val, q0x]
  | succ i ih =>
    intro hi
    have hx := q7s (d := a.2) (H := H) (k := .i64) (i := i) (by omega)
    have hp : (0 : Int) < (i : Int) + 1 := by omega
    by_cases h0 : (a.2.getD [])[i] = 0
    · have h0' : ((a.2.getD [])[i]).toNat = 0 := by rw [h0]; rfl
      refine LDoes.step (Evs.withL (ih (by omega)) (Evs.of fun n m h1 h2 => ?_))
      rw [q87 (by omega), if_pos h0]
      simp (disch := omega) [↓q00, ↓q01, ↓q04, ↓q03, q6p, hp, q0f, hB.fa, hB.load, hx, h0', h2]
    · have h0' : ¬ ((a.2.getD [])[i]).toNat = 0 := fun e => h0 (UInt32.toNat_inj.1 (by simpa using e))
      refine LDoes.step (Evs.of fun n m => ?_)
      rw [q87 (by omega), if_neg h0]
      simp (disch := omega) [↓q00, ↓q01, ↓q04, ↓q03, q6p, hp, q0f, hB.fa, hB.load, hx, h0']
theorem okRnorm : PolOK base 35 pRnorm := still1 base_ok [] trivial fun a hf => by
  unfold few at hf
  have hB : Go.Den.Box [.row 0 2 40 [eN a]] 0 2 40 [.bool a.1, eD a.2] := rfl
  have hL := qi6 (pol := polT []) (cs := [.bool false, .nils]) hB hf _ (Nat.le_refl _)
  refine Evs.withL hL (Evs.of fun n m h1 _ => ?_)
  rw [List.take_length] at h1
  have hle := q21 (a.2.getD [])
  have hs : A.slice 1 (eD a.2) none (some (.int .i64 ((lim (val (a.2.getD []))).length : Nat))) none [.row 0 2 40 [eN a]] = some (eD (a.2.map fun _ => lim (val (a.2.getD [])))) := by
    cases h : a.2 with
    | none => simp [val, q0x, eL, A.slice, A.bound]
    | some l =>
      rw [h] at hle
      simp only [Option.getD_some] at hle
      simp [eL, A.slice, A.bound, hle]
      rw [← List.map_take, qh7]
  have hr : ((a.2.map fun _ => lim (val (a.2.getD []))).getD []) = lim (val (a.2.getD [])) := by
    cases a.2 <;> simp [val, q0x]
  unfold rnormS
  generalize hl : lim (val (a.2.getD [])) = l at *
  have hap : ∃ v H', A.append 1 4 59 .nils (l.map eu) [.row 0 2 40 [eN a]] = some (v, H') ∧ A.freezeB true 64 H' (.agg [.bool (a.1 && decide (0 < l.length)), v]) = some (eN (a.1 && decide (0 < l.length), nz l)) ∧ v.cells = [v] ∧ v.isDef = true ∧ v.one = true := by
    cases l with
    | nil => exact ⟨.nils, _, rfl, by simp [nz]; exact frz_eN (d := none), rfl, rfl, rfl⟩
    | cons x l =>
      refine ⟨_, _, nil_append (news := (x :: l).map eu) (by simp) (by omega) (by simp only [List.length_map]; omega), ?_, rfl, rfl, rfl⟩
      have := frz_num (H := [.row 0 2 40 [eN a]] ++ [.row 0 1 59 ((x :: l).map eu)]) (id := 1) (ver := 0) (n := (x :: l).length) (cap := (x :: l).length) (ty := 59) (l := x :: l) (b := a.1 && decide (0 < (x :: l).length)) rfl rfl
      simp only [List.length_map]
      exact this
  obtain ⟨v, H', ha1, ha2, ha3, ha4, ha5⟩ := hap
  cases hb : a.1
  · rw [hb] at ha2
    simp only [Bool.false_and] at ha2
    simp [↓q05, ↓q0a, ↓q09, ↓q01, ↓q04, ↓q0c, ↓q0m, ↓q03, ↓q06, ↓q07, S35, hB.fa, hB.load, h1, hb, hs, q0y q1g, hr, ha1, A.fill, A.splice, ha3, ha4, A.fits, ha5, AV.heapy, A.ofList, ha2]
  · rw [hb] at ha2
    simp only [Bool.true_and] at ha2
    simp [↓q05, ↓q0a, ↓q09, ↓q01, ↓q04, ↓q0c, ↓q0m, ↓q03, ↓q06, ↓q07, S35, hB.fa, hB.load, h1, hb, hs, q0y q1g, hr, ha1, A.fill, A.splice, ha3, ha4, A.fits, ha5, AV.heapy, A.ofList, ha2]
theorem kRnorm {R : Type} {a : Nm} (hf : few a.2) {H : Heap} {k : AV → Heap → Option R} : polK pRnorm [eN a] H k = k (eN (rnormS a)) H := by
  simp [pRnorm, q0b, hf]
theorem qRnorm {R : Type} {a : Nm} (hf : few a.2) {H : Heap} {k : AV → Heap → Option R} : polQ pRnorm [eN a] H k = k (eN (rnormS a)) H := by
  simp [pRnorm, q29, hf]
/-! ### which are the same -/
def sameS (a b : Nm) : Bool := decide (a.1 = b.1 ∧ a.2.getD [] = b.2.getD [])
noncomputable def pSame : Pol := .still (p2 cN cN .bool (fun a b => few a.2 ∧ few b.2) sameS)
theorem same_loop {pol : FuncId → Pol} {a b : Nm} {H : Heap} {p q : Nat} (hA : Go.Den.Box H p 2 40 [.bool a.1, eD a.2]) (hB : Go.Den.Box H q 2 40 [.bool b.1, eD b.2]) (hl : (a.2.getD []).length = (b.2.getD []).length) (hf : (a.2.getD []).length ≤ 1000000) : ∀ k i, k + i = (a.2.getD []).length →
    LDoes (L34_0 pol) ⟨[.ptr p 0 0 0, .ptr q 0 0 0, .int .i64 (i : Nat)], []⟩ H (if (a.2.getD []).drop i = (b.2.getD []).drop i then 0 else 1) ⟨[if (a.2.getD []).drop i = (b.2.getD []).drop i then .undef else .bool false], []⟩ H := by
  intro k
  induction k with
  | zero =>
    intro i hi
    have e : (a.2.getD []).drop i = (b.2.getD []).drop i := by rw [List.drop_of_length_le (by omega), List.drop_of_length_le (by omega)]
    rw [if_pos e, if_pos e]
    refine LDoes.step (Evs.of fun n m => ?_)
    have : ¬ i < (a.2.getD []).length := by omega
    simp [↓q00, ↓q01, q6o, hA.fa, hA.load, this]
  | succ k ih =>
    intro i hi
    have hx := q7s (d := a.2) (H := H) (k := .i64) (i := i) (by omega)
    have hy := q7s (d := b.2) (H := H) (k := .i64) (i := i) (by omega)
    have hlt : i < (a.2.getD []).length := by omega
    have d1 := List.drop_eq_getElem_cons (l := a.2.getD []) (i := i) (by omega)
    have d2 := List.drop_eq_getElem_cons (l := b.2.getD []) (i := i) (by omega)
    have hih := ih (i + 1) (by omega)
    by_cases h0 : (a.2.getD [])[i] = (b.2.getD [])[i]
    · have e : ((a.2.getD []).drop i = (b.2.getD []).drop i) ↔ ((a.2.getD []).drop (i + 1) = (b.2.getD []).drop (i + 1)) := by
        rw [d1, d2, h0]
        exact ⟨fun h => (List.cons.inj h).2, fun h => by rw [h]⟩
      simp only [e]
      refine LDoes.step (Evs.withL hih (Evs.of fun n m _ h2 => ?_))
      simp only [Int.natCast_add, Int.natCast_one] at h2
      simp (disch := omega) [↓q00, ↓q01, q6o, hA.fa, hA.load, hB.fa, hB.load, hlt, hx, hy, h0, q0f, h2]
    · have e : ¬ (a.2.getD []).drop i = (b.2.getD []).drop i := by
        rw [d1, d2]
        exact fun h => h0 (List.cons.inj h).1
      rw [if_neg e, if_neg e]
      have h0' : ¬ (((a.2.getD [])[i]).toNat : Int) = ((b.2.getD [])[i]).toNat := fun e => h0 (UInt32.toNat_inj.1 (by omega))
      refine LDoes.step (Evs.of fun n m => ?_)
      simp (disch := omega) [↓q00, ↓q01, q6o, hA.fa, hA.load, hB.fa, hB.load, hlt, hx, hy, h0']
theorem okSame : PolOK base 34 pSame := still2 base_ok [] trivial fun a b ⟨ha, hb⟩ => by
  unfold few at ha hb
  have hA1 : Go.Den.Box [.row 0 2 40 [eN a]] 0 2 40 [.bool a.1, eD a.2] := rfl
  have hA : Go.Den.Box [.row 0 2 40 [eN a], .row 0 2 40 [eN b]] 0 2 40 [.bool a.1, eD a.2] := rfl
  have hB : Go.Den.Box [.row 0 2 40 [eN a], .row 0 2 40 [eN b]] 1 2 40 [.bool b.1, eD b.2] := rfl
  by_cases hs : a.1 = b.1
  · by_cases hl : (a.2.getD []).length = (b.2.getD []).length
    · refine Evs.withL (same_loop (pol := polT []) hA hB hl ha _ 0 rfl) (Evs.of fun n m h1 _ => ?_)
      simp only [List.drop_zero, Int.cast_ofNat_Int] at h1
      by_cases he : a.2.getD [] = b.2.getD []
      · simp only [he, if_true] at h1
        simp [↓q00, ↓q05, ↓q09, ↓q01, ↓q04, ↓q03, ↓q06, ↓q07, S34, hA.fa, hA.load, hB.fa, hB.load, A.bin_bne q7i, hs, h1, sameS, he]
      · simp only [he, if_false] at h1
        simp [↓q00, ↓q05, ↓q09, ↓q01, ↓q04, ↓q03, ↓q06, ↓q07, S34, hA.fa, hA.load, hB.fa, hB.load, A.bin_bne q7i, hs, hl, h1, sameS, he]
    · refine Evs.of fun n m => ?_
      have hl' : ¬ ((a.2.getD []).length : Int) = (b.2.getD []).length := by omega
      have he : ¬ a.2.getD [] = b.2.getD [] := fun e => hl (by rw [e])
      simp [↓q00, ↓q05, ↓q09, ↓q01, ↓q04, ↓q03, ↓q07, S34, hA.fa, hA.load, hB.fa, hB.load, A.bin_bne q7i, hs, hl', sameS, he]
  · refine Evs.of fun n m => ?_
    have hs' : (a.1 == b.1) = false := by simpa using hs
    simp [↓q00, ↓q05, ↓q09, ↓q01, ↓q04, ↓q03, ↓q07, S34, hA.fa, hA.load, hB.fa, hB.load, A.bin_bne q7i, hs, hs', sameS]
theorem kSame {R : Type} {a b : Nm} (ha : few a.2) (hb : few b.2) {H : Heap} {k : AV → Heap → Option R} : polK pSame [eN a, eN b] H k = k (.bool (sameS a b)) H := by
  simp [pSame, q0b, ha, hb]
def rofS (n : Int) : Nm := rnormS (decide (n < 0), some (digs 2 n.natAbs))
noncomputable def pRof : Pol := .still (p1 (cI .i64) eN (fun n => -9223372036854775808 ≤ n ∧ n ≤ 9223372036854775807) rofS)
end Go.Proofs.YtleikacgncpfbaaDoor

/- Numbers of any size: numbers that fit into a word; by one limb; products. -/
set_option maxRecDepth 100000
namespace Go.Proofs.YtleikacgncpfbaaDoor
open Go Go.Den
/-! ### words -/
def fitsS (n : Int) : Bool := decide (-576460752303423488 ≤ n ∧ n ≤ 576460752303423487)
noncomputable def pFits : Pol := .still (p1 (cI .i64) .bool (fun _ => True) fitsS)
def smallV (b : Bool) (N : Nat) : Int × Bool := if fitsS (if b then -(N : Int) else N) then ((if b then -(N : Int) else N), true) else (0, false)
def smallS (a : Nm) : Int × Bool := smallV a.1 (val (a.2.getD []))
noncomputable def pSmall : Pol := .still (p1 cN (fun r : Int × Bool => .tup [.int .i64 r.1, .bool r.2]) (fun a => few a.2) smallS)
end Go.Proofs.YtleikacgncpfbaaDoor

/- Numbers of any size: whole numbers. -/
set_option maxRecDepth 100000
set_option maxHeartbeats 2000000
namespace Go.Proofs.YtleikacgncpfbaaDoor
open Go Go.Den
def mag (a : Nm) : Nat := val (a.2.getD [])
def sgn (b : Bool) (n : Nat) : Int := if b then -(n : Int) else n
def toI (a : Nm) : Int := sgn a.1 (mag a)
def Rep (a : Nm) (z : Int) : Prop := a.1 = decide (z < 0) ∧ a.2.getD [] = lim z.natAbs
theorem Rep.same {a b : Nm} {z : Int} (h : Rep a z) (g : Rep b z) : sameS a b = true := by
  unfold sameS
  rw [h.1, h.2, g.1, g.2]
  simp
theorem Rep.inj {a b : Nm} {y z : Int} (h : Rep a y) (g : Rep b z) (hs : sameS a b = true) : y = z := by
  unfold sameS at hs
  have hs := of_decide_eq_true hs
  obtain ⟨h1, h2⟩ := hs
  rw [h.2, g.2] at h2
  have := lim_inj h2
  have h3 : (y < 0) = (z < 0) := by
    have e := h.1.symm.trans (h1.trans g.1)
    exact propext ⟨fun hy => of_decide_eq_true (by rw [← e]; exact decide_eq_true hy), fun hz => of_decide_eq_true (by rw [e]; exact decide_eq_true hz)⟩
  have h4 : y < 0 ↔ z < 0 := by rw [h3]
  omega
theorem Rep.toI {a : Nm} {z : Int} (h : Rep a z) : toI a = z := by
  unfold Go.Proofs.YtleikacgncpfbaaDoor.toI mag sgn
  rw [h.2, q26, h.1]
  by_cases hz : z < 0
  · rw [if_pos (decide_eq_true hz)]; omega
  · rw [if_neg (by simpa using hz)]; omega
theorem qgx (p : Bool) (d : Option (List UInt32)) : Rep (madeS p d) (sgn p (val (d.getD []))) := by
  have e : 0 < (lim (val (d.getD []))).length ↔ val (d.getD []) ≠ 0 := by
    rw [List.length_pos_iff]
    exact not_congr lim_nil
  unfold madeS Rep sgn
  refine ⟨?_, ?_⟩
  · dsimp only
    rw [q83]
    cases p
    · simp
    · by_cases h : val (d.getD []) = 0
      · simp [h, q0x]
      · have h1 : 0 < (lim (val (d.getD []))).length := e.2 h
        have h2 : -(val (d.getD []) : Int) < 0 := by omega
        simp only [Bool.true_and, if_true]
        rw [decide_eq_true h1, decide_eq_true h2]
  · dsimp only
    rw [q83]
    cases p
    · simp
    · simp
theorem q8c (a : Nm) : Rep (normS a) (toI a) := qgx _ _
theorem qe5 (a : Nm) : Rep (rnormS a) (toI a) := by
  have h := qgx a.1 a.2
  unfold Rep madeS at h
  unfold Rep rnormS
  dsimp only at h ⊢
  rw [q83] at h
  exact ⟨h.1, by rw [q3z]; exact h.2⟩
theorem q4z (a : Nm) : toI (normS a) = toI a := (q8c a).toI
theorem qd6 {a b : Nm} : sizeS (normS a).2 (normS b).2 = cmpN (mag (normS a)) (mag (normS b)) := by
  rw [qee (x := mag a) (y := mag b) q67 q67]
  unfold mag
  rw [q67, q67, q26, q26]
theorem qai (a b : Nm) : q5x a b = cmpI (toI a) (toI b) := by
  have hsz := qd6 (a := a) (b := b)
  have hsz2 := qd6 (a := b) (b := a)
  have ra := q8c a
  have rb := q8c b
  rw [← q4z a, ← q4z b]
  unfold q5x
  unfold Rep at ra rb
  rw [← q4z a] at ra
  rw [← q4z b] at rb
  generalize normS a = x at *
  generalize normS b = y at *
  obtain ⟨p, d⟩ := x
  obtain ⟨q, e⟩ := y
  unfold mag at hsz hsz2
  unfold toI mag sgn at *
  dsimp only at *
  rw [hsz, hsz2]
  have r1 := ra.1
  have r2 := rb.1
  generalize val (d.getD []) = m at *
  generalize val (e.getD []) = n at *
  cases p <;> cases q <;> simp at r1 r2 ⊢ <;> (try unfold cmpN) <;> unfold cmpI <;> (repeat' split) <;> omega
end Go.Proofs.YtleikacgncpfbaaDoor

/- Numbers of any size: the reference's words. -/
set_option maxRecDepth 100000
set_option maxHeartbeats 2000000
namespace Go.Proofs.YtleikacgncpfbaaDoor
open Go Go.Den
noncomputable def pSmallof : Pol := .still (p1 cN (fun r : Int × Bool => .tup [.int .i64 r.1, .bool r.2]) (fun a => few a.2) smallS)
end Go.Proofs.YtleikacgncpfbaaDoor

/- Terms: is one small? -/
set_option maxRecDepth 100000
set_option maxHeartbeats 2000000
namespace Go.Proofs.YtleikacgncpfbaaDoor
open Go Go.Den
mutual
def roomS : Tm → Int → Int → Bool
  | .mk _ _ d s _ l b, dep, most => !(decide (dep < 0) || decide (most < (l.getD []).length) || decide (5000 < (b.getD []).length) || decide (100 < (d.getD []).length) || decide (1100 < s.length)) && roomSo l (dep - 1) most
def roomSo : Option (List Tm) → Int → Int → Bool
  | none, _, _ => true
  | some l, dep, most => roomSs l dep most
def roomSs : List Tm → Int → Int → Bool
  | [], _, _ => true
  | t :: l, dep, most => roomS t dep most && roomSs l dep most
end
theorem qb2 : ∀ (l : List Tm) (dep most : Int), roomSs l dep most = l.all fun t => roomS t dep most
  | [], _, _ => by rw [roomSs]; rfl
  | t :: l, dep, most => by rw [roomSs, qb2 l]; rfl
theorem q4v (t : Tm) (dep most : Int) : roomS t dep most = (!(decide (dep < 0) || decide (most < (t.kids.length : Int)) || decide (5000 < (t.b.getD []).length) || decide (100 < (t.d.getD []).length) || decide (1100 < t.name.length)) && t.kids.all fun u => roomS u (dep - 1) most) := by
  cases t with
  | mk k x d s n l b =>
    rw [roomS]
    cases l with
    | none => rw [roomSo]; rfl
    | some l => rw [roomSo, qb2]; rfl
theorem q0w {t : Tm} {H : Heap} : A.load true 7 (.rop (eT t).cells) H = some (eT t) := by
  rw [q02, q2t]
  rfl
theorem q53 (t : Tm) (H : Heap) (b : Nat) (h : H[b]? = some (.row 0 7 26 [eT t])) : Go.Den.Box H b 7 26 (eT t).cells := by
  rw [q2t] at h
  rw [q02]
  exact h
noncomputable def pRoom (n : Nat) : Pol := .still (p3 cT (cI .i64) (cI .i64) .bool (fun t dep most => t.size ≤ n ∧ -1 ≤ dep ∧ dep ≤ 1000 ∧ most ≤ 1000) roomS)
theorem kRoom {n : Nat} {R : Type} {t : Tm} {dep most : Int} (h : t.size ≤ n) (h0 : -1 ≤ dep) (h1 : dep ≤ 1000) (h2 : most ≤ 1000) {H : Heap} {k : AV → Heap → Option R} : polK (pRoom n) [eT t, .int .i64 dep, .int .i64 most] H k = k (.bool (roomS t dep most)) H := by
  simp [pRoom, q0b, h, h0, h1, h2]
theorem room_loop {n : Nat} {t : Tm} {dep most : Int} {H : Heap} (hs : t.size ≤ n + 1) (h0 : 0 ≤ dep) (h1 : dep ≤ 1000) (h2 : most ≤ 1000) (hl : t.kids.length ≤ 1000) (hB : Go.Den.Box H 0 7 26 (eT t).cells) : ∀ (k i : Nat), i + k = t.kids.length →
    LDoes (L16_0 (polT [(16, pRoom n)])) ⟨[.int .i64 dep, .int .i64 most, .ptr 0 0 0 0, .int .i64 (i : Int)], []⟩ H (if (t.kids.drop i).all fun u => roomS u (dep - 1) most then 0 else 1) ⟨[if (t.kids.drop i).all fun u => roomS u (dep - 1) most then .undef else .bool false], []⟩ H := by
  have p1 := hB.fa (o := 5)
  have p2 := hB.load (o := 5)
  rw [q02] at p2
  simp only [List.getElem?_cons_succ, List.getElem?_cons_zero] at p2
  have hk : t.l.getD [] = t.kids := rfl
  intro k
  induction k with
  | zero =>
    intro i hi
    have : i = t.kids.length := by omega
    subst this
    rw [List.drop_length]
    refine LDoes.step (Evs.of fun n m => ?_)
    simp [↓q00, ↓q01, q6l, p1, p2, hk]
  | succ k ih =>
    intro i hi
    have hlt : i < t.kids.length := by omega
    have hx := q33 (sz := 7) (e := eT) (o := t.l) (H := H) (k := .i64) (i := i) hlt
    have hw : IntKind.wrap .i64 (dep - 1) = dep - 1 := q0f (by omega) (by omega)
    have hi1 : IntKind.wrap .i64 ((i : Int) + 1) = (i : Int) + 1 := q0f (by omega) (by omega)
    have hsz : (t.kids[i]).size ≤ n := by
      have := Tm.size_kid (t := t) (u := t.kids[i]) (List.getElem_mem hlt)
      omega
    have hr : ∀ (k : AV → Heap → Option (Nat × Live × Heap)), polK (pRoom n) [eT t.kids[i], .int .i64 (dep - 1), .int .i64 most] H k = k (.bool (roomS t.kids[i] (dep - 1) most)) H := fun k => kRoom hsz (by omega) (by omega) h2
    have hd : t.kids.drop i = t.kids[i] :: t.kids.drop (i + 1) := List.drop_eq_getElem_cons hlt
    rw [hd, List.all_cons]
    have hxx : A.idx 7 (eL 7 eT t.l) (.int .i64 (i : Int)) H = some (.rop (eT t.kids[i]).cells) := hx
    have hld := q0w (t := t.kids[i]) (H := H)
    have ih1 := ih (i + 1) (by omega)
    simp only [Int.natCast_add, Int.natCast_one] at ih1
    have hlt' : (i : Int) < (t.kids.length : Int) := by omega
    generalize (t.kids.drop (i + 1)).all (fun u => roomS u (dep - 1) most) = rest at *
    generalize (eT t.kids[i]).cells = cs at *
    cases hq : roomS t.kids[i] (dep - 1) most
    · refine LDoes.step (Evs.of fun n m => ?_)
      rw [hq] at hr
      simp [↓q00, ↓q01, q6l, p1, p2, hk, hlt, hxx, hld, hw, hr]
    · refine LDoes.step (Evs.withL ih1 (Evs.of fun n m _ h2 => ?_))
      rw [hq] at hr
      simp [↓q00, ↓q01, q6l, p1, p2, hk, hlt, hxx, hld, hw, hr, hi1, h2]
end Go.Proofs.YtleikacgncpfbaaDoor

/- Terms: is one small: the entry. -/
set_option maxRecDepth 100000
set_option maxHeartbeats 2000000
namespace Go.Proofs.YtleikacgncpfbaaDoor
open Go Go.Den
theorem okRoom : ∀ n, PolOK base 16 (pRoom n)
  | 0 => still3 base_ok [] trivial fun t dep most ⟨hs, _⟩ => by
    have := t.size_eq
    omega
  | n + 1 => still3 base_ok [(16, pRoom n)] ⟨okRoom n, trivial⟩ fun t dep most ⟨hs, h0, h1, h2⟩ => by
    have hB := q53 t [.row 0 7 26 [eT t]] 0 rfl
    have p := fun o => hB.fa (o := o)
    have q := fun o => hB.load (o := o)
    rw [q02] at q
    have q5 := q 5
    have q6 := q 6
    have q2 := q 2
    have q3 := q 3
    simp only [List.getElem?_cons_succ, List.getElem?_cons_zero] at q5 q6 q2 q3
    have hk : t.l.getD [] = t.kids := rfl
    have hce : (eT t).cells.length = 7 := by rw [q02]; rfl
    rw [q4v]
    by_cases c1 : dep < 0
    · have hp : ((t.kids.length : Int) : Int) = t.kids.length := rfl
      refine Evs.of fun n m => ?_
      simp [↓q00, ↓q05, ↓q09, ↓q01, ↓q04, ↓q03, ↓q07, S16, c1]
    by_cases c2 : most < (t.kids.length : Int)
    · refine Evs.of fun n m => ?_
      simp [↓q00, ↓q05, ↓q09, ↓q01, ↓q04, ↓q03, ↓q07, S16, c1, p, q5, hk, c2]
    by_cases c3 : 5000 < (t.b.getD []).length
    · have c3' : (5000 : Int) < ((t.b.getD []).length : Int) := by omega
      refine Evs.of fun n m => ?_
      simp [↓q00, ↓q05, ↓q09, ↓q01, ↓q04, ↓q03, ↓q07, S16, c1, p, q5, hk, c2, q6, c3, c3']
    have c3' : ¬ (5000 : Int) < ((t.b.getD []).length : Int) := by omega
    by_cases c4 : 100 < (t.d.getD []).length
    · have c4' : (100 : Int) < ((t.d.getD []).length : Int) := by omega
      refine Evs.of fun n m => ?_
      simp [↓q00, ↓q05, ↓q09, ↓q01, ↓q04, ↓q03, ↓q07, S16, c1, p, q5, hk, c2, q6, c3, c3', q2, c4, c4']
    have c4' : ¬ (100 : Int) < ((t.d.getD []).length : Int) := by omega
    by_cases c5 : 1100 < t.name.length
    · have c5' : (1100 : Int) < (t.name.length : Int) := by omega
      refine Evs.of fun n m => ?_
      simp [↓q00, ↓q05, ↓q09, ↓q01, ↓q04, ↓q03, ↓q07, S16, c1, p, q5, hk, c2, q6, c3, c3', q2, c4, c4', q3, A.lenStr, c5, c5']
    have c5' : ¬ (1100 : Int) < (t.name.length : Int) := by omega
    have hL := room_loop (n := n) (t := t) (dep := dep) (most := most) hs (by omega) h1 h2 (by omega) hB t.kids.length 0 (by omega)
    rw [List.drop_zero] at hL
    refine Evs.withL hL (Evs.of fun n m h3 _ => ?_)
    simp only [Int.natCast_zero] at h3
    generalize t.kids.all (fun u => roomS u (dep - 1) most) = w at *
    cases w <;> simp [↓q00, ↓q05, ↓q09, ↓q01, ↓q04, ↓q03, ↓q06, ↓q07, S16, c1, p, q5, hk, c2, q6, c3, c3', q2, c4, c4', q3, A.lenStr, c5, c5', h3]
end Go.Proofs.YtleikacgncpfbaaDoor

/- Terms: the walk through a term. -/
set_option maxRecDepth 100000
set_option maxHeartbeats 2000000
namespace Go.Proofs.YtleikacgncpfbaaDoor
open Go Go.Den
def partsO (t : Tm) : Option (List Tm) := if t.kind = 4 ∨ t.kind = 6 then t.l else none
noncomputable def pParts : Pol := .still (p1 cT (fun o => eL 7 eT o) (fun _ => True) partsO)
theorem okParts : PolOK base 75 pParts := still1 base_ok [] trivial fun t _ => by
  have hB := q53 t [.row 0 7 26 [eT t]] 0 rfl
  have p := fun o => hB.fa (o := o)
  have q := fun o => hB.load (o := o)
  rw [q02] at q
  have q0 := q 0
  have q5 := q 5
  simp only [List.getElem?_cons_succ, List.getElem?_cons_zero] at q5 q0
  refine Evs.of fun n m => ?_
  unfold partsO
  have hz : A.freezeB true 64 [.row 0 7 26 [eT t]] (eL 7 eT t.l) = some (eL 7 eT t.l) := q5e (by simp)
  have h1 : ((t.kind : Int) = 4 ∨ ¬ (t.kind : Int) = 4) := by omega
  by_cases c1 : t.kind = 4
  · simp [↓q00, ↓q05, ↓q09, ↓q01, ↓q04, ↓q03, ↓q07, S75, p, q0, q5, c1, hz]
  · by_cases c2 : t.kind = 6
    · simp [↓q00, ↓q05, ↓q09, ↓q01, ↓q04, ↓q03, ↓q07, S75, p, q0, q5, c2, hz]
    · simp [↓q00, ↓q05, ↓q09, ↓q01, ↓q04, ↓q03, ↓q07, S75, p, q0, c1, c2]
      rfl
theorem q50 : base.P.underlying 23 = some (.slice 26) := by kernel_rfl
def visitB {σ : Type} (ok go : σ → Tm → Bool) (step : σ → Tm → σ) : Nat → List Tm → σ → Option (σ × Bool)
  | _, [], s => some (s, true)
  | 0, _ :: _, _ => none
  | b + 1, x :: st, s => if ok s x then (if go s x then visitB ok go step b (((partsO x).getD []).reverse ++ st) (step s x) else some (step s x, false)) else none
def YDoes (T : List (FuncId × Pol)) (idl : Nat) (x : Tm) (H : Heap) (v : AV) (H' : Heap) : Prop :=
  ∃ N, ∀ n, N ≤ n → ∀ (R : Type) (k : AV → Heap → Option R), clV base (polT T) n (.yl idl) [eT x] H k = k v H'
end Go.Proofs.YtleikacgncpfbaaDoor

/- Terms: how many parts a term has. -/
set_option maxRecDepth 100000
set_option maxHeartbeats 2000000
namespace Go.Proofs.YtleikacgncpfbaaDoor
open Go Go.Den
noncomputable def pWalk : Pol := .prim (runF base [] 55)
noncomputable abbrev TTree1 : List (FuncId × Pol) := [(75, pParts)]
noncomputable def pWalkTree : Pol := .prim (runF base TTree1 77)
noncomputable def LDt (t : Tm) : LoopD := LD19 (eT t) (.int .i64 0) (.ptr 0 0 0 0) (eT t) (.fn (.func 77) [] [.ptr 1 0 0 0])
def InvT (t : Tm) (s : Nat) (H : Heap) : Prop := s ≤ 65536 ∧ H[0]? = some (.row 0 1 3 [.int .i64 (s : Int)]) ∧ H[2]? = some (.loop (LDt t))
def FinT (t : Tm) (s : Nat) (H : Heap) : Prop := s = 65537 ∧ H[0]? = some (.row 0 1 3 [.int .i64 (s : Int)]) ∧ H[2]? = some (.loop { LDt t with state := 2, pending := some (.exit 0) })
end Go.Proofs.YtleikacgncpfbaaDoor

/- Terms: how many parts a term has: the entry. -/
set_option maxRecDepth 100000
set_option maxHeartbeats 2000000
namespace Go.Proofs.YtleikacgncpfbaaDoor
open Go Go.Den
mutual
def szT : Tm → Nat
  | .mk k _ _ _ _ l _ => 1 + (if k = 4 ∨ k = 6 then szO l else 0)
def szO : Option (List Tm) → Nat
  | none => 0
  | some l => szs l
def szs : List Tm → Nat
  | [] => 0
  | t :: l => szT t + szs l
end
theorem szT_eq (t : Tm) : szT t = 1 + szs ((partsO t).getD []) := by
  cases t with
  | mk k x d s n l b =>
    rw [szT]
    unfold partsO Tm.kind Tm.l
    dsimp only
    split
    · cases l with
      | none => rw [szO]; rfl
      | some l => rw [szO]; rfl
    · rfl
noncomputable def pTree : Pol := .still (p1 cT (fun n : Nat => .int .i64 (n : Int)) (fun t => t.thin 1000) (fun t => min (szT t) 65537))
end Go.Proofs.YtleikacgncpfbaaDoor

/- Terms: how many words a term takes. -/
set_option maxRecDepth 100000
set_option maxHeartbeats 4000000
namespace Go.Proofs.YtleikacgncpfbaaDoor
open Go Go.Den
def wordsOne (x : Tm) : Nat :=
  if x.kind = 0 then (if (smallS (x.neg, x.d)).2 then 0 else 1 + ((normS (false, x.d)).2.getD []).length)
  else if x.kind = 6 then 1 + x.kids.length else if x.kind = 4 then 1 + x.kids.length else if x.kind = 7 then 4 else 0
noncomputable abbrev TWords1 : List (FuncId × Pol) := [(75, pParts), (58, pSmall), (59, pNorm)]
noncomputable def pWalkWords : Pol := .prim (runF base TWords1 77)
noncomputable def LDw (t : Tm) : LoopD := LD21 (eT t) (.int .i64 0) (.ptr 0 0 0 0) (eT t) (.fn (.func 77) [] [.ptr 1 0 0 0])
def okW (s : Nat × Nat) (x : Tm) : Bool := decide ((x.d.getD []).length ≤ 1000000) && decide (x.kids.length ≤ 1000) && decide (s.1 < 65537)
def InvW (t : Tm) (s : Nat × Nat) (H : Heap) : Prop := s.2 ≤ s.1 * 1000002 ∧ s.1 ≤ 65537 ∧ H[0]? = some (.row 0 1 3 [.int .i64 (s.2 : Int)]) ∧ H[2]? = some (.loop (LDw t))
end Go.Proofs.YtleikacgncpfbaaDoor

/- Terms: how many words a term takes: the entry. -/
set_option maxRecDepth 100000
set_option maxHeartbeats 4000000
namespace Go.Proofs.YtleikacgncpfbaaDoor
open Go Go.Den
mutual
def wT : Tm → Nat
  | .mk k x d s n l b => wordsOne (.mk k x d s n l b) + (if k = 4 ∨ k = 6 then wTo l else 0)
def wTo : Option (List Tm) → Nat
  | none => 0
  | some l => wTs l
def wTs : List Tm → Nat
  | [] => 0
  | t :: l => wT t + wTs l
end
noncomputable def pWords : Pol := .still (p1 cT (fun n : Nat => .int .i64 (n : Int)) (fun t => t.thin 1000 ∧ t.fewd ∧ szT t ≤ 65536) wT)
end Go.Proofs.YtleikacgncpfbaaDoor

/- Terms: numbers as terms, more. -/
set_option maxRecDepth 100000
set_option maxHeartbeats 2000000
namespace Go.Proofs.YtleikacgncpfbaaDoor
open Go Go.Den
def intT (a : Nm) : Tm := .mk 0 a.1 a.2 [] 0 none none
noncomputable def pTnum : Pol := .still (p1 cN eT (fun a => few a.2) fun a => intT (normS a))
noncomputable def pTint : Pol := .still (p1 (cI .i64) eT (fun n => -9223372036854775808 ≤ n ∧ n ≤ 9223372036854775807) fun n => intT (normS (ofS n)))
end Go.Proofs.YtleikacgncpfbaaDoor

/- Terms: the number that a term is. -/
set_option maxRecDepth 100000
set_option maxHeartbeats 2000000
namespace Go.Proofs.YtleikacgncpfbaaDoor
open Go Go.Den
def numOf (t : Tm) : Nm × Bool := if t.kind = 0 then (normS (t.neg, t.d), true) else ((false, none), false)
noncomputable def pTof : Pol := .still (p1 cT (fun r : Nm × Bool => .tup [eN r.1, .bool r.2]) (fun t => few t.d) numOf)
theorem okTof : PolOK base 32 pTof := still1 base_ok [(59, pNorm)] ⟨okNorm, trivial⟩ fun t hf => by
  have hk : ∀ (H : Heap) (k : AV → Heap → Option AV), polK pNorm [.agg [.bool t.neg, eD t.d]] H k = k (eN (normS (t.neg, t.d))) H := fun H k => kNorm (a := (t.neg, t.d)) hf
  have hz : ∀ (H : Heap) (N : Nm) (b : Bool), A.freezeB true 64 H (.tup [.agg [.bool N.1, eD N.2], .bool b]) = some (.tup [.agg [.bool N.1, eD N.2], .bool b]) := fun H N b => q5e (by simp)
  refine Evs.of fun n m => ?_
  unfold numOf
  by_cases c : t.kind = 0
  · rw [if_pos c]
    generalize normS (t.neg, t.d) = N at *
    simp [↓q00, ↓q0a, ↓q01, ↓q07, S32, c, hk, A.ofList, A.fill, A.fits, A.splice, hz]
  · rw [if_neg c]
    have hz0 := hz [] (false, none) false
    simp [↓q00, ↓q0a, ↓q01, ↓q07, S32, c, A.ofList, A.fill, A.fits, A.splice]
    exact hz0
theorem kTof {R : Type} {t : Tm} (h : few t.d) {H : Heap} {k : AV → Heap → Option R} : polK pTof [eT t] H k = k (.tup [eN (numOf t).1, .bool (numOf t).2]) H := by
  simp [pTof, q0b, h]
end Go.Proofs.YtleikacgncpfbaaDoor

/- Terms: may a number be one? -/
set_option maxRecDepth 100000
set_option maxHeartbeats 2000000
namespace Go.Proofs.YtleikacgncpfbaaDoor
open Go Go.Den
def isI (t : Tm) : Prop := ∃ a, t = intT a
noncomputable def pSpareI : Pol := .still (p1 cT .bool isI fun _ => true)
end Go.Proofs.YtleikacgncpfbaaDoor

/- Terms: a number in its plain form may be one. -/
set_option maxRecDepth 100000
set_option maxHeartbeats 2000000
namespace Go.Proofs.YtleikacgncpfbaaDoor
open Go Go.Den
def plainI (t : Tm) : Prop := ∃ a z, t = intT a ∧ Rep a z ∧ (a.2.getD []).length ≤ 64
noncomputable def pOneI : Pol := .still (p1 cT .bool plainI fun _ => true)
end Go.Proofs.YtleikacgncpfbaaDoor

/- Terms: what one is that may be, in plain words. -/
set_option maxRecDepth 100000
set_option maxHeartbeats 2000000
namespace Go.Proofs.YtleikacgncpfbaaDoor
open Go Go.Den
mutual
def evT (p : Tm → Prop) : Tm → Prop
  | .mk k x d s n l b => p (.mk k x d s n l b) ∧ evTo p l
def evTo (p : Tm → Prop) : Option (List Tm) → Prop
  | none => True
  | some l => evTs p l
def evTs (p : Tm → Prop) : List Tm → Prop
  | [] => True
  | t :: l => evT p t ∧ evTs p l
end
theorem qg6 {p : Tm → Prop} : ∀ {l : List Tm}, evTs p l ↔ ∀ u ∈ l, evT p u
  | [] => by simp [evTs]
  | t :: l => by rw [evTs, qg6 (l := l)]; simp
theorem qdf {p : Tm → Prop} {t : Tm} : evT p t ↔ p t ∧ ∀ u ∈ t.kids, evT p u := by
  cases t with
  | mk k x d s n l b =>
    rw [evT]
    cases l with
    | none => rw [evTo]; simp [Tm.kids, Tm.l]
    | some l => rw [evTo, qg6]; rfl
theorem q4h {P : Tm → Prop} (h : ∀ t, (∀ u ∈ t.kids, P u) → P t) (t : Tm) : P t := by
  have : ∀ n, ∀ t : Tm, t.size ≤ n → P t := by
    intro n
    induction n with
    | zero =>
      intro t ht
      have := t.size_eq
      omega
    | succ n ih =>
      intro t ht
      exact h t fun u hu => ih u (by have := Tm.size_kid hu; omega)
  exact this t.size t (Nat.le_refl _)
def tameOne (u : Tm) : Prop := (u.d.getD []).length ≤ 1000000 ∧ u.name.length ≤ 1000000 ∧ u.kids.length ≤ 1000
def tame (t : Tm) : Prop := evT tameOne t
theorem tame_eq {t : Tm} : tame t ↔ tameOne t ∧ ∀ u ∈ t.kids, tame u := qdf
theorem tame_thin : ∀ t, tame t → t.thin 1000 := q4h fun t ih h => by
  rw [tame_eq] at h
  exact Tm.thin_eq.2 ⟨h.1.2.2, fun u hu => ih u hu (h.2 u hu)⟩
theorem q6d {most : Int} (hm : most ≤ 1000) : ∀ t dep, roomS t dep most = true → tame t := fun t => q4h (P := fun t => ∀ dep, roomS t dep most = true → tame t) (fun t ih dep h => by
  rw [q4v] at h
  simp only [Bool.and_eq_true, Bool.not_eq_true', Bool.or_eq_false_iff, decide_eq_false_iff_not, List.all_eq_true] at h
  obtain ⟨⟨⟨⟨⟨h1, h2⟩, h3⟩, h4⟩, h5⟩, h6⟩ := h
  exact tame_eq.2 ⟨⟨by omega, by omega, by omega⟩, fun u hu => ih u hu _ (h6 u hu)⟩) t
def spareS (t : Tm) : Bool :=
  (decide (t.kind = 0) || (!t.neg && decide ((t.d.getD []).length = 0))) && ((decide (t.kind = 3) || decide (t.kind = 2)) || decide (t.n = 0)) && ((decide (t.kind = 4) || decide (t.kind = 6)) || decide (t.kids.length = 0)) && (decide (t.kind = 1) || decide (t.name = [])) && (decide (t.kind = 7) || decide ((t.b.getD []).length = 0))
def plainN (neg : Bool) (d : List UInt32) : Bool := match d.getLast? with
  | none => !neg
  | some x => decide (x ≠ 0)
def oneS (cnt : List UInt8 → Int) (t : Tm) : Bool := spareS t && (
  if t.kind = 0 then decide ((t.d.getD []).length ≤ 64) && plainN t.neg (t.d.getD [])
  else if t.kind = 1 then decide (0 ≤ cnt t.name) && decide (cnt t.name ≤ 255)
  else if t.kind = 2 ∨ t.kind = 3 then decide (0 ≤ t.n) && decide (t.n ≤ 1073741824)
  else if t.kind = 4 then decide (t.kids.length ≤ 255)
  else if t.kind = 6 then decide (t.kids.length = 2)
  else if t.kind = 7 then decide ((t.b.getD []).length ≤ 4096)
  else decide (t.kind = 5))
mutual
def mayT (cnt : List UInt8 → Int) : Tm → Bool
  | .mk k x d s n l b => oneS cnt (.mk k x d s n l b) && (if k = 4 ∨ k = 6 then mayTo cnt l else true)
def mayTo (cnt : List UInt8 → Int) : Option (List Tm) → Bool
  | none => true
  | some l => mayTs cnt l
def mayTs (cnt : List UInt8 → Int) : List Tm → Bool
  | [] => true
  | t :: l => mayT cnt t && mayTs cnt l
end
theorem qdv {cnt : List UInt8 → Int} : ∀ l : List Tm, mayTs cnt l = l.all (mayT cnt)
  | [] => by simp [mayTs]
  | t :: l => by rw [mayTs, qdv l]; rfl
theorem q4d {cnt : List UInt8 → Int} (t : Tm) : mayT cnt t = (oneS cnt t && ((partsO t).getD []).all (mayT cnt)) := by
  cases t with
  | mk k x d s n l b =>
    rw [mayT]
    unfold partsO Tm.kind Tm.l
    dsimp only
    split
    · cases l with
      | none => rw [mayTo]; rfl
      | some l => rw [mayTo, qdv]; rfl
    · rfl
theorem lim_ends {n : Nat} {x : UInt32} (h : (lim n).getLast? = some x) : x ≠ 0 := by
  by_cases hn : n = 0
  · subst hn
    rw [q0x] at h
    cases h
  · obtain ⟨y, hy, h0⟩ := lim_last hn
    rw [h] at hy
    injection hy with hy
    rw [hy]
    exact h0
theorem q3f {neg : Bool} {d : Option (List UInt32)} : sameS (neg, d) (rnormS (neg, d)) = plainN neg (d.getD []) := by
  have hg : ∀ l : List UInt32, (nz l).getD [] = l := fun l => by cases l <;> rfl
  unfold sameS rnormS plainN
  dsimp only
  rw [hg]
  generalize d.getD [] = l
  cases h : l.getLast? with
  | none =>
    have : l = [] := List.getLast?_eq_none_iff.1 h
    subst this
    simp [val, q0x]
  | some x =>
    dsimp only
    by_cases hx : x = 0
    · have hne : ¬ l = lim (val l) := fun e => by
        rw [e] at h
        exact lim_ends h hx
      simp [hx, hne]
    · have e : lim (val l) = l := q7u (fun y hy => by
        rw [h] at hy
        injection hy with hy
        rw [← hy]
        exact hx)
      have hl : 0 < l.length := by
        cases l with
        | nil => cases h
        | cons => simp
      rw [e]
      simp [hx, hl]
end Go.Proofs.YtleikacgncpfbaaDoor

/- Terms: whether the fields that a kind does not use are zero. -/
set_option maxRecDepth 100000
set_option maxHeartbeats 4000000
namespace Go.Proofs.YtleikacgncpfbaaDoor
open Go Go.Den
noncomputable def pSpare : Pol := .still (p1 cT .bool (fun _ => True) spareS)
end Go.Proofs.YtleikacgncpfbaaDoor

/- Texts: bits; eight bytes as a word; the tables of what begins a sign. -/
set_option maxRecDepth 100000
set_option maxHeartbeats 4000000
namespace Go.Proofs.YtleikacgncpfbaaDoor
open Go Go.Den Go.Lib
/-! ### bits -/
def andI (k : IntKind) (a b : Int) : Int := k.wrap ((BitVec.ofInt k.bits a &&& BitVec.ofInt k.bits b).toNat : Int)
def orI (k : IntKind) (a b : Int) : Int := k.wrap ((BitVec.ofInt k.bits a ||| BitVec.ofInt k.bits b).toNat : Int)
theorem q0n {P : Program} {t : TypeId} {k : IntKind} {a b : Int} {c : Bool} {H : Heap} : A.bin P .and t (.int k a) (.int k b) c H = some (.int k (andI k a b)) := by
  simp [A.bin, A.binInt, A.bits, andI]
theorem q58 {P : Program} {t : TypeId} {k : IntKind} {a b : Int} {c : Bool} {H : Heap} : A.bin P .or t (.int k a) (.int k b) c H = some (.int k (orI k a b)) := by
  simp [A.bin, A.binInt, A.bits, orI]
theorem q8d {a b : Nat} (ha : a < 18446744073709551616) (hb : b < 18446744073709551616) : andI .u64 (a : Int) (b : Int) = ((a &&& b : Nat) : Int) := by
  unfold andI
  rw [show IntKind.bits .u64 = 64 from rfl, BitVec.toNat_and]
  simp
  rw [Nat.mod_eq_of_lt ha, Nat.mod_eq_of_lt hb]
  have := Nat.and_le_left (n := a) (m := b)
  exact q52 (by omega) (by omega)
theorem qgt {a b : Nat} (ha : a < 18446744073709551616) (hb : b < 18446744073709551616) : orI .u64 (a : Int) (b : Int) = ((a ||| b : Nat) : Int) := by
  unfold orI
  rw [show IntKind.bits .u64 = 64 from rfl, BitVec.toNat_or]
  simp
  rw [Nat.mod_eq_of_lt ha, Nat.mod_eq_of_lt hb]
  have : a ||| b < 2 ^ 64 := Nat.or_lt_two_pow (by simpa using ha) (by simpa using hb)
  exact q52 (by omega) (by omega)
theorem wrap_u8n {a : Nat} (h : a < 256) : IntKind.wrap .u8 (a : Int) = a := by
  simp [IntKind.wrap, IntKind.bits, IntKind.signed]
  omega
theorem andI_8 {a b : Nat} (ha : a < 256) (hb : b < 256) : andI .u8 (a : Int) (b : Int) = ((a &&& b : Nat) : Int) := by
  unfold andI
  rw [show IntKind.bits .u8 = 8 from rfl, BitVec.toNat_and]
  simp
  rw [Nat.mod_eq_of_lt ha, Nat.mod_eq_of_lt hb]
  have := Nat.and_le_left (n := a) (m := b)
  exact wrap_u8n (by omega)
theorem andI_7 {a : Nat} (ha : a < 256) : andI .u8 (a : Int) 7 = ((a % 8 : Nat) : Int) := by
  have := andI_8 (b := 7) ha (by omega)
  rw [Nat.and_two_pow_sub_one_eq_mod a 3] at this
  exact this
/-! ### texts -/
theorem q13 {s : List UInt8} {i : Nat} {k : IntKind} (h : i ≤ s.length) : A.sliceStr (.str s) (some (.int k (i : Int))) none = some (.str (s.drop i)) := by
  have e : (s.drop i).take (s.length - i) = s.drop i := List.take_of_length_le (by simp)
  simp [A.sliceStr, A.bound, h, e]
theorem q4b {s : List UInt8} : A.lenStr (.str s) = some (.int .i64 (s.length : Int)) := rfl
theorem q3o {s : List UInt8} {i : Nat} {k : IntKind} (h : i < s.length) : A.index (.str s) (.int k (i : Int)) = some (.int .u8 ((s.getD i 0).toNat : Int)) := by
  simp [A.index, h]
theorem cv_8_64 (n : Int) (j : IntKind) : Go.Den.convert base 5 82 (.int j n) = some (.int .u64 (IntKind.wrap .u64 n)) := q4t (x := .int .u8) (by kernel_rfl) (by kernel_rfl)
theorem q0s (n : Int) (j : IntKind) : Go.Den.convert base 5 3 (.int j n) = some (.int .i64 (IntKind.wrap .i64 n)) := q4t (x := .int .u8) (by kernel_rfl) (by kernel_rfl)
/-! ### eight bytes as a word -/
def wordN (s : List UInt8) : Nat := leNat (s.take 8)
theorem q3x (s : List UInt8) : wordN s < 18446744073709551616 := by
  have := leNat_lt (s.take 8)
  have h2 : (256 : Nat) ^ (s.take 8).length ≤ 256 ^ 8 := Nat.pow_le_pow_right (by omega) (by simp; omega)
  unfold wordN
  omega
noncomputable def pWord : Pol := .still (p1 cS (.int .u64) (fun s => 8 ≤ s.length) (fun s => (wordN s : Int)))
theorem kWord {R : Type} {s : List UInt8} (h : 8 ≤ s.length) {H : Heap} {k : AV → Heap → Option R} : polK pWord [.str s] H k = k (.int .u64 (wordN s : Nat)) H := by
  simp [pWord, q0b, h]
theorem okWord : PolOK base 106 pWord := still1 base_ok [] trivial fun s h => Evs.of fun n _ => by
  obtain ⟨c0, c1, c2, c3, c4, c5, c6, c7, r, rfl⟩ : ∃ c0 c1 c2 c3 c4 c5 c6 c7 r, s = c0 :: c1 :: c2 :: c3 :: c4 :: c5 :: c6 :: c7 :: r := by
    match s, h with
    | c0 :: c1 :: c2 :: c3 :: c4 :: c5 :: c6 :: c7 :: r, _ => exact ⟨c0, c1, c2, c3, c4, c5, c6, c7, r, rfl⟩
  have x0 : A.index (.str (c0 :: c1 :: c2 :: c3 :: c4 :: c5 :: c6 :: c7 :: r)) (.int .i64 0) = some (.int .u8 (c0.toNat : Int)) := rfl
  have x1 : A.index (.str (c0 :: c1 :: c2 :: c3 :: c4 :: c5 :: c6 :: c7 :: r)) (.int .i64 1) = some (.int .u8 (c1.toNat : Int)) := rfl
  have x2 : A.index (.str (c0 :: c1 :: c2 :: c3 :: c4 :: c5 :: c6 :: c7 :: r)) (.int .i64 2) = some (.int .u8 (c2.toNat : Int)) := rfl
  have x3 : A.index (.str (c0 :: c1 :: c2 :: c3 :: c4 :: c5 :: c6 :: c7 :: r)) (.int .i64 3) = some (.int .u8 (c3.toNat : Int)) := rfl
  have x4 : A.index (.str (c0 :: c1 :: c2 :: c3 :: c4 :: c5 :: c6 :: c7 :: r)) (.int .i64 4) = some (.int .u8 (c4.toNat : Int)) := rfl
  have x5 : A.index (.str (c0 :: c1 :: c2 :: c3 :: c4 :: c5 :: c6 :: c7 :: r)) (.int .i64 5) = some (.int .u8 (c5.toNat : Int)) := rfl
  have x6 : A.index (.str (c0 :: c1 :: c2 :: c3 :: c4 :: c5 :: c6 :: c7 :: r)) (.int .i64 6) = some (.int .u8 (c6.toNat : Int)) := rfl
  have x7 : A.index (.str (c0 :: c1 :: c2 :: c3 :: c4 :: c5 :: c6 :: c7 :: r)) (.int .i64 7) = some (.int .u8 (c7.toNat : Int)) := rfl
  have hw : wordN (c0 :: c1 :: c2 :: c3 :: c4 :: c5 :: c6 :: c7 :: r) = c0.toNat + 2 ^ 8 * c1.toNat + 2 ^ 16 * c2.toNat + 2 ^ 24 * c3.toNat + 2 ^ 32 * c4.toNat + 2 ^ 40 * c5.toNat + 2 ^ 48 * c6.toNat + 2 ^ 56 * c7.toNat := by
    simp only [wordN, List.take_succ_cons, List.take_zero, leNat]
    omega
  have l0 := c0.toNat_lt
  have l1 := c1.toNat_lt
  have l2 := c2.toNat_lt
  have l3 := c3.toNat_lt
  have l4 := c4.toNat_lt
  have l5 := c5.toNat_lt
  have l6 := c6.toNat_lt
  have l7 := c7.toNat_lt
  rw [hw]
  simp only [enc_cS]
  generalize (c0 :: c1 :: c2 :: c3 :: c4 :: c5 :: c6 :: c7 :: r) = s at *
  generalize c0.toNat = b0 at *
  generalize c1.toNat = b1 at *
  generalize c2.toNat = b2 at *
  generalize c3.toNat = b3 at *
  generalize c4.toNat = b4 at *
  generalize c5.toNat = b5 at *
  generalize c6.toNat = b6 at *
  generalize c7.toNat = b7 at *
  have w : ∀ b : Nat, b < 256 → IntKind.wrap .u64 (b : Int) = b := fun b hb => q52 (by omega) (by omega)
  have s1 : ∀ H, A.bin base.P .shl 82 (.int .u64 (b1 : Int)) (.int .u64 8) true H = some (.int .u64 ((2 ^ 8 * b1 : Nat) : Int)) := fun H => q5m (s := 8) (by omega) (by omega)
  have s2 : ∀ H, A.bin base.P .shl 82 (.int .u64 (b2 : Int)) (.int .u64 16) true H = some (.int .u64 ((2 ^ 16 * b2 : Nat) : Int)) := fun H => q5m (s := 16) (by omega) (by omega)
  have s3 : ∀ H, A.bin base.P .shl 82 (.int .u64 (b3 : Int)) (.int .u64 24) true H = some (.int .u64 ((2 ^ 24 * b3 : Nat) : Int)) := fun H => q5m (s := 24) (by omega) (by omega)
  have s4 : ∀ H, A.bin base.P .shl 82 (.int .u64 (b4 : Int)) (.int .u64 32) true H = some (.int .u64 ((2 ^ 32 * b4 : Nat) : Int)) := fun H => q5m (s := 32) (by omega) (by omega)
  have s5 : ∀ H, A.bin base.P .shl 82 (.int .u64 (b5 : Int)) (.int .u64 40) true H = some (.int .u64 ((2 ^ 40 * b5 : Nat) : Int)) := fun H => q5m (s := 40) (by omega) (by omega)
  have s6 : ∀ H, A.bin base.P .shl 82 (.int .u64 (b6 : Int)) (.int .u64 48) true H = some (.int .u64 ((2 ^ 48 * b6 : Nat) : Int)) := fun H => q5m (s := 48) (by omega) (by omega)
  have s7 : ∀ H, A.bin base.P .shl 82 (.int .u64 (b7 : Int)) (.int .u64 56) true H = some (.int .u64 ((2 ^ 56 * b7 : Nat) : Int)) := fun H => q5m (s := 56) (by omega) (by omega)
  have o1 := fun H => (q9h (x := b0) (y := b1) (s := 8) (by omega) (by omega) (P := base.P) (t := 82) (c := false) (H := H)).1
  have o2 := fun H => (q9h (x := b0 + 2 ^ 8 * b1) (y := b2) (s := 16) (by omega) (by omega) (P := base.P) (t := 82) (c := false) (H := H)).1
  have o3 := fun H => (q9h (x := b0 + 2 ^ 8 * b1 + 2 ^ 16 * b2) (y := b3) (s := 24) (by omega) (by omega) (P := base.P) (t := 82) (c := false) (H := H)).1
  have o4 := fun H => (q9h (x := b0 + 2 ^ 8 * b1 + 2 ^ 16 * b2 + 2 ^ 24 * b3) (y := b4) (s := 32) (by omega) (by omega) (P := base.P) (t := 82) (c := false) (H := H)).1
  have o5 := fun H => (q9h (x := b0 + 2 ^ 8 * b1 + 2 ^ 16 * b2 + 2 ^ 24 * b3 + 2 ^ 32 * b4) (y := b5) (s := 40) (by omega) (by omega) (P := base.P) (t := 82) (c := false) (H := H)).1
  have o6 := fun H => (q9h (x := b0 + 2 ^ 8 * b1 + 2 ^ 16 * b2 + 2 ^ 24 * b3 + 2 ^ 32 * b4 + 2 ^ 40 * b5) (y := b6) (s := 48) (by omega) (by omega) (P := base.P) (t := 82) (c := false) (H := H)).1
  have o7 := fun H => (q9h (x := b0 + 2 ^ 8 * b1 + 2 ^ 16 * b2 + 2 ^ 24 * b3 + 2 ^ 32 * b4 + 2 ^ 40 * b5 + 2 ^ 48 * b6) (y := b7) (s := 56) (by omega) (by omega) (P := base.P) (t := 82) (c := false) (H := H)).1
  clear hw
  generalize hv1 : b0 + 2 ^ 8 * b1 = v1 at *
  generalize hv2 : v1 + 2 ^ 16 * b2 = v2 at *
  generalize hv3 : v2 + 2 ^ 24 * b3 = v3 at *
  generalize hv4 : v3 + 2 ^ 32 * b4 = v4 at *
  generalize hv5 : v4 + 2 ^ 40 * b5 = v5 at *
  generalize hv6 : v5 + 2 ^ 48 * b6 = v6 at *
  generalize hv7 : v6 + 2 ^ 56 * b7 = v7 at *
  generalize 2 ^ 8 * b1 = y1 at *
  generalize 2 ^ 16 * b2 = y2 at *
  generalize 2 ^ 24 * b3 = y3 at *
  generalize 2 ^ 32 * b4 = y4 at *
  generalize 2 ^ 40 * b5 = y5 at *
  generalize 2 ^ 48 * b6 = y6 at *
  generalize 2 ^ 56 * b7 = y7 at *
  have w0 := w b0 l0
  have w1 := w b1 l1
  have w2 := w b2 l2
  have w3 := w b3 l3
  have w4 := w b4 l4
  have w5 := w b5 l5
  have w6 := w b6 l6
  have w7 := w b7 l7
  simp [↓q00, ↓q01, S106, x0, x1, x2, x3, x4, x5, x6, x7, cv_8_64, w0, w1, w2, w3, w4, w5, w6, w7, s1, s2, s3, s4, s5, s6, s7, o1, o2, o3, o4, o5, o6, o7]
theorem q9y (s : List UInt8) (h : 8 ≤ s.length) : andI .u64 (wordN s : Nat) 9259542123273814144 = 0 ↔ ∀ b ∈ s.take 8, b.toNat < 128 := by
  have e := q8d (a := wordN s) (b := 9259542123273814144) (q3x s) (by omega)
  have hl : (s.take 8).length = 8 := by simp; omega
  have hm := leNat_mask (s.take 8)
  rw [hl, maskN8] at hm
  have e' : andI .u64 (wordN s : Nat) 9259542123273814144 = ((wordN s &&& 9259542123273814144 : Nat) : Int) := e
  rw [e', ← hm]
  unfold wordN
  omega
theorem qij (s t : List UInt8) (h : 8 ≤ s.length) (g : 8 ≤ t.length) : andI .u64 (orI .u64 (wordN s : Nat) (wordN t : Nat)) 9259542123273814144 = 0 ↔ (∀ b ∈ s.take 8, b.toNat < 128) ∧ ∀ b ∈ t.take 8, b.toNat < 128 := by
  have ls := q3x s
  have lt := q3x t
  have lo : wordN s ||| wordN t < 2 ^ 64 := Nat.or_lt_two_pow (by simpa using ls) (by simpa using lt)
  have e : andI .u64 ((wordN s ||| wordN t : Nat) : Int) 9259542123273814144 = (((wordN s ||| wordN t) &&& 9259542123273814144 : Nat) : Int) := q8d (b := 9259542123273814144) (by omega) (by omega)
  have e1 : andI .u64 ((wordN s : Nat) : Int) 9259542123273814144 = ((wordN s &&& 9259542123273814144 : Nat) : Int) := q8d (b := 9259542123273814144) ls (by omega)
  have e2 : andI .u64 ((wordN t : Nat) : Int) 9259542123273814144 = ((wordN t &&& 9259542123273814144 : Nat) : Int) := q8d (b := 9259542123273814144) lt (by omega)
  rw [qgt ls lt, e, ← q9y s h, ← q9y t g, e1, e2]
  have := or_mask (wordN s) (wordN t) 9259542123273814144
  omega
/-! ### the tables -/
theorem qj7 : (base.glob 0).getD [] = (List.range 256).map fun i => AV.int .u8 (firstT i : Nat) := by kernel_rfl
theorem acc_all : (base.glob 1).getD [] = (List.range 16).flatMap fun i => [AV.int .u8 (accLo i : Nat), AV.int .u8 (accHi i : Nat)] := by kernel_rfl
theorem qg7 (z : Nat) (h1 : z < 256) : ∃ p : AV, ∀ H, A.idxArr 1 256 (globV base 0) (.int .u8 (z : Int)) H = some p ∧ A.load false 1 p H = some (.int .u8 (firstT z : Nat)) := by
  unfold globV
  rw [qj7]
  generalize hcs : (List.range 256).map (fun i => AV.int .u8 (firstT i : Nat)) = cs
  have hg : cs[z]? = some (.int .u8 (firstT z : Nat)) := by rw [← hcs]; simp [h1]
  refine ⟨.rop (cs.drop z), fun H => ⟨?_, ?_⟩⟩
  · have : 0 ≤ (z : Int) ∧ (z : Int) < ((256 : Nat) : Int) := ⟨by omega, by omega⟩
    show (if 0 ≤ (z : Int) ∧ (z : Int) < ((256 : Nat) : Int) then A.fa ((z : Int).toNat * 1) (.rop cs) H else none) = _
    rw [if_pos this, Nat.mul_one]
    rfl
  · show A.ofList false 1 (cs.drop z) 0 = _
    simp [A.ofList, hg]
theorem acc_at (z : Nat) (h1 : z < 16) : ∃ p : AV, ∀ H, A.idxArr 2 16 (globV base 1) (.int .u8 (z : Int)) H = some p ∧ A.load true 2 p H = some (.agg [.int .u8 (accLo z : Nat), .int .u8 (accHi z : Nat)]) := by
  unfold globV
  rw [acc_all]
  generalize hcs : (List.range 16).flatMap (fun i => [AV.int .u8 (accLo i : Nat), AV.int .u8 (accHi i : Nat)]) = cs
  have hg : A.ofList true 2 (cs.drop (z * 2)) 0 = some (.agg [.int .u8 (accLo z : Nat), .int .u8 (accHi z : Nat)]) := by
    rw [← hcs]
    have hz : z = 0 ∨ z = 1 ∨ z = 2 ∨ z = 3 ∨ z = 4 ∨ z = 5 ∨ z = 6 ∨ z = 7 ∨ z = 8 ∨ z = 9 ∨ z = 10 ∨ z = 11 ∨ z = 12 ∨ z = 13 ∨ z = 14 ∨ z = 15 := by omega
    rcases hz with rfl | rfl | rfl | rfl | rfl | rfl | rfl | rfl | rfl | rfl | rfl | rfl | rfl | rfl | rfl | rfl <;> rfl
  refine ⟨.rop (cs.drop (z * 2)), fun H => ⟨?_, hg⟩⟩
  have : 0 ≤ (z : Int) ∧ (z : Int) < ((16 : Nat) : Int) := ⟨by omega, by omega⟩
  show (if 0 ≤ (z : Int) ∧ (z : Int) < ((16 : Nat) : Int) then A.fa ((z : Int).toNat * 2) (.rop cs) H else none) = _
  rw [if_pos this]
  rfl
theorem shr4 {P : Program} {t : TypeId} {j : IntKind} {a : Nat} {c : Bool} {H : Heap} : A.bin P .shr t (.int .u8 (a : Int)) (.int j 4) c H = some (.int .u8 ((a / 16 : Nat) : Int)) := by
  have : (a : Int).fdiv 16 = ((a / 16 : Nat) : Int) := by rw [Int.fdiv_eq_ediv_of_nonneg _ (by omega)]; rfl
  simp [A.bin, A.binInt, IntKind.bits, this]
theorem qg8 (z : Nat) : firstT z < 256 := by
  unfold firstT
  repeat' split
  all_goals omega
end Go.Proofs.YtleikacgncpfbaaDoor

/- Texts: is one well-formed: the loops. -/
set_option maxRecDepth 100000
set_option maxHeartbeats 4000000
namespace Go.Proofs.YtleikacgncpfbaaDoor
open Go Go.Den Go.Lib
noncomputable abbrev TVal : List (FuncId × Pol) := [(106, pWord)]
theorem qbb {s : List UInt8} {k : Nat} (h : ∀ b ∈ s.take k, b.toNat < 128) : validD s = validD (s.drop k) := validD_ascii k s h
theorem take_add {s : List UInt8} {a b : Nat} (h1 : ∀ x ∈ s.take a, x.toNat < 128) (h2 : ∀ x ∈ (s.drop a).take b, x.toNat < 128) : ∀ x ∈ s.take (a + b), x.toNat < 128 := fun x hx => by
  rw [List.take_add] at hx
  rcases List.mem_append.1 hx with h | h
  · exact h1 x h
  · exact h2 x h
theorem qb7 : ∀ (N : Nat) (s : List UInt8), s.length ≤ N → ∀ H : Heap, ∃ s' : List UInt8, s'.length ≤ s.length ∧ validD s' = validD s ∧ LDoes (L99_1 (polT TVal)) ⟨[.str s], []⟩ H 0 ⟨[.str s'], []⟩ H
  | N, s, hN, H => by
    by_cases h : 32 < s.length
    · have hlt : (32 : Int) < (s.length : Int) := by omega
      have d8 := q13 (s := s) (k := .i64) (i := 8) (by omega)
      have d16 := q13 (s := s) (k := .i64) (i := 16) (by omega)
      have d24 := q13 (s := s) (k := .i64) (i := 24) (by omega)
      have d32 := q13 (s := s) (k := .i64) (i := 32) (by omega)
      have e8 : 8 ≤ s.length - 8 := by omega
      have e16 : 8 ≤ s.length - 16 := by omega
      have e24 : 8 ≤ s.length - 24 := by omega
      have e0 : 8 ≤ s.length := by omega
      have w0 : ∀ (R : Type) (H : Heap) (k : AV → Heap → Option R), polK pWord [.str s] H k = k (.int .u64 (wordN s : Nat)) H := fun R H k => kWord e0
      have w8 : ∀ (R : Type) (H : Heap) (k : AV → Heap → Option R), polK pWord [.str (s.drop 8)] H k = k (.int .u64 (wordN (s.drop 8) : Nat)) H := fun R H k => kWord (by simpa using e8)
      have w16 : ∀ (R : Type) (H : Heap) (k : AV → Heap → Option R), polK pWord [.str (s.drop 16)] H k = k (.int .u64 (wordN (s.drop 16) : Nat)) H := fun R H k => kWord (by simpa using e16)
      have w24 : ∀ (R : Type) (H : Heap) (k : AV → Heap → Option R), polK pWord [.str (s.drop 24)] H k = k (.int .u64 (wordN (s.drop 24) : Nat)) H := fun R H k => kWord (by simpa using e24)
      have hl : A.lenStr (.str s) = some (.int .i64 (s.length : Int)) := q4b
      have hm : andI .u64 (orI .u64 (orI .u64 (wordN s : Nat) (wordN (s.drop 8) : Nat)) (orI .u64 (wordN (s.drop 16) : Nat) (wordN (s.drop 24) : Nat))) 9259542123273814144 = 0 → ∀ x ∈ s.take 32, x.toNat < 128 := fun hc => by
        have n0 := q3x s
        have n8 := q3x (s.drop 8)
        have n16 := q3x (s.drop 16)
        have n24 := q3x (s.drop 24)
        have p1 : wordN s ||| wordN (s.drop 8) < 2 ^ 64 := Nat.or_lt_two_pow (by simpa using n0) (by simpa using n8)
        have p2 : wordN (s.drop 16) ||| wordN (s.drop 24) < 2 ^ 64 := Nat.or_lt_two_pow (by simpa using n16) (by simpa using n24)
        have p3 : (wordN s ||| wordN (s.drop 8)) ||| (wordN (s.drop 16) ||| wordN (s.drop 24)) < 2 ^ 64 := Nat.or_lt_two_pow p1 p2
        rw [qgt n0 n8, qgt n16 n24, qgt (by omega) (by omega)] at hc
        have e := q8d (a := (wordN s ||| wordN (s.drop 8)) ||| (wordN (s.drop 16) ||| wordN (s.drop 24))) (b := 9259542123273814144) (by omega) (by omega)
        have e' : (((((wordN s ||| wordN (s.drop 8)) ||| (wordN (s.drop 16) ||| wordN (s.drop 24))) &&& 9259542123273814144 : Nat)) : Int) = 0 := e.symm.trans hc
        have hz : (((wordN s ||| wordN (s.drop 8)) ||| (wordN (s.drop 16) ||| wordN (s.drop 24))) &&& 9259542123273814144) = 0 := by omega
        rw [or_mask, or_mask, or_mask] at hz
        have mk : ∀ t : List UInt8, 8 ≤ t.length → wordN t &&& 9259542123273814144 = 0 → ∀ x ∈ t.take 8, x.toNat < 128 := fun t ht h => by
          have hl : (t.take 8).length = 8 := by simp; omega
          have := leNat_mask (t.take 8)
          rw [hl, maskN8] at this
          exact this.1 h
        have m0 := mk s e0 hz.1.1
        have m8 := mk (s.drop 8) (by simpa using e8) hz.1.2
        have m16 := mk (s.drop 16) (by simpa using e16) hz.2.1
        have m24 := mk (s.drop 24) (by simpa using e24) hz.2.2
        exact take_add (a := 24) (b := 8) (take_add (a := 16) (b := 8) (take_add (a := 8) (b := 8) m0 m8) m16) m24
      generalize ((wordN s : Nat) : Int) = a0 at *
      generalize ((wordN (s.drop 8) : Nat) : Int) = a8 at *
      generalize ((wordN (s.drop 16) : Nat) : Int) = a16 at *
      generalize ((wordN (s.drop 24) : Nat) : Int) = a24 at *
      simp only [Int.cast_ofNat_Int] at d8 d16 d24 d32
      by_cases hc : andI .u64 (orI .u64 (orI .u64 a0 a8) (orI .u64 a16 a24)) 9259542123273814144 = 0
      · match N with
        | 0 => omega
        | N + 1 =>
          obtain ⟨s', hs, hv, hL⟩ := qb7 N (s.drop 32) (by simp; omega) H
          simp only [List.length_drop] at hs
          refine ⟨s', by omega, by rw [hv, ← qbb (hm hc)], LDoes.step (Evs.withL hL (Evs.of fun n m _ h2 => ?_))⟩
          generalize s.drop 8 = s8 at *
          generalize s.drop 16 = s16 at *
          generalize s.drop 24 = s24 at *
          generalize s.drop 32 = s32 at *
          generalize (s.length : Int) = N at *
          simp [↓q00, ↓q01, ↓q04, ↓q03, ↓q07, q6v, hl, hlt, d8, d16, d24, d32, w0, w8, w16, w24, q58, q0n, hc, AV.heapy, h2]
      · refine ⟨s, Nat.le_refl _, rfl, LDoes.step (Evs.of fun n m => ?_)⟩
        generalize s.drop 8 = s8 at *
        generalize s.drop 16 = s16 at *
        generalize s.drop 24 = s24 at *
        generalize s.drop 32 = s32 at *
        generalize (s.length : Int) = N at *
        simp [↓q00, ↓q01, ↓q04, ↓q03, ↓q07, q6v, hl, hlt, d8, d16, d24, w0, w8, w16, w24, q58, q0n, hc, AV.heapy]
    · have hlt : ¬ (32 : Int) < (s.length : Int) := by omega
      have hl : A.lenStr (.str s) = some (.int .i64 (s.length : Int)) := q4b
      generalize (s.length : Int) = N at *
      refine ⟨s, Nat.le_refl _, rfl, LDoes.step (Evs.of fun n m => ?_)⟩
      simp [↓q00, ↓q01, ↓q04, ↓q03, ↓q07, q6v, hl, hlt, AV.heapy]
end Go.Proofs.YtleikacgncpfbaaDoor

/- Texts: is one well-formed: bytes below 128. -/
set_option maxRecDepth 100000
set_option maxHeartbeats 8000000
namespace Go.Proofs.YtleikacgncpfbaaDoor
open Go Go.Den Go.Lib
def q2e (s : List UInt8) : Prop := ∀ H : Heap, ∃ (H' : Heap), LDoes (L99_0 (polT TVal)) ⟨[.str s], []⟩ H (if validD s then 0 else 1) ⟨[if validD s then .undef else .bool false], []⟩ H'
theorem valid_nil : q2e [] := fun H => by
  have hl : A.lenStr (.str []) = some (.int .i64 0) := q4b
  exact ⟨H, LDoes.step (Evs.of fun n m => by simp [↓q00, ↓q01, q0j, hl, validD_nil])⟩
theorem qfs (c : UInt8) (r : List UInt8) (hc : c.toNat < 128) (ih : ∀ s, s.length ≤ r.length → q2e s) : q2e (c :: r) := fun H => by
  have hl : A.lenStr (.str (c :: r)) = some (.int .i64 ((r.length + 1 : Nat) : Int)) := q4b
  have hp : (0 : Int) < ((r.length + 1 : Nat) : Int) := by omega
  have hx : A.index (.str (c :: r)) (.int .i64 0) = some (.int .u8 (c.toNat : Int)) := rfl
  have d1 : A.sliceStr (.str (c :: r)) (some (.int .i64 1)) none = some (.str r) := q13 (s := c :: r) (i := 1) (by simp)
  have hr : A.lenStr (.str r) = some (.int .i64 (r.length : Int)) := q4b
  have hz : (c.toNat : Int) < 128 := by omega
  have ih8 := ih (r.drop 8) (by simp)
  have ih24 : ∀ s', s'.length ≤ (r.drop 24).length → q2e s' := fun s' h => ih s' (by simp at h; omega)
  have ihr := ih r (Nat.le_refl _)
  have hvc : validD (c :: r) = validD r := validD_cons c r hc
  rw [hvc]
  clear hvc
  generalize ((r.length + 1 : Nat) : Int) = N1 at *
  generalize (c.toNat : Int) = z at *
  generalize c :: r = s at *
  by_cases h8 : 8 < r.length
  · have h8' : (8 : Int) < (r.length : Int) := by omega
    have d8 : A.sliceStr (.str r) (some (.int .i64 8)) none = some (.str (r.drop 8)) := q13 (s := r) (i := 8) (by omega)
    have w0 : ∀ (R : Type) (H : Heap) (k : AV → Heap → Option R), polK pWord [.str r] H k = k (.int .u64 (wordN r : Nat)) H := fun R H k => kWord (by omega)
    have hm8 := (q9y r (by omega)).1
    generalize ((wordN r : Nat) : Int) = a0 at *
    by_cases c0 : andI .u64 a0 9259542123273814144 = 0
    · have hv8 : validD r = validD (r.drop 8) := qbb (hm8 c0)
      rw [hv8]
      have hr8 : A.lenStr (.str (r.drop 8)) = some (.int .i64 ((r.length - 8 : Nat) : Int)) := by rw [q4b]; simp
      by_cases h16 : 16 < r.length - 8
      · have h16i : (16 : Int) < ((r.length - 8 : Nat) : Int) := by omega
        have d16 : A.sliceStr (.str (r.drop 8)) (some (.int .i64 8)) none = some (.str (r.drop 16)) := by
          have := q13 (s := r.drop 8) (k := .i64) (i := 8) (by simp; omega)
          rw [List.drop_drop] at this
          exact this
        have d24 : A.sliceStr (.str (r.drop 8)) (some (.int .i64 16)) none = some (.str (r.drop 24)) := by
          have := q13 (s := r.drop 8) (k := .i64) (i := 16) (by simp; omega)
          rw [List.drop_drop] at this
          exact this
        have w8 : ∀ (R : Type) (H : Heap) (k : AV → Heap → Option R), polK pWord [.str (r.drop 8)] H k = k (.int .u64 (wordN (r.drop 8) : Nat)) H := fun R H k => kWord (by simp; omega)
        have w16 : ∀ (R : Type) (H : Heap) (k : AV → Heap → Option R), polK pWord [.str (r.drop 16)] H k = k (.int .u64 (wordN (r.drop 16) : Nat)) H := fun R H k => kWord (by simp; omega)
        have hm16 := (qij (r.drop 8) (r.drop 16) (by simp; omega) (by simp; omega)).1
        generalize ((wordN (r.drop 8) : Nat) : Int) = a8 at *
        generalize ((wordN (r.drop 16) : Nat) : Int) = a16 at *
        by_cases c1 : andI .u64 (orI .u64 a8 a16) 9259542123273814144 = 0
        · have h16' := hm16 c1
          have hd16 : (r.drop 8).drop 8 = r.drop 16 := by rw [List.drop_drop]
          have hv16 : validD (r.drop 8) = validD (r.drop 24) := by
            have := qbb (s := r.drop 8) (k := 8 + 8) (take_add h16'.1 (by rw [hd16]; exact h16'.2))
            rw [this, List.drop_drop]
          obtain ⟨s', hs', hvs, hL1⟩ := qb7 _ (r.drop 24) (Nat.le_refl _) H
          rw [hv16, ← hvs]
          clear hv16 hd16
          obtain ⟨H', hL⟩ := ih24 s' hs' H
          refine ⟨H', LDoes.step (Evs.withL hL1 (Evs.withL hL (Evs.of fun n m _ h2 h3 _ => ?_)))⟩
          generalize r.drop 8 = r8 at *
          generalize r.drop 16 = r16 at *
          generalize r.drop 24 = r24 at *
          generalize (r.length : Int) = N at *
          generalize ((r.length - 8 : Nat) : Int) = N8 at *
          simp [↓q00, ↓q05, ↓q01, ↓q04, ↓q03, ↓q06, ↓q07, q0j, hl, hp, hx, hz, d1, hr, h8', d8, w0, q0n, c0, hr8, h16i, d16, w8, w16, q58, c1, d24, AV.heapy, h2, h3]
        · obtain ⟨H', hL⟩ := ih8 H
          refine ⟨H', LDoes.step (Evs.withL hL (Evs.of fun n m _ h2 => ?_))⟩
          generalize r.drop 8 = r8 at *
          generalize r.drop 16 = r16 at *
          generalize (r.length : Int) = N at *
          generalize ((r.length - 8 : Nat) : Int) = N8 at *
          simp [↓q00, ↓q05, ↓q01, ↓q04, ↓q03, ↓q06, ↓q07, q0j, hl, hp, hx, hz, d1, hr, h8', d8, w0, q0n, c0, hr8, h16i, d16, w8, w16, q58, c1, AV.heapy, h2]
      · have h16i : ¬ (16 : Int) < ((r.length - 8 : Nat) : Int) := by omega
        obtain ⟨H', hL⟩ := ih8 H
        refine ⟨H', LDoes.step (Evs.withL hL (Evs.of fun n m _ h2 => ?_))⟩
        generalize r.drop 8 = r8 at *
        generalize (r.length : Int) = N at *
        generalize ((r.length - 8 : Nat) : Int) = N8 at *
        simp [↓q00, ↓q05, ↓q01, ↓q04, ↓q03, ↓q06, ↓q07, q0j, hl, hp, hx, hz, d1, hr, h8', d8, w0, q0n, c0, hr8, h16i, AV.heapy, h2]
    · obtain ⟨H', hL⟩ := ihr H
      refine ⟨H', LDoes.step (Evs.withL hL (Evs.of fun n m _ h2 => ?_))⟩
      generalize (r.length : Int) = N at *
      simp [↓q00, ↓q05, ↓q01, ↓q04, ↓q03, ↓q06, q0j, hl, hp, hx, hz, d1, hr, h8', w0, q0n, c0, h2]
  · have h8' : ¬ (8 : Int) < (r.length : Int) := by omega
    obtain ⟨H', hL⟩ := ihr H
    refine ⟨H', LDoes.step (Evs.withL hL (Evs.of fun n m _ h2 => ?_))⟩
    generalize (r.length : Int) = N at *
    simp [↓q00, ↓q05, ↓q01, ↓q04, ↓q03, ↓q06, q0j, hl, hp, hx, hz, d1, hr, h8', h2]
end Go.Proofs.YtleikacgncpfbaaDoor

/- Texts: is one well-formed: signs of more bytes than one; the entry. -/
set_option maxRecDepth 100000
set_option maxHeartbeats 8000000
namespace Go.Proofs.YtleikacgncpfbaaDoor
open Go Go.Den Go.Lib
theorem qih (s : List UInt8) (h0 : 0 < s.length) (hc : 128 ≤ (s.getD 0 0).toNat) (ih : ∀ s' : List UInt8, s'.length < s.length → q2e s') : q2e s := fun H => by
  have hne : s ≠ [] := fun e => by rw [e] at h0; simp at h0
  have hv := validD_lead s hne hc
  have hl : A.lenStr (.str s) = some (.int .i64 (s.length : Int)) := q4b
  have hx : A.index (.str s) (.int .i64 0) = some (.int .u8 ((s.getD 0 0).toNat : Int)) := q3o (i := 0) h0
  have hx1 : 1 < s.length → A.index (.str s) (.int .i64 1) = some (.int .u8 ((s.getD 1 0).toNat : Int)) := fun h => q3o (i := 1) h
  have hx2 : 2 < s.length → A.index (.str s) (.int .i64 2) = some (.int .u8 ((s.getD 2 0).toNat : Int)) := fun h => q3o (i := 2) h
  have hx3 : 3 < s.length → A.index (.str s) (.int .i64 3) = some (.int .u8 ((s.getD 3 0).toNat : Int)) := fun h => q3o (i := 3) h
  have hz1 : (s.getD 0 0).toNat < 256 := (s.getD 0 0).toNat_lt
  generalize (s.getD 0 0).toNat = z at *
  generalize (s.getD 1 0).toNat = z1 at *
  generalize (s.getD 2 0).toNat = z2 at *
  generalize (s.getD 3 0).toNat = z3 at *
  have hz : ¬ z < 128 := by omega
  have hzi : ¬ (z : Int) < 128 := by omega
  have hw2 : IntKind.wrap .i64 2 = 2 := rfl
  have hw3 : IntKind.wrap .i64 3 = 3 := rfl
  have hw4 : IntKind.wrap .i64 4 = 4 := rfl
  have h0i : (0 : Int) < (s.length : Int) := by omega
  obtain ⟨p0, hfirst⟩ := qg7 z hz1
  have hx256 := qg8 z
  have h7 := andI_7 hx256
  obtain ⟨p1, hacc⟩ := acc_at (firstT z / 16) (by omega)
  have hf1 := fun H => (hfirst H).1
  have hf2 := fun H => (hfirst H).2
  have ha1 := fun H => (hacc H).1
  have ha2 := fun H => (hacc H).2
  have hshr : ∀ H, A.bin base.P .shr 5 (.int .u8 (firstT z : Nat)) (.int .u64 4) true H = some (.int .u8 ((firstT z / 16 : Nat) : Int)) := fun H => shr4
  have hy : IntKind.wrap .i64 ((firstT z % 8 : Nat) : Int) = ((firstT z % 8 : Nat) : Int) := q0f (by omega) (by omega)
  generalize accLo (firstT z / 16) = lo at *
  generalize accHi (firstT z / 16) = hi at *
  generalize firstT z / 16 = w at *
  generalize hyy : firstT z % 8 = y at *
  generalize firstT z = x at *
  have hst : A.store 2 (.ptr H.length 0 0 0) (.agg [.int .u8 (lo : Nat), .int .u8 (hi : Nat)]) (H ++ [.row 0 2 108 [.agg [.int .u8 0, .int .u8 0]]]) = some (H ++ [.row 0 2 108 [.agg [.int .u8 (lo : Nat), .int .u8 (hi : Nat)]]]) := by
    have hb : Go.Den.Box (H ++ [.row 0 2 108 [.agg [.int .u8 0, .int .u8 0]]]) H.length 2 108 [.int .u8 0, .int .u8 0] := q1f
    have := q5v (ds := [.int .u8 (lo : Nat), .int .u8 (hi : Nat)]) hb rfl rfl (by simp)
    rw [this]
    simp
  have hB : Go.Den.Box (H ++ [.row 0 2 108 [.agg [.int .u8 (lo : Nat), .int .u8 (hi : Nat)]]]) H.length 2 108 [.int .u8 (lo : Nat), .int .u8 (hi : Nat)] := q1f
  have fa := fun o => hB.fa (o := o)
  have ld0 := hB.load (o := 0)
  have ld1 := hB.load (o := 1)
  have fa0 := fa 0
  have fa1 := fa 1
  simp only [List.getElem?_cons_succ, List.getElem?_cons_zero] at ld0 ld1
  generalize H ++ [.row 0 2 108 [.agg [.int .u8 (lo : Nat), .int .u8 (hi : Nat)]]] = Hx at *
  by_cases y2 : y = 2
  case pos =>
    by_cases hk : s.length < 2
    case pos =>
      have hki : (s.length : Int) < (2 : Int) := by omega
      have e : validD s = false := by rw [hv]; simp [checkN, y2, hk]
      rw [e]
      exact ⟨Hx, LDoes.step (Evs.of fun n m => by simp [↓q00, ↓q05, ↓q09, ↓q01, ↓q04, ↓q0d, ↓q03, ↓q06, q0j, hl, h0, hx, hzi, hf1, hf2, q0n, h7, q0s, hw2, hshr, ha1, ha2, hst, fa0, fa1, y2, hki])⟩
    have hki : ¬ (s.length : Int) < (2 : Int) := by omega
    have dk := q13 (s := s) (k := .i64) (i := 2) (by omega)
    have i1 := hx1 (by omega)
    simp only [Int.cast_ofNat_Int] at dk
    by_cases a1 : z1 < lo
    case pos =>
      have a1i : (z1 : Int) < (lo : Int) := by omega
      have e : validD s = false := by rw [hv]; simp [checkN, y2, hk, a1]
      rw [e]
      exact ⟨Hx, LDoes.step (Evs.of fun n m => by simp [↓q00, ↓q05, ↓q09, ↓q01, ↓q04, ↓q0d, ↓q03, ↓q06, q0j, hl, h0, hx, hzi, hf1, hf2, q0n, h7, q0s, hw2, hshr, ha1, ha2, hst, fa0, fa1, ld0, y2, hki, i1, a1i])⟩
    have a1i : ¬ (z1 : Int) < (lo : Int) := by omega
    by_cases b1 : hi < z1
    case pos =>
      have b1i : (hi : Int) < (z1 : Int) := by omega
      have e : validD s = false := by rw [hv]; simp [checkN, y2, hk, a1, b1]
      rw [e]
      exact ⟨Hx, LDoes.step (Evs.of fun n m => by simp [↓q00, ↓q05, ↓q09, ↓q01, ↓q04, ↓q0d, ↓q03, ↓q06, q0j, hl, h0, hx, hzi, hf1, hf2, q0n, h7, q0s, hw2, hshr, ha1, ha2, hst, fa0, fa1, ld0, ld1, y2, hki, i1, a1i, b1i])⟩
    have b1i : ¬ (hi : Int) < (z1 : Int) := by omega
    have e : validD s = validD (s.drop 2) := by rw [hv]; simp [checkN, y2, hk, a1, b1]
    rw [e]
    obtain ⟨H', hL⟩ := ih (s.drop 2) (by simp; omega) Hx
    refine ⟨H', LDoes.step (Evs.withL hL (Evs.of fun n m _ h2 => ?_))⟩
    generalize s.drop 2 = sk at *
    simp [↓q00, ↓q05, ↓q09, ↓q01, ↓q04, ↓q0d, ↓q03, ↓q06, q0j, hl, h0, hx, hzi, hf1, hf2, q0n, h7, q0s, hw2, hshr, ha1, ha2, hst, fa0, fa1, ld0, ld1, y2, hki, dk, i1, a1i, b1i, h2]
  by_cases y3 : y = 3
  case pos =>
    by_cases hk : s.length < 3
    case pos =>
      have hki : (s.length : Int) < (3 : Int) := by omega
      have e : validD s = false := by rw [hv]; simp [checkN, y3, hk]
      rw [e]
      exact ⟨Hx, LDoes.step (Evs.of fun n m => by simp [↓q00, ↓q05, ↓q09, ↓q01, ↓q04, ↓q0d, ↓q03, ↓q06, q0j, hl, h0, hx, hzi, hf1, hf2, q0n, h7, q0s, hw3, hshr, ha1, ha2, hst, fa0, fa1, y3, hki])⟩
    have hki : ¬ (s.length : Int) < (3 : Int) := by omega
    have dk := q13 (s := s) (k := .i64) (i := 3) (by omega)
    have i1 := hx1 (by omega)
    have i2 := hx2 (by omega)
    simp only [Int.cast_ofNat_Int] at dk
    by_cases a1 : z1 < lo
    case pos =>
      have a1i : (z1 : Int) < (lo : Int) := by omega
      have e : validD s = false := by rw [hv]; simp [checkN, y3, hk, a1]
      rw [e]
      exact ⟨Hx, LDoes.step (Evs.of fun n m => by simp [↓q00, ↓q05, ↓q09, ↓q01, ↓q04, ↓q0d, ↓q03, ↓q06, q0j, hl, h0, hx, hzi, hf1, hf2, q0n, h7, q0s, hw3, hshr, ha1, ha2, hst, fa0, fa1, ld0, y3, hki, i1, a1i])⟩
    have a1i : ¬ (z1 : Int) < (lo : Int) := by omega
    by_cases b1 : hi < z1
    case pos =>
      have b1i : (hi : Int) < (z1 : Int) := by omega
      have e : validD s = false := by rw [hv]; simp [checkN, y3, hk, a1, b1]
      rw [e]
      exact ⟨Hx, LDoes.step (Evs.of fun n m => by simp [↓q00, ↓q05, ↓q09, ↓q01, ↓q04, ↓q0d, ↓q03, ↓q06, q0j, hl, h0, hx, hzi, hf1, hf2, q0n, h7, q0s, hw3, hshr, ha1, ha2, hst, fa0, fa1, ld0, ld1, y3, hki, i1, a1i, b1i])⟩
    have b1i : ¬ (hi : Int) < (z1 : Int) := by omega
    by_cases a2 : z2 < 128
    case pos =>
      have a2i : (z2 : Int) < (128 : Int) := by omega
      have e : validD s = false := by rw [hv]; simp [checkN, y3, hk, a1, b1, a2]
      rw [e]
      exact ⟨Hx, LDoes.step (Evs.of fun n m => by simp [↓q00, ↓q05, ↓q09, ↓q01, ↓q04, ↓q0d, ↓q03, ↓q06, q0j, hl, h0, hx, hzi, hf1, hf2, q0n, h7, q0s, hw3, hshr, ha1, ha2, hst, fa0, fa1, ld0, ld1, y3, hki, i1, i2, a1i, b1i, a2i])⟩
    have a2i : ¬ (z2 : Int) < (128 : Int) := by omega
    by_cases b2 : 191 < z2
    case pos =>
      have b2i : (191 : Int) < (z2 : Int) := by omega
      have e : validD s = false := by rw [hv]; simp [checkN, y3, hk, a1, b1, a2, b2]
      rw [e]
      exact ⟨Hx, LDoes.step (Evs.of fun n m => by simp [↓q00, ↓q05, ↓q09, ↓q01, ↓q04, ↓q0d, ↓q03, ↓q06, q0j, hl, h0, hx, hzi, hf1, hf2, q0n, h7, q0s, hw3, hshr, ha1, ha2, hst, fa0, fa1, ld0, ld1, y3, hki, i1, i2, a1i, b1i, a2i, b2i])⟩
    have b2i : ¬ (191 : Int) < (z2 : Int) := by omega
    have e : validD s = validD (s.drop 3) := by rw [hv]; simp [checkN, y3, hk, a1, b1, a2, b2]
    rw [e]
    obtain ⟨H', hL⟩ := ih (s.drop 3) (by simp; omega) Hx
    refine ⟨H', LDoes.step (Evs.withL hL (Evs.of fun n m _ h2 => ?_))⟩
    generalize s.drop 3 = sk at *
    simp [↓q00, ↓q05, ↓q09, ↓q01, ↓q04, ↓q0d, ↓q03, ↓q06, q0j, hl, h0, hx, hzi, hf1, hf2, q0n, h7, q0s, hw3, hshr, ha1, ha2, hst, fa0, fa1, ld0, ld1, y3, hki, dk, i1, i2, a1i, b1i, a2i, b2i, h2]
  by_cases y4 : y = 4
  case pos =>
    by_cases hk : s.length < 4
    case pos =>
      have hki : (s.length : Int) < (4 : Int) := by omega
      have e : validD s = false := by rw [hv]; simp [checkN, y4, hk]
      rw [e]
      exact ⟨Hx, LDoes.step (Evs.of fun n m => by simp [↓q00, ↓q05, ↓q09, ↓q01, ↓q04, ↓q0d, ↓q03, ↓q06, q0j, hl, h0, hx, hzi, hf1, hf2, q0n, h7, q0s, hw4, hshr, ha1, ha2, hst, fa0, fa1, y4, hki])⟩
    have hki : ¬ (s.length : Int) < (4 : Int) := by omega
    have dk := q13 (s := s) (k := .i64) (i := 4) (by omega)
    have i1 := hx1 (by omega)
    have i2 := hx2 (by omega)
    have i3 := hx3 (by omega)
    simp only [Int.cast_ofNat_Int] at dk
    by_cases a1 : z1 < lo
    case pos =>
      have a1i : (z1 : Int) < (lo : Int) := by omega
      have e : validD s = false := by rw [hv]; simp [checkN, y4, hk, a1]
      rw [e]
      exact ⟨Hx, LDoes.step (Evs.of fun n m => by simp [↓q00, ↓q05, ↓q09, ↓q01, ↓q04, ↓q0d, ↓q03, ↓q06, q0j, hl, h0, hx, hzi, hf1, hf2, q0n, h7, q0s, hw4, hshr, ha1, ha2, hst, fa0, fa1, ld0, y4, hki, i1, a1i])⟩
    have a1i : ¬ (z1 : Int) < (lo : Int) := by omega
    by_cases b1 : hi < z1
    case pos =>
      have b1i : (hi : Int) < (z1 : Int) := by omega
      have e : validD s = false := by rw [hv]; simp [checkN, y4, hk, a1, b1]
      rw [e]
      exact ⟨Hx, LDoes.step (Evs.of fun n m => by simp [↓q00, ↓q05, ↓q09, ↓q01, ↓q04, ↓q0d, ↓q03, ↓q06, q0j, hl, h0, hx, hzi, hf1, hf2, q0n, h7, q0s, hw4, hshr, ha1, ha2, hst, fa0, fa1, ld0, ld1, y4, hki, i1, a1i, b1i])⟩
    have b1i : ¬ (hi : Int) < (z1 : Int) := by omega
    by_cases a2 : z2 < 128
    case pos =>
      have a2i : (z2 : Int) < (128 : Int) := by omega
      have e : validD s = false := by rw [hv]; simp [checkN, y4, hk, a1, b1, a2]
      rw [e]
      exact ⟨Hx, LDoes.step (Evs.of fun n m => by simp [↓q00, ↓q05, ↓q09, ↓q01, ↓q04, ↓q0d, ↓q03, ↓q06, q0j, hl, h0, hx, hzi, hf1, hf2, q0n, h7, q0s, hw4, hshr, ha1, ha2, hst, fa0, fa1, ld0, ld1, y4, hki, i1, i2, a1i, b1i, a2i])⟩
    have a2i : ¬ (z2 : Int) < (128 : Int) := by omega
    by_cases b2 : 191 < z2
    case pos =>
      have b2i : (191 : Int) < (z2 : Int) := by omega
      have e : validD s = false := by rw [hv]; simp [checkN, y4, hk, a1, b1, a2, b2]
      rw [e]
      exact ⟨Hx, LDoes.step (Evs.of fun n m => by simp [↓q00, ↓q05, ↓q09, ↓q01, ↓q04, ↓q0d, ↓q03, ↓q06, q0j, hl, h0, hx, hzi, hf1, hf2, q0n, h7, q0s, hw4, hshr, ha1, ha2, hst, fa0, fa1, ld0, ld1, y4, hki, i1, i2, a1i, b1i, a2i, b2i])⟩
    have b2i : ¬ (191 : Int) < (z2 : Int) := by omega
    by_cases a3 : z3 < 128
    case pos =>
      have a3i : (z3 : Int) < (128 : Int) := by omega
      have e : validD s = false := by rw [hv]; simp [checkN, y4, hk, a1, b1, a2, b2, a3]
      rw [e]
      exact ⟨Hx, LDoes.step (Evs.of fun n m => by simp [↓q00, ↓q05, ↓q09, ↓q01, ↓q04, ↓q0d, ↓q03, ↓q06, q0j, hl, h0, hx, hzi, hf1, hf2, q0n, h7, q0s, hw4, hshr, ha1, ha2, hst, fa0, fa1, ld0, ld1, y4, hki, i1, i2, i3, a1i, b1i, a2i, b2i, a3i])⟩
    have a3i : ¬ (z3 : Int) < (128 : Int) := by omega
    by_cases b3 : 191 < z3
    case pos =>
      have b3i : (191 : Int) < (z3 : Int) := by omega
      have e : validD s = false := by rw [hv]; simp [checkN, y4, hk, a1, b1, a2, b2, a3, b3]
      rw [e]
      exact ⟨Hx, LDoes.step (Evs.of fun n m => by simp [↓q00, ↓q05, ↓q09, ↓q01, ↓q04, ↓q0d, ↓q03, ↓q06, q0j, hl, h0, hx, hzi, hf1, hf2, q0n, h7, q0s, hw4, hshr, ha1, ha2, hst, fa0, fa1, ld0, ld1, y4, hki, i1, i2, i3, a1i, b1i, a2i, b2i, a3i, b3i])⟩
    have b3i : ¬ (191 : Int) < (z3 : Int) := by omega
    have e : validD s = validD (s.drop 4) := by rw [hv]; simp [checkN, y4, hk, a1, b1, a2, b2, a3, b3]
    rw [e]
    obtain ⟨H', hL⟩ := ih (s.drop 4) (by simp; omega) Hx
    refine ⟨H', LDoes.step (Evs.withL hL (Evs.of fun n m _ h2 => ?_))⟩
    generalize s.drop 4 = sk at *
    simp [↓q00, ↓q05, ↓q09, ↓q01, ↓q04, ↓q0d, ↓q03, ↓q06, q0j, hl, h0, hx, hzi, hf1, hf2, q0n, h7, q0s, hw4, hshr, ha1, ha2, hst, fa0, fa1, ld0, ld1, y4, hki, dk, i1, i2, i3, a1i, b1i, a2i, b2i, a3i, b3i, h2]
  have y2i : ¬ (y : Int) = 2 := by omega
  have y3i : ¬ (y : Int) = 3 := by omega
  have y4i : ¬ (y : Int) = 4 := by omega
  have e : validD s = false := by rw [hv]; simp [checkN, y2, y3, y4]
  rw [e]
  exact ⟨Hx, LDoes.step (Evs.of fun n m => by simp [↓q00, ↓q05, ↓q09, ↓q01, ↓q0d, ↓q06, q0j, hl, h0, hx, hzi, hf1, hf2, q0n, h7, q0s, hy, hshr, ha1, ha2, hst, y2i, y3i, y4i])⟩
theorem qb6 : ∀ (N : Nat) (s : List UInt8), s.length ≤ N → q2e s
  | _, [], _ => valid_nil
  | 0, _ :: _, h => by simp at h
  | N + 1, c :: r, h => by
    have ih : ∀ s' : List UInt8, s'.length < (c :: r).length → q2e s' := fun s' h' => qb6 N s' (by simp at h h'; omega)
    by_cases hc : c.toNat < 128
    · exact qfs c r hc fun s' h' => ih s' (by simp; omega)
    · exact qih (c :: r) (by simp) (by simp; omega) ih
noncomputable def pValid : Pol := .still (p1 cS .bool (fun _ => True) validD)
theorem okValid : PolOK base 99 pValid := still1 base_ok TVal ⟨okWord, trivial⟩ fun s _ => by
  obtain ⟨H', hL⟩ := qb6 _ s (Nat.le_refl _) []
  refine Evs.withL hL (Evs.of fun n m h1 _ => ?_)
  generalize validD s = b at *
  cases b <;> simp [↓q05, ↓q06, S99, h1]
theorem kValid {R : Type} {s : List UInt8} {H : Heap} {k : AV → Heap → Option R} : polK pValid [.str s] H k = k (.bool (validD s)) H := by
  simp [pValid, q0b]
end Go.Proofs.YtleikacgncpfbaaDoor

/- Texts: the first sign of a well-formed one. -/
set_option maxRecDepth 100000
set_option maxHeartbeats 8000000
namespace Go.Proofs.YtleikacgncpfbaaDoor
open Go Go.Den Go.Lib
theorem slow_all (n b0 b1 b2 b3 : Nat) (hn : 1 ≤ n) (h0 : 128 ≤ b0) (h0' : b0 < 256) (h1 : b1 < 256) (h2 : b2 < 256) (h3 : b3 < 256) (hs : 2 ≤ firstT b0 % 8) : slowN n b0 b1 b2 b3 (firstT b0 % 8) (accLo (firstT b0 / 16)) (accHi (firstT b0 / 16)) = decodeN n b0 b1 b2 b3 ∧ firstT b0 < 240 ∧ firstT b0 % 8 ≤ 4 := by
  by_cases c0 : b0 < 194
  · simp [firstT, show ¬ b0 < 128 by omega, c0] at hs
  by_cases c1 : b0 < 224
  · have e : firstT b0 = 2 := by simp [firstT, show ¬ b0 < 128 by omega, c0, c1]
    rw [e]; exact ⟨slow_C2 n b0 b1 b2 b3 hn h1 h2 h3 ⟨by omega, c1⟩, by omega, by omega⟩
  by_cases c2 : b0 = 224
  · subst c2; exact ⟨slow_E0 n 224 b1 b2 b3 hn h1 h2 h3 rfl, by decide, by decide⟩
  by_cases c3 : b0 < 237
  · have e : firstT b0 = 3 := by simp [firstT, show ¬ b0 < 128 by omega, c0, c1, c2, c3]
    rw [e]; exact ⟨slow_E1 n b0 b1 b2 b3 hn h1 h2 h3 (.inl ⟨by omega, c3⟩), by omega, by omega⟩
  by_cases c4 : b0 = 237
  · subst c4; exact ⟨slow_ED n 237 b1 b2 b3 hn h1 h2 h3 rfl, by decide, by decide⟩
  by_cases c5 : b0 < 240
  · have e : firstT b0 = 3 := by simp [firstT, show ¬ b0 < 128 by omega, c0, c1, c2, c3, c4, c5]
    rw [e]; exact ⟨slow_E1 n b0 b1 b2 b3 hn h1 h2 h3 (.inr ⟨by omega, c5⟩), by omega, by omega⟩
  by_cases c6 : b0 = 240
  · subst c6; exact ⟨slow_F0 n 240 b1 b2 b3 hn h1 h2 h3 rfl, by decide, by decide⟩
  by_cases c7 : b0 < 244
  · have e : firstT b0 = 4 := by simp [firstT, show ¬ b0 < 128 by omega, c0, c1, c2, c3, c4, c5, c6, c7]
    rw [e]; exact ⟨slow_F1 n b0 b1 b2 b3 hn h1 h2 h3 ⟨by omega, c7⟩, by omega, by omega⟩
  by_cases c8 : b0 = 244
  · subst c8; exact ⟨slow_F4 n 244 b1 b2 b3 hn h1 h2 h3 rfl, by decide, by decide⟩
  · simp [firstT, show ¬ b0 < 128 by omega, c0, c1, c2, c3, c4, c5, c6, c7, c8] at hs
theorem q4o {a k : Nat} (ha : a < 256) (hk : k ≤ 7) : andI .u8 (a : Int) ((2 ^ k - 1 : Nat) : Int) = ((a % 2 ^ k : Nat) : Int) := by
  have h : 2 ^ k - 1 < 256 := by
    have : 2 ^ k ≤ 2 ^ 7 := Nat.pow_le_pow_right (by omega) hk
    omega
  rw [andI_8 ha h, Nat.and_two_pow_sub_one_eq_mod]
theorem q6h {a : Nat} (h : a < 2147483648) : IntKind.wrap .i32 (a : Int) = a := by
  simp [IntKind.wrap, IntKind.bits, IntKind.signed]
  omega
theorem qay {a b s : Nat} (ha : a % 2 ^ s = 0) (hb : b < 2 ^ s) (h : a + b < 2147483648) : orI .i32 (a : Int) (b : Int) = ((a + b : Nat) : Int) := by
  unfold orI
  rw [show IntKind.bits .i32 = 32 from rfl, BitVec.toNat_or]
  simp
  have e : a ||| b = a + b := by
    have := Nat.two_pow_add_eq_or_of_lt hb (a / 2 ^ s)
    have e2 : 2 ^ s * (a / 2 ^ s) = a := by have := Nat.div_add_mod a (2 ^ s); omega
    rw [e2] at this
    exact this.symm
  rw [Nat.mod_eq_of_lt (by omega), Nat.mod_eq_of_lt (by omega), e]
  have := q6h h
  simpa using this
theorem qbi (n : Int) (j : IntKind) : Go.Den.convert base 5 21 (.int j n) = some (.int .i32 (IntKind.wrap .i32 n)) := q4t (x := .int .u8) (by kernel_rfl) (by kernel_rfl)
theorem q7e {P : Program} {t : TypeId} {j : IntKind} {a s : Nat} {c : Bool} {H : Heap} (hs : s ≤ 32) (h : a * 2 ^ s < 2147483648) : A.bin P .shl t (.int .i32 (a : Int)) (.int j (s : Int)) c H = some (.int .i32 ((a * 2 ^ s : Nat) : Int)) := by
  have hm : min s 32 = s := by omega
  have hw := q6h h
  have hn : ¬ (s : Int) < 0 := by omega
  simp only [A.bin, A.binInt]
  rw [if_neg hn]
  have e : min ((s : Int).toNat) (IntKind.bits .i32) = s := by
    show min ((s : Int).toNat) 32 = s
    omega
  rw [e]
  have e2 : (a : Int) * 2 ^ s = ((a * 2 ^ s : Nat) : Int) := by push_cast; rfl
  rw [e2, hw]
def decR (s : List UInt8) : Nat × Nat := if s = [] then (65533, 0) else decodeL s
def slowOk (s : List UInt8) : Prop := validD s = true ∧ (s = [] ∨ 128 ≤ (s.getD 0 0).toNat)
noncomputable def pSlow : Pol := .still (p1 cS (fun r : Nat × Nat => .tup [.int .i32 r.1, .int .i64 r.2]) slowOk decR)
theorem kSlow {R : Type} {s : List UInt8} (h : validD s = true) (h2 : s = [] ∨ 128 ≤ (s.getD 0 0).toNat) {H : Heap} {k : AV → Heap → Option R} : polK pSlow [.str s] H k = k (.tup [.int .i32 (decR s).1, .int .i64 (decR s).2]) H := by
  have : slowOk s := ⟨h, h2⟩
  unfold pSlow
  rw [q0b (by simp)]
  simp [this]
theorem okSlow : PolOK base 114 pSlow := still1 base_ok [] trivial fun s ⟨hv, h2⟩ => by
  have hl : A.lenStr (.str s) = some (.int .i64 (s.length : Int)) := q4b
  by_cases hne : s = []
  · subst hne
    have hl0 : A.lenStr (.str []) = some (.int .i64 0) := rfl
    exact Evs.of fun n m => by
      simp [↓q00, ↓q01, S114, hl0, decR]
      rfl
  have hc : 128 ≤ (s.getD 0 0).toNat := by
    rcases h2 with h | h
    · exact absurd h hne
    · exact h
  have h0 : 0 < s.length := List.length_pos_iff.2 hne
  have hlead := validD_lead s hne hc
  rw [hv] at hlead
  have hdec := decodeL_N s
  unfold decR
  rw [if_neg hne, hdec]
  have hx : A.index (.str s) (.int .i64 0) = some (.int .u8 ((s.getD 0 0).toNat : Int)) := q3o (i := 0) h0
  have hx1 : 1 < s.length → A.index (.str s) (.int .i64 1) = some (.int .u8 ((s.getD 1 0).toNat : Int)) := fun h => q3o (i := 1) h
  have hx2 : 2 < s.length → A.index (.str s) (.int .i64 2) = some (.int .u8 ((s.getD 2 0).toNat : Int)) := fun h => q3o (i := 2) h
  have hx3 : 3 < s.length → A.index (.str s) (.int .i64 3) = some (.int .u8 ((s.getD 3 0).toNat : Int)) := fun h => q3o (i := 3) h
  have hz0 : (s.getD 0 0).toNat < 256 := (s.getD 0 0).toNat_lt
  have hz1 : (s.getD 1 0).toNat < 256 := (s.getD 1 0).toNat_lt
  have hz2 : (s.getD 2 0).toNat < 256 := (s.getD 2 0).toNat_lt
  have hz3 : (s.getD 3 0).toNat < 256 := (s.getD 3 0).toNat_lt
  generalize (s.getD 0 0).toNat = z at *
  generalize (s.getD 1 0).toNat = z1 at *
  generalize (s.getD 2 0).toNat = z2 at *
  generalize (s.getD 3 0).toNat = z3 at *
  clear hdec
  obtain ⟨p0, hfirst⟩ := qg7 z hz0
  have hx256 := qg8 z
  have h7 := andI_7 hx256
  obtain ⟨p1, hacc⟩ := acc_at (firstT z / 16) (by omega)
  have hf1 := fun H => (hfirst H).1
  have hf2 := fun H => (hfirst H).2
  have ha1 := fun H => (hacc H).1
  have ha2 := fun H => (hacc H).2
  have hshr : ∀ H, A.bin base.P .shr 5 (.int .u8 (firstT z : Nat)) (.int .u64 4) true H = some (.int .u8 ((firstT z / 16 : Nat) : Int)) := fun H => shr4
  have hy : IntKind.wrap .i64 ((firstT z % 8 : Nat) : Int) = ((firstT z % 8 : Nat) : Int) := q0f (by omega) (by omega)
  have hsz : 2 ≤ firstT z % 8 := by
    unfold checkN at hlead
    by_cases e2 : firstT z % 8 = 2
    · omega
    by_cases e3 : firstT z % 8 = 3
    · omega
    by_cases e4 : firstT z % 8 = 4
    · omega
    · rw [if_neg e2, if_neg e3, if_neg e4] at hlead
      cases hlead
  obtain ⟨hsl, h240, h4⟩ := slow_all s.length z z1 z2 z3 (by omega) hc hz0 hz1 hz2 hz3 hsz
  rw [← hsl]
  generalize accLo (firstT z / 16) = lo at *
  generalize accHi (firstT z / 16) = hi at *
  generalize firstT z / 16 = w at *
  generalize hyy : firstT z % 8 = y at *
  generalize firstT z = x at *
  have h240' : ¬ (240 : Int) ≤ (x : Int) := by omega
  have h1' : ¬ (s.length : Int) < 1 := by omega
  have hst : A.store 2 (.ptr 0 0 0 0) (.agg [.int .u8 (lo : Nat), .int .u8 (hi : Nat)]) [.row 0 2 108 [.agg [.int .u8 0, .int .u8 0]]] = some [.row 0 2 108 [.agg [.int .u8 (lo : Nat), .int .u8 (hi : Nat)]]] := q5v (cs := [.int .u8 0, .int .u8 0]) (ds := [.int .u8 (lo : Nat), .int .u8 (hi : Nat)]) (H := [.row 0 2 108 [.agg [.int .u8 0, .int .u8 0]]]) rfl rfl rfl (by simp)
  have hB : Go.Den.Box [.row 0 2 108 [.agg [.int .u8 (lo : Nat), .int .u8 (hi : Nat)]]] 0 2 108 [.int .u8 (lo : Nat), .int .u8 (hi : Nat)] := rfl
  have fa0 := hB.fa (o := 0)
  have fa1 := hB.fa (o := 1)
  have ld0 := hB.load (o := 0)
  have ld1 := hB.load (o := 1)
  simp only [List.getElem?_cons_succ, List.getElem?_cons_zero] at ld0 ld1
  have m1 : andI .u8 (z1 : Int) 63 = ((z1 % 64 : Nat) : Int) := q4o (k := 6) hz1 (by omega)
  have m2 : andI .u8 (z2 : Int) 63 = ((z2 % 64 : Nat) : Int) := q4o (k := 6) hz2 (by omega)
  have m3 : andI .u8 (z3 : Int) 63 = ((z3 % 64 : Nat) : Int) := q4o (k := 6) hz3 (by omega)
  have v : ∀ a : Nat, a < 256 → IntKind.wrap .i32 (a : Int) = a := fun a ha => q6h (by omega)
  have v1 := v (z1 % 64) (by omega)
  have v2 := v (z2 % 64) (by omega)
  have v3 := v (z3 % 64) (by omega)
  have hfz : ∀ (H : Heap) (a b : Int), A.freezeB true 64 H (.tup [.int .i32 a, .int .i64 b]) = some (.tup [.int .i32 a, .int .i64 b]) := fun H a b => rfl
  unfold checkN at hlead
  unfold slowN
  by_cases y2 : y = 2
  case pos =>
    rw [if_pos y2] at hlead
    by_cases hk : s.length < 2 ∨ z1 < lo ∨ hi < z1
    · rw [if_pos hk] at hlead
      cases hlead
    have hk1 : ¬ (s.length : Int) < 2 := by omega
    have a1 : ¬ (z1 : Int) < (lo : Int) := by omega
    have b1 : ¬ (hi : Int) < (z1 : Int) := by omega
    have i1 := hx1 (by omega)
    rw [if_neg (by omega), if_neg (by omega), if_pos (by omega)]
    have n0 : andI .u8 (z : Int) 31 = ((z % 32 : Nat) : Int) := q4o (k := 5) hz0 (by omega)
    have v0 := v (z % 32) (by omega)
    have s0 : ∀ H, A.bin base.P .shl 21 (.int .i32 ((z % 32 : Nat) : Int)) (.int .u64 6) true H = some (.int .i32 ((z % 32 * 64 : Nat) : Int)) := fun H => q7e (s := 6) (by omega) (by omega)
    have o0 := qay (a := z % 32 * 64) (b := z1 % 64) (s := 6) (by omega) (by omega) (by omega)
    subst y2
    have hw2 : IntKind.wrap .i64 2 = 2 := rfl
    generalize z % 32 * 64 + z1 % 64 = out at *
    generalize z % 32 * 64 = g1 at *
    generalize z % 32 = g0 at *
    generalize z1 % 64 = g2 at *
    exact Evs.of fun n m => by simp [↓q00, ↓q05, ↓q09, ↓q01, ↓q04, ↓q0d, ↓q03, S114, hl, h1', hx, hf1, hf2, h240', q0n, h7, q0s, hw2, hshr, ha1, ha2, hst, hk1, i1, fa0, ld0, a1, fa1, ld1, b1, n0, qbi, v0, s0, m1, v1, q58, o0, hfz]
  by_cases y3 : y = 3
  case pos =>
    rw [if_neg y2, if_pos y3] at hlead
    by_cases hk : s.length < 3 ∨ z1 < lo ∨ hi < z1 ∨ z2 < 128 ∨ 191 < z2
    · rw [if_pos hk] at hlead
      cases hlead
    have hk1 : ¬ (s.length : Int) < 3 := by omega
    have a1 : ¬ (z1 : Int) < (lo : Int) := by omega
    have b1 : ¬ (hi : Int) < (z1 : Int) := by omega
    have a2 : ¬ (z2 : Int) < 128 := by omega
    have b2 : ¬ (191 : Int) < (z2 : Int) := by omega
    have i1 := hx1 (by omega)
    have i2 := hx2 (by omega)
    rw [if_neg (by omega), if_neg (by omega), if_neg (by omega), if_neg (by omega), if_pos (by omega)]
    have n0 : andI .u8 (z : Int) 15 = ((z % 16 : Nat) : Int) := q4o (k := 4) hz0 (by omega)
    have v0 := v (z % 16) (by omega)
    have s0 : ∀ H, A.bin base.P .shl 21 (.int .i32 ((z % 16 : Nat) : Int)) (.int .u64 12) true H = some (.int .i32 ((z % 16 * 4096 : Nat) : Int)) := fun H => q7e (s := 12) (by omega) (by omega)
    have s1 : ∀ H, A.bin base.P .shl 21 (.int .i32 ((z1 % 64 : Nat) : Int)) (.int .u64 6) true H = some (.int .i32 ((z1 % 64 * 64 : Nat) : Int)) := fun H => q7e (s := 6) (by omega) (by omega)
    have o0 := qay (a := z % 16 * 4096) (b := z1 % 64 * 64) (s := 12) (by omega) (by omega) (by omega)
    have o1 := qay (a := z % 16 * 4096 + z1 % 64 * 64) (b := z2 % 64) (s := 6) (by omega) (by omega) (by omega)
    subst y3
    have hw3 : IntKind.wrap .i64 3 = 3 := rfl
    generalize z % 16 * 4096 + z1 % 64 * 64 + z2 % 64 = out at *
    generalize z % 16 * 4096 + z1 % 64 * 64 = g5 at *
    generalize z % 16 * 4096 = g1 at *
    generalize z1 % 64 * 64 = g4 at *
    generalize z % 16 = g0 at *
    generalize z1 % 64 = g2 at *
    generalize z2 % 64 = g3 at *
    exact Evs.of fun n m => by simp [↓q00, ↓q05, ↓q09, ↓q01, ↓q04, ↓q0d, ↓q03, S114, hl, h1', hx, hf1, hf2, h240', q0n, h7, q0s, hw3, hshr, ha1, ha2, hst, hk1, i1, fa0, ld0, a1, fa1, ld1, b1, i2, a2, b2, n0, qbi, v0, s0, m1, v1, s1, q58, o0, m2, v2, o1, hfz]
  · have y4 : y = 4 := by omega
    rw [if_neg y2, if_neg y3, if_pos y4] at hlead
    by_cases hk : s.length < 4 ∨ z1 < lo ∨ hi < z1 ∨ z2 < 128 ∨ 191 < z2 ∨ z3 < 128 ∨ 191 < z3
    · rw [if_pos hk] at hlead
      cases hlead
    have hk1 : ¬ (s.length : Int) < 4 := by omega
    have a1 : ¬ (z1 : Int) < (lo : Int) := by omega
    have b1 : ¬ (hi : Int) < (z1 : Int) := by omega
    have a2 : ¬ (z2 : Int) < 128 := by omega
    have b2 : ¬ (191 : Int) < (z2 : Int) := by omega
    have a3 : ¬ (z3 : Int) < 128 := by omega
    have b3 : ¬ (191 : Int) < (z3 : Int) := by omega
    have i1 := hx1 (by omega)
    have i2 := hx2 (by omega)
    have i3 := hx3 (by omega)
    rw [if_neg (by omega), if_neg (by omega), if_neg (by omega), if_neg (by omega), if_neg (by omega), if_neg (by omega)]
    obtain ⟨g0, e0⟩ : ∃ g, z % 8 = g := ⟨_, rfl⟩
    obtain ⟨g2, e2⟩ : ∃ g, z1 % 64 = g := ⟨_, rfl⟩
    obtain ⟨g3, e3⟩ : ∃ g, z2 % 64 = g := ⟨_, rfl⟩
    obtain ⟨g8, e8⟩ : ∃ g, z3 % 64 = g := ⟨_, rfl⟩
    have n0 : andI .u8 (z : Int) 7 = ((z % 8 : Nat) : Int) := q4o (k := 3) hz0 (by omega)
    have v0 := v (z % 8) (by omega)
    rw [e0] at n0 v0 ⊢
    rw [e2] at m1 v1 ⊢
    rw [e3] at m2 v2 ⊢
    rw [e8] at m3 v3 ⊢
    have q0 : g0 < 8 := by omega
    have q2 : g2 < 64 := by omega
    have q3 : g3 < 64 := by omega
    have q8 : g8 < 64 := by omega
    obtain ⟨g1, e1⟩ : ∃ g, g0 * 262144 = g := ⟨_, rfl⟩
    obtain ⟨g4, e4⟩ : ∃ g, g2 * 4096 = g := ⟨_, rfl⟩
    obtain ⟨g7, e7⟩ : ∃ g, g3 * 64 = g := ⟨_, rfl⟩
    rw [e1, e4, e7]
    have s0 : ∀ H, A.bin base.P .shl 21 (.int .i32 (g0 : Int)) (.int .u64 18) true H = some (.int .i32 (g1 : Int)) := fun H => by rw [← e1]; exact q7e (s := 18) (by omega) (by omega)
    have s1 : ∀ H, A.bin base.P .shl 21 (.int .i32 (g2 : Int)) (.int .u64 12) true H = some (.int .i32 (g4 : Int)) := fun H => by rw [← e4]; exact q7e (s := 12) (by omega) (by omega)
    have s2 : ∀ H, A.bin base.P .shl 21 (.int .i32 (g3 : Int)) (.int .u64 6) true H = some (.int .i32 (g7 : Int)) := fun H => by rw [← e7]; exact q7e (s := 6) (by omega) (by omega)
    have o0 := qay (a := g1) (b := g4) (s := 18) (by omega) (by omega) (by omega)
    have o1 := qay (a := g1 + g4) (b := g7) (s := 12) (by omega) (by omega) (by omega)
    have o2 := qay (a := g1 + g4 + g7) (b := g8) (s := 6) (by omega) (by omega) (by omega)
    obtain ⟨g5, e5⟩ : ∃ g, g1 + g4 = g := ⟨_, rfl⟩
    rw [e5] at o0 o1 o2 ⊢
    obtain ⟨g6, e6⟩ : ∃ g, g5 + g7 = g := ⟨_, rfl⟩
    rw [e6] at o1 o2 ⊢
    obtain ⟨out, e9⟩ : ∃ g, g6 + g8 = g := ⟨_, rfl⟩
    rw [e9] at o2 ⊢
    clear hsl
    subst y4
    have hw4 : IntKind.wrap .i64 4 = 4 := rfl
    exact Evs.of fun n m => by simp [↓q00, ↓q05, ↓q09, ↓q01, ↓q04, ↓q0d, ↓q03, S114, hl, h1', hx, hf1, hf2, h240', q0n, h7, q0s, hw4, hshr, ha1, ha2, hst, hk1, i1, fa0, ld0, a1, fa1, ld1, b1, i2, a2, b2, i3, a3, b3, n0, qbi, v0, s0, m1, v1, s1, q58, o0, m2, v2, s2, o1, m3, v3, o2, hfz]
noncomputable def pDec : Pol := .still (p1 cS (fun r : Nat × Nat => .tup [.int .i32 r.1, .int .i64 r.2]) (fun s => validD s = true) decR)
theorem kDec {R : Type} {s : List UInt8} (h : validD s = true) {H : Heap} {k : AV → Heap → Option R} : polK pDec [.str s] H k = k (.tup [.int .i32 (decR s).1, .int .i64 (decR s).2]) H := by
  unfold pDec
  rw [q0b (by simp)]
  simp [h]
theorem str_ne {t : TypeId} {c : Bool} {H : Heap} (s : List UInt8) : A.bin base.P .neq t (.str s) (.str []) c H = some (.bool (!decide (s = []))) := by
  cases s <;> rfl
theorem okDec : PolOK base 108 pDec := still1 base_ok [(114, pSlow)] ⟨okSlow, trivial⟩ fun s hv => by
  have hfz : ∀ (H : Heap) (a b : Int), A.freezeB true 64 H (.tup [.int .i32 a, .int .i64 b]) = some (.tup [.int .i32 a, .int .i64 b]) := fun H a b => rfl
  have hn := fun H => str_ne (t := 9) (c := true) (H := H) s
  by_cases hne : s = []
  · subst hne
    have hk : ∀ (R : Type) (H : Heap) (k : AV → Heap → Option R), polK pSlow [.str []] H k = k (.tup [.int .i32 (decR []).1, .int .i64 (decR []).2]) H := fun R H k => kSlow hv (.inl rfl)
    exact Evs.of fun n m => by simp [↓q00, ↓q01, ↓q04, ↓q03, S108, hn, hk, hfz]
  have h0 : 0 < s.length := List.length_pos_iff.2 hne
  have hx : A.index (.str s) (.int .i64 0) = some (.int .u8 ((s.getD 0 0).toNat : Int)) := q3o (i := 0) h0
  by_cases hc : (s.getD 0 0).toNat < 128
  · have hc' : ((s.getD 0 0).toNat : Int) < 128 := by omega
    have e : decR s = ((s.getD 0 0).toNat, 1) := by
      unfold decR
      rw [if_neg hne, decodeL_N]
      unfold decodeN
      rw [if_pos hc]
    have hw : IntKind.wrap .i32 ((s.getD 0 0).toNat : Int) = ((s.getD 0 0).toNat : Int) := q6h (by omega)
    rw [e]
    generalize (s.getD 0 0).toNat = z at *
    exact Evs.of fun n m => by simp [↓q00, ↓q01, ↓q04, ↓q03, S108, hn, hne, hx, hc', qbi, hw, hfz]
  · have hc' : ¬ ((s.getD 0 0).toNat : Int) < 128 := by omega
    have hk : ∀ (R : Type) (H : Heap) (k : AV → Heap → Option R), polK pSlow [.str s] H k = k (.tup [.int .i32 (decR s).1, .int .i64 (decR s).2]) H := fun R H k => kSlow hv (.inr (by omega))
    generalize (s.getD 0 0).toNat = z at *
    exact Evs.of fun n m => by simp [↓q00, ↓q01, ↓q04, ↓q03, S108, hn, hne, hx, hc', hk, hfz]
end Go.Proofs.YtleikacgncpfbaaDoor

/- Texts: how many signs; which is less. -/
set_option maxRecDepth 100000
set_option maxHeartbeats 8000000
namespace Go.Proofs.YtleikacgncpfbaaDoor
open Go Go.Den Go.Lib
/-! ### how many signs -/
theorem drop_dec (l : List UInt8) (pos : Nat) : Utf8.decode ⟨l.toArray⟩ pos = decodeL (l.drop pos) := by
  have := decodeL_drop ⟨l.toArray⟩ pos
  have e0 : (⟨l.toArray⟩ : ByteArray).data.toList = l := by simp
  rw [e0] at this
  exact this.symm
theorem drop_ne {l : List UInt8} {pos : Nat} (h : pos < l.length) : l.drop pos ≠ [] := fun e => by
  have := congrArg List.length e
  simp at this
  omega
def q1m (s : List UInt8) : Prop := s.length ≤ 1000000
noncomputable def pRunes : Pol := .still (p1 cS (.int .i64) q1m (fun s => ((rs s).length : Int)))
noncomputable def q2k : Pol := .still (p1 cS .bool (fun _ => True) validD)
theorem qc2 : PolOK base 80 q2k := still1 base_ok [(99, pValid)] ⟨okValid, trivial⟩ fun s _ => Evs.of fun n m => by
  simp [S80, kValid]
theorem q39 {R : Type} {s : List UInt8} {H : Heap} {k : AV → Heap → Option R} : polK q2k [.str s] H k = k (.bool (validD s)) H := by
  simp [q2k, q0b]
noncomputable def qca : Pol := .still (p1 cS .bool (fun _ => True) validD)
theorem okTvalid : PolOK base 97 qca := still1 base_ok [(99, pValid)] ⟨okValid, trivial⟩ fun s _ => Evs.of fun n m => by
  simp [S97, kValid]
theorem qf4 {R : Type} {s : List UInt8} {H : Heap} {k : AV → Heap → Option R} : polK qca [.str s] H k = k (.bool (validD s)) H := by
  simp [qca, q0b]
def countR (s : List UInt8) : Int := if validD s then ((rs s).length : Nat) else -1
noncomputable def pCount : Pol := .still (p1 cS (.int .i64) q1m countR)
def ordI (x y : Int) : Int := if x < y then -1 else if y < x then 1 else 0
noncomputable def pNanI : Pol := .still (p1 (cI .i64) .bool (fun _ => True) fun _ => false)
theorem okNanI : PolOK base 100 pNanI := still1 base_ok [] trivial fun x _ => Evs.of fun n m => by simp [↓q01, S100]
theorem kNanI {R : Type} {x : Int} {H : Heap} {k : AV → Heap → Option R} : polK pNanI [.int .i64 x] H k = k (.bool false) H := by
  simp [pNanI, q0b]
noncomputable def pNanR : Pol := .still (p1 (cI .i32) .bool (fun _ => True) fun _ => false)
theorem okNanR : PolOK base 115 pNanR := still1 base_ok [] trivial fun x _ => Evs.of fun n m => by simp [↓q01, S115]
theorem kNanR {R : Type} {x : Int} {H : Heap} {k : AV → Heap → Option R} : polK pNanR [.int .i32 x] H k = k (.bool false) H := by
  simp [pNanR, q0b]
noncomputable def pNanS : Pol := .still (p1 cS .bool (fun _ => True) fun _ => false)
theorem okNanS : PolOK base 113 pNanS := still1 base_ok [] trivial fun x _ => Evs.of fun n m => by
  have h : ∀ H, A.bin base.P .neq 9 (.str x) (.str x) false H = some (.bool false) := fun H => by simp [A.bin, A.binStr]
  simp [↓q01, S113, h]
theorem kNanS {R : Type} {x : List UInt8} {H : Heap} {k : AV → Heap → Option R} : polK pNanS [.str x] H k = k (.bool false) H := by
  simp [pNanS, q0b]
noncomputable def pCmpI : Pol := .still (p2 (cI .i64) (cI .i64) (.int .i64) (fun _ _ => True) ordI)
theorem okCmpI : PolOK base 85 pCmpI := still2 base_ok [(100, pNanI)] ⟨okNanI, trivial⟩ fun x y _ => by
  unfold ordI
  by_cases h1 : x < y
  · exact Evs.of fun n m => by simp [↓q00, ↓q01, S85, kNanI, h1]
  · by_cases h2 : y < x
    · exact Evs.of fun n m => by simp [↓q00, ↓q01, S85, kNanI, h1, h2]
    · exact Evs.of fun n m => by simp [↓q00, ↓q01, S85, kNanI, h1, h2]
theorem kCmpI {R : Type} {x y : Int} {H : Heap} {k : AV → Heap → Option R} : polK pCmpI [.int .i64 x, .int .i64 y] H k = k (.int .i64 (ordI x y)) H := by
  simp [pCmpI, q0b]
noncomputable def pCmpR : Pol := .still (p2 (cI .i32) (cI .i32) (.int .i64) (fun _ _ => True) ordI)
theorem okCmpR : PolOK base 109 pCmpR := still2 base_ok [(115, pNanR)] ⟨okNanR, trivial⟩ fun x y _ => by
  unfold ordI
  by_cases h1 : x < y
  · exact Evs.of fun n m => by simp [↓q00, ↓q01, S109, kNanR, h1]
  · by_cases h2 : y < x
    · exact Evs.of fun n m => by simp [↓q00, ↓q01, S109, kNanR, h1, h2]
    · exact Evs.of fun n m => by simp [↓q00, ↓q01, S109, kNanR, h1, h2]
theorem kCmpR {R : Type} {x y : Int} {H : Heap} {k : AV → Heap → Option R} : polK pCmpR [.int .i32 x, .int .i32 y] H k = k (.int .i64 (ordI x y)) H := by
  simp [pCmpR, q0b]
noncomputable def pCmpS : Pol := .still (p2 cS cS (.int .i64) (fun _ _ => True) fun a b => lexR (nums a) (nums b))
theorem okCmpS : PolOK base 107 pCmpS := still2 base_ok [(113, pNanS)] ⟨okNanS, trivial⟩ fun a b _ => by
  have h1 : ∀ H, A.bin base.P .lss 9 (.str a) (.str b) false H = some (.bool (decide (lexR (nums a) (nums b) < 0))) := fun H => by
    show A.binStr .lss a b = _
    simp only [A.binStr, q8k]
  have h2 : ∀ H, A.bin base.P .gtr 9 (.str a) (.str b) false H = some (.bool (decide (0 < lexR (nums a) (nums b)))) := fun H => by
    show A.binStr .gtr a b = _
    simp only [A.binStr, q8k]
    congr 2
    have hr := q98 (nums a) (nums b)
    have hz := q34 (nums a) (nums b)
    by_cases e : a = b
    · subst e
      rw [qgh]
      simp
    · have : lexR (nums a) (nums b) ≠ 0 := fun h => e (q89 (hz.1 h))
      have eb : (a == b) = false := by simp [e]
      rw [eb, Bool.or_false]
      rcases hr with h | h | h
      · rw [h]; rfl
      · exact absurd h this
      · rw [h]; rfl
  have hr := q98 (nums a) (nums b)
  generalize lexR (nums a) (nums b) = x at *
  rcases hr with rfl | rfl | rfl
  · exact Evs.of fun n m => by simp [↓q00, ↓q01, S107, kNanS, h1]
  · exact Evs.of fun n m => by simp [↓q00, ↓q01, S107, kNanS, h1, h2]
  · exact Evs.of fun n m => by simp [↓q00, ↓q01, S107, kNanS, h1, h2]
theorem kCmpS {R : Type} {a b : List UInt8} {H : Heap} {k : AV → Heap → Option R} : polK pCmpS [.str a, .str b] H k = k (.int .i64 (lexR (nums a) (nums b))) H := by
  simp [pCmpS, q0b]
noncomputable abbrev TLess : List (FuncId × Pol) := [(97, qca), (107, pCmpS), (108, pDec), (85, pCmpI), (109, pCmpR)]
theorem dec_w {s : List UInt8} (hne : s ≠ []) (hv : validD s = true) : decR s = decodeL s ∧ 1 ≤ (decodeL s).2 ∧ (decodeL s).2 ≤ s.length ∧ validD (s.drop (decodeL s).2) = true := by
  have hs := hv
  rw [validD_step s hne] at hs
  by_cases hg : (decodeL s).1 = 65533 ∧ (decodeL s).2 = 1
  · rw [if_pos hg] at hs; cases hs
  · rw [if_neg hg] at hs
    obtain ⟨-, -, h3, h4⟩ := qg2 hne hg
    exact ⟨by unfold decR; rw [if_neg hne], h4, h3, hs⟩
theorem less_loop : ∀ (N : Nat) (a b : List UInt8) (H : Heap), a.length ≤ N → validD a = true → validD b = true →
    LDoes (qfv (polT TLess)) ⟨[.str a, .str b], []⟩ H 0 ⟨[.int .i64 (lexR (rs a) (rs b))], []⟩ H := by
  intro N
  induction N with
  | zero =>
    intro a b H hN ha hb
    have : a = [] := List.eq_nil_of_length_eq_zero (by omega)
    subst this
    have ka : ∀ (R : Type) (H : Heap) (k : AV → Heap → Option R), polK pDec [.str []] H k = k (.tup [.int .i32 65533, .int .i64 0]) H := fun R H k => kDec ha
    by_cases hbe : b = []
    · subst hbe
      have e : lexR (rs []) (rs []) = 0 := rfl
      have eo : ordI 0 0 = 0 := rfl
      rw [e]
      exact LDoes.step (Evs.of fun n m => by simp [↓q00, ↓q01, ↓q04, ↓q03, q1i, ka, kCmpI, eo])
    · obtain ⟨d1, d2, d3, d4⟩ := dec_w hbe hb
      have kb : ∀ (R : Type) (H : Heap) (k : AV → Heap → Option R), polK pDec [.str b] H k = k (.tup [.int .i32 (decodeL b).1, .int .i64 (decodeL b).2]) H := fun R H k => by rw [kDec hb, d1]
      have e : lexR (rs []) (rs b) = -1 := by rw [q3u hbe]; rfl
      have eo : ordI 0 ((decodeL b).2 : Int) = -1 := by unfold ordI; rw [if_pos (by omega)]
      rw [e]
      generalize ((decodeL b).2 : Int) = m at *
      generalize ((decodeL b).1 : Int) = r at *
      exact LDoes.step (Evs.of fun n m => by simp [↓q00, ↓q01, ↓q04, ↓q03, q1i, ka, kb, kCmpI, eo])
  | succ N ih =>
    intro a b H hN ha hb
    by_cases hae : a = []
    · subst hae
      exact (by
        have ka : ∀ (R : Type) (H : Heap) (k : AV → Heap → Option R), polK pDec [.str []] H k = k (.tup [.int .i32 65533, .int .i64 0]) H := fun R H k => kDec ha
        by_cases hbe : b = []
        · subst hbe
          have e : lexR (rs []) (rs []) = 0 := rfl
          have eo : ordI 0 0 = 0 := rfl
          rw [e]
          exact LDoes.step (Evs.of fun n m => by simp [↓q00, ↓q01, ↓q04, ↓q03, q1i, ka, kCmpI, eo])
        · obtain ⟨d1, d2, d3, d4⟩ := dec_w hbe hb
          have kb : ∀ (R : Type) (H : Heap) (k : AV → Heap → Option R), polK pDec [.str b] H k = k (.tup [.int .i32 (decodeL b).1, .int .i64 (decodeL b).2]) H := fun R H k => by rw [kDec hb, d1]
          have e : lexR (rs []) (rs b) = -1 := by rw [q3u hbe]; rfl
          have eo : ordI 0 ((decodeL b).2 : Int) = -1 := by unfold ordI; rw [if_pos (by omega)]
          rw [e]
          generalize ((decodeL b).2 : Int) = m at *
          generalize ((decodeL b).1 : Int) = r at *
          exact LDoes.step (Evs.of fun n m => by simp [↓q00, ↓q01, ↓q04, ↓q03, q1i, ka, kb, kCmpI, eo]))
    obtain ⟨c1, c2, c3, c4⟩ := dec_w hae ha
    have ka : ∀ (R : Type) (H : Heap) (k : AV → Heap → Option R), polK pDec [.str a] H k = k (.tup [.int .i32 (decodeL a).1, .int .i64 (decodeL a).2]) H := fun R H k => by rw [kDec ha, c1]
    have ia : ¬ ((decodeL a).2 : Int) = 0 := by omega
    by_cases hbe : b = []
    · subst hbe
      have kb : ∀ (R : Type) (H : Heap) (k : AV → Heap → Option R), polK pDec [.str []] H k = k (.tup [.int .i32 65533, .int .i64 0]) H := fun R H k => kDec hb
      have e : lexR (rs a) (rs []) = 1 := by rw [q3u hae]; rfl
      have eo : ordI ((decodeL a).2 : Int) 0 = 1 := by unfold ordI; rw [if_neg (by omega), if_pos (by omega)]
      rw [e]
      generalize ((decodeL a).2 : Int) = m at *
      generalize ((decodeL a).1 : Int) = r at *
      exact LDoes.step (Evs.of fun n m => by simp [↓q00, ↓q01, ↓q04, ↓q03, q1i, ka, kb, ia, kCmpI, eo])
    obtain ⟨d1, d2, d3, d4⟩ := dec_w hbe hb
    have kb : ∀ (R : Type) (H : Heap) (k : AV → Heap → Option R), polK pDec [.str b] H k = k (.tup [.int .i32 (decodeL b).1, .int .i64 (decodeL b).2]) H := fun R H k => by rw [kDec hb, d1]
    have ib : ¬ ((decodeL b).2 : Int) = 0 := by omega
    rw [q3u hae, q3u hbe]
    by_cases hr : (decodeL a).1 = (decodeL b).1
    · have e : lexR ((decodeL a).1 :: rs (a.drop (decodeL a).2)) ((decodeL b).1 :: rs (b.drop (decodeL b).2)) = lexR (rs (a.drop (decodeL a).2)) (rs (b.drop (decodeL b).2)) := by
        show (if (decodeL a).1 < (decodeL b).1 then (-1 : Int) else if (decodeL b).1 < (decodeL a).1 then 1 else lexR (rs (a.drop (decodeL a).2)) (rs (b.drop (decodeL b).2))) = _
        rw [if_neg (by omega), if_neg (by omega)]
      rw [e]
      have sa := q13 (s := a) (k := .i64) c3
      have sb := q13 (s := b) (k := .i64) d3
      have hL := ih (a.drop (decodeL a).2) (b.drop (decodeL b).2) H (by rw [List.length_drop]; omega) c4 d4
      have hri : ((decodeL a).1 : Int) = ((decodeL b).1 : Int) := by rw [hr]
      refine LDoes.step (Evs.withL hL (Evs.of fun n m _ h2 => ?_))
      generalize a.drop (decodeL a).2 = a' at *
      generalize b.drop (decodeL b).2 = b' at *
      generalize ((decodeL a).2 : Int) = wa at *
      generalize ((decodeL b).2 : Int) = wb at *
      generalize ((decodeL a).1 : Int) = ra at *
      generalize ((decodeL b).1 : Int) = rb at *
      simp [↓q00, ↓q01, ↓q04, ↓q03, q1i, ka, kb, ia, ib, hri, sa, sb, h2]
    · have e : lexR ((decodeL a).1 :: rs (a.drop (decodeL a).2)) ((decodeL b).1 :: rs (b.drop (decodeL b).2)) = ordI ((decodeL a).1 : Int) ((decodeL b).1 : Int) := by
        unfold lexR ordI
        by_cases h1 : (decodeL a).1 < (decodeL b).1
        · rw [if_pos h1, if_pos (by omega)]
        · rw [if_neg h1, if_pos (by omega), if_neg (by omega), if_pos (by omega)]
      rw [e]
      have hri : ¬ ((decodeL a).1 : Int) = ((decodeL b).1 : Int) := by omega
      generalize ((decodeL a).2 : Int) = wa at *
      generalize ((decodeL b).2 : Int) = wb at *
      generalize ((decodeL a).1 : Int) = ra at *
      generalize ((decodeL b).1 : Int) = rb at *
      exact LDoes.step (Evs.of fun n m => by simp [↓q00, ↓q01, ↓q04, ↓q03, q1i, ka, kb, ia, ib, hri, kCmpR])
noncomputable def pLess : Pol := .still (p2 cS cS (.int .i64) (fun _ _ => True) lessR)
theorem okLess : PolOK base 101 pLess := still2 base_ok TLess ⟨okTvalid, okCmpS, okDec, okCmpI, okCmpR, trivial⟩ fun a b _ => by
  unfold lessR
  cases ha : validD a
  · rw [if_neg (by simp)]
    exact Evs.of fun n m => by simp [↓q00, ↓q05, ↓q01, ↓q04, ↓q03, S101, qf4, ha, kCmpS]
  · cases hb : validD b
    · rw [if_neg (by simp)]
      exact Evs.of fun n m => by simp [↓q00, ↓q05, ↓q01, ↓q04, ↓q03, S101, qf4, ha, hb, kCmpS]
    · rw [if_pos (by simp)]
      refine Evs.withL (less_loop _ a b [] (Nat.le_refl _) ha hb) (Evs.of fun n m h1 _ => ?_)
      generalize lexR (rs a) (rs b) = x at *
      simp [↓q00, ↓q05, ↓q01, ↓q04, ↓q03, ↓q06, S101, qf4, ha, hb, h1]
theorem kLess {R : Type} {a b : List UInt8} {H : Heap} {k : AV → Heap → Option R} : polK pLess [.str a, .str b] H k = k (.int .i64 (lessR a b)) H := by
  simp [pLess, q0b]
end Go.Proofs.YtleikacgncpfbaaDoor

/- Texts, the reference: which is less. -/
set_option maxRecDepth 100000
set_option maxHeartbeats 8000000
namespace Go.Proofs.YtleikacgncpfbaaDoor
open Go Go.Den Go.Lib
def diffR : List Nat → List Nat → Option Int
  | x :: p, y :: q => if x = y then diffR p q else some (ordI x y)
  | _, _ => none
theorem ord_succ (a b : Nat) : ordI ((a + 1 : Nat) : Int) ((b + 1 : Nat) : Int) = ordI a b := by
  unfold ordI
  repeat' split
  all_goals first | rfl | omega
theorem qbu : ∀ a b : List Nat, lexR a b = (diffR a b).getD (ordI a.length b.length)
  | [], [] => rfl
  | [], _ :: q => by
    show (-1 : Int) = ordI ((0 : Nat) : Int) ((q.length + 1 : Nat) : Int)
    unfold ordI
    rw [if_pos (by omega)]
  | _ :: p, [] => by
    show (1 : Int) = ordI ((p.length + 1 : Nat) : Int) ((0 : Nat) : Int)
    unfold ordI
    rw [if_neg (by omega), if_pos (by omega)]
  | x :: p, y :: q => by
    show (if x < y then (-1 : Int) else if y < x then 1 else lexR p q) = (if x = y then diffR p q else some (ordI x y)).getD (ordI ((p.length + 1 : Nat) : Int) ((q.length + 1 : Nat) : Int))
    by_cases e : x = y
    · rw [if_pos e, if_neg (by omega), if_neg (by omega), qbu p q, ord_succ]
    · rw [if_neg e, Option.getD_some]
      unfold ordI
      by_cases h1 : x < y
      · rw [if_pos h1, if_pos (by omega)]
      · rw [if_neg h1, if_pos (by omega), if_neg (by omega), if_pos (by omega)]
noncomputable def pOrd : Pol := .still (p2 (cI .i64) (cI .i64) (.int .i64) (fun _ _ => True) ordI)
theorem okOrd : PolOK base 64 pOrd := still2 base_ok [] trivial fun x y _ => by
  unfold ordI
  by_cases h1 : x < y
  · exact Evs.of fun n m => by simp [↓q00, ↓q01, S64, h1]
  · by_cases h2 : y < x
    · exact Evs.of fun n m => by simp [↓q00, ↓q01, S64, h1, h2]
    · exact Evs.of fun n m => by simp [↓q00, ↓q01, S64, h1, h2]
theorem kOrd {R : Type} {x y : Int} {H : Heap} {k : AV → Heap → Option R} : polK pOrd [.int .i64 x, .int .i64 y] H k = k (.int .i64 (ordI x y)) H := by
  simp [pOrd, q0b]
theorem qOrd {R : Type} {x y : Int} {H : Heap} {k : AV → Heap → Option R} : polQ pOrd [.int .i64 x, .int .i64 y] H k = k (.int .i64 (ordI x y)) H := by
  simp [pOrd, q29]
theorem cv_8_i64 (n : Int) (j : IntKind) : Go.Den.convert base 5 2 (.int j n) = some (.int .i64 (IntKind.wrap .i64 n)) := q4t (x := .int .u8) (by kernel_rfl) (by kernel_rfl)
theorem qiy (n : Int) (j : IntKind) : Go.Den.convert base 21 2 (.int j n) = some (.int .i64 (IntKind.wrap .i64 n)) := q4t (x := .int .i32) (by kernel_rfl) (by kernel_rfl)
/-! ### byte by byte -/
def cBy : Cd (Option (List UInt8)) := ⟨eL 1 eb, fun a b h => qeu (fun l m _ _ hm => q88 (fun a b => eb_inj) hm) h, fun a => by cases a <;> rfl⟩
@[simp] theorem enc_cBy {a : Option (List UInt8)} : cBy.enc a = eL 1 eb a := id rfl
@[simp] theorem dec_cBy {a : Option (List UInt8)} : cBy.dec (eL 1 eb a) = some a := cBy.dec_enc a
theorem q71 (l : List UInt8) : ∀ v ∈ l.map eb, v.flat0 = true ∧ v.isDef = true := fun v hv => by
  obtain ⟨x, -, rfl⟩ := List.mem_map.1 hv
  exact ⟨rfl, rfl⟩
noncomputable abbrev TOrd : List (FuncId × Pol) := [(64, pOrd)]
theorem qdw (l : List UInt8) {i : Nat} (h : i < l.length) : (nums l).drop i = (l[i]).toNat :: (nums l).drop (i + 1) := by
  have hn : i < (nums l).length := by simpa [nums] using h
  rw [List.drop_eq_getElem_cons hn]
  simp [nums]
theorem byw_loop {a b : Option (List UInt8)} (h : (a.getD []).length ≤ 1000000) (H : Heap) : ∀ (k i : Nat), i + k = (a.getD []).length →
    LDoes (L67_0 (polT TOrd)) ⟨[eL 1 eb a, eL 1 eb b, .int .i64 (i : Int)], []⟩ H (if (diffR ((nums (a.getD [])).drop i) ((nums (b.getD [])).drop i)).isNone then 0 else 1) ⟨[eL 1 eb a, eL 1 eb b, ((diffR ((nums (a.getD [])).drop i) ((nums (b.getD [])).drop i)).map (AV.int .i64)).getD .undef], []⟩ H := by
  have l1 : A.len (eL 1 eb a) H = some (.int .i64 ((a.getD []).length : Int)) := q08
  have l2 : A.len (eL 1 eb b) H = some (.int .i64 ((b.getD []).length : Int)) := q08
  intro k
  induction k with
  | zero =>
    intro i hi
    have : i = (a.getD []).length := by omega
    subst this
    have e : (nums (a.getD [])).drop (a.getD []).length = [] := List.drop_of_length_le (by simp [nums])
    rw [e]
    refine LDoes.step (Evs.of fun n m => ?_)
    generalize ((a.getD []).length : Int) = N at *
    simp [-q08, q4n, l1, diffR]
  | succ k ih =>
    intro i hi
    have hlt : i < (a.getD []).length := by omega
    have hlt' : (i : Int) < ((a.getD []).length : Int) := by omega
    by_cases hb : i < (b.getD []).length
    · have hb' : (i : Int) < ((b.getD []).length : Int) := by omega
      have x1 : A.idx 1 (eL 1 eb a) (.int .i64 (i : Int)) H = some (.rop [.int .u8 ((a.getD [])[i]).toNat]) := q33 (sz := 1) (e := eb) (o := a) (H := H) (k := .i64) (i := i) hlt
      have x2 : A.idx 1 (eL 1 eb b) (.int .i64 (i : Int)) H = some (.rop [.int .u8 ((b.getD [])[i]).toNat]) := q33 (sz := 1) (e := eb) (o := b) (H := H) (k := .i64) (i := i) hb
      rw [qdw _ hlt, qdw _ hb]
      have za := ((a.getD [])[i]).toNat_lt
      have zb := ((b.getD [])[i]).toNat_lt
      have hL := ih (i + 1) (by omega)
      simp only [Int.natCast_add, Int.natCast_one] at hL
      generalize ((a.getD [])[i]).toNat = x at *
      generalize ((b.getD [])[i]).toNat = y at *
      generalize (nums (a.getD [])).drop (i + 1) = p at *
      generalize (nums (b.getD [])).drop (i + 1) = q at *
      have ed : diffR (x :: p) (y :: q) = if x = y then diffR p q else some (ordI x y) := rfl
      rw [ed]
      by_cases e : x = y
      · rw [if_pos e]
        have hi1 : IntKind.wrap .i64 ((i : Int) + 1) = (i : Int) + 1 := q0f (by omega) (by omega)
        have ei : (x : Int) = (y : Int) := by omega
        refine LDoes.step (Evs.withL hL (Evs.of fun n m _ h3 => ?_))
        generalize (x : Int) = xi at *
        generalize (y : Int) = yi at *
        generalize ((a.getD []).length : Int) = N at *
        generalize ((b.getD []).length : Int) = M at *
        simp [-q08, q4n, l1, l2, hlt', hb', x1, x2, ei, hi1, h3]
      · rw [if_neg e]
        have ei : ¬ (x : Int) = (y : Int) := by omega
        have wx : IntKind.wrap .i64 (x : Int) = x := q0f (by omega) (by omega)
        have wy : IntKind.wrap .i64 (y : Int) = y := q0f (by omega) (by omega)
        refine LDoes.step (Evs.of fun n m => ?_)
        generalize (x : Int) = xi at *
        generalize (y : Int) = yi at *
        generalize ((a.getD []).length : Int) = N at *
        generalize ((b.getD []).length : Int) = M at *
        simp [-q08, q4n, l1, l2, hlt', hb', x1, x2, ei, cv_8_i64, wx, wy, qOrd]
    · have hb' : ¬ (i : Int) < ((b.getD []).length : Int) := by omega
      have e : (nums (b.getD [])).drop i = [] := List.drop_of_length_le (by simp [nums]; omega)
      rw [e]
      have ed : diffR ((nums (a.getD [])).drop i) [] = none := by
        cases (nums (a.getD [])).drop i <;> rfl
      rw [ed]
      refine LDoes.step (Evs.of fun n m => ?_)
      generalize ((a.getD []).length : Int) = N at *
      generalize ((b.getD []).length : Int) = M at *
      simp [-q08, q4n, l1, l2, hlt', hb']
def bywOk (a _ : Option (List UInt8)) : Prop := (a.getD []).length ≤ 1000000
noncomputable def pByw : Pol := .still (p2 cBy cBy (.int .i64) bywOk fun a b => lexR (nums (a.getD [])) (nums (b.getD [])))
theorem okByw : PolOK base 67 pByw := still2 base_ok TOrd ⟨okOrd, trivial⟩ fun a b h => by
  have hL := byw_loop (b := b) h [] (a.getD []).length 0 (by omega)
  rw [List.drop_zero, List.drop_zero] at hL
  have l1 : A.len (eL 1 eb a) [] = some (.int .i64 ((a.getD []).length : Int)) := q08
  have l2 : A.len (eL 1 eb b) [] = some (.int .i64 ((b.getD []).length : Int)) := q08
  have hn : ∀ l : List UInt8, (nums l).length = l.length := fun l => by simp [nums]
  rw [qbu, hn, hn]
  refine Evs.withL hL (Evs.of fun n m h1 _ => ?_)
  simp only [Int.natCast_zero] at h1
  generalize diffR (nums (a.getD [])) (nums (b.getD [])) = d at *
  generalize ((a.getD []).length : Int) = N at *
  generalize ((b.getD []).length : Int) = M at *
  cases d with
  | none => simp [↓q05, ↓q01, ↓q06, -q08, S67, h1, l1, l2, kOrd]
  | some v => simp [↓q05, ↓q06, -q08, S67, h1]
/-! ### sign by sign -/
theorem q7x : base.P.underlying 9 = some .string := by kernel_rfl
theorem ty_u8 : base.P.underlying 5 = some (.int .u8) := by kernel_rfl
theorem ty_i32 : base.P.underlying 21 = some (.int .i32) := by kernel_rfl
theorem qcq : base.P.underlying 98 = some (.slice 21) := by kernel_rfl
theorem q10 : base.P.underlying 24 = some (.slice 5) := by kernel_rfl
theorem qaj {R : Type} {s : List UInt8} (h : s.length ≤ 1000000) {H : Heap} {k : AV → Heap → Option R} : q0o base 9 24 (.str s) H k = k (.sl H.length 0 0 s.length s.length) (H ++ [.row 0 1 5 (s.map eb)]) := by
  have h1 : Go.Den.convert base 9 24 (.str s) = none := by
    unfold Go.Den.convert
    rw [q7x, q10]
  have h2 : convH base 9 24 (.str s) H = none := by
    unfold convH
    rw [q7x, q10]
  have h3 : convN base 9 24 (.str s) H = some (.sl H.length 0 0 s.length s.length, H ++ [.row 0 1 5 (s.map eb)]) := by
    unfold convN
    rw [q7x, q10]
    dsimp only
    rw [ty_u8]
    have : decide (s.length ≤ 140737488355328) = true := by simp; omega
    dsimp only
    rw [this]
    simp [A.newRow, A.strElems]
  unfold q0o
  rw [h1, h2, h3]
abbrev er (r : Nat) : AV := .int .i32 (r : Int)
theorem qak {R : Type} {s : List UInt8} (h : s.length ≤ 1000000) {H : Heap} {k : AV → Heap → Option R} : q0o base 9 98 (.str s) H k = k (.sl H.length 0 0 (rs s).length (rs s).length) (H ++ [.row 0 1 21 ((rs s).map er)]) := by
  have h1 : Go.Den.convert base 9 98 (.str s) = none := by
    unfold Go.Den.convert
    rw [q7x, qcq]
  have h2 : convH base 9 98 (.str s) H = none := by
    unfold convH
    rw [q7x, qcq]
  have hr : (runeL ⟨s.toArray⟩ s.length 0).map (AV.int .i32) = (rs s).map er := by
    rw [qh3 s s.length 0 (by simp), List.drop_zero, List.map_map]
    rfl
  have h3 : convN base 9 98 (.str s) H = some (.sl H.length 0 0 (rs s).length (rs s).length, H ++ [.row 0 1 21 ((rs s).map er)]) := by
    unfold convN
    rw [q7x, qcq]
    dsimp only
    rw [ty_i32]
    have : decide (s.length ≤ 70368744177664) = true := by simp; omega
    dsimp only
    rw [this, hr]
    simp [A.newRow]
  unfold q0o
  rw [h1, h2, h3]
noncomputable abbrev TRless : List (FuncId × Pol) := [(80, q2k), (67, pByw), (64, pOrd)]
theorem qi5 {X Y : List Nat} {H : Heap} (h0 : H[0]? = some (.row 0 1 21 (X.map er))) (h1 : H[1]? = some (.row 0 1 21 (Y.map er))) (hl : X.length ≤ 1000000) (hx : ∀ r ∈ X, r ≤ 1114111) (hy : ∀ r ∈ Y, r ≤ 1114111) : ∀ (k i : Nat), i + k = X.length →
    LDoes (L66_0 (polT TRless)) ⟨[.sl 0 0 0 X.length X.length, .sl 1 0 0 Y.length Y.length, .int .i64 (i : Int)], []⟩ H (if (diffR (X.drop i) (Y.drop i)).isNone then 0 else 1) ⟨[((diffR (X.drop i) (Y.drop i)).map (AV.int .i64)).getD .undef, .sl 0 0 0 X.length X.length, .sl 1 0 0 Y.length Y.length], []⟩ H := by
  have l0 : A.len (.sl 0 0 0 X.length X.length) H = some (.int .i64 (X.length : Int)) := by simp [A.len, A.alive, h0]
  have l1 : A.len (.sl 1 0 0 Y.length Y.length) H = some (.int .i64 (Y.length : Int)) := by simp [A.len, A.alive, h1]
  intro k
  induction k with
  | zero =>
    intro i hi
    have : i = X.length := by omega
    subst this
    rw [List.drop_length]
    refine LDoes.step (Evs.of fun n m => ?_)
    generalize (X.length : Int) = N at *
    simp [↓q00, ↓q01, ↓q04, ↓q03, q4m, l0, diffR]
  | succ k ih =>
    intro i hi
    have hlt : i < X.length := by omega
    have hlt' : (i : Int) < (X.length : Int) := by omega
    by_cases hb : i < Y.length
    · have hb' : (i : Int) < (Y.length : Int) := by omega
      have x0 : A.idx 1 (.sl 0 0 0 X.length X.length) (.int .i64 (i : Int)) H = some (.ptr 0 0 i 0) := by
        have := q5k (cap := X.length) (off := 0) (k := .i64) h0 (i := (i : Int)) (n := X.length) (by omega) hlt'
        simpa using this
      have x1 : A.idx 1 (.sl 1 0 0 Y.length Y.length) (.int .i64 (i : Int)) H = some (.ptr 1 0 i 0) := by
        have := q5k (cap := Y.length) (off := 0) (k := .i64) h1 (i := (i : Int)) (n := Y.length) (by omega) hb'
        simpa using this
      have y0 : A.load false 1 (.ptr 0 0 i 0) H = some (.int .i32 (X[i] : Nat)) := qcg h0 (by simp [hlt]) rfl
      have y1 : A.load false 1 (.ptr 1 0 i 0) H = some (.int .i32 (Y[i] : Nat)) := qcg h1 (by simp [hb]) rfl
      rw [List.drop_eq_getElem_cons hlt, List.drop_eq_getElem_cons hb]
      have zx := hx _ (List.getElem_mem hlt)
      have zy := hy _ (List.getElem_mem hb)
      have hL := ih (i + 1) (by omega)
      simp only [Int.natCast_add, Int.natCast_one] at hL
      generalize X[i] = x at *
      generalize Y[i] = y at *
      generalize X.drop (i + 1) = p at *
      generalize Y.drop (i + 1) = q at *
      have ed : diffR (x :: p) (y :: q) = if x = y then diffR p q else some (ordI x y) := rfl
      rw [ed]
      by_cases e : x = y
      · rw [if_pos e]
        have hi1 : IntKind.wrap .i64 ((i : Int) + 1) = (i : Int) + 1 := q0f (by omega) (by omega)
        have ei : (x : Int) = (y : Int) := by omega
        refine LDoes.step (Evs.withL hL (Evs.of fun n m _ h3 => ?_))
        generalize (x : Int) = xi at *
        generalize (y : Int) = yi at *
        generalize (X.length : Int) = N at *
        generalize (Y.length : Int) = M at *
        simp [↓q00, ↓q01, ↓q04, ↓q03, q4m, l0, l1, hlt', hb', x0, x1, y0, y1, ei, hi1, h3]
      · rw [if_neg e]
        have ei : ¬ (x : Int) = (y : Int) := by omega
        have wx : IntKind.wrap .i64 (x : Int) = x := q0f (by omega) (by omega)
        have wy : IntKind.wrap .i64 (y : Int) = y := q0f (by omega) (by omega)
        refine LDoes.step (Evs.of fun n m => ?_)
        generalize (x : Int) = xi at *
        generalize (y : Int) = yi at *
        generalize (X.length : Int) = N at *
        generalize (Y.length : Int) = M at *
        simp [↓q00, ↓q01, ↓q04, ↓q03, q4m, l0, l1, hlt', hb', x0, x1, y0, y1, ei, qiy, wx, wy, qOrd]
    · have hb' : ¬ (i : Int) < (Y.length : Int) := by omega
      have e : Y.drop i = [] := List.drop_of_length_le (by omega)
      rw [e]
      have ed : diffR (X.drop i) [] = none := by cases X.drop i <;> rfl
      rw [ed]
      refine LDoes.step (Evs.of fun n m => ?_)
      generalize (X.length : Int) = N at *
      generalize (Y.length : Int) = M at *
      simp [↓q00, ↓q01, ↓q04, ↓q03, q4m, l0, l1, hlt', hb']
theorem scal_le {r : Nat} (h : scal r) : r ≤ 1114111 := by unfold scal at h; omega
def lessOk (a b : List UInt8) : Prop := q1m a ∧ q1m b
noncomputable def pRless : Pol := .still (p2 cS cS (.int .i64) lessOk lessR)
theorem okRless : PolOK base 66 pRless := still2 base_ok TRless ⟨qc2, okByw, okOrd, trivial⟩ fun a b ⟨hna, hnb⟩ => by
  unfold q1m at hna hnb
  have c1 : ∀ (R : Type) (H : Heap) (k : AV → Heap → Option R), q0o base 9 24 (.str a) H k = k (.sl H.length 0 0 a.length a.length) (H ++ [.row 0 1 5 (a.map eb)]) := fun R H k => qaj hna
  have c2 : ∀ (R : Type) (H : Heap) (k : AV → Heap → Option R), q0o base 9 24 (.str b) H k = k (.sl H.length 0 0 b.length b.length) (H ++ [.row 0 1 5 (b.map eb)]) := fun R H k => qaj hnb
  have hby : ∀ (R : Type) (k : AV → Heap → Option R), polK pByw [.sl 0 0 0 a.length a.length, .sl 1 0 0 b.length b.length] [.row 0 1 5 (a.map eb), .row 0 1 5 (b.map eb)] k = k (.int .i64 (lexR (nums a) (nums b))) [.row 0 1 5 (a.map eb), .row 0 1 5 (b.map eb)] := fun R k => by
    have hf0 : A.freezeB true 64 [.row 0 1 5 (a.map eb), .row 0 1 5 (b.map eb)] (.sl 0 0 0 a.length a.length) = some (eL 1 eb (some a)) := q1d (b := true) (m := 62) (es := a.map eb) rfl (by simp) (q71 _)
    have hf1 : A.freezeB true 64 [.row 0 1 5 (a.map eb), .row 0 1 5 (b.map eb)] (.sl 1 0 0 b.length b.length) = some (eL 1 eb (some b)) := q1d (b := true) (m := 62) (es := b.map eb) rfl (by simp) (q71 _)
    have hfa : q12 [.row 0 1 5 (a.map eb), .row 0 1 5 (b.map eb)] [.sl 0 0 0 a.length a.length, .sl 1 0 0 b.length b.length] = some [eL 1 eb (some a), eL 1 eb (some b)] := q1a hf0 (q1a hf1 rfl)
    have hsb : bywOk (some a) (some b) := hna
    unfold pByw
    rw [qcc hfa]
    simp [hsb]
    rfl
  unfold lessR
  cases ha : validD a
  · rw [if_neg (by simp)]
    exact Evs.of fun n m => by simp [↓q00, ↓q05, ↓q01, ↓q04, ↓q03, S66, q39, ha, c1, c2, hby]
  cases hb : validD b
  · rw [if_neg (by simp)]
    exact Evs.of fun n m => by simp [↓q00, ↓q05, ↓q01, ↓q04, ↓q03, S66, q39, ha, hb, c1, c2, hby]
  · rw [if_pos (by simp)]
    have sa := (q3l _ a (Nat.le_refl _) ha).2
    have sb := (q3l _ b (Nat.le_refl _) hb).2
    have la := rs_len _ a (Nat.le_refl _)
    have d1 : ∀ (R : Type) (H : Heap) (k : AV → Heap → Option R), q0o base 9 98 (.str a) H k = k (.sl H.length 0 0 (rs a).length (rs a).length) (H ++ [.row 0 1 21 ((rs a).map er)]) := fun R H k => qak hna
    have d2 : ∀ (R : Type) (H : Heap) (k : AV → Heap → Option R), q0o base 9 98 (.str b) H k = k (.sl H.length 0 0 (rs b).length (rs b).length) (H ++ [.row 0 1 21 ((rs b).map er)]) := fun R H k => qak hnb
    have hL := qi5 (X := rs a) (Y := rs b) (H := [.row 0 1 21 ((rs a).map er), .row 0 1 21 ((rs b).map er)]) rfl rfl (by omega) (fun r hr => scal_le (sa r hr)) (fun r hr => scal_le (sb r hr)) (rs a).length 0 (by omega)
    rw [List.drop_zero, List.drop_zero] at hL
    have l0 : A.len (.sl 0 0 0 (rs a).length (rs a).length) [.row 0 1 21 ((rs a).map er), .row 0 1 21 ((rs b).map er)] = some (.int .i64 ((rs a).length : Int)) := rfl
    have l1 : A.len (.sl 1 0 0 (rs b).length (rs b).length) [.row 0 1 21 ((rs a).map er), .row 0 1 21 ((rs b).map er)] = some (.int .i64 ((rs b).length : Int)) := rfl
    rw [qbu]
    refine Evs.withL hL (Evs.of fun n m h1 _ => ?_)
    simp only [Int.natCast_zero] at h1
    generalize diffR (rs a) (rs b) = d at *
    generalize ((rs a).length : Int) = N at *
    generalize ((rs b).length : Int) = M at *
    cases d with
    | none => simp [↓q00, ↓q05, ↓q01, ↓q04, ↓q03, ↓q06, S66, q39, ha, hb, d1, d2, h1, l0, l1, kOrd]
    | some v => simp [↓q00, ↓q05, ↓q01, ↓q04, ↓q03, ↓q06, S66, q39, ha, hb, d1, d2, h1]
theorem kRless {R : Type} {a b : List UInt8} (h : lessOk a b) {H : Heap} {k : AV → Heap → Option R} : polK pRless [.str a, .str b] H k = k (.int .i64 (lessR a b)) H := by
  simp [pRless, q0b, h]
end Go.Proofs.YtleikacgncpfbaaDoor

/- How many signs a text has, by the reference. -/
set_option maxRecDepth 100000
set_option maxHeartbeats 8000000
namespace Go.Proofs.YtleikacgncpfbaaDoor
open Go Go.Den Go.Lib
theorem qhl {pol : FuncId → Pol} {l : List UInt8} {id : Nat} : ∀ (N pos : Nat) (c : Int) (H : Heap), l.length - pos ≤ N → H[id]? = some (.iter l pos) → 0 ≤ c → c + N ≤ 1000000000 →
    ∃ H', LDoes (L81_0 pol) ⟨[.int .i64 c, .it id], []⟩ H 0 ⟨[.int .i64 (c + (rs (l.drop pos)).length)], []⟩ H' := by
  intro N
  induction N with
  | zero =>
    intro pos c H hN hH h0 h1
    have hp : ¬ pos < l.length := by omega
    have hd : l.drop pos = [] := List.drop_of_length_le (by omega)
    rw [hd]
    refine ⟨H, LDoes.step (Evs.of fun n m => ?_)⟩
    simp [↓q00, ↓q01, q6s, nextK, hH, hp, rs_nil]
  | succ N ih =>
    intro pos c H hN hH h0 h1
    by_cases hp : pos < l.length
    · have hne := drop_ne hp
      have hw := decodeL_width (l.drop pos)
      have hid : id < H.length := (List.getElem?_eq_some_iff.1 hH).1
      obtain ⟨H', hL⟩ := ih (pos + (decodeL (l.drop pos)).2) (c + 1) (H.set id (.iter l (pos + (decodeL (l.drop pos)).2))) (by omega) (List.getElem?_set_self hid) (by omega) (by omega)
      have hc : IntKind.wrap .i64 (c + 1) = c + 1 := q0f (by omega) (by omega)
      have e : c + ((rs (l.drop pos)).length : Int) = c + 1 + ((rs (l.drop (pos + (decodeL (l.drop pos)).2))).length : Int) := by
        rw [q3u hne, List.drop_drop, List.length_cons]
        omega
      rw [e]
      have hdd := drop_dec l pos
      generalize decodeL (l.drop pos) = d at *
      refine ⟨H', LDoes.step (Evs.withL hL (Evs.of fun n m _ h2 => ?_))⟩
      simp [↓q00, ↓q01, q6s, nextK, hH, hp, hdd, hc, h2]
    · have hd : l.drop pos = [] := List.drop_of_length_le (by omega)
      rw [hd]
      refine ⟨H, LDoes.step (Evs.of fun n m => ?_)⟩
      simp [↓q00, ↓q01, q6s, nextK, hH, hp, rs_nil]
noncomputable def q3s : Pol := .still (p1 cS (.int .i64) q1m countR)
theorem okRcount : PolOK base 81 q3s := still1 base_ok [(80, q2k)] ⟨qc2, trivial⟩ fun s hs => by
  unfold q1m at hs
  obtain ⟨H', hL⟩ := qhl (pol := polT [(80, q2k)]) (l := s) (id := 0) s.length 0 0 [.iter s 0] (by omega) rfl (by omega) (by omega)
  refine Evs.withL hL (Evs.of fun n m h1 _ => ?_)
  simp only [Int.zero_add, List.drop_zero] at h1
  unfold countR
  generalize ((rs s).length : Int) = N at *
  cases h : validD s <;> simp [↓q00, ↓q05, ↓q01, ↓q06, S81, q39, h, rangeK, h1]
theorem q95 {R : Type} {s : List UInt8} (h : q1m s) {H : Heap} {k : AV → Heap → Option R} : polK q3s [.str s] H k = k (.int .i64 (countR s)) H := by
  simp [q3s, q0b, h]
theorem countR_valid {s : List UInt8} : (0 ≤ countR s ↔ validD s = true) := by
  unfold countR
  cases validD s
  · simp
  · simp
end Go.Proofs.YtleikacgncpfbaaDoor

/- Terms: may one be, but for what is in it. -/
set_option maxRecDepth 100000
set_option maxHeartbeats 4000000
namespace Go.Proofs.YtleikacgncpfbaaDoor
open Go Go.Den
def shortOne (t : Tm) : Prop := (t.d.getD []).length ≤ 1000000 ∧ t.name.length ≤ 1000000
noncomputable def pOne : Pol := .still (p1 cT .bool shortOne (oneS countR))
end Go.Proofs.YtleikacgncpfbaaDoor

/- Terms: may one be: a round. -/
set_option maxRecDepth 100000
set_option maxHeartbeats 4000000
namespace Go.Proofs.YtleikacgncpfbaaDoor
open Go Go.Den
noncomputable abbrev TMay1 : List (FuncId × Pol) := [(75, pParts), (56, pOne)]
noncomputable def pWalkMay : Pol := .prim (runF base TMay1 77)
noncomputable def LDm (t : Tm) : LoopD := LD17 (eT t) (.ptr 0 0 0 0) (.ptr 1 0 0 0) (eT t) (.fn (.func 77) [] [.ptr 2 0 0 0])
def okM (_ : Nat) (x : Tm) : Bool := decide ((x.d.getD []).length ≤ 1000000) && decide (x.name.length ≤ 1000000)
noncomputable def goM (s : Nat) (x : Tm) : Bool := decide (s + 1 ≤ 65536) && oneS countR x
def InvM (t : Tm) (s : Nat) (H : Heap) : Prop := s ≤ 65536 ∧ H[0]? = some (.row 0 1 4 [.bool false]) ∧ H[1]? = some (.row 0 1 3 [.int .i64 (s : Int)]) ∧ H[3]? = some (.loop (LDm t))
def FinM (t : Tm) (_ : Nat) (H : Heap) : Prop := H[0]? = some (.row 0 1 4 [.bool false]) ∧ H[3]? = some (.loop { LDm t with state := 2, pending := some .ret })
end Go.Proofs.YtleikacgncpfbaaDoor

/- Terms: may one be: the entry. -/
set_option maxRecDepth 100000
set_option maxHeartbeats 4000000
namespace Go.Proofs.YtleikacgncpfbaaDoor
open Go Go.Den
noncomputable def mayS (t : Tm) : Bool := decide (szT t ≤ 65536) && mayT countR t
noncomputable def pMay : Pol := .still (p1 cT .bool tame mayS)
end Go.Proofs.YtleikacgncpfbaaDoor

/- Any two terms: which is less. What is compared; that it is an order. -/
set_option maxRecDepth 100000
set_option maxHeartbeats 4000000
namespace Go.Proofs.YtleikacgncpfbaaDoor
open Go Go.Den Go.Lib
noncomputable def oneT (a b : Tm) : Int :=
  if a.kind ≠ b.kind then ordI a.kind b.kind
  else if a.kind = 0 then cmpI (toI (a.neg, a.d)) (toI (b.neg, b.d))
  else if a.kind = 1 then lessR a.name b.name
  else if a.kind = 2 ∨ a.kind = 3 then ordI a.n b.n
  else if a.kind = 4 ∨ a.kind = 6 then ordI (a.kids.length : Int) (b.kids.length : Int)
  else if a.kind = 7 then lexR (nums (a.b.getD [])) (nums (b.b.getD []))
  else 0
mutual
noncomputable def cmpT : Tm → Tm → Int
  | .mk k x d s n l b, u => if oneT (.mk k x d s n l b) u ≠ 0 then oneT (.mk k x d s n l b) u else if k = 4 ∨ k = 6 then cmpTo l u.kids else 0
noncomputable def cmpTo : Option (List Tm) → List Tm → Int
  | none, _ => 0
  | some l, m => cmpTs l m
noncomputable def cmpTs : List Tm → List Tm → Int
  | [], _ => 0
  | t :: l, m => match m with
    | [] => 0
    | u :: m => if cmpT t u ≠ 0 then cmpT t u else cmpTs l m
end
theorem qis (o : Option (List Tm)) (m : List Tm) : cmpTo o m = cmpTs (o.getD []) m := by
  cases o with
  | none => simp [cmpTo, cmpTs]
  | some l => rw [cmpTo]; rfl
theorem q2s (a b : Tm) : cmpT a b = if oneT a b ≠ 0 then oneT a b else if a.kind = 4 ∨ a.kind = 6 then cmpTs a.kids b.kids else 0 := by
  cases a
  rw [cmpT, qis]
  rfl
theorem q1u (m : List Tm) : cmpTs [] m = 0 := by rw [cmpTs]
theorem q1z (l : List Tm) : cmpTs l [] = 0 := by cases l <;> rw [cmpTs]
theorem q18 (t u : Tm) (l m : List Tm) : cmpTs (t :: l) (u :: m) = if cmpT t u ≠ 0 then cmpT t u else cmpTs l m := by rw [cmpTs]
theorem q8a (x y : Int) : ordI y x = -ordI x y := qd5 x y
theorem ord_zero {x y : Int} : ordI x y = 0 ↔ x = y := cmpI_eq
theorem q35 (x : Int) : ordI x x = 0 := ord_zero.2 rfl
theorem q69 {x y z : Int} (h : ordI x y ≤ 0) (g : ordI y z ≤ 0) : ordI x z ≤ 0 := by
  unfold ordI at *
  split at h <;> (try split at h) <;> split at g <;> (try split at g) <;> split <;> (try split) <;> omega
theorem qgs (a b : Tm) : oneT b a = -oneT a b := by
  unfold oneT
  by_cases h : a.kind = b.kind
  · have n1 : ¬ b.kind ≠ a.kind := fun g => g h.symm
    have n2 : ¬ a.kind ≠ b.kind := fun g => g h
    rw [if_neg n1, if_neg n2, ← h]
    split
    · exact qd5 _ _
    split
    · exact less_anti _ _
    split
    · exact q8a _ _
    split
    · exact q8a _ _
    split
    · exact q86 _ _
    · rfl
  · rw [if_pos (fun e => h e.symm), if_pos h]
    exact q8a _ _
theorem q3q {a b : Tm} (h : oneT a b = 0) : a.kind = b.kind := by
  apply Classical.byContradiction
  intro hn
  unfold oneT at h
  rw [if_pos hn] at h
  exact hn (ord_zero.1 h)
theorem q9f {a b : Tm} (h : oneT a b = 0) (hk : a.kind = 4 ∨ a.kind = 6) : a.kids.length = b.kids.length := by
  have e := q3q h
  unfold oneT at h
  have n1 : ¬ a.kind ≠ b.kind := fun g => g e
  have n2 : ¬ a.kind = 0 := by omega
  have n3 : ¬ a.kind = 1 := by omega
  have n4 : ¬ (a.kind = 2 ∨ a.kind = 3) := by omega
  rw [if_neg n1, if_neg n2, if_neg n3, if_neg n4, if_pos hk] at h
  have := ord_zero.1 h
  omega
mutual
theorem q82 : ∀ a b : Tm, cmpT b a = -cmpT a b
  | .mk k x d s n l b, u => by
    have e := qgs (.mk k x d s n l b) u
    rw [q2s u, q2s _ u]
    by_cases h : oneT (.mk k x d s n l b) u = 0
    · have hk := q3q h
      have n1 : ¬ oneT u (.mk k x d s n l b) ≠ 0 := fun g => g (by omega)
      have n2 : ¬ oneT (.mk k x d s n l b) u ≠ 0 := fun g => g h
      rw [if_neg n1, if_neg n2, ← hk]
      split
      · cases l with
        | none =>
          show cmpTs u.kids [] = -cmpTs [] u.kids
          rw [q1u, q1z]
          rfl
        | some l => exact qd8 l u.kids
      · rfl
    · rw [if_pos (by omega), if_pos h]
      exact e
theorem qd8 : ∀ l m : List Tm, cmpTs m l = -cmpTs l m
  | [], m => by rw [q1u, q1z]; rfl
  | t :: l, [] => by rw [q1u, q1z]; rfl
  | t :: l, u :: m => by
    have h1 := q82 t u
    have h2 := qd8 l m
    rw [q18, q18]
    split <;> split <;> omega
end
theorem cmp_self (a : Tm) : cmpT a a = 0 := by
  have := q82 a a
  omega
end Go.Proofs.YtleikacgncpfbaaDoor

/- Numbers of any size: which is less, by the reference. -/
set_option maxRecDepth 100000
set_option maxHeartbeats 4000000
namespace Go.Proofs.YtleikacgncpfbaaDoor
open Go Go.Den
noncomputable def pOrder : Pol := .still (p2 (cI .i64) (cI .i64) (.int .i64) (fun _ _ => True) cmpI)
theorem okOrder : PolOK base 64 pOrder := still2 base_ok [] trivial fun a b _ => Evs.of fun n m => by
  unfold cmpI
  by_cases h : a < b
  · simp [↓q00, ↓q01, S64, h]
  · by_cases h2 : b < a
    · simp [↓q00, ↓q01, S64, h, h2]
    · simp [↓q00, ↓q01, S64, h, h2]
theorem kOrder {R : Type} {a b : Int} {H : Heap} {k : AV → Heap → Option R} : polK pOrder [.int .i64 a, .int .i64 b] H k = k (.int .i64 (cmpI a b)) H := by
  simp [pOrder, q0b]
theorem qOrder {R : Type} {a b : Int} {H : Heap} {k : AV → Heap → Option R} : polQ pOrder [.int .i64 a, .int .i64 b] H k = k (.int .i64 (cmpI a b)) H := by
  simp [pOrder, q29]
noncomputable abbrev TMags : List (FuncId × Pol) := [(64, pOrder)]
noncomputable def pMags : Pol := .still (p2 cD cD (.int .i64) (fun a b => few a ∧ few b) sizeS)
theorem qhm (n : Int) (j : IntKind) : Go.Den.convert base 59 2 (.int j n) = some (.int .i64 (IntKind.wrap .i64 n)) := q4t (x := .int .u32) (by kernel_rfl) (by kernel_rfl)
theorem mags_loop {a b : Option (List UInt32)} (hab : (a.getD []).length = (b.getD []).length) (hf : (a.getD []).length ≤ 1000000) (H : Heap) : ∀ i, i ≤ (a.getD []).length →
    LDoes (L92_0 (polT TMags)) ⟨[eD a, eD b, .int .i64 ((i : Int) - 1)], []⟩ H (if cmpN (val ((a.getD []).take i)) (val ((b.getD []).take i)) = 0 then 0 else 1) ⟨[if cmpN (val ((a.getD []).take i)) (val ((b.getD []).take i)) = 0 then .undef else .int .i64 (cmpN (val ((a.getD []).take i)) (val ((b.getD []).take i)))], []⟩ H := by
  intro i
  induction i with
  | zero =>
    intro _
    refine LDoes.step (Evs.of fun n m => ?_)
    have : cmpN (val []) (val []) = 0 := qd4 _
    simp [↓q00, ↓q01, q6u, this]
  | succ i ih =>
    intro hi
    have hx := q7s (d := a) (H := H) (k := .i64) (i := i) (by omega)
    have hy := q7s (d := b) (H := H) (k := .i64) (i := i) (by omega)
    rw [qiu (by omega) (by omega)]
    have e : ((i + 1 : Nat) : Int) - 1 = i := by omega
    rw [e]
    have hp : (0 : Int) ≤ i := by omega
    by_cases h0 : (a.getD [])[i] = (b.getD [])[i]
    · rw [if_pos h0]
      refine LDoes.step (Evs.withL (ih (by omega)) (Evs.of fun n m h1 h2 => ?_))
      simp (disch := omega) [↓q00, ↓q01, q6u, hx, hy, h0, hp, q0f, h2]
    · rw [if_neg h0]
      have h0' : ¬ (((a.getD [])[i]).toNat : Int) = ((b.getD [])[i]).toNat := fun e => h0 (UInt32.toNat_inj.1 (by omega))
      have h1 : ¬ cmpI ((a.getD [])[i]).toNat ((b.getD [])[i]).toNat = 0 := fun e => h0' (cmpI_eq.1 e)
      have l1 := q72 (a.getD [])[i]
      have l2 := q72 (b.getD [])[i]
      refine LDoes.step (Evs.of fun n m => ?_)
      generalize (a.getD [])[i] = x at *
      generalize (b.getD [])[i] = y at *
      simp (disch := omega) [↓q00, ↓q01, q6u, hx, hy, h0', hp, qhm, q0f, qOrder, h1]
theorem okMags : PolOK base 92 pMags := still2 base_ok TMags ⟨okOrder, trivial⟩ fun a b ⟨ha, hb⟩ => by
  unfold few at ha hb
  by_cases hl : (a.getD []).length = (b.getD []).length
  · refine Evs.withL (mags_loop hl ha [] _ (Nat.le_refl _)) (Evs.of fun n m h1 _ => ?_)
    rw [List.take_length, hl, List.take_length] at h1
    have e : sizeS a b = cmpN (val (a.getD [])) (val (b.getD [])) := by unfold sizeS; rw [if_neg (by simp [hl])]
    rw [e]
    by_cases h0 : cmpN (val (a.getD [])) (val (b.getD [])) = 0
    · simp only [h0, if_true] at h1
      simp (disch := omega) [↓q00, ↓q05, ↓q01, ↓q06, S92, hl, q0f, h1, h0]
    · simp only [h0, if_false] at h1
      simp (disch := omega) [↓q00, ↓q05, ↓q01, ↓q06, S92, hl, q0f, h1]
  · refine Evs.of fun n m => ?_
    have hl' : ¬ ((a.getD []).length : Int) = (b.getD []).length := by omega
    simp [↓q00, ↓q01, S92, sizeS, hl, hl', kOrder]
theorem kMags {R : Type} {a b : Option (List UInt32)} (ha : few a) (hb : few b) {H : Heap} {k : AV → Heap → Option R} : polK pMags [eD a, eD b] H k = k (.int .i64 (sizeS a b)) H := by
  simp [pMags, q0b, ha, hb]
theorem qe7 (a : Nm) : ((rnormS a).2.getD []).length ≤ (a.2.getD []).length := by
  unfold rnormS
  dsimp only
  rw [q3z]
  exact q21 _
theorem size_val {a b : Nm} : sizeS (rnormS a).2 (rnormS b).2 = cmpN (val ((rnormS a).2.getD [])) (val ((rnormS b).2.getD [])) := by
  unfold rnormS
  dsimp only
  rw [q3z, q3z, q26, q26]
  exact qee (q3z ..) (q3z ..)
theorem cmp_rng (a b : Nat) : -1 ≤ cmpN a b ∧ cmpN a b ≤ 1 := by unfold cmpN cmpI; split <;> (try split) <;> omega
theorem rcmp_val {x y : Nm} {u v : Int} (hx : Rep x u) (hy : Rep y v) : cmpI u v = if x.1 = y.1 then (if x.1 then -(cmpN (val (x.2.getD [])) (val (y.2.getD []))) else cmpN (val (x.2.getD [])) (val (y.2.getD []))) else (if x.1 then -1 else 1) := by
  rw [hx.1, hx.2, hy.1, hy.2, q26, q26]
  unfold cmpN cmpI
  by_cases hu : u < 0 <;> by_cases hv : v < 0 <;> simp [hu, hv] <;> (try split) <;> (try split) <;> (try split) <;> omega
noncomputable def pRcmp : Pol := .still (p2 cN cN (.int .i64) (fun a b => few a.2 ∧ few b.2) (fun a b => cmpI (toI a) (toI b)))
theorem okRcmp : PolOK base 65 pRcmp := still2 base_ok [(35, pRnorm), (92, pMags)] ⟨okRnorm, okMags, trivial⟩ fun a b ⟨ha, hb⟩ => by
  refine Evs.of fun n m => ?_
  have lx := qe7 a
  have ly := qe7 b
  have hsz := size_val (a := a) (b := b)
  have hc := rcmp_val (qe5 a) (qe5 b)
  have e1 : ∀ (H : Heap) (k : AV → Heap → Option AV), polQ pRnorm [eN a] H k = k (eN (rnormS a)) H := fun H k => qRnorm ha
  have e2 : ∀ (H : Heap) (k : AV → Heap → Option AV), polQ pRnorm [eN b] H k = k (eN (rnormS b)) H := fun H k => qRnorm hb
  unfold few at ha hb
  rw [hc]
  clear hc
  generalize rnormS a = x at *
  generalize rnormS b = y at *
  have fx : few x.2 := by unfold few; omega
  have fy : few y.2 := by unfold few; omega
  have hr := cmp_rng (val (x.2.getD [])) (val (y.2.getD []))
  have e3 : ∀ (H : Heap) (k : AV → Heap → Option AV), polK pMags [eD x.2, eD y.2] H k = k (.int .i64 (cmpN (val (x.2.getD [])) (val (y.2.getD [])))) H := fun H k => by rw [kMags fx fy, hsz]
  generalize cmpN (val (x.2.getD [])) (val (y.2.getD [])) = c at *
  have hneg : A.un .neg (.int .i64 c) = some (.int .i64 (-c)) := by
    show some (AV.int .i64 (IntKind.wrap .i64 (0 - c))) = _
    rw [q0f (by omega) (by omega)]
    congr 2
    omega
  obtain ⟨x1, x2⟩ := x
  obtain ⟨y1, y2⟩ := y
  dsimp only at *
  have hbin : ∀ H, A.bin base.P .neq 4 (.bool x1) (.bool y1) false H = some (.bool !(x1 == y1)) := fun H => A.bin_bne q7i x1 y1
  cases x1 <;> cases y1 <;> simp [↓q00, ↓q0a, ↓q01, ↓q07, S65, A.ofList, A.fits, A.splice, e1, e2, hbin, e3, hneg]
theorem kRcmp {R : Type} {a b : Nm} (ha : few a.2) (hb : few b.2) {H : Heap} {k : AV → Heap → Option R} : polK pRcmp [eN a, eN b] H k = k (.int .i64 (cmpI (toI a) (toI b))) H := by
  simp [pRcmp, q0b, ha, hb]
end Go.Proofs.YtleikacgncpfbaaDoor

/- Any two terms: which is less, by the reference. -/
set_option maxRecDepth 100000
set_option maxHeartbeats 8000000
namespace Go.Proofs.YtleikacgncpfbaaDoor
open Go Go.Den Go.Lib
def okROne (t : Tm) : Prop := few t.d ∧ q1m t.name ∧ (t.b.getD []).length ≤ 1000000 ∧ t.kids.length ≤ 1000
def okR (t : Tm) : Prop := evT okROne t
theorem okR_eq {t : Tm} : okR t ↔ okROne t ∧ ∀ u ∈ t.kids, okR u := qdf
noncomputable def pRcom (n : Nat) : Pol := .still (p2 cT cT (.int .i64) (fun a b => a.size ≤ n ∧ okR a ∧ okR b) cmpT)
theorem qRcom {n : Nat} {R : Type} {a b : Tm} (h : a.size ≤ n) (h2 : okR a) (h3 : okR b) {H : Heap} {k : AV → Heap → Option R} : polQ (pRcom n) [eT a, eT b] H k = k (.int .i64 (cmpT a b)) H := by
  simp [pRcom, q29, h, h2, h3]
noncomputable abbrev TRcom (n : Nat) : List (FuncId × Pol) := [(26, pRcom n), (64, pOrd), (65, pRcmp), (66, pRless), (67, pByw)]
theorem rcom_loop {n : Nat} {a b : Tm} (hs : a.size ≤ n + 1) (ha : okR a) (hb : okR b) (hlen : a.kids.length = b.kids.length) (H : Heap) : ∀ (k i : Nat), i + k = a.kids.length →
    LDoes (L26_0 (polT (TRcom n))) ⟨[.int .i64 (i : Int)], [(eT a).cells, (eT b).cells]⟩ H (if cmpTs (a.kids.drop i) (b.kids.drop i) = 0 then 0 else 1) ⟨[if cmpTs (a.kids.drop i) (b.kids.drop i) = 0 then .undef else .int .i64 (cmpTs (a.kids.drop i) (b.kids.drop i))], []⟩ H := by
  have ha := okR_eq.1 ha
  have hb := okR_eq.1 hb
  have la : A.len (eL 7 eT a.l) H = some (.int .i64 ((a.kids.length : Nat) : Int)) := q08
  have oa : A.ofList false 1 (eT a).cells 5 = some (eL 7 eT a.l) := by rw [q02]; rfl
  have ob : A.ofList false 1 (eT b).cells 5 = some (eL 7 eT b.l) := by rw [q02]; rfl
  have hl : a.kids.length ≤ 1000 := ha.1.2.2.2
  intro k
  induction k with
  | zero =>
    intro i hi
    have : i = a.kids.length := by omega
    subst this
    have hz : cmpTs (a.kids.drop a.kids.length) (b.kids.drop a.kids.length) = 0 := by rw [List.drop_length, q1u]
    rw [hz]
    refine LDoes.step (Evs.of fun n m => ?_)
    generalize (eT a).cells = ca at *
    generalize (eT b).cells = cb at *
    generalize (a.kids.length : Int) = N at *
    simp [↓q00, ↓q01, -q08, q6n, oa, la]
  | succ k ih =>
    intro i hi
    have hlt : i < a.kids.length := by omega
    have hltb : i < b.kids.length := by omega
    have hlt' : (i : Int) < (a.kids.length : Int) := by omega
    have hmem : a.kids[i] ∈ a.kids := List.getElem_mem hlt
    have hmemb : b.kids[i] ∈ b.kids := List.getElem_mem hltb
    have xa : A.idx 7 (eL 7 eT a.l) (.int .i64 (i : Int)) H = some (.rop (eT a.kids[i]).cells) := q33 (sz := 7) (e := eT) (o := a.l) (H := H) (k := .i64) (i := i) hlt
    have xb : A.idx 7 (eL 7 eT b.l) (.int .i64 (i : Int)) H = some (.rop (eT b.kids[i]).cells) := q33 (sz := 7) (e := eT) (o := b.l) (H := H) (k := .i64) (i := i) hltb
    have da := q0w (t := a.kids[i]) (H := H)
    have db := q0w (t := b.kids[i]) (H := H)
    have hsz : (a.kids[i]).size ≤ n := by
      have := Tm.size_kid (t := a) (u := a.kids[i]) hmem
      omega
    have hr : ∀ (R : Type) (H : Heap) (k : AV → Heap → Option R), polQ (pRcom n) [eT a.kids[i], eT b.kids[i]] H k = k (.int .i64 (cmpT a.kids[i] b.kids[i])) H := fun R H k => qRcom hsz (ha.2 _ hmem) (hb.2 _ hmemb)
    have hi1 : IntKind.wrap .i64 ((i : Int) + 1) = (i : Int) + 1 := q0f (by omega) (by omega)
    have hL := ih (i + 1) (by omega)
    simp only [Int.natCast_add, Int.natCast_one] at hL
    rw [List.drop_eq_getElem_cons hlt, List.drop_eq_getElem_cons hltb, q18]
    generalize cmpTs (a.kids.drop (i + 1)) (b.kids.drop (i + 1)) = Z at *
    generalize cmpT a.kids[i] b.kids[i] = C at *
    generalize (eT a).cells = ca at *
    generalize (eT b).cells = cb at *
    generalize eT a.kids[i] = va at *
    generalize eT b.kids[i] = vb at *
    generalize (a.kids.length : Int) = N at *
    by_cases hc : C = 0
    · have n1 : ¬ C ≠ 0 := fun g => g hc
      rw [if_neg n1]
      refine LDoes.step (Evs.withL hL (Evs.of fun n m _ h3 => ?_))
      simp [↓q00, ↓q01, -q08, q6n, oa, ob, la, hlt', xa, xb, da, db, hr, hi1, hc, h3]
    · rw [if_pos hc, if_neg hc, if_neg hc]
      refine LDoes.step (Evs.of fun n m => ?_)
      simp [↓q00, ↓q01, -q08, q6n, oa, ob, la, hlt', xa, xb, da, db, hr, hc]
theorem okRcom : ∀ n, PolOK base 26 (pRcom n)
  | 0 => still2 base_ok [] trivial fun a b ⟨hs, _⟩ => by
    have := a.size_eq
    omega
  | n + 1 => still2 base_ok (TRcom n) ⟨okRcom n, okOrd, okRcmp, okRless, okByw, trivial⟩ fun a b ⟨hs, ha0, hb0⟩ => by
    have ha := (okR_eq.1 ha0).1
    have hb := (okR_eq.1 hb0).1
    have hla : A.len (eL 7 eT a.l) [] = some (.int .i64 ((a.kids.length : Nat) : Int)) := q08
    have hlb : A.len (eL 7 eT b.l) [] = some (.int .i64 ((b.kids.length : Nat) : Int)) := q08
    have k0 : ∀ (R : Type) (H : Heap) (k : AV → Heap → Option R), polK pRcmp [.agg [.bool a.neg, eD a.d], .agg [.bool b.neg, eD b.d]] H k = k (.int .i64 (cmpI (toI (a.neg, a.d)) (toI (b.neg, b.d)))) H := fun R H k => kRcmp (a := (a.neg, a.d)) (b := (b.neg, b.d)) ha.1 hb.1
    have k1 : ∀ (R : Type) (H : Heap) (k : AV → Heap → Option R), polK pRless [.str a.name, .str b.name] H k = k (.int .i64 (lessR a.name b.name)) H := fun R H k => kRless ⟨ha.2.1, hb.2.1⟩
    have k7 : ∀ (R : Type) (H : Heap) (k : AV → Heap → Option R), polK pByw [eL 1 eb a.b, eL 1 eb b.b] H k = k (.int .i64 (lexR (nums (a.b.getD [])) (nums (b.b.getD [])))) H := fun R H k => by
      simp [pByw, q0b, bywOk, ha.2.2.1]
    have fa : A.fill [.bool false, .nils] [(0, 1, .bool a.neg), (1, 1, eD a.d)] = some [.bool a.neg, eD a.d] := by simp [A.fill, A.splice]
    have fb : A.fill [.bool false, .nils] [(0, 1, .bool b.neg), (1, 1, eD b.d)] = some [.bool b.neg, eD b.d] := by simp [A.fill, A.splice]
    rw [q2s]
    by_cases hk : a.kind = b.kind
    · have hk' : b.kind = a.kind := hk.symm
      have n0 : ¬ a.kind ≠ b.kind := fun g => g hk
      unfold oneT
      rw [if_neg n0]
      by_cases c0 : a.kind = 0
      · generalize cmpI (toI (a.neg, a.d)) (toI (b.neg, b.d)) = Z at *
        rw [c0] at hk'
        refine Evs.of fun n m => ?_
        simp [↓q00, ↓q0a, ↓q01, ↓q07, -q08, S26, c0, hk', fa, fb, k0]
      by_cases c1 : a.kind = 1
      · generalize lessR a.name b.name = Z at *
        rw [c1] at hk'
        refine Evs.of fun n m => ?_
        simp [↓q00, ↓q0a, ↓q01, ↓q07, -q08, S26, c1, hk', k1]
      by_cases c2 : a.kind = 2
      · rw [c2] at hk'
        refine Evs.of fun n m => ?_
        simp [↓q00, ↓q05, ↓q0a, ↓q01, ↓q06, ↓q07, -q08, S26, c2, hk', kOrd]
      by_cases c3 : a.kind = 3
      · rw [c3] at hk'
        refine Evs.of fun n m => ?_
        simp [↓q00, ↓q05, ↓q0a, ↓q01, ↓q06, ↓q07, -q08, S26, c3, hk', kOrd]
      by_cases c7 : a.kind = 7
      · generalize lexR (nums (a.b.getD [])) (nums (b.b.getD [])) = Z at *
        rw [c7] at hk'
        refine Evs.of fun n m => ?_
        simp [↓q00, ↓q05, ↓q0a, ↓q01, ↓q06, ↓q07, -q08, S26, c7, hk', k7]
      by_cases c46 : a.kind = 4 ∨ a.kind = 6
      · by_cases hll : a.kids.length = b.kids.length
        · have hL := rcom_loop hs ha0 hb0 hll [] a.kids.length 0 (by omega)
          have hz : ordI (a.kids.length : Int) (b.kids.length : Int) = 0 := ord_zero.2 (by omega)
          rw [hz]
          simp only [List.drop_zero] at hL
          refine Evs.withL hL (Evs.of fun n m hl _ => ?_)
          rw [← hll] at hlb
          simp only [Int.natCast_zero] at hl
          rw [q02, q02, hk'] at hl
          generalize cmpTs a.kids b.kids = Z at *
          generalize (a.kids.length : Int) = N at *
          rcases c46 with c | c
          · rw [c] at hk' hl
            by_cases hZ : Z = 0
            · simp [↓q00, ↓q05, ↓q0a, ↓q01, ↓q06, ↓q07, -q08, S26, c, hk', hla, hlb, hl, hZ]
            · simp [↓q00, ↓q05, ↓q0a, ↓q01, ↓q06, ↓q07, -q08, S26, c, hk', hla, hlb, hl, hZ]
          · rw [c] at hk' hl
            by_cases hZ : Z = 0
            · simp [↓q00, ↓q05, ↓q0a, ↓q01, ↓q06, ↓q07, -q08, S26, c, hk', hla, hlb, hl, hZ]
            · simp [↓q00, ↓q05, ↓q0a, ↓q01, ↓q06, ↓q07, -q08, S26, c, hk', hla, hlb, hl, hZ]
        · have hne : ¬ ((a.kids.length : Int) = (b.kids.length : Int)) := by omega
          have hz : ¬ ordI (a.kids.length : Int) (b.kids.length : Int) = 0 := fun e => hll (by have := ord_zero.1 e; omega)
          generalize (a.kids.length : Int) = N at *
          generalize (b.kids.length : Int) = M at *
          refine Evs.of fun n m => ?_
          rcases c46 with c | c
          · rw [c] at hk'
            simp [↓q00, ↓q05, ↓q0a, ↓q01, ↓q06, ↓q07, -q08, S26, c, hk', hla, hlb, hne, kOrd, hz]
          · rw [c] at hk'
            simp [↓q00, ↓q05, ↓q0a, ↓q01, ↓q06, ↓q07, -q08, S26, c, hk', hla, hlb, hne, kOrd, hz]
      · have c4 : ¬ a.kind = 4 := fun h => c46 (.inl h)
        have c6 : ¬ a.kind = 6 := fun h => c46 (.inr h)
        refine Evs.of fun n m => ?_
        simp [↓q00, ↓q05, ↓q0a, ↓q01, ↓q06, ↓q07, -q08, S26, c0, c1, c2, c3, c4, c6, c7, hk']
    · have hz : ¬ ordI a.kind b.kind = 0 := fun e => hk (ord_zero.1 e)
      unfold oneT
      rw [if_pos hk, if_pos hz]
      refine Evs.of fun n m => ?_
      simp [↓q00, ↓q0a, ↓q01, ↓q07, -q08, S26, hk, kOrd]
noncomputable def pRcomA : Pol := .still (p2 cT cT (.int .i64) (fun a b => okR a ∧ okR b) cmpT)
theorem okRcomA : PolOK base 26 pRcomA := q4y (F := fun n => p2 cT cT (.int .i64) (fun a b => a.size ≤ n ∧ okR a ∧ okR b) cmpT) okRcom fun zs v h => by
  match zs, h with
  | [x, y], h =>
    simp only [p2_app, Option.bind_eq_some_iff] at h ⊢
    obtain ⟨a, ha, b, hb, h⟩ := h
    split at h
    · rename_i hc
      exact ⟨a.size, a, ha, b, hb, by rw [if_pos ⟨Nat.le_refl _, hc⟩]; exact h⟩
    · cases h
theorem kRcomA {R : Type} {a b : Tm} (h2 : okR a) (h3 : okR b) {H : Heap} {k : AV → Heap → Option R} : polK pRcomA [eT a, eT b] H k = k (.int .i64 (cmpT a b)) H := by
  simp [pRcomA, q0b, h2, h3]
end Go.Proofs.YtleikacgncpfbaaDoor

/- Any two terms: which is less, but for what is in them; of each kind. -/
set_option maxRecDepth 100000
set_option maxHeartbeats 4000000
namespace Go.Proofs.YtleikacgncpfbaaDoor
open Go Go.Den Go.Lib
/-! ### a pair of terms -/
def eP (p : Tm × Tm) : AV := .agg ((eT p.1).cells ++ (eT p.2).cells)
theorem q0v (p : Tm × Tm) : (eP p).cells = [.int .i64 p.1.kind, .bool p.1.neg, eD p.1.d, .str p.1.name, .int .i64 p.1.n, eL 7 eT p.1.l, eL 1 eb p.1.b, .int .i64 p.2.kind, .bool p.2.neg, eD p.2.d, .str p.2.name, .int .i64 p.2.n, eL 7 eT p.2.l, eL 1 eb p.2.b] := by
  unfold eP
  rw [q02, q02]
  rfl
theorem q84 (t : Tm) : eT t = .agg (eT t).cells := by rw [q02, q2t]
theorem eP_inj (p q : Tm × Tm) (h : eP p = eP q) : p = q := by
  unfold eP at h
  injection h with h
  have l1 : (eT p.1).cells.length = 7 := by rw [q02]; rfl
  have l2 : (eT q.1).cells.length = 7 := by rw [q02]; rfl
  obtain ⟨h1, h2⟩ := List.append_inj h (by rw [l1, l2])
  have a1 : p.1 = q.1 := qam _ _ (by rw [q84 p.1, q84 q.1, h1])
  have a2 : p.2 = q.2 := qam _ _ (by rw [q84 p.2, q84 q.2, h2])
  exact Prod.ext a1 a2
theorem qj0 (p : Tm × Tm) : eP p = .agg [.int .i64 p.1.kind, .bool p.1.neg, eD p.1.d, .str p.1.name, .int .i64 p.1.n, eL 7 eT p.1.l, eL 1 eb p.1.b, .int .i64 p.2.kind, .bool p.2.neg, eD p.2.d, .str p.2.name, .int .i64 p.2.n, eL 7 eT p.2.l, eL 1 eb p.2.b] := by
  have := q0v p
  unfold eP at this ⊢
  exact congrArg AV.agg this
def cP : Cd (Tm × Tm) := ⟨eP, eP_inj, fun p => by rw [qj0]; simp⟩
@[simp] theorem enc_cP {a : Tm × Tm} : cP.enc a = eP a := id rfl
@[simp] theorem dec_cP {a : Tm × Tm} : cP.dec (eP a) = some a := cP.dec_enc a
@[simp] theorem imm_eP {p : Tm × Tm} : (eP p).imm = true := by rw [qj0]; simp
@[simp] theorem isDef_eP {p : Tm × Tm} : (eP p).isDef = true := by rw [qj0]; rfl
theorem q3e {p : Tm × Tm} : (eP p).cells.length = 14 := by rw [q0v]; rfl
theorem qgr {p : Tm × Tm} : A.ofList true 7 (eP p).cells 0 = some (eT p.1) := by rw [q0v, q2t]; rfl
theorem of_eP2 {p : Tm × Tm} : A.ofList true 7 (eP p).cells 7 = some (eT p.2) := by rw [q0v, q2t]; rfl
theorem of_eP {p : Tm × Tm} : A.ofList true 14 (eP p).cells 0 = some (eP p) := by rw [q0v, qj0]; rfl
theorem q2x {p : Tm × Tm} {o : Nat} {v : AV} (h : (eP p).cells[o]? = some v) (h2 : v.one = true) : A.ofList false 1 (eP p).cells o = some v := by
  simp [A.ofList, h]
theorem qbm {a b : Tm} : (A.fill [(AV.int .i64 0), (AV.bool false), AV.nils, (AV.str []), (AV.int .i64 0), AV.nils, AV.nils, (AV.int .i64 0), (AV.bool false), AV.nils, (AV.str []), (AV.int .i64 0), AV.nils, AV.nils] [(0, 7, eT a), (7, 7, eT b)]).map .agg = some (eP (a, b)) := by
  rw [qj0]
  simp [A.fill, A.splice]
/-! ### a kind -/
theorem okOkind : PolOK base 63 (.still (p1 cT (.int .i64) (fun t => 0 ≤ t.kind ∧ t.kind ≤ 7) Tm.kind)) := still1 base_ok [] trivial fun t ⟨h1, h2⟩ => by
  have hB : Go.Den.Box [.row 0 7 26 [eT t]] 0 7 26 (eT t).cells := q53 t _ 0 rfl
  have p := fun o => hB.fa (o := o)
  have q := fun o => hB.load (o := o)
  rw [q02] at q
  have q0 := q 0
  simp only [List.getElem?_cons_zero] at q0
  have hcl : (eT t).cells.length = 7 := by rw [q02]; rfl
  have n1 : ¬ t.kind < 0 := by omega
  have n2 : ¬ (7 : Int) < t.kind := by omega
  exact Evs.of fun n m => by simp [-q08, -q02, S63, hcl, p, q0, n1, n2]
noncomputable def pOkind : Pol := .still (p1 cT (.int .i64) (fun t => 0 ≤ t.kind ∧ t.kind ≤ 7) Tm.kind)
theorem kOkind {R : Type} {t : Tm} (h1 : 0 ≤ t.kind) (h2 : t.kind ≤ 7) {H : Heap} {k : AV → Heap → Option R} : polK pOkind [eT t] H k = k (.int .i64 t.kind) H := by
  simp [pOkind, q0b, h1, h2]
noncomputable def pInts : Pol := .still (p1 cP (.int .i64) (fun p => p.1.kind = 0 ∧ p.2.kind = 0 ∧ few p.1.d ∧ few p.2.d) fun p => cmpI (toI (p.1.neg, p.1.d)) (toI (p.2.neg, p.2.d)))
theorem okInts : PolOK base 86 pInts := still1 base_ok [(32, pTof), (94, q3r)] ⟨okTof, qdy, trivial⟩ fun p ⟨h1, h2, h3, h4⟩ => by
  have g1 : ∀ (R : Type) (H : Heap) (k : AV → Heap → Option R), polK pTof [eT p.1] H k = k (.tup [eN (normS (p.1.neg, p.1.d)), .bool true]) H := fun R H k => by
    rw [kTof h3]; unfold numOf; rw [if_pos h1]
  have g2 : ∀ (R : Type) (H : Heap) (k : AV → Heap → Option R), polK pTof [eT p.2] H k = k (.tup [eN (normS (p.2.neg, p.2.d)), .bool true]) H := fun R H k => by
    rw [kTof h4]; unfold numOf; rw [if_pos h2]
  have f : ∀ a : Nm, few a.2 → few (normS a).2 := fun a ha => by
    have e := q8c a
    unfold few at ha ⊢
    have e2 : (normS a).2.getD [] = lim (toI a).natAbs := e.2
    have e3 : (toI a).natAbs = val (a.2.getD []) := by
      show (sgn a.1 (mag a)).natAbs = _
      unfold sgn mag
      split <;> omega
    have := q21 (a.2.getD [])
    rw [e2, e3]
    omega
  have f1 := f (p.1.neg, p.1.d) h3
  have f2 := f (p.2.neg, p.2.d) h4
  have g3 : ∀ (R : Type) (H : Heap) (k : AV → Heap → Option R), polK q3r [eN (normS (p.1.neg, p.1.d)), eN (normS (p.2.neg, p.2.d))] H k = k (.int .i64 (cmpI (toI (p.1.neg, p.1.d)) (toI (p.2.neg, p.2.d)))) H := fun R H k => by
    rw [qgd f1 f2, qai, q4z, q4z]
  have e1 : ∀ a : Nm, A.fits 2 (eN a) = true ∧ A.splice [(AV.bool false), AV.nils] 0 (eN a).cells = (eN a).cells ∧ (eN a).cells.length = 2 ∧ A.ofList true 2 (eN a).cells 0 = some (eN a) := fun a => by
    refine ⟨by simp [A.fits], by simp [A.splice], by simp, by simp [A.ofList]⟩
  obtain ⟨a1, a2, a3, a4⟩ := e1 (normS (p.1.neg, p.1.d))
  obtain ⟨b1, b2, b3, b4⟩ := e1 (normS (p.2.neg, p.2.d))
  have o1 := qgr (p := p)
  have o2 := of_eP2 (p := p)
  have hl := q3e (p := p)
  generalize eN (normS (p.1.neg, p.1.d)) = N at *
  generalize eN (normS (p.2.neg, p.2.d)) = M at *
  exact Evs.of fun n m => by simp [↓q0a, ↓q01, ↓q07, S86, hl, o1, o2, g1, g2, g3, a1, a2, a3, a4, b1, b2, b3, b4]
theorem kInts {R : Type} {p : Tm × Tm} (h1 : p.1.kind = 0) (h2 : p.2.kind = 0) (h3 : few p.1.d) (h4 : few p.2.d) {H : Heap} {k : AV → Heap → Option R} : polK pInts [eP p] H k = k (.int .i64 (cmpI (toI (p.1.neg, p.1.d)) (toI (p.2.neg, p.2.d)))) H := by
  simp [pInts, q0b, h1, h2, h3, h4]
noncomputable def pAtoms : Pol := .still (p1 cP (.int .i64) (fun _ => True) fun p => lessR p.1.name p.2.name)
theorem okAtoms : PolOK base 87 pAtoms := still1 base_ok [(101, pLess)] ⟨okLess, trivial⟩ fun p _ => by
  have hl := q3e (p := p)
  have o1 : A.ofList false 1 (eP p).cells 3 = some (.str p.1.name) := q2x (by rw [q0v]; rfl) rfl
  have o2 : A.ofList false 1 (eP p).cells 10 = some (.str p.2.name) := q2x (by rw [q0v]; rfl) rfl
  exact Evs.of fun n m => by simp [↓q0a, ↓q01, ↓q07, S87, hl, o1, o2, kLess]
theorem kAtoms {R : Type} {p : Tm × Tm} {H : Heap} {k : AV → Heap → Option R} : polK pAtoms [eP p] H k = k (.int .i64 (lessR p.1.name p.2.name)) H := by
  simp [pAtoms, q0b]
noncomputable def pNums : Pol := .still (p1 cP (.int .i64) (fun _ => True) fun p => ordI p.1.n p.2.n)
theorem okNums : PolOK base 88 pNums := still1 base_ok [(85, pCmpI)] ⟨okCmpI, trivial⟩ fun p _ => by
  have hl := q3e (p := p)
  have o1 : A.ofList false 1 (eP p).cells 4 = some (.int .i64 p.1.n) := q2x (by rw [q0v]; rfl) rfl
  have o2 : A.ofList false 1 (eP p).cells 11 = some (.int .i64 p.2.n) := q2x (by rw [q0v]; rfl) rfl
  exact Evs.of fun n m => by simp [↓q0a, ↓q01, ↓q07, S88, hl, o1, o2, kCmpI]
theorem kNums {R : Type} {p : Tm × Tm} {H : Heap} {k : AV → Heap → Option R} : polK pNums [eP p] H k = k (.int .i64 (ordI p.1.n p.2.n)) H := by
  simp [pNums, q0b]
noncomputable def qc9 : Pol := .still (p1 cP (.int .i64) (fun _ => True) fun p => ordI (p.1.kids.length : Int) (p.2.kids.length : Int))
theorem okTuples : PolOK base 89 qc9 := still1 base_ok [(85, pCmpI)] ⟨okCmpI, trivial⟩ fun p _ => by
  have hl := q3e (p := p)
  have o1 : A.ofList false 1 (eP p).cells 5 = some (eL 7 eT p.1.l) := q2x (by rw [q0v]; rfl) (by cases p.1.l <;> rfl)
  have o2 : A.ofList false 1 (eP p).cells 12 = some (eL 7 eT p.2.l) := q2x (by rw [q0v]; rfl) (by cases p.2.l <;> rfl)
  have l1 : A.len (eL 7 eT p.1.l) [] = some (.int .i64 ((p.1.kids.length : Nat) : Int)) := q08
  have l2 : A.len (eL 7 eT p.2.l) [] = some (.int .i64 ((p.2.kids.length : Nat) : Int)) := q08
  generalize (p.1.kids.length : Int) = N at *
  generalize (p.2.kids.length : Int) = M at *
  generalize eL 7 eT p.1.l = v1 at *
  generalize eL 7 eT p.2.l = v2 at *
  exact Evs.of fun n m => by simp [↓q0a, ↓q01, ↓q07, S89, hl, o1, o2, l1, l2, kCmpI]
theorem kTuples {R : Type} {p : Tm × Tm} {H : Heap} {k : AV → Heap → Option R} : polK qc9 [eP p] H k = k (.int .i64 (ordI (p.1.kids.length : Int) (p.2.kids.length : Int))) H := by
  simp [qc9, q0b]
noncomputable def pNils : Pol := .still (p1 cP (.int .i64) (fun _ => True) fun _ => 0)
theorem okNils : PolOK base 90 pNils := still1 base_ok [] trivial fun p _ => by
  have hl := q3e (p := p)
  exact Evs.of fun n m => by simp [↓q0a, ↓q07, S90, hl]
theorem kNils {R : Type} {p : Tm × Tm} {H : Heap} {k : AV → Heap → Option R} : polK pNils [eP p] H k = k (.int .i64 0) H := by
  simp [pNils, q0b]
/-! ### bytes -/
theorem q8r : ∀ a b : List UInt8, Lib.compareBytes a b = lexR (nums a) (nums b)
  | [], [] => rfl
  | [], _ :: _ => rfl
  | _ :: _, [] => rfl
  | x :: a, y :: b => by
    unfold Lib.compareBytes nums
    simp only [List.map_cons]
    unfold lexR
    have ih := q8r a b
    unfold nums at ih
    simp only [UInt8.lt_iff_toNat_lt, ih]
theorem okBcmp0 : PolOK base 110 (.prim q27) := q7m (fn := Tryd.f110) Tryd.func110 (by kernel_rfl) (by kernel_rfl) (by kernel_rfl) (by kernel_rfl)
theorem qaa : ∀ l : List UInt8, q2h (l.map eb) = some (l.map fun b => (b.toNat : Int))
  | [] => rfl
  | x :: l => by simp only [List.map_cons, q2h, qaa l]
theorem qhf {o : Option (List UInt8)} {H : Heap} : q5a (eL 1 eb o) H = some (o.getD []) := by
  have hr : A.read 1 (eL 1 eb o) H = some ((o.getD []).map eb) := qfe
  have : ∀ l : List UInt8, (l.map fun b => (b.toNat : Int)).map Go.Den.byteOf = l := fun l => by
    induction l with
    | nil => rfl
    | cons x l ih =>
      simp only [List.map_cons, ih]
      congr 1
      simp [Go.Den.byteOf]
  cases o with
  | none => rfl
  | some l =>
    unfold q5a
    show (match A.read 1 (eL 1 eb (some l)) H with | some es => _ | none => none) = _
    rw [hr]
    simp only [qaa, this]
    rfl
noncomputable def pBcmp : Pol := .still (p2 cBy cBy (.int .i64) (fun _ _ => True) fun a b => lexR (nums (a.getD [])) (nums (b.getD [])))
theorem okBcmp : PolOK base 102 pBcmp := still2 base_ok [(110, .prim q27)] ⟨okBcmp0, trivial⟩ fun a b _ => by
  have h : ∀ (R : Type) (H : Heap) (k : AV → Heap → Option R), polK (.prim q27) [eL 1 eb a, eL 1 eb b] H k = k (.int .i64 (lexR (nums (a.getD [])) (nums (b.getD [])))) H := fun R H k => by
    show withP (q27 _ H) k = _
    unfold q27
    simp only [qhf, q8r]
    rfl
  exact Evs.of fun n m => by simp [S102, h]
theorem kBcmp {R : Type} {a b : Option (List UInt8)} {H : Heap} {k : AV → Heap → Option R} : polK pBcmp [eL 1 eb a, eL 1 eb b] H k = k (.int .i64 (lexR (nums (a.getD [])) (nums (b.getD [])))) H := by
  have i1 : (eL 1 eb a).imm = true := by cases a <;> simp
  have i2 : (eL 1 eb b).imm = true := by cases b <;> simp
  have h := q0b (R := R) (F := p2 cBy cBy (.int .i64) (fun _ _ => True) fun a b => lexR (nums (a.getD [])) (nums (b.getD []))) (args := [eL 1 eb a, eL 1 eb b]) (H := H) (k := k) (by simp [i1, i2])
  show polK (.still _) _ H k = _
  rw [h]
  simp
noncomputable def pBins : Pol := .still (p1 cP (.int .i64) (fun _ => True) fun p => lexR (nums (p.1.b.getD [])) (nums (p.2.b.getD [])))
theorem okBins : PolOK base 91 pBins := still1 base_ok [(102, pBcmp)] ⟨okBcmp, trivial⟩ fun p _ => by
  have hl := q3e (p := p)
  have o1 : A.ofList false 1 (eP p).cells 6 = some (eL 1 eb p.1.b) := q2x (by rw [q0v]; rfl) (by cases p.1.b <;> rfl)
  have o2 : A.ofList false 1 (eP p).cells 13 = some (eL 1 eb p.2.b) := q2x (by rw [q0v]; rfl) (by cases p.2.b <;> rfl)
  exact Evs.of fun n m => by simp [↓q0a, ↓q01, ↓q07, S91, hl, o1, o2, kBcmp]
theorem kBins {R : Type} {p : Tm × Tm} {H : Heap} {k : AV → Heap → Option R} : polK pBins [eP p] H k = k (.int .i64 (lexR (nums (p.1.b.getD [])) (nums (p.2.b.getD [])))) H := by
  simp [pBins, q0b]
end Go.Proofs.YtleikacgncpfbaaDoor

/- Two terms, but for what is in them. -/
set_option maxRecDepth 100000
set_option maxHeartbeats 4000000
namespace Go.Proofs.YtleikacgncpfbaaDoor
open Go Go.Den Go.Lib
noncomputable abbrev TOne : List (FuncId × Pol) := [(63, pOkind), (85, pCmpI), (86, pInts), (87, pAtoms), (88, pNums), (89, qc9), (90, pNils), (91, pBins)]
def okK (t : Tm) : Prop := 0 ≤ t.kind ∧ t.kind ≤ 7 ∧ few t.d
noncomputable def pOne2 : Pol := .still (p1 cP (.int .i64) (fun p => okK p.1 ∧ okK p.2) fun p => oneT p.1 p.2)
theorem okOne2 : PolOK base 62 pOne2 := still1 base_ok TOne ⟨okOkind, okCmpI, okInts, okAtoms, okNums, okTuples, okNils, okBins, trivial⟩ fun p ⟨⟨a1, a2, a3⟩, ⟨b1, b2, b3⟩⟩ => by
  have hl := q3e (p := p)
  have o1 := qgr (p := p)
  have o2 := of_eP2 (p := p)
  have o3 := of_eP (p := p)
  have k1 : ∀ (R : Type) (H : Heap) (k : AV → Heap → Option R), polK pOkind [eT p.1] H k = k (.int .i64 p.1.kind) H := fun R H k => kOkind a1 a2
  have k2 : ∀ (R : Type) (H : Heap) (k : AV → Heap → Option R), polK pOkind [eT p.2] H k = k (.int .i64 p.2.kind) H := fun R H k => kOkind b1 b2
  by_cases hk : p.1.kind = p.2.kind
  · have hz : ordI p.1.kind p.2.kind = 0 := ord_zero.2 hk
    have n0 : ¬ p.1.kind ≠ p.2.kind := fun g => g hk
    unfold oneT
    rw [if_neg n0]
    have hcl : ∀ (f : FuncId) (H : Heap) (k : AV → Heap → Option AV) (n : Nat), clV base (polT TOne) n (.fn (.func f) [eP p] []) [] H k = polK (lookT TOne f) [eP p] H k := fun f H k n => by
      rw [clV_fn, cl_polT]
      rfl
    have hc1 : ∀ f : FuncId, (AV.fn (.func f) [eP p] []).cells = [AV.fn (.func f) [eP p] []] := fun f => rfl
    have hd1 : ∀ f : FuncId, (AV.fn (.func f) [eP p] []).isDef = true := fun f => rfl
    have kin : p.1.kind = 0 → ∀ (R : Type) (H : Heap) (k : AV → Heap → Option R), polK pInts [eP p] H k = k (.int .i64 (cmpI (toI (p.1.neg, p.1.d)) (toI (p.2.neg, p.2.d)))) H := fun h R H k => kInts h (hk ▸ h) a3 b3
    rcases (show p.1.kind = 0 ∨ p.1.kind = 1 ∨ p.1.kind = 2 ∨ p.1.kind = 3 ∨ p.1.kind = 4 ∨ p.1.kind = 5 ∨ p.1.kind = 6 ∨ p.1.kind = 7 by omega) with c | c | c | c | c | c | c | c
    · have kin' := kin c
      rw [c] at k1
      exact Evs.of fun n m => by simp [↓q00, ↓q05, ↓q0a, ↓q09, ↓q01, ↓q0c, ↓q07, S62, hl, o1, o2, o3, k1, k2, kCmpI, c, ← hk, q35, A.fillElems, A.idx, A.aliveZ, A.load, A.elemAt, hc1, hd1, hcl, kin']
    · exact Evs.of fun n m => by simp [↓q00, ↓q05, ↓q0a, ↓q09, ↓q01, ↓q0c, ↓q07, S62, hl, o1, o2, o3, k1, k2, kCmpI, c, ← hk, q35, A.fillElems, A.idx, A.aliveZ, A.load, A.elemAt, hc1, hd1, hcl, kAtoms]
    · exact Evs.of fun n m => by simp [↓q00, ↓q05, ↓q0a, ↓q09, ↓q01, ↓q0c, ↓q07, S62, hl, o1, o2, o3, k1, k2, kCmpI, c, ← hk, q35, A.fillElems, A.idx, A.aliveZ, A.load, A.elemAt, hc1, hd1, hcl, kNums]
    · exact Evs.of fun n m => by simp [↓q00, ↓q05, ↓q0a, ↓q09, ↓q01, ↓q0c, ↓q07, S62, hl, o1, o2, o3, k1, k2, kCmpI, c, ← hk, q35, A.fillElems, A.idx, A.aliveZ, A.load, A.elemAt, hc1, hd1, hcl, kNums]
    · exact Evs.of fun n m => by simp [↓q00, ↓q05, ↓q0a, ↓q09, ↓q01, ↓q0c, ↓q07, S62, hl, o1, o2, o3, k1, k2, kCmpI, c, ← hk, q35, A.fillElems, A.idx, A.aliveZ, A.load, A.elemAt, hc1, hd1, hcl, kTuples]
    · exact Evs.of fun n m => by simp [↓q00, ↓q05, ↓q0a, ↓q09, ↓q01, ↓q0c, ↓q07, S62, hl, o1, o2, o3, k1, k2, kCmpI, c, ← hk, q35, A.fillElems, A.idx, A.aliveZ, A.load, A.elemAt, hc1, hd1, hcl, kNils]
    · exact Evs.of fun n m => by simp [↓q00, ↓q05, ↓q0a, ↓q09, ↓q01, ↓q0c, ↓q07, S62, hl, o1, o2, o3, k1, k2, kCmpI, c, ← hk, q35, A.fillElems, A.idx, A.aliveZ, A.load, A.elemAt, hc1, hd1, hcl, kTuples]
    · exact Evs.of fun n m => by simp [↓q00, ↓q05, ↓q0a, ↓q09, ↓q01, ↓q0c, ↓q07, S62, hl, o1, o2, o3, k1, k2, kCmpI, c, ← hk, q35, A.fillElems, A.idx, A.aliveZ, A.load, A.elemAt, hc1, hd1, hcl, kBins]
  · have hz : ¬ ordI p.1.kind p.2.kind = 0 := fun e => hk (ord_zero.1 e)
    unfold oneT
    rw [if_pos hk]
    exact Evs.of fun n m => by simp [↓q00, ↓q05, ↓q0a, ↓q09, ↓q01, ↓q07, S62, hl, o1, o2, k1, k2, kCmpI, hz]
theorem kOne2 {R : Type} {p : Tm × Tm} (h1 : okK p.1) (h2 : okK p.2) {H : Heap} {k : AV → Heap → Option R} : polK pOne2 [eP p] H k = k (.int .i64 (oneT p.1 p.2)) H := by
  simp [pOne2, q0b, h1, h2]
end Go.Proofs.YtleikacgncpfbaaDoor
