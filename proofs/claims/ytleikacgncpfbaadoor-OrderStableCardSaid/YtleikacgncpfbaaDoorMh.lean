/- Texts put together: Or3, Or4, Mb1, Mb2, Mb3, Mb3A, Mb3B, Mb3C, Mb3D, Mb3E, Mb4, Mb5, Rms, Or7, Awake6, Lw6a, Or8, So1, Cp1, Cp2, Cp3, Cp4, Cp5, Cp6, Cp7, Cp8, Cp9, Awake5, Lw5c, Rc. -/
import Derived.Test.YtleikacgncpfbaaDoorMg
import Derived.Test.YtleikacgncpfbaaDoorRows

/- Two terms, but for what is in them. -/
set_option maxRecDepth 100000
set_option maxHeartbeats 4000000
namespace Go.Proofs.YtleikacgncpfbaaDoor
open Go Go.Den Go.Lib
noncomputable abbrev TOne : List (FuncId × Pol) := [(63, pOkind), (85, pCmpI), (86, pInts), (87, pAtoms), (88, pNums), (89, qct), (90, pNils), (91, pBins)]
def okK (t : Tm) : Prop := 0 ≤ t.kind ∧ t.kind ≤ 7 ∧ few t.d
noncomputable def pOne2 : Pol := .still (p1 cP (.int .i64) (fun p => okK p.1 ∧ okK p.2) fun p => oneT p.1 p.2)
theorem okOne2 : PolOK base 62 pOne2 := still1 base_ok TOne ⟨okOkind, okCmpI, okInts, okAtoms, okNums, okTuples, okNils, okBins, trivial⟩ fun p ⟨⟨a1, a2, a3⟩, ⟨b1, b2, b3⟩⟩ => by
  have hl := q5o (p := p)
  have o1 := of_eP1 (p := p)
  have o2 := of_eP2 (p := p)
  have o3 := of_eP (p := p)
  have k1 : ∀ (R : Type) (H : Heap) (k : AV → Heap → Option R), polK pOkind [eT p.1] H k = k (.int .i64 p.1.kind) H := fun R H k => kOkind a1 a2
  have k2 : ∀ (R : Type) (H : Heap) (k : AV → Heap → Option R), polK pOkind [eT p.2] H k = k (.int .i64 p.2.kind) H := fun R H k => kOkind b1 b2
  by_cases hk : p.1.kind = p.2.kind
  · have hz : ordI p.1.kind p.2.kind = 0 := ord_zero.2 hk
    have n0 : ¬ p.1.kind ≠ p.2.kind := fun g => g hk
    unfold oneT
    rw [if_neg n0]
    have hcl : ∀ (f : FuncId) (H : Heap) (k : AV → Heap → Option AV) (n : Nat), clV base (polT TOne) n (.fn (.func f) [eP p] []) [] H k = polK (lookT TOne f) [eP p] H k := fun f H k n => by
      rw [clV_fn, cl_polT]
      rfl
    have hc1 : ∀ f : FuncId, (AV.fn (.func f) [eP p] []).cells = [AV.fn (.func f) [eP p] []] := fun f => rfl
    have hd1 : ∀ f : FuncId, (AV.fn (.func f) [eP p] []).isDef = true := fun f => rfl
    have kin : p.1.kind = 0 → ∀ (R : Type) (H : Heap) (k : AV → Heap → Option R), polK pInts [eP p] H k = k (.int .i64 (cmpI (toI (p.1.neg, p.1.d)) (toI (p.2.neg, p.2.d)))) H := fun h R H k => kInts h (hk ▸ h) a3 b3
    rcases (show p.1.kind = 0 ∨ p.1.kind = 1 ∨ p.1.kind = 2 ∨ p.1.kind = 3 ∨ p.1.kind = 4 ∨ p.1.kind = 5 ∨ p.1.kind = 6 ∨ p.1.kind = 7 by omega) with c | c | c | c | c | c | c | c
    · have kin' := kin c
      rw [c] at k1
      exact Evs.of fun n m => by simp [↓q00, ↓q06, ↓q0a, ↓q09, ↓q01, ↓q0d, ↓q07, S62, hl, o1, o2, o3, k1, k2, kCmpI, c, ← hk, q38, A.fillElems, A.idx, A.aliveZ, A.load, A.elemAt, hc1, hd1, hcl, kin']
    · exact Evs.of fun n m => by simp [↓q00, ↓q06, ↓q0a, ↓q09, ↓q01, ↓q0d, ↓q07, S62, hl, o1, o2, o3, k1, k2, kCmpI, c, ← hk, q38, A.fillElems, A.idx, A.aliveZ, A.load, A.elemAt, hc1, hd1, hcl, kAtoms]
    · exact Evs.of fun n m => by simp [↓q00, ↓q06, ↓q0a, ↓q09, ↓q01, ↓q0d, ↓q07, S62, hl, o1, o2, o3, k1, k2, kCmpI, c, ← hk, q38, A.fillElems, A.idx, A.aliveZ, A.load, A.elemAt, hc1, hd1, hcl, kNums]
    · exact Evs.of fun n m => by simp [↓q00, ↓q06, ↓q0a, ↓q09, ↓q01, ↓q0d, ↓q07, S62, hl, o1, o2, o3, k1, k2, kCmpI, c, ← hk, q38, A.fillElems, A.idx, A.aliveZ, A.load, A.elemAt, hc1, hd1, hcl, kNums]
    · exact Evs.of fun n m => by simp [↓q00, ↓q06, ↓q0a, ↓q09, ↓q01, ↓q0d, ↓q07, S62, hl, o1, o2, o3, k1, k2, kCmpI, c, ← hk, q38, A.fillElems, A.idx, A.aliveZ, A.load, A.elemAt, hc1, hd1, hcl, kTuples]
    · exact Evs.of fun n m => by simp [↓q00, ↓q06, ↓q0a, ↓q09, ↓q01, ↓q0d, ↓q07, S62, hl, o1, o2, o3, k1, k2, kCmpI, c, ← hk, q38, A.fillElems, A.idx, A.aliveZ, A.load, A.elemAt, hc1, hd1, hcl, kNils]
    · exact Evs.of fun n m => by simp [↓q00, ↓q06, ↓q0a, ↓q09, ↓q01, ↓q0d, ↓q07, S62, hl, o1, o2, o3, k1, k2, kCmpI, c, ← hk, q38, A.fillElems, A.idx, A.aliveZ, A.load, A.elemAt, hc1, hd1, hcl, kTuples]
    · exact Evs.of fun n m => by simp [↓q00, ↓q06, ↓q0a, ↓q09, ↓q01, ↓q0d, ↓q07, S62, hl, o1, o2, o3, k1, k2, kCmpI, c, ← hk, q38, A.fillElems, A.idx, A.aliveZ, A.load, A.elemAt, hc1, hd1, hcl, kBins]
  · have hz : ¬ ordI p.1.kind p.2.kind = 0 := fun e => hk (ord_zero.1 e)
    unfold oneT
    rw [if_pos hk]
    exact Evs.of fun n m => by simp [↓q00, ↓q06, ↓q0a, ↓q09, ↓q01, ↓q07, S62, hl, o1, o2, k1, k2, kCmpI, hz]
theorem kOne2 {R : Type} {p : Tm × Tm} (h1 : okK p.1) (h2 : okK p.2) {H : Heap} {k : AV → Heap → Option R} : polK pOne2 [eP p] H k = k (.int .i64 (oneT p.1 p.2)) H := by
  simp [pOne2, q0b, h1, h2]
end Go.Proofs.YtleikacgncpfbaaDoor

/- Any two terms: which is less, by the program. -/
set_option maxRecDepth 100000
set_option maxHeartbeats 4000000
namespace Go.Proofs.YtleikacgncpfbaaDoor
open Go Go.Den Go.Lib
/-! ### a pile -/
theorem qa0 {sz bytes ty q ver cap : Nat} {es todo news : List AV} {H : Heap} (hH : H[q]? = some (.row ver sz ty es)) (htk : es.take todo.length = todo) (hcap : todo.length ≤ cap) (h0 : 0 < bytes) (hb : (todo.length + news.length) * bytes ≤ 140737488355328) :
    ∃ ver' cap' es', A.append sz bytes ty (.sl q ver 0 todo.length cap) news H = some (.sl q ver' 0 (todo ++ news).length cap', H.set q (.row ver' sz ty es')) ∧ es'.take (todo ++ news).length = todo ++ news ∧ (todo ++ news).length ≤ cap' := by
  have hl : todo.length ≤ es.length := by
    have := congrArg List.length htk
    simp only [List.length_take] at this
    omega
  by_cases hc : todo.length + news.length ≤ cap
  · refine ⟨ver, cap, A.splice es todo.length news, ?_, ?_, by simpa using hc⟩
    · simp only [A.append, hH]
      rw [if_pos ⟨trivial, trivial, trivial, by omega, hcap, hb, h0⟩, if_pos hc]
      simp
    · have : A.splice es todo.length news = es.take todo.length ++ news ++ es.drop (todo.length + news.length) := rfl
      rw [this, htk, List.take_append_of_le_length (by simp), List.take_of_length_le (by simp)]
  · refine ⟨ver + 1, (todo ++ news).length, todo ++ news, ?_, ?_, Nat.le_refl _⟩
    · simp only [A.append, hH]
      rw [if_pos ⟨trivial, trivial, trivial, by omega, hcap, hb, h0⟩, if_neg hc]
      simp [htk]
    · rw [List.take_of_length_le (by simp)]
theorem qd6 : ∀ a b : List Tm, Tm.sizes (a ++ b) = Tm.sizes a + Tm.sizes b
  | [], b => by simp [Tm.sizes]
  | t :: a, b => by simp only [List.cons_append, Tm.sizes, qd6 a b]; omega
theorem szs_rev : ∀ a : List Tm, Tm.sizes a.reverse = Tm.sizes a
  | [] => rfl
  | t :: a => by
    rw [List.reverse_cons, qd6, szs_rev a]
    simp only [Tm.sizes]
    omega
theorem qgj : ∀ l : List Tm, l.length ≤ Tm.sizes l
  | [] => by simp
  | t :: l => by
    have := qgj l
    have h := t.size_eq
    simp only [List.length_cons, Tm.sizes]
    omega
/-! ### what is still to be compared, the next one first -/
noncomputable def cmpSt : List (Tm × Tm) → Int
  | [] => 0
  | p :: r => if cmpT p.1 p.2 ≠ 0 then cmpT p.1 p.2 else cmpSt r
theorem qdn : ∀ (l m : List Tm) (r : List (Tm × Tm)), cmpSt (l.zip m ++ r) = if cmpTs l m ≠ 0 then cmpTs l m else cmpSt r
  | [], m, r => by rw [q2g]; simp
  | t :: l, [], r => by rw [q20]; simp
  | t :: l, u :: m, r => by
    rw [q17]
    show (if cmpT t u ≠ 0 then cmpT t u else cmpSt (l.zip m ++ r)) = _
    rw [qdn l m r]
    by_cases h : cmpT t u = 0
    · have n1 : ¬ cmpT t u ≠ 0 := fun g => g h
      rw [if_neg n1, if_neg n1]
    · rw [if_pos h, if_pos h, if_pos h]
theorem qic (a b : Tm) (r : List (Tm × Tm)) : cmpSt ((a, b) :: r) = if oneT a b ≠ 0 then oneT a b else if a.kind = 4 ∨ a.kind = 6 then cmpSt (a.kids.zip b.kids ++ r) else cmpSt r := by
  show (if cmpT a b ≠ 0 then cmpT a b else cmpSt r) = _
  rw [q3c, qdn]
  by_cases h : oneT a b = 0
  · have n1 : ¬ oneT a b ≠ 0 := fun g => g h
    rw [if_neg n1, if_neg n1]
    split <;> simp
  · rw [if_pos h, if_pos h, if_pos h]
def okOneT (t : Tm) : Prop := okK t ∧ t.kids.length ≤ 1000
def okA (t : Tm) : Prop := evT okOneT t
theorem okA_eq {t : Tm} : okA t ↔ okOneT t ∧ ∀ u ∈ t.kids, okA u := qdu
noncomputable abbrev TCom : List (FuncId × Pol) := [(62, pOne2), (63, pOkind)]
theorem ty_pairs : base.P.underlying 74 = some (.slice 73) := by kernel_rfl
theorem push_loop {a b : Tm} {q : Nat} (hlen : a.kids.length = b.kids.length) : ∀ (j : Nat) (z : Int), z = (j : Int) - 1 → j ≤ a.kids.length → ∀ (Q : List (Tm × Tm)) (H : Heap) (ver cap : Nat) (es : List AV), H[q]? = some (.row ver 14 73 es) → es.take (Q.map eP).length = Q.map eP → (Q.map eP).length ≤ cap → Q.length + j ≤ 100000000000 →
    ∃ H' ver' cap' es', LDoes (L25_1 (polT TCom)) ⟨[.sl q ver 0 (Q.map eP).length cap, .int .i64 z], [(eP (a, b)).cells]⟩ H 0 ⟨[.sl q ver' 0 ((Q ++ ((a.kids.zip b.kids).take j).reverse).map eP).length cap'], []⟩ H' ∧
      H'[q]? = some (.row ver' 14 73 es') ∧ es'.take ((Q ++ ((a.kids.zip b.kids).take j).reverse).map eP).length = (Q ++ ((a.kids.zip b.kids).take j).reverse).map eP ∧ ((Q ++ ((a.kids.zip b.kids).take j).reverse).map eP).length ≤ cap' := by
  have o1 : A.ofList false 1 (eP (a, b)).cells 5 = some (eL 7 eT a.l) := q31 (by rw [q0w]; rfl) (by cases a.l <;> rfl)
  have o2 : A.ofList false 1 (eP (a, b)).cells 12 = some (eL 7 eT b.l) := q31 (by rw [q0w]; rfl) (by cases b.l <;> rfl)
  intro j
  induction j with
  | zero =>
    intro z hz hj Q H ver cap es hH htk hcap hb
    have hz' : ¬ (0 : Int) ≤ z := by omega
    refine ⟨H, ver, cap, es, LDoes.step (Evs.of fun n m => ?_), hH, by simpa using htk, by simpa using hcap⟩
    simp only [List.take_zero, List.reverse_nil, List.append_nil]
    generalize (eP (a, b)).cells = C at *
    generalize (Q.map eP).length = N at *
    simp [↓q00, ↓q01, qam, hz']
  | succ j ih =>
    intro z hz hj Q H ver cap es hH htk hcap hb
    have hz' : (0 : Int) ≤ z := by omega
    have hzj : z = (j : Int) := by omega
    have hja : j < a.kids.length := by omega
    have hjb : j < b.kids.length := by omega
    have x1 : A.idx 7 (eL 7 eT a.l) (.int .i64 (j : Int)) H = some (.rop (eT a.kids[j]).cells) := q16 (sz := 7) (e := eT) (o := a.l) (H := H) (k := .i64) (i := j) hja
    have x2 : A.idx 7 (eL 7 eT b.l) (.int .i64 (j : Int)) H = some (.rop (eT b.kids[j]).cells) := q16 (sz := 7) (e := eT) (o := b.l) (H := H) (k := .i64) (i := j) hjb
    have d1 := q0o (t := a.kids[j]) (H := H)
    have d2 := q0o (t := b.kids[j]) (H := H)
    have hf := fill_eP (a := a.kids[j]) (b := b.kids[j])
    have hfe : A.fillElems 14 [AV.agg [(AV.int .i64 0), (AV.bool false), AV.nils, (AV.str []), (AV.int .i64 0), AV.nils, AV.nils, (AV.int .i64 0), (AV.bool false), AV.nils, (AV.str []), (AV.int .i64 0), AV.nils, AV.nils]] [(0, 1, eP (a.kids[j], b.kids[j]))] = some [eP (a.kids[j], b.kids[j])] := by
      simp [A.fillElems, q5o]
    have hb1 : ((Q.map eP).length + [eP (a.kids[j], b.kids[j])].length) * 224 ≤ 140737488355328 := by
      simp only [List.length_map, List.length_cons, List.length_nil]
      omega
    have hq : q < H.length := (List.getElem?_eq_some_iff.1 hH).1
    have hH1 : (H ++ [HObj.row 0 14 73 [eP (a.kids[j], b.kids[j])]])[q]? = some (.row ver 14 73 es) := by rw [List.getElem?_append_left hq]; exact hH
    have hrd : A.read 14 (.sl H.length 0 0 1 1) (H ++ [HObj.row 0 14 73 [eP (a.kids[j], b.kids[j])]]) = some [eP (a.kids[j], b.kids[j])] := by
      simp [A.read]
    obtain ⟨ver1, cap1, es1, g1, g2, g3⟩ := qa0 (sz := 14) (bytes := 224) (ty := 73) hH1 htk hcap (by omega) hb1
    have hmm : Q.map eP ++ [eP (a.kids[j], b.kids[j])] = (Q ++ [(a.kids[j], b.kids[j])]).map eP := by simp
    rw [hmm] at g1 g2 g3
    obtain ⟨H', ver', cap', es', hL, h1, h2, h3⟩ := ih (z - 1) (by omega) (by omega) (Q ++ [(a.kids[j], b.kids[j])]) ((H ++ [HObj.row 0 14 73 [eP (a.kids[j], b.kids[j])]]).set q (.row ver1 14 73 es1)) ver1 cap1 es1 (List.getElem?_set_self (by simp; omega)) g2 g3 (by simp; omega)
    have hzip : Q ++ ((a.kids.zip b.kids).take (j + 1)).reverse = Q ++ [(a.kids[j], b.kids[j])] ++ ((a.kids.zip b.kids).take j).reverse := by
      have : (a.kids.zip b.kids).take (j + 1) = (a.kids.zip b.kids).take j ++ [(a.kids[j], b.kids[j])] := by
        rw [List.take_succ_eq_append_getElem (by simp; omega)]
        simp
      rw [this, List.reverse_append]
      simp
    rw [hzip]
    have hw : IntKind.wrap .i64 (z - 1) = z - 1 := q0c (by omega) (by omega)
    refine ⟨H', ver', cap', es', LDoes.step (Evs.withL hL (Evs.of fun n m _ h4 => ?_)), h1, h2, h3⟩
    rw [← hzj] at x1 x2
    generalize (eP (a, b)).cells = C at *
    generalize (Q.map eP).length = N at *
    generalize ((Q ++ [(a.kids[j], b.kids[j])]).map eP).length = M at *
    generalize eP (a.kids[j], b.kids[j]) = vp at *
    generalize eT a.kids[j] = va at *
    generalize eT b.kids[j] = vb at *
    simp [↓q00, ↓q06, ↓q09, ↓q01, ↓q0d, ↓q0m, qam, hz', o1, o2, x1, x2, d1, d2, hf, hfe, q0y ty_pairs, hrd, g1, hw, h4]
theorem fits_eP {p : Tm × Tm} : A.fits 14 (eP p) = true := by
  have := q0w p
  unfold A.fits
  rw [this]
  cases p.1.d <;> cases p.2.d <;> cases p.1.l <;> cases p.2.l <;> cases p.1.b <;> cases p.2.b <;> rfl
theorem topP {es : List AV} {Q : List (Tm × Tm)} {x : Tm × Tm} (h : es.take ((Q ++ [x]).map eP).length = (Q ++ [x]).map eP) : es[(Q.map eP).length]? = some (eP x) ∧ (Q.map eP).length + 1 ≤ es.length ∧ es.take (Q.map eP).length = Q.map eP := by
  have e : (Q ++ [x]).map eP = Q.map eP ++ [eP x] := by simp
  rw [e] at h
  generalize Q.map eP = T at *
  have hl := congrArg List.length h
  simp only [List.length_take, List.length_append, List.length_cons, List.length_nil] at hl
  have h2 := congrArg (fun l => l[T.length]?) h
  simp only [List.getElem?_take] at h2
  refine ⟨?_, by omega, ?_⟩
  · rw [if_pos (by simp)] at h2
    rw [h2]
    simp
  · have h3 := congrArg (List.take T.length) h
    rw [List.take_take] at h3
    simpa using h3
theorem com_loop {q : Nat} : ∀ (N : Nat) (P : List (Tm × Tm)) (H : Heap) (ver cap : Nat) (es : List AV), Tm.sizes (P.map Prod.fst) ≤ N → N ≤ 1000000000 → (∀ p ∈ P, okA p.1 ∧ okA p.2) → H[q]? = some (.row ver 14 73 es) → es.take (P.map eP).length = P.map eP → (P.map eP).length ≤ cap →
    ∃ H', LDoes (L25_0 (polT TCom)) ⟨[.sl q ver 0 (P.map eP).length cap], []⟩ H (if cmpSt P.reverse = 0 then 0 else 1) ⟨[if cmpSt P.reverse = 0 then .undef else .int .i64 (cmpSt P.reverse)], []⟩ H' := by
  intro N
  induction N with
  | zero =>
    intro P H ver cap es hs hN hall hH htk hcap
    have hP : P = [] := by
      rcases List.eq_nil_or_concat P with rfl | ⟨Q, x, rfl⟩
      · rfl
      · have := qgj ((Q.concat x).map Prod.fst)
        simp only [List.concat_eq_append, List.length_map, List.length_append, List.length_cons, List.length_nil] at this hs
        omega
    subst hP
    have f0 : A.len (.sl q ver 0 0 cap) H = some (.int .i64 0) := by simp [A.len, A.alive, hH]
    refine ⟨H, LDoes.step (Evs.of fun n m => ?_)⟩
    simp [↓q00, ↓q01, q2q, f0, cmpSt]
  | succ N ih =>
    intro P H ver cap es hs hN hall hH htk hcap
    rcases List.eq_nil_or_concat P with rfl | ⟨Q, x, rfl⟩
    · have f0 : A.len (.sl q ver 0 0 cap) H = some (.int .i64 0) := by simp [A.len, A.alive, hH]
      refine ⟨H, LDoes.step (Evs.of fun n m => ?_)⟩
      simp [↓q00, ↓q01, q2q, f0, cmpSt]
    · simp only [List.concat_eq_append] at *
      obtain ⟨a, b⟩ := x
      obtain ⟨t1, t2, t3⟩ := topP htk
      obtain ⟨ha, hb⟩ := hall (a, b) (by simp)
      have ha1 := okA_eq.1 ha
      have hb1 := okA_eq.1 hb
      have hsz : Tm.sizes (Q.map Prod.fst) + a.size ≤ N + 1 := by
        have : (Q ++ [(a, b)]).map Prod.fst = Q.map Prod.fst ++ [a] := by simp
        rw [this, qd6] at hs
        simp only [Tm.sizes] at hs
        omega
      have hlenQ := qgj (Q.map Prod.fst)
      simp only [List.length_map] at hlenQ
      have hl : ((Q ++ [(a, b)]).map eP).length = (Q.map eP).length + 1 := by simp
      have hlq : (Q.map eP).length = Q.length := by simp
      rw [hl] at hcap ⊢
      have hwl : (Q.map eP).length ≤ 1000000000 := by omega
      have e1 : (((Q.map eP).length + 1 : Nat) : Int) - 1 = ((Q.map eP).length : Int) := by omega
      have hw : IntKind.wrap .i64 ((((Q.map eP).length + 1 : Nat) : Int) - 1) = ((Q.map eP).length : Int) := by rw [q0c (by omega) (by omega), e1]
      have f1 : A.len (.sl q ver 0 ((Q.map eP).length + 1) cap) H = some (.int .i64 (((Q.map eP).length + 1 : Nat) : Int)) := by simp [A.len, A.alive, hH]
      have f2 : A.idx 14 (.sl q ver 0 ((Q.map eP).length + 1) cap) (.int .i64 ((Q.map eP).length : Int)) H = some (.ptr q ver (Q.map eP).length 0) := by
        simp [A.idx, A.aliveZ, hH]
        omega
      have f3 : A.load true 14 (.ptr q ver (Q.map eP).length 0) H = some (eP (a, b)) := by
        have hc : A.ofList true 14 (eP (a, b)).cells 0 = some (eP (a, b)) := of_eP
        simp [A.load, A.elemAt, hH]
        rw [show es[Q.length]? = some (eP (a, b)) by simpa using t1]
        simp [hc]
      have f4 : A.slice 14 (.sl q ver 0 ((Q.map eP).length + 1) cap) none (some (.int .i64 ((Q.map eP).length : Int))) none H = some (.sl q ver 0 (Q.map eP).length cap) := by
        simp [A.slice, A.bound, A.aliveZ, hH]
        omega
      have f5 : A.splice [(AV.int .i64 0), (AV.bool false), AV.nils, (AV.str []), (AV.int .i64 0), AV.nils, AV.nils, (AV.int .i64 0), (AV.bool false), AV.nils, (AV.str []), (AV.int .i64 0), AV.nils, AV.nils] 0 (eP (a, b)).cells = (eP (a, b)).cells := by
        rw [q0w]; rfl
      have f6 : A.fits 14 (eP (a, b)) = true := fits_eP
      have f7 := q5o (p := (a, b))
      have f8 := of_eP (p := (a, b))
      have f9 := of_eP1 (p := (a, b))
      have k1 : ∀ (R : Type) (H : Heap) (k : AV → Heap → Option R), polK pOne2 [eP (a, b)] H k = k (.int .i64 (oneT a b)) H := fun R H k => kOne2 (p := (a, b)) ha1.1.1 hb1.1.1
      have k2 : ∀ (R : Type) (H : Heap) (k : AV → Heap → Option R), polK pOkind [eT a] H k = k (.int .i64 a.kind) H := fun R H k => kOkind ha1.1.1.1 ha1.1.1.2.1
      have hrev : (Q ++ [(a, b)]).reverse = (a, b) :: Q.reverse := by simp
      rw [hrev, qic]
      have hpos : (0 : Int) < (((Q.map eP).length + 1 : Nat) : Int) := by omega
      have ihq := ih Q H ver cap es (by have := a.size_eq; omega) (by omega) (fun p hp => hall p (by simp [hp])) hH t3 (by omega)
      by_cases hc : oneT a b = 0
      · have n1 : ¬ oneT a b ≠ 0 := fun g => g hc
        rw [if_neg n1]
        rw [hc] at k1
        by_cases hk : a.kind = 4 ∨ a.kind = 6
        · rw [if_pos hk]
          have hll := qcp hc hk
          have o1 : A.ofList false 1 (eP (a, b)).cells 5 = some (eL 7 eT a.l) := q31 (by rw [q0w]; rfl) (by cases a.l <;> rfl)
          have l1 : A.len (eL 7 eT a.l) H = some (.int .i64 ((a.kids.length : Nat) : Int)) := q08
          obtain ⟨H1, ver1, cap1, es1, hL1, g1, g2, g3⟩ := push_loop (a := a) (b := b) (q := q) hll a.kids.length ((a.kids.length : Int) - 1) rfl (Nat.le_refl _) Q H ver cap es hH t3 (by omega) (by have := ha1.1.2; simp only [] at this; omega)
          have htake : (a.kids.zip b.kids).take a.kids.length = a.kids.zip b.kids := List.take_of_length_le (by simp; omega)
          rw [htake] at hL1 g2 g3
          have hmf : ((Q ++ (a.kids.zip b.kids).reverse).map Prod.fst) = Q.map Prod.fst ++ a.kids.reverse := by
            rw [List.map_append, List.map_reverse, List.map_fst_zip (by omega)]
          obtain ⟨H2, hL2⟩ := ih (Q ++ (a.kids.zip b.kids).reverse) H1 ver1 cap1 es1 (by
            rw [hmf, qd6, szs_rev]
            have := a.size_eq
            omega) (by omega) (fun p hp => by
              rcases List.mem_append.1 hp with hp | hp
              · exact hall p (by simp [hp])
              · have hp := List.mem_reverse.1 hp
                exact ⟨ha1.2 _ (List.of_mem_zip hp).1, hb1.2 _ (List.of_mem_zip hp).2⟩) g1 g2 g3
          have hrv : (Q ++ (a.kids.zip b.kids).reverse).reverse = a.kids.zip b.kids ++ Q.reverse := by simp
          rw [hrv] at hL2
          have hw2 : IntKind.wrap .i64 ((a.kids.length : Int) - 1) = (a.kids.length : Int) - 1 := by
            have := ha1.1.2
            simp only [] at this
            exact q0c (by omega) (by omega)
          refine ⟨H2, LDoes.step (Evs.withL hL1 (Evs.withL hL2 (Evs.of fun n m _ h2 h1 _ => ?_)))⟩
          have hk2 : a.kind ≠ 4 → a.kind = 6 := fun h => by omega
          generalize ((Q ++ (a.kids.zip b.kids).reverse).map eP).length = M at *
          generalize cmpSt (a.kids.zip b.kids ++ Q.reverse) = Z at *
          generalize (Q.map eP).length = QL at *
          generalize ((QL + 1 : Nat) : Int) = N1 at *
          generalize (a.kids.length : Int) = L at *
          rcases hk with hk | hk
          · rw [hk] at k2
            simp [↓q00, ↓q06, ↓q0a, ↓q01, ↓q03, ↓q02, ↓q05, ↓q07, -q08, q2q, f1, f2, f3, f4, f5, f6, f7, f8, f9, hw, hpos, k1, k2, o1, l1, hw2, h1, h2]
          · rw [hk] at k2
            simp [↓q00, ↓q06, ↓q0a, ↓q01, ↓q03, ↓q02, ↓q05, ↓q07, -q08, q2q, f1, f2, f3, f4, f5, f6, f7, f8, f9, hw, hpos, k1, k2, o1, l1, hw2, h1, h2]
        · rw [if_neg hk]
          obtain ⟨H2, hL2⟩ := ihq
          refine ⟨H2, LDoes.step (Evs.withL hL2 (Evs.of fun n m _ h2 => ?_))⟩
          have hk4 : ¬ a.kind = 4 := by omega
          have hk6 : ¬ a.kind = 6 := by omega
          generalize cmpSt Q.reverse = Z at *
          generalize (Q.map eP).length = QL at *
          generalize ((QL + 1 : Nat) : Int) = N1 at *
          simp [↓q00, ↓q06, ↓q0a, ↓q01, ↓q03, ↓q02, ↓q05, ↓q07, q2q, f1, f2, f3, f4, f5, f6, f7, f8, f9, hw, hpos, k1, k2, hk4, hk6, h2]
      · rw [if_pos hc, if_neg hc, if_neg hc]
        refine ⟨H, LDoes.step (Evs.of fun n m => ?_)⟩
        generalize oneT a b = Z at *
        generalize (Q.map eP).length = QL at *
        generalize ((QL + 1 : Nat) : Int) = N1 at *
        simp [↓q00, ↓q06, ↓q0a, ↓q01, ↓q05, ↓q07, q2q, f1, f2, f3, f4, f5, f6, f7, f8, hw, hpos, k1, hc]
noncomputable def pCom : Pol := .still (p2 cT cT (.int .i64) (fun a b => okA a ∧ okA b ∧ a.size ≤ 1000000000) cmpT)
theorem okCom : PolOK base 25 pCom := still2 base_ok TCom ⟨okOne2, okOkind, trivial⟩ fun a b ⟨ha, hb, hs⟩ => by
  obtain ⟨H', hL⟩ := com_loop (q := 0) a.size [(a, b)] [.row 0 14 73 [eP (a, b)]] 0 1 [eP (a, b)] (by simp [Tm.sizes]) hs (fun p hp => by
    simp only [List.mem_singleton] at hp
    subst hp
    exact ⟨ha, hb⟩) rfl rfl (Nat.le_refl _)
  have hf := fill_eP (a := a) (b := b)
  have hfe : A.fillElems 14 [AV.agg [(AV.int .i64 0), (AV.bool false), AV.nils, (AV.str []), (AV.int .i64 0), AV.nils, AV.nils, (AV.int .i64 0), (AV.bool false), AV.nils, (AV.str []), (AV.int .i64 0), AV.nils, AV.nils]] [(0, 1, eP (a, b))] = some [eP (a, b)] := by
    simp [A.fillElems, q5o]
  have la : (eT a).cells.length = 7 := by rw [q04]; rfl
  have lb : (eT b).cells.length = 7 := by rw [q04]; rfl
  have oa : A.ofList true 7 (eT a).cells 0 = some (eT a) := q0o (H := [])
  have ob : A.ofList true 7 (eT b).cells 0 = some (eT b) := q0o (H := [])
  have hz : cmpSt [(a, b)].reverse = cmpT a b := by
    show (if cmpT a b ≠ 0 then cmpT a b else 0) = _
    split <;> omega
  rw [hz] at hL
  refine Evs.withL hL (Evs.of fun n m h _ => ?_)
  have e1 : (List.map eP [(a, b)]).length = 1 := rfl
  rw [e1] at h
  generalize cmpT a b = Z at *
  by_cases h0 : Z = 0
  · simp [↓q06, ↓q0a, ↓q09, ↓q01, ↓q0d, ↓q05, ↓q07, -q04, S25, la, lb, oa, ob, hf, hfe, h, h0]
  · simp [↓q06, ↓q0a, ↓q09, ↓q01, ↓q0d, ↓q05, ↓q07, -q04, S25, la, lb, oa, ob, hf, hfe, h, h0]
theorem kCom {R : Type} {a b : Tm} (ha : okA a) (hb : okA b) (hs : a.size ≤ 1000000000) {H : Heap} {k : AV → Heap → Option R} : polK pCom [eT a, eT b] H k = k (.int .i64 (cmpT a b)) H := by
  simp [pCom, q0b, ha, hb, hs]
theorem qCom {R : Type} {a b : Tm} (ha : okA a) (hb : okA b) (hs : a.size ≤ 1000000000) {H : Heap} {k : AV → Heap → Option R} : polQ pCom [eT a, eT b] H k = k (.int .i64 (cmpT a b)) H := by
  simp [pCom, q1w, ha, hb, hs]
end Go.Proofs.YtleikacgncpfbaaDoor

/- Terms, the reference: how many parts a term has. -/
set_option maxRecDepth 100000
set_option maxHeartbeats 4000000
namespace Go.Proofs.YtleikacgncpfbaaDoor
open Go Go.Den
theorem szs_drop {l : List Tm} {i : Nat} (h : i < l.length) : szs (l.drop i) = szT l[i] + szs (l.drop (i + 1)) := by
  rw [List.drop_eq_getElem_cons h, szs]
theorem min_int {a b : Int} {k : IntKind} : A.minv (.int k a) (.int k b) = some (.int k (if b < a then b else a)) := by simp [A.minv]
noncomputable def pRtree (n : Nat) : Pol := .still (p1 cT (fun n : Nat => .int .i64 (n : Int)) (fun t => t.size ≤ n ∧ t.thin 1000) (fun t => min (szT t) 65537))
theorem kRtree {n : Nat} {R : Type} {t : Tm} (h : t.size ≤ n) (h2 : t.thin 1000) {H : Heap} {k : AV → Heap → Option R} : polK (pRtree n) [eT t] H k = k (.int .i64 ((min (szT t) 65537 : Nat) : Int)) H := by
  simp [pRtree, q0b, h, h2]
theorem qj6 {n : Nat} {t : Tm} {H : Heap} (hs : t.size ≤ n + 1) (ht : t.thin 1000) (hB : Go.Den.Box H 0 7 26 (eT t).cells) : ∀ (k i c : Nat), i + k = t.kids.length → c ≤ 200000 →
    ∃ c' : Nat, min c' 65537 = min (c + szs (t.kids.drop i)) 65537 ∧ LDoes (qi5 (polT [(20, pRtree n)])) ⟨[.ptr 0 0 0 0, .int .i64 (c : Int), .int .i64 (i : Int)], []⟩ H 0 ⟨[.int .i64 (c' : Int)], []⟩ H := by
  have p1 := hB.fa (o := 5)
  have p2 := hB.load (o := 5)
  rw [q04] at p2
  simp only [List.getElem?_cons_succ, List.getElem?_cons_zero] at p2
  have hl : t.kids.length ≤ 1000 := (Tm.thin_eq.1 ht).1
  have hlen : A.len (eL 7 eT t.l) H = some (.int .i64 ((t.kids.length : Nat) : Int)) := q08
  intro k
  induction k with
  | zero =>
    intro i c hi hc
    have : i = t.kids.length := by omega
    subst this
    have h0 : szs [] = 0 := by rw [szs]
    rw [List.drop_length, h0]
    refine ⟨c, rfl, LDoes.step (Evs.of fun n m => ?_)⟩
    generalize (t.kids.length : Int) = N at *
    simp [↓q00, ↓q01, ↓q03, ↓q02, q76, p1, p2, hlen]
  | succ k ih =>
    intro i c hi hc
    have hlt : i < t.kids.length := by omega
    have hlt' : (i : Int) < (t.kids.length : Int) := by omega
    by_cases h6 : c ≤ 65536
    · have h6' : (c : Int) ≤ 65536 := by omega
      have hx : A.idx 7 (eL 7 eT t.l) (.int .i64 (i : Int)) H = some (.rop (eT t.kids[i]).cells) := q16 (sz := 7) (e := eT) (o := t.l) (H := H) (k := .i64) (i := i) hlt
      have hi1 : IntKind.wrap .i64 ((i : Int) + 1) = (i : Int) + 1 := q0c (by omega) (by omega)
      have hsz : (t.kids[i]).size ≤ n := by
        have := Tm.size_kid (t := t) (u := t.kids[i]) (List.getElem_mem hlt)
        omega
      have hr : ∀ (R : Type) (H : Heap) (k : AV → Heap → Option R), polK (pRtree n) [eT t.kids[i]] H k = k (.int .i64 ((min (szT t.kids[i]) 65537 : Nat) : Int)) H := fun R H k => kRtree hsz ((Tm.thin_eq.1 ht).2 _ (List.getElem_mem hlt))
      have hld := q0o (t := t.kids[i]) (H := H)
      generalize hm : min (szT t.kids[i]) 65537 = m at *
      obtain ⟨c', hc', hL⟩ := ih (i + 1) (c + m) (by omega) (by omega)
      have hw : IntKind.wrap .i64 ((c : Int) + (m : Int)) = (c : Int) + (m : Int) := q0c (by omega) (by omega)
      simp only [Int.natCast_add, Int.natCast_one] at hL
      refine ⟨c', ?_, LDoes.step (Evs.withL hL (Evs.of fun n m _ h2 => ?_))⟩
      · rw [hc', szs_drop hlt]
        omega
      · generalize (eT t.kids[i]).cells = cs at *
        generalize eT t.kids[i] = v at *
        generalize (t.kids.length : Int) = N at *
        simp [↓q00, ↓q01, ↓q03, ↓q02, q76, p1, p2, hlen, hlt', h6', hx, hld, hr, hw, hi1, h2]
    · have h6' : ¬ (c : Int) ≤ 65536 := by omega
      refine ⟨c, by omega, LDoes.step (Evs.of fun n m => ?_)⟩
      generalize (t.kids.length : Int) = N at *
      simp [↓q00, ↓q01, ↓q03, ↓q02, q76, p1, p2, hlen, hlt', h6']
theorem okRtree : ∀ n, PolOK base 20 (pRtree n)
  | 0 => still1 base_ok [] trivial fun t ⟨hs, _⟩ => by
    have := t.size_eq
    omega
  | n + 1 => still1 base_ok [(20, pRtree n)] ⟨okRtree n, trivial⟩ fun t ⟨hs, ht⟩ => by
    have hB := q87 t [.row 0 7 26 [eT t]] 0 rfl
    have p := fun o => hB.fa (o := o)
    have q := fun o => hB.load (o := o)
    rw [q04] at q
    have q0 := q 0
    simp only [List.getElem?_cons_zero] at q0
    have hce : (eT t).cells.length = 7 := by rw [q04]; rfl
    obtain ⟨c', hc', hL⟩ := qj6 (n := n) (t := t) hs ht hB t.kids.length 0 1 (by omega) (by omega)
    have hmin : ∀ a : Nat, A.minv (.int .i64 (a : Int)) (.int .i64 65537) = some (.int .i64 ((min a 65537 : Nat) : Int)) := fun a => by
      rw [min_int]
      congr 2
      split <;> omega
    refine Evs.withL hL (Evs.of fun n m h1 _ => ?_)
    rw [szT_eq]
    unfold partsO
    by_cases c4 : t.kind = 4
    · have e : min c' 65537 = min (1 + szs (t.l.getD [])) 65537 := hc'
      rw [if_pos (Or.inl c4), ← e]
      rw [c4] at q0
      have h1' : qi5 (polT [(20, pRtree _)]) n n ⟨[.ptr 0 0 0 0, .int .i64 1, .int .i64 0], []⟩ [.row 0 7 26 [eT t]] = some (0, ⟨[.int .i64 (c' : Int)], []⟩, [.row 0 7 26 [eT t]]) := h1
      have hm := hmin c'
      generalize ((min c' 65537 : Nat) : Int) = r at *
      simp [-q04, S20, hce, p, q0, h1', hm]
    · by_cases c6 : t.kind = 6
      · have e : min c' 65537 = min (1 + szs (t.l.getD [])) 65537 := hc'
        rw [if_pos (Or.inr c6), ← e]
        rw [c6] at q0
        have h1' : qi5 (polT [(20, pRtree _)]) n n ⟨[.ptr 0 0 0 0, .int .i64 1, .int .i64 0], []⟩ [.row 0 7 26 [eT t]] = some (0, ⟨[.int .i64 (c' : Int)], []⟩, [.row 0 7 26 [eT t]]) := h1
        have hm := hmin c'
        generalize ((min c' 65537 : Nat) : Int) = r at *
        simp [-q04, S20, hce, p, q0, h1', hm]
      · rw [if_neg (by omega)]
        have e0 : min (1 + szs ((none : Option (List Tm)).getD [])) 65537 = 1 := by
          have h0 : szs [] = 0 := by rw [szs]
          show min (1 + szs []) 65537 = 1
          rw [h0]
          rfl
        have hm := hmin 1
        rw [e0]
        simp only [Int.natCast_one] at hm
        simp [-q04, S20, hce, p, q0, c4, c6]
end Go.Proofs.YtleikacgncpfbaaDoor

/- Terms, the reference: how many words a term takes. -/
set_option maxRecDepth 100000
set_option maxHeartbeats 4000000
namespace Go.Proofs.YtleikacgncpfbaaDoor
open Go Go.Den
def fineW (t : Tm) : Prop := t.thin 1000 ∧ t.fewd ∧ szT t ≤ 65536
noncomputable def pRwords (n : Nat) : Pol := .still (p1 cT (fun n : Nat => .int .i64 (n : Int)) (fun t => t.size ≤ n ∧ fineW t) wT)
noncomputable abbrev TRw (n : Nat) : List (FuncId × Pol) := [(22, pRwords n), (33, pSmallof), (35, pRnorm)]
end Go.Proofs.YtleikacgncpfbaaDoor

/- Terms, the reference: may one be, but for how many parts it has. -/
set_option maxRecDepth 100000
set_option maxHeartbeats 8000000
namespace Go.Proofs.YtleikacgncpfbaaDoor
open Go Go.Den
theorem q0z {t : TypeId} {c : Bool} {H : Heap} (s : List UInt8) : A.bin base.P .neq t (.str s) (.str []) c H = some (.bool (!decide (s = []))) := by
  cases s <;> rfl
theorem q4d {a : Nm} (h : few a.2) : few (rnormS a).2 := by
  unfold few at h ⊢
  have e : (rnormS a).2.getD [] = lim (val (a.2.getD [])) := by
    unfold rnormS
    cases lim (val (a.2.getD [])) <;> rfl
  have := q22 (a.2.getD [])
  rw [e]
  omega
noncomputable def pRmay (n : Nat) : Pol := .still (p1 cT .bool (fun t => t.size ≤ n ∧ tame t) (mayT countR))
theorem kRmay {n : Nat} {R : Type} {t : Tm} (h : t.size ≤ n) (h2 : tame t) {H : Heap} {k : AV → Heap → Option R} : polK (pRmay n) [eT t] H k = k (.bool (mayT countR t)) H := by
  simp [pRmay, q0b, h, h2]
noncomputable abbrev TRm (n : Nat) : List (FuncId × Pol) := [(57, pRmay n), (35, pRnorm), (34, pSame), (80, q2l), (81, q42)]
theorem q4q {n : Nat} {t : Tm} {H : Heap} (hs : t.size ≤ n + 1) (ht : tame t) (hB : Go.Den.Box H 0 7 26 (eT t).cells) : ∀ (k i : Nat), i + k = t.kids.length →
    LDoes (L57_0 (polT (TRm n))) ⟨[.ptr 0 0 0 0, .int .i64 (i : Int)], []⟩ H (if (t.kids.drop i).all (mayT countR) then 0 else 1) ⟨[if (t.kids.drop i).all (mayT countR) then .undef else .bool false], []⟩ H := by
  have p1 := hB.fa (o := 5)
  have p2 := hB.load (o := 5)
  rw [q04] at p2
  simp only [List.getElem?_cons_succ, List.getElem?_cons_zero] at p2
  have hl : t.kids.length ≤ 1000 := (tame_eq.1 ht).1.2.2
  have hlen : A.len (eL 7 eT t.l) H = some (.int .i64 ((t.kids.length : Nat) : Int)) := q08
  intro k
  induction k with
  | zero =>
    intro i hi
    have : i = t.kids.length := by omega
    subst this
    rw [List.drop_length]
    refine LDoes.step (Evs.of fun n m => ?_)
    generalize (t.kids.length : Int) = N at *
    simp [-q08, q7d, p1, p2, hlen]
  | succ k ih =>
    intro i hi
    have hlt : i < t.kids.length := by omega
    have hlt' : (i : Int) < (t.kids.length : Int) := by omega
    have hmem : t.kids[i] ∈ t.kids := List.getElem_mem hlt
    have hx : A.idx 7 (eL 7 eT t.l) (.int .i64 (i : Int)) H = some (.rop (eT t.kids[i]).cells) := q16 (sz := 7) (e := eT) (o := t.l) (H := H) (k := .i64) (i := i) hlt
    have hi1 : IntKind.wrap .i64 ((i : Int) + 1) = (i : Int) + 1 := q0c (by omega) (by omega)
    have hsz : (t.kids[i]).size ≤ n := by
      have := Tm.size_kid (t := t) (u := t.kids[i]) hmem
      omega
    have hr : ∀ (R : Type) (H : Heap) (k : AV → Heap → Option R), polK (pRmay n) [eT t.kids[i]] H k = k (.bool (mayT countR t.kids[i])) H := fun R H k => kRmay hsz ((tame_eq.1 ht).2 _ hmem)
    have hld := q0o (t := t.kids[i]) (H := H)
    have hL := ih (i + 1) (by omega)
    simp only [Int.natCast_add, Int.natCast_one] at hL
    rw [List.drop_eq_getElem_cons hlt, List.all_cons]
    generalize (t.kids.drop (i + 1)).all (mayT countR) = rest at *
    generalize (eT t.kids[i]).cells = cs at *
    generalize (t.kids.length : Int) = N at *
    cases hm : mayT countR t.kids[i]
    · rw [hm] at hr
      generalize eT t.kids[i] = v at *
      refine LDoes.step (Evs.of fun n m => ?_)
      simp [-q08, q7d, p1, p2, hlen, hlt', hx, hld, hr]
    · rw [hm] at hr
      generalize eT t.kids[i] = v at *
      refine LDoes.step (Evs.withL hL (Evs.of fun n m _ h2 => ?_))
      simp [-q08, q7d, p1, p2, hlen, hlt', hx, hld, hr, hi1, h2]
end Go.Proofs.YtleikacgncpfbaaDoor

/- Terms, the reference: may one be, but for how many parts it has: kinds 0, 1. -/
set_option maxRecDepth 100000
set_option maxHeartbeats 8000000
namespace Go.Proofs.YtleikacgncpfbaaDoor
open Go Go.Den
theorem rmay_A (n : Nat) (t : Tm) (hs : t.size ≤ n + 1) (ht : tame t) (hkd : t.kind = 0 ∨ t.kind = 1) : Evs fun n' _ => callF (base.with (polT (TRm n))) (n' + 1) AV 57 [cT.enc t] [] (fun v G => A.freezeB true 64 G v) = some (.bool (mayT countR t)) := by
  have hB : Go.Den.Box [.row 0 7 26 [eT t]] 0 7 26 (eT t).cells := q87 t _ 0 rfl
  have p := fun o => hB.fa (o := o)
  have q := fun o => hB.load (o := o)
  rw [q04] at q
  have q0 := q 0
  have q1 := q 1
  have q2 := q 2
  have q3 := q 3
  have q4 := q 4
  have q5 := q 5
  have q6 := q 6
  simp only [List.getElem?_cons_succ, List.getElem?_cons_zero] at q0 q1 q2 q3 q4 q5 q6
  have hcl : (eT t).cells.length = 7 := by rw [q04]; rfl
  have hl5 : A.len (eL 7 eT t.l) [.row 0 7 26 [eT t]] = some (.int .i64 ((t.kids.length : Nat) : Int)) := q08
  have hl2 : A.len (eD t.d) [.row 0 7 26 [eT t]] = some (.int .i64 ((t.d.getD []).length : Int)) := q08
  have hl6 : A.len (eL 1 eb t.b) [.row 0 7 26 [eT t]] = some (.int .i64 ((t.b.getD []).length : Int)) := q08
  have hsn := fun H => q0z (t := 9) (c := true) (H := H) t.name
  have hs0 := fun H => q0z (t := 9) (c := true) (H := H) []
  have hfew : few t.d := (tame_eq.1 ht).1.1
  have hnl : q1k t.name := (tame_eq.1 ht).1.2.1
  have hnm : ∀ (R : Type) (H : Heap) (k : AV → Heap → Option R), polK pRnorm [.agg [.bool t.neg, eD t.d]] H k = k (eN (rnormS (t.neg, t.d))) H := fun R H k => kRnorm (a := (t.neg, t.d)) hfew
  have hsm : ∀ (R : Type) (H : Heap) (k : AV → Heap → Option R), polK pSame [.agg [.bool t.neg, eD t.d], eN (rnormS (t.neg, t.d))] H k = k (.bool (sameS (t.neg, t.d) (rnormS (t.neg, t.d)))) H := fun R H k => kSame (a := (t.neg, t.d)) hfew (q4d hfew)
  have hfill : A.fill [.bool false, .nils] [(0, 1, .bool t.neg), (1, 1, eD t.d)] = some [.bool t.neg, eD t.d] := by simp [A.fill, A.splice]
  have hva : ∀ (R : Type) (H : Heap) (k : AV → Heap → Option R), polK q2l [.str t.name] H k = k (.bool (Lib.validD t.name)) H := fun R H k => q3e
  have hco : ∀ (R : Type) (H : Heap) (k : AV → Heap → Option R), polK q42 [.str t.name] H k = k (.int .i64 (countR t.name)) H := fun R H k => q9q hnl
  have hcv := countR_valid (s := t.name)
  have hL := q4q hs ht hB t.kids.length 0 (by omega)
  rw [List.drop_zero] at hL
  have hrest : ∀ kd, t.kind = kd → (kd = 4 ∨ kd = 6) → ((partsO t).getD []).all (mayT countR) = t.kids.all (mayT countR) := fun kd e hkd => by
    unfold partsO
    rw [if_pos (by rw [e]; exact hkd)]
    rfl
  have hrest0 : t.kind ≠ 4 → t.kind ≠ 6 → ((partsO t).getD []).all (mayT countR) = true := fun e1 e2 => by
    unfold partsO
    rw [if_neg (by omega)]
    rfl
  rw [q4o]
  unfold oneS spareS
  rw [← q3o]
  generalize sameS (t.neg, t.d) (rnormS (t.neg, t.d)) = sn at *
  generalize rnormS (t.neg, t.d) = rn at *
  generalize ((partsO t).getD []).all (mayT countR) = rest at *
  generalize t.kids.all (mayT countR) = kall at *
  generalize countR t.name = cn at *
  generalize Lib.validD t.name = vn at *
  generalize t.kids.length = nl at *
  generalize (t.d.getD []).length = nd at *
  generalize (t.b.getD []).length = nb at *
  generalize t.kind = kd at *
  generalize t.neg = ng at *
  generalize t.n = nn at *
  generalize eL 7 eT t.l = vl at *
  generalize eD t.d = vd at *
  generalize eL 1 eb t.b = vb at *
  clear q
  have e64 : decide ((nd : Int) ≤ 64) = decide (nd ≤ 64) := decide_eq_decide.2 (by omega)
  have e4096 : decide ((nb : Int) ≤ 4096) = decide (nb ≤ 4096) := decide_eq_decide.2 (by omega)
  by_cases c0 : kd = 0
  case pos =>
    by_cases a5 : t.name = []
    case neg =>
      exact Evs.of fun n m => by simp [-q08, -q04, S57, hcl, p, q0, q2, q3, q6, hl2, hl6, hsn, c0, a5]
    by_cases a3 : nn = 0
    case neg =>
      exact Evs.of fun n m => by simp [-q08, -q04, S57, hcl, p, q0, q2, q3, q4, q6, hl2, hl6, hs0, c0, a5, a3]
    by_cases a4 : nl = 0
    case neg =>
      have a4p : 0 < nl := by omega
      exact Evs.of fun n m => by simp [-q08, -q04, S57, hcl, p, q0, q2, q3, q4, q5, q6, hl5, hl2, hl6, hs0, c0, a5, a3, a4, a4p]
    by_cases a6 : nb = 0
    case neg =>
      have a6p : 0 < nb := by omega
      exact Evs.of fun n m => by simp [-q08, -q04, S57, hcl, p, q0, q2, q3, q4, q5, q6, hl5, hl2, hl6, hs0, c0, a5, a3, a4, a6, a6p]
    have hr := hrest0 (by omega) (by omega)
    by_cases h64 : nd ≤ 64
    · exact Evs.of fun n m => by simp [-q08, -q04, S57, hcl, p, q0, q1, q2, q3, q4, q5, q6, hl5, hl2, hl6, hs0, c0, a5, a3, a4, a6, e64, h64, hfill, hnm, hsm, hr, AV.beq_refl, AV.heapy]
    · exact Evs.of fun n m => by simp [-q08, -q04, S57, hcl, p, q0, q2, q3, q4, q5, q6, hl5, hl2, hl6, hs0, c0, a5, a3, a4, a6, e64, h64, hr, AV.heapy]
  by_cases c1 : kd = 1
  case pos =>
    by_cases a1 : ng = true
    case pos =>
      exact Evs.of fun n m => by simp [-q08, -q04, S57, hcl, p, q0, q1, q2, q3, q6, hl2, hl6, c1, a1]
    by_cases a2 : nd = 0
    case neg =>
      have a2p : 0 < nd := by omega
      exact Evs.of fun n m => by simp [-q08, -q04, S57, hcl, p, q0, q1, q2, q3, q6, hl2, hl6, c1, a1, a2, a2p]
    by_cases a3 : nn = 0
    case neg =>
      exact Evs.of fun n m => by simp [-q08, -q04, S57, hcl, p, q0, q1, q2, q3, q4, q6, hl2, hl6, c1, a1, a2, a3]
    by_cases a4 : nl = 0
    case neg =>
      have a4p : 0 < nl := by omega
      exact Evs.of fun n m => by simp [-q08, -q04, S57, hcl, p, q0, q1, q2, q3, q4, q5, q6, hl5, hl2, hl6, c1, a1, a2, a3, a4, a4p]
    by_cases a6 : nb = 0
    case neg =>
      have a6p : 0 < nb := by omega
      exact Evs.of fun n m => by simp [-q08, -q04, S57, hcl, p, q0, q1, q2, q3, q4, q5, q6, hl5, hl2, hl6, c1, a1, a2, a3, a4, a6, a6p]
    have hr := hrest0 (by omega) (by omega)
    cases vn
    · have h0 : ¬ 0 ≤ cn := fun h => by simpa using hcv.1 h
      exact Evs.of fun n m => by simp [-q08, -q04, S57, hcl, p, q0, q1, q2, q3, q4, q5, q6, hl5, hl2, hl6, c1, a1, a2, a3, a4, a6, hva, h0, hr]
    · have h0 : 0 ≤ cn := hcv.2 rfl
      exact Evs.of fun n m => by simp [-q08, -q04, S57, hcl, p, q0, q1, q2, q3, q4, q5, q6, hl5, hl2, hl6, c1, a1, a2, a3, a4, a6, hva, hco, h0, hr]
  omega
end Go.Proofs.YtleikacgncpfbaaDoor

/- Terms, the reference: may one be, but for how many parts it has: kinds 2, 3. -/
set_option maxRecDepth 100000
set_option maxHeartbeats 8000000
namespace Go.Proofs.YtleikacgncpfbaaDoor
open Go Go.Den
theorem rmay_B (n : Nat) (t : Tm) (hs : t.size ≤ n + 1) (ht : tame t) (hkd : t.kind = 2 ∨ t.kind = 3) : Evs fun n' _ => callF (base.with (polT (TRm n))) (n' + 1) AV 57 [cT.enc t] [] (fun v G => A.freezeB true 64 G v) = some (.bool (mayT countR t)) := by
  have hB : Go.Den.Box [.row 0 7 26 [eT t]] 0 7 26 (eT t).cells := q87 t _ 0 rfl
  have p := fun o => hB.fa (o := o)
  have q := fun o => hB.load (o := o)
  rw [q04] at q
  have q0 := q 0
  have q1 := q 1
  have q2 := q 2
  have q3 := q 3
  have q4 := q 4
  have q5 := q 5
  have q6 := q 6
  simp only [List.getElem?_cons_succ, List.getElem?_cons_zero] at q0 q1 q2 q3 q4 q5 q6
  have hcl : (eT t).cells.length = 7 := by rw [q04]; rfl
  have hl5 : A.len (eL 7 eT t.l) [.row 0 7 26 [eT t]] = some (.int .i64 ((t.kids.length : Nat) : Int)) := q08
  have hl2 : A.len (eD t.d) [.row 0 7 26 [eT t]] = some (.int .i64 ((t.d.getD []).length : Int)) := q08
  have hl6 : A.len (eL 1 eb t.b) [.row 0 7 26 [eT t]] = some (.int .i64 ((t.b.getD []).length : Int)) := q08
  have hsn := fun H => q0z (t := 9) (c := true) (H := H) t.name
  have hs0 := fun H => q0z (t := 9) (c := true) (H := H) []
  have hfew : few t.d := (tame_eq.1 ht).1.1
  have hnl : q1k t.name := (tame_eq.1 ht).1.2.1
  have hnm : ∀ (R : Type) (H : Heap) (k : AV → Heap → Option R), polK pRnorm [.agg [.bool t.neg, eD t.d]] H k = k (eN (rnormS (t.neg, t.d))) H := fun R H k => kRnorm (a := (t.neg, t.d)) hfew
  have hsm : ∀ (R : Type) (H : Heap) (k : AV → Heap → Option R), polK pSame [.agg [.bool t.neg, eD t.d], eN (rnormS (t.neg, t.d))] H k = k (.bool (sameS (t.neg, t.d) (rnormS (t.neg, t.d)))) H := fun R H k => kSame (a := (t.neg, t.d)) hfew (q4d hfew)
  have hfill : A.fill [.bool false, .nils] [(0, 1, .bool t.neg), (1, 1, eD t.d)] = some [.bool t.neg, eD t.d] := by simp [A.fill, A.splice]
  have hva : ∀ (R : Type) (H : Heap) (k : AV → Heap → Option R), polK q2l [.str t.name] H k = k (.bool (Lib.validD t.name)) H := fun R H k => q3e
  have hco : ∀ (R : Type) (H : Heap) (k : AV → Heap → Option R), polK q42 [.str t.name] H k = k (.int .i64 (countR t.name)) H := fun R H k => q9q hnl
  have hcv := countR_valid (s := t.name)
  have hL := q4q hs ht hB t.kids.length 0 (by omega)
  rw [List.drop_zero] at hL
  have hrest : ∀ kd, t.kind = kd → (kd = 4 ∨ kd = 6) → ((partsO t).getD []).all (mayT countR) = t.kids.all (mayT countR) := fun kd e hkd => by
    unfold partsO
    rw [if_pos (by rw [e]; exact hkd)]
    rfl
  have hrest0 : t.kind ≠ 4 → t.kind ≠ 6 → ((partsO t).getD []).all (mayT countR) = true := fun e1 e2 => by
    unfold partsO
    rw [if_neg (by omega)]
    rfl
  rw [q4o]
  unfold oneS spareS
  rw [← q3o]
  generalize sameS (t.neg, t.d) (rnormS (t.neg, t.d)) = sn at *
  generalize rnormS (t.neg, t.d) = rn at *
  generalize ((partsO t).getD []).all (mayT countR) = rest at *
  generalize t.kids.all (mayT countR) = kall at *
  generalize countR t.name = cn at *
  generalize Lib.validD t.name = vn at *
  generalize t.kids.length = nl at *
  generalize (t.d.getD []).length = nd at *
  generalize (t.b.getD []).length = nb at *
  generalize t.kind = kd at *
  generalize t.neg = ng at *
  generalize t.n = nn at *
  generalize eL 7 eT t.l = vl at *
  generalize eD t.d = vd at *
  generalize eL 1 eb t.b = vb at *
  clear q
  have e64 : decide ((nd : Int) ≤ 64) = decide (nd ≤ 64) := decide_eq_decide.2 (by omega)
  have e4096 : decide ((nb : Int) ≤ 4096) = decide (nb ≤ 4096) := decide_eq_decide.2 (by omega)
  have c0 : ¬ kd = 0 := by omega
  have c1 : ¬ kd = 1 := by omega
  by_cases c2 : kd = 2
  case pos =>
    by_cases a1 : ng = true
    case pos =>
      exact Evs.of fun n m => by simp [-q08, -q04, S57, hcl, p, q0, q1, q2, q3, q4, hl2, c2, a1]
    by_cases a2 : nd = 0
    case neg =>
      have a2p : 0 < nd := by omega
      exact Evs.of fun n m => by simp [-q08, -q04, S57, hcl, p, q0, q1, q2, q3, q4, hl2, c2, a1, a2, a2p]
    by_cases a5 : t.name = []
    case neg =>
      exact Evs.of fun n m => by simp [-q08, -q04, S57, hcl, p, q0, q1, q2, q3, q4, hl2, hsn, c2, a1, a2, a5]
    by_cases a4 : nl = 0
    case neg =>
      have a4p : 0 < nl := by omega
      exact Evs.of fun n m => by simp [-q08, -q04, S57, hcl, p, q0, q1, q2, q3, q4, q5, hl5, hl2, hs0, c2, a1, a2, a5, a4, a4p]
    by_cases a6 : nb = 0
    case neg =>
      have a6p : 0 < nb := by omega
      exact Evs.of fun n m => by simp [-q08, -q04, S57, hcl, p, q0, q1, q2, q3, q4, q5, q6, hl5, hl2, hl6, hs0, c2, a1, a2, a5, a4, a6, a6p]
    have hr := hrest0 (by omega) (by omega)
    by_cases h0 : 0 ≤ nn
    · exact Evs.of fun n m => by simp [-q08, -q04, S57, hcl, p, q0, q1, q2, q3, q4, q5, q6, hl5, hl2, hl6, hs0, c2, a1, a2, a5, a4, a6, h0, hr]
    · exact Evs.of fun n m => by simp [-q08, -q04, S57, hcl, p, q0, q1, q2, q3, q4, q5, q6, hl5, hl2, hl6, hs0, c2, a1, a2, a5, a4, a6, h0, hr]
  by_cases c3 : kd = 3
  case pos =>
    by_cases a1 : ng = true
    case pos =>
      exact Evs.of fun n m => by simp [-q08, -q04, S57, hcl, p, q0, q1, q2, q3, q4, hl2, c3, a1]
    by_cases a2 : nd = 0
    case neg =>
      have a2p : 0 < nd := by omega
      exact Evs.of fun n m => by simp [-q08, -q04, S57, hcl, p, q0, q1, q2, q3, q4, hl2, c3, a1, a2, a2p]
    by_cases a5 : t.name = []
    case neg =>
      exact Evs.of fun n m => by simp [-q08, -q04, S57, hcl, p, q0, q1, q2, q3, q4, hl2, hsn, c3, a1, a2, a5]
    by_cases a4 : nl = 0
    case neg =>
      have a4p : 0 < nl := by omega
      exact Evs.of fun n m => by simp [-q08, -q04, S57, hcl, p, q0, q1, q2, q3, q4, q5, hl5, hl2, hs0, c3, a1, a2, a5, a4, a4p]
    by_cases a6 : nb = 0
    case neg =>
      have a6p : 0 < nb := by omega
      exact Evs.of fun n m => by simp [-q08, -q04, S57, hcl, p, q0, q1, q2, q3, q4, q5, q6, hl5, hl2, hl6, hs0, c3, a1, a2, a5, a4, a6, a6p]
    have hr := hrest0 (by omega) (by omega)
    by_cases h0 : 0 ≤ nn
    · exact Evs.of fun n m => by simp [-q08, -q04, S57, hcl, p, q0, q1, q2, q3, q4, q5, q6, hl5, hl2, hl6, hs0, c3, a1, a2, a5, a4, a6, h0, hr]
    · exact Evs.of fun n m => by simp [-q08, -q04, S57, hcl, p, q0, q1, q2, q3, q4, q5, q6, hl5, hl2, hl6, hs0, c3, a1, a2, a5, a4, a6, h0, hr]
  omega
end Go.Proofs.YtleikacgncpfbaaDoor

/- Terms, the reference: may one be, but for how many parts it has: kinds 4, 5. -/
set_option maxRecDepth 100000
set_option maxHeartbeats 8000000
namespace Go.Proofs.YtleikacgncpfbaaDoor
open Go Go.Den
theorem rmay_C (n : Nat) (t : Tm) (hs : t.size ≤ n + 1) (ht : tame t) (hkd : t.kind = 4 ∨ t.kind = 5) : Evs fun n' _ => callF (base.with (polT (TRm n))) (n' + 1) AV 57 [cT.enc t] [] (fun v G => A.freezeB true 64 G v) = some (.bool (mayT countR t)) := by
  have hB : Go.Den.Box [.row 0 7 26 [eT t]] 0 7 26 (eT t).cells := q87 t _ 0 rfl
  have p := fun o => hB.fa (o := o)
  have q := fun o => hB.load (o := o)
  rw [q04] at q
  have q0 := q 0
  have q1 := q 1
  have q2 := q 2
  have q3 := q 3
  have q4 := q 4
  have q5 := q 5
  have q6 := q 6
  simp only [List.getElem?_cons_succ, List.getElem?_cons_zero] at q0 q1 q2 q3 q4 q5 q6
  have hcl : (eT t).cells.length = 7 := by rw [q04]; rfl
  have hl5 : A.len (eL 7 eT t.l) [.row 0 7 26 [eT t]] = some (.int .i64 ((t.kids.length : Nat) : Int)) := q08
  have hl2 : A.len (eD t.d) [.row 0 7 26 [eT t]] = some (.int .i64 ((t.d.getD []).length : Int)) := q08
  have hl6 : A.len (eL 1 eb t.b) [.row 0 7 26 [eT t]] = some (.int .i64 ((t.b.getD []).length : Int)) := q08
  have hsn := fun H => q0z (t := 9) (c := true) (H := H) t.name
  have hs0 := fun H => q0z (t := 9) (c := true) (H := H) []
  have hfew : few t.d := (tame_eq.1 ht).1.1
  have hnl : q1k t.name := (tame_eq.1 ht).1.2.1
  have hnm : ∀ (R : Type) (H : Heap) (k : AV → Heap → Option R), polK pRnorm [.agg [.bool t.neg, eD t.d]] H k = k (eN (rnormS (t.neg, t.d))) H := fun R H k => kRnorm (a := (t.neg, t.d)) hfew
  have hsm : ∀ (R : Type) (H : Heap) (k : AV → Heap → Option R), polK pSame [.agg [.bool t.neg, eD t.d], eN (rnormS (t.neg, t.d))] H k = k (.bool (sameS (t.neg, t.d) (rnormS (t.neg, t.d)))) H := fun R H k => kSame (a := (t.neg, t.d)) hfew (q4d hfew)
  have hfill : A.fill [.bool false, .nils] [(0, 1, .bool t.neg), (1, 1, eD t.d)] = some [.bool t.neg, eD t.d] := by simp [A.fill, A.splice]
  have hva : ∀ (R : Type) (H : Heap) (k : AV → Heap → Option R), polK q2l [.str t.name] H k = k (.bool (Lib.validD t.name)) H := fun R H k => q3e
  have hco : ∀ (R : Type) (H : Heap) (k : AV → Heap → Option R), polK q42 [.str t.name] H k = k (.int .i64 (countR t.name)) H := fun R H k => q9q hnl
  have hcv := countR_valid (s := t.name)
  have hL := q4q hs ht hB t.kids.length 0 (by omega)
  rw [List.drop_zero] at hL
  have hrest : ∀ kd, t.kind = kd → (kd = 4 ∨ kd = 6) → ((partsO t).getD []).all (mayT countR) = t.kids.all (mayT countR) := fun kd e hkd => by
    unfold partsO
    rw [if_pos (by rw [e]; exact hkd)]
    rfl
  have hrest0 : t.kind ≠ 4 → t.kind ≠ 6 → ((partsO t).getD []).all (mayT countR) = true := fun e1 e2 => by
    unfold partsO
    rw [if_neg (by omega)]
    rfl
  rw [q4o]
  unfold oneS spareS
  rw [← q3o]
  generalize sameS (t.neg, t.d) (rnormS (t.neg, t.d)) = sn at *
  generalize rnormS (t.neg, t.d) = rn at *
  generalize ((partsO t).getD []).all (mayT countR) = rest at *
  generalize t.kids.all (mayT countR) = kall at *
  generalize countR t.name = cn at *
  generalize Lib.validD t.name = vn at *
  generalize t.kids.length = nl at *
  generalize (t.d.getD []).length = nd at *
  generalize (t.b.getD []).length = nb at *
  generalize t.kind = kd at *
  generalize t.neg = ng at *
  generalize t.n = nn at *
  generalize eL 7 eT t.l = vl at *
  generalize eD t.d = vd at *
  generalize eL 1 eb t.b = vb at *
  clear q
  have e64 : decide ((nd : Int) ≤ 64) = decide (nd ≤ 64) := decide_eq_decide.2 (by omega)
  have e4096 : decide ((nb : Int) ≤ 4096) = decide (nb ≤ 4096) := decide_eq_decide.2 (by omega)
  have c0 : ¬ kd = 0 := by omega
  have c1 : ¬ kd = 1 := by omega
  have c2 : ¬ kd = 2 := by omega
  have c3 : ¬ kd = 3 := by omega
  by_cases c4 : kd = 4
  case pos =>
    by_cases a1 : ng = true
    case pos =>
      exact Evs.of fun n m => by simp [-q08, -q04, S57, hcl, p, q0, q1, q2, q3, q5, q6, hl5, hl2, hl6, c4, a1]
    by_cases a2 : nd = 0
    case neg =>
      have a2p : 0 < nd := by omega
      exact Evs.of fun n m => by simp [-q08, -q04, S57, hcl, p, q0, q1, q2, q3, q5, q6, hl5, hl2, hl6, c4, a1, a2, a2p]
    by_cases a5 : t.name = []
    case neg =>
      exact Evs.of fun n m => by simp [-q08, -q04, S57, hcl, p, q0, q1, q2, q3, q5, q6, hl5, hl2, hl6, hsn, c4, a1, a2, a5]
    by_cases a3 : nn = 0
    case neg =>
      exact Evs.of fun n m => by simp [-q08, -q04, S57, hcl, p, q0, q1, q2, q3, q4, q5, q6, hl5, hl2, hl6, hs0, c4, a1, a2, a5, a3]
    by_cases a6 : nb = 0
    case neg =>
      have a6p : 0 < nb := by omega
      exact Evs.of fun n m => by simp [-q08, -q04, S57, hcl, p, q0, q1, q2, q3, q4, q5, q6, hl5, hl2, hl6, hs0, c4, a1, a2, a5, a3, a6, a6p]
    have hr := hrest 4 c4 (Or.inl rfl)
    by_cases h255 : nl ≤ 255
    · have hg : ¬ (255 : Int) < (nl : Int) := by omega
      have hg' : ¬ 255 < nl := by omega
      refine Evs.withL hL (Evs.of fun n m h1 _ => ?_)
      simp only [Int.natCast_zero] at h1
      cases kall <;> simp [-q08, -q04, S57, hcl, p, q0, q1, q2, q3, q4, q5, q6, hl5, hl2, hl6, hs0, c4, a1, a2, a5, a3, a6, h255, hg, hr, h1]
    · have hg : (255 : Int) < (nl : Int) := by omega
      have hg' : 255 < nl := by omega
      exact Evs.of fun n m => by simp [-q08, -q04, S57, hcl, p, q0, q1, q2, q3, q4, q5, q6, hl5, hl2, hl6, hs0, c4, a1, a2, a5, a3, a6, h255, hg, hr]
  by_cases c5 : kd = 5
  case pos =>
    by_cases a1 : ng = true
    case pos =>
      exact Evs.of fun n m => by simp [-q08, -q04, S57, hcl, p, q0, q1, q2, q3, q6, hl2, hl6, c5, a1]
    by_cases a2 : nd = 0
    case neg =>
      have a2p : 0 < nd := by omega
      exact Evs.of fun n m => by simp [-q08, -q04, S57, hcl, p, q0, q1, q2, q3, q6, hl2, hl6, c5, a1, a2, a2p]
    by_cases a5 : t.name = []
    case neg =>
      exact Evs.of fun n m => by simp [-q08, -q04, S57, hcl, p, q0, q1, q2, q3, q6, hl2, hl6, hsn, c5, a1, a2, a5]
    by_cases a3 : nn = 0
    case neg =>
      exact Evs.of fun n m => by simp [-q08, -q04, S57, hcl, p, q0, q1, q2, q3, q4, q6, hl2, hl6, hs0, c5, a1, a2, a5, a3]
    by_cases a4 : nl = 0
    case neg =>
      have a4p : 0 < nl := by omega
      exact Evs.of fun n m => by simp [-q08, -q04, S57, hcl, p, q0, q1, q2, q3, q4, q5, q6, hl5, hl2, hl6, hs0, c5, a1, a2, a5, a3, a4, a4p]
    by_cases a6 : nb = 0
    case neg =>
      have a6p : 0 < nb := by omega
      exact Evs.of fun n m => by simp [-q08, -q04, S57, hcl, p, q0, q1, q2, q3, q4, q5, q6, hl5, hl2, hl6, hs0, c5, a1, a2, a5, a3, a4, a6, a6p]
    have hr := hrest0 (by omega) (by omega)
    exact Evs.of fun n m => by simp [-q08, -q04, S57, hcl, p, q0, q1, q2, q3, q4, q5, q6, hl5, hl2, hl6, hs0, c5, a1, a2, a5, a3, a4, a6, hr]
  omega
end Go.Proofs.YtleikacgncpfbaaDoor

/- Terms, the reference: may one be, but for how many parts it has: kinds 6. -/
set_option maxRecDepth 100000
set_option maxHeartbeats 8000000
namespace Go.Proofs.YtleikacgncpfbaaDoor
open Go Go.Den
theorem rmay_D (n : Nat) (t : Tm) (hs : t.size ≤ n + 1) (ht : tame t) (hkd : t.kind = 6) : Evs fun n' _ => callF (base.with (polT (TRm n))) (n' + 1) AV 57 [cT.enc t] [] (fun v G => A.freezeB true 64 G v) = some (.bool (mayT countR t)) := by
  have hB : Go.Den.Box [.row 0 7 26 [eT t]] 0 7 26 (eT t).cells := q87 t _ 0 rfl
  have p := fun o => hB.fa (o := o)
  have q := fun o => hB.load (o := o)
  rw [q04] at q
  have q0 := q 0
  have q1 := q 1
  have q2 := q 2
  have q3 := q 3
  have q4 := q 4
  have q5 := q 5
  have q6 := q 6
  simp only [List.getElem?_cons_succ, List.getElem?_cons_zero] at q0 q1 q2 q3 q4 q5 q6
  have hcl : (eT t).cells.length = 7 := by rw [q04]; rfl
  have hl5 : A.len (eL 7 eT t.l) [.row 0 7 26 [eT t]] = some (.int .i64 ((t.kids.length : Nat) : Int)) := q08
  have hl2 : A.len (eD t.d) [.row 0 7 26 [eT t]] = some (.int .i64 ((t.d.getD []).length : Int)) := q08
  have hl6 : A.len (eL 1 eb t.b) [.row 0 7 26 [eT t]] = some (.int .i64 ((t.b.getD []).length : Int)) := q08
  have hsn := fun H => q0z (t := 9) (c := true) (H := H) t.name
  have hs0 := fun H => q0z (t := 9) (c := true) (H := H) []
  have hfew : few t.d := (tame_eq.1 ht).1.1
  have hnl : q1k t.name := (tame_eq.1 ht).1.2.1
  have hnm : ∀ (R : Type) (H : Heap) (k : AV → Heap → Option R), polK pRnorm [.agg [.bool t.neg, eD t.d]] H k = k (eN (rnormS (t.neg, t.d))) H := fun R H k => kRnorm (a := (t.neg, t.d)) hfew
  have hsm : ∀ (R : Type) (H : Heap) (k : AV → Heap → Option R), polK pSame [.agg [.bool t.neg, eD t.d], eN (rnormS (t.neg, t.d))] H k = k (.bool (sameS (t.neg, t.d) (rnormS (t.neg, t.d)))) H := fun R H k => kSame (a := (t.neg, t.d)) hfew (q4d hfew)
  have hfill : A.fill [.bool false, .nils] [(0, 1, .bool t.neg), (1, 1, eD t.d)] = some [.bool t.neg, eD t.d] := by simp [A.fill, A.splice]
  have hva : ∀ (R : Type) (H : Heap) (k : AV → Heap → Option R), polK q2l [.str t.name] H k = k (.bool (Lib.validD t.name)) H := fun R H k => q3e
  have hco : ∀ (R : Type) (H : Heap) (k : AV → Heap → Option R), polK q42 [.str t.name] H k = k (.int .i64 (countR t.name)) H := fun R H k => q9q hnl
  have hcv := countR_valid (s := t.name)
  have hL := q4q hs ht hB t.kids.length 0 (by omega)
  rw [List.drop_zero] at hL
  have hrest : ∀ kd, t.kind = kd → (kd = 4 ∨ kd = 6) → ((partsO t).getD []).all (mayT countR) = t.kids.all (mayT countR) := fun kd e hkd => by
    unfold partsO
    rw [if_pos (by rw [e]; exact hkd)]
    rfl
  have hrest0 : t.kind ≠ 4 → t.kind ≠ 6 → ((partsO t).getD []).all (mayT countR) = true := fun e1 e2 => by
    unfold partsO
    rw [if_neg (by omega)]
    rfl
  rw [q4o]
  unfold oneS spareS
  rw [← q3o]
  generalize sameS (t.neg, t.d) (rnormS (t.neg, t.d)) = sn at *
  generalize rnormS (t.neg, t.d) = rn at *
  generalize ((partsO t).getD []).all (mayT countR) = rest at *
  generalize t.kids.all (mayT countR) = kall at *
  generalize countR t.name = cn at *
  generalize Lib.validD t.name = vn at *
  generalize t.kids.length = nl at *
  generalize (t.d.getD []).length = nd at *
  generalize (t.b.getD []).length = nb at *
  generalize t.kind = kd at *
  generalize t.neg = ng at *
  generalize t.n = nn at *
  generalize eL 7 eT t.l = vl at *
  generalize eD t.d = vd at *
  generalize eL 1 eb t.b = vb at *
  clear q
  have e64 : decide ((nd : Int) ≤ 64) = decide (nd ≤ 64) := decide_eq_decide.2 (by omega)
  have e4096 : decide ((nb : Int) ≤ 4096) = decide (nb ≤ 4096) := decide_eq_decide.2 (by omega)
  have c0 : ¬ kd = 0 := by omega
  have c1 : ¬ kd = 1 := by omega
  have c2 : ¬ kd = 2 := by omega
  have c3 : ¬ kd = 3 := by omega
  have c4 : ¬ kd = 4 := by omega
  have c5 : ¬ kd = 5 := by omega
  by_cases c6 : kd = 6
  case pos =>
    by_cases a1 : ng = true
    case pos =>
      exact Evs.of fun n m => by simp [-q08, -q04, S57, hcl, p, q0, q1, q2, q3, q5, q6, hl5, hl2, hl6, c6, a1]
    by_cases a2 : nd = 0
    case neg =>
      have a2p : 0 < nd := by omega
      exact Evs.of fun n m => by simp [-q08, -q04, S57, hcl, p, q0, q1, q2, q3, q5, q6, hl5, hl2, hl6, c6, a1, a2, a2p]
    by_cases a5 : t.name = []
    case neg =>
      exact Evs.of fun n m => by simp [-q08, -q04, S57, hcl, p, q0, q1, q2, q3, q5, q6, hl5, hl2, hl6, hsn, c6, a1, a2, a5]
    by_cases a3 : nn = 0
    case neg =>
      exact Evs.of fun n m => by simp [-q08, -q04, S57, hcl, p, q0, q1, q2, q3, q4, q5, q6, hl5, hl2, hl6, hs0, c6, a1, a2, a5, a3]
    by_cases a6 : nb = 0
    case neg =>
      have a6p : 0 < nb := by omega
      exact Evs.of fun n m => by simp [-q08, -q04, S57, hcl, p, q0, q1, q2, q3, q4, q5, q6, hl5, hl2, hl6, hs0, c6, a1, a2, a5, a3, a6, a6p]
    have hr := hrest 6 c6 (Or.inr rfl)
    by_cases h2 : nl = 2
    · subst h2
      refine Evs.withL hL (Evs.of fun n m h1 _ => ?_)
      simp only [Int.natCast_zero] at h1
      cases kall <;> simp [-q08, -q04, S57, hcl, p, q0, q1, q2, q3, q4, q5, q6, hl5, hl2, hl6, hs0, c6, a1, a2, a5, a3, a6, hr, h1]
    · have h2' : ¬ (nl : Int) = 2 := by omega
      exact Evs.of fun n m => by simp [-q08, -q04, S57, hcl, p, q0, q1, q2, q3, q4, q5, q6, hl5, hl2, hl6, hs0, c6, a1, a2, a5, a3, a6, h2, h2', hr]
  omega
end Go.Proofs.YtleikacgncpfbaaDoor

/- Terms, the reference: may one be, but for how many parts it has: the rest. -/
set_option maxRecDepth 100000
set_option maxHeartbeats 8000000
namespace Go.Proofs.YtleikacgncpfbaaDoor
open Go Go.Den
theorem rmay_E (n : Nat) (t : Tm) (hs : t.size ≤ n + 1) (ht : tame t) (hkd : t.kind ≠ 0 ∧ t.kind ≠ 1 ∧ t.kind ≠ 2 ∧ t.kind ≠ 3 ∧ t.kind ≠ 4 ∧ t.kind ≠ 5 ∧ t.kind ≠ 6) : Evs fun n' _ => callF (base.with (polT (TRm n))) (n' + 1) AV 57 [cT.enc t] [] (fun v G => A.freezeB true 64 G v) = some (.bool (mayT countR t)) := by
  have hB : Go.Den.Box [.row 0 7 26 [eT t]] 0 7 26 (eT t).cells := q87 t _ 0 rfl
  have p := fun o => hB.fa (o := o)
  have q := fun o => hB.load (o := o)
  rw [q04] at q
  have q0 := q 0
  have q1 := q 1
  have q2 := q 2
  have q3 := q 3
  have q4 := q 4
  have q5 := q 5
  have q6 := q 6
  simp only [List.getElem?_cons_succ, List.getElem?_cons_zero] at q0 q1 q2 q3 q4 q5 q6
  have hcl : (eT t).cells.length = 7 := by rw [q04]; rfl
  have hl5 : A.len (eL 7 eT t.l) [.row 0 7 26 [eT t]] = some (.int .i64 ((t.kids.length : Nat) : Int)) := q08
  have hl2 : A.len (eD t.d) [.row 0 7 26 [eT t]] = some (.int .i64 ((t.d.getD []).length : Int)) := q08
  have hl6 : A.len (eL 1 eb t.b) [.row 0 7 26 [eT t]] = some (.int .i64 ((t.b.getD []).length : Int)) := q08
  have hsn := fun H => q0z (t := 9) (c := true) (H := H) t.name
  have hs0 := fun H => q0z (t := 9) (c := true) (H := H) []
  have hfew : few t.d := (tame_eq.1 ht).1.1
  have hnl : q1k t.name := (tame_eq.1 ht).1.2.1
  have hnm : ∀ (R : Type) (H : Heap) (k : AV → Heap → Option R), polK pRnorm [.agg [.bool t.neg, eD t.d]] H k = k (eN (rnormS (t.neg, t.d))) H := fun R H k => kRnorm (a := (t.neg, t.d)) hfew
  have hsm : ∀ (R : Type) (H : Heap) (k : AV → Heap → Option R), polK pSame [.agg [.bool t.neg, eD t.d], eN (rnormS (t.neg, t.d))] H k = k (.bool (sameS (t.neg, t.d) (rnormS (t.neg, t.d)))) H := fun R H k => kSame (a := (t.neg, t.d)) hfew (q4d hfew)
  have hfill : A.fill [.bool false, .nils] [(0, 1, .bool t.neg), (1, 1, eD t.d)] = some [.bool t.neg, eD t.d] := by simp [A.fill, A.splice]
  have hva : ∀ (R : Type) (H : Heap) (k : AV → Heap → Option R), polK q2l [.str t.name] H k = k (.bool (Lib.validD t.name)) H := fun R H k => q3e
  have hco : ∀ (R : Type) (H : Heap) (k : AV → Heap → Option R), polK q42 [.str t.name] H k = k (.int .i64 (countR t.name)) H := fun R H k => q9q hnl
  have hcv := countR_valid (s := t.name)
  have hL := q4q hs ht hB t.kids.length 0 (by omega)
  rw [List.drop_zero] at hL
  have hrest : ∀ kd, t.kind = kd → (kd = 4 ∨ kd = 6) → ((partsO t).getD []).all (mayT countR) = t.kids.all (mayT countR) := fun kd e hkd => by
    unfold partsO
    rw [if_pos (by rw [e]; exact hkd)]
    rfl
  have hrest0 : t.kind ≠ 4 → t.kind ≠ 6 → ((partsO t).getD []).all (mayT countR) = true := fun e1 e2 => by
    unfold partsO
    rw [if_neg (by omega)]
    rfl
  rw [q4o]
  unfold oneS spareS
  rw [← q3o]
  generalize sameS (t.neg, t.d) (rnormS (t.neg, t.d)) = sn at *
  generalize rnormS (t.neg, t.d) = rn at *
  generalize ((partsO t).getD []).all (mayT countR) = rest at *
  generalize t.kids.all (mayT countR) = kall at *
  generalize countR t.name = cn at *
  generalize Lib.validD t.name = vn at *
  generalize t.kids.length = nl at *
  generalize (t.d.getD []).length = nd at *
  generalize (t.b.getD []).length = nb at *
  generalize t.kind = kd at *
  generalize t.neg = ng at *
  generalize t.n = nn at *
  generalize eL 7 eT t.l = vl at *
  generalize eD t.d = vd at *
  generalize eL 1 eb t.b = vb at *
  clear q
  have e64 : decide ((nd : Int) ≤ 64) = decide (nd ≤ 64) := decide_eq_decide.2 (by omega)
  have e4096 : decide ((nb : Int) ≤ 4096) = decide (nb ≤ 4096) := decide_eq_decide.2 (by omega)
  have c0 : ¬ kd = 0 := by omega
  have c1 : ¬ kd = 1 := by omega
  have c2 : ¬ kd = 2 := by omega
  have c3 : ¬ kd = 3 := by omega
  have c4 : ¬ kd = 4 := by omega
  have c5 : ¬ kd = 5 := by omega
  have c6 : ¬ kd = 6 := by omega
  by_cases c7 : kd = 7
  case pos =>
    by_cases a1 : ng = true
    case pos =>
      exact Evs.of fun n m => by simp [-q08, -q04, S57, hcl, p, q0, q1, q2, q3, q6, hl2, hl6, c7, a1]
    by_cases a2 : nd = 0
    case neg =>
      have a2p : 0 < nd := by omega
      exact Evs.of fun n m => by simp [-q08, -q04, S57, hcl, p, q0, q1, q2, q3, q6, hl2, hl6, c7, a1, a2, a2p]
    by_cases a5 : t.name = []
    case neg =>
      exact Evs.of fun n m => by simp [-q08, -q04, S57, hcl, p, q0, q1, q2, q3, q6, hl2, hl6, hsn, c7, a1, a2, a5]
    by_cases a3 : nn = 0
    case neg =>
      exact Evs.of fun n m => by simp [-q08, -q04, S57, hcl, p, q0, q1, q2, q3, q4, q6, hl2, hl6, hs0, c7, a1, a2, a5, a3]
    by_cases a4 : nl = 0
    case neg =>
      have a4p : 0 < nl := by omega
      exact Evs.of fun n m => by simp [-q08, -q04, S57, hcl, p, q0, q1, q2, q3, q4, q5, q6, hl5, hl2, hl6, hs0, c7, a1, a2, a5, a3, a4, a4p]
    have hr := hrest0 (by omega) (by omega)
    exact Evs.of fun n m => by simp [-q08, -q04, S57, hcl, p, q0, q1, q2, q3, q4, q5, q6, hl5, hl2, hl6, hs0, c7, a1, a2, a5, a3, a4, e4096, hr]
  by_cases a1 : ng = true
  case pos =>
    exact Evs.of fun n m => by simp [-q08, -q04, S57, hcl, p, q0, q1, q2, q3, q6, hl2, hl6, c0, c1, c2, c3, c4, c5, c6, c7, a1]
  by_cases a2 : nd = 0
  case neg =>
    have a2p : 0 < nd := by omega
    exact Evs.of fun n m => by simp [-q08, -q04, S57, hcl, p, q0, q1, q2, q3, q6, hl2, hl6, c0, c1, c2, c3, c4, c5, c6, c7, a1, a2, a2p]
  by_cases a5 : t.name = []
  case neg =>
    exact Evs.of fun n m => by simp [-q08, -q04, S57, hcl, p, q0, q1, q2, q3, q6, hl2, hl6, hsn, c0, c1, c2, c3, c4, c5, c6, c7, a1, a2, a5]
  by_cases a3 : nn = 0
  case neg =>
    exact Evs.of fun n m => by simp [-q08, -q04, S57, hcl, p, q0, q1, q2, q3, q4, q6, hl2, hl6, hs0, c0, c1, c2, c3, c4, c5, c6, c7, a1, a2, a5, a3]
  by_cases a4 : nl = 0
  case neg =>
    have a4p : 0 < nl := by omega
    exact Evs.of fun n m => by simp [-q08, -q04, S57, hcl, p, q0, q1, q2, q3, q4, q5, q6, hl5, hl2, hl6, hs0, c0, c1, c2, c3, c4, c5, c6, c7, a1, a2, a5, a3, a4, a4p]
  by_cases a6 : nb = 0
  case neg =>
    have a6p : 0 < nb := by omega
    exact Evs.of fun n m => by simp [-q08, -q04, S57, hcl, p, q0, q1, q2, q3, q4, q5, q6, hl5, hl2, hl6, hs0, c0, c1, c2, c3, c4, c5, c6, c7, a1, a2, a5, a3, a4, a6, a6p]
  exact Evs.of fun n m => by simp [-q08, -q04, S57, hcl, p, q0, q1, q2, q3, q4, q5, q6, hl5, hl2, hl6, hs0, c0, c1, c2, c3, c4, c5, c6, c7, a1, a2, a5, a3, a4, a6]
end Go.Proofs.YtleikacgncpfbaaDoor

/- Terms, the reference: may one be, but for how many parts it has; and all of it. -/
set_option maxRecDepth 100000
namespace Go.Proofs.YtleikacgncpfbaaDoor
open Go Go.Den
theorem okRmay : ∀ n, PolOK base 57 (pRmay n)
  | 0 => still1 base_ok [] trivial fun t ⟨hs, _⟩ => by
    have := t.size_eq
    omega
  | n + 1 => still1 base_ok (TRm n) ⟨okRmay n, okRnorm, okSame, qcn, okRcount, trivial⟩ fun t ⟨hs, ht⟩ => by
    by_cases a : t.kind = 0 ∨ t.kind = 1
    · exact rmay_A n t hs ht a
    by_cases b : t.kind = 2 ∨ t.kind = 3
    · exact rmay_B n t hs ht b
    by_cases c : t.kind = 4 ∨ t.kind = 5
    · exact rmay_C n t hs ht c
    by_cases d : t.kind = 6
    · exact rmay_D n t hs ht d
    · exact rmay_E n t hs ht (by omega)
noncomputable def pRMay (n : Nat) : Pol := .still (p1 cT .bool (fun t => t.size ≤ n ∧ tame t) mayS)
theorem okRMay (n : Nat) : PolOK base 18 (pRMay n) := still1 base_ok [(20, pRtree n), (57, pRmay n)] ⟨okRtree n, okRmay n, trivial⟩ fun t ⟨hs, ht⟩ => by
  have hcl : (eT t).cells.length = 7 := by rw [q04]; rfl
  have hof : A.ofList true 7 (eT t).cells 0 = some (eT t) := q0o (H := [])
  have h1 : ∀ (R : Type) (H : Heap) (k : AV → Heap → Option R), polK (pRtree n) [eT t] H k = k (.int .i64 ((min (szT t) 65537 : Nat) : Int)) H := fun R H k => kRtree hs (tame_thin t ht)
  have h2 : ∀ (R : Type) (H : Heap) (k : AV → Heap → Option R), polK (pRmay n) [eT t] H k = k (.bool (mayT countR t)) H := fun R H k => kRmay hs ht
  unfold mayS
  by_cases hc : szT t ≤ 65536
  · have hc' : ((min (szT t) 65537 : Nat) : Int) ≤ 65536 := by omega
    generalize ((min (szT t) 65537 : Nat) : Int) = N at *
    refine Evs.of fun n m => ?_
    simp [↓q0a, ↓q01, ↓q03, ↓q02, ↓q07, -q04, S18, hcl, hof, h1, h2, hc, hc']
  · have hc' : ¬ ((min (szT t) 65537 : Nat) : Int) ≤ 65536 := by omega
    generalize ((min (szT t) 65537 : Nat) : Int) = N at *
    refine Evs.of fun n m => ?_
    simp [↓q0a, ↓q01, ↓q03, ↓q02, ↓q07, -q04, S18, hcl, hof, h1, hc, hc']
end Go.Proofs.YtleikacgncpfbaaDoor

/- Terms: what is known of them, of any size; what is handed in. -/
set_option maxRecDepth 100000
set_option maxHeartbeats 4000000
namespace Go.Proofs.YtleikacgncpfbaaDoor
open Go Go.Den
noncomputable def pRoomA : Pol := .still (p3 cT (cI .i64) (cI .i64) .bool (fun _ dep most => -1 ≤ dep ∧ dep ≤ 1000 ∧ most ≤ 1000) roomS)
theorem okRoomA : PolOK base 16 pRoomA := q5h (F := fun n => p3 cT (cI .i64) (cI .i64) .bool (fun t dep most => t.size ≤ n ∧ -1 ≤ dep ∧ dep ≤ 1000 ∧ most ≤ 1000) roomS) okRoom fun zs v h => by
  match zs, h with
  | [a, b, c], h =>
    simp only [p3_app, Option.bind_eq_some_iff] at h ⊢
    obtain ⟨t, ht, d, hd, m, hm, h⟩ := h
    split at h
    · rename_i hc
      exact ⟨t.size, t, ht, d, hd, m, hm, by rw [if_pos ⟨Nat.le_refl _, hc⟩]; exact h⟩
    · cases h
theorem kRoomA {R : Type} {t : Tm} {dep most : Int} (h0 : -1 ≤ dep) (h1 : dep ≤ 1000) (h2 : most ≤ 1000) {H : Heap} {k : AV → Heap → Option R} : polK pRoomA [eT t, .int .i64 dep, .int .i64 most] H k = k (.bool (roomS t dep most)) H := by
  simp [pRoomA, q0b, h0, h1, h2]
noncomputable def pRtreeA : Pol := .still (p1 cT (fun n : Nat => .int .i64 (n : Int)) (fun t => t.thin 1000) (fun t => min (szT t) 65537))
noncomputable def pRwordsA : Pol := .still (p1 cT (fun n : Nat => .int .i64 (n : Int)) fineW wT)
noncomputable def pRMayA : Pol := .still (p1 cT .bool tame mayS)
theorem okRMayA : PolOK base 18 pRMayA := q5h (F := fun n => p1 cT .bool (fun t => t.size ≤ n ∧ tame t) mayS) okRMay fun zs v h => by
  match zs, h with
  | [a], h =>
    simp only [p1_app, Option.bind_eq_some_iff] at h ⊢
    obtain ⟨t, ht, h⟩ := h
    split at h
    · rename_i hc
      exact ⟨t.size, t, ht, by rw [if_pos ⟨Nat.le_refl _, hc⟩]; exact h⟩
    · cases h
theorem kRMayA {R : Type} {t : Tm} (h : tame t) {H : Heap} {k : AV → Heap → Option R} : polK pRMayA [eT t] H k = k (.bool (mayS t)) H := by
  simp [pRMayA, q0b, h]
theorem ty_u32s {n : Nat} {y : AV} (hy : Ty Tryd.prog n 22 y) : ∃ d : Option (List UInt32), y = eD d := by
  obtain ⟨l, hl, hb, -⟩ := hy.ints (k := .u32) (e := 59) (by kernel_rfl) (by kernel_rfl) (by kernel_rfl)
  have hll : l.map (AV.int .u32) = (l.map fun i => UInt32.ofNat i.toNat).map eu := by
    rw [List.map_map]
    refine List.map_congr_left fun i hi => ?_
    have := hb i hi
    have h5 : (0 : Int) ≤ i ∧ i ≤ 4294967295 := this
    show AV.int .u32 i = AV.int .u32 ((UInt32.ofNat i.toNat).toNat : Int)
    rw [q9t, Nat.mod_eq_of_lt (by omega)]
    congr 1
    omega
  rw [hll] at hl
  generalize hm : (l.map fun i => UInt32.ofNat i.toNat).map eu = es at hl
  cases hl with
  | nil => exact ⟨none, rfl⟩
  | sh _ =>
    subst hm
    exact ⟨some (l.map fun i => UInt32.ofNat i.toNat), rfl⟩
theorem ty_u8s {n : Nat} {y : AV} (hy : Ty Tryd.prog n 24 y) : ∃ d : Option (List UInt8), y = eL 1 eb d := by
  obtain ⟨l, hl, hb, -⟩ := hy.ints (k := .u8) (e := 5) (by kernel_rfl) (by kernel_rfl) (by kernel_rfl)
  have hll : l.map (AV.int .u8) = (l.map fun i => UInt8.ofNat i.toNat).map eb := by
    rw [List.map_map]
    refine List.map_congr_left fun i hi => ?_
    have := hb i hi
    have h5 : (0 : Int) ≤ i ∧ i ≤ 255 := this
    show AV.int .u8 i = AV.int .u8 ((UInt8.ofNat i.toNat).toNat : Int)
    rw [UInt8.toNat_ofNat']
    congr 1
    omega
  rw [hll] at hl
  generalize hm : (l.map fun i => UInt8.ofNat i.toNat).map eb = es at hl
  cases hl with
  | nil => exact ⟨none, rfl⟩
  | sh _ =>
    subst hm
    exact ⟨some (l.map fun i => UInt8.ofNat i.toNat), rfl⟩
theorem ty_tm : ∀ (n : Nat) (v : AV), Ty Tryd.prog n 26 v → ∃ t : Tm, v = eT t
  | 0, _, h => by cases h
  | 1, v, h => by
    obtain ⟨m, vs, hm, h1, h2, h3⟩ := h.struct (fs := #[{ name := "Kind", type := 3, offset := 0, embedded := false, tag := "", pkgPath := "", byteOffset := 0 }, { name := "Neg", type := 4, offset := 1, embedded := false, tag := "", pkgPath := "", byteOffset := 8 }, { name := "D", type := 22, offset := 2, embedded := false, tag := "", pkgPath := "", byteOffset := 16 }, { name := "Name", type := 9, offset := 3, embedded := false, tag := "", pkgPath := "", byteOffset := 40 }, { name := "N", type := 3, offset := 4, embedded := false, tag := "", pkgPath := "", byteOffset := 56 }, { name := "L", type := 23, offset := 5, embedded := false, tag := "", pkgPath := "", byteOffset := 64 }, { name := "B", type := 24, offset := 6, embedded := false, tag := "", pkgPath := "", byteOffset := 88 }]) (by kernel_rfl)
    match vs, h2 with
    | [x0, x1, x2, x3, x4, x5, x6], _ =>
      have y0 := (h3 0 _ x0 rfl rfl).1
      have : m = 0 := by omega
      subst this
      cases y0
  | n + 2, v, h => by
    obtain ⟨m, vs, hm, h1, h2, h3⟩ := h.struct (fs := #[{ name := "Kind", type := 3, offset := 0, embedded := false, tag := "", pkgPath := "", byteOffset := 0 }, { name := "Neg", type := 4, offset := 1, embedded := false, tag := "", pkgPath := "", byteOffset := 8 }, { name := "D", type := 22, offset := 2, embedded := false, tag := "", pkgPath := "", byteOffset := 16 }, { name := "Name", type := 9, offset := 3, embedded := false, tag := "", pkgPath := "", byteOffset := 40 }, { name := "N", type := 3, offset := 4, embedded := false, tag := "", pkgPath := "", byteOffset := 56 }, { name := "L", type := 23, offset := 5, embedded := false, tag := "", pkgPath := "", byteOffset := 64 }, { name := "B", type := 24, offset := 6, embedded := false, tag := "", pkgPath := "", byteOffset := 88 }]) (by kernel_rfl)
    have hmn : m = n + 1 := by omega
    subst hmn
    match vs, h2 with
    | [x0, x1, x2, x3, x4, x5, x6], _ =>
      have y0 := (h3 0 _ x0 rfl rfl).1
      have y1 := (h3 1 _ x1 rfl rfl).1
      have y2 := (h3 2 _ x2 rfl rfl).1
      have y3 := (h3 3 _ x3 rfl rfl).1
      have y4 := (h3 4 _ x4 rfl rfl).1
      have y5 := (h3 5 _ x5 rfl rfl).1
      have y6 := (h3 6 _ x6 rfl rfl).1
      obtain ⟨i0, rfl, -⟩ := y0.int (k := .i64) (by kernel_rfl)
      obtain ⟨b1, rfl⟩ := y1.bool (by kernel_rfl)
      obtain ⟨d2, rfl⟩ := ty_u32s y2
      obtain ⟨s3, rfl, -⟩ := y3.str (by kernel_rfl)
      obtain ⟨i4, rfl, -⟩ := y4.int (k := .i64) (by kernel_rfl)
      obtain ⟨d6, rfl⟩ := ty_u8s y6
      obtain ⟨m, es, hm, him, -, hes⟩ := y5.slice (e := 26) (by kernel_rfl)
      have hmn : m = n := by omega
      subst hmn
      obtain ⟨l, hl, -⟩ := q59 (f := eT) (p := fun _ => True) (es := es) fun x hx => by
        obtain ⟨t, ht⟩ := ty_tm m x (hes x hx)
        exact ⟨t, ht, trivial⟩
      have hc : Tryd.prog.cellsOf 26 = 7 := by kernel_rfl
      rw [hc] at him
      have hv : ∃ o : Option (List Tm), x5 = eL 7 eT o := by
        cases him with
        | nil => exact ⟨none, rfl⟩
        | sh _ =>
          subst hl
          exact ⟨some l, rfl⟩
      obtain ⟨o, rfl⟩ := hv
      refine ⟨.mk i0 b1 d2 s3 i4 o d6, ?_⟩
      rw [h1, q3w]
      have e2 : (eD d2).cells = [eD d2] := by cases d2 <;> rfl
      have e5 : (eL 7 eT o).cells = [eL 7 eT o] := by cases o <;> rfl
      have e6 : (eL 1 eb d6).cells = [eL 1 eb d6] := by cases d6 <;> rfl
      simp only [List.flatMap_cons, List.flatMap_nil, e2, e5, e6]
      rfl
end Go.Proofs.YtleikacgncpfbaaDoor

/- Terms in a row: are they few and small. -/
set_option maxRecDepth 100000
set_option maxHeartbeats 4000000
namespace Go.Proofs.YtleikacgncpfbaaDoor
open Go Go.Den
def roomsAll (l : List Tm) : Prop := ∀ u ∈ l, roomS u 8 40 = true ∧ mayS u = true
noncomputable def roomsS (o : Option (List Tm)) (most : Int) : Bool := decide (((o.getD []).length : Int) ≤ most) && (o.getD []).all fun u => roomS u 8 40 && mayS u
noncomputable abbrev TRms : List (FuncId × Pol) := [(16, pRoomA), (18, pRMayA)]
theorem qj3 {o : Option (List Tm)} (hlen : (o.getD []).length ≤ 1000) (H : Heap) : ∀ (k i : Nat), i + k = (o.getD []).length →
    LDoes (L24_0 (polT TRms)) ⟨[eL 7 eT o, .int .i64 (i : Int)], []⟩ H (if ((o.getD []).drop i).all (fun u => roomS u 8 40 && mayS u) then 0 else 1) ⟨[if ((o.getD []).drop i).all (fun u => roomS u 8 40 && mayS u) then .undef else .bool false], []⟩ H := by
  have hln : A.len (eL 7 eT o) H = some (.int .i64 ((o.getD []).length : Int)) := q08
  intro k
  induction k with
  | zero =>
    intro i hi
    have : i = (o.getD []).length := by omega
    subst this
    rw [List.drop_length]
    refine LDoes.step (Evs.of fun n m => ?_)
    generalize ((o.getD []).length : Int) = N at *
    simp [↓q00, ↓q06, ↓q0a, ↓q09, ↓q01, ↓q03, ↓q0d, ↓q0e, ↓q0m, ↓q02, ↓q05, ↓q07, -q08, q4x, hln]
  | succ k ih =>
    intro i hi
    have hlt : i < (o.getD []).length := by omega
    have hlt' : (i : Int) < ((o.getD []).length : Int) := by omega
    have hx : A.idx 7 (eL 7 eT o) (.int .i64 (i : Int)) H = some (.rop (eT (o.getD [])[i]).cells) := q16 (sz := 7) (e := eT) (o := o) (H := H) (k := .i64) (i := i) hlt
    have hld := q0o (t := (o.getD [])[i]) (H := H)
    have hi1 : IntKind.wrap .i64 ((i : Int) + 1) = (i : Int) + 1 := q0c (by omega) (by omega)
    have hr : ∀ (R : Type) (H : Heap) (k : AV → Heap → Option R), polK pRoomA [eT (o.getD [])[i], .int .i64 8, .int .i64 40] H k = k (.bool (roomS (o.getD [])[i] 8 40)) H := fun R H k => kRoomA (by omega) (by omega) (by omega)
    have hL := ih (i + 1) (by omega)
    simp only [Int.natCast_add, Int.natCast_one] at hL
    rw [List.drop_eq_getElem_cons hlt, List.all_cons]
    generalize ((o.getD []).drop (i + 1)).all (fun u => roomS u 8 40 && mayS u) = rest at *
    cases hrm : roomS (o.getD [])[i] 8 40
    · rw [hrm] at hr
      refine LDoes.step (Evs.of fun n m => ?_)
      generalize eT (o.getD [])[i] = v at *
      generalize ((o.getD []).length : Int) = N at *
      simp [↓q00, ↓q06, ↓q0a, ↓q09, ↓q01, ↓q03, ↓q0d, ↓q0e, ↓q0m, ↓q02, ↓q05, ↓q07, -q08, q4x, hln, hlt', hx, hld, hr]
    · rw [hrm] at hr
      have hm : ∀ (R : Type) (H : Heap) (k : AV → Heap → Option R), polK pRMayA [eT (o.getD [])[i]] H k = k (.bool (mayS (o.getD [])[i])) H := fun R H k => kRMayA (qep (by omega) _ 8 hrm)
      cases hmy : mayS (o.getD [])[i]
      · rw [hmy] at hm
        refine LDoes.step (Evs.of fun n m => ?_)
        generalize eT (o.getD [])[i] = v at *
        generalize ((o.getD []).length : Int) = N at *
        simp [↓q00, ↓q06, ↓q0a, ↓q09, ↓q01, ↓q03, ↓q0d, ↓q0e, ↓q0m, ↓q02, ↓q05, ↓q07, -q08, q4x, hln, hlt', hx, hld, hr, hm]
      · rw [hmy] at hm
        refine LDoes.step (Evs.withL hL (Evs.of fun n m _ h2 => ?_))
        generalize eT (o.getD [])[i] = v at *
        generalize ((o.getD []).length : Int) = N at *
        simp [↓q00, ↓q06, ↓q0a, ↓q09, ↓q01, ↓q03, ↓q0d, ↓q0e, ↓q0m, ↓q02, ↓q05, ↓q07, -q08, q4x, hln, hlt', hx, hld, hr, hm, hi1, h2]
noncomputable def pRooms : Pol := .still (p2 cTs (cI .i64) .bool (fun _ most => most ≤ 1000) roomsS)
theorem kRooms {R : Type} {o : Option (List Tm)} {most : Int} (h : most ≤ 1000) {H : Heap} {k : AV → Heap → Option R} : polK pRooms [eL 7 eT o, .int .i64 most] H k = k (.bool (roomsS o most)) H := by
  simp [pRooms, q0b, h]
theorem qfx : PolOK base 24 pRooms := still2 base_ok TRms ⟨okRoomA, okRMayA, trivial⟩ fun o most hm => by
  have hln : A.len (eL 7 eT o) [] = some (.int .i64 ((o.getD []).length : Int)) := q08
  unfold roomsS
  by_cases hc : ((o.getD []).length : Int) ≤ most
  · have hc' : ¬ most < ((o.getD []).length : Int) := by omega
    have hL := qj3 (o := o) (by omega) [] (o.getD []).length 0 (by omega)
    rw [List.drop_zero] at hL
    refine Evs.withL hL (Evs.of fun n m h1 _ => ?_)
    simp only [Int.natCast_zero, Int.ofNat_zero] at h1
    generalize (o.getD []).all (fun u => roomS u 8 40 && mayS u) = w at *
    generalize ((o.getD []).length : Int) = N at *
    cases w <;> simp [↓q00, ↓q06, ↓q0a, ↓q09, ↓q01, ↓q03, ↓q0d, ↓q0e, ↓q0m, ↓q02, ↓q05, ↓q07, -q08, S24, hln, hc, hc', h1]
  · have hc' : most < ((o.getD []).length : Int) := by omega
    generalize ((o.getD []).length : Int) = N at *
    exact Evs.of fun n m => by simp [↓q00, ↓q06, ↓q0a, ↓q09, ↓q01, ↓q03, ↓q0d, ↓q0e, ↓q0m, ↓q02, ↓q05, ↓q07, -q08, S24, hln, hc, hc']
theorem q7y {o : Option (List Tm)} {most : Int} (h : roomsS o most = true) : ((o.getD []).length : Int) ≤ most ∧ roomsAll (o.getD []) := by
  unfold roomsS at h
  simp only [Bool.and_eq_true, decide_eq_true_eq, List.all_eq_true] at h
  exact h
/-! ### a term that may be: as great as it has parts -/
theorem qhz : ∀ t : Tm, mayT countR t = true → t.size = szT t := q49 fun t ih h => by
  rw [q4o] at h
  simp only [Bool.and_eq_true, List.all_eq_true] at h
  obtain ⟨ho, hk⟩ := h
  have hl : ∀ l : List Tm, (∀ u ∈ l, u ∈ t.kids) → (∀ u ∈ l, mayT countR u = true) → Tm.sizes l = szs l := by
    intro l
    induction l with
    | nil => intro _ _; simp [Tm.sizes, szs]
    | cons u l ihl =>
      intro h1 h2
      rw [Tm.sizes, szs, ih u (h1 u (by simp)) (h2 u (by simp)), ihl (fun x hx => h1 x (by simp [hx])) fun x hx => h2 x (by simp [hx])]
  have hs : spareS t = true := by
    unfold oneS at ho
    simp only [Bool.and_eq_true] at ho
    exact ho.1
  rw [t.size_eq, szT_eq]
  congr 1
  unfold partsO
  unfold partsO at hk
  by_cases hc : t.kind = 4 ∨ t.kind = 6
  · rw [if_pos hc] at hk ⊢
    exact hl _ (fun u hu => hu) hk
  · rw [if_neg hc]
    have hz : t.kids.length = 0 := by
      unfold spareS at hs
      simp only [Bool.and_eq_true, Bool.or_eq_true, decide_eq_true_eq] at hs
      rcases hs.1.1.2 with h | h
      · exact absurd h hc
      · exact h
    rw [List.length_eq_zero_iff.1 hz]
    rfl
end Go.Proofs.YtleikacgncpfbaaDoor

/- Any two terms that are few and small: which is less, by both; rows of terms that are handed on. -/
set_option maxRecDepth 100000
set_option maxHeartbeats 4000000
namespace Go.Proofs.YtleikacgncpfbaaDoor
open Go Go.Den Go.Lib
/-! ### a row of terms that is handed on -/
theorem qfl {n sz : Nat} {α : Type} {e : α → AV} {H : Heap} {o : Option (List α)} : A.freezeB true (n + 1) H (eL sz e o) = some (eL sz e o) := by cases o <;> rfl
theorem qb8 {n : Nat} {H : Heap} {t : Tm} : (eT t).cells.mapM (A.freezeB true (n + 1) H) = some (eT t).cells := by
  have hd : A.freezeB true (n + 1) H (eD t.d) = some (eD t.d) := qfl
  have hl : A.freezeB true (n + 1) H (eL 7 eT t.l) = some (eL 7 eT t.l) := qfl
  have hb : A.freezeB true (n + 1) H (eL 1 eb t.b) = some (eL 1 eb t.b) := qfl
  have h0 : A.freezeB true (n + 1) H (.int .i64 t.kind) = some (.int .i64 t.kind) := rfl
  have h1 : A.freezeB true (n + 1) H (.bool t.neg) = some (.bool t.neg) := rfl
  have h3 : A.freezeB true (n + 1) H (.str t.name) = some (.str t.name) := rfl
  have h4 : A.freezeB true (n + 1) H (.int .i64 t.n) = some (.int .i64 t.n) := rfl
  rw [q04]
  simp [List.mapM_cons, h0, h1, hd, h3, h4, hl, hb]
theorem qc9 {id w cap : Nat} {l : List Tm} {H : Heap} (hr : H[id]? = some (.row w 7 26 (l.map eT))) : A.freezeB true 64 H (.sl id w 0 l.length cap) = some (eL 7 eT (some l)) := by
  show (match H[id]? with | some (.row w' z _ es) => if w' = w ∧ 0 + l.length ≤ es.length then (((es.drop 0).take l.length).mapM fun (e : AV) => match e with | AV.agg cs => (cs.mapM (A.freezeB true 63 H)).map AV.agg | e => A.freezeB true 63 H e).map (AV.sh z) else none | _ => none) = _
  rw [hr]
  dsimp only
  rw [if_pos ⟨rfl, by simp⟩, List.drop_zero, List.take_of_length_le (by simp)]
  have : ∀ m : List Tm, ((m.map eT).mapM fun (e : AV) => match e with | AV.agg cs => (cs.mapM (A.freezeB true 63 H)).map AV.agg | e => A.freezeB true 63 H e) = some (m.map eT) := fun m => by
    induction m with
    | nil => rfl
    | cons t m ih =>
      rw [List.map_cons, List.mapM_cons, ih]
      have h1 : (match eT t with | AV.agg cs => (cs.mapM (A.freezeB true 63 H)).map AV.agg | e => A.freezeB true 63 H e) = some (eT t) := by
        have hc := qb8 (n := 62) (H := H) (t := t)
        generalize hh : eT t = v at hc ⊢
        have e : v = .agg v.cells := by
          rw [← hh]
          exact q36 t
        generalize v.cells = cs at *
        subst e
        show (cs.mapM (A.freezeB true 63 H)).map AV.agg = _
        rw [hc]
        rfl
      rw [h1]
      rfl
  rw [this]
  rfl
theorem qio {R : Type} {id w cap : Nat} {l : List Tm} {most : Int} {H : Heap} {k : AV → Heap → Option R} (hm : most ≤ 1000) (hr : H[id]? = some (.row w 7 26 (l.map eT))) : polK pRooms [.sl id w 0 l.length cap, .int .i64 most] H k = k (.bool (roomsS (some l) most)) H := by
  unfold pRooms
  have h1 : A.freezeB true 64 H (.int .i64 most) = some (.int .i64 most) := rfl
  rw [qcw (q1e (qc9 hr) (q1e h1 rfl))]
  simp [hm]
  rfl
/-! ### small terms -/
theorem room_okR {most : Int} (hm : most ≤ 1000) : ∀ t dep, roomS t dep most = true → okR t := fun t => q49 (P := fun t => ∀ dep, roomS t dep most = true → okR t) (fun t ih dep h => by
  rw [q5a] at h
  simp only [Bool.and_eq_true, Bool.not_eq_true', Bool.or_eq_false_iff, decide_eq_false_iff_not, List.all_eq_true] at h
  obtain ⟨⟨⟨⟨⟨h1, h2⟩, h3⟩, h4⟩, h5⟩, h6⟩ := h
  exact okR_eq.2 ⟨⟨by unfold few; omega, by unfold q1k; omega, by omega, by omega⟩, fun u hu => ih u hu _ (h6 u hu)⟩) t
theorem qhj {t : Tm} (h : mayT countR t = true) : (0 ≤ t.kind ∧ t.kind ≤ 7) ∧ ∀ u ∈ t.kids, mayT countR u = true := by
  rw [q4o] at h
  simp only [Bool.and_eq_true, List.all_eq_true] at h
  obtain ⟨ho, hk⟩ := h
  unfold oneS at ho
  simp only [Bool.and_eq_true] at ho
  obtain ⟨hs, ho⟩ := ho
  refine ⟨?_, ?_⟩
  · by_cases c0 : t.kind = 0
    · omega
    by_cases c1 : t.kind = 1
    · omega
    by_cases c2 : t.kind = 2 ∨ t.kind = 3
    · omega
    by_cases c4 : t.kind = 4
    · omega
    by_cases c6 : t.kind = 6
    · omega
    by_cases c7 : t.kind = 7
    · omega
    rw [if_neg c0, if_neg c1, if_neg c2, if_neg c4, if_neg c6, if_neg c7] at ho
    have := of_decide_eq_true ho
    omega
  · unfold partsO at hk
    by_cases hc : t.kind = 4 ∨ t.kind = 6
    · rw [if_pos hc] at hk
      exact hk
    · intro u hu
      have hz : t.kids.length = 0 := by
        unfold spareS at hs
        simp only [Bool.and_eq_true, Bool.or_eq_true, decide_eq_true_eq] at hs
        rcases hs.1.1.2 with h | h
        · exact absurd h hc
        · exact h
      rw [List.length_eq_zero_iff.1 hz] at hu
      cases hu
theorem may_okA : ∀ t : Tm, okR t → mayT countR t = true → okA t := q49 fun t ih h1 h2 => by
  have h1 := okR_eq.1 h1
  obtain ⟨k1, k2⟩ := qhj h2
  exact okA_eq.2 ⟨⟨⟨k1.1, k1.2, h1.1.1⟩, h1.1.2.2.2⟩, fun u hu => ih u hu (h1.2 u hu) (k2 u hu)⟩
def fitT (t : Tm) : Prop := okA t ∧ okR t ∧ t.size ≤ 65536
theorem q5b {t : Tm} (h : roomS t 8 40 = true ∧ mayS t = true) : fitT t := by
  obtain ⟨h1, h2⟩ := h
  have hr := room_okR (by omega) t 8 h1
  unfold mayS at h2
  simp only [Bool.and_eq_true, decide_eq_true_eq] at h2
  refine ⟨may_okA t hr h2.2, hr, ?_⟩
  rw [qhz t h2.2]
  exact h2.1
end Go.Proofs.YtleikacgncpfbaaDoor

/- The seat's first question: by computation. -/
set_option maxRecDepth 100000
namespace Go.Proofs.YtleikacgncpfbaaDoor.awake6
open Go Go.Den
def q60 : List FuncId := [23, 25, 27, 29, 32, 35, 36, 46, 59, 60, 61, 62, 63, 68, 72, 82, 84, 85, 86, 87, 88, 89, 90, 91, 94, 97, 99, 100, 101, 102, 103, 106, 107, 108, 109, 111, 113, 114, 115, 116]
noncomputable def env0 : Env := { P := Tryd.prog, pol := fun f => bif Nat.beq f 110 then .prim q28 else .plain, ann := fun _ => {}, glob := fun g => bif Nat.beq g 0 then flatD (H := Unit) Rows.laid_unicode_utf8_first else bif Nat.beq g 1 then flatD (H := Unit) Rows.laid_unicode_utf8_acceptRanges else none }
def q4s : List (Nat × List (Nat × Nat × Nat)) := [(46, [(0, 0, 0), (0, 1, 1), (1, 15, 2)])]
def q65 : List (Nat × List (Nat × Nat × Nat)) → Nat → List (Nat × Nat × Nat)
  | [], _ => []
  | (g, l) :: r, f => bif Nat.beq g f then l else q65 r f
def annsIn (f : Nat) : Ann :=  .nil
noncomputable def tab (f : FuncId) : FAnn :=
  match Tryd.prog.funcs[f]? with
  | some fn => { ann := annsIn f, depth := Nat.log2 fn.ntmps + 1, sites := q65 q4s f, draws := mkDraws env0 (q65 q4s f) fn }
  | none => {}
noncomputable def env : Env := { env0 with ann := fun f => if f ∈ q60 then tab f else {} }
theorem env_ok : EnvOK env := envOK q60 (by kernel_rfl) (fun f hf => by show (if f ∈ q60 then tab f else {}).draws = []; rw [if_neg hf]) (by kernel_rfl)
theorem qcx : ∀ f, env.pol f = .plain ∨ ∃ F, env.pol f = .prim F ∧ PrimOK env f F := fun f => by
  cases h110 : Nat.beq f 110
  case true =>
    obtain rfl := Nat.eq_of_beq_eq_true h110
    exact .inr ⟨q28, rfl, q88 (fn := Tryd.f110) Tryd.func110 (by kernel_rfl) (by kernel_rfl) (by kernel_rfl) (by kernel_rfl)⟩
  case false =>
    refine .inl ?_
    show (bif Nat.beq f 110 then Pol.prim q28 else Pol.plain) = _
    simp only [h110, cond_false]
theorem calls_ok (n : Nat) : CallOK env (callF env n) := q97 env_ok (by kernel_rfl) qcx n
def q5e : Option AV → Bool
  | some (.bool true) => true
  | _ => false
theorem qa5 {x : Option AV} (h : q5e x = true) : x = some (.bool true) := by
  unfold q5e at h
  split at h
  · rfl
  · cases h
theorem known : callF env 300 AV 23 [] [] (fun v G => A.freezeB true 64 G v) = some (.bool true) := qa5 (by kernel_rfl)
end Go.Proofs.YtleikacgncpfbaaDoor.awake6
namespace Go.Proofs.YtleikacgncpfbaaDoor
open Go Go.Den
noncomputable def q7v : Pol := .still (Cd.f0 (.bool true))
theorem qcm : PolOK base 23 q7v := qei (E := base) (E' := awake6.env) rfl rfl awake6.calls_ok fun xs v h => by
  unfold Cd.f0 at h
  split at h
  · cases h
    exact ⟨300, awake6.known⟩
  · cases h
theorem q4l {R : Type} {H : Heap} {k : AV → Heap → Option R} : polK q7v [] H k = k (.bool true) H := by
  unfold q7v
  rw [q0b (by simp)]
  rfl
end Go.Proofs.YtleikacgncpfbaaDoor

/- The law on any two terms: what its function answers. -/
set_option maxRecDepth 100000
set_option maxHeartbeats 4000000
namespace Go.Proofs.YtleikacgncpfbaaDoor
open Go Go.Den Go.Lib
noncomputable abbrev TLq : List (FuncId × Pol) := [(23, q7v), (24, pRooms), (25, pCom), (26, pRcomA)]
theorem okTLq : TabOK base TLq := ⟨qcm, qfx, okCom, qfw, trivial⟩
theorem law_pairs (a b : Tm) : Evs fun n _ => callF (base.with (polT TLq)) (n + 1) AV 4 [eT a, eT b] [] (fun v _ => some v) = some (.bool true) := by
  have la : (eT a).cells.length = 7 := by rw [q04]; rfl
  have lb : (eT b).cells.length = 7 := by rw [q04]; rfl
  have oa : A.ofList true 7 (eT a).cells 0 = some (eT a) := q0o (H := [])
  have ob : A.ofList true 7 (eT b).cells 0 = some (eT b) := q0o (H := [])
  have hfe : A.fillElems 7 [AV.agg [(AV.int .i64 0), (AV.bool false), AV.nils, (AV.str []), (AV.int .i64 0), AV.nils, AV.nils], AV.agg [(AV.int .i64 0), (AV.bool false), AV.nils, (AV.str []), (AV.int .i64 0), AV.nils, AV.nils]] [(0, 1, eT a), (1, 1, eT b)] = some [eT a, eT b] := by
    have da : (eT a).isDef = true := q8o
    have db : (eT b).isDef = true := q8o
    simp [-q04, A.fillElems, la, lb]
  have hrm : ∀ (R : Type) (k : AV → Heap → Option R), polK pRooms [.sl 0 0 0 2 2, .int .i64 2] [.row 0 7 26 [eT a, eT b]] k = k (.bool (roomsS (some [a, b]) 2)) [.row 0 7 26 [eT a, eT b]] := fun R k => qio (l := [a, b]) (by omega) rfl
  cases hr : roomsS (some [a, b]) 2
  · rw [hr] at hrm
    exact Evs.of fun n m => by simp [↓q00, ↓q06, ↓q0a, ↓q09, ↓q01, ↓q0d, ↓q07, -q04, S4, q4l, la, lb, oa, ob, hfe, hrm]
  rw [hr] at hrm
  obtain ⟨-, hall⟩ := q7y hr
  have fa := q5b (hall a (by simp))
  have fb := q5b (hall b (by simp))
  have k1 : ∀ (R : Type) (H : Heap) (k : AV → Heap → Option R), polK pCom [eT a, eT b] H k = k (.int .i64 (cmpT a b)) H := fun R H k => kCom fa.1 fb.1 (by have := fa.2.2; omega)
  have k2 : ∀ (R : Type) (H : Heap) (k : AV → Heap → Option R), polK pRcomA [eT a, eT b] H k = k (.int .i64 (cmpT a b)) H := fun R H k => kRcomA fa.2.1 fb.2.1
  have k3 : ∀ (R : Type) (H : Heap) (k : AV → Heap → Option R), polK pCom [eT b, eT a] H k = k (.int .i64 (-cmpT a b)) H := fun R H k => by
    rw [kCom fb.1 fa.1 (by have := fb.2.2; omega), q1t]
  have k4 : ∀ (R : Type) (H : Heap) (k : AV → Heap → Option R), polK pCom [eT a, eT a] H k = k (.int .i64 0) H := fun R H k => by
    rw [kCom fa.1 fa.1 (by have := fa.2.2; omega), qc0]
  have hrg := cmp_range a b
  have hneg : A.un .neg (.int .i64 (cmpT a b)) = some (.int .i64 (-cmpT a b)) := by
    have : IntKind.wrap .i64 (-cmpT a b) = -cmpT a b := q0c (by omega) (by omega)
    simp [A.un, this]
  generalize cmpT a b = Z at *
  refine Evs.of fun n m => ?_
  simp [↓q00, ↓q06, ↓q0a, ↓q09, ↓q01, ↓q03, ↓q0d, ↓q02, ↓q07, -q04, S4, q4l, la, lb, oa, ob, hfe, hrm, k1, k2, k3, k4, hneg]
end Go.Proofs.YtleikacgncpfbaaDoor

/- Any two terms: that what is less is so in order. -/
set_option maxRecDepth 100000
set_option maxHeartbeats 4000000
namespace Go.Proofs.YtleikacgncpfbaaDoor
open Go Go.Den Go.Lib
theorem q9w {a b : Tm} (c : Tm) (h : oneT a b = 0) : oneT a c = oneT b c := by
  have e := q6p h
  have n1 : ¬ a.kind ≠ b.kind := fun g => g e
  unfold oneT at h ⊢
  rw [if_neg n1] at h
  rw [← e]
  split
  · rfl
  by_cases c0 : a.kind = 0
  · rw [if_pos c0] at h ⊢
    rw [if_pos c0, cmpI_eq.1 h]
  rw [if_neg c0] at h ⊢
  rw [if_neg c0]
  by_cases c1 : a.kind = 1
  · rw [if_pos c1] at h ⊢
    rw [if_pos c1, (qe6 _ _).1 h]
  rw [if_neg c1] at h ⊢
  rw [if_neg c1]
  by_cases c2 : a.kind = 2 ∨ a.kind = 3
  · rw [if_pos c2] at h ⊢
    rw [if_pos c2, ord_zero.1 h]
  rw [if_neg c2] at h ⊢
  rw [if_neg c2]
  by_cases c4 : a.kind = 4 ∨ a.kind = 6
  · rw [if_pos c4] at h ⊢
    rw [if_pos c4, ord_zero.1 h]
  rw [if_neg c4] at h ⊢
  rw [if_neg c4]
  by_cases c7 : a.kind = 7
  · rw [if_pos c7] at h ⊢
    rw [if_pos c7, (q58 _ _).1 h]
  · rw [if_neg c7] at h ⊢
    rw [if_neg c7]
theorem cmp_one {a b : Tm} (h : cmpT a b = 0) : oneT a b = 0 ∧ (a.kind = 4 ∨ a.kind = 6 → cmpTs a.kids b.kids = 0) := by
  rw [q3c] at h
  by_cases e : oneT a b = 0
  · have n1 : ¬ oneT a b ≠ 0 := fun g => g e
    rw [if_neg n1] at h
    exact ⟨e, fun hk => by rw [if_pos hk] at h; exact h⟩
  · rw [if_pos e] at h
    exact absurd h e
theorem q6b : ∀ (a b c : Tm), cmpT a b = 0 → cmpT a c = cmpT b c := q49 fun a ih b c h => by
  obtain ⟨h1, h2⟩ := cmp_one h
  have e := q9w c h1
  have hk := q6p h1
  rw [q3c a c, q3c b c, ← e, ← hk]
  by_cases k : a.kind = 4 ∨ a.kind = 6
  · rw [if_pos k, if_pos k]
    have hl := qcp h1 k
    have h2 := h2 k
    have : ∀ (l m n : List Tm), (∀ u ∈ l, ∀ b c, cmpT u b = 0 → cmpT u c = cmpT b c) → l.length = m.length → cmpTs l m = 0 → cmpTs l n = cmpTs m n := by
      intro l
      induction l with
      | nil =>
        intro m n _ hlen _
        cases m with
        | nil => rfl
        | cons u m => simp at hlen
      | cons t l ihl =>
        intro m n hall hlen hz
        cases m with
        | nil => simp at hlen
        | cons u m =>
          rw [q17] at hz
          by_cases hc : cmpT t u = 0
          · have n1 : ¬ cmpT t u ≠ 0 := fun g => g hc
            rw [if_neg n1] at hz
            cases n with
            | nil => rw [q20, q20]
            | cons v n =>
              rw [q17, q17, hall t (by simp) u v hc, ihl m n (fun u hu => hall u (by simp [hu])) (by simpa using hlen) hz]
          · rw [if_pos hc] at hz
            exact absurd hz hc
    rw [this a.kids b.kids c.kids ih hl h2]
  · rw [if_neg k, if_neg k]
theorem q7j (a b c : Tm) (h : cmpT b c = 0) : cmpT a b = cmpT a c := by
  have := q6b b c a h
  have e1 := q1t a b
  have e2 := q1t a c
  omega
def okV1 (t : Tm) : Prop := t.kind = 1 → validD t.name = true
def okV (t : Tm) : Prop := evT okV1 t
theorem okV_eq {t : Tm} : okV t ↔ okV1 t ∧ ∀ u ∈ t.kids, okV u := qdu
theorem one_trans {a b c : Tm} (va : okV1 a) (vb : okV1 b) (vc : okV1 c) (h : oneT a b ≤ 0) (g : oneT b c ≤ 0) : oneT a c ≤ 0 := by
  by_cases h1 : a.kind = b.kind
  · by_cases h2 : b.kind = c.kind
    · have n1 : ¬ a.kind ≠ b.kind := fun g => g h1
      have n2 : ¬ b.kind ≠ c.kind := fun g => g h2
      have n3 : ¬ a.kind ≠ c.kind := fun g => g (h1.trans h2)
      unfold oneT at *
      rw [if_neg n1] at h
      rw [if_neg n2, ← h1] at g
      rw [if_neg n3]
      by_cases c0 : a.kind = 0
      · rw [if_pos c0] at h g ⊢
        exact q6s h g
      rw [if_neg c0] at h g ⊢
      by_cases c1 : a.kind = 1
      · rw [if_pos c1] at h g ⊢
        have wa := va c1
        have wb := vb (by omega)
        have wc := vc (by omega)
        unfold lessR at h g ⊢
        rw [if_pos ⟨wa, wb⟩] at h
        rw [if_pos ⟨wb, wc⟩] at g
        rw [if_pos ⟨wa, wc⟩]
        exact q9r _ _ _ h g
      rw [if_neg c1] at h g ⊢
      by_cases c2 : a.kind = 2 ∨ a.kind = 3
      · rw [if_pos c2] at h g ⊢
        exact q6s h g
      rw [if_neg c2] at h g ⊢
      by_cases c4 : a.kind = 4 ∨ a.kind = 6
      · rw [if_pos c4] at h g ⊢
        exact q6s h g
      rw [if_neg c4] at h g ⊢
      by_cases c7 : a.kind = 7
      · rw [if_pos c7] at h g ⊢
        exact q9r _ _ _ h g
      · rw [if_neg c7]
        omega
    · unfold oneT at g ⊢
      rw [if_pos h2] at g
      rw [if_pos (show a.kind ≠ c.kind by rw [h1]; exact h2), h1]
      exact g
  · by_cases h2 : b.kind = c.kind
    · unfold oneT at h ⊢
      rw [if_pos h1] at h
      rw [if_pos (show a.kind ≠ c.kind by rw [← h2]; exact h1), ← h2]
      exact h
    · unfold oneT at h g
      rw [if_pos h1] at h
      rw [if_pos h2] at g
      by_cases h3 : a.kind = c.kind
      · exfalso
        rw [← h3] at g
        have e := q8t a.kind b.kind
        exact h1 (ord_zero.1 (by omega))
      · unfold oneT
        rw [if_pos h3]
        exact q6s h g
theorem cmp_lt : ∀ (a b c : Tm), okV a → okV b → okV c → cmpT a b < 0 → cmpT b c < 0 → cmpT a c < 0 := q49 fun a ih b c va vb vc h g => by
  have va := okV_eq.1 va
  have vb := okV_eq.1 vb
  have vc := okV_eq.1 vc
  rw [q3c] at h g ⊢
  by_cases e1 : oneT a b = 0
  · have n1 : ¬ oneT a b ≠ 0 := fun g => g e1
    rw [if_neg n1] at h
    have e2 := q9w c e1
    rw [e2]
    by_cases e3 : oneT b c = 0
    · have n2 : ¬ oneT b c ≠ 0 := fun g => g e3
      rw [if_neg n2] at g ⊢
      have k1 := q6p e1
      rw [← k1] at g
      by_cases k : a.kind = 4 ∨ a.kind = 6
      · rw [if_pos k] at h g ⊢
        have l1 := qcp e1 k
        have l2 := qcp e3 (by rw [← k1]; exact k)
        have key : ∀ (l m n : List Tm), (∀ u ∈ l, ∀ b c, okV u → okV b → okV c → cmpT u b < 0 → cmpT b c < 0 → cmpT u c < 0) → (∀ u ∈ l, okV u) → (∀ u ∈ m, okV u) → (∀ u ∈ n, okV u) → l.length = m.length → m.length = n.length → cmpTs l m < 0 → cmpTs m n < 0 → cmpTs l n < 0 := by
          intro l
          induction l with
          | nil =>
            intro m n _ _ _ _ _ _ h1 _
            rw [q2g] at h1
            omega
          | cons t l ihl =>
            intro m n hall v1 v2 v3 l1 l2 h1 h2
            match m, n, l1, l2 with
            | u :: m, v :: n, l1, l2 =>
              rw [q17] at h1 h2 ⊢
              by_cases c1 : cmpT t u = 0
              · have n1 : ¬ cmpT t u ≠ 0 := fun g => g c1
                rw [if_neg n1] at h1
                rw [q6b t u v c1]
                by_cases c2 : cmpT u v = 0
                · have n2 : ¬ cmpT u v ≠ 0 := fun g => g c2
                  rw [if_neg n2] at h2 ⊢
                  exact ihl m n (fun u hu => hall u (by simp [hu])) (fun u hu => v1 u (by simp [hu])) (fun u hu => v2 u (by simp [hu])) (fun u hu => v3 u (by simp [hu])) (by simpa using l1) (by simpa using l2) h1 h2
                · rw [if_pos c2] at h2 ⊢
                  exact h2
              · rw [if_pos c1] at h1
                by_cases c2 : cmpT u v = 0
                · rw [← q7j t u v c2, if_pos c1]
                  exact h1
                · rw [if_pos c2] at h2
                  have := hall t (by simp) u v (v1 t (by simp)) (v2 u (by simp)) (v3 v (by simp)) h1 h2
                  rw [if_pos (show cmpT t v ≠ 0 by omega)]
                  exact this
        exact key _ _ _ ih va.2 vb.2 vc.2 l1 l2 h g
      · rw [if_neg k] at h
        omega
    · rw [if_pos e3] at g ⊢
      exact g
  · rw [if_pos e1] at h
    have g1 : oneT b c ≤ 0 := by
      by_cases e3 : oneT b c = 0
      · omega
      · rw [if_pos e3] at g
        omega
    have e4 := one_trans va.1 vb.1 vc.1 (show oneT a b ≤ 0 by omega) g1
    have e5 : oneT a c ≠ 0 := fun e => by
      have x1 := q9w b e
      have x2 := qhm b c
      omega
    rw [if_pos e5]
    omega
theorem q6c {a b c : Tm} (va : okV a) (vb : okV b) (vc : okV c) (h : cmpT a b ≤ 0) (g : cmpT b c ≤ 0) : cmpT a c ≤ 0 := by
  by_cases e1 : cmpT a b = 0
  · rw [q6b a b c e1]
    exact g
  · by_cases e2 : cmpT b c = 0
    · rw [← q7j a b c e2]
      exact h
    · have := cmp_lt a b c va vb vc (by omega) (by omega)
      omega
theorem may_okV : ∀ t : Tm, mayT countR t = true → okV t := q49 fun t ih h => by
  obtain ⟨-, k2⟩ := qhj h
  refine okV_eq.2 ⟨fun hk => ?_, fun u hu => ih u hu (k2 u hu)⟩
  rw [q4o] at h
  simp only [Bool.and_eq_true] at h
  have ho := h.1
  unfold oneS at ho
  have c0 : ¬ t.kind = 0 := by omega
  rw [if_neg c0, if_pos hk] at ho
  simp only [Bool.and_eq_true, decide_eq_true_eq] at ho
  exact countR_valid.1 ho.2.1
theorem qhs {t : Tm} (h : roomS t 8 40 = true ∧ mayS t = true) : okV t := by
  have h2 := h.2
  unfold mayS at h2
  simp only [Bool.and_eq_true, decide_eq_true_eq] at h2
  exact may_okV t h2.2
end Go.Proofs.YtleikacgncpfbaaDoor

/- Terms in order: the sort of the library, of no more than twenty. -/
set_option maxRecDepth 100000
set_option maxHeartbeats 4000000
namespace Go.Proofs.YtleikacgncpfbaaDoor
open Go Go.Den Go.Lib
/-! ### one more, put into a row in order, the last ones first -/
noncomputable def insR : List Tm → Tm → List Tm
  | [], x => [x]
  | y :: r, x => if cmpT x y < 0 then y :: insR r x else x :: y :: r
noncomputable def sortR : List Tm → List Tm → List Tm
  | acc, [] => acc
  | acc, x :: r => sortR (insR acc x) r
theorem q1u (y : Tm) (r : List Tm) (x : Tm) : insR (y :: r) x = if cmpT x y < 0 then y :: insR r x else x :: y :: r := rfl
theorem q40 : ∀ (r : List Tm) (x : Tm), (insR r x).length = r.length + 1
  | [], x => rfl
  | y :: r, x => by
    unfold insR
    split
    · simp [q40 r x]
    · simp
theorem qey : ∀ (r acc : List Tm), (sortR acc r).length = acc.length + r.length
  | [], acc => rfl
  | x :: r, acc => by
    rw [sortR, qey r, q40, List.length_cons]
    omega
theorem q9o {p : Tm → Prop} : ∀ {r : List Tm} {x : Tm}, (∀ u ∈ r, p u) → p x → ∀ u ∈ insR r x, p u
  | [], x, _, hx, u, hu => by
    simp only [insR, List.mem_singleton] at hu
    rw [hu]
    exact hx
  | y :: r, x, h, hx, u, hu => by
    rw [q1u] at hu
    split at hu
    · rcases List.mem_cons.1 hu with rfl | hu
      · exact h _ (by simp)
      · exact q9o (fun v hv => h v (by simp [hv])) hx u hu
    · rcases List.mem_cons.1 hu with rfl | hu
      · exact hx
      · exact h u hu
theorem qi0 {p : Tm → Prop} : ∀ {r acc : List Tm}, (∀ u ∈ acc, p u) → (∀ u ∈ r, p u) → ∀ u ∈ sortR acc r, p u
  | [], acc, h, _, u, hu => h u hu
  | x :: r, acc, h, h2, u, hu => by
    rw [sortR] at hu
    exact qi0 (q9o h (h2 x (by simp))) (fun v hv => h2 v (by simp [hv])) u hu
/-! ### a row of terms -/
theorem qc7 {t : Tm} : A.fits 7 (eT t) = true := by
  have := q04 (t := t)
  unfold A.fits
  rw [this]
  cases t.d <;> cases t.l <;> cases t.b <;> rfl
theorem q5c {H : Heap} {q ver n cap j : Nat} {W : List Tm} {k : IntKind} (h : H[q]? = some (.row ver 7 26 (W.map eT))) (hj : j < n) : A.idx 7 (.sl q ver 0 n cap) (.int k (j : Int)) H = some (.ptr q ver j 0) := by
  have := qa4 (sz := 7) (off := 0) (n := n) (cap := cap) (k := k) (i := (j : Int)) h (by omega) (by omega)
  simpa using this
theorem q6x {H : Heap} {q ver j : Nat} {W : List Tm} {x : Tm} (h : H[q]? = some (.row ver 7 26 (W.map eT))) (hx : W[j]? = some x) : A.load true 7 (.ptr q ver j 0) H = some (eT x) := by
  have hc : A.ofList true 7 (eT x).cells 0 = some (eT x) := q0o (H := H)
  simp [-q04, A.load, A.elemAt, h, hx, hc]
theorem q5d {H : Heap} {q ver j : Nat} {W : List Tm} {x y : Tm} (h : H[q]? = some (.row ver 7 26 (W.map eT))) (hx : W[j]? = some x) : A.store 7 (.ptr q ver j 0) (eT y) H = some (H.set q (.row ver 7 26 ((W.set j y).map eT))) := by
  have hs : A.setElem (eT x) 0 (eT y) = some (eT y) := by
    rw [q36 x, q36 y]
    have l1 : (eT x).cells.length = 7 := by rw [q04]; rfl
    have l2 : (eT y).cells.length = 7 := by rw [q04]; rfl
    generalize (eT x).cells = cx at *
    generalize (eT y).cells = cy at *
    show (if 0 + cy.length ≤ cx.length then some (AV.agg (A.splice cx 0 cy)) else none) = _
    rw [if_pos (by omega)]
    have : A.splice cx 0 cy = cx.take 0 ++ cy ++ cx.drop (0 + cy.length) := rfl
    rw [this, List.drop_of_length_le (by omega)]
    simp
  have he : (W.map eT)[j]? = some (eT x) := by rw [List.getElem?_map, hx]; rfl
  show (bif A.fits 7 (eT y) then _ else none) = _
  rw [qc7, h]
  show (bif ver == ver then _ else none) = _
  rw [beq_self_eq_true]
  show ((W.map eT)[j]?.bind fun e => (A.setElem e 0 (eT y)).map fun e' => H.set q (.row ver 7 26 ((W.map eT).set j e'))) = _
  rw [he]
  show (A.setElem (eT x) 0 (eT y)).map _ = _
  rw [hs, List.map_set]
  rfl
/-! ### the sort by putting in -/
noncomputable abbrev TIns : List (FuncId × Pol) := [(25, pCom)]
def okC (t : Tm) : Prop := okA t ∧ t.size ≤ 1000000000
theorem sink_loop {q ver cap n : Nat} {b c : AV} {x : Tm} {D : List Tm} (hx : okC x) : ∀ (rp : List Tm), (∀ u ∈ rp, okC u) → (rp.reverse ++ x :: D).length = n → n ≤ 1000000 → ∀ (H : Heap), H[q]? = some (.row ver 7 26 ((rp.reverse ++ x :: D).map eT)) →
    ∃ H', LDoes (qgp (polT TIns)) ⟨[.sl q ver 0 n cap, .int .i64 0, b, .fn (.func 25) [] [], c, .int .i64 (rp.length : Int)], []⟩ H 0 ⟨[.sl q ver 0 n cap, .int .i64 0, b, .fn (.func 25) [] [], c], []⟩ H' ∧ H'[q]? = some (.row ver 7 26 (((insR rp x).reverse ++ D).map eT)) := by
  intro rp
  induction rp generalizing D with
  | nil =>
    intro _ hn hn2 H hH
    refine ⟨H, LDoes.step (Evs.of fun n m => ?_), by simpa [insR] using hH⟩
    simp [↓q00, ↓q01, ↓q03, ↓q02, q5q]
  | cons y r ih =>
    intro hall hn hn2 H hH
    have hW : (y :: r).reverse ++ x :: D = r.reverse ++ y :: x :: D := by simp
    rw [hW] at hH hn
    have hn3 : r.length + 2 + D.length = n := by
      simp only [List.length_append, List.length_reverse, List.length_cons] at hn
      omega
    generalize hWe : r.reverse ++ y :: x :: D = W at hH hn
    have hj : W[r.length + 1]? = some x := by
      rw [← hWe, List.getElem?_append_right (by simp)]
      simp
    have hi : W[r.length]? = some y := by
      rw [← hWe, List.getElem?_append_right (by simp)]
      simp
    have i1 : A.idx 7 (.sl q ver 0 n cap) (.int .i64 ((r.length + 1 : Nat) : Int)) H = some (.ptr q ver (r.length + 1) 0) := q5c hH (by omega)
    have i0 : A.idx 7 (.sl q ver 0 n cap) (.int .i64 ((r.length : Nat) : Int)) H = some (.ptr q ver r.length 0) := q5c hH (by omega)
    have l1 := q6x hH hj
    have l0 := q6x hH hi
    have kc : ∀ (R : Type) (H : Heap) (k : AV → Heap → Option R), polK pCom [eT x, eT y] H k = k (.int .i64 (cmpT x y)) H := fun R H k => kCom hx.1 (hall y (by simp)).1 hx.2
    have hcl : ∀ (R : Type) (H : Heap) (k : AV → Heap → Option R) (m : Nat), clV base (polT TIns) m (.fn (.func 25) [] []) [eT x, eT y] H k = k (.int .i64 (cmpT x y)) H := fun R H k m => by
      rw [clV_fn, cl_polT]
      exact kc R H k
    have w1 : IntKind.wrap .i64 (((r.length + 1 : Nat) : Int) - 1) = ((r.length : Nat) : Int) := by rw [q0c (by omega) (by omega)]; omega
    have hpos : (0 : Int) < ((r.length + 1 : Nat) : Int) := by omega
    have hl : ((y :: r).length : Int) = ((r.length + 1 : Nat) : Int) := by simp
    rw [hl]
    by_cases hc : cmpT x y < 0
    · have s1 := q5d (y := y) hH hj
      have hH1 : (H.set q (.row ver 7 26 ((W.set (r.length + 1) y).map eT)))[q]? = some (.row ver 7 26 ((W.set (r.length + 1) y).map eT)) := q4r hH
      have hi1 : (W.set (r.length + 1) y)[r.length]? = some y := by rw [List.getElem?_set_ne (by omega)]; exact hi
      have i2 : A.idx 7 (.sl q ver 0 n cap) (.int .i64 ((r.length : Nat) : Int)) (H.set q (.row ver 7 26 ((W.set (r.length + 1) y).map eT))) = some (.ptr q ver r.length 0) := q5c hH1 (by omega)
      have s2 := q5d (y := x) hH1 hi1
      have hW2 : (W.set (r.length + 1) y).set r.length x = r.reverse ++ x :: y :: D := by
        rw [← hWe, List.set_append_right _ _ (by simp), List.set_append_right _ _ (by simp)]
        simp
      rw [hW2] at s2
      have hH2 := q4r (x := HObj.row ver 7 26 ((r.reverse ++ x :: y :: D).map eT)) hH1
      generalize H.set q (.row ver 7 26 ((W.set (r.length + 1) y).map eT)) = H1 at *
      obtain ⟨H', hL, hf⟩ := ih (D := y :: D) (fun u hu => hall u (by simp [hu])) (by simp; omega) hn2 _ hH2
      generalize H1.set q (.row ver 7 26 ((r.reverse ++ x :: y :: D).map eT)) = H2 at *
      have hI : (insR (y :: r) x).reverse ++ D = (insR r x).reverse ++ y :: D := by
        rw [q1u, if_pos hc]
        simp
      rw [hI]
      refine ⟨H', LDoes.step (Evs.withL hL (Evs.of fun n m _ h2 => ?_)), hf⟩
      generalize eT x = vx at *
      generalize eT y = vy at *
      generalize cmpT x y = Z at *
      generalize ((r.length + 1 : Nat) : Int) = J at *
      generalize ((r.length : Nat) : Int) = I at *
      simp [↓q00, ↓q01, ↓q03, ↓q0e, ↓q02, ↓q07, q5q, hpos, i1, w1, i0, l1, l0, hcl, hc, s1, i2, s2, AV.heapy, h2]
    · have hI : (insR (y :: r) x).reverse ++ D = W := by
        rw [q1u, if_neg hc, ← hWe]
        simp
      rw [hI]
      refine ⟨H, LDoes.step (Evs.of fun n m => ?_), hH⟩
      generalize eT x = vx at *
      generalize eT y = vy at *
      generalize cmpT x y = Z at *
      generalize ((r.length + 1 : Nat) : Int) = J at *
      generalize ((r.length : Nat) : Int) = I at *
      simp [↓q00, ↓q01, ↓q03, ↓q02, q5q, hpos, i1, w1, i0, l1, l0, hcl, hc]
abbrev fnC : AV := .fn (.func 25) [] []
theorem ins_loop {q ver cap n : Nat} : ∀ (rest acc : List Tm), (∀ u ∈ acc, okC u) → (∀ u ∈ rest, okC u) → acc.length + rest.length = n → n ≤ 1000000 → ∀ (H : Heap), H[q]? = some (.row ver 7 26 ((acc.reverse ++ rest).map eT)) →
    ∃ H', LDoes (q8w (polT TIns)) ⟨[.sl q ver 0 n cap, .int .i64 0, .int .i64 (n : Int), fnC, .int .i64 (acc.length : Int)], []⟩ H 0 ⟨[], []⟩ H' ∧ H'[q]? = some (.row ver 7 26 ((sortR acc rest).reverse.map eT)) := by
  intro rest
  induction rest with
  | nil =>
    intro acc _ _ hn hn2 H hH
    have hlt : ¬ ((acc.length : Int) < (n : Int)) := by simp only [List.length_nil] at hn; omega
    refine ⟨H, LDoes.step (Evs.of fun n m => ?_), by simpa [sortR] using hH⟩
    simp [↓q00, ↓q01, q2s, hlt]
  | cons x rest ih =>
    intro acc h1 h2 hn hn2 H hH
    have hlen : acc.length + rest.length + 1 = n := by simp only [List.length_cons] at hn; omega
    have hlt : (acc.length : Int) < (n : Int) := by omega
    obtain ⟨H1, hL1, hf1⟩ := sink_loop (q := q) (ver := ver) (cap := cap) (n := n) (b := .int .i64 (n : Int)) (c := .int .i64 (acc.length : Int)) (x := x) (D := rest) (h2 x (by simp)) acc h1 (by simp; omega) hn2 H hH
    have hins : ∀ u ∈ insR acc x, okC u := q9o h1 (h2 x (by simp))
    obtain ⟨H2, hL2, hf2⟩ := ih (insR acc x) hins (fun u hu => h2 u (by simp [hu])) (by rw [q40]; omega) hn2 H1 hf1
    have hw : IntKind.wrap .i64 ((acc.length : Int) + 1) = ((insR acc x).length : Int) := by
      rw [q40, q0c (by omega) (by omega)]
      omega
    refine ⟨H2, LDoes.step (Evs.withL hL1 (Evs.withL hL2 (Evs.of fun n m _ g2 g1 _ => ?_))), by rw [sortR]; exact hf2⟩
    generalize ((insR acc x).length : Int) = J at *
    generalize (acc.length : Int) = I at *
    simp [↓q00, ↓q06, ↓q01, ↓q05, q2s, hlt, g1, hw, g2]
theorem run_ins {q ver cap : Nat} {W : List Tm} {H : Heap} (hall : ∀ u ∈ W, okC u) (hn : W.length ≤ 1000000) (hH : H[q]? = some (.row ver 7 26 (W.map eT))) :
    ∃ H', runF base TIns 104 [.sl q ver 0 W.length cap, .int .i64 0, .int .i64 (W.length : Int), fnC] H = some (.tup [], H') ∧ H'[q]? = some (.row ver 7 26 ((sortR [] W).reverse.map eT)) := by
  have w1 : IntKind.wrap .i64 1 = 1 := q0c (by omega) (by omega)
  cases W with
  | nil =>
    have hL : LDoes (q8w (polT TIns)) ⟨[.sl q ver 0 0 cap, .int .i64 0, .int .i64 0, fnC, .int .i64 1], []⟩ H 0 ⟨[], []⟩ H := LDoes.step (Evs.of fun n m => by simp [↓q00, ↓q01, q2s])
    refine ⟨H, q3g (Evs.withL hL (Evs.of fun n m h _ => ?_)), by simpa [sortR] using hH⟩
    simp [↓q01, ↓q05, S104, w1, h]
  | cons x W =>
    obtain ⟨H', hL, hf⟩ := ins_loop (q := q) (ver := ver) (cap := cap) (n := (x :: W).length) W [x] (fun u hu => hall u (by simp at hu; simp [hu])) (fun u hu => hall u (by simp [hu])) (by simp; omega) hn H hH
    refine ⟨H', q3g (Evs.withL hL (Evs.of fun n m h _ => ?_)), hf⟩
    have e1 : ((([x] : List Tm).length : Nat) : Int) = 1 := rfl
    rw [e1] at h
    generalize (x :: W).length = N at *
    generalize (N : Int) = Z at *
    simp [↓q01, ↓q05, S104, w1, h]
/-! ### the stable sort, of no more than twenty -/
noncomputable def pIns : Pol := .prim (runF base TIns 104)
theorem okIns : PolOK base 104 pIns := qhl base_ok TIns ⟨okCom, trivial⟩
noncomputable abbrev TStb : List (FuncId × Pol) := [(104, pIns)]
noncomputable def pStb : Pol := .prim (runF base TStb 96)
theorem okStb : PolOK base 96 pStb := qhl base_ok TStb ⟨okIns, trivial⟩
noncomputable abbrev TSts : List (FuncId × Pol) := [(96, pStb)]
noncomputable def pSts : Pol := .prim (runF base TSts 76)
theorem okSts : PolOK base 76 pSts := qhl base_ok TSts ⟨okStb, trivial⟩
theorem run_same {q ver cap n : Nat} {H : Heap} (a : Int) (h0 : 0 ≤ a) (h1 : a ≤ 1000) : runF base TIns 104 [.sl q ver 0 n cap, .int .i64 a, .int .i64 a, fnC] H = some (.tup [], H) := by
  have w1 : IntKind.wrap .i64 (a + 1) = a + 1 := q0c (by omega) (by omega)
  have hlt : ¬ (a + 1 < a) := by omega
  have hL : LDoes (q8w (polT TIns)) ⟨[.sl q ver 0 n cap, .int .i64 a, .int .i64 a, fnC, .int .i64 (a + 1)], []⟩ H 0 ⟨[], []⟩ H := LDoes.step (Evs.of fun n m => by simp [↓q00, ↓q01, q2s, hlt])
  refine q3g (Evs.withL hL (Evs.of fun n m h _ => ?_))
  simp [↓q01, ↓q05, S104, w1, h]
theorem run_nil {H : Heap} : runF base TIns 104 [.nils, .int .i64 0, .int .i64 0, fnC] H = some (.tup [], H) := by
  have w1 : IntKind.wrap .i64 1 = 1 := q0c (by omega) (by omega)
  have hL : LDoes (q8w (polT TIns)) ⟨[.nils, .int .i64 0, .int .i64 0, fnC, .int .i64 1], []⟩ H 0 ⟨[], []⟩ H := LDoes.step (Evs.of fun n m => by simp [↓q00, ↓q01, q2s])
  refine q3g (Evs.withL hL (Evs.of fun n m h _ => ?_))
  simp [↓q01, ↓q05, S104, w1, h]
theorem qgf {v : AV} {n : Nat} {H : Heap} (hn : n ≤ 20) : LDoes (L96_1 (polT TStb)) ⟨[v, .int .i64 (n : Int), fnC, .int .i64 20], []⟩ H 0 ⟨[], []⟩ H := by
  have hlt : ¬ ((20 : Int) < (n : Int)) := by omega
  generalize (n : Int) = N at *
  exact LDoes.step (Evs.of fun n m => by simp [↓q00, ↓q01, qi6, hlt])
theorem run_stb {q ver cap : Nat} {W : List Tm} {H : Heap} (hall : ∀ u ∈ W, okC u) (hn : W.length ≤ 20) (hH : H[q]? = some (.row ver 7 26 (W.map eT))) :
    ∃ H', runF base TStb 96 [.sl q ver 0 W.length cap, .int .i64 (W.length : Int), fnC] H = some (.tup [], H') ∧ H'[q]? = some (.row ver 7 26 ((sortR [] W).reverse.map eT)) := by
  obtain ⟨H', hr, hf⟩ := run_ins (cap := cap) hall (by omega) hH
  have kr : ∀ (R : Type) (k : AV → Heap → Option R), polK pIns [.sl q ver 0 W.length cap, .int .i64 0, .int .i64 (W.length : Int), fnC] H k = k (.tup []) H' := fun R k => qe3 hr
  by_cases hlt : W.length < 20
  · have hle : ¬ ((20 : Int) ≤ (W.length : Int)) := by omega
    have hE := qgf (v := .sl q ver 0 W.length cap) (H := H') hn
    generalize W.length = N at *
    generalize (N : Int) = Z at *
    have hL : LDoes (qf4 (polT TStb)) ⟨[.sl q ver 0 N cap, .int .i64 Z, fnC, .int .i64 20, .int .i64 0, .int .i64 20], []⟩ H 0 ⟨[.sl q ver 0 N cap, .int .i64 Z, fnC, .int .i64 20, .int .i64 0], []⟩ H := LDoes.step (Evs.of fun n m => by simp [↓q00, ↓q01, q51, hle])
    refine ⟨H', q3g (Evs.withL hL (Evs.withL hE (Evs.of fun n m h2 _ h _ => ?_))), hf⟩
    simp [↓q06, ↓q05, S96, h, kr, h2]
  · have he : W.length = 20 := by omega
    rw [he] at kr ⊢
    have hE := qgf (v := .sl q ver 0 20 cap) (n := 20) (H := H') (by omega)
    have k2 : ∀ (R : Type) (k : AV → Heap → Option R), polK pIns [.sl q ver 0 20 cap, .int .i64 20, .int .i64 20, fnC] H' k = k (.tup []) H' := fun R k => qe3 (run_same 20 (by omega) (by omega))
    have hL2 : LDoes (qf4 (polT TStb)) ⟨[.sl q ver 0 20 cap, .int .i64 20, fnC, .int .i64 20, .int .i64 20, .int .i64 40], []⟩ H' 0 ⟨[.sl q ver 0 20 cap, .int .i64 20, fnC, .int .i64 20, .int .i64 20], []⟩ H' := LDoes.step (Evs.of fun n m => by simp [↓q00, ↓q01, q51])
    have w1 : IntKind.wrap .i64 40 = 40 := q0c (by omega) (by omega)
    have c20 : (((20 : Nat)) : Int) = 20 := rfl
    rw [c20] at kr hE ⊢
    have hL : LDoes (qf4 (polT TStb)) ⟨[.sl q ver 0 20 cap, .int .i64 20, fnC, .int .i64 20, .int .i64 0, .int .i64 20], []⟩ H 0 ⟨[.sl q ver 0 20 cap, .int .i64 20, fnC, .int .i64 20, .int .i64 20], []⟩ H' := LDoes.step (Evs.withL hL2 (Evs.of fun n m _ h2 => by simp [↓q00, ↓q01, q51, kr, w1, h2]))
    refine ⟨H', q3g (Evs.withL hL (Evs.withL hE (Evs.of fun n m h2 _ h _ => ?_))), hf⟩
    simp [↓q06, ↓q05, S96, h, k2, h2]
theorem qg6 {H : Heap} : runF base TStb 96 [.nils, .int .i64 0, fnC] H = some (.tup [], H) := by
  have kr : ∀ (R : Type) (k : AV → Heap → Option R), polK pIns [.nils, .int .i64 0, .int .i64 0, fnC] H k = k (.tup []) H := fun R k => qe3 run_nil
  have hE := qgf (v := .nils) (n := 0) (H := H) (by omega)
  have c0 : (((0 : Nat)) : Int) = 0 := rfl
  rw [c0] at hE
  have hL : LDoes (qf4 (polT TStb)) ⟨[.nils, .int .i64 0, fnC, .int .i64 20, .int .i64 0, .int .i64 20], []⟩ H 0 ⟨[.nils, .int .i64 0, fnC, .int .i64 20, .int .i64 0], []⟩ H := LDoes.step (Evs.of fun n m => by simp [↓q00, ↓q01, q51])
  refine q3g (Evs.withL hL (Evs.withL hE (Evs.of fun n m h2 _ h _ => ?_)))
  simp [↓q06, ↓q05, S96, h, kr, h2]
theorem run_sts {q ver cap : Nat} {W : List Tm} {H : Heap} (hall : ∀ u ∈ W, okC u) (hn : W.length ≤ 20) (hH : H[q]? = some (.row ver 7 26 (W.map eT))) :
    ∃ H', (∀ (R : Type) (k : AV → Heap → Option R), polK pSts [.sl q ver 0 W.length cap, fnC] H k = k (.tup []) H') ∧ H'[q]? = some (.row ver 7 26 ((sortR [] W).reverse.map eT)) := by
  obtain ⟨H', hr, hf⟩ := run_stb (cap := cap) hall hn hH
  have kr : ∀ (R : Type) (k : AV → Heap → Option R), polK pStb [.sl q ver 0 W.length cap, .int .i64 (W.length : Int), fnC] H k = k (.tup []) H' := fun R k => qe3 hr
  have hl : A.len (.sl q ver 0 W.length cap) H = some (.int .i64 (W.length : Int)) := by simp [A.len, A.alive, hH]
  refine ⟨H', fun R k => qe3 (p := (.tup [], H')) (q3g (Evs.of fun n m => ?_)), hf⟩
  generalize W.length = N at *
  generalize (N : Int) = Z at *
  simp [↓q01, S76, hl, kr]
theorem qg7 {R : Type} {H : Heap} {k : AV → Heap → Option R} : polK pSts [.nils, fnC] H k = k (.tup []) H := by
  have kr : ∀ (R : Type) (k : AV → Heap → Option R), polK pStb [.nils, .int .i64 0, fnC] H k = k (.tup []) H := fun R k => qe3 qg6
  have hl : A.len .nils H = some (.int .i64 0) := rfl
  refine qe3 (p := (.tup [], H)) (q3g (Evs.of fun n m => ?_))
  simp [↓q01, S76, hl, kr]
end Go.Proofs.YtleikacgncpfbaaDoor

/- Terms: copies of rows. -/
set_option maxRecDepth 100000
set_option maxHeartbeats 2000000
namespace Go.Proofs.YtleikacgncpfbaaDoor
open Go Go.Den
/-! ### bytes -/
def fewB (d : Option (List UInt8)) : Prop := (d.getD []).length ≤ 1000000
noncomputable def q7w : Pol := .still (p1 cBy (eL 1 eb) fewB id)
theorem okBclone : PolOK base 71 q7w := still1 base_ok [] trivial fun d hf => by
  unfold fewB at hf
  refine Evs.of fun n _ => ?_
  cases d with
  | none => simp [↓q00, ↓q06, ↓q09, ↓q01, S71, eL, A.bin, q2p, A.eqNil]
  | some l =>
    simp only [Option.getD_some] at hf
    cases l with
    | nil =>
      have h1 := q3f (H := [.row 0 1 5 []]) (id := 0) (ver := 0) (sz := 1) (ty := 5) (es := []) (n := 0) (bytes := 1) rfl rfl (by omega) (by simp)
      simp [↓q00, ↓q06, ↓q09, ↓q01, ↓q0d, ↓q0m, S71, eL, A.bin, q2p, A.eqNil, A.fillElems, q0y q2p, A.read, h1]
      exact q1m (b := true) (m := 62) (es := []) rfl rfl (by simp)
    | cons x l =>
      have h1 := q2r (H := [.row 0 1 5 []]) (id := 0) (ver := 0) (sz := 1) (ty := 5) (es := []) (n := 0) (bytes := 1) (news := (x :: l).map eb) rfl rfl (by simp) (by omega) (by simp at hf ⊢; omega)
      simp only [List.nil_append] at h1
      simp [↓q00, ↓q06, ↓q09, ↓q01, ↓q0d, S71, eL, A.bin, q2p, A.eqNil, A.fillElems, q0y q2p, A.read]
      simp at h1
      simp [h1]
      exact q1m (b := true) (m := 62) (es := (x :: l).map eb) rfl (by simp) (q7n _)
theorem qBclone {R : Type} {d : Option (List UInt8)} (h : fewB d) {H : Heap} {k : AV → Heap → Option R} : polQ q7w [eL 1 eb d] H k = k (eL 1 eb d) H := by
  simp [q7w, q1w, h]
/-! ### terms: into a row of the small heap -/
noncomputable def q9z : Pol := .prim (runF base [] 73)
theorem okTclone : PolOK base 73 q9z := qhl base_ok [] trivial
def cw (l : List Tm) : Nat := if l = [] then 0 else 1
def cv (id : Nat) : Option (List Tm) → AV
  | none => .nils
  | some l => .sl id (cw l) 0 l.length l.length
def cr (o : Option (List Tm)) (es : List AV) : List HObj := match o with
  | none => []
  | some l => [.row (cw l) 7 26 es]
theorem kTclone {R : Type} {o : Option (List Tm)} (h : (o.getD []).length ≤ 1000) {H : Heap} {k : AV → Heap → Option R} : polK q9z [eL 7 eT o] H k = k (cv H.length o) (H ++ cr o ((o.getD []).map eT)) := by
  have hr : runF base [] 73 [eL 7 eT o] H = some (cv H.length o, H ++ cr o ((o.getD []).map eT)) := q3g (Evs.of fun n m => by
    cases o with
    | none => simp [↓q00, ↓q06, ↓q09, ↓q01, S73, eL, A.bin, q2d, A.eqNil, cv, cr]
    | some l =>
      simp only [Option.getD_some] at h
      cases l with
      | nil =>
        have h1 := q3f (H := H ++ [.row 0 7 26 []]) (id := H.length) (ver := 0) (sz := 7) (ty := 26) (es := []) (n := 0) (bytes := 112) q2n rfl (by omega) (by simp)
        simp [↓q00, ↓q06, ↓q09, ↓q01, ↓q0d, ↓q0m, S73, eL, A.bin, q2d, A.eqNil, A.fillElems, q0y q2d, A.read, h1, cv, cr, cw]
      | cons x l =>
        have h1 := q2r (H := H ++ [.row 0 7 26 []]) (id := H.length) (ver := 0) (sz := 7) (ty := 26) (es := []) (n := 0) (bytes := 112) (news := (x :: l).map eT) q2n rfl (by simp) (by omega) (by simp at h ⊢; omega)
        simp only [List.nil_append] at h1
        simp [↓q00, ↓q06, ↓q09, ↓q01, ↓q0d, S73, eL, A.bin, q2d, A.eqNil, A.fillElems, q0y q2d, A.read]
        simp at h1
        simp [h1, cv, cr, cw])
  exact qe3 hr
end Go.Proofs.YtleikacgncpfbaaDoor

/- Terms: a value of the small heap that stands for a term. -/
set_option maxRecDepth 100000
set_option maxHeartbeats 2000000
namespace Go.Proofs.YtleikacgncpfbaaDoor
open Go Go.Den
def op (t : Tm) (vl : AV) : AV := .agg [.int .i64 t.kind, .bool t.neg, eD t.d, .str t.name, .int .i64 t.n, vl, eL 1 eb t.b]
theorem qef (t : Tm) : op t (eL 7 eT t.l) = eT t := (q3w t).symm
inductive Rd (H : Heap) : AV → Tm → Prop
  | imm (t : Tm) : Rd H (eT t) t
  | nil (t : Tm) (h : t.l = none) : Rd H (op t .nils) t
  | own (t : Tm) (l : List Tm) (id w cap : Nat) (es : List AV) (h : t.l = some l) (hr : H[id]? = some (.row w 7 26 es)) (hn : es.length = l.length) (he : ∀ i (hi : i < es.length), Rd H es[i] (l[i]'(hn ▸ hi))) : Rd H (op t (.sl id w 0 l.length cap)) t
theorem op_inj {t u : Tm} {v w : AV} (h : op t v = op u w) : t.kind = u.kind ∧ t.neg = u.neg ∧ t.d = u.d ∧ t.name = u.name ∧ t.n = u.n ∧ v = w ∧ t.b = u.b := by
  unfold op at h
  injection h with h
  simp only [List.cons.injEq, AV.int.injEq, AV.bool.injEq, AV.str.injEq, true_and, and_true] at h
  obtain ⟨h1, h2, h3, h4, h5, h6, h7⟩ := h
  exact ⟨h1, h2, cD.inj _ _ h3, h4, h5, h6, cBy.inj _ _ h7⟩
theorem tm_ext {t u : Tm} (h : t.kind = u.kind ∧ t.neg = u.neg ∧ t.d = u.d ∧ t.name = u.name ∧ t.n = u.n ∧ t.l = u.l ∧ t.b = u.b) : t = u := by
  cases t
  cases u
  simp only [Tm.kind, Tm.neg, Tm.d, Tm.name, Tm.n, Tm.l, Tm.b] at h
  obtain ⟨rfl, rfl, rfl, rfl, rfl, rfl, rfl⟩ := h
  rfl
theorem rd_eT {H : Heap} {t u : Tm} (h : Rd H (eT t) u) : u = t := by
  generalize hv : eT t = v at h
  cases h with
  | imm => exact (qb3 _ _ hv).symm
  | nil _ h =>
    rw [← qef] at hv
    have := op_inj hv
    refine tm_ext ⟨this.1.symm, this.2.1.symm, this.2.2.1.symm, this.2.2.2.1.symm, this.2.2.2.2.1.symm, ?_, this.2.2.2.2.2.2.symm⟩
    have h6 := this.2.2.2.2.2.1
    rw [h]
    cases ht : t.l with
    | none => rfl
    | some l => rw [ht] at h6; cases h6
  | own _ l id w cap es h hr hn he =>
    rw [← qef] at hv
    have h6 := (op_inj hv).2.2.2.2.2.1
    cases ht : t.l with
    | none => rw [ht] at h6; cases h6
    | some l => rw [ht] at h6; cases h6
theorem qg2 {H H' : Heap} (hm : ∀ (id w : Nat) (es : List AV), H[id]? = some (.row w 7 26 es) → ∃ es' : List AV, H'[id]? = some (.row w 7 26 es') ∧ ∃ hl : es'.length = es.length, ∀ i (hi : i < es.length), es'[i]'(hl ▸ hi) = es[i] ∨ ∀ u, Rd H es[i] u → Rd H' (es'[i]'(hl ▸ hi)) u) {v : AV} {t : Tm} (h : Rd H v t) : Rd H' v t := by
  induction h with
  | imm t => exact .imm t
  | nil t h => exact .nil t h
  | own t l id w cap es h hr hn he ih =>
    obtain ⟨es', h1, hl, h2⟩ := hm id w es hr
    refine .own t l id w cap es' h h1 (by omega) fun i hi => ?_
    have hi' : i < es.length := by omega
    rcases h2 i hi' with h3 | h3
    · rw [h3]
      exact ih i hi'
    · exact h3 _ (he i hi')
theorem rd_push {H X : Heap} {v : AV} {t : Tm} (h : Rd H v t) : Rd (H ++ X) v t := qg2 (fun id w es hr => ⟨es, by rw [List.getElem?_append_left (List.getElem?_eq_some_iff.1 hr).1]; exact hr, rfl, fun _ _ => .inl rfl⟩) h
theorem rd_other {H : Heap} {q ver sz : Nat} {ty : TypeId} {es : List AV} {o : HObj} {v : AV} {t : Tm} (hq : H[q]? = some (.row ver sz ty es)) (hs : sz ≠ 7) (h : Rd H v t) : Rd (H.set q o) v t := qg2 (fun id w es' hr => ⟨es', by
  have : q ≠ id := fun e => by
    subst e
    rw [hq] at hr
    injection hr with hr
    injection hr with _ h2
    exact hs h2
  rw [List.getElem?_set_ne this]
  exact hr, rfl, fun _ _ => .inl rfl⟩) h
theorem rd_open {H : Heap} {r w i : Nat} {es : List AV} {u : Tm} {x : AV} (hr : H[r]? = some (.row w 7 26 es)) (hi : i < es.length) (hu : es[i] = eT u) (hx : Rd (H.set r (.row w 7 26 (es.set i x))) x u) {v : AV} {t : Tm} (h : Rd H v t) : Rd (H.set r (.row w 7 26 (es.set i x))) v t := qg2 (fun id w' es' hr' => by
  by_cases e : r = id
  · subst e
    rw [hr] at hr'
    injection hr' with hr'
    injection hr' with h1 _ _ h2
    subst h1 h2
    refine ⟨es.set i x, List.getElem?_set_self (List.getElem?_eq_some_iff.1 hr).1, by simp, fun j hj => ?_⟩
    by_cases hij : i = j
    · subst hij
      right
      intro u' hu'
      rw [hu] at hu'
      rw [rd_eT hu', List.getElem_set_self]
      exact hx
    · left
      rw [List.getElem_set_ne hij]
  · exact ⟨es', by rw [List.getElem?_set_ne e]; exact hr', rfl, fun _ _ => .inl rfl⟩) h
/-! ### how deep -/
def shal : Nat → Tm → Prop
  | 0, _ => False
  | n + 1, t => ∀ u ∈ t.kids, shal n u
theorem qa3 {most : Int} : ∀ (n : Nat) (t : Tm) (dep : Int), dep < n → roomS t dep most = true → shal n t
  | 0, t, dep, hd, h => by
    rw [q5a] at h
    simp only [Bool.and_eq_true, Bool.not_eq_true', Bool.or_eq_false_iff, decide_eq_false_iff_not] at h
    omega
  | n + 1, t, dep, hd, h => by
    rw [q5a] at h
    simp only [Bool.and_eq_true, Bool.not_eq_true', Bool.or_eq_false_iff, decide_eq_false_iff_not, List.all_eq_true] at h
    exact fun u hu => qa3 n u (dep - 1) (by omega) (h.2 u hu)
theorem qhg {α β : Type} {f : α → Option β} {g : List β} : ∀ {l : List α}, (hl : l.length = g.length) → (∀ i (hi : i < l.length), f l[i] = some (g[i]'(hl ▸ hi))) → l.mapM f = some g := by
  induction g with
  | nil =>
    intro l hl _
    have : l = [] := List.length_eq_zero_iff.1 hl
    subst this
    rfl
  | cons b g ih =>
    intro l hl h
    cases l with
    | nil => simp at hl
    | cons a l =>
      have h0 := h 0 (by simp)
      simp only [List.getElem_cons_zero] at h0
      have h1 := ih (l := l) (by simpa using hl) fun i hi => by
        have := h (i + 1) (by simp; omega)
        simpa using this
      simp [List.mapM_cons, h0, h1]
theorem qh3 {n sz : Nat} {α : Type} {e : α → AV} {H : Heap} {o : Option (List α)} : A.freezeB true (n + 1) H (eL sz e o) = some (eL sz e o) := by cases o <;> rfl
theorem qh4 {n : Nat} {H : Heap} {t : Tm} {v w : AV} (h : A.freezeB true (n + 1) H v = some w) : A.freezeB true (n + 2) H (op t v) = some (op t w) := by
  have hd : A.freezeB true (n + 1) H (eD t.d) = some (eD t.d) := qh3
  have hb : A.freezeB true (n + 1) H (eL 1 eb t.b) = some (eL 1 eb t.b) := qh3
  show ([AV.int .i64 t.kind, .bool t.neg, eD t.d, .str t.name, .int .i64 t.n, v, eL 1 eb t.b].mapM (A.freezeB true (n + 1) H)).map AV.agg = _
  have h0 : A.freezeB true (n + 1) H (.int .i64 t.kind) = some (.int .i64 t.kind) := rfl
  have h1 : A.freezeB true (n + 1) H (.bool t.neg) = some (.bool t.neg) := rfl
  have h3 : A.freezeB true (n + 1) H (.str t.name) = some (.str t.name) := rfl
  have h4 : A.freezeB true (n + 1) H (.int .i64 t.n) = some (.int .i64 t.n) := rfl
  simp [List.mapM_cons, h0, h1, hd, h3, h4, h, hb, op]
theorem rd_agg {H : Heap} {v : AV} {t : Tm} (h : Rd H v t) : ∃ cs, v = .agg cs := by
  cases h with
  | imm => exact ⟨_, q3w t⟩
  | nil => exact ⟨_, rfl⟩
  | own => exact ⟨_, rfl⟩
theorem qej {H : Heap} : ∀ (n : Nat) (t : Tm) (v : AV), shal n t → Rd H v t → A.freezeB true (n + 1) H v = some (eT t)
  | 0, _, _, hs, _ => by cases hs
  | n + 1, t, v, hs, h => by
    cases h with
    | imm =>
      rw [← qef]
      exact qh4 qh3
    | nil _ h =>
      rw [← qef, h]
      exact qh4 rfl
    | own _ l id w cap es h hr hn he =>
      rw [← qef, h]
      refine qh4 ?_
      have hk : ∀ u ∈ l, shal n u := fun u hu => hs u (by unfold Tm.kids; rw [h]; exact hu)
      show (match H[id]? with | some (.row w' z _ es) => if w' = w ∧ 0 + l.length ≤ es.length then (((es.drop 0).take l.length).mapM fun (e : AV) => match e with | AV.agg cs => (cs.mapM (A.freezeB true n H)).map AV.agg | e => A.freezeB true n H e).map (AV.sh z) else none | _ => none) = _
      rw [hr]
      dsimp only
      rw [if_pos ⟨rfl, by omega⟩, List.drop_zero, List.take_of_length_le (by omega)]
      have : (es.mapM fun (e : AV) => match e with | AV.agg cs => (cs.mapM (A.freezeB true n H)).map AV.agg | e => A.freezeB true n H e) = some (l.map eT) := qhg (by simpa using hn) fun i hi => by
        have hri := he i hi
        have hf := qej n _ _ (hk _ (List.getElem_mem (by omega))) hri
        obtain ⟨cs, hcs⟩ := rd_agg hri
        rw [hcs] at hf ⊢
        simp only [List.getElem_map]
        exact hf
      rw [this]
      rfl
end Go.Proofs.YtleikacgncpfbaaDoor

/- Terms: what still is to be copied. -/
set_option maxRecDepth 100000
set_option maxHeartbeats 4000000
namespace Go.Proofs.YtleikacgncpfbaaDoor
open Go Go.Den
section
variable {H : Heap} {id ver sz j : Nat} {ty : TypeId} {es cs : List AV}
theorem q4b {off : Nat} {v : AV} (h : H[id]? = some (.row ver sz ty es)) (he : es[j]? = some (.agg cs)) (hv : cs[off]? = some v) : A.load false 1 (.ptr id ver j off) H = some v := by
  simp [A.load, A.elemAt, h, he, A.ofList, AV.cells, hv]
theorem q2u {o : Nat} (h : H[id]? = some (.row ver sz ty es)) : A.fa o (.ptr id ver j 0) H = some (.ptr id ver j o) := by
  simp [A.fa, A.alive, h]
theorem q7i {off : Nat} {v w : AV} (h : H[id]? = some (.row ver sz ty es)) (he : es[j]? = some (.agg cs)) (hw : cs[off]? = some w) (hv : v.one = true) : A.store 1 (.ptr id ver j off) v H = some (H.set id (.row ver sz ty (es.set j (.agg (cs.set off v))))) := by
  have hc : v.cells = [v] := by cases v <;> first | rfl | cases hv
  have hl : off < cs.length := (List.getElem?_eq_some_iff.1 hw).1
  have hs : A.splice cs off [v] = cs.set off v := by
    unfold A.splice
    rw [List.set_eq_take_append_cons_drop, if_pos hl]
    simp
  simp [A.store, A.fits, hc, hv, h, he, A.setElem, hs]
  omega
theorem q1s {off : Nat} {v : AV} (h : H[id]? = some (.row ver sz ty es)) (he : es[j]? = some (.agg cs)) (hw : cs[off]? = some v) (hv : v.one = true) : A.store 1 (.ptr id ver j off) v H = some H := by
  rw [q7i h he hw hv]
  congr 1
  have e1 : cs.set off v = cs := by
    rw [List.getElem?_eq_some_iff] at hw
    obtain ⟨hl, hw⟩ := hw
    rw [← hw]
    exact List.set_getElem_self _
  have e2 : es.set j (.agg cs) = es := by
    rw [List.getElem?_eq_some_iff] at he
    obtain ⟨hl, he⟩ := he
    rw [← he]
    exact List.set_getElem_self _
  rw [e1, e2]
  rw [List.getElem?_eq_some_iff] at h
  obtain ⟨hl, h⟩ := h
  rw [← h]
  exact List.set_getElem_self _
end
end Go.Proofs.YtleikacgncpfbaaDoor

/- Terms: one more is copied. -/
set_option maxRecDepth 100000
set_option maxHeartbeats 4000000
namespace Go.Proofs.YtleikacgncpfbaaDoor
open Go Go.Den
structure Ent where
  r : Nat
  w : Nat
  i : Nat
  u : Tm
  id : Nat
def Ent.ptr (e : Ent) : AV := .ptr e.r e.w e.i 0
def Ent.own (e : Ent) : Prop := e.u.l ≠ none
def Pend (H : Heap) (e : Ent) : Prop := ∃ es : List AV, H[e.r]? = some (.row e.w 7 26 es) ∧ es[e.i]? = some (op e.u (cv e.id e.u.l)) ∧ ∀ l, e.u.l = some l → H[e.id]? = some (.row (cw l) 7 26 (l.map eT))
structure CInv (t : Tm) (q ver cap : Nat) (P : List Ent) (H : Heap) : Prop where
  root : ∃ v, H[0]? = some (.row 0 7 26 [v]) ∧ Rd H v t
  todo : ∃ es : List AV, H[q]? = some (.row ver 1 86 es) ∧ es.take P.length = P.map Ent.ptr ∧ P.length ≤ cap
  pend : ∀ e ∈ P, Pend H e
  ids : ∀ e ∈ P, e.own → e.id ≠ q ∧ e.id < H.length ∧ e.id ≠ 0
  dist : P.Pairwise fun e f => e.own → f.own → e.id ≠ f.id
  apart : ∀ e ∈ P, ∀ f ∈ P, f.own → e.r ≠ f.id
structure Cur (p : Ent) (l : List Tm) (i q : Nat) (P : List Ent) (H : Heap) : Prop where
  ul : p.u.l = some l
  cell : ∃ es : List AV, H[p.r]? = some (.row p.w 7 26 es) ∧ es[p.i]? = some (op p.u (cv p.id p.u.l))
  rows : ∃ es : List AV, H[p.id]? = some (.row (cw l) 7 26 es) ∧ es.length = l.length ∧ ∀ j (hj : j < l.length), i ≤ j → es[j]? = some (eT l[j])
  idq : p.id ≠ q
  id0 : p.id ≠ 0
  rid : p.r ≠ p.id
  oth : ∀ e ∈ P, e.own → e.id ≠ p.id ∧ e.id ≠ p.r
  kid : ∀ e ∈ P, e.r = p.id → e.i < i
theorem row_ne {H : Heap} {a b v w : Nat} {ty ty' : TypeId} {es fs : List AV} (h : H[a]? = some (.row v 7 ty es)) (g : H[b]? = some (.row w 1 ty' fs)) : a ≠ b := fun e => by
  subst e
  rw [h] at g
  injection g with g
  injection g with _ g
  cases g
theorem cp_step {t : Tm} {q ver cap : Nat} {P : List Ent} {H : Heap} {p : Ent} {l : List Tm} {i : Nat} (hC : CInv t q ver cap P H) (hK : Cur p l i q P H) (hi : i < l.length) (hb : P.length ≤ 1000000000) {es : List AV} (hes : H[p.id]? = some (.row (cw l) 7 26 es)) (hn : es.length = l.length) (hej : ∀ j (hj : j < l.length), i ≤ j → es[j]? = some (eT l[j])) {H6 : Heap} (h6 : H6 = (H ++ cr l[i].l ((l[i].l.getD []).map eT)).set p.id (.row (cw l) 7 26 (es.set i (op l[i] (cv H.length l[i].l))))) :
    ∃ ver' cap' H8, A.append 1 8 86 (.sl q ver 0 P.length cap) [.ptr p.id (cw l) i 0] (H6 ++ [.row 0 1 86 [.ptr p.id (cw l) i 0]]) = some (.sl q ver' 0 (P ++ [(⟨p.id, cw l, i, l[i], H.length⟩ : Ent)]).length cap', H8) ∧ CInv t q ver' cap' (P ++ [(⟨p.id, cw l, i, l[i], H.length⟩ : Ent)]) H8 ∧ Cur p l (i + 1) q (P ++ [(⟨p.id, cw l, i, l[i], H.length⟩ : Ent)]) H8 := by
  obtain ⟨v0, hv0, hv⟩ := hC.root
  obtain ⟨es0, hq, htk, hcap⟩ := hC.todo
  have hpl : p.id < H.length := (List.getElem?_eq_some_iff.1 hes).1
  have hql : q < H.length := (List.getElem?_eq_some_iff.1 hq).1
  have h0q : 0 ≠ q := row_ne hv0 hq
  have hidq := hK.idq
  have hid0 := hK.id0
  have hei : es[i]? = some (eT l[i]) := hej i hi (Nat.le_refl _)
  obtain ⟨hil, hei'⟩ := List.getElem?_eq_some_iff.1 hei
  generalize hnew : (⟨p.id, cw l, i, l[i], H.length⟩ : Ent) = new at *
  generalize hX : cr l[i].l ((l[i].l.getD []).map eT) = X at *
  generalize hH3 : H ++ X = H3 at *
  have g3 : ∀ k o, H[k]? = some o → H3[k]? = some o := fun k o h => by
    rw [← hH3, List.getElem?_append_left (List.getElem?_eq_some_iff.1 h).1]
    exact h
  have hl3 : H.length ≤ H3.length := by rw [← hH3]; simp
  generalize hes6 : es.set i (op l[i] (cv H.length l[i].l)) = es6 at *
  have g6 : ∀ k o, H3[k]? = some o → k ≠ p.id → H6[k]? = some o := fun k o h hk => by
    rw [h6, List.getElem?_set_ne (fun e => hk e.symm)]
    exact h
  have hl6 : H6.length = H3.length := by rw [h6]; simp
  have hp6 : H6[p.id]? = some (.row (cw l) 7 26 es6) := by rw [h6]; exact List.getElem?_set_self (by omega)
  have hrow : ∀ l', l[i].l = some l' → H6[H.length]? = some (.row (cw l') 7 26 (l'.map eT)) := fun l' hl' => by
    refine g6 _ _ ?_ (by omega)
    rw [← hH3, ← hX, hl']
    simp [cr]
  -- the root
  have r3 : Rd H3 v0 t := by rw [← hH3]; exact rd_push hv
  have hx : Rd H6 (op l[i] (cv H.length l[i].l)) l[i] := by
    cases hu : l[i].l with
    | none => exact .nil _ hu
    | some l' =>
      refine .own _ l' _ _ _ _ hu (hrow l' hu) (by simp) fun j hj => ?_
      rw [List.getElem_map]
      exact .imm _
  have r6 : Rd H6 v0 t := by
    rw [h6, ← hes6] at hx ⊢
    exact rd_open (g3 _ _ hes) hil hei' hx r3
  generalize hH7 : H6 ++ [.row 0 1 86 [.ptr p.id (cw l) i 0]] = H7
  have g7 : ∀ k o, H6[k]? = some o → H7[k]? = some o := fun k o h => by
    rw [← hH7, List.getElem?_append_left (List.getElem?_eq_some_iff.1 h).1]
    exact h
  have r7 : Rd H7 v0 t := by rw [← hH7]; exact rd_push r6
  have hl7 : H7.length = H3.length + 1 := by rw [← hH7]; simp [hl6]
  have hq7 : H7[q]? = some (.row ver 1 86 es0) := g7 _ _ (g6 _ _ (g3 _ _ hq) (fun e => hidq e.symm))
  have hptr : new.ptr = .ptr p.id (cw l) i 0 := by rw [← hnew]; rfl
  have hlen : (P ++ [new]).length = P.length + 1 := by simp
  have happ : ∃ ver' cap' es', A.append 1 8 86 (.sl q ver 0 P.length cap) [.ptr p.id (cw l) i 0] H7 = some (.sl q ver' 0 (P ++ [new]).length cap', H7.set q (.row ver' 1 86 es')) ∧ es'.take (P ++ [new]).length = (P ++ [new]).map Ent.ptr ∧ (P ++ [new]).length ≤ cap' := by
    have hle : P.length ≤ es0.length := by
      have := congrArg List.length htk
      simp at this
      omega
    by_cases hc : P.length + 1 ≤ cap
    · refine ⟨ver, cap, A.splice es0 P.length [.ptr p.id (cw l) i 0], ?_, ?_, by omega⟩
      · simp only [A.append, hq7]
        rw [if_pos ⟨trivial, trivial, trivial, by omega, by omega, by simp; omega, by omega⟩, if_pos (by simpa using hc)]
        simp
      · have : A.splice es0 P.length [.ptr p.id (cw l) i 0] = es0.take P.length ++ [.ptr p.id (cw l) i 0] ++ es0.drop (P.length + 1) := rfl
        rw [this, htk, List.map_append, List.map_cons, List.map_nil, hptr, List.take_append_of_le_length (by simp), List.take_of_length_le (by simp)]
    · refine ⟨ver + 1, P.length + 1, P.map Ent.ptr ++ [.ptr p.id (cw l) i 0], ?_, ?_, by omega⟩
      · simp only [A.append, hq7]
        rw [if_pos ⟨trivial, trivial, trivial, by omega, by omega, by simp; omega, by omega⟩, if_neg (by simpa using hc)]
        simp [htk]
      · rw [List.map_append, List.map_cons, List.map_nil, hptr, List.take_of_length_le (by simp)]
  obtain ⟨ver', cap', es', ha, htk', hcap'⟩ := happ
  have g8 : ∀ k o, H7[k]? = some o → k ≠ q → (H7.set q (.row ver' 1 86 es'))[k]? = some o := fun k o h hk => by
    rw [List.getElem?_set_ne (fun e => hk e.symm)]
    exact h
  generalize hH8 : H7.set q (.row ver' 1 86 es') = H8 at *
  have fr : ∀ k o, H[k]? = some o → k ≠ p.id → k ≠ q → H8[k]? = some o := fun k o h h1 h2 => g8 _ _ (g7 _ _ (g6 _ _ (g3 _ _ h) h1)) h2
  have hp8 : H8[p.id]? = some (.row (cw l) 7 26 es6) := g8 _ _ (g7 _ _ hp6) hidq
  have hl8 : H8.length = H3.length + 1 := by rw [← hH8]; simp [hl7]
  have hnr : new.r = p.id := by rw [← hnew]
  have hnid : new.id = H.length := by rw [← hnew]
  have hnu : new.u = l[i] := by rw [← hnew]
  have hni : new.i = i := by rw [← hnew]
  have hnw : new.w = cw l := by rw [← hnew]
  have hes6i : es6[i]? = some (op l[i] (cv H.length l[i].l)) := by rw [← hes6]; exact List.getElem?_set_self hil
  have hrl : ∀ e ∈ P, e.r < H.length := fun e he => by
    obtain ⟨fs, h1, -⟩ := hC.pend e he
    exact (List.getElem?_eq_some_iff.1 h1).1
  refine ⟨ver', cap', H8, ha, ⟨⟨v0, fr _ _ hv0 (fun e => hid0 e.symm) h0q, ?_⟩, ⟨es', ?_, htk', hcap'⟩, ?_, ?_, ?_, ?_⟩, ⟨hK.ul, ?_, ⟨es6, hp8, by rw [← hes6]; simpa using hn, ?_⟩, hidq, hid0, hK.rid, ?_, ?_⟩⟩
  · rw [← hH8]
    exact rd_other hq7 (by omega) r7
  · rw [← hH8]
    exact List.getElem?_set_self (by omega)
  · intro e he
    rcases List.mem_append.1 he with he | he
    · obtain ⟨fs, h1, h2, h3⟩ := hC.pend e he
      have hkids : ∀ l', e.u.l = some l' → H8[e.id]? = some (.row (cw l') 7 26 (l'.map eT)) := fun l' hl' => by
        have ho : e.own := by unfold Ent.own; rw [hl']; simp
        exact fr _ _ (h3 l' hl') (hK.oth e he ho).1 (hC.ids e he ho).1
      by_cases hr : e.r = p.id
      · rw [hr, hes] at h1
        injection h1 with h1
        injection h1 with h1 _ _ h4
        have hei2 := hK.kid e he hr
        refine ⟨es6, by rw [hr, ← h1]; exact hp8, ?_, hkids⟩
        rw [← hes6, List.getElem?_set_ne (by omega), h4]
        exact h2
      · exact ⟨fs, fr _ _ h1 hr (row_ne h1 hq), h2, hkids⟩
    · rw [List.mem_singleton] at he
      rw [he]
      refine ⟨es6, by rw [hnr, hnw]; exact hp8, by rw [hni, hnu, hnid]; exact hes6i, fun l' hl' => ?_⟩
      rw [hnu] at hl'
      rw [hnid]
      exact g8 _ _ (g7 _ _ (hrow l' hl')) (by omega)
  · intro e he ho
    rcases List.mem_append.1 he with he | he
    · have := hC.ids e he ho
      exact ⟨this.1, by omega, this.2.2⟩
    · rw [List.mem_singleton] at he
      rw [he]
      rw [hnid]
      exact ⟨by omega, by omega, by omega⟩
  · rw [List.pairwise_append]
    refine ⟨hC.dist, List.pairwise_singleton _ _, fun e he f hf ho _ => ?_⟩
    rw [List.mem_singleton] at hf
    rw [hf]
    have := (hC.ids e he ho).2.1
    rw [hnid]
    omega
  · intro e he f hf ho
    rcases List.mem_append.1 he with he | he
    · rcases List.mem_append.1 hf with hf | hf
      · exact hC.apart e he f hf ho
      · rw [List.mem_singleton] at hf
        rw [hf]
        have := hrl e he
        rw [hnid]
        omega
    · rw [List.mem_singleton] at he
      rw [he]
      rw [hnr]
      rcases List.mem_append.1 hf with hf | hf
      · exact fun e => (hK.oth f hf ho).1 e.symm
      · rw [List.mem_singleton] at hf
        rw [hf]
        rw [hnid]
        omega
  · obtain ⟨fs, h1, h2⟩ := hK.cell
    exact ⟨fs, fr _ _ h1 hK.rid (row_ne h1 hq), h2⟩
  · intro j hj hij
    rw [← hes6, List.getElem?_set_ne (by omega)]
    exact hej j hj (by omega)
  · intro e he ho
    rcases List.mem_append.1 he with he | he
    · exact hK.oth e he ho
    · rw [List.mem_singleton] at he
      rw [he]
      obtain ⟨fs, h1, h2⟩ := hK.cell
      have := (List.getElem?_eq_some_iff.1 h1).1
      rw [hnid]
      exact ⟨by omega, by omega⟩
  · intro e he hr
    rcases List.mem_append.1 he with he | he
    · have := hK.kid e he hr
      omega
    · rw [List.mem_singleton] at he
      rw [he]
      rw [hni]
      omega
end Go.Proofs.YtleikacgncpfbaaDoor

/- Terms: the parts of one are copied; all are. -/
set_option maxRecDepth 100000
set_option maxHeartbeats 4000000
namespace Go.Proofs.YtleikacgncpfbaaDoor
open Go Go.Den
def qfk (u : Tm) : Prop := few u.d ∧ fewB u.b ∧ u.kids.length ≤ 1000
noncomputable abbrev TCp : List (FuncId × Pol) := [(72, pClone), (71, q7w), (73, q9z)]
theorem ty_ptrs : base.P.underlying 87 = some (.slice 86) := by kernel_rfl
theorem cv_one (id : Nat) (o : Option (List Tm)) : (cv id o).one = true := by cases o <;> rfl
theorem cp_inner {t : Tm} {q : Nat} {p : Ent} {l : List Tm} {t3 : AV} {c1 : List AV} (hl : ∀ u ∈ l, qfk u) : ∀ (k i : Nat) (P : List Ent) (ver cap : Nat) (H : Heap), i + k = l.length → CInv t q ver cap P H → Cur p l i q P H → P.length + k ≤ 1000000000 → l.length ≤ 1000 →
    ∃ (P' : List Ent) (ver' cap' : Nat) (H' : Heap), P'.map Ent.u = P.map Ent.u ++ l.drop i ∧ CInv t q ver' cap' P' H' ∧ LDoes (L44_1 (polT TCp)) ⟨[t3, .sl q ver 0 P.length cap, .ptr p.r p.w p.i 0, .int .i64 (l.length : Int), .int .i64 (i : Int)], [c1]⟩ H 0 ⟨[t3, .sl q ver' 0 P'.length cap'], [c1]⟩ H' := by
  intro k
  induction k with
  | zero =>
    intro i P ver cap H hi hC hK hb hll
    have : i = l.length := by omega
    subst this
    refine ⟨P, ver, cap, H, by simp, hC, LDoes.step (Evs.of fun n m => ?_)⟩
    simp [↓q00, ↓q01, q7a]
  | succ k ih =>
    intro i P ver cap H hi hC hK hb hll
    have hlt : i < l.length := by omega
    have hlt' : (i : Int) < (l.length : Int) := by omega
    obtain ⟨es, hes, hn, hej⟩ := hK.rows
    obtain ⟨H6, h6⟩ : ∃ H6, H6 = (H ++ cr l[i].l ((l[i].l.getD []).map eT)).set p.id (.row (cw l) 7 26 (es.set i (op l[i] (cv H.length l[i].l)))) := ⟨_, rfl⟩
    obtain ⟨ver', cap', H8, happ, hC', hK'⟩ := cp_step hC hK hlt (by omega) hes hn hej h6
    obtain ⟨P', ver2, cap2, H', hP', hC2, hL⟩ := ih (i + 1) _ ver' cap' H8 (by omega) hC' hK' (by simp; omega) hll
    have hu := hl l[i] (List.getElem_mem hlt)
    obtain ⟨fs, hc1, hc2⟩ := hK.cell
    rw [hK.ul] at hc2
    have hpl : p.id < H.length := (List.getElem?_eq_some_iff.1 hes).1
    have hei := hej i hlt (Nat.le_refl _)
    rw [← qef] at hei
    -- the place that is copied from
    have a1 : A.nilCheck (.ptr p.r p.w p.i 0) H = some (.ptr p.r p.w p.i 0) := q39 hc1
    have a2 : A.fa 5 (.ptr p.r p.w p.i 0) H = some (.ptr p.r p.w p.i 5) := q2u hc1
    have a3 : A.load false 1 (.ptr p.r p.w p.i 5) H = some (.sl p.id (cw l) 0 l.length l.length) := q4b hc1 hc2 rfl
    have a4 : A.idx 7 (.sl p.id (cw l) 0 l.length l.length) (.int .i64 (i : Int)) H = some (.ptr p.id (cw l) i 0) := by
      have := qa4 (cap := l.length) (off := 0) (k := .i64) hes (i := (i : Int)) (n := l.length) (by omega) hlt'
      simpa using this
    -- the part
    have b1 : A.nilCheck (.ptr p.id (cw l) i 0) H = some (.ptr p.id (cw l) i 0) := q39 hes
    have b2 : A.fa 2 (.ptr p.id (cw l) i 0) H = some (.ptr p.id (cw l) i 2) := q2u hes
    have b6 : A.fa 6 (.ptr p.id (cw l) i 0) H = some (.ptr p.id (cw l) i 6) := q2u hes
    have b5 : A.fa 5 (.ptr p.id (cw l) i 0) H = some (.ptr p.id (cw l) i 5) := q2u hes
    have d2 : A.load false 1 (.ptr p.id (cw l) i 2) H = some (eD l[i].d) := q4b hes hei rfl
    have d6 : A.load false 1 (.ptr p.id (cw l) i 6) H = some (eL 1 eb l[i].b) := q4b hes hei rfl
    have d5 : A.load false 1 (.ptr p.id (cw l) i 5) H = some (eL 7 eT l[i].l) := q4b hes hei rfl
    have q2 : ∀ (R : Type) (H : Heap) (k : AV → Heap → Option R), polQ pClone [eD l[i].d] H k = k (eD l[i].d) H := fun R H k => qClone hu.1
    have q6 : ∀ (R : Type) (H : Heap) (k : AV → Heap → Option R), polQ q7w [eL 1 eb l[i].b] H k = k (eL 1 eb l[i].b) H := fun R H k => qBclone hu.2.1
    have q5 : ∀ (R : Type) (k : AV → Heap → Option R), polK q9z [eL 7 eT l[i].l] H k = k (cv H.length l[i].l) (H ++ cr l[i].l ((l[i].l.getD []).map eT)) := fun R k => kTclone hu.2.2
    have hes3 : (H ++ cr l[i].l ((l[i].l.getD []).map eT))[p.id]? = some (.row (cw l) 7 26 es) := by
      rw [List.getElem?_append_left hpl]
      exact hes
    have e1 : A.nilCheck (.ptr p.id (cw l) i 0) (H ++ cr l[i].l ((l[i].l.getD []).map eT)) = some (.ptr p.id (cw l) i 0) := q39 hes3
    have e2 : A.fa 2 (.ptr p.id (cw l) i 0) (H ++ cr l[i].l ((l[i].l.getD []).map eT)) = some (.ptr p.id (cw l) i 2) := q2u hes3
    have e6 : A.fa 6 (.ptr p.id (cw l) i 0) (H ++ cr l[i].l ((l[i].l.getD []).map eT)) = some (.ptr p.id (cw l) i 6) := q2u hes3
    have e5 : A.fa 5 (.ptr p.id (cw l) i 0) (H ++ cr l[i].l ((l[i].l.getD []).map eT)) = some (.ptr p.id (cw l) i 5) := q2u hes3
    have hone : ∀ d : Option (List UInt32), (eD d).one = true := fun d => by cases d <;> rfl
    have honb : ∀ d : Option (List UInt8), (eL 1 eb d).one = true := fun d => by cases d <;> rfl
    have s2 : A.store 1 (.ptr p.id (cw l) i 2) (eD l[i].d) (H ++ cr l[i].l ((l[i].l.getD []).map eT)) = some (H ++ cr l[i].l ((l[i].l.getD []).map eT)) := q1s hes3 hei rfl (hone _)
    have s6 : A.store 1 (.ptr p.id (cw l) i 6) (eL 1 eb l[i].b) (H ++ cr l[i].l ((l[i].l.getD []).map eT)) = some (H ++ cr l[i].l ((l[i].l.getD []).map eT)) := q1s hes3 hei rfl (honb _)
    have s5 : A.store 1 (.ptr p.id (cw l) i 5) (cv H.length l[i].l) (H ++ cr l[i].l ((l[i].l.getD []).map eT)) = some H6 := by
      rw [h6]
      exact q7i hes3 hei rfl (cv_one _ _)
    have hfe : A.fillElems 1 [AV.nilp] [(0, 1, .ptr p.id (cw l) i 0)] = some [.ptr p.id (cw l) i 0] := by simp [A.fillElems]
    have hrd : A.read 1 (.sl H6.length 0 0 1 1) (H6 ++ [.row 0 1 86 [.ptr p.id (cw l) i 0]]) = some [.ptr p.id (cw l) i 0] := qhv q2n rfl
    have hi1 : IntKind.wrap .i64 ((i : Int) + 1) = (i : Int) + 1 := q0c (by omega) (by omega)
    simp only [Int.natCast_add, Int.natCast_one] at hL
    refine ⟨P', ver2, cap2, H', ?_, hC2, LDoes.step (Evs.withL hL (Evs.of fun n m _ h2 => ?_))⟩
    · rw [hP', List.drop_eq_getElem_cons hlt]
      simp
    generalize H ++ cr l[i].l ((l[i].l.getD []).map eT) = H3 at *
    generalize cv H.length l[i].l = V at *
    generalize (P ++ [(⟨p.id, cw l, i, l[i], H.length⟩ : Ent)]).length = PL at *
    generalize eD l[i].d = vd at *
    generalize eL 1 eb l[i].b = vb at *
    generalize eL 7 eT l[i].l = vl at *
    generalize (l.length : Int) = N at *
    simp [↓q00, ↓q06, ↓q09, ↓q01, ↓q0d, ↓q0e, ↓q0m, q7a, hlt', a1, a2, a3, a4, b1, b2, b6, b5, d2, d6, d5, q2, q6, q5, e1, e2, e6, e5, s2, s6, s5, hfe, q0y ty_ptrs, hrd, happ, hi1, h2]
end Go.Proofs.YtleikacgncpfbaaDoor

/- Terms: all that is still to be copied. -/
set_option maxRecDepth 100000
set_option maxHeartbeats 4000000
namespace Go.Proofs.YtleikacgncpfbaaDoor
open Go Go.Den
theorem q4t : ∀ a b : List Tm, Tm.sizes (a ++ b) = Tm.sizes a + Tm.sizes b
  | [], b => by simp [Tm.sizes]
  | t :: a, b => by simp only [List.cons_append, Tm.sizes, q4t a b]; omega
theorem q6k : ∀ l : List Tm, l.length ≤ Tm.sizes l
  | [] => by simp
  | t :: l => by
    have := q6k l
    have h := t.size_eq
    simp only [List.length_cons, Tm.sizes]
    omega
def fineT (t : Tm) : Prop := evT qfk t
theorem fineT_eq {t : Tm} : fineT t ↔ qfk t ∧ ∀ u ∈ t.kids, fineT u := qdu
theorem cp_outer {t : Tm} {q : Nat} {t3 : AV} {c1 : List AV} : ∀ (N : Nat) (P : List Ent) (ver cap : Nat) (H : Heap), Tm.sizes (P.map Ent.u) ≤ N → N ≤ 1000000000 → CInv t q ver cap P H → (∀ e ∈ P, fineT e.u) →
    ∃ H', (∃ v, H'[0]? = some (.row 0 7 26 [v]) ∧ Rd H' v t) ∧ LDoes (L44_0 (polT TCp)) ⟨[t3, .sl q ver 0 P.length cap], [c1]⟩ H 0 ⟨[t3], [c1]⟩ H' := by
  intro N
  induction N with
  | zero =>
    intro P ver cap H hN hB hC hf
    have hp : P = [] := by
      have := q6k (P.map Ent.u)
      simp at this
      exact List.length_eq_zero_iff.1 (by omega)
    subst hp
    obtain ⟨es0, hq, -, -⟩ := hC.todo
    have f0 : A.len (.sl q ver 0 0 cap) H = some (.int .i64 0) := by simp [A.len, A.alive, hq]
    refine ⟨H, hC.root, LDoes.step (Evs.of fun n m => ?_)⟩
    simp [↓q00, ↓q01, q4y, f0]
  | succ N ih =>
    intro P ver cap H hN hB hC hf
    obtain ⟨es0, hq, htk, hcap⟩ := hC.todo
    rcases List.eq_nil_or_concat P with rfl | ⟨P, p, rfl⟩
    · have f0 : A.len (.sl q ver 0 0 cap) H = some (.int .i64 0) := by simp [A.len, A.alive, hq]
      refine ⟨H, hC.root, LDoes.step (Evs.of fun n m => ?_)⟩
      simp [↓q00, ↓q01, q4y, f0]
    · simp only [List.concat_eq_append] at *
      have hn : (P ++ [p]).length = P.length + 1 := by simp
      have hpm : p ∈ P ++ [p] := by simp
      have hle : P.length + 1 ≤ es0.length := by
        have := congrArg List.length htk
        simp at this
        omega
      have hlast : es0[P.length]? = some p.ptr := by
        have h2 := congrArg (fun l => l[P.length]?) htk
        simp only [List.getElem?_take, List.map_append, List.map_cons, List.map_nil] at h2
        rw [if_pos (by simp)] at h2
        rw [h2, List.getElem?_append_right (by simp)]
        simp
      have htk' : es0.take P.length = P.map Ent.ptr := by
        have h3 := congrArg (List.take P.length) htk
        rw [List.take_take] at h3
        simpa using h3
      have hmem : ∀ e ∈ P, e ∈ P ++ [p] := fun e he => List.mem_append_left _ he
      have hdist := List.pairwise_append.1 hC.dist
      have hC0 : CInv t q ver cap P H := ⟨hC.root, ⟨es0, hq, htk', by omega⟩, fun e he => hC.pend e (hmem e he), fun e he => hC.ids e (hmem e he), hdist.1, fun e he f hf => hC.apart e (hmem e he) f (hmem f hf)⟩
      obtain ⟨fs, hc1, hc2, hc3⟩ := hC.pend p hpm
      have hsz : Tm.sizes ((P ++ [p]).map Ent.u) = Tm.sizes (P.map Ent.u) + p.u.size := by
        rw [List.map_append, q4t]
        simp [Tm.sizes]
      have hpl : P.length ≤ Tm.sizes (P.map Ent.u) := by
        have := q6k (P.map Ent.u)
        simpa using this
      have hpsz := p.u.size_eq
      have e1 : ((P.length + 1 : Nat) : Int) - 1 = (P.length : Int) := by omega
      have hw : IntKind.wrap .i64 (((P.length + 1 : Nat) : Int) - 1) = (P.length : Int) := by rw [q0c (by omega) (by omega), e1]
      have hpos : (0 : Int) < ((P.length + 1 : Nat) : Int) := by omega
      have f1 : A.len (.sl q ver 0 (P.length + 1) cap) H = some (.int .i64 ((P.length + 1 : Nat) : Int)) := by simp [A.len, A.alive, hq]
      have f2 : A.idx 1 (.sl q ver 0 (P.length + 1) cap) (.int .i64 (P.length : Int)) H = some (.ptr q ver P.length 0) := by
        have := qa4 (cap := cap) (off := 0) (k := .i64) hq (i := (P.length : Int)) (n := P.length + 1) (by omega) (by omega)
        simpa using this
      have f3 : A.load false 1 (.ptr q ver P.length 0) H = some (.ptr p.r p.w p.i 0) := qcz hq hlast rfl
      have f4 : A.slice 1 (.sl q ver 0 (P.length + 1) cap) none (some (.int .i64 (P.length : Int))) none H = some (.sl q ver 0 P.length cap) := by
        simp [A.slice, A.bound, A.aliveZ, hq]
        omega
      have f5 : A.nilCheck (.ptr p.r p.w p.i 0) H = some (.ptr p.r p.w p.i 0) := q39 hc1
      have f6 : A.fa 5 (.ptr p.r p.w p.i 0) H = some (.ptr p.r p.w p.i 5) := q2u hc1
      have f7 : A.load false 1 (.ptr p.r p.w p.i 5) H = some (cv p.id p.u.l) := q4b hc1 hc2 rfl
      rw [hn]
      cases hul : p.u.l with
      | none =>
        rw [hul] at f7
        have f7 : A.load false 1 (.ptr p.r p.w p.i 5) H = some .nils := f7
        have f9 : A.len .nils H = some (.int .i64 0) := rfl
        obtain ⟨H', hr, hL⟩ := ih P ver cap H (by omega) (by omega) hC0 (fun e he => hf e (hmem e he))
        have hin : LDoes (L44_1 (polT TCp)) ⟨[t3, .sl q ver 0 P.length cap, .ptr p.r p.w p.i 0, .int .i64 0, .int .i64 0], [c1]⟩ H 0 ⟨[t3, .sl q ver 0 P.length cap], [c1]⟩ H := LDoes.step (Evs.of fun n m => by simp [↓q00, ↓q01, q7a])
        refine ⟨H', hr, LDoes.step (Evs.withL hin (Evs.withL hL (Evs.of fun n m _ h2 h3 _ => ?_)))⟩
        generalize ((P.length + 1 : Nat) : Int) = N1 at *
        simp [↓q00, ↓q06, ↓q0a, ↓q01, ↓q05, q4y, f1, hpos, hw, f2, f3, f4, f5, f6, f7, f9, h2, h3]
      | some l =>
        rw [hul] at f7
        have ho : p.own := by unfold Ent.own; rw [hul]; simp
        have hkl : p.u.kids = l := by unfold Tm.kids; rw [hul]; rfl
        have hpf := fineT_eq.1 (hf p hpm)
        have hids := hC.ids p hpm ho
        have hll : l.length ≤ 1000 := by rw [← hkl]; exact hpf.1.2.2
        have hls := q6k l
        rw [hkl] at hpsz
        have hK : Cur p l 0 q P H := ⟨hul, ⟨fs, hc1, hc2⟩, ⟨l.map eT, hc3 l hul, by simp, fun j hj _ => by simp [hj]⟩, hids.1, hids.2.2, hC.apart p hpm p hpm ho, fun e he heo => ⟨hdist.2.2 e he p (by simp) heo ho, fun e2 => hC.apart p hpm e (hmem e he) heo e2.symm⟩, fun e he h => absurd h (hC.apart e (hmem e he) p hpm ho)⟩
        obtain ⟨P', ver', cap', H1, hP', hC', hin⟩ := cp_inner (t := t) (q := q) (p := p) (l := l) (t3 := t3) (c1 := c1) (fun u hu => (fineT_eq.1 (hpf.2 u (by rw [hkl]; exact hu))).1) l.length 0 P ver cap H (by omega) hC0 hK (by omega) hll
        rw [List.drop_zero] at hP'
        have hf' : ∀ e ∈ P', fineT e.u := fun e he => by
          have : e.u ∈ P.map Ent.u ++ l := by rw [← hP']; exact List.mem_map_of_mem he
          rcases List.mem_append.1 this with h | h
          · obtain ⟨e', he', h⟩ := List.mem_map.1 h
            rw [← h]
            exact hf e' (hmem e' he')
          · exact hpf.2 _ (by rw [hkl]; exact h)
        obtain ⟨H', hr, hL⟩ := ih P' ver' cap' H1 (by rw [hP', q4t]; omega) (by omega) hC' hf'
        refine ⟨H', hr, LDoes.step (Evs.withL hin (Evs.withL hL (Evs.of fun n m _ h2 h3 _ => ?_)))⟩
        have f8 : A.len (cv p.id (some l)) H = some (.int .i64 (l.length : Int)) := by
          have := hc3 l hul
          simp [A.len, A.alive, cv, this]
        simp only [Int.natCast_zero] at h3
        generalize cv p.id (some l) = V at *
        generalize ((P.length + 1 : Nat) : Int) = N1 at *
        generalize (l.length : Int) = N2 at *
        simp [↓q00, ↓q06, ↓q0a, ↓q01, ↓q05, q4y, f1, hpos, hw, f2, f3, f4, f5, f6, f7, f8, h2, h3]
end Go.Proofs.YtleikacgncpfbaaDoor

/- Terms: a copy is the term. -/
set_option maxRecDepth 100000
set_option maxHeartbeats 4000000
namespace Go.Proofs.YtleikacgncpfbaaDoor
open Go Go.Den
theorem rd_seven {H : Heap} {v : AV} {t : Tm} (h : Rd H v t) : v.cells.length = 7 ∧ A.fits 7 v = true ∧ A.ofList true 7 v.cells 0 = some v ∧ v.isDef = true ∧ A.splice [.int .i64 0, .bool false, .nils, .str [], .int .i64 0, .nils, .nils] 0 v.cells = v.cells := by
  have hop : ∀ (u : Tm) (w : AV), w.one = true → (op u w).cells.length = 7 ∧ A.fits 7 (op u w) = true ∧ A.ofList true 7 (op u w).cells 0 = some (op u w) ∧ (op u w).isDef = true ∧ A.splice [.int .i64 0, .bool false, .nils, .str [], .int .i64 0, .nils, .nils] 0 (op u w).cells = (op u w).cells := fun u w hw => by
    have hd : (eD u.d).one = true := by cases u.d <;> rfl
    have hb : (eL 1 eb u.b).one = true := by cases u.b <;> rfl
    refine ⟨rfl, ?_, rfl, rfl, rfl⟩
    show (((op u w).cells.length == 7) && (op u w).cells.all AV.one) = true
    show ((7 == 7) && [AV.int .i64 u.kind, .bool u.neg, eD u.d, .str u.name, .int .i64 u.n, w, eL 1 eb u.b].all AV.one) = true
    simp only [List.all_cons, List.all_nil, hd, hb, hw]
    rfl
  cases h with
  | imm =>
    rw [← qef]
    exact hop _ _ (by cases t.l <;> rfl)
  | nil => exact hop _ _ rfl
  | own => exact hop _ _ rfl
def copyT (t : Tm) : Prop := fineT t ∧ shal 63 t ∧ t.size ≤ 1000000000
noncomputable def pCopy : Pol := .still (p1 cT eT copyT id)
theorem kCopy {R : Type} {t : Tm} (h : copyT t) {H : Heap} {k : AV → Heap → Option R} : polK pCopy [eT t] H k = k (eT t) H := by
  simp [pCopy, q0b, h]
theorem okCopy : PolOK base 44 pCopy := still1 base_ok TCp ⟨okClone, okBclone, okTclone, trivial⟩ fun t ⟨hf, hsh, hsz⟩ => by
  have hf1 := (fineT_eq.1 hf).1
  have hcl : (eT t).cells.length = 7 := by rw [q04]; rfl
  have hof : A.ofList true 7 (eT t).cells 0 = some (eT t) := q0o (H := [])
  have hof2 : (eT t).cells[2]? = some (eD t.d) := by rw [q04]; rfl
  have hof6 : (eT t).cells[6]? = some (eL 1 eb t.b) := by rw [q04]; rfl
  have hof5 : (eT t).cells[5]? = some (eL 7 eT t.l) := by rw [q04]; rfl
  have st0 : A.store 7 (.ptr 0 0 0 0) (eT t) [.row 0 7 26 [.agg [.int .i64 0, .bool false, .nils, .str [], .int .i64 0, .nils, .nils]]] = some [.row 0 7 26 [eT t]] := by
    have := q6a (cs := [.int .i64 0, .bool false, .nils, .str [], .int .i64 0, .nils, .nils]) (ds := (eT t).cells) (b := 0) (sz := 7) (ty := 26) (H := [.row 0 7 26 [.agg [.int .i64 0, .bool false, .nils, .str [], .int .i64 0, .nils, .nils]]]) rfl rfl (by rw [q04]; rfl) (by rw [q04]; simp)
    have e : AV.agg (eT t).cells = eT t := by rw [q04, q3w]
    rw [e] at this
    exact this
  have k2 : ∀ (R : Type) (H : Heap) (k : AV → Heap → Option R), polQ pClone [eD t.d] H k = k (eD t.d) H := fun R H k => qClone hf1.1
  have k6 : ∀ (R : Type) (H : Heap) (k : AV → Heap → Option R), polQ q7w [eL 1 eb t.b] H k = k (eL 1 eb t.b) H := fun R H k => qBclone hf1.2.1
  have k5 : ∀ (R : Type) (k : AV → Heap → Option R), polK q9z [eL 7 eT t.l] [.row 0 7 26 [eT t]] k = k (cv 1 t.l) ([.row 0 7 26 [eT t]] ++ cr t.l ((t.l.getD []).map eT)) := fun R k => kTclone (H := [.row 0 7 26 [eT t]]) hf1.2.2
  have h0 : ([.row 0 7 26 [eT t]] ++ cr t.l ((t.l.getD []).map eT))[0]? = some (.row 0 7 26 [eT t]) := rfl
  have he : [eT t][0]? = some (.agg [.int .i64 t.kind, .bool t.neg, eD t.d, .str t.name, .int .i64 t.n, eL 7 eT t.l, eL 1 eb t.b]) := by rw [q3w]; rfl
  have hone : ∀ d : Option (List UInt32), (eD d).one = true := fun d => by cases d <;> rfl
  have honb : ∀ d : Option (List UInt8), (eL 1 eb d).one = true := fun d => by cases d <;> rfl
  have f2 : A.fa 2 (.ptr 0 0 0 0) ([.row 0 7 26 [eT t]] ++ cr t.l ((t.l.getD []).map eT)) = some (.ptr 0 0 0 2) := q2u h0
  have f6 : A.fa 6 (.ptr 0 0 0 0) ([.row 0 7 26 [eT t]] ++ cr t.l ((t.l.getD []).map eT)) = some (.ptr 0 0 0 6) := q2u h0
  have f5 : A.fa 5 (.ptr 0 0 0 0) ([.row 0 7 26 [eT t]] ++ cr t.l ((t.l.getD []).map eT)) = some (.ptr 0 0 0 5) := q2u h0
  have s2 : A.store 1 (.ptr 0 0 0 2) (eD t.d) ([.row 0 7 26 [eT t]] ++ cr t.l ((t.l.getD []).map eT)) = some ([.row 0 7 26 [eT t]] ++ cr t.l ((t.l.getD []).map eT)) := q1s h0 he rfl (hone _)
  have s6 : A.store 1 (.ptr 0 0 0 6) (eL 1 eb t.b) ([.row 0 7 26 [eT t]] ++ cr t.l ((t.l.getD []).map eT)) = some ([.row 0 7 26 [eT t]] ++ cr t.l ((t.l.getD []).map eT)) := q1s h0 he rfl (honb _)
  have s5 : A.store 1 (.ptr 0 0 0 5) (cv 1 t.l) ([.row 0 7 26 [eT t]] ++ cr t.l ((t.l.getD []).map eT)) = some ([.row 0 7 26 [op t (cv 1 t.l)]] ++ cr t.l ((t.l.getD []).map eT)) := q7i h0 he rfl (cv_one _ _)
  have hfe : A.fillElems 1 [AV.nilp] [(0, 1, .ptr 0 0 0 0)] = some [.ptr 0 0 0 0] := by simp [A.fillElems]
  obtain ⟨H8, hH8⟩ : ∃ H8 : Heap, H8 = [.row 0 7 26 [op t (cv 1 t.l)]] ++ cr t.l ((t.l.getD []).map eT) := ⟨_, rfl⟩
  rw [← hH8] at s5
  have hk : ∀ l, t.l = some l → (H8 ++ [.row 0 1 86 [.ptr 0 0 0 0]])[1]? = some (.row (cw l) 7 26 (l.map eT)) := fun l hl => by
    rw [hH8, hl]
    rfl
  have hz : (H8 ++ [.row 0 1 86 [.ptr 0 0 0 0]])[0]? = some (.row 0 7 26 [op t (cv 1 t.l)]) := by rw [hH8]; rfl
  have hH1 : 1 ≤ H8.length := by rw [hH8]; simp
  have hC : CInv t H8.length 0 1 [⟨0, 0, 0, t, 1⟩] (H8 ++ [.row 0 1 86 [.ptr 0 0 0 0]]) := by
    refine ⟨⟨_, hz, ?_⟩, ⟨[.ptr 0 0 0 0], by simp, rfl, by simp⟩, ?_, ?_, List.pairwise_singleton _ _, ?_⟩
    · cases hl : t.l with
      | none => exact .nil _ hl
      | some l =>
        refine .own _ l _ _ _ _ hl (hk l hl) (by simp) fun j hj => ?_
        rw [List.getElem_map]
        exact .imm _
    · intro e hee
      rw [List.mem_singleton] at hee
      rw [hee]
      exact ⟨_, hz, rfl, hk⟩
    · intro e hee ho
      rw [List.mem_singleton] at hee
      rw [hee] at ho ⊢
      obtain ⟨l, hl⟩ : ∃ l, t.l = some l := by
        cases hl : t.l with
        | none => exact absurd hl ho
        | some l => exact ⟨l, rfl⟩
      have : H8.length = 2 := by rw [hH8, hl]; rfl
      exact ⟨by show 1 ≠ H8.length; omega, by simp; omega, by show 1 ≠ 0; omega⟩
    · intro e hee f hf' _
      rw [List.mem_singleton] at hee hf'
      rw [hee, hf']
      show 0 ≠ 1
      omega
  obtain ⟨H', ⟨v, hv0, hv⟩, hL⟩ := cp_outer (t3 := .ptr 0 0 0 0) (c1 := [.int .i64 0, .bool false, .nils, .str [], .int .i64 0, .nils, .nils]) t.size _ _ _ _ (by simp [Tm.sizes]) hsz hC (fun e hee => by
    rw [List.mem_singleton] at hee
    rw [hee]
    exact hf)
  obtain ⟨v1, v2, v3, v4, v5⟩ := rd_seven hv
  have hld : A.load true 7 (.ptr 0 0 0 0) H' = some v := by
    simp only [A.load, A.elemAt, hv0]
    exact v3
  have hfz := qej 63 t v hsh hv
  refine Evs.withL hL (Evs.of fun n m h1 _ => ?_)
  have h1' : L44_0 (polT TCp) n n ⟨[.ptr 0 0 0 0, .sl H8.length 0 0 1 1], [[.int .i64 0, .bool false, .nils, .str [], .int .i64 0, .nils, .nils]]⟩ (H8 ++ [.row 0 1 86 [.ptr 0 0 0 0]]) = some (0, ⟨[.ptr 0 0 0 0], [[.int .i64 0, .bool false, .nils, .str [], .int .i64 0, .nils, .nils]]⟩, H') := h1
  generalize [.row 0 7 26 [eT t]] ++ cr t.l ((t.l.getD []).map eT) = H5 at *
  rw [q04] at hof
  simp [↓q06, ↓q0a, ↓q09, ↓q01, ↓q0d, ↓q0e, ↓q05, ↓q07, S44, hof, st0, k2, k6, k5, f2, s2, f6, s6, f5, s5, hfe, h1', hld, v1, v2, v3, v5, hfz]
end Go.Proofs.YtleikacgncpfbaaDoor

/- Terms: tuples and lists. -/
set_option maxRecDepth 100000
set_option maxHeartbeats 4000000
namespace Go.Proofs.YtleikacgncpfbaaDoor
open Go Go.Den
def tupT (l : List Tm) : Tm := .mk 4 false none [] 0 (nz l) none
def listT : List Tm → Tm
  | [] => .mk 5 false none [] 0 none none
  | x :: r => .mk 6 false none [] 0 (some [x, listT r]) none
def partT (u : Tm) : Prop := copyT u ∧ shal 20 u
noncomputable abbrev TTup : List (FuncId × Pol) := [(44, pCopy)]
def allP (o : Option (List Tm)) : Prop := (∀ u ∈ o.getD [], partT u) ∧ (o.getD []).length ≤ 1000
noncomputable def pTuple : Pol := .still (p1 cTs eT allP fun o => tupT (o.getD []))
end Go.Proofs.YtleikacgncpfbaaDoor

/- Terms: lists. -/
set_option maxRecDepth 100000
set_option maxHeartbeats 4000000
namespace Go.Proofs.YtleikacgncpfbaaDoor
open Go Go.Den
noncomputable def pNil : Pol := .still (Cd.f0 (eT (listT [])))
noncomputable abbrev TLst : List (FuncId × Pol) := [(47, pNil), (44, pCopy)]
def allL (o : Option (List Tm)) : Prop := (∀ u ∈ o.getD [], partT u) ∧ (o.getD []).length ≤ 40
noncomputable def pList : Pol := .still (p1 cTs eT allL fun o => listT (o.getD []))
end Go.Proofs.YtleikacgncpfbaaDoor

/- The seat's first question: by computation. -/
set_option maxRecDepth 100000
namespace Go.Proofs.YtleikacgncpfbaaDoor.awake5
open Go Go.Den
def q60 : List FuncId := [15, 17, 19, 21, 30, 31, 39, 44, 47, 54, 55, 56, 58, 59, 69, 71, 72, 73, 75, 77, 78, 79, 82, 83, 84, 97, 98, 99, 106]
noncomputable def env0 : Env := { P := Tryd.prog, pol := fun _ => .plain, ann := fun _ => {}, glob := fun g => bif Nat.beq g 0 then flatD (H := Unit) Rows.laid_unicode_utf8_first else bif Nat.beq g 1 then flatD (H := Unit) Rows.laid_unicode_utf8_acceptRanges else none }
def q4s : List (Nat × List (Nat × Nat × Nat)) := []
def q65 : List (Nat × List (Nat × Nat × Nat)) → Nat → List (Nat × Nat × Nat)
  | [], _ => []
  | (g, l) :: r, f => bif Nat.beq g f then l else q65 r f
def annsIn (f : Nat) : Ann :=  .nil
noncomputable def tab (f : FuncId) : FAnn :=
  match Tryd.prog.funcs[f]? with
  | some fn => { ann := annsIn f, depth := Nat.log2 fn.ntmps + 1, sites := q65 q4s f, draws := mkDraws env0 (q65 q4s f) fn }
  | none => {}
noncomputable def env : Env := { env0 with ann := fun f => if f ∈ q60 then tab f else {} }
theorem env_ok : EnvOK env := envOK q60 (by kernel_rfl) (fun f hf => by show (if f ∈ q60 then tab f else {}).draws = []; rw [if_neg hf]) (by kernel_rfl)
theorem qcx : ∀ f, env.pol f = .plain ∨ ∃ F, env.pol f = .prim F ∧ PrimOK env f F := fun f => by
  refine .inl ?_
  show ( Pol.plain) = _
  rfl
theorem calls_ok (n : Nat) : CallOK env (callF env n) := q97 env_ok (by kernel_rfl) qcx n
def q5e : Option AV → Bool
  | some (.bool true) => true
  | _ => false
theorem qa5 {x : Option AV} (h : q5e x = true) : x = some (.bool true) := by
  unfold q5e at h
  split at h
  · rfl
  · cases h
theorem known : callF env 300 AV 15 [] [] (fun v G => A.freezeB true 64 G v) = some (.bool true) := qa5 (by kernel_rfl)
end Go.Proofs.YtleikacgncpfbaaDoor.awake5
namespace Go.Proofs.YtleikacgncpfbaaDoor
open Go Go.Den
noncomputable def pAwake5 : Pol := .still (Cd.f0 (.bool true))
end Go.Proofs.YtleikacgncpfbaaDoor

/- Terms in a row: are they few and small; how many parts and words a tuple and a list have. -/
set_option maxRecDepth 100000
set_option maxHeartbeats 4000000
namespace Go.Proofs.YtleikacgncpfbaaDoor
open Go Go.Den
theorem qeo {most : Int} (hm : most ≤ 1000) : ∀ t dep, roomS t dep most = true → fineT t := fun t => q49 (P := fun t => ∀ dep, roomS t dep most = true → fineT t) (fun t ih dep h => by
  rw [q5a] at h
  simp only [Bool.and_eq_true, Bool.not_eq_true', Bool.or_eq_false_iff, decide_eq_false_iff_not, List.all_eq_true] at h
  obtain ⟨⟨⟨⟨⟨h1, h2⟩, h3⟩, h4⟩, h5⟩, h6⟩ := h
  exact fineT_eq.2 ⟨⟨by unfold few; omega, by unfold fewB; omega, by omega⟩, fun u hu => ih u hu _ (h6 u hu)⟩) t
theorem room_part {u : Tm} (h : roomS u 8 40 = true ∧ mayS u = true) : partT u := by
  have hm := h.2
  unfold mayS at hm
  simp only [Bool.and_eq_true, decide_eq_true_eq] at hm
  refine ⟨⟨qeo (by omega) u 8 h.1, qa3 63 u 8 (by omega) h.1, ?_⟩, qa3 20 u 8 (by omega) h.1⟩
  rw [qhz u hm.2]
  omega
end Go.Proofs.YtleikacgncpfbaaDoor

/- Terms: the reference's copies, in a plain form. -/
set_option maxRecDepth 100000
set_option maxHeartbeats 4000000
namespace Go.Proofs.YtleikacgncpfbaaDoor
open Go Go.Den
mutual
def canonT : Tm → Tm
  | .mk k x d s n l b => .mk k x (nz (d.getD [])) s n (canonO l) (nz (b.getD []))
def canonO : Option (List Tm) → Option (List Tm)
  | none => none
  | some l => nz (canons l)
def canons : List Tm → List Tm
  | [] => []
  | t :: l => canonT t :: canons l
end
theorem qax : ∀ l : List Tm, canons l = l.map canonT
  | [] => by simp [canons]
  | t :: l => by rw [canons, qax l]; rfl
theorem q1b (t : Tm) : canonT t = .mk t.kind t.neg (nz (t.d.getD [])) t.name t.n (nz (t.kids.map canonT)) (nz (t.b.getD [])) := by
  cases t with
  | mk k x d s n l b =>
    rw [canonT]
    cases l with
    | none => rw [canonO]; rfl
    | some l => rw [canonO, qax]; rfl
structure SameT (a b : Tm) : Prop where
  kind : a.kind = b.kind
  neg : a.neg = b.neg
  d : a.d.getD [] = b.d.getD []
  name : a.name = b.name
  n : a.n = b.n
  kids : a.kids.map canonT = b.kids.map canonT
  b : a.b.getD [] = b.b.getD []
section
variable {α : Type} {e : α → AV} {sz bytes : Nat} {ty : TypeId}
def nv (l : List α) (id : Nat) : AV := if l = [] then .nils else .sl id 0 0 l.length l.length
def nr (e : α → AV) (sz : Nat) (ty : TypeId) (l : List α) : List HObj := if l = [] then [] else [.row 0 sz ty (l.map e)]
theorem qgq {l : List α} (hb : 0 < bytes) (hm : l.length * bytes ≤ 140737488355328) {H : Heap} : A.append sz bytes ty .nils (l.map e) H = some (nv l H.length, H ++ nr e sz ty l) := by
  cases l with
  | nil => simp [nv, nr, A.append]
  | cons x l =>
    rw [nil_append (by simp) hb (by simpa using hm)]
    simp [nv, nr]
theorem nv_one (l : List α) (id : Nat) : (nv l id).one = true ∧ (nv l id).cells = [nv l id] ∧ (nv l id).isDef = true := by
  unfold nv
  split <;> exact ⟨rfl, rfl, rfl⟩
theorem nv_frz {l : List α} {id m : Nat} {H : Heap} (hf : ∀ x, (e x).flat0 = true ∧ (e x).isDef = true) (h : l ≠ [] → H[id]? = some (.row 0 sz ty (l.map e))) : A.freezeB true (m + 2) H (nv l id) = some (eL sz e (nz l)) := by
  unfold nv nz
  by_cases hl : l = []
  · rw [if_pos hl, if_pos hl]
    rfl
  · rw [if_neg hl, if_neg hl]
    exact q1m (b := true) (m := m) (h hl) (by simp) (fun y hy => by
      obtain ⟨x, _, rfl⟩ := List.mem_map.1 hy
      exact hf x)
end
theorem frz_eT {n : Nat} {H : Heap} {t : Tm} : A.freezeB true (n + 2) H (eT t) = some (eT t) := by
  rw [← qef]
  exact qh4 qh3
theorem qim {n id w cap : Nat} {l : List Tm} {H : Heap} (hr : H[id]? = some (.row w 7 26 (l.map eT))) : A.freezeB true (n + 2) H (.sl id w 0 l.length cap) = some (.sh 7 (l.map eT)) := by
  show (match H[id]? with | some (.row w' z _ es) => if w' = w ∧ 0 + l.length ≤ es.length then (((es.drop 0).take l.length).mapM fun (e : AV) => match e with | AV.agg cs => (cs.mapM (A.freezeB true (n + 1) H)).map AV.agg | e => A.freezeB true (n + 1) H e).map (AV.sh z) else none | _ => none) = _
  rw [hr]
  dsimp only
  rw [if_pos ⟨rfl, by simp⟩, List.drop_zero, List.take_of_length_le (by simp)]
  have : ((l.map eT).mapM fun (e : AV) => match e with | AV.agg cs => (cs.mapM (A.freezeB true (n + 1) H)).map AV.agg | e => A.freezeB true (n + 1) H e) = some (l.map eT) := qhg rfl fun i hi => by
    have hf : A.freezeB true (n + 2) H (l.map eT)[i] = some (l.map eT)[i] := by
      rw [List.getElem_map]
      exact frz_eT
    have hcs : ∃ cs, (l.map eT)[i] = .agg cs := by
      rw [List.getElem_map]
      exact ⟨_, q3w _⟩
    obtain ⟨cs, hcs⟩ := hcs
    rw [hcs] at hf ⊢
    exact hf
  rw [this]
  rfl
/-! ### a row of terms that grows, while what was there before stands -/
def OutK (K : Nat) (H0 H : Heap) (v : AV) (l : List Tm) : Prop :=
  (∀ j, j < K → H[j]? = H0[j]?) ∧ K ≤ H.length ∧ ((l = [] ∧ v = .nils) ∨ ∃ id ver, l ≠ [] ∧ v = .sl id ver 0 l.length l.length ∧ H[id]? = some (.row ver 7 26 (l.map eT)) ∧ K ≤ id)
theorem OutK.push {K : Nat} {H0 H : Heap} {v : AV} {l : List Tm} (h : OutK K H0 H v l) (x : Tm) (hm : (l.length + 1) * 112 ≤ 140737488355328) :
    ∃ v' H', A.append 7 112 26 v [eT x] (H ++ [.row 0 7 26 [eT x]]) = some (v', H') ∧ OutK K H0 H' v' (l ++ [x]) := by
  obtain ⟨h1, h2, h⟩ := h
  rcases h with ⟨rfl, rfl⟩ | ⟨id, ver, h0, rfl, h3, h4⟩
  · refine ⟨_, _, nil_append (news := [eT x]) (by simp) (by omega) (by simp), fun j hj => ?_, by simp; omega, .inr ⟨_, 0, by simp, rfl, q2n, by simp; omega⟩⟩
    rw [List.getElem?_append_left (by simp; omega), List.getElem?_append_left (by omega)]
    exact h1 j hj
  · have h5 := qcy h3 [.row 0 7 26 [eT x]]
    refine ⟨_, _, q2r (news := [eT x]) h5 (by simp) (by simp) (by omega) (by simpa using hm), fun j hj => ?_, by simp; omega, .inr ⟨id, ver + 1, by simp, by simp, ?_, h4⟩⟩
    · rw [List.getElem?_set_ne (by omega), List.getElem?_append_left (by omega)]
      exact h1 j hj
    · rw [q4r h5]
      simp
theorem qho {K : Nat} {H0 H : Heap} {v : AV} {l : List Tm} (h : OutK K H0 H v l) : v.one = true ∧ v.cells = [v] := by
  rcases h.2.2 with ⟨-, rfl⟩ | ⟨_, _, -, rfl, -⟩ <;> exact ⟨rfl, rfl⟩
theorem outK_frz {K n : Nat} {H0 H : Heap} {v : AV} {l : List Tm} (h : OutK K H0 H v l) : A.freezeB true (n + 2) H v = some (eL 7 eT (nz l)) := by
  rcases h.2.2 with ⟨rfl, rfl⟩ | ⟨id, ver, h0, rfl, h3, -⟩
  · rfl
  · unfold nz
    rw [if_neg h0]
    exact qim h3
/-! ### the copy -/
def rcp (t : Tm) : Prop := tame t ∧ fineT t
noncomputable def pRcopy (n : Nat) : Pol := .still (p1 cT eT (fun t => t.size ≤ n ∧ rcp t) canonT)
theorem qRcopy' {n : Nat} {R : Type} {t : Tm} (h : t.size ≤ n) (h2 : rcp t) {H : Heap} {k : AV → Heap → Option R} : polQ (pRcopy n) [eT t] H k = k (eT (canonT t)) H := by
  simp [pRcopy, q1w, h, h2]
def rc (t : Tm) (vd vl vb : AV) : List AV := [.int .i64 t.kind, .bool t.neg, vd, .str t.name, .int .i64 t.n, vl, vb]
theorem qj0 {n : Nat} {t : Tm} {K : Nat} {H0 : Heap} {c1 : List AV} {vd vb : AV} (hs : t.size ≤ n + 1) (ht : rcp t) : ∀ (k i : Nat) (v : AV) (H : Heap), i + k = t.kids.length → OutK K H0 H v ((t.kids.take i).map canonT) →
    ∃ v' H', LDoes (L46_0 (polT [(46, pRcopy n)])) ⟨[.int .i64 (i : Int)], [(eT t).cells, c1, rc t vd v vb]⟩ H 0 ⟨[], [c1, rc t vd v' vb]⟩ H' ∧ OutK K H0 H' v' (t.kids.map canonT) := by
  have hln : ∀ H, A.len (eL 7 eT t.l) H = some (.int .i64 ((t.kids.length : Nat) : Int)) := fun H => q08
  have oc : A.ofList false 1 (eT t).cells 5 = some (eL 7 eT t.l) := by rw [q04]; rfl
  have hl : t.kids.length ≤ 1000 := (tame_eq.1 ht.1).1.2.2
  intro k
  induction k with
  | zero =>
    intro i v H hi hO
    have : i = t.kids.length := by omega
    subst this
    rw [List.take_length] at hO
    refine ⟨v, H, LDoes.step (Evs.of fun n m => ?_), hO⟩
    generalize (eT t).cells = ct at *
    generalize (t.kids.length : Int) = N at *
    simp [↓q00, ↓q01, -q08, qao, oc, hln]
  | succ k ih =>
    intro i v H hi hO
    have hlt : i < t.kids.length := by omega
    have hlt' : (i : Int) < (t.kids.length : Int) := by omega
    have hmem : t.kids[i] ∈ t.kids := List.getElem_mem hlt
    have hx : A.idx 7 (eL 7 eT t.l) (.int .i64 (i : Int)) H = some (.rop (eT t.kids[i]).cells) := q16 (sz := 7) (e := eT) (o := t.l) (H := H) (k := .i64) (i := i) hlt
    have hld := q0o (t := t.kids[i]) (H := H)
    have hsz : (t.kids[i]).size ≤ n := by
      have := Tm.size_kid (t := t) (u := t.kids[i]) hmem
      omega
    have hcp : ∀ (R : Type) (H : Heap) (k : AV → Heap → Option R), polQ (pRcopy n) [eT t.kids[i]] H k = k (eT (canonT t.kids[i])) H := fun R H k => qRcopy' hsz ⟨(tame_eq.1 ht.1).2 _ hmem, (fineT_eq.1 ht.2).2 _ hmem⟩
    obtain ⟨v1, H1, happ, hO1⟩ := hO.push (canonT t.kids[i]) (by simp; omega)
    have htk : (t.kids.take i).map canonT ++ [canonT t.kids[i]] = (t.kids.take (i + 1)).map canonT := by rw [List.take_succ_eq_append_getElem hlt, List.map_append, List.map_cons, List.map_nil]
    rw [htk] at hO1
    obtain ⟨v', H', hL, hO'⟩ := ih (i + 1) v1 H1 (by omega) hO1
    obtain ⟨ho1, hc1⟩ := qho hO1
    have hf1 : A.fits 1 v1 = true := by simp [A.fits, hc1, ho1]
    have hi1 : IntKind.wrap .i64 ((i : Int) + 1) = (i : Int) + 1 := q0c (by omega) (by omega)
    have hfe : A.fillElems 7 [.agg [.int .i64 0, .bool false, .nils, .str [], .int .i64 0, .nils, .nils]] [(0, 1, eT (canonT t.kids[i]))] = some [eT (canonT t.kids[i])] := by simp [A.fillElems, q04]
    have hrd : A.read 7 (.sl H.length 0 0 1 1) (H ++ [.row 0 7 26 [eT (canonT t.kids[i])]]) = some [eT (canonT t.kids[i])] := qd8
    have hsp1 : A.splice (rc t vd v vb) 5 [v1] = rc t vd v1 vb := rfl
    have ho5 : A.ofList false 1 (rc t vd v vb) 5 = some v := rfl
    have hrl : (rc t vd v vb).length = 7 := rfl
    simp only [Int.natCast_add, Int.natCast_one] at hL
    refine ⟨v', H', LDoes.step (Evs.withL hL (Evs.of fun n m _ h2 => ?_)), hO'⟩
    generalize (eT t).cells = ct at *
    generalize rc t vd v vb = r0 at *
    generalize rc t vd v1 vb = r1 at *
    generalize rc t vd v' vb = r2 at *
    generalize eT t.kids[i] = x at *
    generalize eT (canonT t.kids[i]) = y at *
    generalize (t.kids.length : Int) = N at *
    simp [↓q00, ↓q06, ↓q0a, ↓q09, ↓q01, ↓q0d, ↓q0m, ↓q07, -q08, qao, oc, hln, hlt', ho5, hx, hld, hcp, hfe, q0y q2d, hrd, happ, hf1, hc1, hrl, hsp1, hi1, h2]
theorem okRcopy : ∀ n, PolOK base 46 (pRcopy n)
  | 0 => still1 base_ok [] trivial fun t ⟨hs, _⟩ => by
    have := t.size_eq
    omega
  | n + 1 => still1 base_ok [(46, pRcopy n)] ⟨okRcopy n, trivial⟩ fun t ⟨hs, ht⟩ => by
    have hf := (fineT_eq.1 ht.2).1
    have hfd := hf.1
    have hfb := hf.2.1
    unfold few at hfd
    unfold fewB at hfb
    obtain ⟨H2, hH2⟩ : ∃ H2 : Heap, H2 = nr eu 1 59 (t.d.getD []) ++ nr eb 1 5 (t.b.getD []) := ⟨_, rfl⟩
    obtain ⟨i1, hi1⟩ : ∃ i1, i1 = (nr eu 1 59 (t.d.getD [])).length := ⟨_, rfl⟩
    have r1 : A.read 1 (eD t.d) [] = some ((t.d.getD []).map eu) := qg3
    have r2 : A.read 1 (eL 1 eb t.b) (nr eu 1 59 (t.d.getD [])) = some ((t.b.getD []).map eb) := qg3
    have a1 : A.append 1 4 59 .nils ((t.d.getD []).map eu) [] = some (nv (t.d.getD []) 0, nr eu 1 59 (t.d.getD [])) := by
      have := qgq (e := eu) (sz := 1) (ty := 59) (bytes := 4) (l := t.d.getD []) (by omega) (by omega) (H := [])
      simpa using this
    have a2 : A.append 1 1 5 .nils ((t.b.getD []).map eb) (nr eu 1 59 (t.d.getD [])) = some (nv (t.b.getD []) i1, H2) := by
      have := qgq (e := eb) (sz := 1) (ty := 5) (bytes := 1) (l := t.b.getD []) (by omega) (by omega) (H := nr eu 1 59 (t.d.getD []))
      rw [hH2, hi1]
      exact this
    have hO0 : OutK H2.length H2 H2 .nils ((t.kids.take 0).map canonT) := ⟨fun _ _ => rfl, Nat.le_refl _, .inl ⟨by simp, rfl⟩⟩
    obtain ⟨v', H', hL, hO⟩ := qj0 (c1 := [.int .i64 0, .bool false, .nils, .str [], .int .i64 0, .nils, .nils]) (vd := nv (t.d.getD []) 0) (vb := nv (t.b.getD []) i1) hs ht t.kids.length 0 .nils H2 (by omega) hO0
    obtain ⟨o1, p1, f1⟩ := nv_one (t.d.getD []) 0
    obtain ⟨o2, p2, f2⟩ := nv_one (t.b.getD []) i1
    obtain ⟨o3, p3⟩ := qho hO
    have g1 : (t.d.getD []) ≠ [] → H'[0]? = some (.row 0 1 59 ((t.d.getD []).map eu)) := fun hne => by
      have e : nr eu 1 59 (t.d.getD []) = [.row 0 1 59 ((t.d.getD []).map eu)] := by unfold nr; rw [if_neg hne]
      have : 0 < H2.length := by rw [hH2, e]; simp
      rw [hO.1 0 this, hH2, e]
      rfl
    have g2 : (t.b.getD []) ≠ [] → H'[i1]? = some (.row 0 1 5 ((t.b.getD []).map eb)) := fun hne => by
      have e : nr eb 1 5 (t.b.getD []) = [.row 0 1 5 ((t.b.getD []).map eb)] := by unfold nr; rw [if_neg hne]
      have : i1 < H2.length := by rw [hH2, e, hi1]; simp
      rw [hO.1 i1 this, hH2, e, hi1]
      simp
    have z1 : A.freezeB true 63 H' (nv (t.d.getD []) 0) = some (eD (nz (t.d.getD []))) := nv_frz (e := eu) (m := 61) (fun x => ⟨rfl, rfl⟩) g1
    have z2 : A.freezeB true 63 H' (nv (t.b.getD []) i1) = some (eL 1 eb (nz (t.b.getD []))) := nv_frz (e := eb) (m := 61) (fun x => ⟨rfl, rfl⟩) g2
    have z3 : A.freezeB true 63 H' v' = some (eL 7 eT (nz (t.kids.map canonT))) := outK_frz (n := 61) hO
    have hfz : A.freezeB true 64 H' (.agg (rc t (nv (t.d.getD []) 0) v' (nv (t.b.getD []) i1))) = some (eT (canonT t)) := by
      show ((rc t (nv (t.d.getD []) 0) v' (nv (t.b.getD []) i1)).mapM (A.freezeB true 63 H')).map AV.agg = _
      have h0 : A.freezeB true 63 H' (.int .i64 t.kind) = some (.int .i64 t.kind) := rfl
      have h1 : A.freezeB true 63 H' (.bool t.neg) = some (.bool t.neg) := rfl
      have h3 : A.freezeB true 63 H' (.str t.name) = some (.str t.name) := rfl
      have h4 : A.freezeB true 63 H' (.int .i64 t.n) = some (.int .i64 t.n) := rfl
      have e : eT (canonT t) = .agg (rc t (eD (nz (t.d.getD []))) (eL 7 eT (nz (t.kids.map canonT))) (eL 1 eb (nz (t.b.getD [])))) := by
        rw [q1b, q3w]
        rfl
      rw [e]
      unfold rc
      simp only [List.mapM_cons, List.mapM_nil, h0, h1, z1, h3, h4, z3, z2]
      rfl
    have hft : ∀ v : AV, v.one = true → A.fits 7 (.agg (rc t (nv (t.d.getD []) 0) v (nv (t.b.getD []) i1))) = true := fun v hv => by
      show ((7 == 7) && [AV.int .i64 t.kind, .bool t.neg, nv (t.d.getD []) 0, .str t.name, .int .i64 t.n, v, nv (t.b.getD []) i1].all AV.one) = true
      simp only [List.all_cons, List.all_nil, o1, o2, hv]
      rfl
    have hft0 := hft .nils rfl
    have hft1 := hft v' o3
    have hfl : A.fill [.int .i64 0, .bool false, .nils, .str [], .int .i64 0, .nils, .nils] [(0, 1, .int .i64 t.kind), (1, 1, .bool t.neg), (3, 1, .str t.name), (4, 1, .int .i64 t.n), (2, 1, nv (t.d.getD []) 0), (6, 1, nv (t.b.getD []) i1)] = some (rc t (nv (t.d.getD []) 0) .nils (nv (t.b.getD []) i1)) := by
      simp [A.fill, A.splice, p1, p2, f1, f2, rc]
    have hspl : ∀ v, A.splice [.int .i64 0, .bool false, .nils, .str [], .int .i64 0, .nils, .nils] 0 (rc t (nv (t.d.getD []) 0) v (nv (t.b.getD []) i1)) = rc t (nv (t.d.getD []) 0) v (nv (t.b.getD []) i1) := fun v => rfl
    have hol : ∀ v, A.ofList true 7 (rc t (nv (t.d.getD []) 0) v (nv (t.b.getD []) i1)) 0 = some (.agg (rc t (nv (t.d.getD []) 0) v (nv (t.b.getD []) i1))) := fun v => rfl
    have hrl : ∀ v, (rc t (nv (t.d.getD []) 0) v (nv (t.b.getD []) i1)).length = 7 := fun v => rfl
    rw [q04] at hL
    refine Evs.withL hL (Evs.of fun n m h1 _ => ?_)
    simp only [Int.natCast_zero] at h1
    generalize nv (t.d.getD []) 0 = vd at *
    generalize nv (t.b.getD []) i1 = vb at *
    generalize nr eu 1 59 (t.d.getD []) = H1 at *
    simp [↓q0a, ↓q01, ↓q0d, ↓q0m, ↓q05, ↓q07, -q08, S46, q0y q3a, q0y q2p, r1, a1, r2, a2, hfl, hft0, hspl, hrl, h1, hol, hft1, hfz]
noncomputable def qcs : Pol := .still (p1 cT eT rcp canonT)
theorem okRcopyA : PolOK base 46 qcs := q5h (F := fun n => p1 cT eT (fun t => t.size ≤ n ∧ rcp t) canonT) okRcopy fun zs v h => by
  match zs, h with
  | [a], h =>
    simp only [p1_app, Option.bind_eq_some_iff] at h ⊢
    obtain ⟨t, ht, h⟩ := h
    split at h
    · rename_i hc
      exact ⟨t.size, t, ht, by rw [if_pos ⟨Nat.le_refl _, hc⟩]; exact h⟩
    · cases h
end Go.Proofs.YtleikacgncpfbaaDoor
