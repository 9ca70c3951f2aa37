/- Texts put together: Ts2, So1, Cp1, Cp2, Cq1, Cp3, Cp4, Cp5, Cp6, Cp7, Cp8, Cp9, Awake5, Lw5c, Rc, So2, So3, So4, Lw5f. -/
import Derived.Test.YtleikacgncpfbaaDoorMh
import Derived.Test.YtleikacgncpfbaaDoorRows

/- Two terms: are they the same? By the program. -/
set_option maxRecDepth 100000
set_option maxHeartbeats 4000000
namespace Go.Proofs.YtleikacgncpfbaaDoor
open Go Go.Den Go.Lib
noncomputable def sameP (p : Tm × Tm) : Bool := decide (cmpT p.1 p.2 = 0)
def kp (t : Tm) : List Tm := (partsO t).getD []
theorem zip_all : ∀ l m : List Tm, (l.zip m).all sameP = decide (cmpTs l m = 0)
  | [], m => by rw [q2j]; rfl
  | t :: l, [] => by rw [q46]; rfl
  | t :: l, u :: m => by
    rw [q2y, List.zip_cons_cons, List.all_cons, zip_all l m]
    unfold sameP
    by_cases h : cmpT t u = 0
    · rw [if_neg (fun g => g h)]
      simp [h]
    · rw [if_pos h]
      simp [h]
theorem kp_sub {t u : Tm} (h : u ∈ kp t) : u ∈ t.kids := by
  unfold kp partsO at h
  split at h
  · exact h
  · cases h
theorem kp_len {a b : Tm} (h : oneT a b = 0) : (kp a).length = (kp b).length := by
  have hk := q7f h
  unfold kp partsO
  by_cases c : a.kind = 4 ∨ a.kind = 6
  · rw [if_pos c, if_pos (hk ▸ c)]
    exact one_len h c
  · rw [if_neg c, if_neg (hk ▸ c)]
theorem qjd {a b : Tm} (h : oneT a b = 0) : sameP (a, b) = ((kp a).zip (kp b)).all sameP := by
  rw [zip_all]
  unfold sameP
  rw [q64, if_neg (fun g => g h)]
  have hk := q7f h
  unfold kp partsO
  by_cases c : a.kind = 4 ∨ a.kind = 6
  · rw [if_pos c, if_pos c, if_pos (hk ▸ c)]
    rfl
  · rw [if_neg c, if_neg c]
    show decide ((0 : Int) = 0) = decide (cmpTs [] _ = 0)
    rw [q2j]
theorem lp_0 {R : Type} {f : Int → Option R} : lpIdxK (.int .i64 0) 2 f = f 0 := rfl
theorem lp_1 {R : Type} {f : Int → Option R} : lpIdxK (.int .i64 1) 2 f = f 1 := rfl
theorem kp_sizes (t : Tm) : Tm.sizes (kp t) + 1 ≤ t.size := by
  have := t.size_eq
  unfold kp partsO
  split
  · show Tm.sizes t.kids + 1 ≤ _
    omega
  · show 0 + 1 ≤ _
    omega
noncomputable abbrev TSam : List (FuncId × Pol) := [(74, pAlike), (75, pParts)]
theorem ty_twos : base.P.underlying 89 = some (.slice 88) := by kernel_rfl
theorem qjb {a b : Tm} {q : Nat} (hlen : (kp a).length = (kp b).length) (hsm : (kp a).length ≤ 1000) : ∀ (j i : Nat), i + j = (kp a).length → ∀ (Q : List (Tm × Tm)) (H : Heap) (ver cap : Nat) (es : List AV), H[q]? = some (.row ver 14 88 es) → es.take (Q.map eP).length = Q.map eP → (Q.map eP).length ≤ cap → Q.length + j ≤ 100000000000 →
    ∃ H' ver' cap' es', LDoes (L45_1 (polT TSam)) ⟨[.sl q ver 0 (Q.map eP).length cap, eL 7 eT (partsO a), eL 7 eT (partsO b), .int .i64 ((kp a).length : Int), .int .i64 (i : Int)], []⟩ H 0 ⟨[.sl q ver' 0 ((Q ++ ((kp a).zip (kp b)).drop i).map eP).length cap'], []⟩ H' ∧
      H'[q]? = some (.row ver' 14 88 es') ∧ es'.take ((Q ++ ((kp a).zip (kp b)).drop i).map eP).length = (Q ++ ((kp a).zip (kp b)).drop i).map eP ∧ ((Q ++ ((kp a).zip (kp b)).drop i).map eP).length ≤ cap' := by
  intro j
  induction j with
  | zero =>
    intro i hi Q H ver cap es hH htk hcap hb
    have hz' : ¬ ((i : Int) < ((kp a).length : Int)) := by omega
    have hd : ((kp a).zip (kp b)).drop i = [] := List.drop_of_length_le (by simp; omega)
    rw [hd, List.append_nil]
    refine ⟨H, ver, cap, es, LDoes.step (Evs.of fun n m => ?_), hH, htk, hcap⟩
    generalize (Q.map eP).length = N at *
    generalize ((kp a).length : Int) = L at *
    generalize eL 7 eT (partsO a) = pa at *
    generalize eL 7 eT (partsO b) = pb at *
    simp [↓q00, ↓q01, q8y, hz']
  | succ j ih =>
    intro i hi Q H ver cap es hH htk hcap hb
    have hja : i < (kp a).length := by omega
    have hjb : i < (kp b).length := by omega
    have hz' : ((i : Int) < ((kp a).length : Int)) := by omega
    have x1 : A.idx 7 (eL 7 eT (partsO a)) (.int .i64 (i : Int)) H = some (.rop (eT (kp a)[i]).cells) := q3u (sz := 7) (e := eT) (o := partsO a) (H := H) (k := .i64) (i := i) hja
    have x2 : A.idx 7 (eL 7 eT (partsO b)) (.int .i64 (i : Int)) H = some (.rop (eT (kp b)[i]).cells) := q3u (sz := 7) (e := eT) (o := partsO b) (H := H) (k := .i64) (i := i) hjb
    have d1 := q13 (t := (kp a)[i]) (H := H)
    have d2 := q13 (t := (kp b)[i]) (H := H)
    have hf := qh9 (a := (kp a)[i]) (b := (kp b)[i])
    have hfe : A.fillElems 14 [AV.agg [(AV.int .i64 0), (AV.bool false), AV.nils, (AV.str []), (AV.int .i64 0), AV.nils, AV.nils, (AV.int .i64 0), (AV.bool false), AV.nils, (AV.str []), (AV.int .i64 0), AV.nils, AV.nils]] [(0, 1, eP ((kp a)[i], (kp b)[i]))] = some [eP ((kp a)[i], (kp b)[i])] := by
      simp [A.fillElems, qia]
    have hb1 : ((Q.map eP).length + [eP ((kp a)[i], (kp b)[i])].length) * 224 ≤ 140737488355328 := by
      simp only [List.length_map, List.length_cons, List.length_nil]
      omega
    have hq : q < H.length := (List.getElem?_eq_some_iff.1 hH).1
    have hH1 : (H ++ [HObj.row 0 14 88 [eP ((kp a)[i], (kp b)[i])]])[q]? = some (.row ver 14 88 es) := by rw [List.getElem?_append_left hq]; exact hH
    have hrd : A.read 14 (.sl H.length 0 0 1 1) (H ++ [HObj.row 0 14 88 [eP ((kp a)[i], (kp b)[i])]]) = some [eP ((kp a)[i], (kp b)[i])] := by
      simp [A.read]
    obtain ⟨ver1, cap1, es1, g1, g2, g3⟩ := qj0 (sz := 14) (bytes := 224) (ty := 88) hH1 htk hcap (by omega) hb1
    have hmm : Q.map eP ++ [eP ((kp a)[i], (kp b)[i])] = (Q ++ [((kp a)[i], (kp b)[i])]).map eP := by simp
    rw [hmm] at g1 g2 g3
    obtain ⟨H', ver', cap', es', hL, h1, h2, h3⟩ := ih (i + 1) (by omega) (Q ++ [((kp a)[i], (kp b)[i])]) ((H ++ [HObj.row 0 14 88 [eP ((kp a)[i], (kp b)[i])]]).set q (.row ver1 14 88 es1)) ver1 cap1 es1 (List.getElem?_set_self (by simp; omega)) g2 g3 (by simp; omega)
    have hzip : Q ++ ((kp a).zip (kp b)).drop i = Q ++ [((kp a)[i], (kp b)[i])] ++ ((kp a).zip (kp b)).drop (i + 1) := by
      rw [List.drop_eq_getElem_cons (by simp; omega)]
      simp
    rw [hzip]
    have hw : IntKind.wrap .i64 ((i : Int) + 1) = ((i + 1 : Nat) : Int) := by rw [q0h (by omega) (by omega)]; omega
    refine ⟨H', ver', cap', es', LDoes.step (Evs.withL hL (Evs.of fun n m _ h4 => ?_)), h1, h2, h3⟩
    generalize (Q.map eP).length = N at *
    generalize ((Q ++ [((kp a)[i], (kp b)[i])]).map eP).length = M at *
    generalize eP ((kp a)[i], (kp b)[i]) = vp at *
    generalize eT (kp a)[i] = va at *
    generalize eT (kp b)[i] = vb at *
    generalize ((kp a).length : Int) = L at *
    generalize ((i + 1 : Nat) : Int) = I1 at *
    generalize (i : Int) = I at *
    generalize eL 7 eT (partsO a) = pa at *
    generalize eL 7 eT (partsO b) = pb at *
    simp [↓q00, ↓q03, ↓q09, ↓q01, ↓q0m, ↓q0u, q8y, hz', x1, x2, d1, d2, hf, hfe, q0w ty_twos, hrd, g1, hw, h4]
theorem sam_loop {q : Nat} : ∀ (N : Nat) (P : List (Tm × Tm)) (H : Heap) (ver cap : Nat) (es : List AV), Tm.sizes (P.map Prod.fst) ≤ N → N ≤ 1000000000 → (∀ p ∈ P, okA p.1 ∧ okA p.2) → H[q]? = some (.row ver 14 88 es) → es.take (P.map eP).length = P.map eP → (P.map eP).length ≤ cap →
    ∃ H', LDoes (L45_0 (polT TSam)) ⟨[.sl q ver 0 (P.map eP).length cap], []⟩ H (bif P.all sameP then 0 else 1) ⟨[bif P.all sameP then .undef else .bool false], []⟩ H' := by
  intro N
  induction N with
  | zero =>
    intro P H ver cap es hs hN hall hH htk hcap
    have hP : P = [] := by
      rcases List.eq_nil_or_concat P with rfl | ⟨Q, x, rfl⟩
      · rfl
      · have := qe7 ((Q.concat x).map Prod.fst)
        simp only [List.concat_eq_append, List.length_map, List.length_append, List.length_cons, List.length_nil] at this hs
        omega
    subst hP
    have f0 : A.len (.sl q ver 0 0 cap) H = some (.int .i64 0) := by simp [A.len, A.alive, hH]
    refine ⟨H, LDoes.step (Evs.of fun n m => ?_)⟩
    simp [↓q00, ↓q01, q40, f0]
  | succ N ih =>
    intro P H ver cap es hs hN hall hH htk hcap
    rcases List.eq_nil_or_concat P with rfl | ⟨Q, x, rfl⟩
    · have f0 : A.len (.sl q ver 0 0 cap) H = some (.int .i64 0) := by simp [A.len, A.alive, hH]
      refine ⟨H, LDoes.step (Evs.of fun n m => ?_)⟩
      simp [↓q00, ↓q01, q40, f0]
    · simp only [List.concat_eq_append] at *
      obtain ⟨a, b⟩ := x
      obtain ⟨t1, t2, t3⟩ := topP htk
      obtain ⟨ha, hb⟩ := hall (a, b) (by simp)
      have ha1 := okA_eq.1 ha
      have hb1 := okA_eq.1 hb
      have hsz : Tm.sizes (Q.map Prod.fst) + a.size ≤ N + 1 := by
        have : (Q ++ [(a, b)]).map Prod.fst = Q.map Prod.fst ++ [a] := by simp
        rw [this, qe6] at hs
        simp only [Tm.sizes] at hs
        omega
      have hlenQ := qe7 (Q.map Prod.fst)
      simp only [List.length_map] at hlenQ
      have hl : ((Q ++ [(a, b)]).map eP).length = (Q.map eP).length + 1 := by simp
      have hlq : (Q.map eP).length = Q.length := by simp
      rw [hl] at hcap ⊢
      have hwl : (Q.map eP).length ≤ 1000000000 := by omega
      have e1 : (((Q.map eP).length + 1 : Nat) : Int) - 1 = ((Q.map eP).length : Int) := by omega
      have hw : IntKind.wrap .i64 ((((Q.map eP).length + 1 : Nat) : Int) - 1) = ((Q.map eP).length : Int) := by rw [q0h (by omega) (by omega), e1]
      have f1 : A.len (.sl q ver 0 ((Q.map eP).length + 1) cap) H = some (.int .i64 (((Q.map eP).length + 1 : Nat) : Int)) := by simp [A.len, A.alive, hH]
      have f2 : A.idx 14 (.sl q ver 0 ((Q.map eP).length + 1) cap) (.int .i64 ((Q.map eP).length : Int)) H = some (.ptr q ver (Q.map eP).length 0) := by
        simp [A.idx, A.aliveZ, hH]
        omega
      have f3 : A.load true 14 (.ptr q ver (Q.map eP).length 0) H = some (eP (a, b)) := by
        have hc : A.ofList true 14 (eP (a, b)).cells 0 = some (eP (a, b)) := of_eP
        simp [A.load, A.elemAt, hH]
        rw [show es[Q.length]? = some (eP (a, b)) by simpa using t1]
        simp [hc]
      have f4 : A.slice 14 (.sl q ver 0 ((Q.map eP).length + 1) cap) none (some (.int .i64 ((Q.map eP).length : Int))) none H = some (.sl q ver 0 (Q.map eP).length cap) := by
        simp [A.slice, A.bound, A.aliveZ, hH]
        omega
      have f5 : A.splice [(AV.int .i64 0), (AV.bool false), AV.nils, (AV.str []), (AV.int .i64 0), AV.nils, AV.nils, (AV.int .i64 0), (AV.bool false), AV.nils, (AV.str []), (AV.int .i64 0), AV.nils, AV.nils] 0 (eP (a, b)).cells = (eP (a, b)).cells := by
        rw [q38]; rfl
      have f6 : A.fits 14 (eP (a, b)) = true := fits_eP
      have f7 := qia (p := (a, b))
      have f8 := of_eP1 (p := (a, b))
      have f9 := of_eP2 (p := (a, b))
      have k1 : ∀ (R : Type) (H : Heap) (k : AV → Heap → Option R), polK pAlike [eT a, eT b] H k = k (.bool (decide (oneT a b = 0))) H := fun R H k => kAlike ha1.1.1 hb1.1.1
      have k2 : ∀ (R : Type) (H : Heap) (k : AV → Heap → Option R), polQ pParts [eT a] H k = k (eL 7 eT (partsO a)) H := fun R H k => qParts
      have k3 : ∀ (R : Type) (H : Heap) (k : AV → Heap → Option R), polQ pParts [eT b] H k = k (eL 7 eT (partsO b)) H := fun R H k => qParts
      have l1 : ∀ H, A.len (eL 7 eT (partsO a)) H = some (.int .i64 ((kp a).length : Int)) := fun H => q08
      have hpos : (0 : Int) < (((Q.map eP).length + 1 : Nat) : Int) := by omega
      have hal : (Q ++ [(a, b)]).all sameP = (Q.all sameP && sameP (a, b)) := by simp
      rw [hal]
      by_cases hc : oneT a b = 0
      · rw [qjd hc]
        have hkl : (kp a).length ≤ 1000 := by
          have := ha1.1.2
          unfold kp partsO
          split
          · exact this
          · simp
        obtain ⟨H1, ver1, cap1, es1, hL1, g1, g2, g3⟩ := qjb (a := a) (b := b) (q := q) (kp_len hc) hkl (kp a).length 0 (by omega) Q H ver cap es hH t3 (by omega) (by omega)
        rw [List.drop_zero] at hL1 g2 g3
        have hmf : ((Q ++ (kp a).zip (kp b)).map Prod.fst) = Q.map Prod.fst ++ kp a := by
          rw [List.map_append, List.map_fst_zip (by have := kp_len hc; omega)]
        obtain ⟨H2, hL2⟩ := ih (Q ++ (kp a).zip (kp b)) H1 ver1 cap1 es1 (by
          rw [hmf, qe6]
          have := kp_sizes a
          omega) (by omega) (fun p hp => by
            rcases List.mem_append.1 hp with hp | hp
            · exact hall p (by simp [hp])
            · exact ⟨ha1.2 _ (kp_sub (List.of_mem_zip hp).1), hb1.2 _ (kp_sub (List.of_mem_zip hp).2)⟩) g1 g2 g3
        rw [List.all_append] at hL2
        refine ⟨H2, LDoes.step (Evs.withL hL1 (Evs.withL hL2 (Evs.of fun n m _ h2 h1 _ => ?_)))⟩
        simp only [Int.natCast_zero] at h1
        have hd : decide (oneT a b = 0) = true := by simp [hc]
        rw [hd] at k1
        generalize ((Q ++ (kp a).zip (kp b)).map eP).length = M at *
        generalize (Q.all sameP && ((kp a).zip (kp b)).all sameP) = Z at *
        generalize (Q.map eP).length = QL at *
        generalize ((QL + 1 : Nat) : Int) = N1 at *
        generalize ((kp a).length : Int) = L at *
        generalize eP (a, b) = vp at *
        generalize eT a = va at *
        generalize eT b = vb at *
        generalize eL 7 eT (partsO a) = pa at *
        generalize eL 7 eT (partsO b) = pb at *
        simp [↓lp_0, ↓lp_1, q40, f1, f2, f3, f4, f5, f6, f7, f8, f9, hw, hpos, k1, k2, k3, l1, h1, h2]
      · have hs : sameP (a, b) = false := by
          unfold sameP
          rw [q64, if_pos hc]
          simp [hc]
        rw [hs, Bool.and_false]
        have hd : decide (oneT a b = 0) = false := by simp [hc]
        rw [hd] at k1
        refine ⟨H, LDoes.step (Evs.of fun n m => ?_)⟩
        generalize (Q.map eP).length = QL at *
        generalize ((QL + 1 : Nat) : Int) = N1 at *
        generalize eP (a, b) = vp at *
        generalize eT a = va at *
        generalize eT b = vb at *
        simp [↓lp_0, ↓lp_1, q40, f1, f2, f3, f4, f5, f6, f7, f8, f9, hw, hpos, k1]
noncomputable def pTsame : Pol := .still (p2 cT cT .bool (fun a b => okA a ∧ okA b ∧ a.size ≤ 1000000000) fun a b => decide (cmpT a b = 0))
theorem okTsame : PolOK base 45 pTsame := still2 base_ok TSam ⟨okAlike, qir, trivial⟩ fun a b ⟨ha, hb, hs⟩ => by
  obtain ⟨H', hL⟩ := sam_loop (q := 0) a.size [(a, b)] [.row 0 14 88 [eP (a, b)]] 0 1 [eP (a, b)] (by simp [Tm.sizes]) hs (fun p hp => by
    simp only [List.mem_singleton] at hp
    subst hp
    exact ⟨ha, hb⟩) rfl rfl (Nat.le_refl _)
  have hf := qh9 (a := a) (b := b)
  have hfe : A.fillElems 14 [AV.agg [(AV.int .i64 0), (AV.bool false), AV.nils, (AV.str []), (AV.int .i64 0), AV.nils, AV.nils, (AV.int .i64 0), (AV.bool false), AV.nils, (AV.str []), (AV.int .i64 0), AV.nils, AV.nils]] [(0, 1, eP (a, b))] = some [eP (a, b)] := by
    simp [A.fillElems, qia]
  have la : (eT a).cells.length = 7 := by rw [q02]; rfl
  have lb : (eT b).cells.length = 7 := by rw [q02]; rfl
  have oa : A.ofList true 7 (eT a).cells 0 = some (eT a) := q13 (H := [])
  have ob : A.ofList true 7 (eT b).cells 0 = some (eT b) := q13 (H := [])
  have hz : [(a, b)].all sameP = decide (cmpT a b = 0) := by
    show (sameP (a, b) && true) = _
    rw [Bool.and_true]
    rfl
  rw [hz] at hL
  refine Evs.withL hL (Evs.of fun n m h _ => ?_)
  have e1 : (List.map eP [(a, b)]).length = 1 := rfl
  rw [e1] at h
  by_cases h0 : cmpT a b = 0
  · have hd : decide (cmpT a b = 0) = true := by simp [h0]
    rw [hd] at h
    simp [↓q03, ↓q0b, ↓q09, ↓q01, ↓q0m, ↓q06, ↓q07, -q02, S45, la, lb, oa, ob, hf, hfe, h, h0]
  · have hd : decide (cmpT a b = 0) = false := by simp [h0]
    rw [hd] at h
    simp [↓q03, ↓q0b, ↓q09, ↓q01, ↓q0m, ↓q06, ↓q07, -q02, S45, la, lb, oa, ob, hf, hfe, h, h0]
end Go.Proofs.YtleikacgncpfbaaDoor

/- Terms in order: the sort of the library, of no more than twenty. -/
set_option maxRecDepth 100000
set_option maxHeartbeats 4000000
namespace Go.Proofs.YtleikacgncpfbaaDoor
open Go Go.Den Go.Lib
/-! ### one more, put into a row in order, the last ones first -/
noncomputable def insR : List Tm → Tm → List Tm
  | [], x => [x]
  | y :: r, x => if cmpT x y < 0 then y :: insR r x else x :: y :: r
noncomputable def sortR : List Tm → List Tm → List Tm
  | acc, [] => acc
  | acc, x :: r => sortR (insR acc x) r
noncomputable abbrev TIns : List (FuncId × Pol) := [(25, pCom)]
def okC (t : Tm) : Prop := okA t ∧ t.size ≤ 1000000000
abbrev fnC : AV := .fn (.func 25) [] []
noncomputable def pIns : Pol := .prim (runF base TIns 104)
noncomputable abbrev TStb : List (FuncId × Pol) := [(104, pIns)]
noncomputable def pStb : Pol := .prim (runF base TStb 96)
noncomputable abbrev TSts : List (FuncId × Pol) := [(96, pStb)]
noncomputable def pSts : Pol := .prim (runF base TSts 76)
end Go.Proofs.YtleikacgncpfbaaDoor

/- Terms: copies of rows. -/
set_option maxRecDepth 100000
set_option maxHeartbeats 2000000
namespace Go.Proofs.YtleikacgncpfbaaDoor
open Go Go.Den
/-! ### bytes -/
def fewB (d : Option (List UInt8)) : Prop := (d.getD []).length ≤ 1000000
noncomputable def pBclone : Pol := .still (p1 cBy (eL 1 eb) fewB id)
theorem okBclone : PolOK base 71 pBclone := still1 base_ok [] trivial fun d hf => by
  unfold fewB at hf
  refine Evs.of fun n _ => ?_
  cases d with
  | none => simp [↓q00, ↓q03, ↓q09, ↓q01, S71, eL, A.bin, q0y, A.eqNil]
  | some l =>
    simp only [Option.getD_some] at hf
    cases l with
    | nil =>
      have h1 := q1g (H := [.row 0 1 5 []]) (id := 0) (ver := 0) (sz := 1) (ty := 5) (es := []) (n := 0) (bytes := 1) rfl rfl (by omega) (by simp)
      simp [↓q00, ↓q03, ↓q09, ↓q01, ↓q0m, ↓q0u, S71, eL, A.bin, q0y, A.eqNil, A.fillElems, q0w q0y, A.read, h1]
      exact q1b (b := true) (m := 62) (es := []) rfl rfl (by simp)
    | cons x l =>
      have h1 := q1n (H := [.row 0 1 5 []]) (id := 0) (ver := 0) (sz := 1) (ty := 5) (es := []) (n := 0) (bytes := 1) (news := (x :: l).map eb) rfl rfl (by simp) (by omega) (by simp at hf ⊢; omega)
      simp only [List.nil_append] at h1
      simp [↓q00, ↓q03, ↓q09, ↓q01, ↓q0m, S71, eL, A.bin, q0y, A.eqNil, A.fillElems, q0w q0y, A.read]
      simp at h1
      simp [h1]
      exact q1b (b := true) (m := 62) (es := (x :: l).map eb) rfl (by simp) (q69 _)
noncomputable def q8f : Pol := .prim (runF base [] 73)
theorem okTclone : PolOK base 73 q8f := qiv base_ok [] trivial
def cw (l : List Tm) : Nat := if l = [] then 0 else 1
def cv (id : Nat) : Option (List Tm) → AV
  | none => .nils
  | some l => .sl id (cw l) 0 l.length l.length
def cr (o : Option (List Tm)) (es : List AV) : List HObj := match o with
  | none => []
  | some l => [.row (cw l) 7 26 es]
theorem qhk {R : Type} {o : Option (List Tm)} (h : (o.getD []).length ≤ 1000) {H : Heap} {k : AV → Heap → Option R} : polK q8f [eL 7 eT o] H k = k (cv H.length o) (H ++ cr o ((o.getD []).map eT)) := by
  have hr : runF base [] 73 [eL 7 eT o] H = some (cv H.length o, H ++ cr o ((o.getD []).map eT)) := qb0 (Evs.of fun n m => by
    cases o with
    | none => simp [↓q00, ↓q03, ↓q09, ↓q01, S73, eL, A.bin, q4c, A.eqNil, cv, cr]
    | some l =>
      simp only [Option.getD_some] at h
      cases l with
      | nil =>
        have h1 := q1g (H := H ++ [.row 0 7 26 []]) (id := H.length) (ver := 0) (sz := 7) (ty := 26) (es := []) (n := 0) (bytes := 112) q1e rfl (by omega) (by simp)
        simp [↓q00, ↓q03, ↓q09, ↓q01, ↓q0m, ↓q0u, S73, eL, A.bin, q4c, A.eqNil, A.fillElems, q0w q4c, A.read, h1, cv, cr, cw]
      | cons x l =>
        have h1 := q1n (H := H ++ [.row 0 7 26 []]) (id := H.length) (ver := 0) (sz := 7) (ty := 26) (es := []) (n := 0) (bytes := 112) (news := (x :: l).map eT) q1e rfl (by simp) (by omega) (by simp at h ⊢; omega)
        simp only [List.nil_append] at h1
        simp [↓q00, ↓q03, ↓q09, ↓q01, ↓q0m, S73, eL, A.bin, q4c, A.eqNil, A.fillElems, q0w q4c, A.read]
        simp at h1
        simp [h1, cv, cr, cw])
  exact k_run hr
end Go.Proofs.YtleikacgncpfbaaDoor

/- Terms: a value of the small heap that stands for a term. -/
set_option maxRecDepth 100000
set_option maxHeartbeats 2000000
namespace Go.Proofs.YtleikacgncpfbaaDoor
open Go Go.Den
def op (t : Tm) (vl : AV) : AV := .agg [.int .i64 t.kind, .bool t.neg, eD t.d, .str t.name, .int .i64 t.n, vl, eL 1 eb t.b]
theorem qap (t : Tm) : op t (eL 7 eT t.l) = eT t := (q39 t).symm
inductive Rd (H : Heap) : AV → Tm → Prop
  | imm (t : Tm) : Rd H (eT t) t
  | nil (t : Tm) (h : t.l = none) : Rd H (op t .nils) t
  | own (t : Tm) (l : List Tm) (id w cap : Nat) (es : List AV) (h : t.l = some l) (hr : H[id]? = some (.row w 7 26 es)) (hn : es.length = l.length) (he : ∀ i (hi : i < es.length), Rd H es[i] (l[i]'(hn ▸ hi))) : Rd H (op t (.sl id w 0 l.length cap)) t
theorem qcc {t u : Tm} {v w : AV} (h : op t v = op u w) : t.kind = u.kind ∧ t.neg = u.neg ∧ t.d = u.d ∧ t.name = u.name ∧ t.n = u.n ∧ v = w ∧ t.b = u.b := by
  unfold op at h
  injection h with h
  simp only [List.cons.injEq, AV.int.injEq, AV.bool.injEq, AV.str.injEq, true_and, and_true] at h
  obtain ⟨h1, h2, h3, h4, h5, h6, h7⟩ := h
  exact ⟨h1, h2, cD.inj _ _ h3, h4, h5, h6, cBy.inj _ _ h7⟩
theorem tm_ext {t u : Tm} (h : t.kind = u.kind ∧ t.neg = u.neg ∧ t.d = u.d ∧ t.name = u.name ∧ t.n = u.n ∧ t.l = u.l ∧ t.b = u.b) : t = u := by
  cases t
  cases u
  simp only [Tm.kind, Tm.neg, Tm.d, Tm.name, Tm.n, Tm.l, Tm.b] at h
  obtain ⟨rfl, rfl, rfl, rfl, rfl, rfl, rfl⟩ := h
  rfl
theorem rd_eT {H : Heap} {t u : Tm} (h : Rd H (eT t) u) : u = t := by
  generalize hv : eT t = v at h
  cases h with
  | imm => exact (q99 _ _ hv).symm
  | nil _ h =>
    rw [← qap] at hv
    have := qcc hv
    refine tm_ext ⟨this.1.symm, this.2.1.symm, this.2.2.1.symm, this.2.2.2.1.symm, this.2.2.2.2.1.symm, ?_, this.2.2.2.2.2.2.symm⟩
    have h6 := this.2.2.2.2.2.1
    rw [h]
    cases ht : t.l with
    | none => rfl
    | some l => rw [ht] at h6; cases h6
  | own _ l id w cap es h hr hn he =>
    rw [← qap] at hv
    have h6 := (qcc hv).2.2.2.2.2.1
    cases ht : t.l with
    | none => rw [ht] at h6; cases h6
    | some l => rw [ht] at h6; cases h6
theorem qdr {H H' : Heap} (hm : ∀ (id w : Nat) (es : List AV), H[id]? = some (.row w 7 26 es) → ∃ es' : List AV, H'[id]? = some (.row w 7 26 es') ∧ ∃ hl : es'.length = es.length, ∀ i (hi : i < es.length), es'[i]'(hl ▸ hi) = es[i] ∨ ∀ u, Rd H es[i] u → Rd H' (es'[i]'(hl ▸ hi)) u) {v : AV} {t : Tm} (h : Rd H v t) : Rd H' v t := by
  induction h with
  | imm t => exact .imm t
  | nil t h => exact .nil t h
  | own t l id w cap es h hr hn he ih =>
    obtain ⟨es', h1, hl, h2⟩ := hm id w es hr
    refine .own t l id w cap es' h h1 (by omega) fun i hi => ?_
    have hi' : i < es.length := by omega
    rcases h2 i hi' with h3 | h3
    · rw [h3]
      exact ih i hi'
    · exact h3 _ (he i hi')
theorem qj2 {H X : Heap} {v : AV} {t : Tm} (h : Rd H v t) : Rd (H ++ X) v t := qdr (fun id w es hr => ⟨es, by rw [List.getElem?_append_left (List.getElem?_eq_some_iff.1 hr).1]; exact hr, rfl, fun _ _ => .inl rfl⟩) h
theorem rd_other {H : Heap} {q ver sz : Nat} {ty : TypeId} {es : List AV} {o : HObj} {v : AV} {t : Tm} (hq : H[q]? = some (.row ver sz ty es)) (hs : sz ≠ 7) (h : Rd H v t) : Rd (H.set q o) v t := qdr (fun id w es' hr => ⟨es', by
  have : q ≠ id := fun e => by
    subst e
    rw [hq] at hr
    injection hr with hr
    injection hr with _ h2
    exact hs h2
  rw [List.getElem?_set_ne this]
  exact hr, rfl, fun _ _ => .inl rfl⟩) h
theorem rd_open {H : Heap} {r w i : Nat} {es : List AV} {u : Tm} {x : AV} (hr : H[r]? = some (.row w 7 26 es)) (hi : i < es.length) (hu : es[i] = eT u) (hx : Rd (H.set r (.row w 7 26 (es.set i x))) x u) {v : AV} {t : Tm} (h : Rd H v t) : Rd (H.set r (.row w 7 26 (es.set i x))) v t := qdr (fun id w' es' hr' => by
  by_cases e : r = id
  · subst e
    rw [hr] at hr'
    injection hr' with hr'
    injection hr' with h1 _ _ h2
    subst h1 h2
    refine ⟨es.set i x, List.getElem?_set_self (List.getElem?_eq_some_iff.1 hr).1, by simp, fun j hj => ?_⟩
    by_cases hij : i = j
    · subst hij
      right
      intro u' hu'
      rw [hu] at hu'
      rw [rd_eT hu', List.getElem_set_self]
      exact hx
    · left
      rw [List.getElem_set_ne hij]
  · exact ⟨es', by rw [List.getElem?_set_ne e]; exact hr', rfl, fun _ _ => .inl rfl⟩) h
/-! ### how deep -/
def shal : Nat → Tm → Prop
  | 0, _ => False
  | n + 1, t => ∀ u ∈ t.kids, shal n u
theorem qcl {most : Int} : ∀ (n : Nat) (t : Tm) (dep : Int), dep < n → roomS t dep most = true → shal n t
  | 0, t, dep, hd, h => by
    rw [q49] at h
    simp only [Bool.and_eq_true, Bool.not_eq_true', Bool.or_eq_false_iff, decide_eq_false_iff_not] at h
    omega
  | n + 1, t, dep, hd, h => by
    rw [q49] at h
    simp only [Bool.and_eq_true, Bool.not_eq_true', Bool.or_eq_false_iff, decide_eq_false_iff_not, List.all_eq_true] at h
    exact fun u hu => qcl n u (dep - 1) (by omega) (h.2 u hu)
theorem qez {α β : Type} {f : α → Option β} {g : List β} : ∀ {l : List α}, (hl : l.length = g.length) → (∀ i (hi : i < l.length), f l[i] = some (g[i]'(hl ▸ hi))) → l.mapM f = some g := by
  induction g with
  | nil =>
    intro l hl _
    have : l = [] := List.length_eq_zero_iff.1 hl
    subst this
    rfl
  | cons b g ih =>
    intro l hl h
    cases l with
    | nil => simp at hl
    | cons a l =>
      have h0 := h 0 (by simp)
      simp only [List.getElem_cons_zero] at h0
      have h1 := ih (l := l) (by simpa using hl) fun i hi => by
        have := h (i + 1) (by simp; omega)
        simpa using this
      simp [List.mapM_cons, h0, h1]
theorem q9e {n sz : Nat} {α : Type} {e : α → AV} {H : Heap} {o : Option (List α)} : A.freezeB true (n + 1) H (eL sz e o) = some (eL sz e o) := by cases o <;> rfl
theorem qeq {n : Nat} {H : Heap} {t : Tm} {v w : AV} (h : A.freezeB true (n + 1) H v = some w) : A.freezeB true (n + 2) H (op t v) = some (op t w) := by
  have hd : A.freezeB true (n + 1) H (eD t.d) = some (eD t.d) := q9e
  have hb : A.freezeB true (n + 1) H (eL 1 eb t.b) = some (eL 1 eb t.b) := q9e
  show ([AV.int .i64 t.kind, .bool t.neg, eD t.d, .str t.name, .int .i64 t.n, v, eL 1 eb t.b].mapM (A.freezeB true (n + 1) H)).map AV.agg = _
  have h0 : A.freezeB true (n + 1) H (.int .i64 t.kind) = some (.int .i64 t.kind) := rfl
  have h1 : A.freezeB true (n + 1) H (.bool t.neg) = some (.bool t.neg) := rfl
  have h3 : A.freezeB true (n + 1) H (.str t.name) = some (.str t.name) := rfl
  have h4 : A.freezeB true (n + 1) H (.int .i64 t.n) = some (.int .i64 t.n) := rfl
  simp [List.mapM_cons, h0, h1, hd, h3, h4, h, hb, op]
theorem rd_agg {H : Heap} {v : AV} {t : Tm} (h : Rd H v t) : ∃ cs, v = .agg cs := by
  cases h with
  | imm => exact ⟨_, q39 t⟩
  | nil => exact ⟨_, rfl⟩
  | own => exact ⟨_, rfl⟩
theorem qcg {H : Heap} : ∀ (n : Nat) (t : Tm) (v : AV), shal n t → Rd H v t → A.freezeB true (n + 1) H v = some (eT t)
  | 0, _, _, hs, _ => by cases hs
  | n + 1, t, v, hs, h => by
    cases h with
    | imm =>
      rw [← qap]
      exact qeq q9e
    | nil _ h =>
      rw [← qap, h]
      exact qeq rfl
    | own _ l id w cap es h hr hn he =>
      rw [← qap, h]
      refine qeq ?_
      have hk : ∀ u ∈ l, shal n u := fun u hu => hs u (by unfold Tm.kids; rw [h]; exact hu)
      show (match H[id]? with | some (.row w' z _ es) => if w' = w ∧ 0 + l.length ≤ es.length then (((es.drop 0).take l.length).mapM fun (e : AV) => match e with | AV.agg cs => (cs.mapM (A.freezeB true n H)).map AV.agg | e => A.freezeB true n H e).map (AV.sh z) else none | _ => none) = _
      rw [hr]
      dsimp only
      rw [if_pos ⟨rfl, by omega⟩, List.drop_zero, List.take_of_length_le (by omega)]
      have : (es.mapM fun (e : AV) => match e with | AV.agg cs => (cs.mapM (A.freezeB true n H)).map AV.agg | e => A.freezeB true n H e) = some (l.map eT) := qez (by simpa using hn) fun i hi => by
        have hri := he i hi
        have hf := qcg n _ _ (hk _ (List.getElem_mem (by omega))) hri
        obtain ⟨cs, hcs⟩ := rd_agg hri
        rw [hcs] at hf ⊢
        simp only [List.getElem_map]
        exact hf
      rw [this]
      rfl
end Go.Proofs.YtleikacgncpfbaaDoor

/- Terms: copies of limbs and bytes: rows of their own, as long as there is no other row of terms than the first. -/
set_option maxRecDepth 100000
set_option maxHeartbeats 2000000
namespace Go.Proofs.YtleikacgncpfbaaDoor
open Go Go.Den
def isR7 : HObj → Bool
  | .row _ sz _ _ => sz == 7
  | _ => false
def bigH (H : Heap) : Bool := (H.drop 1).any isR7
theorem bigH_of {H : Heap} {id w : Nat} {ty : TypeId} {es : List AV} (h : H[id]? = some (.row w 7 ty es)) (h0 : id ≠ 0) : bigH H = true := by
  unfold bigH
  rw [List.any_eq_true]
  refine ⟨_, ?_, (rfl : isR7 (.row w 7 ty es) = true)⟩
  have : (H.drop 1)[id - 1]? = some (.row w 7 ty es) := by
    rw [List.getElem?_drop, show 1 + (id - 1) = id by omega]
    exact h
  exact List.mem_of_getElem? this
noncomputable def mixP (f : FuncId) (F : List AV → Option AV) : Pol := .prim fun args H => bif bigH H then pureF F args H else runF base [] f args H
theorem ok_mix {f : FuncId} {F : List AV → Option AV} (h : PolOK base f (.still F)) (hlt : Nat.blt f yBase = true := by rfl) : PolOK base f (mixP f F) := fun args C us v H' h1 => by
  have h1 : (bif bigH C.H then pureF F args C.H else runF base [] f args C.H) = some (v, H') := h1
  cases hb : bigH C.H
  · rw [hb] at h1
    exact qiv (f := f) base_ok [] trivial hlt args C us v H' h1
  · rw [hb] at h1
    exact h args C us v H' h1
theorem qc0 {R : Type} {f : FuncId} {F : List AV → Option AV} {args : List AV} {H : Heap} {k : AV → Heap → Option R} (h : bigH H = true) : polK (mixP f F) args H k = polK (.still F) args H k := by
  show withP (bif bigH H then pureF F args H else runF base [] f args H) k = _
  rw [h]
  rfl
theorem q87 {R : Type} {f : FuncId} {F : List AV → Option AV} {args : List AV} {H : Heap} {p : AV × Heap} {k : AV → Heap → Option R} (h : bigH H = false) (hr : runF base [] f args H = some p) : polK (mixP f F) args H k = k p.1 p.2 := by
  show withP (bif bigH H then pureF F args H else runF base [] f args H) k = _
  rw [h, cond_false, hr]
  rfl
section
variable {α : Type}
def cwG (l : List α) : Nat := if l = [] then 0 else 1
def cvG (id : Nat) : Option (List α) → AV
  | none => .nils
  | some l => .sl id (cwG l) 0 l.length l.length
def crG (ty : TypeId) (e : α → AV) (o : Option (List α)) : List HObj := match o with
  | none => []
  | some l => [.row (cwG l) 1 ty (l.map e)]
theorem q65 (id : Nat) (o : Option (List α)) : (cvG id o).one = true := by cases o <;> rfl
end
noncomputable def pBcl : Pol := mixP 71 (p1 cBy (eL 1 eb) fewB id)
theorem okBcl : PolOK base 71 pBcl := ok_mix okBclone
theorem kBcl_big {R : Type} {d : Option (List UInt8)} (h : fewB d) {H : Heap} (hb : bigH H = true) {k : AV → Heap → Option R} : polK pBcl [eL 1 eb d] H k = k (eL 1 eb d) H := by
  unfold pBcl
  rw [qc0 hb]
  simp [q0i, h]
theorem qfz {R : Type} {o : Option (List UInt8)} (h : fewB o) {H : Heap} (hb : bigH H = false) {k : AV → Heap → Option R} : polK pBcl [eL 1 eb o] H k = k (cvG H.length o) (H ++ crG 5 eb o) := by
  unfold fewB at h
  refine q87 hb (p := (cvG H.length o, H ++ crG 5 eb o)) (qb0 (Evs.of fun n m => ?_))
  cases o with
  | none => simp [↓q00, ↓q03, ↓q09, ↓q01, S71, eL, A.bin, q0y, A.eqNil, cvG, crG]
  | some l =>
    simp only [Option.getD_some] at h
    cases l with
    | nil =>
      have h1 := q1g (H := H ++ [.row 0 1 5 []]) (id := H.length) (ver := 0) (sz := 1) (ty := 5) (es := []) (n := 0) (bytes := 1) q1e rfl (by omega) (by simp)
      simp [↓q00, ↓q03, ↓q09, ↓q01, ↓q0m, ↓q0u, S71, eL, A.bin, q0y, A.eqNil, A.fillElems, q0w q0y, A.read, h1, cvG, crG, cwG]
    | cons x l =>
      have h1 := q1n (H := H ++ [.row 0 1 5 []]) (id := H.length) (ver := 0) (sz := 1) (ty := 5) (es := []) (n := 0) (bytes := 1) (news := (x :: l).map eb) q1e rfl (by simp) (by omega) (by simp at h ⊢; omega)
      simp only [List.nil_append] at h1
      simp [↓q00, ↓q03, ↓q09, ↓q01, ↓q0m, S71, eL, A.bin, q0y, A.eqNil, A.fillElems, q0w q0y, A.read]
      simp at h1
      simp [h1, cvG, crG, cwG]
noncomputable def pDcl : Pol := mixP 72 (p1 cD eD few id)
theorem okDcl : PolOK base 72 pDcl := ok_mix qip
theorem kDcl_big {R : Type} {d : Option (List UInt32)} (h : few d) {H : Heap} (hb : bigH H = true) {k : AV → Heap → Option R} : polK pDcl [eD d] H k = k (eD d) H := by
  unfold pDcl
  rw [qc0 hb]
  exact kClone h
theorem qg0 {R : Type} {o : Option (List UInt32)} (h : few o) {H : Heap} (hb : bigH H = false) {k : AV → Heap → Option R} : polK pDcl [eD o] H k = k (cvG H.length o) (H ++ crG 59 eu o) := by
  unfold few at h
  refine q87 hb (p := (cvG H.length o, H ++ crG 59 eu o)) (qb0 (Evs.of fun n m => ?_))
  cases o with
  | none => simp [↓q00, ↓q03, ↓q09, ↓q01, S72, eL, A.bin, q1f, A.eqNil, cvG, crG]
  | some l =>
    simp only [Option.getD_some] at h
    cases l with
    | nil =>
      have h1 := q1g (H := H ++ [.row 0 1 59 []]) (id := H.length) (ver := 0) (sz := 1) (ty := 59) (es := []) (n := 0) (bytes := 4) q1e rfl (by omega) (by simp)
      simp [↓q00, ↓q03, ↓q09, ↓q01, ↓q0m, ↓q0u, S72, eL, A.bin, q1f, A.eqNil, A.fillElems, q0w q1f, A.read, h1, cvG, crG, cwG]
    | cons x l =>
      have h1 := q1n (H := H ++ [.row 0 1 59 []]) (id := H.length) (ver := 0) (sz := 1) (ty := 59) (es := []) (n := 0) (bytes := 4) (news := (x :: l).map eu) q1e rfl (by simp) (by omega) (by simp at h ⊢; omega)
      simp only [List.nil_append] at h1
      simp [↓q00, ↓q03, ↓q09, ↓q01, ↓q0m, S72, eL, A.bin, q1f, A.eqNil, A.fillElems, q0w q1f, A.read]
      simp at h1
      simp [h1, cvG, crG, cwG]
end Go.Proofs.YtleikacgncpfbaaDoor

/- Terms: what still is to be copied. -/
set_option maxRecDepth 100000
set_option maxHeartbeats 4000000
namespace Go.Proofs.YtleikacgncpfbaaDoor
open Go Go.Den
section
variable {H : Heap} {id ver sz j : Nat} {ty : TypeId} {es cs : List AV}
theorem q3l {off : Nat} {v : AV} (h : H[id]? = some (.row ver sz ty es)) (he : es[j]? = some (.agg cs)) (hv : cs[off]? = some v) : A.load false 1 (.ptr id ver j off) H = some v := by
  simp [A.load, A.elemAt, h, he, A.ofList, AV.cells, hv]
theorem q2i {o : Nat} (h : H[id]? = some (.row ver sz ty es)) : A.fa o (.ptr id ver j 0) H = some (.ptr id ver j o) := by
  simp [A.fa, A.alive, h]
theorem q2x {off : Nat} {v w : AV} (h : H[id]? = some (.row ver sz ty es)) (he : es[j]? = some (.agg cs)) (hw : cs[off]? = some w) (hv : v.one = true) : A.store 1 (.ptr id ver j off) v H = some (H.set id (.row ver sz ty (es.set j (.agg (cs.set off v))))) := by
  have hc : v.cells = [v] := by cases v <;> first | rfl | cases hv
  have hl : off < cs.length := (List.getElem?_eq_some_iff.1 hw).1
  have hs : A.splice cs off [v] = cs.set off v := by
    unfold A.splice
    rw [List.set_eq_take_append_cons_drop, if_pos hl]
    simp
  simp [A.store, A.fits, hc, hv, h, he, A.setElem, hs]
  omega
theorem q3m {off : Nat} {v : AV} (h : H[id]? = some (.row ver sz ty es)) (he : es[j]? = some (.agg cs)) (hw : cs[off]? = some v) (hv : v.one = true) : A.store 1 (.ptr id ver j off) v H = some H := by
  rw [q2x h he hw hv]
  congr 1
  have e1 : cs.set off v = cs := by
    rw [List.getElem?_eq_some_iff] at hw
    obtain ⟨hl, hw⟩ := hw
    rw [← hw]
    exact List.set_getElem_self _
  have e2 : es.set j (.agg cs) = es := by
    rw [List.getElem?_eq_some_iff] at he
    obtain ⟨hl, he⟩ := he
    rw [← he]
    exact List.set_getElem_self _
  rw [e1, e2]
  rw [List.getElem?_eq_some_iff] at h
  obtain ⟨hl, h⟩ := h
  rw [← h]
  exact List.set_getElem_self _
end
end Go.Proofs.YtleikacgncpfbaaDoor

/- Terms: one more is copied. -/
set_option maxRecDepth 100000
set_option maxHeartbeats 4000000
namespace Go.Proofs.YtleikacgncpfbaaDoor
open Go Go.Den
structure Ent where
  r : Nat
  w : Nat
  i : Nat
  u : Tm
  id : Nat
def op2 (t : Tm) (vd vl vb : AV) : AV := .agg [.int .i64 t.kind, .bool t.neg, vd, .str t.name, .int .i64 t.n, vl, vb]
def Ent.ptr (e : Ent) : AV := .ptr e.r e.w e.i 0
def Ent.own (e : Ent) : Prop := e.u.l ≠ none
def Pend (H : Heap) (e : Ent) : Prop := ∃ (es : List AV) (vd vb : AV), H[e.r]? = some (.row e.w 7 26 es) ∧ es[e.i]? = some (op2 e.u vd (cv e.id e.u.l) vb) ∧ ∀ l, e.u.l = some l → H[e.id]? = some (.row (cw l) 7 26 (l.map eT))
structure CInv (t : Tm) (vd vl vb : AV) (K : List HObj) (q ver cap : Nat) (P : List Ent) (H : Heap) : Prop where
  root : H[0]? = some (.row 0 7 26 [op2 t vd vl vb]) ∧ Rd H (op t vl) t
  todo : ∃ es : List AV, H[q]? = some (.row ver 1 86 es) ∧ es.take P.length = P.map Ent.ptr ∧ P.length ≤ cap
  pend : ∀ e ∈ P, Pend H e
  ids : ∀ e ∈ P, e.own → e.id ≠ q ∧ e.id < H.length ∧ K.length < e.id
  dist : P.Pairwise fun e f => e.own → f.own → e.id ≠ f.id
  apart : ∀ e ∈ P, ∀ f ∈ P, f.own → e.r ≠ f.id
  keep : ∀ (j : Nat) (o : HObj), K[j]? = some o → H[j + 1]? = some o
  kq : K.length < q
structure Cur (K : List HObj) (p : Ent) (l : List Tm) (i q : Nat) (P : List Ent) (H : Heap) : Prop where
  ul : p.u.l = some l
  cell : ∃ (es : List AV) (vd vb : AV), H[p.r]? = some (.row p.w 7 26 es) ∧ es[p.i]? = some (op2 p.u vd (cv p.id p.u.l) vb)
  rows : ∃ es : List AV, H[p.id]? = some (.row (cw l) 7 26 es) ∧ es.length = l.length ∧ ∀ j (hj : j < l.length), i ≤ j → es[j]? = some (eT l[j])
  idq : p.id ≠ q
  id0 : K.length < p.id
  rid : p.r ≠ p.id
  oth : ∀ e ∈ P, e.own → e.id ≠ p.id ∧ e.id ≠ p.r
  kid : ∀ e ∈ P, e.r = p.id → e.i < i
theorem qj9 {H : Heap} {a b v w : Nat} {ty ty' : TypeId} {es fs : List AV} (h : H[a]? = some (.row v 7 ty es)) (g : H[b]? = some (.row w 1 ty' fs)) : a ≠ b := fun e => by
  subst e
  rw [h] at g
  injection g with g
  injection g with _ g
  cases g
theorem cp_step {t : Tm} {vd v0 vb : AV} {K : List HObj} {q ver cap : Nat} {P : List Ent} {H : Heap} {p : Ent} {l : List Tm} {i : Nat} (hC : CInv t vd v0 vb K q ver cap P H) (hK : Cur K p l i q P H) (hi : i < l.length) (hb : P.length ≤ 1000000000) {es : List AV} (hes : H[p.id]? = some (.row (cw l) 7 26 es)) (hn : es.length = l.length) (hej : ∀ j (hj : j < l.length), i ≤ j → es[j]? = some (eT l[j])) {H6 : Heap} (h6 : H6 = (H ++ cr l[i].l ((l[i].l.getD []).map eT)).set p.id (.row (cw l) 7 26 (es.set i (op l[i] (cv H.length l[i].l))))) :
    ∃ ver' cap' H8, A.append 1 8 86 (.sl q ver 0 P.length cap) [.ptr p.id (cw l) i 0] (H6 ++ [.row 0 1 86 [.ptr p.id (cw l) i 0]]) = some (.sl q ver' 0 (P ++ [(⟨p.id, cw l, i, l[i], H.length⟩ : Ent)]).length cap', H8) ∧ CInv t vd v0 vb K q ver' cap' (P ++ [(⟨p.id, cw l, i, l[i], H.length⟩ : Ent)]) H8 ∧ Cur K p l (i + 1) q (P ++ [(⟨p.id, cw l, i, l[i], H.length⟩ : Ent)]) H8 := by
  obtain ⟨hv0, hv⟩ := hC.root
  obtain ⟨es0, hq, htk, hcap⟩ := hC.todo
  have hpl : p.id < H.length := (List.getElem?_eq_some_iff.1 hes).1
  have hql : q < H.length := (List.getElem?_eq_some_iff.1 hq).1
  have h0q : 0 ≠ q := qj9 hv0 hq
  have hidq := hK.idq
  have hid0 := hK.id0
  have hkq := hC.kq
  have hei : es[i]? = some (eT l[i]) := hej i hi (Nat.le_refl _)
  obtain ⟨hil, hei'⟩ := List.getElem?_eq_some_iff.1 hei
  generalize hnew : (⟨p.id, cw l, i, l[i], H.length⟩ : Ent) = new at *
  generalize hX : cr l[i].l ((l[i].l.getD []).map eT) = X at *
  generalize hH3 : H ++ X = H3 at *
  have g3 : ∀ k o, H[k]? = some o → H3[k]? = some o := fun k o h => by
    rw [← hH3, List.getElem?_append_left (List.getElem?_eq_some_iff.1 h).1]
    exact h
  have hl3 : H.length ≤ H3.length := by rw [← hH3]; simp
  generalize hes6 : es.set i (op l[i] (cv H.length l[i].l)) = es6 at *
  have g6 : ∀ k o, H3[k]? = some o → k ≠ p.id → H6[k]? = some o := fun k o h hk => by
    rw [h6, List.getElem?_set_ne (fun e => hk e.symm)]
    exact h
  have hl6 : H6.length = H3.length := by rw [h6]; simp
  have hp6 : H6[p.id]? = some (.row (cw l) 7 26 es6) := by rw [h6]; exact List.getElem?_set_self (by omega)
  have hrow : ∀ l', l[i].l = some l' → H6[H.length]? = some (.row (cw l') 7 26 (l'.map eT)) := fun l' hl' => by
    refine g6 _ _ ?_ (by omega)
    rw [← hH3, ← hX, hl']
    simp [cr]
  -- the root
  have r3 : Rd H3 (op t v0) t := by rw [← hH3]; exact qj2 hv
  have hx : Rd H6 (op l[i] (cv H.length l[i].l)) l[i] := by
    cases hu : l[i].l with
    | none => exact .nil _ hu
    | some l' =>
      refine .own _ l' _ _ _ _ hu (hrow l' hu) (by simp) fun j hj => ?_
      rw [List.getElem_map]
      exact .imm _
  have r6 : Rd H6 (op t v0) t := by
    rw [h6, ← hes6] at hx ⊢
    exact rd_open (g3 _ _ hes) hil hei' hx r3
  generalize hH7 : H6 ++ [.row 0 1 86 [.ptr p.id (cw l) i 0]] = H7
  have g7 : ∀ k o, H6[k]? = some o → H7[k]? = some o := fun k o h => by
    rw [← hH7, List.getElem?_append_left (List.getElem?_eq_some_iff.1 h).1]
    exact h
  have r7 : Rd H7 (op t v0) t := by rw [← hH7]; exact qj2 r6
  have hl7 : H7.length = H3.length + 1 := by rw [← hH7]; simp [hl6]
  have hq7 : H7[q]? = some (.row ver 1 86 es0) := g7 _ _ (g6 _ _ (g3 _ _ hq) (fun e => hidq e.symm))
  have hptr : new.ptr = .ptr p.id (cw l) i 0 := by rw [← hnew]; rfl
  have hlen : (P ++ [new]).length = P.length + 1 := by simp
  have happ : ∃ ver' cap' es', A.append 1 8 86 (.sl q ver 0 P.length cap) [.ptr p.id (cw l) i 0] H7 = some (.sl q ver' 0 (P ++ [new]).length cap', H7.set q (.row ver' 1 86 es')) ∧ es'.take (P ++ [new]).length = (P ++ [new]).map Ent.ptr ∧ (P ++ [new]).length ≤ cap' := by
    have hle : P.length ≤ es0.length := by
      have := congrArg List.length htk
      simp at this
      omega
    by_cases hc : P.length + 1 ≤ cap
    · refine ⟨ver, cap, A.splice es0 P.length [.ptr p.id (cw l) i 0], ?_, ?_, by omega⟩
      · simp only [A.append, hq7]
        rw [if_pos ⟨trivial, trivial, trivial, by omega, by omega, by simp; omega, by omega⟩, if_pos (by simpa using hc)]
        simp
      · have : A.splice es0 P.length [.ptr p.id (cw l) i 0] = es0.take P.length ++ [.ptr p.id (cw l) i 0] ++ es0.drop (P.length + 1) := rfl
        rw [this, htk, List.map_append, List.map_cons, List.map_nil, hptr, List.take_append_of_le_length (by simp), List.take_of_length_le (by simp)]
    · refine ⟨ver + 1, P.length + 1, P.map Ent.ptr ++ [.ptr p.id (cw l) i 0], ?_, ?_, by omega⟩
      · simp only [A.append, hq7]
        rw [if_pos ⟨trivial, trivial, trivial, by omega, by omega, by simp; omega, by omega⟩, if_neg (by simpa using hc)]
        simp [htk]
      · rw [List.map_append, List.map_cons, List.map_nil, hptr, List.take_of_length_le (by simp)]
  obtain ⟨ver', cap', es', ha, htk', hcap'⟩ := happ
  have g8 : ∀ k o, H7[k]? = some o → k ≠ q → (H7.set q (.row ver' 1 86 es'))[k]? = some o := fun k o h hk => by
    rw [List.getElem?_set_ne (fun e => hk e.symm)]
    exact h
  generalize hH8 : H7.set q (.row ver' 1 86 es') = H8 at *
  have fr : ∀ k o, H[k]? = some o → k ≠ p.id → k ≠ q → H8[k]? = some o := fun k o h h1 h2 => g8 _ _ (g7 _ _ (g6 _ _ (g3 _ _ h) h1)) h2
  have hp8 : H8[p.id]? = some (.row (cw l) 7 26 es6) := g8 _ _ (g7 _ _ hp6) hidq
  have hl8 : H8.length = H3.length + 1 := by rw [← hH8]; simp [hl7]
  have hnr : new.r = p.id := by rw [← hnew]
  have hnid : new.id = H.length := by rw [← hnew]
  have hnu : new.u = l[i] := by rw [← hnew]
  have hni : new.i = i := by rw [← hnew]
  have hnw : new.w = cw l := by rw [← hnew]
  have hes6i : es6[i]? = some (op l[i] (cv H.length l[i].l)) := by rw [← hes6]; exact List.getElem?_set_self hil
  have hrl : ∀ e ∈ P, e.r < H.length := fun e he => by
    obtain ⟨fs, _, _, h1, -⟩ := hC.pend e he
    exact (List.getElem?_eq_some_iff.1 h1).1
  refine ⟨ver', cap', H8, ha, ⟨⟨fr _ _ hv0 (by omega) h0q, ?_⟩, ⟨es', ?_, htk', hcap'⟩, ?_, ?_, ?_, ?_, fun j o hj => fr _ _ (hC.keep j o hj) (by have := (List.getElem?_eq_some_iff.1 hj).1; omega) (by have := (List.getElem?_eq_some_iff.1 hj).1; omega), hkq⟩, ⟨hK.ul, ?_, ⟨es6, hp8, by rw [← hes6]; simpa using hn, ?_⟩, hidq, hid0, hK.rid, ?_, ?_⟩⟩
  · rw [← hH8]
    exact rd_other hq7 (by omega) r7
  · rw [← hH8]
    exact List.getElem?_set_self (by omega)
  · intro e he
    rcases List.mem_append.1 he with he | he
    · obtain ⟨fs, dd, bb, h1, h2, h3⟩ := hC.pend e he
      have hkids : ∀ l', e.u.l = some l' → H8[e.id]? = some (.row (cw l') 7 26 (l'.map eT)) := fun l' hl' => by
        have ho : e.own := by unfold Ent.own; rw [hl']; simp
        exact fr _ _ (h3 l' hl') (hK.oth e he ho).1 (hC.ids e he ho).1
      by_cases hr : e.r = p.id
      · rw [hr, hes] at h1
        injection h1 with h1
        injection h1 with h1 _ _ h4
        have hei2 := hK.kid e he hr
        refine ⟨es6, dd, bb, by rw [hr, ← h1]; exact hp8, ?_, hkids⟩
        rw [← hes6, List.getElem?_set_ne (by omega), h4]
        exact h2
      · exact ⟨fs, dd, bb, fr _ _ h1 hr (qj9 h1 hq), h2, hkids⟩
    · rw [List.mem_singleton] at he
      rw [he]
      refine ⟨es6, eD l[i].d, eL 1 eb l[i].b, by rw [hnr, hnw]; exact hp8, by rw [hni, hnu, hnid]; exact hes6i, fun l' hl' => ?_⟩
      rw [hnu] at hl'
      rw [hnid]
      exact g8 _ _ (g7 _ _ (hrow l' hl')) (by omega)
  · intro e he ho
    rcases List.mem_append.1 he with he | he
    · have := hC.ids e he ho
      exact ⟨this.1, by omega, this.2.2⟩
    · rw [List.mem_singleton] at he
      rw [he]
      rw [hnid]
      exact ⟨by omega, by omega, by omega⟩
  · rw [List.pairwise_append]
    refine ⟨hC.dist, List.pairwise_singleton _ _, fun e he f hf ho _ => ?_⟩
    rw [List.mem_singleton] at hf
    rw [hf]
    have := (hC.ids e he ho).2.1
    rw [hnid]
    omega
  · intro e he f hf ho
    rcases List.mem_append.1 he with he | he
    · rcases List.mem_append.1 hf with hf | hf
      · exact hC.apart e he f hf ho
      · rw [List.mem_singleton] at hf
        rw [hf]
        have := hrl e he
        rw [hnid]
        omega
    · rw [List.mem_singleton] at he
      rw [he]
      rw [hnr]
      rcases List.mem_append.1 hf with hf | hf
      · exact fun e => (hK.oth f hf ho).1 e.symm
      · rw [List.mem_singleton] at hf
        rw [hf]
        rw [hnid]
        omega
  · obtain ⟨fs, dd, bb, h1, h2⟩ := hK.cell
    exact ⟨fs, dd, bb, fr _ _ h1 hK.rid (qj9 h1 hq), h2⟩
  · intro j hj hij
    rw [← hes6, List.getElem?_set_ne (by omega)]
    exact hej j hj (by omega)
  · intro e he ho
    rcases List.mem_append.1 he with he | he
    · exact hK.oth e he ho
    · rw [List.mem_singleton] at he
      rw [he]
      obtain ⟨fs, _, _, h1, h2⟩ := hK.cell
      have := (List.getElem?_eq_some_iff.1 h1).1
      rw [hnid]
      exact ⟨by omega, by omega⟩
  · intro e he hr
    rcases List.mem_append.1 he with he | he
    · have := hK.kid e he hr
      omega
    · rw [List.mem_singleton] at he
      rw [he]
      rw [hni]
      omega
end Go.Proofs.YtleikacgncpfbaaDoor

/- Terms: the parts of one are copied; all are. -/
set_option maxRecDepth 100000
set_option maxHeartbeats 4000000
namespace Go.Proofs.YtleikacgncpfbaaDoor
open Go Go.Den
def qdd (u : Tm) : Prop := few u.d ∧ fewB u.b ∧ u.kids.length ≤ 1000
noncomputable abbrev TCp : List (FuncId × Pol) := [(72, pDcl), (71, pBcl), (73, q8f)]
theorem ty_ptrs : base.P.underlying 87 = some (.slice 86) := by kernel_rfl
theorem qeh (id : Nat) (o : Option (List Tm)) : (cv id o).one = true := by cases o <;> rfl
theorem cp_inner {t : Tm} {vd0 vl0 vb0 : AV} {K : List HObj} {q : Nat} {p : Ent} {l : List Tm} {t3 : AV} {c1 : List AV} (hl : ∀ u ∈ l, qdd u) : ∀ (k i : Nat) (P : List Ent) (ver cap : Nat) (H : Heap), i + k = l.length → CInv t vd0 vl0 vb0 K q ver cap P H → Cur K p l i q P H → P.length + k ≤ 1000000000 → l.length ≤ 1000 →
    ∃ (P' : List Ent) (ver' cap' : Nat) (H' : Heap), P'.map Ent.u = P.map Ent.u ++ l.drop i ∧ CInv t vd0 vl0 vb0 K q ver' cap' P' H' ∧ LDoes (qgp (polT TCp)) ⟨[t3, .sl q ver 0 P.length cap, .ptr p.r p.w p.i 0, .int .i64 (l.length : Int), .int .i64 (i : Int)], [c1]⟩ H 0 ⟨[t3, .sl q ver' 0 P'.length cap'], [c1]⟩ H' := by
  intro k
  induction k with
  | zero =>
    intro i P ver cap H hi hC hK hb hll
    have : i = l.length := by omega
    subst this
    refine ⟨P, ver, cap, H, by simp, hC, LDoes.step (Evs.of fun n m => ?_)⟩
    simp [↓q00, ↓q01, q5v]
  | succ k ih =>
    intro i P ver cap H hi hC hK hb hll
    have hlt : i < l.length := by omega
    have hlt' : (i : Int) < (l.length : Int) := by omega
    obtain ⟨es, hes, hn, hej⟩ := hK.rows
    obtain ⟨H6, h6⟩ : ∃ H6, H6 = (H ++ cr l[i].l ((l[i].l.getD []).map eT)).set p.id (.row (cw l) 7 26 (es.set i (op l[i] (cv H.length l[i].l)))) := ⟨_, rfl⟩
    obtain ⟨ver', cap', H8, happ, hC', hK'⟩ := cp_step hC hK hlt (by omega) hes hn hej h6
    obtain ⟨P', ver2, cap2, H', hP', hC2, hL⟩ := ih (i + 1) _ ver' cap' H8 (by omega) hC' hK' (by simp; omega) hll
    have hu := hl l[i] (List.getElem_mem hlt)
    obtain ⟨fs, dd, bb, hc1, hc2⟩ := hK.cell
    rw [hK.ul] at hc2
    have hpl : p.id < H.length := (List.getElem?_eq_some_iff.1 hes).1
    have hei := hej i hlt (Nat.le_refl _)
    rw [← qap] at hei
    -- the place that is copied from
    have a1 : A.nilCheck (.ptr p.r p.w p.i 0) H = some (.ptr p.r p.w p.i 0) := q2s hc1
    have a2 : A.fa 5 (.ptr p.r p.w p.i 0) H = some (.ptr p.r p.w p.i 5) := q2i hc1
    have a3 : A.load false 1 (.ptr p.r p.w p.i 5) H = some (.sl p.id (cw l) 0 l.length l.length) := q3l hc1 hc2 rfl
    have a4 : A.idx 7 (.sl p.id (cw l) 0 l.length l.length) (.int .i64 (i : Int)) H = some (.ptr p.id (cw l) i 0) := by
      have := q4r (cap := l.length) (off := 0) (k := .i64) hes (i := (i : Int)) (n := l.length) (by omega) hlt'
      simpa using this
    -- the part
    have b1 : A.nilCheck (.ptr p.id (cw l) i 0) H = some (.ptr p.id (cw l) i 0) := q2s hes
    have b2 : A.fa 2 (.ptr p.id (cw l) i 0) H = some (.ptr p.id (cw l) i 2) := q2i hes
    have b6 : A.fa 6 (.ptr p.id (cw l) i 0) H = some (.ptr p.id (cw l) i 6) := q2i hes
    have b5 : A.fa 5 (.ptr p.id (cw l) i 0) H = some (.ptr p.id (cw l) i 5) := q2i hes
    have d2 : A.load false 1 (.ptr p.id (cw l) i 2) H = some (eD l[i].d) := q3l hes hei rfl
    have d6 : A.load false 1 (.ptr p.id (cw l) i 6) H = some (eL 1 eb l[i].b) := q3l hes hei rfl
    have d5 : A.load false 1 (.ptr p.id (cw l) i 5) H = some (eL 7 eT l[i].l) := q3l hes hei rfl
    have hbig : bigH H = true := bigH_of hes (by have := hK.id0; omega)
    have q2 : ∀ (R : Type) (k : AV → Heap → Option R), polK pDcl [eD l[i].d] H k = k (eD l[i].d) H := fun R k => kDcl_big hu.1 hbig
    have q6 : ∀ (R : Type) (k : AV → Heap → Option R), polK pBcl [eL 1 eb l[i].b] H k = k (eL 1 eb l[i].b) H := fun R k => kBcl_big hu.2.1 hbig
    have q5 : ∀ (R : Type) (k : AV → Heap → Option R), polK q8f [eL 7 eT l[i].l] H k = k (cv H.length l[i].l) (H ++ cr l[i].l ((l[i].l.getD []).map eT)) := fun R k => qhk hu.2.2
    have hes3 : (H ++ cr l[i].l ((l[i].l.getD []).map eT))[p.id]? = some (.row (cw l) 7 26 es) := by
      rw [List.getElem?_append_left hpl]
      exact hes
    have e1 : A.nilCheck (.ptr p.id (cw l) i 0) (H ++ cr l[i].l ((l[i].l.getD []).map eT)) = some (.ptr p.id (cw l) i 0) := q2s hes3
    have e2 : A.fa 2 (.ptr p.id (cw l) i 0) (H ++ cr l[i].l ((l[i].l.getD []).map eT)) = some (.ptr p.id (cw l) i 2) := q2i hes3
    have e6 : A.fa 6 (.ptr p.id (cw l) i 0) (H ++ cr l[i].l ((l[i].l.getD []).map eT)) = some (.ptr p.id (cw l) i 6) := q2i hes3
    have e5 : A.fa 5 (.ptr p.id (cw l) i 0) (H ++ cr l[i].l ((l[i].l.getD []).map eT)) = some (.ptr p.id (cw l) i 5) := q2i hes3
    have hone : ∀ d : Option (List UInt32), (eD d).one = true := fun d => by cases d <;> rfl
    have honb : ∀ d : Option (List UInt8), (eL 1 eb d).one = true := fun d => by cases d <;> rfl
    have s2 : A.store 1 (.ptr p.id (cw l) i 2) (eD l[i].d) (H ++ cr l[i].l ((l[i].l.getD []).map eT)) = some (H ++ cr l[i].l ((l[i].l.getD []).map eT)) := q3m hes3 hei rfl (hone _)
    have s6 : A.store 1 (.ptr p.id (cw l) i 6) (eL 1 eb l[i].b) (H ++ cr l[i].l ((l[i].l.getD []).map eT)) = some (H ++ cr l[i].l ((l[i].l.getD []).map eT)) := q3m hes3 hei rfl (honb _)
    have s5 : A.store 1 (.ptr p.id (cw l) i 5) (cv H.length l[i].l) (H ++ cr l[i].l ((l[i].l.getD []).map eT)) = some H6 := by
      rw [h6]
      exact q2x hes3 hei rfl (qeh _ _)
    have hfe : A.fillElems 1 [AV.nilp] [(0, 1, .ptr p.id (cw l) i 0)] = some [.ptr p.id (cw l) i 0] := by simp [A.fillElems]
    have hrd : A.read 1 (.sl H6.length 0 0 1 1) (H6 ++ [.row 0 1 86 [.ptr p.id (cw l) i 0]]) = some [.ptr p.id (cw l) i 0] := qf9 q1e rfl
    have hi1 : IntKind.wrap .i64 ((i : Int) + 1) = (i : Int) + 1 := q0h (by omega) (by omega)
    simp only [Int.natCast_add, Int.natCast_one] at hL
    refine ⟨P', ver2, cap2, H', ?_, hC2, LDoes.step (Evs.withL hL (Evs.of fun n m _ h2 => ?_))⟩
    · rw [hP', List.drop_eq_getElem_cons hlt]
      simp
    generalize H ++ cr l[i].l ((l[i].l.getD []).map eT) = H3 at *
    generalize cv H.length l[i].l = V at *
    generalize (P ++ [(⟨p.id, cw l, i, l[i], H.length⟩ : Ent)]).length = PL at *
    generalize eD l[i].d = vd at *
    generalize eL 1 eb l[i].b = vb at *
    generalize eL 7 eT l[i].l = vl at *
    generalize (l.length : Int) = N at *
    simp [↓q00, ↓q03, ↓q09, ↓q01, ↓q0m, ↓q0g, ↓q0u, ↓q07, q5v, hlt', a1, a2, a3, a4, b1, b2, b6, b5, d2, d6, d5, q2, q6, q5, e1, e2, e6, e5, s2, s6, s5, hfe, q0w ty_ptrs, hrd, happ, hi1, h2]
end Go.Proofs.YtleikacgncpfbaaDoor

/- Terms: all that is still to be copied. -/
set_option maxRecDepth 100000
set_option maxHeartbeats 4000000
namespace Go.Proofs.YtleikacgncpfbaaDoor
open Go Go.Den
theorem q3x : ∀ a b : List Tm, Tm.sizes (a ++ b) = Tm.sizes a + Tm.sizes b
  | [], b => by simp [Tm.sizes]
  | t :: a, b => by simp only [List.cons_append, Tm.sizes, q3x a b]; omega
theorem q5b : ∀ l : List Tm, l.length ≤ Tm.sizes l
  | [] => by simp
  | t :: l => by
    have := q5b l
    have h := t.size_eq
    simp only [List.length_cons, Tm.sizes]
    omega
def fineT (t : Tm) : Prop := evT qdd t
theorem fineT_eq {t : Tm} : fineT t ↔ qdd t ∧ ∀ u ∈ t.kids, fineT u := qel
theorem cp_outer {t : Tm} {vd0 vl0 vb0 : AV} {K : List HObj} {q : Nat} {t3 : AV} {c1 : List AV} : ∀ (N : Nat) (P : List Ent) (ver cap : Nat) (H : Heap), Tm.sizes (P.map Ent.u) ≤ N → N ≤ 1000000000 → CInv t vd0 vl0 vb0 K q ver cap P H → (∀ e ∈ P, fineT e.u) →
    ∃ H', (H'[0]? = some (.row 0 7 26 [op2 t vd0 vl0 vb0]) ∧ Rd H' (op t vl0) t) ∧ (∀ (j : Nat) (o : HObj), K[j]? = some o → H'[j + 1]? = some o) ∧ LDoes (qgo (polT TCp)) ⟨[t3, .sl q ver 0 P.length cap], [c1]⟩ H 0 ⟨[t3], [c1]⟩ H' := by
  intro N
  induction N with
  | zero =>
    intro P ver cap H hN hB hC hf
    have hp : P = [] := by
      have := q5b (P.map Ent.u)
      simp at this
      exact List.length_eq_zero_iff.1 (by omega)
    subst hp
    obtain ⟨es0, hq, -, -⟩ := hC.todo
    have f0 : A.len (.sl q ver 0 0 cap) H = some (.int .i64 0) := by simp [A.len, A.alive, hq]
    refine ⟨H, hC.root, hC.keep, LDoes.step (Evs.of fun n m => ?_)⟩
    simp [↓q00, ↓q01, q3z, f0]
  | succ N ih =>
    intro P ver cap H hN hB hC hf
    obtain ⟨es0, hq, htk, hcap⟩ := hC.todo
    rcases List.eq_nil_or_concat P with rfl | ⟨P, p, rfl⟩
    · have f0 : A.len (.sl q ver 0 0 cap) H = some (.int .i64 0) := by simp [A.len, A.alive, hq]
      refine ⟨H, hC.root, hC.keep, LDoes.step (Evs.of fun n m => ?_)⟩
      simp [↓q00, ↓q01, q3z, f0]
    · simp only [List.concat_eq_append] at *
      have hn : (P ++ [p]).length = P.length + 1 := by simp
      have hpm : p ∈ P ++ [p] := by simp
      have hle : P.length + 1 ≤ es0.length := by
        have := congrArg List.length htk
        simp at this
        omega
      have hlast : es0[P.length]? = some p.ptr := by
        have h2 := congrArg (fun l => l[P.length]?) htk
        simp only [List.getElem?_take, List.map_append, List.map_cons, List.map_nil] at h2
        rw [if_pos (by simp)] at h2
        rw [h2, List.getElem?_append_right (by simp)]
        simp
      have htk' : es0.take P.length = P.map Ent.ptr := by
        have h3 := congrArg (List.take P.length) htk
        rw [List.take_take] at h3
        simpa using h3
      have hmem : ∀ e ∈ P, e ∈ P ++ [p] := fun e he => List.mem_append_left _ he
      have hdist := List.pairwise_append.1 hC.dist
      have hC0 : CInv t vd0 vl0 vb0 K q ver cap P H := ⟨hC.root, ⟨es0, hq, htk', by omega⟩, fun e he => hC.pend e (hmem e he), fun e he => hC.ids e (hmem e he), hdist.1, fun e he f hf => hC.apart e (hmem e he) f (hmem f hf), hC.keep, hC.kq⟩
      obtain ⟨fs, dd, bb, hc1, hc2, hc3⟩ := hC.pend p hpm
      have hsz : Tm.sizes ((P ++ [p]).map Ent.u) = Tm.sizes (P.map Ent.u) + p.u.size := by
        rw [List.map_append, q3x]
        simp [Tm.sizes]
      have hpl : P.length ≤ Tm.sizes (P.map Ent.u) := by
        have := q5b (P.map Ent.u)
        simpa using this
      have hpsz := p.u.size_eq
      have e1 : ((P.length + 1 : Nat) : Int) - 1 = (P.length : Int) := by omega
      have hw : IntKind.wrap .i64 (((P.length + 1 : Nat) : Int) - 1) = (P.length : Int) := by rw [q0h (by omega) (by omega), e1]
      have hpos : (0 : Int) < ((P.length + 1 : Nat) : Int) := by omega
      have f1 : A.len (.sl q ver 0 (P.length + 1) cap) H = some (.int .i64 ((P.length + 1 : Nat) : Int)) := by simp [A.len, A.alive, hq]
      have f2 : A.idx 1 (.sl q ver 0 (P.length + 1) cap) (.int .i64 (P.length : Int)) H = some (.ptr q ver P.length 0) := by
        have := q4r (cap := cap) (off := 0) (k := .i64) hq (i := (P.length : Int)) (n := P.length + 1) (by omega) (by omega)
        simpa using this
      have f3 : A.load false 1 (.ptr q ver P.length 0) H = some (.ptr p.r p.w p.i 0) := qay hq hlast rfl
      have f4 : A.slice 1 (.sl q ver 0 (P.length + 1) cap) none (some (.int .i64 (P.length : Int))) none H = some (.sl q ver 0 P.length cap) := by
        simp [A.slice, A.bound, A.aliveZ, hq]
        omega
      have f5 : A.nilCheck (.ptr p.r p.w p.i 0) H = some (.ptr p.r p.w p.i 0) := q2s hc1
      have f6 : A.fa 5 (.ptr p.r p.w p.i 0) H = some (.ptr p.r p.w p.i 5) := q2i hc1
      have f7 : A.load false 1 (.ptr p.r p.w p.i 5) H = some (cv p.id p.u.l) := q3l hc1 hc2 rfl
      rw [hn]
      cases hul : p.u.l with
      | none =>
        rw [hul] at f7
        have f7 : A.load false 1 (.ptr p.r p.w p.i 5) H = some .nils := f7
        have f9 : A.len .nils H = some (.int .i64 0) := rfl
        obtain ⟨H', hr, hkp, hL⟩ := ih P ver cap H (by omega) (by omega) hC0 (fun e he => hf e (hmem e he))
        have hin : LDoes (qgp (polT TCp)) ⟨[t3, .sl q ver 0 P.length cap, .ptr p.r p.w p.i 0, .int .i64 0, .int .i64 0], [c1]⟩ H 0 ⟨[t3, .sl q ver 0 P.length cap], [c1]⟩ H := LDoes.step (Evs.of fun n m => by simp [↓q00, ↓q01, q5v])
        refine ⟨H', hr, hkp, LDoes.step (Evs.withL hin (Evs.withL hL (Evs.of fun n m _ h2 h3 _ => ?_)))⟩
        generalize ((P.length + 1 : Nat) : Int) = N1 at *
        simp [↓q00, ↓q03, ↓q0b, ↓q01, ↓q06, q3z, f1, hpos, hw, f2, f3, f4, f5, f6, f7, f9, h2, h3]
      | some l =>
        rw [hul] at f7
        have ho : p.own := by unfold Ent.own; rw [hul]; simp
        have hkl : p.u.kids = l := by unfold Tm.kids; rw [hul]; rfl
        have hpf := fineT_eq.1 (hf p hpm)
        have hids := hC.ids p hpm ho
        have hll : l.length ≤ 1000 := by rw [← hkl]; exact hpf.1.2.2
        have hls := q5b l
        rw [hkl] at hpsz
        have hK : Cur K p l 0 q P H := ⟨hul, ⟨fs, dd, bb, hc1, hc2⟩, ⟨l.map eT, hc3 l hul, by simp, fun j hj _ => by simp [hj]⟩, hids.1, hids.2.2, hC.apart p hpm p hpm ho, fun e he heo => ⟨hdist.2.2 e he p (by simp) heo ho, fun e2 => hC.apart p hpm e (hmem e he) heo e2.symm⟩, fun e he h => absurd h (hC.apart e (hmem e he) p hpm ho)⟩
        obtain ⟨P', ver', cap', H1, hP', hC', hin⟩ := cp_inner (t := t) (q := q) (p := p) (l := l) (t3 := t3) (c1 := c1) (fun u hu => (fineT_eq.1 (hpf.2 u (by rw [hkl]; exact hu))).1) l.length 0 P ver cap H (by omega) hC0 hK (by omega) hll
        rw [List.drop_zero] at hP'
        have hf' : ∀ e ∈ P', fineT e.u := fun e he => by
          have : e.u ∈ P.map Ent.u ++ l := by rw [← hP']; exact List.mem_map_of_mem he
          rcases List.mem_append.1 this with h | h
          · obtain ⟨e', he', h⟩ := List.mem_map.1 h
            rw [← h]
            exact hf e' (hmem e' he')
          · exact hpf.2 _ (by rw [hkl]; exact h)
        obtain ⟨H', hr, hkp, hL⟩ := ih P' ver' cap' H1 (by rw [hP', q3x]; omega) (by omega) hC' hf'
        refine ⟨H', hr, hkp, LDoes.step (Evs.withL hin (Evs.withL hL (Evs.of fun n m _ h2 h3 _ => ?_)))⟩
        have f8 : A.len (cv p.id (some l)) H = some (.int .i64 (l.length : Int)) := by
          have := hc3 l hul
          simp [A.len, A.alive, cv, this]
        simp only [Int.natCast_zero] at h3
        generalize cv p.id (some l) = V at *
        generalize ((P.length + 1 : Nat) : Int) = N1 at *
        generalize (l.length : Int) = N2 at *
        simp [↓q00, ↓q03, ↓q0b, ↓q01, ↓q06, q3z, f1, hpos, hw, f2, f3, f4, f5, f6, f7, f8, h2, h3]
end Go.Proofs.YtleikacgncpfbaaDoor

/- Terms: a copy is the term. -/
set_option maxRecDepth 100000
set_option maxHeartbeats 4000000
namespace Go.Proofs.YtleikacgncpfbaaDoor
open Go Go.Den
theorem rd_seven {H : Heap} {v : AV} {t : Tm} (h : Rd H v t) : v.cells.length = 7 ∧ A.fits 7 v = true ∧ A.ofList true 7 v.cells 0 = some v ∧ v.isDef = true ∧ A.splice [.int .i64 0, .bool false, .nils, .str [], .int .i64 0, .nils, .nils] 0 v.cells = v.cells := by
  have hop : ∀ (u : Tm) (w : AV), w.one = true → (op u w).cells.length = 7 ∧ A.fits 7 (op u w) = true ∧ A.ofList true 7 (op u w).cells 0 = some (op u w) ∧ (op u w).isDef = true ∧ A.splice [.int .i64 0, .bool false, .nils, .str [], .int .i64 0, .nils, .nils] 0 (op u w).cells = (op u w).cells := fun u w hw => by
    have hd : (eD u.d).one = true := by cases u.d <;> rfl
    have hb : (eL 1 eb u.b).one = true := by cases u.b <;> rfl
    refine ⟨rfl, ?_, rfl, rfl, rfl⟩
    show (((op u w).cells.length == 7) && (op u w).cells.all AV.one) = true
    show ((7 == 7) && [AV.int .i64 u.kind, .bool u.neg, eD u.d, .str u.name, .int .i64 u.n, w, eL 1 eb u.b].all AV.one) = true
    simp only [List.all_cons, List.all_nil, hd, hb, hw]
    rfl
  cases h with
  | imm =>
    rw [← qap]
    exact hop _ _ (by cases t.l <;> rfl)
  | nil => exact hop _ _ rfl
  | own => exact hop _ _ rfl
def copyT (t : Tm) : Prop := fineT t ∧ shal 63 t ∧ t.size ≤ 1000000000
noncomputable def pCopy : Pol := .still (p1 cT eT copyT id)
def kb (t : Tm) : Nat := 1 + (crG 59 eu t.d).length
def kl (t : Tm) : Nat := kb t + (crG 5 eb t.b).length
def kK (t : Tm) : List HObj := crG 59 eu t.d ++ crG 5 eb t.b
theorem kl_eq (t : Tm) : kl t = 1 + (kK t).length := by unfold kl kb kK; simp; omega
theorem copy_run {t : Tm} (h : copyT t) : ∃ H' : Heap, (H'[0]? = some (.row 0 7 26 [op2 t (cvG 1 t.d) (cv (kl t) t.l) (cvG (kb t) t.b)]) ∧ Rd H' (op t (cv (kl t) t.l)) t) ∧ (∀ (j : Nat) (o : HObj), (kK t)[j]? = some o → H'[j + 1]? = some o) ∧
    Evs fun n _ => ∀ (R : Type) (k : AV → Heap → Option R), callF (base.with (polT TCp)) (n + 1) R 44 [eT t] [] k = k (op2 t (cvG 1 t.d) (cv (kl t) t.l) (cvG (kb t) t.b)) H' := by
  obtain ⟨hf, hsh, hsz⟩ := h
  have hf1 := (fineT_eq.1 hf).1
  have hcl : (eT t).cells.length = 7 := by rw [q02]; rfl
  have hof : A.ofList true 7 (eT t).cells 0 = some (eT t) := q13 (H := [])
  have hof2 : (eT t).cells[2]? = some (eD t.d) := by rw [q02]; rfl
  have hof6 : (eT t).cells[6]? = some (eL 1 eb t.b) := by rw [q02]; rfl
  have hof5 : (eT t).cells[5]? = some (eL 7 eT t.l) := by rw [q02]; rfl
  have st0 : A.store 7 (.ptr 0 0 0 0) (eT t) [.row 0 7 26 [.agg [.int .i64 0, .bool false, .nils, .str [], .int .i64 0, .nils, .nils]]] = some [.row 0 7 26 [eT t]] := by
    have := q7l (cs := [.int .i64 0, .bool false, .nils, .str [], .int .i64 0, .nils, .nils]) (ds := (eT t).cells) (b := 0) (sz := 7) (ty := 26) (H := [.row 0 7 26 [.agg [.int .i64 0, .bool false, .nils, .str [], .int .i64 0, .nils, .nils]]]) rfl rfl (by rw [q02]; rfl) (by rw [q02]; simp)
    have e : AV.agg (eT t).cells = eT t := by rw [q02, q39]
    rw [e] at this
    exact this
  -- the heap: the place; limbs, bytes; the list
  obtain ⟨Ha, hHa⟩ : ∃ Ha : Heap, Ha = [.row 0 7 26 [eT t]] ++ crG 59 eu t.d := ⟨_, rfl⟩
  obtain ⟨Hb, hHb⟩ : ∃ Hb : Heap, Hb = Ha ++ crG 5 eb t.b := ⟨_, rfl⟩
  obtain ⟨Hc, hHc⟩ : ∃ Hc : Heap, Hc = Hb ++ cr t.l ((t.l.getD []).map eT) := ⟨_, rfl⟩
  have lHa : Ha.length = kb t := by rw [hHa]; unfold kb; simp; omega
  have lHb : Hb.length = kl t := by rw [hHb]; unfold kl; simp [lHa]
  have big1 : ∀ {α : Type} {ty : TypeId} {e : α → AV} {o : Option (List α)}, (crG ty e o).any isR7 = false := fun {α ty e o} => by cases o <;> rfl
  have k2 : ∀ (R : Type) (k : AV → Heap → Option R), polK pDcl [eD t.d] [.row 0 7 26 [eT t]] k = k (cvG 1 t.d) Ha := fun R k => by
    rw [hHa]
    exact qg0 (H := [.row 0 7 26 [eT t]]) hf1.1 rfl
  have k6 : ∀ (R : Type) (k : AV → Heap → Option R), polK pBcl [eL 1 eb t.b] Ha k = k (cvG (kb t) t.b) Hb := fun R k => by
    rw [hHb, ← lHa]
    refine qfz hf1.2.1 ?_
    rw [hHa]
    exact big1
  have k5 : ∀ (R : Type) (k : AV → Heap → Option R), polK q8f [eL 7 eT t.l] Hb k = k (cv (kl t) t.l) Hc := fun R k => by
    rw [hHc, ← lHb]
    exact qhk hf1.2.2
  have h0 : Hc[0]? = some (.row 0 7 26 [eT t]) := by rw [hHc, hHb, hHa]; rfl
  have he : [eT t][0]? = some (.agg [.int .i64 t.kind, .bool t.neg, eD t.d, .str t.name, .int .i64 t.n, eL 7 eT t.l, eL 1 eb t.b]) := by rw [q39]; rfl
  have hc0 : 0 < Hc.length := (List.getElem?_eq_some_iff.1 h0).1
  have f2 : A.fa 2 (.ptr 0 0 0 0) Hc = some (.ptr 0 0 0 2) := q2i h0
  have s2 : A.store 1 (.ptr 0 0 0 2) (cvG 1 t.d) Hc = some (Hc.set 0 (.row 0 7 26 [.agg [.int .i64 t.kind, .bool t.neg, cvG 1 t.d, .str t.name, .int .i64 t.n, eL 7 eT t.l, eL 1 eb t.b]])) := q2x h0 he rfl (q65 _ _)
  obtain ⟨Hd, hHd⟩ : ∃ Hd : Heap, Hd = Hc.set 0 (.row 0 7 26 [.agg [.int .i64 t.kind, .bool t.neg, cvG 1 t.d, .str t.name, .int .i64 t.n, eL 7 eT t.l, eL 1 eb t.b]]) := ⟨_, rfl⟩
  rw [← hHd] at s2
  have g0 : Hd[0]? = some (.row 0 7 26 [.agg [.int .i64 t.kind, .bool t.neg, cvG 1 t.d, .str t.name, .int .i64 t.n, eL 7 eT t.l, eL 1 eb t.b]]) := by rw [hHd]; exact List.getElem?_set_self hc0
  have f6 : A.fa 6 (.ptr 0 0 0 0) Hd = some (.ptr 0 0 0 6) := q2i g0
  have s6 : A.store 1 (.ptr 0 0 0 6) (cvG (kb t) t.b) Hd = some (Hd.set 0 (.row 0 7 26 [.agg [.int .i64 t.kind, .bool t.neg, cvG 1 t.d, .str t.name, .int .i64 t.n, eL 7 eT t.l, cvG (kb t) t.b]])) := q2x (j := 0) (off := 6) (v := cvG (kb t) t.b) (w := eL 1 eb t.b) (cs := [.int .i64 t.kind, .bool t.neg, cvG 1 t.d, .str t.name, .int .i64 t.n, eL 7 eT t.l, eL 1 eb t.b]) g0 rfl rfl (q65 _ _)
  obtain ⟨He, hHe⟩ : ∃ He : Heap, He = Hd.set 0 (.row 0 7 26 [.agg [.int .i64 t.kind, .bool t.neg, cvG 1 t.d, .str t.name, .int .i64 t.n, eL 7 eT t.l, cvG (kb t) t.b]]) := ⟨_, rfl⟩
  rw [← hHe] at s6
  have i0 : He[0]? = some (.row 0 7 26 [.agg [.int .i64 t.kind, .bool t.neg, cvG 1 t.d, .str t.name, .int .i64 t.n, eL 7 eT t.l, cvG (kb t) t.b]]) := by rw [hHe]; exact List.getElem?_set_self (by rw [hHd]; simpa using hc0)
  have f5 : A.fa 5 (.ptr 0 0 0 0) He = some (.ptr 0 0 0 5) := q2i i0
  have s5 : A.store 1 (.ptr 0 0 0 5) (cv (kl t) t.l) He = some (He.set 0 (.row 0 7 26 [op2 t (cvG 1 t.d) (cv (kl t) t.l) (cvG (kb t) t.b)])) := q2x (j := 0) (off := 5) (v := cv (kl t) t.l) (w := eL 7 eT t.l) (cs := [.int .i64 t.kind, .bool t.neg, cvG 1 t.d, .str t.name, .int .i64 t.n, eL 7 eT t.l, cvG (kb t) t.b]) i0 rfl rfl (qeh _ _)
  have hfe : A.fillElems 1 [AV.nilp] [(0, 1, .ptr 0 0 0 0)] = some [.ptr 0 0 0 0] := by simp [A.fillElems]
  obtain ⟨H8, hH8⟩ : ∃ H8 : Heap, H8 = He.set 0 (.row 0 7 26 [op2 t (cvG 1 t.d) (cv (kl t) t.l) (cvG (kb t) t.b)]) := ⟨_, rfl⟩
  rw [← hH8] at s5
  have hl8 : H8.length = Hc.length := by rw [hH8, hHe, hHd]; simp
  have hz8 : H8[0]? = some (.row 0 7 26 [op2 t (cvG 1 t.d) (cv (kl t) t.l) (cvG (kb t) t.b)]) := by rw [hH8]; exact List.getElem?_set_self (by rw [hHe, hHd]; simpa using hc0)
  have hoth : ∀ (k : Nat) (o : HObj), k ≠ 0 → Hc[k]? = some o → H8[k]? = some o := fun k o hk ho => by
    rw [hH8, hHe, hHd, List.getElem?_set_ne (by omega), List.getElem?_set_ne (by omega), List.getElem?_set_ne (by omega)]
    exact ho
  have hlc : ∀ l, t.l = some l → Hc.length = kl t + 1 := fun l hl => by rw [hHc, hl]; simp [lHb, cr]
  have hk : ∀ l, t.l = some l → (H8 ++ [.row 0 1 86 [.ptr 0 0 0 0]])[kl t]? = some (.row (cw l) 7 26 (l.map eT)) := fun l hl => by
    have h1 := hlc l hl
    rw [List.getElem?_append_left (by omega)]
    refine hoth _ _ (by unfold kl kb; omega) ?_
    rw [hHc, List.getElem?_append_right (by omega), lHb, hl]
    simp [cr]
  have hz : (H8 ++ [.row 0 1 86 [.ptr 0 0 0 0]])[0]? = some (.row 0 7 26 [op2 t (cvG 1 t.d) (cv (kl t) t.l) (cvG (kb t) t.b)]) := by
    rw [List.getElem?_append_left (by omega)]
    exact hz8
  have hkl := kl_eq t
  have hlen8 : kl t ≤ H8.length := by rw [hl8, hHc]; simp; omega
  have hC : CInv t (cvG 1 t.d) (cv (kl t) t.l) (cvG (kb t) t.b) (kK t) H8.length 0 1 [⟨0, 0, 0, t, kl t⟩] (H8 ++ [.row 0 1 86 [.ptr 0 0 0 0]]) := by
    refine ⟨⟨hz, ?_⟩, ⟨[.ptr 0 0 0 0], by simp, rfl, by simp⟩, ?_, ?_, List.pairwise_singleton _ _, ?_, ?_, by omega⟩
    · cases hl : t.l with
      | none => exact .nil _ hl
      | some l =>
        refine .own _ l _ _ _ _ hl (hk l hl) (by simp) fun j hj => ?_
        rw [List.getElem_map]
        exact .imm _
    · intro e hee
      rw [List.mem_singleton] at hee
      rw [hee]
      exact ⟨_, _, _, hz, rfl, hk⟩
    · intro e hee ho
      rw [List.mem_singleton] at hee
      rw [hee] at ho ⊢
      obtain ⟨l, hl⟩ : ∃ l, t.l = some l := by
        cases hl : t.l with
        | none => exact absurd hl ho
        | some l => exact ⟨l, rfl⟩
      have := hlc l hl
      refine ⟨?_, ?_, ?_⟩
      · show kl t ≠ H8.length
        omega
      · show kl t < (H8 ++ _).length
        simp
        omega
      · show (kK t).length < kl t
        omega
    · intro e hee f hf' _
      rw [List.mem_singleton] at hee hf'
      rw [hee, hf']
      show 0 ≠ kl t
      omega
    · intro j o hj
      have hjl := (List.getElem?_eq_some_iff.1 hj).1
      rw [List.getElem?_append_left (by omega)]
      refine hoth _ _ (by omega) ?_
      have e : Hb = [.row 0 7 26 [eT t]] ++ kK t := by
        rw [hHb, hHa]
        unfold kK
        simp
      rw [hHc, List.getElem?_append_left (by omega), e, List.getElem?_append_right (by simp)]
      simpa using hj
  obtain ⟨H', ⟨hv0, hv⟩, hkp, hL⟩ := cp_outer (t3 := .ptr 0 0 0 0) (c1 := [.int .i64 0, .bool false, .nils, .str [], .int .i64 0, .nils, .nils]) t.size _ _ _ _ (by simp [Tm.sizes]) hsz hC (fun e hee => by
    rw [List.mem_singleton] at hee
    rw [hee]
    exact hf)
  have hone := qeh (kl t) t.l
  have hod := q65 1 t.d
  have hob := q65 (kb t) t.b
  have hld : A.load true 7 (.ptr 0 0 0 0) H' = some (op2 t (cvG 1 t.d) (cv (kl t) t.l) (cvG (kb t) t.b)) := by
    simp only [A.load, A.elemAt, hv0]
    rfl
  refine ⟨H', ⟨hv0, hv⟩, hkp, Evs.withL hL (Evs.of fun n m h1 _ R k => ?_)⟩
  have h1' : qgo (polT TCp) n n ⟨[.ptr 0 0 0 0, .sl H8.length 0 0 1 1], [[.int .i64 0, .bool false, .nils, .str [], .int .i64 0, .nils, .nils]]⟩ (H8 ++ [.row 0 1 86 [.ptr 0 0 0 0]]) = some (0, ⟨[.ptr 0 0 0 0], [[.int .i64 0, .bool false, .nils, .str [], .int .i64 0, .nils, .nils]]⟩, H') := h1
  have w1 : (op2 t (cvG 1 t.d) (cv (kl t) t.l) (cvG (kb t) t.b)).cells = [.int .i64 t.kind, .bool t.neg, cvG 1 t.d, .str t.name, .int .i64 t.n, cv (kl t) t.l, cvG (kb t) t.b] := rfl
  have w2 : A.fits 7 (op2 t (cvG 1 t.d) (cv (kl t) t.l) (cvG (kb t) t.b)) = true := by
    show ((7 == 7) && [AV.int .i64 t.kind, .bool t.neg, cvG 1 t.d, .str t.name, .int .i64 t.n, cv (kl t) t.l, cvG (kb t) t.b].all AV.one) = true
    simp only [List.all_cons, List.all_nil, hod, hob, hone]
    rfl
  have w3 : ∀ a b c d e f g : AV, A.ofList true 7 [a, b, c, d, e, f, g] 0 = some (.agg [a, b, c, d, e, f, g]) := fun a b c d e f g => rfl
  have w4 : op2 t (cvG 1 t.d) (cv (kl t) t.l) (cvG (kb t) t.b) = .agg [.int .i64 t.kind, .bool t.neg, cvG 1 t.d, .str t.name, .int .i64 t.n, cv (kl t) t.l, cvG (kb t) t.b] := rfl
  have w5 : ∀ a b c d e f g a' b' c' d' e' f' g' : AV, A.splice [a, b, c, d, e, f, g] 0 [a', b', c', d', e', f', g'] = [a', b', c', d', e', f', g'] := fun _ _ _ _ _ _ _ _ _ _ _ _ _ _ => rfl
  rw [w4] at w2
  clear hC hL h1 hoth hk hz hz8 hkp hv hv0
  rw [q02] at hof
  generalize cvG 1 t.d = VD at *
  generalize cvG (kb t) t.b = VB at *
  generalize cv (kl t) t.l = VL at *
  simp [↓q03, ↓q0b, ↓q09, ↓q01, ↓q0m, ↓q0g, ↓q06, ↓q07, S44, hof, st0, k2, k6, k5, f2, s2, f6, s6, f5, s5, hfe, h1', hld, w2, w3, w4, w5]
theorem frz_op2 {n : Nat} {H : Heap} {t : Tm} {vd vl vb : AV} (hd : A.freezeB true (n + 1) H vd = some (eD t.d)) (hl : A.freezeB true (n + 1) H vl = some (eL 7 eT t.l)) (hb : A.freezeB true (n + 1) H vb = some (eL 1 eb t.b)) : A.freezeB true (n + 2) H (op2 t vd vl vb) = some (eT t) := by
  show ([AV.int .i64 t.kind, .bool t.neg, vd, .str t.name, .int .i64 t.n, vl, vb].mapM (A.freezeB true (n + 1) H)).map AV.agg = _
  have h0 : A.freezeB true (n + 1) H (.int .i64 t.kind) = some (.int .i64 t.kind) := rfl
  have h1 : A.freezeB true (n + 1) H (.bool t.neg) = some (.bool t.neg) := rfl
  have h3 : A.freezeB true (n + 1) H (.str t.name) = some (.str t.name) := rfl
  have h4 : A.freezeB true (n + 1) H (.int .i64 t.n) = some (.int .i64 t.n) := rfl
  rw [q39]
  simp [List.mapM_cons, h0, h1, hd, h3, h4, hl, hb]
theorem qhf {α : Type} {ty : TypeId} {e : α → AV} {n id : Nat} {H : Heap} {o : Option (List α)} (he : ∀ x, (e x).flat0 = true ∧ (e x).isDef = true) (h : ∀ (j : Nat) (ob : HObj), (crG ty e o)[j]? = some ob → H[j + id]? = some ob) : A.freezeB true (n + 2) H (cvG id o) = some (eL 1 e o) := by
  cases o with
  | none => rfl
  | some l =>
    have h1 := h 0 (.row (cwG l) 1 ty (l.map e)) rfl
    rw [Nat.zero_add] at h1
    exact q1b h1 (by simp) (fun v hv => by
      obtain ⟨x, -, rfl⟩ := List.mem_map.1 hv
      exact he x)
theorem frz_rd {H : Heap} {t : Tm} {v : AV} {n : Nat} (hs : shal (n + 1) t) (h : Rd H (op t v) t) : A.freezeB true (n + 1) H v = some (eL 7 eT t.l) := by
  have hf := qcg (n + 1) t _ hs h
  have : ([AV.int .i64 t.kind, .bool t.neg, eD t.d, .str t.name, .int .i64 t.n, v, eL 1 eb t.b].mapM (A.freezeB true (n + 1) H)).map AV.agg = some (eT t) := hf
  rw [q39] at this
  have hd : A.freezeB true (n + 1) H (eD t.d) = some (eD t.d) := q9e
  have hb : A.freezeB true (n + 1) H (eL 1 eb t.b) = some (eL 1 eb t.b) := q9e
  have h0 : A.freezeB true (n + 1) H (.int .i64 t.kind) = some (.int .i64 t.kind) := rfl
  have h1 : A.freezeB true (n + 1) H (.bool t.neg) = some (.bool t.neg) := rfl
  have h3 : A.freezeB true (n + 1) H (.str t.name) = some (.str t.name) := rfl
  have h4 : A.freezeB true (n + 1) H (.int .i64 t.n) = some (.int .i64 t.n) := rfl
  cases hv : A.freezeB true (n + 1) H v with
  | none => simp [List.mapM_cons, h0, h1, hd, h3, h4, hb, hv] at this
  | some w =>
    simp [List.mapM_cons, h0, h1, hd, h3, h4, hb, hv] at this
    rw [this]
theorem copy_frz {t : Tm} {vl : AV} {H : Heap} (hs : shal 63 t) (hv : Rd H (op t vl) t) (hkp : ∀ (j : Nat) (o : HObj), (kK t)[j]? = some o → H[j + 1]? = some o) : A.freezeB true 64 H (op2 t (cvG 1 t.d) vl (cvG (kb t) t.b)) = some (eT t) := by
  refine frz_op2 (qhf (ty := 59) (fun x => ⟨rfl, rfl⟩) fun j o hj => ?_) (frz_rd hs hv) (qhf (ty := 5) (fun x => ⟨rfl, rfl⟩) fun j o hj => ?_)
  · refine hkp j o ?_
    unfold kK
    rw [List.getElem?_append_left (List.getElem?_eq_some_iff.1 hj).1]
    exact hj
  · have := hkp ((crG 59 eu t.d).length + j) o (by
      unfold kK
      rw [List.getElem?_append_right (by omega), show (crG 59 eu t.d).length + j - (crG 59 eu t.d).length = j by omega]
      exact hj)
    unfold kb
    rw [show j + (1 + (crG 59 eu t.d).length) = (crG 59 eu t.d).length + j + 1 by omega]
    exact this
noncomputable def pCopyR : Pol := .prim (runF base TCp 44)
theorem okCopyR : PolOK base 44 pCopyR := qiv base_ok TCp ⟨okDcl, okBcl, okTclone, trivial⟩
theorem kCopyR {t : Tm} (h : copyT t) : ∃ H' : Heap, Rd H' (op t (cv (kl t) t.l)) t ∧ (∀ (j : Nat) (o : HObj), (kK t)[j]? = some o → H'[j + 1]? = some o) ∧ ∀ (R : Type) (k : AV → Heap → Option R), polK pCopyR [eT t] [] k = k (op2 t (cvG 1 t.d) (cv (kl t) t.l) (cvG (kb t) t.b)) H' := by
  obtain ⟨H', ⟨-, hv⟩, hkp, hE⟩ := copy_run h
  exact ⟨H', hv, hkp, fun R k => k_run (qb0 (hE.mono fun n m h1 => h1 _ _))⟩
end Go.Proofs.YtleikacgncpfbaaDoor

/- Terms: tuples and lists. -/
set_option maxRecDepth 100000
set_option maxHeartbeats 4000000
namespace Go.Proofs.YtleikacgncpfbaaDoor
open Go Go.Den
def tupT (l : List Tm) : Tm := .mk 4 false none [] 0 (nz l) none
def listT : List Tm → Tm
  | [] => .mk 5 false none [] 0 none none
  | x :: r => .mk 6 false none [] 0 (some [x, listT r]) none
def partT (u : Tm) : Prop := copyT u ∧ shal 20 u
noncomputable abbrev TTup : List (FuncId × Pol) := [(44, pCopy)]
def allP (o : Option (List Tm)) : Prop := (∀ u ∈ o.getD [], partT u) ∧ (o.getD []).length ≤ 1000
noncomputable def pTuple : Pol := .still (p1 cTs eT allP fun o => tupT (o.getD []))
end Go.Proofs.YtleikacgncpfbaaDoor

/- Terms: lists. -/
set_option maxRecDepth 100000
set_option maxHeartbeats 4000000
namespace Go.Proofs.YtleikacgncpfbaaDoor
open Go Go.Den
noncomputable def pNil : Pol := .still (Cd.f0 (eT (listT [])))
noncomputable abbrev TLst : List (FuncId × Pol) := [(47, pNil), (44, pCopy)]
def allL (o : Option (List Tm)) : Prop := (∀ u ∈ o.getD [], partT u) ∧ (o.getD []).length ≤ 40
noncomputable def pList : Pol := .still (p1 cTs eT allL fun o => listT (o.getD []))
end Go.Proofs.YtleikacgncpfbaaDoor

/- The seat's first question: by computation. -/
set_option maxRecDepth 100000
namespace Go.Proofs.YtleikacgncpfbaaDoor.awake5
open Go Go.Den
def qds : List FuncId := [15, 17, 19, 21, 30, 31, 39, 44, 47, 54, 55, 56, 58, 59, 69, 71, 72, 73, 75, 77, 78, 79, 82, 83, 84, 97, 98, 99, 106]
noncomputable def env0 : Env := { P := Tryd.prog, pol := fun _ => .plain, ann := fun _ => {}, glob := fun g => bif Nat.beq g 0 then flatD (H := Unit) Rows.laid_unicode_utf8_first else bif Nat.beq g 1 then flatD (H := Unit) Rows.laid_unicode_utf8_acceptRanges else none }
def qcr : List (Nat × List (Nat × Nat × Nat)) := []
def qdw : List (Nat × List (Nat × Nat × Nat)) → Nat → List (Nat × Nat × Nat)
  | [], _ => []
  | (g, l) :: r, f => bif Nat.beq g f then l else qdw r f
def annsIn (f : Nat) : Ann :=  .nil
noncomputable def tab (f : FuncId) : FAnn :=
  match Tryd.prog.funcs[f]? with
  | some fn => { ann := annsIn f, depth := Nat.log2 fn.ntmps + 1, sites := qdw qcr f, draws := mkDraws env0 (qdw qcr f) fn }
  | none => {}
noncomputable def env : Env := { env0 with ann := fun f => if f ∈ qds then tab f else {} }
theorem env_ok : EnvOK env := envOK qds (by kernel_rfl) (fun f hf => by show (if f ∈ qds then tab f else {}).draws = []; rw [if_neg hf]) (by kernel_rfl)
theorem prims_ok : ∀ f, env.pol f = .plain ∨ ∃ F, env.pol f = .prim F ∧ PrimOK env f F := fun f => by
  refine .inl ?_
  show ( Pol.plain) = _
  rfl
theorem calls_ok (n : Nat) : CallOK env (callF env n) := qd3 env_ok (by kernel_rfl) prims_ok n
def qb1 : Option AV → Bool
  | some (.bool true) => true
  | _ => false
theorem qje {x : Option AV} (h : qb1 x = true) : x = some (.bool true) := by
  unfold qb1 at h
  split at h
  · rfl
  · cases h
theorem known : callF env 300 AV 15 [] [] (fun v G => A.freezeB true 64 G v) = some (.bool true) := qje (by kernel_rfl)
end Go.Proofs.YtleikacgncpfbaaDoor.awake5
namespace Go.Proofs.YtleikacgncpfbaaDoor
open Go Go.Den
noncomputable def qat : Pol := .still (Cd.f0 (.bool true))
theorem okAwake5 : PolOK base 15 qat := qcf (E := base) (E' := awake5.env) rfl rfl awake5.calls_ok fun xs v h => by
  unfold Cd.f0 at h
  split at h
  · cases h
    exact ⟨300, awake5.known⟩
  · cases h
theorem q85 {R : Type} {H : Heap} {k : AV → Heap → Option R} : polK qat [] H k = k (.bool true) H := by
  unfold qat
  rw [q0i (by simp)]
  rfl
end Go.Proofs.YtleikacgncpfbaaDoor

/- Terms in a row: are they few and small; how many parts and words a tuple and a list have. -/
set_option maxRecDepth 100000
set_option maxHeartbeats 4000000
namespace Go.Proofs.YtleikacgncpfbaaDoor
open Go Go.Den
theorem qj5 {most : Int} (hm : most ≤ 1000) : ∀ t dep, roomS t dep most = true → fineT t := fun t => q72 (P := fun t => ∀ dep, roomS t dep most = true → fineT t) (fun t ih dep h => by
  rw [q49] at h
  simp only [Bool.and_eq_true, Bool.not_eq_true', Bool.or_eq_false_iff, decide_eq_false_iff_not, List.all_eq_true] at h
  obtain ⟨⟨⟨⟨⟨h1, h2⟩, h3⟩, h4⟩, h5⟩, h6⟩ := h
  exact fineT_eq.2 ⟨⟨by unfold few; omega, by unfold fewB; omega, by omega⟩, fun u hu => ih u hu _ (h6 u hu)⟩) t
end Go.Proofs.YtleikacgncpfbaaDoor

/- Terms: the reference's copies, in a plain form. -/
set_option maxRecDepth 100000
set_option maxHeartbeats 4000000
namespace Go.Proofs.YtleikacgncpfbaaDoor
open Go Go.Den
mutual
def canonT : Tm → Tm
  | .mk k x d s n l b => .mk k x (nz (d.getD [])) s n (canonO l) (nz (b.getD []))
def canonO : Option (List Tm) → Option (List Tm)
  | none => none
  | some l => nz (canons l)
def canons : List Tm → List Tm
  | [] => []
  | t :: l => canonT t :: canons l
end
theorem q94 : ∀ l : List Tm, canons l = l.map canonT
  | [] => by simp [canons]
  | t :: l => by rw [canons, q94 l]; rfl
theorem q15 (t : Tm) : canonT t = .mk t.kind t.neg (nz (t.d.getD [])) t.name t.n (nz (t.kids.map canonT)) (nz (t.b.getD [])) := by
  cases t with
  | mk k x d s n l b =>
    rw [canonT]
    cases l with
    | none => rw [canonO]; rfl
    | some l => rw [canonO, q94]; rfl
structure SameT (a b : Tm) : Prop where
  kind : a.kind = b.kind
  neg : a.neg = b.neg
  d : a.d.getD [] = b.d.getD []
  name : a.name = b.name
  n : a.n = b.n
  kids : a.kids.map canonT = b.kids.map canonT
  b : a.b.getD [] = b.b.getD []
section
variable {α : Type} {e : α → AV} {sz bytes : Nat} {ty : TypeId}
def nv (l : List α) (id : Nat) : AV := if l = [] then .nils else .sl id 0 0 l.length l.length
def nr (e : α → AV) (sz : Nat) (ty : TypeId) (l : List α) : List HObj := if l = [] then [] else [.row 0 sz ty (l.map e)]
theorem qed {l : List α} (hb : 0 < bytes) (hm : l.length * bytes ≤ 140737488355328) {H : Heap} : A.append sz bytes ty .nils (l.map e) H = some (nv l H.length, H ++ nr e sz ty l) := by
  cases l with
  | nil => simp [nv, nr, A.append]
  | cons x l =>
    rw [nil_append (by simp) hb (by simpa using hm)]
    simp [nv, nr]
theorem nv_one (l : List α) (id : Nat) : (nv l id).one = true ∧ (nv l id).cells = [nv l id] ∧ (nv l id).isDef = true := by
  unfold nv
  split <;> exact ⟨rfl, rfl, rfl⟩
theorem nv_frz {l : List α} {id m : Nat} {H : Heap} (hf : ∀ x, (e x).flat0 = true ∧ (e x).isDef = true) (h : l ≠ [] → H[id]? = some (.row 0 sz ty (l.map e))) : A.freezeB true (m + 2) H (nv l id) = some (eL sz e (nz l)) := by
  unfold nv nz
  by_cases hl : l = []
  · rw [if_pos hl, if_pos hl]
    rfl
  · rw [if_neg hl, if_neg hl]
    exact q1b (b := true) (m := m) (h hl) (by simp) (fun y hy => by
      obtain ⟨x, _, rfl⟩ := List.mem_map.1 hy
      exact hf x)
end
theorem frz_eT {n : Nat} {H : Heap} {t : Tm} : A.freezeB true (n + 2) H (eT t) = some (eT t) := by
  rw [← qap]
  exact qeq q9e
theorem qfx {n id w cap : Nat} {l : List Tm} {H : Heap} (hr : H[id]? = some (.row w 7 26 (l.map eT))) : A.freezeB true (n + 2) H (.sl id w 0 l.length cap) = some (.sh 7 (l.map eT)) := by
  show (match H[id]? with | some (.row w' z _ es) => if w' = w ∧ 0 + l.length ≤ es.length then (((es.drop 0).take l.length).mapM fun (e : AV) => match e with | AV.agg cs => (cs.mapM (A.freezeB true (n + 1) H)).map AV.agg | e => A.freezeB true (n + 1) H e).map (AV.sh z) else none | _ => none) = _
  rw [hr]
  dsimp only
  rw [if_pos ⟨rfl, by simp⟩, List.drop_zero, List.take_of_length_le (by simp)]
  have : ((l.map eT).mapM fun (e : AV) => match e with | AV.agg cs => (cs.mapM (A.freezeB true (n + 1) H)).map AV.agg | e => A.freezeB true (n + 1) H e) = some (l.map eT) := qez rfl fun i hi => by
    have hf : A.freezeB true (n + 2) H (l.map eT)[i] = some (l.map eT)[i] := by
      rw [List.getElem_map]
      exact frz_eT
    have hcs : ∃ cs, (l.map eT)[i] = .agg cs := by
      rw [List.getElem_map]
      exact ⟨_, q39 _⟩
    obtain ⟨cs, hcs⟩ := hcs
    rw [hcs] at hf ⊢
    exact hf
  rw [this]
  rfl
/-! ### a row of terms that grows, while what was there before stands -/
def OutK (K : Nat) (H0 H : Heap) (v : AV) (l : List Tm) : Prop :=
  (∀ j, j < K → H[j]? = H0[j]?) ∧ K ≤ H.length ∧ ((l = [] ∧ v = .nils) ∨ ∃ id ver, l ≠ [] ∧ v = .sl id ver 0 l.length l.length ∧ H[id]? = some (.row ver 7 26 (l.map eT)) ∧ K ≤ id)
theorem OutK.push {K : Nat} {H0 H : Heap} {v : AV} {l : List Tm} (h : OutK K H0 H v l) (x : Tm) (hm : (l.length + 1) * 112 ≤ 140737488355328) :
    ∃ v' H', A.append 7 112 26 v [eT x] (H ++ [.row 0 7 26 [eT x]]) = some (v', H') ∧ OutK K H0 H' v' (l ++ [x]) := by
  obtain ⟨h1, h2, h⟩ := h
  rcases h with ⟨rfl, rfl⟩ | ⟨id, ver, h0, rfl, h3, h4⟩
  · refine ⟨_, _, nil_append (news := [eT x]) (by simp) (by omega) (by simp), fun j hj => ?_, by simp; omega, .inr ⟨_, 0, by simp, rfl, q1e, by simp; omega⟩⟩
    rw [List.getElem?_append_left (by simp; omega), List.getElem?_append_left (by omega)]
    exact h1 j hj
  · have h5 := qax h3 [.row 0 7 26 [eT x]]
    refine ⟨_, _, q1n (news := [eT x]) h5 (by simp) (by simp) (by omega) (by simpa using hm), fun j hj => ?_, by simp; omega, .inr ⟨id, ver + 1, by simp, by simp, ?_, h4⟩⟩
    · rw [List.getElem?_set_ne (by omega), List.getElem?_append_left (by omega)]
      exact h1 j hj
    · rw [qdu h5]
      simp
theorem qf3 {K : Nat} {H0 H : Heap} {v : AV} {l : List Tm} (h : OutK K H0 H v l) : v.one = true ∧ v.cells = [v] := by
  rcases h.2.2 with ⟨-, rfl⟩ | ⟨_, _, -, rfl, -⟩ <;> exact ⟨rfl, rfl⟩
theorem outK_frz {K n : Nat} {H0 H : Heap} {v : AV} {l : List Tm} (h : OutK K H0 H v l) : A.freezeB true (n + 2) H v = some (eL 7 eT (nz l)) := by
  rcases h.2.2 with ⟨rfl, rfl⟩ | ⟨id, ver, h0, rfl, h3, -⟩
  · rfl
  · unfold nz
    rw [if_neg h0]
    exact qfx h3
/-! ### the copy -/
def rcp (t : Tm) : Prop := tame t ∧ fineT t
noncomputable def pRcopy (n : Nat) : Pol := .still (p1 cT eT (fun t => t.size ≤ n ∧ rcp t) canonT)
theorem qRcopy' {n : Nat} {R : Type} {t : Tm} (h : t.size ≤ n) (h2 : rcp t) {H : Heap} {k : AV → Heap → Option R} : polQ (pRcopy n) [eT t] H k = k (eT (canonT t)) H := by
  simp [pRcopy, q2d, h, h2]
def rc (t : Tm) (vd vl vb : AV) : List AV := [.int .i64 t.kind, .bool t.neg, vd, .str t.name, .int .i64 t.n, vl, vb]
theorem qga {n : Nat} {t : Tm} {K : Nat} {H0 : Heap} {c1 : List AV} {vd vb : AV} (hs : t.size ≤ n + 1) (ht : rcp t) : ∀ (k i : Nat) (v : AV) (H : Heap), i + k = t.kids.length → OutK K H0 H v ((t.kids.take i).map canonT) →
    ∃ v' H', LDoes (L46_0 (polT [(46, pRcopy n)])) ⟨[.int .i64 (i : Int)], [(eT t).cells, c1, rc t vd v vb]⟩ H 0 ⟨[], [c1, rc t vd v' vb]⟩ H' ∧ OutK K H0 H' v' (t.kids.map canonT) := by
  have hln : ∀ H, A.len (eL 7 eT t.l) H = some (.int .i64 ((t.kids.length : Nat) : Int)) := fun H => q08
  have oc : A.ofList false 1 (eT t).cells 5 = some (eL 7 eT t.l) := by rw [q02]; rfl
  have hl : t.kids.length ≤ 1000 := (tame_eq.1 ht.1).1.2.2
  intro k
  induction k with
  | zero =>
    intro i v H hi hO
    have : i = t.kids.length := by omega
    subst this
    rw [List.take_length] at hO
    refine ⟨v, H, LDoes.step (Evs.of fun n m => ?_), hO⟩
    generalize (eT t).cells = ct at *
    generalize (t.kids.length : Int) = N at *
    simp [↓q00, ↓q01, -q08, q8z, oc, hln]
  | succ k ih =>
    intro i v H hi hO
    have hlt : i < t.kids.length := by omega
    have hlt' : (i : Int) < (t.kids.length : Int) := by omega
    have hmem : t.kids[i] ∈ t.kids := List.getElem_mem hlt
    have hx : A.idx 7 (eL 7 eT t.l) (.int .i64 (i : Int)) H = some (.rop (eT t.kids[i]).cells) := q3u (sz := 7) (e := eT) (o := t.l) (H := H) (k := .i64) (i := i) hlt
    have hld := q13 (t := t.kids[i]) (H := H)
    have hsz : (t.kids[i]).size ≤ n := by
      have := Tm.size_kid (t := t) (u := t.kids[i]) hmem
      omega
    have hcp : ∀ (R : Type) (H : Heap) (k : AV → Heap → Option R), polQ (pRcopy n) [eT t.kids[i]] H k = k (eT (canonT t.kids[i])) H := fun R H k => qRcopy' hsz ⟨(tame_eq.1 ht.1).2 _ hmem, (fineT_eq.1 ht.2).2 _ hmem⟩
    obtain ⟨v1, H1, happ, hO1⟩ := hO.push (canonT t.kids[i]) (by simp; omega)
    have htk : (t.kids.take i).map canonT ++ [canonT t.kids[i]] = (t.kids.take (i + 1)).map canonT := by rw [List.take_succ_eq_append_getElem hlt, List.map_append, List.map_cons, List.map_nil]
    rw [htk] at hO1
    obtain ⟨v', H', hL, hO'⟩ := ih (i + 1) v1 H1 (by omega) hO1
    obtain ⟨ho1, hc1⟩ := qf3 hO1
    have hf1 : A.fits 1 v1 = true := by simp [A.fits, hc1, ho1]
    have hi1 : IntKind.wrap .i64 ((i : Int) + 1) = (i : Int) + 1 := q0h (by omega) (by omega)
    have hfe : A.fillElems 7 [.agg [.int .i64 0, .bool false, .nils, .str [], .int .i64 0, .nils, .nils]] [(0, 1, eT (canonT t.kids[i]))] = some [eT (canonT t.kids[i])] := by simp [A.fillElems, q02]
    have hrd : A.read 7 (.sl H.length 0 0 1 1) (H ++ [.row 0 7 26 [eT (canonT t.kids[i])]]) = some [eT (canonT t.kids[i])] := tmp_read
    have hsp1 : A.splice (rc t vd v vb) 5 [v1] = rc t vd v1 vb := rfl
    have ho5 : A.ofList false 1 (rc t vd v vb) 5 = some v := rfl
    have hrl : (rc t vd v vb).length = 7 := rfl
    simp only [Int.natCast_add, Int.natCast_one] at hL
    refine ⟨v', H', LDoes.step (Evs.withL hL (Evs.of fun n m _ h2 => ?_)), hO'⟩
    generalize (eT t).cells = ct at *
    generalize rc t vd v vb = r0 at *
    generalize rc t vd v1 vb = r1 at *
    generalize rc t vd v' vb = r2 at *
    generalize eT t.kids[i] = x at *
    generalize eT (canonT t.kids[i]) = y at *
    generalize (t.kids.length : Int) = N at *
    simp [↓q00, ↓q03, ↓q0b, ↓q09, ↓q01, ↓q0m, ↓q0u, ↓q07, -q08, q8z, oc, hln, hlt', ho5, hx, hld, hcp, hfe, q0w q4c, hrd, happ, hf1, hc1, hrl, hsp1, hi1, h2]
theorem qis : ∀ n, PolOK base 46 (pRcopy n)
  | 0 => still1 base_ok [] trivial fun t ⟨hs, _⟩ => by
    have := t.size_eq
    omega
  | n + 1 => still1 base_ok [(46, pRcopy n)] ⟨qis n, trivial⟩ fun t ⟨hs, ht⟩ => by
    have hf := (fineT_eq.1 ht.2).1
    have hfd := hf.1
    have hfb := hf.2.1
    unfold few at hfd
    unfold fewB at hfb
    obtain ⟨H2, hH2⟩ : ∃ H2 : Heap, H2 = nr eu 1 59 (t.d.getD []) ++ nr eb 1 5 (t.b.getD []) := ⟨_, rfl⟩
    obtain ⟨i1, hi1⟩ : ∃ i1, i1 = (nr eu 1 59 (t.d.getD [])).length := ⟨_, rfl⟩
    have r1 : A.read 1 (eD t.d) [] = some ((t.d.getD []).map eu) := qj3
    have r2 : A.read 1 (eL 1 eb t.b) (nr eu 1 59 (t.d.getD [])) = some ((t.b.getD []).map eb) := qj3
    have a1 : A.append 1 4 59 .nils ((t.d.getD []).map eu) [] = some (nv (t.d.getD []) 0, nr eu 1 59 (t.d.getD [])) := by
      have := qed (e := eu) (sz := 1) (ty := 59) (bytes := 4) (l := t.d.getD []) (by omega) (by omega) (H := [])
      simpa using this
    have a2 : A.append 1 1 5 .nils ((t.b.getD []).map eb) (nr eu 1 59 (t.d.getD [])) = some (nv (t.b.getD []) i1, H2) := by
      have := qed (e := eb) (sz := 1) (ty := 5) (bytes := 1) (l := t.b.getD []) (by omega) (by omega) (H := nr eu 1 59 (t.d.getD []))
      rw [hH2, hi1]
      exact this
    have hO0 : OutK H2.length H2 H2 .nils ((t.kids.take 0).map canonT) := ⟨fun _ _ => rfl, Nat.le_refl _, .inl ⟨by simp, rfl⟩⟩
    obtain ⟨v', H', hL, hO⟩ := qga (c1 := [.int .i64 0, .bool false, .nils, .str [], .int .i64 0, .nils, .nils]) (vd := nv (t.d.getD []) 0) (vb := nv (t.b.getD []) i1) hs ht t.kids.length 0 .nils H2 (by omega) hO0
    obtain ⟨o1, p1, f1⟩ := nv_one (t.d.getD []) 0
    obtain ⟨o2, p2, f2⟩ := nv_one (t.b.getD []) i1
    obtain ⟨o3, p3⟩ := qf3 hO
    have g1 : (t.d.getD []) ≠ [] → H'[0]? = some (.row 0 1 59 ((t.d.getD []).map eu)) := fun hne => by
      have e : nr eu 1 59 (t.d.getD []) = [.row 0 1 59 ((t.d.getD []).map eu)] := by unfold nr; rw [if_neg hne]
      have : 0 < H2.length := by rw [hH2, e]; simp
      rw [hO.1 0 this, hH2, e]
      rfl
    have g2 : (t.b.getD []) ≠ [] → H'[i1]? = some (.row 0 1 5 ((t.b.getD []).map eb)) := fun hne => by
      have e : nr eb 1 5 (t.b.getD []) = [.row 0 1 5 ((t.b.getD []).map eb)] := by unfold nr; rw [if_neg hne]
      have : i1 < H2.length := by rw [hH2, e, hi1]; simp
      rw [hO.1 i1 this, hH2, e, hi1]
      simp
    have z1 : A.freezeB true 63 H' (nv (t.d.getD []) 0) = some (eD (nz (t.d.getD []))) := nv_frz (e := eu) (m := 61) (fun x => ⟨rfl, rfl⟩) g1
    have z2 : A.freezeB true 63 H' (nv (t.b.getD []) i1) = some (eL 1 eb (nz (t.b.getD []))) := nv_frz (e := eb) (m := 61) (fun x => ⟨rfl, rfl⟩) g2
    have z3 : A.freezeB true 63 H' v' = some (eL 7 eT (nz (t.kids.map canonT))) := outK_frz (n := 61) hO
    have hfz : A.freezeB true 64 H' (.agg (rc t (nv (t.d.getD []) 0) v' (nv (t.b.getD []) i1))) = some (eT (canonT t)) := by
      show ((rc t (nv (t.d.getD []) 0) v' (nv (t.b.getD []) i1)).mapM (A.freezeB true 63 H')).map AV.agg = _
      have h0 : A.freezeB true 63 H' (.int .i64 t.kind) = some (.int .i64 t.kind) := rfl
      have h1 : A.freezeB true 63 H' (.bool t.neg) = some (.bool t.neg) := rfl
      have h3 : A.freezeB true 63 H' (.str t.name) = some (.str t.name) := rfl
      have h4 : A.freezeB true 63 H' (.int .i64 t.n) = some (.int .i64 t.n) := rfl
      have e : eT (canonT t) = .agg (rc t (eD (nz (t.d.getD []))) (eL 7 eT (nz (t.kids.map canonT))) (eL 1 eb (nz (t.b.getD [])))) := by
        rw [q15, q39]
        rfl
      rw [e]
      unfold rc
      simp only [List.mapM_cons, List.mapM_nil, h0, h1, z1, h3, h4, z3, z2]
      rfl
    have hft : ∀ v : AV, v.one = true → A.fits 7 (.agg (rc t (nv (t.d.getD []) 0) v (nv (t.b.getD []) i1))) = true := fun v hv => by
      show ((7 == 7) && [AV.int .i64 t.kind, .bool t.neg, nv (t.d.getD []) 0, .str t.name, .int .i64 t.n, v, nv (t.b.getD []) i1].all AV.one) = true
      simp only [List.all_cons, List.all_nil, o1, o2, hv]
      rfl
    have hft0 := hft .nils rfl
    have hft1 := hft v' o3
    have hfl : A.fill [.int .i64 0, .bool false, .nils, .str [], .int .i64 0, .nils, .nils] [(0, 1, .int .i64 t.kind), (1, 1, .bool t.neg), (3, 1, .str t.name), (4, 1, .int .i64 t.n), (2, 1, nv (t.d.getD []) 0), (6, 1, nv (t.b.getD []) i1)] = some (rc t (nv (t.d.getD []) 0) .nils (nv (t.b.getD []) i1)) := by
      simp [A.fill, A.splice, p1, p2, f1, f2, rc]
    have hspl : ∀ v, A.splice [.int .i64 0, .bool false, .nils, .str [], .int .i64 0, .nils, .nils] 0 (rc t (nv (t.d.getD []) 0) v (nv (t.b.getD []) i1)) = rc t (nv (t.d.getD []) 0) v (nv (t.b.getD []) i1) := fun v => rfl
    have hol : ∀ v, A.ofList true 7 (rc t (nv (t.d.getD []) 0) v (nv (t.b.getD []) i1)) 0 = some (.agg (rc t (nv (t.d.getD []) 0) v (nv (t.b.getD []) i1))) := fun v => rfl
    have hrl : ∀ v, (rc t (nv (t.d.getD []) 0) v (nv (t.b.getD []) i1)).length = 7 := fun v => rfl
    rw [q02] at hL
    refine Evs.withL hL (Evs.of fun n m h1 _ => ?_)
    simp only [Int.natCast_zero] at h1
    generalize nv (t.d.getD []) 0 = vd at *
    generalize nv (t.b.getD []) i1 = vb at *
    generalize nr eu 1 59 (t.d.getD []) = H1 at *
    simp [↓q0b, ↓q01, ↓q0m, ↓q0u, ↓q06, ↓q07, -q08, S46, q0w q1f, q0w q0y, r1, a1, r2, a2, hfl, hft0, hspl, hrl, h1, hol, hft1, hfz]
noncomputable def q6j : Pol := .still (p1 cT eT rcp canonT)
theorem okRcopyA : PolOK base 46 q6j := q4b (F := fun n => p1 cT eT (fun t => t.size ≤ n ∧ rcp t) canonT) qis fun zs v h => by
  match zs, h with
  | [a], h =>
    simp only [p1_app, Option.bind_eq_some_iff] at h ⊢
    obtain ⟨t, ht, h⟩ := h
    split at h
    · rename_i hc
      exact ⟨t.size, t, ht, by rw [if_pos ⟨Nat.le_refl _, hc⟩]; exact h⟩
    · cases h
end Go.Proofs.YtleikacgncpfbaaDoor

/- Terms in order, by the program; the greatest of some. -/
set_option maxRecDepth 100000
set_option maxHeartbeats 4000000
namespace Go.Proofs.YtleikacgncpfbaaDoor
open Go Go.Den Go.Lib
noncomputable abbrev TSrt : List (FuncId × Pol) := [(44, pCopy), (76, pSts)]
def srtT (t : Tm) : Prop := copyT t ∧ okA t ∧ okR t
noncomputable def sortS (l : List Tm) : List Tm := (sortR [] l).reverse
def srtOk (o : Option (List Tm)) : Prop := (∀ u ∈ o.getD [], srtT u) ∧ (o.getD []).length ≤ 20
noncomputable def pSort : Pol := .still (p1 cTs (fun l => eL 7 eT (nz l)) srtOk fun o => sortS (o.getD []))
noncomputable def maxL : Tm → List Tm → Tm
  | m, [] => m
  | m, x :: r => maxL (if 0 < cmpT x m then x else m) r
noncomputable abbrev TMax : List (FuncId × Pol) := [(44, pCopy), (25, pCom)]
def maxOk (o : Option (List Tm)) : Prop := (∀ u ∈ o.getD [], srtT u) ∧ (o.getD []).length ≤ 1000
def nilT : Tm := .mk 0 false none [] 0 none none
noncomputable def maxS : List Tm → Tm × Bool
  | [] => (nilT, false)
  | x :: r => (maxL x (x :: r), true)
noncomputable def pMax : Pol := .still (p1 cTs (fun r : Tm × Bool => .tup [eT r.1, .bool r.2]) maxOk fun o => maxS (o.getD []))
end Go.Proofs.YtleikacgncpfbaaDoor

/- Terms in order, by the reference; rows that are the same. -/
set_option maxRecDepth 100000
set_option maxHeartbeats 4000000
namespace Go.Proofs.YtleikacgncpfbaaDoor
open Go Go.Den Go.Lib
/-! ### are two terms the same? -/
def bothR (a b : Tm) : Prop := okR a ∧ okR b
noncomputable def pSameX : Pol := .still (p2 cT cT .bool bothR fun a b => decide (cmpT a b = 0))
theorem kSameX {R : Type} {a b : Tm} (h1 : okR a) (h2 : okR b) {H : Heap} {k : AV → Heap → Option R} : polK pSameX [eT a, eT b] H k = k (.bool (decide (cmpT a b = 0))) H := by
  have h : bothR a b := ⟨h1, h2⟩
  simp [pSameX, q0i, h]
theorem okSameX : PolOK base 41 pSameX := still2 base_ok [(26, pRcomA)] ⟨okRcomA, trivial⟩ fun a b h => by
  have ca : (eT a).cells.length = 7 := by rw [q02]; rfl
  have cb : (eT b).cells.length = 7 := by rw [q02]; rfl
  have oa : A.ofList true 7 (eT a).cells 0 = some (eT a) := q13 (H := [])
  have ob : A.ofList true 7 (eT b).cells 0 = some (eT b) := q13 (H := [])
  have hc : ∀ (R : Type) (H : Heap) (k : AV → Heap → Option R), polK pRcomA [eT a, eT b] H k = k (.int .i64 (cmpT a b)) H := fun R H k => kRcomA h.1 h.2
  generalize cmpT a b = Z at *
  refine Evs.of fun n m => ?_
  simp [↓q0b, ↓q01, ↓q07, -q02, S41, ca, cb, oa, ob, hc]
/-! ### rows that are the same -/
def rowSame (a b : List Tm) : Prop := a.length = b.length ∧ (∀ (i : Nat) (h : i < a.length) (h' : i < b.length), cmpT a[i] b[i] = 0) ∧ (∀ u ∈ a, okR u) ∧ (∀ u ∈ b, okR u) ∧ a.length ≤ 1000
def rowOkX (a b : Option (List Tm)) : Prop := rowSame (a.getD []) (b.getD [])
noncomputable abbrev TRowX : List (FuncId × Pol) := [(41, pSameX)]
noncomputable def pRowX : Pol := .still (p2 cTs cTs .bool rowOkX fun _ _ => true)
noncomputable abbrev TRst : List (FuncId × Pol) := [(46, q6j), (26, pRcomA)]
theorem qgw : ∀ t : Tm, okR t → okR (canonT t) := q72 fun t ih h => by
  have h := okR_eq.1 h
  have hk : (canonT t).kids = t.kids.map canonT := by rw [q15]; exact q3j _
  refine okR_eq.2 ⟨?_, fun u hu => ?_⟩
  · obtain ⟨h1, h2, h3, h4⟩ := h.1
    refine ⟨?_, ?_, ?_, ?_⟩
    · rw [q15]
      show few (nz (t.d.getD []))
      unfold few
      rw [q3j]
      exact h1
    · rw [q15]; exact h2
    · rw [q15]
      show ((nz (t.b.getD [])).getD []).length ≤ _
      rw [q3j]
      exact h3
    · rw [hk, List.length_map]; exact h4
  · rw [hk] at hu
    obtain ⟨v, hv, rfl⟩ := List.mem_map.1 hu
    exact ih v hv (h.2 v hv)
def rstT (t : Tm) : Prop := rcp t ∧ okR t
def rstOk (o : Option (List Tm)) : Prop := (∀ u ∈ o.getD [], rstT u) ∧ (o.getD []).length ≤ 1000
noncomputable def pRsort : Pol := .still (p1 cTs (fun l => eL 7 eT (nz l)) rstOk fun o => sortS ((o.getD []).map canonT))
end Go.Proofs.YtleikacgncpfbaaDoor

/- Terms in order: what is so of a row that is sorted. -/
set_option maxRecDepth 100000
set_option maxHeartbeats 4000000
namespace Go.Proofs.YtleikacgncpfbaaDoor
open Go Go.Den Go.Lib
def desc (l : List Tm) : Prop := l.Pairwise fun a b => cmpT b a ≤ 0
def asc (l : List Tm) : Prop := l.Pairwise fun a b => cmpT a b ≤ 0
theorem q93 (t : Tm) : (canonT t).kids = t.kids.map canonT := by rw [q15]; exact q3j _
theorem qgy : ∀ t : Tm, cmpT t (canonT t) = 0 := q72 fun t ih => by
  have ho : oneT t (canonT t) = 0 := by
    have k : (canonT t).kind = t.kind := by rw [q15]; rfl
    unfold oneT
    rw [k, q93]
    have n0 : ¬ t.kind ≠ t.kind := fun g => g rfl
    rw [if_neg n0]
    split
    · apply cmpI_eq.2
      rw [q15]
      show toI (t.neg, t.d) = toI (t.neg, nz (t.d.getD []))
      unfold toI mag
      dsimp only
      rw [q3j]
    split
    · apply (qc3 _ _).2
      rw [q15]
      rfl
    split
    · apply ord_zero.2
      rw [q15]
      rfl
    split
    · apply ord_zero.2
      rw [List.length_map]
    split
    · apply (q48 _ _).2
      rw [q15]
      show nums (t.b.getD []) = nums ((nz (t.b.getD [])).getD [])
      rw [q3j]
    · rfl
  have n1 : ¬ oneT t (canonT t) ≠ 0 := fun g => g ho
  rw [q64, if_neg n1, q93]
  split
  · have : ∀ l : List Tm, (∀ u ∈ l, cmpT u (canonT u) = 0) → cmpTs l (l.map canonT) = 0 := fun l => by
      induction l with
      | nil => intro _; rw [q2j]
      | cons u l ihl =>
        intro h
        have n2 : ¬ cmpT u (canonT u) ≠ 0 := fun g => g (h u (by simp))
        rw [List.map_cons, q2y, if_neg n2]
        exact ihl fun v hv => h v (by simp [hv])
    exact this _ ih
  · rfl
end Go.Proofs.YtleikacgncpfbaaDoor

/- The law on a term that is copied: what its function answers. -/
set_option maxRecDepth 100000
set_option maxHeartbeats 8000000
namespace Go.Proofs.YtleikacgncpfbaaDoor
open Go Go.Den Go.Lib
theorem kRcopy {R : Type} {t : Tm} (h : rcp t) {H : Heap} {k : AV → Heap → Option R} : polK q6j [eT t] H k = k (eT (canonT t)) H := by
  simp [q6j, q0i, h]
noncomputable abbrev TLsm : List (FuncId × Pol) := [(15, qat), (16, pRoomA), (18, pRMayA), (44, pCopyR), (41, pSameX), (45, pTsame), (46, q6j)]
theorem okTLsm : TabOK base TLsm := ⟨okAwake5, okRoomA, okRMayA, okCopyR, okSameX, okTsame, okRcopyA, trivial⟩
theorem qf7 {t : Tm} (h1 : roomS t 10 60 = true) (h2 : mayS t = true) : copyT t ∧ okA t ∧ okR t ∧ t.size ≤ 1000000000 ∧ rcp t := by
  have hr := room_okR (by omega) t 10 h1
  have hf := qj5 (by omega) t 10 h1
  have ht := q8i (by omega) t 10 h1
  unfold mayS at h2
  simp only [Bool.and_eq_true, decide_eq_true_eq] at h2
  have hs : t.size ≤ 1000000000 := by
    rw [size_szT t h2.2]
    have := h2.1
    omega
  exact ⟨⟨hf, qcl 63 t 10 (by omega) h1, hs⟩, may_okA t hr h2.2, hr, hs, ⟨ht, hf⟩⟩
/-! ### the loops that write on a copy -/
def sevens (es : List AV) : Prop := ∀ e ∈ es, ∃ cs : List AV, e = .agg cs ∧ cs.length = 7
theorem wl_loop {id w cap N : Nat} {c0 c2 c3 : List AV} (hN : N ≤ 1000000) (h2 : A.ofList false 1 c2 5 = some (.sl id w 0 N cap)) : ∀ (j i : Nat) (H : Heap) (es : List AV), i + j = N → H[id]? = some (.row w 7 26 es) → es.length = N → sevens es →
    ∃ H', LDoes (qfh (polT TLsm)) ⟨[.int .i64 (i : Int)], [c0, c2, c3]⟩ H 0 ⟨[], [c0, c2, c3]⟩ H' ∧ ∀ k, k ≠ id → H'[k]? = H[k]? := by
  intro j
  induction j with
  | zero =>
    intro i H es hi hH hl ha
    have hz : ¬ ((i : Int) < (N : Int)) := by omega
    have f0 : A.len (.sl id w 0 N cap) H = some (.int .i64 (N : Int)) := by simp [A.len, A.alive, hH]
    refine ⟨H, LDoes.step (Evs.of fun n m => ?_), fun k _ => rfl⟩
    generalize (N : Int) = NN at *
    generalize (i : Int) = I at *
    simp [↓q00, ↓q01, q5n, h2, f0, hz]
  | succ j ih =>
    intro i H es hi hH hl ha
    have hz : ((i : Int) < (N : Int)) := by omega
    have f0 : A.len (.sl id w 0 N cap) H = some (.int .i64 (N : Int)) := by simp [A.len, A.alive, hH]
    have f1 : A.idx 7 (.sl id w 0 N cap) (.int .i64 (i : Int)) H = some (.ptr id w i 0) := by
      have := q4r (cap := cap) (off := 0) (k := .i64) hH (i := (i : Int)) (n := N) (by omega) hz
      simpa using this
    have hlt : i < es.length := by omega
    have hf : (A.fill [(AV.int .i64 0), (AV.bool false), AV.nils, (AV.str []), (AV.int .i64 0), AV.nils, AV.nils] [(0, 1, (AV.int .i64 5))]).map AV.agg = some (.agg [(AV.int .i64 5), (AV.bool false), AV.nils, (AV.str []), (AV.int .i64 0), AV.nils, AV.nils]) := rfl
    obtain ⟨cs, hcs, hc7⟩ := ha es[i] (List.getElem_mem hlt)
    have hg : es[i]? = some (.agg cs) := by rw [List.getElem?_eq_getElem hlt, hcs]
    have f2 : ∃ es', A.store 7 (.ptr id w i 0) (.agg [(AV.int .i64 5), (AV.bool false), AV.nils, (AV.str []), (AV.int .i64 0), AV.nils, AV.nils]) H = some (H.set id (.row w 7 26 es')) ∧ es'.length = N ∧ sevens es' := by
      have hfit : A.fits 7 (.agg [(AV.int .i64 5), (AV.bool false), AV.nils, (AV.str []), (AV.int .i64 0), AV.nils, AV.nils]) = true := rfl
      refine ⟨es.set i (.agg (A.splice cs 0 [(AV.int .i64 5), (AV.bool false), AV.nils, (AV.str []), (AV.int .i64 0), AV.nils, AV.nils])), ?_, by simpa using hl, fun e he => ?_⟩
      · have h7 : 7 ≤ cs.length := by omega
        simp [A.store, hfit, hH, A.setElem, hg, h7, AV.cells]
      · rcases List.mem_or_eq_of_mem_set he with h | h
        · exact ha e h
        · exact ⟨_, h, by simp [A.splice, hc7]⟩
    obtain ⟨es', f2, hl', ha'⟩ := f2
    have hw : IntKind.wrap .i64 ((i : Int) + 1) = ((i + 1 : Nat) : Int) := by rw [q0h (by omega) (by omega)]; omega
    have hid := (List.getElem?_eq_some_iff.1 hH).1
    obtain ⟨H', hL, hk⟩ := ih (i + 1) (H.set id (.row w 7 26 es')) es' (by omega) (List.getElem?_set_self hid) hl' ha'
    refine ⟨H', LDoes.step (Evs.withL hL (Evs.of fun n m _ h4 => ?_)), fun k hne => by rw [hk k hne, List.getElem?_set_ne (fun e => hne e.symm)]⟩
    generalize (N : Int) = NN at *
    generalize ((i + 1 : Nat) : Int) = I1 at *
    generalize (i : Int) = I at *
    simp [↓q00, ↓q01, ↓q0g, q5n, h2, f0, hz, f1, hf, f2, hw, h4]
theorem wl_nil {c0 c2 c3 : List AV} (h2 : A.ofList false 1 c2 5 = some .nils) (H : Heap) : LDoes (qfh (polT TLsm)) ⟨[.int .i64 0], [c0, c2, c3]⟩ H 0 ⟨[], [c0, c2, c3]⟩ H := by
  have f0 : A.len .nils H = some (.int .i64 0) := rfl
  exact LDoes.step (Evs.of fun n m => by simp [↓q00, ↓q01, q5n, h2, f0])
def allI (k : IntKind) (es : List AV) : Prop := ∀ e ∈ es, ∃ z, e = .int k z
theorem store1 {id w i : Nat} {ty : TypeId} {es : List AV} {H : Heap} {k : IntKind} {z : Int} (hH : H[id]? = some (.row w 1 ty es)) (hlt : i < es.length) (ha : allI k es) : (∃ y, A.load false 1 (.ptr id w i 0) H = some (.int k y)) ∧ A.store 1 (.ptr id w i 0) (.int k z) H = some (H.set id (.row w 1 ty (es.set i (.int k z)))) ∧ allI k (es.set i (.int k z)) := by
  obtain ⟨y, hy⟩ := ha es[i] (List.getElem_mem hlt)
  have hg : es[i]? = some (.int k y) := by rw [List.getElem?_eq_getElem hlt, hy]
  refine ⟨⟨y, by simp [A.load, A.elemAt, hH, hg, A.ofList, AV.cells]⟩, ?_, fun e he => ?_⟩
  · have hfit : A.fits 1 (.int k z) = true := rfl
    simp [A.store, hfit, hH, A.setElem, hg, AV.cells, A.splice]
  · rcases List.mem_or_eq_of_mem_set he with h | h
    · exact ha e h
    · exact ⟨z, h⟩
theorem wb_loop {id w cap N : Nat} {ty : TypeId} {c0 c2 c3 : List AV} (hN : N ≤ 1000000) (h2 : A.ofList false 1 c2 6 = some (.sl id w 0 N cap)) : ∀ (j i : Nat) (H : Heap) (es : List AV), i + j = N → H[id]? = some (.row w 1 ty es) → es.length = N → allI .u8 es →
    ∃ H', LDoes (qfi (polT TLsm)) ⟨[.int .i64 (i : Int)], [c0, c2, c3]⟩ H 0 ⟨[], [c0, c2, c3]⟩ H' ∧ ∀ k, k ≠ id → H'[k]? = H[k]? := by
  intro j
  induction j with
  | zero =>
    intro i H es hi hH hl ha
    have hz : ¬ ((i : Int) < (N : Int)) := by omega
    have f0 : A.len (.sl id w 0 N cap) H = some (.int .i64 (N : Int)) := by simp [A.len, A.alive, hH]
    refine ⟨H, LDoes.step (Evs.of fun n m => ?_), fun k _ => rfl⟩
    generalize (N : Int) = NN at *
    generalize (i : Int) = I at *
    simp [↓q00, ↓q01, q5o, h2, f0, hz]
  | succ j ih =>
    intro i H es hi hH hl ha
    have hz : ((i : Int) < (N : Int)) := by omega
    have f0 : A.len (.sl id w 0 N cap) H = some (.int .i64 (N : Int)) := by simp [A.len, A.alive, hH]
    have f1 : A.idx 1 (.sl id w 0 N cap) (.int .i64 (i : Int)) H = some (.ptr id w i 0) := by
      have := q4r (cap := cap) (off := 0) (k := .i64) hH (i := (i : Int)) (n := N) (by omega) hz
      simpa using this
    have hlt : i < es.length := by omega
    obtain ⟨⟨y, f2⟩, -, -⟩ := store1 (z := 0) hH hlt ha
    obtain ⟨-, f3, ha'⟩ := store1 (z := IntKind.wrap .u8 (y + 1)) hH hlt ha
    have hw : IntKind.wrap .i64 ((i : Int) + 1) = ((i + 1 : Nat) : Int) := by rw [q0h (by omega) (by omega)]; omega
    have hid := (List.getElem?_eq_some_iff.1 hH).1
    obtain ⟨H', hL, hk⟩ := ih (i + 1) (H.set id (.row w 1 ty (es.set i (.int .u8 (IntKind.wrap .u8 (y + 1)))))) _ (by omega) (List.getElem?_set_self hid) (by simpa using hl) ha'
    refine ⟨H', LDoes.step (Evs.withL hL (Evs.of fun n m _ h4 => ?_)), fun k hne => by rw [hk k hne, List.getElem?_set_ne (fun e => hne e.symm)]⟩
    have hadd : A.bin base.P .add 5 (.int .u8 y) (.int .u8 1) true H = some (.int .u8 (IntKind.wrap .u8 (y + 1))) := by simp
    generalize H.set id (.row w 1 ty (es.set i (.int .u8 (IntKind.wrap .u8 (y + 1))))) = H2 at *
    generalize IntKind.wrap .u8 (y + 1) = Y at *
    generalize (N : Int) = NN at *
    generalize ((i + 1 : Nat) : Int) = I1 at *
    generalize (i : Int) = I at *
    simp [↓q00, ↓q01, ↓q0g, q5o, h2, f0, hz, f1, f2, hadd, f3, hw, h4]
theorem wb_nil {c0 c2 c3 : List AV} (h2 : A.ofList false 1 c2 6 = some .nils) (H : Heap) : LDoes (qfi (polT TLsm)) ⟨[.int .i64 0], [c0, c2, c3]⟩ H 0 ⟨[], [c0, c2, c3]⟩ H := by
  have f0 : A.len .nils H = some (.int .i64 0) := rfl
  exact LDoes.step (Evs.of fun n m => by simp [↓q00, ↓q01, q5o, h2, f0])
theorem wd_loop {id w cap N : Nat} {ty : TypeId} {c0 c2 c3 : List AV} (hN : N ≤ 1000000) (h2 : A.ofList false 1 c2 2 = some (.sl id w 0 N cap)) : ∀ (j i : Nat) (H : Heap) (es : List AV), i + j = N → H[id]? = some (.row w 1 ty es) → es.length = N → allI .u32 es →
    ∃ H', LDoes (qfj (polT TLsm)) ⟨[.int .i64 (i : Int)], [c0, c2, c3]⟩ H 0 ⟨[], [c0, c3]⟩ H' ∧ ∀ k, k ≠ id → H'[k]? = H[k]? := by
  intro j
  induction j with
  | zero =>
    intro i H es hi hH hl ha
    have hz : ¬ ((i : Int) < (N : Int)) := by omega
    have f0 : A.len (.sl id w 0 N cap) H = some (.int .i64 (N : Int)) := by simp [A.len, A.alive, hH]
    refine ⟨H, LDoes.step (Evs.of fun n m => ?_), fun k _ => rfl⟩
    generalize (N : Int) = NN at *
    generalize (i : Int) = I at *
    simp [↓q00, ↓q01, q5p, h2, f0, hz]
  | succ j ih =>
    intro i H es hi hH hl ha
    have hz : ((i : Int) < (N : Int)) := by omega
    have f0 : A.len (.sl id w 0 N cap) H = some (.int .i64 (N : Int)) := by simp [A.len, A.alive, hH]
    have f1 : A.idx 1 (.sl id w 0 N cap) (.int .i64 (i : Int)) H = some (.ptr id w i 0) := by
      have := q4r (cap := cap) (off := 0) (k := .i64) hH (i := (i : Int)) (n := N) (by omega) hz
      simpa using this
    have hlt : i < es.length := by omega
    obtain ⟨⟨y, f2⟩, -, -⟩ := store1 (z := 0) hH hlt ha
    obtain ⟨-, f3, ha'⟩ := store1 (z := IntKind.wrap .u32 (y + 1)) hH hlt ha
    have hw : IntKind.wrap .i64 ((i : Int) + 1) = ((i + 1 : Nat) : Int) := by rw [q0h (by omega) (by omega)]; omega
    have hid := (List.getElem?_eq_some_iff.1 hH).1
    obtain ⟨H', hL, hk⟩ := ih (i + 1) (H.set id (.row w 1 ty (es.set i (.int .u32 (IntKind.wrap .u32 (y + 1)))))) _ (by omega) (List.getElem?_set_self hid) (by simpa using hl) ha'
    refine ⟨H', LDoes.step (Evs.withL hL (Evs.of fun n m _ h4 => ?_)), fun k hne => by rw [hk k hne, List.getElem?_set_ne (fun e => hne e.symm)]⟩
    have hadd : A.bin base.P .add 59 (.int .u32 y) (.int .u32 1) true H = some (.int .u32 (IntKind.wrap .u32 (y + 1))) := by simp
    generalize H.set id (.row w 1 ty (es.set i (.int .u32 (IntKind.wrap .u32 (y + 1))))) = H2 at *
    generalize IntKind.wrap .u32 (y + 1) = Y at *
    generalize (N : Int) = NN at *
    generalize ((i + 1 : Nat) : Int) = I1 at *
    generalize (i : Int) = I at *
    simp [↓q00, ↓q01, ↓q0g, q5p, h2, f0, hz, f1, f2, hadd, f3, hw, h4]
theorem wd_nil {c0 c2 c3 : List AV} (h2 : A.ofList false 1 c2 2 = some .nils) (H : Heap) : LDoes (qfj (polT TLsm)) ⟨[.int .i64 0], [c0, c2, c3]⟩ H 0 ⟨[], [c0, c3]⟩ H := by
  have f0 : A.len .nils H = some (.int .i64 0) := rfl
  exact LDoes.step (Evs.of fun n m => by simp [↓q00, ↓q01, q5p, h2, f0])
theorem qec {α : Type} {k : IntKind} {f : α → Int} (l : List α) : allI k (l.map fun x => .int k (f x)) := fun e he => by
  obtain ⟨x, -, rfl⟩ := List.mem_map.1 he
  exact ⟨_, rfl⟩
/-! ### the law -/
theorem law_same (a b : Tm) : Evs fun n _ => callF (base.with (polT TLsm)) (n + 1) AV 10 [eT a, eT b] [] (fun v _ => some v) = some (.bool true) := by
  have la : (eT a).cells.length = 7 := by rw [q02]; rfl
  have lb : (eT b).cells.length = 7 := by rw [q02]; rfl
  have oa : A.ofList true 7 (eT a).cells 0 = some (eT a) := q13 (H := [])
  have ob : A.ofList true 7 (eT b).cells 0 = some (eT b) := q13 (H := [])
  have da : (eT a).isDef = true := q7b
  have db : (eT b).isDef = true := q7b
  have r1 : ∀ (R : Type) (H : Heap) (k : AV → Heap → Option R), polK pRoomA [eT a, .int .i64 10, .int .i64 60] H k = k (.bool (roomS a 10 60)) H := fun R H k => kRoomA (by omega) (by omega) (by omega)
  have r2 : ∀ (R : Type) (H : Heap) (k : AV → Heap → Option R), polK pRoomA [eT b, .int .i64 10, .int .i64 60] H k = k (.bool (roomS b 10 60)) H := fun R H k => kRoomA (by omega) (by omega) (by omega)
  have e7 : ∀ (H : Heap) (x : Bool), A.bin base.P .neq 4 (.bool x) (.bool x) false H = some (.bool false) := fun H x => by
    have hb : base.P.underlying 4 = some .bool := by kernel_rfl
    cases x <;> simp [A.bin, hb]
  cases ha : roomS a 10 60
  · rw [ha] at r1
    generalize eT a = va at *
    generalize eT b = vb at *
    exact Evs.of fun n m => by simp [↓q00, ↓q0b, ↓q01, ↓q05, ↓q04, ↓q07, S10, q85, la, lb, oa, ob, da, db, r1, A.asG, guardB, A.pick]
  cases hb : roomS b 10 60
  · rw [ha] at r1
    rw [hb] at r2
    generalize eT a = va at *
    generalize eT b = vb at *
    exact Evs.of fun n m => by simp [↓q00, ↓q0b, ↓q01, ↓q05, ↓q04, ↓q07, S10, q85, la, lb, oa, ob, da, db, r1, r2, A.asG, guardB, A.pick]
  rw [ha] at r1
  rw [hb] at r2
  have m1 : ∀ (R : Type) (H : Heap) (k : AV → Heap → Option R), polK pRMayA [eT a] H k = k (.bool (mayS a)) H := fun R H k => kRMayA (q8i (by omega) a 10 ha)
  have m2 : ∀ (R : Type) (H : Heap) (k : AV → Heap → Option R), polK pRMayA [eT b] H k = k (.bool (mayS b)) H := fun R H k => kRMayA (q8i (by omega) b 10 hb)
  cases hma : mayS a
  · rw [hma] at m1
    generalize eT a = va at *
    generalize eT b = vb at *
    exact Evs.of fun n m => by simp [↓q00, ↓q0b, ↓q01, ↓q05, ↓q04, ↓q07, S10, q85, la, lb, oa, ob, da, db, r1, r2, m1, A.asG, guardB, A.pick]
  cases hmb : mayS b
  · rw [hma] at m1
    rw [hmb] at m2
    generalize eT a = va at *
    generalize eT b = vb at *
    exact Evs.of fun n m => by simp [↓q00, ↓q0b, ↓q01, ↓q05, ↓q04, ↓q07, S10, q85, la, lb, oa, ob, da, db, r1, r2, m1, m2, A.asG, guardB, A.pick]
  rw [hma] at m1
  rw [hmb] at m2
  obtain ⟨ca, aa, ra, sa, pa⟩ := qf7 ha hma
  obtain ⟨cb, ab, rb, sb, pb⟩ := qf7 hb hmb
  obtain ⟨H1, hrd, hkp, kc⟩ := kCopyR ca
  have hfz := copy_frz ca.2.1 hrd hkp
  have hfa : A.freezeB true 64 H1 (eT a) = some (eT a) := frz_eT
  have hself : decide (cmpT a a = 0) = true := by rw [cmp_self]; rfl
  have s1 : ∀ (R : Type) (k : AV → Heap → Option R), polK pSameX [eT a, op2 a (cvG 1 a.d) (cv (kl a) a.l) (cvG (kb a) a.b)] H1 k = k (.bool true) H1 := fun R k => by
    unfold pSameX
    rw [qav (q17 hfa (q17 hfz rfl))]
    have h : bothR a a := ⟨ra, ra⟩
    simp [h, hself]
    rfl
  have s2 : ∀ (R : Type) (k : AV → Heap → Option R), polK pTsame [eT a, op2 a (cvG 1 a.d) (cv (kl a) a.l) (cvG (kb a) a.b)] H1 k = k (.bool true) H1 := fun R k => by
    unfold pTsame
    rw [qav (q17 hfa (q17 hfz rfl))]
    have h : okA a ∧ okA a ∧ a.size ≤ 1000000000 := ⟨aa, aa, sa⟩
    simp [h, hself]
    rfl
  have s3 : ∀ (R : Type) (H : Heap) (k : AV → Heap → Option R), polK pTsame [eT a, eT b] H k = k (.bool (decide (cmpT a b = 0))) H := fun R H k => by
    have h : okA a ∧ okA b ∧ a.size ≤ 1000000000 := ⟨aa, ab, sa⟩
    simp [pTsame, q0i, h]
  have s4 : ∀ (R : Type) (H : Heap) (k : AV → Heap → Option R), polK pSameX [eT a, eT b] H k = k (.bool (decide (cmpT a b = 0))) H := fun R H k => kSameX ra rb
  have s5 : ∀ (R : Type) (H : Heap) (k : AV → Heap → Option R), polK q6j [eT a] H k = k (eT (canonT a)) H := fun R H k => kRcopy pa
  have s6 : ∀ (R : Type) (H : Heap) (k : AV → Heap → Option R), polK pSameX [eT a, eT (canonT a)] H k = k (.bool true) H := fun R H k => by
    rw [kSameX ra (qgw a ra), qgy]
    rfl
  -- the copy, cell by cell
  obtain ⟨c2, hc2⟩ : ∃ c2 : List AV, c2 = [.int .i64 a.kind, .bool a.neg, cvG 1 a.d, .str a.name, .int .i64 a.n, cv (kl a) a.l, cvG (kb a) a.b] := ⟨_, rfl⟩
  have hv : op2 a (cvG 1 a.d) (cv (kl a) a.l) (cvG (kb a) a.b) = .agg c2 := by rw [hc2]; rfl
  have hod := q65 1 a.d
  have hob := q65 (kb a) a.b
  have hol := qeh (kl a) a.l
  have v1 : A.fits 7 (.agg c2) = true := by
    rw [hc2]
    show ((7 == 7) && [AV.int .i64 a.kind, .bool a.neg, cvG 1 a.d, .str a.name, .int .i64 a.n, cv (kl a) a.l, cvG (kb a) a.b].all AV.one) = true
    simp only [List.all_cons, List.all_nil, hod, hob, hol]
    rfl
  have v2 : (AV.agg c2).cells = c2 := rfl
  have v3 : c2.length = 7 := by rw [hc2]; rfl
  have v4 : A.splice [(AV.int .i64 0), (AV.bool false), AV.nils, (AV.str []), (AV.int .i64 0), AV.nils, AV.nils] 0 c2 = c2 := by rw [hc2]; rfl
  have v5 : A.ofList true 7 c2 0 = some (.agg c2) := by rw [hc2]; rfl
  have w1 : (eT (canonT a)).cells.length = 7 := by rw [q02]; rfl
  have w2 : A.fits 7 (eT (canonT a)) = true := by
    rw [q15]
    simp [A.fits]
  have w3 : A.splice [(AV.int .i64 0), (AV.bool false), AV.nils, (AV.str []), (AV.int .i64 0), AV.nils, AV.nils] 0 (eT (canonT a)).cells = (eT (canonT a)).cells := by rw [q02]; rfl
  have w4 : A.ofList true 7 (eT (canonT a)).cells 0 = some (eT (canonT a)) := q13 (H := [])
  have fa := fineT_eq.1 ca.1
  have hL : ∃ H2, LDoes (qfh (polT TLsm)) ⟨[.int .i64 0], [(eT a).cells, c2, (eT (canonT a)).cells]⟩ H1 0 ⟨[], [(eT a).cells, c2, (eT (canonT a)).cells]⟩ H2 ∧ ∀ (k w : Nat) (ty : TypeId) (es : List AV), H1[k]? = some (.row w 1 ty es) → H2[k]? = some (.row w 1 ty es) := by
    have h5 : A.ofList false 1 c2 5 = some (cv (kl a) a.l) := by rw [hc2]; simp [A.ofList]
    cases hl : a.l with
    | none =>
      rw [hl] at h5
      exact ⟨H1, wl_nil h5 H1, fun k w ty es h => h⟩
    | some l =>
      rw [hl] at h5 hrd
      have hkl : l.length ≤ 1000 := by
        have := fa.1.2.2
        unfold Tm.kids at this
        rw [hl] at this
        exact this
      have hrow : ∃ es, H1[kl a]? = some (.row (cw l) 7 26 es) ∧ es.length = l.length ∧ sevens es := by
        generalize hu : op a (cv (kl a) (some l)) = u at hrd
        cases hrd with
        | imm =>
          rw [← qap] at hu
          have := (qcc hu).2.2.2.2.2.1
          rw [hl] at this
          cases this
        | nil =>
          have := (qcc hu).2.2.2.2.2.1
          cases this
        | own _ l' id w cap es h hr hn he =>
          have h6 := (qcc hu).2.2.2.2.2.1
          have h7 : AV.sl (kl a) (cw l) 0 l.length l.length = .sl id w 0 l'.length cap := h6
          injection h7 with q1 q2 _ q4 _
          subst q1 q2
          refine ⟨es, hr, by omega, fun e hee => ?_⟩
          obtain ⟨i, hi, rfl⟩ := List.getElem_of_mem hee
          obtain ⟨cs, hcs⟩ := rd_agg (he i hi)
          have := (rd_seven (he i hi)).1
          rw [hcs] at this
          exact ⟨cs, hcs, this⟩
      obtain ⟨es, hr, hn, hse⟩ := hrow
      obtain ⟨H2, g1, g2⟩ := wl_loop (N := l.length) (c0 := (eT a).cells) (c3 := (eT (canonT a)).cells) (by omega) h5 l.length 0 H1 es (by omega) hr hn hse
      refine ⟨H2, g1, fun k w ty es' h => ?_⟩
      rw [g2 k (fun e => by
        subst e
        rw [hr] at h
        injection h with h
        injection h with _ h
        cases h)]
      exact h
  obtain ⟨H2, hL1, hK2⟩ := hL
  have hB : ∃ H3, LDoes (qfi (polT TLsm)) ⟨[.int .i64 0], [(eT a).cells, c2, (eT (canonT a)).cells]⟩ H2 0 ⟨[], [(eT a).cells, c2, (eT (canonT a)).cells]⟩ H3 ∧ ∀ k, k ≠ kb a → H3[k]? = H2[k]? := by
    have h6 : A.ofList false 1 c2 6 = some (cvG (kb a) a.b) := by rw [hc2]; simp [A.ofList]
    cases hl : a.b with
    | none =>
      rw [hl] at h6
      exact ⟨H2, wb_nil h6 H2, fun k _ => rfl⟩
    | some l =>
      rw [hl] at h6
      have hr : H1[kb a]? = some (.row (cwG l) 1 5 (l.map eb)) := by
        have := hkp (crG 59 eu a.d).length (.row (cwG l) 1 5 (l.map eb)) (by
          unfold kK
          rw [List.getElem?_append_right (Nat.le_refl _), Nat.sub_self, hl]
          rfl)
        unfold kb
        rw [Nat.add_comm]
        exact this
      have hnb : l.length ≤ 1000000 := by
        have := fa.1.2.1
        unfold fewB at this
        rw [hl] at this
        exact this
      exact wb_loop (N := l.length) hnb h6 l.length 0 H2 _ (by omega) (hK2 _ _ _ _ hr) (by simp) (qec l)
  obtain ⟨H3, hL2, hK3⟩ := hB
  have hD : ∃ H4, LDoes (qfj (polT TLsm)) ⟨[.int .i64 0], [(eT a).cells, c2, (eT (canonT a)).cells]⟩ H3 0 ⟨[], [(eT a).cells, (eT (canonT a)).cells]⟩ H4 := by
    have h6 : A.ofList false 1 c2 2 = some (cvG 1 a.d) := by rw [hc2]; simp [A.ofList]
    cases hl : a.d with
    | none =>
      rw [hl] at h6
      exact ⟨H3, wd_nil h6 H3⟩
    | some l =>
      rw [hl] at h6
      have hr : H1[1]? = some (.row (cwG l) 1 59 (l.map eu)) := by
        have := hkp 0 (.row (cwG l) 1 59 (l.map eu)) (by
          unfold kK
          rw [hl]
          rfl)
        exact this
      have hnb : l.length ≤ 1000000 := by
        have := fa.1.1
        unfold few at this
        rw [hl] at this
        exact this
      have hne : 1 ≠ kb a := by
        unfold kb
        rw [hl]
        show 1 ≠ 1 + 1
        omega
      obtain ⟨H4, g1, -⟩ := wd_loop (N := l.length) (c0 := (eT a).cells) (c3 := (eT (canonT a)).cells) hnb h6 l.length 0 H3 _ (by omega) (by rw [hK3 1 hne]; exact hK2 _ _ _ _ hr) (by simp) (qec l)
      exact ⟨H4, g1⟩
  obtain ⟨H4, hL3⟩ := hD
  rw [hv] at kc s1 s2
  clear hfz hrd hkp hK2 hK3 hc2
  generalize decide (cmpT a b = 0) = X at *
  generalize eT (canonT a) = vc at *
  generalize eT a = va at *
  generalize eT b = vb at *
  refine Evs.withL hL1 (Evs.withL hL2 (Evs.withL hL3 (Evs.of fun n m g3 _ g2 _ g1 _ => ?_)))
  simp [↓q00, ↓q0b, ↓q01, ↓q05, ↓q04, ↓q06, ↓q07, S10, q85, la, lb, oa, ob, da, db, r1, r2, m1, m2, A.asG, guardB, A.pick, kc, v1, v2, v3, v4, v5, s1, s2, s3, s4, s5, s6, e7, w1, w2, w3, w4, g1, g2, g3]
end Go.Proofs.YtleikacgncpfbaaDoor
