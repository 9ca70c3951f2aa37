/- Texts put together: Or4, Mb1, Mb2, Mb3, Mb3A, Mb3B, Mb3C, Mb3D, Mb3E, Mb4, Mb5, Rms, Or7, Or8, Awake6, Lw6d, Ts1, Ts2, So1, Cp1, Cp2, Cq1, Cp3, Cp4, Cp5, Cp6, Cp7, Cp8, Cp9. -/
import Derived.Test.YtleikacgncpfbaaDoorMh
import Derived.Test.YtleikacgncpfbaaDoorRows

/- Any two terms: which is less, by the program. -/
set_option maxRecDepth 100000
set_option maxHeartbeats 4000000
namespace Go.Proofs.YtleikacgncpfbaaDoor
open Go Go.Den Go.Lib
/-! ### a pile -/
theorem qe1 {sz bytes ty q ver cap : Nat} {es todo news : List AV} {H : Heap} (hH : H[q]? = some (.row ver sz ty es)) (htk : es.take todo.length = todo) (hcap : todo.length ≤ cap) (h0 : 0 < bytes) (hb : (todo.length + news.length) * bytes ≤ 140737488355328) :
    ∃ ver' cap' es', A.append sz bytes ty (.sl q ver 0 todo.length cap) news H = some (.sl q ver' 0 (todo ++ news).length cap', H.set q (.row ver' sz ty es')) ∧ es'.take (todo ++ news).length = todo ++ news ∧ (todo ++ news).length ≤ cap' := by
  have hl : todo.length ≤ es.length := by
    have := congrArg List.length htk
    simp only [List.length_take] at this
    omega
  by_cases hc : todo.length + news.length ≤ cap
  · refine ⟨ver, cap, A.splice es todo.length news, ?_, ?_, by simpa using hc⟩
    · simp only [A.append, hH]
      rw [if_pos ⟨trivial, trivial, trivial, by omega, hcap, hb, h0⟩, if_pos hc]
      simp
    · have : A.splice es todo.length news = es.take todo.length ++ news ++ es.drop (todo.length + news.length) := rfl
      rw [this, htk, List.take_append_of_le_length (by simp), List.take_of_length_le (by simp)]
  · refine ⟨ver + 1, (todo ++ news).length, todo ++ news, ?_, ?_, Nat.le_refl _⟩
    · simp only [A.append, hH]
      rw [if_pos ⟨trivial, trivial, trivial, by omega, hcap, hb, h0⟩, if_neg hc]
      simp [htk]
    · rw [List.take_of_length_le (by simp)]
theorem q7h : ∀ a b : List Tm, Tm.sizes (a ++ b) = Tm.sizes a + Tm.sizes b
  | [], b => by simp [Tm.sizes]
  | t :: a, b => by simp only [List.cons_append, Tm.sizes, q7h a b]; omega
theorem szs_rev : ∀ a : List Tm, Tm.sizes a.reverse = Tm.sizes a
  | [] => rfl
  | t :: a => by
    rw [List.reverse_cons, q7h, szs_rev a]
    simp only [Tm.sizes]
    omega
theorem q9r : ∀ l : List Tm, l.length ≤ Tm.sizes l
  | [] => by simp
  | t :: l => by
    have := q9r l
    have h := t.size_eq
    simp only [List.length_cons, Tm.sizes]
    omega
/-! ### what is still to be compared, the next one first -/
noncomputable def cmpSt : List (Tm × Tm) → Int
  | [] => 0
  | p :: r => if cmpT p.1 p.2 ≠ 0 then cmpT p.1 p.2 else cmpSt r
theorem qd7 : ∀ (l m : List Tm) (r : List (Tm × Tm)), cmpSt (l.zip m ++ r) = if cmpTs l m ≠ 0 then cmpTs l m else cmpSt r
  | [], m, r => by rw [q1u]; simp
  | t :: l, [], r => by rw [q1z]; simp
  | t :: l, u :: m, r => by
    rw [q18]
    show (if cmpT t u ≠ 0 then cmpT t u else cmpSt (l.zip m ++ r)) = _
    rw [qd7 l m r]
    by_cases h : cmpT t u = 0
    · have n1 : ¬ cmpT t u ≠ 0 := fun g => g h
      rw [if_neg n1, if_neg n1]
    · rw [if_pos h, if_pos h, if_pos h]
theorem qhj (a b : Tm) (r : List (Tm × Tm)) : cmpSt ((a, b) :: r) = if oneT a b ≠ 0 then oneT a b else if a.kind = 4 ∨ a.kind = 6 then cmpSt (a.kids.zip b.kids ++ r) else cmpSt r := by
  show (if cmpT a b ≠ 0 then cmpT a b else cmpSt r) = _
  rw [q2s, qd7]
  by_cases h : oneT a b = 0
  · have n1 : ¬ oneT a b ≠ 0 := fun g => g h
    rw [if_neg n1, if_neg n1]
    split <;> simp
  · rw [if_pos h, if_pos h, if_pos h]
def okOneT (t : Tm) : Prop := okK t ∧ t.kids.length ≤ 1000
def okA (t : Tm) : Prop := evT okOneT t
theorem okA_eq {t : Tm} : okA t ↔ okOneT t ∧ ∀ u ∈ t.kids, okA u := qdf
noncomputable abbrev TCom : List (FuncId × Pol) := [(62, pOne2), (63, pOkind)]
theorem ty_pairs : base.P.underlying 74 = some (.slice 73) := by kernel_rfl
theorem push_loop {a b : Tm} {q : Nat} (hlen : a.kids.length = b.kids.length) : ∀ (j : Nat) (z : Int), z = (j : Int) - 1 → j ≤ a.kids.length → ∀ (Q : List (Tm × Tm)) (H : Heap) (ver cap : Nat) (es : List AV), H[q]? = some (.row ver 14 73 es) → es.take (Q.map eP).length = Q.map eP → (Q.map eP).length ≤ cap → Q.length + j ≤ 100000000000 →
    ∃ H' ver' cap' es', LDoes (L25_1 (polT TCom)) ⟨[.sl q ver 0 (Q.map eP).length cap, .int .i64 z], [(eP (a, b)).cells]⟩ H 0 ⟨[.sl q ver' 0 ((Q ++ ((a.kids.zip b.kids).take j).reverse).map eP).length cap'], []⟩ H' ∧
      H'[q]? = some (.row ver' 14 73 es') ∧ es'.take ((Q ++ ((a.kids.zip b.kids).take j).reverse).map eP).length = (Q ++ ((a.kids.zip b.kids).take j).reverse).map eP ∧ ((Q ++ ((a.kids.zip b.kids).take j).reverse).map eP).length ≤ cap' := by
  have o1 : A.ofList false 1 (eP (a, b)).cells 5 = some (eL 7 eT a.l) := q2x (by rw [q0v]; rfl) (by cases a.l <;> rfl)
  have o2 : A.ofList false 1 (eP (a, b)).cells 12 = some (eL 7 eT b.l) := q2x (by rw [q0v]; rfl) (by cases b.l <;> rfl)
  intro j
  induction j with
  | zero =>
    intro z hz hj Q H ver cap es hH htk hcap hb
    have hz' : ¬ (0 : Int) ≤ z := by omega
    refine ⟨H, ver, cap, es, LDoes.step (Evs.of fun n m => ?_), hH, by simpa using htk, by simpa using hcap⟩
    simp only [List.take_zero, List.reverse_nil, List.append_nil]
    generalize (eP (a, b)).cells = C at *
    generalize (Q.map eP).length = N at *
    simp [↓q00, ↓q01, qa5, hz']
  | succ j ih =>
    intro z hz hj Q H ver cap es hH htk hcap hb
    have hz' : (0 : Int) ≤ z := by omega
    have hzj : z = (j : Int) := by omega
    have hja : j < a.kids.length := by omega
    have hjb : j < b.kids.length := by omega
    have x1 : A.idx 7 (eL 7 eT a.l) (.int .i64 (j : Int)) H = some (.rop (eT a.kids[j]).cells) := q33 (sz := 7) (e := eT) (o := a.l) (H := H) (k := .i64) (i := j) hja
    have x2 : A.idx 7 (eL 7 eT b.l) (.int .i64 (j : Int)) H = some (.rop (eT b.kids[j]).cells) := q33 (sz := 7) (e := eT) (o := b.l) (H := H) (k := .i64) (i := j) hjb
    have d1 := q0w (t := a.kids[j]) (H := H)
    have d2 := q0w (t := b.kids[j]) (H := H)
    have hf := qbm (a := a.kids[j]) (b := b.kids[j])
    have hfe : A.fillElems 14 [AV.agg [(AV.int .i64 0), (AV.bool false), AV.nils, (AV.str []), (AV.int .i64 0), AV.nils, AV.nils, (AV.int .i64 0), (AV.bool false), AV.nils, (AV.str []), (AV.int .i64 0), AV.nils, AV.nils]] [(0, 1, eP (a.kids[j], b.kids[j]))] = some [eP (a.kids[j], b.kids[j])] := by
      simp [A.fillElems, q3e]
    have hb1 : ((Q.map eP).length + [eP (a.kids[j], b.kids[j])].length) * 224 ≤ 140737488355328 := by
      simp only [List.length_map, List.length_cons, List.length_nil]
      omega
    have hq : q < H.length := (List.getElem?_eq_some_iff.1 hH).1
    have hH1 : (H ++ [HObj.row 0 14 73 [eP (a.kids[j], b.kids[j])]])[q]? = some (.row ver 14 73 es) := by rw [List.getElem?_append_left hq]; exact hH
    have hrd : A.read 14 (.sl H.length 0 0 1 1) (H ++ [HObj.row 0 14 73 [eP (a.kids[j], b.kids[j])]]) = some [eP (a.kids[j], b.kids[j])] := by
      simp [A.read]
    obtain ⟨ver1, cap1, es1, g1, g2, g3⟩ := qe1 (sz := 14) (bytes := 224) (ty := 73) hH1 htk hcap (by omega) hb1
    have hmm : Q.map eP ++ [eP (a.kids[j], b.kids[j])] = (Q ++ [(a.kids[j], b.kids[j])]).map eP := by simp
    rw [hmm] at g1 g2 g3
    obtain ⟨H', ver', cap', es', hL, h1, h2, h3⟩ := ih (z - 1) (by omega) (by omega) (Q ++ [(a.kids[j], b.kids[j])]) ((H ++ [HObj.row 0 14 73 [eP (a.kids[j], b.kids[j])]]).set q (.row ver1 14 73 es1)) ver1 cap1 es1 (List.getElem?_set_self (by simp; omega)) g2 g3 (by simp; omega)
    have hzip : Q ++ ((a.kids.zip b.kids).take (j + 1)).reverse = Q ++ [(a.kids[j], b.kids[j])] ++ ((a.kids.zip b.kids).take j).reverse := by
      have : (a.kids.zip b.kids).take (j + 1) = (a.kids.zip b.kids).take j ++ [(a.kids[j], b.kids[j])] := by
        rw [List.take_succ_eq_append_getElem (by simp; omega)]
        simp
      rw [this, List.reverse_append]
      simp
    rw [hzip]
    have hw : IntKind.wrap .i64 (z - 1) = z - 1 := q0f (by omega) (by omega)
    refine ⟨H', ver', cap', es', LDoes.step (Evs.withL hL (Evs.of fun n m _ h4 => ?_)), h1, h2, h3⟩
    rw [← hzj] at x1 x2
    generalize (eP (a, b)).cells = C at *
    generalize (Q.map eP).length = N at *
    generalize ((Q ++ [(a.kids[j], b.kids[j])]).map eP).length = M at *
    generalize eP (a.kids[j], b.kids[j]) = vp at *
    generalize eT a.kids[j] = va at *
    generalize eT b.kids[j] = vb at *
    simp [↓q00, ↓q05, ↓q09, ↓q01, ↓q0c, ↓q0m, qa5, hz', o1, o2, x1, x2, d1, d2, hf, hfe, q0y ty_pairs, hrd, g1, hw, h4]
theorem qj8 {p : Tm × Tm} : A.fits 14 (eP p) = true := by
  have := q0v p
  unfold A.fits
  rw [this]
  cases p.1.d <;> cases p.2.d <;> cases p.1.l <;> cases p.2.l <;> cases p.1.b <;> cases p.2.b <;> rfl
theorem topP {es : List AV} {Q : List (Tm × Tm)} {x : Tm × Tm} (h : es.take ((Q ++ [x]).map eP).length = (Q ++ [x]).map eP) : es[(Q.map eP).length]? = some (eP x) ∧ (Q.map eP).length + 1 ≤ es.length ∧ es.take (Q.map eP).length = Q.map eP := by
  have e : (Q ++ [x]).map eP = Q.map eP ++ [eP x] := by simp
  rw [e] at h
  generalize Q.map eP = T at *
  have hl := congrArg List.length h
  simp only [List.length_take, List.length_append, List.length_cons, List.length_nil] at hl
  have h2 := congrArg (fun l => l[T.length]?) h
  simp only [List.getElem?_take] at h2
  refine ⟨?_, by omega, ?_⟩
  · rw [if_pos (by simp)] at h2
    rw [h2]
    simp
  · have h3 := congrArg (List.take T.length) h
    rw [List.take_take] at h3
    simpa using h3
theorem com_loop {q : Nat} : ∀ (N : Nat) (P : List (Tm × Tm)) (H : Heap) (ver cap : Nat) (es : List AV), Tm.sizes (P.map Prod.fst) ≤ N → N ≤ 1000000000 → (∀ p ∈ P, okA p.1 ∧ okA p.2) → H[q]? = some (.row ver 14 73 es) → es.take (P.map eP).length = P.map eP → (P.map eP).length ≤ cap →
    ∃ H', LDoes (L25_0 (polT TCom)) ⟨[.sl q ver 0 (P.map eP).length cap], []⟩ H (if cmpSt P.reverse = 0 then 0 else 1) ⟨[if cmpSt P.reverse = 0 then .undef else .int .i64 (cmpSt P.reverse)], []⟩ H' := by
  intro N
  induction N with
  | zero =>
    intro P H ver cap es hs hN hall hH htk hcap
    have hP : P = [] := by
      rcases List.eq_nil_or_concat P with rfl | ⟨Q, x, rfl⟩
      · rfl
      · have := q9r ((Q.concat x).map Prod.fst)
        simp only [List.concat_eq_append, List.length_map, List.length_append, List.length_cons, List.length_nil] at this hs
        omega
    subst hP
    have f0 : A.len (.sl q ver 0 0 cap) H = some (.int .i64 0) := by simp [A.len, A.alive, hH]
    refine ⟨H, LDoes.step (Evs.of fun n m => ?_)⟩
    simp [↓q00, ↓q01, q2o, f0, cmpSt]
  | succ N ih =>
    intro P H ver cap es hs hN hall hH htk hcap
    rcases List.eq_nil_or_concat P with rfl | ⟨Q, x, rfl⟩
    · have f0 : A.len (.sl q ver 0 0 cap) H = some (.int .i64 0) := by simp [A.len, A.alive, hH]
      refine ⟨H, LDoes.step (Evs.of fun n m => ?_)⟩
      simp [↓q00, ↓q01, q2o, f0, cmpSt]
    · simp only [List.concat_eq_append] at *
      obtain ⟨a, b⟩ := x
      obtain ⟨t1, t2, t3⟩ := topP htk
      obtain ⟨ha, hb⟩ := hall (a, b) (by simp)
      have ha1 := okA_eq.1 ha
      have hb1 := okA_eq.1 hb
      have hsz : Tm.sizes (Q.map Prod.fst) + a.size ≤ N + 1 := by
        have : (Q ++ [(a, b)]).map Prod.fst = Q.map Prod.fst ++ [a] := by simp
        rw [this, q7h] at hs
        simp only [Tm.sizes] at hs
        omega
      have hlenQ := q9r (Q.map Prod.fst)
      simp only [List.length_map] at hlenQ
      have hl : ((Q ++ [(a, b)]).map eP).length = (Q.map eP).length + 1 := by simp
      have hlq : (Q.map eP).length = Q.length := by simp
      rw [hl] at hcap ⊢
      have hwl : (Q.map eP).length ≤ 1000000000 := by omega
      have e1 : (((Q.map eP).length + 1 : Nat) : Int) - 1 = ((Q.map eP).length : Int) := by omega
      have hw : IntKind.wrap .i64 ((((Q.map eP).length + 1 : Nat) : Int) - 1) = ((Q.map eP).length : Int) := by rw [q0f (by omega) (by omega), e1]
      have f1 : A.len (.sl q ver 0 ((Q.map eP).length + 1) cap) H = some (.int .i64 (((Q.map eP).length + 1 : Nat) : Int)) := by simp [A.len, A.alive, hH]
      have f2 : A.idx 14 (.sl q ver 0 ((Q.map eP).length + 1) cap) (.int .i64 ((Q.map eP).length : Int)) H = some (.ptr q ver (Q.map eP).length 0) := by
        simp [A.idx, A.aliveZ, hH]
        omega
      have f3 : A.load true 14 (.ptr q ver (Q.map eP).length 0) H = some (eP (a, b)) := by
        have hc : A.ofList true 14 (eP (a, b)).cells 0 = some (eP (a, b)) := of_eP
        simp [A.load, A.elemAt, hH]
        rw [show es[Q.length]? = some (eP (a, b)) by simpa using t1]
        simp [hc]
      have f4 : A.slice 14 (.sl q ver 0 ((Q.map eP).length + 1) cap) none (some (.int .i64 ((Q.map eP).length : Int))) none H = some (.sl q ver 0 (Q.map eP).length cap) := by
        simp [A.slice, A.bound, A.aliveZ, hH]
        omega
      have f5 : A.splice [(AV.int .i64 0), (AV.bool false), AV.nils, (AV.str []), (AV.int .i64 0), AV.nils, AV.nils, (AV.int .i64 0), (AV.bool false), AV.nils, (AV.str []), (AV.int .i64 0), AV.nils, AV.nils] 0 (eP (a, b)).cells = (eP (a, b)).cells := by
        rw [q0v]; rfl
      have f6 : A.fits 14 (eP (a, b)) = true := qj8
      have f7 := q3e (p := (a, b))
      have f8 := of_eP (p := (a, b))
      have f9 := qgr (p := (a, b))
      have k1 : ∀ (R : Type) (H : Heap) (k : AV → Heap → Option R), polK pOne2 [eP (a, b)] H k = k (.int .i64 (oneT a b)) H := fun R H k => kOne2 (p := (a, b)) ha1.1.1 hb1.1.1
      have k2 : ∀ (R : Type) (H : Heap) (k : AV → Heap → Option R), polK pOkind [eT a] H k = k (.int .i64 a.kind) H := fun R H k => kOkind ha1.1.1.1 ha1.1.1.2.1
      have hrev : (Q ++ [(a, b)]).reverse = (a, b) :: Q.reverse := by simp
      rw [hrev, qhj]
      have hpos : (0 : Int) < (((Q.map eP).length + 1 : Nat) : Int) := by omega
      have ihq := ih Q H ver cap es (by have := a.size_eq; omega) (by omega) (fun p hp => hall p (by simp [hp])) hH t3 (by omega)
      by_cases hc : oneT a b = 0
      · have n1 : ¬ oneT a b ≠ 0 := fun g => g hc
        rw [if_neg n1]
        rw [hc] at k1
        by_cases hk : a.kind = 4 ∨ a.kind = 6
        · rw [if_pos hk]
          have hll := q9f hc hk
          have o1 : A.ofList false 1 (eP (a, b)).cells 5 = some (eL 7 eT a.l) := q2x (by rw [q0v]; rfl) (by cases a.l <;> rfl)
          have l1 : A.len (eL 7 eT a.l) H = some (.int .i64 ((a.kids.length : Nat) : Int)) := q08
          obtain ⟨H1, ver1, cap1, es1, hL1, g1, g2, g3⟩ := push_loop (a := a) (b := b) (q := q) hll a.kids.length ((a.kids.length : Int) - 1) rfl (Nat.le_refl _) Q H ver cap es hH t3 (by omega) (by have := ha1.1.2; simp only [] at this; omega)
          have htake : (a.kids.zip b.kids).take a.kids.length = a.kids.zip b.kids := List.take_of_length_le (by simp; omega)
          rw [htake] at hL1 g2 g3
          have hmf : ((Q ++ (a.kids.zip b.kids).reverse).map Prod.fst) = Q.map Prod.fst ++ a.kids.reverse := by
            rw [List.map_append, List.map_reverse, List.map_fst_zip (by omega)]
          obtain ⟨H2, hL2⟩ := ih (Q ++ (a.kids.zip b.kids).reverse) H1 ver1 cap1 es1 (by
            rw [hmf, q7h, szs_rev]
            have := a.size_eq
            omega) (by omega) (fun p hp => by
              rcases List.mem_append.1 hp with hp | hp
              · exact hall p (by simp [hp])
              · have hp := List.mem_reverse.1 hp
                exact ⟨ha1.2 _ (List.of_mem_zip hp).1, hb1.2 _ (List.of_mem_zip hp).2⟩) g1 g2 g3
          have hrv : (Q ++ (a.kids.zip b.kids).reverse).reverse = a.kids.zip b.kids ++ Q.reverse := by simp
          rw [hrv] at hL2
          have hw2 : IntKind.wrap .i64 ((a.kids.length : Int) - 1) = (a.kids.length : Int) - 1 := by
            have := ha1.1.2
            simp only [] at this
            exact q0f (by omega) (by omega)
          refine ⟨H2, LDoes.step (Evs.withL hL1 (Evs.withL hL2 (Evs.of fun n m _ h2 h1 _ => ?_)))⟩
          have hk2 : a.kind ≠ 4 → a.kind = 6 := fun h => by omega
          generalize ((Q ++ (a.kids.zip b.kids).reverse).map eP).length = M at *
          generalize cmpSt (a.kids.zip b.kids ++ Q.reverse) = Z at *
          generalize (Q.map eP).length = QL at *
          generalize ((QL + 1 : Nat) : Int) = N1 at *
          generalize (a.kids.length : Int) = L at *
          rcases hk with hk | hk
          · rw [hk] at k2
            simp [↓q00, ↓q05, ↓q0a, ↓q01, ↓q04, ↓q03, ↓q06, ↓q07, -q08, q2o, f1, f2, f3, f4, f5, f6, f7, f8, f9, hw, hpos, k1, k2, o1, l1, hw2, h1, h2]
          · rw [hk] at k2
            simp [↓q00, ↓q05, ↓q0a, ↓q01, ↓q04, ↓q03, ↓q06, ↓q07, -q08, q2o, f1, f2, f3, f4, f5, f6, f7, f8, f9, hw, hpos, k1, k2, o1, l1, hw2, h1, h2]
        · rw [if_neg hk]
          obtain ⟨H2, hL2⟩ := ihq
          refine ⟨H2, LDoes.step (Evs.withL hL2 (Evs.of fun n m _ h2 => ?_))⟩
          have hk4 : ¬ a.kind = 4 := by omega
          have hk6 : ¬ a.kind = 6 := by omega
          generalize cmpSt Q.reverse = Z at *
          generalize (Q.map eP).length = QL at *
          generalize ((QL + 1 : Nat) : Int) = N1 at *
          simp [↓q00, ↓q05, ↓q0a, ↓q01, ↓q04, ↓q03, ↓q06, ↓q07, q2o, f1, f2, f3, f4, f5, f6, f7, f8, f9, hw, hpos, k1, k2, hk4, hk6, h2]
      · rw [if_pos hc, if_neg hc, if_neg hc]
        refine ⟨H, LDoes.step (Evs.of fun n m => ?_)⟩
        generalize oneT a b = Z at *
        generalize (Q.map eP).length = QL at *
        generalize ((QL + 1 : Nat) : Int) = N1 at *
        simp [↓q00, ↓q05, ↓q0a, ↓q01, ↓q06, ↓q07, q2o, f1, f2, f3, f4, f5, f6, f7, f8, hw, hpos, k1, hc]
noncomputable def pCom : Pol := .still (p2 cT cT (.int .i64) (fun a b => okA a ∧ okA b ∧ a.size ≤ 1000000000) cmpT)
theorem okCom : PolOK base 25 pCom := still2 base_ok TCom ⟨okOne2, okOkind, trivial⟩ fun a b ⟨ha, hb, hs⟩ => by
  obtain ⟨H', hL⟩ := com_loop (q := 0) a.size [(a, b)] [.row 0 14 73 [eP (a, b)]] 0 1 [eP (a, b)] (by simp [Tm.sizes]) hs (fun p hp => by
    simp only [List.mem_singleton] at hp
    subst hp
    exact ⟨ha, hb⟩) rfl rfl (Nat.le_refl _)
  have hf := qbm (a := a) (b := b)
  have hfe : A.fillElems 14 [AV.agg [(AV.int .i64 0), (AV.bool false), AV.nils, (AV.str []), (AV.int .i64 0), AV.nils, AV.nils, (AV.int .i64 0), (AV.bool false), AV.nils, (AV.str []), (AV.int .i64 0), AV.nils, AV.nils]] [(0, 1, eP (a, b))] = some [eP (a, b)] := by
    simp [A.fillElems, q3e]
  have la : (eT a).cells.length = 7 := by rw [q02]; rfl
  have lb : (eT b).cells.length = 7 := by rw [q02]; rfl
  have oa : A.ofList true 7 (eT a).cells 0 = some (eT a) := q0w (H := [])
  have ob : A.ofList true 7 (eT b).cells 0 = some (eT b) := q0w (H := [])
  have hz : cmpSt [(a, b)].reverse = cmpT a b := by
    show (if cmpT a b ≠ 0 then cmpT a b else 0) = _
    split <;> omega
  rw [hz] at hL
  refine Evs.withL hL (Evs.of fun n m h _ => ?_)
  have e1 : (List.map eP [(a, b)]).length = 1 := rfl
  rw [e1] at h
  generalize cmpT a b = Z at *
  by_cases h0 : Z = 0
  · simp [↓q05, ↓q0a, ↓q09, ↓q01, ↓q0c, ↓q06, ↓q07, -q02, S25, la, lb, oa, ob, hf, hfe, h, h0]
  · simp [↓q05, ↓q0a, ↓q09, ↓q01, ↓q0c, ↓q06, ↓q07, -q02, S25, la, lb, oa, ob, hf, hfe, h, h0]
theorem kCom {R : Type} {a b : Tm} (ha : okA a) (hb : okA b) (hs : a.size ≤ 1000000000) {H : Heap} {k : AV → Heap → Option R} : polK pCom [eT a, eT b] H k = k (.int .i64 (cmpT a b)) H := by
  simp [pCom, q0b, ha, hb, hs]
theorem qCom {R : Type} {a b : Tm} (ha : okA a) (hb : okA b) (hs : a.size ≤ 1000000000) {H : Heap} {k : AV → Heap → Option R} : polQ pCom [eT a, eT b] H k = k (.int .i64 (cmpT a b)) H := by
  simp [pCom, q29, ha, hb, hs]
end Go.Proofs.YtleikacgncpfbaaDoor

/- Terms, the reference: how many parts a term has. -/
set_option maxRecDepth 100000
set_option maxHeartbeats 4000000
namespace Go.Proofs.YtleikacgncpfbaaDoor
open Go Go.Den
theorem szs_drop {l : List Tm} {i : Nat} (h : i < l.length) : szs (l.drop i) = szT l[i] + szs (l.drop (i + 1)) := by
  rw [List.drop_eq_getElem_cons h, szs]
theorem min_int {a b : Int} {k : IntKind} : A.minv (.int k a) (.int k b) = some (.int k (if b < a then b else a)) := by simp [A.minv]
noncomputable def pRtree (n : Nat) : Pol := .still (p1 cT (fun n : Nat => .int .i64 (n : Int)) (fun t => t.size ≤ n ∧ t.thin 1000) (fun t => min (szT t) 65537))
theorem kRtree {n : Nat} {R : Type} {t : Tm} (h : t.size ≤ n) (h2 : t.thin 1000) {H : Heap} {k : AV → Heap → Option R} : polK (pRtree n) [eT t] H k = k (.int .i64 ((min (szT t) 65537 : Nat) : Int)) H := by
  simp [pRtree, q0b, h, h2]
theorem qia {n : Nat} {t : Tm} {H : Heap} (hs : t.size ≤ n + 1) (ht : t.thin 1000) (hB : Go.Den.Box H 0 7 26 (eT t).cells) : ∀ (k i c : Nat), i + k = t.kids.length → c ≤ 200000 →
    ∃ c' : Nat, min c' 65537 = min (c + szs (t.kids.drop i)) 65537 ∧ LDoes (qhd (polT [(20, pRtree n)])) ⟨[.ptr 0 0 0 0, .int .i64 (c : Int), .int .i64 (i : Int)], []⟩ H 0 ⟨[.int .i64 (c' : Int)], []⟩ H := by
  have p1 := hB.fa (o := 5)
  have p2 := hB.load (o := 5)
  rw [q02] at p2
  simp only [List.getElem?_cons_succ, List.getElem?_cons_zero] at p2
  have hl : t.kids.length ≤ 1000 := (Tm.thin_eq.1 ht).1
  have hlen : A.len (eL 7 eT t.l) H = some (.int .i64 ((t.kids.length : Nat) : Int)) := q08
  intro k
  induction k with
  | zero =>
    intro i c hi hc
    have : i = t.kids.length := by omega
    subst this
    have h0 : szs [] = 0 := by rw [szs]
    rw [List.drop_length, h0]
    refine ⟨c, rfl, LDoes.step (Evs.of fun n m => ?_)⟩
    generalize (t.kids.length : Int) = N at *
    simp [↓q00, ↓q01, ↓q04, ↓q03, q6m, p1, p2, hlen]
  | succ k ih =>
    intro i c hi hc
    have hlt : i < t.kids.length := by omega
    have hlt' : (i : Int) < (t.kids.length : Int) := by omega
    by_cases h6 : c ≤ 65536
    · have h6' : (c : Int) ≤ 65536 := by omega
      have hx : A.idx 7 (eL 7 eT t.l) (.int .i64 (i : Int)) H = some (.rop (eT t.kids[i]).cells) := q33 (sz := 7) (e := eT) (o := t.l) (H := H) (k := .i64) (i := i) hlt
      have hi1 : IntKind.wrap .i64 ((i : Int) + 1) = (i : Int) + 1 := q0f (by omega) (by omega)
      have hsz : (t.kids[i]).size ≤ n := by
        have := Tm.size_kid (t := t) (u := t.kids[i]) (List.getElem_mem hlt)
        omega
      have hr : ∀ (R : Type) (H : Heap) (k : AV → Heap → Option R), polK (pRtree n) [eT t.kids[i]] H k = k (.int .i64 ((min (szT t.kids[i]) 65537 : Nat) : Int)) H := fun R H k => kRtree hsz ((Tm.thin_eq.1 ht).2 _ (List.getElem_mem hlt))
      have hld := q0w (t := t.kids[i]) (H := H)
      generalize hm : min (szT t.kids[i]) 65537 = m at *
      obtain ⟨c', hc', hL⟩ := ih (i + 1) (c + m) (by omega) (by omega)
      have hw : IntKind.wrap .i64 ((c : Int) + (m : Int)) = (c : Int) + (m : Int) := q0f (by omega) (by omega)
      simp only [Int.natCast_add, Int.natCast_one] at hL
      refine ⟨c', ?_, LDoes.step (Evs.withL hL (Evs.of fun n m _ h2 => ?_))⟩
      · rw [hc', szs_drop hlt]
        omega
      · generalize (eT t.kids[i]).cells = cs at *
        generalize eT t.kids[i] = v at *
        generalize (t.kids.length : Int) = N at *
        simp [↓q00, ↓q01, ↓q04, ↓q03, q6m, p1, p2, hlen, hlt', h6', hx, hld, hr, hw, hi1, h2]
    · have h6' : ¬ (c : Int) ≤ 65536 := by omega
      refine ⟨c, by omega, LDoes.step (Evs.of fun n m => ?_)⟩
      generalize (t.kids.length : Int) = N at *
      simp [↓q00, ↓q01, ↓q04, ↓q03, q6m, p1, p2, hlen, hlt', h6']
theorem okRtree : ∀ n, PolOK base 20 (pRtree n)
  | 0 => still1 base_ok [] trivial fun t ⟨hs, _⟩ => by
    have := t.size_eq
    omega
  | n + 1 => still1 base_ok [(20, pRtree n)] ⟨okRtree n, trivial⟩ fun t ⟨hs, ht⟩ => by
    have hB := q53 t [.row 0 7 26 [eT t]] 0 rfl
    have p := fun o => hB.fa (o := o)
    have q := fun o => hB.load (o := o)
    rw [q02] at q
    have q0 := q 0
    simp only [List.getElem?_cons_zero] at q0
    have hce : (eT t).cells.length = 7 := by rw [q02]; rfl
    obtain ⟨c', hc', hL⟩ := qia (n := n) (t := t) hs ht hB t.kids.length 0 1 (by omega) (by omega)
    have hmin : ∀ a : Nat, A.minv (.int .i64 (a : Int)) (.int .i64 65537) = some (.int .i64 ((min a 65537 : Nat) : Int)) := fun a => by
      rw [min_int]
      congr 2
      split <;> omega
    refine Evs.withL hL (Evs.of fun n m h1 _ => ?_)
    rw [szT_eq]
    unfold partsO
    by_cases c4 : t.kind = 4
    · have e : min c' 65537 = min (1 + szs (t.l.getD [])) 65537 := hc'
      rw [if_pos (Or.inl c4), ← e]
      rw [c4] at q0
      have h1' : qhd (polT [(20, pRtree _)]) n n ⟨[.ptr 0 0 0 0, .int .i64 1, .int .i64 0], []⟩ [.row 0 7 26 [eT t]] = some (0, ⟨[.int .i64 (c' : Int)], []⟩, [.row 0 7 26 [eT t]]) := h1
      have hm := hmin c'
      generalize ((min c' 65537 : Nat) : Int) = r at *
      simp [-q02, S20, hce, p, q0, h1', hm]
    · by_cases c6 : t.kind = 6
      · have e : min c' 65537 = min (1 + szs (t.l.getD [])) 65537 := hc'
        rw [if_pos (Or.inr c6), ← e]
        rw [c6] at q0
        have h1' : qhd (polT [(20, pRtree _)]) n n ⟨[.ptr 0 0 0 0, .int .i64 1, .int .i64 0], []⟩ [.row 0 7 26 [eT t]] = some (0, ⟨[.int .i64 (c' : Int)], []⟩, [.row 0 7 26 [eT t]]) := h1
        have hm := hmin c'
        generalize ((min c' 65537 : Nat) : Int) = r at *
        simp [-q02, S20, hce, p, q0, h1', hm]
      · rw [if_neg (by omega)]
        have e0 : min (1 + szs ((none : Option (List Tm)).getD [])) 65537 = 1 := by
          have h0 : szs [] = 0 := by rw [szs]
          show min (1 + szs []) 65537 = 1
          rw [h0]
          rfl
        have hm := hmin 1
        rw [e0]
        simp only [Int.natCast_one] at hm
        simp [-q02, S20, hce, p, q0, c4, c6]
end Go.Proofs.YtleikacgncpfbaaDoor

/- Terms, the reference: how many words a term takes. -/
set_option maxRecDepth 100000
set_option maxHeartbeats 4000000
namespace Go.Proofs.YtleikacgncpfbaaDoor
open Go Go.Den
def fineW (t : Tm) : Prop := t.thin 1000 ∧ t.fewd ∧ szT t ≤ 65536
noncomputable def pRwords (n : Nat) : Pol := .still (p1 cT (fun n : Nat => .int .i64 (n : Int)) (fun t => t.size ≤ n ∧ fineW t) wT)
noncomputable abbrev TRw (n : Nat) : List (FuncId × Pol) := [(22, pRwords n), (33, pSmallof), (35, pRnorm)]
end Go.Proofs.YtleikacgncpfbaaDoor

/- Terms, the reference: may one be, but for how many parts it has. -/
set_option maxRecDepth 100000
set_option maxHeartbeats 8000000
namespace Go.Proofs.YtleikacgncpfbaaDoor
open Go Go.Den
theorem q0z {t : TypeId} {c : Bool} {H : Heap} (s : List UInt8) : A.bin base.P .neq t (.str s) (.str []) c H = some (.bool (!decide (s = []))) := by
  cases s <;> rfl
theorem q44 {a : Nm} (h : few a.2) : few (rnormS a).2 := by
  unfold few at h ⊢
  have e : (rnormS a).2.getD [] = lim (val (a.2.getD [])) := by
    unfold rnormS
    cases lim (val (a.2.getD [])) <;> rfl
  have := q21 (a.2.getD [])
  rw [e]
  omega
noncomputable def pRmay (n : Nat) : Pol := .still (p1 cT .bool (fun t => t.size ≤ n ∧ tame t) (mayT countR))
theorem kRmay {n : Nat} {R : Type} {t : Tm} (h : t.size ≤ n) (h2 : tame t) {H : Heap} {k : AV → Heap → Option R} : polK (pRmay n) [eT t] H k = k (.bool (mayT countR t)) H := by
  simp [pRmay, q0b, h, h2]
noncomputable abbrev TRm (n : Nat) : List (FuncId × Pol) := [(57, pRmay n), (35, pRnorm), (34, pSame), (80, q2k), (81, q3s)]
theorem q4e {n : Nat} {t : Tm} {H : Heap} (hs : t.size ≤ n + 1) (ht : tame t) (hB : Go.Den.Box H 0 7 26 (eT t).cells) : ∀ (k i : Nat), i + k = t.kids.length →
    LDoes (L57_0 (polT (TRm n))) ⟨[.ptr 0 0 0 0, .int .i64 (i : Int)], []⟩ H (if (t.kids.drop i).all (mayT countR) then 0 else 1) ⟨[if (t.kids.drop i).all (mayT countR) then .undef else .bool false], []⟩ H := by
  have p1 := hB.fa (o := 5)
  have p2 := hB.load (o := 5)
  rw [q02] at p2
  simp only [List.getElem?_cons_succ, List.getElem?_cons_zero] at p2
  have hl : t.kids.length ≤ 1000 := (tame_eq.1 ht).1.2.2
  have hlen : A.len (eL 7 eT t.l) H = some (.int .i64 ((t.kids.length : Nat) : Int)) := q08
  intro k
  induction k with
  | zero =>
    intro i hi
    have : i = t.kids.length := by omega
    subst this
    rw [List.drop_length]
    refine LDoes.step (Evs.of fun n m => ?_)
    generalize (t.kids.length : Int) = N at *
    simp [-q08, q6r, p1, p2, hlen]
  | succ k ih =>
    intro i hi
    have hlt : i < t.kids.length := by omega
    have hlt' : (i : Int) < (t.kids.length : Int) := by omega
    have hmem : t.kids[i] ∈ t.kids := List.getElem_mem hlt
    have hx : A.idx 7 (eL 7 eT t.l) (.int .i64 (i : Int)) H = some (.rop (eT t.kids[i]).cells) := q33 (sz := 7) (e := eT) (o := t.l) (H := H) (k := .i64) (i := i) hlt
    have hi1 : IntKind.wrap .i64 ((i : Int) + 1) = (i : Int) + 1 := q0f (by omega) (by omega)
    have hsz : (t.kids[i]).size ≤ n := by
      have := Tm.size_kid (t := t) (u := t.kids[i]) hmem
      omega
    have hr : ∀ (R : Type) (H : Heap) (k : AV → Heap → Option R), polK (pRmay n) [eT t.kids[i]] H k = k (.bool (mayT countR t.kids[i])) H := fun R H k => kRmay hsz ((tame_eq.1 ht).2 _ hmem)
    have hld := q0w (t := t.kids[i]) (H := H)
    have hL := ih (i + 1) (by omega)
    simp only [Int.natCast_add, Int.natCast_one] at hL
    rw [List.drop_eq_getElem_cons hlt, List.all_cons]
    generalize (t.kids.drop (i + 1)).all (mayT countR) = rest at *
    generalize (eT t.kids[i]).cells = cs at *
    generalize (t.kids.length : Int) = N at *
    cases hm : mayT countR t.kids[i]
    · rw [hm] at hr
      generalize eT t.kids[i] = v at *
      refine LDoes.step (Evs.of fun n m => ?_)
      simp [-q08, q6r, p1, p2, hlen, hlt', hx, hld, hr]
    · rw [hm] at hr
      generalize eT t.kids[i] = v at *
      refine LDoes.step (Evs.withL hL (Evs.of fun n m _ h2 => ?_))
      simp [-q08, q6r, p1, p2, hlen, hlt', hx, hld, hr, hi1, h2]
end Go.Proofs.YtleikacgncpfbaaDoor

/- Terms, the reference: may one be, but for how many parts it has: kinds 0, 1. -/
set_option maxRecDepth 100000
set_option maxHeartbeats 8000000
namespace Go.Proofs.YtleikacgncpfbaaDoor
open Go Go.Den
theorem rmay_A (n : Nat) (t : Tm) (hs : t.size ≤ n + 1) (ht : tame t) (hkd : t.kind = 0 ∨ t.kind = 1) : Evs fun n' _ => callF (base.with (polT (TRm n))) (n' + 1) AV 57 [cT.enc t] [] (fun v G => A.freezeB true 64 G v) = some (.bool (mayT countR t)) := by
  have hB : Go.Den.Box [.row 0 7 26 [eT t]] 0 7 26 (eT t).cells := q53 t _ 0 rfl
  have p := fun o => hB.fa (o := o)
  have q := fun o => hB.load (o := o)
  rw [q02] at q
  have q0 := q 0
  have q1 := q 1
  have q2 := q 2
  have q3 := q 3
  have q4 := q 4
  have q5 := q 5
  have q6 := q 6
  simp only [List.getElem?_cons_succ, List.getElem?_cons_zero] at q0 q1 q2 q3 q4 q5 q6
  have hcl : (eT t).cells.length = 7 := by rw [q02]; rfl
  have hl5 : A.len (eL 7 eT t.l) [.row 0 7 26 [eT t]] = some (.int .i64 ((t.kids.length : Nat) : Int)) := q08
  have hl2 : A.len (eD t.d) [.row 0 7 26 [eT t]] = some (.int .i64 ((t.d.getD []).length : Int)) := q08
  have hl6 : A.len (eL 1 eb t.b) [.row 0 7 26 [eT t]] = some (.int .i64 ((t.b.getD []).length : Int)) := q08
  have hsn := fun H => q0z (t := 9) (c := true) (H := H) t.name
  have hs0 := fun H => q0z (t := 9) (c := true) (H := H) []
  have hfew : few t.d := (tame_eq.1 ht).1.1
  have hnl : q1m t.name := (tame_eq.1 ht).1.2.1
  have hnm : ∀ (R : Type) (H : Heap) (k : AV → Heap → Option R), polK pRnorm [.agg [.bool t.neg, eD t.d]] H k = k (eN (rnormS (t.neg, t.d))) H := fun R H k => kRnorm (a := (t.neg, t.d)) hfew
  have hsm : ∀ (R : Type) (H : Heap) (k : AV → Heap → Option R), polK pSame [.agg [.bool t.neg, eD t.d], eN (rnormS (t.neg, t.d))] H k = k (.bool (sameS (t.neg, t.d) (rnormS (t.neg, t.d)))) H := fun R H k => kSame (a := (t.neg, t.d)) hfew (q44 hfew)
  have hfill : A.fill [.bool false, .nils] [(0, 1, .bool t.neg), (1, 1, eD t.d)] = some [.bool t.neg, eD t.d] := by simp [A.fill, A.splice]
  have hva : ∀ (R : Type) (H : Heap) (k : AV → Heap → Option R), polK q2k [.str t.name] H k = k (.bool (Lib.validD t.name)) H := fun R H k => q39
  have hco : ∀ (R : Type) (H : Heap) (k : AV → Heap → Option R), polK q3s [.str t.name] H k = k (.int .i64 (countR t.name)) H := fun R H k => q95 hnl
  have hcv := countR_valid (s := t.name)
  have hL := q4e hs ht hB t.kids.length 0 (by omega)
  rw [List.drop_zero] at hL
  have hrest : ∀ kd, t.kind = kd → (kd = 4 ∨ kd = 6) → ((partsO t).getD []).all (mayT countR) = t.kids.all (mayT countR) := fun kd e hkd => by
    unfold partsO
    rw [if_pos (by rw [e]; exact hkd)]
    rfl
  have hrest0 : t.kind ≠ 4 → t.kind ≠ 6 → ((partsO t).getD []).all (mayT countR) = true := fun e1 e2 => by
    unfold partsO
    rw [if_neg (by omega)]
    rfl
  rw [q4d]
  unfold oneS spareS
  rw [← q3f]
  generalize sameS (t.neg, t.d) (rnormS (t.neg, t.d)) = sn at *
  generalize rnormS (t.neg, t.d) = rn at *
  generalize ((partsO t).getD []).all (mayT countR) = rest at *
  generalize t.kids.all (mayT countR) = kall at *
  generalize countR t.name = cn at *
  generalize Lib.validD t.name = vn at *
  generalize t.kids.length = nl at *
  generalize (t.d.getD []).length = nd at *
  generalize (t.b.getD []).length = nb at *
  generalize t.kind = kd at *
  generalize t.neg = ng at *
  generalize t.n = nn at *
  generalize eL 7 eT t.l = vl at *
  generalize eD t.d = vd at *
  generalize eL 1 eb t.b = vb at *
  clear q
  have e64 : decide ((nd : Int) ≤ 64) = decide (nd ≤ 64) := decide_eq_decide.2 (by omega)
  have e4096 : decide ((nb : Int) ≤ 4096) = decide (nb ≤ 4096) := decide_eq_decide.2 (by omega)
  by_cases c0 : kd = 0
  case pos =>
    by_cases a5 : t.name = []
    case neg =>
      exact Evs.of fun n m => by simp [-q08, -q02, S57, hcl, p, q0, q2, q3, q6, hl2, hl6, hsn, c0, a5]
    by_cases a3 : nn = 0
    case neg =>
      exact Evs.of fun n m => by simp [-q08, -q02, S57, hcl, p, q0, q2, q3, q4, q6, hl2, hl6, hs0, c0, a5, a3]
    by_cases a4 : nl = 0
    case neg =>
      have a4p : 0 < nl := by omega
      exact Evs.of fun n m => by simp [-q08, -q02, S57, hcl, p, q0, q2, q3, q4, q5, q6, hl5, hl2, hl6, hs0, c0, a5, a3, a4, a4p]
    by_cases a6 : nb = 0
    case neg =>
      have a6p : 0 < nb := by omega
      exact Evs.of fun n m => by simp [-q08, -q02, S57, hcl, p, q0, q2, q3, q4, q5, q6, hl5, hl2, hl6, hs0, c0, a5, a3, a4, a6, a6p]
    have hr := hrest0 (by omega) (by omega)
    by_cases h64 : nd ≤ 64
    · exact Evs.of fun n m => by simp [-q08, -q02, S57, hcl, p, q0, q1, q2, q3, q4, q5, q6, hl5, hl2, hl6, hs0, c0, a5, a3, a4, a6, e64, h64, hfill, hnm, hsm, hr, AV.beq_refl, AV.heapy]
    · exact Evs.of fun n m => by simp [-q08, -q02, S57, hcl, p, q0, q2, q3, q4, q5, q6, hl5, hl2, hl6, hs0, c0, a5, a3, a4, a6, e64, h64, hr, AV.heapy]
  by_cases c1 : kd = 1
  case pos =>
    by_cases a1 : ng = true
    case pos =>
      exact Evs.of fun n m => by simp [-q08, -q02, S57, hcl, p, q0, q1, q2, q3, q6, hl2, hl6, c1, a1]
    by_cases a2 : nd = 0
    case neg =>
      have a2p : 0 < nd := by omega
      exact Evs.of fun n m => by simp [-q08, -q02, S57, hcl, p, q0, q1, q2, q3, q6, hl2, hl6, c1, a1, a2, a2p]
    by_cases a3 : nn = 0
    case neg =>
      exact Evs.of fun n m => by simp [-q08, -q02, S57, hcl, p, q0, q1, q2, q3, q4, q6, hl2, hl6, c1, a1, a2, a3]
    by_cases a4 : nl = 0
    case neg =>
      have a4p : 0 < nl := by omega
      exact Evs.of fun n m => by simp [-q08, -q02, S57, hcl, p, q0, q1, q2, q3, q4, q5, q6, hl5, hl2, hl6, c1, a1, a2, a3, a4, a4p]
    by_cases a6 : nb = 0
    case neg =>
      have a6p : 0 < nb := by omega
      exact Evs.of fun n m => by simp [-q08, -q02, S57, hcl, p, q0, q1, q2, q3, q4, q5, q6, hl5, hl2, hl6, c1, a1, a2, a3, a4, a6, a6p]
    have hr := hrest0 (by omega) (by omega)
    cases vn
    · have h0 : ¬ 0 ≤ cn := fun h => by simpa using hcv.1 h
      exact Evs.of fun n m => by simp [-q08, -q02, S57, hcl, p, q0, q1, q2, q3, q4, q5, q6, hl5, hl2, hl6, c1, a1, a2, a3, a4, a6, hva, h0, hr]
    · have h0 : 0 ≤ cn := hcv.2 rfl
      exact Evs.of fun n m => by simp [-q08, -q02, S57, hcl, p, q0, q1, q2, q3, q4, q5, q6, hl5, hl2, hl6, c1, a1, a2, a3, a4, a6, hva, hco, h0, hr]
  omega
end Go.Proofs.YtleikacgncpfbaaDoor

/- Terms, the reference: may one be, but for how many parts it has: kinds 2, 3. -/
set_option maxRecDepth 100000
set_option maxHeartbeats 8000000
namespace Go.Proofs.YtleikacgncpfbaaDoor
open Go Go.Den
theorem rmay_B (n : Nat) (t : Tm) (hs : t.size ≤ n + 1) (ht : tame t) (hkd : t.kind = 2 ∨ t.kind = 3) : Evs fun n' _ => callF (base.with (polT (TRm n))) (n' + 1) AV 57 [cT.enc t] [] (fun v G => A.freezeB true 64 G v) = some (.bool (mayT countR t)) := by
  have hB : Go.Den.Box [.row 0 7 26 [eT t]] 0 7 26 (eT t).cells := q53 t _ 0 rfl
  have p := fun o => hB.fa (o := o)
  have q := fun o => hB.load (o := o)
  rw [q02] at q
  have q0 := q 0
  have q1 := q 1
  have q2 := q 2
  have q3 := q 3
  have q4 := q 4
  have q5 := q 5
  have q6 := q 6
  simp only [List.getElem?_cons_succ, List.getElem?_cons_zero] at q0 q1 q2 q3 q4 q5 q6
  have hcl : (eT t).cells.length = 7 := by rw [q02]; rfl
  have hl5 : A.len (eL 7 eT t.l) [.row 0 7 26 [eT t]] = some (.int .i64 ((t.kids.length : Nat) : Int)) := q08
  have hl2 : A.len (eD t.d) [.row 0 7 26 [eT t]] = some (.int .i64 ((t.d.getD []).length : Int)) := q08
  have hl6 : A.len (eL 1 eb t.b) [.row 0 7 26 [eT t]] = some (.int .i64 ((t.b.getD []).length : Int)) := q08
  have hsn := fun H => q0z (t := 9) (c := true) (H := H) t.name
  have hs0 := fun H => q0z (t := 9) (c := true) (H := H) []
  have hfew : few t.d := (tame_eq.1 ht).1.1
  have hnl : q1m t.name := (tame_eq.1 ht).1.2.1
  have hnm : ∀ (R : Type) (H : Heap) (k : AV → Heap → Option R), polK pRnorm [.agg [.bool t.neg, eD t.d]] H k = k (eN (rnormS (t.neg, t.d))) H := fun R H k => kRnorm (a := (t.neg, t.d)) hfew
  have hsm : ∀ (R : Type) (H : Heap) (k : AV → Heap → Option R), polK pSame [.agg [.bool t.neg, eD t.d], eN (rnormS (t.neg, t.d))] H k = k (.bool (sameS (t.neg, t.d) (rnormS (t.neg, t.d)))) H := fun R H k => kSame (a := (t.neg, t.d)) hfew (q44 hfew)
  have hfill : A.fill [.bool false, .nils] [(0, 1, .bool t.neg), (1, 1, eD t.d)] = some [.bool t.neg, eD t.d] := by simp [A.fill, A.splice]
  have hva : ∀ (R : Type) (H : Heap) (k : AV → Heap → Option R), polK q2k [.str t.name] H k = k (.bool (Lib.validD t.name)) H := fun R H k => q39
  have hco : ∀ (R : Type) (H : Heap) (k : AV → Heap → Option R), polK q3s [.str t.name] H k = k (.int .i64 (countR t.name)) H := fun R H k => q95 hnl
  have hcv := countR_valid (s := t.name)
  have hL := q4e hs ht hB t.kids.length 0 (by omega)
  rw [List.drop_zero] at hL
  have hrest : ∀ kd, t.kind = kd → (kd = 4 ∨ kd = 6) → ((partsO t).getD []).all (mayT countR) = t.kids.all (mayT countR) := fun kd e hkd => by
    unfold partsO
    rw [if_pos (by rw [e]; exact hkd)]
    rfl
  have hrest0 : t.kind ≠ 4 → t.kind ≠ 6 → ((partsO t).getD []).all (mayT countR) = true := fun e1 e2 => by
    unfold partsO
    rw [if_neg (by omega)]
    rfl
  rw [q4d]
  unfold oneS spareS
  rw [← q3f]
  generalize sameS (t.neg, t.d) (rnormS (t.neg, t.d)) = sn at *
  generalize rnormS (t.neg, t.d) = rn at *
  generalize ((partsO t).getD []).all (mayT countR) = rest at *
  generalize t.kids.all (mayT countR) = kall at *
  generalize countR t.name = cn at *
  generalize Lib.validD t.name = vn at *
  generalize t.kids.length = nl at *
  generalize (t.d.getD []).length = nd at *
  generalize (t.b.getD []).length = nb at *
  generalize t.kind = kd at *
  generalize t.neg = ng at *
  generalize t.n = nn at *
  generalize eL 7 eT t.l = vl at *
  generalize eD t.d = vd at *
  generalize eL 1 eb t.b = vb at *
  clear q
  have e64 : decide ((nd : Int) ≤ 64) = decide (nd ≤ 64) := decide_eq_decide.2 (by omega)
  have e4096 : decide ((nb : Int) ≤ 4096) = decide (nb ≤ 4096) := decide_eq_decide.2 (by omega)
  have c0 : ¬ kd = 0 := by omega
  have c1 : ¬ kd = 1 := by omega
  by_cases c2 : kd = 2
  case pos =>
    by_cases a1 : ng = true
    case pos =>
      exact Evs.of fun n m => by simp [-q08, -q02, S57, hcl, p, q0, q1, q2, q3, q4, hl2, c2, a1]
    by_cases a2 : nd = 0
    case neg =>
      have a2p : 0 < nd := by omega
      exact Evs.of fun n m => by simp [-q08, -q02, S57, hcl, p, q0, q1, q2, q3, q4, hl2, c2, a1, a2, a2p]
    by_cases a5 : t.name = []
    case neg =>
      exact Evs.of fun n m => by simp [-q08, -q02, S57, hcl, p, q0, q1, q2, q3, q4, hl2, hsn, c2, a1, a2, a5]
    by_cases a4 : nl = 0
    case neg =>
      have a4p : 0 < nl := by omega
      exact Evs.of fun n m => by simp [-q08, -q02, S57, hcl, p, q0, q1, q2, q3, q4, q5, hl5, hl2, hs0, c2, a1, a2, a5, a4, a4p]
    by_cases a6 : nb = 0
    case neg =>
      have a6p : 0 < nb := by omega
      exact Evs.of fun n m => by simp [-q08, -q02, S57, hcl, p, q0, q1, q2, q3, q4, q5, q6, hl5, hl2, hl6, hs0, c2, a1, a2, a5, a4, a6, a6p]
    have hr := hrest0 (by omega) (by omega)
    by_cases h0 : 0 ≤ nn
    · exact Evs.of fun n m => by simp [-q08, -q02, S57, hcl, p, q0, q1, q2, q3, q4, q5, q6, hl5, hl2, hl6, hs0, c2, a1, a2, a5, a4, a6, h0, hr]
    · exact Evs.of fun n m => by simp [-q08, -q02, S57, hcl, p, q0, q1, q2, q3, q4, q5, q6, hl5, hl2, hl6, hs0, c2, a1, a2, a5, a4, a6, h0, hr]
  by_cases c3 : kd = 3
  case pos =>
    by_cases a1 : ng = true
    case pos =>
      exact Evs.of fun n m => by simp [-q08, -q02, S57, hcl, p, q0, q1, q2, q3, q4, hl2, c3, a1]
    by_cases a2 : nd = 0
    case neg =>
      have a2p : 0 < nd := by omega
      exact Evs.of fun n m => by simp [-q08, -q02, S57, hcl, p, q0, q1, q2, q3, q4, hl2, c3, a1, a2, a2p]
    by_cases a5 : t.name = []
    case neg =>
      exact Evs.of fun n m => by simp [-q08, -q02, S57, hcl, p, q0, q1, q2, q3, q4, hl2, hsn, c3, a1, a2, a5]
    by_cases a4 : nl = 0
    case neg =>
      have a4p : 0 < nl := by omega
      exact Evs.of fun n m => by simp [-q08, -q02, S57, hcl, p, q0, q1, q2, q3, q4, q5, hl5, hl2, hs0, c3, a1, a2, a5, a4, a4p]
    by_cases a6 : nb = 0
    case neg =>
      have a6p : 0 < nb := by omega
      exact Evs.of fun n m => by simp [-q08, -q02, S57, hcl, p, q0, q1, q2, q3, q4, q5, q6, hl5, hl2, hl6, hs0, c3, a1, a2, a5, a4, a6, a6p]
    have hr := hrest0 (by omega) (by omega)
    by_cases h0 : 0 ≤ nn
    · exact Evs.of fun n m => by simp [-q08, -q02, S57, hcl, p, q0, q1, q2, q3, q4, q5, q6, hl5, hl2, hl6, hs0, c3, a1, a2, a5, a4, a6, h0, hr]
    · exact Evs.of fun n m => by simp [-q08, -q02, S57, hcl, p, q0, q1, q2, q3, q4, q5, q6, hl5, hl2, hl6, hs0, c3, a1, a2, a5, a4, a6, h0, hr]
  omega
end Go.Proofs.YtleikacgncpfbaaDoor

/- Terms, the reference: may one be, but for how many parts it has: kinds 4, 5. -/
set_option maxRecDepth 100000
set_option maxHeartbeats 8000000
namespace Go.Proofs.YtleikacgncpfbaaDoor
open Go Go.Den
theorem rmay_C (n : Nat) (t : Tm) (hs : t.size ≤ n + 1) (ht : tame t) (hkd : t.kind = 4 ∨ t.kind = 5) : Evs fun n' _ => callF (base.with (polT (TRm n))) (n' + 1) AV 57 [cT.enc t] [] (fun v G => A.freezeB true 64 G v) = some (.bool (mayT countR t)) := by
  have hB : Go.Den.Box [.row 0 7 26 [eT t]] 0 7 26 (eT t).cells := q53 t _ 0 rfl
  have p := fun o => hB.fa (o := o)
  have q := fun o => hB.load (o := o)
  rw [q02] at q
  have q0 := q 0
  have q1 := q 1
  have q2 := q 2
  have q3 := q 3
  have q4 := q 4
  have q5 := q 5
  have q6 := q 6
  simp only [List.getElem?_cons_succ, List.getElem?_cons_zero] at q0 q1 q2 q3 q4 q5 q6
  have hcl : (eT t).cells.length = 7 := by rw [q02]; rfl
  have hl5 : A.len (eL 7 eT t.l) [.row 0 7 26 [eT t]] = some (.int .i64 ((t.kids.length : Nat) : Int)) := q08
  have hl2 : A.len (eD t.d) [.row 0 7 26 [eT t]] = some (.int .i64 ((t.d.getD []).length : Int)) := q08
  have hl6 : A.len (eL 1 eb t.b) [.row 0 7 26 [eT t]] = some (.int .i64 ((t.b.getD []).length : Int)) := q08
  have hsn := fun H => q0z (t := 9) (c := true) (H := H) t.name
  have hs0 := fun H => q0z (t := 9) (c := true) (H := H) []
  have hfew : few t.d := (tame_eq.1 ht).1.1
  have hnl : q1m t.name := (tame_eq.1 ht).1.2.1
  have hnm : ∀ (R : Type) (H : Heap) (k : AV → Heap → Option R), polK pRnorm [.agg [.bool t.neg, eD t.d]] H k = k (eN (rnormS (t.neg, t.d))) H := fun R H k => kRnorm (a := (t.neg, t.d)) hfew
  have hsm : ∀ (R : Type) (H : Heap) (k : AV → Heap → Option R), polK pSame [.agg [.bool t.neg, eD t.d], eN (rnormS (t.neg, t.d))] H k = k (.bool (sameS (t.neg, t.d) (rnormS (t.neg, t.d)))) H := fun R H k => kSame (a := (t.neg, t.d)) hfew (q44 hfew)
  have hfill : A.fill [.bool false, .nils] [(0, 1, .bool t.neg), (1, 1, eD t.d)] = some [.bool t.neg, eD t.d] := by simp [A.fill, A.splice]
  have hva : ∀ (R : Type) (H : Heap) (k : AV → Heap → Option R), polK q2k [.str t.name] H k = k (.bool (Lib.validD t.name)) H := fun R H k => q39
  have hco : ∀ (R : Type) (H : Heap) (k : AV → Heap → Option R), polK q3s [.str t.name] H k = k (.int .i64 (countR t.name)) H := fun R H k => q95 hnl
  have hcv := countR_valid (s := t.name)
  have hL := q4e hs ht hB t.kids.length 0 (by omega)
  rw [List.drop_zero] at hL
  have hrest : ∀ kd, t.kind = kd → (kd = 4 ∨ kd = 6) → ((partsO t).getD []).all (mayT countR) = t.kids.all (mayT countR) := fun kd e hkd => by
    unfold partsO
    rw [if_pos (by rw [e]; exact hkd)]
    rfl
  have hrest0 : t.kind ≠ 4 → t.kind ≠ 6 → ((partsO t).getD []).all (mayT countR) = true := fun e1 e2 => by
    unfold partsO
    rw [if_neg (by omega)]
    rfl
  rw [q4d]
  unfold oneS spareS
  rw [← q3f]
  generalize sameS (t.neg, t.d) (rnormS (t.neg, t.d)) = sn at *
  generalize rnormS (t.neg, t.d) = rn at *
  generalize ((partsO t).getD []).all (mayT countR) = rest at *
  generalize t.kids.all (mayT countR) = kall at *
  generalize countR t.name = cn at *
  generalize Lib.validD t.name = vn at *
  generalize t.kids.length = nl at *
  generalize (t.d.getD []).length = nd at *
  generalize (t.b.getD []).length = nb at *
  generalize t.kind = kd at *
  generalize t.neg = ng at *
  generalize t.n = nn at *
  generalize eL 7 eT t.l = vl at *
  generalize eD t.d = vd at *
  generalize eL 1 eb t.b = vb at *
  clear q
  have e64 : decide ((nd : Int) ≤ 64) = decide (nd ≤ 64) := decide_eq_decide.2 (by omega)
  have e4096 : decide ((nb : Int) ≤ 4096) = decide (nb ≤ 4096) := decide_eq_decide.2 (by omega)
  have c0 : ¬ kd = 0 := by omega
  have c1 : ¬ kd = 1 := by omega
  have c2 : ¬ kd = 2 := by omega
  have c3 : ¬ kd = 3 := by omega
  by_cases c4 : kd = 4
  case pos =>
    by_cases a1 : ng = true
    case pos =>
      exact Evs.of fun n m => by simp [-q08, -q02, S57, hcl, p, q0, q1, q2, q3, q5, q6, hl5, hl2, hl6, c4, a1]
    by_cases a2 : nd = 0
    case neg =>
      have a2p : 0 < nd := by omega
      exact Evs.of fun n m => by simp [-q08, -q02, S57, hcl, p, q0, q1, q2, q3, q5, q6, hl5, hl2, hl6, c4, a1, a2, a2p]
    by_cases a5 : t.name = []
    case neg =>
      exact Evs.of fun n m => by simp [-q08, -q02, S57, hcl, p, q0, q1, q2, q3, q5, q6, hl5, hl2, hl6, hsn, c4, a1, a2, a5]
    by_cases a3 : nn = 0
    case neg =>
      exact Evs.of fun n m => by simp [-q08, -q02, S57, hcl, p, q0, q1, q2, q3, q4, q5, q6, hl5, hl2, hl6, hs0, c4, a1, a2, a5, a3]
    by_cases a6 : nb = 0
    case neg =>
      have a6p : 0 < nb := by omega
      exact Evs.of fun n m => by simp [-q08, -q02, S57, hcl, p, q0, q1, q2, q3, q4, q5, q6, hl5, hl2, hl6, hs0, c4, a1, a2, a5, a3, a6, a6p]
    have hr := hrest 4 c4 (Or.inl rfl)
    by_cases h255 : nl ≤ 255
    · have hg : ¬ (255 : Int) < (nl : Int) := by omega
      have hg' : ¬ 255 < nl := by omega
      refine Evs.withL hL (Evs.of fun n m h1 _ => ?_)
      simp only [Int.natCast_zero] at h1
      cases kall <;> simp [-q08, -q02, S57, hcl, p, q0, q1, q2, q3, q4, q5, q6, hl5, hl2, hl6, hs0, c4, a1, a2, a5, a3, a6, h255, hg, hr, h1]
    · have hg : (255 : Int) < (nl : Int) := by omega
      have hg' : 255 < nl := by omega
      exact Evs.of fun n m => by simp [-q08, -q02, S57, hcl, p, q0, q1, q2, q3, q4, q5, q6, hl5, hl2, hl6, hs0, c4, a1, a2, a5, a3, a6, h255, hg, hr]
  by_cases c5 : kd = 5
  case pos =>
    by_cases a1 : ng = true
    case pos =>
      exact Evs.of fun n m => by simp [-q08, -q02, S57, hcl, p, q0, q1, q2, q3, q6, hl2, hl6, c5, a1]
    by_cases a2 : nd = 0
    case neg =>
      have a2p : 0 < nd := by omega
      exact Evs.of fun n m => by simp [-q08, -q02, S57, hcl, p, q0, q1, q2, q3, q6, hl2, hl6, c5, a1, a2, a2p]
    by_cases a5 : t.name = []
    case neg =>
      exact Evs.of fun n m => by simp [-q08, -q02, S57, hcl, p, q0, q1, q2, q3, q6, hl2, hl6, hsn, c5, a1, a2, a5]
    by_cases a3 : nn = 0
    case neg =>
      exact Evs.of fun n m => by simp [-q08, -q02, S57, hcl, p, q0, q1, q2, q3, q4, q6, hl2, hl6, hs0, c5, a1, a2, a5, a3]
    by_cases a4 : nl = 0
    case neg =>
      have a4p : 0 < nl := by omega
      exact Evs.of fun n m => by simp [-q08, -q02, S57, hcl, p, q0, q1, q2, q3, q4, q5, q6, hl5, hl2, hl6, hs0, c5, a1, a2, a5, a3, a4, a4p]
    by_cases a6 : nb = 0
    case neg =>
      have a6p : 0 < nb := by omega
      exact Evs.of fun n m => by simp [-q08, -q02, S57, hcl, p, q0, q1, q2, q3, q4, q5, q6, hl5, hl2, hl6, hs0, c5, a1, a2, a5, a3, a4, a6, a6p]
    have hr := hrest0 (by omega) (by omega)
    exact Evs.of fun n m => by simp [-q08, -q02, S57, hcl, p, q0, q1, q2, q3, q4, q5, q6, hl5, hl2, hl6, hs0, c5, a1, a2, a5, a3, a4, a6, hr]
  omega
end Go.Proofs.YtleikacgncpfbaaDoor

/- Terms, the reference: may one be, but for how many parts it has: kinds 6. -/
set_option maxRecDepth 100000
set_option maxHeartbeats 8000000
namespace Go.Proofs.YtleikacgncpfbaaDoor
open Go Go.Den
theorem rmay_D (n : Nat) (t : Tm) (hs : t.size ≤ n + 1) (ht : tame t) (hkd : t.kind = 6) : Evs fun n' _ => callF (base.with (polT (TRm n))) (n' + 1) AV 57 [cT.enc t] [] (fun v G => A.freezeB true 64 G v) = some (.bool (mayT countR t)) := by
  have hB : Go.Den.Box [.row 0 7 26 [eT t]] 0 7 26 (eT t).cells := q53 t _ 0 rfl
  have p := fun o => hB.fa (o := o)
  have q := fun o => hB.load (o := o)
  rw [q02] at q
  have q0 := q 0
  have q1 := q 1
  have q2 := q 2
  have q3 := q 3
  have q4 := q 4
  have q5 := q 5
  have q6 := q 6
  simp only [List.getElem?_cons_succ, List.getElem?_cons_zero] at q0 q1 q2 q3 q4 q5 q6
  have hcl : (eT t).cells.length = 7 := by rw [q02]; rfl
  have hl5 : A.len (eL 7 eT t.l) [.row 0 7 26 [eT t]] = some (.int .i64 ((t.kids.length : Nat) : Int)) := q08
  have hl2 : A.len (eD t.d) [.row 0 7 26 [eT t]] = some (.int .i64 ((t.d.getD []).length : Int)) := q08
  have hl6 : A.len (eL 1 eb t.b) [.row 0 7 26 [eT t]] = some (.int .i64 ((t.b.getD []).length : Int)) := q08
  have hsn := fun H => q0z (t := 9) (c := true) (H := H) t.name
  have hs0 := fun H => q0z (t := 9) (c := true) (H := H) []
  have hfew : few t.d := (tame_eq.1 ht).1.1
  have hnl : q1m t.name := (tame_eq.1 ht).1.2.1
  have hnm : ∀ (R : Type) (H : Heap) (k : AV → Heap → Option R), polK pRnorm [.agg [.bool t.neg, eD t.d]] H k = k (eN (rnormS (t.neg, t.d))) H := fun R H k => kRnorm (a := (t.neg, t.d)) hfew
  have hsm : ∀ (R : Type) (H : Heap) (k : AV → Heap → Option R), polK pSame [.agg [.bool t.neg, eD t.d], eN (rnormS (t.neg, t.d))] H k = k (.bool (sameS (t.neg, t.d) (rnormS (t.neg, t.d)))) H := fun R H k => kSame (a := (t.neg, t.d)) hfew (q44 hfew)
  have hfill : A.fill [.bool false, .nils] [(0, 1, .bool t.neg), (1, 1, eD t.d)] = some [.bool t.neg, eD t.d] := by simp [A.fill, A.splice]
  have hva : ∀ (R : Type) (H : Heap) (k : AV → Heap → Option R), polK q2k [.str t.name] H k = k (.bool (Lib.validD t.name)) H := fun R H k => q39
  have hco : ∀ (R : Type) (H : Heap) (k : AV → Heap → Option R), polK q3s [.str t.name] H k = k (.int .i64 (countR t.name)) H := fun R H k => q95 hnl
  have hcv := countR_valid (s := t.name)
  have hL := q4e hs ht hB t.kids.length 0 (by omega)
  rw [List.drop_zero] at hL
  have hrest : ∀ kd, t.kind = kd → (kd = 4 ∨ kd = 6) → ((partsO t).getD []).all (mayT countR) = t.kids.all (mayT countR) := fun kd e hkd => by
    unfold partsO
    rw [if_pos (by rw [e]; exact hkd)]
    rfl
  have hrest0 : t.kind ≠ 4 → t.kind ≠ 6 → ((partsO t).getD []).all (mayT countR) = true := fun e1 e2 => by
    unfold partsO
    rw [if_neg (by omega)]
    rfl
  rw [q4d]
  unfold oneS spareS
  rw [← q3f]
  generalize sameS (t.neg, t.d) (rnormS (t.neg, t.d)) = sn at *
  generalize rnormS (t.neg, t.d) = rn at *
  generalize ((partsO t).getD []).all (mayT countR) = rest at *
  generalize t.kids.all (mayT countR) = kall at *
  generalize countR t.name = cn at *
  generalize Lib.validD t.name = vn at *
  generalize t.kids.length = nl at *
  generalize (t.d.getD []).length = nd at *
  generalize (t.b.getD []).length = nb at *
  generalize t.kind = kd at *
  generalize t.neg = ng at *
  generalize t.n = nn at *
  generalize eL 7 eT t.l = vl at *
  generalize eD t.d = vd at *
  generalize eL 1 eb t.b = vb at *
  clear q
  have e64 : decide ((nd : Int) ≤ 64) = decide (nd ≤ 64) := decide_eq_decide.2 (by omega)
  have e4096 : decide ((nb : Int) ≤ 4096) = decide (nb ≤ 4096) := decide_eq_decide.2 (by omega)
  have c0 : ¬ kd = 0 := by omega
  have c1 : ¬ kd = 1 := by omega
  have c2 : ¬ kd = 2 := by omega
  have c3 : ¬ kd = 3 := by omega
  have c4 : ¬ kd = 4 := by omega
  have c5 : ¬ kd = 5 := by omega
  by_cases c6 : kd = 6
  case pos =>
    by_cases a1 : ng = true
    case pos =>
      exact Evs.of fun n m => by simp [-q08, -q02, S57, hcl, p, q0, q1, q2, q3, q5, q6, hl5, hl2, hl6, c6, a1]
    by_cases a2 : nd = 0
    case neg =>
      have a2p : 0 < nd := by omega
      exact Evs.of fun n m => by simp [-q08, -q02, S57, hcl, p, q0, q1, q2, q3, q5, q6, hl5, hl2, hl6, c6, a1, a2, a2p]
    by_cases a5 : t.name = []
    case neg =>
      exact Evs.of fun n m => by simp [-q08, -q02, S57, hcl, p, q0, q1, q2, q3, q5, q6, hl5, hl2, hl6, hsn, c6, a1, a2, a5]
    by_cases a3 : nn = 0
    case neg =>
      exact Evs.of fun n m => by simp [-q08, -q02, S57, hcl, p, q0, q1, q2, q3, q4, q5, q6, hl5, hl2, hl6, hs0, c6, a1, a2, a5, a3]
    by_cases a6 : nb = 0
    case neg =>
      have a6p : 0 < nb := by omega
      exact Evs.of fun n m => by simp [-q08, -q02, S57, hcl, p, q0, q1, q2, q3, q4, q5, q6, hl5, hl2, hl6, hs0, c6, a1, a2, a5, a3, a6, a6p]
    have hr := hrest 6 c6 (Or.inr rfl)
    by_cases h2 : nl = 2
    · subst h2
      refine Evs.withL hL (Evs.of fun n m h1 _ => ?_)
      simp only [Int.natCast_zero] at h1
      cases kall <;> simp [-q08, -q02, S57, hcl, p, q0, q1, q2, q3, q4, q5, q6, hl5, hl2, hl6, hs0, c6, a1, a2, a5, a3, a6, hr, h1]
    · have h2' : ¬ (nl : Int) = 2 := by omega
      exact Evs.of fun n m => by simp [-q08, -q02, S57, hcl, p, q0, q1, q2, q3, q4, q5, q6, hl5, hl2, hl6, hs0, c6, a1, a2, a5, a3, a6, h2, h2', hr]
  omega
end Go.Proofs.YtleikacgncpfbaaDoor

/- Terms, the reference: may one be, but for how many parts it has: the rest. -/
set_option maxRecDepth 100000
set_option maxHeartbeats 8000000
namespace Go.Proofs.YtleikacgncpfbaaDoor
open Go Go.Den
theorem rmay_E (n : Nat) (t : Tm) (hs : t.size ≤ n + 1) (ht : tame t) (hkd : t.kind ≠ 0 ∧ t.kind ≠ 1 ∧ t.kind ≠ 2 ∧ t.kind ≠ 3 ∧ t.kind ≠ 4 ∧ t.kind ≠ 5 ∧ t.kind ≠ 6) : Evs fun n' _ => callF (base.with (polT (TRm n))) (n' + 1) AV 57 [cT.enc t] [] (fun v G => A.freezeB true 64 G v) = some (.bool (mayT countR t)) := by
  have hB : Go.Den.Box [.row 0 7 26 [eT t]] 0 7 26 (eT t).cells := q53 t _ 0 rfl
  have p := fun o => hB.fa (o := o)
  have q := fun o => hB.load (o := o)
  rw [q02] at q
  have q0 := q 0
  have q1 := q 1
  have q2 := q 2
  have q3 := q 3
  have q4 := q 4
  have q5 := q 5
  have q6 := q 6
  simp only [List.getElem?_cons_succ, List.getElem?_cons_zero] at q0 q1 q2 q3 q4 q5 q6
  have hcl : (eT t).cells.length = 7 := by rw [q02]; rfl
  have hl5 : A.len (eL 7 eT t.l) [.row 0 7 26 [eT t]] = some (.int .i64 ((t.kids.length : Nat) : Int)) := q08
  have hl2 : A.len (eD t.d) [.row 0 7 26 [eT t]] = some (.int .i64 ((t.d.getD []).length : Int)) := q08
  have hl6 : A.len (eL 1 eb t.b) [.row 0 7 26 [eT t]] = some (.int .i64 ((t.b.getD []).length : Int)) := q08
  have hsn := fun H => q0z (t := 9) (c := true) (H := H) t.name
  have hs0 := fun H => q0z (t := 9) (c := true) (H := H) []
  have hfew : few t.d := (tame_eq.1 ht).1.1
  have hnl : q1m t.name := (tame_eq.1 ht).1.2.1
  have hnm : ∀ (R : Type) (H : Heap) (k : AV → Heap → Option R), polK pRnorm [.agg [.bool t.neg, eD t.d]] H k = k (eN (rnormS (t.neg, t.d))) H := fun R H k => kRnorm (a := (t.neg, t.d)) hfew
  have hsm : ∀ (R : Type) (H : Heap) (k : AV → Heap → Option R), polK pSame [.agg [.bool t.neg, eD t.d], eN (rnormS (t.neg, t.d))] H k = k (.bool (sameS (t.neg, t.d) (rnormS (t.neg, t.d)))) H := fun R H k => kSame (a := (t.neg, t.d)) hfew (q44 hfew)
  have hfill : A.fill [.bool false, .nils] [(0, 1, .bool t.neg), (1, 1, eD t.d)] = some [.bool t.neg, eD t.d] := by simp [A.fill, A.splice]
  have hva : ∀ (R : Type) (H : Heap) (k : AV → Heap → Option R), polK q2k [.str t.name] H k = k (.bool (Lib.validD t.name)) H := fun R H k => q39
  have hco : ∀ (R : Type) (H : Heap) (k : AV → Heap → Option R), polK q3s [.str t.name] H k = k (.int .i64 (countR t.name)) H := fun R H k => q95 hnl
  have hcv := countR_valid (s := t.name)
  have hL := q4e hs ht hB t.kids.length 0 (by omega)
  rw [List.drop_zero] at hL
  have hrest : ∀ kd, t.kind = kd → (kd = 4 ∨ kd = 6) → ((partsO t).getD []).all (mayT countR) = t.kids.all (mayT countR) := fun kd e hkd => by
    unfold partsO
    rw [if_pos (by rw [e]; exact hkd)]
    rfl
  have hrest0 : t.kind ≠ 4 → t.kind ≠ 6 → ((partsO t).getD []).all (mayT countR) = true := fun e1 e2 => by
    unfold partsO
    rw [if_neg (by omega)]
    rfl
  rw [q4d]
  unfold oneS spareS
  rw [← q3f]
  generalize sameS (t.neg, t.d) (rnormS (t.neg, t.d)) = sn at *
  generalize rnormS (t.neg, t.d) = rn at *
  generalize ((partsO t).getD []).all (mayT countR) = rest at *
  generalize t.kids.all (mayT countR) = kall at *
  generalize countR t.name = cn at *
  generalize Lib.validD t.name = vn at *
  generalize t.kids.length = nl at *
  generalize (t.d.getD []).length = nd at *
  generalize (t.b.getD []).length = nb at *
  generalize t.kind = kd at *
  generalize t.neg = ng at *
  generalize t.n = nn at *
  generalize eL 7 eT t.l = vl at *
  generalize eD t.d = vd at *
  generalize eL 1 eb t.b = vb at *
  clear q
  have e64 : decide ((nd : Int) ≤ 64) = decide (nd ≤ 64) := decide_eq_decide.2 (by omega)
  have e4096 : decide ((nb : Int) ≤ 4096) = decide (nb ≤ 4096) := decide_eq_decide.2 (by omega)
  have c0 : ¬ kd = 0 := by omega
  have c1 : ¬ kd = 1 := by omega
  have c2 : ¬ kd = 2 := by omega
  have c3 : ¬ kd = 3 := by omega
  have c4 : ¬ kd = 4 := by omega
  have c5 : ¬ kd = 5 := by omega
  have c6 : ¬ kd = 6 := by omega
  by_cases c7 : kd = 7
  case pos =>
    by_cases a1 : ng = true
    case pos =>
      exact Evs.of fun n m => by simp [-q08, -q02, S57, hcl, p, q0, q1, q2, q3, q6, hl2, hl6, c7, a1]
    by_cases a2 : nd = 0
    case neg =>
      have a2p : 0 < nd := by omega
      exact Evs.of fun n m => by simp [-q08, -q02, S57, hcl, p, q0, q1, q2, q3, q6, hl2, hl6, c7, a1, a2, a2p]
    by_cases a5 : t.name = []
    case neg =>
      exact Evs.of fun n m => by simp [-q08, -q02, S57, hcl, p, q0, q1, q2, q3, q6, hl2, hl6, hsn, c7, a1, a2, a5]
    by_cases a3 : nn = 0
    case neg =>
      exact Evs.of fun n m => by simp [-q08, -q02, S57, hcl, p, q0, q1, q2, q3, q4, q6, hl2, hl6, hs0, c7, a1, a2, a5, a3]
    by_cases a4 : nl = 0
    case neg =>
      have a4p : 0 < nl := by omega
      exact Evs.of fun n m => by simp [-q08, -q02, S57, hcl, p, q0, q1, q2, q3, q4, q5, q6, hl5, hl2, hl6, hs0, c7, a1, a2, a5, a3, a4, a4p]
    have hr := hrest0 (by omega) (by omega)
    exact Evs.of fun n m => by simp [-q08, -q02, S57, hcl, p, q0, q1, q2, q3, q4, q5, q6, hl5, hl2, hl6, hs0, c7, a1, a2, a5, a3, a4, e4096, hr]
  by_cases a1 : ng = true
  case pos =>
    exact Evs.of fun n m => by simp [-q08, -q02, S57, hcl, p, q0, q1, q2, q3, q6, hl2, hl6, c0, c1, c2, c3, c4, c5, c6, c7, a1]
  by_cases a2 : nd = 0
  case neg =>
    have a2p : 0 < nd := by omega
    exact Evs.of fun n m => by simp [-q08, -q02, S57, hcl, p, q0, q1, q2, q3, q6, hl2, hl6, c0, c1, c2, c3, c4, c5, c6, c7, a1, a2, a2p]
  by_cases a5 : t.name = []
  case neg =>
    exact Evs.of fun n m => by simp [-q08, -q02, S57, hcl, p, q0, q1, q2, q3, q6, hl2, hl6, hsn, c0, c1, c2, c3, c4, c5, c6, c7, a1, a2, a5]
  by_cases a3 : nn = 0
  case neg =>
    exact Evs.of fun n m => by simp [-q08, -q02, S57, hcl, p, q0, q1, q2, q3, q4, q6, hl2, hl6, hs0, c0, c1, c2, c3, c4, c5, c6, c7, a1, a2, a5, a3]
  by_cases a4 : nl = 0
  case neg =>
    have a4p : 0 < nl := by omega
    exact Evs.of fun n m => by simp [-q08, -q02, S57, hcl, p, q0, q1, q2, q3, q4, q5, q6, hl5, hl2, hl6, hs0, c0, c1, c2, c3, c4, c5, c6, c7, a1, a2, a5, a3, a4, a4p]
  by_cases a6 : nb = 0
  case neg =>
    have a6p : 0 < nb := by omega
    exact Evs.of fun n m => by simp [-q08, -q02, S57, hcl, p, q0, q1, q2, q3, q4, q5, q6, hl5, hl2, hl6, hs0, c0, c1, c2, c3, c4, c5, c6, c7, a1, a2, a5, a3, a4, a6, a6p]
  exact Evs.of fun n m => by simp [-q08, -q02, S57, hcl, p, q0, q1, q2, q3, q4, q5, q6, hl5, hl2, hl6, hs0, c0, c1, c2, c3, c4, c5, c6, c7, a1, a2, a5, a3, a4, a6]
end Go.Proofs.YtleikacgncpfbaaDoor

/- Terms, the reference: may one be, but for how many parts it has; and all of it. -/
set_option maxRecDepth 100000
namespace Go.Proofs.YtleikacgncpfbaaDoor
open Go Go.Den
theorem okRmay : ∀ n, PolOK base 57 (pRmay n)
  | 0 => still1 base_ok [] trivial fun t ⟨hs, _⟩ => by
    have := t.size_eq
    omega
  | n + 1 => still1 base_ok (TRm n) ⟨okRmay n, okRnorm, okSame, qc2, okRcount, trivial⟩ fun t ⟨hs, ht⟩ => by
    by_cases a : t.kind = 0 ∨ t.kind = 1
    · exact rmay_A n t hs ht a
    by_cases b : t.kind = 2 ∨ t.kind = 3
    · exact rmay_B n t hs ht b
    by_cases c : t.kind = 4 ∨ t.kind = 5
    · exact rmay_C n t hs ht c
    by_cases d : t.kind = 6
    · exact rmay_D n t hs ht d
    · exact rmay_E n t hs ht (by omega)
noncomputable def pRMay (n : Nat) : Pol := .still (p1 cT .bool (fun t => t.size ≤ n ∧ tame t) mayS)
theorem okRMay (n : Nat) : PolOK base 18 (pRMay n) := still1 base_ok [(20, pRtree n), (57, pRmay n)] ⟨okRtree n, okRmay n, trivial⟩ fun t ⟨hs, ht⟩ => by
  have hcl : (eT t).cells.length = 7 := by rw [q02]; rfl
  have hof : A.ofList true 7 (eT t).cells 0 = some (eT t) := q0w (H := [])
  have h1 : ∀ (R : Type) (H : Heap) (k : AV → Heap → Option R), polK (pRtree n) [eT t] H k = k (.int .i64 ((min (szT t) 65537 : Nat) : Int)) H := fun R H k => kRtree hs (tame_thin t ht)
  have h2 : ∀ (R : Type) (H : Heap) (k : AV → Heap → Option R), polK (pRmay n) [eT t] H k = k (.bool (mayT countR t)) H := fun R H k => kRmay hs ht
  unfold mayS
  by_cases hc : szT t ≤ 65536
  · have hc' : ((min (szT t) 65537 : Nat) : Int) ≤ 65536 := by omega
    generalize ((min (szT t) 65537 : Nat) : Int) = N at *
    refine Evs.of fun n m => ?_
    simp [↓q0a, ↓q01, ↓q04, ↓q03, ↓q07, -q02, S18, hcl, hof, h1, h2, hc, hc']
  · have hc' : ¬ ((min (szT t) 65537 : Nat) : Int) ≤ 65536 := by omega
    generalize ((min (szT t) 65537 : Nat) : Int) = N at *
    refine Evs.of fun n m => ?_
    simp [↓q0a, ↓q01, ↓q04, ↓q03, ↓q07, -q02, S18, hcl, hof, h1, hc, hc']
end Go.Proofs.YtleikacgncpfbaaDoor

/- Terms: what is known of them, of any size; what is handed in. -/
set_option maxRecDepth 100000
set_option maxHeartbeats 4000000
namespace Go.Proofs.YtleikacgncpfbaaDoor
open Go Go.Den
noncomputable def pRoomA : Pol := .still (p3 cT (cI .i64) (cI .i64) .bool (fun _ dep most => -1 ≤ dep ∧ dep ≤ 1000 ∧ most ≤ 1000) roomS)
theorem okRoomA : PolOK base 16 pRoomA := q4y (F := fun n => p3 cT (cI .i64) (cI .i64) .bool (fun t dep most => t.size ≤ n ∧ -1 ≤ dep ∧ dep ≤ 1000 ∧ most ≤ 1000) roomS) okRoom fun zs v h => by
  match zs, h with
  | [a, b, c], h =>
    simp only [p3_app, Option.bind_eq_some_iff] at h ⊢
    obtain ⟨t, ht, d, hd, m, hm, h⟩ := h
    split at h
    · rename_i hc
      exact ⟨t.size, t, ht, d, hd, m, hm, by rw [if_pos ⟨Nat.le_refl _, hc⟩]; exact h⟩
    · cases h
theorem kRoomA {R : Type} {t : Tm} {dep most : Int} (h0 : -1 ≤ dep) (h1 : dep ≤ 1000) (h2 : most ≤ 1000) {H : Heap} {k : AV → Heap → Option R} : polK pRoomA [eT t, .int .i64 dep, .int .i64 most] H k = k (.bool (roomS t dep most)) H := by
  simp [pRoomA, q0b, h0, h1, h2]
noncomputable def pRtreeA : Pol := .still (p1 cT (fun n : Nat => .int .i64 (n : Int)) (fun t => t.thin 1000) (fun t => min (szT t) 65537))
noncomputable def pRwordsA : Pol := .still (p1 cT (fun n : Nat => .int .i64 (n : Int)) fineW wT)
noncomputable def pRMayA : Pol := .still (p1 cT .bool tame mayS)
theorem okRMayA : PolOK base 18 pRMayA := q4y (F := fun n => p1 cT .bool (fun t => t.size ≤ n ∧ tame t) mayS) okRMay fun zs v h => by
  match zs, h with
  | [a], h =>
    simp only [p1_app, Option.bind_eq_some_iff] at h ⊢
    obtain ⟨t, ht, h⟩ := h
    split at h
    · rename_i hc
      exact ⟨t.size, t, ht, by rw [if_pos ⟨Nat.le_refl _, hc⟩]; exact h⟩
    · cases h
theorem kRMayA {R : Type} {t : Tm} (h : tame t) {H : Heap} {k : AV → Heap → Option R} : polK pRMayA [eT t] H k = k (.bool (mayS t)) H := by
  simp [pRMayA, q0b, h]
theorem ty_u32s {n : Nat} {y : AV} (hy : Ty Tryd.prog n 22 y) : ∃ d : Option (List UInt32), y = eD d := by
  obtain ⟨l, hl, hb, -⟩ := hy.ints (k := .u32) (e := 59) (by kernel_rfl) (by kernel_rfl) (by kernel_rfl)
  have hll : l.map (AV.int .u32) = (l.map fun i => UInt32.ofNat i.toNat).map eu := by
    rw [List.map_map]
    refine List.map_congr_left fun i hi => ?_
    have := hb i hi
    have h5 : (0 : Int) ≤ i ∧ i ≤ 4294967295 := this
    show AV.int .u32 i = AV.int .u32 ((UInt32.ofNat i.toNat).toNat : Int)
    rw [q9b, Nat.mod_eq_of_lt (by omega)]
    congr 1
    omega
  rw [hll] at hl
  generalize hm : (l.map fun i => UInt32.ofNat i.toNat).map eu = es at hl
  cases hl with
  | nil => exact ⟨none, rfl⟩
  | sh _ =>
    subst hm
    exact ⟨some (l.map fun i => UInt32.ofNat i.toNat), rfl⟩
theorem ty_u8s {n : Nat} {y : AV} (hy : Ty Tryd.prog n 24 y) : ∃ d : Option (List UInt8), y = eL 1 eb d := by
  obtain ⟨l, hl, hb, -⟩ := hy.ints (k := .u8) (e := 5) (by kernel_rfl) (by kernel_rfl) (by kernel_rfl)
  have hll : l.map (AV.int .u8) = (l.map fun i => UInt8.ofNat i.toNat).map eb := by
    rw [List.map_map]
    refine List.map_congr_left fun i hi => ?_
    have := hb i hi
    have h5 : (0 : Int) ≤ i ∧ i ≤ 255 := this
    show AV.int .u8 i = AV.int .u8 ((UInt8.ofNat i.toNat).toNat : Int)
    rw [UInt8.toNat_ofNat']
    congr 1
    omega
  rw [hll] at hl
  generalize hm : (l.map fun i => UInt8.ofNat i.toNat).map eb = es at hl
  cases hl with
  | nil => exact ⟨none, rfl⟩
  | sh _ =>
    subst hm
    exact ⟨some (l.map fun i => UInt8.ofNat i.toNat), rfl⟩
theorem qie : ∀ (n : Nat) (v : AV), Ty Tryd.prog n 26 v → ∃ t : Tm, v = eT t
  | 0, _, h => by cases h
  | 1, v, h => by
    obtain ⟨m, vs, hm, h1, h2, h3⟩ := h.struct (fs := #[{ name := "Kind", type := 3, offset := 0, embedded := false, tag := "", pkgPath := "", byteOffset := 0 }, { name := "Neg", type := 4, offset := 1, embedded := false, tag := "", pkgPath := "", byteOffset := 8 }, { name := "D", type := 22, offset := 2, embedded := false, tag := "", pkgPath := "", byteOffset := 16 }, { name := "Name", type := 9, offset := 3, embedded := false, tag := "", pkgPath := "", byteOffset := 40 }, { name := "N", type := 3, offset := 4, embedded := false, tag := "", pkgPath := "", byteOffset := 56 }, { name := "L", type := 23, offset := 5, embedded := false, tag := "", pkgPath := "", byteOffset := 64 }, { name := "B", type := 24, offset := 6, embedded := false, tag := "", pkgPath := "", byteOffset := 88 }]) (by kernel_rfl)
    match vs, h2 with
    | [x0, x1, x2, x3, x4, x5, x6], _ =>
      have y0 := (h3 0 _ x0 rfl rfl).1
      have : m = 0 := by omega
      subst this
      cases y0
  | n + 2, v, h => by
    obtain ⟨m, vs, hm, h1, h2, h3⟩ := h.struct (fs := #[{ name := "Kind", type := 3, offset := 0, embedded := false, tag := "", pkgPath := "", byteOffset := 0 }, { name := "Neg", type := 4, offset := 1, embedded := false, tag := "", pkgPath := "", byteOffset := 8 }, { name := "D", type := 22, offset := 2, embedded := false, tag := "", pkgPath := "", byteOffset := 16 }, { name := "Name", type := 9, offset := 3, embedded := false, tag := "", pkgPath := "", byteOffset := 40 }, { name := "N", type := 3, offset := 4, embedded := false, tag := "", pkgPath := "", byteOffset := 56 }, { name := "L", type := 23, offset := 5, embedded := false, tag := "", pkgPath := "", byteOffset := 64 }, { name := "B", type := 24, offset := 6, embedded := false, tag := "", pkgPath := "", byteOffset := 88 }]) (by kernel_rfl)
    have hmn : m = n + 1 := by omega
    subst hmn
    match vs, h2 with
    | [x0, x1, x2, x3, x4, x5, x6], _ =>
      have y0 := (h3 0 _ x0 rfl rfl).1
      have y1 := (h3 1 _ x1 rfl rfl).1
      have y2 := (h3 2 _ x2 rfl rfl).1
      have y3 := (h3 3 _ x3 rfl rfl).1
      have y4 := (h3 4 _ x4 rfl rfl).1
      have y5 := (h3 5 _ x5 rfl rfl).1
      have y6 := (h3 6 _ x6 rfl rfl).1
      obtain ⟨i0, rfl, -⟩ := y0.int (k := .i64) (by kernel_rfl)
      obtain ⟨b1, rfl⟩ := y1.bool (by kernel_rfl)
      obtain ⟨d2, rfl⟩ := ty_u32s y2
      obtain ⟨s3, rfl, -⟩ := y3.str (by kernel_rfl)
      obtain ⟨i4, rfl, -⟩ := y4.int (k := .i64) (by kernel_rfl)
      obtain ⟨d6, rfl⟩ := ty_u8s y6
      obtain ⟨m, es, hm, him, -, hes⟩ := y5.slice (e := 26) (by kernel_rfl)
      have hmn : m = n := by omega
      subst hmn
      obtain ⟨l, hl, -⟩ := q77 (f := eT) (p := fun _ => True) (es := es) fun x hx => by
        obtain ⟨t, ht⟩ := qie m x (hes x hx)
        exact ⟨t, ht, trivial⟩
      have hc : Tryd.prog.cellsOf 26 = 7 := by kernel_rfl
      rw [hc] at him
      have hv : ∃ o : Option (List Tm), x5 = eL 7 eT o := by
        cases him with
        | nil => exact ⟨none, rfl⟩
        | sh _ =>
          subst hl
          exact ⟨some l, rfl⟩
      obtain ⟨o, rfl⟩ := hv
      refine ⟨.mk i0 b1 d2 s3 i4 o d6, ?_⟩
      rw [h1, q2t]
      have e2 : (eD d2).cells = [eD d2] := by cases d2 <;> rfl
      have e5 : (eL 7 eT o).cells = [eL 7 eT o] := by cases o <;> rfl
      have e6 : (eL 1 eb d6).cells = [eL 1 eb d6] := by cases d6 <;> rfl
      simp only [List.flatMap_cons, List.flatMap_nil, e2, e5, e6]
      rfl
end Go.Proofs.YtleikacgncpfbaaDoor

/- Terms in a row: are they few and small. -/
set_option maxRecDepth 100000
set_option maxHeartbeats 4000000
namespace Go.Proofs.YtleikacgncpfbaaDoor
open Go Go.Den
def roomsAll (l : List Tm) : Prop := ∀ u ∈ l, roomS u 8 40 = true ∧ mayS u = true
noncomputable def roomsS (o : Option (List Tm)) (most : Int) : Bool := decide (((o.getD []).length : Int) ≤ most) && (o.getD []).all fun u => roomS u 8 40 && mayS u
noncomputable abbrev TRms : List (FuncId × Pol) := [(16, pRoomA), (18, pRMayA)]
theorem qi7 {o : Option (List Tm)} (hlen : (o.getD []).length ≤ 1000) (H : Heap) : ∀ (k i : Nat), i + k = (o.getD []).length →
    LDoes (L24_0 (polT TRms)) ⟨[eL 7 eT o, .int .i64 (i : Int)], []⟩ H (if ((o.getD []).drop i).all (fun u => roomS u 8 40 && mayS u) then 0 else 1) ⟨[if ((o.getD []).drop i).all (fun u => roomS u 8 40 && mayS u) then .undef else .bool false], []⟩ H := by
  have hln : A.len (eL 7 eT o) H = some (.int .i64 ((o.getD []).length : Int)) := q08
  intro k
  induction k with
  | zero =>
    intro i hi
    have : i = (o.getD []).length := by omega
    subst this
    rw [List.drop_length]
    refine LDoes.step (Evs.of fun n m => ?_)
    generalize ((o.getD []).length : Int) = N at *
    simp [↓q00, ↓q05, ↓q0a, ↓q09, ↓q01, ↓q04, ↓q0c, ↓q0d, ↓q0m, ↓q03, ↓q06, ↓q07, -q08, q4j, hln]
  | succ k ih =>
    intro i hi
    have hlt : i < (o.getD []).length := by omega
    have hlt' : (i : Int) < ((o.getD []).length : Int) := by omega
    have hx : A.idx 7 (eL 7 eT o) (.int .i64 (i : Int)) H = some (.rop (eT (o.getD [])[i]).cells) := q33 (sz := 7) (e := eT) (o := o) (H := H) (k := .i64) (i := i) hlt
    have hld := q0w (t := (o.getD [])[i]) (H := H)
    have hi1 : IntKind.wrap .i64 ((i : Int) + 1) = (i : Int) + 1 := q0f (by omega) (by omega)
    have hr : ∀ (R : Type) (H : Heap) (k : AV → Heap → Option R), polK pRoomA [eT (o.getD [])[i], .int .i64 8, .int .i64 40] H k = k (.bool (roomS (o.getD [])[i] 8 40)) H := fun R H k => kRoomA (by omega) (by omega) (by omega)
    have hL := ih (i + 1) (by omega)
    simp only [Int.natCast_add, Int.natCast_one] at hL
    rw [List.drop_eq_getElem_cons hlt, List.all_cons]
    generalize ((o.getD []).drop (i + 1)).all (fun u => roomS u 8 40 && mayS u) = rest at *
    cases hrm : roomS (o.getD [])[i] 8 40
    · rw [hrm] at hr
      refine LDoes.step (Evs.of fun n m => ?_)
      generalize eT (o.getD [])[i] = v at *
      generalize ((o.getD []).length : Int) = N at *
      simp [↓q00, ↓q05, ↓q0a, ↓q09, ↓q01, ↓q04, ↓q0c, ↓q0d, ↓q0m, ↓q03, ↓q06, ↓q07, -q08, q4j, hln, hlt', hx, hld, hr]
    · rw [hrm] at hr
      have hm : ∀ (R : Type) (H : Heap) (k : AV → Heap → Option R), polK pRMayA [eT (o.getD [])[i]] H k = k (.bool (mayS (o.getD [])[i])) H := fun R H k => kRMayA (q6d (by omega) _ 8 hrm)
      cases hmy : mayS (o.getD [])[i]
      · rw [hmy] at hm
        refine LDoes.step (Evs.of fun n m => ?_)
        generalize eT (o.getD [])[i] = v at *
        generalize ((o.getD []).length : Int) = N at *
        simp [↓q00, ↓q05, ↓q0a, ↓q09, ↓q01, ↓q04, ↓q0c, ↓q0d, ↓q0m, ↓q03, ↓q06, ↓q07, -q08, q4j, hln, hlt', hx, hld, hr, hm]
      · rw [hmy] at hm
        refine LDoes.step (Evs.withL hL (Evs.of fun n m _ h2 => ?_))
        generalize eT (o.getD [])[i] = v at *
        generalize ((o.getD []).length : Int) = N at *
        simp [↓q00, ↓q05, ↓q0a, ↓q09, ↓q01, ↓q04, ↓q0c, ↓q0d, ↓q0m, ↓q03, ↓q06, ↓q07, -q08, q4j, hln, hlt', hx, hld, hr, hm, hi1, h2]
noncomputable def pRooms : Pol := .still (p2 cTs (cI .i64) .bool (fun _ most => most ≤ 1000) roomsS)
theorem kRooms {R : Type} {o : Option (List Tm)} {most : Int} (h : most ≤ 1000) {H : Heap} {k : AV → Heap → Option R} : polK pRooms [eL 7 eT o, .int .i64 most] H k = k (.bool (roomsS o most)) H := by
  simp [pRooms, q0b, h]
theorem okRooms : PolOK base 24 pRooms := still2 base_ok TRms ⟨okRoomA, okRMayA, trivial⟩ fun o most hm => by
  have hln : A.len (eL 7 eT o) [] = some (.int .i64 ((o.getD []).length : Int)) := q08
  unfold roomsS
  by_cases hc : ((o.getD []).length : Int) ≤ most
  · have hc' : ¬ most < ((o.getD []).length : Int) := by omega
    have hL := qi7 (o := o) (by omega) [] (o.getD []).length 0 (by omega)
    rw [List.drop_zero] at hL
    refine Evs.withL hL (Evs.of fun n m h1 _ => ?_)
    simp only [Int.natCast_zero, Int.ofNat_zero] at h1
    generalize (o.getD []).all (fun u => roomS u 8 40 && mayS u) = w at *
    generalize ((o.getD []).length : Int) = N at *
    cases w <;> simp [↓q00, ↓q05, ↓q0a, ↓q09, ↓q01, ↓q04, ↓q0c, ↓q0d, ↓q0m, ↓q03, ↓q06, ↓q07, -q08, S24, hln, hc, hc', h1]
  · have hc' : most < ((o.getD []).length : Int) := by omega
    generalize ((o.getD []).length : Int) = N at *
    exact Evs.of fun n m => by simp [↓q00, ↓q05, ↓q0a, ↓q09, ↓q01, ↓q04, ↓q0c, ↓q0d, ↓q0m, ↓q03, ↓q06, ↓q07, -q08, S24, hln, hc, hc']
theorem qi8 {o : Option (List Tm)} {most : Int} (h : roomsS o most = true) : ((o.getD []).length : Int) ≤ most ∧ roomsAll (o.getD []) := by
  unfold roomsS at h
  simp only [Bool.and_eq_true, decide_eq_true_eq, List.all_eq_true] at h
  exact h
/-! ### a term that may be: as great as it has parts -/
theorem qh5 : ∀ t : Tm, mayT countR t = true → t.size = szT t := q4h fun t ih h => by
  rw [q4d] at h
  simp only [Bool.and_eq_true, List.all_eq_true] at h
  obtain ⟨ho, hk⟩ := h
  have hl : ∀ l : List Tm, (∀ u ∈ l, u ∈ t.kids) → (∀ u ∈ l, mayT countR u = true) → Tm.sizes l = szs l := by
    intro l
    induction l with
    | nil => intro _ _; simp [Tm.sizes, szs]
    | cons u l ihl =>
      intro h1 h2
      rw [Tm.sizes, szs, ih u (h1 u (by simp)) (h2 u (by simp)), ihl (fun x hx => h1 x (by simp [hx])) fun x hx => h2 x (by simp [hx])]
  have hs : spareS t = true := by
    unfold oneS at ho
    simp only [Bool.and_eq_true] at ho
    exact ho.1
  rw [t.size_eq, szT_eq]
  congr 1
  unfold partsO
  unfold partsO at hk
  by_cases hc : t.kind = 4 ∨ t.kind = 6
  · rw [if_pos hc] at hk ⊢
    exact hl _ (fun u hu => hu) hk
  · rw [if_neg hc]
    have hz : t.kids.length = 0 := by
      unfold spareS at hs
      simp only [Bool.and_eq_true, Bool.or_eq_true, decide_eq_true_eq] at hs
      rcases hs.1.1.2 with h | h
      · exact absurd h hc
      · exact h
    rw [List.length_eq_zero_iff.1 hz]
    rfl
end Go.Proofs.YtleikacgncpfbaaDoor

/- Any two terms that are few and small: which is less, by both; rows of terms that are handed on. -/
set_option maxRecDepth 100000
set_option maxHeartbeats 4000000
namespace Go.Proofs.YtleikacgncpfbaaDoor
open Go Go.Den Go.Lib
/-! ### a row of terms that is handed on -/
theorem qgz {most : Int} (hm : most ≤ 1000) : ∀ t dep, roomS t dep most = true → okR t := fun t => q4h (P := fun t => ∀ dep, roomS t dep most = true → okR t) (fun t ih dep h => by
  rw [q4v] at h
  simp only [Bool.and_eq_true, Bool.not_eq_true', Bool.or_eq_false_iff, decide_eq_false_iff_not, List.all_eq_true] at h
  obtain ⟨⟨⟨⟨⟨h1, h2⟩, h3⟩, h4⟩, h5⟩, h6⟩ := h
  exact okR_eq.2 ⟨⟨by unfold few; omega, by unfold q1m; omega, by omega, by omega⟩, fun u hu => ih u hu _ (h6 u hu)⟩) t
theorem qgq {t : Tm} (h : mayT countR t = true) : (0 ≤ t.kind ∧ t.kind ≤ 7) ∧ ∀ u ∈ t.kids, mayT countR u = true := by
  rw [q4d] at h
  simp only [Bool.and_eq_true, List.all_eq_true] at h
  obtain ⟨ho, hk⟩ := h
  unfold oneS at ho
  simp only [Bool.and_eq_true] at ho
  obtain ⟨hs, ho⟩ := ho
  refine ⟨?_, ?_⟩
  · by_cases c0 : t.kind = 0
    · omega
    by_cases c1 : t.kind = 1
    · omega
    by_cases c2 : t.kind = 2 ∨ t.kind = 3
    · omega
    by_cases c4 : t.kind = 4
    · omega
    by_cases c6 : t.kind = 6
    · omega
    by_cases c7 : t.kind = 7
    · omega
    rw [if_neg c0, if_neg c1, if_neg c2, if_neg c4, if_neg c6, if_neg c7] at ho
    have := of_decide_eq_true ho
    omega
  · unfold partsO at hk
    by_cases hc : t.kind = 4 ∨ t.kind = 6
    · rw [if_pos hc] at hk
      exact hk
    · intro u hu
      have hz : t.kids.length = 0 := by
        unfold spareS at hs
        simp only [Bool.and_eq_true, Bool.or_eq_true, decide_eq_true_eq] at hs
        rcases hs.1.1.2 with h | h
        · exact absurd h hc
        · exact h
      rw [List.length_eq_zero_iff.1 hz] at hu
      cases hu
theorem may_okA : ∀ t : Tm, okR t → mayT countR t = true → okA t := q4h fun t ih h1 h2 => by
  have h1 := okR_eq.1 h1
  obtain ⟨k1, k2⟩ := qgq h2
  exact okA_eq.2 ⟨⟨⟨k1.1, k1.2, h1.1.1⟩, h1.1.2.2.2⟩, fun u hu => ih u hu (h1.2 u hu) (k2 u hu)⟩
def fitT (t : Tm) : Prop := okA t ∧ okR t ∧ t.size ≤ 65536
theorem room_fit {t : Tm} (h : roomS t 8 40 = true ∧ mayS t = true) : fitT t := by
  obtain ⟨h1, h2⟩ := h
  have hr := qgz (by omega) t 8 h1
  unfold mayS at h2
  simp only [Bool.and_eq_true, decide_eq_true_eq] at h2
  refine ⟨may_okA t hr h2.2, hr, ?_⟩
  rw [qh5 t h2.2]
  exact h2.1
end Go.Proofs.YtleikacgncpfbaaDoor

/- Any two terms: that what is less is so in order. -/
set_option maxRecDepth 100000
set_option maxHeartbeats 4000000
namespace Go.Proofs.YtleikacgncpfbaaDoor
open Go Go.Den Go.Lib
theorem q9e {a b : Tm} (c : Tm) (h : oneT a b = 0) : oneT a c = oneT b c := by
  have e := q3q h
  have n1 : ¬ a.kind ≠ b.kind := fun g => g e
  unfold oneT at h ⊢
  rw [if_neg n1] at h
  rw [← e]
  split
  · rfl
  by_cases c0 : a.kind = 0
  · rw [if_pos c0] at h ⊢
    rw [if_pos c0, cmpI_eq.1 h]
  rw [if_neg c0] at h ⊢
  rw [if_neg c0]
  by_cases c1 : a.kind = 1
  · rw [if_pos c1] at h ⊢
    rw [if_pos c1, (q97 _ _).1 h]
  rw [if_neg c1] at h ⊢
  rw [if_neg c1]
  by_cases c2 : a.kind = 2 ∨ a.kind = 3
  · rw [if_pos c2] at h ⊢
    rw [if_pos c2, ord_zero.1 h]
  rw [if_neg c2] at h ⊢
  rw [if_neg c2]
  by_cases c4 : a.kind = 4 ∨ a.kind = 6
  · rw [if_pos c4] at h ⊢
    rw [if_pos c4, ord_zero.1 h]
  rw [if_neg c4] at h ⊢
  rw [if_neg c4]
  by_cases c7 : a.kind = 7
  · rw [if_pos c7] at h ⊢
    rw [if_pos c7, (q34 _ _).1 h]
  · rw [if_neg c7] at h ⊢
    rw [if_neg c7]
theorem cmp_one {a b : Tm} (h : cmpT a b = 0) : oneT a b = 0 ∧ (a.kind = 4 ∨ a.kind = 6 → cmpTs a.kids b.kids = 0) := by
  rw [q2s] at h
  by_cases e : oneT a b = 0
  · have n1 : ¬ oneT a b ≠ 0 := fun g => g e
    rw [if_neg n1] at h
    exact ⟨e, fun hk => by rw [if_pos hk] at h; exact h⟩
  · rw [if_pos e] at h
    exact absurd h e
theorem q8q : ∀ (a b c : Tm), cmpT a b = 0 → cmpT a c = cmpT b c := q4h fun a ih b c h => by
  obtain ⟨h1, h2⟩ := cmp_one h
  have e := q9e c h1
  have hk := q3q h1
  rw [q2s a c, q2s b c, ← e, ← hk]
  by_cases k : a.kind = 4 ∨ a.kind = 6
  · rw [if_pos k, if_pos k]
    have hl := q9f h1 k
    have h2 := h2 k
    have : ∀ (l m n : List Tm), (∀ u ∈ l, ∀ b c, cmpT u b = 0 → cmpT u c = cmpT b c) → l.length = m.length → cmpTs l m = 0 → cmpTs l n = cmpTs m n := by
      intro l
      induction l with
      | nil =>
        intro m n _ hlen _
        cases m with
        | nil => rfl
        | cons u m => simp at hlen
      | cons t l ihl =>
        intro m n hall hlen hz
        cases m with
        | nil => simp at hlen
        | cons u m =>
          rw [q18] at hz
          by_cases hc : cmpT t u = 0
          · have n1 : ¬ cmpT t u ≠ 0 := fun g => g hc
            rw [if_neg n1] at hz
            cases n with
            | nil => rw [q1z, q1z]
            | cons v n =>
              rw [q18, q18, hall t (by simp) u v hc, ihl m n (fun u hu => hall u (by simp [hu])) (by simpa using hlen) hz]
          · rw [if_pos hc] at hz
            exact absurd hz hc
    rw [this a.kids b.kids c.kids ih hl h2]
  · rw [if_neg k, if_neg k]
theorem qag (a b c : Tm) (h : cmpT b c = 0) : cmpT a b = cmpT a c := by
  have := q8q b c a h
  have e1 := q82 a b
  have e2 := q82 a c
  omega
def okV1 (t : Tm) : Prop := t.kind = 1 → validD t.name = true
def okV (t : Tm) : Prop := evT okV1 t
theorem okV_eq {t : Tm} : okV t ↔ okV1 t ∧ ∀ u ∈ t.kids, okV u := qdf
theorem one_trans {a b c : Tm} (va : okV1 a) (vb : okV1 b) (vc : okV1 c) (h : oneT a b ≤ 0) (g : oneT b c ≤ 0) : oneT a c ≤ 0 := by
  by_cases h1 : a.kind = b.kind
  · by_cases h2 : b.kind = c.kind
    · have n1 : ¬ a.kind ≠ b.kind := fun g => g h1
      have n2 : ¬ b.kind ≠ c.kind := fun g => g h2
      have n3 : ¬ a.kind ≠ c.kind := fun g => g (h1.trans h2)
      unfold oneT at *
      rw [if_neg n1] at h
      rw [if_neg n2, ← h1] at g
      rw [if_neg n3]
      by_cases c0 : a.kind = 0
      · rw [if_pos c0] at h g ⊢
        exact q69 h g
      rw [if_neg c0] at h g ⊢
      by_cases c1 : a.kind = 1
      · rw [if_pos c1] at h g ⊢
        have wa := va c1
        have wb := vb (by omega)
        have wc := vc (by omega)
        unfold lessR at h g ⊢
        rw [if_pos ⟨wa, wb⟩] at h
        rw [if_pos ⟨wb, wc⟩] at g
        rw [if_pos ⟨wa, wc⟩]
        exact q99 _ _ _ h g
      rw [if_neg c1] at h g ⊢
      by_cases c2 : a.kind = 2 ∨ a.kind = 3
      · rw [if_pos c2] at h g ⊢
        exact q69 h g
      rw [if_neg c2] at h g ⊢
      by_cases c4 : a.kind = 4 ∨ a.kind = 6
      · rw [if_pos c4] at h g ⊢
        exact q69 h g
      rw [if_neg c4] at h g ⊢
      by_cases c7 : a.kind = 7
      · rw [if_pos c7] at h g ⊢
        exact q99 _ _ _ h g
      · rw [if_neg c7]
        omega
    · unfold oneT at g ⊢
      rw [if_pos h2] at g
      rw [if_pos (show a.kind ≠ c.kind by rw [h1]; exact h2), h1]
      exact g
  · by_cases h2 : b.kind = c.kind
    · unfold oneT at h ⊢
      rw [if_pos h1] at h
      rw [if_pos (show a.kind ≠ c.kind by rw [← h2]; exact h1), ← h2]
      exact h
    · unfold oneT at h g
      rw [if_pos h1] at h
      rw [if_pos h2] at g
      by_cases h3 : a.kind = c.kind
      · exfalso
        rw [← h3] at g
        have e := q8a a.kind b.kind
        exact h1 (ord_zero.1 (by omega))
      · unfold oneT
        rw [if_pos h3]
        exact q69 h g
theorem cmp_lt : ∀ (a b c : Tm), okV a → okV b → okV c → cmpT a b < 0 → cmpT b c < 0 → cmpT a c < 0 := q4h fun a ih b c va vb vc h g => by
  have va := okV_eq.1 va
  have vb := okV_eq.1 vb
  have vc := okV_eq.1 vc
  rw [q2s] at h g ⊢
  by_cases e1 : oneT a b = 0
  · have n1 : ¬ oneT a b ≠ 0 := fun g => g e1
    rw [if_neg n1] at h
    have e2 := q9e c e1
    rw [e2]
    by_cases e3 : oneT b c = 0
    · have n2 : ¬ oneT b c ≠ 0 := fun g => g e3
      rw [if_neg n2] at g ⊢
      have k1 := q3q e1
      rw [← k1] at g
      by_cases k : a.kind = 4 ∨ a.kind = 6
      · rw [if_pos k] at h g ⊢
        have l1 := q9f e1 k
        have l2 := q9f e3 (by rw [← k1]; exact k)
        have key : ∀ (l m n : List Tm), (∀ u ∈ l, ∀ b c, okV u → okV b → okV c → cmpT u b < 0 → cmpT b c < 0 → cmpT u c < 0) → (∀ u ∈ l, okV u) → (∀ u ∈ m, okV u) → (∀ u ∈ n, okV u) → l.length = m.length → m.length = n.length → cmpTs l m < 0 → cmpTs m n < 0 → cmpTs l n < 0 := by
          intro l
          induction l with
          | nil =>
            intro m n _ _ _ _ _ _ h1 _
            rw [q1u] at h1
            omega
          | cons t l ihl =>
            intro m n hall v1 v2 v3 l1 l2 h1 h2
            match m, n, l1, l2 with
            | u :: m, v :: n, l1, l2 =>
              rw [q18] at h1 h2 ⊢
              by_cases c1 : cmpT t u = 0
              · have n1 : ¬ cmpT t u ≠ 0 := fun g => g c1
                rw [if_neg n1] at h1
                rw [q8q t u v c1]
                by_cases c2 : cmpT u v = 0
                · have n2 : ¬ cmpT u v ≠ 0 := fun g => g c2
                  rw [if_neg n2] at h2 ⊢
                  exact ihl m n (fun u hu => hall u (by simp [hu])) (fun u hu => v1 u (by simp [hu])) (fun u hu => v2 u (by simp [hu])) (fun u hu => v3 u (by simp [hu])) (by simpa using l1) (by simpa using l2) h1 h2
                · rw [if_pos c2] at h2 ⊢
                  exact h2
              · rw [if_pos c1] at h1
                by_cases c2 : cmpT u v = 0
                · rw [← qag t u v c2, if_pos c1]
                  exact h1
                · rw [if_pos c2] at h2
                  have := hall t (by simp) u v (v1 t (by simp)) (v2 u (by simp)) (v3 v (by simp)) h1 h2
                  rw [if_pos (show cmpT t v ≠ 0 by omega)]
                  exact this
        exact key _ _ _ ih va.2 vb.2 vc.2 l1 l2 h g
      · rw [if_neg k] at h
        omega
    · rw [if_pos e3] at g ⊢
      exact g
  · rw [if_pos e1] at h
    have g1 : oneT b c ≤ 0 := by
      by_cases e3 : oneT b c = 0
      · omega
      · rw [if_pos e3] at g
        omega
    have e4 := one_trans va.1 vb.1 vc.1 (show oneT a b ≤ 0 by omega) g1
    have e5 : oneT a c ≠ 0 := fun e => by
      have x1 := q9e b e
      have x2 := qgs b c
      omega
    rw [if_pos e5]
    omega
theorem qiv {a b c : Tm} (va : okV a) (vb : okV b) (vc : okV c) (h : cmpT a b ≤ 0) (g : cmpT b c ≤ 0) : cmpT a c ≤ 0 := by
  by_cases e1 : cmpT a b = 0
  · rw [q8q a b c e1]
    exact g
  · by_cases e2 : cmpT b c = 0
    · rw [← qag a b c e2]
      exact h
    · have := cmp_lt a b c va vb vc (by omega) (by omega)
      omega
theorem may_okV : ∀ t : Tm, mayT countR t = true → okV t := q4h fun t ih h => by
  obtain ⟨-, k2⟩ := qgq h
  refine okV_eq.2 ⟨fun hk => ?_, fun u hu => ih u hu (k2 u hu)⟩
  rw [q4d] at h
  simp only [Bool.and_eq_true] at h
  have ho := h.1
  unfold oneS at ho
  have c0 : ¬ t.kind = 0 := by omega
  rw [if_neg c0, if_pos hk] at ho
  simp only [Bool.and_eq_true, decide_eq_true_eq] at ho
  exact countR_valid.1 ho.2.1
theorem qce {t : Tm} (h : roomS t 8 40 = true ∧ mayS t = true) : okV t := by
  have h2 := h.2
  unfold mayS at h2
  simp only [Bool.and_eq_true, decide_eq_true_eq] at h2
  exact may_okV t h2.2
end Go.Proofs.YtleikacgncpfbaaDoor

/- The seat's first question: by computation. -/
set_option maxRecDepth 100000
namespace Go.Proofs.YtleikacgncpfbaaDoor.awake6
open Go Go.Den
def q5j : List FuncId := [23, 25, 27, 29, 32, 35, 36, 46, 59, 60, 61, 62, 63, 68, 72, 82, 84, 85, 86, 87, 88, 89, 90, 91, 94, 97, 99, 100, 101, 102, 103, 106, 107, 108, 109, 111, 113, 114, 115, 116]
noncomputable def env0 : Env := { P := Tryd.prog, pol := fun f => bif Nat.beq f 110 then .prim q27 else .plain, ann := fun _ => {}, glob := fun g => bif Nat.beq g 0 then flatD (H := Unit) Rows.laid_unicode_utf8_first else bif Nat.beq g 1 then flatD (H := Unit) Rows.laid_unicode_utf8_acceptRanges else none }
def q4f : List (Nat × List (Nat × Nat × Nat)) := [(46, [(0, 0, 0), (0, 1, 1), (1, 15, 2)])]
def q5p : List (Nat × List (Nat × Nat × Nat)) → Nat → List (Nat × Nat × Nat)
  | [], _ => []
  | (g, l) :: r, f => bif Nat.beq g f then l else q5p r f
def annsIn (f : Nat) : Ann :=  .nil
noncomputable def tab (f : FuncId) : FAnn :=
  match Tryd.prog.funcs[f]? with
  | some fn => { ann := annsIn f, depth := Nat.log2 fn.ntmps + 1, sites := q5p q4f f, draws := mkDraws env0 (q5p q4f f) fn }
  | none => {}
noncomputable def env : Env := { env0 with ann := fun f => if f ∈ q5j then tab f else {} }
theorem qj4 : EnvOK env := envOK q5j (by kernel_rfl) (fun f hf => by show (if f ∈ q5j then tab f else {}).draws = []; rw [if_neg hf]) (by kernel_rfl)
theorem qcd : ∀ f, env.pol f = .plain ∨ ∃ F, env.pol f = .prim F ∧ PrimOK env f F := fun f => by
  cases h110 : Nat.beq f 110
  case true =>
    obtain rfl := Nat.eq_of_beq_eq_true h110
    exact .inr ⟨q27, rfl, q7m (fn := Tryd.f110) Tryd.func110 (by kernel_rfl) (by kernel_rfl) (by kernel_rfl) (by kernel_rfl)⟩
  case false =>
    refine .inl ?_
    show (bif Nat.beq f 110 then Pol.prim q27 else Pol.plain) = _
    simp only [h110, cond_false]
theorem calls_ok (n : Nat) : CallOK env (callF env n) := q8l qj4 (by kernel_rfl) qcd n
def q4w : Option AV → Bool
  | some (.bool true) => true
  | _ => false
theorem q9n {x : Option AV} (h : q4w x = true) : x = some (.bool true) := by
  unfold q4w at h
  split at h
  · rfl
  · cases h
theorem known : callF env 300 AV 23 [] [] (fun v G => A.freezeB true 64 G v) = some (.bool true) := q9n (by kernel_rfl)
end Go.Proofs.YtleikacgncpfbaaDoor.awake6
namespace Go.Proofs.YtleikacgncpfbaaDoor
open Go Go.Den
noncomputable def qc8 : Pol := .still (Cd.f0 (.bool true))
theorem okAwake6 : PolOK base 23 qc8 := q9l (E := base) (E' := awake6.env) rfl rfl awake6.calls_ok fun xs v h => by
  unfold Cd.f0 at h
  split at h
  · cases h
    exact ⟨300, awake6.known⟩
  · cases h
theorem kAwake6 {R : Type} {H : Heap} {k : AV → Heap → Option R} : polK qc8 [] H k = k (.bool true) H := by
  unfold qc8
  rw [q0b (by simp)]
  rfl
end Go.Proofs.YtleikacgncpfbaaDoor

/- The law on any three terms: what its function answers. -/
set_option maxRecDepth 100000
set_option maxHeartbeats 8000000
namespace Go.Proofs.YtleikacgncpfbaaDoor
open Go Go.Den Go.Lib
noncomputable abbrev TLh : List (FuncId × Pol) := [(23, qc8), (24, pRooms), (25, pCom)]
theorem okTLh : TabOK base TLh := ⟨okAwake6, okRooms, okCom, trivial⟩
structure Three (P : AV) (g : Nat → Tm) : Prop where
  get : ∀ i : Nat, i < 3 → ∃ q, ∀ H : Heap, A.idxArr 7 3 P (.int .i64 (i : Int)) H = some q ∧ A.load true 7 q H = some (eT (g i))
  cmp : ∀ i j : Nat, i < 3 → j < 3 → ∀ (R : Type) (H : Heap) (k : AV → Heap → Option R), polK pCom [eT (g i), eT (g j)] H k = k (.int .i64 (cmpT (g i) (g j))) H
  cmq : ∀ i j : Nat, i < 3 → j < 3 → ∀ (R : Type) (H : Heap) (k : AV → Heap → Option R), polQ pCom [eT (g i), eT (g j)] H k = k (.int .i64 (cmpT (g i) (g j))) H
  trans : ∀ i j k : Nat, i < 3 → j < 3 → k < 3 → cmpT (g i) (g j) ≤ 0 → cmpT (g j) (g k) ≤ 0 → cmpT (g i) (g k) ≤ 0
theorem three_k {P : AV} {g : Nat → Tm} (hP : Three P g) {i j : Nat} (hi : i < 3) (hj : j < 3) (H : Heap) : ∀ (m k : Nat), k + m = 3 →
    LDoes (L5_2 (polT TLh)) ⟨[P, .int .i64 (i : Int), .int .i64 (j : Int), .int .i64 (k : Int)], []⟩ H 0 ⟨[P, .undef, .int .i64 (i : Int), .int .i64 (j : Int)], []⟩ H := by
  intro m
  induction m with
  | zero =>
    intro k hk
    have hnl : ¬ ((k : Int) < 3) := by omega
    refine LDoes.step (Evs.of fun n m => ?_)
    generalize (k : Int) = K at *
    simp [↓q00, ↓q01, q5u, hnl]
  | succ m ih =>
    intro k hk
    have hk3 : k < 3 := by omega
    have hlt : (k : Int) < 3 := by omega
    have wk : IntKind.wrap .i64 ((k : Int) + 1) = ((k + 1 : Nat) : Int) := by rw [q0f (by omega) (by omega)]; omega
    have hL := ih (k + 1) (by omega)
    obtain ⟨qi, gi⟩ := hP.get i hi
    obtain ⟨qj, gj⟩ := hP.get j hj
    obtain ⟨qk, gk⟩ := hP.get k hk3
    have i1 := fun G => (gi G).1
    have i2 := fun G => (gi G).2
    have j1 := fun G => (gj G).1
    have j2 := fun G => (gj G).2
    have k1 := fun G => (gk G).1
    have k2 := fun G => (gk G).2
    have c1 := hP.cmq i j hi hj
    have c2 := hP.cmp j k hj hk3
    have c3 := hP.cmp i k hi hk3
    have ht := hP.trans i j k hi hj hk3
    clear gi gj gk hP ih
    generalize cmpT (g i) (g j) = X at *
    generalize cmpT (g j) (g k) = Y at *
    generalize cmpT (g i) (g k) = Z at *
    generalize eT (g i) = x at *
    generalize eT (g j) = y at *
    generalize eT (g k) = z at *
    generalize ((k + 1 : Nat) : Int) = K1 at *
    generalize (k : Int) = K at *
    generalize (i : Int) = I at *
    generalize (j : Int) = J at *
    refine LDoes.step (Evs.withL hL (Evs.of fun n m _ h2 => ?_))
    by_cases hX : X ≤ 0
    · by_cases hY : Y ≤ 0
      · have hZ : ¬ 0 < Z := by have := ht hX hY; omega
        simp [↓q00, ↓q01, ↓q04, ↓q03, q5u, hlt, i1, i2, j1, j2, k1, k2, c1, c2, c3, hX, hY, hZ, A.asG, guardB, A.pick, wk, h2]
      · simp [↓q00, ↓q01, ↓q04, ↓q03, q5u, hlt, i1, i2, j1, j2, k1, k2, c1, c2, hX, hY, A.asG, guardB, A.pick, wk, h2]
    · simp [↓q00, ↓q01, ↓q04, ↓q03, q5u, hlt, i1, i2, j1, j2, c1, hX, A.asG, guardB, A.pick, wk, h2]
theorem three_j {P : AV} {g : Nat → Tm} (hP : Three P g) {i : Nat} (hi : i < 3) (H : Heap) : ∀ (m j : Nat), j + m = 3 →
    LDoes (L5_1 (polT TLh)) ⟨[P, .int .i64 (i : Int), .int .i64 (j : Int)], []⟩ H 0 ⟨[P, .undef, .int .i64 (i : Int)], []⟩ H := by
  intro m
  induction m with
  | zero =>
    intro k hk
    have hnl : ¬ ((k : Int) < 3) := by omega
    refine LDoes.step (Evs.of fun n m => ?_)
    generalize (k : Int) = K at *
    simp [↓q00, ↓q01, qcu, hnl]
  | succ m ih =>
    intro k hk
    have hk3 : k < 3 := by omega
    have hlt : (k : Int) < 3 := by omega
    have wk : IntKind.wrap .i64 ((k : Int) + 1) = ((k + 1 : Nat) : Int) := by rw [q0f (by omega) (by omega)]; omega
    have hL := ih (k + 1) (by omega)
    have hL1 := three_k hP hi hk3 H 3 0 rfl
    have c0 : ((0 : Nat) : Int) = 0 := rfl
    rw [c0] at hL1
    clear hP ih
    generalize ((k + 1 : Nat) : Int) = K1 at *
    generalize (k : Int) = K at *
    generalize (i : Int) = I at *
    refine LDoes.step (Evs.withL hL (Evs.withL hL1 (Evs.of fun n m g1 _ _ h2 => ?_)))
    simp [↓q00, ↓q05, ↓q01, ↓q06, qcu, hlt, g1, wk, h2]
theorem three_i {P : AV} {g : Nat → Tm} (hP : Three P g) (H : Heap) : ∀ (m i : Nat), i + m = 3 →
    LDoes (L5_0 (polT TLh)) ⟨[P, .int .i64 (i : Int)], []⟩ H 0 ⟨[.undef], []⟩ H := by
  intro m
  induction m with
  | zero =>
    intro k hk
    have hnl : ¬ ((k : Int) < 3) := by omega
    refine LDoes.step (Evs.of fun n m => ?_)
    generalize (k : Int) = K at *
    simp [↓q00, ↓q01, qct, hnl]
  | succ m ih =>
    intro k hk
    have hk3 : k < 3 := by omega
    have hlt : (k : Int) < 3 := by omega
    have wk : IntKind.wrap .i64 ((k : Int) + 1) = ((k + 1 : Nat) : Int) := by rw [q0f (by omega) (by omega)]; omega
    have hL := ih (k + 1) (by omega)
    have hL1 := three_j hP hk3 H 3 0 rfl
    have c0 : ((0 : Nat) : Int) = 0 := rfl
    rw [c0] at hL1
    clear hP ih
    generalize ((k + 1 : Nat) : Int) = K1 at *
    generalize (k : Int) = K at *
    refine LDoes.step (Evs.withL hL (Evs.withL hL1 (Evs.of fun n m g1 _ _ h2 => ?_)))
    simp [↓q00, ↓q05, ↓q01, ↓q06, qct, hlt, g1, wk, h2]
theorem qbt {α : Type} {sz : Nat} {e : α → AV} {o : Option (List α)} : (eL sz e o).leaf = true := by cases o <;> rfl
theorem leaf_eT {t : Tm} : (eT t).cells.all AV.leaf = true := by
  have hd : (eD t.d).leaf = true := qbt
  have hl : (eL 7 eT t.l).leaf = true := qbt
  have hb : (eL 1 eb t.b).leaf = true := qbt
  rw [q02, List.all_cons, List.all_cons, List.all_cons, List.all_cons, List.all_cons, List.all_cons, List.all_cons, hd, hl, hb]
  rfl
theorem three_agg {a b c : Tm} : (([a, b, c].map eT).flatMap AV.cells).length = 21 := by
  simp
theorem law_three (a b c : Tm) : Evs fun n _ => callF (base.with (polT TLh)) (n + 1) AV 5 [.agg (([a, b, c].map eT).flatMap AV.cells)] [] (fun v _ => some v) = some (.bool true) := by
  have hleaf : (([a, b, c].map eT).flatMap AV.cells).all AV.leaf = true := by
    simp only [List.map_cons, List.map_nil, List.flatMap_cons, List.flatMap_nil, List.append_nil, List.all_append, leaf_eT, Bool.and_self]
  have hlen := three_agg (a := a) (b := b) (c := c)
  have hg : ∀ i : Nat, i < 3 → ([a, b, c].getD i a = a ∨ [a, b, c].getD i a = b ∨ [a, b, c].getD i a = c) ∧ ∃ q, ∀ H : Heap, A.idxArr 7 3 (.rop (([a, b, c].map eT).flatMap AV.cells)) (.int .i64 (i : Int)) H = some q ∧ A.load true 7 q H = some (eT ([a, b, c].getD i a)) := fun i hi => by
    match i, hi with
    | 0, _ => exact ⟨.inl rfl, _, fun H => ⟨rfl, by simp only [List.map_cons, List.map_nil, q2t]; rfl⟩⟩
    | 1, _ => exact ⟨.inr (.inl rfl), _, fun H => ⟨rfl, by simp only [List.map_cons, List.map_nil, q2t]; rfl⟩⟩
    | 2, _ => exact ⟨.inr (.inr rfl), _, fun H => ⟨rfl, by simp only [List.map_cons, List.map_nil, q2t]; rfl⟩⟩
  have hsl : A.sliceRop 7 3 (.rop (([a, b, c].map eT).flatMap AV.cells)) none none = some (eL 7 eT (some [a, b, c])) := by
    have e : eL 7 eT (some [a, b, c]) = .sh 7 [eT a, eT b, eT c] := rfl
    rw [e]
    simp only [List.map_cons, List.map_nil, q2t]
    rfl
  have hrm : ∀ (R : Type) (H : Heap) (k : AV → Heap → Option R), polK pRooms [eL 7 eT (some [a, b, c]), .int .i64 3] H k = k (.bool (roomsS (some [a, b, c]) 3)) H := fun R H k => kRooms (by omega)
  have e1 : (AV.agg (([a, b, c].map eT).flatMap AV.cells)).cells = ([a, b, c].map eT).flatMap AV.cells := rfl
  have e2 : (AV.agg (([a, b, c].map eT).flatMap AV.cells)).isDef = true := rfl
  have main : roomsS (some [a, b, c]) 3 = true → Three (.rop (([a, b, c].map eT).flatMap AV.cells)) (fun i => [a, b, c].getD i a) := fun hr => by
    obtain ⟨-, hall⟩ := qi8 hr
    have hm : ∀ i : Nat, i < 3 → [a, b, c].getD i a ∈ (some [a, b, c]).getD [] := fun i hi => by
      rcases (hg i hi).1 with h | h | h <;> rw [h] <;> simp
    have hf := fun i hi => room_fit (hall _ (hm i hi))
    exact ⟨fun i hi => (hg i hi).2, fun i j hi hj R H k => kCom (hf i hi).1 (hf j hj).1 (by have := (hf i hi).2.2; omega), fun i j hi hj R H k => qCom (hf i hi).1 (hf j hj).1 (by have := (hf i hi).2.2; omega),
      fun i j k hi hj hk => qiv (qce (hall _ (hm i hi))) (qce (hall _ (hm j hj))) (qce (hall _ (hm k hk)))⟩
  clear hg
  generalize ([a, b, c].map eT).flatMap AV.cells = cs at *
  cases hr : roomsS (some [a, b, c]) 3
  · rw [hr] at hrm
    generalize eL 7 eT (some [a, b, c]) = vs at *
    exact Evs.of fun n m => by simp [↓q00, ↓q05, ↓q01, ↓q07, S5, kAwake6, e1, e2, hlen, hleaf, hsl, hrm]
  rw [hr] at hrm
  have hL := three_i (main hr) [] 3 0 rfl
  have c0 : ((0 : Nat) : Int) = 0 := rfl
  rw [c0] at hL
  generalize eL 7 eT (some [a, b, c]) = vs at *
  refine Evs.withL hL (Evs.of fun n m h1 _ => ?_)
  simp [↓q00, ↓q05, ↓q01, ↓q06, ↓q07, S5, kAwake6, e1, e2, hlen, hleaf, hsl, hrm, h1]
theorem ty_three {n : Nat} {v : AV} (h : Ty Tryd.prog n 34 v) : ∃ a b c : Tm, v = .agg (([a, b, c].map eT).flatMap AV.cells) := by
  cases n with
  | zero => exact h.elim
  | succ n =>
    have hu : Tryd.prog.underlying 34 = some (.array 3 26) := by kernel_rfl
    unfold Ty at h
    rw [hu] at h
    obtain ⟨vs, rfl, hl, hv⟩ := h
    match vs, hl with
    | [x, y, z], _ =>
      obtain ⟨a, rfl⟩ := qie _ _ (hv x (by simp)).1
      obtain ⟨b, rfl⟩ := qie _ _ (hv y (by simp)).1
      obtain ⟨c, rfl⟩ := qie _ _ (hv z (by simp)).1
      exact ⟨a, b, c, rfl⟩
end Go.Proofs.YtleikacgncpfbaaDoor

/- Two terms, but for what is in them: are they the same? By the program. -/
set_option maxRecDepth 100000
set_option maxHeartbeats 4000000
namespace Go.Proofs.YtleikacgncpfbaaDoor
open Go Go.Den Go.Lib
noncomputable def pKnown : Pol := .still (p1 cT (.int .i64) (fun t => 0 ≤ t.kind ∧ t.kind ≤ 7) Tm.kind)
theorem okKnown : PolOK base 93 pKnown := still1 base_ok [] trivial fun t ⟨h1, h2⟩ => by
  have hB : Go.Den.Box [.row 0 7 26 [eT t]] 0 7 26 (eT t).cells := q53 t _ 0 rfl
  have p := fun o => hB.fa (o := o)
  have q := fun o => hB.load (o := o)
  rw [q02] at q
  have q0 := q 0
  simp only [List.getElem?_cons_zero] at q0
  have hcl : (eT t).cells.length = 7 := by rw [q02]; rfl
  have n1 : ¬ t.kind < 0 := by omega
  have n2 : ¬ (7 : Int) < t.kind := by omega
  exact Evs.of fun n m => by simp [-q08, -q02, S93, hcl, p, q0, n1, n2]
theorem kKnown {R : Type} {t : Tm} (h1 : 0 ≤ t.kind) (h2 : t.kind ≤ 7) {H : Heap} {k : AV → Heap → Option R} : polK pKnown [eT t] H k = k (.int .i64 t.kind) H := by
  simp [pKnown, q0b, h1, h2]
theorem qKnown {R : Type} {t : Tm} (h1 : 0 ≤ t.kind) (h2 : t.kind ≤ 7) {H : Heap} {k : AV → Heap → Option R} : polQ pKnown [eT t] H k = k (.int .i64 t.kind) H := by
  simp [pKnown, q29, h1, h2]
theorem qd1 : ∀ l : List UInt8, A.bytes8 (l.map eb) = some l
  | [] => rfl
  | x :: l => by
    have hx := x.toNat_lt
    have e : (x.toNat : Int).toNat.toUInt8 = x := by simp
    rw [List.map_cons]
    show (bif decide ((0 : Int) ≤ (x.toNat : Int)) && decide ((x.toNat : Int) < 256) then (match A.bytes8 (l.map eb) with | some l => some ((x.toNat : Int).toNat.toUInt8 :: l) | none => none) else none) = _
    rw [qd1 l, e]
    have h1 : decide ((0 : Int) ≤ (x.toNat : Int)) = true := by simp
    have h2 : decide ((x.toNat : Int) < 256) = true := by simp; omega
    rw [h1, h2]
    rfl
theorem qda {R : Type} {d : Option (List UInt8)} {H : Heap} {k : AV → Heap → Option R} : q0o base 24 9 (eL 1 eb d) H k = k (.str (d.getD [])) H := by
  have h1 : Go.Den.convert base 24 9 (eL 1 eb d) = none := by
    unfold Go.Den.convert
    rw [q7x, q10]
    cases d <;> rfl
  have hr : A.read 1 (eL 1 eb d) H = some ((d.getD []).map eb) := by cases d <;> rfl
  have h2 : convH base 24 9 (eL 1 eb d) H = some (.str (d.getD [])) := by
    unfold convH
    rw [q7x, q10]
    dsimp only
    rw [ty_u8]
    dsimp only
    rw [hr]
    dsimp only
    rw [qd1]
    rfl
  unfold q0o
  rw [h1, h2]
theorem str_eql {a b : List UInt8} {c : Bool} {H : Heap} : A.bin base.P .eql 9 (.str a) (.str b) c H = some (.bool (decide (a = b))) := by
  simp only [A.bin, A.binStr]
  congr 2
  by_cases h : a = b <;> simp [h]
noncomputable def pBeq : Pol := .still (p2 cBy cBy .bool (fun _ _ => True) fun a b => decide (a.getD [] = b.getD []))
theorem okBeq : PolOK base 95 pBeq := still2 base_ok [] trivial fun a b _ => by
  have c1 : ∀ (R : Type) (H : Heap) (k : AV → Heap → Option R), q0o base 24 9 (eL 1 eb a) H k = k (.str (a.getD [])) H := fun R H k => qda
  have c2 : ∀ (R : Type) (H : Heap) (k : AV → Heap → Option R), q0o base 24 9 (eL 1 eb b) H k = k (.str (b.getD [])) H := fun R H k => qda
  have e1 : cBy.enc a = eL 1 eb a := rfl
  have e2 : cBy.enc b = eL 1 eb b := rfl
  rw [e1, e2]
  generalize eL 1 eb a = va at *
  generalize eL 1 eb b = vb at *
  exact Evs.of fun n m => by simp [↓q01, S95, c1, c2, str_eql]
theorem kBeq {R : Type} {a b : Option (List UInt8)} {H : Heap} {k : AV → Heap → Option R} : polK pBeq [eL 1 eb a, eL 1 eb b] H k = k (.bool (decide (a.getD [] = b.getD []))) H := by
  simp [pBeq, q0b]
theorem qParts {R : Type} {t : Tm} {H : Heap} {k : AV → Heap → Option R} : polQ pParts [eT t] H k = k (eL 7 eT (partsO t)) H := by
  simp [pParts, q29]
noncomputable abbrev TAlk : List (FuncId × Pol) := [(93, pKnown), (94, q3r), (95, pBeq), (75, pParts)]
theorem q89 {a b : List UInt8} (h : nums a = nums b) : a = b := by
  have : ∀ x y : UInt8, x.toNat = y.toNat → x = y := fun x y h => UInt8.toNat_inj.1 h
  exact (List.map_inj_right this).1 h
noncomputable def pAlike : Pol := .still (p2 cT cT .bool (fun a b => okK a ∧ okK b) fun a b => decide (oneT a b = 0))
theorem okAlike : PolOK base 74 pAlike := still2 base_ok TAlk ⟨okKnown, qdy, okBeq, okParts, trivial⟩ fun a b ⟨⟨a1, a2, a3⟩, ⟨b1, b2, b3⟩⟩ => by
  have la : (eT a).cells.length = 7 := by rw [q02]; rfl
  have lb : (eT b).cells.length = 7 := by rw [q02]; rfl
  have oa : A.ofList true 7 (eT a).cells 0 = some (eT a) := q0w (H := [])
  have ob : A.ofList true 7 (eT b).cells 0 = some (eT b) := q0w (H := [])
  have ga : ∀ (i : Nat) (v : AV), i < 7 → (eT a).cells[i]? = some v → A.ofList false 1 (eT a).cells i = some v := fun i v _ h => h
  have gb : ∀ (i : Nat) (v : AV), i < 7 → (eT b).cells[i]? = some v → A.ofList false 1 (eT b).cells i = some v := fun i v _ h => h
  have a_1 := ga 1 (.bool a.neg) (by omega) (by rw [q02]; rfl)
  have a_2 := ga 2 (eD a.d) (by omega) (by rw [q02]; rfl)
  have a_3 := ga 3 (.str a.name) (by omega) (by rw [q02]; rfl)
  have a_4 := ga 4 (.int .i64 a.n) (by omega) (by rw [q02]; rfl)
  have a_6 := ga 6 (eL 1 eb a.b) (by omega) (by rw [q02]; rfl)
  have b_1 := gb 1 (.bool b.neg) (by omega) (by rw [q02]; rfl)
  have b_2 := gb 2 (eD b.d) (by omega) (by rw [q02]; rfl)
  have b_3 := gb 3 (.str b.name) (by omega) (by rw [q02]; rfl)
  have b_4 := gb 4 (.int .i64 b.n) (by omega) (by rw [q02]; rfl)
  have b_6 := gb 6 (eL 1 eb b.b) (by omega) (by rw [q02]; rfl)
  have a4 : ∀ h : 4 < (eT a).cells.length, (eT a).cells[4]'h = .int .i64 a.n := fun h => by simp [q02]
  have b4 : ∀ h : 4 < (eT b).cells.length, (eT b).cells[4]'h = .int .i64 b.n := fun h => by simp [q02]
  have a6 : ∀ h : 6 < (eT a).cells.length, (eT a).cells[6]'h = eL 1 eb a.b := fun h => by simp [q02]
  have b6 : ∀ h : 6 < (eT b).cells.length, (eT b).cells[6]'h = eL 1 eb b.b := fun h => by simp [q02]
  have fl : ∀ (x : Bool) (d : Option (List UInt32)), (A.fill [(AV.bool false), AV.nils] [(0, 1, AV.bool x), (1, 1, eD d)]).map .agg = some (eN (x, d)) := fun x d => by cases d <;> rfl
  have fa := fl a.neg a.d
  have fb := fl b.neg b.d
  clear fl
  have k1 : ∀ (R : Type) (H : Heap) (k : AV → Heap → Option R), polK pKnown [eT a] H k = k (.int .i64 a.kind) H := fun R H k => kKnown a1 a2
  have k2 : ∀ (R : Type) (H : Heap) (k : AV → Heap → Option R), polQ pKnown [eT a] H k = k (.int .i64 a.kind) H := fun R H k => qKnown a1 a2
  have k3 : ∀ (R : Type) (H : Heap) (k : AV → Heap → Option R), polQ pKnown [eT b] H k = k (.int .i64 b.kind) H := fun R H k => qKnown b1 b2
  have kc : ∀ (R : Type) (H : Heap) (k : AV → Heap → Option R), polK q3r [eN (a.neg, a.d), eN (b.neg, b.d)] H k = k (.int .i64 (cmpI (toI (a.neg, a.d)) (toI (b.neg, b.d)))) H := fun R H k => by
    rw [qgd a3 b3, qai]
  have kq1 : ∀ (R : Type) (H : Heap) (k : AV → Heap → Option R), polQ pParts [eT a] H k = k (eL 7 eT (partsO a)) H := fun R H k => qParts
  have kq2 : ∀ (R : Type) (H : Heap) (k : AV → Heap → Option R), polQ pParts [eT b] H k = k (eL 7 eT (partsO b)) H := fun R H k => qParts
  have p1 : ∀ H, A.len (eL 7 eT (partsO a)) H = some (.int .i64 (((partsO a).getD []).length : Int)) := fun H => q08
  have p2 : ∀ H, A.len (eL 7 eT (partsO b)) H = some (.int .i64 (((partsO b).getD []).length : Int)) := fun H => q08
  have e1 : cT.enc a = eT a := rfl
  have e2 : cT.enc b = eT b := rfl
  have d1 : (eT a).isDef = true := q85
  have d2 : (eT b).isDef = true := q85
  rw [e1, e2]
  by_cases hk : a.kind = b.kind
  · have n0 : ¬ a.kind ≠ b.kind := fun g => g hk
    have hone : oneT a b = if a.kind = 0 then cmpI (toI (a.neg, a.d)) (toI (b.neg, b.d)) else if a.kind = 1 then lessR a.name b.name else if a.kind = 2 ∨ a.kind = 3 then ordI a.n b.n else if a.kind = 4 ∨ a.kind = 6 then ordI (a.kids.length : Int) (b.kids.length : Int) else if a.kind = 7 then lexR (nums (a.b.getD [])) (nums (b.b.getD [])) else 0 := by
      unfold oneT
      rw [if_neg n0]
    have hs : decide (lessR a.name b.name = 0) = decide (a.name = b.name) := by simp only [decide_eq_decide]; exact q97 _ _
    have hn : decide (ordI a.n b.n = 0) = decide (a.n = b.n) := by simp only [decide_eq_decide]; exact ord_zero
    have hx : decide (lexR (nums (a.b.getD [])) (nums (b.b.getD [])) = 0) = decide (a.b.getD [] = b.b.getD []) := by
      simp only [decide_eq_decide]
      exact ⟨fun h => q89 ((q34 _ _).1 h), fun h => (q34 _ _).2 (by rw [h])⟩
    have hl : decide (ordI (a.kids.length : Int) (b.kids.length : Int) = 0) = decide ((a.kids.length : Int) = (b.kids.length : Int)) := by simp only [decide_eq_decide]; exact ord_zero
    have hb3 : ∀ (R : Type) (H : Heap) (k : AV → Heap → Option R), polQ pKnown [eT b] H k = k (.int .i64 a.kind) H := fun R H k => by rw [k3, hk]
    rw [hone]
    clear hone k3
    generalize lessR a.name b.name = X1 at *
    generalize ordI a.n b.n = X2 at *
    generalize ordI (a.kids.length : Int) (b.kids.length : Int) = X3 at *
    generalize lexR (nums (a.b.getD [])) (nums (b.b.getD [])) = X4 at *
    have hpa : (a.kind = 4 ∨ a.kind = 6) → ((partsO a).getD []).length = a.kids.length ∧ ((partsO b).getD []).length = b.kids.length := fun h => by
      unfold partsO
      rw [if_pos h, if_pos (hk ▸ h)]
      exact ⟨rfl, rfl⟩
    have hp5 : a.kind = 5 → ((partsO a).getD []).length = 0 ∧ ((partsO b).getD []).length = 0 := fun h => by
      unfold partsO
      rw [if_neg (by omega), if_neg (by omega)]
      exact ⟨rfl, rfl⟩
    generalize ((partsO a).getD []).length = LA at *
    generalize ((partsO b).getD []).length = LB at *
    generalize eN (a.neg, a.d) = na at *
    generalize eN (b.neg, b.d) = nb at *
    generalize eT a = va at *
    generalize eT b = vb at *
    generalize eL 7 eT (partsO a) = pa at *
    generalize eL 7 eT (partsO b) = pb at *
    generalize cmpI (toI (a.neg, a.d)) (toI (b.neg, b.d)) = X0 at *
    rcases (show a.kind = 0 ∨ a.kind = 1 ∨ a.kind = 2 ∨ a.kind = 3 ∨ a.kind = 4 ∨ a.kind = 5 ∨ a.kind = 6 ∨ a.kind = 7 by omega) with c | c | c | c | c | c | c | c
    · rw [c] at k1 k2 hb3
      exact Evs.of fun n m => by simp [↓q00, ↓q05, ↓q0a, ↓q01, ↓q07, S74, d1, d2, la, lb, oa, ob, k1, k2, hb3, a_1, a_2, b_1, b_2, fa, fb, kc, c]
    · rw [c] at k1 k2 hb3
      exact Evs.of fun n m => by simp [↓q00, ↓q05, ↓q0a, ↓q01, ↓q07, S74, d1, d2, la, lb, oa, ob, k1, k2, hb3, a_3, b_3, str_eql, c, hs]
    · rw [c] at k1 k2 hb3
      exact Evs.of fun n m => by simp [↓q00, ↓q05, ↓q0a, ↓q01, ↓q06, ↓q07, S74, d1, d2, la, lb, oa, ob, k1, k2, hb3, a4, b4, c, hn]
    · rw [c] at k1 k2 hb3
      exact Evs.of fun n m => by simp [↓q00, ↓q05, ↓q0a, ↓q01, ↓q06, ↓q07, S74, d1, d2, la, lb, oa, ob, k1, k2, hb3, a4, b4, c, hn]
    · rw [c] at k1 k2 hb3
      obtain ⟨q1, q2⟩ := hpa (.inl c)
      rw [q1] at p1
      rw [q2] at p2
      exact Evs.of fun n m => by simp [↓q00, ↓q05, ↓q0a, ↓q01, ↓q06, ↓q07, S74, d1, d2, la, lb, oa, ob, k1, k2, hb3, kq1, kq2, p1, p2, c, hl]
    · rw [c] at k1 k2 hb3
      obtain ⟨q1, q2⟩ := hp5 c
      rw [q1] at p1
      rw [q2] at p2
      exact Evs.of fun n m => by simp [↓q00, ↓q05, ↓q0a, ↓q01, ↓q06, ↓q07, S74, d1, d2, la, lb, oa, ob, k1, k2, hb3, kq1, kq2, p1, p2, c]
    · rw [c] at k1 k2 hb3
      obtain ⟨q1, q2⟩ := hpa (.inr c)
      rw [q1] at p1
      rw [q2] at p2
      exact Evs.of fun n m => by simp [↓q00, ↓q05, ↓q0a, ↓q01, ↓q06, ↓q07, S74, d1, d2, la, lb, oa, ob, k1, k2, hb3, kq1, kq2, p1, p2, c, hl]
    · rw [c] at k1 k2 hb3
      exact Evs.of fun n m => by simp [↓q00, ↓q05, ↓q0a, ↓q01, ↓q06, ↓q07, S74, d1, d2, la, lb, oa, ob, k1, k2, hb3, a6, b6, kBeq, c, hx]
  · have hz : ¬ oneT a b = 0 := by
      unfold oneT
      rw [if_pos hk]
      exact fun e => hk (ord_zero.1 e)
    generalize eT a = va at *
    generalize eT b = vb at *
    exact Evs.of fun n m => by simp [↓q00, ↓q05, ↓q0a, ↓q01, ↓q07, S74, d1, d2, la, lb, oa, ob, k2, k3, hk, hz]
theorem kAlike {R : Type} {a b : Tm} (ha : okK a) (hb : okK b) {H : Heap} {k : AV → Heap → Option R} : polK pAlike [eT a, eT b] H k = k (.bool (decide (oneT a b = 0))) H := by
  simp [pAlike, q0b, ha, hb]
end Go.Proofs.YtleikacgncpfbaaDoor

/- Two terms: are they the same? By the program. -/
set_option maxRecDepth 100000
set_option maxHeartbeats 4000000
namespace Go.Proofs.YtleikacgncpfbaaDoor
open Go Go.Den Go.Lib
noncomputable def sameP (p : Tm × Tm) : Bool := decide (cmpT p.1 p.2 = 0)
def kp (t : Tm) : List Tm := (partsO t).getD []
theorem zip_all : ∀ l m : List Tm, (l.zip m).all sameP = decide (cmpTs l m = 0)
  | [], m => by rw [q1u]; rfl
  | t :: l, [] => by rw [q1z]; rfl
  | t :: l, u :: m => by
    rw [q18, List.zip_cons_cons, List.all_cons, zip_all l m]
    unfold sameP
    by_cases h : cmpT t u = 0
    · rw [if_neg (fun g => g h)]
      simp [h]
    · rw [if_pos h]
      simp [h]
theorem kp_sub {t u : Tm} (h : u ∈ kp t) : u ∈ t.kids := by
  unfold kp partsO at h
  split at h
  · exact h
  · cases h
theorem kp_len {a b : Tm} (h : oneT a b = 0) : (kp a).length = (kp b).length := by
  have hk := q3q h
  unfold kp partsO
  by_cases c : a.kind = 4 ∨ a.kind = 6
  · rw [if_pos c, if_pos (hk ▸ c)]
    exact q9f h c
  · rw [if_neg c, if_neg (hk ▸ c)]
theorem same_step {a b : Tm} (h : oneT a b = 0) : sameP (a, b) = ((kp a).zip (kp b)).all sameP := by
  rw [zip_all]
  unfold sameP
  rw [q2s, if_neg (fun g => g h)]
  have hk := q3q h
  unfold kp partsO
  by_cases c : a.kind = 4 ∨ a.kind = 6
  · rw [if_pos c, if_pos c, if_pos (hk ▸ c)]
    rfl
  · rw [if_neg c, if_neg c]
    show decide ((0 : Int) = 0) = decide (cmpTs [] _ = 0)
    rw [q1u]
theorem lp_0 {R : Type} {f : Int → Option R} : lpIdxK (.int .i64 0) 2 f = f 0 := rfl
theorem lp_1 {R : Type} {f : Int → Option R} : lpIdxK (.int .i64 1) 2 f = f 1 := rfl
theorem kp_sizes (t : Tm) : Tm.sizes (kp t) + 1 ≤ t.size := by
  have := t.size_eq
  unfold kp partsO
  split
  · show Tm.sizes t.kids + 1 ≤ _
    omega
  · show 0 + 1 ≤ _
    omega
noncomputable abbrev TSam : List (FuncId × Pol) := [(74, pAlike), (75, pParts)]
theorem ty_twos : base.P.underlying 89 = some (.slice 88) := by kernel_rfl
theorem sam_inner {a b : Tm} {q : Nat} (hlen : (kp a).length = (kp b).length) (hsm : (kp a).length ≤ 1000) : ∀ (j i : Nat), i + j = (kp a).length → ∀ (Q : List (Tm × Tm)) (H : Heap) (ver cap : Nat) (es : List AV), H[q]? = some (.row ver 14 88 es) → es.take (Q.map eP).length = Q.map eP → (Q.map eP).length ≤ cap → Q.length + j ≤ 100000000000 →
    ∃ H' ver' cap' es', LDoes (L45_1 (polT TSam)) ⟨[.sl q ver 0 (Q.map eP).length cap, eL 7 eT (partsO a), eL 7 eT (partsO b), .int .i64 ((kp a).length : Int), .int .i64 (i : Int)], []⟩ H 0 ⟨[.sl q ver' 0 ((Q ++ ((kp a).zip (kp b)).drop i).map eP).length cap'], []⟩ H' ∧
      H'[q]? = some (.row ver' 14 88 es') ∧ es'.take ((Q ++ ((kp a).zip (kp b)).drop i).map eP).length = (Q ++ ((kp a).zip (kp b)).drop i).map eP ∧ ((Q ++ ((kp a).zip (kp b)).drop i).map eP).length ≤ cap' := by
  intro j
  induction j with
  | zero =>
    intro i hi Q H ver cap es hH htk hcap hb
    have hz' : ¬ ((i : Int) < ((kp a).length : Int)) := by omega
    have hd : ((kp a).zip (kp b)).drop i = [] := List.drop_of_length_le (by simp; omega)
    rw [hd, List.append_nil]
    refine ⟨H, ver, cap, es, LDoes.step (Evs.of fun n m => ?_), hH, htk, hcap⟩
    generalize (Q.map eP).length = N at *
    generalize ((kp a).length : Int) = L at *
    generalize eL 7 eT (partsO a) = pa at *
    generalize eL 7 eT (partsO b) = pb at *
    simp [↓q00, ↓q01, qa6, hz']
  | succ j ih =>
    intro i hi Q H ver cap es hH htk hcap hb
    have hja : i < (kp a).length := by omega
    have hjb : i < (kp b).length := by omega
    have hz' : ((i : Int) < ((kp a).length : Int)) := by omega
    have x1 : A.idx 7 (eL 7 eT (partsO a)) (.int .i64 (i : Int)) H = some (.rop (eT (kp a)[i]).cells) := q33 (sz := 7) (e := eT) (o := partsO a) (H := H) (k := .i64) (i := i) hja
    have x2 : A.idx 7 (eL 7 eT (partsO b)) (.int .i64 (i : Int)) H = some (.rop (eT (kp b)[i]).cells) := q33 (sz := 7) (e := eT) (o := partsO b) (H := H) (k := .i64) (i := i) hjb
    have d1 := q0w (t := (kp a)[i]) (H := H)
    have d2 := q0w (t := (kp b)[i]) (H := H)
    have hf := qbm (a := (kp a)[i]) (b := (kp b)[i])
    have hfe : A.fillElems 14 [AV.agg [(AV.int .i64 0), (AV.bool false), AV.nils, (AV.str []), (AV.int .i64 0), AV.nils, AV.nils, (AV.int .i64 0), (AV.bool false), AV.nils, (AV.str []), (AV.int .i64 0), AV.nils, AV.nils]] [(0, 1, eP ((kp a)[i], (kp b)[i]))] = some [eP ((kp a)[i], (kp b)[i])] := by
      simp [A.fillElems, q3e]
    have hb1 : ((Q.map eP).length + [eP ((kp a)[i], (kp b)[i])].length) * 224 ≤ 140737488355328 := by
      simp only [List.length_map, List.length_cons, List.length_nil]
      omega
    have hq : q < H.length := (List.getElem?_eq_some_iff.1 hH).1
    have hH1 : (H ++ [HObj.row 0 14 88 [eP ((kp a)[i], (kp b)[i])]])[q]? = some (.row ver 14 88 es) := by rw [List.getElem?_append_left hq]; exact hH
    have hrd : A.read 14 (.sl H.length 0 0 1 1) (H ++ [HObj.row 0 14 88 [eP ((kp a)[i], (kp b)[i])]]) = some [eP ((kp a)[i], (kp b)[i])] := by
      simp [A.read]
    obtain ⟨ver1, cap1, es1, g1, g2, g3⟩ := qe1 (sz := 14) (bytes := 224) (ty := 88) hH1 htk hcap (by omega) hb1
    have hmm : Q.map eP ++ [eP ((kp a)[i], (kp b)[i])] = (Q ++ [((kp a)[i], (kp b)[i])]).map eP := by simp
    rw [hmm] at g1 g2 g3
    obtain ⟨H', ver', cap', es', hL, h1, h2, h3⟩ := ih (i + 1) (by omega) (Q ++ [((kp a)[i], (kp b)[i])]) ((H ++ [HObj.row 0 14 88 [eP ((kp a)[i], (kp b)[i])]]).set q (.row ver1 14 88 es1)) ver1 cap1 es1 (List.getElem?_set_self (by simp; omega)) g2 g3 (by simp; omega)
    have hzip : Q ++ ((kp a).zip (kp b)).drop i = Q ++ [((kp a)[i], (kp b)[i])] ++ ((kp a).zip (kp b)).drop (i + 1) := by
      rw [List.drop_eq_getElem_cons (by simp; omega)]
      simp
    rw [hzip]
    have hw : IntKind.wrap .i64 ((i : Int) + 1) = ((i + 1 : Nat) : Int) := by rw [q0f (by omega) (by omega)]; omega
    refine ⟨H', ver', cap', es', LDoes.step (Evs.withL hL (Evs.of fun n m _ h4 => ?_)), h1, h2, h3⟩
    generalize (Q.map eP).length = N at *
    generalize ((Q ++ [((kp a)[i], (kp b)[i])]).map eP).length = M at *
    generalize eP ((kp a)[i], (kp b)[i]) = vp at *
    generalize eT (kp a)[i] = va at *
    generalize eT (kp b)[i] = vb at *
    generalize ((kp a).length : Int) = L at *
    generalize ((i + 1 : Nat) : Int) = I1 at *
    generalize (i : Int) = I at *
    generalize eL 7 eT (partsO a) = pa at *
    generalize eL 7 eT (partsO b) = pb at *
    simp [↓q00, ↓q05, ↓q09, ↓q01, ↓q0c, ↓q0m, qa6, hz', x1, x2, d1, d2, hf, hfe, q0y ty_twos, hrd, g1, hw, h4]
theorem sam_loop {q : Nat} : ∀ (N : Nat) (P : List (Tm × Tm)) (H : Heap) (ver cap : Nat) (es : List AV), Tm.sizes (P.map Prod.fst) ≤ N → N ≤ 1000000000 → (∀ p ∈ P, okA p.1 ∧ okA p.2) → H[q]? = some (.row ver 14 88 es) → es.take (P.map eP).length = P.map eP → (P.map eP).length ≤ cap →
    ∃ H', LDoes (L45_0 (polT TSam)) ⟨[.sl q ver 0 (P.map eP).length cap], []⟩ H (bif P.all sameP then 0 else 1) ⟨[bif P.all sameP then .undef else .bool false], []⟩ H' := by
  intro N
  induction N with
  | zero =>
    intro P H ver cap es hs hN hall hH htk hcap
    have hP : P = [] := by
      rcases List.eq_nil_or_concat P with rfl | ⟨Q, x, rfl⟩
      · rfl
      · have := q9r ((Q.concat x).map Prod.fst)
        simp only [List.concat_eq_append, List.length_map, List.length_append, List.length_cons, List.length_nil] at this hs
        omega
    subst hP
    have f0 : A.len (.sl q ver 0 0 cap) H = some (.int .i64 0) := by simp [A.len, A.alive, hH]
    refine ⟨H, LDoes.step (Evs.of fun n m => ?_)⟩
    simp [↓q00, ↓q01, q4l, f0]
  | succ N ih =>
    intro P H ver cap es hs hN hall hH htk hcap
    rcases List.eq_nil_or_concat P with rfl | ⟨Q, x, rfl⟩
    · have f0 : A.len (.sl q ver 0 0 cap) H = some (.int .i64 0) := by simp [A.len, A.alive, hH]
      refine ⟨H, LDoes.step (Evs.of fun n m => ?_)⟩
      simp [↓q00, ↓q01, q4l, f0]
    · simp only [List.concat_eq_append] at *
      obtain ⟨a, b⟩ := x
      obtain ⟨t1, t2, t3⟩ := topP htk
      obtain ⟨ha, hb⟩ := hall (a, b) (by simp)
      have ha1 := okA_eq.1 ha
      have hb1 := okA_eq.1 hb
      have hsz : Tm.sizes (Q.map Prod.fst) + a.size ≤ N + 1 := by
        have : (Q ++ [(a, b)]).map Prod.fst = Q.map Prod.fst ++ [a] := by simp
        rw [this, q7h] at hs
        simp only [Tm.sizes] at hs
        omega
      have hlenQ := q9r (Q.map Prod.fst)
      simp only [List.length_map] at hlenQ
      have hl : ((Q ++ [(a, b)]).map eP).length = (Q.map eP).length + 1 := by simp
      have hlq : (Q.map eP).length = Q.length := by simp
      rw [hl] at hcap ⊢
      have hwl : (Q.map eP).length ≤ 1000000000 := by omega
      have e1 : (((Q.map eP).length + 1 : Nat) : Int) - 1 = ((Q.map eP).length : Int) := by omega
      have hw : IntKind.wrap .i64 ((((Q.map eP).length + 1 : Nat) : Int) - 1) = ((Q.map eP).length : Int) := by rw [q0f (by omega) (by omega), e1]
      have f1 : A.len (.sl q ver 0 ((Q.map eP).length + 1) cap) H = some (.int .i64 (((Q.map eP).length + 1 : Nat) : Int)) := by simp [A.len, A.alive, hH]
      have f2 : A.idx 14 (.sl q ver 0 ((Q.map eP).length + 1) cap) (.int .i64 ((Q.map eP).length : Int)) H = some (.ptr q ver (Q.map eP).length 0) := by
        simp [A.idx, A.aliveZ, hH]
        omega
      have f3 : A.load true 14 (.ptr q ver (Q.map eP).length 0) H = some (eP (a, b)) := by
        have hc : A.ofList true 14 (eP (a, b)).cells 0 = some (eP (a, b)) := of_eP
        simp [A.load, A.elemAt, hH]
        rw [show es[Q.length]? = some (eP (a, b)) by simpa using t1]
        simp [hc]
      have f4 : A.slice 14 (.sl q ver 0 ((Q.map eP).length + 1) cap) none (some (.int .i64 ((Q.map eP).length : Int))) none H = some (.sl q ver 0 (Q.map eP).length cap) := by
        simp [A.slice, A.bound, A.aliveZ, hH]
        omega
      have f5 : A.splice [(AV.int .i64 0), (AV.bool false), AV.nils, (AV.str []), (AV.int .i64 0), AV.nils, AV.nils, (AV.int .i64 0), (AV.bool false), AV.nils, (AV.str []), (AV.int .i64 0), AV.nils, AV.nils] 0 (eP (a, b)).cells = (eP (a, b)).cells := by
        rw [q0v]; rfl
      have f6 : A.fits 14 (eP (a, b)) = true := qj8
      have f7 := q3e (p := (a, b))
      have f8 := qgr (p := (a, b))
      have f9 := of_eP2 (p := (a, b))
      have k1 : ∀ (R : Type) (H : Heap) (k : AV → Heap → Option R), polK pAlike [eT a, eT b] H k = k (.bool (decide (oneT a b = 0))) H := fun R H k => kAlike ha1.1.1 hb1.1.1
      have k2 : ∀ (R : Type) (H : Heap) (k : AV → Heap → Option R), polQ pParts [eT a] H k = k (eL 7 eT (partsO a)) H := fun R H k => qParts
      have k3 : ∀ (R : Type) (H : Heap) (k : AV → Heap → Option R), polQ pParts [eT b] H k = k (eL 7 eT (partsO b)) H := fun R H k => qParts
      have l1 : ∀ H, A.len (eL 7 eT (partsO a)) H = some (.int .i64 ((kp a).length : Int)) := fun H => q08
      have hpos : (0 : Int) < (((Q.map eP).length + 1 : Nat) : Int) := by omega
      have hal : (Q ++ [(a, b)]).all sameP = (Q.all sameP && sameP (a, b)) := by simp
      rw [hal]
      by_cases hc : oneT a b = 0
      · rw [same_step hc]
        have hkl : (kp a).length ≤ 1000 := by
          have := ha1.1.2
          unfold kp partsO
          split
          · exact this
          · simp
        obtain ⟨H1, ver1, cap1, es1, hL1, g1, g2, g3⟩ := sam_inner (a := a) (b := b) (q := q) (kp_len hc) hkl (kp a).length 0 (by omega) Q H ver cap es hH t3 (by omega) (by omega)
        rw [List.drop_zero] at hL1 g2 g3
        have hmf : ((Q ++ (kp a).zip (kp b)).map Prod.fst) = Q.map Prod.fst ++ kp a := by
          rw [List.map_append, List.map_fst_zip (by have := kp_len hc; omega)]
        obtain ⟨H2, hL2⟩ := ih (Q ++ (kp a).zip (kp b)) H1 ver1 cap1 es1 (by
          rw [hmf, q7h]
          have := kp_sizes a
          omega) (by omega) (fun p hp => by
            rcases List.mem_append.1 hp with hp | hp
            · exact hall p (by simp [hp])
            · exact ⟨ha1.2 _ (kp_sub (List.of_mem_zip hp).1), hb1.2 _ (kp_sub (List.of_mem_zip hp).2)⟩) g1 g2 g3
        rw [List.all_append] at hL2
        refine ⟨H2, LDoes.step (Evs.withL hL1 (Evs.withL hL2 (Evs.of fun n m _ h2 h1 _ => ?_)))⟩
        simp only [Int.natCast_zero] at h1
        have hd : decide (oneT a b = 0) = true := by simp [hc]
        rw [hd] at k1
        generalize ((Q ++ (kp a).zip (kp b)).map eP).length = M at *
        generalize (Q.all sameP && ((kp a).zip (kp b)).all sameP) = Z at *
        generalize (Q.map eP).length = QL at *
        generalize ((QL + 1 : Nat) : Int) = N1 at *
        generalize ((kp a).length : Int) = L at *
        generalize eP (a, b) = vp at *
        generalize eT a = va at *
        generalize eT b = vb at *
        generalize eL 7 eT (partsO a) = pa at *
        generalize eL 7 eT (partsO b) = pb at *
        simp [↓lp_0, ↓lp_1, q4l, f1, f2, f3, f4, f5, f6, f7, f8, f9, hw, hpos, k1, k2, k3, l1, h1, h2]
      · have hs : sameP (a, b) = false := by
          unfold sameP
          rw [q2s, if_pos hc]
          simp [hc]
        rw [hs, Bool.and_false]
        have hd : decide (oneT a b = 0) = false := by simp [hc]
        rw [hd] at k1
        refine ⟨H, LDoes.step (Evs.of fun n m => ?_)⟩
        generalize (Q.map eP).length = QL at *
        generalize ((QL + 1 : Nat) : Int) = N1 at *
        generalize eP (a, b) = vp at *
        generalize eT a = va at *
        generalize eT b = vb at *
        simp [↓lp_0, ↓lp_1, q4l, f1, f2, f3, f4, f5, f6, f7, f8, f9, hw, hpos, k1]
noncomputable def pTsame : Pol := .still (p2 cT cT .bool (fun a b => okA a ∧ okA b ∧ a.size ≤ 1000000000) fun a b => decide (cmpT a b = 0))
theorem okTsame : PolOK base 45 pTsame := still2 base_ok TSam ⟨okAlike, okParts, trivial⟩ fun a b ⟨ha, hb, hs⟩ => by
  obtain ⟨H', hL⟩ := sam_loop (q := 0) a.size [(a, b)] [.row 0 14 88 [eP (a, b)]] 0 1 [eP (a, b)] (by simp [Tm.sizes]) hs (fun p hp => by
    simp only [List.mem_singleton] at hp
    subst hp
    exact ⟨ha, hb⟩) rfl rfl (Nat.le_refl _)
  have hf := qbm (a := a) (b := b)
  have hfe : A.fillElems 14 [AV.agg [(AV.int .i64 0), (AV.bool false), AV.nils, (AV.str []), (AV.int .i64 0), AV.nils, AV.nils, (AV.int .i64 0), (AV.bool false), AV.nils, (AV.str []), (AV.int .i64 0), AV.nils, AV.nils]] [(0, 1, eP (a, b))] = some [eP (a, b)] := by
    simp [A.fillElems, q3e]
  have la : (eT a).cells.length = 7 := by rw [q02]; rfl
  have lb : (eT b).cells.length = 7 := by rw [q02]; rfl
  have oa : A.ofList true 7 (eT a).cells 0 = some (eT a) := q0w (H := [])
  have ob : A.ofList true 7 (eT b).cells 0 = some (eT b) := q0w (H := [])
  have hz : [(a, b)].all sameP = decide (cmpT a b = 0) := by
    show (sameP (a, b) && true) = _
    rw [Bool.and_true]
    rfl
  rw [hz] at hL
  refine Evs.withL hL (Evs.of fun n m h _ => ?_)
  have e1 : (List.map eP [(a, b)]).length = 1 := rfl
  rw [e1] at h
  by_cases h0 : cmpT a b = 0
  · have hd : decide (cmpT a b = 0) = true := by simp [h0]
    rw [hd] at h
    simp [↓q05, ↓q0a, ↓q09, ↓q01, ↓q0c, ↓q06, ↓q07, -q02, S45, la, lb, oa, ob, hf, hfe, h, h0]
  · have hd : decide (cmpT a b = 0) = false := by simp [h0]
    rw [hd] at h
    simp [↓q05, ↓q0a, ↓q09, ↓q01, ↓q0c, ↓q06, ↓q07, -q02, S45, la, lb, oa, ob, hf, hfe, h, h0]
end Go.Proofs.YtleikacgncpfbaaDoor

/- Terms in order: the sort of the library, of no more than twenty. -/
set_option maxRecDepth 100000
set_option maxHeartbeats 4000000
namespace Go.Proofs.YtleikacgncpfbaaDoor
open Go Go.Den Go.Lib
/-! ### one more, put into a row in order, the last ones first -/
noncomputable def insR : List Tm → Tm → List Tm
  | [], x => [x]
  | y :: r, x => if cmpT x y < 0 then y :: insR r x else x :: y :: r
noncomputable def sortR : List Tm → List Tm → List Tm
  | acc, [] => acc
  | acc, x :: r => sortR (insR acc x) r
noncomputable abbrev TIns : List (FuncId × Pol) := [(25, pCom)]
def okC (t : Tm) : Prop := okA t ∧ t.size ≤ 1000000000
abbrev fnC : AV := .fn (.func 25) [] []
noncomputable def pIns : Pol := .prim (runF base TIns 104)
noncomputable abbrev TStb : List (FuncId × Pol) := [(104, pIns)]
noncomputable def pStb : Pol := .prim (runF base TStb 96)
noncomputable abbrev TSts : List (FuncId × Pol) := [(96, pStb)]
noncomputable def pSts : Pol := .prim (runF base TSts 76)
end Go.Proofs.YtleikacgncpfbaaDoor

/- Terms: copies of rows. -/
set_option maxRecDepth 100000
set_option maxHeartbeats 2000000
namespace Go.Proofs.YtleikacgncpfbaaDoor
open Go Go.Den
/-! ### bytes -/
def fewB (d : Option (List UInt8)) : Prop := (d.getD []).length ≤ 1000000
noncomputable def pBclone : Pol := .still (p1 cBy (eL 1 eb) fewB id)
theorem okBclone : PolOK base 71 pBclone := still1 base_ok [] trivial fun d hf => by
  unfold fewB at hf
  refine Evs.of fun n _ => ?_
  cases d with
  | none => simp [↓q00, ↓q05, ↓q09, ↓q01, S71, eL, A.bin, q10, A.eqNil]
  | some l =>
    simp only [Option.getD_some] at hf
    cases l with
    | nil =>
      have h1 := q1h (H := [.row 0 1 5 []]) (id := 0) (ver := 0) (sz := 1) (ty := 5) (es := []) (n := 0) (bytes := 1) rfl rfl (by omega) (by simp)
      simp [↓q00, ↓q05, ↓q09, ↓q01, ↓q0c, ↓q0m, S71, eL, A.bin, q10, A.eqNil, A.fillElems, q0y q10, A.read, h1]
      exact q1d (b := true) (m := 62) (es := []) rfl rfl (by simp)
    | cons x l =>
      have h1 := q1q (H := [.row 0 1 5 []]) (id := 0) (ver := 0) (sz := 1) (ty := 5) (es := []) (n := 0) (bytes := 1) (news := (x :: l).map eb) rfl rfl (by simp) (by omega) (by simp at hf ⊢; omega)
      simp only [List.nil_append] at h1
      simp [↓q00, ↓q05, ↓q09, ↓q01, ↓q0c, S71, eL, A.bin, q10, A.eqNil, A.fillElems, q0y q10, A.read]
      simp at h1
      simp [h1]
      exact q1d (b := true) (m := 62) (es := (x :: l).map eb) rfl (by simp) (q71 _)
noncomputable def q9i : Pol := .prim (runF base [] 73)
theorem okTclone : PolOK base 73 q9i := ok_run base_ok [] trivial
def cw (l : List Tm) : Nat := if l = [] then 0 else 1
def cv (id : Nat) : Option (List Tm) → AV
  | none => .nils
  | some l => .sl id (cw l) 0 l.length l.length
def cr (o : Option (List Tm)) (es : List AV) : List HObj := match o with
  | none => []
  | some l => [.row (cw l) 7 26 es]
theorem kTclone {R : Type} {o : Option (List Tm)} (h : (o.getD []).length ≤ 1000) {H : Heap} {k : AV → Heap → Option R} : polK q9i [eL 7 eT o] H k = k (cv H.length o) (H ++ cr o ((o.getD []).map eT)) := by
  have hr : runF base [] 73 [eL 7 eT o] H = some (cv H.length o, H ++ cr o ((o.getD []).map eT)) := qch (Evs.of fun n m => by
    cases o with
    | none => simp [↓q00, ↓q05, ↓q09, ↓q01, S73, eL, A.bin, q50, A.eqNil, cv, cr]
    | some l =>
      simp only [Option.getD_some] at h
      cases l with
      | nil =>
        have h1 := q1h (H := H ++ [.row 0 7 26 []]) (id := H.length) (ver := 0) (sz := 7) (ty := 26) (es := []) (n := 0) (bytes := 112) q1f rfl (by omega) (by simp)
        simp [↓q00, ↓q05, ↓q09, ↓q01, ↓q0c, ↓q0m, S73, eL, A.bin, q50, A.eqNil, A.fillElems, q0y q50, A.read, h1, cv, cr, cw]
      | cons x l =>
        have h1 := q1q (H := H ++ [.row 0 7 26 []]) (id := H.length) (ver := 0) (sz := 7) (ty := 26) (es := []) (n := 0) (bytes := 112) (news := (x :: l).map eT) q1f rfl (by simp) (by omega) (by simp at h ⊢; omega)
        simp only [List.nil_append] at h1
        simp [↓q00, ↓q05, ↓q09, ↓q01, ↓q0c, S73, eL, A.bin, q50, A.eqNil, A.fillElems, q0y q50, A.read]
        simp at h1
        simp [h1, cv, cr, cw])
  exact k_run hr
end Go.Proofs.YtleikacgncpfbaaDoor

/- Terms: a value of the small heap that stands for a term. -/
set_option maxRecDepth 100000
set_option maxHeartbeats 2000000
namespace Go.Proofs.YtleikacgncpfbaaDoor
open Go Go.Den
def op (t : Tm) (vl : AV) : AV := .agg [.int .i64 t.kind, .bool t.neg, eD t.d, .str t.name, .int .i64 t.n, vl, eL 1 eb t.b]
theorem qc4 (t : Tm) : op t (eL 7 eT t.l) = eT t := (q2t t).symm
inductive Rd (H : Heap) : AV → Tm → Prop
  | imm (t : Tm) : Rd H (eT t) t
  | nil (t : Tm) (h : t.l = none) : Rd H (op t .nils) t
  | own (t : Tm) (l : List Tm) (id w cap : Nat) (es : List AV) (h : t.l = some l) (hr : H[id]? = some (.row w 7 26 es)) (hn : es.length = l.length) (he : ∀ i (hi : i < es.length), Rd H es[i] (l[i]'(hn ▸ hi))) : Rd H (op t (.sl id w 0 l.length cap)) t
theorem qdz {t u : Tm} {v w : AV} (h : op t v = op u w) : t.kind = u.kind ∧ t.neg = u.neg ∧ t.d = u.d ∧ t.name = u.name ∧ t.n = u.n ∧ v = w ∧ t.b = u.b := by
  unfold op at h
  injection h with h
  simp only [List.cons.injEq, AV.int.injEq, AV.bool.injEq, AV.str.injEq, true_and, and_true] at h
  obtain ⟨h1, h2, h3, h4, h5, h6, h7⟩ := h
  exact ⟨h1, h2, cD.inj _ _ h3, h4, h5, h6, cBy.inj _ _ h7⟩
theorem tm_ext {t u : Tm} (h : t.kind = u.kind ∧ t.neg = u.neg ∧ t.d = u.d ∧ t.name = u.name ∧ t.n = u.n ∧ t.l = u.l ∧ t.b = u.b) : t = u := by
  cases t
  cases u
  simp only [Tm.kind, Tm.neg, Tm.d, Tm.name, Tm.n, Tm.l, Tm.b] at h
  obtain ⟨rfl, rfl, rfl, rfl, rfl, rfl, rfl⟩ := h
  rfl
theorem rd_eT {H : Heap} {t u : Tm} (h : Rd H (eT t) u) : u = t := by
  generalize hv : eT t = v at h
  cases h with
  | imm => exact (qam _ _ hv).symm
  | nil _ h =>
    rw [← qc4] at hv
    have := qdz hv
    refine tm_ext ⟨this.1.symm, this.2.1.symm, this.2.2.1.symm, this.2.2.2.1.symm, this.2.2.2.2.1.symm, ?_, this.2.2.2.2.2.2.symm⟩
    have h6 := this.2.2.2.2.2.1
    rw [h]
    cases ht : t.l with
    | none => rfl
    | some l => rw [ht] at h6; cases h6
  | own _ l id w cap es h hr hn he =>
    rw [← qc4] at hv
    have h6 := (qdz hv).2.2.2.2.2.1
    cases ht : t.l with
    | none => rw [ht] at h6; cases h6
    | some l => rw [ht] at h6; cases h6
theorem qfd {H H' : Heap} (hm : ∀ (id w : Nat) (es : List AV), H[id]? = some (.row w 7 26 es) → ∃ es' : List AV, H'[id]? = some (.row w 7 26 es') ∧ ∃ hl : es'.length = es.length, ∀ i (hi : i < es.length), es'[i]'(hl ▸ hi) = es[i] ∨ ∀ u, Rd H es[i] u → Rd H' (es'[i]'(hl ▸ hi)) u) {v : AV} {t : Tm} (h : Rd H v t) : Rd H' v t := by
  induction h with
  | imm t => exact .imm t
  | nil t h => exact .nil t h
  | own t l id w cap es h hr hn he ih =>
    obtain ⟨es', h1, hl, h2⟩ := hm id w es hr
    refine .own t l id w cap es' h h1 (by omega) fun i hi => ?_
    have hi' : i < es.length := by omega
    rcases h2 i hi' with h3 | h3
    · rw [h3]
      exact ih i hi'
    · exact h3 _ (he i hi')
theorem rd_push {H X : Heap} {v : AV} {t : Tm} (h : Rd H v t) : Rd (H ++ X) v t := qfd (fun id w es hr => ⟨es, by rw [List.getElem?_append_left (List.getElem?_eq_some_iff.1 hr).1]; exact hr, rfl, fun _ _ => .inl rfl⟩) h
theorem rd_other {H : Heap} {q ver sz : Nat} {ty : TypeId} {es : List AV} {o : HObj} {v : AV} {t : Tm} (hq : H[q]? = some (.row ver sz ty es)) (hs : sz ≠ 7) (h : Rd H v t) : Rd (H.set q o) v t := qfd (fun id w es' hr => ⟨es', by
  have : q ≠ id := fun e => by
    subst e
    rw [hq] at hr
    injection hr with hr
    injection hr with _ h2
    exact hs h2
  rw [List.getElem?_set_ne this]
  exact hr, rfl, fun _ _ => .inl rfl⟩) h
theorem rd_open {H : Heap} {r w i : Nat} {es : List AV} {u : Tm} {x : AV} (hr : H[r]? = some (.row w 7 26 es)) (hi : i < es.length) (hu : es[i] = eT u) (hx : Rd (H.set r (.row w 7 26 (es.set i x))) x u) {v : AV} {t : Tm} (h : Rd H v t) : Rd (H.set r (.row w 7 26 (es.set i x))) v t := qfd (fun id w' es' hr' => by
  by_cases e : r = id
  · subst e
    rw [hr] at hr'
    injection hr' with hr'
    injection hr' with h1 _ _ h2
    subst h1 h2
    refine ⟨es.set i x, List.getElem?_set_self (List.getElem?_eq_some_iff.1 hr).1, by simp, fun j hj => ?_⟩
    by_cases hij : i = j
    · subst hij
      right
      intro u' hu'
      rw [hu] at hu'
      rw [rd_eT hu', List.getElem_set_self]
      exact hx
    · left
      rw [List.getElem_set_ne hij]
  · exact ⟨es', by rw [List.getElem?_set_ne e]; exact hr', rfl, fun _ _ => .inl rfl⟩) h
/-! ### how deep -/
def shal : Nat → Tm → Prop
  | 0, _ => False
  | n + 1, t => ∀ u ∈ t.kids, shal n u
theorem qe8 {most : Int} : ∀ (n : Nat) (t : Tm) (dep : Int), dep < n → roomS t dep most = true → shal n t
  | 0, t, dep, hd, h => by
    rw [q4v] at h
    simp only [Bool.and_eq_true, Bool.not_eq_true', Bool.or_eq_false_iff, decide_eq_false_iff_not] at h
    omega
  | n + 1, t, dep, hd, h => by
    rw [q4v] at h
    simp only [Bool.and_eq_true, Bool.not_eq_true', Bool.or_eq_false_iff, decide_eq_false_iff_not, List.all_eq_true] at h
    exact fun u hu => qe8 n u (dep - 1) (by omega) (h.2 u hu)
theorem qgn {α β : Type} {f : α → Option β} {g : List β} : ∀ {l : List α}, (hl : l.length = g.length) → (∀ i (hi : i < l.length), f l[i] = some (g[i]'(hl ▸ hi))) → l.mapM f = some g := by
  induction g with
  | nil =>
    intro l hl _
    have : l = [] := List.length_eq_zero_iff.1 hl
    subst this
    rfl
  | cons b g ih =>
    intro l hl h
    cases l with
    | nil => simp at hl
    | cons a l =>
      have h0 := h 0 (by simp)
      simp only [List.getElem_cons_zero] at h0
      have h1 := ih (l := l) (by simpa using hl) fun i hi => by
        have := h (i + 1) (by simp; omega)
        simpa using this
      simp [List.mapM_cons, h0, h1]
theorem qar {n sz : Nat} {α : Type} {e : α → AV} {H : Heap} {o : Option (List α)} : A.freezeB true (n + 1) H (eL sz e o) = some (eL sz e o) := by cases o <;> rfl
theorem qgc {n : Nat} {H : Heap} {t : Tm} {v w : AV} (h : A.freezeB true (n + 1) H v = some w) : A.freezeB true (n + 2) H (op t v) = some (op t w) := by
  have hd : A.freezeB true (n + 1) H (eD t.d) = some (eD t.d) := qar
  have hb : A.freezeB true (n + 1) H (eL 1 eb t.b) = some (eL 1 eb t.b) := qar
  show ([AV.int .i64 t.kind, .bool t.neg, eD t.d, .str t.name, .int .i64 t.n, v, eL 1 eb t.b].mapM (A.freezeB true (n + 1) H)).map AV.agg = _
  have h0 : A.freezeB true (n + 1) H (.int .i64 t.kind) = some (.int .i64 t.kind) := rfl
  have h1 : A.freezeB true (n + 1) H (.bool t.neg) = some (.bool t.neg) := rfl
  have h3 : A.freezeB true (n + 1) H (.str t.name) = some (.str t.name) := rfl
  have h4 : A.freezeB true (n + 1) H (.int .i64 t.n) = some (.int .i64 t.n) := rfl
  simp [List.mapM_cons, h0, h1, hd, h3, h4, h, hb, op]
theorem rd_agg {H : Heap} {v : AV} {t : Tm} (h : Rd H v t) : ∃ cs, v = .agg cs := by
  cases h with
  | imm => exact ⟨_, q2t t⟩
  | nil => exact ⟨_, rfl⟩
  | own => exact ⟨_, rfl⟩
theorem qe3 {H : Heap} : ∀ (n : Nat) (t : Tm) (v : AV), shal n t → Rd H v t → A.freezeB true (n + 1) H v = some (eT t)
  | 0, _, _, hs, _ => by cases hs
  | n + 1, t, v, hs, h => by
    cases h with
    | imm =>
      rw [← qc4]
      exact qgc qar
    | nil _ h =>
      rw [← qc4, h]
      exact qgc rfl
    | own _ l id w cap es h hr hn he =>
      rw [← qc4, h]
      refine qgc ?_
      have hk : ∀ u ∈ l, shal n u := fun u hu => hs u (by unfold Tm.kids; rw [h]; exact hu)
      show (match H[id]? with | some (.row w' z _ es) => if w' = w ∧ 0 + l.length ≤ es.length then (((es.drop 0).take l.length).mapM fun (e : AV) => match e with | AV.agg cs => (cs.mapM (A.freezeB true n H)).map AV.agg | e => A.freezeB true n H e).map (AV.sh z) else none | _ => none) = _
      rw [hr]
      dsimp only
      rw [if_pos ⟨rfl, by omega⟩, List.drop_zero, List.take_of_length_le (by omega)]
      have : (es.mapM fun (e : AV) => match e with | AV.agg cs => (cs.mapM (A.freezeB true n H)).map AV.agg | e => A.freezeB true n H e) = some (l.map eT) := qgn (by simpa using hn) fun i hi => by
        have hri := he i hi
        have hf := qe3 n _ _ (hk _ (List.getElem_mem (by omega))) hri
        obtain ⟨cs, hcs⟩ := rd_agg hri
        rw [hcs] at hf ⊢
        simp only [List.getElem_map]
        exact hf
      rw [this]
      rfl
end Go.Proofs.YtleikacgncpfbaaDoor

/- Terms: copies of limbs and bytes: rows of their own, as long as there is no other row of terms than the first. -/
set_option maxRecDepth 100000
set_option maxHeartbeats 2000000
namespace Go.Proofs.YtleikacgncpfbaaDoor
open Go Go.Den
def isR7 : HObj → Bool
  | .row _ sz _ _ => sz == 7
  | _ => false
def bigH (H : Heap) : Bool := (H.drop 1).any isR7
theorem bigH_of {H : Heap} {id w : Nat} {ty : TypeId} {es : List AV} (h : H[id]? = some (.row w 7 ty es)) (h0 : id ≠ 0) : bigH H = true := by
  unfold bigH
  rw [List.any_eq_true]
  refine ⟨_, ?_, (rfl : isR7 (.row w 7 ty es) = true)⟩
  have : (H.drop 1)[id - 1]? = some (.row w 7 ty es) := by
    rw [List.getElem?_drop, show 1 + (id - 1) = id by omega]
    exact h
  exact List.mem_of_getElem? this
noncomputable def mixP (f : FuncId) (F : List AV → Option AV) : Pol := .prim fun args H => bif bigH H then pureF F args H else runF base [] f args H
theorem ok_mix {f : FuncId} {F : List AV → Option AV} (h : PolOK base f (.still F)) (hlt : Nat.blt f yBase = true := by rfl) : PolOK base f (mixP f F) := fun args C us v H' h1 => by
  have h1 : (bif bigH C.H then pureF F args C.H else runF base [] f args C.H) = some (v, H') := h1
  cases hb : bigH C.H
  · rw [hb] at h1
    exact ok_run (f := f) base_ok [] trivial hlt args C us v H' h1
  · rw [hb] at h1
    exact h args C us v H' h1
theorem qdn {R : Type} {f : FuncId} {F : List AV → Option AV} {args : List AV} {H : Heap} {k : AV → Heap → Option R} (h : bigH H = true) : polK (mixP f F) args H k = polK (.still F) args H k := by
  show withP (bif bigH H then pureF F args H else runF base [] f args H) k = _
  rw [h]
  rfl
theorem q96 {R : Type} {f : FuncId} {F : List AV → Option AV} {args : List AV} {H : Heap} {p : AV × Heap} {k : AV → Heap → Option R} (h : bigH H = false) (hr : runF base [] f args H = some p) : polK (mixP f F) args H k = k p.1 p.2 := by
  show withP (bif bigH H then pureF F args H else runF base [] f args H) k = _
  rw [h, cond_false, hr]
  rfl
section
variable {α : Type}
def cwG (l : List α) : Nat := if l = [] then 0 else 1
def cvG (id : Nat) : Option (List α) → AV
  | none => .nils
  | some l => .sl id (cwG l) 0 l.length l.length
def crG (ty : TypeId) (e : α → AV) (o : Option (List α)) : List HObj := match o with
  | none => []
  | some l => [.row (cwG l) 1 ty (l.map e)]
theorem q6x (id : Nat) (o : Option (List α)) : (cvG id o).one = true := by cases o <;> rfl
end
noncomputable def pBcl : Pol := mixP 71 (p1 cBy (eL 1 eb) fewB id)
theorem okBcl : PolOK base 71 pBcl := ok_mix okBclone
theorem kBcl_big {R : Type} {d : Option (List UInt8)} (h : fewB d) {H : Heap} (hb : bigH H = true) {k : AV → Heap → Option R} : polK pBcl [eL 1 eb d] H k = k (eL 1 eb d) H := by
  unfold pBcl
  rw [qdn hb]
  simp [q0b, h]
theorem qht {R : Type} {o : Option (List UInt8)} (h : fewB o) {H : Heap} (hb : bigH H = false) {k : AV → Heap → Option R} : polK pBcl [eL 1 eb o] H k = k (cvG H.length o) (H ++ crG 5 eb o) := by
  unfold fewB at h
  refine q96 hb (p := (cvG H.length o, H ++ crG 5 eb o)) (qch (Evs.of fun n m => ?_))
  cases o with
  | none => simp [↓q00, ↓q05, ↓q09, ↓q01, S71, eL, A.bin, q10, A.eqNil, cvG, crG]
  | some l =>
    simp only [Option.getD_some] at h
    cases l with
    | nil =>
      have h1 := q1h (H := H ++ [.row 0 1 5 []]) (id := H.length) (ver := 0) (sz := 1) (ty := 5) (es := []) (n := 0) (bytes := 1) q1f rfl (by omega) (by simp)
      simp [↓q00, ↓q05, ↓q09, ↓q01, ↓q0c, ↓q0m, S71, eL, A.bin, q10, A.eqNil, A.fillElems, q0y q10, A.read, h1, cvG, crG, cwG]
    | cons x l =>
      have h1 := q1q (H := H ++ [.row 0 1 5 []]) (id := H.length) (ver := 0) (sz := 1) (ty := 5) (es := []) (n := 0) (bytes := 1) (news := (x :: l).map eb) q1f rfl (by simp) (by omega) (by simp at h ⊢; omega)
      simp only [List.nil_append] at h1
      simp [↓q00, ↓q05, ↓q09, ↓q01, ↓q0c, S71, eL, A.bin, q10, A.eqNil, A.fillElems, q0y q10, A.read]
      simp at h1
      simp [h1, cvG, crG, cwG]
noncomputable def pDcl : Pol := mixP 72 (p1 cD eD few id)
theorem okDcl : PolOK base 72 pDcl := ok_mix okClone
theorem kDcl_big {R : Type} {d : Option (List UInt32)} (h : few d) {H : Heap} (hb : bigH H = true) {k : AV → Heap → Option R} : polK pDcl [eD d] H k = k (eD d) H := by
  unfold pDcl
  rw [qdn hb]
  exact kClone h
theorem qhu {R : Type} {o : Option (List UInt32)} (h : few o) {H : Heap} (hb : bigH H = false) {k : AV → Heap → Option R} : polK pDcl [eD o] H k = k (cvG H.length o) (H ++ crG 59 eu o) := by
  unfold few at h
  refine q96 hb (p := (cvG H.length o, H ++ crG 59 eu o)) (qch (Evs.of fun n m => ?_))
  cases o with
  | none => simp [↓q00, ↓q05, ↓q09, ↓q01, S72, eL, A.bin, q1g, A.eqNil, cvG, crG]
  | some l =>
    simp only [Option.getD_some] at h
    cases l with
    | nil =>
      have h1 := q1h (H := H ++ [.row 0 1 59 []]) (id := H.length) (ver := 0) (sz := 1) (ty := 59) (es := []) (n := 0) (bytes := 4) q1f rfl (by omega) (by simp)
      simp [↓q00, ↓q05, ↓q09, ↓q01, ↓q0c, ↓q0m, S72, eL, A.bin, q1g, A.eqNil, A.fillElems, q0y q1g, A.read, h1, cvG, crG, cwG]
    | cons x l =>
      have h1 := q1q (H := H ++ [.row 0 1 59 []]) (id := H.length) (ver := 0) (sz := 1) (ty := 59) (es := []) (n := 0) (bytes := 4) (news := (x :: l).map eu) q1f rfl (by simp) (by omega) (by simp at h ⊢; omega)
      simp only [List.nil_append] at h1
      simp [↓q00, ↓q05, ↓q09, ↓q01, ↓q0c, S72, eL, A.bin, q1g, A.eqNil, A.fillElems, q0y q1g, A.read]
      simp at h1
      simp [h1, cvG, crG, cwG]
end Go.Proofs.YtleikacgncpfbaaDoor

/- Terms: what still is to be copied. -/
set_option maxRecDepth 100000
set_option maxHeartbeats 4000000
namespace Go.Proofs.YtleikacgncpfbaaDoor
open Go Go.Den
section
variable {H : Heap} {id ver sz j : Nat} {ty : TypeId} {es cs : List AV}
theorem q41 {off : Nat} {v : AV} (h : H[id]? = some (.row ver sz ty es)) (he : es[j]? = some (.agg cs)) (hv : cs[off]? = some v) : A.load false 1 (.ptr id ver j off) H = some v := by
  simp [A.load, A.elemAt, h, he, A.ofList, AV.cells, hv]
theorem q2r {o : Nat} (h : H[id]? = some (.row ver sz ty es)) : A.fa o (.ptr id ver j 0) H = some (.ptr id ver j o) := by
  simp [A.fa, A.alive, h]
theorem q3b {off : Nat} {v w : AV} (h : H[id]? = some (.row ver sz ty es)) (he : es[j]? = some (.agg cs)) (hw : cs[off]? = some w) (hv : v.one = true) : A.store 1 (.ptr id ver j off) v H = some (H.set id (.row ver sz ty (es.set j (.agg (cs.set off v))))) := by
  have hc : v.cells = [v] := by cases v <;> first | rfl | cases hv
  have hl : off < cs.length := (List.getElem?_eq_some_iff.1 hw).1
  have hs : A.splice cs off [v] = cs.set off v := by
    unfold A.splice
    rw [List.set_eq_take_append_cons_drop, if_pos hl]
    simp
  simp [A.store, A.fits, hc, hv, h, he, A.setElem, hs]
  omega
theorem q42 {off : Nat} {v : AV} (h : H[id]? = some (.row ver sz ty es)) (he : es[j]? = some (.agg cs)) (hw : cs[off]? = some v) (hv : v.one = true) : A.store 1 (.ptr id ver j off) v H = some H := by
  rw [q3b h he hw hv]
  congr 1
  have e1 : cs.set off v = cs := by
    rw [List.getElem?_eq_some_iff] at hw
    obtain ⟨hl, hw⟩ := hw
    rw [← hw]
    exact List.set_getElem_self _
  have e2 : es.set j (.agg cs) = es := by
    rw [List.getElem?_eq_some_iff] at he
    obtain ⟨hl, he⟩ := he
    rw [← he]
    exact List.set_getElem_self _
  rw [e1, e2]
  rw [List.getElem?_eq_some_iff] at h
  obtain ⟨hl, h⟩ := h
  rw [← h]
  exact List.set_getElem_self _
end
end Go.Proofs.YtleikacgncpfbaaDoor

/- Terms: one more is copied. -/
set_option maxRecDepth 100000
set_option maxHeartbeats 4000000
namespace Go.Proofs.YtleikacgncpfbaaDoor
open Go Go.Den
structure Ent where
  r : Nat
  w : Nat
  i : Nat
  u : Tm
  id : Nat
def op2 (t : Tm) (vd vl vb : AV) : AV := .agg [.int .i64 t.kind, .bool t.neg, vd, .str t.name, .int .i64 t.n, vl, vb]
def Ent.ptr (e : Ent) : AV := .ptr e.r e.w e.i 0
def Ent.own (e : Ent) : Prop := e.u.l ≠ none
def Pend (H : Heap) (e : Ent) : Prop := ∃ (es : List AV) (vd vb : AV), H[e.r]? = some (.row e.w 7 26 es) ∧ es[e.i]? = some (op2 e.u vd (cv e.id e.u.l) vb) ∧ ∀ l, e.u.l = some l → H[e.id]? = some (.row (cw l) 7 26 (l.map eT))
structure CInv (t : Tm) (vd vl vb : AV) (K : List HObj) (q ver cap : Nat) (P : List Ent) (H : Heap) : Prop where
  root : H[0]? = some (.row 0 7 26 [op2 t vd vl vb]) ∧ Rd H (op t vl) t
  todo : ∃ es : List AV, H[q]? = some (.row ver 1 86 es) ∧ es.take P.length = P.map Ent.ptr ∧ P.length ≤ cap
  pend : ∀ e ∈ P, Pend H e
  ids : ∀ e ∈ P, e.own → e.id ≠ q ∧ e.id < H.length ∧ K.length < e.id
  dist : P.Pairwise fun e f => e.own → f.own → e.id ≠ f.id
  apart : ∀ e ∈ P, ∀ f ∈ P, f.own → e.r ≠ f.id
  keep : ∀ (j : Nat) (o : HObj), K[j]? = some o → H[j + 1]? = some o
  kq : K.length < q
structure Cur (K : List HObj) (p : Ent) (l : List Tm) (i q : Nat) (P : List Ent) (H : Heap) : Prop where
  ul : p.u.l = some l
  cell : ∃ (es : List AV) (vd vb : AV), H[p.r]? = some (.row p.w 7 26 es) ∧ es[p.i]? = some (op2 p.u vd (cv p.id p.u.l) vb)
  rows : ∃ es : List AV, H[p.id]? = some (.row (cw l) 7 26 es) ∧ es.length = l.length ∧ ∀ j (hj : j < l.length), i ≤ j → es[j]? = some (eT l[j])
  idq : p.id ≠ q
  id0 : K.length < p.id
  rid : p.r ≠ p.id
  oth : ∀ e ∈ P, e.own → e.id ≠ p.id ∧ e.id ≠ p.r
  kid : ∀ e ∈ P, e.r = p.id → e.i < i
theorem row_ne {H : Heap} {a b v w : Nat} {ty ty' : TypeId} {es fs : List AV} (h : H[a]? = some (.row v 7 ty es)) (g : H[b]? = some (.row w 1 ty' fs)) : a ≠ b := fun e => by
  subst e
  rw [h] at g
  injection g with g
  injection g with _ g
  cases g
theorem cp_step {t : Tm} {vd v0 vb : AV} {K : List HObj} {q ver cap : Nat} {P : List Ent} {H : Heap} {p : Ent} {l : List Tm} {i : Nat} (hC : CInv t vd v0 vb K q ver cap P H) (hK : Cur K p l i q P H) (hi : i < l.length) (hb : P.length ≤ 1000000000) {es : List AV} (hes : H[p.id]? = some (.row (cw l) 7 26 es)) (hn : es.length = l.length) (hej : ∀ j (hj : j < l.length), i ≤ j → es[j]? = some (eT l[j])) {H6 : Heap} (h6 : H6 = (H ++ cr l[i].l ((l[i].l.getD []).map eT)).set p.id (.row (cw l) 7 26 (es.set i (op l[i] (cv H.length l[i].l))))) :
    ∃ ver' cap' H8, A.append 1 8 86 (.sl q ver 0 P.length cap) [.ptr p.id (cw l) i 0] (H6 ++ [.row 0 1 86 [.ptr p.id (cw l) i 0]]) = some (.sl q ver' 0 (P ++ [(⟨p.id, cw l, i, l[i], H.length⟩ : Ent)]).length cap', H8) ∧ CInv t vd v0 vb K q ver' cap' (P ++ [(⟨p.id, cw l, i, l[i], H.length⟩ : Ent)]) H8 ∧ Cur K p l (i + 1) q (P ++ [(⟨p.id, cw l, i, l[i], H.length⟩ : Ent)]) H8 := by
  obtain ⟨hv0, hv⟩ := hC.root
  obtain ⟨es0, hq, htk, hcap⟩ := hC.todo
  have hpl : p.id < H.length := (List.getElem?_eq_some_iff.1 hes).1
  have hql : q < H.length := (List.getElem?_eq_some_iff.1 hq).1
  have h0q : 0 ≠ q := row_ne hv0 hq
  have hidq := hK.idq
  have hid0 := hK.id0
  have hkq := hC.kq
  have hei : es[i]? = some (eT l[i]) := hej i hi (Nat.le_refl _)
  obtain ⟨hil, hei'⟩ := List.getElem?_eq_some_iff.1 hei
  generalize hnew : (⟨p.id, cw l, i, l[i], H.length⟩ : Ent) = new at *
  generalize hX : cr l[i].l ((l[i].l.getD []).map eT) = X at *
  generalize hH3 : H ++ X = H3 at *
  have g3 : ∀ k o, H[k]? = some o → H3[k]? = some o := fun k o h => by
    rw [← hH3, List.getElem?_append_left (List.getElem?_eq_some_iff.1 h).1]
    exact h
  have hl3 : H.length ≤ H3.length := by rw [← hH3]; simp
  generalize hes6 : es.set i (op l[i] (cv H.length l[i].l)) = es6 at *
  have g6 : ∀ k o, H3[k]? = some o → k ≠ p.id → H6[k]? = some o := fun k o h hk => by
    rw [h6, List.getElem?_set_ne (fun e => hk e.symm)]
    exact h
  have hl6 : H6.length = H3.length := by rw [h6]; simp
  have hp6 : H6[p.id]? = some (.row (cw l) 7 26 es6) := by rw [h6]; exact List.getElem?_set_self (by omega)
  have hrow : ∀ l', l[i].l = some l' → H6[H.length]? = some (.row (cw l') 7 26 (l'.map eT)) := fun l' hl' => by
    refine g6 _ _ ?_ (by omega)
    rw [← hH3, ← hX, hl']
    simp [cr]
  -- the root
  have r3 : Rd H3 (op t v0) t := by rw [← hH3]; exact rd_push hv
  have hx : Rd H6 (op l[i] (cv H.length l[i].l)) l[i] := by
    cases hu : l[i].l with
    | none => exact .nil _ hu
    | some l' =>
      refine .own _ l' _ _ _ _ hu (hrow l' hu) (by simp) fun j hj => ?_
      rw [List.getElem_map]
      exact .imm _
  have r6 : Rd H6 (op t v0) t := by
    rw [h6, ← hes6] at hx ⊢
    exact rd_open (g3 _ _ hes) hil hei' hx r3
  generalize hH7 : H6 ++ [.row 0 1 86 [.ptr p.id (cw l) i 0]] = H7
  have g7 : ∀ k o, H6[k]? = some o → H7[k]? = some o := fun k o h => by
    rw [← hH7, List.getElem?_append_left (List.getElem?_eq_some_iff.1 h).1]
    exact h
  have r7 : Rd H7 (op t v0) t := by rw [← hH7]; exact rd_push r6
  have hl7 : H7.length = H3.length + 1 := by rw [← hH7]; simp [hl6]
  have hq7 : H7[q]? = some (.row ver 1 86 es0) := g7 _ _ (g6 _ _ (g3 _ _ hq) (fun e => hidq e.symm))
  have hptr : new.ptr = .ptr p.id (cw l) i 0 := by rw [← hnew]; rfl
  have hlen : (P ++ [new]).length = P.length + 1 := by simp
  have happ : ∃ ver' cap' es', A.append 1 8 86 (.sl q ver 0 P.length cap) [.ptr p.id (cw l) i 0] H7 = some (.sl q ver' 0 (P ++ [new]).length cap', H7.set q (.row ver' 1 86 es')) ∧ es'.take (P ++ [new]).length = (P ++ [new]).map Ent.ptr ∧ (P ++ [new]).length ≤ cap' := by
    have hle : P.length ≤ es0.length := by
      have := congrArg List.length htk
      simp at this
      omega
    by_cases hc : P.length + 1 ≤ cap
    · refine ⟨ver, cap, A.splice es0 P.length [.ptr p.id (cw l) i 0], ?_, ?_, by omega⟩
      · simp only [A.append, hq7]
        rw [if_pos ⟨trivial, trivial, trivial, by omega, by omega, by simp; omega, by omega⟩, if_pos (by simpa using hc)]
        simp
      · have : A.splice es0 P.length [.ptr p.id (cw l) i 0] = es0.take P.length ++ [.ptr p.id (cw l) i 0] ++ es0.drop (P.length + 1) := rfl
        rw [this, htk, List.map_append, List.map_cons, List.map_nil, hptr, List.take_append_of_le_length (by simp), List.take_of_length_le (by simp)]
    · refine ⟨ver + 1, P.length + 1, P.map Ent.ptr ++ [.ptr p.id (cw l) i 0], ?_, ?_, by omega⟩
      · simp only [A.append, hq7]
        rw [if_pos ⟨trivial, trivial, trivial, by omega, by omega, by simp; omega, by omega⟩, if_neg (by simpa using hc)]
        simp [htk]
      · rw [List.map_append, List.map_cons, List.map_nil, hptr, List.take_of_length_le (by simp)]
  obtain ⟨ver', cap', es', ha, htk', hcap'⟩ := happ
  have g8 : ∀ k o, H7[k]? = some o → k ≠ q → (H7.set q (.row ver' 1 86 es'))[k]? = some o := fun k o h hk => by
    rw [List.getElem?_set_ne (fun e => hk e.symm)]
    exact h
  generalize hH8 : H7.set q (.row ver' 1 86 es') = H8 at *
  have fr : ∀ k o, H[k]? = some o → k ≠ p.id → k ≠ q → H8[k]? = some o := fun k o h h1 h2 => g8 _ _ (g7 _ _ (g6 _ _ (g3 _ _ h) h1)) h2
  have hp8 : H8[p.id]? = some (.row (cw l) 7 26 es6) := g8 _ _ (g7 _ _ hp6) hidq
  have hl8 : H8.length = H3.length + 1 := by rw [← hH8]; simp [hl7]
  have hnr : new.r = p.id := by rw [← hnew]
  have hnid : new.id = H.length := by rw [← hnew]
  have hnu : new.u = l[i] := by rw [← hnew]
  have hni : new.i = i := by rw [← hnew]
  have hnw : new.w = cw l := by rw [← hnew]
  have hes6i : es6[i]? = some (op l[i] (cv H.length l[i].l)) := by rw [← hes6]; exact List.getElem?_set_self hil
  have hrl : ∀ e ∈ P, e.r < H.length := fun e he => by
    obtain ⟨fs, _, _, h1, -⟩ := hC.pend e he
    exact (List.getElem?_eq_some_iff.1 h1).1
  refine ⟨ver', cap', H8, ha, ⟨⟨fr _ _ hv0 (by omega) h0q, ?_⟩, ⟨es', ?_, htk', hcap'⟩, ?_, ?_, ?_, ?_, fun j o hj => fr _ _ (hC.keep j o hj) (by have := (List.getElem?_eq_some_iff.1 hj).1; omega) (by have := (List.getElem?_eq_some_iff.1 hj).1; omega), hkq⟩, ⟨hK.ul, ?_, ⟨es6, hp8, by rw [← hes6]; simpa using hn, ?_⟩, hidq, hid0, hK.rid, ?_, ?_⟩⟩
  · rw [← hH8]
    exact rd_other hq7 (by omega) r7
  · rw [← hH8]
    exact List.getElem?_set_self (by omega)
  · intro e he
    rcases List.mem_append.1 he with he | he
    · obtain ⟨fs, dd, bb, h1, h2, h3⟩ := hC.pend e he
      have hkids : ∀ l', e.u.l = some l' → H8[e.id]? = some (.row (cw l') 7 26 (l'.map eT)) := fun l' hl' => by
        have ho : e.own := by unfold Ent.own; rw [hl']; simp
        exact fr _ _ (h3 l' hl') (hK.oth e he ho).1 (hC.ids e he ho).1
      by_cases hr : e.r = p.id
      · rw [hr, hes] at h1
        injection h1 with h1
        injection h1 with h1 _ _ h4
        have hei2 := hK.kid e he hr
        refine ⟨es6, dd, bb, by rw [hr, ← h1]; exact hp8, ?_, hkids⟩
        rw [← hes6, List.getElem?_set_ne (by omega), h4]
        exact h2
      · exact ⟨fs, dd, bb, fr _ _ h1 hr (row_ne h1 hq), h2, hkids⟩
    · rw [List.mem_singleton] at he
      rw [he]
      refine ⟨es6, eD l[i].d, eL 1 eb l[i].b, by rw [hnr, hnw]; exact hp8, by rw [hni, hnu, hnid]; exact hes6i, fun l' hl' => ?_⟩
      rw [hnu] at hl'
      rw [hnid]
      exact g8 _ _ (g7 _ _ (hrow l' hl')) (by omega)
  · intro e he ho
    rcases List.mem_append.1 he with he | he
    · have := hC.ids e he ho
      exact ⟨this.1, by omega, this.2.2⟩
    · rw [List.mem_singleton] at he
      rw [he]
      rw [hnid]
      exact ⟨by omega, by omega, by omega⟩
  · rw [List.pairwise_append]
    refine ⟨hC.dist, List.pairwise_singleton _ _, fun e he f hf ho _ => ?_⟩
    rw [List.mem_singleton] at hf
    rw [hf]
    have := (hC.ids e he ho).2.1
    rw [hnid]
    omega
  · intro e he f hf ho
    rcases List.mem_append.1 he with he | he
    · rcases List.mem_append.1 hf with hf | hf
      · exact hC.apart e he f hf ho
      · rw [List.mem_singleton] at hf
        rw [hf]
        have := hrl e he
        rw [hnid]
        omega
    · rw [List.mem_singleton] at he
      rw [he]
      rw [hnr]
      rcases List.mem_append.1 hf with hf | hf
      · exact fun e => (hK.oth f hf ho).1 e.symm
      · rw [List.mem_singleton] at hf
        rw [hf]
        rw [hnid]
        omega
  · obtain ⟨fs, dd, bb, h1, h2⟩ := hK.cell
    exact ⟨fs, dd, bb, fr _ _ h1 hK.rid (row_ne h1 hq), h2⟩
  · intro j hj hij
    rw [← hes6, List.getElem?_set_ne (by omega)]
    exact hej j hj (by omega)
  · intro e he ho
    rcases List.mem_append.1 he with he | he
    · exact hK.oth e he ho
    · rw [List.mem_singleton] at he
      rw [he]
      obtain ⟨fs, _, _, h1, h2⟩ := hK.cell
      have := (List.getElem?_eq_some_iff.1 h1).1
      rw [hnid]
      exact ⟨by omega, by omega⟩
  · intro e he hr
    rcases List.mem_append.1 he with he | he
    · have := hK.kid e he hr
      omega
    · rw [List.mem_singleton] at he
      rw [he]
      rw [hni]
      omega
end Go.Proofs.YtleikacgncpfbaaDoor

/- Terms: the parts of one are copied; all are. -/
set_option maxRecDepth 100000
set_option maxHeartbeats 4000000
namespace Go.Proofs.YtleikacgncpfbaaDoor
open Go Go.Den
def qez (u : Tm) : Prop := few u.d ∧ fewB u.b ∧ u.kids.length ≤ 1000
noncomputable abbrev TCp : List (FuncId × Pol) := [(72, pDcl), (71, pBcl), (73, q9i)]
theorem ty_ptrs : base.P.underlying 87 = some (.slice 86) := by kernel_rfl
theorem qg1 (id : Nat) (o : Option (List Tm)) : (cv id o).one = true := by cases o <;> rfl
theorem cp_inner {t : Tm} {vd0 vl0 vb0 : AV} {K : List HObj} {q : Nat} {p : Ent} {l : List Tm} {t3 : AV} {c1 : List AV} (hl : ∀ u ∈ l, qez u) : ∀ (k i : Nat) (P : List Ent) (ver cap : Nat) (H : Heap), i + k = l.length → CInv t vd0 vl0 vb0 K q ver cap P H → Cur K p l i q P H → P.length + k ≤ 1000000000 → l.length ≤ 1000 →
    ∃ (P' : List Ent) (ver' cap' : Nat) (H' : Heap), P'.map Ent.u = P.map Ent.u ++ l.drop i ∧ CInv t vd0 vl0 vb0 K q ver' cap' P' H' ∧ LDoes (qim (polT TCp)) ⟨[t3, .sl q ver 0 P.length cap, .ptr p.r p.w p.i 0, .int .i64 (l.length : Int), .int .i64 (i : Int)], [c1]⟩ H 0 ⟨[t3, .sl q ver' 0 P'.length cap'], [c1]⟩ H' := by
  intro k
  induction k with
  | zero =>
    intro i P ver cap H hi hC hK hb hll
    have : i = l.length := by omega
    subst this
    refine ⟨P, ver, cap, H, by simp, hC, LDoes.step (Evs.of fun n m => ?_)⟩
    simp [↓q00, ↓q01, q6q]
  | succ k ih =>
    intro i P ver cap H hi hC hK hb hll
    have hlt : i < l.length := by omega
    have hlt' : (i : Int) < (l.length : Int) := by omega
    obtain ⟨es, hes, hn, hej⟩ := hK.rows
    obtain ⟨H6, h6⟩ : ∃ H6, H6 = (H ++ cr l[i].l ((l[i].l.getD []).map eT)).set p.id (.row (cw l) 7 26 (es.set i (op l[i] (cv H.length l[i].l)))) := ⟨_, rfl⟩
    obtain ⟨ver', cap', H8, happ, hC', hK'⟩ := cp_step hC hK hlt (by omega) hes hn hej h6
    obtain ⟨P', ver2, cap2, H', hP', hC2, hL⟩ := ih (i + 1) _ ver' cap' H8 (by omega) hC' hK' (by simp; omega) hll
    have hu := hl l[i] (List.getElem_mem hlt)
    obtain ⟨fs, dd, bb, hc1, hc2⟩ := hK.cell
    rw [hK.ul] at hc2
    have hpl : p.id < H.length := (List.getElem?_eq_some_iff.1 hes).1
    have hei := hej i hlt (Nat.le_refl _)
    rw [← qc4] at hei
    -- the place that is copied from
    have a1 : A.nilCheck (.ptr p.r p.w p.i 0) H = some (.ptr p.r p.w p.i 0) := q36 hc1
    have a2 : A.fa 5 (.ptr p.r p.w p.i 0) H = some (.ptr p.r p.w p.i 5) := q2r hc1
    have a3 : A.load false 1 (.ptr p.r p.w p.i 5) H = some (.sl p.id (cw l) 0 l.length l.length) := q41 hc1 hc2 rfl
    have a4 : A.idx 7 (.sl p.id (cw l) 0 l.length l.length) (.int .i64 (i : Int)) H = some (.ptr p.id (cw l) i 0) := by
      have := q5k (cap := l.length) (off := 0) (k := .i64) hes (i := (i : Int)) (n := l.length) (by omega) hlt'
      simpa using this
    -- the part
    have b1 : A.nilCheck (.ptr p.id (cw l) i 0) H = some (.ptr p.id (cw l) i 0) := q36 hes
    have b2 : A.fa 2 (.ptr p.id (cw l) i 0) H = some (.ptr p.id (cw l) i 2) := q2r hes
    have b6 : A.fa 6 (.ptr p.id (cw l) i 0) H = some (.ptr p.id (cw l) i 6) := q2r hes
    have b5 : A.fa 5 (.ptr p.id (cw l) i 0) H = some (.ptr p.id (cw l) i 5) := q2r hes
    have d2 : A.load false 1 (.ptr p.id (cw l) i 2) H = some (eD l[i].d) := q41 hes hei rfl
    have d6 : A.load false 1 (.ptr p.id (cw l) i 6) H = some (eL 1 eb l[i].b) := q41 hes hei rfl
    have d5 : A.load false 1 (.ptr p.id (cw l) i 5) H = some (eL 7 eT l[i].l) := q41 hes hei rfl
    have hbig : bigH H = true := bigH_of hes (by have := hK.id0; omega)
    have q2 : ∀ (R : Type) (k : AV → Heap → Option R), polK pDcl [eD l[i].d] H k = k (eD l[i].d) H := fun R k => kDcl_big hu.1 hbig
    have q6 : ∀ (R : Type) (k : AV → Heap → Option R), polK pBcl [eL 1 eb l[i].b] H k = k (eL 1 eb l[i].b) H := fun R k => kBcl_big hu.2.1 hbig
    have q5 : ∀ (R : Type) (k : AV → Heap → Option R), polK q9i [eL 7 eT l[i].l] H k = k (cv H.length l[i].l) (H ++ cr l[i].l ((l[i].l.getD []).map eT)) := fun R k => kTclone hu.2.2
    have hes3 : (H ++ cr l[i].l ((l[i].l.getD []).map eT))[p.id]? = some (.row (cw l) 7 26 es) := by
      rw [List.getElem?_append_left hpl]
      exact hes
    have e1 : A.nilCheck (.ptr p.id (cw l) i 0) (H ++ cr l[i].l ((l[i].l.getD []).map eT)) = some (.ptr p.id (cw l) i 0) := q36 hes3
    have e2 : A.fa 2 (.ptr p.id (cw l) i 0) (H ++ cr l[i].l ((l[i].l.getD []).map eT)) = some (.ptr p.id (cw l) i 2) := q2r hes3
    have e6 : A.fa 6 (.ptr p.id (cw l) i 0) (H ++ cr l[i].l ((l[i].l.getD []).map eT)) = some (.ptr p.id (cw l) i 6) := q2r hes3
    have e5 : A.fa 5 (.ptr p.id (cw l) i 0) (H ++ cr l[i].l ((l[i].l.getD []).map eT)) = some (.ptr p.id (cw l) i 5) := q2r hes3
    have hone : ∀ d : Option (List UInt32), (eD d).one = true := fun d => by cases d <;> rfl
    have honb : ∀ d : Option (List UInt8), (eL 1 eb d).one = true := fun d => by cases d <;> rfl
    have s2 : A.store 1 (.ptr p.id (cw l) i 2) (eD l[i].d) (H ++ cr l[i].l ((l[i].l.getD []).map eT)) = some (H ++ cr l[i].l ((l[i].l.getD []).map eT)) := q42 hes3 hei rfl (hone _)
    have s6 : A.store 1 (.ptr p.id (cw l) i 6) (eL 1 eb l[i].b) (H ++ cr l[i].l ((l[i].l.getD []).map eT)) = some (H ++ cr l[i].l ((l[i].l.getD []).map eT)) := q42 hes3 hei rfl (honb _)
    have s5 : A.store 1 (.ptr p.id (cw l) i 5) (cv H.length l[i].l) (H ++ cr l[i].l ((l[i].l.getD []).map eT)) = some H6 := by
      rw [h6]
      exact q3b hes3 hei rfl (qg1 _ _)
    have hfe : A.fillElems 1 [AV.nilp] [(0, 1, .ptr p.id (cw l) i 0)] = some [.ptr p.id (cw l) i 0] := by simp [A.fillElems]
    have hrd : A.read 1 (.sl H6.length 0 0 1 1) (H6 ++ [.row 0 1 86 [.ptr p.id (cw l) i 0]]) = some [.ptr p.id (cw l) i 0] := qh1 q1f rfl
    have hi1 : IntKind.wrap .i64 ((i : Int) + 1) = (i : Int) + 1 := q0f (by omega) (by omega)
    simp only [Int.natCast_add, Int.natCast_one] at hL
    refine ⟨P', ver2, cap2, H', ?_, hC2, LDoes.step (Evs.withL hL (Evs.of fun n m _ h2 => ?_))⟩
    · rw [hP', List.drop_eq_getElem_cons hlt]
      simp
    generalize H ++ cr l[i].l ((l[i].l.getD []).map eT) = H3 at *
    generalize cv H.length l[i].l = V at *
    generalize (P ++ [(⟨p.id, cw l, i, l[i], H.length⟩ : Ent)]).length = PL at *
    generalize eD l[i].d = vd at *
    generalize eL 1 eb l[i].b = vb at *
    generalize eL 7 eT l[i].l = vl at *
    generalize (l.length : Int) = N at *
    simp [↓q00, ↓q05, ↓q09, ↓q01, ↓q0c, ↓q0d, ↓q0m, ↓q07, q6q, hlt', a1, a2, a3, a4, b1, b2, b6, b5, d2, d6, d5, q2, q6, q5, e1, e2, e6, e5, s2, s6, s5, hfe, q0y ty_ptrs, hrd, happ, hi1, h2]
end Go.Proofs.YtleikacgncpfbaaDoor

/- Terms: all that is still to be copied. -/
set_option maxRecDepth 100000
set_option maxHeartbeats 4000000
namespace Go.Proofs.YtleikacgncpfbaaDoor
open Go Go.Den
theorem q4g : ∀ a b : List Tm, Tm.sizes (a ++ b) = Tm.sizes a + Tm.sizes b
  | [], b => by simp [Tm.sizes]
  | t :: a, b => by simp only [List.cons_append, Tm.sizes, q4g a b]; omega
theorem q63 : ∀ l : List Tm, l.length ≤ Tm.sizes l
  | [] => by simp
  | t :: l => by
    have := q63 l
    have h := t.size_eq
    simp only [List.length_cons, Tm.sizes]
    omega
def fineT (t : Tm) : Prop := evT qez t
theorem fineT_eq {t : Tm} : fineT t ↔ qez t ∧ ∀ u ∈ t.kids, fineT u := qdf
theorem cp_outer {t : Tm} {vd0 vl0 vb0 : AV} {K : List HObj} {q : Nat} {t3 : AV} {c1 : List AV} : ∀ (N : Nat) (P : List Ent) (ver cap : Nat) (H : Heap), Tm.sizes (P.map Ent.u) ≤ N → N ≤ 1000000000 → CInv t vd0 vl0 vb0 K q ver cap P H → (∀ e ∈ P, fineT e.u) →
    ∃ H', (H'[0]? = some (.row 0 7 26 [op2 t vd0 vl0 vb0]) ∧ Rd H' (op t vl0) t) ∧ (∀ (j : Nat) (o : HObj), K[j]? = some o → H'[j + 1]? = some o) ∧ LDoes (qil (polT TCp)) ⟨[t3, .sl q ver 0 P.length cap], [c1]⟩ H 0 ⟨[t3], [c1]⟩ H' := by
  intro N
  induction N with
  | zero =>
    intro P ver cap H hN hB hC hf
    have hp : P = [] := by
      have := q63 (P.map Ent.u)
      simp at this
      exact List.length_eq_zero_iff.1 (by omega)
    subst hp
    obtain ⟨es0, hq, -, -⟩ := hC.todo
    have f0 : A.len (.sl q ver 0 0 cap) H = some (.int .i64 0) := by simp [A.len, A.alive, hq]
    refine ⟨H, hC.root, hC.keep, LDoes.step (Evs.of fun n m => ?_)⟩
    simp [↓q00, ↓q01, q4k, f0]
  | succ N ih =>
    intro P ver cap H hN hB hC hf
    obtain ⟨es0, hq, htk, hcap⟩ := hC.todo
    rcases List.eq_nil_or_concat P with rfl | ⟨P, p, rfl⟩
    · have f0 : A.len (.sl q ver 0 0 cap) H = some (.int .i64 0) := by simp [A.len, A.alive, hq]
      refine ⟨H, hC.root, hC.keep, LDoes.step (Evs.of fun n m => ?_)⟩
      simp [↓q00, ↓q01, q4k, f0]
    · simp only [List.concat_eq_append] at *
      have hn : (P ++ [p]).length = P.length + 1 := by simp
      have hpm : p ∈ P ++ [p] := by simp
      have hle : P.length + 1 ≤ es0.length := by
        have := congrArg List.length htk
        simp at this
        omega
      have hlast : es0[P.length]? = some p.ptr := by
        have h2 := congrArg (fun l => l[P.length]?) htk
        simp only [List.getElem?_take, List.map_append, List.map_cons, List.map_nil] at h2
        rw [if_pos (by simp)] at h2
        rw [h2, List.getElem?_append_right (by simp)]
        simp
      have htk' : es0.take P.length = P.map Ent.ptr := by
        have h3 := congrArg (List.take P.length) htk
        rw [List.take_take] at h3
        simpa using h3
      have hmem : ∀ e ∈ P, e ∈ P ++ [p] := fun e he => List.mem_append_left _ he
      have hdist := List.pairwise_append.1 hC.dist
      have hC0 : CInv t vd0 vl0 vb0 K q ver cap P H := ⟨hC.root, ⟨es0, hq, htk', by omega⟩, fun e he => hC.pend e (hmem e he), fun e he => hC.ids e (hmem e he), hdist.1, fun e he f hf => hC.apart e (hmem e he) f (hmem f hf), hC.keep, hC.kq⟩
      obtain ⟨fs, dd, bb, hc1, hc2, hc3⟩ := hC.pend p hpm
      have hsz : Tm.sizes ((P ++ [p]).map Ent.u) = Tm.sizes (P.map Ent.u) + p.u.size := by
        rw [List.map_append, q4g]
        simp [Tm.sizes]
      have hpl : P.length ≤ Tm.sizes (P.map Ent.u) := by
        have := q63 (P.map Ent.u)
        simpa using this
      have hpsz := p.u.size_eq
      have e1 : ((P.length + 1 : Nat) : Int) - 1 = (P.length : Int) := by omega
      have hw : IntKind.wrap .i64 (((P.length + 1 : Nat) : Int) - 1) = (P.length : Int) := by rw [q0f (by omega) (by omega), e1]
      have hpos : (0 : Int) < ((P.length + 1 : Nat) : Int) := by omega
      have f1 : A.len (.sl q ver 0 (P.length + 1) cap) H = some (.int .i64 ((P.length + 1 : Nat) : Int)) := by simp [A.len, A.alive, hq]
      have f2 : A.idx 1 (.sl q ver 0 (P.length + 1) cap) (.int .i64 (P.length : Int)) H = some (.ptr q ver P.length 0) := by
        have := q5k (cap := cap) (off := 0) (k := .i64) hq (i := (P.length : Int)) (n := P.length + 1) (by omega) (by omega)
        simpa using this
      have f3 : A.load false 1 (.ptr q ver P.length 0) H = some (.ptr p.r p.w p.i 0) := qcg hq hlast rfl
      have f4 : A.slice 1 (.sl q ver 0 (P.length + 1) cap) none (some (.int .i64 (P.length : Int))) none H = some (.sl q ver 0 P.length cap) := by
        simp [A.slice, A.bound, A.aliveZ, hq]
        omega
      have f5 : A.nilCheck (.ptr p.r p.w p.i 0) H = some (.ptr p.r p.w p.i 0) := q36 hc1
      have f6 : A.fa 5 (.ptr p.r p.w p.i 0) H = some (.ptr p.r p.w p.i 5) := q2r hc1
      have f7 : A.load false 1 (.ptr p.r p.w p.i 5) H = some (cv p.id p.u.l) := q41 hc1 hc2 rfl
      rw [hn]
      cases hul : p.u.l with
      | none =>
        rw [hul] at f7
        have f7 : A.load false 1 (.ptr p.r p.w p.i 5) H = some .nils := f7
        have f9 : A.len .nils H = some (.int .i64 0) := rfl
        obtain ⟨H', hr, hkp, hL⟩ := ih P ver cap H (by omega) (by omega) hC0 (fun e he => hf e (hmem e he))
        have hin : LDoes (qim (polT TCp)) ⟨[t3, .sl q ver 0 P.length cap, .ptr p.r p.w p.i 0, .int .i64 0, .int .i64 0], [c1]⟩ H 0 ⟨[t3, .sl q ver 0 P.length cap], [c1]⟩ H := LDoes.step (Evs.of fun n m => by simp [↓q00, ↓q01, q6q])
        refine ⟨H', hr, hkp, LDoes.step (Evs.withL hin (Evs.withL hL (Evs.of fun n m _ h2 h3 _ => ?_)))⟩
        generalize ((P.length + 1 : Nat) : Int) = N1 at *
        simp [↓q00, ↓q05, ↓q0a, ↓q01, ↓q06, q4k, f1, hpos, hw, f2, f3, f4, f5, f6, f7, f9, h2, h3]
      | some l =>
        rw [hul] at f7
        have ho : p.own := by unfold Ent.own; rw [hul]; simp
        have hkl : p.u.kids = l := by unfold Tm.kids; rw [hul]; rfl
        have hpf := fineT_eq.1 (hf p hpm)
        have hids := hC.ids p hpm ho
        have hll : l.length ≤ 1000 := by rw [← hkl]; exact hpf.1.2.2
        have hls := q63 l
        rw [hkl] at hpsz
        have hK : Cur K p l 0 q P H := ⟨hul, ⟨fs, dd, bb, hc1, hc2⟩, ⟨l.map eT, hc3 l hul, by simp, fun j hj _ => by simp [hj]⟩, hids.1, hids.2.2, hC.apart p hpm p hpm ho, fun e he heo => ⟨hdist.2.2 e he p (by simp) heo ho, fun e2 => hC.apart p hpm e (hmem e he) heo e2.symm⟩, fun e he h => absurd h (hC.apart e (hmem e he) p hpm ho)⟩
        obtain ⟨P', ver', cap', H1, hP', hC', hin⟩ := cp_inner (t := t) (q := q) (p := p) (l := l) (t3 := t3) (c1 := c1) (fun u hu => (fineT_eq.1 (hpf.2 u (by rw [hkl]; exact hu))).1) l.length 0 P ver cap H (by omega) hC0 hK (by omega) hll
        rw [List.drop_zero] at hP'
        have hf' : ∀ e ∈ P', fineT e.u := fun e he => by
          have : e.u ∈ P.map Ent.u ++ l := by rw [← hP']; exact List.mem_map_of_mem he
          rcases List.mem_append.1 this with h | h
          · obtain ⟨e', he', h⟩ := List.mem_map.1 h
            rw [← h]
            exact hf e' (hmem e' he')
          · exact hpf.2 _ (by rw [hkl]; exact h)
        obtain ⟨H', hr, hkp, hL⟩ := ih P' ver' cap' H1 (by rw [hP', q4g]; omega) (by omega) hC' hf'
        refine ⟨H', hr, hkp, LDoes.step (Evs.withL hin (Evs.withL hL (Evs.of fun n m _ h2 h3 _ => ?_)))⟩
        have f8 : A.len (cv p.id (some l)) H = some (.int .i64 (l.length : Int)) := by
          have := hc3 l hul
          simp [A.len, A.alive, cv, this]
        simp only [Int.natCast_zero] at h3
        generalize cv p.id (some l) = V at *
        generalize ((P.length + 1 : Nat) : Int) = N1 at *
        generalize (l.length : Int) = N2 at *
        simp [↓q00, ↓q05, ↓q0a, ↓q01, ↓q06, q4k, f1, hpos, hw, f2, f3, f4, f5, f6, f7, f8, h2, h3]
end Go.Proofs.YtleikacgncpfbaaDoor

/- Terms: a copy is the term. -/
set_option maxRecDepth 100000
set_option maxHeartbeats 4000000
namespace Go.Proofs.YtleikacgncpfbaaDoor
open Go Go.Den
theorem rd_seven {H : Heap} {v : AV} {t : Tm} (h : Rd H v t) : v.cells.length = 7 ∧ A.fits 7 v = true ∧ A.ofList true 7 v.cells 0 = some v ∧ v.isDef = true ∧ A.splice [.int .i64 0, .bool false, .nils, .str [], .int .i64 0, .nils, .nils] 0 v.cells = v.cells := by
  have hop : ∀ (u : Tm) (w : AV), w.one = true → (op u w).cells.length = 7 ∧ A.fits 7 (op u w) = true ∧ A.ofList true 7 (op u w).cells 0 = some (op u w) ∧ (op u w).isDef = true ∧ A.splice [.int .i64 0, .bool false, .nils, .str [], .int .i64 0, .nils, .nils] 0 (op u w).cells = (op u w).cells := fun u w hw => by
    have hd : (eD u.d).one = true := by cases u.d <;> rfl
    have hb : (eL 1 eb u.b).one = true := by cases u.b <;> rfl
    refine ⟨rfl, ?_, rfl, rfl, rfl⟩
    show (((op u w).cells.length == 7) && (op u w).cells.all AV.one) = true
    show ((7 == 7) && [AV.int .i64 u.kind, .bool u.neg, eD u.d, .str u.name, .int .i64 u.n, w, eL 1 eb u.b].all AV.one) = true
    simp only [List.all_cons, List.all_nil, hd, hb, hw]
    rfl
  cases h with
  | imm =>
    rw [← qc4]
    exact hop _ _ (by cases t.l <;> rfl)
  | nil => exact hop _ _ rfl
  | own => exact hop _ _ rfl
def copyT (t : Tm) : Prop := fineT t ∧ shal 63 t ∧ t.size ≤ 1000000000
noncomputable def pCopy : Pol := .still (p1 cT eT copyT id)
def kb (t : Tm) : Nat := 1 + (crG 59 eu t.d).length
def kl (t : Tm) : Nat := kb t + (crG 5 eb t.b).length
def kK (t : Tm) : List HObj := crG 59 eu t.d ++ crG 5 eb t.b
theorem kl_eq (t : Tm) : kl t = 1 + (kK t).length := by unfold kl kb kK; simp; omega
theorem copy_run {t : Tm} (h : copyT t) : ∃ H' : Heap, (H'[0]? = some (.row 0 7 26 [op2 t (cvG 1 t.d) (cv (kl t) t.l) (cvG (kb t) t.b)]) ∧ Rd H' (op t (cv (kl t) t.l)) t) ∧ (∀ (j : Nat) (o : HObj), (kK t)[j]? = some o → H'[j + 1]? = some o) ∧
    Evs fun n _ => ∀ (R : Type) (k : AV → Heap → Option R), callF (base.with (polT TCp)) (n + 1) R 44 [eT t] [] k = k (op2 t (cvG 1 t.d) (cv (kl t) t.l) (cvG (kb t) t.b)) H' := by
  obtain ⟨hf, hsh, hsz⟩ := h
  have hf1 := (fineT_eq.1 hf).1
  have hcl : (eT t).cells.length = 7 := by rw [q02]; rfl
  have hof : A.ofList true 7 (eT t).cells 0 = some (eT t) := q0w (H := [])
  have hof2 : (eT t).cells[2]? = some (eD t.d) := by rw [q02]; rfl
  have hof6 : (eT t).cells[6]? = some (eL 1 eb t.b) := by rw [q02]; rfl
  have hof5 : (eT t).cells[5]? = some (eL 7 eT t.l) := by rw [q02]; rfl
  have st0 : A.store 7 (.ptr 0 0 0 0) (eT t) [.row 0 7 26 [.agg [.int .i64 0, .bool false, .nils, .str [], .int .i64 0, .nils, .nils]]] = some [.row 0 7 26 [eT t]] := by
    have := q5v (cs := [.int .i64 0, .bool false, .nils, .str [], .int .i64 0, .nils, .nils]) (ds := (eT t).cells) (b := 0) (sz := 7) (ty := 26) (H := [.row 0 7 26 [.agg [.int .i64 0, .bool false, .nils, .str [], .int .i64 0, .nils, .nils]]]) rfl rfl (by rw [q02]; rfl) (by rw [q02]; simp)
    have e : AV.agg (eT t).cells = eT t := by rw [q02, q2t]
    rw [e] at this
    exact this
  -- the heap: the place; limbs, bytes; the list
  obtain ⟨Ha, hHa⟩ : ∃ Ha : Heap, Ha = [.row 0 7 26 [eT t]] ++ crG 59 eu t.d := ⟨_, rfl⟩
  obtain ⟨Hb, hHb⟩ : ∃ Hb : Heap, Hb = Ha ++ crG 5 eb t.b := ⟨_, rfl⟩
  obtain ⟨Hc, hHc⟩ : ∃ Hc : Heap, Hc = Hb ++ cr t.l ((t.l.getD []).map eT) := ⟨_, rfl⟩
  have lHa : Ha.length = kb t := by rw [hHa]; unfold kb; simp; omega
  have lHb : Hb.length = kl t := by rw [hHb]; unfold kl; simp [lHa]
  have big1 : ∀ {α : Type} {ty : TypeId} {e : α → AV} {o : Option (List α)}, (crG ty e o).any isR7 = false := fun {α ty e o} => by cases o <;> rfl
  have k2 : ∀ (R : Type) (k : AV → Heap → Option R), polK pDcl [eD t.d] [.row 0 7 26 [eT t]] k = k (cvG 1 t.d) Ha := fun R k => by
    rw [hHa]
    exact qhu (H := [.row 0 7 26 [eT t]]) hf1.1 rfl
  have k6 : ∀ (R : Type) (k : AV → Heap → Option R), polK pBcl [eL 1 eb t.b] Ha k = k (cvG (kb t) t.b) Hb := fun R k => by
    rw [hHb, ← lHa]
    refine qht hf1.2.1 ?_
    rw [hHa]
    exact big1
  have k5 : ∀ (R : Type) (k : AV → Heap → Option R), polK q9i [eL 7 eT t.l] Hb k = k (cv (kl t) t.l) Hc := fun R k => by
    rw [hHc, ← lHb]
    exact kTclone hf1.2.2
  have h0 : Hc[0]? = some (.row 0 7 26 [eT t]) := by rw [hHc, hHb, hHa]; rfl
  have he : [eT t][0]? = some (.agg [.int .i64 t.kind, .bool t.neg, eD t.d, .str t.name, .int .i64 t.n, eL 7 eT t.l, eL 1 eb t.b]) := by rw [q2t]; rfl
  have hc0 : 0 < Hc.length := (List.getElem?_eq_some_iff.1 h0).1
  have f2 : A.fa 2 (.ptr 0 0 0 0) Hc = some (.ptr 0 0 0 2) := q2r h0
  have s2 : A.store 1 (.ptr 0 0 0 2) (cvG 1 t.d) Hc = some (Hc.set 0 (.row 0 7 26 [.agg [.int .i64 t.kind, .bool t.neg, cvG 1 t.d, .str t.name, .int .i64 t.n, eL 7 eT t.l, eL 1 eb t.b]])) := q3b h0 he rfl (q6x _ _)
  obtain ⟨Hd, hHd⟩ : ∃ Hd : Heap, Hd = Hc.set 0 (.row 0 7 26 [.agg [.int .i64 t.kind, .bool t.neg, cvG 1 t.d, .str t.name, .int .i64 t.n, eL 7 eT t.l, eL 1 eb t.b]]) := ⟨_, rfl⟩
  rw [← hHd] at s2
  have g0 : Hd[0]? = some (.row 0 7 26 [.agg [.int .i64 t.kind, .bool t.neg, cvG 1 t.d, .str t.name, .int .i64 t.n, eL 7 eT t.l, eL 1 eb t.b]]) := by rw [hHd]; exact List.getElem?_set_self hc0
  have f6 : A.fa 6 (.ptr 0 0 0 0) Hd = some (.ptr 0 0 0 6) := q2r g0
  have s6 : A.store 1 (.ptr 0 0 0 6) (cvG (kb t) t.b) Hd = some (Hd.set 0 (.row 0 7 26 [.agg [.int .i64 t.kind, .bool t.neg, cvG 1 t.d, .str t.name, .int .i64 t.n, eL 7 eT t.l, cvG (kb t) t.b]])) := q3b (j := 0) (off := 6) (v := cvG (kb t) t.b) (w := eL 1 eb t.b) (cs := [.int .i64 t.kind, .bool t.neg, cvG 1 t.d, .str t.name, .int .i64 t.n, eL 7 eT t.l, eL 1 eb t.b]) g0 rfl rfl (q6x _ _)
  obtain ⟨He, hHe⟩ : ∃ He : Heap, He = Hd.set 0 (.row 0 7 26 [.agg [.int .i64 t.kind, .bool t.neg, cvG 1 t.d, .str t.name, .int .i64 t.n, eL 7 eT t.l, cvG (kb t) t.b]]) := ⟨_, rfl⟩
  rw [← hHe] at s6
  have i0 : He[0]? = some (.row 0 7 26 [.agg [.int .i64 t.kind, .bool t.neg, cvG 1 t.d, .str t.name, .int .i64 t.n, eL 7 eT t.l, cvG (kb t) t.b]]) := by rw [hHe]; exact List.getElem?_set_self (by rw [hHd]; simpa using hc0)
  have f5 : A.fa 5 (.ptr 0 0 0 0) He = some (.ptr 0 0 0 5) := q2r i0
  have s5 : A.store 1 (.ptr 0 0 0 5) (cv (kl t) t.l) He = some (He.set 0 (.row 0 7 26 [op2 t (cvG 1 t.d) (cv (kl t) t.l) (cvG (kb t) t.b)])) := q3b (j := 0) (off := 5) (v := cv (kl t) t.l) (w := eL 7 eT t.l) (cs := [.int .i64 t.kind, .bool t.neg, cvG 1 t.d, .str t.name, .int .i64 t.n, eL 7 eT t.l, cvG (kb t) t.b]) i0 rfl rfl (qg1 _ _)
  have hfe : A.fillElems 1 [AV.nilp] [(0, 1, .ptr 0 0 0 0)] = some [.ptr 0 0 0 0] := by simp [A.fillElems]
  obtain ⟨H8, hH8⟩ : ∃ H8 : Heap, H8 = He.set 0 (.row 0 7 26 [op2 t (cvG 1 t.d) (cv (kl t) t.l) (cvG (kb t) t.b)]) := ⟨_, rfl⟩
  rw [← hH8] at s5
  have hl8 : H8.length = Hc.length := by rw [hH8, hHe, hHd]; simp
  have hz8 : H8[0]? = some (.row 0 7 26 [op2 t (cvG 1 t.d) (cv (kl t) t.l) (cvG (kb t) t.b)]) := by rw [hH8]; exact List.getElem?_set_self (by rw [hHe, hHd]; simpa using hc0)
  have hoth : ∀ (k : Nat) (o : HObj), k ≠ 0 → Hc[k]? = some o → H8[k]? = some o := fun k o hk ho => by
    rw [hH8, hHe, hHd, List.getElem?_set_ne (by omega), List.getElem?_set_ne (by omega), List.getElem?_set_ne (by omega)]
    exact ho
  have hlc : ∀ l, t.l = some l → Hc.length = kl t + 1 := fun l hl => by rw [hHc, hl]; simp [lHb, cr]
  have hk : ∀ l, t.l = some l → (H8 ++ [.row 0 1 86 [.ptr 0 0 0 0]])[kl t]? = some (.row (cw l) 7 26 (l.map eT)) := fun l hl => by
    have h1 := hlc l hl
    rw [List.getElem?_append_left (by omega)]
    refine hoth _ _ (by unfold kl kb; omega) ?_
    rw [hHc, List.getElem?_append_right (by omega), lHb, hl]
    simp [cr]
  have hz : (H8 ++ [.row 0 1 86 [.ptr 0 0 0 0]])[0]? = some (.row 0 7 26 [op2 t (cvG 1 t.d) (cv (kl t) t.l) (cvG (kb t) t.b)]) := by
    rw [List.getElem?_append_left (by omega)]
    exact hz8
  have hkl := kl_eq t
  have hlen8 : kl t ≤ H8.length := by rw [hl8, hHc]; simp; omega
  have hC : CInv t (cvG 1 t.d) (cv (kl t) t.l) (cvG (kb t) t.b) (kK t) H8.length 0 1 [⟨0, 0, 0, t, kl t⟩] (H8 ++ [.row 0 1 86 [.ptr 0 0 0 0]]) := by
    refine ⟨⟨hz, ?_⟩, ⟨[.ptr 0 0 0 0], by simp, rfl, by simp⟩, ?_, ?_, List.pairwise_singleton _ _, ?_, ?_, by omega⟩
    · cases hl : t.l with
      | none => exact .nil _ hl
      | some l =>
        refine .own _ l _ _ _ _ hl (hk l hl) (by simp) fun j hj => ?_
        rw [List.getElem_map]
        exact .imm _
    · intro e hee
      rw [List.mem_singleton] at hee
      rw [hee]
      exact ⟨_, _, _, hz, rfl, hk⟩
    · intro e hee ho
      rw [List.mem_singleton] at hee
      rw [hee] at ho ⊢
      obtain ⟨l, hl⟩ : ∃ l, t.l = some l := by
        cases hl : t.l with
        | none => exact absurd hl ho
        | some l => exact ⟨l, rfl⟩
      have := hlc l hl
      refine ⟨?_, ?_, ?_⟩
      · show kl t ≠ H8.length
        omega
      · show kl t < (H8 ++ _).length
        simp
        omega
      · show (kK t).length < kl t
        omega
    · intro e hee f hf' _
      rw [List.mem_singleton] at hee hf'
      rw [hee, hf']
      show 0 ≠ kl t
      omega
    · intro j o hj
      have hjl := (List.getElem?_eq_some_iff.1 hj).1
      rw [List.getElem?_append_left (by omega)]
      refine hoth _ _ (by omega) ?_
      have e : Hb = [.row 0 7 26 [eT t]] ++ kK t := by
        rw [hHb, hHa]
        unfold kK
        simp
      rw [hHc, List.getElem?_append_left (by omega), e, List.getElem?_append_right (by simp)]
      simpa using hj
  obtain ⟨H', ⟨hv0, hv⟩, hkp, hL⟩ := cp_outer (t3 := .ptr 0 0 0 0) (c1 := [.int .i64 0, .bool false, .nils, .str [], .int .i64 0, .nils, .nils]) t.size _ _ _ _ (by simp [Tm.sizes]) hsz hC (fun e hee => by
    rw [List.mem_singleton] at hee
    rw [hee]
    exact hf)
  have hone := qg1 (kl t) t.l
  have hod := q6x 1 t.d
  have hob := q6x (kb t) t.b
  have hld : A.load true 7 (.ptr 0 0 0 0) H' = some (op2 t (cvG 1 t.d) (cv (kl t) t.l) (cvG (kb t) t.b)) := by
    simp only [A.load, A.elemAt, hv0]
    rfl
  refine ⟨H', ⟨hv0, hv⟩, hkp, Evs.withL hL (Evs.of fun n m h1 _ R k => ?_)⟩
  have h1' : qil (polT TCp) n n ⟨[.ptr 0 0 0 0, .sl H8.length 0 0 1 1], [[.int .i64 0, .bool false, .nils, .str [], .int .i64 0, .nils, .nils]]⟩ (H8 ++ [.row 0 1 86 [.ptr 0 0 0 0]]) = some (0, ⟨[.ptr 0 0 0 0], [[.int .i64 0, .bool false, .nils, .str [], .int .i64 0, .nils, .nils]]⟩, H') := h1
  have w1 : (op2 t (cvG 1 t.d) (cv (kl t) t.l) (cvG (kb t) t.b)).cells = [.int .i64 t.kind, .bool t.neg, cvG 1 t.d, .str t.name, .int .i64 t.n, cv (kl t) t.l, cvG (kb t) t.b] := rfl
  have w2 : A.fits 7 (op2 t (cvG 1 t.d) (cv (kl t) t.l) (cvG (kb t) t.b)) = true := by
    show ((7 == 7) && [AV.int .i64 t.kind, .bool t.neg, cvG 1 t.d, .str t.name, .int .i64 t.n, cv (kl t) t.l, cvG (kb t) t.b].all AV.one) = true
    simp only [List.all_cons, List.all_nil, hod, hob, hone]
    rfl
  have w3 : ∀ a b c d e f g : AV, A.ofList true 7 [a, b, c, d, e, f, g] 0 = some (.agg [a, b, c, d, e, f, g]) := fun a b c d e f g => rfl
  have w4 : op2 t (cvG 1 t.d) (cv (kl t) t.l) (cvG (kb t) t.b) = .agg [.int .i64 t.kind, .bool t.neg, cvG 1 t.d, .str t.name, .int .i64 t.n, cv (kl t) t.l, cvG (kb t) t.b] := rfl
  have w5 : ∀ a b c d e f g a' b' c' d' e' f' g' : AV, A.splice [a, b, c, d, e, f, g] 0 [a', b', c', d', e', f', g'] = [a', b', c', d', e', f', g'] := fun _ _ _ _ _ _ _ _ _ _ _ _ _ _ => rfl
  rw [w4] at w2
  clear hC hL h1 hoth hk hz hz8 hkp hv hv0
  rw [q02] at hof
  generalize cvG 1 t.d = VD at *
  generalize cvG (kb t) t.b = VB at *
  generalize cv (kl t) t.l = VL at *
  simp [↓q05, ↓q0a, ↓q09, ↓q01, ↓q0c, ↓q0d, ↓q06, ↓q07, S44, hof, st0, k2, k6, k5, f2, s2, f6, s6, f5, s5, hfe, h1', hld, w2, w3, w4, w5]
theorem frz_op2 {n : Nat} {H : Heap} {t : Tm} {vd vl vb : AV} (hd : A.freezeB true (n + 1) H vd = some (eD t.d)) (hl : A.freezeB true (n + 1) H vl = some (eL 7 eT t.l)) (hb : A.freezeB true (n + 1) H vb = some (eL 1 eb t.b)) : A.freezeB true (n + 2) H (op2 t vd vl vb) = some (eT t) := by
  show ([AV.int .i64 t.kind, .bool t.neg, vd, .str t.name, .int .i64 t.n, vl, vb].mapM (A.freezeB true (n + 1) H)).map AV.agg = _
  have h0 : A.freezeB true (n + 1) H (.int .i64 t.kind) = some (.int .i64 t.kind) := rfl
  have h1 : A.freezeB true (n + 1) H (.bool t.neg) = some (.bool t.neg) := rfl
  have h3 : A.freezeB true (n + 1) H (.str t.name) = some (.str t.name) := rfl
  have h4 : A.freezeB true (n + 1) H (.int .i64 t.n) = some (.int .i64 t.n) := rfl
  rw [q2t]
  simp [List.mapM_cons, h0, h1, hd, h3, h4, hl, hb]
theorem qjb {α : Type} {ty : TypeId} {e : α → AV} {n id : Nat} {H : Heap} {o : Option (List α)} (he : ∀ x, (e x).flat0 = true ∧ (e x).isDef = true) (h : ∀ (j : Nat) (ob : HObj), (crG ty e o)[j]? = some ob → H[j + id]? = some ob) : A.freezeB true (n + 2) H (cvG id o) = some (eL 1 e o) := by
  cases o with
  | none => rfl
  | some l =>
    have h1 := h 0 (.row (cwG l) 1 ty (l.map e)) rfl
    rw [Nat.zero_add] at h1
    exact q1d h1 (by simp) (fun v hv => by
      obtain ⟨x, -, rfl⟩ := List.mem_map.1 hv
      exact he x)
theorem frz_rd {H : Heap} {t : Tm} {v : AV} {n : Nat} (hs : shal (n + 1) t) (h : Rd H (op t v) t) : A.freezeB true (n + 1) H v = some (eL 7 eT t.l) := by
  have hf := qe3 (n + 1) t _ hs h
  have : ([AV.int .i64 t.kind, .bool t.neg, eD t.d, .str t.name, .int .i64 t.n, v, eL 1 eb t.b].mapM (A.freezeB true (n + 1) H)).map AV.agg = some (eT t) := hf
  rw [q2t] at this
  have hd : A.freezeB true (n + 1) H (eD t.d) = some (eD t.d) := qar
  have hb : A.freezeB true (n + 1) H (eL 1 eb t.b) = some (eL 1 eb t.b) := qar
  have h0 : A.freezeB true (n + 1) H (.int .i64 t.kind) = some (.int .i64 t.kind) := rfl
  have h1 : A.freezeB true (n + 1) H (.bool t.neg) = some (.bool t.neg) := rfl
  have h3 : A.freezeB true (n + 1) H (.str t.name) = some (.str t.name) := rfl
  have h4 : A.freezeB true (n + 1) H (.int .i64 t.n) = some (.int .i64 t.n) := rfl
  cases hv : A.freezeB true (n + 1) H v with
  | none => simp [List.mapM_cons, h0, h1, hd, h3, h4, hb, hv] at this
  | some w =>
    simp [List.mapM_cons, h0, h1, hd, h3, h4, hb, hv] at this
    rw [this]
theorem copy_frz {t : Tm} {vl : AV} {H : Heap} (hs : shal 63 t) (hv : Rd H (op t vl) t) (hkp : ∀ (j : Nat) (o : HObj), (kK t)[j]? = some o → H[j + 1]? = some o) : A.freezeB true 64 H (op2 t (cvG 1 t.d) vl (cvG (kb t) t.b)) = some (eT t) := by
  refine frz_op2 (qjb (ty := 59) (fun x => ⟨rfl, rfl⟩) fun j o hj => ?_) (frz_rd hs hv) (qjb (ty := 5) (fun x => ⟨rfl, rfl⟩) fun j o hj => ?_)
  · refine hkp j o ?_
    unfold kK
    rw [List.getElem?_append_left (List.getElem?_eq_some_iff.1 hj).1]
    exact hj
  · have := hkp ((crG 59 eu t.d).length + j) o (by
      unfold kK
      rw [List.getElem?_append_right (by omega), show (crG 59 eu t.d).length + j - (crG 59 eu t.d).length = j by omega]
      exact hj)
    unfold kb
    rw [show j + (1 + (crG 59 eu t.d).length) = (crG 59 eu t.d).length + j + 1 by omega]
    exact this
noncomputable def pCopyR : Pol := .prim (runF base TCp 44)
theorem okCopyR : PolOK base 44 pCopyR := ok_run base_ok TCp ⟨okDcl, okBcl, okTclone, trivial⟩
theorem kCopyR {t : Tm} (h : copyT t) : ∃ H' : Heap, Rd H' (op t (cv (kl t) t.l)) t ∧ (∀ (j : Nat) (o : HObj), (kK t)[j]? = some o → H'[j + 1]? = some o) ∧ ∀ (R : Type) (k : AV → Heap → Option R), polK pCopyR [eT t] [] k = k (op2 t (cvG 1 t.d) (cv (kl t) t.l) (cvG (kb t) t.b)) H' := by
  obtain ⟨H', ⟨-, hv⟩, hkp, hE⟩ := copy_run h
  exact ⟨H', hv, hkp, fun R k => k_run (qch (hE.mono fun n m h1 => h1 _ _))⟩
end Go.Proofs.YtleikacgncpfbaaDoor

/- Terms: tuples and lists. -/
set_option maxRecDepth 100000
set_option maxHeartbeats 4000000
namespace Go.Proofs.YtleikacgncpfbaaDoor
open Go Go.Den
def tupT (l : List Tm) : Tm := .mk 4 false none [] 0 (nz l) none
def listT : List Tm → Tm
  | [] => .mk 5 false none [] 0 none none
  | x :: r => .mk 6 false none [] 0 (some [x, listT r]) none
def partT (u : Tm) : Prop := copyT u ∧ shal 20 u
noncomputable abbrev TTup : List (FuncId × Pol) := [(44, pCopy)]
def allP (o : Option (List Tm)) : Prop := (∀ u ∈ o.getD [], partT u) ∧ (o.getD []).length ≤ 1000
noncomputable def pTuple : Pol := .still (p1 cTs eT allP fun o => tupT (o.getD []))
end Go.Proofs.YtleikacgncpfbaaDoor

/- Terms: lists. -/
set_option maxRecDepth 100000
set_option maxHeartbeats 4000000
namespace Go.Proofs.YtleikacgncpfbaaDoor
open Go Go.Den
noncomputable def pNil : Pol := .still (Cd.f0 (eT (listT [])))
noncomputable abbrev TLst : List (FuncId × Pol) := [(47, pNil), (44, pCopy)]
def allL (o : Option (List Tm)) : Prop := (∀ u ∈ o.getD [], partT u) ∧ (o.getD []).length ≤ 40
noncomputable def pList : Pol := .still (p1 cTs eT allL fun o => listT (o.getD []))
end Go.Proofs.YtleikacgncpfbaaDoor
