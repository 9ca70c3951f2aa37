/- Texts put together: Rc, Rt, Or1, Or5, Or6, Or2, Or3, Or4, Or7, Or8, So1, So2, So3, So4, Awake6, Lw6e, Lw6d, Lw6b, Lw6g. -/
import Derived.Test.YtleikacgncpfbaaDoorMh
import Derived.Test.YtleikacgncpfbaaDoorRows

/- Terms: the reference's copies, in a plain form. -/
set_option maxRecDepth 100000
set_option maxHeartbeats 4000000
namespace Go.Proofs.YtleikacgncpfbaaDoor
open Go Go.Den
mutual
def canonT : Tm → Tm
  | .mk k x d s n l b => .mk k x (nz (d.getD [])) s n (canonO l) (nz (b.getD []))
def canonO : Option (List Tm) → Option (List Tm)
  | none => none
  | some l => nz (canons l)
def canons : List Tm → List Tm
  | [] => []
  | t :: l => canonT t :: canons l
end
theorem q9l : ∀ l : List Tm, canons l = l.map canonT
  | [] => by simp [canons]
  | t :: l => by rw [canons, q9l l]; rfl
theorem q0s (t : Tm) : canonT t = .mk t.kind t.neg (nz (t.d.getD [])) t.name t.n (nz (t.kids.map canonT)) (nz (t.b.getD [])) := by
  cases t with
  | mk k x d s n l b =>
    rw [canonT]
    cases l with
    | none => rw [canonO]; rfl
    | some l => rw [canonO, q9l]; rfl
structure SameT (a b : Tm) : Prop where
  kind : a.kind = b.kind
  neg : a.neg = b.neg
  d : a.d.getD [] = b.d.getD []
  name : a.name = b.name
  n : a.n = b.n
  kids : a.kids.map canonT = b.kids.map canonT
  b : a.b.getD [] = b.b.getD []
section
variable {α : Type} {e : α → AV} {sz bytes : Nat} {ty : TypeId}
def nv (l : List α) (id : Nat) : AV := if l = [] then .nils else .sl id 0 0 l.length l.length
def nr (e : α → AV) (sz : Nat) (ty : TypeId) (l : List α) : List HObj := if l = [] then [] else [.row 0 sz ty (l.map e)]
theorem qes {l : List α} (hb : 0 < bytes) (hm : l.length * bytes ≤ 140737488355328) {H : Heap} : A.append sz bytes ty .nils (l.map e) H = some (nv l H.length, H ++ nr e sz ty l) := by
  cases l with
  | nil => simp [nv, nr, A.append]
  | cons x l =>
    rw [nil_append (by simp) hb (by simpa using hm)]
    simp [nv, nr]
theorem nv_one (l : List α) (id : Nat) : (nv l id).one = true ∧ (nv l id).cells = [nv l id] ∧ (nv l id).isDef = true := by
  unfold nv
  split <;> exact ⟨rfl, rfl, rfl⟩
theorem nv_frz {l : List α} {id m : Nat} {H : Heap} (hf : ∀ x, (e x).flat0 = true ∧ (e x).isDef = true) (h : l ≠ [] → H[id]? = some (.row 0 sz ty (l.map e))) : A.freezeB true (m + 2) H (nv l id) = some (eL sz e (nz l)) := by
  unfold nv nz
  by_cases hl : l = []
  · rw [if_pos hl, if_pos hl]
    rfl
  · rw [if_neg hl, if_neg hl]
    exact q4a (b := true) (m := m) (h hl) (by simp) (fun y hy => by
      obtain ⟨x, _, rfl⟩ := List.mem_map.1 hy
      exact hf x)
end
theorem qhy {n : Nat} {H : Heap} {t : Tm} : A.freezeB true (n + 2) H (eT t) = some (eT t) := by
  rw [← op_eT]
  exact qf8 qf7
theorem q9v {n id w cap : Nat} {l : List Tm} {H : Heap} (hr : H[id]? = some (.row w 7 26 (l.map eT))) : A.freezeB true (n + 2) H (.sl id w 0 l.length cap) = some (.sh 7 (l.map eT)) := by
  show (match H[id]? with | some (.row w' z _ es) => if w' = w ∧ 0 + l.length ≤ es.length then (((es.drop 0).take l.length).mapM fun (e : AV) => match e with | AV.agg cs => (cs.mapM (A.freezeB true (n + 1) H)).map AV.agg | e => A.freezeB true (n + 1) H e).map (AV.sh z) else none | _ => none) = _
  rw [hr]
  dsimp only
  rw [if_pos ⟨rfl, by simp⟩, List.drop_zero, List.take_of_length_le (by simp)]
  have : ((l.map eT).mapM fun (e : AV) => match e with | AV.agg cs => (cs.mapM (A.freezeB true (n + 1) H)).map AV.agg | e => A.freezeB true (n + 1) H e) = some (l.map eT) := qfj rfl fun i hi => by
    have hf : A.freezeB true (n + 2) H (l.map eT)[i] = some (l.map eT)[i] := by
      rw [List.getElem_map]
      exact qhy
    have hcs : ∃ cs, (l.map eT)[i] = .agg cs := by
      rw [List.getElem_map]
      exact ⟨_, q3c _⟩
    obtain ⟨cs, hcs⟩ := hcs
    rw [hcs] at hf ⊢
    exact hf
  rw [this]
  rfl
/-! ### a row of terms that grows, while what was there before stands -/
def OutK (K : Nat) (H0 H : Heap) (v : AV) (l : List Tm) : Prop :=
  (∀ j, j < K → H[j]? = H0[j]?) ∧ K ≤ H.length ∧ ((l = [] ∧ v = .nils) ∨ ∃ id ver, l ≠ [] ∧ v = .sl id ver 0 l.length l.length ∧ H[id]? = some (.row ver 7 26 (l.map eT)) ∧ K ≤ id)
theorem OutK.push {K : Nat} {H0 H : Heap} {v : AV} {l : List Tm} (h : OutK K H0 H v l) (x : Tm) (hm : (l.length + 1) * 112 ≤ 140737488355328) :
    ∃ v' H', A.append 7 112 26 v [eT x] (H ++ [.row 0 7 26 [eT x]]) = some (v', H') ∧ OutK K H0 H' v' (l ++ [x]) := by
  obtain ⟨h1, h2, h⟩ := h
  rcases h with ⟨rfl, rfl⟩ | ⟨id, ver, h0, rfl, h3, h4⟩
  · refine ⟨_, _, nil_append (news := [eT x]) (by simp) (by omega) (by simp), fun j hj => ?_, by simp; omega, .inr ⟨_, 0, by simp, rfl, q3j, by simp; omega⟩⟩
    rw [List.getElem?_append_left (by simp; omega), List.getElem?_append_left (by omega)]
    exact h1 j hj
  · have h5 := qbl h3 [.row 0 7 26 [eT x]]
    refine ⟨_, _, q4f (news := [eT x]) h5 (by simp) (by simp) (by omega) (by simpa using hm), fun j hj => ?_, by simp; omega, .inr ⟨id, ver + 1, by simp, by simp, ?_, h4⟩⟩
    · rw [List.getElem?_set_ne (by omega), List.getElem?_append_left (by omega)]
      exact h1 j hj
    · rw [qeb h5]
      simp
theorem qfq {K : Nat} {H0 H : Heap} {v : AV} {l : List Tm} (h : OutK K H0 H v l) : v.one = true ∧ v.cells = [v] := by
  rcases h.2.2 with ⟨-, rfl⟩ | ⟨_, _, -, rfl, -⟩ <;> exact ⟨rfl, rfl⟩
theorem outK_frz {K n : Nat} {H0 H : Heap} {v : AV} {l : List Tm} (h : OutK K H0 H v l) : A.freezeB true (n + 2) H v = some (eL 7 eT (nz l)) := by
  rcases h.2.2 with ⟨rfl, rfl⟩ | ⟨id, ver, h0, rfl, h3, -⟩
  · rfl
  · unfold nz
    rw [if_neg h0]
    exact q9v h3
/-! ### the copy -/
def rcp (t : Tm) : Prop := tame t ∧ fineT t
noncomputable def pRcopy (n : Nat) : Pol := .still (p1 cT eT (fun t => t.size ≤ n ∧ rcp t) canonT)
theorem qRcopy' {n : Nat} {R : Type} {t : Tm} (h : t.size ≤ n) (h2 : rcp t) {H : Heap} {k : AV → Heap → Option R} : polQ (pRcopy n) [eT t] H k = k (eT (canonT t)) H := by
  simp [pRcopy, q7j, h, h2]
def rc (t : Tm) (vd vl vb : AV) : List AV := [.int .i64 t.kind, .bool t.neg, vd, .str t.name, .int .i64 t.n, vl, vb]
theorem qgw {n : Nat} {t : Tm} {K : Nat} {H0 : Heap} {c1 : List AV} {vd vb : AV} (hs : t.size ≤ n + 1) (ht : rcp t) : ∀ (k i : Nat) (v : AV) (H : Heap), i + k = t.kids.length → OutK K H0 H v ((t.kids.take i).map canonT) →
    ∃ v' H', LDoes (L46_0 (polT [(46, pRcopy n)])) ⟨[.int .i64 (i : Int)], [(eT t).cells, c1, rc t vd v vb]⟩ H 0 ⟨[], [c1, rc t vd v' vb]⟩ H' ∧ OutK K H0 H' v' (t.kids.map canonT) := by
  have hln : ∀ H, A.len (eL 7 eT t.l) H = some (.int .i64 ((t.kids.length : Nat) : Int)) := fun H => q08
  have oc : A.ofList false 1 (eT t).cells 5 = some (eL 7 eT t.l) := by rw [q02]; rfl
  have hl : t.kids.length ≤ 1000 := (tame_eq.1 ht.1).1.2.2
  intro k
  induction k with
  | zero =>
    intro i v H hi hO
    have : i = t.kids.length := by omega
    subst this
    rw [List.take_length] at hO
    refine ⟨v, H, LDoes.step (Evs.of fun n m => ?_), hO⟩
    generalize (eT t).cells = ct at *
    generalize (t.kids.length : Int) = N at *
    simp [↓q00, ↓q01, -q08, q9e, oc, hln]
  | succ k ih =>
    intro i v H hi hO
    have hlt : i < t.kids.length := by omega
    have hlt' : (i : Int) < (t.kids.length : Int) := by omega
    have hmem : t.kids[i] ∈ t.kids := List.getElem_mem hlt
    have hx : A.idx 7 (eL 7 eT t.l) (.int .i64 (i : Int)) H = some (.rop (eT t.kids[i]).cells) := q4n (sz := 7) (e := eT) (o := t.l) (H := H) (k := .i64) (i := i) hlt
    have hld := q17 (t := t.kids[i]) (H := H)
    have hsz : (t.kids[i]).size ≤ n := by
      have := Tm.size_kid (t := t) (u := t.kids[i]) hmem
      omega
    have hcp : ∀ (R : Type) (H : Heap) (k : AV → Heap → Option R), polQ (pRcopy n) [eT t.kids[i]] H k = k (eT (canonT t.kids[i])) H := fun R H k => qRcopy' hsz ⟨(tame_eq.1 ht.1).2 _ hmem, (fineT_eq.1 ht.2).2 _ hmem⟩
    obtain ⟨v1, H1, happ, hO1⟩ := hO.push (canonT t.kids[i]) (by simp; omega)
    have htk : (t.kids.take i).map canonT ++ [canonT t.kids[i]] = (t.kids.take (i + 1)).map canonT := by rw [List.take_succ_eq_append_getElem hlt, List.map_append, List.map_cons, List.map_nil]
    rw [htk] at hO1
    obtain ⟨v', H', hL, hO'⟩ := ih (i + 1) v1 H1 (by omega) hO1
    obtain ⟨ho1, hc1⟩ := qfq hO1
    have hf1 : A.fits 1 v1 = true := by simp [A.fits, hc1, ho1]
    have hi1 : IntKind.wrap .i64 ((i : Int) + 1) = (i : Int) + 1 := q0o (by omega) (by omega)
    have hfe : A.fillElems 7 [.agg [.int .i64 0, .bool false, .nils, .str [], .int .i64 0, .nils, .nils]] [(0, 1, eT (canonT t.kids[i]))] = some [eT (canonT t.kids[i])] := by simp [A.fillElems, q02]
    have hrd : A.read 7 (.sl H.length 0 0 1 1) (H ++ [.row 0 7 26 [eT (canonT t.kids[i])]]) = some [eT (canonT t.kids[i])] := qg2
    have hsp1 : A.splice (rc t vd v vb) 5 [v1] = rc t vd v1 vb := rfl
    have ho5 : A.ofList false 1 (rc t vd v vb) 5 = some v := rfl
    have hrl : (rc t vd v vb).length = 7 := rfl
    simp only [Int.natCast_add, Int.natCast_one] at hL
    refine ⟨v', H', LDoes.step (Evs.withL hL (Evs.of fun n m _ h2 => ?_)), hO'⟩
    generalize (eT t).cells = ct at *
    generalize rc t vd v vb = r0 at *
    generalize rc t vd v1 vb = r1 at *
    generalize rc t vd v' vb = r2 at *
    generalize eT t.kids[i] = x at *
    generalize eT (canonT t.kids[i]) = y at *
    generalize (t.kids.length : Int) = N at *
    simp [↓q00, ↓q06, ↓q0a, ↓q09, ↓q01, ↓q0b, ↓q0i, ↓q05, -q08, q9e, oc, hln, hlt', ho5, hx, hld, hcp, hfe, q0v q1e, hrd, happ, hf1, hc1, hrl, hsp1, hi1, h2]
theorem okRcopy : ∀ n, PolOK base 46 (pRcopy n)
  | 0 => still1 base_ok [] trivial fun t ⟨hs, _⟩ => by
    have := t.size_eq
    omega
  | n + 1 => still1 base_ok [(46, pRcopy n)] ⟨okRcopy n, trivial⟩ fun t ⟨hs, ht⟩ => by
    have hf := (fineT_eq.1 ht.2).1
    have hfd := hf.1
    have hfb := hf.2.1
    unfold few at hfd
    unfold fewB at hfb
    obtain ⟨H2, hH2⟩ : ∃ H2 : Heap, H2 = nr eu 1 59 (t.d.getD []) ++ nr eb 1 5 (t.b.getD []) := ⟨_, rfl⟩
    obtain ⟨i1, hi1⟩ : ∃ i1, i1 = (nr eu 1 59 (t.d.getD [])).length := ⟨_, rfl⟩
    have r1 : A.read 1 (eD t.d) [] = some ((t.d.getD []).map eu) := qe9
    have r2 : A.read 1 (eL 1 eb t.b) (nr eu 1 59 (t.d.getD [])) = some ((t.b.getD []).map eb) := qe9
    have a1 : A.append 1 4 59 .nils ((t.d.getD []).map eu) [] = some (nv (t.d.getD []) 0, nr eu 1 59 (t.d.getD [])) := by
      have := qes (e := eu) (sz := 1) (ty := 59) (bytes := 4) (l := t.d.getD []) (by omega) (by omega) (H := [])
      simpa using this
    have a2 : A.append 1 1 5 .nils ((t.b.getD []).map eb) (nr eu 1 59 (t.d.getD [])) = some (nv (t.b.getD []) i1, H2) := by
      have := qes (e := eb) (sz := 1) (ty := 5) (bytes := 1) (l := t.b.getD []) (by omega) (by omega) (H := nr eu 1 59 (t.d.getD []))
      rw [hH2, hi1]
      exact this
    have hO0 : OutK H2.length H2 H2 .nils ((t.kids.take 0).map canonT) := ⟨fun _ _ => rfl, Nat.le_refl _, .inl ⟨by simp, rfl⟩⟩
    obtain ⟨v', H', hL, hO⟩ := qgw (c1 := [.int .i64 0, .bool false, .nils, .str [], .int .i64 0, .nils, .nils]) (vd := nv (t.d.getD []) 0) (vb := nv (t.b.getD []) i1) hs ht t.kids.length 0 .nils H2 (by omega) hO0
    obtain ⟨o1, p1, f1⟩ := nv_one (t.d.getD []) 0
    obtain ⟨o2, p2, f2⟩ := nv_one (t.b.getD []) i1
    obtain ⟨o3, p3⟩ := qfq hO
    have g1 : (t.d.getD []) ≠ [] → H'[0]? = some (.row 0 1 59 ((t.d.getD []).map eu)) := fun hne => by
      have e : nr eu 1 59 (t.d.getD []) = [.row 0 1 59 ((t.d.getD []).map eu)] := by unfold nr; rw [if_neg hne]
      have : 0 < H2.length := by rw [hH2, e]; simp
      rw [hO.1 0 this, hH2, e]
      rfl
    have g2 : (t.b.getD []) ≠ [] → H'[i1]? = some (.row 0 1 5 ((t.b.getD []).map eb)) := fun hne => by
      have e : nr eb 1 5 (t.b.getD []) = [.row 0 1 5 ((t.b.getD []).map eb)] := by unfold nr; rw [if_neg hne]
      have : i1 < H2.length := by rw [hH2, e, hi1]; simp
      rw [hO.1 i1 this, hH2, e, hi1]
      simp
    have z1 : A.freezeB true 63 H' (nv (t.d.getD []) 0) = some (eD (nz (t.d.getD []))) := nv_frz (e := eu) (m := 61) (fun x => ⟨rfl, rfl⟩) g1
    have z2 : A.freezeB true 63 H' (nv (t.b.getD []) i1) = some (eL 1 eb (nz (t.b.getD []))) := nv_frz (e := eb) (m := 61) (fun x => ⟨rfl, rfl⟩) g2
    have z3 : A.freezeB true 63 H' v' = some (eL 7 eT (nz (t.kids.map canonT))) := outK_frz (n := 61) hO
    have hfz : A.freezeB true 64 H' (.agg (rc t (nv (t.d.getD []) 0) v' (nv (t.b.getD []) i1))) = some (eT (canonT t)) := by
      show ((rc t (nv (t.d.getD []) 0) v' (nv (t.b.getD []) i1)).mapM (A.freezeB true 63 H')).map AV.agg = _
      have h0 : A.freezeB true 63 H' (.int .i64 t.kind) = some (.int .i64 t.kind) := rfl
      have h1 : A.freezeB true 63 H' (.bool t.neg) = some (.bool t.neg) := rfl
      have h3 : A.freezeB true 63 H' (.str t.name) = some (.str t.name) := rfl
      have h4 : A.freezeB true 63 H' (.int .i64 t.n) = some (.int .i64 t.n) := rfl
      have e : eT (canonT t) = .agg (rc t (eD (nz (t.d.getD []))) (eL 7 eT (nz (t.kids.map canonT))) (eL 1 eb (nz (t.b.getD [])))) := by
        rw [q0s, q3c]
        rfl
      rw [e]
      unfold rc
      simp only [List.mapM_cons, List.mapM_nil, h0, h1, z1, h3, h4, z3, z2]
      rfl
    have hft : ∀ v : AV, v.one = true → A.fits 7 (.agg (rc t (nv (t.d.getD []) 0) v (nv (t.b.getD []) i1))) = true := fun v hv => by
      show ((7 == 7) && [AV.int .i64 t.kind, .bool t.neg, nv (t.d.getD []) 0, .str t.name, .int .i64 t.n, v, nv (t.b.getD []) i1].all AV.one) = true
      simp only [List.all_cons, List.all_nil, o1, o2, hv]
      rfl
    have hft0 := hft .nils rfl
    have hft1 := hft v' o3
    have hfl : A.fill [.int .i64 0, .bool false, .nils, .str [], .int .i64 0, .nils, .nils] [(0, 1, .int .i64 t.kind), (1, 1, .bool t.neg), (3, 1, .str t.name), (4, 1, .int .i64 t.n), (2, 1, nv (t.d.getD []) 0), (6, 1, nv (t.b.getD []) i1)] = some (rc t (nv (t.d.getD []) 0) .nils (nv (t.b.getD []) i1)) := by
      simp [A.fill, A.splice, p1, p2, f1, f2, rc]
    have hspl : ∀ v, A.splice [.int .i64 0, .bool false, .nils, .str [], .int .i64 0, .nils, .nils] 0 (rc t (nv (t.d.getD []) 0) v (nv (t.b.getD []) i1)) = rc t (nv (t.d.getD []) 0) v (nv (t.b.getD []) i1) := fun v => rfl
    have hol : ∀ v, A.ofList true 7 (rc t (nv (t.d.getD []) 0) v (nv (t.b.getD []) i1)) 0 = some (.agg (rc t (nv (t.d.getD []) 0) v (nv (t.b.getD []) i1))) := fun v => rfl
    have hrl : ∀ v, (rc t (nv (t.d.getD []) 0) v (nv (t.b.getD []) i1)).length = 7 := fun v => rfl
    rw [q02] at hL
    refine Evs.withL hL (Evs.of fun n m h1 _ => ?_)
    simp only [Int.natCast_zero] at h1
    generalize nv (t.d.getD []) 0 = vd at *
    generalize nv (t.b.getD []) i1 = vb at *
    generalize nr eu 1 59 (t.d.getD []) = H1 at *
    simp [↓q0a, ↓q01, ↓q0b, ↓q0i, ↓q07, ↓q05, -q08, S46, q0v q2v, q0v ty_bytes, r1, a1, r2, a2, hfl, hft0, hspl, hrl, h1, hol, hft1, hfz]
noncomputable def q40 : Pol := .still (p1 cT eT rcp canonT)
theorem qfn : PolOK base 46 q40 := q6r (F := fun n => p1 cT eT (fun t => t.size ≤ n ∧ rcp t) canonT) okRcopy fun zs v h => by
  match zs, h with
  | [a], h =>
    simp only [p1_app, Option.bind_eq_some_iff] at h ⊢
    obtain ⟨t, ht, h⟩ := h
    split at h
    · rename_i hc
      exact ⟨t.size, t, ht, by rw [if_pos ⟨Nat.le_refl _, hc⟩]; exact h⟩
    · cases h
theorem qRcopy {R : Type} {t : Tm} (h : rcp t) {H : Heap} {k : AV → Heap → Option R} : polQ q40 [eT t] H k = k (eT (canonT t)) H := by
  simp [q40, q7j, h]
end Go.Proofs.YtleikacgncpfbaaDoor

/- The reference's tuples and lists. -/
set_option maxRecDepth 100000
set_option maxHeartbeats 4000000
namespace Go.Proofs.YtleikacgncpfbaaDoor
open Go Go.Den
theorem q6n : ∀ (n : Nat) (t : Tm), shal n t → shal n (canonT t)
  | 0, _, h => h
  | n + 1, t, h => fun u hu => by
    have e : (canonT t).kids = t.kids.map canonT := by rw [q0s]; exact q3z _
    rw [e] at hu
    obtain ⟨x, hx, rfl⟩ := List.mem_map.1 hu
    exact q6n n x (h x hx)
def partR (u : Tm) : Prop := rcp u ∧ shal 20 u
noncomputable abbrev TRtup : List (FuncId × Pol) := [(46, q40)]
theorem rtup_loop {o : Option (List Tm)} {c0 : List AV} (hall : ∀ u ∈ o.getD [], partR u) (hlen : (o.getD []).length ≤ 1000) : ∀ (k i : Nat) (v : AV) (H : Heap), i + k = (o.getD []).length → Out eT 7 26 H v (((o.getD []).take i).map canonT) →
    ∃ v' H', LDoes (L27_0 (polT TRtup)) ⟨[eL 7 eT o, .int .i64 (i : Int)], [c0, [.int .i64 4, .bool false, .nils, .str [], .int .i64 0, v, .nils]]⟩ H 0 ⟨[], [c0, [.int .i64 4, .bool false, .nils, .str [], .int .i64 0, v', .nils]]⟩ H' ∧ Out eT 7 26 H' v' ((o.getD []).map canonT) := by
  have hln : ∀ H, A.len (eL 7 eT o) H = some (.int .i64 ((o.getD []).length : Int)) := fun H => q08
  intro k
  induction k with
  | zero =>
    intro i v H hi hO
    have : i = (o.getD []).length := by omega
    subst this
    rw [List.take_length] at hO
    refine ⟨v, H, LDoes.step (Evs.of fun n m => ?_), hO⟩
    generalize ((o.getD []).length : Int) = N at *
    simp [↓q00, ↓q01, -q08, q9c, hln]
  | succ k ih =>
    intro i v H hi hO
    have hlt : i < (o.getD []).length := by omega
    have hlt' : (i : Int) < ((o.getD []).length : Int) := by omega
    have hx : A.idx 7 (eL 7 eT o) (.int .i64 (i : Int)) H = some (.rop (eT (o.getD [])[i]).cells) := q4n (sz := 7) (e := eT) (o := o) (H := H) (k := .i64) (i := i) hlt
    have hld := q17 (t := (o.getD [])[i]) (H := H)
    have hof : A.ofList true 7 (eT (o.getD [])[i]).cells 0 = some (eT (o.getD [])[i]) := q17 (H := [])
    have hfit : A.fits 7 (eT (o.getD [])[i]) = true := by simp [A.fits]
    have hcl : (eT (o.getD [])[i]).cells.length = 7 := by rw [q02]; rfl
    have hspl : A.splice [.int .i64 0, .bool false, .nils, .str [], .int .i64 0, .nils, .nils] 0 (eT (o.getD [])[i]).cells = (eT (o.getD [])[i]).cells := by rw [q02]; rfl
    have hcp : ∀ (R : Type) (H : Heap) (k : AV → Heap → Option R), polQ q40 [eT (o.getD [])[i]] H k = k (eT (canonT (o.getD [])[i])) H := fun R H k => qRcopy (hall _ (List.getElem_mem hlt)).1
    obtain ⟨v1, H1, happ, hO1⟩ := hO.push (bytes := 112) (canonT (o.getD [])[i]) (by omega) (by simp; omega)
    have ht : ((o.getD []).take i).map canonT ++ [canonT (o.getD [])[i]] = ((o.getD []).take (i + 1)).map canonT := by rw [List.take_succ_eq_append_getElem hlt, List.map_append, List.map_cons, List.map_nil]
    rw [ht] at hO1
    obtain ⟨v', H', hL, hO'⟩ := ih (i + 1) v1 H1 (by omega) hO1
    obtain ⟨ho1, hc1⟩ := out_one hO1
    have hf1 : A.fits 1 v1 = true := by simp [A.fits, hc1, ho1]
    have hi1 : IntKind.wrap .i64 ((i : Int) + 1) = (i : Int) + 1 := q0o (by omega) (by omega)
    have hfe : A.fillElems 7 [.agg [.int .i64 0, .bool false, .nils, .str [], .int .i64 0, .nils, .nils]] [(0, 1, eT (canonT (o.getD [])[i]))] = some [eT (canonT (o.getD [])[i])] := by simp [A.fillElems, q02]
    have hrd : A.read 7 (.sl H.length 0 0 1 1) (H ++ [.row 0 7 26 [eT (canonT (o.getD [])[i])]]) = some [eT (canonT (o.getD [])[i])] := qg2
    have hsp1 : A.splice [.int .i64 4, .bool false, .nils, .str [], .int .i64 0, v, .nils] 5 [v1] = [.int .i64 4, .bool false, .nils, .str [], .int .i64 0, v1, .nils] := rfl
    have ho5 : A.ofList false 1 [.int .i64 4, .bool false, .nils, .str [], .int .i64 0, v, .nils] 5 = some v := rfl
    simp only [Int.natCast_add, Int.natCast_one] at hL
    refine ⟨v', H', LDoes.step (Evs.withL hL (Evs.of fun n m _ h2 => ?_)), hO'⟩
    generalize eT (o.getD [])[i] = x at *
    generalize eT (canonT (o.getD [])[i]) = y at *
    generalize ((o.getD []).length : Int) = N at *
    simp [↓q00, ↓q06, ↓q0a, ↓q09, ↓q01, ↓q0b, ↓q0i, ↓q05, -q08, q9c, hln, hlt', hx, hld, hcp, hfe, q0v q1e, hrd, happ, hf1, hc1, hsp1, hi1, h2]
def allR (o : Option (List Tm)) : Prop := (∀ u ∈ o.getD [], partR u) ∧ (o.getD []).length ≤ 1000
noncomputable def pRtup : Pol := .still (p1 cTs eT allR fun o => tupT ((o.getD []).map canonT))
theorem okRtup : PolOK base 27 pRtup := still1 base_ok TRtup ⟨qfn, trivial⟩ fun o ⟨hall, hlen⟩ => by
  obtain ⟨v, H', hL, hO⟩ := rtup_loop (c0 := [.int .i64 0, .bool false, .nils, .str [], .int .i64 0, .nils, .nils]) hall hlen (o.getD []).length 0 .nils [] (by omega) (by rw [List.take_zero]; exact .nil)
  have hln : A.len (eL 7 eT o) [] = some (.int .i64 ((o.getD []).length : Int)) := q08
  have hsh : shal 63 (tupT ((o.getD []).map canonT)) := fun u hu => by
    rw [q1a] at hu
    obtain ⟨x, hx, rfl⟩ := List.mem_map.1 hu
    exact qed (n := 20) (m := 62) (by decide) (q6n 20 x (hall x hx).2)
  have hfz : A.freezeB true 64 H' (.agg [.int .i64 4, .bool false, .nils, .str [], .int .i64 0, v, .nils]) = some (eT (tupT ((o.getD []).map canonT))) := q8q 63 _ _ hsh (out_rd hO)
  obtain ⟨ho, -⟩ := out_one hO
  have hft := qg5 v ho 4
  refine Evs.withL hL (Evs.of fun n m h1 _ => ?_)
  simp only [Int.natCast_zero] at h1
  have hf0 : A.fits 7 (.agg [.int .i64 4, .bool false, .nils, .str [], .int .i64 0, .nils, .nils]) = true := rfl
  generalize ((o.getD []).length : Int) = N at *
  simp [↓q0a, ↓q01, ↓q07, ↓q05, -q08, S27, A.fill, A.splice, hf0, h1, A.ofList, hft, hfz]
noncomputable def pRnil : Pol := .still (Cd.f0 (eT (listT [])))
theorem okRnil : PolOK base 61 pRnil := q7m base_ok [] trivial fun zs v h => by
  unfold Cd.f0 at h
  split at h
  · cases h
    refine Evs.of fun n m => ?_
    have e : eT (listT []) = .agg [.int .i64 5, .bool false, .nils, .str [], .int .i64 0, .nils, .nils] := by rw [q3c]; rfl
    have hf0 : A.fits 7 (.agg [.int .i64 5, .bool false, .nils, .str [], .int .i64 0, .nils, .nils]) = true := rfl
    rw [e]
    simp [↓q0a, ↓q01, ↓q05, S61, A.fill, A.splice, hf0, A.ofList]
    rfl
  · cases h
theorem kRnil {R : Type} {H : Heap} {k : AV → Heap → Option R} : polK pRnil [] H k = k (eT (listT [])) H := by
  unfold pRnil
  rw [q0c (by simp)]
  rfl
noncomputable abbrev TRlst : List (FuncId × Pol) := [(61, pRnil), (46, q40)]
theorem rlst_loop {o : Option (List Tm)} {c0 : List AV} (hall : ∀ u ∈ o.getD [], partR u) (hlen : (o.getD []).length ≤ 1000) : ∀ (j : Nat) (z : Int) (w : AV) (H : Heap), z = (j : Int) - 1 → j ≤ (o.getD []).length → Rd H w (listT (((o.getD []).drop j).map canonT)) →
    ∃ w' H', LDoes (L28_0 (polT TRlst)) ⟨[eL 7 eT o, .int .i64 z], [c0, w.cells]⟩ H 0 ⟨[], [c0, w'.cells]⟩ H' ∧ Rd H' w' (listT ((o.getD []).map canonT)) := by
  intro j
  induction j with
  | zero =>
    intro z w H hz hj hR
    rw [List.drop_zero] at hR
    have hz' : ¬ 0 ≤ z := by omega
    refine ⟨w, H, LDoes.step (Evs.of fun n m => ?_), hR⟩
    generalize w.cells = wc at *
    simp [↓q00, ↓q01, q9d, hz']
  | succ j ih =>
    intro z w H hz hj hR
    have hz' : 0 ≤ z := by omega
    have hlt : j < (o.getD []).length := by omega
    have hx : A.idx 7 (eL 7 eT o) (.int .i64 z) H = some (.rop (eT (o.getD [])[j]).cells) := by
      have : z = (j : Int) := by omega
      rw [this]
      exact q4n (sz := 7) (e := eT) (o := o) (H := H) (k := .i64) (i := j) hlt
    have hld := q17 (t := (o.getD [])[j]) (H := H)
    have hcp : ∀ (R : Type) (H : Heap) (k : AV → Heap → Option R), polQ q40 [eT (o.getD [])[j]] H k = k (eT (canonT (o.getD [])[j])) H := fun R H k => qRcopy (hall _ (List.getElem_mem hlt)).1
    obtain ⟨v1, v2, v3, v4, v5⟩ := qft hR
    have hfe : A.fillElems 7 [.agg [.int .i64 0, .bool false, .nils, .str [], .int .i64 0, .nils, .nils], .agg [.int .i64 0, .bool false, .nils, .str [], .int .i64 0, .nils, .nils]] [(0, 1, eT (canonT (o.getD [])[j])), (1, 1, w)] = some [eT (canonT (o.getD [])[j]), w] := by
      have x1 : (eT (canonT (o.getD [])[j])).cells.length = 7 := by rw [q02]; rfl
      have x2 : (eT (canonT (o.getD [])[j])).isDef = true := qay
      simp [-q02, A.fillElems, x1, x2, v1, v4]
    have hR' : Rd (H ++ [.row 0 7 26 [eT (canonT (o.getD [])[j]), w]]) (op (listT (((o.getD []).drop j).map canonT)) (.sl H.length 0 0 2 2)) (listT (((o.getD []).drop j).map canonT)) := by
      rw [List.drop_eq_getElem_cons hlt, List.map_cons]
      refine .own _ [canonT (o.getD [])[j], listT (((o.getD []).drop (j + 1)).map canonT)] H.length 0 2 [eT (canonT (o.getD [])[j]), w] rfl (by simp) rfl fun i hi => ?_
      match i, hi with
      | 0, _ => exact .imm _
      | 1, _ => exact rd_push hR
    have hop : op (listT (((o.getD []).drop j).map canonT)) (.sl H.length 0 0 2 2) = .agg [.int .i64 6, .bool false, .nils, .str [], .int .i64 0, .sl H.length 0 0 2 2, .nils] := by
      rw [List.drop_eq_getElem_cons hlt, List.map_cons]
      rfl
    rw [hop] at hR'
    obtain ⟨w', H', hL, hR2⟩ := ih (z - 1) _ _ (by omega) (by omega) hR'
    have hcc : (AV.agg [.int .i64 6, .bool false, .nils, .str [], .int .i64 0, .sl H.length 0 0 2 2, .nils]).cells = [.int .i64 6, .bool false, .nils, .str [], .int .i64 0, .sl H.length 0 0 2 2, .nils] := rfl
    rw [hcc] at hL
    have hi1 : IntKind.wrap .i64 (z - 1) = z - 1 := q0o (by omega) (by omega)
    have hft := qg5 (.sl H.length 0 0 2 2) rfl 6
    refine ⟨w', H', LDoes.step (Evs.withL hL (Evs.of fun n m _ h2 => ?_)), hR2⟩
    generalize eT (o.getD [])[j] = x at *
    generalize eT (canonT (o.getD [])[j]) = y at *
    have hsp : A.splice w.cells 0 [.int .i64 6, .bool false, .nils, .str [], .int .i64 0, .sl H.length 0 0 2 2, .nils] = [.int .i64 6, .bool false, .nils, .str [], .int .i64 0, .sl H.length 0 0 2 2, .nils] := by
      unfold A.splice
      rw [List.take_zero, List.drop_of_length_le (by simp [v1])]
      simp
    have hfl : A.fill [.int .i64 0, .bool false, .nils, .str [], .int .i64 0, .nils, .nils] [(0, 1, .int .i64 6), (5, 1, .sl H.length 0 0 2 2)] = some [.int .i64 6, .bool false, .nils, .str [], .int .i64 0, .sl H.length 0 0 2 2, .nils] := by simp [A.fill, A.splice]
    simp [↓q00, ↓q06, ↓q0a, ↓q09, ↓q01, ↓q0b, ↓q05, q9d, hz', hx, hld, hcp, v3, hfe, hfl, hft, v1, hsp, hi1, h2]
def allRL (o : Option (List Tm)) : Prop := (∀ u ∈ o.getD [], partR u) ∧ (o.getD []).length ≤ 40
noncomputable def pRlist : Pol := .still (p1 cTs eT allRL fun o => listT ((o.getD []).map canonT))
theorem okRlist : PolOK base 28 pRlist := still1 base_ok TRlst ⟨okRnil, qfn, trivial⟩ fun o ⟨hall, hlen⟩ => by
  obtain ⟨w, H', hL, hR⟩ := rlst_loop (c0 := [.int .i64 0, .bool false, .nils, .str [], .int .i64 0, .nils, .nils]) hall (by omega) (o.getD []).length (((o.getD []).length : Int) - 1) (eT (listT [])) [] rfl (Nat.le_refl _) (by rw [List.drop_length]; exact .imm _)
  have hln : A.len (eL 7 eT o) [] = some (.int .i64 ((o.getD []).length : Int)) := q08
  have hw1 : IntKind.wrap .i64 (((o.getD []).length : Int) - 1) = ((o.getD []).length : Int) - 1 := q0o (by omega) (by omega)
  have hsh : shal 63 (listT ((o.getD []).map canonT)) := qed (n := ((o.getD []).map canonT).length + 21) (m := 63) (by simp; omega) (qd7 _ fun u hu => by
    obtain ⟨x, hx, rfl⟩ := List.mem_map.1 hu
    exact q6n 20 x (hall x hx).2)
  obtain ⟨v1, v2, v3, v4, v5⟩ := qft hR
  have hfz := q8q 63 _ _ hsh hR
  have hcl : (eT (listT [])).cells = [.int .i64 5, .bool false, .nils, .str [], .int .i64 0, .nils, .nils] := by rw [q02]; rfl
  have e0 : eT (listT []) = .agg [.int .i64 5, .bool false, .nils, .str [], .int .i64 0, .nils, .nils] := by rw [q3c]; rfl
  have hf0 : A.fits 7 (.agg [.int .i64 5, .bool false, .nils, .str [], .int .i64 0, .nils, .nils]) = true := rfl
  have hn : ∀ (R : Type) (H : Heap) (k : AV → Heap → Option R), polK pRnil [] H k = k (.agg [.int .i64 5, .bool false, .nils, .str [], .int .i64 0, .nils, .nils]) H := fun R H k => by rw [kRnil, e0]
  rw [hcl] at hL
  refine Evs.withL hL (Evs.of fun n m h1 _ => ?_)
  have hsp : A.splice [.int .i64 0, .bool false, .nils, .str [], .int .i64 0, .nils, .nils] 0 [.int .i64 5, .bool false, .nils, .str [], .int .i64 0, .nils, .nils] = [.int .i64 5, .bool false, .nils, .str [], .int .i64 0, .nils, .nils] := rfl
  generalize ((o.getD []).length : Int) = N at *
  simp [↓q0a, ↓q01, ↓q07, ↓q05, -q08, S28, hn, hf0, hsp, hln, hw1, h1, v3, v2, v1, v5, hfz]
end Go.Proofs.YtleikacgncpfbaaDoor

/- Any two terms: which is less. What is compared; that it is an order. -/
set_option maxRecDepth 100000
set_option maxHeartbeats 4000000
namespace Go.Proofs.YtleikacgncpfbaaDoor
open Go Go.Den Go.Lib
noncomputable def oneT (a b : Tm) : Int :=
  if a.kind ≠ b.kind then ordI a.kind b.kind
  else if a.kind = 0 then cmpI (toI (a.neg, a.d)) (toI (b.neg, b.d))
  else if a.kind = 1 then lessR a.name b.name
  else if a.kind = 2 ∨ a.kind = 3 then ordI a.n b.n
  else if a.kind = 4 ∨ a.kind = 6 then ordI (a.kids.length : Int) (b.kids.length : Int)
  else if a.kind = 7 then lexR (nums (a.b.getD [])) (nums (b.b.getD []))
  else 0
mutual
noncomputable def cmpT : Tm → Tm → Int
  | .mk k x d s n l b, u => if oneT (.mk k x d s n l b) u ≠ 0 then oneT (.mk k x d s n l b) u else if k = 4 ∨ k = 6 then cmpTo l u.kids else 0
noncomputable def cmpTo : Option (List Tm) → List Tm → Int
  | none, _ => 0
  | some l, m => cmpTs l m
noncomputable def cmpTs : List Tm → List Tm → Int
  | [], _ => 0
  | t :: l, m => match m with
    | [] => 0
    | u :: m => if cmpT t u ≠ 0 then cmpT t u else cmpTs l m
end
theorem qhg (o : Option (List Tm)) (m : List Tm) : cmpTo o m = cmpTs (o.getD []) m := by
  cases o with
  | none => simp [cmpTo, cmpTs]
  | some l => rw [cmpTo]; rfl
theorem q2k (a b : Tm) : cmpT a b = if oneT a b ≠ 0 then oneT a b else if a.kind = 4 ∨ a.kind = 6 then cmpTs a.kids b.kids else 0 := by
  cases a
  rw [cmpT, qhg]
  rfl
theorem q31 (m : List Tm) : cmpTs [] m = 0 := by rw [cmpTs]
theorem q2h (l : List Tm) : cmpTs l [] = 0 := by cases l <;> rw [cmpTs]
theorem q15 (t u : Tm) (l m : List Tm) : cmpTs (t :: l) (u :: m) = if cmpT t u ≠ 0 then cmpT t u else cmpTs l m := by rw [cmpTs]
theorem qbe (x y : Int) : ordI y x = -ordI x y := qc1 x y
theorem ord_zero {x y : Int} : ordI x y = 0 ↔ x = y := cmpI_eq
theorem q2u (x : Int) : ordI x x = 0 := ord_zero.2 rfl
theorem one_anti (a b : Tm) : oneT b a = -oneT a b := by
  unfold oneT
  by_cases h : a.kind = b.kind
  · have n1 : ¬ b.kind ≠ a.kind := fun g => g h.symm
    have n2 : ¬ a.kind ≠ b.kind := fun g => g h
    rw [if_neg n1, if_neg n2, ← h]
    split
    · exact qc1 _ _
    split
    · exact qix _ _
    split
    · exact qbe _ _
    split
    · exact qbe _ _
    split
    · exact q7f _ _
    · rfl
  · rw [if_pos (fun e => h e.symm), if_pos h]
    exact qbe _ _
theorem q7i {a b : Tm} (h : oneT a b = 0) : a.kind = b.kind := by
  apply Classical.byContradiction
  intro hn
  unfold oneT at h
  rw [if_pos hn] at h
  exact hn (ord_zero.1 h)
theorem one_len {a b : Tm} (h : oneT a b = 0) (hk : a.kind = 4 ∨ a.kind = 6) : a.kids.length = b.kids.length := by
  have e := q7i h
  unfold oneT at h
  have n1 : ¬ a.kind ≠ b.kind := fun g => g e
  have n2 : ¬ a.kind = 0 := by omega
  have n3 : ¬ a.kind = 1 := by omega
  have n4 : ¬ (a.kind = 2 ∨ a.kind = 3) := by omega
  rw [if_neg n1, if_neg n2, if_neg n3, if_neg n4, if_pos hk] at h
  have := ord_zero.1 h
  omega
mutual
theorem q7c : ∀ a b : Tm, cmpT b a = -cmpT a b
  | .mk k x d s n l b, u => by
    have e := one_anti (.mk k x d s n l b) u
    rw [q2k u, q2k _ u]
    by_cases h : oneT (.mk k x d s n l b) u = 0
    · have hk := q7i h
      have n1 : ¬ oneT u (.mk k x d s n l b) ≠ 0 := fun g => g (by omega)
      have n2 : ¬ oneT (.mk k x d s n l b) u ≠ 0 := fun g => g h
      rw [if_neg n1, if_neg n2, ← hk]
      split
      · cases l with
        | none =>
          show cmpTs u.kids [] = -cmpTs [] u.kids
          rw [q31, q2h]
          rfl
        | some l => exact qc6 l u.kids
      · rfl
    · rw [if_pos (by omega), if_pos h]
      exact e
theorem qc6 : ∀ l m : List Tm, cmpTs m l = -cmpTs l m
  | [], m => by rw [q31, q2h]; rfl
  | t :: l, [] => by rw [q31, q2h]; rfl
  | t :: l, u :: m => by
    have h1 := q7c t u
    have h2 := qc6 l m
    rw [q15, q15]
    split <;> split <;> omega
end
theorem cmp_self (a : Tm) : cmpT a a = 0 := by
  have := q7c a a
  omega
end Go.Proofs.YtleikacgncpfbaaDoor

/- Numbers of any size: which is less, by the reference. -/
set_option maxRecDepth 100000
set_option maxHeartbeats 4000000
namespace Go.Proofs.YtleikacgncpfbaaDoor
open Go Go.Den
noncomputable def pOrder : Pol := .still (p2 (cI .i64) (cI .i64) (.int .i64) (fun _ _ => True) cmpI)
noncomputable abbrev TMags : List (FuncId × Pol) := [(64, pOrder)]
noncomputable def pMags : Pol := .still (p2 cD cD (.int .i64) (fun a b => few a ∧ few b) sizeS)
noncomputable def pRcmp : Pol := .still (p2 cN cN (.int .i64) (fun a b => few a.2 ∧ few b.2) (fun a b => cmpI (toI a) (toI b)))
end Go.Proofs.YtleikacgncpfbaaDoor

/- Any two terms: which is less, by the reference. -/
set_option maxRecDepth 100000
set_option maxHeartbeats 8000000
namespace Go.Proofs.YtleikacgncpfbaaDoor
open Go Go.Den Go.Lib
def okROne (t : Tm) : Prop := few t.d ∧ q1o t.name ∧ (t.b.getD []).length ≤ 1000000 ∧ t.kids.length ≤ 1000
def okR (t : Tm) : Prop := evT okROne t
theorem okR_eq {t : Tm} : okR t ↔ okROne t ∧ ∀ u ∈ t.kids, okR u := qf0
noncomputable def pRcom (n : Nat) : Pol := .still (p2 cT cT (.int .i64) (fun a b => a.size ≤ n ∧ okR a ∧ okR b) cmpT)
noncomputable abbrev TRcom (n : Nat) : List (FuncId × Pol) := [(26, pRcom n), (64, pOrd), (65, pRcmp), (66, pRless), (67, pByw)]
noncomputable def pRcomA : Pol := .still (p2 cT cT (.int .i64) (fun a b => okR a ∧ okR b) cmpT)
end Go.Proofs.YtleikacgncpfbaaDoor

/- Any two terms: which is less, but for what is in them; of each kind. -/
set_option maxRecDepth 100000
set_option maxHeartbeats 4000000
namespace Go.Proofs.YtleikacgncpfbaaDoor
open Go Go.Den Go.Lib
/-! ### a pair of terms -/
def eP (p : Tm × Tm) : AV := .agg ((eT p.1).cells ++ (eT p.2).cells)
theorem q0w (p : Tm × Tm) : (eP p).cells = [.int .i64 p.1.kind, .bool p.1.neg, eD p.1.d, .str p.1.name, .int .i64 p.1.n, eL 7 eT p.1.l, eL 1 eb p.1.b, .int .i64 p.2.kind, .bool p.2.neg, eD p.2.d, .str p.2.name, .int .i64 p.2.n, eL 7 eT p.2.l, eL 1 eb p.2.b] := by
  unfold eP
  rw [q02, q02]
  rfl
theorem q7e (t : Tm) : eT t = .agg (eT t).cells := by rw [q02, q3c]
theorem eP_inj (p q : Tm × Tm) (h : eP p = eP q) : p = q := by
  unfold eP at h
  injection h with h
  have l1 : (eT p.1).cells.length = 7 := by rw [q02]; rfl
  have l2 : (eT q.1).cells.length = 7 := by rw [q02]; rfl
  obtain ⟨h1, h2⟩ := List.append_inj h (by rw [l1, l2])
  have a1 : p.1 = q.1 := qc9 _ _ (by rw [q7e p.1, q7e q.1, h1])
  have a2 : p.2 = q.2 := qc9 _ _ (by rw [q7e p.2, q7e q.2, h2])
  exact Prod.ext a1 a2
theorem qhk (p : Tm × Tm) : eP p = .agg [.int .i64 p.1.kind, .bool p.1.neg, eD p.1.d, .str p.1.name, .int .i64 p.1.n, eL 7 eT p.1.l, eL 1 eb p.1.b, .int .i64 p.2.kind, .bool p.2.neg, eD p.2.d, .str p.2.name, .int .i64 p.2.n, eL 7 eT p.2.l, eL 1 eb p.2.b] := by
  have := q0w p
  unfold eP at this ⊢
  exact congrArg AV.agg this
def cP : Cd (Tm × Tm) := ⟨eP, eP_inj, fun p => by rw [qhk]; simp⟩
@[simp] theorem enc_cP {a : Tm × Tm} : cP.enc a = eP a := id rfl
@[simp] theorem dec_cP {a : Tm × Tm} : cP.dec (eP a) = some a := cP.dec_enc a
@[simp] theorem imm_eP {p : Tm × Tm} : (eP p).imm = true := by rw [qhk]; simp
@[simp] theorem isDef_eP {p : Tm × Tm} : (eP p).isDef = true := by rw [qhk]; rfl
theorem q4o {p : Tm × Tm} : (eP p).cells.length = 14 := by rw [q0w]; rfl
theorem qjd {p : Tm × Tm} : A.ofList true 7 (eP p).cells 0 = some (eT p.1) := by rw [q0w, q3c]; rfl
theorem of_eP2 {p : Tm × Tm} : A.ofList true 7 (eP p).cells 7 = some (eT p.2) := by rw [q0w, q3c]; rfl
theorem of_eP {p : Tm × Tm} : A.ofList true 14 (eP p).cells 0 = some (eP p) := by rw [q0w, qhk]; rfl
theorem q2o {p : Tm × Tm} {o : Nat} {v : AV} (h : (eP p).cells[o]? = some v) (h2 : v.one = true) : A.ofList false 1 (eP p).cells o = some v := by
  simp [A.ofList, h]
theorem qhr {a b : Tm} : (A.fill [(AV.int .i64 0), (AV.bool false), AV.nils, (AV.str []), (AV.int .i64 0), AV.nils, AV.nils, (AV.int .i64 0), (AV.bool false), AV.nils, (AV.str []), (AV.int .i64 0), AV.nils, AV.nils] [(0, 7, eT a), (7, 7, eT b)]).map .agg = some (eP (a, b)) := by
  rw [qhk]
  simp [A.fill, A.splice]
/-! ### a kind -/
theorem qjf : PolOK base 63 (.still (p1 cT (.int .i64) (fun t => 0 ≤ t.kind ∧ t.kind ≤ 7) Tm.kind)) := still1 base_ok [] trivial fun t ⟨h1, h2⟩ => by
  have hB : Go.Den.Box [.row 0 7 26 [eT t]] 0 7 26 (eT t).cells := q6w t _ 0 rfl
  have p := fun o => hB.fa (o := o)
  have q := fun o => hB.load (o := o)
  rw [q02] at q
  have q0 := q 0
  simp only [List.getElem?_cons_zero] at q0
  have hcl : (eT t).cells.length = 7 := by rw [q02]; rfl
  have n1 : ¬ t.kind < 0 := by omega
  have n2 : ¬ (7 : Int) < t.kind := by omega
  exact Evs.of fun n m => by simp [-q08, -q02, S63, hcl, p, q0, n1, n2]
noncomputable def pOkind : Pol := .still (p1 cT (.int .i64) (fun t => 0 ≤ t.kind ∧ t.kind ≤ 7) Tm.kind)
theorem kOkind {R : Type} {t : Tm} (h1 : 0 ≤ t.kind) (h2 : t.kind ≤ 7) {H : Heap} {k : AV → Heap → Option R} : polK pOkind [eT t] H k = k (.int .i64 t.kind) H := by
  simp [pOkind, q0c, h1, h2]
noncomputable def pInts : Pol := .still (p1 cP (.int .i64) (fun p => p.1.kind = 0 ∧ p.2.kind = 0 ∧ few p.1.d ∧ few p.2.d) fun p => cmpI (toI (p.1.neg, p.1.d)) (toI (p.2.neg, p.2.d)))
theorem okInts : PolOK base 86 pInts := still1 base_ok [(32, pTof), (94, q5r)] ⟨okTof, qje, trivial⟩ fun p ⟨h1, h2, h3, h4⟩ => by
  have g1 : ∀ (R : Type) (H : Heap) (k : AV → Heap → Option R), polK pTof [eT p.1] H k = k (.tup [eN (normS (p.1.neg, p.1.d)), .bool true]) H := fun R H k => by
    rw [kTof h3]; unfold numOf; rw [if_pos h1]
  have g2 : ∀ (R : Type) (H : Heap) (k : AV → Heap → Option R), polK pTof [eT p.2] H k = k (.tup [eN (normS (p.2.neg, p.2.d)), .bool true]) H := fun R H k => by
    rw [kTof h4]; unfold numOf; rw [if_pos h2]
  have f : ∀ a : Nm, few a.2 → few (normS a).2 := fun a ha => by
    have e := q7l a
    unfold few at ha ⊢
    have e2 : (normS a).2.getD [] = lim (toI a).natAbs := e.2
    have e3 : (toI a).natAbs = val (a.2.getD []) := by
      show (sgn a.1 (mag a)).natAbs = _
      unfold sgn mag
      split <;> omega
    have := q2i (a.2.getD [])
    rw [e2, e3]
    omega
  have f1 := f (p.1.neg, p.1.d) h3
  have f2 := f (p.2.neg, p.2.d) h4
  have g3 : ∀ (R : Type) (H : Heap) (k : AV → Heap → Option R), polK q5r [eN (normS (p.1.neg, p.1.d)), eN (normS (p.2.neg, p.2.d))] H k = k (.int .i64 (cmpI (toI (p.1.neg, p.1.d)) (toI (p.2.neg, p.2.d)))) H := fun R H k => by
    rw [kCompare f1 f2, qgf, q4i, q4i]
  have e1 : ∀ a : Nm, A.fits 2 (eN a) = true ∧ A.splice [(AV.bool false), AV.nils] 0 (eN a).cells = (eN a).cells ∧ (eN a).cells.length = 2 ∧ A.ofList true 2 (eN a).cells 0 = some (eN a) := fun a => by
    refine ⟨by simp [A.fits], by simp [A.splice], by simp, by simp [A.ofList]⟩
  obtain ⟨a1, a2, a3, a4⟩ := e1 (normS (p.1.neg, p.1.d))
  obtain ⟨b1, b2, b3, b4⟩ := e1 (normS (p.2.neg, p.2.d))
  have o1 := qjd (p := p)
  have o2 := of_eP2 (p := p)
  have hl := q4o (p := p)
  generalize eN (normS (p.1.neg, p.1.d)) = N at *
  generalize eN (normS (p.2.neg, p.2.d)) = M at *
  exact Evs.of fun n m => by simp [↓q0a, ↓q01, ↓q05, S86, hl, o1, o2, g1, g2, g3, a1, a2, a3, a4, b1, b2, b3, b4]
theorem kInts {R : Type} {p : Tm × Tm} (h1 : p.1.kind = 0) (h2 : p.2.kind = 0) (h3 : few p.1.d) (h4 : few p.2.d) {H : Heap} {k : AV → Heap → Option R} : polK pInts [eP p] H k = k (.int .i64 (cmpI (toI (p.1.neg, p.1.d)) (toI (p.2.neg, p.2.d)))) H := by
  simp [pInts, q0c, h1, h2, h3, h4]
noncomputable def pAtoms : Pol := .still (p1 cP (.int .i64) (fun _ => True) fun p => lessR p.1.name p.2.name)
theorem okAtoms : PolOK base 87 pAtoms := still1 base_ok [(101, pLess)] ⟨okLess, trivial⟩ fun p _ => by
  have hl := q4o (p := p)
  have o1 : A.ofList false 1 (eP p).cells 3 = some (.str p.1.name) := q2o (by rw [q0w]; rfl) rfl
  have o2 : A.ofList false 1 (eP p).cells 10 = some (.str p.2.name) := q2o (by rw [q0w]; rfl) rfl
  exact Evs.of fun n m => by simp [↓q0a, ↓q01, ↓q05, S87, hl, o1, o2, kLess]
theorem kAtoms {R : Type} {p : Tm × Tm} {H : Heap} {k : AV → Heap → Option R} : polK pAtoms [eP p] H k = k (.int .i64 (lessR p.1.name p.2.name)) H := by
  simp [pAtoms, q0c]
noncomputable def pNums : Pol := .still (p1 cP (.int .i64) (fun _ => True) fun p => ordI p.1.n p.2.n)
theorem okNums : PolOK base 88 pNums := still1 base_ok [(85, pCmpI)] ⟨okCmpI, trivial⟩ fun p _ => by
  have hl := q4o (p := p)
  have o1 : A.ofList false 1 (eP p).cells 4 = some (.int .i64 p.1.n) := q2o (by rw [q0w]; rfl) rfl
  have o2 : A.ofList false 1 (eP p).cells 11 = some (.int .i64 p.2.n) := q2o (by rw [q0w]; rfl) rfl
  exact Evs.of fun n m => by simp [↓q0a, ↓q01, ↓q05, S88, hl, o1, o2, kCmpI]
theorem kNums {R : Type} {p : Tm × Tm} {H : Heap} {k : AV → Heap → Option R} : polK pNums [eP p] H k = k (.int .i64 (ordI p.1.n p.2.n)) H := by
  simp [pNums, q0c]
noncomputable def qbf : Pol := .still (p1 cP (.int .i64) (fun _ => True) fun p => ordI (p.1.kids.length : Int) (p.2.kids.length : Int))
theorem okTuples : PolOK base 89 qbf := still1 base_ok [(85, pCmpI)] ⟨okCmpI, trivial⟩ fun p _ => by
  have hl := q4o (p := p)
  have o1 : A.ofList false 1 (eP p).cells 5 = some (eL 7 eT p.1.l) := q2o (by rw [q0w]; rfl) (by cases p.1.l <;> rfl)
  have o2 : A.ofList false 1 (eP p).cells 12 = some (eL 7 eT p.2.l) := q2o (by rw [q0w]; rfl) (by cases p.2.l <;> rfl)
  have l1 : A.len (eL 7 eT p.1.l) [] = some (.int .i64 ((p.1.kids.length : Nat) : Int)) := q08
  have l2 : A.len (eL 7 eT p.2.l) [] = some (.int .i64 ((p.2.kids.length : Nat) : Int)) := q08
  generalize (p.1.kids.length : Int) = N at *
  generalize (p.2.kids.length : Int) = M at *
  generalize eL 7 eT p.1.l = v1 at *
  generalize eL 7 eT p.2.l = v2 at *
  exact Evs.of fun n m => by simp [↓q0a, ↓q01, ↓q05, S89, hl, o1, o2, l1, l2, kCmpI]
theorem qi5 {R : Type} {p : Tm × Tm} {H : Heap} {k : AV → Heap → Option R} : polK qbf [eP p] H k = k (.int .i64 (ordI (p.1.kids.length : Int) (p.2.kids.length : Int))) H := by
  simp [qbf, q0c]
noncomputable def pNils : Pol := .still (p1 cP (.int .i64) (fun _ => True) fun _ => 0)
theorem okNils : PolOK base 90 pNils := still1 base_ok [] trivial fun p _ => by
  have hl := q4o (p := p)
  exact Evs.of fun n m => by simp [↓q0a, ↓q05, S90, hl]
theorem kNils {R : Type} {p : Tm × Tm} {H : Heap} {k : AV → Heap → Option R} : polK pNils [eP p] H k = k (.int .i64 0) H := by
  simp [pNils, q0c]
/-! ### bytes -/
theorem q83 : ∀ a b : List UInt8, Lib.compareBytes a b = lexR (nums a) (nums b)
  | [], [] => rfl
  | [], _ :: _ => rfl
  | _ :: _, [] => rfl
  | x :: a, y :: b => by
    unfold Lib.compareBytes nums
    simp only [List.map_cons]
    unfold lexR
    have ih := q83 a b
    unfold nums at ih
    simp only [UInt8.lt_iff_toNat_lt, ih]
theorem okBcmp0 : PolOK base 110 (.prim q1x) := q6y (fn := Tryd.f110) Tryd.func110 (by kernel_rfl) (by kernel_rfl) (by kernel_rfl) (by kernel_rfl)
theorem q9h : ∀ l : List UInt8, q27 (l.map eb) = some (l.map fun b => (b.toNat : Int))
  | [] => rfl
  | x :: l => by simp only [List.map_cons, q27, q9h l]
theorem qg8 {o : Option (List UInt8)} {H : Heap} : q4t (eL 1 eb o) H = some (o.getD []) := by
  have hr : A.read 1 (eL 1 eb o) H = some ((o.getD []).map eb) := qe9
  have : ∀ l : List UInt8, (l.map fun b => (b.toNat : Int)).map Go.Den.byteOf = l := fun l => by
    induction l with
    | nil => rfl
    | cons x l ih =>
      simp only [List.map_cons, ih]
      congr 1
      simp [Go.Den.byteOf]
  cases o with
  | none => rfl
  | some l =>
    unfold q4t
    show (match A.read 1 (eL 1 eb (some l)) H with | some es => _ | none => none) = _
    rw [hr]
    simp only [q9h, this]
    rfl
noncomputable def pBcmp : Pol := .still (p2 cBy cBy (.int .i64) (fun _ _ => True) fun a b => lexR (nums (a.getD [])) (nums (b.getD [])))
theorem okBcmp : PolOK base 102 pBcmp := still2 base_ok [(110, .prim q1x)] ⟨okBcmp0, trivial⟩ fun a b _ => by
  have h : ∀ (R : Type) (H : Heap) (k : AV → Heap → Option R), polK (.prim q1x) [eL 1 eb a, eL 1 eb b] H k = k (.int .i64 (lexR (nums (a.getD [])) (nums (b.getD [])))) H := fun R H k => by
    show withP (q1x _ H) k = _
    unfold q1x
    simp only [qg8, q83]
    rfl
  exact Evs.of fun n m => by simp [S102, h]
theorem kBcmp {R : Type} {a b : Option (List UInt8)} {H : Heap} {k : AV → Heap → Option R} : polK pBcmp [eL 1 eb a, eL 1 eb b] H k = k (.int .i64 (lexR (nums (a.getD [])) (nums (b.getD [])))) H := by
  have i1 : (eL 1 eb a).imm = true := by cases a <;> simp
  have i2 : (eL 1 eb b).imm = true := by cases b <;> simp
  have h := q0c (R := R) (F := p2 cBy cBy (.int .i64) (fun _ _ => True) fun a b => lexR (nums (a.getD [])) (nums (b.getD []))) (args := [eL 1 eb a, eL 1 eb b]) (H := H) (k := k) (by simp [i1, i2])
  show polK (.still _) _ H k = _
  rw [h]
  simp
noncomputable def pBins : Pol := .still (p1 cP (.int .i64) (fun _ => True) fun p => lexR (nums (p.1.b.getD [])) (nums (p.2.b.getD [])))
theorem okBins : PolOK base 91 pBins := still1 base_ok [(102, pBcmp)] ⟨okBcmp, trivial⟩ fun p _ => by
  have hl := q4o (p := p)
  have o1 : A.ofList false 1 (eP p).cells 6 = some (eL 1 eb p.1.b) := q2o (by rw [q0w]; rfl) (by cases p.1.b <;> rfl)
  have o2 : A.ofList false 1 (eP p).cells 13 = some (eL 1 eb p.2.b) := q2o (by rw [q0w]; rfl) (by cases p.2.b <;> rfl)
  exact Evs.of fun n m => by simp [↓q0a, ↓q01, ↓q05, S91, hl, o1, o2, kBcmp]
theorem kBins {R : Type} {p : Tm × Tm} {H : Heap} {k : AV → Heap → Option R} : polK pBins [eP p] H k = k (.int .i64 (lexR (nums (p.1.b.getD [])) (nums (p.2.b.getD [])))) H := by
  simp [pBins, q0c]
end Go.Proofs.YtleikacgncpfbaaDoor

/- Two terms, but for what is in them. -/
set_option maxRecDepth 100000
set_option maxHeartbeats 4000000
namespace Go.Proofs.YtleikacgncpfbaaDoor
open Go Go.Den Go.Lib
noncomputable abbrev TOne : List (FuncId × Pol) := [(63, pOkind), (85, pCmpI), (86, pInts), (87, pAtoms), (88, pNums), (89, qbf), (90, pNils), (91, pBins)]
def okK (t : Tm) : Prop := 0 ≤ t.kind ∧ t.kind ≤ 7 ∧ few t.d
noncomputable def pOne2 : Pol := .still (p1 cP (.int .i64) (fun p => okK p.1 ∧ okK p.2) fun p => oneT p.1 p.2)
theorem okOne2 : PolOK base 62 pOne2 := still1 base_ok TOne ⟨qjf, okCmpI, okInts, okAtoms, okNums, okTuples, okNils, okBins, trivial⟩ fun p ⟨⟨a1, a2, a3⟩, ⟨b1, b2, b3⟩⟩ => by
  have hl := q4o (p := p)
  have o1 := qjd (p := p)
  have o2 := of_eP2 (p := p)
  have o3 := of_eP (p := p)
  have k1 : ∀ (R : Type) (H : Heap) (k : AV → Heap → Option R), polK pOkind [eT p.1] H k = k (.int .i64 p.1.kind) H := fun R H k => kOkind a1 a2
  have k2 : ∀ (R : Type) (H : Heap) (k : AV → Heap → Option R), polK pOkind [eT p.2] H k = k (.int .i64 p.2.kind) H := fun R H k => kOkind b1 b2
  by_cases hk : p.1.kind = p.2.kind
  · have hz : ordI p.1.kind p.2.kind = 0 := ord_zero.2 hk
    have n0 : ¬ p.1.kind ≠ p.2.kind := fun g => g hk
    unfold oneT
    rw [if_neg n0]
    have hcl : ∀ (f : FuncId) (H : Heap) (k : AV → Heap → Option AV) (n : Nat), clV base (polT TOne) n (.fn (.func f) [eP p] []) [] H k = polK (lookT TOne f) [eP p] H k := fun f H k n => by
      rw [clV_fn, cl_polT]
      rfl
    have hc1 : ∀ f : FuncId, (AV.fn (.func f) [eP p] []).cells = [AV.fn (.func f) [eP p] []] := fun f => rfl
    have hd1 : ∀ f : FuncId, (AV.fn (.func f) [eP p] []).isDef = true := fun f => rfl
    have kin : p.1.kind = 0 → ∀ (R : Type) (H : Heap) (k : AV → Heap → Option R), polK pInts [eP p] H k = k (.int .i64 (cmpI (toI (p.1.neg, p.1.d)) (toI (p.2.neg, p.2.d)))) H := fun h R H k => kInts h (hk ▸ h) a3 b3
    rcases (show p.1.kind = 0 ∨ p.1.kind = 1 ∨ p.1.kind = 2 ∨ p.1.kind = 3 ∨ p.1.kind = 4 ∨ p.1.kind = 5 ∨ p.1.kind = 6 ∨ p.1.kind = 7 by omega) with c | c | c | c | c | c | c | c
    · have kin' := kin c
      rw [c] at k1
      exact Evs.of fun n m => by simp [↓q00, ↓q06, ↓q0a, ↓q09, ↓q01, ↓q0b, ↓q05, S62, hl, o1, o2, o3, k1, k2, kCmpI, c, ← hk, q2u, A.fillElems, A.idx, A.aliveZ, A.load, A.elemAt, hc1, hd1, hcl, kin']
    · exact Evs.of fun n m => by simp [↓q00, ↓q06, ↓q0a, ↓q09, ↓q01, ↓q0b, ↓q05, S62, hl, o1, o2, o3, k1, k2, kCmpI, c, ← hk, q2u, A.fillElems, A.idx, A.aliveZ, A.load, A.elemAt, hc1, hd1, hcl, kAtoms]
    · exact Evs.of fun n m => by simp [↓q00, ↓q06, ↓q0a, ↓q09, ↓q01, ↓q0b, ↓q05, S62, hl, o1, o2, o3, k1, k2, kCmpI, c, ← hk, q2u, A.fillElems, A.idx, A.aliveZ, A.load, A.elemAt, hc1, hd1, hcl, kNums]
    · exact Evs.of fun n m => by simp [↓q00, ↓q06, ↓q0a, ↓q09, ↓q01, ↓q0b, ↓q05, S62, hl, o1, o2, o3, k1, k2, kCmpI, c, ← hk, q2u, A.fillElems, A.idx, A.aliveZ, A.load, A.elemAt, hc1, hd1, hcl, kNums]
    · exact Evs.of fun n m => by simp [↓q00, ↓q06, ↓q0a, ↓q09, ↓q01, ↓q0b, ↓q05, S62, hl, o1, o2, o3, k1, k2, kCmpI, c, ← hk, q2u, A.fillElems, A.idx, A.aliveZ, A.load, A.elemAt, hc1, hd1, hcl, qi5]
    · exact Evs.of fun n m => by simp [↓q00, ↓q06, ↓q0a, ↓q09, ↓q01, ↓q0b, ↓q05, S62, hl, o1, o2, o3, k1, k2, kCmpI, c, ← hk, q2u, A.fillElems, A.idx, A.aliveZ, A.load, A.elemAt, hc1, hd1, hcl, kNils]
    · exact Evs.of fun n m => by simp [↓q00, ↓q06, ↓q0a, ↓q09, ↓q01, ↓q0b, ↓q05, S62, hl, o1, o2, o3, k1, k2, kCmpI, c, ← hk, q2u, A.fillElems, A.idx, A.aliveZ, A.load, A.elemAt, hc1, hd1, hcl, qi5]
    · exact Evs.of fun n m => by simp [↓q00, ↓q06, ↓q0a, ↓q09, ↓q01, ↓q0b, ↓q05, S62, hl, o1, o2, o3, k1, k2, kCmpI, c, ← hk, q2u, A.fillElems, A.idx, A.aliveZ, A.load, A.elemAt, hc1, hd1, hcl, kBins]
  · have hz : ¬ ordI p.1.kind p.2.kind = 0 := fun e => hk (ord_zero.1 e)
    unfold oneT
    rw [if_pos hk]
    exact Evs.of fun n m => by simp [↓q00, ↓q06, ↓q0a, ↓q09, ↓q01, ↓q05, S62, hl, o1, o2, k1, k2, kCmpI, hz]
theorem kOne2 {R : Type} {p : Tm × Tm} (h1 : okK p.1) (h2 : okK p.2) {H : Heap} {k : AV → Heap → Option R} : polK pOne2 [eP p] H k = k (.int .i64 (oneT p.1 p.2)) H := by
  simp [pOne2, q0c, h1, h2]
end Go.Proofs.YtleikacgncpfbaaDoor

/- Any two terms: which is less, by the program. -/
set_option maxRecDepth 100000
set_option maxHeartbeats 4000000
namespace Go.Proofs.YtleikacgncpfbaaDoor
open Go Go.Den Go.Lib
/-! ### a pile -/
theorem pile_push {sz bytes ty q ver cap : Nat} {es todo news : List AV} {H : Heap} (hH : H[q]? = some (.row ver sz ty es)) (htk : es.take todo.length = todo) (hcap : todo.length ≤ cap) (h0 : 0 < bytes) (hb : (todo.length + news.length) * bytes ≤ 140737488355328) :
    ∃ ver' cap' es', A.append sz bytes ty (.sl q ver 0 todo.length cap) news H = some (.sl q ver' 0 (todo ++ news).length cap', H.set q (.row ver' sz ty es')) ∧ es'.take (todo ++ news).length = todo ++ news ∧ (todo ++ news).length ≤ cap' := by
  have hl : todo.length ≤ es.length := by
    have := congrArg List.length htk
    simp only [List.length_take] at this
    omega
  by_cases hc : todo.length + news.length ≤ cap
  · refine ⟨ver, cap, A.splice es todo.length news, ?_, ?_, by simpa using hc⟩
    · simp only [A.append, hH]
      rw [if_pos ⟨trivial, trivial, trivial, by omega, hcap, hb, h0⟩, if_pos hc]
      simp
    · have : A.splice es todo.length news = es.take todo.length ++ news ++ es.drop (todo.length + news.length) := rfl
      rw [this, htk, List.take_append_of_le_length (by simp), List.take_of_length_le (by simp)]
  · refine ⟨ver + 1, (todo ++ news).length, todo ++ news, ?_, ?_, Nat.le_refl _⟩
    · simp only [A.append, hH]
      rw [if_pos ⟨trivial, trivial, trivial, by omega, hcap, hb, h0⟩, if_neg hc]
      simp [htk]
    · rw [List.take_of_length_le (by simp)]
theorem qbr : ∀ a b : List Tm, Tm.sizes (a ++ b) = Tm.sizes a + Tm.sizes b
  | [], b => by simp [Tm.sizes]
  | t :: a, b => by simp only [List.cons_append, Tm.sizes, qbr a b]; omega
theorem szs_rev : ∀ a : List Tm, Tm.sizes a.reverse = Tm.sizes a
  | [] => rfl
  | t :: a => by
    rw [List.reverse_cons, qbr, szs_rev a]
    simp only [Tm.sizes]
    omega
theorem qen : ∀ l : List Tm, l.length ≤ Tm.sizes l
  | [] => by simp
  | t :: l => by
    have := qen l
    have h := t.size_eq
    simp only [List.length_cons, Tm.sizes]
    omega
/-! ### what is still to be compared, the next one first -/
noncomputable def cmpSt : List (Tm × Tm) → Int
  | [] => 0
  | p :: r => if cmpT p.1 p.2 ≠ 0 then cmpT p.1 p.2 else cmpSt r
theorem qc3 : ∀ (l m : List Tm) (r : List (Tm × Tm)), cmpSt (l.zip m ++ r) = if cmpTs l m ≠ 0 then cmpTs l m else cmpSt r
  | [], m, r => by rw [q31]; simp
  | t :: l, [], r => by rw [q2h]; simp
  | t :: l, u :: m, r => by
    rw [q15]
    show (if cmpT t u ≠ 0 then cmpT t u else cmpSt (l.zip m ++ r)) = _
    rw [qc3 l m r]
    by_cases h : cmpT t u = 0
    · have n1 : ¬ cmpT t u ≠ 0 := fun g => g h
      rw [if_neg n1, if_neg n1]
    · rw [if_pos h, if_pos h, if_pos h]
theorem qgc (a b : Tm) (r : List (Tm × Tm)) : cmpSt ((a, b) :: r) = if oneT a b ≠ 0 then oneT a b else if a.kind = 4 ∨ a.kind = 6 then cmpSt (a.kids.zip b.kids ++ r) else cmpSt r := by
  show (if cmpT a b ≠ 0 then cmpT a b else cmpSt r) = _
  rw [q2k, qc3]
  by_cases h : oneT a b = 0
  · have n1 : ¬ oneT a b ≠ 0 := fun g => g h
    rw [if_neg n1, if_neg n1]
    split <;> simp
  · rw [if_pos h, if_pos h, if_pos h]
def okOneT (t : Tm) : Prop := okK t ∧ t.kids.length ≤ 1000
def okA (t : Tm) : Prop := evT okOneT t
theorem okA_eq {t : Tm} : okA t ↔ okOneT t ∧ ∀ u ∈ t.kids, okA u := qf0
noncomputable abbrev TCom : List (FuncId × Pol) := [(62, pOne2), (63, pOkind)]
theorem ty_pairs : base.P.underlying 74 = some (.slice 73) := by kernel_rfl
theorem push_loop {a b : Tm} {q : Nat} (hlen : a.kids.length = b.kids.length) : ∀ (j : Nat) (z : Int), z = (j : Int) - 1 → j ≤ a.kids.length → ∀ (Q : List (Tm × Tm)) (H : Heap) (ver cap : Nat) (es : List AV), H[q]? = some (.row ver 14 73 es) → es.take (Q.map eP).length = Q.map eP → (Q.map eP).length ≤ cap → Q.length + j ≤ 100000000000 →
    ∃ H' ver' cap' es', LDoes (L25_1 (polT TCom)) ⟨[.sl q ver 0 (Q.map eP).length cap, .int .i64 z], [(eP (a, b)).cells]⟩ H 0 ⟨[.sl q ver' 0 ((Q ++ ((a.kids.zip b.kids).take j).reverse).map eP).length cap'], []⟩ H' ∧
      H'[q]? = some (.row ver' 14 73 es') ∧ es'.take ((Q ++ ((a.kids.zip b.kids).take j).reverse).map eP).length = (Q ++ ((a.kids.zip b.kids).take j).reverse).map eP ∧ ((Q ++ ((a.kids.zip b.kids).take j).reverse).map eP).length ≤ cap' := by
  have o1 : A.ofList false 1 (eP (a, b)).cells 5 = some (eL 7 eT a.l) := q2o (by rw [q0w]; rfl) (by cases a.l <;> rfl)
  have o2 : A.ofList false 1 (eP (a, b)).cells 12 = some (eL 7 eT b.l) := q2o (by rw [q0w]; rfl) (by cases b.l <;> rfl)
  intro j
  induction j with
  | zero =>
    intro z hz hj Q H ver cap es hH htk hcap hb
    have hz' : ¬ (0 : Int) ≤ z := by omega
    refine ⟨H, ver, cap, es, LDoes.step (Evs.of fun n m => ?_), hH, by simpa using htk, by simpa using hcap⟩
    simp only [List.take_zero, List.reverse_nil, List.append_nil]
    generalize (eP (a, b)).cells = C at *
    generalize (Q.map eP).length = N at *
    simp [↓q00, ↓q01, q9b, hz']
  | succ j ih =>
    intro z hz hj Q H ver cap es hH htk hcap hb
    have hz' : (0 : Int) ≤ z := by omega
    have hzj : z = (j : Int) := by omega
    have hja : j < a.kids.length := by omega
    have hjb : j < b.kids.length := by omega
    have x1 : A.idx 7 (eL 7 eT a.l) (.int .i64 (j : Int)) H = some (.rop (eT a.kids[j]).cells) := q4n (sz := 7) (e := eT) (o := a.l) (H := H) (k := .i64) (i := j) hja
    have x2 : A.idx 7 (eL 7 eT b.l) (.int .i64 (j : Int)) H = some (.rop (eT b.kids[j]).cells) := q4n (sz := 7) (e := eT) (o := b.l) (H := H) (k := .i64) (i := j) hjb
    have d1 := q17 (t := a.kids[j]) (H := H)
    have d2 := q17 (t := b.kids[j]) (H := H)
    have hf := qhr (a := a.kids[j]) (b := b.kids[j])
    have hfe : A.fillElems 14 [AV.agg [(AV.int .i64 0), (AV.bool false), AV.nils, (AV.str []), (AV.int .i64 0), AV.nils, AV.nils, (AV.int .i64 0), (AV.bool false), AV.nils, (AV.str []), (AV.int .i64 0), AV.nils, AV.nils]] [(0, 1, eP (a.kids[j], b.kids[j]))] = some [eP (a.kids[j], b.kids[j])] := by
      simp [A.fillElems, q4o]
    have hb1 : ((Q.map eP).length + [eP (a.kids[j], b.kids[j])].length) * 224 ≤ 140737488355328 := by
      simp only [List.length_map, List.length_cons, List.length_nil]
      omega
    have hq : q < H.length := (List.getElem?_eq_some_iff.1 hH).1
    have hH1 : (H ++ [HObj.row 0 14 73 [eP (a.kids[j], b.kids[j])]])[q]? = some (.row ver 14 73 es) := by rw [List.getElem?_append_left hq]; exact hH
    have hrd : A.read 14 (.sl H.length 0 0 1 1) (H ++ [HObj.row 0 14 73 [eP (a.kids[j], b.kids[j])]]) = some [eP (a.kids[j], b.kids[j])] := by
      simp [A.read]
    obtain ⟨ver1, cap1, es1, g1, g2, g3⟩ := pile_push (sz := 14) (bytes := 224) (ty := 73) hH1 htk hcap (by omega) hb1
    have hmm : Q.map eP ++ [eP (a.kids[j], b.kids[j])] = (Q ++ [(a.kids[j], b.kids[j])]).map eP := by simp
    rw [hmm] at g1 g2 g3
    obtain ⟨H', ver', cap', es', hL, h1, h2, h3⟩ := ih (z - 1) (by omega) (by omega) (Q ++ [(a.kids[j], b.kids[j])]) ((H ++ [HObj.row 0 14 73 [eP (a.kids[j], b.kids[j])]]).set q (.row ver1 14 73 es1)) ver1 cap1 es1 (List.getElem?_set_self (by simp; omega)) g2 g3 (by simp; omega)
    have hzip : Q ++ ((a.kids.zip b.kids).take (j + 1)).reverse = Q ++ [(a.kids[j], b.kids[j])] ++ ((a.kids.zip b.kids).take j).reverse := by
      have : (a.kids.zip b.kids).take (j + 1) = (a.kids.zip b.kids).take j ++ [(a.kids[j], b.kids[j])] := by
        rw [List.take_succ_eq_append_getElem (by simp; omega)]
        simp
      rw [this, List.reverse_append]
      simp
    rw [hzip]
    have hw : IntKind.wrap .i64 (z - 1) = z - 1 := q0o (by omega) (by omega)
    refine ⟨H', ver', cap', es', LDoes.step (Evs.withL hL (Evs.of fun n m _ h4 => ?_)), h1, h2, h3⟩
    rw [← hzj] at x1 x2
    generalize (eP (a, b)).cells = C at *
    generalize (Q.map eP).length = N at *
    generalize ((Q ++ [(a.kids[j], b.kids[j])]).map eP).length = M at *
    generalize eP (a.kids[j], b.kids[j]) = vp at *
    generalize eT a.kids[j] = va at *
    generalize eT b.kids[j] = vb at *
    simp [↓q00, ↓q06, ↓q09, ↓q01, ↓q0b, ↓q0i, q9b, hz', o1, o2, x1, x2, d1, d2, hf, hfe, q0v ty_pairs, hrd, g1, hw, h4]
theorem fits_eP {p : Tm × Tm} : A.fits 14 (eP p) = true := by
  have := q0w p
  unfold A.fits
  rw [this]
  cases p.1.d <;> cases p.2.d <;> cases p.1.l <;> cases p.2.l <;> cases p.1.b <;> cases p.2.b <;> rfl
theorem topP {es : List AV} {Q : List (Tm × Tm)} {x : Tm × Tm} (h : es.take ((Q ++ [x]).map eP).length = (Q ++ [x]).map eP) : es[(Q.map eP).length]? = some (eP x) ∧ (Q.map eP).length + 1 ≤ es.length ∧ es.take (Q.map eP).length = Q.map eP := by
  have e : (Q ++ [x]).map eP = Q.map eP ++ [eP x] := by simp
  rw [e] at h
  generalize Q.map eP = T at *
  have hl := congrArg List.length h
  simp only [List.length_take, List.length_append, List.length_cons, List.length_nil] at hl
  have h2 := congrArg (fun l => l[T.length]?) h
  simp only [List.getElem?_take] at h2
  refine ⟨?_, by omega, ?_⟩
  · rw [if_pos (by simp)] at h2
    rw [h2]
    simp
  · have h3 := congrArg (List.take T.length) h
    rw [List.take_take] at h3
    simpa using h3
theorem com_loop {q : Nat} : ∀ (N : Nat) (P : List (Tm × Tm)) (H : Heap) (ver cap : Nat) (es : List AV), Tm.sizes (P.map Prod.fst) ≤ N → N ≤ 1000000000 → (∀ p ∈ P, okA p.1 ∧ okA p.2) → H[q]? = some (.row ver 14 73 es) → es.take (P.map eP).length = P.map eP → (P.map eP).length ≤ cap →
    ∃ H', LDoes (L25_0 (polT TCom)) ⟨[.sl q ver 0 (P.map eP).length cap], []⟩ H (if cmpSt P.reverse = 0 then 0 else 1) ⟨[if cmpSt P.reverse = 0 then .undef else .int .i64 (cmpSt P.reverse)], []⟩ H' := by
  intro N
  induction N with
  | zero =>
    intro P H ver cap es hs hN hall hH htk hcap
    have hP : P = [] := by
      rcases List.eq_nil_or_concat P with rfl | ⟨Q, x, rfl⟩
      · rfl
      · have := qen ((Q.concat x).map Prod.fst)
        simp only [List.concat_eq_append, List.length_map, List.length_append, List.length_cons, List.length_nil] at this hs
        omega
    subst hP
    have f0 : A.len (.sl q ver 0 0 cap) H = some (.int .i64 0) := by simp [A.len, A.alive, hH]
    refine ⟨H, LDoes.step (Evs.of fun n m => ?_)⟩
    simp [↓q00, ↓q01, q2f, f0, cmpSt]
  | succ N ih =>
    intro P H ver cap es hs hN hall hH htk hcap
    rcases List.eq_nil_or_concat P with rfl | ⟨Q, x, rfl⟩
    · have f0 : A.len (.sl q ver 0 0 cap) H = some (.int .i64 0) := by simp [A.len, A.alive, hH]
      refine ⟨H, LDoes.step (Evs.of fun n m => ?_)⟩
      simp [↓q00, ↓q01, q2f, f0, cmpSt]
    · simp only [List.concat_eq_append] at *
      obtain ⟨a, b⟩ := x
      obtain ⟨t1, t2, t3⟩ := topP htk
      obtain ⟨ha, hb⟩ := hall (a, b) (by simp)
      have ha1 := okA_eq.1 ha
      have hb1 := okA_eq.1 hb
      have hsz : Tm.sizes (Q.map Prod.fst) + a.size ≤ N + 1 := by
        have : (Q ++ [(a, b)]).map Prod.fst = Q.map Prod.fst ++ [a] := by simp
        rw [this, qbr] at hs
        simp only [Tm.sizes] at hs
        omega
      have hlenQ := qen (Q.map Prod.fst)
      simp only [List.length_map] at hlenQ
      have hl : ((Q ++ [(a, b)]).map eP).length = (Q.map eP).length + 1 := by simp
      have hlq : (Q.map eP).length = Q.length := by simp
      rw [hl] at hcap ⊢
      have hwl : (Q.map eP).length ≤ 1000000000 := by omega
      have e1 : (((Q.map eP).length + 1 : Nat) : Int) - 1 = ((Q.map eP).length : Int) := by omega
      have hw : IntKind.wrap .i64 ((((Q.map eP).length + 1 : Nat) : Int) - 1) = ((Q.map eP).length : Int) := by rw [q0o (by omega) (by omega), e1]
      have f1 : A.len (.sl q ver 0 ((Q.map eP).length + 1) cap) H = some (.int .i64 (((Q.map eP).length + 1 : Nat) : Int)) := by simp [A.len, A.alive, hH]
      have f2 : A.idx 14 (.sl q ver 0 ((Q.map eP).length + 1) cap) (.int .i64 ((Q.map eP).length : Int)) H = some (.ptr q ver (Q.map eP).length 0) := by
        simp [A.idx, A.aliveZ, hH]
        omega
      have f3 : A.load true 14 (.ptr q ver (Q.map eP).length 0) H = some (eP (a, b)) := by
        have hc : A.ofList true 14 (eP (a, b)).cells 0 = some (eP (a, b)) := of_eP
        simp [A.load, A.elemAt, hH]
        rw [show es[Q.length]? = some (eP (a, b)) by simpa using t1]
        simp [hc]
      have f4 : A.slice 14 (.sl q ver 0 ((Q.map eP).length + 1) cap) none (some (.int .i64 ((Q.map eP).length : Int))) none H = some (.sl q ver 0 (Q.map eP).length cap) := by
        simp [A.slice, A.bound, A.aliveZ, hH]
        omega
      have f5 : A.splice [(AV.int .i64 0), (AV.bool false), AV.nils, (AV.str []), (AV.int .i64 0), AV.nils, AV.nils, (AV.int .i64 0), (AV.bool false), AV.nils, (AV.str []), (AV.int .i64 0), AV.nils, AV.nils] 0 (eP (a, b)).cells = (eP (a, b)).cells := by
        rw [q0w]; rfl
      have f6 : A.fits 14 (eP (a, b)) = true := fits_eP
      have f7 := q4o (p := (a, b))
      have f8 := of_eP (p := (a, b))
      have f9 := qjd (p := (a, b))
      have k1 : ∀ (R : Type) (H : Heap) (k : AV → Heap → Option R), polK pOne2 [eP (a, b)] H k = k (.int .i64 (oneT a b)) H := fun R H k => kOne2 (p := (a, b)) ha1.1.1 hb1.1.1
      have k2 : ∀ (R : Type) (H : Heap) (k : AV → Heap → Option R), polK pOkind [eT a] H k = k (.int .i64 a.kind) H := fun R H k => kOkind ha1.1.1.1 ha1.1.1.2.1
      have hrev : (Q ++ [(a, b)]).reverse = (a, b) :: Q.reverse := by simp
      rw [hrev, qgc]
      have hpos : (0 : Int) < (((Q.map eP).length + 1 : Nat) : Int) := by omega
      have ihq := ih Q H ver cap es (by have := a.size_eq; omega) (by omega) (fun p hp => hall p (by simp [hp])) hH t3 (by omega)
      by_cases hc : oneT a b = 0
      · have n1 : ¬ oneT a b ≠ 0 := fun g => g hc
        rw [if_neg n1]
        rw [hc] at k1
        by_cases hk : a.kind = 4 ∨ a.kind = 6
        · rw [if_pos hk]
          have hll := one_len hc hk
          have o1 : A.ofList false 1 (eP (a, b)).cells 5 = some (eL 7 eT a.l) := q2o (by rw [q0w]; rfl) (by cases a.l <;> rfl)
          have l1 : A.len (eL 7 eT a.l) H = some (.int .i64 ((a.kids.length : Nat) : Int)) := q08
          obtain ⟨H1, ver1, cap1, es1, hL1, g1, g2, g3⟩ := push_loop (a := a) (b := b) (q := q) hll a.kids.length ((a.kids.length : Int) - 1) rfl (Nat.le_refl _) Q H ver cap es hH t3 (by omega) (by have := ha1.1.2; simp only [] at this; omega)
          have htake : (a.kids.zip b.kids).take a.kids.length = a.kids.zip b.kids := List.take_of_length_le (by simp; omega)
          rw [htake] at hL1 g2 g3
          have hmf : ((Q ++ (a.kids.zip b.kids).reverse).map Prod.fst) = Q.map Prod.fst ++ a.kids.reverse := by
            rw [List.map_append, List.map_reverse, List.map_fst_zip (by omega)]
          obtain ⟨H2, hL2⟩ := ih (Q ++ (a.kids.zip b.kids).reverse) H1 ver1 cap1 es1 (by
            rw [hmf, qbr, szs_rev]
            have := a.size_eq
            omega) (by omega) (fun p hp => by
              rcases List.mem_append.1 hp with hp | hp
              · exact hall p (by simp [hp])
              · have hp := List.mem_reverse.1 hp
                exact ⟨ha1.2 _ (List.of_mem_zip hp).1, hb1.2 _ (List.of_mem_zip hp).2⟩) g1 g2 g3
          have hrv : (Q ++ (a.kids.zip b.kids).reverse).reverse = a.kids.zip b.kids ++ Q.reverse := by simp
          rw [hrv] at hL2
          have hw2 : IntKind.wrap .i64 ((a.kids.length : Int) - 1) = (a.kids.length : Int) - 1 := by
            have := ha1.1.2
            simp only [] at this
            exact q0o (by omega) (by omega)
          refine ⟨H2, LDoes.step (Evs.withL hL1 (Evs.withL hL2 (Evs.of fun n m _ h2 h1 _ => ?_)))⟩
          have hk2 : a.kind ≠ 4 → a.kind = 6 := fun h => by omega
          generalize ((Q ++ (a.kids.zip b.kids).reverse).map eP).length = M at *
          generalize cmpSt (a.kids.zip b.kids ++ Q.reverse) = Z at *
          generalize (Q.map eP).length = QL at *
          generalize ((QL + 1 : Nat) : Int) = N1 at *
          generalize (a.kids.length : Int) = L at *
          rcases hk with hk | hk
          · rw [hk] at k2
            simp [↓q00, ↓q06, ↓q0a, ↓q01, ↓q04, ↓q03, ↓q07, ↓q05, -q08, q2f, f1, f2, f3, f4, f5, f6, f7, f8, f9, hw, hpos, k1, k2, o1, l1, hw2, h1, h2]
          · rw [hk] at k2
            simp [↓q00, ↓q06, ↓q0a, ↓q01, ↓q04, ↓q03, ↓q07, ↓q05, -q08, q2f, f1, f2, f3, f4, f5, f6, f7, f8, f9, hw, hpos, k1, k2, o1, l1, hw2, h1, h2]
        · rw [if_neg hk]
          obtain ⟨H2, hL2⟩ := ihq
          refine ⟨H2, LDoes.step (Evs.withL hL2 (Evs.of fun n m _ h2 => ?_))⟩
          have hk4 : ¬ a.kind = 4 := by omega
          have hk6 : ¬ a.kind = 6 := by omega
          generalize cmpSt Q.reverse = Z at *
          generalize (Q.map eP).length = QL at *
          generalize ((QL + 1 : Nat) : Int) = N1 at *
          simp [↓q00, ↓q06, ↓q0a, ↓q01, ↓q04, ↓q03, ↓q07, ↓q05, q2f, f1, f2, f3, f4, f5, f6, f7, f8, f9, hw, hpos, k1, k2, hk4, hk6, h2]
      · rw [if_pos hc, if_neg hc, if_neg hc]
        refine ⟨H, LDoes.step (Evs.of fun n m => ?_)⟩
        generalize oneT a b = Z at *
        generalize (Q.map eP).length = QL at *
        generalize ((QL + 1 : Nat) : Int) = N1 at *
        simp [↓q00, ↓q06, ↓q0a, ↓q01, ↓q07, ↓q05, q2f, f1, f2, f3, f4, f5, f6, f7, f8, hw, hpos, k1, hc]
noncomputable def pCom : Pol := .still (p2 cT cT (.int .i64) (fun a b => okA a ∧ okA b ∧ a.size ≤ 1000000000) cmpT)
theorem okCom : PolOK base 25 pCom := still2 base_ok TCom ⟨okOne2, qjf, trivial⟩ fun a b ⟨ha, hb, hs⟩ => by
  obtain ⟨H', hL⟩ := com_loop (q := 0) a.size [(a, b)] [.row 0 14 73 [eP (a, b)]] 0 1 [eP (a, b)] (by simp [Tm.sizes]) hs (fun p hp => by
    simp only [List.mem_singleton] at hp
    subst hp
    exact ⟨ha, hb⟩) rfl rfl (Nat.le_refl _)
  have hf := qhr (a := a) (b := b)
  have hfe : A.fillElems 14 [AV.agg [(AV.int .i64 0), (AV.bool false), AV.nils, (AV.str []), (AV.int .i64 0), AV.nils, AV.nils, (AV.int .i64 0), (AV.bool false), AV.nils, (AV.str []), (AV.int .i64 0), AV.nils, AV.nils]] [(0, 1, eP (a, b))] = some [eP (a, b)] := by
    simp [A.fillElems, q4o]
  have la : (eT a).cells.length = 7 := by rw [q02]; rfl
  have lb : (eT b).cells.length = 7 := by rw [q02]; rfl
  have oa : A.ofList true 7 (eT a).cells 0 = some (eT a) := q17 (H := [])
  have ob : A.ofList true 7 (eT b).cells 0 = some (eT b) := q17 (H := [])
  have hz : cmpSt [(a, b)].reverse = cmpT a b := by
    show (if cmpT a b ≠ 0 then cmpT a b else 0) = _
    split <;> omega
  rw [hz] at hL
  refine Evs.withL hL (Evs.of fun n m h _ => ?_)
  have e1 : (List.map eP [(a, b)]).length = 1 := rfl
  rw [e1] at h
  generalize cmpT a b = Z at *
  by_cases h0 : Z = 0
  · simp [↓q06, ↓q0a, ↓q09, ↓q01, ↓q0b, ↓q07, ↓q05, -q02, S25, la, lb, oa, ob, hf, hfe, h, h0]
  · simp [↓q06, ↓q0a, ↓q09, ↓q01, ↓q0b, ↓q07, ↓q05, -q02, S25, la, lb, oa, ob, hf, hfe, h, h0]
theorem kCom {R : Type} {a b : Tm} (ha : okA a) (hb : okA b) (hs : a.size ≤ 1000000000) {H : Heap} {k : AV → Heap → Option R} : polK pCom [eT a, eT b] H k = k (.int .i64 (cmpT a b)) H := by
  simp [pCom, q0c, ha, hb, hs]
end Go.Proofs.YtleikacgncpfbaaDoor

/- Any two terms that are few and small: which is less, by both; rows of terms that are handed on. -/
set_option maxRecDepth 100000
set_option maxHeartbeats 4000000
namespace Go.Proofs.YtleikacgncpfbaaDoor
open Go Go.Den Go.Lib
/-! ### a row of terms that is handed on -/
theorem room_okR {most : Int} (hm : most ≤ 1000) : ∀ t dep, roomS t dep most = true → okR t := fun t => q4p (P := fun t => ∀ dep, roomS t dep most = true → okR t) (fun t ih dep h => by
  rw [q4e] at h
  simp only [Bool.and_eq_true, Bool.not_eq_true', Bool.or_eq_false_iff, decide_eq_false_iff_not, List.all_eq_true] at h
  obtain ⟨⟨⟨⟨⟨h1, h2⟩, h3⟩, h4⟩, h5⟩, h6⟩ := h
  exact okR_eq.2 ⟨⟨by unfold few; omega, by unfold q1o; omega, by omega, by omega⟩, fun u hu => ih u hu _ (h6 u hu)⟩) t
theorem may_kids {t : Tm} (h : mayT countR t = true) : (0 ≤ t.kind ∧ t.kind ≤ 7) ∧ ∀ u ∈ t.kids, mayT countR u = true := by
  rw [q50] at h
  simp only [Bool.and_eq_true, List.all_eq_true] at h
  obtain ⟨ho, hk⟩ := h
  unfold oneS at ho
  simp only [Bool.and_eq_true] at ho
  obtain ⟨hs, ho⟩ := ho
  refine ⟨?_, ?_⟩
  · by_cases c0 : t.kind = 0
    · omega
    by_cases c1 : t.kind = 1
    · omega
    by_cases c2 : t.kind = 2 ∨ t.kind = 3
    · omega
    by_cases c4 : t.kind = 4
    · omega
    by_cases c6 : t.kind = 6
    · omega
    by_cases c7 : t.kind = 7
    · omega
    rw [if_neg c0, if_neg c1, if_neg c2, if_neg c4, if_neg c6, if_neg c7] at ho
    have := of_decide_eq_true ho
    omega
  · unfold partsO at hk
    by_cases hc : t.kind = 4 ∨ t.kind = 6
    · rw [if_pos hc] at hk
      exact hk
    · intro u hu
      have hz : t.kids.length = 0 := by
        unfold spareS at hs
        simp only [Bool.and_eq_true, Bool.or_eq_true, decide_eq_true_eq] at hs
        rcases hs.1.1.2 with h | h
        · exact absurd h hc
        · exact h
      rw [List.length_eq_zero_iff.1 hz] at hu
      cases hu
theorem qj6 : ∀ t : Tm, okR t → mayT countR t = true → okA t := q4p fun t ih h1 h2 => by
  have h1 := okR_eq.1 h1
  obtain ⟨k1, k2⟩ := may_kids h2
  exact okA_eq.2 ⟨⟨⟨k1.1, k1.2, h1.1.1⟩, h1.1.2.2.2⟩, fun u hu => ih u hu (h1.2 u hu) (k2 u hu)⟩
def fitT (t : Tm) : Prop := okA t ∧ okR t ∧ t.size ≤ 65536
theorem qbk {t : Tm} (h : roomS t 8 40 = true ∧ mayS t = true) : fitT t := by
  obtain ⟨h1, h2⟩ := h
  have hr := room_okR (by omega) t 8 h1
  unfold mayS at h2
  simp only [Bool.and_eq_true, decide_eq_true_eq] at h2
  refine ⟨qj6 t hr h2.2, hr, ?_⟩
  rw [qfy t h2.2]
  exact h2.1
end Go.Proofs.YtleikacgncpfbaaDoor

/- Any two terms: that what is less is so in order. -/
set_option maxRecDepth 100000
set_option maxHeartbeats 4000000
namespace Go.Proofs.YtleikacgncpfbaaDoor
open Go Go.Den Go.Lib
theorem one_congr {a b : Tm} (c : Tm) (h : oneT a b = 0) : oneT a c = oneT b c := by
  have e := q7i h
  have n1 : ¬ a.kind ≠ b.kind := fun g => g e
  unfold oneT at h ⊢
  rw [if_neg n1] at h
  rw [← e]
  split
  · rfl
  by_cases c0 : a.kind = 0
  · rw [if_pos c0] at h ⊢
    rw [if_pos c0, cmpI_eq.1 h]
  rw [if_neg c0] at h ⊢
  rw [if_neg c0]
  by_cases c1 : a.kind = 1
  · rw [if_pos c1] at h ⊢
    rw [if_pos c1, (qcn _ _).1 h]
  rw [if_neg c1] at h ⊢
  rw [if_neg c1]
  by_cases c2 : a.kind = 2 ∨ a.kind = 3
  · rw [if_pos c2] at h ⊢
    rw [if_pos c2, ord_zero.1 h]
  rw [if_neg c2] at h ⊢
  rw [if_neg c2]
  by_cases c4 : a.kind = 4 ∨ a.kind = 6
  · rw [if_pos c4] at h ⊢
    rw [if_pos c4, ord_zero.1 h]
  rw [if_neg c4] at h ⊢
  rw [if_neg c4]
  by_cases c7 : a.kind = 7
  · rw [if_pos c7] at h ⊢
    rw [if_pos c7, (q4c _ _).1 h]
  · rw [if_neg c7] at h ⊢
    rw [if_neg c7]
theorem cmp_one {a b : Tm} (h : cmpT a b = 0) : oneT a b = 0 ∧ (a.kind = 4 ∨ a.kind = 6 → cmpTs a.kids b.kids = 0) := by
  rw [q2k] at h
  by_cases e : oneT a b = 0
  · have n1 : ¬ oneT a b ≠ 0 := fun g => g e
    rw [if_neg n1] at h
    exact ⟨e, fun hk => by rw [if_pos hk] at h; exact h⟩
  · rw [if_pos e] at h
    exact absurd h e
theorem qc5 : ∀ (a b c : Tm), cmpT a b = 0 → cmpT a c = cmpT b c := q4p fun a ih b c h => by
  obtain ⟨h1, h2⟩ := cmp_one h
  have e := one_congr c h1
  have hk := q7i h1
  rw [q2k a c, q2k b c, ← e, ← hk]
  by_cases k : a.kind = 4 ∨ a.kind = 6
  · rw [if_pos k, if_pos k]
    have hl := one_len h1 k
    have h2 := h2 k
    have : ∀ (l m n : List Tm), (∀ u ∈ l, ∀ b c, cmpT u b = 0 → cmpT u c = cmpT b c) → l.length = m.length → cmpTs l m = 0 → cmpTs l n = cmpTs m n := by
      intro l
      induction l with
      | nil =>
        intro m n _ hlen _
        cases m with
        | nil => rfl
        | cons u m => simp at hlen
      | cons t l ihl =>
        intro m n hall hlen hz
        cases m with
        | nil => simp at hlen
        | cons u m =>
          rw [q15] at hz
          by_cases hc : cmpT t u = 0
          · have n1 : ¬ cmpT t u ≠ 0 := fun g => g hc
            rw [if_neg n1] at hz
            cases n with
            | nil => rw [q2h, q2h]
            | cons v n =>
              rw [q15, q15, hall t (by simp) u v hc, ihl m n (fun u hu => hall u (by simp [hu])) (by simpa using hlen) hz]
          · rw [if_pos hc] at hz
            exact absurd hz hc
    rw [this a.kids b.kids c.kids ih hl h2]
  · rw [if_neg k, if_neg k]
theorem qge (a b c : Tm) (h : cmpT b c = 0) : cmpT a b = cmpT a c := by
  have := qc5 b c a h
  have e1 := q7c a b
  have e2 := q7c a c
  omega
def okV1 (t : Tm) : Prop := t.kind = 1 → validD t.name = true
def okV (t : Tm) : Prop := evT okV1 t
end Go.Proofs.YtleikacgncpfbaaDoor

/- Terms in order: the sort of the library, of no more than twenty. -/
set_option maxRecDepth 100000
set_option maxHeartbeats 4000000
namespace Go.Proofs.YtleikacgncpfbaaDoor
open Go Go.Den Go.Lib
/-! ### one more, put into a row in order, the last ones first -/
noncomputable def insR : List Tm → Tm → List Tm
  | [], x => [x]
  | y :: r, x => if cmpT x y < 0 then y :: insR r x else x :: y :: r
noncomputable def sortR : List Tm → List Tm → List Tm
  | acc, [] => acc
  | acc, x :: r => sortR (insR acc x) r
noncomputable abbrev TIns : List (FuncId × Pol) := [(25, pCom)]
def okC (t : Tm) : Prop := okA t ∧ t.size ≤ 1000000000
abbrev fnC : AV := .fn (.func 25) [] []
noncomputable def pIns : Pol := .prim (runF base TIns 104)
noncomputable abbrev TStb : List (FuncId × Pol) := [(104, pIns)]
noncomputable def pStb : Pol := .prim (runF base TStb 96)
noncomputable abbrev TSts : List (FuncId × Pol) := [(96, pStb)]
noncomputable def pSts : Pol := .prim (runF base TSts 76)
end Go.Proofs.YtleikacgncpfbaaDoor

/- Terms in order, by the program; the greatest of some. -/
set_option maxRecDepth 100000
set_option maxHeartbeats 4000000
namespace Go.Proofs.YtleikacgncpfbaaDoor
open Go Go.Den Go.Lib
noncomputable abbrev TSrt : List (FuncId × Pol) := [(44, pCopy), (76, pSts)]
def srtT (t : Tm) : Prop := copyT t ∧ okA t ∧ okR t
noncomputable def sortS (l : List Tm) : List Tm := (sortR [] l).reverse
def srtOk (o : Option (List Tm)) : Prop := (∀ u ∈ o.getD [], srtT u) ∧ (o.getD []).length ≤ 20
noncomputable def pSort : Pol := .still (p1 cTs (fun l => eL 7 eT (nz l)) srtOk fun o => sortS (o.getD []))
noncomputable def maxL : Tm → List Tm → Tm
  | m, [] => m
  | m, x :: r => maxL (if 0 < cmpT x m then x else m) r
noncomputable abbrev TMax : List (FuncId × Pol) := [(44, pCopy), (25, pCom)]
def maxOk (o : Option (List Tm)) : Prop := (∀ u ∈ o.getD [], srtT u) ∧ (o.getD []).length ≤ 1000
def nilT : Tm := .mk 0 false none [] 0 none none
noncomputable def maxS : List Tm → Tm × Bool
  | [] => (nilT, false)
  | x :: r => (maxL x (x :: r), true)
noncomputable def pMax : Pol := .still (p1 cTs (fun r : Tm × Bool => .tup [eT r.1, .bool r.2]) maxOk fun o => maxS (o.getD []))
end Go.Proofs.YtleikacgncpfbaaDoor

/- Terms in order, by the reference; rows that are the same. -/
set_option maxRecDepth 100000
set_option maxHeartbeats 4000000
namespace Go.Proofs.YtleikacgncpfbaaDoor
open Go Go.Den Go.Lib
/-! ### are two terms the same? -/
def bothR (a b : Tm) : Prop := okR a ∧ okR b
noncomputable def pSameX : Pol := .still (p2 cT cT .bool bothR fun a b => decide (cmpT a b = 0))
def rowSame (a b : List Tm) : Prop := a.length = b.length ∧ (∀ (i : Nat) (h : i < a.length) (h' : i < b.length), cmpT a[i] b[i] = 0) ∧ (∀ u ∈ a, okR u) ∧ (∀ u ∈ b, okR u) ∧ a.length ≤ 1000
def rowOkX (a b : Option (List Tm)) : Prop := rowSame (a.getD []) (b.getD [])
noncomputable abbrev TRowX : List (FuncId × Pol) := [(41, pSameX)]
noncomputable def pRowX : Pol := .still (p2 cTs cTs .bool rowOkX fun _ _ => true)
noncomputable abbrev TRst : List (FuncId × Pol) := [(46, q40), (26, pRcomA)]
theorem q80 : ∀ t : Tm, okR t → okR (canonT t) := q4p fun t ih h => by
  have h := okR_eq.1 h
  have hk : (canonT t).kids = t.kids.map canonT := by rw [q0s]; exact q3z _
  refine okR_eq.2 ⟨?_, fun u hu => ?_⟩
  · obtain ⟨h1, h2, h3, h4⟩ := h.1
    refine ⟨?_, ?_, ?_, ?_⟩
    · rw [q0s]
      show few (nz (t.d.getD []))
      unfold few
      rw [q3z]
      exact h1
    · rw [q0s]; exact h2
    · rw [q0s]
      show ((nz (t.b.getD [])).getD []).length ≤ _
      rw [q3z]
      exact h3
    · rw [hk, List.length_map]; exact h4
  · rw [hk] at hu
    obtain ⟨v, hv, rfl⟩ := List.mem_map.1 hu
    exact ih v hv (h.2 v hv)
def rstT (t : Tm) : Prop := rcp t ∧ okR t
def rstOk (o : Option (List Tm)) : Prop := (∀ u ∈ o.getD [], rstT u) ∧ (o.getD []).length ≤ 1000
noncomputable def pRsort : Pol := .still (p1 cTs (fun l => eL 7 eT (nz l)) rstOk fun o => sortS ((o.getD []).map canonT))
end Go.Proofs.YtleikacgncpfbaaDoor

/- Terms in order: what is so of a row that is sorted. -/
set_option maxRecDepth 100000
set_option maxHeartbeats 4000000
namespace Go.Proofs.YtleikacgncpfbaaDoor
open Go Go.Den Go.Lib
def desc (l : List Tm) : Prop := l.Pairwise fun a b => cmpT b a ≤ 0
def asc (l : List Tm) : Prop := l.Pairwise fun a b => cmpT a b ≤ 0
theorem q30 (t : Tm) : (canonT t).kids = t.kids.map canonT := by rw [q0s]; exact q3z _
theorem qc4 : ∀ t : Tm, cmpT t (canonT t) = 0 := q4p fun t ih => by
  have ho : oneT t (canonT t) = 0 := by
    have k : (canonT t).kind = t.kind := by rw [q0s]; rfl
    unfold oneT
    rw [k, q30]
    have n0 : ¬ t.kind ≠ t.kind := fun g => g rfl
    rw [if_neg n0]
    split
    · apply cmpI_eq.2
      rw [q0s]
      show toI (t.neg, t.d) = toI (t.neg, nz (t.d.getD []))
      unfold toI mag
      dsimp only
      rw [q3z]
    split
    · apply (qcn _ _).2
      rw [q0s]
      rfl
    split
    · apply ord_zero.2
      rw [q0s]
      rfl
    split
    · apply ord_zero.2
      rw [List.length_map]
    split
    · apply (q4c _ _).2
      rw [q0s]
      show nums (t.b.getD []) = nums ((nz (t.b.getD [])).getD [])
      rw [q3z]
    · rfl
  have n1 : ¬ oneT t (canonT t) ≠ 0 := fun g => g ho
  rw [q2k, if_neg n1, q30]
  split
  · have : ∀ l : List Tm, (∀ u ∈ l, cmpT u (canonT u) = 0) → cmpTs l (l.map canonT) = 0 := fun l => by
      induction l with
      | nil => intro _; rw [q31]
      | cons u l ihl =>
        intro h
        have n2 : ¬ cmpT u (canonT u) ≠ 0 := fun g => g (h u (by simp))
        rw [List.map_cons, q15, if_neg n2]
        exact ihl fun v hv => h v (by simp [hv])
    exact this _ ih
  · rfl
theorem qgd (a b : Tm) : cmpT (canonT a) (canonT b) = cmpT a b := by
  rw [← qc5 a (canonT a) (canonT b) (qc4 a), ← qge a b (canonT b) (qc4 b)]
end Go.Proofs.YtleikacgncpfbaaDoor

/- The seat's first question: by computation. -/
set_option maxRecDepth 100000
namespace Go.Proofs.YtleikacgncpfbaaDoor.awake6
open Go Go.Den
def q51 : List FuncId := [23, 25, 27, 29, 32, 35, 36, 46, 59, 60, 61, 62, 63, 68, 72, 82, 84, 85, 86, 87, 88, 89, 90, 91, 94, 97, 99, 100, 101, 102, 103, 106, 107, 108, 109, 111, 113, 114, 115, 116]
noncomputable def env0 : Env := { P := Tryd.prog, pol := fun f => bif Nat.beq f 110 then .prim q1x else .plain, ann := fun _ => {}, glob := fun g => bif Nat.beq g 0 then flatD (H := Unit) Rows.laid_unicode_utf8_first else bif Nat.beq g 1 then flatD (H := Unit) Rows.laid_unicode_utf8_acceptRanges else none }
def q43 : List (Nat × List (Nat × Nat × Nat)) := [(46, [(0, 0, 0), (0, 1, 1), (1, 15, 2)])]
def q58 : List (Nat × List (Nat × Nat × Nat)) → Nat → List (Nat × Nat × Nat)
  | [], _ => []
  | (g, l) :: r, f => bif Nat.beq g f then l else q58 r f
def annsIn (f : Nat) : Ann :=  .nil
noncomputable def tab (f : FuncId) : FAnn :=
  match Tryd.prog.funcs[f]? with
  | some fn => { ann := annsIn f, depth := Nat.log2 fn.ntmps + 1, sites := q58 q43 f, draws := qj7 env0 (q58 q43 f) fn }
  | none => {}
noncomputable def env : Env := { env0 with ann := fun f => if f ∈ q51 then tab f else {} }
theorem qhp : EnvOK env := envOK q51 (by kernel_rfl) (fun f hf => by show (if f ∈ q51 then tab f else {}).draws = []; rw [if_neg hf]) (by kernel_rfl)
theorem qbj : ∀ f, env.pol f = .plain ∨ ∃ F, env.pol f = .prim F ∧ PrimOK env f F := fun f => by
  cases h110 : Nat.beq f 110
  case true =>
    obtain rfl := Nat.eq_of_beq_eq_true h110
    exact .inr ⟨q1x, rfl, q6y (fn := Tryd.f110) Tryd.func110 (by kernel_rfl) (by kernel_rfl) (by kernel_rfl) (by kernel_rfl)⟩
  case false =>
    refine .inl ?_
    show (bif Nat.beq f 110 then Pol.prim q1x else Pol.plain) = _
    simp only [h110, cond_false]
theorem calls_ok (n : Nat) : CallOK env (callF env n) := q7w qhp (by kernel_rfl) qbj n
def q4g : Option AV → Bool
  | some (.bool true) => true
  | _ => false
theorem q8r {x : Option AV} (h : q4g x = true) : x = some (.bool true) := by
  unfold q4g at h
  split at h
  · rfl
  · cases h
theorem known : callF env 300 AV 23 [] [] (fun v G => A.freezeB true 64 G v) = some (.bool true) := q8r (by kernel_rfl)
end Go.Proofs.YtleikacgncpfbaaDoor.awake6
namespace Go.Proofs.YtleikacgncpfbaaDoor
open Go Go.Den
noncomputable def q6k : Pol := .still (Cd.f0 (.bool true))
theorem okAwake6 : PolOK base 23 q6k := qcy (E := base) (E' := awake6.env) rfl rfl awake6.calls_ok fun xs v h => by
  unfold Cd.f0 at h
  split at h
  · cases h
    exact ⟨300, awake6.known⟩
  · cases h
theorem q29 {R : Type} {H : Heap} {k : AV → Heap → Option R} : polK q6k [] H k = k (.bool true) H := by
  unfold q6k
  rw [q0c (by simp)]
  rfl
end Go.Proofs.YtleikacgncpfbaaDoor

/- The law on kinds, tuples, lists: what its function answers. -/
set_option maxRecDepth 100000
set_option maxHeartbeats 16000000
namespace Go.Proofs.YtleikacgncpfbaaDoor
open Go Go.Den Go.Lib
/-! ### numbers as terms, by the reference -/
def numT (a : Nm) : Tm := .mk 0 a.1 a.2 [] 0 none none
theorem qhl (a : Nm) : eT (numT a) = .agg [.int .i64 0, .bool a.1, eD a.2, .str [], .int .i64 0, .nils, .nils] := by rw [q3c]; rfl
noncomputable def pRtn : Pol := .still (p1 cN eT (fun a => few a.2) fun a => numT (rnormS a))
theorem okRtn : PolOK base 68 pRtn := still1 base_ok [(35, pRnorm)] ⟨qe4, trivial⟩ fun a hf => by
  have k1 : ∀ (R : Type) (H : Heap) (k : AV → Heap → Option R), polK pRnorm [eN a] H k = k (eN (rnormS a)) H := fun R H k => kRnorm hf
  have e0 : cN.enc a = eN a := rfl
  have e1 : ∀ a : Nm, (eN a).cells.length = 2 ∧ (eN a).isDef = true ∧ A.ofList true 2 (eN a).cells 0 = some (eN a) ∧ A.fits 2 (eN a) = true := fun a => ⟨by simp, by simp, by simp [A.ofList], by simp [A.fits]⟩
  obtain ⟨a1, a2, a3, -⟩ := e1 a
  obtain ⟨b1, -, -, b4⟩ := e1 (rnormS a)
  have sp : ∀ c : List AV, c.length = 2 → A.splice c 0 (eN (rnormS a)).cells = (eN (rnormS a)).cells := fun c hc => by
    unfold A.splice
    rw [List.take_zero, List.drop_of_length_le (by omega)]
    simp
  have sp' := sp _ a1
  have o1 : ∀ h : 0 < (eN (rnormS a)).cells.length, (eN (rnormS a)).cells[0]'h = .bool (rnormS a).1 := fun h => by simp
  have o2 : ∀ h : 1 < (eN (rnormS a)).cells.length, (eN (rnormS a)).cells[1]'h = eD (rnormS a).2 := fun h => by simp
  have hfl : (A.fill [(AV.int .i64 0), (AV.bool false), AV.nils, (AV.str []), (AV.int .i64 0), AV.nils, AV.nils] [(0, 1, (AV.int .i64 0)), (1, 1, .bool (rnormS a).1), (2, 1, eD (rnormS a).2)]).map .agg = some (eT (numT (rnormS a))) := by
    rw [qhl]
    cases (rnormS a).2 <;> rfl
  have f1 : (eT (numT (rnormS a))).cells.length = 7 := by rw [q02]; rfl
  have f2 : A.fits 7 (eT (numT (rnormS a))) = true := by rw [qhl]; cases (rnormS a).2 <;> rfl
  have f3 : A.splice [(AV.int .i64 0), (AV.bool false), AV.nils, (AV.str []), (AV.int .i64 0), AV.nils, AV.nils] 0 (eT (numT (rnormS a))).cells = (eT (numT (rnormS a))).cells := by rw [q02]; rfl
  have f4 : A.ofList true 7 (eT (numT (rnormS a))).cells 0 = some (eT (numT (rnormS a))) := q17 (H := [])
  have f5 : A.freezeB true 64 [] (eT (numT (rnormS a))) = some (eT (numT (rnormS a))) := qhy
  rw [e0]
  generalize eT (numT (rnormS a)) = vt at *
  generalize eD (rnormS a).2 = vd at *
  generalize eN (rnormS a) = vn at *
  generalize eN a = va at *
  refine Evs.of fun n m => ?_
  simp [↓q0a, ↓q01, ↓q05, S68, k1, a1, a2, a3, b1, b4, sp', o1, o2, hfl, f1, f2, f3, f4, f5]
theorem kRtn {R : Type} {a : Nm} (h : few a.2) {H : Heap} {k : AV → Heap → Option R} : polK pRtn [eN a] H k = k (eT (numT (rnormS a))) H := by
  simp [pRtn, q0c, h]
noncomputable def intR (z : Int) : Tm := numT (rnormS (rofS z))
theorem rof_few {z : Int} (z1 : -9223372036854775808 ≤ z) (z2 : z ≤ 9223372036854775807) : few (rofS z).2 := by
  unfold few
  rw [(rep_rof z1 z2).2]
  have : (lim z.natAbs).length ≤ 2 := lim_le.2 (by simp; omega)
  omega
noncomputable def pRti : Pol := .still (p1 (cI .i64) eT (fun n => -9223372036854775808 ≤ n ∧ n ≤ 9223372036854775807) intR)
theorem okRti : PolOK base 29 pRti := still1 base_ok [(36, pRof), (68, pRtn)] ⟨okRof, okRtn, trivial⟩ fun z ⟨z1, z2⟩ => by
  have k1 : ∀ (R : Type) (H : Heap) (k : AV → Heap → Option R), polK pRof [.int .i64 z] H k = k (eN (rofS z)) H := fun R H k => kRof z1 z2
  have k2 : ∀ (R : Type) (H : Heap) (k : AV → Heap → Option R), polK pRtn [eN (rofS z)] H k = k (eT (intR z)) H := fun R H k => kRtn (rof_few z1 z2)
  have e0 : (cI .i64).enc z = .int .i64 z := rfl
  have f1 : (eT (intR z)).cells.length = 7 := by rw [q02]; rfl
  have f2 : A.fits 7 (eT (intR z)) = true := by unfold intR; rw [qhl]; cases (rnormS (rofS z)).2 <;> rfl
  have f3 : A.splice [(AV.int .i64 0), (AV.bool false), AV.nils, (AV.str []), (AV.int .i64 0), AV.nils, AV.nils] 0 (eT (intR z)).cells = (eT (intR z)).cells := by rw [q02]; rfl
  have f4 : A.ofList true 7 (eT (intR z)).cells 0 = some (eT (intR z)) := q17 (H := [])
  have f5 : A.freezeB true 64 [] (eT (intR z)) = some (eT (intR z)) := qhy
  rw [e0]
  generalize eT (intR z) = vt at *
  generalize eN (rofS z) = vn at *
  refine Evs.of fun n m => ?_
  simp [↓q0a, ↓q01, ↓q05, S29, k1, k2, f1, f2, f3, f4, f5]
theorem kRti {R : Type} {z : Int} (z1 : -9223372036854775808 ≤ z) (z2 : z ≤ 9223372036854775807) {H : Heap} {k : AV → Heap → Option R} : polK pRti [.int .i64 z] H k = k (eT (intR z)) H := by
  simp [pRti, q0c, z1, z2]
end Go.Proofs.YtleikacgncpfbaaDoor

/- The law on any three terms: what its function answers. -/
set_option maxRecDepth 100000
set_option maxHeartbeats 8000000
namespace Go.Proofs.YtleikacgncpfbaaDoor
open Go Go.Den Go.Lib
noncomputable abbrev TLh : List (FuncId × Pol) := [(23, q6k), (24, pRooms), (25, pCom)]
structure Three (P : AV) (g : Nat → Tm) : Prop where
  get : ∀ i : Nat, i < 3 → ∃ q, ∀ H : Heap, A.idxArr 7 3 P (.int .i64 (i : Int)) H = some q ∧ A.load true 7 q H = some (eT (g i))
  cmp : ∀ i j : Nat, i < 3 → j < 3 → ∀ (R : Type) (H : Heap) (k : AV → Heap → Option R), polK pCom [eT (g i), eT (g j)] H k = k (.int .i64 (cmpT (g i) (g j))) H
  cmq : ∀ i j : Nat, i < 3 → j < 3 → ∀ (R : Type) (H : Heap) (k : AV → Heap → Option R), polQ pCom [eT (g i), eT (g j)] H k = k (.int .i64 (cmpT (g i) (g j))) H
  trans : ∀ i j k : Nat, i < 3 → j < 3 → k < 3 → cmpT (g i) (g j) ≤ 0 → cmpT (g j) (g k) ≤ 0 → cmpT (g i) (g k) ≤ 0
theorem qaz {α : Type} {sz : Nat} {e : α → AV} {o : Option (List α)} : (eL sz e o).leaf = true := by cases o <;> rfl
theorem qb0 {t : Tm} : (eT t).cells.all AV.leaf = true := by
  have hd : (eD t.d).leaf = true := qaz
  have hl : (eL 7 eT t.l).leaf = true := qaz
  have hb : (eL 1 eb t.b).leaf = true := qaz
  rw [q02, List.all_cons, List.all_cons, List.all_cons, List.all_cons, List.all_cons, List.all_cons, List.all_cons, hd, hl, hb]
  rfl
end Go.Proofs.YtleikacgncpfbaaDoor

/- The law on terms in order: what its function answers. -/
set_option maxRecDepth 100000
set_option maxHeartbeats 4000000
namespace Go.Proofs.YtleikacgncpfbaaDoor
open Go Go.Den Go.Lib
noncomputable abbrev TLs : List (FuncId × Pol) := [(23, q6k), (24, pRooms), (51, pSort), (52, pMax), (53, pRsort), (42, pRowX), (41, pSameX)]
theorem ty_tms_in {n : Nat} {v : AV} (h : Ty Tryd.prog n 23 v) : ∃ o : Option (List Tm), v = eL 7 eT o := by
  obtain ⟨m, es, hm, him, -, hes⟩ := h.slice (e := 26) (by kernel_rfl)
  obtain ⟨l, hl, -⟩ := q4d (f := eT) (p := fun _ => True) (es := es) fun x hx => by
    obtain ⟨t, ht⟩ := ty_tm m x (hes x hx)
    exact ⟨t, ht, trivial⟩
  have hc : Tryd.prog.cellsOf 26 = 7 := by kernel_rfl
  rw [hc] at him
  cases him with
  | nil => exact ⟨none, rfl⟩
  | sh _ =>
    subst hl
    exact ⟨some l, rfl⟩
end Go.Proofs.YtleikacgncpfbaaDoor

/- The law on kinds, tuples, lists: what its function answers. -/
set_option maxRecDepth 100000
set_option maxHeartbeats 32000000
namespace Go.Proofs.YtleikacgncpfbaaDoor
open Go Go.Den Go.Lib
/-! ### a literal that is appended to -/
theorem qj1 {xs : List Tm} {o : Option (List Tm)} (hl : xs.length + (o.getD []).length ≤ 1000) (H : Heap) : ∃ v H', A.append 7 112 26 (.lit 7 (xs.map eT)) ((o.getD []).map eT) H = some (v, H') ∧ A.freezeB true 64 H' v = some (eL 7 eT (some (xs ++ o.getD []))) := by
  generalize o.getD [] = l at *
  cases l with
  | nil => exact ⟨.sh 7 (xs.map eT), H, rfl, by rw [List.append_nil]; rfl⟩
  | cons x l =>
    refine ⟨.sl H.length 0 0 (xs.map eT ++ (x :: l).map eT).length (xs.map eT ++ (x :: l).map eT).length, H ++ [.row 0 7 26 (xs.map eT ++ (x :: l).map eT)], ?_, ?_⟩
    · show (if 7 = 7 ∧ ((xs.map eT).length + ((x :: l).map eT).length) * 112 ≤ 140737488355328 ∧ 0 < 112 then some (A.newRow 7 26 (xs.map eT ++ (x :: l).map eT) H) else none) = _
      rw [if_pos ⟨rfl, by simp only [List.length_map]; omega, by omega⟩]
      rfl
    · rw [← List.map_append, List.length_map]
      exact q9v (n := 62) q3j
theorem qe1 {xs : List Tm} {o : Option (List Tm)} (hl : xs.length + (o.getD []).length ≤ 1000) (hx : ∀ u ∈ xs, partR u) (ho : ∀ u ∈ o.getD [], partR u) (H : Heap) :
    ∃ v H' H'', A.append 7 112 26 (.lit 7 (xs.map eT)) ((o.getD []).map eT) H = some (v, H') ∧ ∀ (R : Type) (k : AV → Heap → Option R), polK pRtup [v] H' k = k (eT (tupT ((xs ++ o.getD []).map canonT))) H'' := by
  obtain ⟨v, H', h1, h2⟩ := qj1 hl H
  refine ⟨v, H', bif (eT (tupT ((xs ++ o.getD []).map canonT))).flat then H' else kill ([v].flatMap (reach 64 H')) H', h1, fun R k => ?_⟩
  have hs : allR (some (xs ++ o.getD [])) := ⟨fun u hu => (List.mem_append.1 hu).elim (hx u) (ho u), by simpa using hl⟩
  unfold pRtup
  rw [qbi (q2y h2 rfl)]
  simp [hs]
theorem qfd {xs : List Tm} {o : Option (List Tm)} (hl : xs.length + (o.getD []).length ≤ 40) (hx : ∀ u ∈ xs, partR u) (ho : ∀ u ∈ o.getD [], partR u) (H : Heap) :
    ∃ v H' H'', A.append 7 112 26 (.lit 7 (xs.map eT)) ((o.getD []).map eT) H = some (v, H') ∧ ∀ (R : Type) (k : AV → Heap → Option R), polK pRlist [v] H' k = k (eT (listT ((xs ++ o.getD []).map canonT))) H'' := by
  obtain ⟨v, H', h1, h2⟩ := qj1 (xs := xs) (o := o) (by omega) H
  refine ⟨v, H', bif (eT (listT ((xs ++ o.getD []).map canonT))).flat then H' else kill ([v].flatMap (reach 64 H')) H', h1, fun R k => ?_⟩
  have hs : allRL (some (xs ++ o.getD [])) := ⟨fun u hu => (List.mem_append.1 hu).elim (hx u) (ho u), by simpa using hl⟩
  unfold pRlist
  rw [qbi (q2y h2 rfl)]
  simp [hs]
/-! ### what is compared -/
theorem q6s : ∀ t : Tm, tame t → tame (canonT t) := q4p fun t ih h => by
  have h1 := tame_eq.1 h
  refine tame_eq.2 ⟨⟨?_, ?_, ?_⟩, fun u hu => ?_⟩
  · rw [q0s]
    show ((nz (t.d.getD [])).getD []).length ≤ _
    rw [q3z]
    exact h1.1.1
  · rw [q0s]
    exact h1.1.2.1
  · rw [q30, List.length_map]
    exact h1.1.2.2
  · rw [q30] at hu
    obtain ⟨x, hx, rfl⟩ := List.mem_map.1 hu
    exact ih x hx (h1.2 x hx)
theorem okR_tup {l : List Tm} (h : ∀ u ∈ l, okR u) (hl : l.length ≤ 1000) : okR (tupT l) := by
  refine okR_eq.2 ⟨⟨?_, ?_, ?_, ?_⟩, fun u hu => ?_⟩
  · exact Nat.zero_le _
  · exact Nat.zero_le _
  · exact Nat.zero_le _
  · rw [q1a]; exact hl
  · rw [q1a] at hu; exact h u hu
theorem qba : ∀ {l : List Tm}, (∀ u ∈ l, okR u) → okR (listT l)
  | [], _ => okR_eq.2 ⟨⟨Nat.zero_le _, Nat.zero_le _, Nat.zero_le _, Nat.zero_le _⟩, fun u hu => by cases hu⟩
  | t :: l, h => by
    refine okR_eq.2 ⟨⟨Nat.zero_le _, Nat.zero_le _, Nat.zero_le _, by show 2 ≤ 1000; omega⟩, fun u hu => ?_⟩
    have hu : u ∈ [t, listT l] := hu
    simp only [List.mem_cons, List.not_mem_nil, or_false] at hu
    rcases hu with rfl | rfl
    · exact h u List.mem_cons_self
    · exact qba fun u hu => h u (List.mem_cons_of_mem _ hu)
theorem q9m (l : List Tm) : cmpTs l l = 0 := by
  induction l with
  | nil => exact q31 _
  | cons t l ih => rw [q15, cmp_self, if_neg (by simp), ih]
theorem cmp_tup {a b : Tm} {l : List Tm} : cmpT (tupT (a :: l)) (tupT (b :: l)) = cmpT a b := by
  have h1 : oneT (tupT (a :: l)) (tupT (b :: l)) = 0 := by
    unfold oneT
    rw [if_neg (fun h => h rfl), q1a, q1a]
    show (if (4 : Int) = 0 then _ else if (4 : Int) = 1 then _ else if (4 : Int) = 2 ∨ (4 : Int) = 3 then _ else if (4 : Int) = 4 ∨ (4 : Int) = 6 then _ else _) = (0 : Int)
    rw [if_neg (by decide), if_neg (by decide), if_neg (by decide), if_pos (by decide)]
    exact ord_zero.2 (by simp)
  rw [q2k, if_neg (fun h => h h1), if_pos (show (tupT (a :: l)).kind = 4 ∨ (tupT (a :: l)).kind = 6 from .inl rfl), q1a, q1a, q15, q9m]
  split <;> omega
theorem cmp_list {a b : Tm} {l : List Tm} : cmpT (listT (a :: l)) (listT (b :: l)) = cmpT a b := by
  have k1 : ∀ x : Tm, (listT (x :: l)).kids = [x, listT l] := fun x => rfl
  have h1 : oneT (listT (a :: l)) (listT (b :: l)) = 0 := by
    unfold oneT
    rw [if_neg (fun h => h rfl), k1, k1]
    show (if (6 : Int) = 0 then _ else if (6 : Int) = 1 then _ else if (6 : Int) = 2 ∨ (6 : Int) = 3 then _ else if (6 : Int) = 4 ∨ (6 : Int) = 6 then _ else _) = (0 : Int)
    rw [if_neg (by decide), if_neg (by decide), if_neg (by decide), if_pos (by decide)]
    exact ord_zero.2 (by simp)
  rw [q2k, if_neg (fun h => h h1), if_pos (show (listT (a :: l)).kind = 4 ∨ (listT (a :: l)).kind = 6 from .inr rfl), k1, k1, q15, q9m]
  split <;> omega
theorem cmp_more {l m : List Tm} (h : l.length < m.length) : cmpT (tupT l) (tupT m) = -1 := by
  have h1 : oneT (tupT l) (tupT m) = -1 := by
    unfold oneT
    rw [if_neg (fun h => h rfl), q1a, q1a]
    show (if (4 : Int) = 0 then _ else if (4 : Int) = 1 then _ else if (4 : Int) = 2 ∨ (4 : Int) = 3 then _ else if (4 : Int) = 4 ∨ (4 : Int) = 6 then _ else _) = (-1 : Int)
    rw [if_neg (by decide), if_neg (by decide), if_neg (by decide), if_pos (by decide)]
    unfold ordI
    rw [if_pos (by omega)]
  rw [q2k, h1, if_pos (by decide)]
theorem q9n {a b : Tm} (h : a.kind ≠ b.kind) : cmpT a b = ordI a.kind b.kind := by
  have h1 : oneT a b = ordI a.kind b.kind := by
    unfold oneT
    rw [if_pos h]
  rw [q2k, h1, if_pos (fun e => h (ord_zero.1 e))]
theorem qco (a : Tm) (l : List Tm) : (listT (a :: l)).kind = 6 := rfl
theorem qb7 {t : Tm} (hr : okR t) (h : mayS t = true) : okA t ∧ t.size ≤ 1000000000 := by
  unfold mayS at h
  simp only [Bool.and_eq_true, decide_eq_true_eq] at h
  refine ⟨qj6 t hr h.2, ?_⟩
  rw [qfy t h.2]
  have := h.1
  omega
theorem qi4 (z : Int) : (intR z).kids = [] := rfl
theorem qck {z : Int} (z1 : -9223372036854775808 ≤ z) (z2 : z ≤ 9223372036854775807) : partR (intR z) ∧ okA (canonT (intR z)) := by
  have hf : few (intR z).d := q33 (rof_few z1 z2)
  have hk := qi4 z
  refine ⟨⟨⟨tame_eq.2 ⟨⟨hf, Nat.zero_le _, by rw [hk]; simp⟩, fun u hu => by rw [hk] at hu; cases hu⟩, fineT_eq.2 ⟨⟨hf, Nat.zero_le _, by rw [hk]; simp⟩, fun u hu => by rw [hk] at hu; cases hu⟩⟩, fun u hu => by rw [hk] at hu; cases hu⟩, ?_⟩
  have hck : (canonT (intR z)).kids = [] := by rw [q30, hk]; rfl
  refine okA_eq.2 ⟨⟨⟨?_, ?_, ?_⟩, by rw [hck]; simp⟩, fun u hu => by rw [hck] at hu; cases hu⟩
  · rw [q0s]; exact Int.le_refl 0
  · rw [q0s]; exact (by omega : (0 : Int) ≤ 7)
  · rw [q0s]
    show ((nz ((intR z).d.getD [])).getD []).length ≤ _
    rw [q3z]
    exact hf
theorem q35 {u : Tm} (h : roomS u 8 40 = true ∧ mayS u = true) : partR u :=
  ⟨⟨q42 (by omega) u 8 h.1, room_fine (by omega) u 8 h.1⟩, qd1 20 u 8 (by omega) h.1⟩
noncomputable abbrev TLki : List (FuncId × Pol) := [(23, q6k), (24, pRooms), (25, pCom), (27, pRtup), (28, pRlist), (18, pRMayA), (29, pRti)]
theorem okTLki : TabOK base TLki := ⟨okAwake6, okRooms, okCom, okRtup, okRlist, okRMayA, okRti, trivial⟩
structure ValT (v : AV) : Prop where
  len : v.cells.length = 7
  fits : A.fits 7 v = true
  spl : A.splice [(AV.int .i64 0), (AV.bool false), AV.nils, (AV.str []), (AV.int .i64 0), AV.nils, AV.nils] 0 v.cells = v.cells
  get : A.ofList true 7 v.cells 0 = some v
theorem valT (t : Tm) : ValT (eT t) := ⟨by rw [q02]; rfl, by rw [q3c]; simp [A.fits], by rw [q02]; rfl, q17 (H := [])⟩
theorem qis (a b : Tm) (o : Option (List Tm)) : Evs fun n _ => callF (base.with (polT TLki)) (n + 1) AV 6 [eT a, eT b, eL 7 eT o] [] (fun v _ => some v) = some (.bool true) := by
  have la : (eT a).cells.length = 7 := by rw [q02]; rfl
  have lb : (eT b).cells.length = 7 := by rw [q02]; rfl
  have da : (eT a).isDef = true := qay
  have db : (eT b).isDef = true := qay
  have fa := qb0 (t := a)
  have fb := qb0 (t := b)
  have oa : ∀ H, A.load true 7 (.rop (eT a).cells) H = some (eT a) := fun H => q17
  have ob : ∀ H, A.load true 7 (.rop (eT b).cells) H = some (eT b) := fun H => q17
  have pa : ∀ H, A.fa 0 (.rop (eT a).cells) H = some (.rop (eT a).cells) := fun H => by simp [A.fa]
  have pb : ∀ H, A.fa 0 (.rop (eT b).cells) H = some (.rop (eT b).cells) := fun H => by simp [A.fa]
  have qa : ∀ H, A.load false 1 (.rop (eT a).cells) H = some (.int .i64 a.kind) := fun H => by rw [q02]; rfl
  have qb : ∀ H, A.load false 1 (.rop (eT b).cells) H = some (.int .i64 b.kind) := fun H => by rw [q02]; rfl
  have hfe : A.fillElems 7 [AV.agg [(AV.int .i64 0), (AV.bool false), AV.nils, (AV.str []), (AV.int .i64 0), AV.nils, AV.nils], AV.agg [(AV.int .i64 0), (AV.bool false), AV.nils, (AV.str []), (AV.int .i64 0), AV.nils, AV.nils]] [(0, 1, eT a), (1, 1, eT b)] = some [eT a, eT b] := by
    simp [-q02, A.fillElems, la, lb, da, db]
  have hf1 : A.fillElems 7 [AV.agg [(AV.int .i64 0), (AV.bool false), AV.nils, (AV.str []), (AV.int .i64 0), AV.nils, AV.nils]] [(0, 1, eT a)] = some [eT a] := by
    simp [-q02, A.fillElems, la, da]
  have hf2 : A.fillElems 7 [AV.agg [(AV.int .i64 0), (AV.bool false), AV.nils, (AV.str []), (AV.int .i64 0), AV.nils, AV.nils]] [(0, 1, eT b)] = some [eT b] := by
    simp [-q02, A.fillElems, lb, db]
  have hrm : ∀ (R : Type) (H : Heap) (k : AV → Heap → Option R), polK pRooms [.sh 7 [eT a, eT b], .int .i64 2] H k = k (.bool (roomsS (some [a, b]) 2)) H := fun R H k => kRooms (o := some [a, b]) (by omega)
  have hro : ∀ (R : Type) (H : Heap) (k : AV → Heap → Option R), polK pRooms [eL 7 eT o, .int .i64 8] H k = k (.bool (roomsS o 8)) H := fun R H k => kRooms (by omega)
  have hrd : ∀ H, A.read 7 (eL 7 eT o) H = some ((o.getD []).map eT) := fun H => by cases o <;> rfl
  cases hr : roomsS (some [a, b]) 2
  · rw [hr] at hrm
    clear hro hrd
    generalize eT a = va at *
    generalize eT b = vb at *
    generalize eL 7 eT o = vo at *
    exact Evs.of fun n m => by simp [↓q00, ↓q06, ↓q0a, ↓q01, ↓q04, ↓q0b, ↓q03, ↓q05, S6, q29, la, lb, da, db, fa, fb, oa, ob, hfe, hrm, A.asG, guardB, A.pick]
  rw [hr] at hrm
  cases hr2 : roomsS o 8
  · rw [hr2] at hro
    clear hrd
    generalize eT a = va at *
    generalize eT b = vb at *
    generalize eL 7 eT o = vo at *
    exact Evs.of fun n m => by simp [↓q00, ↓q06, ↓q0a, ↓q01, ↓q04, ↓q0b, ↓q03, ↓q05, S6, q29, la, lb, da, db, fa, fb, oa, ob, hfe, hrm, hro, A.asG, guardB, A.pick]
  rw [hr2] at hro
  obtain ⟨-, hall1⟩ := qa8 hr
  obtain ⟨hlo, hall2⟩ := qa8 hr2
  have ra := hall1 a (by simp)
  have rb := hall1 b (by simp)
  have ga := qbk ra
  have gb := qbk rb
  have kx : ∀ (R : Type) (H : Heap) (k : AV → Heap → Option R), polK pCom [eT a, eT b] H k = k (.int .i64 (cmpT a b)) H := fun R H k => kCom ga.1 gb.1 (by have := ga.2.2; omega)
  have hkind : a.kind ≠ b.kind → decide (cmpT a b < 0) = decide (a.kind < b.kind) := fun h => by
    rw [q9n h]
    unfold ordI
    by_cases h1 : a.kind < b.kind
    · rw [if_pos h1]
      simp [h1]
    · rw [if_neg h1]
      by_cases h2 : b.kind < a.kind <;> simp [h1, h2]
  have hbn : ∀ (x : Bool) (H : Heap), A.bin base.P .neq 4 (.bool x) (.bool x) false H = some (.bool false) := fun x H => by
    have hb : base.P.underlying 4 = some .bool := by kernel_rfl
    cases x <;> simp [A.bin, hb]
  have pR : ∀ u ∈ o.getD [], partR u := fun u hu => q35 (hall2 u hu)
  have lo : (o.getD []).length ≤ 8 := by omega
  have i9 := qck (z := -9) (by omega) (by omega)
  have i0 := qck (z := 0) (by omega) (by omega)
  have k9 : ∀ (R : Type) (H : Heap) (k : AV → Heap → Option R), polK pRti [.int .i64 (-9)] H k = k (eT (intR (-9))) H := fun R H k => kRti (by omega) (by omega)
  have k0 : ∀ (R : Type) (H : Heap) (k : AV → Heap → Option R), polK pRti [.int .i64 0] H k = k (eT (intR 0)) H := fun R H k => kRti (by omega) (by omega)
  have hf3 : A.fillElems 7 [AV.agg [(AV.int .i64 0), (AV.bool false), AV.nils, (AV.str []), (AV.int .i64 0), AV.nils, AV.nils], AV.agg [(AV.int .i64 0), (AV.bool false), AV.nils, (AV.str []), (AV.int .i64 0), AV.nils, AV.nils]] [(0, 1, eT (intR (-9))), (1, 1, eT (intR 0))] = some [eT (intR (-9)), eT (intR 0)] := by
    have l9 : (eT (intR (-9))).cells.length = 7 := by rw [q02]; rfl
    have l0 : (eT (intR 0)).cells.length = 7 := by rw [q02]; rfl
    simp [-q02, A.fillElems, l9, l0]
  have f9 := qb0 (t := intR (-9))
  have f0 := qb0 (t := intR 0)
  obtain ⟨v1, H1, G1, p1, t1⟩ := qe1 (xs := [a]) (o := o) (by simp; omega) (fun u hu => by rw [List.mem_singleton] at hu; rw [hu]; exact q35 ra) pR []
  obtain ⟨v2, H2, G2, p2, t2⟩ := qe1 (xs := [b]) (o := o) (by simp; omega) (fun u hu => by rw [List.mem_singleton] at hu; rw [hu]; exact q35 rb) pR G1
  obtain ⟨v3, H3, G3, p3, t3⟩ := qfd (xs := [a]) (o := o) (by simp; omega) (fun u hu => by rw [List.mem_singleton] at hu; rw [hu]; exact q35 ra) pR G2
  obtain ⟨v4, H4, G4, p4, t4⟩ := qfd (xs := [b]) (o := o) (by simp; omega) (fun u hu => by rw [List.mem_singleton] at hu; rw [hu]; exact q35 rb) pR G3
  obtain ⟨v5, H5, G5, p5, t5⟩ := qe1 (xs := [intR (-9), intR 0]) (o := o) (by simp; omega) (fun u hu => by
    simp only [List.mem_cons, List.not_mem_nil, or_false] at hu
    rcases hu with rfl | rfl
    · exact i9.1
    · exact i0.1) pR G4
  simp only [List.map_cons, List.map_nil, List.cons_append, List.nil_append] at p1 t1 p2 t2 p3 t3 p4 t4 p5 t5
  have okl : ∀ u ∈ (o.getD []).map canonT, okR u ∧ tame u := fun u hu => by
    obtain ⟨x, hx, rfl⟩ := List.mem_map.1 hu
    exact ⟨q80 x (qbk (hall2 x hx)).2.1, q6s x (q42 (by omega) x 8 (hall2 x hx).1)⟩
  have llo : ((o.getD []).map canonT).length ≤ 8 := by simpa using lo
  have oka : okR (canonT a) ∧ tame (canonT a) := ⟨q80 a ga.2.1, q6s a (q42 (by omega) a 8 ra.1)⟩
  have okb : okR (canonT b) ∧ tame (canonT b) := ⟨q80 b gb.2.1, q6s b (q42 (by omega) b 8 rb.1)⟩
  have hab : cmpT (canonT a) (canonT b) = cmpT a b := qgd a b
  have haA : okA (canonT (intR (-9))) ∧ okA (canonT (intR 0)) := ⟨i9.2, i0.2⟩
  generalize (o.getD []).map canonT = L at *
  have cons1 : ∀ x : Tm, okR x ∧ tame x → ∀ u ∈ x :: L, okR u ∧ tame u := fun x hx u hu => by
    rcases List.mem_cons.1 hu with rfl | hu
    · exact hx
    · exact okl u hu
  have rT1 : okR (tupT (canonT a :: L)) := okR_tup (fun u hu => (cons1 _ oka u hu).1) (by simp; omega)
  have rT2 : okR (tupT (canonT b :: L)) := okR_tup (fun u hu => (cons1 _ okb u hu).1) (by simp; omega)
  have rL1 : okR (listT (canonT a :: L)) := qba fun u hu => (cons1 _ oka u hu).1
  have rL2 : okR (listT (canonT b :: L)) := qba fun u hu => (cons1 _ okb u hu).1
  have m1 : ∀ (R : Type) (H : Heap) (k : AV → Heap → Option R), polK pRMayA [eT (tupT (canonT a :: L))] H k = k (.bool (mayS (tupT (canonT a :: L)))) H := fun R H k => kRMayA (qg1 (fun u hu => (cons1 _ oka u hu).2) (by simp; omega))
  have m2 : ∀ (R : Type) (H : Heap) (k : AV → Heap → Option R), polK pRMayA [eT (tupT (canonT b :: L))] H k = k (.bool (mayS (tupT (canonT b :: L)))) H := fun R H k => kRMayA (qg1 (fun u hu => (cons1 _ okb u hu).2) (by simp; omega))
  have m3 : ∀ (R : Type) (H : Heap) (k : AV → Heap → Option R), polK pRMayA [eT (listT (canonT a :: L))] H k = k (.bool (mayS (listT (canonT a :: L)))) H := fun R H k => kRMayA (q8v (fun u hu => (cons1 _ oka u hu).2))
  have m4 : ∀ (R : Type) (H : Heap) (k : AV → Heap → Option R), polK pRMayA [eT (listT (canonT b :: L))] H k = k (.bool (mayS (listT (canonT b :: L)))) H := fun R H k => kRMayA (q8v (fun u hu => (cons1 _ okb u hu).2))
  obtain ⟨w11, w12, w13, w14⟩ := valT (tupT (canonT a :: L))
  obtain ⟨w21, w22, w23, w24⟩ := valT (tupT (canonT b :: L))
  obtain ⟨w31, w32, w33, w34⟩ := valT (listT (canonT a :: L))
  obtain ⟨w41, w42, w43, w44⟩ := valT (listT (canonT b :: L))
  obtain ⟨w51, w52, w53, w54⟩ := valT (tupT (canonT (intR (-9)) :: canonT (intR 0) :: L))
  have c1 : cmpT (tupT (canonT a :: L)) (tupT (canonT b :: L)) = cmpT a b := by rw [cmp_tup, hab]
  have c2 : cmpT (listT (canonT a :: L)) (listT (canonT b :: L)) = cmpT a b := by rw [cmp_list, hab]
  have c3 : cmpT (tupT (canonT a :: L)) (tupT (canonT (intR (-9)) :: canonT (intR 0) :: L)) = -1 := cmp_more (by simp)
  have c4 : cmpT (tupT (canonT a :: L)) (listT (canonT a :: L)) = -1 := by
    rw [q9n (by rw [qco]; exact (by decide : (4 : Int) ≠ 6)), qco]
    rfl
  have fin : (mayS (tupT (canonT a :: L)) = true → okA (tupT (canonT a :: L)) ∧ (tupT (canonT a :: L)).size ≤ 1000000000) ∧ (mayS (tupT (canonT b :: L)) = true → okA (tupT (canonT b :: L)) ∧ (tupT (canonT b :: L)).size ≤ 1000000000) ∧ (mayS (listT (canonT a :: L)) = true → okA (listT (canonT a :: L)) ∧ (listT (canonT a :: L)).size ≤ 1000000000) ∧ (mayS (listT (canonT b :: L)) = true → okA (listT (canonT b :: L)) ∧ (listT (canonT b :: L)).size ≤ 1000000000) := ⟨qb7 rT1, qb7 rT2, qb7 rL1, qb7 rL2⟩
  have okM : okA (tupT (canonT a :: L)) → okA (tupT (canonT (intR (-9)) :: canonT (intR 0) :: L)) := fun h => by
    refine okA_eq.2 ⟨⟨⟨(by omega : (0 : Int) ≤ 4), (by omega : (4 : Int) ≤ 7), Nat.zero_le _⟩, by rw [q1a]; simp; omega⟩, fun u hu => ?_⟩
    rw [q1a] at hu
    have h2 := (okA_eq.1 h).2
    rw [q1a] at h2
    simp only [List.mem_cons] at hu
    rcases hu with rfl | rfl | hu
    · exact haA.1
    · exact haA.2
    · exact h2 u (List.mem_cons_of_mem _ hu)
  have key : ∀ (b1 b2 b3 b4 : Bool), mayS (tupT (canonT a :: L)) = b1 → mayS (tupT (canonT b :: L)) = b2 → mayS (listT (canonT a :: L)) = b3 → mayS (listT (canonT b :: L)) = b4 → Evs fun n _ => callF (base.with (polT TLki)) (n + 1) AV 6 [eT a, eT b, eL 7 eT o] [] (fun v _ => some v) = some (.bool true) := fun b1 b2 b3 b4 e1 e2 e3 e4 => by
    rw [e1] at m1 fin
    rw [e2] at m2 fin
    rw [e3] at m3 fin
    rw [e4] at m4 fin
    have kc : b1 = true → b2 = true → b3 = true → b4 = true → (∀ (R : Type) (H : Heap) (k : AV → Heap → Option R), polK pCom [eT (tupT (canonT a :: L)), eT (tupT (canonT b :: L))] H k = k (.int .i64 (cmpT a b)) H) ∧ (∀ (R : Type) (H : Heap) (k : AV → Heap → Option R), polK pCom [eT (listT (canonT a :: L)), eT (listT (canonT b :: L))] H k = k (.int .i64 (cmpT a b)) H) ∧
        (∀ (R : Type) (H : Heap) (k : AV → Heap → Option R), polK pCom [eT (tupT (canonT a :: L)), eT (tupT (canonT (intR (-9)) :: canonT (intR 0) :: L))] H k = k (.int .i64 (-1)) H) ∧ (∀ (R : Type) (H : Heap) (k : AV → Heap → Option R), polK pCom [eT (tupT (canonT a :: L)), eT (listT (canonT a :: L))] H k = k (.int .i64 (-1)) H) := fun g1 g2 g3 g4 => by
      have q1 := fin.1 g1
      have q2 := fin.2.1 g2
      have q3 := fin.2.2.1 g3
      have q4 := fin.2.2.2 g4
      exact ⟨fun R H k => by rw [kCom q1.1 q2.1 q1.2, c1], fun R H k => by rw [kCom q3.1 q4.1 q3.2, c2], fun R H k => by rw [kCom q1.1 (okM q1.1) q1.2, c3], fun R H k => by rw [kCom q1.1 q3.1 q1.2, c4]⟩
    clear fin okM c1 c2 c3 c4 rT1 rT2 rL1 rL2 cons1 okl haA i9 i0 pR e1 e2 e3 e4
    generalize eT (tupT (canonT a :: L)) = T1 at *
    generalize eT (tupT (canonT b :: L)) = T2 at *
    generalize eT (listT (canonT a :: L)) = L1 at *
    generalize eT (listT (canonT b :: L)) = L2 at *
    generalize eT (tupT (canonT (intR (-9)) :: canonT (intR 0) :: L)) = M5 at *
    generalize eT (intR (-9)) = n9 at *
    generalize eT (intR 0) = n0 at *
    generalize cmpT a b = X at *
    generalize (o.getD []).map eT = es at *
    generalize eT a = va at *
    generalize eT b = vb at *
    generalize eL 7 eT o = vo at *
    refine Evs.of fun n m => ?_
    by_cases hk : a.kind = b.kind
    · cases b1
      · simp [↓q00, ↓q06, ↓q0a, ↓q01, ↓q04, ↓q0b, ↓q0i, ↓q03, ↓q05, S6, q29, la, lb, da, db, fa, fb, oa, ob, pa, pb, qa, qb, hfe, hf1, hf2, hrm, hro, hrd, A.asG, guardB, A.pick, kx, hk, q0v q1e, p1, t1, p2, t2, p3, t3, p4, t4, m1, w11, w12, w13, w14, w21, w22, w31, w32, w41, w42]
      · cases b2
        · simp [↓q00, ↓q06, ↓q0a, ↓q01, ↓q04, ↓q0b, ↓q0i, ↓q03, ↓q05, S6, q29, la, lb, da, db, fa, fb, oa, ob, pa, pb, qa, qb, hfe, hf1, hf2, hrm, hro, hrd, A.asG, guardB, A.pick, kx, hk, q0v q1e, p1, t1, p2, t2, p3, t3, p4, t4, m1, m2, w11, w12, w13, w14, w21, w22, w23, w24, w31, w32, w41, w42]
        · cases b3
          · simp [↓q00, ↓q06, ↓q0a, ↓q01, ↓q04, ↓q0b, ↓q0i, ↓q03, ↓q05, S6, q29, la, lb, da, db, fa, fb, oa, ob, pa, pb, qa, qb, hfe, hf1, hf2, hrm, hro, hrd, A.asG, guardB, A.pick, kx, hk, q0v q1e, p1, t1, p2, t2, p3, t3, p4, t4, m1, m2, m3, w11, w12, w13, w14, w21, w22, w23, w24, w31, w32, w33, w34, w41, w42]
          · cases b4
            · simp [↓q00, ↓q06, ↓q0a, ↓q01, ↓q04, ↓q0b, ↓q0i, ↓q03, ↓q05, S6, q29, la, lb, da, db, fa, fb, oa, ob, pa, pb, qa, qb, hfe, hf1, hf2, hrm, hro, hrd, A.asG, guardB, A.pick, kx, hk, q0v q1e, p1, t1, p2, t2, p3, t3, p4, t4, m1, m2, m3, m4, w11, w12, w13, w14, w21, w22, w23, w24, w31, w32, w33, w34, w41, w42, w43, w44]
            · obtain ⟨j1, j2, j3, j4⟩ := kc rfl rfl rfl rfl
              simp [↓q00, ↓q06, ↓q0a, ↓q01, ↓q04, ↓q0b, ↓q0i, ↓q03, ↓q05, S6, q29, la, lb, da, db, fa, fb, oa, ob, pa, pb, qa, qb, hfe, hf1, hf2, hrm, hro, hrd, A.asG, guardB, A.pick, kx, hk, q0v q1e, p1, t1, p2, t2, p3, t3, p4, t4, m1, m2, m3, m4, w11, w12, w13, w14, w21, w22, w23, w24, w31, w32, w33, w34, w41, w42, w43, w44, k9, k0, hf3, f9, f0, p5, t5, w51, w52, w53, w54, j1, j2, j3, j4]
    · have hd := hkind hk
      cases b1
      · simp [↓q00, ↓q06, ↓q0a, ↓q01, ↓q04, ↓q0b, ↓q0i, ↓q03, ↓q05, S6, q29, la, lb, da, db, fa, fb, oa, ob, pa, pb, qa, qb, hfe, hf1, hf2, hrm, hro, hrd, A.asG, guardB, A.pick, kx, hk, hd, hbn, q0v q1e, p1, t1, p2, t2, p3, t3, p4, t4, m1, w11, w12, w13, w14, w21, w22, w31, w32, w41, w42]
      · cases b2
        · simp [↓q00, ↓q06, ↓q0a, ↓q01, ↓q04, ↓q0b, ↓q0i, ↓q03, ↓q05, S6, q29, la, lb, da, db, fa, fb, oa, ob, pa, pb, qa, qb, hfe, hf1, hf2, hrm, hro, hrd, A.asG, guardB, A.pick, kx, hk, hd, hbn, q0v q1e, p1, t1, p2, t2, p3, t3, p4, t4, m1, m2, w11, w12, w13, w14, w21, w22, w23, w24, w31, w32, w41, w42]
        · cases b3
          · simp [↓q00, ↓q06, ↓q0a, ↓q01, ↓q04, ↓q0b, ↓q0i, ↓q03, ↓q05, S6, q29, la, lb, da, db, fa, fb, oa, ob, pa, pb, qa, qb, hfe, hf1, hf2, hrm, hro, hrd, A.asG, guardB, A.pick, kx, hk, hd, hbn, q0v q1e, p1, t1, p2, t2, p3, t3, p4, t4, m1, m2, m3, w11, w12, w13, w14, w21, w22, w23, w24, w31, w32, w33, w34, w41, w42]
          · cases b4
            · simp [↓q00, ↓q06, ↓q0a, ↓q01, ↓q04, ↓q0b, ↓q0i, ↓q03, ↓q05, S6, q29, la, lb, da, db, fa, fb, oa, ob, pa, pb, qa, qb, hfe, hf1, hf2, hrm, hro, hrd, A.asG, guardB, A.pick, kx, hk, hd, hbn, q0v q1e, p1, t1, p2, t2, p3, t3, p4, t4, m1, m2, m3, m4, w11, w12, w13, w14, w21, w22, w23, w24, w31, w32, w33, w34, w41, w42, w43, w44]
            · obtain ⟨j1, j2, j3, j4⟩ := kc rfl rfl rfl rfl
              simp [↓q00, ↓q06, ↓q0a, ↓q01, ↓q04, ↓q0b, ↓q0i, ↓q03, ↓q05, S6, q29, la, lb, da, db, fa, fb, oa, ob, pa, pb, qa, qb, hfe, hf1, hf2, hrm, hro, hrd, A.asG, guardB, A.pick, kx, hk, hd, hbn, q0v q1e, p1, t1, p2, t2, p3, t3, p4, t4, m1, m2, m3, m4, w11, w12, w13, w14, w21, w22, w23, w24, w31, w32, w33, w34, w41, w42, w43, w44, k9, k0, hf3, f9, f0, p5, t5, w51, w52, w53, w54, j1, j2, j3, j4]
  exact key _ _ _ _ rfl rfl rfl rfl
end Go.Proofs.YtleikacgncpfbaaDoor
