/- Texts put together: Awake5, Lw5c, Rc, So2, So3, So4, Lw5f. -/
import Derived.Test.YtleikacgncpfbaaDoorMi
import Derived.Test.YtleikacgncpfbaaDoorRows

/- The seat's first question: by computation. -/
set_option maxRecDepth 100000
namespace Go.Proofs.YtleikacgncpfbaaDoor.awake5
open Go Go.Den
def q5j : List FuncId := [15, 17, 19, 21, 30, 31, 39, 44, 47, 54, 55, 56, 58, 59, 69, 71, 72, 73, 75, 77, 78, 79, 82, 83, 84, 97, 98, 99, 106]
noncomputable def env0 : Env := { P := Tryd.prog, pol := fun _ => .plain, ann := fun _ => {}, glob := fun g => bif Nat.beq g 0 then flatD (H := Unit) Rows.laid_unicode_utf8_first else bif Nat.beq g 1 then flatD (H := Unit) Rows.laid_unicode_utf8_acceptRanges else none }
def q4f : List (Nat × List (Nat × Nat × Nat)) := []
def q5p : List (Nat × List (Nat × Nat × Nat)) → Nat → List (Nat × Nat × Nat)
  | [], _ => []
  | (g, l) :: r, f => bif Nat.beq g f then l else q5p r f
def annsIn (f : Nat) : Ann :=  .nil
noncomputable def tab (f : FuncId) : FAnn :=
  match Tryd.prog.funcs[f]? with
  | some fn => { ann := annsIn f, depth := Nat.log2 fn.ntmps + 1, sites := q5p q4f f, draws := mkDraws env0 (q5p q4f f) fn }
  | none => {}
noncomputable def env : Env := { env0 with ann := fun f => if f ∈ q5j then tab f else {} }
theorem qj4 : EnvOK env := envOK q5j (by kernel_rfl) (fun f hf => by show (if f ∈ q5j then tab f else {}).draws = []; rw [if_neg hf]) (by kernel_rfl)
theorem qcd : ∀ f, env.pol f = .plain ∨ ∃ F, env.pol f = .prim F ∧ PrimOK env f F := fun f => by
  refine .inl ?_
  show ( Pol.plain) = _
  rfl
theorem calls_ok (n : Nat) : CallOK env (callF env n) := q8l qj4 (by kernel_rfl) qcd n
def q4w : Option AV → Bool
  | some (.bool true) => true
  | _ => false
theorem q9n {x : Option AV} (h : q4w x = true) : x = some (.bool true) := by
  unfold q4w at h
  split at h
  · rfl
  · cases h
theorem known : callF env 300 AV 15 [] [] (fun v G => A.freezeB true 64 G v) = some (.bool true) := q9n (by kernel_rfl)
end Go.Proofs.YtleikacgncpfbaaDoor.awake5
namespace Go.Proofs.YtleikacgncpfbaaDoor
open Go Go.Den
noncomputable def qc7 : Pol := .still (Cd.f0 (.bool true))
theorem okAwake5 : PolOK base 15 qc7 := q9l (E := base) (E' := awake5.env) rfl rfl awake5.calls_ok fun xs v h => by
  unfold Cd.f0 at h
  split at h
  · cases h
    exact ⟨300, awake5.known⟩
  · cases h
theorem q94 {R : Type} {H : Heap} {k : AV → Heap → Option R} : polK qc7 [] H k = k (.bool true) H := by
  unfold qc7
  rw [q0b (by simp)]
  rfl
end Go.Proofs.YtleikacgncpfbaaDoor

/- Terms in a row: are they few and small; how many parts and words a tuple and a list have. -/
set_option maxRecDepth 100000
set_option maxHeartbeats 4000000
namespace Go.Proofs.YtleikacgncpfbaaDoor
open Go Go.Den
theorem room_fine {most : Int} (hm : most ≤ 1000) : ∀ t dep, roomS t dep most = true → fineT t := fun t => q4h (P := fun t => ∀ dep, roomS t dep most = true → fineT t) (fun t ih dep h => by
  rw [q4v] at h
  simp only [Bool.and_eq_true, Bool.not_eq_true', Bool.or_eq_false_iff, decide_eq_false_iff_not, List.all_eq_true] at h
  obtain ⟨⟨⟨⟨⟨h1, h2⟩, h3⟩, h4⟩, h5⟩, h6⟩ := h
  exact fineT_eq.2 ⟨⟨by unfold few; omega, by unfold fewB; omega, by omega⟩, fun u hu => ih u hu _ (h6 u hu)⟩) t
end Go.Proofs.YtleikacgncpfbaaDoor

/- Terms: the reference's copies, in a plain form. -/
set_option maxRecDepth 100000
set_option maxHeartbeats 4000000
namespace Go.Proofs.YtleikacgncpfbaaDoor
open Go Go.Den
mutual
def canonT : Tm → Tm
  | .mk k x d s n l b => .mk k x (nz (d.getD [])) s n (canonO l) (nz (b.getD []))
def canonO : Option (List Tm) → Option (List Tm)
  | none => none
  | some l => nz (canons l)
def canons : List Tm → List Tm
  | [] => []
  | t :: l => canonT t :: canons l
end
theorem qae : ∀ l : List Tm, canons l = l.map canonT
  | [] => by simp [canons]
  | t :: l => by rw [canons, qae l]; rfl
theorem q17 (t : Tm) : canonT t = .mk t.kind t.neg (nz (t.d.getD [])) t.name t.n (nz (t.kids.map canonT)) (nz (t.b.getD [])) := by
  cases t with
  | mk k x d s n l b =>
    rw [canonT]
    cases l with
    | none => rw [canonO]; rfl
    | some l => rw [canonO, qae]; rfl
structure SameT (a b : Tm) : Prop where
  kind : a.kind = b.kind
  neg : a.neg = b.neg
  d : a.d.getD [] = b.d.getD []
  name : a.name = b.name
  n : a.n = b.n
  kids : a.kids.map canonT = b.kids.map canonT
  b : a.b.getD [] = b.b.getD []
section
variable {α : Type} {e : α → AV} {sz bytes : Nat} {ty : TypeId}
def nv (l : List α) (id : Nat) : AV := if l = [] then .nils else .sl id 0 0 l.length l.length
def nr (e : α → AV) (sz : Nat) (ty : TypeId) (l : List α) : List HObj := if l = [] then [] else [.row 0 sz ty (l.map e)]
theorem qfy {l : List α} (hb : 0 < bytes) (hm : l.length * bytes ≤ 140737488355328) {H : Heap} : A.append sz bytes ty .nils (l.map e) H = some (nv l H.length, H ++ nr e sz ty l) := by
  cases l with
  | nil => simp [nv, nr, A.append]
  | cons x l =>
    rw [nil_append (by simp) hb (by simpa using hm)]
    simp [nv, nr]
theorem nv_one (l : List α) (id : Nat) : (nv l id).one = true ∧ (nv l id).cells = [nv l id] ∧ (nv l id).isDef = true := by
  unfold nv
  split <;> exact ⟨rfl, rfl, rfl⟩
theorem nv_frz {l : List α} {id m : Nat} {H : Heap} (hf : ∀ x, (e x).flat0 = true ∧ (e x).isDef = true) (h : l ≠ [] → H[id]? = some (.row 0 sz ty (l.map e))) : A.freezeB true (m + 2) H (nv l id) = some (eL sz e (nz l)) := by
  unfold nv nz
  by_cases hl : l = []
  · rw [if_pos hl, if_pos hl]
    rfl
  · rw [if_neg hl, if_neg hl]
    exact q1d (b := true) (m := m) (h hl) (by simp) (fun y hy => by
      obtain ⟨x, _, rfl⟩ := List.mem_map.1 hy
      exact hf x)
end
theorem frz_eT {n : Nat} {H : Heap} {t : Tm} : A.freezeB true (n + 2) H (eT t) = some (eT t) := by
  rw [← qc4]
  exact qgc qar
theorem qhr {n id w cap : Nat} {l : List Tm} {H : Heap} (hr : H[id]? = some (.row w 7 26 (l.map eT))) : A.freezeB true (n + 2) H (.sl id w 0 l.length cap) = some (.sh 7 (l.map eT)) := by
  show (match H[id]? with | some (.row w' z _ es) => if w' = w ∧ 0 + l.length ≤ es.length then (((es.drop 0).take l.length).mapM fun (e : AV) => match e with | AV.agg cs => (cs.mapM (A.freezeB true (n + 1) H)).map AV.agg | e => A.freezeB true (n + 1) H e).map (AV.sh z) else none | _ => none) = _
  rw [hr]
  dsimp only
  rw [if_pos ⟨rfl, by simp⟩, List.drop_zero, List.take_of_length_le (by simp)]
  have : ((l.map eT).mapM fun (e : AV) => match e with | AV.agg cs => (cs.mapM (A.freezeB true (n + 1) H)).map AV.agg | e => A.freezeB true (n + 1) H e) = some (l.map eT) := qgn rfl fun i hi => by
    have hf : A.freezeB true (n + 2) H (l.map eT)[i] = some (l.map eT)[i] := by
      rw [List.getElem_map]
      exact frz_eT
    have hcs : ∃ cs, (l.map eT)[i] = .agg cs := by
      rw [List.getElem_map]
      exact ⟨_, q2t _⟩
    obtain ⟨cs, hcs⟩ := hcs
    rw [hcs] at hf ⊢
    exact hf
  rw [this]
  rfl
/-! ### a row of terms that grows, while what was there before stands -/
def OutK (K : Nat) (H0 H : Heap) (v : AV) (l : List Tm) : Prop :=
  (∀ j, j < K → H[j]? = H0[j]?) ∧ K ≤ H.length ∧ ((l = [] ∧ v = .nils) ∨ ∃ id ver, l ≠ [] ∧ v = .sl id ver 0 l.length l.length ∧ H[id]? = some (.row ver 7 26 (l.map eT)) ∧ K ≤ id)
theorem OutK.push {K : Nat} {H0 H : Heap} {v : AV} {l : List Tm} (h : OutK K H0 H v l) (x : Tm) (hm : (l.length + 1) * 112 ≤ 140737488355328) :
    ∃ v' H', A.append 7 112 26 v [eT x] (H ++ [.row 0 7 26 [eT x]]) = some (v', H') ∧ OutK K H0 H' v' (l ++ [x]) := by
  obtain ⟨h1, h2, h⟩ := h
  rcases h with ⟨rfl, rfl⟩ | ⟨id, ver, h0, rfl, h3, h4⟩
  · refine ⟨_, _, nil_append (news := [eT x]) (by simp) (by omega) (by simp), fun j hj => ?_, by simp; omega, .inr ⟨_, 0, by simp, rfl, q1f, by simp; omega⟩⟩
    rw [List.getElem?_append_left (by simp; omega), List.getElem?_append_left (by omega)]
    exact h1 j hj
  · have h5 := qcf h3 [.row 0 7 26 [eT x]]
    refine ⟨_, _, q1q (news := [eT x]) h5 (by simp) (by simp) (by omega) (by simpa using hm), fun j hj => ?_, by simp; omega, .inr ⟨id, ver + 1, by simp, by simp, ?_, h4⟩⟩
    · rw [List.getElem?_set_ne (by omega), List.getElem?_append_left (by omega)]
      exact h1 j hj
    · rw [qfg h5]
      simp
theorem qgu {K : Nat} {H0 H : Heap} {v : AV} {l : List Tm} (h : OutK K H0 H v l) : v.one = true ∧ v.cells = [v] := by
  rcases h.2.2 with ⟨-, rfl⟩ | ⟨_, _, -, rfl, -⟩ <;> exact ⟨rfl, rfl⟩
theorem outK_frz {K n : Nat} {H0 H : Heap} {v : AV} {l : List Tm} (h : OutK K H0 H v l) : A.freezeB true (n + 2) H v = some (eL 7 eT (nz l)) := by
  rcases h.2.2 with ⟨rfl, rfl⟩ | ⟨id, ver, h0, rfl, h3, -⟩
  · rfl
  · unfold nz
    rw [if_neg h0]
    exact qhr h3
/-! ### the copy -/
def rcp (t : Tm) : Prop := tame t ∧ fineT t
noncomputable def pRcopy (n : Nat) : Pol := .still (p1 cT eT (fun t => t.size ≤ n ∧ rcp t) canonT)
theorem qRcopy' {n : Nat} {R : Type} {t : Tm} (h : t.size ≤ n) (h2 : rcp t) {H : Heap} {k : AV → Heap → Option R} : polQ (pRcopy n) [eT t] H k = k (eT (canonT t)) H := by
  simp [pRcopy, q29, h, h2]
def rc (t : Tm) (vd vl vb : AV) : List AV := [.int .i64 t.kind, .bool t.neg, vd, .str t.name, .int .i64 t.n, vl, vb]
theorem qi4 {n : Nat} {t : Tm} {K : Nat} {H0 : Heap} {c1 : List AV} {vd vb : AV} (hs : t.size ≤ n + 1) (ht : rcp t) : ∀ (k i : Nat) (v : AV) (H : Heap), i + k = t.kids.length → OutK K H0 H v ((t.kids.take i).map canonT) →
    ∃ v' H', LDoes (L46_0 (polT [(46, pRcopy n)])) ⟨[.int .i64 (i : Int)], [(eT t).cells, c1, rc t vd v vb]⟩ H 0 ⟨[], [c1, rc t vd v' vb]⟩ H' ∧ OutK K H0 H' v' (t.kids.map canonT) := by
  have hln : ∀ H, A.len (eL 7 eT t.l) H = some (.int .i64 ((t.kids.length : Nat) : Int)) := fun H => q08
  have oc : A.ofList false 1 (eT t).cells 5 = some (eL 7 eT t.l) := by rw [q02]; rfl
  have hl : t.kids.length ≤ 1000 := (tame_eq.1 ht.1).1.2.2
  intro k
  induction k with
  | zero =>
    intro i v H hi hO
    have : i = t.kids.length := by omega
    subst this
    rw [List.take_length] at hO
    refine ⟨v, H, LDoes.step (Evs.of fun n m => ?_), hO⟩
    generalize (eT t).cells = ct at *
    generalize (t.kids.length : Int) = N at *
    simp [↓q00, ↓q01, -q08, qa7, oc, hln]
  | succ k ih =>
    intro i v H hi hO
    have hlt : i < t.kids.length := by omega
    have hlt' : (i : Int) < (t.kids.length : Int) := by omega
    have hmem : t.kids[i] ∈ t.kids := List.getElem_mem hlt
    have hx : A.idx 7 (eL 7 eT t.l) (.int .i64 (i : Int)) H = some (.rop (eT t.kids[i]).cells) := q33 (sz := 7) (e := eT) (o := t.l) (H := H) (k := .i64) (i := i) hlt
    have hld := q0w (t := t.kids[i]) (H := H)
    have hsz : (t.kids[i]).size ≤ n := by
      have := Tm.size_kid (t := t) (u := t.kids[i]) hmem
      omega
    have hcp : ∀ (R : Type) (H : Heap) (k : AV → Heap → Option R), polQ (pRcopy n) [eT t.kids[i]] H k = k (eT (canonT t.kids[i])) H := fun R H k => qRcopy' hsz ⟨(tame_eq.1 ht.1).2 _ hmem, (fineT_eq.1 ht.2).2 _ hmem⟩
    obtain ⟨v1, H1, happ, hO1⟩ := hO.push (canonT t.kids[i]) (by simp; omega)
    have htk : (t.kids.take i).map canonT ++ [canonT t.kids[i]] = (t.kids.take (i + 1)).map canonT := by rw [List.take_succ_eq_append_getElem hlt, List.map_append, List.map_cons, List.map_nil]
    rw [htk] at hO1
    obtain ⟨v', H', hL, hO'⟩ := ih (i + 1) v1 H1 (by omega) hO1
    obtain ⟨ho1, hc1⟩ := qgu hO1
    have hf1 : A.fits 1 v1 = true := by simp [A.fits, hc1, ho1]
    have hi1 : IntKind.wrap .i64 ((i : Int) + 1) = (i : Int) + 1 := q0f (by omega) (by omega)
    have hfe : A.fillElems 7 [.agg [.int .i64 0, .bool false, .nils, .str [], .int .i64 0, .nils, .nils]] [(0, 1, eT (canonT t.kids[i]))] = some [eT (canonT t.kids[i])] := by simp [A.fillElems, q02]
    have hrd : A.read 7 (.sl H.length 0 0 1 1) (H ++ [.row 0 7 26 [eT (canonT t.kids[i])]]) = some [eT (canonT t.kids[i])] := tmp_read
    have hsp1 : A.splice (rc t vd v vb) 5 [v1] = rc t vd v1 vb := rfl
    have ho5 : A.ofList false 1 (rc t vd v vb) 5 = some v := rfl
    have hrl : (rc t vd v vb).length = 7 := rfl
    simp only [Int.natCast_add, Int.natCast_one] at hL
    refine ⟨v', H', LDoes.step (Evs.withL hL (Evs.of fun n m _ h2 => ?_)), hO'⟩
    generalize (eT t).cells = ct at *
    generalize rc t vd v vb = r0 at *
    generalize rc t vd v1 vb = r1 at *
    generalize rc t vd v' vb = r2 at *
    generalize eT t.kids[i] = x at *
    generalize eT (canonT t.kids[i]) = y at *
    generalize (t.kids.length : Int) = N at *
    simp [↓q00, ↓q05, ↓q0a, ↓q09, ↓q01, ↓q0c, ↓q0m, ↓q07, -q08, qa7, oc, hln, hlt', ho5, hx, hld, hcp, hfe, q0y q50, hrd, happ, hf1, hc1, hrl, hsp1, hi1, h2]
theorem okRcopy : ∀ n, PolOK base 46 (pRcopy n)
  | 0 => still1 base_ok [] trivial fun t ⟨hs, _⟩ => by
    have := t.size_eq
    omega
  | n + 1 => still1 base_ok [(46, pRcopy n)] ⟨okRcopy n, trivial⟩ fun t ⟨hs, ht⟩ => by
    have hf := (fineT_eq.1 ht.2).1
    have hfd := hf.1
    have hfb := hf.2.1
    unfold few at hfd
    unfold fewB at hfb
    obtain ⟨H2, hH2⟩ : ∃ H2 : Heap, H2 = nr eu 1 59 (t.d.getD []) ++ nr eb 1 5 (t.b.getD []) := ⟨_, rfl⟩
    obtain ⟨i1, hi1⟩ : ∃ i1, i1 = (nr eu 1 59 (t.d.getD [])).length := ⟨_, rfl⟩
    have r1 : A.read 1 (eD t.d) [] = some ((t.d.getD []).map eu) := qfe
    have r2 : A.read 1 (eL 1 eb t.b) (nr eu 1 59 (t.d.getD [])) = some ((t.b.getD []).map eb) := qfe
    have a1 : A.append 1 4 59 .nils ((t.d.getD []).map eu) [] = some (nv (t.d.getD []) 0, nr eu 1 59 (t.d.getD [])) := by
      have := qfy (e := eu) (sz := 1) (ty := 59) (bytes := 4) (l := t.d.getD []) (by omega) (by omega) (H := [])
      simpa using this
    have a2 : A.append 1 1 5 .nils ((t.b.getD []).map eb) (nr eu 1 59 (t.d.getD [])) = some (nv (t.b.getD []) i1, H2) := by
      have := qfy (e := eb) (sz := 1) (ty := 5) (bytes := 1) (l := t.b.getD []) (by omega) (by omega) (H := nr eu 1 59 (t.d.getD []))
      rw [hH2, hi1]
      exact this
    have hO0 : OutK H2.length H2 H2 .nils ((t.kids.take 0).map canonT) := ⟨fun _ _ => rfl, Nat.le_refl _, .inl ⟨by simp, rfl⟩⟩
    obtain ⟨v', H', hL, hO⟩ := qi4 (c1 := [.int .i64 0, .bool false, .nils, .str [], .int .i64 0, .nils, .nils]) (vd := nv (t.d.getD []) 0) (vb := nv (t.b.getD []) i1) hs ht t.kids.length 0 .nils H2 (by omega) hO0
    obtain ⟨o1, p1, f1⟩ := nv_one (t.d.getD []) 0
    obtain ⟨o2, p2, f2⟩ := nv_one (t.b.getD []) i1
    obtain ⟨o3, p3⟩ := qgu hO
    have g1 : (t.d.getD []) ≠ [] → H'[0]? = some (.row 0 1 59 ((t.d.getD []).map eu)) := fun hne => by
      have e : nr eu 1 59 (t.d.getD []) = [.row 0 1 59 ((t.d.getD []).map eu)] := by unfold nr; rw [if_neg hne]
      have : 0 < H2.length := by rw [hH2, e]; simp
      rw [hO.1 0 this, hH2, e]
      rfl
    have g2 : (t.b.getD []) ≠ [] → H'[i1]? = some (.row 0 1 5 ((t.b.getD []).map eb)) := fun hne => by
      have e : nr eb 1 5 (t.b.getD []) = [.row 0 1 5 ((t.b.getD []).map eb)] := by unfold nr; rw [if_neg hne]
      have : i1 < H2.length := by rw [hH2, e, hi1]; simp
      rw [hO.1 i1 this, hH2, e, hi1]
      simp
    have z1 : A.freezeB true 63 H' (nv (t.d.getD []) 0) = some (eD (nz (t.d.getD []))) := nv_frz (e := eu) (m := 61) (fun x => ⟨rfl, rfl⟩) g1
    have z2 : A.freezeB true 63 H' (nv (t.b.getD []) i1) = some (eL 1 eb (nz (t.b.getD []))) := nv_frz (e := eb) (m := 61) (fun x => ⟨rfl, rfl⟩) g2
    have z3 : A.freezeB true 63 H' v' = some (eL 7 eT (nz (t.kids.map canonT))) := outK_frz (n := 61) hO
    have hfz : A.freezeB true 64 H' (.agg (rc t (nv (t.d.getD []) 0) v' (nv (t.b.getD []) i1))) = some (eT (canonT t)) := by
      show ((rc t (nv (t.d.getD []) 0) v' (nv (t.b.getD []) i1)).mapM (A.freezeB true 63 H')).map AV.agg = _
      have h0 : A.freezeB true 63 H' (.int .i64 t.kind) = some (.int .i64 t.kind) := rfl
      have h1 : A.freezeB true 63 H' (.bool t.neg) = some (.bool t.neg) := rfl
      have h3 : A.freezeB true 63 H' (.str t.name) = some (.str t.name) := rfl
      have h4 : A.freezeB true 63 H' (.int .i64 t.n) = some (.int .i64 t.n) := rfl
      have e : eT (canonT t) = .agg (rc t (eD (nz (t.d.getD []))) (eL 7 eT (nz (t.kids.map canonT))) (eL 1 eb (nz (t.b.getD [])))) := by
        rw [q17, q2t]
        rfl
      rw [e]
      unfold rc
      simp only [List.mapM_cons, List.mapM_nil, h0, h1, z1, h3, h4, z3, z2]
      rfl
    have hft : ∀ v : AV, v.one = true → A.fits 7 (.agg (rc t (nv (t.d.getD []) 0) v (nv (t.b.getD []) i1))) = true := fun v hv => by
      show ((7 == 7) && [AV.int .i64 t.kind, .bool t.neg, nv (t.d.getD []) 0, .str t.name, .int .i64 t.n, v, nv (t.b.getD []) i1].all AV.one) = true
      simp only [List.all_cons, List.all_nil, o1, o2, hv]
      rfl
    have hft0 := hft .nils rfl
    have hft1 := hft v' o3
    have hfl : A.fill [.int .i64 0, .bool false, .nils, .str [], .int .i64 0, .nils, .nils] [(0, 1, .int .i64 t.kind), (1, 1, .bool t.neg), (3, 1, .str t.name), (4, 1, .int .i64 t.n), (2, 1, nv (t.d.getD []) 0), (6, 1, nv (t.b.getD []) i1)] = some (rc t (nv (t.d.getD []) 0) .nils (nv (t.b.getD []) i1)) := by
      simp [A.fill, A.splice, p1, p2, f1, f2, rc]
    have hspl : ∀ v, A.splice [.int .i64 0, .bool false, .nils, .str [], .int .i64 0, .nils, .nils] 0 (rc t (nv (t.d.getD []) 0) v (nv (t.b.getD []) i1)) = rc t (nv (t.d.getD []) 0) v (nv (t.b.getD []) i1) := fun v => rfl
    have hol : ∀ v, A.ofList true 7 (rc t (nv (t.d.getD []) 0) v (nv (t.b.getD []) i1)) 0 = some (.agg (rc t (nv (t.d.getD []) 0) v (nv (t.b.getD []) i1))) := fun v => rfl
    have hrl : ∀ v, (rc t (nv (t.d.getD []) 0) v (nv (t.b.getD []) i1)).length = 7 := fun v => rfl
    rw [q02] at hL
    refine Evs.withL hL (Evs.of fun n m h1 _ => ?_)
    simp only [Int.natCast_zero] at h1
    generalize nv (t.d.getD []) 0 = vd at *
    generalize nv (t.b.getD []) i1 = vb at *
    generalize nr eu 1 59 (t.d.getD []) = H1 at *
    simp [↓q0a, ↓q01, ↓q0c, ↓q0m, ↓q06, ↓q07, -q08, S46, q0y q1g, q0y q10, r1, a1, r2, a2, hfl, hft0, hspl, hrl, h1, hol, hft1, hfz]
noncomputable def q7a : Pol := .still (p1 cT eT rcp canonT)
theorem okRcopyA : PolOK base 46 q7a := q4y (F := fun n => p1 cT eT (fun t => t.size ≤ n ∧ rcp t) canonT) okRcopy fun zs v h => by
  match zs, h with
  | [a], h =>
    simp only [p1_app, Option.bind_eq_some_iff] at h ⊢
    obtain ⟨t, ht, h⟩ := h
    split at h
    · rename_i hc
      exact ⟨t.size, t, ht, by rw [if_pos ⟨Nat.le_refl _, hc⟩]; exact h⟩
    · cases h
end Go.Proofs.YtleikacgncpfbaaDoor

/- Terms in order, by the program; the greatest of some. -/
set_option maxRecDepth 100000
set_option maxHeartbeats 4000000
namespace Go.Proofs.YtleikacgncpfbaaDoor
open Go Go.Den Go.Lib
noncomputable abbrev TSrt : List (FuncId × Pol) := [(44, pCopy), (76, pSts)]
def srtT (t : Tm) : Prop := copyT t ∧ okA t ∧ okR t
noncomputable def sortS (l : List Tm) : List Tm := (sortR [] l).reverse
def srtOk (o : Option (List Tm)) : Prop := (∀ u ∈ o.getD [], srtT u) ∧ (o.getD []).length ≤ 20
noncomputable def pSort : Pol := .still (p1 cTs (fun l => eL 7 eT (nz l)) srtOk fun o => sortS (o.getD []))
noncomputable def maxL : Tm → List Tm → Tm
  | m, [] => m
  | m, x :: r => maxL (if 0 < cmpT x m then x else m) r
noncomputable abbrev TMax : List (FuncId × Pol) := [(44, pCopy), (25, pCom)]
def maxOk (o : Option (List Tm)) : Prop := (∀ u ∈ o.getD [], srtT u) ∧ (o.getD []).length ≤ 1000
def nilT : Tm := .mk 0 false none [] 0 none none
noncomputable def maxS : List Tm → Tm × Bool
  | [] => (nilT, false)
  | x :: r => (maxL x (x :: r), true)
noncomputable def pMax : Pol := .still (p1 cTs (fun r : Tm × Bool => .tup [eT r.1, .bool r.2]) maxOk fun o => maxS (o.getD []))
end Go.Proofs.YtleikacgncpfbaaDoor

/- Terms in order, by the reference; rows that are the same. -/
set_option maxRecDepth 100000
set_option maxHeartbeats 4000000
namespace Go.Proofs.YtleikacgncpfbaaDoor
open Go Go.Den Go.Lib
/-! ### are two terms the same? -/
def bothR (a b : Tm) : Prop := okR a ∧ okR b
noncomputable def pSameX : Pol := .still (p2 cT cT .bool bothR fun a b => decide (cmpT a b = 0))
theorem kSameX {R : Type} {a b : Tm} (h1 : okR a) (h2 : okR b) {H : Heap} {k : AV → Heap → Option R} : polK pSameX [eT a, eT b] H k = k (.bool (decide (cmpT a b = 0))) H := by
  have h : bothR a b := ⟨h1, h2⟩
  simp [pSameX, q0b, h]
theorem okSameX : PolOK base 41 pSameX := still2 base_ok [(26, pRcomA)] ⟨okRcomA, trivial⟩ fun a b h => by
  have ca : (eT a).cells.length = 7 := by rw [q02]; rfl
  have cb : (eT b).cells.length = 7 := by rw [q02]; rfl
  have oa : A.ofList true 7 (eT a).cells 0 = some (eT a) := q0w (H := [])
  have ob : A.ofList true 7 (eT b).cells 0 = some (eT b) := q0w (H := [])
  have hc : ∀ (R : Type) (H : Heap) (k : AV → Heap → Option R), polK pRcomA [eT a, eT b] H k = k (.int .i64 (cmpT a b)) H := fun R H k => kRcomA h.1 h.2
  generalize cmpT a b = Z at *
  refine Evs.of fun n m => ?_
  simp [↓q0a, ↓q01, ↓q07, -q02, S41, ca, cb, oa, ob, hc]
/-! ### rows that are the same -/
def rowSame (a b : List Tm) : Prop := a.length = b.length ∧ (∀ (i : Nat) (h : i < a.length) (h' : i < b.length), cmpT a[i] b[i] = 0) ∧ (∀ u ∈ a, okR u) ∧ (∀ u ∈ b, okR u) ∧ a.length ≤ 1000
def rowOkX (a b : Option (List Tm)) : Prop := rowSame (a.getD []) (b.getD [])
noncomputable abbrev TRowX : List (FuncId × Pol) := [(41, pSameX)]
noncomputable def pRowX : Pol := .still (p2 cTs cTs .bool rowOkX fun _ _ => true)
noncomputable abbrev TRst : List (FuncId × Pol) := [(46, q7a), (26, pRcomA)]
theorem qir : ∀ t : Tm, okR t → okR (canonT t) := q4h fun t ih h => by
  have h := okR_eq.1 h
  have hk : (canonT t).kids = t.kids.map canonT := by rw [q17]; exact q3z _
  refine okR_eq.2 ⟨?_, fun u hu => ?_⟩
  · obtain ⟨h1, h2, h3, h4⟩ := h.1
    refine ⟨?_, ?_, ?_, ?_⟩
    · rw [q17]
      show few (nz (t.d.getD []))
      unfold few
      rw [q3z]
      exact h1
    · rw [q17]; exact h2
    · rw [q17]
      show ((nz (t.b.getD [])).getD []).length ≤ _
      rw [q3z]
      exact h3
    · rw [hk, List.length_map]; exact h4
  · rw [hk] at hu
    obtain ⟨v, hv, rfl⟩ := List.mem_map.1 hu
    exact ih v hv (h.2 v hv)
def rstT (t : Tm) : Prop := rcp t ∧ okR t
def rstOk (o : Option (List Tm)) : Prop := (∀ u ∈ o.getD [], rstT u) ∧ (o.getD []).length ≤ 1000
noncomputable def pRsort : Pol := .still (p1 cTs (fun l => eL 7 eT (nz l)) rstOk fun o => sortS ((o.getD []).map canonT))
end Go.Proofs.YtleikacgncpfbaaDoor

/- Terms in order: what is so of a row that is sorted. -/
set_option maxRecDepth 100000
set_option maxHeartbeats 4000000
namespace Go.Proofs.YtleikacgncpfbaaDoor
open Go Go.Den Go.Lib
def desc (l : List Tm) : Prop := l.Pairwise fun a b => cmpT b a ≤ 0
def asc (l : List Tm) : Prop := l.Pairwise fun a b => cmpT a b ≤ 0
theorem qad (t : Tm) : (canonT t).kids = t.kids.map canonT := by rw [q17]; exact q3z _
theorem qit : ∀ t : Tm, cmpT t (canonT t) = 0 := q4h fun t ih => by
  have ho : oneT t (canonT t) = 0 := by
    have k : (canonT t).kind = t.kind := by rw [q17]; rfl
    unfold oneT
    rw [k, qad]
    have n0 : ¬ t.kind ≠ t.kind := fun g => g rfl
    rw [if_neg n0]
    split
    · apply cmpI_eq.2
      rw [q17]
      show toI (t.neg, t.d) = toI (t.neg, nz (t.d.getD []))
      unfold toI mag
      dsimp only
      rw [q3z]
    split
    · apply (q97 _ _).2
      rw [q17]
      rfl
    split
    · apply ord_zero.2
      rw [q17]
      rfl
    split
    · apply ord_zero.2
      rw [List.length_map]
    split
    · apply (q34 _ _).2
      rw [q17]
      show nums (t.b.getD []) = nums ((nz (t.b.getD [])).getD [])
      rw [q3z]
    · rfl
  have n1 : ¬ oneT t (canonT t) ≠ 0 := fun g => g ho
  rw [q2s, if_neg n1, qad]
  split
  · have : ∀ l : List Tm, (∀ u ∈ l, cmpT u (canonT u) = 0) → cmpTs l (l.map canonT) = 0 := fun l => by
      induction l with
      | nil => intro _; rw [q1u]
      | cons u l ihl =>
        intro h
        have n2 : ¬ cmpT u (canonT u) ≠ 0 := fun g => g (h u (by simp))
        rw [List.map_cons, q18, if_neg n2]
        exact ihl fun v hv => h v (by simp [hv])
    exact this _ ih
  · rfl
end Go.Proofs.YtleikacgncpfbaaDoor

/- The law on a term that is copied: what its function answers. -/
set_option maxRecDepth 100000
set_option maxHeartbeats 8000000
namespace Go.Proofs.YtleikacgncpfbaaDoor
open Go Go.Den Go.Lib
theorem kRcopy {R : Type} {t : Tm} (h : rcp t) {H : Heap} {k : AV → Heap → Option R} : polK q7a [eT t] H k = k (eT (canonT t)) H := by
  simp [q7a, q0b, h]
noncomputable abbrev TLsm : List (FuncId × Pol) := [(15, qc7), (16, pRoomA), (18, pRMayA), (44, pCopyR), (41, pSameX), (45, pTsame), (46, q7a)]
theorem okTLsm : TabOK base TLsm := ⟨okAwake5, okRoomA, okRMayA, okCopyR, okSameX, okTsame, okRcopyA, trivial⟩
theorem qgy {t : Tm} (h1 : roomS t 10 60 = true) (h2 : mayS t = true) : copyT t ∧ okA t ∧ okR t ∧ t.size ≤ 1000000000 ∧ rcp t := by
  have hr := qgz (by omega) t 10 h1
  have hf := room_fine (by omega) t 10 h1
  have ht := q6d (by omega) t 10 h1
  unfold mayS at h2
  simp only [Bool.and_eq_true, decide_eq_true_eq] at h2
  have hs : t.size ≤ 1000000000 := by
    rw [qh5 t h2.2]
    have := h2.1
    omega
  exact ⟨⟨hf, qe8 63 t 10 (by omega) h1, hs⟩, may_okA t hr h2.2, hr, hs, ⟨ht, hf⟩⟩
/-! ### the loops that write on a copy -/
def sevens (es : List AV) : Prop := ∀ e ∈ es, ∃ cs : List AV, e = .agg cs ∧ cs.length = 7
theorem wl_loop {id w cap N : Nat} {c0 c2 c3 : List AV} (hN : N ≤ 1000000) (h2 : A.ofList false 1 c2 5 = some (.sl id w 0 N cap)) : ∀ (j i : Nat) (H : Heap) (es : List AV), i + j = N → H[id]? = some (.row w 7 26 es) → es.length = N → sevens es →
    ∃ H', LDoes (qha (polT TLsm)) ⟨[.int .i64 (i : Int)], [c0, c2, c3]⟩ H 0 ⟨[], [c0, c2, c3]⟩ H' ∧ ∀ k, k ≠ id → H'[k]? = H[k]? := by
  intro j
  induction j with
  | zero =>
    intro i H es hi hH hl ha
    have hz : ¬ ((i : Int) < (N : Int)) := by omega
    have f0 : A.len (.sl id w 0 N cap) H = some (.int .i64 (N : Int)) := by simp [A.len, A.alive, hH]
    refine ⟨H, LDoes.step (Evs.of fun n m => ?_), fun k _ => rfl⟩
    generalize (N : Int) = NN at *
    generalize (i : Int) = I at *
    simp [↓q00, ↓q01, q6i, h2, f0, hz]
  | succ j ih =>
    intro i H es hi hH hl ha
    have hz : ((i : Int) < (N : Int)) := by omega
    have f0 : A.len (.sl id w 0 N cap) H = some (.int .i64 (N : Int)) := by simp [A.len, A.alive, hH]
    have f1 : A.idx 7 (.sl id w 0 N cap) (.int .i64 (i : Int)) H = some (.ptr id w i 0) := by
      have := q5k (cap := cap) (off := 0) (k := .i64) hH (i := (i : Int)) (n := N) (by omega) hz
      simpa using this
    have hlt : i < es.length := by omega
    have hf : (A.fill [(AV.int .i64 0), (AV.bool false), AV.nils, (AV.str []), (AV.int .i64 0), AV.nils, AV.nils] [(0, 1, (AV.int .i64 5))]).map AV.agg = some (.agg [(AV.int .i64 5), (AV.bool false), AV.nils, (AV.str []), (AV.int .i64 0), AV.nils, AV.nils]) := rfl
    obtain ⟨cs, hcs, hc7⟩ := ha es[i] (List.getElem_mem hlt)
    have hg : es[i]? = some (.agg cs) := by rw [List.getElem?_eq_getElem hlt, hcs]
    have f2 : ∃ es', A.store 7 (.ptr id w i 0) (.agg [(AV.int .i64 5), (AV.bool false), AV.nils, (AV.str []), (AV.int .i64 0), AV.nils, AV.nils]) H = some (H.set id (.row w 7 26 es')) ∧ es'.length = N ∧ sevens es' := by
      have hfit : A.fits 7 (.agg [(AV.int .i64 5), (AV.bool false), AV.nils, (AV.str []), (AV.int .i64 0), AV.nils, AV.nils]) = true := rfl
      refine ⟨es.set i (.agg (A.splice cs 0 [(AV.int .i64 5), (AV.bool false), AV.nils, (AV.str []), (AV.int .i64 0), AV.nils, AV.nils])), ?_, by simpa using hl, fun e he => ?_⟩
      · have h7 : 7 ≤ cs.length := by omega
        simp [A.store, hfit, hH, A.setElem, hg, h7, AV.cells]
      · rcases List.mem_or_eq_of_mem_set he with h | h
        · exact ha e h
        · exact ⟨_, h, by simp [A.splice, hc7]⟩
    obtain ⟨es', f2, hl', ha'⟩ := f2
    have hw : IntKind.wrap .i64 ((i : Int) + 1) = ((i + 1 : Nat) : Int) := by rw [q0f (by omega) (by omega)]; omega
    have hid := (List.getElem?_eq_some_iff.1 hH).1
    obtain ⟨H', hL, hk⟩ := ih (i + 1) (H.set id (.row w 7 26 es')) es' (by omega) (List.getElem?_set_self hid) hl' ha'
    refine ⟨H', LDoes.step (Evs.withL hL (Evs.of fun n m _ h4 => ?_)), fun k hne => by rw [hk k hne, List.getElem?_set_ne (fun e => hne e.symm)]⟩
    generalize (N : Int) = NN at *
    generalize ((i + 1 : Nat) : Int) = I1 at *
    generalize (i : Int) = I at *
    simp [↓q00, ↓q01, ↓q0d, q6i, h2, f0, hz, f1, hf, f2, hw, h4]
theorem wl_nil {c0 c2 c3 : List AV} (h2 : A.ofList false 1 c2 5 = some .nils) (H : Heap) : LDoes (qha (polT TLsm)) ⟨[.int .i64 0], [c0, c2, c3]⟩ H 0 ⟨[], [c0, c2, c3]⟩ H := by
  have f0 : A.len .nils H = some (.int .i64 0) := rfl
  exact LDoes.step (Evs.of fun n m => by simp [↓q00, ↓q01, q6i, h2, f0])
def allI (k : IntKind) (es : List AV) : Prop := ∀ e ∈ es, ∃ z, e = .int k z
theorem store1 {id w i : Nat} {ty : TypeId} {es : List AV} {H : Heap} {k : IntKind} {z : Int} (hH : H[id]? = some (.row w 1 ty es)) (hlt : i < es.length) (ha : allI k es) : (∃ y, A.load false 1 (.ptr id w i 0) H = some (.int k y)) ∧ A.store 1 (.ptr id w i 0) (.int k z) H = some (H.set id (.row w 1 ty (es.set i (.int k z)))) ∧ allI k (es.set i (.int k z)) := by
  obtain ⟨y, hy⟩ := ha es[i] (List.getElem_mem hlt)
  have hg : es[i]? = some (.int k y) := by rw [List.getElem?_eq_getElem hlt, hy]
  refine ⟨⟨y, by simp [A.load, A.elemAt, hH, hg, A.ofList, AV.cells]⟩, ?_, fun e he => ?_⟩
  · have hfit : A.fits 1 (.int k z) = true := rfl
    simp [A.store, hfit, hH, A.setElem, hg, AV.cells, A.splice]
  · rcases List.mem_or_eq_of_mem_set he with h | h
    · exact ha e h
    · exact ⟨z, h⟩
theorem wb_loop {id w cap N : Nat} {ty : TypeId} {c0 c2 c3 : List AV} (hN : N ≤ 1000000) (h2 : A.ofList false 1 c2 6 = some (.sl id w 0 N cap)) : ∀ (j i : Nat) (H : Heap) (es : List AV), i + j = N → H[id]? = some (.row w 1 ty es) → es.length = N → allI .u8 es →
    ∃ H', LDoes (qhb (polT TLsm)) ⟨[.int .i64 (i : Int)], [c0, c2, c3]⟩ H 0 ⟨[], [c0, c2, c3]⟩ H' ∧ ∀ k, k ≠ id → H'[k]? = H[k]? := by
  intro j
  induction j with
  | zero =>
    intro i H es hi hH hl ha
    have hz : ¬ ((i : Int) < (N : Int)) := by omega
    have f0 : A.len (.sl id w 0 N cap) H = some (.int .i64 (N : Int)) := by simp [A.len, A.alive, hH]
    refine ⟨H, LDoes.step (Evs.of fun n m => ?_), fun k _ => rfl⟩
    generalize (N : Int) = NN at *
    generalize (i : Int) = I at *
    simp [↓q00, ↓q01, q6j, h2, f0, hz]
  | succ j ih =>
    intro i H es hi hH hl ha
    have hz : ((i : Int) < (N : Int)) := by omega
    have f0 : A.len (.sl id w 0 N cap) H = some (.int .i64 (N : Int)) := by simp [A.len, A.alive, hH]
    have f1 : A.idx 1 (.sl id w 0 N cap) (.int .i64 (i : Int)) H = some (.ptr id w i 0) := by
      have := q5k (cap := cap) (off := 0) (k := .i64) hH (i := (i : Int)) (n := N) (by omega) hz
      simpa using this
    have hlt : i < es.length := by omega
    obtain ⟨⟨y, f2⟩, -, -⟩ := store1 (z := 0) hH hlt ha
    obtain ⟨-, f3, ha'⟩ := store1 (z := IntKind.wrap .u8 (y + 1)) hH hlt ha
    have hw : IntKind.wrap .i64 ((i : Int) + 1) = ((i + 1 : Nat) : Int) := by rw [q0f (by omega) (by omega)]; omega
    have hid := (List.getElem?_eq_some_iff.1 hH).1
    obtain ⟨H', hL, hk⟩ := ih (i + 1) (H.set id (.row w 1 ty (es.set i (.int .u8 (IntKind.wrap .u8 (y + 1)))))) _ (by omega) (List.getElem?_set_self hid) (by simpa using hl) ha'
    refine ⟨H', LDoes.step (Evs.withL hL (Evs.of fun n m _ h4 => ?_)), fun k hne => by rw [hk k hne, List.getElem?_set_ne (fun e => hne e.symm)]⟩
    have hadd : A.bin base.P .add 5 (.int .u8 y) (.int .u8 1) true H = some (.int .u8 (IntKind.wrap .u8 (y + 1))) := by simp
    generalize H.set id (.row w 1 ty (es.set i (.int .u8 (IntKind.wrap .u8 (y + 1))))) = H2 at *
    generalize IntKind.wrap .u8 (y + 1) = Y at *
    generalize (N : Int) = NN at *
    generalize ((i + 1 : Nat) : Int) = I1 at *
    generalize (i : Int) = I at *
    simp [↓q00, ↓q01, ↓q0d, q6j, h2, f0, hz, f1, f2, hadd, f3, hw, h4]
theorem wb_nil {c0 c2 c3 : List AV} (h2 : A.ofList false 1 c2 6 = some .nils) (H : Heap) : LDoes (qhb (polT TLsm)) ⟨[.int .i64 0], [c0, c2, c3]⟩ H 0 ⟨[], [c0, c2, c3]⟩ H := by
  have f0 : A.len .nils H = some (.int .i64 0) := rfl
  exact LDoes.step (Evs.of fun n m => by simp [↓q00, ↓q01, q6j, h2, f0])
theorem wd_loop {id w cap N : Nat} {ty : TypeId} {c0 c2 c3 : List AV} (hN : N ≤ 1000000) (h2 : A.ofList false 1 c2 2 = some (.sl id w 0 N cap)) : ∀ (j i : Nat) (H : Heap) (es : List AV), i + j = N → H[id]? = some (.row w 1 ty es) → es.length = N → allI .u32 es →
    ∃ H', LDoes (qhc (polT TLsm)) ⟨[.int .i64 (i : Int)], [c0, c2, c3]⟩ H 0 ⟨[], [c0, c3]⟩ H' ∧ ∀ k, k ≠ id → H'[k]? = H[k]? := by
  intro j
  induction j with
  | zero =>
    intro i H es hi hH hl ha
    have hz : ¬ ((i : Int) < (N : Int)) := by omega
    have f0 : A.len (.sl id w 0 N cap) H = some (.int .i64 (N : Int)) := by simp [A.len, A.alive, hH]
    refine ⟨H, LDoes.step (Evs.of fun n m => ?_), fun k _ => rfl⟩
    generalize (N : Int) = NN at *
    generalize (i : Int) = I at *
    simp [↓q00, ↓q01, q6k, h2, f0, hz]
  | succ j ih =>
    intro i H es hi hH hl ha
    have hz : ((i : Int) < (N : Int)) := by omega
    have f0 : A.len (.sl id w 0 N cap) H = some (.int .i64 (N : Int)) := by simp [A.len, A.alive, hH]
    have f1 : A.idx 1 (.sl id w 0 N cap) (.int .i64 (i : Int)) H = some (.ptr id w i 0) := by
      have := q5k (cap := cap) (off := 0) (k := .i64) hH (i := (i : Int)) (n := N) (by omega) hz
      simpa using this
    have hlt : i < es.length := by omega
    obtain ⟨⟨y, f2⟩, -, -⟩ := store1 (z := 0) hH hlt ha
    obtain ⟨-, f3, ha'⟩ := store1 (z := IntKind.wrap .u32 (y + 1)) hH hlt ha
    have hw : IntKind.wrap .i64 ((i : Int) + 1) = ((i + 1 : Nat) : Int) := by rw [q0f (by omega) (by omega)]; omega
    have hid := (List.getElem?_eq_some_iff.1 hH).1
    obtain ⟨H', hL, hk⟩ := ih (i + 1) (H.set id (.row w 1 ty (es.set i (.int .u32 (IntKind.wrap .u32 (y + 1)))))) _ (by omega) (List.getElem?_set_self hid) (by simpa using hl) ha'
    refine ⟨H', LDoes.step (Evs.withL hL (Evs.of fun n m _ h4 => ?_)), fun k hne => by rw [hk k hne, List.getElem?_set_ne (fun e => hne e.symm)]⟩
    have hadd : A.bin base.P .add 59 (.int .u32 y) (.int .u32 1) true H = some (.int .u32 (IntKind.wrap .u32 (y + 1))) := by simp
    generalize H.set id (.row w 1 ty (es.set i (.int .u32 (IntKind.wrap .u32 (y + 1))))) = H2 at *
    generalize IntKind.wrap .u32 (y + 1) = Y at *
    generalize (N : Int) = NN at *
    generalize ((i + 1 : Nat) : Int) = I1 at *
    generalize (i : Int) = I at *
    simp [↓q00, ↓q01, ↓q0d, q6k, h2, f0, hz, f1, f2, hadd, f3, hw, h4]
theorem wd_nil {c0 c2 c3 : List AV} (h2 : A.ofList false 1 c2 2 = some .nils) (H : Heap) : LDoes (qhc (polT TLsm)) ⟨[.int .i64 0], [c0, c2, c3]⟩ H 0 ⟨[], [c0, c3]⟩ H := by
  have f0 : A.len .nils H = some (.int .i64 0) := rfl
  exact LDoes.step (Evs.of fun n m => by simp [↓q00, ↓q01, q6k, h2, f0])
theorem qfx {α : Type} {k : IntKind} {f : α → Int} (l : List α) : allI k (l.map fun x => .int k (f x)) := fun e he => by
  obtain ⟨x, -, rfl⟩ := List.mem_map.1 he
  exact ⟨_, rfl⟩
/-! ### the law -/
theorem law_same (a b : Tm) : Evs fun n _ => callF (base.with (polT TLsm)) (n + 1) AV 10 [eT a, eT b] [] (fun v _ => some v) = some (.bool true) := by
  have la : (eT a).cells.length = 7 := by rw [q02]; rfl
  have lb : (eT b).cells.length = 7 := by rw [q02]; rfl
  have oa : A.ofList true 7 (eT a).cells 0 = some (eT a) := q0w (H := [])
  have ob : A.ofList true 7 (eT b).cells 0 = some (eT b) := q0w (H := [])
  have da : (eT a).isDef = true := q85
  have db : (eT b).isDef = true := q85
  have r1 : ∀ (R : Type) (H : Heap) (k : AV → Heap → Option R), polK pRoomA [eT a, .int .i64 10, .int .i64 60] H k = k (.bool (roomS a 10 60)) H := fun R H k => kRoomA (by omega) (by omega) (by omega)
  have r2 : ∀ (R : Type) (H : Heap) (k : AV → Heap → Option R), polK pRoomA [eT b, .int .i64 10, .int .i64 60] H k = k (.bool (roomS b 10 60)) H := fun R H k => kRoomA (by omega) (by omega) (by omega)
  have e7 : ∀ (H : Heap) (x : Bool), A.bin base.P .neq 4 (.bool x) (.bool x) false H = some (.bool false) := fun H x => by
    have hb : base.P.underlying 4 = some .bool := by kernel_rfl
    cases x <;> simp [A.bin, hb]
  cases ha : roomS a 10 60
  · rw [ha] at r1
    generalize eT a = va at *
    generalize eT b = vb at *
    exact Evs.of fun n m => by simp [↓q00, ↓q0a, ↓q01, ↓q04, ↓q03, ↓q07, S10, q94, la, lb, oa, ob, da, db, r1, A.asG, guardB, A.pick]
  cases hb : roomS b 10 60
  · rw [ha] at r1
    rw [hb] at r2
    generalize eT a = va at *
    generalize eT b = vb at *
    exact Evs.of fun n m => by simp [↓q00, ↓q0a, ↓q01, ↓q04, ↓q03, ↓q07, S10, q94, la, lb, oa, ob, da, db, r1, r2, A.asG, guardB, A.pick]
  rw [ha] at r1
  rw [hb] at r2
  have m1 : ∀ (R : Type) (H : Heap) (k : AV → Heap → Option R), polK pRMayA [eT a] H k = k (.bool (mayS a)) H := fun R H k => kRMayA (q6d (by omega) a 10 ha)
  have m2 : ∀ (R : Type) (H : Heap) (k : AV → Heap → Option R), polK pRMayA [eT b] H k = k (.bool (mayS b)) H := fun R H k => kRMayA (q6d (by omega) b 10 hb)
  cases hma : mayS a
  · rw [hma] at m1
    generalize eT a = va at *
    generalize eT b = vb at *
    exact Evs.of fun n m => by simp [↓q00, ↓q0a, ↓q01, ↓q04, ↓q03, ↓q07, S10, q94, la, lb, oa, ob, da, db, r1, r2, m1, A.asG, guardB, A.pick]
  cases hmb : mayS b
  · rw [hma] at m1
    rw [hmb] at m2
    generalize eT a = va at *
    generalize eT b = vb at *
    exact Evs.of fun n m => by simp [↓q00, ↓q0a, ↓q01, ↓q04, ↓q03, ↓q07, S10, q94, la, lb, oa, ob, da, db, r1, r2, m1, m2, A.asG, guardB, A.pick]
  rw [hma] at m1
  rw [hmb] at m2
  obtain ⟨ca, aa, ra, sa, pa⟩ := qgy ha hma
  obtain ⟨cb, ab, rb, sb, pb⟩ := qgy hb hmb
  obtain ⟨H1, hrd, hkp, kc⟩ := kCopyR ca
  have hfz := copy_frz ca.2.1 hrd hkp
  have hfa : A.freezeB true 64 H1 (eT a) = some (eT a) := frz_eT
  have hself : decide (cmpT a a = 0) = true := by rw [cmp_self]; rfl
  have s1 : ∀ (R : Type) (k : AV → Heap → Option R), polK pSameX [eT a, op2 a (cvG 1 a.d) (cv (kl a) a.l) (cvG (kb a) a.b)] H1 k = k (.bool true) H1 := fun R k => by
    unfold pSameX
    rw [qcc (q1a hfa (q1a hfz rfl))]
    have h : bothR a a := ⟨ra, ra⟩
    simp [h, hself]
    rfl
  have s2 : ∀ (R : Type) (k : AV → Heap → Option R), polK pTsame [eT a, op2 a (cvG 1 a.d) (cv (kl a) a.l) (cvG (kb a) a.b)] H1 k = k (.bool true) H1 := fun R k => by
    unfold pTsame
    rw [qcc (q1a hfa (q1a hfz rfl))]
    have h : okA a ∧ okA a ∧ a.size ≤ 1000000000 := ⟨aa, aa, sa⟩
    simp [h, hself]
    rfl
  have s3 : ∀ (R : Type) (H : Heap) (k : AV → Heap → Option R), polK pTsame [eT a, eT b] H k = k (.bool (decide (cmpT a b = 0))) H := fun R H k => by
    have h : okA a ∧ okA b ∧ a.size ≤ 1000000000 := ⟨aa, ab, sa⟩
    simp [pTsame, q0b, h]
  have s4 : ∀ (R : Type) (H : Heap) (k : AV → Heap → Option R), polK pSameX [eT a, eT b] H k = k (.bool (decide (cmpT a b = 0))) H := fun R H k => kSameX ra rb
  have s5 : ∀ (R : Type) (H : Heap) (k : AV → Heap → Option R), polK q7a [eT a] H k = k (eT (canonT a)) H := fun R H k => kRcopy pa
  have s6 : ∀ (R : Type) (H : Heap) (k : AV → Heap → Option R), polK pSameX [eT a, eT (canonT a)] H k = k (.bool true) H := fun R H k => by
    rw [kSameX ra (qir a ra), qit]
    rfl
  -- the copy, cell by cell
  obtain ⟨c2, hc2⟩ : ∃ c2 : List AV, c2 = [.int .i64 a.kind, .bool a.neg, cvG 1 a.d, .str a.name, .int .i64 a.n, cv (kl a) a.l, cvG (kb a) a.b] := ⟨_, rfl⟩
  have hv : op2 a (cvG 1 a.d) (cv (kl a) a.l) (cvG (kb a) a.b) = .agg c2 := by rw [hc2]; rfl
  have hod := q6x 1 a.d
  have hob := q6x (kb a) a.b
  have hol := qg1 (kl a) a.l
  have v1 : A.fits 7 (.agg c2) = true := by
    rw [hc2]
    show ((7 == 7) && [AV.int .i64 a.kind, .bool a.neg, cvG 1 a.d, .str a.name, .int .i64 a.n, cv (kl a) a.l, cvG (kb a) a.b].all AV.one) = true
    simp only [List.all_cons, List.all_nil, hod, hob, hol]
    rfl
  have v2 : (AV.agg c2).cells = c2 := rfl
  have v3 : c2.length = 7 := by rw [hc2]; rfl
  have v4 : A.splice [(AV.int .i64 0), (AV.bool false), AV.nils, (AV.str []), (AV.int .i64 0), AV.nils, AV.nils] 0 c2 = c2 := by rw [hc2]; rfl
  have v5 : A.ofList true 7 c2 0 = some (.agg c2) := by rw [hc2]; rfl
  have w1 : (eT (canonT a)).cells.length = 7 := by rw [q02]; rfl
  have w2 : A.fits 7 (eT (canonT a)) = true := by
    rw [q17]
    simp [A.fits]
  have w3 : A.splice [(AV.int .i64 0), (AV.bool false), AV.nils, (AV.str []), (AV.int .i64 0), AV.nils, AV.nils] 0 (eT (canonT a)).cells = (eT (canonT a)).cells := by rw [q02]; rfl
  have w4 : A.ofList true 7 (eT (canonT a)).cells 0 = some (eT (canonT a)) := q0w (H := [])
  have fa := fineT_eq.1 ca.1
  have hL : ∃ H2, LDoes (qha (polT TLsm)) ⟨[.int .i64 0], [(eT a).cells, c2, (eT (canonT a)).cells]⟩ H1 0 ⟨[], [(eT a).cells, c2, (eT (canonT a)).cells]⟩ H2 ∧ ∀ (k w : Nat) (ty : TypeId) (es : List AV), H1[k]? = some (.row w 1 ty es) → H2[k]? = some (.row w 1 ty es) := by
    have h5 : A.ofList false 1 c2 5 = some (cv (kl a) a.l) := by rw [hc2]; simp [A.ofList]
    cases hl : a.l with
    | none =>
      rw [hl] at h5
      exact ⟨H1, wl_nil h5 H1, fun k w ty es h => h⟩
    | some l =>
      rw [hl] at h5 hrd
      have hkl : l.length ≤ 1000 := by
        have := fa.1.2.2
        unfold Tm.kids at this
        rw [hl] at this
        exact this
      have hrow : ∃ es, H1[kl a]? = some (.row (cw l) 7 26 es) ∧ es.length = l.length ∧ sevens es := by
        generalize hu : op a (cv (kl a) (some l)) = u at hrd
        cases hrd with
        | imm =>
          rw [← qc4] at hu
          have := (qdz hu).2.2.2.2.2.1
          rw [hl] at this
          cases this
        | nil =>
          have := (qdz hu).2.2.2.2.2.1
          cases this
        | own _ l' id w cap es h hr hn he =>
          have h6 := (qdz hu).2.2.2.2.2.1
          have h7 : AV.sl (kl a) (cw l) 0 l.length l.length = .sl id w 0 l'.length cap := h6
          injection h7 with q1 q2 _ q4 _
          subst q1 q2
          refine ⟨es, hr, by omega, fun e hee => ?_⟩
          obtain ⟨i, hi, rfl⟩ := List.getElem_of_mem hee
          obtain ⟨cs, hcs⟩ := rd_agg (he i hi)
          have := (rd_seven (he i hi)).1
          rw [hcs] at this
          exact ⟨cs, hcs, this⟩
      obtain ⟨es, hr, hn, hse⟩ := hrow
      obtain ⟨H2, g1, g2⟩ := wl_loop (N := l.length) (c0 := (eT a).cells) (c3 := (eT (canonT a)).cells) (by omega) h5 l.length 0 H1 es (by omega) hr hn hse
      refine ⟨H2, g1, fun k w ty es' h => ?_⟩
      rw [g2 k (fun e => by
        subst e
        rw [hr] at h
        injection h with h
        injection h with _ h
        cases h)]
      exact h
  obtain ⟨H2, hL1, hK2⟩ := hL
  have hB : ∃ H3, LDoes (qhb (polT TLsm)) ⟨[.int .i64 0], [(eT a).cells, c2, (eT (canonT a)).cells]⟩ H2 0 ⟨[], [(eT a).cells, c2, (eT (canonT a)).cells]⟩ H3 ∧ ∀ k, k ≠ kb a → H3[k]? = H2[k]? := by
    have h6 : A.ofList false 1 c2 6 = some (cvG (kb a) a.b) := by rw [hc2]; simp [A.ofList]
    cases hl : a.b with
    | none =>
      rw [hl] at h6
      exact ⟨H2, wb_nil h6 H2, fun k _ => rfl⟩
    | some l =>
      rw [hl] at h6
      have hr : H1[kb a]? = some (.row (cwG l) 1 5 (l.map eb)) := by
        have := hkp (crG 59 eu a.d).length (.row (cwG l) 1 5 (l.map eb)) (by
          unfold kK
          rw [List.getElem?_append_right (Nat.le_refl _), Nat.sub_self, hl]
          rfl)
        unfold kb
        rw [Nat.add_comm]
        exact this
      have hnb : l.length ≤ 1000000 := by
        have := fa.1.2.1
        unfold fewB at this
        rw [hl] at this
        exact this
      exact wb_loop (N := l.length) hnb h6 l.length 0 H2 _ (by omega) (hK2 _ _ _ _ hr) (by simp) (qfx l)
  obtain ⟨H3, hL2, hK3⟩ := hB
  have hD : ∃ H4, LDoes (qhc (polT TLsm)) ⟨[.int .i64 0], [(eT a).cells, c2, (eT (canonT a)).cells]⟩ H3 0 ⟨[], [(eT a).cells, (eT (canonT a)).cells]⟩ H4 := by
    have h6 : A.ofList false 1 c2 2 = some (cvG 1 a.d) := by rw [hc2]; simp [A.ofList]
    cases hl : a.d with
    | none =>
      rw [hl] at h6
      exact ⟨H3, wd_nil h6 H3⟩
    | some l =>
      rw [hl] at h6
      have hr : H1[1]? = some (.row (cwG l) 1 59 (l.map eu)) := by
        have := hkp 0 (.row (cwG l) 1 59 (l.map eu)) (by
          unfold kK
          rw [hl]
          rfl)
        exact this
      have hnb : l.length ≤ 1000000 := by
        have := fa.1.1
        unfold few at this
        rw [hl] at this
        exact this
      have hne : 1 ≠ kb a := by
        unfold kb
        rw [hl]
        show 1 ≠ 1 + 1
        omega
      obtain ⟨H4, g1, -⟩ := wd_loop (N := l.length) (c0 := (eT a).cells) (c3 := (eT (canonT a)).cells) hnb h6 l.length 0 H3 _ (by omega) (by rw [hK3 1 hne]; exact hK2 _ _ _ _ hr) (by simp) (qfx l)
      exact ⟨H4, g1⟩
  obtain ⟨H4, hL3⟩ := hD
  rw [hv] at kc s1 s2
  clear hfz hrd hkp hK2 hK3 hc2
  generalize decide (cmpT a b = 0) = X at *
  generalize eT (canonT a) = vc at *
  generalize eT a = va at *
  generalize eT b = vb at *
  refine Evs.withL hL1 (Evs.withL hL2 (Evs.withL hL3 (Evs.of fun n m g3 _ g2 _ g1 _ => ?_)))
  simp [↓q00, ↓q0a, ↓q01, ↓q04, ↓q03, ↓q06, ↓q07, S10, q94, la, lb, oa, ob, da, db, r1, r2, m1, m2, A.asG, guardB, A.pick, kc, v1, v2, v3, v4, v5, s1, s2, s3, s4, s5, s6, e7, w1, w2, w3, w4, g1, g2, g3]
end Go.Proofs.YtleikacgncpfbaaDoor
