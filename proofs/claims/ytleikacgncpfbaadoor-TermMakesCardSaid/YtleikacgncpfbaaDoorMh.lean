/- Texts put together: Sm4, Sm5, Sm6, Lw5e. -/
import Derived.Test.YtleikacgncpfbaaDoorMg

/- The reference's copy of a term. -/
set_option maxRecDepth 100000
set_option maxHeartbeats 8000000
namespace Go.Proofs.YtleikacgncpfbaaDoor
open Go Go.Den
/-! ### rows that are appended to none -/
section
variable {α : Type} {e : α → AV} {sz bytes : Nat} {ty : TypeId}
def nv (l : List α) (id : Nat) : AV := if l = [] then .nils else .sl id 0 0 l.length l.length
def nr (e : α → AV) (sz : Nat) (ty : TypeId) (l : List α) : List HObj := if l = [] then [] else [.row 0 sz ty (l.map e)]
theorem app_nils {l : List α} (hb : 0 < bytes) (hm : l.length * bytes ≤ 140737488355328) {H : Heap} : A.append sz bytes ty .nils (l.map e) H = some (nv l H.length, H ++ nr e sz ty l) := by
  cases l with
  | nil => simp [nv, nr, A.append]
  | cons x l =>
    rw [nil_append (by simp) hb (by simpa using hm)]
    simp [nv, nr]
theorem nv_one (l : List α) (id : Nat) : (nv l id).one = true ∧ (nv l id).cells = [nv l id] ∧ (nv l id).isDef = true := by
  unfold nv
  split <;> exact ⟨rfl, rfl, rfl⟩
theorem nv_frz {l : List α} {id m : Nat} {H : Heap} (hf : ∀ x, (e x).flat0 = true ∧ (e x).isDef = true) (h : l ≠ [] → H[id]? = some (.row 0 sz ty (l.map e))) : A.freezeB true (m + 2) H (nv l id) = some (eL sz e (nz l)) := by
  unfold nv nz
  by_cases hl : l = []
  · rw [if_pos hl, if_pos hl]
    rfl
  · rw [if_neg hl, if_neg hl]
    exact freeze_row (b := true) (m := m) (h hl) (by simp) (fun y hy => by
      obtain ⟨x, _, rfl⟩ := List.mem_map.1 hy
      exact hf x)
end
theorem frz_eT {n : Nat} {H : Heap} {t : Tm} : A.freezeB true (n + 2) H (eT t) = some (eT t) := by
  rw [← op_eT]
  exact frz_op frz_eL
theorem frz_row_eT {n id w cap : Nat} {l : List Tm} {H : Heap} (hr : H[id]? = some (.row w 7 26 (l.map eT))) : A.freezeB true (n + 2) H (.sl id w 0 l.length cap) = some (.sh 7 (l.map eT)) := by
  show (match H[id]? with | some (.row w' z _ es) => if w' = w ∧ 0 + l.length ≤ es.length then (((es.drop 0).take l.length).mapM fun (e : AV) => match e with | AV.agg cs => (cs.mapM (A.freezeB true (n + 1) H)).map AV.agg | e => A.freezeB true (n + 1) H e).map (AV.sh z) else none | _ => none) = _
  rw [hr]
  dsimp only
  rw [if_pos ⟨rfl, by simp⟩, List.drop_zero, List.take_of_length_le (by simp)]
  have : ((l.map eT).mapM fun (e : AV) => match e with | AV.agg cs => (cs.mapM (A.freezeB true (n + 1) H)).map AV.agg | e => A.freezeB true (n + 1) H e) = some (l.map eT) := mapM_get rfl fun i hi => by
    have hf : A.freezeB true (n + 2) H (l.map eT)[i] = some (l.map eT)[i] := by
      rw [List.getElem_map]
      exact frz_eT
    have hcs : ∃ cs, (l.map eT)[i] = .agg cs := by
      rw [List.getElem_map]
      exact ⟨_, eT_eq _⟩
    obtain ⟨cs, hcs⟩ := hcs
    rw [hcs] at hf ⊢
    exact hf
  rw [this]
  rfl
/-! ### a row of terms that grows, while what was there before stands -/
def OutK (K : Nat) (H0 H : Heap) (v : AV) (l : List Tm) : Prop :=
  (∀ j, j < K → H[j]? = H0[j]?) ∧ K ≤ H.length ∧ ((l = [] ∧ v = .nils) ∨ ∃ id ver, l ≠ [] ∧ v = .sl id ver 0 l.length l.length ∧ H[id]? = some (.row ver 7 26 (l.map eT)) ∧ K ≤ id)
theorem OutK.push {K : Nat} {H0 H : Heap} {v : AV} {l : List Tm} (h : OutK K H0 H v l) (x : Tm) (hm : (l.length + 1) * 112 ≤ 140737488355328) :
    ∃ v' H', A.append 7 112 26 v [eT x] (H ++ [.row 0 7 26 [eT x]]) = some (v', H') ∧ OutK K H0 H' v' (l ++ [x]) := by
  obtain ⟨h1, h2, h⟩ := h
  rcases h with ⟨rfl, rfl⟩ | ⟨id, ver, h0, rfl, h3, h4⟩
  · refine ⟨_, _, nil_append (news := [eT x]) (by simp) (by omega) (by simp), fun j hj => ?_, by simp; omega, .inr ⟨_, 0, by simp, rfl, row_push, by simp; omega⟩⟩
    rw [List.getElem?_append_left (by simp; omega), List.getElem?_append_left (by omega)]
    exact h1 j hj
  · have h5 := row_app h3 [.row 0 7 26 [eT x]]
    refine ⟨_, _, row_append (news := [eT x]) h5 (by simp) (by simp) (by omega) (by simpa using hm), fun j hj => ?_, by simp; omega, .inr ⟨id, ver + 1, by simp, by simp, ?_, h4⟩⟩
    · rw [List.getElem?_set_ne (by omega), List.getElem?_append_left (by omega)]
      exact h1 j hj
    · rw [row_set h5]
      simp
theorem outK_one {K : Nat} {H0 H : Heap} {v : AV} {l : List Tm} (h : OutK K H0 H v l) : v.one = true ∧ v.cells = [v] := by
  rcases h.2.2 with ⟨-, rfl⟩ | ⟨_, _, -, rfl, -⟩ <;> exact ⟨rfl, rfl⟩
theorem outK_frz {K n : Nat} {H0 H : Heap} {v : AV} {l : List Tm} (h : OutK K H0 H v l) : A.freezeB true (n + 2) H v = some (eL 7 eT (nz l)) := by
  rcases h.2.2 with ⟨rfl, rfl⟩ | ⟨id, ver, h0, rfl, h3, -⟩
  · rfl
  · unfold nz
    rw [if_neg h0]
    exact frz_row_eT h3
/-! ### the copy -/
def rcp (t : Tm) : Prop := tame t ∧ fineT t
noncomputable def pRcopy (n : Nat) : Pol := .still (p1 cT eT (fun t => t.size ≤ n ∧ rcp t) canonT)
theorem qRcopy' {n : Nat} {R : Type} {t : Tm} (h : t.size ≤ n) (h2 : rcp t) {H : Heap} {k : AV → Heap → Option R} : polQ (pRcopy n) [eT t] H k = k (eT (canonT t)) H := by
  simp [pRcopy, polQ_imm, h, h2]
def rc (t : Tm) (vd vl vb : AV) : List AV := [.int .i64 t.kind, .bool t.neg, vd, .str t.name, .int .i64 t.n, vl, vb]
theorem rcopy_loop {n : Nat} {t : Tm} {K : Nat} {H0 : Heap} {c1 : List AV} {vd vb : AV} (hs : t.size ≤ n + 1) (ht : rcp t) : ∀ (k i : Nat) (v : AV) (H : Heap), i + k = t.kids.length → OutK K H0 H v ((t.kids.take i).map canonT) →
    ∃ v' H', LDoes (L46_0 (polT [(46, pRcopy n)])) ⟨[.int .i64 (i : Int)], [(eT t).cells, c1, rc t vd v vb]⟩ H 0 ⟨[], [c1, rc t vd v' vb]⟩ H' ∧ OutK K H0 H' v' (t.kids.map canonT) := by
  have hln : ∀ H, A.len (eL 7 eT t.l) H = some (.int .i64 ((t.kids.length : Nat) : Int)) := fun H => len_eL
  have oc : A.ofList false 1 (eT t).cells 5 = some (eL 7 eT t.l) := by rw [cells_eT]; rfl
  have hl : t.kids.length ≤ 1000 := (tame_eq.1 ht.1).1.2.2
  intro k
  induction k with
  | zero =>
    intro i v H hi hO
    have : i = t.kids.length := by omega
    subst this
    rw [List.take_length] at hO
    refine ⟨v, H, LDoes.step (Evs.of fun n m => ?_), hO⟩
    generalize (eT t).cells = ct at *
    generalize (t.kids.length : Int) = N at *
    simp [-len_eL, L46_0_step, oc, hln]
  | succ k ih =>
    intro i v H hi hO
    have hlt : i < t.kids.length := by omega
    have hlt' : (i : Int) < (t.kids.length : Int) := by omega
    have hmem : t.kids[i] ∈ t.kids := List.getElem_mem hlt
    have hx : A.idx 7 (eL 7 eT t.l) (.int .i64 (i : Int)) H = some (.rop (eT t.kids[i]).cells) := idx_eL (sz := 7) (e := eT) (o := t.l) (H := H) (k := .i64) (i := i) hlt
    have hld := load_eT (t := t.kids[i]) (H := H)
    have hsz : (t.kids[i]).size ≤ n := by
      have := Tm.size_kid (t := t) (u := t.kids[i]) hmem
      omega
    have hcp : ∀ (R : Type) (H : Heap) (k : AV → Heap → Option R), polQ (pRcopy n) [eT t.kids[i]] H k = k (eT (canonT t.kids[i])) H := fun R H k => qRcopy' hsz ⟨(tame_eq.1 ht.1).2 _ hmem, (fineT_eq.1 ht.2).2 _ hmem⟩
    obtain ⟨v1, H1, happ, hO1⟩ := hO.push (canonT t.kids[i]) (by simp; omega)
    have htk : (t.kids.take i).map canonT ++ [canonT t.kids[i]] = (t.kids.take (i + 1)).map canonT := by rw [List.take_succ_eq_append_getElem hlt, List.map_append, List.map_cons, List.map_nil]
    rw [htk] at hO1
    obtain ⟨v', H', hL, hO'⟩ := ih (i + 1) v1 H1 (by omega) hO1
    obtain ⟨ho1, hc1⟩ := outK_one hO1
    have hf1 : A.fits 1 v1 = true := by simp [A.fits, hc1, ho1]
    have hi1 : IntKind.wrap .i64 ((i : Int) + 1) = (i : Int) + 1 := wrap_i64 (by omega) (by omega)
    have hfe : A.fillElems 7 [.agg [.int .i64 0, .bool false, .nils, .str [], .int .i64 0, .nils, .nils]] [(0, 1, eT (canonT t.kids[i]))] = some [eT (canonT t.kids[i])] := by simp [A.fillElems, cells_eT]
    have hrd : A.read 7 (.sl H.length 0 0 1 1) (H ++ [.row 0 7 26 [eT (canonT t.kids[i])]]) = some [eT (canonT t.kids[i])] := tmp_read
    have hsp1 : A.splice (rc t vd v vb) 5 [v1] = rc t vd v1 vb := rfl
    have ho5 : A.ofList false 1 (rc t vd v vb) 5 = some v := rfl
    have hrl : (rc t vd v vb).length = 7 := rfl
    simp only [Int.natCast_add, Int.natCast_one] at hL
    refine ⟨v', H', LDoes.step (Evs.withL hL (Evs.of fun n m _ h2 => ?_)), hO'⟩
    generalize (eT t).cells = ct at *
    generalize rc t vd v vb = r0 at *
    generalize rc t vd v1 vb = r1 at *
    generalize rc t vd v' vb = r2 at *
    generalize eT t.kids[i] = x at *
    generalize eT (canonT t.kids[i]) = y at *
    generalize (t.kids.length : Int) = N at *
    simp [-len_eL, L46_0_step, oc, hln, hlt', ho5, hx, hld, hcp, hfe, newsZ_sl ty_terms, hrd, happ, hf1, hc1, hrl, hsp1, hi1, h2]
theorem okRcopy : ∀ n, PolOK base 46 (pRcopy n)
  | 0 => still1 base_ok [] trivial fun t ⟨hs, _⟩ => by
    have := t.size_eq
    omega
  | n + 1 => still1 base_ok [(46, pRcopy n)] ⟨okRcopy n, trivial⟩ fun t ⟨hs, ht⟩ => by
    have hf := (fineT_eq.1 ht.2).1
    have hfd := hf.1
    have hfb := hf.2.1
    unfold few at hfd
    unfold fewB at hfb
    obtain ⟨H2, hH2⟩ : ∃ H2 : Heap, H2 = nr eu 1 59 (t.d.getD []) ++ nr eb 1 5 (t.b.getD []) := ⟨_, rfl⟩
    obtain ⟨i1, hi1⟩ : ∃ i1, i1 = (nr eu 1 59 (t.d.getD [])).length := ⟨_, rfl⟩
    have r1 : A.read 1 (eD t.d) [] = some ((t.d.getD []).map eu) := read_eL
    have r2 : A.read 1 (eL 1 eb t.b) (nr eu 1 59 (t.d.getD [])) = some ((t.b.getD []).map eb) := read_eL
    have a1 : A.append 1 4 59 .nils ((t.d.getD []).map eu) [] = some (nv (t.d.getD []) 0, nr eu 1 59 (t.d.getD [])) := by
      have := app_nils (e := eu) (sz := 1) (ty := 59) (bytes := 4) (l := t.d.getD []) (by omega) (by omega) (H := [])
      simpa using this
    have a2 : A.append 1 1 5 .nils ((t.b.getD []).map eb) (nr eu 1 59 (t.d.getD [])) = some (nv (t.b.getD []) i1, H2) := by
      have := app_nils (e := eb) (sz := 1) (ty := 5) (bytes := 1) (l := t.b.getD []) (by omega) (by omega) (H := nr eu 1 59 (t.d.getD []))
      rw [hH2, hi1]
      exact this
    have hO0 : OutK H2.length H2 H2 .nils ((t.kids.take 0).map canonT) := ⟨fun _ _ => rfl, Nat.le_refl _, .inl ⟨by simp, rfl⟩⟩
    obtain ⟨v', H', hL, hO⟩ := rcopy_loop (c1 := [.int .i64 0, .bool false, .nils, .str [], .int .i64 0, .nils, .nils]) (vd := nv (t.d.getD []) 0) (vb := nv (t.b.getD []) i1) hs ht t.kids.length 0 .nils H2 (by omega) hO0
    obtain ⟨o1, p1, f1⟩ := nv_one (t.d.getD []) 0
    obtain ⟨o2, p2, f2⟩ := nv_one (t.b.getD []) i1
    obtain ⟨o3, p3⟩ := outK_one hO
    have g1 : (t.d.getD []) ≠ [] → H'[0]? = some (.row 0 1 59 ((t.d.getD []).map eu)) := fun hne => by
      have e : nr eu 1 59 (t.d.getD []) = [.row 0 1 59 ((t.d.getD []).map eu)] := by unfold nr; rw [if_neg hne]
      have : 0 < H2.length := by rw [hH2, e]; simp
      rw [hO.1 0 this, hH2, e]
      rfl
    have g2 : (t.b.getD []) ≠ [] → H'[i1]? = some (.row 0 1 5 ((t.b.getD []).map eb)) := fun hne => by
      have e : nr eb 1 5 (t.b.getD []) = [.row 0 1 5 ((t.b.getD []).map eb)] := by unfold nr; rw [if_neg hne]
      have : i1 < H2.length := by rw [hH2, e, hi1]; simp
      rw [hO.1 i1 this, hH2, e, hi1]
      simp
    have z1 : A.freezeB true 63 H' (nv (t.d.getD []) 0) = some (eD (nz (t.d.getD []))) := nv_frz (e := eu) (m := 61) (fun x => ⟨rfl, rfl⟩) g1
    have z2 : A.freezeB true 63 H' (nv (t.b.getD []) i1) = some (eL 1 eb (nz (t.b.getD []))) := nv_frz (e := eb) (m := 61) (fun x => ⟨rfl, rfl⟩) g2
    have z3 : A.freezeB true 63 H' v' = some (eL 7 eT (nz (t.kids.map canonT))) := outK_frz (n := 61) hO
    have hfz : A.freezeB true 64 H' (.agg (rc t (nv (t.d.getD []) 0) v' (nv (t.b.getD []) i1))) = some (eT (canonT t)) := by
      show ((rc t (nv (t.d.getD []) 0) v' (nv (t.b.getD []) i1)).mapM (A.freezeB true 63 H')).map AV.agg = _
      have h0 : A.freezeB true 63 H' (.int .i64 t.kind) = some (.int .i64 t.kind) := rfl
      have h1 : A.freezeB true 63 H' (.bool t.neg) = some (.bool t.neg) := rfl
      have h3 : A.freezeB true 63 H' (.str t.name) = some (.str t.name) := rfl
      have h4 : A.freezeB true 63 H' (.int .i64 t.n) = some (.int .i64 t.n) := rfl
      have e : eT (canonT t) = .agg (rc t (eD (nz (t.d.getD []))) (eL 7 eT (nz (t.kids.map canonT))) (eL 1 eb (nz (t.b.getD [])))) := by
        rw [canonT_eq, eT_eq]
        rfl
      rw [e]
      unfold rc
      simp only [List.mapM_cons, List.mapM_nil, h0, h1, z1, h3, h4, z3, z2]
      rfl
    have hft : ∀ v : AV, v.one = true → A.fits 7 (.agg (rc t (nv (t.d.getD []) 0) v (nv (t.b.getD []) i1))) = true := fun v hv => by
      show ((7 == 7) && [AV.int .i64 t.kind, .bool t.neg, nv (t.d.getD []) 0, .str t.name, .int .i64 t.n, v, nv (t.b.getD []) i1].all AV.one) = true
      simp only [List.all_cons, List.all_nil, o1, o2, hv]
      rfl
    have hft0 := hft .nils rfl
    have hft1 := hft v' o3
    have hfl : A.fill [.int .i64 0, .bool false, .nils, .str [], .int .i64 0, .nils, .nils] [(0, 1, .int .i64 t.kind), (1, 1, .bool t.neg), (3, 1, .str t.name), (4, 1, .int .i64 t.n), (2, 1, nv (t.d.getD []) 0), (6, 1, nv (t.b.getD []) i1)] = some (rc t (nv (t.d.getD []) 0) .nils (nv (t.b.getD []) i1)) := by
      simp [A.fill, A.splice, p1, p2, f1, f2, rc]
    have hspl : ∀ v, A.splice [.int .i64 0, .bool false, .nils, .str [], .int .i64 0, .nils, .nils] 0 (rc t (nv (t.d.getD []) 0) v (nv (t.b.getD []) i1)) = rc t (nv (t.d.getD []) 0) v (nv (t.b.getD []) i1) := fun v => rfl
    have hol : ∀ v, A.ofList true 7 (rc t (nv (t.d.getD []) 0) v (nv (t.b.getD []) i1)) 0 = some (.agg (rc t (nv (t.d.getD []) 0) v (nv (t.b.getD []) i1))) := fun v => rfl
    have hrl : ∀ v, (rc t (nv (t.d.getD []) 0) v (nv (t.b.getD []) i1)).length = 7 := fun v => rfl
    rw [cells_eT] at hL
    refine Evs.withL hL (Evs.of fun n m h1 _ => ?_)
    simp only [Int.natCast_zero] at h1
    generalize nv (t.d.getD []) 0 = vd at *
    generalize nv (t.b.getD []) i1 = vb at *
    generalize nr eu 1 59 (t.d.getD []) = H1 at *
    simp [↓bindC_eq, ↓withV_of, ↓withL_some, ↓withVH_some, ↓bindX_some, ↓chkD_true, -len_eL, S46, newsZ_sl ty_limbs, newsZ_sl ty_bytes, r1, a1, r2, a2, hfl, hft0, hspl, hrl, h1, hol, hft1, hfz]
noncomputable def pRcopyA : Pol := .still (p1 cT eT rcp canonT)
theorem okRcopyA : PolOK base 46 pRcopyA := still_join (F := fun n => p1 cT eT (fun t => t.size ≤ n ∧ rcp t) canonT) okRcopy fun zs v h => by
  match zs, h with
  | [a], h =>
    simp only [p1_app, Option.bind_eq_some_iff] at h ⊢
    obtain ⟨t, ht, h⟩ := h
    split at h
    · rename_i hc
      exact ⟨t.size, t, ht, by rw [if_pos ⟨Nat.le_refl _, hc⟩]; exact h⟩
    · cases h
theorem qRcopy {R : Type} {t : Tm} (h : rcp t) {H : Heap} {k : AV → Heap → Option R} : polQ pRcopyA [eT t] H k = k (eT (canonT t)) H := by
  simp [pRcopyA, polQ_imm, h]
end Go.Proofs.YtleikacgncpfbaaDoor

/- The reference's tuples and lists. -/
set_option maxRecDepth 100000
set_option maxHeartbeats 4000000
namespace Go.Proofs.YtleikacgncpfbaaDoor
open Go Go.Den
theorem shal_canon : ∀ (n : Nat) (t : Tm), shal n t → shal n (canonT t)
  | 0, _, h => h
  | n + 1, t, h => fun u hu => by
    have e : (canonT t).kids = t.kids.map canonT := by rw [canonT_eq]; exact nz_get _
    rw [e] at hu
    obtain ⟨x, hx, rfl⟩ := List.mem_map.1 hu
    exact shal_canon n x (h x hx)
def partR (u : Tm) : Prop := rcp u ∧ shal 20 u
noncomputable abbrev TRtup : List (FuncId × Pol) := [(46, pRcopyA)]
theorem rtup_loop {o : Option (List Tm)} {c0 : List AV} (hall : ∀ u ∈ o.getD [], partR u) (hlen : (o.getD []).length ≤ 1000) : ∀ (k i : Nat) (v : AV) (H : Heap), i + k = (o.getD []).length → Out eT 7 26 H v (((o.getD []).take i).map canonT) →
    ∃ v' H', LDoes (L27_0 (polT TRtup)) ⟨[eL 7 eT o, .int .i64 (i : Int)], [c0, [.int .i64 4, .bool false, .nils, .str [], .int .i64 0, v, .nils]]⟩ H 0 ⟨[], [c0, [.int .i64 4, .bool false, .nils, .str [], .int .i64 0, v', .nils]]⟩ H' ∧ Out eT 7 26 H' v' ((o.getD []).map canonT) := by
  have hln : ∀ H, A.len (eL 7 eT o) H = some (.int .i64 ((o.getD []).length : Int)) := fun H => len_eL
  intro k
  induction k with
  | zero =>
    intro i v H hi hO
    have : i = (o.getD []).length := by omega
    subst this
    rw [List.take_length] at hO
    refine ⟨v, H, LDoes.step (Evs.of fun n m => ?_), hO⟩
    generalize ((o.getD []).length : Int) = N at *
    simp [-len_eL, L27_0_step, hln]
  | succ k ih =>
    intro i v H hi hO
    have hlt : i < (o.getD []).length := by omega
    have hlt' : (i : Int) < ((o.getD []).length : Int) := by omega
    have hx : A.idx 7 (eL 7 eT o) (.int .i64 (i : Int)) H = some (.rop (eT (o.getD [])[i]).cells) := idx_eL (sz := 7) (e := eT) (o := o) (H := H) (k := .i64) (i := i) hlt
    have hld := load_eT (t := (o.getD [])[i]) (H := H)
    have hof : A.ofList true 7 (eT (o.getD [])[i]).cells 0 = some (eT (o.getD [])[i]) := load_eT (H := [])
    have hfit : A.fits 7 (eT (o.getD [])[i]) = true := by simp [A.fits]
    have hcl : (eT (o.getD [])[i]).cells.length = 7 := by rw [cells_eT]; rfl
    have hspl : A.splice [.int .i64 0, .bool false, .nils, .str [], .int .i64 0, .nils, .nils] 0 (eT (o.getD [])[i]).cells = (eT (o.getD [])[i]).cells := by rw [cells_eT]; rfl
    have hcp : ∀ (R : Type) (H : Heap) (k : AV → Heap → Option R), polQ pRcopyA [eT (o.getD [])[i]] H k = k (eT (canonT (o.getD [])[i])) H := fun R H k => qRcopy (hall _ (List.getElem_mem hlt)).1
    obtain ⟨v1, H1, happ, hO1⟩ := hO.push (bytes := 112) (canonT (o.getD [])[i]) (by omega) (by simp; omega)
    have ht : ((o.getD []).take i).map canonT ++ [canonT (o.getD [])[i]] = ((o.getD []).take (i + 1)).map canonT := by rw [List.take_succ_eq_append_getElem hlt, List.map_append, List.map_cons, List.map_nil]
    rw [ht] at hO1
    obtain ⟨v', H', hL, hO'⟩ := ih (i + 1) v1 H1 (by omega) hO1
    obtain ⟨ho1, hc1⟩ := out_one hO1
    have hf1 : A.fits 1 v1 = true := by simp [A.fits, hc1, ho1]
    have hi1 : IntKind.wrap .i64 ((i : Int) + 1) = (i : Int) + 1 := wrap_i64 (by omega) (by omega)
    have hfe : A.fillElems 7 [.agg [.int .i64 0, .bool false, .nils, .str [], .int .i64 0, .nils, .nils]] [(0, 1, eT (canonT (o.getD [])[i]))] = some [eT (canonT (o.getD [])[i])] := by simp [A.fillElems, cells_eT]
    have hrd : A.read 7 (.sl H.length 0 0 1 1) (H ++ [.row 0 7 26 [eT (canonT (o.getD [])[i])]]) = some [eT (canonT (o.getD [])[i])] := tmp_read
    have hsp1 : A.splice [.int .i64 4, .bool false, .nils, .str [], .int .i64 0, v, .nils] 5 [v1] = [.int .i64 4, .bool false, .nils, .str [], .int .i64 0, v1, .nils] := rfl
    have ho5 : A.ofList false 1 [.int .i64 4, .bool false, .nils, .str [], .int .i64 0, v, .nils] 5 = some v := rfl
    simp only [Int.natCast_add, Int.natCast_one] at hL
    refine ⟨v', H', LDoes.step (Evs.withL hL (Evs.of fun n m _ h2 => ?_)), hO'⟩
    generalize eT (o.getD [])[i] = x at *
    generalize eT (canonT (o.getD [])[i]) = y at *
    generalize ((o.getD []).length : Int) = N at *
    simp [-len_eL, L27_0_step, hln, hlt', hx, hld, hcp, hfe, newsZ_sl ty_terms, hrd, happ, hf1, hc1, hsp1, hi1, h2]
def allR (o : Option (List Tm)) : Prop := (∀ u ∈ o.getD [], partR u) ∧ (o.getD []).length ≤ 1000
noncomputable def pRtup : Pol := .still (p1 cTs eT allR fun o => tupT ((o.getD []).map canonT))
theorem kRtup {R : Type} {o : Option (List Tm)} (h : allR o) {H : Heap} {k : AV → Heap → Option R} : polK pRtup [eL 7 eT o] H k = k (eT (tupT ((o.getD []).map canonT))) H := by
  simp [pRtup, polK_imm, h]
theorem okRtup : PolOK base 27 pRtup := still1 base_ok TRtup ⟨okRcopyA, trivial⟩ fun o ⟨hall, hlen⟩ => by
  obtain ⟨v, H', hL, hO⟩ := rtup_loop (c0 := [.int .i64 0, .bool false, .nils, .str [], .int .i64 0, .nils, .nils]) hall hlen (o.getD []).length 0 .nils [] (by omega) (by rw [List.take_zero]; exact .nil)
  have hln : A.len (eL 7 eT o) [] = some (.int .i64 ((o.getD []).length : Int)) := len_eL
  have hsh : shal 63 (tupT ((o.getD []).map canonT)) := fun u hu => by
    rw [kids_tup] at hu
    obtain ⟨x, hx, rfl⟩ := List.mem_map.1 hu
    exact shal_le (n := 20) (m := 62) (by decide) (shal_canon 20 x (hall x hx).2)
  have hfz : A.freezeB true 64 H' (.agg [.int .i64 4, .bool false, .nils, .str [], .int .i64 0, v, .nils]) = some (eT (tupT ((o.getD []).map canonT))) := rd_freeze 63 _ _ hsh (out_rd hO)
  obtain ⟨ho, -⟩ := out_one hO
  have hft := zero_one v ho 4
  refine Evs.withL hL (Evs.of fun n m h1 _ => ?_)
  simp only [Int.natCast_zero] at h1
  have hf0 : A.fits 7 (.agg [.int .i64 4, .bool false, .nils, .str [], .int .i64 0, .nils, .nils]) = true := rfl
  generalize ((o.getD []).length : Int) = N at *
  simp [↓bindC_eq, ↓withV_of, ↓bindX_some, ↓chkD_true, -len_eL, S27, A.fill, A.splice, hf0, h1, A.ofList, hft, hfz]
noncomputable def pRnil : Pol := .still (Cd.f0 (eT (listT [])))
theorem okRnil : PolOK base 61 pRnil := still_of base_ok [] trivial fun zs v h => by
  unfold Cd.f0 at h
  split at h
  · cases h
    refine Evs.of fun n m => ?_
    have e : eT (listT []) = .agg [.int .i64 5, .bool false, .nils, .str [], .int .i64 0, .nils, .nils] := by rw [eT_eq]; rfl
    have hf0 : A.fits 7 (.agg [.int .i64 5, .bool false, .nils, .str [], .int .i64 0, .nils, .nils]) = true := rfl
    rw [e]
    simp [↓bindC_eq, ↓withV_of, ↓chkD_true, S61, A.fill, A.splice, hf0, A.ofList]
    rfl
  · cases h
theorem kRnil {R : Type} {H : Heap} {k : AV → Heap → Option R} : polK pRnil [] H k = k (eT (listT [])) H := by
  unfold pRnil
  rw [polK_imm (by simp)]
  rfl
noncomputable abbrev TRlst : List (FuncId × Pol) := [(61, pRnil), (46, pRcopyA)]
theorem rlst_loop {o : Option (List Tm)} {c0 : List AV} (hall : ∀ u ∈ o.getD [], partR u) (hlen : (o.getD []).length ≤ 1000) : ∀ (j : Nat) (z : Int) (w : AV) (H : Heap), z = (j : Int) - 1 → j ≤ (o.getD []).length → Rd H w (listT (((o.getD []).drop j).map canonT)) →
    ∃ w' H', LDoes (L28_0 (polT TRlst)) ⟨[eL 7 eT o, .int .i64 z], [c0, w.cells]⟩ H 0 ⟨[], [c0, w'.cells]⟩ H' ∧ Rd H' w' (listT ((o.getD []).map canonT)) := by
  intro j
  induction j with
  | zero =>
    intro z w H hz hj hR
    rw [List.drop_zero] at hR
    have hz' : ¬ 0 ≤ z := by omega
    refine ⟨w, H, LDoes.step (Evs.of fun n m => ?_), hR⟩
    generalize w.cells = wc at *
    simp [↓test_bool, ↓withV_of, L28_0_step, hz']
  | succ j ih =>
    intro z w H hz hj hR
    have hz' : 0 ≤ z := by omega
    have hlt : j < (o.getD []).length := by omega
    have hx : A.idx 7 (eL 7 eT o) (.int .i64 z) H = some (.rop (eT (o.getD [])[j]).cells) := by
      have : z = (j : Int) := by omega
      rw [this]
      exact idx_eL (sz := 7) (e := eT) (o := o) (H := H) (k := .i64) (i := j) hlt
    have hld := load_eT (t := (o.getD [])[j]) (H := H)
    have hcp : ∀ (R : Type) (H : Heap) (k : AV → Heap → Option R), polQ pRcopyA [eT (o.getD [])[j]] H k = k (eT (canonT (o.getD [])[j])) H := fun R H k => qRcopy (hall _ (List.getElem_mem hlt)).1
    obtain ⟨v1, v2, v3, v4, v5⟩ := rd_seven hR
    have hfe : A.fillElems 7 [.agg [.int .i64 0, .bool false, .nils, .str [], .int .i64 0, .nils, .nils], .agg [.int .i64 0, .bool false, .nils, .str [], .int .i64 0, .nils, .nils]] [(0, 1, eT (canonT (o.getD [])[j])), (1, 1, w)] = some [eT (canonT (o.getD [])[j]), w] := by
      have x1 : (eT (canonT (o.getD [])[j])).cells.length = 7 := by rw [cells_eT]; rfl
      have x2 : (eT (canonT (o.getD [])[j])).isDef = true := isDef_eT
      simp [-cells_eT, A.fillElems, x1, x2, v1, v4]
    have hR' : Rd (H ++ [.row 0 7 26 [eT (canonT (o.getD [])[j]), w]]) (op (listT (((o.getD []).drop j).map canonT)) (.sl H.length 0 0 2 2)) (listT (((o.getD []).drop j).map canonT)) := by
      rw [List.drop_eq_getElem_cons hlt, List.map_cons]
      refine .own _ [canonT (o.getD [])[j], listT (((o.getD []).drop (j + 1)).map canonT)] H.length 0 2 [eT (canonT (o.getD [])[j]), w] rfl (by simp) rfl fun i hi => ?_
      match i, hi with
      | 0, _ => exact .imm _
      | 1, _ => exact rd_push hR
    have hop : op (listT (((o.getD []).drop j).map canonT)) (.sl H.length 0 0 2 2) = .agg [.int .i64 6, .bool false, .nils, .str [], .int .i64 0, .sl H.length 0 0 2 2, .nils] := by
      rw [List.drop_eq_getElem_cons hlt, List.map_cons]
      rfl
    rw [hop] at hR'
    obtain ⟨w', H', hL, hR2⟩ := ih (z - 1) _ _ (by omega) (by omega) hR'
    have hcc : (AV.agg [.int .i64 6, .bool false, .nils, .str [], .int .i64 0, .sl H.length 0 0 2 2, .nils]).cells = [.int .i64 6, .bool false, .nils, .str [], .int .i64 0, .sl H.length 0 0 2 2, .nils] := rfl
    rw [hcc] at hL
    have hi1 : IntKind.wrap .i64 (z - 1) = z - 1 := wrap_i64 (by omega) (by omega)
    have hft := zero_one (.sl H.length 0 0 2 2) rfl 6
    refine ⟨w', H', LDoes.step (Evs.withL hL (Evs.of fun n m _ h2 => ?_)), hR2⟩
    generalize eT (o.getD [])[j] = x at *
    generalize eT (canonT (o.getD [])[j]) = y at *
    have hsp : A.splice w.cells 0 [.int .i64 6, .bool false, .nils, .str [], .int .i64 0, .sl H.length 0 0 2 2, .nils] = [.int .i64 6, .bool false, .nils, .str [], .int .i64 0, .sl H.length 0 0 2 2, .nils] := by
      unfold A.splice
      rw [List.take_zero, List.drop_of_length_le (by simp [v1])]
      simp
    have hfl : A.fill [.int .i64 0, .bool false, .nils, .str [], .int .i64 0, .nils, .nils] [(0, 1, .int .i64 6), (5, 1, .sl H.length 0 0 2 2)] = some [.int .i64 6, .bool false, .nils, .str [], .int .i64 0, .sl H.length 0 0 2 2, .nils] := by simp [A.fill, A.splice]
    simp [↓test_bool, ↓bindV_eq, ↓bindC_eq, ↓bindH_eq, ↓withV_of, ↓withL_some, ↓chkD_true, L28_0_step, hz', hx, hld, hcp, v3, hfe, hfl, hft, v1, hsp, hi1, h2]
def allRL (o : Option (List Tm)) : Prop := (∀ u ∈ o.getD [], partR u) ∧ (o.getD []).length ≤ 40
noncomputable def pRlist : Pol := .still (p1 cTs eT allRL fun o => listT ((o.getD []).map canonT))
theorem okRlist : PolOK base 28 pRlist := still1 base_ok TRlst ⟨okRnil, okRcopyA, trivial⟩ fun o ⟨hall, hlen⟩ => by
  obtain ⟨w, H', hL, hR⟩ := rlst_loop (c0 := [.int .i64 0, .bool false, .nils, .str [], .int .i64 0, .nils, .nils]) hall (by omega) (o.getD []).length (((o.getD []).length : Int) - 1) (eT (listT [])) [] rfl (Nat.le_refl _) (by rw [List.drop_length]; exact .imm _)
  have hln : A.len (eL 7 eT o) [] = some (.int .i64 ((o.getD []).length : Int)) := len_eL
  have hw1 : IntKind.wrap .i64 (((o.getD []).length : Int) - 1) = ((o.getD []).length : Int) - 1 := wrap_i64 (by omega) (by omega)
  have hsh : shal 63 (listT ((o.getD []).map canonT)) := shal_le (n := ((o.getD []).map canonT).length + 21) (m := 63) (by simp; omega) (shal_list _ fun u hu => by
    obtain ⟨x, hx, rfl⟩ := List.mem_map.1 hu
    exact shal_canon 20 x (hall x hx).2)
  obtain ⟨v1, v2, v3, v4, v5⟩ := rd_seven hR
  have hfz := rd_freeze 63 _ _ hsh hR
  have hcl : (eT (listT [])).cells = [.int .i64 5, .bool false, .nils, .str [], .int .i64 0, .nils, .nils] := by rw [cells_eT]; rfl
  have e0 : eT (listT []) = .agg [.int .i64 5, .bool false, .nils, .str [], .int .i64 0, .nils, .nils] := by rw [eT_eq]; rfl
  have hf0 : A.fits 7 (.agg [.int .i64 5, .bool false, .nils, .str [], .int .i64 0, .nils, .nils]) = true := rfl
  have hn : ∀ (R : Type) (H : Heap) (k : AV → Heap → Option R), polK pRnil [] H k = k (.agg [.int .i64 5, .bool false, .nils, .str [], .int .i64 0, .nils, .nils]) H := fun R H k => by rw [kRnil, e0]
  rw [hcl] at hL
  refine Evs.withL hL (Evs.of fun n m h1 _ => ?_)
  have hsp : A.splice [.int .i64 0, .bool false, .nils, .str [], .int .i64 0, .nils, .nils] 0 [.int .i64 5, .bool false, .nils, .str [], .int .i64 0, .nils, .nils] = [.int .i64 5, .bool false, .nils, .str [], .int .i64 0, .nils, .nils] := rfl
  generalize ((o.getD []).length : Int) = N at *
  simp [↓bindC_eq, ↓withV_of, ↓bindX_some, ↓chkD_true, -len_eL, S28, hn, hf0, hsp, hln, hw1, h1, v3, v2, v1, v5, hfz]
end Go.Proofs.YtleikacgncpfbaaDoor

/- Terms: the items of a list; bytes as a term; rows that are the same. -/
set_option maxRecDepth 100000
set_option maxHeartbeats 4000000
namespace Go.Proofs.YtleikacgncpfbaaDoor
open Go Go.Den
/-! ### a list's part -/
theorem kids_cons (x : Tm) (r : List Tm) : (listT (x :: r)).kids = [x, listT r] := rfl
noncomputable def pPair : Pol := .still (p1 cT .bool (fun _ => True) fun t => decide (t.kind = 6) && decide (t.kids.length = 2))
theorem kPair {R : Type} {t : Tm} {H : Heap} {k : AV → Heap → Option R} : polK pPair [eT t] H k = k (.bool (decide (t.kind = 6) && decide (t.kids.length = 2))) H := by
  simp [pPair, polK_imm]
theorem okPair : PolOK base 70 pPair := still1 base_ok [] trivial fun t _ => by
  have hB : Go.Den.Box [.row 0 7 26 [eT t]] 0 7 26 (eT t).cells := box_eT t _ 0 rfl
  have p := fun o => hB.fa (o := o)
  have q := fun o => hB.load (o := o)
  rw [cells_eT] at q
  have q0 := q 0
  have q5 := q 5
  simp only [List.getElem?_cons_succ, List.getElem?_cons_zero] at q0 q5
  have hcl : (eT t).cells.length = 7 := by rw [cells_eT]; rfl
  have hl5 : A.len (eL 7 eT t.l) [.row 0 7 26 [eT t]] = some (.int .i64 ((t.kids.length : Nat) : Int)) := len_eL
  have e2 : decide ((t.kids.length : Int) = 2) = decide (t.kids.length = 2) := decide_eq_decide.2 (by omega)
  generalize t.kids.length = nl at *
  generalize eL 7 eT t.l = vl at *
  by_cases c6 : t.kind = 6
  · exact Evs.of fun n m => by simp [-len_eL, -cells_eT, S70, hcl, p, q0, q5, c6, hl5, e2]
  · exact Evs.of fun n m => by simp [-len_eL, -cells_eT, S70, hcl, p, q0, c6]
/-! ### the items -/
theorem listT_inj : ∀ a b : List Tm, listT a = listT b → a = b
  | [], [], _ => rfl
  | [], y :: s, h => by rw [listT, listT] at h; cases h
  | x :: r, [], h => by rw [listT, listT] at h; cases h
  | x :: r, y :: s, h => by
    rw [listT, listT] at h
    injection h with _ _ _ _ _ h _
    injection h with h
    simp only [List.cons.injEq, and_true] at h
    rw [h.1, listT_inj r s h.2]
def cLst : Cd (List Tm) := ⟨fun l => eT (listT l), fun a b h => listT_inj a b (eT_inj _ _ h), fun l => by rw [eT_eq]; simp⟩
@[simp] theorem enc_cLst {l : List Tm} : cLst.enc l = eT (listT l) := id rfl
@[simp] theorem dec_cLst {l : List Tm} : cLst.dec (eT (listT l)) = some l := cLst.dec_enc l
noncomputable abbrev TItm : List (FuncId × Pol) := [(70, pPair), (44, pCopy)]
theorem items_loop : ∀ (r : List Tm) (done : List Tm) (v : AV) (H : Heap), (∀ u ∈ r, copyT u) → done.length + r.length ≤ 1000 → Out eT 7 26 H v done →
    ∃ v' H', LDoes (L40_0 (polT TItm)) ⟨[v], [(eT (listT r)).cells]⟩ H 0 ⟨[v'], [(eT (listT [])).cells]⟩ H' ∧ Out eT 7 26 H' v' (done ++ r)
  | [], done, v, H, _, _, hO => by
    have hof : A.ofList true 7 (eT (listT [])).cells 0 = some (eT (listT [])) := load_eT (H := [])
    have hp : ∀ (R : Type) (H : Heap) (k : AV → Heap → Option R), polK pPair [eT (listT [])] H k = k (.bool false) H := fun R H k => by rw [kPair]; rfl
    refine ⟨v, H, LDoes.step (Evs.of fun n m => ?_), by simpa using hO⟩
    generalize eT (listT []) = T at *
    simp [↓test_bool, ↓bindV_eq, ↓bindC_eq, ↓bindH_eq, ↓withV_of, L40_0_step, hof, hp]
  | x :: r, done, v, H, hall, hlen, hO => by
    have hof : A.ofList true 7 (eT (listT (x :: r))).cells 0 = some (eT (listT (x :: r))) := load_eT (H := [])
    have hp : ∀ (R : Type) (H : Heap) (k : AV → Heap → Option R), polK pPair [eT (listT (x :: r))] H k = k (.bool true) H := fun R H k => by rw [kPair]; rfl
    have h5 : A.ofList false 1 (eT (listT (x :: r))).cells 5 = some (eL 7 eT (some [x, listT r])) := by rw [cells_eT]; rfl
    have x0 : ∀ H, A.idx 7 (eL 7 eT (some [x, listT r])) (.int .i64 0) H = some (.rop (eT x).cells) := fun H => idx_eL (sz := 7) (e := eT) (o := some [x, listT r]) (H := H) (k := .i64) (i := 0) (by simp)
    have x1 : ∀ H, A.idx 7 (eL 7 eT (some [x, listT r])) (.int .i64 1) H = some (.rop (eT (listT r)).cells) := fun H => idx_eL (sz := 7) (e := eT) (o := some [x, listT r]) (H := H) (k := .i64) (i := 1) (by simp)
    have l0 : ∀ H, A.load true 7 (.rop (eT x).cells) H = some (eT x) := fun H => load_eT
    have l1 : ∀ H, A.load true 7 (.rop (eT (listT r)).cells) H = some (eT (listT r)) := fun H => load_eT
    have hcp : ∀ (R : Type) (H : Heap) (k : AV → Heap → Option R), polK pCopy [eT x] H k = k (eT x) H := fun R H k => kCopy (hall x (by simp))
    obtain ⟨v1, H1, happ, hO1⟩ := hO.push (bytes := 112) x (by omega) (by simp at hlen; omega)
    obtain ⟨v', H', hL, hO'⟩ := items_loop r (done ++ [x]) v1 H1 (fun u hu => hall u (by simp [hu])) (by simp at hlen ⊢; omega) hO1
    have hfe : A.fillElems 7 [.agg [.int .i64 0, .bool false, .nils, .str [], .int .i64 0, .nils, .nils]] [(0, 1, eT x)] = some [eT x] := by simp [A.fillElems, cells_eT]
    have hrd : A.read 7 (.sl H.length 0 0 1 1) (H ++ [.row 0 7 26 [eT x]]) = some [eT x] := tmp_read
    have hft : A.fits 7 (eT (listT r)) = true := by simp [A.fits]
    have hc0 : (eT (listT (x :: r))).cells.length = 7 := by rw [cells_eT]; rfl
    have hc1 : (eT (listT r)).cells.length = 7 := by rw [cells_eT]; rfl
    have hsp : A.splice (eT (listT (x :: r))).cells 0 (eT (listT r)).cells = (eT (listT r)).cells := by
      unfold A.splice
      rw [List.take_zero, List.drop_of_length_le (by omega)]
      simp
    refine ⟨v', H', LDoes.step (Evs.withL hL (Evs.of fun n m _ h2 => ?_)), by rw [List.append_assoc] at hO'; exact hO'⟩
    generalize eT (listT (x :: r)) = T0 at *
    generalize eT (listT r) = T1 at *
    generalize eL 7 eT (some [x, listT r]) = vl at *
    generalize eT x = vx at *
    simp [↓test_bool, ↓bindV_eq, ↓bindC_eq, ↓bindH_eq, ↓withV_of, ↓withL_some, ↓withVH_some, ↓chkD_true, L40_0_step, hof, hp, h5, x0, l0, hcp, hfe, newsZ_sl ty_terms, hrd, happ, x1, l1, hft, hc0, hc1, hsp, h2]
def itmOk (l : List Tm) : Prop := (∀ u ∈ l, copyT u) ∧ l.length ≤ 1000
noncomputable def pItems : Pol := .still (p1 cLst (fun l : List Tm => .tup [eL 7 eT (nz l), .bool true]) itmOk id)
theorem kItems {R : Type} {l : List Tm} (h : itmOk l) {H : Heap} {k : AV → Heap → Option R} : polK pItems [eT (listT l)] H k = k (.tup [eL 7 eT (nz l), .bool true]) H := by
  unfold pItems
  rw [polK_imm (by simp)]
  simp [h]
theorem okItems : PolOK base 40 pItems := still1 base_ok TItm ⟨okPair, okCopy, trivial⟩ fun l ⟨hall, hlen⟩ => by
  have hcl : (eT (listT l)).cells.length = 7 := by rw [cells_eT]; rfl
  obtain ⟨v, H', hL, hO⟩ := items_loop l [] .nils [] hall (by simpa using hlen) .nil
  rw [List.nil_append] at hO
  have h0 : A.ofList false 1 (eT (listT [])).cells 0 = some (.int .i64 5) := by rw [cells_eT]; rfl
  have hz : A.freezeB true 63 H' v = some (eL 7 eT (nz l)) := by
    rcases hO with ⟨rfl, rfl⟩ | ⟨id, ver, h0, rfl, h2⟩
    · rfl
    · unfold nz
      rw [if_neg h0]
      exact frz_row_eT (n := 61) h2
  have hfz : A.freezeB true 64 H' (.tup [v, .bool true]) = some (.tup [eL 7 eT (nz l), .bool true]) := by
    show ([v, .bool true].mapM (A.freezeB true 63 H')).map AV.tup = _
    have h1 : A.freezeB true 63 H' (.bool true) = some (.bool true) := rfl
    simp only [List.mapM_cons, List.mapM_nil, hz, h1]
    rfl
  refine Evs.withL hL (Evs.of fun n m h1 _ => ?_)
  simp only [enc_cLst]
  have hdf : (eT (listT l)).isDef = true := isDef_eT
  generalize eT (listT l) = T at *
  generalize (eT (listT [])).cells = c0 at *
  simp [↓test_bool, ↓bindV_eq, ↓bindC_eq, ↓withV_of, ↓bindX_some, ↓chkD_true, S40, hcl, hdf, h1, h0, hfz]
/-! ### bytes -/
def binT (b : Option (List UInt8)) : Tm := .mk 7 false none [] 0 none b
theorem eT_bin (b : Option (List UInt8)) : eT (binT b) = .agg [.int .i64 7, .bool false, .nils, .str [], .int .i64 0, .nils, eL 1 eb b] := by rw [eT_eq]; rfl
theorem kBclone {R : Type} {d : Option (List UInt8)} (h : fewB d) {H : Heap} {k : AV → Heap → Option R} : polK pBclone [eL 1 eb d] H k = k (eL 1 eb d) H := by
  simp [pBclone, polK_imm, h]
noncomputable def pBin : Pol := .still (p1 cBy eT fewB binT)
theorem kBin {R : Type} {b : Option (List UInt8)} (h : fewB b) {H : Heap} {k : AV → Heap → Option R} : polK pBin [eL 1 eb b] H k = k (eT (binT b)) H := by
  simp [pBin, polK_imm, h]
theorem okBin : PolOK base 43 pBin := still1 base_ok [(71, pBclone)] ⟨okBclone, trivial⟩ fun b hb => by
  have hk : ∀ (R : Type) (H : Heap) (k : AV → Heap → Option R), polK pBclone [eL 1 eb b] H k = k (eL 1 eb b) H := fun R H k => kBclone hb
  have hfl : A.fill [.int .i64 0, .bool false, .nils, .str [], .int .i64 0, .nils, .nils] [(0, 1, .int .i64 7), (6, 1, eL 1 eb b)] = some [.int .i64 7, .bool false, .nils, .str [], .int .i64 0, .nils, eL 1 eb b] := by
    cases b <;> simp [A.fill, A.splice, eL]
  have hft : A.fits 7 (eT (binT b)) = true := by simp [A.fits]
  have hfz : A.freezeB true 64 [] (eT (binT b)) = some (eT (binT b)) := frz_eT
  rw [eT_bin] at hft hfz ⊢
  exact Evs.of fun n m => by simp [↓bindC_eq, ↓withV_of, ↓chkD_true, S43, hk, hfl, hft, A.splice, A.ofList, hfz]
/-! ### rows that are the same -/
def rowOk (a b : Option (List Tm)) : Prop := a.getD [] = b.getD [] ∧ (∀ u ∈ a.getD [], rcp u) ∧ (a.getD []).length ≤ 1000
noncomputable abbrev TRow : List (FuncId × Pol) := [(41, pSameT)]
theorem row_loop {a b : Option (List Tm)} (h : rowOk a b) (H : Heap) : ∀ (k i : Nat), i + k = (a.getD []).length →
    LDoes (L42_0 (polT TRow)) ⟨[eL 7 eT a, eL 7 eT b, .int .i64 (i : Int)], []⟩ H 0 ⟨[.undef], []⟩ H := by
  obtain ⟨h1, h2, h3⟩ := h
  have la : A.len (eL 7 eT a) H = some (.int .i64 ((a.getD []).length : Int)) := len_eL
  intro k
  induction k with
  | zero =>
    intro i hi
    have : i = (a.getD []).length := by omega
    subst this
    refine LDoes.step (Evs.of fun n m => ?_)
    generalize ((a.getD []).length : Int) = N at *
    simp [-len_eL, L42_0_step, la]
  | succ k ih =>
    intro i hi
    have hlt : i < (a.getD []).length := by omega
    have hlt' : (i : Int) < ((a.getD []).length : Int) := by omega
    have xa : A.idx 7 (eL 7 eT a) (.int .i64 (i : Int)) H = some (.rop (eT (a.getD [])[i]).cells) := idx_eL (sz := 7) (e := eT) (o := a) (H := H) (k := .i64) (i := i) hlt
    have xb : A.idx 7 (eL 7 eT b) (.int .i64 (i : Int)) H = some (.rop (eT (a.getD [])[i]).cells) := by
      have := idx_eL (sz := 7) (e := eT) (o := b) (H := H) (k := .i64) (i := i) (by rw [← h1]; exact hlt)
      rw [this]
      simp only [h1]
    have da := load_eT (t := (a.getD [])[i]) (H := H)
    have hu := h2 _ (List.getElem_mem hlt)
    have hr : ∀ (R : Type) (H : Heap) (k : AV → Heap → Option R), polQ pSameT [eT (a.getD [])[i], eT (a.getD [])[i]] H k = k (.bool true) H := fun R H k => qSameT ⟨hu.1, hu.2, rfl⟩
    have hi1 : IntKind.wrap .i64 ((i : Int) + 1) = (i : Int) + 1 := wrap_i64 (by omega) (by omega)
    have hL := ih (i + 1) (by omega)
    simp only [Int.natCast_add, Int.natCast_one] at hL
    refine LDoes.step (Evs.withL hL (Evs.of fun n m _ h3 => ?_))
    generalize eT (a.getD [])[i] = v at *
    generalize ((a.getD []).length : Int) = N at *
    simp [-len_eL, L42_0_step, la, hlt', xa, xb, da, hr, hi1, h3]
noncomputable def pRow : Pol := .still (p2 cTs cTs .bool rowOk fun _ _ => true)
theorem kRow {R : Type} {a b : Option (List Tm)} (h : rowOk a b) {H : Heap} {k : AV → Heap → Option R} : polK pRow [eL 7 eT a, eL 7 eT b] H k = k (.bool true) H := by
  simp [pRow, polK_imm, h]
theorem okRow : PolOK base 42 pRow := still2 base_ok TRow ⟨okSameT, trivial⟩ fun a b h => by
  have hL := row_loop h [] (a.getD []).length 0 (by omega)
  have la : A.len (eL 7 eT a) [] = some (.int .i64 ((a.getD []).length : Int)) := len_eL
  have lb : A.len (eL 7 eT b) [] = some (.int .i64 ((a.getD []).length : Int)) := by rw [len_eL, h.1]
  refine Evs.withL hL (Evs.of fun n m h1 _ => ?_)
  simp only [Int.natCast_zero] at h1
  generalize ((a.getD []).length : Int) = N at *
  simp [↓test_bool, ↓bindV_eq, ↓withV_of, ↓bindX_some, -len_eL, S42, la, lb, h1]
/-! ### a term without empty rows is the same -/
theorem canon_kids (t : Tm) : (canonT t).kids = t.kids.map canonT := by rw [canonT_eq]; exact nz_get _
theorem canon_idem : ∀ t : Tm, canonT (canonT t) = canonT t := tm_ind fun t ih => by
  have hk : (t.kids.map canonT).map canonT = t.kids.map canonT := by
    rw [List.map_map]
    exact List.map_congr_left fun u hu => ih u hu
  rw [canonT_eq (canonT t), canon_kids, hk, canonT_eq t]
  simp only [Tm.kind, Tm.neg, Tm.d, Tm.name, Tm.n, Tm.b, nz_get]
theorem canon_tup (l : List Tm) : canonT (tupT l) = canonT (tupT (l.map canonT)) := by
  have hk : (l.map canonT).map canonT = l.map canonT := by
    rw [List.map_map]
    exact List.map_congr_left fun u _ => canon_idem u
  rw [canonT_eq (tupT l), canonT_eq (tupT (l.map canonT)), kids_tup, kids_tup, hk]
  rfl
theorem canon_list : ∀ l : List Tm, canonT (listT l) = canonT (listT (l.map canonT))
  | [] => rfl
  | x :: r => by
    have ih := canon_list r
    rw [List.map_cons, canonT_eq (listT (x :: r)), canonT_eq (listT (canonT x :: r.map canonT)), kids_cons, kids_cons]
    simp only [List.map_cons, List.map_nil, canon_idem, ← ih]
    rfl
theorem fine_tup {l : List Tm} (h : ∀ u ∈ l, fineT u) (hl : l.length ≤ 1000) : fineT (tupT l) := by
  rw [fineT_eq, kids_tup]
  exact ⟨⟨by simp [few, tupT, Tm.d], by simp [fewB, tupT, Tm.b], by rw [kids_tup]; exact hl⟩, h⟩
theorem fine_list : ∀ {l : List Tm}, (∀ u ∈ l, fineT u) → fineT (listT l)
  | [], _ => by
    rw [fineT_eq]
    exact ⟨⟨by simp [few, listT, Tm.d], by simp [fewB, listT, Tm.b], by simp [listT, Tm.kids, Tm.l]⟩, fun u hu => by simp [listT, Tm.kids, Tm.l] at hu⟩
  | x :: r, h => by
    rw [fineT_eq]
    refine ⟨⟨by simp [few, listT, Tm.d], by simp [fewB, listT, Tm.b], by simp [listT, Tm.kids, Tm.l]⟩, fun u hu => ?_⟩
    have : u ∈ [x, listT r] := hu
    simp only [List.mem_cons, List.not_mem_nil, or_false] at this
    rcases this with rfl | rfl
    · exact h _ (by simp)
    · exact fine_list fun u hu => h u (by simp [hu])
end Go.Proofs.YtleikacgncpfbaaDoor

/- The law on what is made of any parts: what its function answers. -/
set_option maxRecDepth 100000
set_option maxHeartbeats 8000000
namespace Go.Proofs.YtleikacgncpfbaaDoor
open Go Go.Den
theorem qRlist {R : Type} {o : Option (List Tm)} (h : allRL o) {H : Heap} {k : AV → Heap → Option R} : polQ pRlist [eL 7 eT o] H k = k (eT (listT ((o.getD []).map canonT))) H := by
  simp [pRlist, polQ_imm, h]
noncomputable abbrev TLk : List (FuncId × Pol) := [(15, pAwake5), (24, pRooms), (39, pList), (40, pItems), (30, pTnum), (32, pTof), (28, pRlist), (41, pSameT), (38, pTuple), (27, pRtup), (42, pRow), (35, pRnorm), (34, pSame), (43, pBin)]
theorem okTLk : TabOK base TLk := ⟨okAwake5, okRooms, okList, okItems, okTnum, okTof, okRlist, okSameT, okTuple, okRtup, okRow, okRnorm, okSame, okBin, trivial⟩
theorem len_normk (a : Nm) : ((normS a).2.getD []).length ≤ (a.2.getD []).length := by
  rw [normS_get]
  exact lim_len_le _
theorem law_makes (o : Option (List Tm)) (a : Nm) (b : Option (List UInt8)) : Evs fun n _ => callF (base.with (polT TLk)) (n + 1) AV 9 [eL 7 eT o, eN a, eL 1 eb b] [] (fun v _ => some v) = some (.bool true) := by
  have hcl0 : (eN a).cells.length = 2 := rfl
  have hdf0 : (eN a).isDef = true := rfl
  have b0 : Go.Den.Box [.row 0 2 40 [eN a]] 0 2 40 [.bool a.1, eD a.2] := rfl
  have p1 := b0.fa (o := 1)
  have q1 := b0.load (o := 1)
  simp only [List.getElem?_cons_succ, List.getElem?_cons_zero] at q1
  have hrm : ∀ (R : Type) (H : Heap) (k : AV → Heap → Option R), polK pRooms [eL 7 eT o, .int .i64 40] H k = k (.bool (roomsS o 40)) H := fun R H k => kRooms (by omega)
  have hla : A.len (eD a.2) [.row 0 2 40 [eN a]] = some (.int .i64 ((a.2.getD []).length : Int)) := len_eL
  have hlb : A.len (eL 1 eb b) [.row 0 2 40 [eN a]] = some (.int .i64 ((b.getD []).length : Int)) := len_eL
  cases hr : roomsS o 40
  · rw [hr] at hrm
    exact Evs.of fun n m => by simp [↓test_bool, ↓bindV_eq, ↓bindC_eq, ↓bindH_eq, ↓withV_of, ↓withP_some, ↓withB_some, ↓chkD_true, -len_eL, S9, hdf0, kAwake5, hrm]
  rw [hr] at hrm
  by_cases hna : (a.2.getD []).length ≤ 64
  case neg =>
    have hna' : (64 : Int) < ((a.2.getD []).length : Int) := by omega
    generalize ((a.2.getD []).length : Int) = N at *
    exact Evs.of fun n m => by simp [↓test_bool, ↓bindV_eq, ↓bindC_eq, ↓bindH_eq, ↓withV_of, ↓withP_some, ↓withB_some, ↓chkD_true, -len_eL, S9, hdf0, kAwake5, hrm, p1, q1, hla, hna']
  have hna' : ¬ (64 : Int) < ((a.2.getD []).length : Int) := by omega
  by_cases hnb : (b.getD []).length ≤ 3000
  case neg =>
    have hnb' : (3000 : Int) < ((b.getD []).length : Int) := by omega
    generalize ((a.2.getD []).length : Int) = N at *
    generalize ((b.getD []).length : Int) = M at *
    exact Evs.of fun n m => by simp [↓test_bool, ↓bindV_eq, ↓bindC_eq, ↓bindH_eq, ↓withV_of, ↓withP_some, ↓withB_some, ↓chkD_true, -len_eL, S9, hdf0, kAwake5, hrm, p1, q1, hla, hna', hlb, hnb']
  have hnb' : ¬ (3000 : Int) < ((b.getD []).length : Int) := by omega
  obtain ⟨hl40, hall⟩ := rooms_true hr
  have hlen : (o.getD []).length ≤ 40 := by omega
  have hpt : ∀ u ∈ o.getD [], partT u := fun u hu => room_part (hall u hu)
  have htm : ∀ u ∈ o.getD [], tame u := fun u hu => room_tame (by omega) u 8 (hall u hu).1
  have hfn : ∀ u ∈ o.getD [], fineT u := fun u hu => room_fine (by omega) u 8 (hall u hu).1
  have hpr : ∀ u ∈ o.getD [], partR u := fun u hu => ⟨⟨htm u hu, hfn u hu⟩, (hpt u hu).2⟩
  have hfa : few a.2 := by unfold few; omega
  have hln := len_normk a
  have hfn1 : few (normS a).2 := by unfold few; omega
  have s1 : Rep (normS (normS a)) (toI a) := by have := rep_norm (normS a); rw [toI_norm] at this; exact this
  have hx := len_normk (normS a)
  have g1 : sameS (normS (normS a)) (rnormS a) = true := s1.same (rep_rnorm a)
  have k1 : few (normS (normS a)).2 := by unfold few; omega
  have hfb : fewB b := by unfold fewB; omega
  have f1 : ∀ (R : Type) (H : Heap) (k : AV → Heap → Option R), polK pList [eL 7 eT o] H k = k (eT (listT (o.getD []))) H := fun R H k => kList ⟨hpt, hlen⟩
  have f2 : ∀ (R : Type) (H : Heap) (k : AV → Heap → Option R), polK pItems [eT (listT (o.getD []))] H k = k (.tup [eL 7 eT (nz (o.getD [])), .bool true]) H := fun R H k => kItems ⟨fun u hu => (hpt u hu).1, by omega⟩
  have f3 : ∀ (R : Type) (H : Heap) (k : AV → Heap → Option R), polK pTnum [.agg [.bool a.1, eD a.2]] H k = k (eT (intT (normS a))) H := fun R H k => kTnum (a := a) hfa
  have f4 : ∀ (R : Type) (H : Heap) (k : AV → Heap → Option R), polK pTof [eT (intT (normS a))] H k = k (.tup [eN (normS (normS a)), .bool true]) H := fun R H k => kTof (t := intT (normS a)) hfn1
  have f5 : ∀ (R : Type) (H : Heap) (k : AV → Heap → Option R), polQ pRlist [eL 7 eT o] H k = k (eT (listT ((o.getD []).map canonT))) H := fun R H k => qRlist ⟨hpr, hlen⟩
  have f6 : ∀ (R : Type) (H : Heap) (k : AV → Heap → Option R), polQ pSameT [eT (listT (o.getD [])), eT (listT ((o.getD []).map canonT))] H k = k (.bool true) H := fun R H k => qSameT ⟨tame_list htm, fine_list hfn, canon_list _⟩
  have f7 : ∀ (R : Type) (H : Heap) (k : AV → Heap → Option R), polK pTuple [eL 7 eT o] H k = k (eT (tupT (o.getD []))) H := fun R H k => kTuple ⟨hpt, by omega⟩
  have f8 : ∀ (R : Type) (H : Heap) (k : AV → Heap → Option R), polK pRtup [eL 7 eT o] H k = k (eT (tupT ((o.getD []).map canonT))) H := fun R H k => kRtup ⟨hpr, by omega⟩
  have f9 : ∀ (R : Type) (H : Heap) (k : AV → Heap → Option R), polK pSameT [eT (tupT (o.getD [])), eT (tupT ((o.getD []).map canonT))] H k = k (.bool true) H := fun R H k => kSameT ⟨tame_tup htm (by omega), fine_tup hfn (by omega), canon_tup _⟩
  have f10 : ∀ (R : Type) (H : Heap) (k : AV → Heap → Option R), polK pRow [eL 7 eT (nz (o.getD [])), eL 7 eT o] H k = k (.bool true) H := fun R H k => kRow ⟨nz_get _, fun u hu => by rw [nz_get] at hu; exact (hpr u hu).1, by rw [nz_get]; omega⟩
  have f11 : ∀ (R : Type) (H : Heap) (k : AV → Heap → Option R), polK pRnorm [eN a] H k = k (eN (rnormS a)) H := fun R H k => kRnorm hfa
  have f12 : ∀ (R : Type) (H : Heap) (k : AV → Heap → Option R), polK pSame [eN (normS (normS a)), eN (rnormS a)] H k = k (.bool true) H := fun R H k => by rw [kSame k1 (few_rnorm hfa), g1]
  have f13 : ∀ (R : Type) (H : Heap) (k : AV → Heap → Option R), polK pBin [eL 1 eb b] H k = k (eT (binT b)) H := fun R H k => kBin hfb
  have f14 : ∀ (R : Type) (H : Heap) (k : AV → Heap → Option R), polK pSameT [eT (binT b), eT (binT b)] H k = k (.bool true) H := fun R H k => by
    have t1 : tame (binT b) := by
      rw [tame_eq]
      exact ⟨⟨by simp [binT, Tm.d], by simp [binT, Tm.name], by simp [binT, Tm.kids, Tm.l]⟩, fun u hu => by simp [binT, Tm.kids, Tm.l] at hu⟩
    have t2 : fineT (binT b) := by
      rw [fineT_eq]
      exact ⟨⟨by simp [few, binT, Tm.d], hfb, by simp [binT, Tm.kids, Tm.l]⟩, fun u hu => by simp [binT, Tm.kids, Tm.l] at hu⟩
    exact kSameT ⟨t1, t2, rfl⟩
  have hfl : A.fill [.int .i64 0, .bool false, .nils, .str [], .int .i64 0, .nils, .nils] [(0, 1, .int .i64 7), (6, 1, eL 1 eb b)] = some [.int .i64 7, .bool false, .nils, .str [], .int .i64 0, .nils, eL 1 eb b] := by
    cases b <;> simp [A.fill, A.splice, eL]
  have hbin := eT_bin b
  have c1 : A.fits 7 (eT (listT (o.getD []))) = true := by simp [A.fits]
  have d1 : (eT (listT (o.getD []))).cells.length = 7 := by rw [cells_eT]; rfl
  have e1 : A.splice [.int .i64 0, .bool false, .nils, .str [], .int .i64 0, .nils, .nils] 0 (eT (listT (o.getD []))).cells = (eT (listT (o.getD []))).cells := by rw [cells_eT]; rfl
  have o1 : A.ofList true 7 (eT (listT (o.getD []))).cells 0 = some (eT (listT (o.getD []))) := load_eT (H := [])
  rw [hbin] at f13 f14
  have hfill : A.fill [.bool false, .nils] [(0, 1, .bool a.1), (1, 1, eD a.2)] = some [.bool a.1, eD a.2] := by simp [A.fill, A.splice]
  generalize eT (listT (o.getD [])) = T1 at *
  generalize eT (listT ((o.getD []).map canonT)) = T2 at *
  generalize eT (tupT (o.getD [])) = T3 at *
  generalize eT (tupT ((o.getD []).map canonT)) = T4 at *
  generalize eT (intT (normS a)) = T5 at *
  generalize eL 7 eT (nz (o.getD [])) = vm at *
  generalize normS (normS a) = X at *
  obtain ⟨x1, x2⟩ := X
  have hone : ∀ (b : Bool) (d : Option (List UInt32)), [AV.bool b, eD d].all AV.one = true := fun b d => by cases d <;> rfl
  have q0 := b0.load (o := 0)
  have p0 := b0.fa (o := 0)
  simp only [List.getElem?_cons_zero] at q0
  have st : A.store 2 (.ptr 1 0 0 0) (.agg [.bool x1, eD x2]) [.row 0 2 40 [eN a], .row 0 2 42 [.agg [.bool false, .nils]]] = some [.row 0 2 40 [eN a], .row 0 2 42 [.agg [.bool x1, eD x2]]] := box_store (cs := [.bool false, .nils]) (ds := [.bool x1, eD x2]) (H := [.row 0 2 40 [eN a], .row 0 2 42 [.agg [.bool false, .nils]]]) rfl rfl rfl (hone _ _)
  have b1 : Go.Den.Box [.row 0 2 40 [eN a], .row 0 2 42 [.agg [.bool x1, eD x2]]] 1 2 42 [.bool x1, eD x2] := rfl
  have b2 : Go.Den.Box [.row 0 2 40 [eN a], .row 0 2 42 [.agg [.bool x1, eD x2]]] 0 2 40 [.bool a.1, eD a.2] := rfl
  have p10 := b1.fa (o := 0)
  have p11 := b1.fa (o := 1)
  have q10 := b1.load (o := 0)
  have q11 := b1.load (o := 1)
  have ld2 := box_load b2 rfl
  simp only [List.getElem?_cons_succ, List.getElem?_cons_zero] at q10 q11
  have hfx : A.fill [.bool false, .nils] [(0, 1, .bool x1), (1, 1, eD x2)] = some [.bool x1, eD x2] := by simp [A.fill, A.splice]
  have hen : (AV.agg [.bool a.1, eD a.2]) = eN a := rfl
  have hen2 : (AV.agg [.bool x1, eD x2]) = eN (x1, x2) := rfl
  rw [hen] at ld2
  generalize ((a.2.getD []).length : Int) = N at *
  generalize ((b.getD []).length : Int) = M at *
  refine Evs.of fun n m => ?_
  simp (maxSteps := 3000000) [-len_eL, S9, hdf0, kAwake5, hrm, p0, q0, p1, q1, hla, hna', hlb, hnb', f1, f2, c1, d1, e1, o1, hfill, f3, f4, st, f5, f6, f7, f8, f9, f10, p10, p11, q10, q11, hfx, ld2, f11, f12, f13, hfl, f14, AV.heapy, AV.beq_refl]
theorem ty_num {n : Nat} {v : AV} (h : Ty Tryd.prog n 40 v) : ∃ a : Nm, v = eN a := by
  obtain ⟨m, vs, hm, h1, h2, h3⟩ := h.struct (fs := #[{ name := "Neg", type := 4, offset := 0, embedded := false, tag := "", pkgPath := "", byteOffset := 0 }, { name := "D", type := 22, offset := 1, embedded := false, tag := "", pkgPath := "", byteOffset := 8 }]) (by kernel_rfl)
  match vs, h2 with
  | [x, y], _ =>
    have hx := (h3 0 _ x rfl rfl).1
    have hy := (h3 1 _ y rfl rfl).1
    obtain ⟨p, rfl⟩ := hx.bool (by kernel_rfl)
    obtain ⟨d, rfl⟩ := ty_u32s hy
    refine ⟨(p, d), ?_⟩
    rw [h1]
    have e2 : (eD d).cells = [eD d] := by cases d <;> rfl
    simp only [List.flatMap_cons, List.flatMap_nil, e2]
    rfl
end Go.Proofs.YtleikacgncpfbaaDoor
