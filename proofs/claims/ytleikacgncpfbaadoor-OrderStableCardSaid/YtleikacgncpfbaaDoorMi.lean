/- Texts put together: So2, So3, So4, Lw6b, Lw6c. -/
import Derived.Test.YtleikacgncpfbaaDoorMh

/- Terms in order, by the program; the greatest of some. -/
set_option maxRecDepth 100000
set_option maxHeartbeats 4000000
namespace Go.Proofs.YtleikacgncpfbaaDoor
open Go Go.Den Go.Lib
noncomputable abbrev TSrt : List (FuncId × Pol) := [(44, pCopy), (76, pSts)]
def srtT (t : Tm) : Prop := copyT t ∧ okA t ∧ okR t
theorem qge {t : Tm} (h : srtT t) : okC t := ⟨h.2.1, h.1.2.2⟩
theorem srt_loop {o : Option (List Tm)} (hall : ∀ u ∈ o.getD [], srtT u) (hlen : (o.getD []).length ≤ 1000) : ∀ (k i : Nat) (v : AV) (H : Heap), i + k = (o.getD []).length → Out eT 7 26 H v ((o.getD []).take i) →
    ∃ v' H', LDoes (L51_0 (polT TSrt)) ⟨[v, eL 7 eT o, .int .i64 ((o.getD []).length : Int), .int .i64 (i : Int)], []⟩ H 0 ⟨[v'], []⟩ H' ∧ Out eT 7 26 H' v' (o.getD []) := by
  intro k
  induction k with
  | zero =>
    intro i v H hi hO
    have : i = (o.getD []).length := by omega
    subst this
    rw [List.take_length] at hO
    refine ⟨v, H, LDoes.step (Evs.of fun n m => ?_), hO⟩
    generalize ((o.getD []).length : Int) = N at *
    simp [↓q00, ↓q01, -q08, qap]
  | succ k ih =>
    intro i v H hi hO
    have hlt : i < (o.getD []).length := by omega
    have hlt' : (i : Int) < ((o.getD []).length : Int) := by omega
    have hx : A.idx 7 (eL 7 eT o) (.int .i64 (i : Int)) H = some (.rop (eT (o.getD [])[i]).cells) := q16 (sz := 7) (e := eT) (o := o) (H := H) (k := .i64) (i := i) hlt
    have hld := q0o (t := (o.getD [])[i]) (H := H)
    have hof : A.ofList true 7 (eT (o.getD [])[i]).cells 0 = some (eT (o.getD [])[i]) := q0o (H := [])
    have hfit := qc7 (t := (o.getD [])[i])
    have hcl : (eT (o.getD [])[i]).cells.length = 7 := by rw [q04]; rfl
    have hspl : A.splice [.int .i64 0, .bool false, .nils, .str [], .int .i64 0, .nils, .nils] 0 (eT (o.getD [])[i]).cells = (eT (o.getD [])[i]).cells := by rw [q04]; rfl
    have hcp : ∀ (R : Type) (H : Heap) (k : AV → Heap → Option R), polK pCopy [eT (o.getD [])[i]] H k = k (eT (o.getD [])[i]) H := fun R H k => kCopy (hall _ (List.getElem_mem hlt)).1
    obtain ⟨v1, H1, happ, hO1⟩ := hO.push (bytes := 112) (o.getD [])[i] (by omega) (by simp; omega)
    have ht : (o.getD []).take i ++ [(o.getD [])[i]] = (o.getD []).take (i + 1) := by rw [List.take_succ_eq_append_getElem hlt]
    rw [ht] at hO1
    obtain ⟨v', H', hL, hO'⟩ := ih (i + 1) v1 H1 (by omega) hO1
    have hi1 : IntKind.wrap .i64 ((i : Int) + 1) = (i : Int) + 1 := q0c (by omega) (by omega)
    have hfe : A.fillElems 7 [.agg [.int .i64 0, .bool false, .nils, .str [], .int .i64 0, .nils, .nils]] [(0, 1, eT (o.getD [])[i])] = some [eT (o.getD [])[i]] := by
      have hd : (eT (o.getD [])[i]).isDef = true := q8o
      simp [-q04, A.fillElems, hcl]
    have hrd : A.read 7 (.sl H.length 0 0 1 1) (H ++ [.row 0 7 26 [eT (o.getD [])[i]]]) = some [eT (o.getD [])[i]] := qd8
    simp only [Int.natCast_add, Int.natCast_one] at hL
    refine ⟨v', H', LDoes.step (Evs.withL hL (Evs.of fun n m _ h2 => ?_)), hO'⟩
    generalize (o.getD [])[i] = u at *
    generalize eT u = x at *
    generalize ((o.getD []).length : Int) = N at *
    simp [↓q00, ↓q06, ↓q0a, ↓q09, ↓q01, ↓q0d, ↓q0m, ↓q07, -q08, qap, hlt', hx, hld, hof, hfit, hcl, hspl, hcp, hfe, q0y q2d, hrd, happ, hi1, h2]
noncomputable def sortS (l : List Tm) : List Tm := (sortR [] l).reverse
theorem q4u (l : List Tm) : (sortS l).length = l.length := by unfold sortS; rw [List.length_reverse, qey]; simp
theorem q3q {p : Tm → Prop} {l : List Tm} (h : ∀ u ∈ l, p u) : ∀ u ∈ sortS l, p u := fun u hu => by
  unfold sortS at hu
  exact qi0 (fun v hv => by cases hv) h u (List.mem_reverse.1 hu)
def srtOk (o : Option (List Tm)) : Prop := (∀ u ∈ o.getD [], srtT u) ∧ (o.getD []).length ≤ 20
noncomputable def pSort : Pol := .still (p1 cTs (fun l => eL 7 eT (nz l)) srtOk fun o => sortS (o.getD []))
theorem okSort : PolOK base 51 pSort := still1 base_ok TSrt ⟨okCopy, okSts, trivial⟩ fun o ⟨hall, hlen⟩ => by
  obtain ⟨v, H', hL, hO⟩ := srt_loop hall (by omega) (o.getD []).length 0 .nils [] (by omega) (by rw [List.take_zero]; exact .nil)
  have hln : A.len (eL 7 eT o) [] = some (.int .i64 ((o.getD []).length : Int)) := q08
  simp only [Int.natCast_zero] at hL
  rcases hO with ⟨h0, rfl⟩ | ⟨id, ver, h0, rfl, h2⟩
  · have hs : sortS (o.getD []) = [] := by rw [h0]; rfl
    rw [hs]
    refine Evs.withL hL (Evs.of fun n m h1 _ => ?_)
    generalize ((o.getD []).length : Int) = N at *
    have hk : ∀ (R : Type) (k : AV → Heap → Option R), polK pSts [.nils, .fn (.func 25) [] []] H' k = k (.tup []) H' := fun R k => qg7
    simp [↓q06, ↓q01, ↓q05, -q08, S51, hln, h1, hk]
    rfl
  · obtain ⟨H2, hk, hf⟩ := run_sts (cap := (o.getD []).length) (fun u hu => qge (hall u hu)) hlen h2
    have hfz : A.freezeB true 64 H2 (.sl id ver 0 (o.getD []).length (o.getD []).length) = some (eL 7 eT (nz (sortS (o.getD [])))) := by
      have hl := q4u (o.getD [])
      rw [← hl]
      have hne : sortS (o.getD []) ≠ [] := fun e => by
        have := q4u (o.getD [])
        rw [e] at this
        exact h0 (List.length_eq_zero_iff.1 this.symm)
      have : nz (sortS (o.getD [])) = some (sortS (o.getD [])) := by unfold nz; rw [if_neg hne]
      rw [this]
      exact qc9 hf
    refine Evs.withL hL (Evs.of fun n m h1 _ => ?_)
    generalize (o.getD []).length = N at *
    generalize (N : Int) = Z at *
    simp [↓q06, ↓q01, ↓q05, -q08, S51, hln, h1, hk, hfz]
theorem kSort {R : Type} {o : Option (List Tm)} (h : srtOk o) {H : Heap} {k : AV → Heap → Option R} : polK pSort [eL 7 eT o] H k = k (eL 7 eT (nz (sortS (o.getD [])))) H := by
  simp [pSort, q0b, h]
noncomputable def maxL : Tm → List Tm → Tm
  | m, [] => m
  | m, x :: r => maxL (if 0 < cmpT x m then x else m) r
noncomputable abbrev TMax : List (FuncId × Pol) := [(44, pCopy), (25, pCom)]
theorem max_loop {o : Option (List Tm)} {c0 : List AV} (hall : ∀ u ∈ o.getD [], srtT u) (hlen : (o.getD []).length ≤ 1000) (H : Heap) : ∀ (k i a : Nat), i + k = (o.getD []).length → (ha : a < (o.getD []).length) →
    ∃ b, ∃ hb : b < (o.getD []).length, (o.getD [])[b] = maxL (o.getD [])[a] ((o.getD []).drop i) ∧ LDoes (L52_0 (polT TMax)) ⟨[eL 7 eT o, .int .i64 (a : Int), .int .i64 ((o.getD []).length : Int), .int .i64 (i : Int)], [c0]⟩ H 0 ⟨[eL 7 eT o, .int .i64 (b : Int)], [c0]⟩ H := by
  intro k
  induction k with
  | zero =>
    intro i a hi ha
    have : i = (o.getD []).length := by omega
    subst this
    refine ⟨a, ha, by rw [List.drop_length]; rfl, LDoes.step (Evs.of fun n m => ?_)⟩
    generalize ((o.getD []).length : Int) = N at *
    simp [↓q00, ↓q01, -q08, q7b]
  | succ k ih =>
    intro i a hi ha
    have hlt : i < (o.getD []).length := by omega
    have hlt' : (i : Int) < ((o.getD []).length : Int) := by omega
    have hx : A.idx 7 (eL 7 eT o) (.int .i64 (i : Int)) H = some (.rop (eT (o.getD [])[i]).cells) := q16 (sz := 7) (e := eT) (o := o) (H := H) (k := .i64) (i := i) hlt
    have hld := q0o (t := (o.getD [])[i]) (H := H)
    have hx2 : A.idx 7 (eL 7 eT o) (.int .i64 (a : Int)) H = some (.rop (eT (o.getD [])[a]).cells) := q16 (sz := 7) (e := eT) (o := o) (H := H) (k := .i64) (i := a) ha
    have hld2 := q0o (t := (o.getD [])[a]) (H := H)
    have s1 := hall _ (List.getElem_mem hlt)
    have s2 := hall _ (List.getElem_mem ha)
    have hq : ∀ (R : Type) (H : Heap) (k : AV → Heap → Option R), polQ pCom [eT (o.getD [])[i], eT (o.getD [])[a]] H k = k (.int .i64 (cmpT (o.getD [])[i] (o.getD [])[a])) H := fun R H k => qCom s1.2.1 s2.2.1 s1.1.2.2
    have hi1 : IntKind.wrap .i64 ((i : Int) + 1) = (i : Int) + 1 := q0c (by omega) (by omega)
    by_cases hc : 0 < cmpT (o.getD [])[i] (o.getD [])[a]
    · obtain ⟨b, hb, hm, hL⟩ := ih (i + 1) i (by omega) hlt
      simp only [Int.natCast_add, Int.natCast_one] at hL
      refine ⟨b, hb, by rw [hm, List.drop_eq_getElem_cons hlt, maxL, if_pos hc], LDoes.step (Evs.withL hL (Evs.of fun n m _ h2 => ?_))⟩
      generalize cmpT (o.getD [])[i] (o.getD [])[a] = Z at *
      generalize eT (o.getD [])[i] = x at *
      generalize eT (o.getD [])[a] = y at *
      generalize ((o.getD []).length : Int) = N at *
      simp [↓q00, ↓q06, ↓q0a, ↓q01, ↓q05, -q08, q7b, hlt', hx, hld, hx2, hld2, hq, hc, hi1, h2]
    · obtain ⟨b, hb, hm, hL⟩ := ih (i + 1) a (by omega) ha
      simp only [Int.natCast_add, Int.natCast_one] at hL
      refine ⟨b, hb, by rw [hm, List.drop_eq_getElem_cons hlt, maxL, if_neg hc], LDoes.step (Evs.withL hL (Evs.of fun n m _ h2 => ?_))⟩
      generalize cmpT (o.getD [])[i] (o.getD [])[a] = Z at *
      generalize eT (o.getD [])[i] = x at *
      generalize eT (o.getD [])[a] = y at *
      generalize ((o.getD []).length : Int) = N at *
      simp [↓q00, ↓q06, ↓q0a, ↓q01, ↓q05, -q08, q7b, hlt', hx, hld, hx2, hld2, hq, hc, hi1, h2]
theorem imm1_eT {t : Tm} : (eT t).imm1 = true := cT.imm t
def maxOk (o : Option (List Tm)) : Prop := (∀ u ∈ o.getD [], srtT u) ∧ (o.getD []).length ≤ 1000
def nilT : Tm := .mk 0 false none [] 0 none none
noncomputable def maxS : List Tm → Tm × Bool
  | [] => (nilT, false)
  | x :: r => (maxL x (x :: r), true)
noncomputable def pMax : Pol := .still (p1 cTs (fun r : Tm × Bool => .tup [eT r.1, .bool r.2]) maxOk fun o => maxS (o.getD []))
theorem okMax : PolOK base 52 pMax := still1 base_ok TMax ⟨okCopy, okCom, trivial⟩ fun o ⟨hall, hlen⟩ => by
  have hln : A.len (eL 7 eT o) [] = some (.int .i64 ((o.getD []).length : Int)) := q08
  cases h : o.getD [] with
  | nil =>
    rw [h] at hln
    have hz : A.freezeB true 64 [] (.tup [eT nilT, .bool false]) = some (.tup [eT nilT, .bool false]) := q4j (by simp [imm1_eT])
    have he : eT nilT = .agg [.int .i64 0, .bool false, .nils, .str [], .int .i64 0, .nils, .nils] := by rw [q3w]; rfl
    refine Evs.of fun n m => ?_
    rw [he] at hz
    show _ = some (AV.tup [eT nilT, .bool false])
    rw [he]
    simp [↓q00, ↓q0a, ↓q01, ↓q07, -q08, S52, hln, A.fill, A.splice, A.fits, A.ofList, hz]
  | cons x r =>
    have hpos : 0 < (o.getD []).length := by rw [h]; simp
    obtain ⟨b, hb, hm, hL⟩ := max_loop (c0 := [.int .i64 0, .bool false, .nils, .str [], .int .i64 0, .nils, .nils]) hall hlen [] (o.getD []).length 0 0 (by omega) hpos
    have hmx : (o.getD [])[b] = maxL x (x :: r) := by
      rw [hm, List.drop_zero]
      congr 1
      · simp [h]
    have hxb : A.idx 7 (eL 7 eT o) (.int .i64 (b : Int)) [] = some (.rop (eT (o.getD [])[b]).cells) := q16 (sz := 7) (e := eT) (o := o) (H := []) (k := .i64) (i := b) hb
    have hld := q0o (t := (o.getD [])[b]) (H := [])
    have hof : A.ofList true 7 (eT (o.getD [])[b]).cells 0 = some (eT (o.getD [])[b]) := q0o (H := [])
    have hfit := qc7 (t := (o.getD [])[b])
    have hcl : (eT (o.getD [])[b]).cells.length = 7 := by rw [q04]; rfl
    have hspl : A.splice [.int .i64 0, .bool false, .nils, .str [], .int .i64 0, .nils, .nils] 0 (eT (o.getD [])[b]).cells = (eT (o.getD [])[b]).cells := by rw [q04]; rfl
    have hcp : ∀ (R : Type) (H : Heap) (k : AV → Heap → Option R), polK pCopy [eT (o.getD [])[b]] H k = k (eT (o.getD [])[b]) H := fun R H k => kCopy (hall _ (List.getElem_mem hb)).1
    have hz : A.freezeB true 64 [] (.tup [eT (o.getD [])[b], .bool true]) = some (.tup [eT (o.getD [])[b], .bool true]) := q4j (by simp [imm1_eT])
    have hne : ¬ ((o.getD []).length : Int) = 0 := by omega
    simp only [Int.natCast_zero] at hL
    refine Evs.withL hL (Evs.of fun n m h1 _ => ?_)
    show _ = some (AV.tup [eT (maxL x (x :: r)), .bool true])
    rw [← hmx]
    generalize (o.getD [])[b] = u at *
    generalize eT u = y at *
    generalize ((o.getD []).length : Int) = N at *
    simp [↓q00, ↓q06, ↓q0a, ↓q01, ↓q05, ↓q07, -q08, S52, hln, hne, h1, hxb, hld, hof, hfit, hcl, hspl, hcp, hz]
theorem kMax {R : Type} {o : Option (List Tm)} (h1 : ∀ u ∈ o.getD [], srtT u) (h2 : (o.getD []).length ≤ 1000) {H : Heap} {k : AV → Heap → Option R} : polK pMax [eL 7 eT o] H k = k (.tup [eT (maxS (o.getD [])).1, .bool (maxS (o.getD [])).2]) H := by
  have : maxOk o := ⟨h1, h2⟩
  simp [pMax, q0b, this]
end Go.Proofs.YtleikacgncpfbaaDoor

/- Terms in order, by the reference; rows that are the same. -/
set_option maxRecDepth 100000
set_option maxHeartbeats 4000000
namespace Go.Proofs.YtleikacgncpfbaaDoor
open Go Go.Den Go.Lib
/-! ### are two terms the same? -/
def bothR (a b : Tm) : Prop := okR a ∧ okR b
noncomputable def pSameX : Pol := .still (p2 cT cT .bool bothR fun a b => decide (cmpT a b = 0))
theorem kSameX {R : Type} {a b : Tm} (h1 : okR a) (h2 : okR b) {H : Heap} {k : AV → Heap → Option R} : polK pSameX [eT a, eT b] H k = k (.bool (decide (cmpT a b = 0))) H := by
  have h : bothR a b := ⟨h1, h2⟩
  simp [pSameX, q0b, h]
theorem qSameX {R : Type} {a b : Tm} (h1 : okR a) (h2 : okR b) {H : Heap} {k : AV → Heap → Option R} : polQ pSameX [eT a, eT b] H k = k (.bool (decide (cmpT a b = 0))) H := by
  have h : bothR a b := ⟨h1, h2⟩
  simp [pSameX, q1w, h]
theorem okSameX : PolOK base 41 pSameX := still2 base_ok [(26, pRcomA)] ⟨qfw, trivial⟩ fun a b h => by
  have ca : (eT a).cells.length = 7 := by rw [q04]; rfl
  have cb : (eT b).cells.length = 7 := by rw [q04]; rfl
  have oa : A.ofList true 7 (eT a).cells 0 = some (eT a) := q0o (H := [])
  have ob : A.ofList true 7 (eT b).cells 0 = some (eT b) := q0o (H := [])
  have hc : ∀ (R : Type) (H : Heap) (k : AV → Heap → Option R), polK pRcomA [eT a, eT b] H k = k (.int .i64 (cmpT a b)) H := fun R H k => kRcomA h.1 h.2
  generalize cmpT a b = Z at *
  refine Evs.of fun n m => ?_
  simp [↓q0a, ↓q01, ↓q07, -q04, S41, ca, cb, oa, ob, hc]
/-! ### rows that are the same -/
def rowSame (a b : List Tm) : Prop := a.length = b.length ∧ (∀ (i : Nat) (h : i < a.length) (h' : i < b.length), cmpT a[i] b[i] = 0) ∧ (∀ u ∈ a, okR u) ∧ (∀ u ∈ b, okR u) ∧ a.length ≤ 1000
def rowOkX (a b : Option (List Tm)) : Prop := rowSame (a.getD []) (b.getD [])
noncomputable abbrev TRowX : List (FuncId × Pol) := [(41, pSameX)]
theorem rowX_loop {a b : Option (List Tm)} (h : rowOkX a b) (H : Heap) : ∀ (k i : Nat), i + k = (a.getD []).length →
    LDoes (L42_0 (polT TRowX)) ⟨[eL 7 eT a, eL 7 eT b, .int .i64 (i : Int)], []⟩ H 0 ⟨[.undef], []⟩ H := by
  obtain ⟨h1, h2, h3, h4, h5⟩ := h
  have la : A.len (eL 7 eT a) H = some (.int .i64 ((a.getD []).length : Int)) := q08
  intro k
  induction k with
  | zero =>
    intro i hi
    have : i = (a.getD []).length := by omega
    subst this
    refine LDoes.step (Evs.of fun n m => ?_)
    generalize ((a.getD []).length : Int) = N at *
    simp [↓q00, ↓q01, -q08, qan, la]
  | succ k ih =>
    intro i hi
    have hlt : i < (a.getD []).length := by omega
    have hltb : i < (b.getD []).length := by omega
    have hlt' : (i : Int) < ((a.getD []).length : Int) := by omega
    have xa : A.idx 7 (eL 7 eT a) (.int .i64 (i : Int)) H = some (.rop (eT (a.getD [])[i]).cells) := q16 (sz := 7) (e := eT) (o := a) (H := H) (k := .i64) (i := i) hlt
    have xb : A.idx 7 (eL 7 eT b) (.int .i64 (i : Int)) H = some (.rop (eT (b.getD [])[i]).cells) := q16 (sz := 7) (e := eT) (o := b) (H := H) (k := .i64) (i := i) hltb
    have da := q0o (t := (a.getD [])[i]) (H := H)
    have db := q0o (t := (b.getD [])[i]) (H := H)
    have hz := h2 i hlt hltb
    have hr : ∀ (R : Type) (H : Heap) (k : AV → Heap → Option R), polQ pSameX [eT (a.getD [])[i], eT (b.getD [])[i]] H k = k (.bool true) H := fun R H k => by
      rw [qSameX (h3 _ (List.getElem_mem hlt)) (h4 _ (List.getElem_mem hltb)), hz]
      rfl
    have hi1 : IntKind.wrap .i64 ((i : Int) + 1) = (i : Int) + 1 := q0c (by omega) (by omega)
    have hL := ih (i + 1) (by omega)
    simp only [Int.natCast_add, Int.natCast_one] at hL
    refine LDoes.step (Evs.withL hL (Evs.of fun n m _ h3 => ?_))
    generalize eT (a.getD [])[i] = v at *
    generalize eT (b.getD [])[i] = w at *
    generalize ((a.getD []).length : Int) = N at *
    simp [↓q00, ↓q01, -q08, qan, la, hlt', xa, xb, da, db, hr, hi1, h3]
noncomputable def pRowX : Pol := .still (p2 cTs cTs .bool rowOkX fun _ _ => true)
theorem kRowX {R : Type} {a b : Option (List Tm)} (h : rowOkX a b) {H : Heap} {k : AV → Heap → Option R} : polK pRowX [eL 7 eT a, eL 7 eT b] H k = k (.bool true) H := by
  simp [pRowX, q0b, h]
theorem okRowX : PolOK base 42 pRowX := still2 base_ok TRowX ⟨okSameX, trivial⟩ fun a b h => by
  have hL := rowX_loop h [] (a.getD []).length 0 (by omega)
  have la : A.len (eL 7 eT a) [] = some (.int .i64 ((a.getD []).length : Int)) := q08
  have lb : A.len (eL 7 eT b) [] = some (.int .i64 ((a.getD []).length : Int)) := by rw [q08, h.1]
  refine Evs.withL hL (Evs.of fun n m h1 _ => ?_)
  simp only [Int.natCast_zero] at h1
  generalize ((a.getD []).length : Int) = N at *
  simp [↓q00, ↓q06, ↓q01, ↓q05, -q08, S42, la, lb, h1]
/-! ### the reference's sort -/
noncomputable abbrev TRst : List (FuncId × Pol) := [(46, qcs), (26, pRcomA)]
theorem qj5 {q ver n : Nat} {t0 t4 : AV} {x : Tm} {D : List Tm} (hx : okR x) : ∀ (rp : List Tm), (∀ u ∈ rp, okR u) → (rp.reverse ++ x :: D).length = n → n ≤ 1000000 → ∀ (H : Heap), H[q]? = some (.row ver 7 26 ((rp.reverse ++ x :: D).map eT)) →
    ∃ H', LDoes (L53_1 (polT TRst)) ⟨[t0, .sl q ver 0 n n, t4, .int .i64 (rp.length : Int)], []⟩ H 0 ⟨[t0, .sl q ver 0 n n, t4], []⟩ H' ∧ H'[q]? = some (.row ver 7 26 (((insR rp x).reverse ++ D).map eT)) := by
  intro rp
  induction rp generalizing D with
  | nil =>
    intro _ hn hn2 H hH
    refine ⟨H, LDoes.step (Evs.of fun n m => ?_), by simpa [insR] using hH⟩
    simp [↓q00, ↓q01, ↓q03, ↓q02, q7c]
  | cons y r ih =>
    intro hall hn hn2 H hH
    have hW : (y :: r).reverse ++ x :: D = r.reverse ++ y :: x :: D := by simp
    rw [hW] at hH hn
    have hn3 : r.length + 2 + D.length = n := by
      simp only [List.length_append, List.length_reverse, List.length_cons] at hn
      omega
    generalize hWe : r.reverse ++ y :: x :: D = W at hH hn
    have hj : W[r.length + 1]? = some x := by
      rw [← hWe, List.getElem?_append_right (by simp)]
      simp
    have hi : W[r.length]? = some y := by
      rw [← hWe, List.getElem?_append_right (by simp)]
      simp
    have i1 : A.idx 7 (.sl q ver 0 n n) (.int .i64 ((r.length + 1 : Nat) : Int)) H = some (.ptr q ver (r.length + 1) 0) := q5c hH (by omega)
    have i0 : A.idx 7 (.sl q ver 0 n n) (.int .i64 ((r.length : Nat) : Int)) H = some (.ptr q ver r.length 0) := q5c hH (by omega)
    have l1 := q6x hH hj
    have l0 := q6x hH hi
    have kc : ∀ (R : Type) (H : Heap) (k : AV → Heap → Option R), polK pRcomA [eT y, eT x] H k = k (.int .i64 (cmpT y x)) H := fun R H k => kRcomA (hall y (by simp)) hx
    have w1 : IntKind.wrap .i64 (((r.length + 1 : Nat) : Int) - 1) = ((r.length : Nat) : Int) := by rw [q0c (by omega) (by omega)]; omega
    have hpos : (0 : Int) < ((r.length + 1 : Nat) : Int) := by omega
    have hl : ((y :: r).length : Int) = ((r.length + 1 : Nat) : Int) := by simp
    have ha := q1t x y
    rw [hl]
    by_cases hc : cmpT x y < 0
    · have hc' : 0 < cmpT y x := by omega
      have s1 := q5d (y := x) hH hi
      have hH1 : (H.set q (.row ver 7 26 ((W.set r.length x).map eT)))[q]? = some (.row ver 7 26 ((W.set r.length x).map eT)) := q4r hH
      have hj1 : (W.set r.length x)[r.length + 1]? = some x := by rw [List.getElem?_set_ne (by omega)]; exact hj
      have i2 : A.idx 7 (.sl q ver 0 n n) (.int .i64 ((r.length + 1 : Nat) : Int)) (H.set q (.row ver 7 26 ((W.set r.length x).map eT))) = some (.ptr q ver (r.length + 1) 0) := q5c hH1 (by omega)
      have s2 := q5d (y := y) hH1 hj1
      have hW2 : (W.set r.length x).set (r.length + 1) y = r.reverse ++ x :: y :: D := by
        rw [← hWe, List.set_append_right _ _ (by simp), List.set_append_right _ _ (by simp)]
        simp
      rw [hW2] at s2
      have hH2 := q4r (x := HObj.row ver 7 26 ((r.reverse ++ x :: y :: D).map eT)) hH1
      generalize H.set q (.row ver 7 26 ((W.set r.length x).map eT)) = H1 at *
      obtain ⟨H', hL, hf⟩ := ih (D := y :: D) (fun u hu => hall u (by simp [hu])) (by simp; omega) hn2 _ hH2
      generalize H1.set q (.row ver 7 26 ((r.reverse ++ x :: y :: D).map eT)) = H2 at *
      have hI : (insR (y :: r) x).reverse ++ D = (insR r x).reverse ++ y :: D := by
        rw [q1u, if_pos hc]
        simp
      rw [hI]
      refine ⟨H', LDoes.step (Evs.withL hL (Evs.of fun n m _ h2 => ?_)), hf⟩
      generalize eT x = vx at *
      generalize eT y = vy at *
      generalize cmpT y x = Z at *
      generalize ((r.length + 1 : Nat) : Int) = J at *
      generalize ((r.length : Nat) : Int) = I at *
      simp [↓q00, ↓q01, ↓q03, ↓q0e, ↓q02, q7c, hpos, i1, w1, i0, l1, l0, kc, hc', s1, i2, s2, h2]
    · have hc' : ¬ 0 < cmpT y x := by omega
      have hI : (insR (y :: r) x).reverse ++ D = W := by
        rw [q1u, if_neg hc, ← hWe]
        simp
      rw [hI]
      refine ⟨H, LDoes.step (Evs.of fun n m => ?_), hH⟩
      generalize eT x = vx at *
      generalize eT y = vy at *
      generalize cmpT y x = Z at *
      generalize ((r.length + 1 : Nat) : Int) = J at *
      generalize ((r.length : Nat) : Int) = I at *
      simp [↓q00, ↓q01, ↓q03, ↓q02, q7c, hpos, i1, w1, i0, l1, l0, kc, hc']
theorem qdh : ∀ t : Tm, okR t → okR (canonT t) := q49 fun t ih h => by
  have h := okR_eq.1 h
  have hk : (canonT t).kids = t.kids.map canonT := by rw [q1b]; exact q1f _
  refine okR_eq.2 ⟨?_, fun u hu => ?_⟩
  · obtain ⟨h1, h2, h3, h4⟩ := h.1
    refine ⟨?_, ?_, ?_, ?_⟩
    · rw [q1b]
      show few (nz (t.d.getD []))
      unfold few
      rw [q1f]
      exact h1
    · rw [q1b]; exact h2
    · rw [q1b]
      show ((nz (t.b.getD [])).getD []).length ≤ _
      rw [q1f]
      exact h3
    · rw [hk, List.length_map]; exact h4
  · rw [hk] at hu
    obtain ⟨v, hv, rfl⟩ := List.mem_map.1 hu
    exact ih v hv (h.2 v hv)
def rstT (t : Tm) : Prop := rcp t ∧ okR t
theorem rst_loop {o : Option (List Tm)} (hall : ∀ u ∈ o.getD [], rstT u) (hlen : (o.getD []).length ≤ 1000) : ∀ (rest acc : List Tm) (i : Nat) (v : AV) (H : Heap), rest = (o.getD []).drop i → i + rest.length = (o.getD []).length → acc.length = i → (∀ u ∈ acc, okR u) → Out eT 7 26 H v acc.reverse →
    ∃ v' H', LDoes (L53_0 (polT TRst)) ⟨[eL 7 eT o, v, .int .i64 (i : Int)], []⟩ H 0 ⟨[v'], []⟩ H' ∧ Out eT 7 26 H' v' (sortR acc (rest.map canonT)).reverse := by
  have hln : ∀ H, A.len (eL 7 eT o) H = some (.int .i64 ((o.getD []).length : Int)) := fun H => q08
  intro rest
  induction rest with
  | nil =>
    intro acc i v H hr hi hacc hok hO
    have hnl : ¬ ((i : Int) < ((o.getD []).length : Int)) := by simp only [List.length_nil] at hi; omega
    refine ⟨v, H, LDoes.step (Evs.of fun n m => ?_), by simpa [sortR] using hO⟩
    generalize ((o.getD []).length : Int) = N at *
    simp [↓q00, ↓q01, -q08, qaq, hln, hnl]
  | cons u rest ih =>
    intro acc i v H hr hi hacc hok hO
    have hlt : i < (o.getD []).length := by simp only [List.length_cons] at hi; omega
    have hlt' : (i : Int) < ((o.getD []).length : Int) := by omega
    have hdr := List.drop_eq_getElem_cons hlt
    rw [hdr] at hr
    injection hr with hu hr
    subst hu
    have hx : A.idx 7 (eL 7 eT o) (.int .i64 (i : Int)) H = some (.rop (eT (o.getD [])[i]).cells) := q16 (sz := 7) (e := eT) (o := o) (H := H) (k := .i64) (i := i) hlt
    have hld := q0o (t := (o.getD [])[i]) (H := H)
    have hok1 := hall _ (List.getElem_mem hlt)
    have hcp : ∀ (R : Type) (H : Heap) (k : AV → Heap → Option R), polK qcs [eT (o.getD [])[i]] H k = k (eT (canonT (o.getD [])[i])) H := fun R H k => by
      simp [qcs, q0b, hok1.1]
    generalize hc : canonT (o.getD [])[i] = c at *
    have hcok : okR c := by rw [← hc]; exact qdh _ hok1.2
    obtain ⟨v1, H1, happ, hO1⟩ := hO.push (bytes := 112) c (by omega) (by simp; omega)
    have hlc : (acc.reverse ++ [c]).length = i + 1 := by simp [hacc]
    rcases hO1 with ⟨h0, -⟩ | ⟨id, ver, h0, rfl, h2⟩
    · simp at h0
    rw [hlc] at happ
    obtain ⟨H2, hL2, hf2⟩ := qj5 (q := id) (ver := ver) (n := i + 1) (t0 := eL 7 eT o) (t4 := .int .i64 (i : Int)) (x := c) (D := []) hcok acc hok hlc (by omega) H1 h2
    rw [List.append_nil] at hf2
    have hO2 : Out eT 7 26 H2 (.sl id ver 0 (i + 1) (i + 1)) (insR acc c).reverse := .inr ⟨id, ver, by
      intro e
      have := congrArg List.length e
      rw [List.length_reverse, q40] at this
      simp at this, by rw [List.length_reverse, q40, hacc], hf2⟩
    obtain ⟨v', H', hL, hO'⟩ := ih (insR acc c) (i + 1) _ H2 hr (by simp only [List.length_cons] at hi; omega) (by rw [q40, hacc]) (q9o hok hcok) hO2
    have hfe : A.fillElems 7 [.agg [.int .i64 0, .bool false, .nils, .str [], .int .i64 0, .nils, .nils]] [(0, 1, eT c)] = some [eT c] := by
      have hd : (eT c).isDef = true := q8o
      have hcl : (eT c).cells.length = 7 := by rw [q04]; rfl
      simp [-q04, A.fillElems, hcl]
    have hrd : A.read 7 (.sl H.length 0 0 1 1) (H ++ [.row 0 7 26 [eT c]]) = some [eT c] := qd8
    have hl1 : A.len (.sl id ver 0 (i + 1) (i + 1)) H1 = some (.int .i64 ((i + 1 : Nat) : Int)) := by simp [A.len, A.alive, h2]
    have hi1 : IntKind.wrap .i64 ((i : Int) + 1) = ((i + 1 : Nat) : Int) := by rw [q0c (by omega) (by omega)]; omega
    have hw : IntKind.wrap .i64 (((i + 1 : Nat) : Int) - 1) = (acc.length : Int) := by rw [q0c (by omega) (by omega), hacc]; omega
    refine ⟨v', H', LDoes.step (Evs.withL hL2 (Evs.withL hL (Evs.of fun n m _ g2 g1 _ => ?_))), by rw [List.map_cons, sortR, hc]; exact hO'⟩
    generalize (o.getD [])[i] = u at *
    generalize eT u = x at *
    generalize eT c = y at *
    generalize ((o.getD []).length : Int) = N at *
    generalize ((i + 1 : Nat) : Int) = I1 at *
    generalize (acc.length : Int) = J at *
    generalize i + 1 = i1 at *
    simp [↓q00, ↓q06, ↓q09, ↓q01, ↓q0d, ↓q0m, ↓q05, -q08, qaq, hln, hlt', hx, hld, hcp, hfe, q0y q2d, hrd, happ, hl1, hw, g1, hi1, g2]
def rstOk (o : Option (List Tm)) : Prop := (∀ u ∈ o.getD [], rstT u) ∧ (o.getD []).length ≤ 1000
noncomputable def pRsort : Pol := .still (p1 cTs (fun l => eL 7 eT (nz l)) rstOk fun o => sortS ((o.getD []).map canonT))
theorem okRsort : PolOK base 53 pRsort := still1 base_ok TRst ⟨okRcopyA, qfw, trivial⟩ fun o ⟨hall, hlen⟩ => by
  obtain ⟨v, H', hL, hO⟩ := rst_loop hall hlen (o.getD []) [] 0 .nils [] (by simp) (by omega) rfl (fun u hu => by cases hu) .nil
  simp only [Int.natCast_zero] at hL
  have hfz : A.freezeB true 64 H' v = some (eL 7 eT (nz (sortS ((o.getD []).map canonT)))) := by
    rcases hO with ⟨h0, rfl⟩ | ⟨id, ver, h0, rfl, h2⟩
    · have : sortS ((o.getD []).map canonT) = [] := h0
      rw [this]
      rfl
    · have h0' : sortS ((o.getD []).map canonT) ≠ [] := h0
      have : nz (sortS ((o.getD []).map canonT)) = some (sortS ((o.getD []).map canonT)) := by unfold nz; rw [if_neg h0']
      rw [this]
      exact qc9 h2
  refine Evs.withL hL (Evs.of fun n m h1 _ => ?_)
  simp [↓q06, ↓q05, -q08, S53, h1, hfz]
theorem kRsort {R : Type} {o : Option (List Tm)} (h : rstOk o) {H : Heap} {k : AV → Heap → Option R} : polK pRsort [eL 7 eT o] H k = k (eL 7 eT (nz (sortS ((o.getD []).map canonT)))) H := by
  simp [pRsort, q0b, h]
end Go.Proofs.YtleikacgncpfbaaDoor

/- Terms in order: what is so of a row that is sorted. -/
set_option maxRecDepth 100000
set_option maxHeartbeats 4000000
namespace Go.Proofs.YtleikacgncpfbaaDoor
open Go Go.Den Go.Lib
theorem q9n : ∀ (r : List Tm) (x : Tm), (insR r x).Perm (x :: r)
  | [], x => .refl _
  | y :: r, x => by
    rw [q1u]
    split
    · exact ((q9n r x).cons y).trans (.swap x y r)
    · exact .refl _
theorem qbm : ∀ (r acc : List Tm), (sortR acc r).Perm (acc ++ r)
  | [], acc => by rw [sortR, List.append_nil]
  | x :: r, acc => by
    rw [sortR]
    refine (qbm r (insR acc x)).trans (((q9n acc x).append_right r).trans ?_)
    exact List.perm_middle.symm
theorem q5g (l : List Tm) : (sortS l).Perm l := by
  unfold sortS
  refine (List.reverse_perm _).trans ?_
  simpa using qbm l []
def desc (l : List Tm) : Prop := l.Pairwise fun a b => cmpT b a ≤ 0
theorem qh6 : ∀ {r : List Tm} {x : Tm}, desc r → (∀ u ∈ r, okV u) → okV x → desc (insR r x)
  | [], x, _, _, _ => by simp [insR, desc]
  | y :: r, x, h, hv, hx => by
    have h := List.pairwise_cons.1 h
    rw [q1u]
    split
    · rename_i hc
      refine List.pairwise_cons.2 ⟨fun z hz => ?_, qh6 h.2 (fun u hu => hv u (by simp [hu])) hx⟩
      rcases List.mem_cons.1 ((q9n r x).mem_iff.1 hz) with rfl | hz
      · omega
      · exact h.1 z hz
    · rename_i hc
      have ha := q1t x y
      have hyx : cmpT y x ≤ 0 := by omega
      refine List.pairwise_cons.2 ⟨fun z hz => ?_, List.pairwise_cons.2 h⟩
      rcases List.mem_cons.1 hz with rfl | hz
      · exact hyx
      · exact q6c (hv z (by simp [hz])) (hv y (by simp)) hx (h.1 z hz) hyx
theorem qez : ∀ {r acc : List Tm}, desc acc → (∀ u ∈ acc, okV u) → (∀ u ∈ r, okV u) → desc (sortR acc r)
  | [], acc, h, _, _ => h
  | x :: r, acc, h, h1, h2 => by
    rw [sortR]
    exact qez (qh6 h h1 (h2 x (by simp))) (q9o h1 (h2 x (by simp))) (fun u hu => h2 u (by simp [hu]))
def asc (l : List Tm) : Prop := l.Pairwise fun a b => cmpT a b ≤ 0
theorem q6y {l : List Tm} (h : ∀ u ∈ l, okV u) : asc (sortS l) := by
  unfold sortS asc
  rw [List.pairwise_reverse]
  exact qez List.Pairwise.nil (fun u hu => by cases hu) h
theorem asc_get {l : List Tm} (h : asc l) {i j : Nat} (hi : i < l.length) (hj : j < l.length) (hij : i < j) : cmpT l[i] l[j] ≤ 0 := List.pairwise_iff_getElem.1 h i j hi hj hij
theorem asc_le {l : List Tm} (h : asc l) {i j : Nat} (hi : i < l.length) (hj : j < l.length) (hij : i ≤ j) : cmpT l[i] l[j] ≤ 0 := by
  rcases Nat.lt_or_ge i j with g | g
  · exact asc_get h hi hj g
  · have : i = j := by omega
    subst this
    rw [qc0]
    omega
theorem asc_lt {l m : List Tm} (hl : asc l) (hm : asc m) (hp : l.Perm m) (hvl : ∀ u ∈ l, okV u) (hvm : ∀ u ∈ m, okV u) {i : Nat} (h1 : i < l.length) (h2 : i < m.length) : ¬ cmpT l[i] m[i] < 0 := by
  intro hlt
  -- those that are not above l[i]
  let p : Tm → Bool := fun z => decide (cmpT z l[i] ≤ 0)
  have c1 : i + 1 ≤ l.countP p := by
    have e : l.countP p = (l.take (i + 1)).countP p + (l.drop (i + 1)).countP p := by rw [← List.countP_append, List.take_append_drop]
    have e2 : (l.take (i + 1)).countP p = (l.take (i + 1)).length := List.countP_eq_length.2 fun z hz => by
      obtain ⟨j, hj, rfl⟩ := List.getElem_of_mem hz
      rw [List.getElem_take]
      simp only [List.length_take] at hj
      exact decide_eq_true (asc_le hl (by omega) h1 (by omega))
    rw [List.length_take] at e2
    omega
  have c2 : m.countP p ≤ i := by
    have e : m.countP p = (m.take i).countP p + (m.drop i).countP p := by rw [← List.countP_append, List.take_append_drop]
    have e2 : (m.drop i).countP p = 0 := List.countP_eq_zero.2 fun z hz hpz => by
      obtain ⟨j, hj, rfl⟩ := List.getElem_of_mem hz
      rw [List.getElem_drop] at hpz
      simp only [List.length_drop] at hj
      have h3 := of_decide_eq_true hpz
      have h4 := asc_le hm h2 (show i + j < m.length by omega) (by omega)
      have h5 := q6c (hvm _ (List.getElem_mem h2)) (hvm _ (List.getElem_mem (show i + j < m.length by omega))) (hvl _ (List.getElem_mem h1)) h4 h3
      have h6 := q1t l[i] m[i]
      omega
    have e3 : (m.take i).countP p ≤ (m.take i).length := List.countP_le_length
    rw [List.length_take] at e3
    omega
  have := hp.countP_eq p
  omega
theorem asc_same {l m : List Tm} (hl : asc l) (hm : asc m) (hp : l.Perm m) (hvl : ∀ u ∈ l, okV u) (hvm : ∀ u ∈ m, okV u) (i : Nat) (h1 : i < l.length) (h2 : i < m.length) : cmpT l[i] m[i] = 0 := by
  have a1 := asc_lt hl hm hp hvl hvm h1 h2
  have a2 := asc_lt hm hl hp.symm hvm hvl h2 h1
  have := q1t l[i] m[i]
  omega
/-! ### a term is as its plain form -/
theorem qaw (t : Tm) : (canonT t).kids = t.kids.map canonT := by rw [q1b]; exact q1f _
theorem q9b : ∀ t : Tm, cmpT t (canonT t) = 0 := q49 fun t ih => by
  have ho : oneT t (canonT t) = 0 := by
    have k : (canonT t).kind = t.kind := by rw [q1b]; rfl
    unfold oneT
    rw [k, qaw]
    have n0 : ¬ t.kind ≠ t.kind := fun g => g rfl
    rw [if_neg n0]
    split
    · apply cmpI_eq.2
      rw [q1b]
      show toI (t.neg, t.d) = toI (t.neg, nz (t.d.getD []))
      unfold toI mag
      dsimp only
      rw [q1f]
    split
    · apply (qe6 _ _).2
      rw [q1b]
      rfl
    split
    · apply ord_zero.2
      rw [q1b]
      rfl
    split
    · apply ord_zero.2
      rw [List.length_map]
    split
    · apply (q58 _ _).2
      rw [q1b]
      show nums (t.b.getD []) = nums ((nz (t.b.getD [])).getD [])
      rw [q1f]
    · rfl
  have n1 : ¬ oneT t (canonT t) ≠ 0 := fun g => g ho
  rw [q3c, if_neg n1, qaw]
  split
  · have : ∀ l : List Tm, (∀ u ∈ l, cmpT u (canonT u) = 0) → cmpTs l (l.map canonT) = 0 := fun l => by
      induction l with
      | nil => intro _; rw [q2g]
      | cons u l ihl =>
        intro h
        have n2 : ¬ cmpT u (canonT u) ≠ 0 := fun g => g (h u (by simp))
        rw [List.map_cons, q17, if_neg n2]
        exact ihl fun v hv => h v (by simp [hv])
    exact this _ ih
  · rfl
theorem qid (a b : Tm) : cmpT (canonT a) (canonT b) = cmpT a b := by
  rw [← q6b a (canonT a) (canonT b) (q9b a), ← q7j a b (canonT b) (q9b b)]
theorem qe2 : ∀ (r : List Tm) (x : Tm), insR (r.map canonT) (canonT x) = (insR r x).map canonT
  | [], x => rfl
  | y :: r, x => by
    rw [List.map_cons, q1u, q1u, qid]
    split
    · rw [List.map_cons, qe2 r x]
    · rfl
theorem qbn : ∀ (r acc : List Tm), sortR (acc.map canonT) (r.map canonT) = (sortR acc r).map canonT
  | [], acc => rfl
  | x :: r, acc => by
    rw [List.map_cons, sortR, sortR, qe2, qbn r]
theorem qgd (l : List Tm) : sortS (l.map canonT) = (sortS l).map canonT := by
  unfold sortS
  have := qbn l []
  rw [List.map_nil] at this
  rw [this, List.map_reverse]
/-! ### the greatest of some -/
theorem q8s : ∀ (r : List Tm) (m : Tm), maxL m r = m ∨ maxL m r ∈ r
  | [], m => .inl rfl
  | x :: r, m => by
    rw [maxL]
    rcases q8s r (if 0 < cmpT x m then x else m) with h | h
    · rw [h]
      split
      · exact .inr (by simp)
      · exact .inl rfl
    · exact .inr (by simp [h])
theorem qfu : ∀ (r : List Tm) (m : Tm), okV m → (∀ u ∈ r, okV u) → cmpT m (maxL m r) ≤ 0 ∧ ∀ z ∈ r, cmpT z (maxL m r) ≤ 0
  | [], m, _, _ => ⟨by rw [maxL, qc0]; omega, fun z hz => by cases hz⟩
  | x :: r, m, hm, hv => by
    rw [maxL]
    have hx : okV x := hv x (by simp)
    have hr : ∀ u ∈ r, okV u := fun u hu => hv u (by simp [hu])
    have ha := q1t x m
    have hM : okV (maxL (if 0 < cmpT x m then x else m) r) := by
      rcases q8s r (if 0 < cmpT x m then x else m) with h | h
      · rw [h]
        split
        · exact hx
        · exact hm
      · exact hr _ h
    by_cases hc : 0 < cmpT x m
    · rw [if_pos hc] at hM ⊢
      obtain ⟨h1, h2⟩ := qfu r x hx hr
      refine ⟨q6c hm hx hM (by omega) h1, fun z hz => ?_⟩
      rcases List.mem_cons.1 hz with rfl | hz
      · exact h1
      · exact h2 z hz
    · rw [if_neg hc] at hM ⊢
      obtain ⟨h1, h2⟩ := qfu r m hm hr
      refine ⟨h1, fun z hz => ?_⟩
      rcases List.mem_cons.1 hz with rfl | hz
      · exact q6c hx hm hM (by omega) h1
      · exact h2 z hz
theorem max_last {x : Tm} {r : List Tm} (hv : ∀ u ∈ x :: r, okV u) {j : Nat} (hj : j < (sortS (x :: r)).length) (he : j + 1 = (sortS (x :: r)).length) : cmpT (maxL x (x :: r)) (sortS (x :: r))[j] = 0 := by
  have hp := q5g (x :: r)
  have hmem : maxL x (x :: r) ∈ x :: r := by
    rcases q8s (x :: r) x with h | h
    · rw [h]; simp
    · exact h
  have hge := (qfu (x :: r) x (hv x (by simp)) hv).2
  have h1 := hge _ (hp.mem_iff.1 (List.getElem_mem hj))
  obtain ⟨i, hi, hie⟩ := List.getElem_of_mem (hp.mem_iff.2 hmem)
  have h2 := asc_le (q6y hv) hi hj (by omega)
  rw [hie] at h2
  have := q1t (maxL x (x :: r)) (sortS (x :: r))[j]
  omega
end Go.Proofs.YtleikacgncpfbaaDoor

/- The law on terms in order: what its function answers. -/
set_option maxRecDepth 100000
set_option maxHeartbeats 4000000
namespace Go.Proofs.YtleikacgncpfbaaDoor
open Go Go.Den Go.Lib
noncomputable abbrev TLs : List (FuncId × Pol) := [(23, q7v), (24, pRooms), (51, pSort), (52, pMax), (53, pRsort), (42, pRowX), (41, pSameX)]
theorem okTLs : TabOK base TLs := ⟨qcm, qfx, okSort, okMax, okRsort, okRowX, okSameX, trivial⟩
theorem qht {t : Tm} (h : roomS t 8 40 = true ∧ mayS t = true) : srtT t := by
  have hf := q5b h
  exact ⟨(room_part h).1, hf.1, hf.2.1⟩
theorem room_rst {t : Tm} (h : roomS t 8 40 = true ∧ mayS t = true) : rstT t :=
  ⟨⟨qep (by omega) t 8 h.1, qeo (by omega) t 8 h.1⟩, (q5b h).2.1⟩
theorem qeq {l : List Tm} (h : ∀ u ∈ l, okR u) (hl : l.length ≤ 1000) : rowOkX (some l) (some (l.map canonT)) := by
  refine ⟨?_, fun i h1 h2 => ?_, h, fun u hu => ?_, hl⟩
  · simp
  · simp only [Option.getD_some, List.getElem_map]
    exact q9b _
  · simp only [Option.getD_some] at hu
    obtain ⟨v, hv, rfl⟩ := List.mem_map.1 hu
    exact qdh v (h v hv)
theorem nz_ne {α : Type} {l : List α} (h : l ≠ []) : nz l = some l := by unfold nz; rw [if_neg h]
theorem qgs {a b : Bool} {H : Heap} : A.bin base.P .neq 4 (.bool a) (.bool b) false H = some (.bool (a != b)) := by
  have hb : base.P.underlying 4 = some .bool := by kernel_rfl
  cases a <;> cases b <;> simp [A.bin, hb]
theorem qf0 {n : Nat} {v : AV} (h : Ty Tryd.prog n 23 v) : ∃ o : Option (List Tm), v = eL 7 eT o := by
  obtain ⟨m, es, hm, him, -, hes⟩ := h.slice (e := 26) (by kernel_rfl)
  obtain ⟨l, hl, -⟩ := q59 (f := eT) (p := fun _ => True) (es := es) fun x hx => by
    obtain ⟨t, ht⟩ := ty_tm m x (hes x hx)
    exact ⟨t, ht, trivial⟩
  have hc : Tryd.prog.cellsOf 26 = 7 := by kernel_rfl
  rw [hc] at him
  cases him with
  | nil => exact ⟨none, rfl⟩
  | sh _ =>
    subst hl
    exact ⟨some l, rfl⟩
theorem law_sorts (o : Option (List Tm)) : Evs fun n _ => callF (base.with (polT TLs)) (n + 1) AV 14 [eL 7 eT o] [] (fun v _ => some v) = some (.bool true) := by
  have hrm : ∀ (R : Type) (H : Heap) (k : AV → Heap → Option R), polK pRooms [eL 7 eT o, .int .i64 20] H k = k (.bool (roomsS o 20)) H := fun R H k => kRooms (by omega)
  have hlen : ∀ H, A.len (eL 7 eT o) H = some (.int .i64 ((o.getD []).length : Int)) := fun H => q08
  cases hr : roomsS o 20
  · rw [hr] at hrm
    exact Evs.of fun n m => by simp [↓q00, ↓q0a, ↓q01, -q08, S14, q4l, hrm]
  rw [hr] at hrm
  obtain ⟨hl, hall⟩ := q7y hr
  have hl2 : (o.getD []).length ≤ 20 := by omega
  have hsrt : ∀ u ∈ o.getD [], srtT u := fun u hu => qht (hall u hu)
  have hokR : ∀ u ∈ o.getD [], okR u := fun u hu => (q5b (hall u hu)).2.1
  have k1 : ∀ (R : Type) (H : Heap) (k : AV → Heap → Option R), polK pSort [eL 7 eT o] H k = k (eL 7 eT (nz (sortS (o.getD [])))) H := fun R H k => kSort ⟨hsrt, hl2⟩
  have k2 : ∀ (R : Type) (H : Heap) (k : AV → Heap → Option R), polK pMax [eL 7 eT o] H k = k (.tup [eT (maxS (o.getD [])).1, .bool (maxS (o.getD [])).2]) H := fun R H k => kMax hsrt (by omega)
  have k3 : ∀ (R : Type) (H : Heap) (k : AV → Heap → Option R), polK pRsort [eL 7 eT o] H k = k (eL 7 eT (nz ((sortS (o.getD [])).map canonT))) H := fun R H k => by
    rw [kRsort ⟨fun u hu => room_rst (hall u hu), by omega⟩, qgd]
  cases hc : o.getD [] with
  | nil =>
    rw [hc] at k1 k2 k3 hlen
    have e1 : eL 7 eT (nz (sortS [])) = AV.nils := rfl
    have e2 : eL 7 eT (nz ((sortS []).map canonT)) = AV.nils := rfl
    have e3 : maxS [] = (nilT, false) := rfl
    rw [e1] at k1
    rw [e2] at k3
    rw [e3] at k2
    have k4 : ∀ (R : Type) (H : Heap) (k : AV → Heap → Option R), polK pRowX [.nils, .nils] H k = k (.bool true) H := fun R H k => by
      have : rowOkX none none := qeq (l := []) (fun u hu => by cases hu) (by simp)
      exact kRowX (a := none) (b := none) this
    have he : eT nilT = .agg [.int .i64 0, .bool false, .nils, .str [], .int .i64 0, .nils, .nils] := by rw [q3w]; rfl
    rw [he] at k2
    exact Evs.of fun n m => by simp [↓q00, ↓q0a, ↓q01, ↓q03, ↓q02, ↓q07, -q08, S14, q4l, hrm, k1, k2, k3, k4, hlen, A.fits, A.splice, qgs]
  | cons x r =>
    have hlS := q4u (x :: r)
    have hne : sortS (x :: r) ≠ [] := fun e => by rw [e] at hlS; simp at hlS
    have hne2 : (sortS (x :: r)).map canonT ≠ [] := fun e => hne (List.map_eq_nil_iff.1 e)
    rw [hc] at k1 k2 k3 hlen hall hl2 hokR
    rw [nz_ne hne] at k1
    rw [nz_ne hne2] at k3
    have hSR : ∀ u ∈ sortS (x :: r), okR u := q3q hokR
    have k4 : ∀ (R : Type) (H : Heap) (k : AV → Heap → Option R), polK pRowX [eL 7 eT (some (sortS (x :: r))), eL 7 eT (some ((sortS (x :: r)).map canonT))] H k = k (.bool true) H := fun R H k => kRowX (qeq hSR (by omega))
    have hv : ∀ u ∈ x :: r, okV u := fun u hu => qhs (hall u hu)
    have e3 : maxS (x :: r) = (maxL x (x :: r), true) := rfl
    rw [e3] at k2
    have hj : r.length < (sortS (x :: r)).length := by rw [hlS]; simp
    have hlast := max_last hv hj (by rw [hlS]; simp)
    have hmR : okR (maxL x (x :: r)) := by
      rcases q8s (x :: r) x with h | h
      · rw [h]; exact hokR x (by simp)
      · exact hokR _ h
    have k5 : ∀ (R : Type) (H : Heap) (k : AV → Heap → Option R), polK pSameX [eT (maxL x (x :: r)), eT (sortS (x :: r))[r.length]] H k = k (.bool true) H := fun R H k => by
      rw [kSameX hmR (hSR _ (List.getElem_mem hj)), hlast]
      rfl
    have hlenS : ∀ H, A.len (eL 7 eT (some (sortS (x :: r)))) H = some (.int .i64 ((r.length + 1 : Nat) : Int)) := fun H => by
      have : A.len (eL 7 eT (some (sortS (x :: r)))) H = some (.int .i64 ((sortS (x :: r)).length : Int)) := q08
      rw [this, hlS]
      rfl
    have hw : IntKind.wrap .i64 (((r.length + 1 : Nat) : Int) - 1) = (r.length : Int) := by
      simp only [List.length_cons] at hl2
      rw [q0c (by omega) (by omega)]
      omega
    have hx : ∀ H, A.idx 7 (eL 7 eT (some (sortS (x :: r)))) (.int .i64 (r.length : Int)) H = some (.rop (eT (sortS (x :: r))[r.length]).cells) := fun H => q16 (sz := 7) (e := eT) (o := some (sortS (x :: r))) (H := H) (k := .i64) (i := r.length) hj
    have hld : ∀ H, A.load true 7 (.rop (eT (sortS (x :: r))[r.length]).cells) H = some (eT (sortS (x :: r))[r.length]) := fun H => q0o (H := H)
    have hpos : (0 : Int) < ((x :: r).length : Int) := by simp only [List.length_cons]; omega
    have hof : A.ofList true 7 (eT (maxL x (x :: r))).cells 0 = some (eT (maxL x (x :: r))) := q0o (H := [])
    have hfit := qc7 (t := maxL x (x :: r))
    have hcl : (eT (maxL x (x :: r))).cells.length = 7 := by rw [q04]; rfl
    have hspl : A.splice [.int .i64 0, .bool false, .nils, .str [], .int .i64 0, .nils, .nils] 0 (eT (maxL x (x :: r))).cells = (eT (maxL x (x :: r))).cells := by rw [q04]; rfl
    generalize (sortS (x :: r))[r.length] = y at *
    generalize maxL x (x :: r) = M at *
    generalize eT M = vm at *
    generalize eT y = vy at *
    generalize eL 7 eT (some ((sortS (x :: r)).map canonT)) = vc at *
    generalize eL 7 eT (some (sortS (x :: r))) = vs at *
    generalize ((x :: r).length : Int) = N at *
    generalize ((r.length + 1 : Nat) : Int) = L1 at *
    generalize (r.length : Int) = L0 at *
    exact Evs.of fun n m => by simp [↓q00, ↓q0a, ↓q01, ↓q03, ↓q02, ↓q07, -q08, S14, q4l, hrm, k1, k2, k3, k4, k5, hlen, hlenS, hpos, hw, hx, hld, hof, hfit, hcl, hspl, qgs]
end Go.Proofs.YtleikacgncpfbaaDoor

/- The law on terms that are sorted again: what its function answers. -/
set_option maxRecDepth 100000
set_option maxHeartbeats 8000000
namespace Go.Proofs.YtleikacgncpfbaaDoor
open Go Go.Den Go.Lib
noncomputable abbrev TLt : List (FuncId × Pol) := [(23, q7v), (24, pRooms), (51, pSort), (42, pRowX), (25, pCom)]
theorem okTLt : TabOK base TLt := ⟨qcm, qfx, okSort, okRowX, okCom, trivial⟩
/-! ### the pile that is sorted -/
theorem frzA_all {H : Heap} (m : List Tm) : ((m.map eT).mapM fun (e : AV) => match e with | AV.agg cs => (cs.mapM (A.freezeB true 63 H)).map AV.agg | e => A.freezeB true 63 H e) = some (m.map eT) := by
  induction m with
  | nil => rfl
  | cons t m ih =>
    rw [List.map_cons, List.mapM_cons, ih]
    have h1 : (match eT t with | AV.agg cs => (cs.mapM (A.freezeB true 63 H)).map AV.agg | e => A.freezeB true 63 H e) = some (eT t) := by
      have hc := qb8 (n := 62) (H := H) (t := t)
      generalize hh : eT t = v at hc ⊢
      have e : v = .agg v.cells := by
        rw [← hh]
        exact q36 t
      generalize v.cells = cs at *
      subst e
      show (cs.mapM (A.freezeB true 63 H)).map AV.agg = _
      rw [hc]
      rfl
    rw [h1]
    rfl
theorem frzA_take {id w cap : Nat} {l : List Tm} {es : List AV} {H : Heap} (hr : H[id]? = some (.row w 7 26 es)) (ht : es.take (l.map eT).length = l.map eT) : A.freezeB true 64 H (.sl id w 0 (l.map eT).length cap) = some (eL 7 eT (some l)) := by
  have hlen : (l.map eT).length ≤ es.length := by
    have := congrArg List.length ht
    simp only [List.length_take] at this
    omega
  have hH0 : ([HObj.row w 7 26 (l.map eT)] : Heap)[0]? = some (.row w 7 26 (l.map eT)) := rfl
  show (match H[id]? with | some (.row w' z _ es) => if w' = w ∧ 0 + (l.map eT).length ≤ es.length then (((es.drop 0).take (l.map eT).length).mapM fun (e : AV) => match e with | AV.agg cs => (cs.mapM (A.freezeB true 63 H)).map AV.agg | e => A.freezeB true 63 H e).map (AV.sh z) else none | _ => none) = _
  rw [hr]
  dsimp only
  rw [if_pos ⟨rfl, by omega⟩, List.drop_zero, ht, frzA_all l]
  rfl
theorem sort_row {id w cap : Nat} {l : List Tm} {es : List AV} {H : Heap} (hs : srtOk (some l)) (hr : H[id]? = some (.row w 7 26 es)) (ht : es.take (l.map eT).length = l.map eT) :
    ∃ H', ∀ (R : Type) (k : AV → Heap → Option R), polK pSort [.sl id w 0 (l.map eT).length cap] H k = k (eL 7 eT (nz (sortS l))) H' := by
  refine ⟨bif (eL 7 eT (nz (sortS l))).flat then H else kill ([AV.sl id w 0 (l.map eT).length cap].flatMap (reach 64 H)) H, fun R k => ?_⟩
  unfold pSort
  rw [qcw (q1e (frzA_take hr ht) rfl)]
  simp [hs]
/-! ### the loops -/
theorem cnt_loop {o s : Option (List Tm)} (hlen : (s.getD []).length = (o.getD []).length) (hl : (o.getD []).length ≤ 20) (hok : ∀ u ∈ o.getD [], okC u) (hok2 : ∀ u ∈ s.getD [], okC u) {i : Nat} (hi : i < (o.getD []).length) (H : Heap) : ∀ (k j a b : Nat), j + k = (o.getD []).length → a ≤ j → b ≤ j →
    LDoes (L12_1 (polT TLt)) ⟨[eL 7 eT o, eL 7 eT s, .int .i64 (i : Int), .int .i64 (a : Int), .int .i64 (b : Int), .int .i64 (j : Int)], []⟩ H 0 ⟨[eL 7 eT o, eL 7 eT s, .int .i64 (i : Int), .int .i64 ((a + ((o.getD []).drop j).countP (fun z => decide (cmpT (o.getD [])[i] z = 0)) : Nat) : Int), .int .i64 ((b + ((s.getD []).drop j).countP (fun z => decide (cmpT (o.getD [])[i] z = 0)) : Nat) : Int)], []⟩ H := by
  have hln : A.len (eL 7 eT o) H = some (.int .i64 ((o.getD []).length : Int)) := q08
  have hx := fun (G : Heap) => q16 (sz := 7) (e := eT) (o := o) (H := G) (k := .i64) (i := i) hi
  have hd := fun (G : Heap) => q0o (t := (o.getD [])[i]) (H := G)
  have hki := hok _ (List.getElem_mem hi)
  intro k
  induction k with
  | zero =>
    intro j a b hj ha hb
    have e1 : (o.getD []).drop j = [] := List.drop_of_length_le (by omega)
    have e2 : (s.getD []).drop j = [] := List.drop_of_length_le (by omega)
    rw [e1, e2]
    have hnl : ¬ ((j : Int) < ((o.getD []).length : Int)) := by omega
    refine LDoes.step (Evs.of fun n m => ?_)
    generalize ((o.getD []).length : Int) = N at *
    simp [↓q00, ↓q01, -q08, q3i, hln, hnl]
  | succ k ih =>
    intro j a b hj ha hb
    have hjo : j < (o.getD []).length := by omega
    have hjs : j < (s.getD []).length := by omega
    have hlt : (j : Int) < ((o.getD []).length : Int) := by omega
    have hxo := q16 (sz := 7) (e := eT) (o := o) (H := H) (k := .i64) (i := j) hjo
    have hdo := q0o (t := (o.getD [])[j]) (H := H)
    have hxs := q16 (sz := 7) (e := eT) (o := s) (H := H) (k := .i64) (i := j) hjs
    have hds := q0o (t := (s.getD [])[j]) (H := H)
    have q1 : ∀ (R : Type) (H : Heap) (k : AV → Heap → Option R), polQ pCom [eT (o.getD [])[i], eT (o.getD [])[j]] H k = k (.int .i64 (cmpT (o.getD [])[i] (o.getD [])[j])) H := fun R H k => qCom hki.1 (hok _ (List.getElem_mem hjo)).1 hki.2
    have q2 : ∀ (R : Type) (H : Heap) (k : AV → Heap → Option R), polQ pCom [eT (o.getD [])[i], eT (s.getD [])[j]] H k = k (.int .i64 (cmpT (o.getD [])[i] (s.getD [])[j])) H := fun R H k => qCom hki.1 (hok2 _ (List.getElem_mem hjs)).1 hki.2
    have wj : IntKind.wrap .i64 ((j : Int) + 1) = ((j + 1 : Nat) : Int) := by rw [q0c (by omega) (by omega)]; omega
    have wa : IntKind.wrap .i64 ((a : Int) + 1) = ((a + 1 : Nat) : Int) := by rw [q0c (by omega) (by omega)]; omega
    have wb : IntKind.wrap .i64 ((b : Int) + 1) = ((b + 1 : Nat) : Int) := by rw [q0c (by omega) (by omega)]; omega
    have c1 : a + ((o.getD []).drop j).countP (fun z => decide (cmpT (o.getD [])[i] z = 0)) = (if cmpT (o.getD [])[i] (o.getD [])[j] = 0 then a + 1 else a) + ((o.getD []).drop (j + 1)).countP (fun z => decide (cmpT (o.getD [])[i] z = 0)) := by
      rw [List.drop_eq_getElem_cons hjo, List.countP_cons]
      simp only [decide_eq_true_eq]
      split <;> omega
    have c2 : b + ((s.getD []).drop j).countP (fun z => decide (cmpT (o.getD [])[i] z = 0)) = (if cmpT (o.getD [])[i] (s.getD [])[j] = 0 then b + 1 else b) + ((s.getD []).drop (j + 1)).countP (fun z => decide (cmpT (o.getD [])[i] z = 0)) := by
      rw [List.drop_eq_getElem_cons hjs, List.countP_cons]
      simp only [decide_eq_true_eq]
      split <;> omega
    rw [c1, c2]
    have hL := ih (j + 1) (if cmpT (o.getD [])[i] (o.getD [])[j] = 0 then a + 1 else a) (if cmpT (o.getD [])[i] (s.getD [])[j] = 0 then b + 1 else b) (by omega) (by split <;> omega) (by split <;> omega)
    generalize (fun z => decide (cmpT (o.getD [])[i] z = 0)) = p at *
    have hx := hx H
    have hd := hd H
    generalize cmpT (o.getD [])[i] (o.getD [])[j] = Z1 at *
    generalize cmpT (o.getD [])[i] (s.getD [])[j] = Z2 at *
    generalize (o.getD [])[i] = u at *
    generalize (o.getD [])[j] = v at *
    generalize (s.getD [])[j] = w at *
    generalize (((o.getD []).drop (j + 1)).countP p) = P1 at *
    generalize (((s.getD []).drop (j + 1)).countP p) = P2 at *
    generalize eT u = x at *
    generalize eT v = y at *
    generalize eT w = z at *
    generalize ((o.getD []).length : Int) = N at *
    generalize eL 7 eT o = vo at *
    generalize eL 7 eT s = vs at *
    generalize ((j + 1 : Nat) : Int) = J1 at *
    refine LDoes.step (Evs.withL hL (Evs.of fun n m _ h2 => ?_))
    by_cases z1 : Z1 = 0
    · rw [if_pos z1] at h2 ⊢
      by_cases z2 : Z2 = 0
      · rw [if_pos z2] at h2 ⊢
        generalize ((a + 1 + P1 : Nat) : Int) = R1 at *
        generalize ((b + 1 + P2 : Nat) : Int) = R2 at *
        generalize ((a + 1 : Nat) : Int) = A1 at *
        generalize ((b + 1 : Nat) : Int) = B1 at *
        simp [↓q00, ↓q06, ↓q01, ↓q05, q3i, hln, hlt, hx, hd, hxo, hdo, hxs, hds, q1, q2, z1, z2, wj, wa, wb, h2]
      · rw [if_neg z2] at h2 ⊢
        generalize ((a + 1 + P1 : Nat) : Int) = R1 at *
        generalize ((b + P2 : Nat) : Int) = R2 at *
        generalize ((a + 1 : Nat) : Int) = A1 at *
        simp [↓q00, ↓q06, ↓q01, ↓q05, q3i, hln, hlt, hx, hd, hxo, hdo, hxs, hds, q1, q2, z1, z2, wj, wa, h2]
    · rw [if_neg z1] at h2 ⊢
      by_cases z2 : Z2 = 0
      · rw [if_pos z2] at h2 ⊢
        generalize ((a + P1 : Nat) : Int) = R1 at *
        generalize ((b + 1 + P2 : Nat) : Int) = R2 at *
        generalize ((b + 1 : Nat) : Int) = B1 at *
        simp [↓q00, ↓q06, ↓q01, ↓q05, q3i, hln, hlt, hx, hd, hxo, hdo, hxs, hds, q1, q2, z1, z2, wj, wb, h2]
      · rw [if_neg z2] at h2 ⊢
        generalize ((a + P1 : Nat) : Int) = R1 at *
        generalize ((b + P2 : Nat) : Int) = R2 at *
        simp [↓q00, ↓q06, ↓q01, ↓q05, q3i, hln, hlt, hx, hd, hxo, hdo, hxs, hds, q1, q2, z1, z2, wj, h2]
theorem stb_loop {o s : Option (List Tm)} (hlen : (s.getD []).length = (o.getD []).length) (hl : (o.getD []).length ≤ 20) (hok : ∀ u ∈ o.getD [], okC u) (hok2 : ∀ u ∈ s.getD [], okC u) (hp : (s.getD []).Perm (o.getD [])) (hasc : asc (s.getD [])) (H : Heap) : ∀ (k i : Nat), i + k = (o.getD []).length →
    LDoes (L12_0 (polT TLt)) ⟨[eL 7 eT o, eL 7 eT s, .int .i64 (i : Int)], []⟩ H 0 ⟨[.undef], []⟩ H := by
  have hln : A.len (eL 7 eT o) H = some (.int .i64 ((o.getD []).length : Int)) := q08
  intro k
  induction k with
  | zero =>
    intro i hi
    have hnl : ¬ ((i : Int) < ((o.getD []).length : Int)) := by omega
    refine LDoes.step (Evs.of fun n m => ?_)
    generalize ((o.getD []).length : Int) = N at *
    simp [↓q00, ↓q01, -q08, q74, hln, hnl]
  | succ k ih =>
    intro i hi
    have hio : i < (o.getD []).length := by omega
    have his : i < (s.getD []).length := by omega
    have hlt : (i : Int) < ((o.getD []).length : Int) := by omega
    have hL1 := cnt_loop hlen hl hok hok2 hio H (o.getD []).length 0 0 0 (by omega) (Nat.le_refl _) (Nat.le_refl _)
    have hL2 := ih (i + 1) (by omega)
    simp only [List.drop_zero, Nat.zero_add] at hL1
    rw [hp.countP_eq] at hL1
    have w1 : IntKind.wrap .i64 ((i : Int) + 1) = ((i + 1 : Nat) : Int) := by rw [q0c (by omega) (by omega)]; omega
    generalize ((o.getD []).countP (fun z => decide (cmpT (o.getD [])[i] z = 0)) : Int) = C at *
    have c0 : ((0 : Nat) : Int) = 0 := rfl
    rw [c0] at hL1
    refine LDoes.step (Evs.withL hL2 (Evs.withL hL1 (Evs.of fun n m g1 _ _ h2 => ?_)))
    rcases Nat.eq_zero_or_pos i with h0 | h0
    · subst h0
      rw [c0] at g1 hlt w1
      generalize ((o.getD []).length : Int) = N at *
      simp only [Int.ofNat_zero]
      have w2 : IntKind.wrap .i64 1 = ((0 + 1 : Nat) : Int) := q0c (by omega) (by omega)
      generalize ((0 + 1 : Nat) : Int) = J at *
      generalize eL 7 eT o = vo at *
      generalize eL 7 eT s = vs at *
      simp [↓q00, ↓q06, ↓q01, ↓q03, ↓q02, ↓q05, q74, hln, hlt, g1, w2, h2]
    · have hi1 : i - 1 < (s.getD []).length := by omega
      have hpos : (0 : Int) < (i : Int) := by omega
      have wm : IntKind.wrap .i64 ((i : Int) - 1) = ((i - 1 : Nat) : Int) := by rw [q0c (by omega) (by omega)]; omega
      have hx1 := q16 (sz := 7) (e := eT) (o := s) (H := H) (k := .i64) (i := i) his
      have hd1 := q0o (t := (s.getD [])[i]) (H := H)
      have hx0 := q16 (sz := 7) (e := eT) (o := s) (H := H) (k := .i64) (i := i - 1) hi1
      have hd0 := q0o (t := (s.getD [])[i - 1]) (H := H)
      have hki := hok2 _ (List.getElem_mem hi1)
      have k1 : ∀ (R : Type) (H : Heap) (k : AV → Heap → Option R), polK pCom [eT (s.getD [])[i - 1], eT (s.getD [])[i]] H k = k (.int .i64 (cmpT (s.getD [])[i - 1] (s.getD [])[i])) H := fun R H k => kCom hki.1 (hok2 _ (List.getElem_mem his)).1 hki.2
      have hle : ¬ 0 < cmpT (s.getD [])[i - 1] (s.getD [])[i] := by
        have := asc_get hasc hi1 his (by omega)
        omega
      generalize cmpT (s.getD [])[i - 1] (s.getD [])[i] = Z at *
      generalize eT (s.getD [])[i - 1] = x at *
      generalize eT (s.getD [])[i] = y at *
      generalize ((o.getD []).length : Int) = N at *
      generalize ((i - 1 : Nat) : Int) = I0 at *
      generalize ((i + 1 : Nat) : Int) = I1 at *
      generalize (i : Int) = I at *
      generalize eL 7 eT o = vo at *
      generalize eL 7 eT s = vs at *
      simp [↓q00, ↓q06, ↓q01, ↓q03, ↓q02, ↓q05, q74, hln, hlt, g1, hpos, wm, hx1, hd1, hx0, hd0, k1, hle, w1, h2]
/-! ### the law -/
theorem slice_hi {o : Option (List Tm)} {k : Nat} (hk : k ≤ (o.getD []).length) : ∃ w, (∀ H, A.slice 7 (eL 7 eT o) (some (.int .i64 (k : Int))) none none H = some w) ∧ ∀ H, A.read 7 w H = some (((o.getD []).drop k).map eT) := by
  cases o with
  | none =>
    have : k = 0 := by simpa using hk
    subst this
    exact ⟨.nils, fun H => rfl, fun H => rfl⟩
  | some l =>
    simp only [Option.getD_some] at hk
    have hb : A.bound (some (.int .i64 (k : Int))) 0 = some k := by simp [A.bound]
    have e : eL 7 eT (some l) = .sh 7 (l.map eT) := rfl
    have hk' : k ≤ (l.map eT).length := by simpa using hk
    refine ⟨.sh 7 (((l.map eT).drop k).take ((l.map eT).length - k)), fun H => ?_, fun H => ?_⟩
    · rw [e]
      generalize l.map eT = L at *
      unfold A.slice
      dsimp only
      rw [hb]
      simp [A.bound, hk']
    · show some _ = _
      rw [List.take_of_length_le (by simp), List.map_drop]
      rfl
theorem slice_lo {o : Option (List Tm)} {k : Nat} (hk : k ≤ (o.getD []).length) : ∃ w, (∀ H, A.slice 7 (eL 7 eT o) none (some (.int .i64 (k : Int))) none H = some w) ∧ ∀ H, A.read 7 w H = some (((o.getD []).take k).map eT) := by
  cases o with
  | none =>
    have : k = 0 := by simpa using hk
    subst this
    exact ⟨.nils, fun H => rfl, fun H => rfl⟩
  | some l =>
    simp only [Option.getD_some] at hk
    have hb : ∀ j, A.bound (some (.int .i64 (k : Int))) j = some k := fun j => by simp [A.bound]
    have e : eL 7 eT (some l) = .sh 7 (l.map eT) := rfl
    have hk' : k ≤ (l.map eT).length := by simpa using hk
    refine ⟨.sh 7 (((l.map eT).drop 0).take (k - 0)), fun H => ?_, fun H => ?_⟩
    · rw [e]
      generalize l.map eT = L at *
      unfold A.slice
      dsimp only
      rw [hb]
      simp [A.bound, hk']
    · show some _ = _
      rw [List.drop_zero, Nat.sub_zero, List.map_take]
      rfl
theorem qh5 {o : Option (List Tm)} : (eL 7 eT o).heapy = false := by
  have : (eL 7 eT o).imm = true := by simp
  unfold AV.heapy
  rw [this]
  rfl
theorem row_asc {a b : List Tm} (ha : asc a) (hb : asc b) (hp : a.Perm b) (va : ∀ u ∈ a, okV u) (vb : ∀ u ∈ b, okV u) (ra : ∀ u ∈ a, okR u) (rb : ∀ u ∈ b, okR u) (hl : a.length ≤ 1000) : rowOkX (nz a) (nz b) := by
  unfold rowOkX
  rw [q1f, q1f]
  exact ⟨hp.length_eq, fun i h1 h2 => asc_same ha hb hp va vb i h1 h2, ra, rb, hl⟩
theorem qip (o : Option (List Tm)) (t : Int) (t0 : 0 ≤ t) (t1 : t ≤ 255) : Evs fun n _ => callF (base.with (polT TLt)) (n + 1) AV 12 [eL 7 eT o, .int .u8 t] [] (fun v _ => some v) = some (.bool true) := by
  have hrm : ∀ (R : Type) (H : Heap) (k : AV → Heap → Option R), polK pRooms [eL 7 eT o, .int .i64 20] H k = k (.bool (roomsS o 20)) H := fun R H k => kRooms (by omega)
  have hlen : ∀ H, A.len (eL 7 eT o) H = some (.int .i64 ((o.getD []).length : Int)) := fun H => q08
  cases hr : roomsS o 20
  · rw [hr] at hrm
    exact Evs.of fun n m => by simp [↓q00, ↓q06, ↓q09, ↓q01, -q08, S12, q4l, hrm]
  rw [hr] at hrm
  obtain ⟨hl, hall⟩ := q7y hr
  have hl2 : (o.getD []).length ≤ 20 := by omega
  have hsrt : ∀ u ∈ o.getD [], srtT u := fun u hu => qht (hall u hu)
  have hokR : ∀ u ∈ o.getD [], okR u := fun u hu => (q5b (hall u hu)).2.1
  have hv : ∀ u ∈ o.getD [], okV u := fun u hu => qhs (hall u hu)
  have hlS := q4u (o.getD [])
  have hpS := q5g (o.getD [])
  have haS := q6y hv
  have mS : ∀ {p : Tm → Prop}, (∀ u ∈ o.getD [], p u) → ∀ u ∈ sortS (o.getD []), p u := fun h => q3q h
  have k1 : ∀ (R : Type) (H : Heap) (k : AV → Heap → Option R), polK pSort [eL 7 eT o] H k = k (eL 7 eT (nz (sortS (o.getD [])))) H := fun R H k => kSort ⟨hsrt, hl2⟩
  have hlenS : ∀ H, A.len (eL 7 eT (nz (sortS (o.getD [])))) H = some (.int .i64 ((o.getD []).length : Int)) := fun H => by
    have : A.len (eL 7 eT (nz (sortS (o.getD [])))) H = some (.int .i64 (((nz (sortS (o.getD []))).getD []).length : Int)) := q08
    rw [this, q1f, hlS]
  -- sorted again
  have k2 : ∀ (R : Type) (H : Heap) (k : AV → Heap → Option R), polK pSort [eL 7 eT (nz (sortS (o.getD [])))] H k = k (eL 7 eT (nz (sortS (sortS (o.getD []))))) H := fun R H k => by
    have h : srtOk (nz (sortS (o.getD []))) := by
      unfold srtOk
      rw [q1f]
      exact ⟨mS hsrt, by rw [hlS]; exact hl2⟩
    rw [kSort h, q1f]
  have k3 : ∀ (R : Type) (H : Heap) (k : AV → Heap → Option R), polK pRowX [eL 7 eT (nz (sortS (sortS (o.getD [])))), eL 7 eT (nz (sortS (o.getD [])))] H k = k (.bool true) H := fun R H k =>
    kRowX (row_asc (q6y (mS hv)) haS (q5g _) (q3q (mS hv)) (mS hv) (q3q (mS hokR)) (mS hokR) (by rw [q4u, hlS]; omega))
  have main : ∀ k : Nat, k ≤ (o.getD []).length → ∃ w1 w2 v1 v2 H8 H9 H10, (∀ H, A.slice 7 (eL 7 eT o) (some (.int .i64 (k : Int))) none none H = some w1) ∧ (∀ H, A.slice 7 (eL 7 eT o) none (some (.int .i64 (k : Int))) none H = some w2) ∧
      (∃ n1, A.read 7 w1 [.row 0 7 26 []] = some n1 ∧ A.append 7 112 26 (.sl 0 0 0 0 0) n1 [.row 0 7 26 []] = some (v1, H8)) ∧
      (∃ n2, A.read 7 w2 H8 = some n2 ∧ A.append 7 112 26 v1 n2 H8 = some (v2, H9)) ∧
      ∃ y, (∀ (R : Type) (k : AV → Heap → Option R), polK pSort [v2] H9 k = k y H10) ∧ ∀ (R : Type) (H : Heap) (k : AV → Heap → Option R), polK pRowX [eL 7 eT (nz (sortS (o.getD []))), y] H k = k (.bool true) H := by
    intro k hk
    obtain ⟨w1, s1, r1⟩ := slice_hi hk
    obtain ⟨w2, s2, r2⟩ := slice_lo hk
    obtain ⟨ver1, cap1, es1, g1, g2, g3⟩ := qa0 (sz := 7) (bytes := 112) (ty := 26) (q := 0) (ver := 0) (cap := 0) (es := []) (todo := []) (news := ((o.getD []).drop k).map eT) (H := [.row 0 7 26 []]) rfl rfl (Nat.le_refl _) (by omega) (by simp; omega)
    simp only [List.nil_append, List.length_nil] at g1 g2 g3
    have hH8 : (([HObj.row 0 7 26 []] : Heap).set 0 (.row ver1 7 26 es1))[0]? = some (.row ver1 7 26 es1) := rfl
    obtain ⟨ver2, cap2, es2, f1, f2, f3⟩ := qa0 (sz := 7) (bytes := 112) (ty := 26) (news := ((o.getD []).take k).map eT) hH8 g2 g3 (by omega) (by simp; omega)
    rw [← List.map_append] at f1 f2 f3
    have hmem : ∀ u ∈ (o.getD []).drop k ++ (o.getD []).take k, u ∈ o.getD [] := fun u hu => by
      rcases List.mem_append.1 hu with h | h
      · exact List.mem_of_mem_drop h
      · exact List.mem_of_mem_take h
    have hpR : ((o.getD []).drop k ++ (o.getD []).take k).Perm (o.getD []) := by
      have := List.perm_append_comm (l₁ := (o.getD []).drop k) (l₂ := (o.getD []).take k)
      rw [List.take_append_drop] at this
      exact this
    generalize hR : (o.getD []).drop k ++ (o.getD []).take k = R0 at *
    have hsR : srtOk (some R0) := ⟨fun u hu => hsrt u (hmem u hu), by
      have := hpR.length_eq
      simp only [Option.getD_some]
      omega⟩
    have hH9 := q4r (x := HObj.row ver2 7 26 es2) hH8
    obtain ⟨H10, hk10⟩ := sort_row (cap := cap2) hsR hH9 f2
    have vR : ∀ u ∈ R0, okV u := fun u hu => hv u (hmem u hu)
    refine ⟨w1, w2, _, _, _, _, H10, s1, s2, ⟨_, r1 _, g1⟩, ⟨_, r2 _, f1⟩, _, hk10, fun R H k => kRowX (row_asc haS (q6y vR) ?_ (mS hv) (q3q vR) (mS hokR) (q3q fun u hu => hokR u (hmem u hu)) (by rw [hlS]; omega))⟩
    exact hpS.trans (hpR.symm.trans (q5g R0).symm)
  have hLp : ∀ H, LDoes (L12_0 (polT TLt)) ⟨[eL 7 eT o, eL 7 eT (nz (sortS (o.getD []))), .int .i64 ((0 : Nat) : Int)], []⟩ H 0 ⟨[.undef], []⟩ H := fun H => by
    refine stb_loop (s := nz (sortS (o.getD []))) (by rw [q1f, hlS]) hl2 (fun u hu => qge (hsrt u hu)) ?_ ?_ ?_ H (o.getD []).length 0 (by omega)
    · rw [q1f]; exact mS fun u hu => qge (hsrt u hu)
    · rw [q1f]; exact hpS
    · rw [q1f]; exact haS
  have hfe : A.fillElems 7 [] [] = some [] := rfl
  have c0 : ((0 : Nat) : Int) = 0 := rfl
  rw [c0] at hLp
  by_cases hpos : 0 < (o.getD []).length
  · have hpos' : (0 : Int) < ((o.getD []).length : Int) := by omega
    obtain ⟨w1, w2, v1, v2, H8, H9, H10, s1, s2, ⟨n1, r1, g1⟩, ⟨n2, r2, f1⟩, y, ky, kr⟩ := main (t.toNat % (o.getD []).length) (Nat.le_of_lt (Nat.mod_lt _ hpos))
    have hcv : Go.Den.convert base 5 3 (.int .u8 t) = some (.int .i64 t) := by
      rw [q0q, q0c (by omega) (by omega)]
    have hrem : ∀ H, A.bin base.P .rem 3 (.int .i64 t) (.int .i64 ((o.getD []).length : Int)) false H = some (.int .i64 ((t.toNat % (o.getD []).length : Nat) : Int)) := fun H => by
      have e : t = (t.toNat : Int) := by omega
      rw [A.bin_rem, if_neg (by omega)]
      have e2 : t.tmod ((o.getD []).length : Int) = ((t.toNat % (o.getD []).length : Nat) : Int) := by
        rw [Int.tmod_eq_emod_of_nonneg t0, Int.natCast_emod, Int.toNat_of_nonneg t0]
      rw [e2]
    have hy1 := qh5 (o := o)
    have hy2 : ∀ z : Int, (AV.int .i64 z).heapy = false := fun z => rfl
    generalize ((t.toNat % (o.getD []).length : Nat) : Int) = K at *
    generalize ((o.getD []).length : Int) = N at *
    generalize eL 7 eT (nz (sortS (sortS (o.getD [])))) = vss at *
    generalize eL 7 eT (nz (sortS (o.getD []))) = vs at *
    generalize eL 7 eT o = vo at *
    refine Evs.withL (hLp H10) (Evs.of fun n m h1 _ => ?_)
    simp [↓q00, ↓q06, ↓q09, ↓q01, ↓q03, ↓q0d, ↓q0m, ↓q02, ↓q05, ↓q07, S12, q4l, hrm, hlen, hpos', hcv, hrem, k1, hfe, s1, s2, q0y q2d, r1, g1, r2, f1, ky, kr, k2, k3, hy1, hy2, hlenS, h1]
  · have hpos' : ¬ (0 : Int) < ((o.getD []).length : Int) := by omega
    obtain ⟨w1, w2, v1, v2, H8, H9, H10, s1, s2, ⟨n1, r1, g1⟩, ⟨n2, r2, f1⟩, y, ky, kr⟩ := main 0 (Nat.zero_le _)
    rw [c0] at s1 s2
    have hy1 := qh5 (o := o)
    have hy2 : ∀ z : Int, (AV.int .i64 z).heapy = false := fun z => rfl
    generalize ((o.getD []).length : Int) = N at *
    generalize eL 7 eT (nz (sortS (sortS (o.getD [])))) = vss at *
    generalize eL 7 eT (nz (sortS (o.getD []))) = vs at *
    generalize eL 7 eT o = vo at *
    refine Evs.withL (hLp H10) (Evs.of fun n m h1 _ => ?_)
    simp [↓q00, ↓q06, ↓q09, ↓q01, ↓q03, ↓q0d, ↓q0m, ↓q02, ↓q05, ↓q07, S12, q4l, hrm, hlen, hpos', k1, hfe, s1, s2, q0y q2d, r1, g1, r2, f1, ky, kr, k2, k3, hy1, hy2, hlenS, h1]
end Go.Proofs.YtleikacgncpfbaaDoor
