/- Texts put together: Tm1, Tm2, Tm3, Tm4, Tm5, Tm6, Tm7, Tm8, Tm9, Tm10, Tm11, Ma1, Ma2, U1, U2, U3, U4, U5, U6, U7, MaV, Ma8, Ma9, MaA, Or1, Or5, Or6, Or2, Or3, Or4, Mb1, Mb2, Mb3, Mb3A, Mb3B, Mb3C, Mb3D, Mb3E, Mb4, Mb5, Rms, Or7, Or8, Ts1. -/
import Derived.Test.YtleikacgncpfbaaDoorMg

/- Terms: is one small? -/
set_option maxRecDepth 100000
set_option maxHeartbeats 2000000
namespace Go.Proofs.YtleikacgncpfbaaDoor
open Go Go.Den
mutual
def roomS : Tm → Int → Int → Bool
  | .mk _ _ d s _ l b, dep, most => !(decide (dep < 0) || decide (most < (l.getD []).length) || decide (5000 < (b.getD []).length) || decide (100 < (d.getD []).length) || decide (1100 < s.length)) && roomSo l (dep - 1) most
def roomSo : Option (List Tm) → Int → Int → Bool
  | none, _, _ => true
  | some l, dep, most => roomSs l dep most
def roomSs : List Tm → Int → Int → Bool
  | [], _, _ => true
  | t :: l, dep, most => roomS t dep most && roomSs l dep most
end
theorem q9o : ∀ (l : List Tm) (dep most : Int), roomSs l dep most = l.all fun t => roomS t dep most
  | [], _, _ => by rw [roomSs]; rfl
  | t :: l, dep, most => by rw [roomSs, q9o l]; rfl
theorem q49 (t : Tm) (dep most : Int) : roomS t dep most = (!(decide (dep < 0) || decide (most < (t.kids.length : Int)) || decide (5000 < (t.b.getD []).length) || decide (100 < (t.d.getD []).length) || decide (1100 < t.name.length)) && t.kids.all fun u => roomS u (dep - 1) most) := by
  cases t with
  | mk k x d s n l b =>
    rw [roomS]
    cases l with
    | none => rw [roomSo]; rfl
    | some l => rw [roomSo, q9o]; rfl
theorem q13 {t : Tm} {H : Heap} : A.load true 7 (.rop (eT t).cells) H = some (eT t) := by
  rw [q02, q39]
  rfl
theorem q51 (t : Tm) (H : Heap) (b : Nat) (h : H[b]? = some (.row 0 7 26 [eT t])) : Go.Den.Box H b 7 26 (eT t).cells := by
  rw [q39] at h
  rw [q02]
  exact h
noncomputable def pRoom (n : Nat) : Pol := .still (p3 cT (cI .i64) (cI .i64) .bool (fun t dep most => t.size ≤ n ∧ -1 ≤ dep ∧ dep ≤ 1000 ∧ most ≤ 1000) roomS)
theorem kRoom {n : Nat} {R : Type} {t : Tm} {dep most : Int} (h : t.size ≤ n) (h0 : -1 ≤ dep) (h1 : dep ≤ 1000) (h2 : most ≤ 1000) {H : Heap} {k : AV → Heap → Option R} : polK (pRoom n) [eT t, .int .i64 dep, .int .i64 most] H k = k (.bool (roomS t dep most)) H := by
  simp [pRoom, q0i, h, h0, h1, h2]
theorem qj6 {n : Nat} {t : Tm} {dep most : Int} {H : Heap} (hs : t.size ≤ n + 1) (h0 : 0 ≤ dep) (h1 : dep ≤ 1000) (h2 : most ≤ 1000) (hl : t.kids.length ≤ 1000) (hB : Go.Den.Box H 0 7 26 (eT t).cells) : ∀ (k i : Nat), i + k = t.kids.length →
    LDoes (L16_0 (polT [(16, pRoom n)])) ⟨[.int .i64 dep, .int .i64 most, .ptr 0 0 0 0, .int .i64 (i : Int)], []⟩ H (if (t.kids.drop i).all fun u => roomS u (dep - 1) most then 0 else 1) ⟨[if (t.kids.drop i).all fun u => roomS u (dep - 1) most then .undef else .bool false], []⟩ H := by
  have p1 := hB.fa (o := 5)
  have p2 := hB.load (o := 5)
  rw [q02] at p2
  simp only [List.getElem?_cons_succ, List.getElem?_cons_zero] at p2
  have hk : t.l.getD [] = t.kids := rfl
  intro k
  induction k with
  | zero =>
    intro i hi
    have : i = t.kids.length := by omega
    subst this
    rw [List.drop_length]
    refine LDoes.step (Evs.of fun n m => ?_)
    simp [↓q00, ↓q01, q5q, p1, p2, hk]
  | succ k ih =>
    intro i hi
    have hlt : i < t.kids.length := by omega
    have hx := q3u (sz := 7) (e := eT) (o := t.l) (H := H) (k := .i64) (i := i) hlt
    have hw : IntKind.wrap .i64 (dep - 1) = dep - 1 := q0h (by omega) (by omega)
    have hi1 : IntKind.wrap .i64 ((i : Int) + 1) = (i : Int) + 1 := q0h (by omega) (by omega)
    have hsz : (t.kids[i]).size ≤ n := by
      have := Tm.size_kid (t := t) (u := t.kids[i]) (List.getElem_mem hlt)
      omega
    have hr : ∀ (k : AV → Heap → Option (Nat × Live × Heap)), polK (pRoom n) [eT t.kids[i], .int .i64 (dep - 1), .int .i64 most] H k = k (.bool (roomS t.kids[i] (dep - 1) most)) H := fun k => kRoom hsz (by omega) (by omega) h2
    have hd : t.kids.drop i = t.kids[i] :: t.kids.drop (i + 1) := List.drop_eq_getElem_cons hlt
    rw [hd, List.all_cons]
    have hxx : A.idx 7 (eL 7 eT t.l) (.int .i64 (i : Int)) H = some (.rop (eT t.kids[i]).cells) := hx
    have hld := q13 (t := t.kids[i]) (H := H)
    have ih1 := ih (i + 1) (by omega)
    simp only [Int.natCast_add, Int.natCast_one] at ih1
    have hlt' : (i : Int) < (t.kids.length : Int) := by omega
    generalize (t.kids.drop (i + 1)).all (fun u => roomS u (dep - 1) most) = rest at *
    generalize (eT t.kids[i]).cells = cs at *
    cases hq : roomS t.kids[i] (dep - 1) most
    · refine LDoes.step (Evs.of fun n m => ?_)
      rw [hq] at hr
      simp [↓q00, ↓q01, q5q, p1, p2, hk, hlt, hxx, hld, hw, hr]
    · refine LDoes.step (Evs.withL ih1 (Evs.of fun n m _ h2 => ?_))
      rw [hq] at hr
      simp [↓q00, ↓q01, q5q, p1, p2, hk, hlt, hxx, hld, hw, hr, hi1, h2]
end Go.Proofs.YtleikacgncpfbaaDoor

/- Terms: is one small: the entry. -/
set_option maxRecDepth 100000
set_option maxHeartbeats 2000000
namespace Go.Proofs.YtleikacgncpfbaaDoor
open Go Go.Den
theorem okRoom : ∀ n, PolOK base 16 (pRoom n)
  | 0 => still3 base_ok [] trivial fun t dep most ⟨hs, _⟩ => by
    have := t.size_eq
    omega
  | n + 1 => still3 base_ok [(16, pRoom n)] ⟨okRoom n, trivial⟩ fun t dep most ⟨hs, h0, h1, h2⟩ => by
    have hB := q51 t [.row 0 7 26 [eT t]] 0 rfl
    have p := fun o => hB.fa (o := o)
    have q := fun o => hB.load (o := o)
    rw [q02] at q
    have q5 := q 5
    have q6 := q 6
    have q2 := q 2
    have q3 := q 3
    simp only [List.getElem?_cons_succ, List.getElem?_cons_zero] at q5 q6 q2 q3
    have hk : t.l.getD [] = t.kids := rfl
    have hce : (eT t).cells.length = 7 := by rw [q02]; rfl
    rw [q49]
    by_cases c1 : dep < 0
    · have hp : ((t.kids.length : Int) : Int) = t.kids.length := rfl
      refine Evs.of fun n m => ?_
      simp [↓q00, ↓q03, ↓q09, ↓q01, ↓q05, ↓q04, ↓q07, S16, c1]
    by_cases c2 : most < (t.kids.length : Int)
    · refine Evs.of fun n m => ?_
      simp [↓q00, ↓q03, ↓q09, ↓q01, ↓q05, ↓q04, ↓q07, S16, c1, p, q5, hk, c2]
    by_cases c3 : 5000 < (t.b.getD []).length
    · have c3' : (5000 : Int) < ((t.b.getD []).length : Int) := by omega
      refine Evs.of fun n m => ?_
      simp [↓q00, ↓q03, ↓q09, ↓q01, ↓q05, ↓q04, ↓q07, S16, c1, p, q5, hk, c2, q6, c3, c3']
    have c3' : ¬ (5000 : Int) < ((t.b.getD []).length : Int) := by omega
    by_cases c4 : 100 < (t.d.getD []).length
    · have c4' : (100 : Int) < ((t.d.getD []).length : Int) := by omega
      refine Evs.of fun n m => ?_
      simp [↓q00, ↓q03, ↓q09, ↓q01, ↓q05, ↓q04, ↓q07, S16, c1, p, q5, hk, c2, q6, c3, c3', q2, c4, c4']
    have c4' : ¬ (100 : Int) < ((t.d.getD []).length : Int) := by omega
    by_cases c5 : 1100 < t.name.length
    · have c5' : (1100 : Int) < (t.name.length : Int) := by omega
      refine Evs.of fun n m => ?_
      simp [↓q00, ↓q03, ↓q09, ↓q01, ↓q05, ↓q04, ↓q07, S16, c1, p, q5, hk, c2, q6, c3, c3', q2, c4, c4', q3, A.lenStr, c5, c5']
    have c5' : ¬ (1100 : Int) < (t.name.length : Int) := by omega
    have hL := qj6 (n := n) (t := t) (dep := dep) (most := most) hs (by omega) h1 h2 (by omega) hB t.kids.length 0 (by omega)
    rw [List.drop_zero] at hL
    refine Evs.withL hL (Evs.of fun n m h3 _ => ?_)
    simp only [Int.natCast_zero] at h3
    generalize t.kids.all (fun u => roomS u (dep - 1) most) = w at *
    cases w <;> simp [↓q00, ↓q03, ↓q09, ↓q01, ↓q05, ↓q04, ↓q06, ↓q07, S16, c1, p, q5, hk, c2, q6, c3, c3', q2, c4, c4', q3, A.lenStr, c5, c5', h3]
end Go.Proofs.YtleikacgncpfbaaDoor

/- Terms: the walk through a term. -/
set_option maxRecDepth 100000
set_option maxHeartbeats 2000000
namespace Go.Proofs.YtleikacgncpfbaaDoor
open Go Go.Den
def partsO (t : Tm) : Option (List Tm) := if t.kind = 4 ∨ t.kind = 6 then t.l else none
noncomputable def pParts : Pol := .still (p1 cT (fun o => eL 7 eT o) (fun _ => True) partsO)
theorem qir : PolOK base 75 pParts := still1 base_ok [] trivial fun t _ => by
  have hB := q51 t [.row 0 7 26 [eT t]] 0 rfl
  have p := fun o => hB.fa (o := o)
  have q := fun o => hB.load (o := o)
  rw [q02] at q
  have q0 := q 0
  have q5 := q 5
  simp only [List.getElem?_cons_succ, List.getElem?_cons_zero] at q5 q0
  refine Evs.of fun n m => ?_
  unfold partsO
  have hz : A.freezeB true 64 [.row 0 7 26 [eT t]] (eL 7 eT t.l) = some (eL 7 eT t.l) := q6a (by simp)
  have h1 : ((t.kind : Int) = 4 ∨ ¬ (t.kind : Int) = 4) := by omega
  by_cases c1 : t.kind = 4
  · simp [↓q00, ↓q03, ↓q09, ↓q01, ↓q05, ↓q04, ↓q07, S75, p, q0, q5, c1, hz]
  · by_cases c2 : t.kind = 6
    · simp [↓q00, ↓q03, ↓q09, ↓q01, ↓q05, ↓q04, ↓q07, S75, p, q0, q5, c2, hz]
    · simp [↓q00, ↓q03, ↓q09, ↓q01, ↓q05, ↓q04, ↓q07, S75, p, q0, c1, c2]
      rfl
theorem q4c : base.P.underlying 23 = some (.slice 26) := by kernel_rfl
def visitB {σ : Type} (ok go : σ → Tm → Bool) (step : σ → Tm → σ) : Nat → List Tm → σ → Option (σ × Bool)
  | _, [], s => some (s, true)
  | 0, _ :: _, _ => none
  | b + 1, x :: st, s => if ok s x then (if go s x then visitB ok go step b (((partsO x).getD []).reverse ++ st) (step s x) else some (step s x, false)) else none
def YDoes (T : List (FuncId × Pol)) (idl : Nat) (x : Tm) (H : Heap) (v : AV) (H' : Heap) : Prop :=
  ∃ N, ∀ n, N ≤ n → ∀ (R : Type) (k : AV → Heap → Option R), clV base (polT T) n (.yl idl) [eT x] H k = k v H'
end Go.Proofs.YtleikacgncpfbaaDoor

/- Terms: how many parts a term has. -/
set_option maxRecDepth 100000
set_option maxHeartbeats 2000000
namespace Go.Proofs.YtleikacgncpfbaaDoor
open Go Go.Den
noncomputable def pWalk : Pol := .prim (runF base [] 55)
noncomputable abbrev TTree1 : List (FuncId × Pol) := [(75, pParts)]
noncomputable def pWalkTree : Pol := .prim (runF base TTree1 77)
noncomputable def LDt (t : Tm) : LoopD := LD19 (eT t) (.int .i64 0) (.ptr 0 0 0 0) (eT t) (.fn (.func 77) [] [.ptr 1 0 0 0])
def InvT (t : Tm) (s : Nat) (H : Heap) : Prop := s ≤ 65536 ∧ H[0]? = some (.row 0 1 3 [.int .i64 (s : Int)]) ∧ H[2]? = some (.loop (LDt t))
def FinT (t : Tm) (s : Nat) (H : Heap) : Prop := s = 65537 ∧ H[0]? = some (.row 0 1 3 [.int .i64 (s : Int)]) ∧ H[2]? = some (.loop { LDt t with state := 2, pending := some (.exit 0) })
end Go.Proofs.YtleikacgncpfbaaDoor

/- Terms: how many parts a term has: the entry. -/
set_option maxRecDepth 100000
set_option maxHeartbeats 2000000
namespace Go.Proofs.YtleikacgncpfbaaDoor
open Go Go.Den
mutual
def szT : Tm → Nat
  | .mk k _ _ _ _ l _ => 1 + (if k = 4 ∨ k = 6 then szO l else 0)
def szO : Option (List Tm) → Nat
  | none => 0
  | some l => szs l
def szs : List Tm → Nat
  | [] => 0
  | t :: l => szT t + szs l
end
theorem szT_eq (t : Tm) : szT t = 1 + szs ((partsO t).getD []) := by
  cases t with
  | mk k x d s n l b =>
    rw [szT]
    unfold partsO Tm.kind Tm.l
    dsimp only
    split
    · cases l with
      | none => rw [szO]; rfl
      | some l => rw [szO]; rfl
    · rfl
noncomputable def pTree : Pol := .still (p1 cT (fun n : Nat => .int .i64 (n : Int)) (fun t => t.thin 1000) (fun t => min (szT t) 65537))
end Go.Proofs.YtleikacgncpfbaaDoor

/- Terms: how many words a term takes. -/
set_option maxRecDepth 100000
set_option maxHeartbeats 4000000
namespace Go.Proofs.YtleikacgncpfbaaDoor
open Go Go.Den
def wordsOne (x : Tm) : Nat :=
  if x.kind = 0 then (if (smallS (x.neg, x.d)).2 then 0 else 1 + ((normS (false, x.d)).2.getD []).length)
  else if x.kind = 6 then 1 + x.kids.length else if x.kind = 4 then 1 + x.kids.length else if x.kind = 7 then 4 else 0
noncomputable abbrev TWords1 : List (FuncId × Pol) := [(75, pParts), (58, pSmall), (59, pNorm)]
noncomputable def pWalkWords : Pol := .prim (runF base TWords1 77)
noncomputable def LDw (t : Tm) : LoopD := LD21 (eT t) (.int .i64 0) (.ptr 0 0 0 0) (eT t) (.fn (.func 77) [] [.ptr 1 0 0 0])
def okW (s : Nat × Nat) (x : Tm) : Bool := decide ((x.d.getD []).length ≤ 1000000) && decide (x.kids.length ≤ 1000) && decide (s.1 < 65537)
def InvW (t : Tm) (s : Nat × Nat) (H : Heap) : Prop := s.2 ≤ s.1 * 1000002 ∧ s.1 ≤ 65537 ∧ H[0]? = some (.row 0 1 3 [.int .i64 (s.2 : Int)]) ∧ H[2]? = some (.loop (LDw t))
end Go.Proofs.YtleikacgncpfbaaDoor

/- Terms: how many words a term takes: the entry. -/
set_option maxRecDepth 100000
set_option maxHeartbeats 4000000
namespace Go.Proofs.YtleikacgncpfbaaDoor
open Go Go.Den
mutual
def wT : Tm → Nat
  | .mk k x d s n l b => wordsOne (.mk k x d s n l b) + (if k = 4 ∨ k = 6 then wTo l else 0)
def wTo : Option (List Tm) → Nat
  | none => 0
  | some l => wTs l
def wTs : List Tm → Nat
  | [] => 0
  | t :: l => wT t + wTs l
end
noncomputable def pWords : Pol := .still (p1 cT (fun n : Nat => .int .i64 (n : Int)) (fun t => t.thin 1000 ∧ t.fewd ∧ szT t ≤ 65536) wT)
end Go.Proofs.YtleikacgncpfbaaDoor

/- Terms: numbers as terms, more. -/
set_option maxRecDepth 100000
set_option maxHeartbeats 2000000
namespace Go.Proofs.YtleikacgncpfbaaDoor
open Go Go.Den
def intT (a : Nm) : Tm := .mk 0 a.1 a.2 [] 0 none none
noncomputable def pTnum : Pol := .still (p1 cN eT (fun a => few a.2) fun a => intT (normS a))
noncomputable def pTint : Pol := .still (p1 (cI .i64) eT (fun n => -9223372036854775808 ≤ n ∧ n ≤ 9223372036854775807) fun n => intT (normS (ofS n)))
end Go.Proofs.YtleikacgncpfbaaDoor

/- Terms: the number that a term is. -/
set_option maxRecDepth 100000
set_option maxHeartbeats 2000000
namespace Go.Proofs.YtleikacgncpfbaaDoor
open Go Go.Den
def numOf (t : Tm) : Nm × Bool := if t.kind = 0 then (normS (t.neg, t.d), true) else ((false, none), false)
noncomputable def pTof : Pol := .still (p1 cT (fun r : Nm × Bool => .tup [eN r.1, .bool r.2]) (fun t => few t.d) numOf)
end Go.Proofs.YtleikacgncpfbaaDoor

/- Terms: may a number be one? -/
set_option maxRecDepth 100000
set_option maxHeartbeats 2000000
namespace Go.Proofs.YtleikacgncpfbaaDoor
open Go Go.Den
def isI (t : Tm) : Prop := ∃ a, t = intT a
noncomputable def pSpareI : Pol := .still (p1 cT .bool isI fun _ => true)
end Go.Proofs.YtleikacgncpfbaaDoor

/- Terms: a number in its plain form may be one. -/
set_option maxRecDepth 100000
set_option maxHeartbeats 2000000
namespace Go.Proofs.YtleikacgncpfbaaDoor
open Go Go.Den
def plainI (t : Tm) : Prop := ∃ a z, t = intT a ∧ Rep a z ∧ (a.2.getD []).length ≤ 64
noncomputable def pOneI : Pol := .still (p1 cT .bool plainI fun _ => true)
end Go.Proofs.YtleikacgncpfbaaDoor

/- Terms: what one is that may be, in plain words. -/
set_option maxRecDepth 100000
set_option maxHeartbeats 2000000
namespace Go.Proofs.YtleikacgncpfbaaDoor
open Go Go.Den
mutual
def evT (p : Tm → Prop) : Tm → Prop
  | .mk k x d s n l b => p (.mk k x d s n l b) ∧ evTo p l
def evTo (p : Tm → Prop) : Option (List Tm) → Prop
  | none => True
  | some l => evTs p l
def evTs (p : Tm → Prop) : List Tm → Prop
  | [] => True
  | t :: l => evT p t ∧ evTs p l
end
theorem qem {p : Tm → Prop} : ∀ {l : List Tm}, evTs p l ↔ ∀ u ∈ l, evT p u
  | [] => by simp [evTs]
  | t :: l => by rw [evTs, qem (l := l)]; simp
theorem qel {p : Tm → Prop} {t : Tm} : evT p t ↔ p t ∧ ∀ u ∈ t.kids, evT p u := by
  cases t with
  | mk k x d s n l b =>
    rw [evT]
    cases l with
    | none => rw [evTo]; simp [Tm.kids, Tm.l]
    | some l => rw [evTo, qem]; rfl
theorem q72 {P : Tm → Prop} (h : ∀ t, (∀ u ∈ t.kids, P u) → P t) (t : Tm) : P t := by
  have : ∀ n, ∀ t : Tm, t.size ≤ n → P t := by
    intro n
    induction n with
    | zero =>
      intro t ht
      have := t.size_eq
      omega
    | succ n ih =>
      intro t ht
      exact h t fun u hu => ih u (by have := Tm.size_kid hu; omega)
  exact this t.size t (Nat.le_refl _)
def tameOne (u : Tm) : Prop := (u.d.getD []).length ≤ 1000000 ∧ u.name.length ≤ 1000000 ∧ u.kids.length ≤ 1000
def tame (t : Tm) : Prop := evT tameOne t
theorem tame_eq {t : Tm} : tame t ↔ tameOne t ∧ ∀ u ∈ t.kids, tame u := qel
theorem tame_thin : ∀ t, tame t → t.thin 1000 := q72 fun t ih h => by
  rw [tame_eq] at h
  exact Tm.thin_eq.2 ⟨h.1.2.2, fun u hu => ih u hu (h.2 u hu)⟩
theorem q8i {most : Int} (hm : most ≤ 1000) : ∀ t dep, roomS t dep most = true → tame t := fun t => q72 (P := fun t => ∀ dep, roomS t dep most = true → tame t) (fun t ih dep h => by
  rw [q49] at h
  simp only [Bool.and_eq_true, Bool.not_eq_true', Bool.or_eq_false_iff, decide_eq_false_iff_not, List.all_eq_true] at h
  obtain ⟨⟨⟨⟨⟨h1, h2⟩, h3⟩, h4⟩, h5⟩, h6⟩ := h
  exact tame_eq.2 ⟨⟨by omega, by omega, by omega⟩, fun u hu => ih u hu _ (h6 u hu)⟩) t
def spareS (t : Tm) : Bool :=
  (decide (t.kind = 0) || (!t.neg && decide ((t.d.getD []).length = 0))) && ((decide (t.kind = 3) || decide (t.kind = 2)) || decide (t.n = 0)) && ((decide (t.kind = 4) || decide (t.kind = 6)) || decide (t.kids.length = 0)) && (decide (t.kind = 1) || decide (t.name = [])) && (decide (t.kind = 7) || decide ((t.b.getD []).length = 0))
def plainN (neg : Bool) (d : List UInt32) : Bool := match d.getLast? with
  | none => !neg
  | some x => decide (x ≠ 0)
def oneS (cnt : List UInt8 → Int) (t : Tm) : Bool := spareS t && (
  if t.kind = 0 then decide ((t.d.getD []).length ≤ 64) && plainN t.neg (t.d.getD [])
  else if t.kind = 1 then decide (0 ≤ cnt t.name) && decide (cnt t.name ≤ 255)
  else if t.kind = 2 ∨ t.kind = 3 then decide (0 ≤ t.n) && decide (t.n ≤ 1073741824)
  else if t.kind = 4 then decide (t.kids.length ≤ 255)
  else if t.kind = 6 then decide (t.kids.length = 2)
  else if t.kind = 7 then decide ((t.b.getD []).length ≤ 4096)
  else decide (t.kind = 5))
mutual
def mayT (cnt : List UInt8 → Int) : Tm → Bool
  | .mk k x d s n l b => oneS cnt (.mk k x d s n l b) && (if k = 4 ∨ k = 6 then mayTo cnt l else true)
def mayTo (cnt : List UInt8 → Int) : Option (List Tm) → Bool
  | none => true
  | some l => mayTs cnt l
def mayTs (cnt : List UInt8 → Int) : List Tm → Bool
  | [] => true
  | t :: l => mayT cnt t && mayTs cnt l
end
theorem qc9 {cnt : List UInt8 → Int} : ∀ l : List Tm, mayTs cnt l = l.all (mayT cnt)
  | [] => by simp [mayTs]
  | t :: l => by rw [mayTs, qc9 l]; rfl
theorem q4q {cnt : List UInt8 → Int} (t : Tm) : mayT cnt t = (oneS cnt t && ((partsO t).getD []).all (mayT cnt)) := by
  cases t with
  | mk k x d s n l b =>
    rw [mayT]
    unfold partsO Tm.kind Tm.l
    dsimp only
    split
    · cases l with
      | none => rw [mayTo]; rfl
      | some l => rw [mayTo, qc9]; rfl
    · rfl
theorem lim_ends {n : Nat} {x : UInt32} (h : (lim n).getLast? = some x) : x ≠ 0 := by
  by_cases hn : n = 0
  · subst hn
    rw [q0v] at h
    cases h
  · obtain ⟨y, hy, h0⟩ := lim_last hn
    rw [h] at hy
    injection hy with hy
    rw [hy]
    exact h0
theorem q31 {neg : Bool} {d : Option (List UInt32)} : sameS (neg, d) (rnormS (neg, d)) = plainN neg (d.getD []) := by
  have hg : ∀ l : List UInt32, (nz l).getD [] = l := fun l => by cases l <;> rfl
  unfold sameS rnormS plainN
  dsimp only
  rw [hg]
  generalize d.getD [] = l
  cases h : l.getLast? with
  | none =>
    have : l = [] := List.getLast?_eq_none_iff.1 h
    subst this
    simp [val, q0v]
  | some x =>
    dsimp only
    by_cases hx : x = 0
    · have hne : ¬ l = lim (val l) := fun e => by
        rw [e] at h
        exact lim_ends h hx
      simp [hx, hne]
    · have e : lim (val l) = l := q6z (fun y hy => by
        rw [h] at hy
        injection hy with hy
        rw [← hy]
        exact hx)
      have hl : 0 < l.length := by
        cases l with
        | nil => cases h
        | cons => simp
      rw [e]
      simp [hx, hl]
end Go.Proofs.YtleikacgncpfbaaDoor

/- Terms: whether the fields that a kind does not use are zero. -/
set_option maxRecDepth 100000
set_option maxHeartbeats 4000000
namespace Go.Proofs.YtleikacgncpfbaaDoor
open Go Go.Den
noncomputable def pSpare : Pol := .still (p1 cT .bool (fun _ => True) spareS)
end Go.Proofs.YtleikacgncpfbaaDoor

/- Texts: bits; eight bytes as a word; the tables of what begins a sign. -/
set_option maxRecDepth 100000
set_option maxHeartbeats 4000000
namespace Go.Proofs.YtleikacgncpfbaaDoor
open Go Go.Den Go.Lib
/-! ### bits -/
def andI (k : IntKind) (a b : Int) : Int := k.wrap ((BitVec.ofInt k.bits a &&& BitVec.ofInt k.bits b).toNat : Int)
def orI (k : IntKind) (a b : Int) : Int := k.wrap ((BitVec.ofInt k.bits a ||| BitVec.ofInt k.bits b).toNat : Int)
theorem q0o {P : Program} {t : TypeId} {k : IntKind} {a b : Int} {c : Bool} {H : Heap} : A.bin P .and t (.int k a) (.int k b) c H = some (.int k (andI k a b)) := by
  simp [A.bin, A.binInt, A.bits, andI]
theorem q9z {P : Program} {t : TypeId} {k : IntKind} {a b : Int} {c : Bool} {H : Heap} : A.bin P .or t (.int k a) (.int k b) c H = some (.int k (orI k a b)) := by
  simp [A.bin, A.binInt, A.bits, orI]
theorem q7i {a b : Nat} (ha : a < 18446744073709551616) (hb : b < 18446744073709551616) : andI .u64 (a : Int) (b : Int) = ((a &&& b : Nat) : Int) := by
  unfold andI
  rw [show IntKind.bits .u64 = 64 from rfl, BitVec.toNat_and]
  simp
  rw [Nat.mod_eq_of_lt ha, Nat.mod_eq_of_lt hb]
  have := Nat.and_le_left (n := a) (m := b)
  exact q4e (by omega) (by omega)
theorem qf2 {a b : Nat} (ha : a < 18446744073709551616) (hb : b < 18446744073709551616) : orI .u64 (a : Int) (b : Int) = ((a ||| b : Nat) : Int) := by
  unfold orI
  rw [show IntKind.bits .u64 = 64 from rfl, BitVec.toNat_or]
  simp
  rw [Nat.mod_eq_of_lt ha, Nat.mod_eq_of_lt hb]
  have : a ||| b < 2 ^ 64 := Nat.or_lt_two_pow (by simpa using ha) (by simpa using hb)
  exact q4e (by omega) (by omega)
theorem wrap_u8n {a : Nat} (h : a < 256) : IntKind.wrap .u8 (a : Int) = a := by
  simp [IntKind.wrap, IntKind.bits, IntKind.signed]
  omega
theorem andI_8 {a b : Nat} (ha : a < 256) (hb : b < 256) : andI .u8 (a : Int) (b : Int) = ((a &&& b : Nat) : Int) := by
  unfold andI
  rw [show IntKind.bits .u8 = 8 from rfl, BitVec.toNat_and]
  simp
  rw [Nat.mod_eq_of_lt ha, Nat.mod_eq_of_lt hb]
  have := Nat.and_le_left (n := a) (m := b)
  exact wrap_u8n (by omega)
theorem andI_7 {a : Nat} (ha : a < 256) : andI .u8 (a : Int) 7 = ((a % 8 : Nat) : Int) := by
  have := andI_8 (b := 7) ha (by omega)
  rw [Nat.and_two_pow_sub_one_eq_mod a 3] at this
  exact this
/-! ### texts -/
theorem q1a {s : List UInt8} {i : Nat} {k : IntKind} (h : i ≤ s.length) : A.sliceStr (.str s) (some (.int k (i : Int))) none = some (.str (s.drop i)) := by
  have e : (s.drop i).take (s.length - i) = s.drop i := List.take_of_length_le (by simp)
  simp [A.sliceStr, A.bound, h, e]
theorem q4o {s : List UInt8} : A.lenStr (.str s) = some (.int .i64 (s.length : Int)) := rfl
theorem qac {s : List UInt8} {i : Nat} {k : IntKind} (h : i < s.length) : A.index (.str s) (.int k (i : Int)) = some (.int .u8 ((s.getD i 0).toNat : Int)) := by
  simp [A.index, h]
theorem cv_8_64 (n : Int) (j : IntKind) : Go.Den.convert base 5 82 (.int j n) = some (.int .u64 (IntKind.wrap .u64 n)) := q54 (x := .int .u8) (by kernel_rfl) (by kernel_rfl)
theorem q0t (n : Int) (j : IntKind) : Go.Den.convert base 5 3 (.int j n) = some (.int .i64 (IntKind.wrap .i64 n)) := q54 (x := .int .u8) (by kernel_rfl) (by kernel_rfl)
/-! ### eight bytes as a word -/
def wordN (s : List UInt8) : Nat := leNat (s.take 8)
theorem q3h (s : List UInt8) : wordN s < 18446744073709551616 := by
  have := leNat_lt (s.take 8)
  have h2 : (256 : Nat) ^ (s.take 8).length ≤ 256 ^ 8 := Nat.pow_le_pow_right (by omega) (by simp; omega)
  unfold wordN
  omega
noncomputable def pWord : Pol := .still (p1 cS (.int .u64) (fun s => 8 ≤ s.length) (fun s => (wordN s : Int)))
theorem kWord {R : Type} {s : List UInt8} (h : 8 ≤ s.length) {H : Heap} {k : AV → Heap → Option R} : polK pWord [.str s] H k = k (.int .u64 (wordN s : Nat)) H := by
  simp [pWord, q0i, h]
theorem okWord : PolOK base 106 pWord := still1 base_ok [] trivial fun s h => Evs.of fun n _ => by
  obtain ⟨c0, c1, c2, c3, c4, c5, c6, c7, r, rfl⟩ : ∃ c0 c1 c2 c3 c4 c5 c6 c7 r, s = c0 :: c1 :: c2 :: c3 :: c4 :: c5 :: c6 :: c7 :: r := by
    match s, h with
    | c0 :: c1 :: c2 :: c3 :: c4 :: c5 :: c6 :: c7 :: r, _ => exact ⟨c0, c1, c2, c3, c4, c5, c6, c7, r, rfl⟩
  have x0 : A.index (.str (c0 :: c1 :: c2 :: c3 :: c4 :: c5 :: c6 :: c7 :: r)) (.int .i64 0) = some (.int .u8 (c0.toNat : Int)) := rfl
  have x1 : A.index (.str (c0 :: c1 :: c2 :: c3 :: c4 :: c5 :: c6 :: c7 :: r)) (.int .i64 1) = some (.int .u8 (c1.toNat : Int)) := rfl
  have x2 : A.index (.str (c0 :: c1 :: c2 :: c3 :: c4 :: c5 :: c6 :: c7 :: r)) (.int .i64 2) = some (.int .u8 (c2.toNat : Int)) := rfl
  have x3 : A.index (.str (c0 :: c1 :: c2 :: c3 :: c4 :: c5 :: c6 :: c7 :: r)) (.int .i64 3) = some (.int .u8 (c3.toNat : Int)) := rfl
  have x4 : A.index (.str (c0 :: c1 :: c2 :: c3 :: c4 :: c5 :: c6 :: c7 :: r)) (.int .i64 4) = some (.int .u8 (c4.toNat : Int)) := rfl
  have x5 : A.index (.str (c0 :: c1 :: c2 :: c3 :: c4 :: c5 :: c6 :: c7 :: r)) (.int .i64 5) = some (.int .u8 (c5.toNat : Int)) := rfl
  have x6 : A.index (.str (c0 :: c1 :: c2 :: c3 :: c4 :: c5 :: c6 :: c7 :: r)) (.int .i64 6) = some (.int .u8 (c6.toNat : Int)) := rfl
  have x7 : A.index (.str (c0 :: c1 :: c2 :: c3 :: c4 :: c5 :: c6 :: c7 :: r)) (.int .i64 7) = some (.int .u8 (c7.toNat : Int)) := rfl
  have hw : wordN (c0 :: c1 :: c2 :: c3 :: c4 :: c5 :: c6 :: c7 :: r) = c0.toNat + 2 ^ 8 * c1.toNat + 2 ^ 16 * c2.toNat + 2 ^ 24 * c3.toNat + 2 ^ 32 * c4.toNat + 2 ^ 40 * c5.toNat + 2 ^ 48 * c6.toNat + 2 ^ 56 * c7.toNat := by
    simp only [wordN, List.take_succ_cons, List.take_zero, leNat]
    omega
  have l0 := c0.toNat_lt
  have l1 := c1.toNat_lt
  have l2 := c2.toNat_lt
  have l3 := c3.toNat_lt
  have l4 := c4.toNat_lt
  have l5 := c5.toNat_lt
  have l6 := c6.toNat_lt
  have l7 := c7.toNat_lt
  rw [hw]
  simp only [enc_cS]
  generalize (c0 :: c1 :: c2 :: c3 :: c4 :: c5 :: c6 :: c7 :: r) = s at *
  generalize c0.toNat = b0 at *
  generalize c1.toNat = b1 at *
  generalize c2.toNat = b2 at *
  generalize c3.toNat = b3 at *
  generalize c4.toNat = b4 at *
  generalize c5.toNat = b5 at *
  generalize c6.toNat = b6 at *
  generalize c7.toNat = b7 at *
  have w : ∀ b : Nat, b < 256 → IntKind.wrap .u64 (b : Int) = b := fun b hb => q4e (by omega) (by omega)
  have s1 : ∀ H, A.bin base.P .shl 82 (.int .u64 (b1 : Int)) (.int .u64 8) true H = some (.int .u64 ((2 ^ 8 * b1 : Nat) : Int)) := fun H => q4u (s := 8) (by omega) (by omega)
  have s2 : ∀ H, A.bin base.P .shl 82 (.int .u64 (b2 : Int)) (.int .u64 16) true H = some (.int .u64 ((2 ^ 16 * b2 : Nat) : Int)) := fun H => q4u (s := 16) (by omega) (by omega)
  have s3 : ∀ H, A.bin base.P .shl 82 (.int .u64 (b3 : Int)) (.int .u64 24) true H = some (.int .u64 ((2 ^ 24 * b3 : Nat) : Int)) := fun H => q4u (s := 24) (by omega) (by omega)
  have s4 : ∀ H, A.bin base.P .shl 82 (.int .u64 (b4 : Int)) (.int .u64 32) true H = some (.int .u64 ((2 ^ 32 * b4 : Nat) : Int)) := fun H => q4u (s := 32) (by omega) (by omega)
  have s5 : ∀ H, A.bin base.P .shl 82 (.int .u64 (b5 : Int)) (.int .u64 40) true H = some (.int .u64 ((2 ^ 40 * b5 : Nat) : Int)) := fun H => q4u (s := 40) (by omega) (by omega)
  have s6 : ∀ H, A.bin base.P .shl 82 (.int .u64 (b6 : Int)) (.int .u64 48) true H = some (.int .u64 ((2 ^ 48 * b6 : Nat) : Int)) := fun H => q4u (s := 48) (by omega) (by omega)
  have s7 : ∀ H, A.bin base.P .shl 82 (.int .u64 (b7 : Int)) (.int .u64 56) true H = some (.int .u64 ((2 ^ 56 * b7 : Nat) : Int)) := fun H => q4u (s := 56) (by omega) (by omega)
  have o1 := fun H => (q8e (x := b0) (y := b1) (s := 8) (by omega) (by omega) (P := base.P) (t := 82) (c := false) (H := H)).1
  have o2 := fun H => (q8e (x := b0 + 2 ^ 8 * b1) (y := b2) (s := 16) (by omega) (by omega) (P := base.P) (t := 82) (c := false) (H := H)).1
  have o3 := fun H => (q8e (x := b0 + 2 ^ 8 * b1 + 2 ^ 16 * b2) (y := b3) (s := 24) (by omega) (by omega) (P := base.P) (t := 82) (c := false) (H := H)).1
  have o4 := fun H => (q8e (x := b0 + 2 ^ 8 * b1 + 2 ^ 16 * b2 + 2 ^ 24 * b3) (y := b4) (s := 32) (by omega) (by omega) (P := base.P) (t := 82) (c := false) (H := H)).1
  have o5 := fun H => (q8e (x := b0 + 2 ^ 8 * b1 + 2 ^ 16 * b2 + 2 ^ 24 * b3 + 2 ^ 32 * b4) (y := b5) (s := 40) (by omega) (by omega) (P := base.P) (t := 82) (c := false) (H := H)).1
  have o6 := fun H => (q8e (x := b0 + 2 ^ 8 * b1 + 2 ^ 16 * b2 + 2 ^ 24 * b3 + 2 ^ 32 * b4 + 2 ^ 40 * b5) (y := b6) (s := 48) (by omega) (by omega) (P := base.P) (t := 82) (c := false) (H := H)).1
  have o7 := fun H => (q8e (x := b0 + 2 ^ 8 * b1 + 2 ^ 16 * b2 + 2 ^ 24 * b3 + 2 ^ 32 * b4 + 2 ^ 40 * b5 + 2 ^ 48 * b6) (y := b7) (s := 56) (by omega) (by omega) (P := base.P) (t := 82) (c := false) (H := H)).1
  clear hw
  generalize hv1 : b0 + 2 ^ 8 * b1 = v1 at *
  generalize hv2 : v1 + 2 ^ 16 * b2 = v2 at *
  generalize hv3 : v2 + 2 ^ 24 * b3 = v3 at *
  generalize hv4 : v3 + 2 ^ 32 * b4 = v4 at *
  generalize hv5 : v4 + 2 ^ 40 * b5 = v5 at *
  generalize hv6 : v5 + 2 ^ 48 * b6 = v6 at *
  generalize hv7 : v6 + 2 ^ 56 * b7 = v7 at *
  generalize 2 ^ 8 * b1 = y1 at *
  generalize 2 ^ 16 * b2 = y2 at *
  generalize 2 ^ 24 * b3 = y3 at *
  generalize 2 ^ 32 * b4 = y4 at *
  generalize 2 ^ 40 * b5 = y5 at *
  generalize 2 ^ 48 * b6 = y6 at *
  generalize 2 ^ 56 * b7 = y7 at *
  have w0 := w b0 l0
  have w1 := w b1 l1
  have w2 := w b2 l2
  have w3 := w b3 l3
  have w4 := w b4 l4
  have w5 := w b5 l5
  have w6 := w b6 l6
  have w7 := w b7 l7
  simp [↓q00, ↓q01, S106, x0, x1, x2, x3, x4, x5, x6, x7, cv_8_64, w0, w1, w2, w3, w4, w5, w6, w7, s1, s2, s3, s4, s5, s6, s7, o1, o2, o3, o4, o5, o6, o7]
theorem q8r (s : List UInt8) (h : 8 ≤ s.length) : andI .u64 (wordN s : Nat) 9259542123273814144 = 0 ↔ ∀ b ∈ s.take 8, b.toNat < 128 := by
  have e := q7i (a := wordN s) (b := 9259542123273814144) (q3h s) (by omega)
  have hl : (s.take 8).length = 8 := by simp; omega
  have hm := leNat_mask (s.take 8)
  rw [hl, maskN8] at hm
  have e' : andI .u64 (wordN s : Nat) 9259542123273814144 = ((wordN s &&& 9259542123273814144 : Nat) : Int) := e
  rw [e', ← hm]
  unfold wordN
  omega
theorem qgm (s t : List UInt8) (h : 8 ≤ s.length) (g : 8 ≤ t.length) : andI .u64 (orI .u64 (wordN s : Nat) (wordN t : Nat)) 9259542123273814144 = 0 ↔ (∀ b ∈ s.take 8, b.toNat < 128) ∧ ∀ b ∈ t.take 8, b.toNat < 128 := by
  have ls := q3h s
  have lt := q3h t
  have lo : wordN s ||| wordN t < 2 ^ 64 := Nat.or_lt_two_pow (by simpa using ls) (by simpa using lt)
  have e : andI .u64 ((wordN s ||| wordN t : Nat) : Int) 9259542123273814144 = (((wordN s ||| wordN t) &&& 9259542123273814144 : Nat) : Int) := q7i (b := 9259542123273814144) (by omega) (by omega)
  have e1 : andI .u64 ((wordN s : Nat) : Int) 9259542123273814144 = ((wordN s &&& 9259542123273814144 : Nat) : Int) := q7i (b := 9259542123273814144) ls (by omega)
  have e2 : andI .u64 ((wordN t : Nat) : Int) 9259542123273814144 = ((wordN t &&& 9259542123273814144 : Nat) : Int) := q7i (b := 9259542123273814144) lt (by omega)
  rw [qf2 ls lt, e, ← q8r s h, ← q8r t g, e1, e2]
  have := or_mask (wordN s) (wordN t) 9259542123273814144
  omega
/-! ### the tables -/
theorem qhb : (base.glob 0).getD [] = (List.range 256).map fun i => AV.int .u8 (firstT i : Nat) := by kernel_rfl
theorem acc_all : (base.glob 1).getD [] = (List.range 16).flatMap fun i => [AV.int .u8 (accLo i : Nat), AV.int .u8 (accHi i : Nat)] := by kernel_rfl
theorem first_at (z : Nat) (h1 : z < 256) : ∃ p : AV, ∀ H, A.idxArr 1 256 (globV base 0) (.int .u8 (z : Int)) H = some p ∧ A.load false 1 p H = some (.int .u8 (firstT z : Nat)) := by
  unfold globV
  rw [qhb]
  generalize hcs : (List.range 256).map (fun i => AV.int .u8 (firstT i : Nat)) = cs
  have hg : cs[z]? = some (.int .u8 (firstT z : Nat)) := by rw [← hcs]; simp [h1]
  refine ⟨.rop (cs.drop z), fun H => ⟨?_, ?_⟩⟩
  · have : 0 ≤ (z : Int) ∧ (z : Int) < ((256 : Nat) : Int) := ⟨by omega, by omega⟩
    show (if 0 ≤ (z : Int) ∧ (z : Int) < ((256 : Nat) : Int) then A.fa ((z : Int).toNat * 1) (.rop cs) H else none) = _
    rw [if_pos this, Nat.mul_one]
    rfl
  · show A.ofList false 1 (cs.drop z) 0 = _
    simp [A.ofList, hg]
theorem acc_at (z : Nat) (h1 : z < 16) : ∃ p : AV, ∀ H, A.idxArr 2 16 (globV base 1) (.int .u8 (z : Int)) H = some p ∧ A.load true 2 p H = some (.agg [.int .u8 (accLo z : Nat), .int .u8 (accHi z : Nat)]) := by
  unfold globV
  rw [acc_all]
  generalize hcs : (List.range 16).flatMap (fun i => [AV.int .u8 (accLo i : Nat), AV.int .u8 (accHi i : Nat)]) = cs
  have hg : A.ofList true 2 (cs.drop (z * 2)) 0 = some (.agg [.int .u8 (accLo z : Nat), .int .u8 (accHi z : Nat)]) := by
    rw [← hcs]
    have hz : z = 0 ∨ z = 1 ∨ z = 2 ∨ z = 3 ∨ z = 4 ∨ z = 5 ∨ z = 6 ∨ z = 7 ∨ z = 8 ∨ z = 9 ∨ z = 10 ∨ z = 11 ∨ z = 12 ∨ z = 13 ∨ z = 14 ∨ z = 15 := by omega
    rcases hz with rfl | rfl | rfl | rfl | rfl | rfl | rfl | rfl | rfl | rfl | rfl | rfl | rfl | rfl | rfl | rfl <;> rfl
  refine ⟨.rop (cs.drop (z * 2)), fun H => ⟨?_, hg⟩⟩
  have : 0 ≤ (z : Int) ∧ (z : Int) < ((16 : Nat) : Int) := ⟨by omega, by omega⟩
  show (if 0 ≤ (z : Int) ∧ (z : Int) < ((16 : Nat) : Int) then A.fa ((z : Int).toNat * 2) (.rop cs) H else none) = _
  rw [if_pos this]
  rfl
theorem shr4 {P : Program} {t : TypeId} {j : IntKind} {a : Nat} {c : Bool} {H : Heap} : A.bin P .shr t (.int .u8 (a : Int)) (.int j 4) c H = some (.int .u8 ((a / 16 : Nat) : Int)) := by
  have : (a : Int).fdiv 16 = ((a / 16 : Nat) : Int) := by rw [Int.fdiv_eq_ediv_of_nonneg _ (by omega)]; rfl
  simp [A.bin, A.binInt, IntKind.bits, this]
theorem first_lt (z : Nat) : firstT z < 256 := by
  unfold firstT
  repeat' split
  all_goals omega
end Go.Proofs.YtleikacgncpfbaaDoor

/- Texts: is one well-formed: the loops. -/
set_option maxRecDepth 100000
set_option maxHeartbeats 4000000
namespace Go.Proofs.YtleikacgncpfbaaDoor
open Go Go.Den Go.Lib
noncomputable abbrev TVal : List (FuncId × Pol) := [(106, pWord)]
theorem q9x {s : List UInt8} {k : Nat} (h : ∀ b ∈ s.take k, b.toNat < 128) : validD s = validD (s.drop k) := validD_ascii k s h
theorem take_add {s : List UInt8} {a b : Nat} (h1 : ∀ x ∈ s.take a, x.toNat < 128) (h2 : ∀ x ∈ (s.drop a).take b, x.toNat < 128) : ∀ x ∈ s.take (a + b), x.toNat < 128 := fun x hx => by
  rw [List.take_add] at hx
  rcases List.mem_append.1 hx with h | h
  · exact h1 x h
  · exact h2 x h
theorem q9t : ∀ (N : Nat) (s : List UInt8), s.length ≤ N → ∀ H : Heap, ∃ s' : List UInt8, s'.length ≤ s.length ∧ validD s' = validD s ∧ LDoes (L99_1 (polT TVal)) ⟨[.str s], []⟩ H 0 ⟨[.str s'], []⟩ H
  | N, s, hN, H => by
    by_cases h : 32 < s.length
    · have hlt : (32 : Int) < (s.length : Int) := by omega
      have d8 := q1a (s := s) (k := .i64) (i := 8) (by omega)
      have d16 := q1a (s := s) (k := .i64) (i := 16) (by omega)
      have d24 := q1a (s := s) (k := .i64) (i := 24) (by omega)
      have d32 := q1a (s := s) (k := .i64) (i := 32) (by omega)
      have e8 : 8 ≤ s.length - 8 := by omega
      have e16 : 8 ≤ s.length - 16 := by omega
      have e24 : 8 ≤ s.length - 24 := by omega
      have e0 : 8 ≤ s.length := by omega
      have w0 : ∀ (R : Type) (H : Heap) (k : AV → Heap → Option R), polK pWord [.str s] H k = k (.int .u64 (wordN s : Nat)) H := fun R H k => kWord e0
      have w8 : ∀ (R : Type) (H : Heap) (k : AV → Heap → Option R), polK pWord [.str (s.drop 8)] H k = k (.int .u64 (wordN (s.drop 8) : Nat)) H := fun R H k => kWord (by simpa using e8)
      have w16 : ∀ (R : Type) (H : Heap) (k : AV → Heap → Option R), polK pWord [.str (s.drop 16)] H k = k (.int .u64 (wordN (s.drop 16) : Nat)) H := fun R H k => kWord (by simpa using e16)
      have w24 : ∀ (R : Type) (H : Heap) (k : AV → Heap → Option R), polK pWord [.str (s.drop 24)] H k = k (.int .u64 (wordN (s.drop 24) : Nat)) H := fun R H k => kWord (by simpa using e24)
      have hl : A.lenStr (.str s) = some (.int .i64 (s.length : Int)) := q4o
      have hm : andI .u64 (orI .u64 (orI .u64 (wordN s : Nat) (wordN (s.drop 8) : Nat)) (orI .u64 (wordN (s.drop 16) : Nat) (wordN (s.drop 24) : Nat))) 9259542123273814144 = 0 → ∀ x ∈ s.take 32, x.toNat < 128 := fun hc => by
        have n0 := q3h s
        have n8 := q3h (s.drop 8)
        have n16 := q3h (s.drop 16)
        have n24 := q3h (s.drop 24)
        have p1 : wordN s ||| wordN (s.drop 8) < 2 ^ 64 := Nat.or_lt_two_pow (by simpa using n0) (by simpa using n8)
        have p2 : wordN (s.drop 16) ||| wordN (s.drop 24) < 2 ^ 64 := Nat.or_lt_two_pow (by simpa using n16) (by simpa using n24)
        have p3 : (wordN s ||| wordN (s.drop 8)) ||| (wordN (s.drop 16) ||| wordN (s.drop 24)) < 2 ^ 64 := Nat.or_lt_two_pow p1 p2
        rw [qf2 n0 n8, qf2 n16 n24, qf2 (by omega) (by omega)] at hc
        have e := q7i (a := (wordN s ||| wordN (s.drop 8)) ||| (wordN (s.drop 16) ||| wordN (s.drop 24))) (b := 9259542123273814144) (by omega) (by omega)
        have e' : (((((wordN s ||| wordN (s.drop 8)) ||| (wordN (s.drop 16) ||| wordN (s.drop 24))) &&& 9259542123273814144 : Nat)) : Int) = 0 := e.symm.trans hc
        have hz : (((wordN s ||| wordN (s.drop 8)) ||| (wordN (s.drop 16) ||| wordN (s.drop 24))) &&& 9259542123273814144) = 0 := by omega
        rw [or_mask, or_mask, or_mask] at hz
        have mk : ∀ t : List UInt8, 8 ≤ t.length → wordN t &&& 9259542123273814144 = 0 → ∀ x ∈ t.take 8, x.toNat < 128 := fun t ht h => by
          have hl : (t.take 8).length = 8 := by simp; omega
          have := leNat_mask (t.take 8)
          rw [hl, maskN8] at this
          exact this.1 h
        have m0 := mk s e0 hz.1.1
        have m8 := mk (s.drop 8) (by simpa using e8) hz.1.2
        have m16 := mk (s.drop 16) (by simpa using e16) hz.2.1
        have m24 := mk (s.drop 24) (by simpa using e24) hz.2.2
        exact take_add (a := 24) (b := 8) (take_add (a := 16) (b := 8) (take_add (a := 8) (b := 8) m0 m8) m16) m24
      generalize ((wordN s : Nat) : Int) = a0 at *
      generalize ((wordN (s.drop 8) : Nat) : Int) = a8 at *
      generalize ((wordN (s.drop 16) : Nat) : Int) = a16 at *
      generalize ((wordN (s.drop 24) : Nat) : Int) = a24 at *
      simp only [Int.cast_ofNat_Int] at d8 d16 d24 d32
      by_cases hc : andI .u64 (orI .u64 (orI .u64 a0 a8) (orI .u64 a16 a24)) 9259542123273814144 = 0
      · match N with
        | 0 => omega
        | N + 1 =>
          obtain ⟨s', hs, hv, hL⟩ := q9t N (s.drop 32) (by simp; omega) H
          simp only [List.length_drop] at hs
          refine ⟨s', by omega, by rw [hv, ← q9x (hm hc)], LDoes.step (Evs.withL hL (Evs.of fun n m _ h2 => ?_))⟩
          generalize s.drop 8 = s8 at *
          generalize s.drop 16 = s16 at *
          generalize s.drop 24 = s24 at *
          generalize s.drop 32 = s32 at *
          generalize (s.length : Int) = N at *
          simp [↓q00, ↓q01, ↓q05, ↓q04, ↓q07, q60, hl, hlt, d8, d16, d24, d32, w0, w8, w16, w24, q9z, q0o, hc, AV.heapy, h2]
      · refine ⟨s, Nat.le_refl _, rfl, LDoes.step (Evs.of fun n m => ?_)⟩
        generalize s.drop 8 = s8 at *
        generalize s.drop 16 = s16 at *
        generalize s.drop 24 = s24 at *
        generalize s.drop 32 = s32 at *
        generalize (s.length : Int) = N at *
        simp [↓q00, ↓q01, ↓q05, ↓q04, ↓q07, q60, hl, hlt, d8, d16, d24, w0, w8, w16, w24, q9z, q0o, hc, AV.heapy]
    · have hlt : ¬ (32 : Int) < (s.length : Int) := by omega
      have hl : A.lenStr (.str s) = some (.int .i64 (s.length : Int)) := q4o
      generalize (s.length : Int) = N at *
      refine ⟨s, Nat.le_refl _, rfl, LDoes.step (Evs.of fun n m => ?_)⟩
      simp [↓q00, ↓q01, ↓q05, ↓q04, ↓q07, q60, hl, hlt, AV.heapy]
end Go.Proofs.YtleikacgncpfbaaDoor

/- Texts: is one well-formed: bytes below 128. -/
set_option maxRecDepth 100000
set_option maxHeartbeats 8000000
namespace Go.Proofs.YtleikacgncpfbaaDoor
open Go Go.Den Go.Lib
def q25 (s : List UInt8) : Prop := ∀ H : Heap, ∃ (H' : Heap), LDoes (L99_0 (polT TVal)) ⟨[.str s], []⟩ H (if validD s then 0 else 1) ⟨[if validD s then .undef else .bool false], []⟩ H'
theorem valid_nil : q25 [] := fun H => by
  have hl : A.lenStr (.str []) = some (.int .i64 0) := q4o
  exact ⟨H, LDoes.step (Evs.of fun n m => by simp [↓q00, ↓q01, q0f, hl, validD_nil])⟩
theorem qe9 (c : UInt8) (r : List UInt8) (hc : c.toNat < 128) (ih : ∀ s, s.length ≤ r.length → q25 s) : q25 (c :: r) := fun H => by
  have hl : A.lenStr (.str (c :: r)) = some (.int .i64 ((r.length + 1 : Nat) : Int)) := q4o
  have hp : (0 : Int) < ((r.length + 1 : Nat) : Int) := by omega
  have hx : A.index (.str (c :: r)) (.int .i64 0) = some (.int .u8 (c.toNat : Int)) := rfl
  have d1 : A.sliceStr (.str (c :: r)) (some (.int .i64 1)) none = some (.str r) := q1a (s := c :: r) (i := 1) (by simp)
  have hr : A.lenStr (.str r) = some (.int .i64 (r.length : Int)) := q4o
  have hz : (c.toNat : Int) < 128 := by omega
  have ih8 := ih (r.drop 8) (by simp)
  have ih24 : ∀ s', s'.length ≤ (r.drop 24).length → q25 s' := fun s' h => ih s' (by simp at h; omega)
  have ihr := ih r (Nat.le_refl _)
  have hvc : validD (c :: r) = validD r := validD_cons c r hc
  rw [hvc]
  clear hvc
  generalize ((r.length + 1 : Nat) : Int) = N1 at *
  generalize (c.toNat : Int) = z at *
  generalize c :: r = s at *
  by_cases h8 : 8 < r.length
  · have h8' : (8 : Int) < (r.length : Int) := by omega
    have d8 : A.sliceStr (.str r) (some (.int .i64 8)) none = some (.str (r.drop 8)) := q1a (s := r) (i := 8) (by omega)
    have w0 : ∀ (R : Type) (H : Heap) (k : AV → Heap → Option R), polK pWord [.str r] H k = k (.int .u64 (wordN r : Nat)) H := fun R H k => kWord (by omega)
    have hm8 := (q8r r (by omega)).1
    generalize ((wordN r : Nat) : Int) = a0 at *
    by_cases c0 : andI .u64 a0 9259542123273814144 = 0
    · have hv8 : validD r = validD (r.drop 8) := q9x (hm8 c0)
      rw [hv8]
      have hr8 : A.lenStr (.str (r.drop 8)) = some (.int .i64 ((r.length - 8 : Nat) : Int)) := by rw [q4o]; simp
      by_cases h16 : 16 < r.length - 8
      · have h16i : (16 : Int) < ((r.length - 8 : Nat) : Int) := by omega
        have d16 : A.sliceStr (.str (r.drop 8)) (some (.int .i64 8)) none = some (.str (r.drop 16)) := by
          have := q1a (s := r.drop 8) (k := .i64) (i := 8) (by simp; omega)
          rw [List.drop_drop] at this
          exact this
        have d24 : A.sliceStr (.str (r.drop 8)) (some (.int .i64 16)) none = some (.str (r.drop 24)) := by
          have := q1a (s := r.drop 8) (k := .i64) (i := 16) (by simp; omega)
          rw [List.drop_drop] at this
          exact this
        have w8 : ∀ (R : Type) (H : Heap) (k : AV → Heap → Option R), polK pWord [.str (r.drop 8)] H k = k (.int .u64 (wordN (r.drop 8) : Nat)) H := fun R H k => kWord (by simp; omega)
        have w16 : ∀ (R : Type) (H : Heap) (k : AV → Heap → Option R), polK pWord [.str (r.drop 16)] H k = k (.int .u64 (wordN (r.drop 16) : Nat)) H := fun R H k => kWord (by simp; omega)
        have hm16 := (qgm (r.drop 8) (r.drop 16) (by simp; omega) (by simp; omega)).1
        generalize ((wordN (r.drop 8) : Nat) : Int) = a8 at *
        generalize ((wordN (r.drop 16) : Nat) : Int) = a16 at *
        by_cases c1 : andI .u64 (orI .u64 a8 a16) 9259542123273814144 = 0
        · have h16' := hm16 c1
          have hd16 : (r.drop 8).drop 8 = r.drop 16 := by rw [List.drop_drop]
          have hv16 : validD (r.drop 8) = validD (r.drop 24) := by
            have := q9x (s := r.drop 8) (k := 8 + 8) (take_add h16'.1 (by rw [hd16]; exact h16'.2))
            rw [this, List.drop_drop]
          obtain ⟨s', hs', hvs, hL1⟩ := q9t _ (r.drop 24) (Nat.le_refl _) H
          rw [hv16, ← hvs]
          clear hv16 hd16
          obtain ⟨H', hL⟩ := ih24 s' hs' H
          refine ⟨H', LDoes.step (Evs.withL hL1 (Evs.withL hL (Evs.of fun n m _ h2 h3 _ => ?_)))⟩
          generalize r.drop 8 = r8 at *
          generalize r.drop 16 = r16 at *
          generalize r.drop 24 = r24 at *
          generalize (r.length : Int) = N at *
          generalize ((r.length - 8 : Nat) : Int) = N8 at *
          simp [↓q00, ↓q03, ↓q01, ↓q05, ↓q04, ↓q06, ↓q07, q0f, hl, hp, hx, hz, d1, hr, h8', d8, w0, q0o, c0, hr8, h16i, d16, w8, w16, q9z, c1, d24, AV.heapy, h2, h3]
        · obtain ⟨H', hL⟩ := ih8 H
          refine ⟨H', LDoes.step (Evs.withL hL (Evs.of fun n m _ h2 => ?_))⟩
          generalize r.drop 8 = r8 at *
          generalize r.drop 16 = r16 at *
          generalize (r.length : Int) = N at *
          generalize ((r.length - 8 : Nat) : Int) = N8 at *
          simp [↓q00, ↓q03, ↓q01, ↓q05, ↓q04, ↓q06, ↓q07, q0f, hl, hp, hx, hz, d1, hr, h8', d8, w0, q0o, c0, hr8, h16i, d16, w8, w16, q9z, c1, AV.heapy, h2]
      · have h16i : ¬ (16 : Int) < ((r.length - 8 : Nat) : Int) := by omega
        obtain ⟨H', hL⟩ := ih8 H
        refine ⟨H', LDoes.step (Evs.withL hL (Evs.of fun n m _ h2 => ?_))⟩
        generalize r.drop 8 = r8 at *
        generalize (r.length : Int) = N at *
        generalize ((r.length - 8 : Nat) : Int) = N8 at *
        simp [↓q00, ↓q03, ↓q01, ↓q05, ↓q04, ↓q06, ↓q07, q0f, hl, hp, hx, hz, d1, hr, h8', d8, w0, q0o, c0, hr8, h16i, AV.heapy, h2]
    · obtain ⟨H', hL⟩ := ihr H
      refine ⟨H', LDoes.step (Evs.withL hL (Evs.of fun n m _ h2 => ?_))⟩
      generalize (r.length : Int) = N at *
      simp [↓q00, ↓q03, ↓q01, ↓q05, ↓q04, ↓q06, q0f, hl, hp, hx, hz, d1, hr, h8', w0, q0o, c0, h2]
  · have h8' : ¬ (8 : Int) < (r.length : Int) := by omega
    obtain ⟨H', hL⟩ := ihr H
    refine ⟨H', LDoes.step (Evs.withL hL (Evs.of fun n m _ h2 => ?_))⟩
    generalize (r.length : Int) = N at *
    simp [↓q00, ↓q03, ↓q01, ↓q05, ↓q04, ↓q06, q0f, hl, hp, hx, hz, d1, hr, h8', h2]
end Go.Proofs.YtleikacgncpfbaaDoor

/- Texts: is one well-formed: signs of more bytes than one; the entry. -/
set_option maxRecDepth 100000
set_option maxHeartbeats 8000000
namespace Go.Proofs.YtleikacgncpfbaaDoor
open Go Go.Den Go.Lib
theorem qgk (s : List UInt8) (h0 : 0 < s.length) (hc : 128 ≤ (s.getD 0 0).toNat) (ih : ∀ s' : List UInt8, s'.length < s.length → q25 s') : q25 s := fun H => by
  have hne : s ≠ [] := fun e => by rw [e] at h0; simp at h0
  have hv := validD_lead s hne hc
  have hl : A.lenStr (.str s) = some (.int .i64 (s.length : Int)) := q4o
  have hx : A.index (.str s) (.int .i64 0) = some (.int .u8 ((s.getD 0 0).toNat : Int)) := qac (i := 0) h0
  have hx1 : 1 < s.length → A.index (.str s) (.int .i64 1) = some (.int .u8 ((s.getD 1 0).toNat : Int)) := fun h => qac (i := 1) h
  have hx2 : 2 < s.length → A.index (.str s) (.int .i64 2) = some (.int .u8 ((s.getD 2 0).toNat : Int)) := fun h => qac (i := 2) h
  have hx3 : 3 < s.length → A.index (.str s) (.int .i64 3) = some (.int .u8 ((s.getD 3 0).toNat : Int)) := fun h => qac (i := 3) h
  have hz1 : (s.getD 0 0).toNat < 256 := (s.getD 0 0).toNat_lt
  generalize (s.getD 0 0).toNat = z at *
  generalize (s.getD 1 0).toNat = z1 at *
  generalize (s.getD 2 0).toNat = z2 at *
  generalize (s.getD 3 0).toNat = z3 at *
  have hz : ¬ z < 128 := by omega
  have hzi : ¬ (z : Int) < 128 := by omega
  have hw2 : IntKind.wrap .i64 2 = 2 := rfl
  have hw3 : IntKind.wrap .i64 3 = 3 := rfl
  have hw4 : IntKind.wrap .i64 4 = 4 := rfl
  have h0i : (0 : Int) < (s.length : Int) := by omega
  obtain ⟨p0, hfirst⟩ := first_at z hz1
  have hx256 := first_lt z
  have h7 := andI_7 hx256
  obtain ⟨p1, hacc⟩ := acc_at (firstT z / 16) (by omega)
  have hf1 := fun H => (hfirst H).1
  have hf2 := fun H => (hfirst H).2
  have ha1 := fun H => (hacc H).1
  have ha2 := fun H => (hacc H).2
  have hshr : ∀ H, A.bin base.P .shr 5 (.int .u8 (firstT z : Nat)) (.int .u64 4) true H = some (.int .u8 ((firstT z / 16 : Nat) : Int)) := fun H => shr4
  have hy : IntKind.wrap .i64 ((firstT z % 8 : Nat) : Int) = ((firstT z % 8 : Nat) : Int) := q0h (by omega) (by omega)
  generalize accLo (firstT z / 16) = lo at *
  generalize accHi (firstT z / 16) = hi at *
  generalize firstT z / 16 = w at *
  generalize hyy : firstT z % 8 = y at *
  generalize firstT z = x at *
  have hst : A.store 2 (.ptr H.length 0 0 0) (.agg [.int .u8 (lo : Nat), .int .u8 (hi : Nat)]) (H ++ [.row 0 2 108 [.agg [.int .u8 0, .int .u8 0]]]) = some (H ++ [.row 0 2 108 [.agg [.int .u8 (lo : Nat), .int .u8 (hi : Nat)]]]) := by
    have hb : Go.Den.Box (H ++ [.row 0 2 108 [.agg [.int .u8 0, .int .u8 0]]]) H.length 2 108 [.int .u8 0, .int .u8 0] := q1e
    have := q7l (ds := [.int .u8 (lo : Nat), .int .u8 (hi : Nat)]) hb rfl rfl (by simp)
    rw [this]
    simp
  have hB : Go.Den.Box (H ++ [.row 0 2 108 [.agg [.int .u8 (lo : Nat), .int .u8 (hi : Nat)]]]) H.length 2 108 [.int .u8 (lo : Nat), .int .u8 (hi : Nat)] := q1e
  have fa := fun o => hB.fa (o := o)
  have ld0 := hB.load (o := 0)
  have ld1 := hB.load (o := 1)
  have fa0 := fa 0
  have fa1 := fa 1
  simp only [List.getElem?_cons_succ, List.getElem?_cons_zero] at ld0 ld1
  generalize H ++ [.row 0 2 108 [.agg [.int .u8 (lo : Nat), .int .u8 (hi : Nat)]]] = Hx at *
  by_cases y2 : y = 2
  case pos =>
    by_cases hk : s.length < 2
    case pos =>
      have hki : (s.length : Int) < (2 : Int) := by omega
      have e : validD s = false := by rw [hv]; simp [checkN, y2, hk]
      rw [e]
      exact ⟨Hx, LDoes.step (Evs.of fun n m => by simp [↓q00, ↓q03, ↓q09, ↓q01, ↓q05, ↓q0g, ↓q04, ↓q06, q0f, hl, h0, hx, hzi, hf1, hf2, q0o, h7, q0t, hw2, hshr, ha1, ha2, hst, fa0, fa1, y2, hki])⟩
    have hki : ¬ (s.length : Int) < (2 : Int) := by omega
    have dk := q1a (s := s) (k := .i64) (i := 2) (by omega)
    have i1 := hx1 (by omega)
    simp only [Int.cast_ofNat_Int] at dk
    by_cases a1 : z1 < lo
    case pos =>
      have a1i : (z1 : Int) < (lo : Int) := by omega
      have e : validD s = false := by rw [hv]; simp [checkN, y2, hk, a1]
      rw [e]
      exact ⟨Hx, LDoes.step (Evs.of fun n m => by simp [↓q00, ↓q03, ↓q09, ↓q01, ↓q05, ↓q0g, ↓q04, ↓q06, q0f, hl, h0, hx, hzi, hf1, hf2, q0o, h7, q0t, hw2, hshr, ha1, ha2, hst, fa0, fa1, ld0, y2, hki, i1, a1i])⟩
    have a1i : ¬ (z1 : Int) < (lo : Int) := by omega
    by_cases b1 : hi < z1
    case pos =>
      have b1i : (hi : Int) < (z1 : Int) := by omega
      have e : validD s = false := by rw [hv]; simp [checkN, y2, hk, a1, b1]
      rw [e]
      exact ⟨Hx, LDoes.step (Evs.of fun n m => by simp [↓q00, ↓q03, ↓q09, ↓q01, ↓q05, ↓q0g, ↓q04, ↓q06, q0f, hl, h0, hx, hzi, hf1, hf2, q0o, h7, q0t, hw2, hshr, ha1, ha2, hst, fa0, fa1, ld0, ld1, y2, hki, i1, a1i, b1i])⟩
    have b1i : ¬ (hi : Int) < (z1 : Int) := by omega
    have e : validD s = validD (s.drop 2) := by rw [hv]; simp [checkN, y2, hk, a1, b1]
    rw [e]
    obtain ⟨H', hL⟩ := ih (s.drop 2) (by simp; omega) Hx
    refine ⟨H', LDoes.step (Evs.withL hL (Evs.of fun n m _ h2 => ?_))⟩
    generalize s.drop 2 = sk at *
    simp [↓q00, ↓q03, ↓q09, ↓q01, ↓q05, ↓q0g, ↓q04, ↓q06, q0f, hl, h0, hx, hzi, hf1, hf2, q0o, h7, q0t, hw2, hshr, ha1, ha2, hst, fa0, fa1, ld0, ld1, y2, hki, dk, i1, a1i, b1i, h2]
  by_cases y3 : y = 3
  case pos =>
    by_cases hk : s.length < 3
    case pos =>
      have hki : (s.length : Int) < (3 : Int) := by omega
      have e : validD s = false := by rw [hv]; simp [checkN, y3, hk]
      rw [e]
      exact ⟨Hx, LDoes.step (Evs.of fun n m => by simp [↓q00, ↓q03, ↓q09, ↓q01, ↓q05, ↓q0g, ↓q04, ↓q06, q0f, hl, h0, hx, hzi, hf1, hf2, q0o, h7, q0t, hw3, hshr, ha1, ha2, hst, fa0, fa1, y3, hki])⟩
    have hki : ¬ (s.length : Int) < (3 : Int) := by omega
    have dk := q1a (s := s) (k := .i64) (i := 3) (by omega)
    have i1 := hx1 (by omega)
    have i2 := hx2 (by omega)
    simp only [Int.cast_ofNat_Int] at dk
    by_cases a1 : z1 < lo
    case pos =>
      have a1i : (z1 : Int) < (lo : Int) := by omega
      have e : validD s = false := by rw [hv]; simp [checkN, y3, hk, a1]
      rw [e]
      exact ⟨Hx, LDoes.step (Evs.of fun n m => by simp [↓q00, ↓q03, ↓q09, ↓q01, ↓q05, ↓q0g, ↓q04, ↓q06, q0f, hl, h0, hx, hzi, hf1, hf2, q0o, h7, q0t, hw3, hshr, ha1, ha2, hst, fa0, fa1, ld0, y3, hki, i1, a1i])⟩
    have a1i : ¬ (z1 : Int) < (lo : Int) := by omega
    by_cases b1 : hi < z1
    case pos =>
      have b1i : (hi : Int) < (z1 : Int) := by omega
      have e : validD s = false := by rw [hv]; simp [checkN, y3, hk, a1, b1]
      rw [e]
      exact ⟨Hx, LDoes.step (Evs.of fun n m => by simp [↓q00, ↓q03, ↓q09, ↓q01, ↓q05, ↓q0g, ↓q04, ↓q06, q0f, hl, h0, hx, hzi, hf1, hf2, q0o, h7, q0t, hw3, hshr, ha1, ha2, hst, fa0, fa1, ld0, ld1, y3, hki, i1, a1i, b1i])⟩
    have b1i : ¬ (hi : Int) < (z1 : Int) := by omega
    by_cases a2 : z2 < 128
    case pos =>
      have a2i : (z2 : Int) < (128 : Int) := by omega
      have e : validD s = false := by rw [hv]; simp [checkN, y3, hk, a1, b1, a2]
      rw [e]
      exact ⟨Hx, LDoes.step (Evs.of fun n m => by simp [↓q00, ↓q03, ↓q09, ↓q01, ↓q05, ↓q0g, ↓q04, ↓q06, q0f, hl, h0, hx, hzi, hf1, hf2, q0o, h7, q0t, hw3, hshr, ha1, ha2, hst, fa0, fa1, ld0, ld1, y3, hki, i1, i2, a1i, b1i, a2i])⟩
    have a2i : ¬ (z2 : Int) < (128 : Int) := by omega
    by_cases b2 : 191 < z2
    case pos =>
      have b2i : (191 : Int) < (z2 : Int) := by omega
      have e : validD s = false := by rw [hv]; simp [checkN, y3, hk, a1, b1, a2, b2]
      rw [e]
      exact ⟨Hx, LDoes.step (Evs.of fun n m => by simp [↓q00, ↓q03, ↓q09, ↓q01, ↓q05, ↓q0g, ↓q04, ↓q06, q0f, hl, h0, hx, hzi, hf1, hf2, q0o, h7, q0t, hw3, hshr, ha1, ha2, hst, fa0, fa1, ld0, ld1, y3, hki, i1, i2, a1i, b1i, a2i, b2i])⟩
    have b2i : ¬ (191 : Int) < (z2 : Int) := by omega
    have e : validD s = validD (s.drop 3) := by rw [hv]; simp [checkN, y3, hk, a1, b1, a2, b2]
    rw [e]
    obtain ⟨H', hL⟩ := ih (s.drop 3) (by simp; omega) Hx
    refine ⟨H', LDoes.step (Evs.withL hL (Evs.of fun n m _ h2 => ?_))⟩
    generalize s.drop 3 = sk at *
    simp [↓q00, ↓q03, ↓q09, ↓q01, ↓q05, ↓q0g, ↓q04, ↓q06, q0f, hl, h0, hx, hzi, hf1, hf2, q0o, h7, q0t, hw3, hshr, ha1, ha2, hst, fa0, fa1, ld0, ld1, y3, hki, dk, i1, i2, a1i, b1i, a2i, b2i, h2]
  by_cases y4 : y = 4
  case pos =>
    by_cases hk : s.length < 4
    case pos =>
      have hki : (s.length : Int) < (4 : Int) := by omega
      have e : validD s = false := by rw [hv]; simp [checkN, y4, hk]
      rw [e]
      exact ⟨Hx, LDoes.step (Evs.of fun n m => by simp [↓q00, ↓q03, ↓q09, ↓q01, ↓q05, ↓q0g, ↓q04, ↓q06, q0f, hl, h0, hx, hzi, hf1, hf2, q0o, h7, q0t, hw4, hshr, ha1, ha2, hst, fa0, fa1, y4, hki])⟩
    have hki : ¬ (s.length : Int) < (4 : Int) := by omega
    have dk := q1a (s := s) (k := .i64) (i := 4) (by omega)
    have i1 := hx1 (by omega)
    have i2 := hx2 (by omega)
    have i3 := hx3 (by omega)
    simp only [Int.cast_ofNat_Int] at dk
    by_cases a1 : z1 < lo
    case pos =>
      have a1i : (z1 : Int) < (lo : Int) := by omega
      have e : validD s = false := by rw [hv]; simp [checkN, y4, hk, a1]
      rw [e]
      exact ⟨Hx, LDoes.step (Evs.of fun n m => by simp [↓q00, ↓q03, ↓q09, ↓q01, ↓q05, ↓q0g, ↓q04, ↓q06, q0f, hl, h0, hx, hzi, hf1, hf2, q0o, h7, q0t, hw4, hshr, ha1, ha2, hst, fa0, fa1, ld0, y4, hki, i1, a1i])⟩
    have a1i : ¬ (z1 : Int) < (lo : Int) := by omega
    by_cases b1 : hi < z1
    case pos =>
      have b1i : (hi : Int) < (z1 : Int) := by omega
      have e : validD s = false := by rw [hv]; simp [checkN, y4, hk, a1, b1]
      rw [e]
      exact ⟨Hx, LDoes.step (Evs.of fun n m => by simp [↓q00, ↓q03, ↓q09, ↓q01, ↓q05, ↓q0g, ↓q04, ↓q06, q0f, hl, h0, hx, hzi, hf1, hf2, q0o, h7, q0t, hw4, hshr, ha1, ha2, hst, fa0, fa1, ld0, ld1, y4, hki, i1, a1i, b1i])⟩
    have b1i : ¬ (hi : Int) < (z1 : Int) := by omega
    by_cases a2 : z2 < 128
    case pos =>
      have a2i : (z2 : Int) < (128 : Int) := by omega
      have e : validD s = false := by rw [hv]; simp [checkN, y4, hk, a1, b1, a2]
      rw [e]
      exact ⟨Hx, LDoes.step (Evs.of fun n m => by simp [↓q00, ↓q03, ↓q09, ↓q01, ↓q05, ↓q0g, ↓q04, ↓q06, q0f, hl, h0, hx, hzi, hf1, hf2, q0o, h7, q0t, hw4, hshr, ha1, ha2, hst, fa0, fa1, ld0, ld1, y4, hki, i1, i2, a1i, b1i, a2i])⟩
    have a2i : ¬ (z2 : Int) < (128 : Int) := by omega
    by_cases b2 : 191 < z2
    case pos =>
      have b2i : (191 : Int) < (z2 : Int) := by omega
      have e : validD s = false := by rw [hv]; simp [checkN, y4, hk, a1, b1, a2, b2]
      rw [e]
      exact ⟨Hx, LDoes.step (Evs.of fun n m => by simp [↓q00, ↓q03, ↓q09, ↓q01, ↓q05, ↓q0g, ↓q04, ↓q06, q0f, hl, h0, hx, hzi, hf1, hf2, q0o, h7, q0t, hw4, hshr, ha1, ha2, hst, fa0, fa1, ld0, ld1, y4, hki, i1, i2, a1i, b1i, a2i, b2i])⟩
    have b2i : ¬ (191 : Int) < (z2 : Int) := by omega
    by_cases a3 : z3 < 128
    case pos =>
      have a3i : (z3 : Int) < (128 : Int) := by omega
      have e : validD s = false := by rw [hv]; simp [checkN, y4, hk, a1, b1, a2, b2, a3]
      rw [e]
      exact ⟨Hx, LDoes.step (Evs.of fun n m => by simp [↓q00, ↓q03, ↓q09, ↓q01, ↓q05, ↓q0g, ↓q04, ↓q06, q0f, hl, h0, hx, hzi, hf1, hf2, q0o, h7, q0t, hw4, hshr, ha1, ha2, hst, fa0, fa1, ld0, ld1, y4, hki, i1, i2, i3, a1i, b1i, a2i, b2i, a3i])⟩
    have a3i : ¬ (z3 : Int) < (128 : Int) := by omega
    by_cases b3 : 191 < z3
    case pos =>
      have b3i : (191 : Int) < (z3 : Int) := by omega
      have e : validD s = false := by rw [hv]; simp [checkN, y4, hk, a1, b1, a2, b2, a3, b3]
      rw [e]
      exact ⟨Hx, LDoes.step (Evs.of fun n m => by simp [↓q00, ↓q03, ↓q09, ↓q01, ↓q05, ↓q0g, ↓q04, ↓q06, q0f, hl, h0, hx, hzi, hf1, hf2, q0o, h7, q0t, hw4, hshr, ha1, ha2, hst, fa0, fa1, ld0, ld1, y4, hki, i1, i2, i3, a1i, b1i, a2i, b2i, a3i, b3i])⟩
    have b3i : ¬ (191 : Int) < (z3 : Int) := by omega
    have e : validD s = validD (s.drop 4) := by rw [hv]; simp [checkN, y4, hk, a1, b1, a2, b2, a3, b3]
    rw [e]
    obtain ⟨H', hL⟩ := ih (s.drop 4) (by simp; omega) Hx
    refine ⟨H', LDoes.step (Evs.withL hL (Evs.of fun n m _ h2 => ?_))⟩
    generalize s.drop 4 = sk at *
    simp [↓q00, ↓q03, ↓q09, ↓q01, ↓q05, ↓q0g, ↓q04, ↓q06, q0f, hl, h0, hx, hzi, hf1, hf2, q0o, h7, q0t, hw4, hshr, ha1, ha2, hst, fa0, fa1, ld0, ld1, y4, hki, dk, i1, i2, i3, a1i, b1i, a2i, b2i, a3i, b3i, h2]
  have y2i : ¬ (y : Int) = 2 := by omega
  have y3i : ¬ (y : Int) = 3 := by omega
  have y4i : ¬ (y : Int) = 4 := by omega
  have e : validD s = false := by rw [hv]; simp [checkN, y2, y3, y4]
  rw [e]
  exact ⟨Hx, LDoes.step (Evs.of fun n m => by simp [↓q00, ↓q03, ↓q09, ↓q01, ↓q0g, ↓q06, q0f, hl, h0, hx, hzi, hf1, hf2, q0o, h7, q0t, hy, hshr, ha1, ha2, hst, y2i, y3i, y4i])⟩
theorem q9s : ∀ (N : Nat) (s : List UInt8), s.length ≤ N → q25 s
  | _, [], _ => valid_nil
  | 0, _ :: _, h => by simp at h
  | N + 1, c :: r, h => by
    have ih : ∀ s' : List UInt8, s'.length < (c :: r).length → q25 s' := fun s' h' => q9s N s' (by simp at h h'; omega)
    by_cases hc : c.toNat < 128
    · exact qe9 c r hc fun s' h' => ih s' (by simp; omega)
    · exact qgk (c :: r) (by simp) (by simp; omega) ih
noncomputable def pValid : Pol := .still (p1 cS .bool (fun _ => True) validD)
theorem okValid : PolOK base 99 pValid := still1 base_ok TVal ⟨okWord, trivial⟩ fun s _ => by
  obtain ⟨H', hL⟩ := q9s _ s (Nat.le_refl _) []
  refine Evs.withL hL (Evs.of fun n m h1 _ => ?_)
  generalize validD s = b at *
  cases b <;> simp [↓q03, ↓q06, S99, h1]
theorem kValid {R : Type} {s : List UInt8} {H : Heap} {k : AV → Heap → Option R} : polK pValid [.str s] H k = k (.bool (validD s)) H := by
  simp [pValid, q0i]
end Go.Proofs.YtleikacgncpfbaaDoor

/- Texts: the first sign of a well-formed one. -/
set_option maxRecDepth 100000
set_option maxHeartbeats 8000000
namespace Go.Proofs.YtleikacgncpfbaaDoor
open Go Go.Den Go.Lib
def decR (s : List UInt8) : Nat × Nat := if s = [] then (65533, 0) else decodeL s
def slowOk (s : List UInt8) : Prop := validD s = true ∧ (s = [] ∨ 128 ≤ (s.getD 0 0).toNat)
noncomputable def pSlow : Pol := .still (p1 cS (fun r : Nat × Nat => .tup [.int .i32 r.1, .int .i64 r.2]) slowOk decR)
noncomputable def pDec : Pol := .still (p1 cS (fun r : Nat × Nat => .tup [.int .i32 r.1, .int .i64 r.2]) (fun s => validD s = true) decR)
end Go.Proofs.YtleikacgncpfbaaDoor

/- Texts: how many signs; which is less. -/
set_option maxRecDepth 100000
set_option maxHeartbeats 8000000
namespace Go.Proofs.YtleikacgncpfbaaDoor
open Go Go.Den Go.Lib
/-! ### how many signs -/
theorem drop_dec (l : List UInt8) (pos : Nat) : Utf8.decode ⟨l.toArray⟩ pos = decodeL (l.drop pos) := by
  have := decodeL_drop ⟨l.toArray⟩ pos
  have e0 : (⟨l.toArray⟩ : ByteArray).data.toList = l := by simp
  rw [e0] at this
  exact this.symm
theorem drop_ne {l : List UInt8} {pos : Nat} (h : pos < l.length) : l.drop pos ≠ [] := fun e => by
  have := congrArg List.length e
  simp at this
  omega
def q1k (s : List UInt8) : Prop := s.length ≤ 1000000
noncomputable def pRunes : Pol := .still (p1 cS (.int .i64) q1k (fun s => ((rs s).length : Int)))
noncomputable def q2b : Pol := .still (p1 cS .bool (fun _ => True) validD)
theorem qan : PolOK base 80 q2b := still1 base_ok [(99, pValid)] ⟨okValid, trivial⟩ fun s _ => Evs.of fun n m => by
  simp [S80, kValid]
theorem q2v {R : Type} {s : List UInt8} {H : Heap} {k : AV → Heap → Option R} : polK q2b [.str s] H k = k (.bool (validD s)) H := by
  simp [q2b, q0i]
noncomputable def pTvalid : Pol := .still (p1 cS .bool (fun _ => True) validD)
def countR (s : List UInt8) : Int := if validD s then ((rs s).length : Nat) else -1
noncomputable def pCount : Pol := .still (p1 cS (.int .i64) q1k countR)
def ordI (x y : Int) : Int := if x < y then -1 else if y < x then 1 else 0
noncomputable def pNanI : Pol := .still (p1 (cI .i64) .bool (fun _ => True) fun _ => false)
noncomputable def pNanR : Pol := .still (p1 (cI .i32) .bool (fun _ => True) fun _ => false)
noncomputable def pNanS : Pol := .still (p1 cS .bool (fun _ => True) fun _ => false)
noncomputable def pCmpI : Pol := .still (p2 (cI .i64) (cI .i64) (.int .i64) (fun _ _ => True) ordI)
noncomputable def pCmpR : Pol := .still (p2 (cI .i32) (cI .i32) (.int .i64) (fun _ _ => True) ordI)
noncomputable def pCmpS : Pol := .still (p2 cS cS (.int .i64) (fun _ _ => True) fun a b => lexR (nums a) (nums b))
noncomputable abbrev TLess : List (FuncId × Pol) := [(97, pTvalid), (107, pCmpS), (108, pDec), (85, pCmpI), (109, pCmpR)]
noncomputable def pLess : Pol := .still (p2 cS cS (.int .i64) (fun _ _ => True) lessR)
end Go.Proofs.YtleikacgncpfbaaDoor

/- Texts, the reference: which is less. -/
set_option maxRecDepth 100000
set_option maxHeartbeats 8000000
namespace Go.Proofs.YtleikacgncpfbaaDoor
open Go Go.Den Go.Lib
def diffR : List Nat → List Nat → Option Int
  | x :: p, y :: q => if x = y then diffR p q else some (ordI x y)
  | _, _ => none
theorem ord_succ (a b : Nat) : ordI ((a + 1 : Nat) : Int) ((b + 1 : Nat) : Int) = ordI a b := by
  unfold ordI
  repeat' split
  all_goals first | rfl | omega
theorem qae : ∀ a b : List Nat, lexR a b = (diffR a b).getD (ordI a.length b.length)
  | [], [] => rfl
  | [], _ :: q => by
    show (-1 : Int) = ordI ((0 : Nat) : Int) ((q.length + 1 : Nat) : Int)
    unfold ordI
    rw [if_pos (by omega)]
  | _ :: p, [] => by
    show (1 : Int) = ordI ((p.length + 1 : Nat) : Int) ((0 : Nat) : Int)
    unfold ordI
    rw [if_neg (by omega), if_pos (by omega)]
  | x :: p, y :: q => by
    show (if x < y then (-1 : Int) else if y < x then 1 else lexR p q) = (if x = y then diffR p q else some (ordI x y)).getD (ordI ((p.length + 1 : Nat) : Int) ((q.length + 1 : Nat) : Int))
    by_cases e : x = y
    · rw [if_pos e, if_neg (by omega), if_neg (by omega), qae p q, ord_succ]
    · rw [if_neg e, Option.getD_some]
      unfold ordI
      by_cases h1 : x < y
      · rw [if_pos h1, if_pos (by omega)]
      · rw [if_neg h1, if_pos (by omega), if_neg (by omega), if_pos (by omega)]
noncomputable def pOrd : Pol := .still (p2 (cI .i64) (cI .i64) (.int .i64) (fun _ _ => True) ordI)
theorem okOrd : PolOK base 64 pOrd := still2 base_ok [] trivial fun x y _ => by
  unfold ordI
  by_cases h1 : x < y
  · exact Evs.of fun n m => by simp [↓q00, ↓q01, S64, h1]
  · by_cases h2 : y < x
    · exact Evs.of fun n m => by simp [↓q00, ↓q01, S64, h1, h2]
    · exact Evs.of fun n m => by simp [↓q00, ↓q01, S64, h1, h2]
theorem kOrd {R : Type} {x y : Int} {H : Heap} {k : AV → Heap → Option R} : polK pOrd [.int .i64 x, .int .i64 y] H k = k (.int .i64 (ordI x y)) H := by
  simp [pOrd, q0i]
theorem qOrd {R : Type} {x y : Int} {H : Heap} {k : AV → Heap → Option R} : polQ pOrd [.int .i64 x, .int .i64 y] H k = k (.int .i64 (ordI x y)) H := by
  simp [pOrd, q2d]
theorem cv_8_i64 (n : Int) (j : IntKind) : Go.Den.convert base 5 2 (.int j n) = some (.int .i64 (IntKind.wrap .i64 n)) := q54 (x := .int .u8) (by kernel_rfl) (by kernel_rfl)
theorem qh2 (n : Int) (j : IntKind) : Go.Den.convert base 21 2 (.int j n) = some (.int .i64 (IntKind.wrap .i64 n)) := q54 (x := .int .i32) (by kernel_rfl) (by kernel_rfl)
/-! ### byte by byte -/
def cBy : Cd (Option (List UInt8)) := ⟨eL 1 eb, fun a b h => qd9 (fun l m _ _ hm => q7e (fun a b => eb_inj) hm) h, fun a => by cases a <;> rfl⟩
@[simp] theorem enc_cBy {a : Option (List UInt8)} : cBy.enc a = eL 1 eb a := id rfl
@[simp] theorem dec_cBy {a : Option (List UInt8)} : cBy.dec (eL 1 eb a) = some a := cBy.dec_enc a
theorem q69 (l : List UInt8) : ∀ v ∈ l.map eb, v.flat0 = true ∧ v.isDef = true := fun v hv => by
  obtain ⟨x, -, rfl⟩ := List.mem_map.1 hv
  exact ⟨rfl, rfl⟩
noncomputable abbrev TOrd : List (FuncId × Pol) := [(64, pOrd)]
theorem qca (l : List UInt8) {i : Nat} (h : i < l.length) : (nums l).drop i = (l[i]).toNat :: (nums l).drop (i + 1) := by
  have hn : i < (nums l).length := by simpa [nums] using h
  rw [List.drop_eq_getElem_cons hn]
  simp [nums]
theorem byw_loop {a b : Option (List UInt8)} (h : (a.getD []).length ≤ 1000000) (H : Heap) : ∀ (k i : Nat), i + k = (a.getD []).length →
    LDoes (L67_0 (polT TOrd)) ⟨[eL 1 eb a, eL 1 eb b, .int .i64 (i : Int)], []⟩ H (if (diffR ((nums (a.getD [])).drop i) ((nums (b.getD [])).drop i)).isNone then 0 else 1) ⟨[eL 1 eb a, eL 1 eb b, ((diffR ((nums (a.getD [])).drop i) ((nums (b.getD [])).drop i)).map (AV.int .i64)).getD .undef], []⟩ H := by
  have l1 : A.len (eL 1 eb a) H = some (.int .i64 ((a.getD []).length : Int)) := q08
  have l2 : A.len (eL 1 eb b) H = some (.int .i64 ((b.getD []).length : Int)) := q08
  intro k
  induction k with
  | zero =>
    intro i hi
    have : i = (a.getD []).length := by omega
    subst this
    have e : (nums (a.getD [])).drop (a.getD []).length = [] := List.drop_of_length_le (by simp [nums])
    rw [e]
    refine LDoes.step (Evs.of fun n m => ?_)
    generalize ((a.getD []).length : Int) = N at *
    simp [-q08, q42, l1, diffR]
  | succ k ih =>
    intro i hi
    have hlt : i < (a.getD []).length := by omega
    have hlt' : (i : Int) < ((a.getD []).length : Int) := by omega
    by_cases hb : i < (b.getD []).length
    · have hb' : (i : Int) < ((b.getD []).length : Int) := by omega
      have x1 : A.idx 1 (eL 1 eb a) (.int .i64 (i : Int)) H = some (.rop [.int .u8 ((a.getD [])[i]).toNat]) := q3u (sz := 1) (e := eb) (o := a) (H := H) (k := .i64) (i := i) hlt
      have x2 : A.idx 1 (eL 1 eb b) (.int .i64 (i : Int)) H = some (.rop [.int .u8 ((b.getD [])[i]).toNat]) := q3u (sz := 1) (e := eb) (o := b) (H := H) (k := .i64) (i := i) hb
      rw [qca _ hlt, qca _ hb]
      have za := ((a.getD [])[i]).toNat_lt
      have zb := ((b.getD [])[i]).toNat_lt
      have hL := ih (i + 1) (by omega)
      simp only [Int.natCast_add, Int.natCast_one] at hL
      generalize ((a.getD [])[i]).toNat = x at *
      generalize ((b.getD [])[i]).toNat = y at *
      generalize (nums (a.getD [])).drop (i + 1) = p at *
      generalize (nums (b.getD [])).drop (i + 1) = q at *
      have ed : diffR (x :: p) (y :: q) = if x = y then diffR p q else some (ordI x y) := rfl
      rw [ed]
      by_cases e : x = y
      · rw [if_pos e]
        have hi1 : IntKind.wrap .i64 ((i : Int) + 1) = (i : Int) + 1 := q0h (by omega) (by omega)
        have ei : (x : Int) = (y : Int) := by omega
        refine LDoes.step (Evs.withL hL (Evs.of fun n m _ h3 => ?_))
        generalize (x : Int) = xi at *
        generalize (y : Int) = yi at *
        generalize ((a.getD []).length : Int) = N at *
        generalize ((b.getD []).length : Int) = M at *
        simp [-q08, q42, l1, l2, hlt', hb', x1, x2, ei, hi1, h3]
      · rw [if_neg e]
        have ei : ¬ (x : Int) = (y : Int) := by omega
        have wx : IntKind.wrap .i64 (x : Int) = x := q0h (by omega) (by omega)
        have wy : IntKind.wrap .i64 (y : Int) = y := q0h (by omega) (by omega)
        refine LDoes.step (Evs.of fun n m => ?_)
        generalize (x : Int) = xi at *
        generalize (y : Int) = yi at *
        generalize ((a.getD []).length : Int) = N at *
        generalize ((b.getD []).length : Int) = M at *
        simp [-q08, q42, l1, l2, hlt', hb', x1, x2, ei, cv_8_i64, wx, wy, qOrd]
    · have hb' : ¬ (i : Int) < ((b.getD []).length : Int) := by omega
      have e : (nums (b.getD [])).drop i = [] := List.drop_of_length_le (by simp [nums]; omega)
      rw [e]
      have ed : diffR ((nums (a.getD [])).drop i) [] = none := by
        cases (nums (a.getD [])).drop i <;> rfl
      rw [ed]
      refine LDoes.step (Evs.of fun n m => ?_)
      generalize ((a.getD []).length : Int) = N at *
      generalize ((b.getD []).length : Int) = M at *
      simp [-q08, q42, l1, l2, hlt', hb']
def bywOk (a _ : Option (List UInt8)) : Prop := (a.getD []).length ≤ 1000000
noncomputable def pByw : Pol := .still (p2 cBy cBy (.int .i64) bywOk fun a b => lexR (nums (a.getD [])) (nums (b.getD [])))
theorem okByw : PolOK base 67 pByw := still2 base_ok TOrd ⟨okOrd, trivial⟩ fun a b h => by
  have hL := byw_loop (b := b) h [] (a.getD []).length 0 (by omega)
  rw [List.drop_zero, List.drop_zero] at hL
  have l1 : A.len (eL 1 eb a) [] = some (.int .i64 ((a.getD []).length : Int)) := q08
  have l2 : A.len (eL 1 eb b) [] = some (.int .i64 ((b.getD []).length : Int)) := q08
  have hn : ∀ l : List UInt8, (nums l).length = l.length := fun l => by simp [nums]
  rw [qae, hn, hn]
  refine Evs.withL hL (Evs.of fun n m h1 _ => ?_)
  simp only [Int.natCast_zero] at h1
  generalize diffR (nums (a.getD [])) (nums (b.getD [])) = d at *
  generalize ((a.getD []).length : Int) = N at *
  generalize ((b.getD []).length : Int) = M at *
  cases d with
  | none => simp [↓q03, ↓q01, ↓q06, -q08, S67, h1, l1, l2, kOrd]
  | some v => simp [↓q03, ↓q06, -q08, S67, h1]
/-! ### sign by sign -/
theorem q73 : base.P.underlying 9 = some .string := by kernel_rfl
theorem ty_u8 : base.P.underlying 5 = some (.int .u8) := by kernel_rfl
theorem ty_i32 : base.P.underlying 21 = some (.int .i32) := by kernel_rfl
theorem qba : base.P.underlying 98 = some (.slice 21) := by kernel_rfl
theorem q0y : base.P.underlying 24 = some (.slice 5) := by kernel_rfl
theorem q96 {R : Type} {s : List UInt8} (h : s.length ≤ 1000000) {H : Heap} {k : AV → Heap → Option R} : q0l base 9 24 (.str s) H k = k (.sl H.length 0 0 s.length s.length) (H ++ [.row 0 1 5 (s.map eb)]) := by
  have h1 : Go.Den.convert base 9 24 (.str s) = none := by
    unfold Go.Den.convert
    rw [q73, q0y]
  have h2 : convH base 9 24 (.str s) H = none := by
    unfold convH
    rw [q73, q0y]
  have h3 : convN base 9 24 (.str s) H = some (.sl H.length 0 0 s.length s.length, H ++ [.row 0 1 5 (s.map eb)]) := by
    unfold convN
    rw [q73, q0y]
    dsimp only
    rw [ty_u8]
    have : decide (s.length ≤ 140737488355328) = true := by simp; omega
    dsimp only
    rw [this]
    simp [A.newRow, A.strElems]
  unfold q0l
  rw [h1, h2, h3]
abbrev er (r : Nat) : AV := .int .i32 (r : Int)
theorem q97 {R : Type} {s : List UInt8} (h : s.length ≤ 1000000) {H : Heap} {k : AV → Heap → Option R} : q0l base 9 98 (.str s) H k = k (.sl H.length 0 0 (rs s).length (rs s).length) (H ++ [.row 0 1 21 ((rs s).map er)]) := by
  have h1 : Go.Den.convert base 9 98 (.str s) = none := by
    unfold Go.Den.convert
    rw [q73, qba]
  have h2 : convH base 9 98 (.str s) H = none := by
    unfold convH
    rw [q73, qba]
  have hr : (runeL ⟨s.toArray⟩ s.length 0).map (AV.int .i32) = (rs s).map er := by
    rw [qfb s s.length 0 (by simp), List.drop_zero, List.map_map]
    rfl
  have h3 : convN base 9 98 (.str s) H = some (.sl H.length 0 0 (rs s).length (rs s).length, H ++ [.row 0 1 21 ((rs s).map er)]) := by
    unfold convN
    rw [q73, qba]
    dsimp only
    rw [ty_i32]
    have : decide (s.length ≤ 70368744177664) = true := by simp; omega
    dsimp only
    rw [this, hr]
    simp [A.newRow]
  unfold q0l
  rw [h1, h2, h3]
noncomputable abbrev TRless : List (FuncId × Pol) := [(80, q2b), (67, pByw), (64, pOrd)]
theorem qgb {X Y : List Nat} {H : Heap} (h0 : H[0]? = some (.row 0 1 21 (X.map er))) (h1 : H[1]? = some (.row 0 1 21 (Y.map er))) (hl : X.length ≤ 1000000) (hx : ∀ r ∈ X, r ≤ 1114111) (hy : ∀ r ∈ Y, r ≤ 1114111) : ∀ (k i : Nat), i + k = X.length →
    LDoes (L66_0 (polT TRless)) ⟨[.sl 0 0 0 X.length X.length, .sl 1 0 0 Y.length Y.length, .int .i64 (i : Int)], []⟩ H (if (diffR (X.drop i) (Y.drop i)).isNone then 0 else 1) ⟨[((diffR (X.drop i) (Y.drop i)).map (AV.int .i64)).getD .undef, .sl 0 0 0 X.length X.length, .sl 1 0 0 Y.length Y.length], []⟩ H := by
  have l0 : A.len (.sl 0 0 0 X.length X.length) H = some (.int .i64 (X.length : Int)) := by simp [A.len, A.alive, h0]
  have l1 : A.len (.sl 1 0 0 Y.length Y.length) H = some (.int .i64 (Y.length : Int)) := by simp [A.len, A.alive, h1]
  intro k
  induction k with
  | zero =>
    intro i hi
    have : i = X.length := by omega
    subst this
    rw [List.drop_length]
    refine LDoes.step (Evs.of fun n m => ?_)
    generalize (X.length : Int) = N at *
    simp [↓q00, ↓q01, ↓q05, ↓q04, q41, l0, diffR]
  | succ k ih =>
    intro i hi
    have hlt : i < X.length := by omega
    have hlt' : (i : Int) < (X.length : Int) := by omega
    by_cases hb : i < Y.length
    · have hb' : (i : Int) < (Y.length : Int) := by omega
      have x0 : A.idx 1 (.sl 0 0 0 X.length X.length) (.int .i64 (i : Int)) H = some (.ptr 0 0 i 0) := by
        have := q4r (cap := X.length) (off := 0) (k := .i64) h0 (i := (i : Int)) (n := X.length) (by omega) hlt'
        simpa using this
      have x1 : A.idx 1 (.sl 1 0 0 Y.length Y.length) (.int .i64 (i : Int)) H = some (.ptr 1 0 i 0) := by
        have := q4r (cap := Y.length) (off := 0) (k := .i64) h1 (i := (i : Int)) (n := Y.length) (by omega) hb'
        simpa using this
      have y0 : A.load false 1 (.ptr 0 0 i 0) H = some (.int .i32 (X[i] : Nat)) := qay h0 (by simp [hlt]) rfl
      have y1 : A.load false 1 (.ptr 1 0 i 0) H = some (.int .i32 (Y[i] : Nat)) := qay h1 (by simp [hb]) rfl
      rw [List.drop_eq_getElem_cons hlt, List.drop_eq_getElem_cons hb]
      have zx := hx _ (List.getElem_mem hlt)
      have zy := hy _ (List.getElem_mem hb)
      have hL := ih (i + 1) (by omega)
      simp only [Int.natCast_add, Int.natCast_one] at hL
      generalize X[i] = x at *
      generalize Y[i] = y at *
      generalize X.drop (i + 1) = p at *
      generalize Y.drop (i + 1) = q at *
      have ed : diffR (x :: p) (y :: q) = if x = y then diffR p q else some (ordI x y) := rfl
      rw [ed]
      by_cases e : x = y
      · rw [if_pos e]
        have hi1 : IntKind.wrap .i64 ((i : Int) + 1) = (i : Int) + 1 := q0h (by omega) (by omega)
        have ei : (x : Int) = (y : Int) := by omega
        refine LDoes.step (Evs.withL hL (Evs.of fun n m _ h3 => ?_))
        generalize (x : Int) = xi at *
        generalize (y : Int) = yi at *
        generalize (X.length : Int) = N at *
        generalize (Y.length : Int) = M at *
        simp [↓q00, ↓q01, ↓q05, ↓q04, q41, l0, l1, hlt', hb', x0, x1, y0, y1, ei, hi1, h3]
      · rw [if_neg e]
        have ei : ¬ (x : Int) = (y : Int) := by omega
        have wx : IntKind.wrap .i64 (x : Int) = x := q0h (by omega) (by omega)
        have wy : IntKind.wrap .i64 (y : Int) = y := q0h (by omega) (by omega)
        refine LDoes.step (Evs.of fun n m => ?_)
        generalize (x : Int) = xi at *
        generalize (y : Int) = yi at *
        generalize (X.length : Int) = N at *
        generalize (Y.length : Int) = M at *
        simp [↓q00, ↓q01, ↓q05, ↓q04, q41, l0, l1, hlt', hb', x0, x1, y0, y1, ei, qh2, wx, wy, qOrd]
    · have hb' : ¬ (i : Int) < (Y.length : Int) := by omega
      have e : Y.drop i = [] := List.drop_of_length_le (by omega)
      rw [e]
      have ed : diffR (X.drop i) [] = none := by cases X.drop i <;> rfl
      rw [ed]
      refine LDoes.step (Evs.of fun n m => ?_)
      generalize (X.length : Int) = N at *
      generalize (Y.length : Int) = M at *
      simp [↓q00, ↓q01, ↓q05, ↓q04, q41, l0, l1, hlt', hb']
theorem qjf {r : Nat} (h : scal r) : r ≤ 1114111 := by unfold scal at h; omega
def lessOk (a b : List UInt8) : Prop := q1k a ∧ q1k b
noncomputable def pRless : Pol := .still (p2 cS cS (.int .i64) lessOk lessR)
theorem okRless : PolOK base 66 pRless := still2 base_ok TRless ⟨qan, okByw, okOrd, trivial⟩ fun a b ⟨hna, hnb⟩ => by
  unfold q1k at hna hnb
  have c1 : ∀ (R : Type) (H : Heap) (k : AV → Heap → Option R), q0l base 9 24 (.str a) H k = k (.sl H.length 0 0 a.length a.length) (H ++ [.row 0 1 5 (a.map eb)]) := fun R H k => q96 hna
  have c2 : ∀ (R : Type) (H : Heap) (k : AV → Heap → Option R), q0l base 9 24 (.str b) H k = k (.sl H.length 0 0 b.length b.length) (H ++ [.row 0 1 5 (b.map eb)]) := fun R H k => q96 hnb
  have hby : ∀ (R : Type) (k : AV → Heap → Option R), polK pByw [.sl 0 0 0 a.length a.length, .sl 1 0 0 b.length b.length] [.row 0 1 5 (a.map eb), .row 0 1 5 (b.map eb)] k = k (.int .i64 (lexR (nums a) (nums b))) [.row 0 1 5 (a.map eb), .row 0 1 5 (b.map eb)] := fun R k => by
    have hf0 : A.freezeB true 64 [.row 0 1 5 (a.map eb), .row 0 1 5 (b.map eb)] (.sl 0 0 0 a.length a.length) = some (eL 1 eb (some a)) := q1b (b := true) (m := 62) (es := a.map eb) rfl (by simp) (q69 _)
    have hf1 : A.freezeB true 64 [.row 0 1 5 (a.map eb), .row 0 1 5 (b.map eb)] (.sl 1 0 0 b.length b.length) = some (eL 1 eb (some b)) := q1b (b := true) (m := 62) (es := b.map eb) rfl (by simp) (q69 _)
    have hfa : q10 [.row 0 1 5 (a.map eb), .row 0 1 5 (b.map eb)] [.sl 0 0 0 a.length a.length, .sl 1 0 0 b.length b.length] = some [eL 1 eb (some a), eL 1 eb (some b)] := q17 hf0 (q17 hf1 rfl)
    have hsb : bywOk (some a) (some b) := hna
    unfold pByw
    rw [qav hfa]
    simp [hsb]
    rfl
  unfold lessR
  cases ha : validD a
  · rw [if_neg (by simp)]
    exact Evs.of fun n m => by simp [↓q00, ↓q03, ↓q01, ↓q05, ↓q04, S66, q2v, ha, c1, c2, hby]
  cases hb : validD b
  · rw [if_neg (by simp)]
    exact Evs.of fun n m => by simp [↓q00, ↓q03, ↓q01, ↓q05, ↓q04, S66, q2v, ha, hb, c1, c2, hby]
  · rw [if_pos (by simp)]
    have sa := (q37 _ a (Nat.le_refl _) ha).2
    have sb := (q37 _ b (Nat.le_refl _) hb).2
    have la := rs_len _ a (Nat.le_refl _)
    have d1 : ∀ (R : Type) (H : Heap) (k : AV → Heap → Option R), q0l base 9 98 (.str a) H k = k (.sl H.length 0 0 (rs a).length (rs a).length) (H ++ [.row 0 1 21 ((rs a).map er)]) := fun R H k => q97 hna
    have d2 : ∀ (R : Type) (H : Heap) (k : AV → Heap → Option R), q0l base 9 98 (.str b) H k = k (.sl H.length 0 0 (rs b).length (rs b).length) (H ++ [.row 0 1 21 ((rs b).map er)]) := fun R H k => q97 hnb
    have hL := qgb (X := rs a) (Y := rs b) (H := [.row 0 1 21 ((rs a).map er), .row 0 1 21 ((rs b).map er)]) rfl rfl (by omega) (fun r hr => qjf (sa r hr)) (fun r hr => qjf (sb r hr)) (rs a).length 0 (by omega)
    rw [List.drop_zero, List.drop_zero] at hL
    have l0 : A.len (.sl 0 0 0 (rs a).length (rs a).length) [.row 0 1 21 ((rs a).map er), .row 0 1 21 ((rs b).map er)] = some (.int .i64 ((rs a).length : Int)) := rfl
    have l1 : A.len (.sl 1 0 0 (rs b).length (rs b).length) [.row 0 1 21 ((rs a).map er), .row 0 1 21 ((rs b).map er)] = some (.int .i64 ((rs b).length : Int)) := rfl
    rw [qae]
    refine Evs.withL hL (Evs.of fun n m h1 _ => ?_)
    simp only [Int.natCast_zero] at h1
    generalize diffR (rs a) (rs b) = d at *
    generalize ((rs a).length : Int) = N at *
    generalize ((rs b).length : Int) = M at *
    cases d with
    | none => simp [↓q00, ↓q03, ↓q01, ↓q05, ↓q04, ↓q06, S66, q2v, ha, hb, d1, d2, h1, l0, l1, kOrd]
    | some v => simp [↓q00, ↓q03, ↓q01, ↓q05, ↓q04, ↓q06, S66, q2v, ha, hb, d1, d2, h1]
theorem kRless {R : Type} {a b : List UInt8} (h : lessOk a b) {H : Heap} {k : AV → Heap → Option R} : polK pRless [.str a, .str b] H k = k (.int .i64 (lessR a b)) H := by
  simp [pRless, q0i, h]
end Go.Proofs.YtleikacgncpfbaaDoor

/- How many signs a text has, by the reference. -/
set_option maxRecDepth 100000
set_option maxHeartbeats 8000000
namespace Go.Proofs.YtleikacgncpfbaaDoor
open Go Go.Den Go.Lib
theorem qfr {pol : FuncId → Pol} {l : List UInt8} {id : Nat} : ∀ (N pos : Nat) (c : Int) (H : Heap), l.length - pos ≤ N → H[id]? = some (.iter l pos) → 0 ≤ c → c + N ≤ 1000000000 →
    ∃ H', LDoes (L81_0 pol) ⟨[.int .i64 c, .it id], []⟩ H 0 ⟨[.int .i64 (c + (rs (l.drop pos)).length)], []⟩ H' := by
  intro N
  induction N with
  | zero =>
    intro pos c H hN hH h0 h1
    have hp : ¬ pos < l.length := by omega
    have hd : l.drop pos = [] := List.drop_of_length_le (by omega)
    rw [hd]
    refine ⟨H, LDoes.step (Evs.of fun n m => ?_)⟩
    simp [↓q00, ↓q01, q5x, nextK, hH, hp, qja]
  | succ N ih =>
    intro pos c H hN hH h0 h1
    by_cases hp : pos < l.length
    · have hne := drop_ne hp
      have hw := decodeL_width (l.drop pos)
      have hid : id < H.length := (List.getElem?_eq_some_iff.1 hH).1
      obtain ⟨H', hL⟩ := ih (pos + (decodeL (l.drop pos)).2) (c + 1) (H.set id (.iter l (pos + (decodeL (l.drop pos)).2))) (by omega) (List.getElem?_set_self hid) (by omega) (by omega)
      have hc : IntKind.wrap .i64 (c + 1) = c + 1 := q0h (by omega) (by omega)
      have e : c + ((rs (l.drop pos)).length : Int) = c + 1 + ((rs (l.drop (pos + (decodeL (l.drop pos)).2))).length : Int) := by
        rw [qaz hne, List.drop_drop, List.length_cons]
        omega
      rw [e]
      have hdd := drop_dec l pos
      generalize decodeL (l.drop pos) = d at *
      refine ⟨H', LDoes.step (Evs.withL hL (Evs.of fun n m _ h2 => ?_))⟩
      simp [↓q00, ↓q01, q5x, nextK, hH, hp, hdd, hc, h2]
    · have hd : l.drop pos = [] := List.drop_of_length_le (by omega)
      rw [hd]
      refine ⟨H, LDoes.step (Evs.of fun n m => ?_)⟩
      simp [↓q00, ↓q01, q5x, nextK, hH, hp, qja]
noncomputable def q3d : Pol := .still (p1 cS (.int .i64) q1k countR)
theorem okRcount : PolOK base 81 q3d := still1 base_ok [(80, q2b)] ⟨qan, trivial⟩ fun s hs => by
  unfold q1k at hs
  obtain ⟨H', hL⟩ := qfr (pol := polT [(80, q2b)]) (l := s) (id := 0) s.length 0 0 [.iter s 0] (by omega) rfl (by omega) (by omega)
  refine Evs.withL hL (Evs.of fun n m h1 _ => ?_)
  simp only [Int.zero_add, List.drop_zero] at h1
  unfold countR
  generalize ((rs s).length : Int) = N at *
  cases h : validD s <;> simp [↓q00, ↓q03, ↓q01, ↓q06, S81, q2v, h, rangeK, h1]
theorem q86 {R : Type} {s : List UInt8} (h : q1k s) {H : Heap} {k : AV → Heap → Option R} : polK q3d [.str s] H k = k (.int .i64 (countR s)) H := by
  simp [q3d, q0i, h]
theorem q27 {s : List UInt8} : (0 ≤ countR s ↔ validD s = true) := by
  unfold countR
  cases validD s
  · simp
  · simp
end Go.Proofs.YtleikacgncpfbaaDoor

/- Terms: may one be, but for what is in it. -/
set_option maxRecDepth 100000
set_option maxHeartbeats 4000000
namespace Go.Proofs.YtleikacgncpfbaaDoor
open Go Go.Den
def shortOne (t : Tm) : Prop := (t.d.getD []).length ≤ 1000000 ∧ t.name.length ≤ 1000000
noncomputable def pOne : Pol := .still (p1 cT .bool shortOne (oneS countR))
end Go.Proofs.YtleikacgncpfbaaDoor

/- Terms: may one be: a round. -/
set_option maxRecDepth 100000
set_option maxHeartbeats 4000000
namespace Go.Proofs.YtleikacgncpfbaaDoor
open Go Go.Den
noncomputable abbrev TMay1 : List (FuncId × Pol) := [(75, pParts), (56, pOne)]
noncomputable def pWalkMay : Pol := .prim (runF base TMay1 77)
noncomputable def LDm (t : Tm) : LoopD := LD17 (eT t) (.ptr 0 0 0 0) (.ptr 1 0 0 0) (eT t) (.fn (.func 77) [] [.ptr 2 0 0 0])
def okM (_ : Nat) (x : Tm) : Bool := decide ((x.d.getD []).length ≤ 1000000) && decide (x.name.length ≤ 1000000)
noncomputable def goM (s : Nat) (x : Tm) : Bool := decide (s + 1 ≤ 65536) && oneS countR x
def InvM (t : Tm) (s : Nat) (H : Heap) : Prop := s ≤ 65536 ∧ H[0]? = some (.row 0 1 4 [.bool false]) ∧ H[1]? = some (.row 0 1 3 [.int .i64 (s : Int)]) ∧ H[3]? = some (.loop (LDm t))
def FinM (t : Tm) (_ : Nat) (H : Heap) : Prop := H[0]? = some (.row 0 1 4 [.bool false]) ∧ H[3]? = some (.loop { LDm t with state := 2, pending := some .ret })
end Go.Proofs.YtleikacgncpfbaaDoor

/- Terms: may one be: the entry. -/
set_option maxRecDepth 100000
set_option maxHeartbeats 4000000
namespace Go.Proofs.YtleikacgncpfbaaDoor
open Go Go.Den
noncomputable def mayS (t : Tm) : Bool := decide (szT t ≤ 65536) && mayT countR t
noncomputable def pMay : Pol := .still (p1 cT .bool tame mayS)
end Go.Proofs.YtleikacgncpfbaaDoor

/- Any two terms: which is less. What is compared; that it is an order. -/
set_option maxRecDepth 100000
set_option maxHeartbeats 4000000
namespace Go.Proofs.YtleikacgncpfbaaDoor
open Go Go.Den Go.Lib
noncomputable def oneT (a b : Tm) : Int :=
  if a.kind ≠ b.kind then ordI a.kind b.kind
  else if a.kind = 0 then cmpI (toI (a.neg, a.d)) (toI (b.neg, b.d))
  else if a.kind = 1 then lessR a.name b.name
  else if a.kind = 2 ∨ a.kind = 3 then ordI a.n b.n
  else if a.kind = 4 ∨ a.kind = 6 then ordI (a.kids.length : Int) (b.kids.length : Int)
  else if a.kind = 7 then lexR (nums (a.b.getD [])) (nums (b.b.getD []))
  else 0
mutual
noncomputable def cmpT : Tm → Tm → Int
  | .mk k x d s n l b, u => if oneT (.mk k x d s n l b) u ≠ 0 then oneT (.mk k x d s n l b) u else if k = 4 ∨ k = 6 then cmpTo l u.kids else 0
noncomputable def cmpTo : Option (List Tm) → List Tm → Int
  | none, _ => 0
  | some l, m => cmpTs l m
noncomputable def cmpTs : List Tm → List Tm → Int
  | [], _ => 0
  | t :: l, m => match m with
    | [] => 0
    | u :: m => if cmpT t u ≠ 0 then cmpT t u else cmpTs l m
end
theorem qgx (o : Option (List Tm)) (m : List Tm) : cmpTo o m = cmpTs (o.getD []) m := by
  cases o with
  | none => simp [cmpTo, cmpTs]
  | some l => rw [cmpTo]; rfl
theorem q64 (a b : Tm) : cmpT a b = if oneT a b ≠ 0 then oneT a b else if a.kind = 4 ∨ a.kind = 6 then cmpTs a.kids b.kids else 0 := by
  cases a
  rw [cmpT, qgx]
  rfl
theorem q2j (m : List Tm) : cmpTs [] m = 0 := by rw [cmpTs]
theorem q46 (l : List Tm) : cmpTs l [] = 0 := by cases l <;> rw [cmpTs]
theorem q2y (t u : Tm) (l m : List Tm) : cmpTs (t :: l) (u :: m) = if cmpT t u ≠ 0 then cmpT t u else cmpTs l m := by rw [cmpTs]
theorem qas (x y : Int) : ordI y x = -ordI x y := qbk x y
theorem ord_zero {x y : Int} : ordI x y = 0 ↔ x = y := cmpI_eq
theorem one_anti (a b : Tm) : oneT b a = -oneT a b := by
  unfold oneT
  by_cases h : a.kind = b.kind
  · have n1 : ¬ b.kind ≠ a.kind := fun g => g h.symm
    have n2 : ¬ a.kind ≠ b.kind := fun g => g h
    rw [if_neg n1, if_neg n2, ← h]
    split
    · exact qbk _ _
    split
    · exact qic _ _
    split
    · exact qas _ _
    split
    · exact qas _ _
    split
    · exact q7c _ _
    · rfl
  · rw [if_pos (fun e => h e.symm), if_pos h]
    exact qas _ _
theorem q7f {a b : Tm} (h : oneT a b = 0) : a.kind = b.kind := by
  apply Classical.byContradiction
  intro hn
  unfold oneT at h
  rw [if_pos hn] at h
  exact hn (ord_zero.1 h)
theorem one_len {a b : Tm} (h : oneT a b = 0) (hk : a.kind = 4 ∨ a.kind = 6) : a.kids.length = b.kids.length := by
  have e := q7f h
  unfold oneT at h
  have n1 : ¬ a.kind ≠ b.kind := fun g => g e
  have n2 : ¬ a.kind = 0 := by omega
  have n3 : ¬ a.kind = 1 := by omega
  have n4 : ¬ (a.kind = 2 ∨ a.kind = 3) := by omega
  rw [if_neg n1, if_neg n2, if_neg n3, if_neg n4, if_pos hk] at h
  have := ord_zero.1 h
  omega
mutual
theorem qeg : ∀ a b : Tm, cmpT b a = -cmpT a b
  | .mk k x d s n l b, u => by
    have e := one_anti (.mk k x d s n l b) u
    rw [q64 u, q64 _ u]
    by_cases h : oneT (.mk k x d s n l b) u = 0
    · have hk := q7f h
      have n1 : ¬ oneT u (.mk k x d s n l b) ≠ 0 := fun g => g (by omega)
      have n2 : ¬ oneT (.mk k x d s n l b) u ≠ 0 := fun g => g h
      rw [if_neg n1, if_neg n2, ← hk]
      split
      · cases l with
        | none =>
          show cmpTs u.kids [] = -cmpTs [] u.kids
          rw [q2j, q46]
          rfl
        | some l => exact qbm l u.kids
      · rfl
    · rw [if_pos (by omega), if_pos h]
      exact e
theorem qbm : ∀ l m : List Tm, cmpTs m l = -cmpTs l m
  | [], m => by rw [q2j, q46]; rfl
  | t :: l, [] => by rw [q2j, q46]; rfl
  | t :: l, u :: m => by
    have h1 := qeg t u
    have h2 := qbm l m
    rw [q2y, q2y]
    split <;> split <;> omega
end
theorem cmp_self (a : Tm) : cmpT a a = 0 := by
  have := qeg a a
  omega
end Go.Proofs.YtleikacgncpfbaaDoor

/- Numbers of any size: which is less, by the reference. -/
set_option maxRecDepth 100000
set_option maxHeartbeats 4000000
namespace Go.Proofs.YtleikacgncpfbaaDoor
open Go Go.Den
noncomputable def pOrder : Pol := .still (p2 (cI .i64) (cI .i64) (.int .i64) (fun _ _ => True) cmpI)
theorem okOrder : PolOK base 64 pOrder := still2 base_ok [] trivial fun a b _ => Evs.of fun n m => by
  unfold cmpI
  by_cases h : a < b
  · simp [↓q00, ↓q01, S64, h]
  · by_cases h2 : b < a
    · simp [↓q00, ↓q01, S64, h, h2]
    · simp [↓q00, ↓q01, S64, h, h2]
theorem kOrder {R : Type} {a b : Int} {H : Heap} {k : AV → Heap → Option R} : polK pOrder [.int .i64 a, .int .i64 b] H k = k (.int .i64 (cmpI a b)) H := by
  simp [pOrder, q0i]
theorem qOrder {R : Type} {a b : Int} {H : Heap} {k : AV → Heap → Option R} : polQ pOrder [.int .i64 a, .int .i64 b] H k = k (.int .i64 (cmpI a b)) H := by
  simp [pOrder, q2d]
noncomputable abbrev TMags : List (FuncId × Pol) := [(64, pOrder)]
noncomputable def pMags : Pol := .still (p2 cD cD (.int .i64) (fun a b => few a ∧ few b) sizeS)
theorem qfs (n : Int) (j : IntKind) : Go.Den.convert base 59 2 (.int j n) = some (.int .i64 (IntKind.wrap .i64 n)) := q54 (x := .int .u32) (by kernel_rfl) (by kernel_rfl)
theorem qih {a b : Option (List UInt32)} (hab : (a.getD []).length = (b.getD []).length) (hf : (a.getD []).length ≤ 1000000) (H : Heap) : ∀ i, i ≤ (a.getD []).length →
    LDoes (L92_0 (polT TMags)) ⟨[eD a, eD b, .int .i64 ((i : Int) - 1)], []⟩ H (if cmpN (val ((a.getD []).take i)) (val ((b.getD []).take i)) = 0 then 0 else 1) ⟨[if cmpN (val ((a.getD []).take i)) (val ((b.getD []).take i)) = 0 then .undef else .int .i64 (cmpN (val ((a.getD []).take i)) (val ((b.getD []).take i)))], []⟩ H := by
  intro i
  induction i with
  | zero =>
    intro _
    refine LDoes.step (Evs.of fun n m => ?_)
    have : cmpN (val []) (val []) = 0 := qbj _
    simp [↓q00, ↓q01, q5z, this]
  | succ i ih =>
    intro hi
    have hx := q6x (d := a) (H := H) (k := .i64) (i := i) (by omega)
    have hy := q6x (d := b) (H := H) (k := .i64) (i := i) (by omega)
    rw [qgz (by omega) (by omega)]
    have e : ((i + 1 : Nat) : Int) - 1 = i := by omega
    rw [e]
    have hp : (0 : Int) ≤ i := by omega
    by_cases h0 : (a.getD [])[i] = (b.getD [])[i]
    · rw [if_pos h0]
      refine LDoes.step (Evs.withL (ih (by omega)) (Evs.of fun n m h1 h2 => ?_))
      simp (disch := omega) [↓q00, ↓q01, q5z, hx, hy, h0, hp, q0h, h2]
    · rw [if_neg h0]
      have h0' : ¬ (((a.getD [])[i]).toNat : Int) = ((b.getD [])[i]).toNat := fun e => h0 (UInt32.toNat_inj.1 (by omega))
      have h1 : ¬ cmpI ((a.getD [])[i]).toNat ((b.getD [])[i]).toNat = 0 := fun e => h0' (cmpI_eq.1 e)
      have l1 := q6b (a.getD [])[i]
      have l2 := q6b (b.getD [])[i]
      refine LDoes.step (Evs.of fun n m => ?_)
      generalize (a.getD [])[i] = x at *
      generalize (b.getD [])[i] = y at *
      simp (disch := omega) [↓q00, ↓q01, q5z, hx, hy, h0', hp, qfs, q0h, qOrder, h1]
theorem okMags : PolOK base 92 pMags := still2 base_ok TMags ⟨okOrder, trivial⟩ fun a b ⟨ha, hb⟩ => by
  unfold few at ha hb
  by_cases hl : (a.getD []).length = (b.getD []).length
  · refine Evs.withL (qih hl ha [] _ (Nat.le_refl _)) (Evs.of fun n m h1 _ => ?_)
    rw [List.take_length, hl, List.take_length] at h1
    have e : sizeS a b = cmpN (val (a.getD [])) (val (b.getD [])) := by unfold sizeS; rw [if_neg (by simp [hl])]
    rw [e]
    by_cases h0 : cmpN (val (a.getD [])) (val (b.getD [])) = 0
    · simp only [h0, if_true] at h1
      simp (disch := omega) [↓q00, ↓q03, ↓q01, ↓q06, S92, hl, q0h, h1, h0]
    · simp only [h0, if_false] at h1
      simp (disch := omega) [↓q00, ↓q03, ↓q01, ↓q06, S92, hl, q0h, h1]
  · refine Evs.of fun n m => ?_
    have hl' : ¬ ((a.getD []).length : Int) = (b.getD []).length := by omega
    simp [↓q00, ↓q01, S92, sizeS, hl, hl', kOrder]
theorem kMags {R : Type} {a b : Option (List UInt32)} (ha : few a) (hb : few b) {H : Heap} {k : AV → Heap → Option R} : polK pMags [eD a, eD b] H k = k (.int .i64 (sizeS a b)) H := by
  simp [pMags, q0i, ha, hb]
theorem qck (a : Nm) : ((rnormS a).2.getD []).length ≤ (a.2.getD []).length := by
  unfold rnormS
  dsimp only
  rw [q3j]
  exact q2g _
theorem size_val {a b : Nm} : sizeS (rnormS a).2 (rnormS b).2 = cmpN (val ((rnormS a).2.getD [])) (val ((rnormS b).2.getD [])) := by
  unfold rnormS
  dsimp only
  rw [q3j, q3j, q1z, q1z]
  exact qcs (q3j ..) (q3j ..)
theorem cmp_rng (a b : Nat) : -1 ≤ cmpN a b ∧ cmpN a b ≤ 1 := by unfold cmpN cmpI; split <;> (try split) <;> omega
theorem rcmp_val {x y : Nm} {u v : Int} (hx : Rep x u) (hy : Rep y v) : cmpI u v = if x.1 = y.1 then (if x.1 then -(cmpN (val (x.2.getD [])) (val (y.2.getD []))) else cmpN (val (x.2.getD [])) (val (y.2.getD []))) else (if x.1 then -1 else 1) := by
  rw [hx.1, hx.2, hy.1, hy.2, q1z, q1z]
  unfold cmpN cmpI
  by_cases hu : u < 0 <;> by_cases hv : v < 0 <;> simp [hu, hv] <;> (try split) <;> (try split) <;> (try split) <;> omega
noncomputable def pRcmp : Pol := .still (p2 cN cN (.int .i64) (fun a b => few a.2 ∧ few b.2) (fun a b => cmpI (toI a) (toI b)))
theorem okRcmp : PolOK base 65 pRcmp := still2 base_ok [(35, pRnorm), (92, pMags)] ⟨qit, okMags, trivial⟩ fun a b ⟨ha, hb⟩ => by
  refine Evs.of fun n m => ?_
  have lx := qck a
  have ly := qck b
  have hsz := size_val (a := a) (b := b)
  have hc := rcmp_val (qci a) (qci b)
  have e1 : ∀ (H : Heap) (k : AV → Heap → Option AV), polQ pRnorm [eN a] H k = k (eN (rnormS a)) H := fun H k => qRnorm ha
  have e2 : ∀ (H : Heap) (k : AV → Heap → Option AV), polQ pRnorm [eN b] H k = k (eN (rnormS b)) H := fun H k => qRnorm hb
  unfold few at ha hb
  rw [hc]
  clear hc
  generalize rnormS a = x at *
  generalize rnormS b = y at *
  have fx : few x.2 := by unfold few; omega
  have fy : few y.2 := by unfold few; omega
  have hr := cmp_rng (val (x.2.getD [])) (val (y.2.getD []))
  have e3 : ∀ (H : Heap) (k : AV → Heap → Option AV), polK pMags [eD x.2, eD y.2] H k = k (.int .i64 (cmpN (val (x.2.getD [])) (val (y.2.getD [])))) H := fun H k => by rw [kMags fx fy, hsz]
  generalize cmpN (val (x.2.getD [])) (val (y.2.getD [])) = c at *
  have hneg : A.un .neg (.int .i64 c) = some (.int .i64 (-c)) := by
    show some (AV.int .i64 (IntKind.wrap .i64 (0 - c))) = _
    rw [q0h (by omega) (by omega)]
    congr 2
    omega
  obtain ⟨x1, x2⟩ := x
  obtain ⟨y1, y2⟩ := y
  dsimp only at *
  have hbin : ∀ H, A.bin base.P .neq 4 (.bool x1) (.bool y1) false H = some (.bool !(x1 == y1)) := fun H => A.bin_bne q6o x1 y1
  cases x1 <;> cases y1 <;> simp [↓q00, ↓q0b, ↓q01, ↓q07, S65, A.ofList, A.fits, A.splice, e1, e2, hbin, e3, hneg]
theorem kRcmp {R : Type} {a b : Nm} (ha : few a.2) (hb : few b.2) {H : Heap} {k : AV → Heap → Option R} : polK pRcmp [eN a, eN b] H k = k (.int .i64 (cmpI (toI a) (toI b))) H := by
  simp [pRcmp, q0i, ha, hb]
end Go.Proofs.YtleikacgncpfbaaDoor

/- Any two terms: which is less, by the reference. -/
set_option maxRecDepth 100000
set_option maxHeartbeats 8000000
namespace Go.Proofs.YtleikacgncpfbaaDoor
open Go Go.Den Go.Lib
def okROne (t : Tm) : Prop := few t.d ∧ q1k t.name ∧ (t.b.getD []).length ≤ 1000000 ∧ t.kids.length ≤ 1000
def okR (t : Tm) : Prop := evT okROne t
theorem okR_eq {t : Tm} : okR t ↔ okROne t ∧ ∀ u ∈ t.kids, okR u := qel
noncomputable def pRcom (n : Nat) : Pol := .still (p2 cT cT (.int .i64) (fun a b => a.size ≤ n ∧ okR a ∧ okR b) cmpT)
theorem qRcom {n : Nat} {R : Type} {a b : Tm} (h : a.size ≤ n) (h2 : okR a) (h3 : okR b) {H : Heap} {k : AV → Heap → Option R} : polQ (pRcom n) [eT a, eT b] H k = k (.int .i64 (cmpT a b)) H := by
  simp [pRcom, q2d, h, h2, h3]
noncomputable abbrev TRcom (n : Nat) : List (FuncId × Pol) := [(26, pRcom n), (64, pOrd), (65, pRcmp), (66, pRless), (67, pByw)]
theorem qj1 {n : Nat} {a b : Tm} (hs : a.size ≤ n + 1) (ha : okR a) (hb : okR b) (hlen : a.kids.length = b.kids.length) (H : Heap) : ∀ (k i : Nat), i + k = a.kids.length →
    LDoes (L26_0 (polT (TRcom n))) ⟨[.int .i64 (i : Int)], [(eT a).cells, (eT b).cells]⟩ H (if cmpTs (a.kids.drop i) (b.kids.drop i) = 0 then 0 else 1) ⟨[if cmpTs (a.kids.drop i) (b.kids.drop i) = 0 then .undef else .int .i64 (cmpTs (a.kids.drop i) (b.kids.drop i))], []⟩ H := by
  have ha := okR_eq.1 ha
  have hb := okR_eq.1 hb
  have la : A.len (eL 7 eT a.l) H = some (.int .i64 ((a.kids.length : Nat) : Int)) := q08
  have oa : A.ofList false 1 (eT a).cells 5 = some (eL 7 eT a.l) := by rw [q02]; rfl
  have ob : A.ofList false 1 (eT b).cells 5 = some (eL 7 eT b.l) := by rw [q02]; rfl
  have hl : a.kids.length ≤ 1000 := ha.1.2.2.2
  intro k
  induction k with
  | zero =>
    intro i hi
    have : i = a.kids.length := by omega
    subst this
    have hz : cmpTs (a.kids.drop a.kids.length) (b.kids.drop a.kids.length) = 0 := by rw [List.drop_length, q2j]
    rw [hz]
    refine LDoes.step (Evs.of fun n m => ?_)
    generalize (eT a).cells = ca at *
    generalize (eT b).cells = cb at *
    generalize (a.kids.length : Int) = N at *
    simp [↓q00, ↓q01, -q08, q5s, oa, la]
  | succ k ih =>
    intro i hi
    have hlt : i < a.kids.length := by omega
    have hltb : i < b.kids.length := by omega
    have hlt' : (i : Int) < (a.kids.length : Int) := by omega
    have hmem : a.kids[i] ∈ a.kids := List.getElem_mem hlt
    have hmemb : b.kids[i] ∈ b.kids := List.getElem_mem hltb
    have xa : A.idx 7 (eL 7 eT a.l) (.int .i64 (i : Int)) H = some (.rop (eT a.kids[i]).cells) := q3u (sz := 7) (e := eT) (o := a.l) (H := H) (k := .i64) (i := i) hlt
    have xb : A.idx 7 (eL 7 eT b.l) (.int .i64 (i : Int)) H = some (.rop (eT b.kids[i]).cells) := q3u (sz := 7) (e := eT) (o := b.l) (H := H) (k := .i64) (i := i) hltb
    have da := q13 (t := a.kids[i]) (H := H)
    have db := q13 (t := b.kids[i]) (H := H)
    have hsz : (a.kids[i]).size ≤ n := by
      have := Tm.size_kid (t := a) (u := a.kids[i]) hmem
      omega
    have hr : ∀ (R : Type) (H : Heap) (k : AV → Heap → Option R), polQ (pRcom n) [eT a.kids[i], eT b.kids[i]] H k = k (.int .i64 (cmpT a.kids[i] b.kids[i])) H := fun R H k => qRcom hsz (ha.2 _ hmem) (hb.2 _ hmemb)
    have hi1 : IntKind.wrap .i64 ((i : Int) + 1) = (i : Int) + 1 := q0h (by omega) (by omega)
    have hL := ih (i + 1) (by omega)
    simp only [Int.natCast_add, Int.natCast_one] at hL
    rw [List.drop_eq_getElem_cons hlt, List.drop_eq_getElem_cons hltb, q2y]
    generalize cmpTs (a.kids.drop (i + 1)) (b.kids.drop (i + 1)) = Z at *
    generalize cmpT a.kids[i] b.kids[i] = C at *
    generalize (eT a).cells = ca at *
    generalize (eT b).cells = cb at *
    generalize eT a.kids[i] = va at *
    generalize eT b.kids[i] = vb at *
    generalize (a.kids.length : Int) = N at *
    by_cases hc : C = 0
    · have n1 : ¬ C ≠ 0 := fun g => g hc
      rw [if_neg n1]
      refine LDoes.step (Evs.withL hL (Evs.of fun n m _ h3 => ?_))
      simp [↓q00, ↓q01, -q08, q5s, oa, ob, la, hlt', xa, xb, da, db, hr, hi1, hc, h3]
    · rw [if_pos hc, if_neg hc, if_neg hc]
      refine LDoes.step (Evs.of fun n m => ?_)
      simp [↓q00, ↓q01, -q08, q5s, oa, ob, la, hlt', xa, xb, da, db, hr, hc]
theorem okRcom : ∀ n, PolOK base 26 (pRcom n)
  | 0 => still2 base_ok [] trivial fun a b ⟨hs, _⟩ => by
    have := a.size_eq
    omega
  | n + 1 => still2 base_ok (TRcom n) ⟨okRcom n, okOrd, okRcmp, okRless, okByw, trivial⟩ fun a b ⟨hs, ha0, hb0⟩ => by
    have ha := (okR_eq.1 ha0).1
    have hb := (okR_eq.1 hb0).1
    have hla : A.len (eL 7 eT a.l) [] = some (.int .i64 ((a.kids.length : Nat) : Int)) := q08
    have hlb : A.len (eL 7 eT b.l) [] = some (.int .i64 ((b.kids.length : Nat) : Int)) := q08
    have k0 : ∀ (R : Type) (H : Heap) (k : AV → Heap → Option R), polK pRcmp [.agg [.bool a.neg, eD a.d], .agg [.bool b.neg, eD b.d]] H k = k (.int .i64 (cmpI (toI (a.neg, a.d)) (toI (b.neg, b.d)))) H := fun R H k => kRcmp (a := (a.neg, a.d)) (b := (b.neg, b.d)) ha.1 hb.1
    have k1 : ∀ (R : Type) (H : Heap) (k : AV → Heap → Option R), polK pRless [.str a.name, .str b.name] H k = k (.int .i64 (lessR a.name b.name)) H := fun R H k => kRless ⟨ha.2.1, hb.2.1⟩
    have k7 : ∀ (R : Type) (H : Heap) (k : AV → Heap → Option R), polK pByw [eL 1 eb a.b, eL 1 eb b.b] H k = k (.int .i64 (lexR (nums (a.b.getD [])) (nums (b.b.getD [])))) H := fun R H k => by
      simp [pByw, q0i, bywOk, ha.2.2.1]
    have fa : A.fill [.bool false, .nils] [(0, 1, .bool a.neg), (1, 1, eD a.d)] = some [.bool a.neg, eD a.d] := by simp [A.fill, A.splice]
    have fb : A.fill [.bool false, .nils] [(0, 1, .bool b.neg), (1, 1, eD b.d)] = some [.bool b.neg, eD b.d] := by simp [A.fill, A.splice]
    rw [q64]
    by_cases hk : a.kind = b.kind
    · have hk' : b.kind = a.kind := hk.symm
      have n0 : ¬ a.kind ≠ b.kind := fun g => g hk
      unfold oneT
      rw [if_neg n0]
      by_cases c0 : a.kind = 0
      · generalize cmpI (toI (a.neg, a.d)) (toI (b.neg, b.d)) = Z at *
        rw [c0] at hk'
        refine Evs.of fun n m => ?_
        simp [↓q00, ↓q0b, ↓q01, ↓q07, -q08, S26, c0, hk', fa, fb, k0]
      by_cases c1 : a.kind = 1
      · generalize lessR a.name b.name = Z at *
        rw [c1] at hk'
        refine Evs.of fun n m => ?_
        simp [↓q00, ↓q0b, ↓q01, ↓q07, -q08, S26, c1, hk', k1]
      by_cases c2 : a.kind = 2
      · rw [c2] at hk'
        refine Evs.of fun n m => ?_
        simp [↓q00, ↓q03, ↓q0b, ↓q01, ↓q06, ↓q07, -q08, S26, c2, hk', kOrd]
      by_cases c3 : a.kind = 3
      · rw [c3] at hk'
        refine Evs.of fun n m => ?_
        simp [↓q00, ↓q03, ↓q0b, ↓q01, ↓q06, ↓q07, -q08, S26, c3, hk', kOrd]
      by_cases c7 : a.kind = 7
      · generalize lexR (nums (a.b.getD [])) (nums (b.b.getD [])) = Z at *
        rw [c7] at hk'
        refine Evs.of fun n m => ?_
        simp [↓q00, ↓q03, ↓q0b, ↓q01, ↓q06, ↓q07, -q08, S26, c7, hk', k7]
      by_cases c46 : a.kind = 4 ∨ a.kind = 6
      · by_cases hll : a.kids.length = b.kids.length
        · have hL := qj1 hs ha0 hb0 hll [] a.kids.length 0 (by omega)
          have hz : ordI (a.kids.length : Int) (b.kids.length : Int) = 0 := ord_zero.2 (by omega)
          rw [hz]
          simp only [List.drop_zero] at hL
          refine Evs.withL hL (Evs.of fun n m hl _ => ?_)
          rw [← hll] at hlb
          simp only [Int.natCast_zero] at hl
          rw [q02, q02, hk'] at hl
          generalize cmpTs a.kids b.kids = Z at *
          generalize (a.kids.length : Int) = N at *
          rcases c46 with c | c
          · rw [c] at hk' hl
            by_cases hZ : Z = 0
            · simp [↓q00, ↓q03, ↓q0b, ↓q01, ↓q06, ↓q07, -q08, S26, c, hk', hla, hlb, hl, hZ]
            · simp [↓q00, ↓q03, ↓q0b, ↓q01, ↓q06, ↓q07, -q08, S26, c, hk', hla, hlb, hl, hZ]
          · rw [c] at hk' hl
            by_cases hZ : Z = 0
            · simp [↓q00, ↓q03, ↓q0b, ↓q01, ↓q06, ↓q07, -q08, S26, c, hk', hla, hlb, hl, hZ]
            · simp [↓q00, ↓q03, ↓q0b, ↓q01, ↓q06, ↓q07, -q08, S26, c, hk', hla, hlb, hl, hZ]
        · have hne : ¬ ((a.kids.length : Int) = (b.kids.length : Int)) := by omega
          have hz : ¬ ordI (a.kids.length : Int) (b.kids.length : Int) = 0 := fun e => hll (by have := ord_zero.1 e; omega)
          generalize (a.kids.length : Int) = N at *
          generalize (b.kids.length : Int) = M at *
          refine Evs.of fun n m => ?_
          rcases c46 with c | c
          · rw [c] at hk'
            simp [↓q00, ↓q03, ↓q0b, ↓q01, ↓q06, ↓q07, -q08, S26, c, hk', hla, hlb, hne, kOrd, hz]
          · rw [c] at hk'
            simp [↓q00, ↓q03, ↓q0b, ↓q01, ↓q06, ↓q07, -q08, S26, c, hk', hla, hlb, hne, kOrd, hz]
      · have c4 : ¬ a.kind = 4 := fun h => c46 (.inl h)
        have c6 : ¬ a.kind = 6 := fun h => c46 (.inr h)
        refine Evs.of fun n m => ?_
        simp [↓q00, ↓q03, ↓q0b, ↓q01, ↓q06, ↓q07, -q08, S26, c0, c1, c2, c3, c4, c6, c7, hk']
    · have hz : ¬ ordI a.kind b.kind = 0 := fun e => hk (ord_zero.1 e)
      unfold oneT
      rw [if_pos hk, if_pos hz]
      refine Evs.of fun n m => ?_
      simp [↓q00, ↓q0b, ↓q01, ↓q07, -q08, S26, hk, kOrd]
noncomputable def pRcomA : Pol := .still (p2 cT cT (.int .i64) (fun a b => okR a ∧ okR b) cmpT)
theorem okRcomA : PolOK base 26 pRcomA := q4b (F := fun n => p2 cT cT (.int .i64) (fun a b => a.size ≤ n ∧ okR a ∧ okR b) cmpT) okRcom fun zs v h => by
  match zs, h with
  | [x, y], h =>
    simp only [p2_app, Option.bind_eq_some_iff] at h ⊢
    obtain ⟨a, ha, b, hb, h⟩ := h
    split at h
    · rename_i hc
      exact ⟨a.size, a, ha, b, hb, by rw [if_pos ⟨Nat.le_refl _, hc⟩]; exact h⟩
    · cases h
theorem kRcomA {R : Type} {a b : Tm} (h2 : okR a) (h3 : okR b) {H : Heap} {k : AV → Heap → Option R} : polK pRcomA [eT a, eT b] H k = k (.int .i64 (cmpT a b)) H := by
  simp [pRcomA, q0i, h2, h3]
end Go.Proofs.YtleikacgncpfbaaDoor

/- Any two terms: which is less, but for what is in them; of each kind. -/
set_option maxRecDepth 100000
set_option maxHeartbeats 4000000
namespace Go.Proofs.YtleikacgncpfbaaDoor
open Go Go.Den Go.Lib
/-! ### a pair of terms -/
def eP (p : Tm × Tm) : AV := .agg ((eT p.1).cells ++ (eT p.2).cells)
theorem q38 (p : Tm × Tm) : (eP p).cells = [.int .i64 p.1.kind, .bool p.1.neg, eD p.1.d, .str p.1.name, .int .i64 p.1.n, eL 7 eT p.1.l, eL 1 eb p.1.b, .int .i64 p.2.kind, .bool p.2.neg, eD p.2.d, .str p.2.name, .int .i64 p.2.n, eL 7 eT p.2.l, eL 1 eb p.2.b] := by
  unfold eP
  rw [q02, q02]
  rfl
theorem q79 (t : Tm) : eT t = .agg (eT t).cells := by rw [q02, q39]
theorem eP_inj (p q : Tm × Tm) (h : eP p = eP q) : p = q := by
  unfold eP at h
  injection h with h
  have l1 : (eT p.1).cells.length = 7 := by rw [q02]; rfl
  have l2 : (eT q.1).cells.length = 7 := by rw [q02]; rfl
  obtain ⟨h1, h2⟩ := List.append_inj h (by rw [l1, l2])
  have a1 : p.1 = q.1 := q99 _ _ (by rw [q79 p.1, q79 q.1, h1])
  have a2 : p.2 = q.2 := q99 _ _ (by rw [q79 p.2, q79 q.2, h2])
  exact Prod.ext a1 a2
theorem qh4 (p : Tm × Tm) : eP p = .agg [.int .i64 p.1.kind, .bool p.1.neg, eD p.1.d, .str p.1.name, .int .i64 p.1.n, eL 7 eT p.1.l, eL 1 eb p.1.b, .int .i64 p.2.kind, .bool p.2.neg, eD p.2.d, .str p.2.name, .int .i64 p.2.n, eL 7 eT p.2.l, eL 1 eb p.2.b] := by
  have := q38 p
  unfold eP at this ⊢
  exact congrArg AV.agg this
def cP : Cd (Tm × Tm) := ⟨eP, eP_inj, fun p => by rw [qh4]; simp⟩
@[simp] theorem enc_cP {a : Tm × Tm} : cP.enc a = eP a := id rfl
@[simp] theorem dec_cP {a : Tm × Tm} : cP.dec (eP a) = some a := cP.dec_enc a
@[simp] theorem imm_eP {p : Tm × Tm} : (eP p).imm = true := by rw [qh4]; simp
@[simp] theorem isDef_eP {p : Tm × Tm} : (eP p).isDef = true := by rw [qh4]; rfl
theorem qia {p : Tm × Tm} : (eP p).cells.length = 14 := by rw [q38]; rfl
theorem of_eP1 {p : Tm × Tm} : A.ofList true 7 (eP p).cells 0 = some (eT p.1) := by rw [q38, q39]; rfl
theorem of_eP2 {p : Tm × Tm} : A.ofList true 7 (eP p).cells 7 = some (eT p.2) := by rw [q38, q39]; rfl
theorem of_eP {p : Tm × Tm} : A.ofList true 14 (eP p).cells 0 = some (eP p) := by rw [q38, qh4]; rfl
theorem qh9 {a b : Tm} : (A.fill [(AV.int .i64 0), (AV.bool false), AV.nils, (AV.str []), (AV.int .i64 0), AV.nils, AV.nils, (AV.int .i64 0), (AV.bool false), AV.nils, (AV.str []), (AV.int .i64 0), AV.nils, AV.nils] [(0, 7, eT a), (7, 7, eT b)]).map .agg = some (eP (a, b)) := by
  rw [qh4]
  simp [A.fill, A.splice]
/-! ### a kind -/
noncomputable def pOkind : Pol := .still (p1 cT (.int .i64) (fun t => 0 ≤ t.kind ∧ t.kind ≤ 7) Tm.kind)
noncomputable def pInts : Pol := .still (p1 cP (.int .i64) (fun p => p.1.kind = 0 ∧ p.2.kind = 0 ∧ few p.1.d ∧ few p.2.d) fun p => cmpI (toI (p.1.neg, p.1.d)) (toI (p.2.neg, p.2.d)))
noncomputable def pAtoms : Pol := .still (p1 cP (.int .i64) (fun _ => True) fun p => lessR p.1.name p.2.name)
noncomputable def pNums : Pol := .still (p1 cP (.int .i64) (fun _ => True) fun p => ordI p.1.n p.2.n)
noncomputable def pTuples : Pol := .still (p1 cP (.int .i64) (fun _ => True) fun p => ordI (p.1.kids.length : Int) (p.2.kids.length : Int))
noncomputable def pNils : Pol := .still (p1 cP (.int .i64) (fun _ => True) fun _ => 0)
noncomputable def pBcmp : Pol := .still (p2 cBy cBy (.int .i64) (fun _ _ => True) fun a b => lexR (nums (a.getD [])) (nums (b.getD [])))
noncomputable def pBins : Pol := .still (p1 cP (.int .i64) (fun _ => True) fun p => lexR (nums (p.1.b.getD [])) (nums (p.2.b.getD [])))
end Go.Proofs.YtleikacgncpfbaaDoor

/- Two terms, but for what is in them. -/
set_option maxRecDepth 100000
set_option maxHeartbeats 4000000
namespace Go.Proofs.YtleikacgncpfbaaDoor
open Go Go.Den Go.Lib
noncomputable abbrev TOne : List (FuncId × Pol) := [(63, pOkind), (85, pCmpI), (86, pInts), (87, pAtoms), (88, pNums), (89, pTuples), (90, pNils), (91, pBins)]
def okK (t : Tm) : Prop := 0 ≤ t.kind ∧ t.kind ≤ 7 ∧ few t.d
noncomputable def pOne2 : Pol := .still (p1 cP (.int .i64) (fun p => okK p.1 ∧ okK p.2) fun p => oneT p.1 p.2)
end Go.Proofs.YtleikacgncpfbaaDoor

/- Any two terms: which is less, by the program. -/
set_option maxRecDepth 100000
set_option maxHeartbeats 4000000
namespace Go.Proofs.YtleikacgncpfbaaDoor
open Go Go.Den Go.Lib
/-! ### a pile -/
theorem qj0 {sz bytes ty q ver cap : Nat} {es todo news : List AV} {H : Heap} (hH : H[q]? = some (.row ver sz ty es)) (htk : es.take todo.length = todo) (hcap : todo.length ≤ cap) (h0 : 0 < bytes) (hb : (todo.length + news.length) * bytes ≤ 140737488355328) :
    ∃ ver' cap' es', A.append sz bytes ty (.sl q ver 0 todo.length cap) news H = some (.sl q ver' 0 (todo ++ news).length cap', H.set q (.row ver' sz ty es')) ∧ es'.take (todo ++ news).length = todo ++ news ∧ (todo ++ news).length ≤ cap' := by
  have hl : todo.length ≤ es.length := by
    have := congrArg List.length htk
    simp only [List.length_take] at this
    omega
  by_cases hc : todo.length + news.length ≤ cap
  · refine ⟨ver, cap, A.splice es todo.length news, ?_, ?_, by simpa using hc⟩
    · simp only [A.append, hH]
      rw [if_pos ⟨trivial, trivial, trivial, by omega, hcap, hb, h0⟩, if_pos hc]
      simp
    · have : A.splice es todo.length news = es.take todo.length ++ news ++ es.drop (todo.length + news.length) := rfl
      rw [this, htk, List.take_append_of_le_length (by simp), List.take_of_length_le (by simp)]
  · refine ⟨ver + 1, (todo ++ news).length, todo ++ news, ?_, ?_, Nat.le_refl _⟩
    · simp only [A.append, hH]
      rw [if_pos ⟨trivial, trivial, trivial, by omega, hcap, hb, h0⟩, if_neg hc]
      simp [htk]
    · rw [List.take_of_length_le (by simp)]
theorem qe6 : ∀ a b : List Tm, Tm.sizes (a ++ b) = Tm.sizes a + Tm.sizes b
  | [], b => by simp [Tm.sizes]
  | t :: a, b => by simp only [List.cons_append, Tm.sizes, qe6 a b]; omega
theorem qe7 : ∀ l : List Tm, l.length ≤ Tm.sizes l
  | [] => by simp
  | t :: l => by
    have := qe7 l
    have h := t.size_eq
    simp only [List.length_cons, Tm.sizes]
    omega
/-! ### what is still to be compared, the next one first -/
noncomputable def cmpSt : List (Tm × Tm) → Int
  | [] => 0
  | p :: r => if cmpT p.1 p.2 ≠ 0 then cmpT p.1 p.2 else cmpSt r
def okOneT (t : Tm) : Prop := okK t ∧ t.kids.length ≤ 1000
def okA (t : Tm) : Prop := evT okOneT t
theorem okA_eq {t : Tm} : okA t ↔ okOneT t ∧ ∀ u ∈ t.kids, okA u := qel
noncomputable abbrev TCom : List (FuncId × Pol) := [(62, pOne2), (63, pOkind)]
theorem fits_eP {p : Tm × Tm} : A.fits 14 (eP p) = true := by
  have := q38 p
  unfold A.fits
  rw [this]
  cases p.1.d <;> cases p.2.d <;> cases p.1.l <;> cases p.2.l <;> cases p.1.b <;> cases p.2.b <;> rfl
theorem topP {es : List AV} {Q : List (Tm × Tm)} {x : Tm × Tm} (h : es.take ((Q ++ [x]).map eP).length = (Q ++ [x]).map eP) : es[(Q.map eP).length]? = some (eP x) ∧ (Q.map eP).length + 1 ≤ es.length ∧ es.take (Q.map eP).length = Q.map eP := by
  have e : (Q ++ [x]).map eP = Q.map eP ++ [eP x] := by simp
  rw [e] at h
  generalize Q.map eP = T at *
  have hl := congrArg List.length h
  simp only [List.length_take, List.length_append, List.length_cons, List.length_nil] at hl
  have h2 := congrArg (fun l => l[T.length]?) h
  simp only [List.getElem?_take] at h2
  refine ⟨?_, by omega, ?_⟩
  · rw [if_pos (by simp)] at h2
    rw [h2]
    simp
  · have h3 := congrArg (List.take T.length) h
    rw [List.take_take] at h3
    simpa using h3
noncomputable def pCom : Pol := .still (p2 cT cT (.int .i64) (fun a b => okA a ∧ okA b ∧ a.size ≤ 1000000000) cmpT)
end Go.Proofs.YtleikacgncpfbaaDoor

/- Terms, the reference: how many parts a term has. -/
set_option maxRecDepth 100000
set_option maxHeartbeats 4000000
namespace Go.Proofs.YtleikacgncpfbaaDoor
open Go Go.Den
theorem szs_drop {l : List Tm} {i : Nat} (h : i < l.length) : szs (l.drop i) = szT l[i] + szs (l.drop (i + 1)) := by
  rw [List.drop_eq_getElem_cons h, szs]
theorem min_int {a b : Int} {k : IntKind} : A.minv (.int k a) (.int k b) = some (.int k (if b < a then b else a)) := by simp [A.minv]
noncomputable def pRtree (n : Nat) : Pol := .still (p1 cT (fun n : Nat => .int .i64 (n : Int)) (fun t => t.size ≤ n ∧ t.thin 1000) (fun t => min (szT t) 65537))
theorem kRtree {n : Nat} {R : Type} {t : Tm} (h : t.size ≤ n) (h2 : t.thin 1000) {H : Heap} {k : AV → Heap → Option R} : polK (pRtree n) [eT t] H k = k (.int .i64 ((min (szT t) 65537 : Nat) : Int)) H := by
  simp [pRtree, q0i, h, h2]
theorem qge {n : Nat} {t : Tm} {H : Heap} (hs : t.size ≤ n + 1) (ht : t.thin 1000) (hB : Go.Den.Box H 0 7 26 (eT t).cells) : ∀ (k i c : Nat), i + k = t.kids.length → c ≤ 200000 →
    ∃ c' : Nat, min c' 65537 = min (c + szs (t.kids.drop i)) 65537 ∧ LDoes (qfk (polT [(20, pRtree n)])) ⟨[.ptr 0 0 0 0, .int .i64 (c : Int), .int .i64 (i : Int)], []⟩ H 0 ⟨[.int .i64 (c' : Int)], []⟩ H := by
  have p1 := hB.fa (o := 5)
  have p2 := hB.load (o := 5)
  rw [q02] at p2
  simp only [List.getElem?_cons_succ, List.getElem?_cons_zero] at p2
  have hl : t.kids.length ≤ 1000 := (Tm.thin_eq.1 ht).1
  have hlen : A.len (eL 7 eT t.l) H = some (.int .i64 ((t.kids.length : Nat) : Int)) := q08
  intro k
  induction k with
  | zero =>
    intro i c hi hc
    have : i = t.kids.length := by omega
    subst this
    have h0 : szs [] = 0 := by rw [szs]
    rw [List.drop_length, h0]
    refine ⟨c, rfl, LDoes.step (Evs.of fun n m => ?_)⟩
    generalize (t.kids.length : Int) = N at *
    simp [↓q00, ↓q01, ↓q05, ↓q04, q5r, p1, p2, hlen]
  | succ k ih =>
    intro i c hi hc
    have hlt : i < t.kids.length := by omega
    have hlt' : (i : Int) < (t.kids.length : Int) := by omega
    by_cases h6 : c ≤ 65536
    · have h6' : (c : Int) ≤ 65536 := by omega
      have hx : A.idx 7 (eL 7 eT t.l) (.int .i64 (i : Int)) H = some (.rop (eT t.kids[i]).cells) := q3u (sz := 7) (e := eT) (o := t.l) (H := H) (k := .i64) (i := i) hlt
      have hi1 : IntKind.wrap .i64 ((i : Int) + 1) = (i : Int) + 1 := q0h (by omega) (by omega)
      have hsz : (t.kids[i]).size ≤ n := by
        have := Tm.size_kid (t := t) (u := t.kids[i]) (List.getElem_mem hlt)
        omega
      have hr : ∀ (R : Type) (H : Heap) (k : AV → Heap → Option R), polK (pRtree n) [eT t.kids[i]] H k = k (.int .i64 ((min (szT t.kids[i]) 65537 : Nat) : Int)) H := fun R H k => kRtree hsz ((Tm.thin_eq.1 ht).2 _ (List.getElem_mem hlt))
      have hld := q13 (t := t.kids[i]) (H := H)
      generalize hm : min (szT t.kids[i]) 65537 = m at *
      obtain ⟨c', hc', hL⟩ := ih (i + 1) (c + m) (by omega) (by omega)
      have hw : IntKind.wrap .i64 ((c : Int) + (m : Int)) = (c : Int) + (m : Int) := q0h (by omega) (by omega)
      simp only [Int.natCast_add, Int.natCast_one] at hL
      refine ⟨c', ?_, LDoes.step (Evs.withL hL (Evs.of fun n m _ h2 => ?_))⟩
      · rw [hc', szs_drop hlt]
        omega
      · generalize (eT t.kids[i]).cells = cs at *
        generalize eT t.kids[i] = v at *
        generalize (t.kids.length : Int) = N at *
        simp [↓q00, ↓q01, ↓q05, ↓q04, q5r, p1, p2, hlen, hlt', h6', hx, hld, hr, hw, hi1, h2]
    · have h6' : ¬ (c : Int) ≤ 65536 := by omega
      refine ⟨c, by omega, LDoes.step (Evs.of fun n m => ?_)⟩
      generalize (t.kids.length : Int) = N at *
      simp [↓q00, ↓q01, ↓q05, ↓q04, q5r, p1, p2, hlen, hlt', h6']
theorem qiu : ∀ n, PolOK base 20 (pRtree n)
  | 0 => still1 base_ok [] trivial fun t ⟨hs, _⟩ => by
    have := t.size_eq
    omega
  | n + 1 => still1 base_ok [(20, pRtree n)] ⟨qiu n, trivial⟩ fun t ⟨hs, ht⟩ => by
    have hB := q51 t [.row 0 7 26 [eT t]] 0 rfl
    have p := fun o => hB.fa (o := o)
    have q := fun o => hB.load (o := o)
    rw [q02] at q
    have q0 := q 0
    simp only [List.getElem?_cons_zero] at q0
    have hce : (eT t).cells.length = 7 := by rw [q02]; rfl
    obtain ⟨c', hc', hL⟩ := qge (n := n) (t := t) hs ht hB t.kids.length 0 1 (by omega) (by omega)
    have hmin : ∀ a : Nat, A.minv (.int .i64 (a : Int)) (.int .i64 65537) = some (.int .i64 ((min a 65537 : Nat) : Int)) := fun a => by
      rw [min_int]
      congr 2
      split <;> omega
    refine Evs.withL hL (Evs.of fun n m h1 _ => ?_)
    rw [szT_eq]
    unfold partsO
    by_cases c4 : t.kind = 4
    · have e : min c' 65537 = min (1 + szs (t.l.getD [])) 65537 := hc'
      rw [if_pos (Or.inl c4), ← e]
      rw [c4] at q0
      have h1' : qfk (polT [(20, pRtree _)]) n n ⟨[.ptr 0 0 0 0, .int .i64 1, .int .i64 0], []⟩ [.row 0 7 26 [eT t]] = some (0, ⟨[.int .i64 (c' : Int)], []⟩, [.row 0 7 26 [eT t]]) := h1
      have hm := hmin c'
      generalize ((min c' 65537 : Nat) : Int) = r at *
      simp [-q02, S20, hce, p, q0, h1', hm]
    · by_cases c6 : t.kind = 6
      · have e : min c' 65537 = min (1 + szs (t.l.getD [])) 65537 := hc'
        rw [if_pos (Or.inr c6), ← e]
        rw [c6] at q0
        have h1' : qfk (polT [(20, pRtree _)]) n n ⟨[.ptr 0 0 0 0, .int .i64 1, .int .i64 0], []⟩ [.row 0 7 26 [eT t]] = some (0, ⟨[.int .i64 (c' : Int)], []⟩, [.row 0 7 26 [eT t]]) := h1
        have hm := hmin c'
        generalize ((min c' 65537 : Nat) : Int) = r at *
        simp [-q02, S20, hce, p, q0, h1', hm]
      · rw [if_neg (by omega)]
        have e0 : min (1 + szs ((none : Option (List Tm)).getD [])) 65537 = 1 := by
          have h0 : szs [] = 0 := by rw [szs]
          show min (1 + szs []) 65537 = 1
          rw [h0]
          rfl
        have hm := hmin 1
        rw [e0]
        simp only [Int.natCast_one] at hm
        simp [-q02, S20, hce, p, q0, c4, c6]
end Go.Proofs.YtleikacgncpfbaaDoor

/- Terms, the reference: how many words a term takes. -/
set_option maxRecDepth 100000
set_option maxHeartbeats 4000000
namespace Go.Proofs.YtleikacgncpfbaaDoor
open Go Go.Den
def fineW (t : Tm) : Prop := t.thin 1000 ∧ t.fewd ∧ szT t ≤ 65536
noncomputable def pRwords (n : Nat) : Pol := .still (p1 cT (fun n : Nat => .int .i64 (n : Int)) (fun t => t.size ≤ n ∧ fineW t) wT)
noncomputable abbrev TRw (n : Nat) : List (FuncId × Pol) := [(22, pRwords n), (33, pSmallof), (35, pRnorm)]
end Go.Proofs.YtleikacgncpfbaaDoor

/- Terms, the reference: may one be, but for how many parts it has. -/
set_option maxRecDepth 100000
set_option maxHeartbeats 8000000
namespace Go.Proofs.YtleikacgncpfbaaDoor
open Go Go.Den
theorem q0x {t : TypeId} {c : Bool} {H : Heap} (s : List UInt8) : A.bin base.P .neq t (.str s) (.str []) c H = some (.bool (!decide (s = []))) := by
  cases s <;> rfl
theorem q3o {a : Nm} (h : few a.2) : few (rnormS a).2 := by
  unfold few at h ⊢
  have e : (rnormS a).2.getD [] = lim (val (a.2.getD [])) := by
    unfold rnormS
    cases lim (val (a.2.getD [])) <;> rfl
  have := q2g (a.2.getD [])
  rw [e]
  omega
noncomputable def pRmay (n : Nat) : Pol := .still (p1 cT .bool (fun t => t.size ≤ n ∧ tame t) (mayT countR))
theorem kRmay {n : Nat} {R : Type} {t : Tm} (h : t.size ≤ n) (h2 : tame t) {H : Heap} {k : AV → Heap → Option R} : polK (pRmay n) [eT t] H k = k (.bool (mayT countR t)) H := by
  simp [pRmay, q0i, h, h2]
noncomputable abbrev TRm (n : Nat) : List (FuncId × Pol) := [(57, pRmay n), (35, pRnorm), (34, pSame), (80, q2b), (81, q3d)]
theorem q3w {n : Nat} {t : Tm} {H : Heap} (hs : t.size ≤ n + 1) (ht : tame t) (hB : Go.Den.Box H 0 7 26 (eT t).cells) : ∀ (k i : Nat), i + k = t.kids.length →
    LDoes (L57_0 (polT (TRm n))) ⟨[.ptr 0 0 0 0, .int .i64 (i : Int)], []⟩ H (if (t.kids.drop i).all (mayT countR) then 0 else 1) ⟨[if (t.kids.drop i).all (mayT countR) then .undef else .bool false], []⟩ H := by
  have p1 := hB.fa (o := 5)
  have p2 := hB.load (o := 5)
  rw [q02] at p2
  simp only [List.getElem?_cons_succ, List.getElem?_cons_zero] at p2
  have hl : t.kids.length ≤ 1000 := (tame_eq.1 ht).1.2.2
  have hlen : A.len (eL 7 eT t.l) H = some (.int .i64 ((t.kids.length : Nat) : Int)) := q08
  intro k
  induction k with
  | zero =>
    intro i hi
    have : i = t.kids.length := by omega
    subst this
    rw [List.drop_length]
    refine LDoes.step (Evs.of fun n m => ?_)
    generalize (t.kids.length : Int) = N at *
    simp [-q08, q5w, p1, p2, hlen]
  | succ k ih =>
    intro i hi
    have hlt : i < t.kids.length := by omega
    have hlt' : (i : Int) < (t.kids.length : Int) := by omega
    have hmem : t.kids[i] ∈ t.kids := List.getElem_mem hlt
    have hx : A.idx 7 (eL 7 eT t.l) (.int .i64 (i : Int)) H = some (.rop (eT t.kids[i]).cells) := q3u (sz := 7) (e := eT) (o := t.l) (H := H) (k := .i64) (i := i) hlt
    have hi1 : IntKind.wrap .i64 ((i : Int) + 1) = (i : Int) + 1 := q0h (by omega) (by omega)
    have hsz : (t.kids[i]).size ≤ n := by
      have := Tm.size_kid (t := t) (u := t.kids[i]) hmem
      omega
    have hr : ∀ (R : Type) (H : Heap) (k : AV → Heap → Option R), polK (pRmay n) [eT t.kids[i]] H k = k (.bool (mayT countR t.kids[i])) H := fun R H k => kRmay hsz ((tame_eq.1 ht).2 _ hmem)
    have hld := q13 (t := t.kids[i]) (H := H)
    have hL := ih (i + 1) (by omega)
    simp only [Int.natCast_add, Int.natCast_one] at hL
    rw [List.drop_eq_getElem_cons hlt, List.all_cons]
    generalize (t.kids.drop (i + 1)).all (mayT countR) = rest at *
    generalize (eT t.kids[i]).cells = cs at *
    generalize (t.kids.length : Int) = N at *
    cases hm : mayT countR t.kids[i]
    · rw [hm] at hr
      generalize eT t.kids[i] = v at *
      refine LDoes.step (Evs.of fun n m => ?_)
      simp [-q08, q5w, p1, p2, hlen, hlt', hx, hld, hr]
    · rw [hm] at hr
      generalize eT t.kids[i] = v at *
      refine LDoes.step (Evs.withL hL (Evs.of fun n m _ h2 => ?_))
      simp [-q08, q5w, p1, p2, hlen, hlt', hx, hld, hr, hi1, h2]
end Go.Proofs.YtleikacgncpfbaaDoor

/- Terms, the reference: may one be, but for how many parts it has: kinds 0, 1. -/
set_option maxRecDepth 100000
set_option maxHeartbeats 8000000
namespace Go.Proofs.YtleikacgncpfbaaDoor
open Go Go.Den
theorem rmay_A (n : Nat) (t : Tm) (hs : t.size ≤ n + 1) (ht : tame t) (hkd : t.kind = 0 ∨ t.kind = 1) : Evs fun n' _ => callF (base.with (polT (TRm n))) (n' + 1) AV 57 [cT.enc t] [] (fun v G => A.freezeB true 64 G v) = some (.bool (mayT countR t)) := by
  have hB : Go.Den.Box [.row 0 7 26 [eT t]] 0 7 26 (eT t).cells := q51 t _ 0 rfl
  have p := fun o => hB.fa (o := o)
  have q := fun o => hB.load (o := o)
  rw [q02] at q
  have q0 := q 0
  have q1 := q 1
  have q2 := q 2
  have q3 := q 3
  have q4 := q 4
  have q5 := q 5
  have q6 := q 6
  simp only [List.getElem?_cons_succ, List.getElem?_cons_zero] at q0 q1 q2 q3 q4 q5 q6
  have hcl : (eT t).cells.length = 7 := by rw [q02]; rfl
  have hl5 : A.len (eL 7 eT t.l) [.row 0 7 26 [eT t]] = some (.int .i64 ((t.kids.length : Nat) : Int)) := q08
  have hl2 : A.len (eD t.d) [.row 0 7 26 [eT t]] = some (.int .i64 ((t.d.getD []).length : Int)) := q08
  have hl6 : A.len (eL 1 eb t.b) [.row 0 7 26 [eT t]] = some (.int .i64 ((t.b.getD []).length : Int)) := q08
  have hsn := fun H => q0x (t := 9) (c := true) (H := H) t.name
  have hs0 := fun H => q0x (t := 9) (c := true) (H := H) []
  have hfew : few t.d := (tame_eq.1 ht).1.1
  have hnl : q1k t.name := (tame_eq.1 ht).1.2.1
  have hnm : ∀ (R : Type) (H : Heap) (k : AV → Heap → Option R), polK pRnorm [.agg [.bool t.neg, eD t.d]] H k = k (eN (rnormS (t.neg, t.d))) H := fun R H k => kRnorm (a := (t.neg, t.d)) hfew
  have hsm : ∀ (R : Type) (H : Heap) (k : AV → Heap → Option R), polK pSame [.agg [.bool t.neg, eD t.d], eN (rnormS (t.neg, t.d))] H k = k (.bool (sameS (t.neg, t.d) (rnormS (t.neg, t.d)))) H := fun R H k => kSame (a := (t.neg, t.d)) hfew (q3o hfew)
  have hfill : A.fill [.bool false, .nils] [(0, 1, .bool t.neg), (1, 1, eD t.d)] = some [.bool t.neg, eD t.d] := by simp [A.fill, A.splice]
  have hva : ∀ (R : Type) (H : Heap) (k : AV → Heap → Option R), polK q2b [.str t.name] H k = k (.bool (Lib.validD t.name)) H := fun R H k => q2v
  have hco : ∀ (R : Type) (H : Heap) (k : AV → Heap → Option R), polK q3d [.str t.name] H k = k (.int .i64 (countR t.name)) H := fun R H k => q86 hnl
  have hcv := q27 (s := t.name)
  have hL := q3w hs ht hB t.kids.length 0 (by omega)
  rw [List.drop_zero] at hL
  have hrest : ∀ kd, t.kind = kd → (kd = 4 ∨ kd = 6) → ((partsO t).getD []).all (mayT countR) = t.kids.all (mayT countR) := fun kd e hkd => by
    unfold partsO
    rw [if_pos (by rw [e]; exact hkd)]
    rfl
  have hrest0 : t.kind ≠ 4 → t.kind ≠ 6 → ((partsO t).getD []).all (mayT countR) = true := fun e1 e2 => by
    unfold partsO
    rw [if_neg (by omega)]
    rfl
  rw [q4q]
  unfold oneS spareS
  rw [← q31]
  generalize sameS (t.neg, t.d) (rnormS (t.neg, t.d)) = sn at *
  generalize rnormS (t.neg, t.d) = rn at *
  generalize ((partsO t).getD []).all (mayT countR) = rest at *
  generalize t.kids.all (mayT countR) = kall at *
  generalize countR t.name = cn at *
  generalize Lib.validD t.name = vn at *
  generalize t.kids.length = nl at *
  generalize (t.d.getD []).length = nd at *
  generalize (t.b.getD []).length = nb at *
  generalize t.kind = kd at *
  generalize t.neg = ng at *
  generalize t.n = nn at *
  generalize eL 7 eT t.l = vl at *
  generalize eD t.d = vd at *
  generalize eL 1 eb t.b = vb at *
  clear q
  have e64 : decide ((nd : Int) ≤ 64) = decide (nd ≤ 64) := decide_eq_decide.2 (by omega)
  have e4096 : decide ((nb : Int) ≤ 4096) = decide (nb ≤ 4096) := decide_eq_decide.2 (by omega)
  by_cases c0 : kd = 0
  case pos =>
    by_cases a5 : t.name = []
    case neg =>
      exact Evs.of fun n m => by simp [-q08, -q02, S57, hcl, p, q0, q2, q3, q6, hl2, hl6, hsn, c0, a5]
    by_cases a3 : nn = 0
    case neg =>
      exact Evs.of fun n m => by simp [-q08, -q02, S57, hcl, p, q0, q2, q3, q4, q6, hl2, hl6, hs0, c0, a5, a3]
    by_cases a4 : nl = 0
    case neg =>
      have a4p : 0 < nl := by omega
      exact Evs.of fun n m => by simp [-q08, -q02, S57, hcl, p, q0, q2, q3, q4, q5, q6, hl5, hl2, hl6, hs0, c0, a5, a3, a4, a4p]
    by_cases a6 : nb = 0
    case neg =>
      have a6p : 0 < nb := by omega
      exact Evs.of fun n m => by simp [-q08, -q02, S57, hcl, p, q0, q2, q3, q4, q5, q6, hl5, hl2, hl6, hs0, c0, a5, a3, a4, a6, a6p]
    have hr := hrest0 (by omega) (by omega)
    by_cases h64 : nd ≤ 64
    · exact Evs.of fun n m => by simp [-q08, -q02, S57, hcl, p, q0, q1, q2, q3, q4, q5, q6, hl5, hl2, hl6, hs0, c0, a5, a3, a4, a6, e64, h64, hfill, hnm, hsm, hr, AV.beq_refl, AV.heapy]
    · exact Evs.of fun n m => by simp [-q08, -q02, S57, hcl, p, q0, q2, q3, q4, q5, q6, hl5, hl2, hl6, hs0, c0, a5, a3, a4, a6, e64, h64, hr, AV.heapy]
  by_cases c1 : kd = 1
  case pos =>
    by_cases a1 : ng = true
    case pos =>
      exact Evs.of fun n m => by simp [-q08, -q02, S57, hcl, p, q0, q1, q2, q3, q6, hl2, hl6, c1, a1]
    by_cases a2 : nd = 0
    case neg =>
      have a2p : 0 < nd := by omega
      exact Evs.of fun n m => by simp [-q08, -q02, S57, hcl, p, q0, q1, q2, q3, q6, hl2, hl6, c1, a1, a2, a2p]
    by_cases a3 : nn = 0
    case neg =>
      exact Evs.of fun n m => by simp [-q08, -q02, S57, hcl, p, q0, q1, q2, q3, q4, q6, hl2, hl6, c1, a1, a2, a3]
    by_cases a4 : nl = 0
    case neg =>
      have a4p : 0 < nl := by omega
      exact Evs.of fun n m => by simp [-q08, -q02, S57, hcl, p, q0, q1, q2, q3, q4, q5, q6, hl5, hl2, hl6, c1, a1, a2, a3, a4, a4p]
    by_cases a6 : nb = 0
    case neg =>
      have a6p : 0 < nb := by omega
      exact Evs.of fun n m => by simp [-q08, -q02, S57, hcl, p, q0, q1, q2, q3, q4, q5, q6, hl5, hl2, hl6, c1, a1, a2, a3, a4, a6, a6p]
    have hr := hrest0 (by omega) (by omega)
    cases vn
    · have h0 : ¬ 0 ≤ cn := fun h => by simpa using hcv.1 h
      exact Evs.of fun n m => by simp [-q08, -q02, S57, hcl, p, q0, q1, q2, q3, q4, q5, q6, hl5, hl2, hl6, c1, a1, a2, a3, a4, a6, hva, h0, hr]
    · have h0 : 0 ≤ cn := hcv.2 rfl
      exact Evs.of fun n m => by simp [-q08, -q02, S57, hcl, p, q0, q1, q2, q3, q4, q5, q6, hl5, hl2, hl6, c1, a1, a2, a3, a4, a6, hva, hco, h0, hr]
  omega
end Go.Proofs.YtleikacgncpfbaaDoor

/- Terms, the reference: may one be, but for how many parts it has: kinds 2, 3. -/
set_option maxRecDepth 100000
set_option maxHeartbeats 8000000
namespace Go.Proofs.YtleikacgncpfbaaDoor
open Go Go.Den
theorem rmay_B (n : Nat) (t : Tm) (hs : t.size ≤ n + 1) (ht : tame t) (hkd : t.kind = 2 ∨ t.kind = 3) : Evs fun n' _ => callF (base.with (polT (TRm n))) (n' + 1) AV 57 [cT.enc t] [] (fun v G => A.freezeB true 64 G v) = some (.bool (mayT countR t)) := by
  have hB : Go.Den.Box [.row 0 7 26 [eT t]] 0 7 26 (eT t).cells := q51 t _ 0 rfl
  have p := fun o => hB.fa (o := o)
  have q := fun o => hB.load (o := o)
  rw [q02] at q
  have q0 := q 0
  have q1 := q 1
  have q2 := q 2
  have q3 := q 3
  have q4 := q 4
  have q5 := q 5
  have q6 := q 6
  simp only [List.getElem?_cons_succ, List.getElem?_cons_zero] at q0 q1 q2 q3 q4 q5 q6
  have hcl : (eT t).cells.length = 7 := by rw [q02]; rfl
  have hl5 : A.len (eL 7 eT t.l) [.row 0 7 26 [eT t]] = some (.int .i64 ((t.kids.length : Nat) : Int)) := q08
  have hl2 : A.len (eD t.d) [.row 0 7 26 [eT t]] = some (.int .i64 ((t.d.getD []).length : Int)) := q08
  have hl6 : A.len (eL 1 eb t.b) [.row 0 7 26 [eT t]] = some (.int .i64 ((t.b.getD []).length : Int)) := q08
  have hsn := fun H => q0x (t := 9) (c := true) (H := H) t.name
  have hs0 := fun H => q0x (t := 9) (c := true) (H := H) []
  have hfew : few t.d := (tame_eq.1 ht).1.1
  have hnl : q1k t.name := (tame_eq.1 ht).1.2.1
  have hnm : ∀ (R : Type) (H : Heap) (k : AV → Heap → Option R), polK pRnorm [.agg [.bool t.neg, eD t.d]] H k = k (eN (rnormS (t.neg, t.d))) H := fun R H k => kRnorm (a := (t.neg, t.d)) hfew
  have hsm : ∀ (R : Type) (H : Heap) (k : AV → Heap → Option R), polK pSame [.agg [.bool t.neg, eD t.d], eN (rnormS (t.neg, t.d))] H k = k (.bool (sameS (t.neg, t.d) (rnormS (t.neg, t.d)))) H := fun R H k => kSame (a := (t.neg, t.d)) hfew (q3o hfew)
  have hfill : A.fill [.bool false, .nils] [(0, 1, .bool t.neg), (1, 1, eD t.d)] = some [.bool t.neg, eD t.d] := by simp [A.fill, A.splice]
  have hva : ∀ (R : Type) (H : Heap) (k : AV → Heap → Option R), polK q2b [.str t.name] H k = k (.bool (Lib.validD t.name)) H := fun R H k => q2v
  have hco : ∀ (R : Type) (H : Heap) (k : AV → Heap → Option R), polK q3d [.str t.name] H k = k (.int .i64 (countR t.name)) H := fun R H k => q86 hnl
  have hcv := q27 (s := t.name)
  have hL := q3w hs ht hB t.kids.length 0 (by omega)
  rw [List.drop_zero] at hL
  have hrest : ∀ kd, t.kind = kd → (kd = 4 ∨ kd = 6) → ((partsO t).getD []).all (mayT countR) = t.kids.all (mayT countR) := fun kd e hkd => by
    unfold partsO
    rw [if_pos (by rw [e]; exact hkd)]
    rfl
  have hrest0 : t.kind ≠ 4 → t.kind ≠ 6 → ((partsO t).getD []).all (mayT countR) = true := fun e1 e2 => by
    unfold partsO
    rw [if_neg (by omega)]
    rfl
  rw [q4q]
  unfold oneS spareS
  rw [← q31]
  generalize sameS (t.neg, t.d) (rnormS (t.neg, t.d)) = sn at *
  generalize rnormS (t.neg, t.d) = rn at *
  generalize ((partsO t).getD []).all (mayT countR) = rest at *
  generalize t.kids.all (mayT countR) = kall at *
  generalize countR t.name = cn at *
  generalize Lib.validD t.name = vn at *
  generalize t.kids.length = nl at *
  generalize (t.d.getD []).length = nd at *
  generalize (t.b.getD []).length = nb at *
  generalize t.kind = kd at *
  generalize t.neg = ng at *
  generalize t.n = nn at *
  generalize eL 7 eT t.l = vl at *
  generalize eD t.d = vd at *
  generalize eL 1 eb t.b = vb at *
  clear q
  have e64 : decide ((nd : Int) ≤ 64) = decide (nd ≤ 64) := decide_eq_decide.2 (by omega)
  have e4096 : decide ((nb : Int) ≤ 4096) = decide (nb ≤ 4096) := decide_eq_decide.2 (by omega)
  have c0 : ¬ kd = 0 := by omega
  have c1 : ¬ kd = 1 := by omega
  by_cases c2 : kd = 2
  case pos =>
    by_cases a1 : ng = true
    case pos =>
      exact Evs.of fun n m => by simp [-q08, -q02, S57, hcl, p, q0, q1, q2, q3, q4, hl2, c2, a1]
    by_cases a2 : nd = 0
    case neg =>
      have a2p : 0 < nd := by omega
      exact Evs.of fun n m => by simp [-q08, -q02, S57, hcl, p, q0, q1, q2, q3, q4, hl2, c2, a1, a2, a2p]
    by_cases a5 : t.name = []
    case neg =>
      exact Evs.of fun n m => by simp [-q08, -q02, S57, hcl, p, q0, q1, q2, q3, q4, hl2, hsn, c2, a1, a2, a5]
    by_cases a4 : nl = 0
    case neg =>
      have a4p : 0 < nl := by omega
      exact Evs.of fun n m => by simp [-q08, -q02, S57, hcl, p, q0, q1, q2, q3, q4, q5, hl5, hl2, hs0, c2, a1, a2, a5, a4, a4p]
    by_cases a6 : nb = 0
    case neg =>
      have a6p : 0 < nb := by omega
      exact Evs.of fun n m => by simp [-q08, -q02, S57, hcl, p, q0, q1, q2, q3, q4, q5, q6, hl5, hl2, hl6, hs0, c2, a1, a2, a5, a4, a6, a6p]
    have hr := hrest0 (by omega) (by omega)
    by_cases h0 : 0 ≤ nn
    · exact Evs.of fun n m => by simp [-q08, -q02, S57, hcl, p, q0, q1, q2, q3, q4, q5, q6, hl5, hl2, hl6, hs0, c2, a1, a2, a5, a4, a6, h0, hr]
    · exact Evs.of fun n m => by simp [-q08, -q02, S57, hcl, p, q0, q1, q2, q3, q4, q5, q6, hl5, hl2, hl6, hs0, c2, a1, a2, a5, a4, a6, h0, hr]
  by_cases c3 : kd = 3
  case pos =>
    by_cases a1 : ng = true
    case pos =>
      exact Evs.of fun n m => by simp [-q08, -q02, S57, hcl, p, q0, q1, q2, q3, q4, hl2, c3, a1]
    by_cases a2 : nd = 0
    case neg =>
      have a2p : 0 < nd := by omega
      exact Evs.of fun n m => by simp [-q08, -q02, S57, hcl, p, q0, q1, q2, q3, q4, hl2, c3, a1, a2, a2p]
    by_cases a5 : t.name = []
    case neg =>
      exact Evs.of fun n m => by simp [-q08, -q02, S57, hcl, p, q0, q1, q2, q3, q4, hl2, hsn, c3, a1, a2, a5]
    by_cases a4 : nl = 0
    case neg =>
      have a4p : 0 < nl := by omega
      exact Evs.of fun n m => by simp [-q08, -q02, S57, hcl, p, q0, q1, q2, q3, q4, q5, hl5, hl2, hs0, c3, a1, a2, a5, a4, a4p]
    by_cases a6 : nb = 0
    case neg =>
      have a6p : 0 < nb := by omega
      exact Evs.of fun n m => by simp [-q08, -q02, S57, hcl, p, q0, q1, q2, q3, q4, q5, q6, hl5, hl2, hl6, hs0, c3, a1, a2, a5, a4, a6, a6p]
    have hr := hrest0 (by omega) (by omega)
    by_cases h0 : 0 ≤ nn
    · exact Evs.of fun n m => by simp [-q08, -q02, S57, hcl, p, q0, q1, q2, q3, q4, q5, q6, hl5, hl2, hl6, hs0, c3, a1, a2, a5, a4, a6, h0, hr]
    · exact Evs.of fun n m => by simp [-q08, -q02, S57, hcl, p, q0, q1, q2, q3, q4, q5, q6, hl5, hl2, hl6, hs0, c3, a1, a2, a5, a4, a6, h0, hr]
  omega
end Go.Proofs.YtleikacgncpfbaaDoor

/- Terms, the reference: may one be, but for how many parts it has: kinds 4, 5. -/
set_option maxRecDepth 100000
set_option maxHeartbeats 8000000
namespace Go.Proofs.YtleikacgncpfbaaDoor
open Go Go.Den
theorem rmay_C (n : Nat) (t : Tm) (hs : t.size ≤ n + 1) (ht : tame t) (hkd : t.kind = 4 ∨ t.kind = 5) : Evs fun n' _ => callF (base.with (polT (TRm n))) (n' + 1) AV 57 [cT.enc t] [] (fun v G => A.freezeB true 64 G v) = some (.bool (mayT countR t)) := by
  have hB : Go.Den.Box [.row 0 7 26 [eT t]] 0 7 26 (eT t).cells := q51 t _ 0 rfl
  have p := fun o => hB.fa (o := o)
  have q := fun o => hB.load (o := o)
  rw [q02] at q
  have q0 := q 0
  have q1 := q 1
  have q2 := q 2
  have q3 := q 3
  have q4 := q 4
  have q5 := q 5
  have q6 := q 6
  simp only [List.getElem?_cons_succ, List.getElem?_cons_zero] at q0 q1 q2 q3 q4 q5 q6
  have hcl : (eT t).cells.length = 7 := by rw [q02]; rfl
  have hl5 : A.len (eL 7 eT t.l) [.row 0 7 26 [eT t]] = some (.int .i64 ((t.kids.length : Nat) : Int)) := q08
  have hl2 : A.len (eD t.d) [.row 0 7 26 [eT t]] = some (.int .i64 ((t.d.getD []).length : Int)) := q08
  have hl6 : A.len (eL 1 eb t.b) [.row 0 7 26 [eT t]] = some (.int .i64 ((t.b.getD []).length : Int)) := q08
  have hsn := fun H => q0x (t := 9) (c := true) (H := H) t.name
  have hs0 := fun H => q0x (t := 9) (c := true) (H := H) []
  have hfew : few t.d := (tame_eq.1 ht).1.1
  have hnl : q1k t.name := (tame_eq.1 ht).1.2.1
  have hnm : ∀ (R : Type) (H : Heap) (k : AV → Heap → Option R), polK pRnorm [.agg [.bool t.neg, eD t.d]] H k = k (eN (rnormS (t.neg, t.d))) H := fun R H k => kRnorm (a := (t.neg, t.d)) hfew
  have hsm : ∀ (R : Type) (H : Heap) (k : AV → Heap → Option R), polK pSame [.agg [.bool t.neg, eD t.d], eN (rnormS (t.neg, t.d))] H k = k (.bool (sameS (t.neg, t.d) (rnormS (t.neg, t.d)))) H := fun R H k => kSame (a := (t.neg, t.d)) hfew (q3o hfew)
  have hfill : A.fill [.bool false, .nils] [(0, 1, .bool t.neg), (1, 1, eD t.d)] = some [.bool t.neg, eD t.d] := by simp [A.fill, A.splice]
  have hva : ∀ (R : Type) (H : Heap) (k : AV → Heap → Option R), polK q2b [.str t.name] H k = k (.bool (Lib.validD t.name)) H := fun R H k => q2v
  have hco : ∀ (R : Type) (H : Heap) (k : AV → Heap → Option R), polK q3d [.str t.name] H k = k (.int .i64 (countR t.name)) H := fun R H k => q86 hnl
  have hcv := q27 (s := t.name)
  have hL := q3w hs ht hB t.kids.length 0 (by omega)
  rw [List.drop_zero] at hL
  have hrest : ∀ kd, t.kind = kd → (kd = 4 ∨ kd = 6) → ((partsO t).getD []).all (mayT countR) = t.kids.all (mayT countR) := fun kd e hkd => by
    unfold partsO
    rw [if_pos (by rw [e]; exact hkd)]
    rfl
  have hrest0 : t.kind ≠ 4 → t.kind ≠ 6 → ((partsO t).getD []).all (mayT countR) = true := fun e1 e2 => by
    unfold partsO
    rw [if_neg (by omega)]
    rfl
  rw [q4q]
  unfold oneS spareS
  rw [← q31]
  generalize sameS (t.neg, t.d) (rnormS (t.neg, t.d)) = sn at *
  generalize rnormS (t.neg, t.d) = rn at *
  generalize ((partsO t).getD []).all (mayT countR) = rest at *
  generalize t.kids.all (mayT countR) = kall at *
  generalize countR t.name = cn at *
  generalize Lib.validD t.name = vn at *
  generalize t.kids.length = nl at *
  generalize (t.d.getD []).length = nd at *
  generalize (t.b.getD []).length = nb at *
  generalize t.kind = kd at *
  generalize t.neg = ng at *
  generalize t.n = nn at *
  generalize eL 7 eT t.l = vl at *
  generalize eD t.d = vd at *
  generalize eL 1 eb t.b = vb at *
  clear q
  have e64 : decide ((nd : Int) ≤ 64) = decide (nd ≤ 64) := decide_eq_decide.2 (by omega)
  have e4096 : decide ((nb : Int) ≤ 4096) = decide (nb ≤ 4096) := decide_eq_decide.2 (by omega)
  have c0 : ¬ kd = 0 := by omega
  have c1 : ¬ kd = 1 := by omega
  have c2 : ¬ kd = 2 := by omega
  have c3 : ¬ kd = 3 := by omega
  by_cases c4 : kd = 4
  case pos =>
    by_cases a1 : ng = true
    case pos =>
      exact Evs.of fun n m => by simp [-q08, -q02, S57, hcl, p, q0, q1, q2, q3, q5, q6, hl5, hl2, hl6, c4, a1]
    by_cases a2 : nd = 0
    case neg =>
      have a2p : 0 < nd := by omega
      exact Evs.of fun n m => by simp [-q08, -q02, S57, hcl, p, q0, q1, q2, q3, q5, q6, hl5, hl2, hl6, c4, a1, a2, a2p]
    by_cases a5 : t.name = []
    case neg =>
      exact Evs.of fun n m => by simp [-q08, -q02, S57, hcl, p, q0, q1, q2, q3, q5, q6, hl5, hl2, hl6, hsn, c4, a1, a2, a5]
    by_cases a3 : nn = 0
    case neg =>
      exact Evs.of fun n m => by simp [-q08, -q02, S57, hcl, p, q0, q1, q2, q3, q4, q5, q6, hl5, hl2, hl6, hs0, c4, a1, a2, a5, a3]
    by_cases a6 : nb = 0
    case neg =>
      have a6p : 0 < nb := by omega
      exact Evs.of fun n m => by simp [-q08, -q02, S57, hcl, p, q0, q1, q2, q3, q4, q5, q6, hl5, hl2, hl6, hs0, c4, a1, a2, a5, a3, a6, a6p]
    have hr := hrest 4 c4 (Or.inl rfl)
    by_cases h255 : nl ≤ 255
    · have hg : ¬ (255 : Int) < (nl : Int) := by omega
      have hg' : ¬ 255 < nl := by omega
      refine Evs.withL hL (Evs.of fun n m h1 _ => ?_)
      simp only [Int.natCast_zero] at h1
      cases kall <;> simp [-q08, -q02, S57, hcl, p, q0, q1, q2, q3, q4, q5, q6, hl5, hl2, hl6, hs0, c4, a1, a2, a5, a3, a6, h255, hg, hr, h1]
    · have hg : (255 : Int) < (nl : Int) := by omega
      have hg' : 255 < nl := by omega
      exact Evs.of fun n m => by simp [-q08, -q02, S57, hcl, p, q0, q1, q2, q3, q4, q5, q6, hl5, hl2, hl6, hs0, c4, a1, a2, a5, a3, a6, h255, hg, hr]
  by_cases c5 : kd = 5
  case pos =>
    by_cases a1 : ng = true
    case pos =>
      exact Evs.of fun n m => by simp [-q08, -q02, S57, hcl, p, q0, q1, q2, q3, q6, hl2, hl6, c5, a1]
    by_cases a2 : nd = 0
    case neg =>
      have a2p : 0 < nd := by omega
      exact Evs.of fun n m => by simp [-q08, -q02, S57, hcl, p, q0, q1, q2, q3, q6, hl2, hl6, c5, a1, a2, a2p]
    by_cases a5 : t.name = []
    case neg =>
      exact Evs.of fun n m => by simp [-q08, -q02, S57, hcl, p, q0, q1, q2, q3, q6, hl2, hl6, hsn, c5, a1, a2, a5]
    by_cases a3 : nn = 0
    case neg =>
      exact Evs.of fun n m => by simp [-q08, -q02, S57, hcl, p, q0, q1, q2, q3, q4, q6, hl2, hl6, hs0, c5, a1, a2, a5, a3]
    by_cases a4 : nl = 0
    case neg =>
      have a4p : 0 < nl := by omega
      exact Evs.of fun n m => by simp [-q08, -q02, S57, hcl, p, q0, q1, q2, q3, q4, q5, q6, hl5, hl2, hl6, hs0, c5, a1, a2, a5, a3, a4, a4p]
    by_cases a6 : nb = 0
    case neg =>
      have a6p : 0 < nb := by omega
      exact Evs.of fun n m => by simp [-q08, -q02, S57, hcl, p, q0, q1, q2, q3, q4, q5, q6, hl5, hl2, hl6, hs0, c5, a1, a2, a5, a3, a4, a6, a6p]
    have hr := hrest0 (by omega) (by omega)
    exact Evs.of fun n m => by simp [-q08, -q02, S57, hcl, p, q0, q1, q2, q3, q4, q5, q6, hl5, hl2, hl6, hs0, c5, a1, a2, a5, a3, a4, a6, hr]
  omega
end Go.Proofs.YtleikacgncpfbaaDoor

/- Terms, the reference: may one be, but for how many parts it has: kinds 6. -/
set_option maxRecDepth 100000
set_option maxHeartbeats 8000000
namespace Go.Proofs.YtleikacgncpfbaaDoor
open Go Go.Den
theorem rmay_D (n : Nat) (t : Tm) (hs : t.size ≤ n + 1) (ht : tame t) (hkd : t.kind = 6) : Evs fun n' _ => callF (base.with (polT (TRm n))) (n' + 1) AV 57 [cT.enc t] [] (fun v G => A.freezeB true 64 G v) = some (.bool (mayT countR t)) := by
  have hB : Go.Den.Box [.row 0 7 26 [eT t]] 0 7 26 (eT t).cells := q51 t _ 0 rfl
  have p := fun o => hB.fa (o := o)
  have q := fun o => hB.load (o := o)
  rw [q02] at q
  have q0 := q 0
  have q1 := q 1
  have q2 := q 2
  have q3 := q 3
  have q4 := q 4
  have q5 := q 5
  have q6 := q 6
  simp only [List.getElem?_cons_succ, List.getElem?_cons_zero] at q0 q1 q2 q3 q4 q5 q6
  have hcl : (eT t).cells.length = 7 := by rw [q02]; rfl
  have hl5 : A.len (eL 7 eT t.l) [.row 0 7 26 [eT t]] = some (.int .i64 ((t.kids.length : Nat) : Int)) := q08
  have hl2 : A.len (eD t.d) [.row 0 7 26 [eT t]] = some (.int .i64 ((t.d.getD []).length : Int)) := q08
  have hl6 : A.len (eL 1 eb t.b) [.row 0 7 26 [eT t]] = some (.int .i64 ((t.b.getD []).length : Int)) := q08
  have hsn := fun H => q0x (t := 9) (c := true) (H := H) t.name
  have hs0 := fun H => q0x (t := 9) (c := true) (H := H) []
  have hfew : few t.d := (tame_eq.1 ht).1.1
  have hnl : q1k t.name := (tame_eq.1 ht).1.2.1
  have hnm : ∀ (R : Type) (H : Heap) (k : AV → Heap → Option R), polK pRnorm [.agg [.bool t.neg, eD t.d]] H k = k (eN (rnormS (t.neg, t.d))) H := fun R H k => kRnorm (a := (t.neg, t.d)) hfew
  have hsm : ∀ (R : Type) (H : Heap) (k : AV → Heap → Option R), polK pSame [.agg [.bool t.neg, eD t.d], eN (rnormS (t.neg, t.d))] H k = k (.bool (sameS (t.neg, t.d) (rnormS (t.neg, t.d)))) H := fun R H k => kSame (a := (t.neg, t.d)) hfew (q3o hfew)
  have hfill : A.fill [.bool false, .nils] [(0, 1, .bool t.neg), (1, 1, eD t.d)] = some [.bool t.neg, eD t.d] := by simp [A.fill, A.splice]
  have hva : ∀ (R : Type) (H : Heap) (k : AV → Heap → Option R), polK q2b [.str t.name] H k = k (.bool (Lib.validD t.name)) H := fun R H k => q2v
  have hco : ∀ (R : Type) (H : Heap) (k : AV → Heap → Option R), polK q3d [.str t.name] H k = k (.int .i64 (countR t.name)) H := fun R H k => q86 hnl
  have hcv := q27 (s := t.name)
  have hL := q3w hs ht hB t.kids.length 0 (by omega)
  rw [List.drop_zero] at hL
  have hrest : ∀ kd, t.kind = kd → (kd = 4 ∨ kd = 6) → ((partsO t).getD []).all (mayT countR) = t.kids.all (mayT countR) := fun kd e hkd => by
    unfold partsO
    rw [if_pos (by rw [e]; exact hkd)]
    rfl
  have hrest0 : t.kind ≠ 4 → t.kind ≠ 6 → ((partsO t).getD []).all (mayT countR) = true := fun e1 e2 => by
    unfold partsO
    rw [if_neg (by omega)]
    rfl
  rw [q4q]
  unfold oneS spareS
  rw [← q31]
  generalize sameS (t.neg, t.d) (rnormS (t.neg, t.d)) = sn at *
  generalize rnormS (t.neg, t.d) = rn at *
  generalize ((partsO t).getD []).all (mayT countR) = rest at *
  generalize t.kids.all (mayT countR) = kall at *
  generalize countR t.name = cn at *
  generalize Lib.validD t.name = vn at *
  generalize t.kids.length = nl at *
  generalize (t.d.getD []).length = nd at *
  generalize (t.b.getD []).length = nb at *
  generalize t.kind = kd at *
  generalize t.neg = ng at *
  generalize t.n = nn at *
  generalize eL 7 eT t.l = vl at *
  generalize eD t.d = vd at *
  generalize eL 1 eb t.b = vb at *
  clear q
  have e64 : decide ((nd : Int) ≤ 64) = decide (nd ≤ 64) := decide_eq_decide.2 (by omega)
  have e4096 : decide ((nb : Int) ≤ 4096) = decide (nb ≤ 4096) := decide_eq_decide.2 (by omega)
  have c0 : ¬ kd = 0 := by omega
  have c1 : ¬ kd = 1 := by omega
  have c2 : ¬ kd = 2 := by omega
  have c3 : ¬ kd = 3 := by omega
  have c4 : ¬ kd = 4 := by omega
  have c5 : ¬ kd = 5 := by omega
  by_cases c6 : kd = 6
  case pos =>
    by_cases a1 : ng = true
    case pos =>
      exact Evs.of fun n m => by simp [-q08, -q02, S57, hcl, p, q0, q1, q2, q3, q5, q6, hl5, hl2, hl6, c6, a1]
    by_cases a2 : nd = 0
    case neg =>
      have a2p : 0 < nd := by omega
      exact Evs.of fun n m => by simp [-q08, -q02, S57, hcl, p, q0, q1, q2, q3, q5, q6, hl5, hl2, hl6, c6, a1, a2, a2p]
    by_cases a5 : t.name = []
    case neg =>
      exact Evs.of fun n m => by simp [-q08, -q02, S57, hcl, p, q0, q1, q2, q3, q5, q6, hl5, hl2, hl6, hsn, c6, a1, a2, a5]
    by_cases a3 : nn = 0
    case neg =>
      exact Evs.of fun n m => by simp [-q08, -q02, S57, hcl, p, q0, q1, q2, q3, q4, q5, q6, hl5, hl2, hl6, hs0, c6, a1, a2, a5, a3]
    by_cases a6 : nb = 0
    case neg =>
      have a6p : 0 < nb := by omega
      exact Evs.of fun n m => by simp [-q08, -q02, S57, hcl, p, q0, q1, q2, q3, q4, q5, q6, hl5, hl2, hl6, hs0, c6, a1, a2, a5, a3, a6, a6p]
    have hr := hrest 6 c6 (Or.inr rfl)
    by_cases h2 : nl = 2
    · subst h2
      refine Evs.withL hL (Evs.of fun n m h1 _ => ?_)
      simp only [Int.natCast_zero] at h1
      cases kall <;> simp [-q08, -q02, S57, hcl, p, q0, q1, q2, q3, q4, q5, q6, hl5, hl2, hl6, hs0, c6, a1, a2, a5, a3, a6, hr, h1]
    · have h2' : ¬ (nl : Int) = 2 := by omega
      exact Evs.of fun n m => by simp [-q08, -q02, S57, hcl, p, q0, q1, q2, q3, q4, q5, q6, hl5, hl2, hl6, hs0, c6, a1, a2, a5, a3, a6, h2, h2', hr]
  omega
end Go.Proofs.YtleikacgncpfbaaDoor

/- Terms, the reference: may one be, but for how many parts it has: the rest. -/
set_option maxRecDepth 100000
set_option maxHeartbeats 8000000
namespace Go.Proofs.YtleikacgncpfbaaDoor
open Go Go.Den
theorem rmay_E (n : Nat) (t : Tm) (hs : t.size ≤ n + 1) (ht : tame t) (hkd : t.kind ≠ 0 ∧ t.kind ≠ 1 ∧ t.kind ≠ 2 ∧ t.kind ≠ 3 ∧ t.kind ≠ 4 ∧ t.kind ≠ 5 ∧ t.kind ≠ 6) : Evs fun n' _ => callF (base.with (polT (TRm n))) (n' + 1) AV 57 [cT.enc t] [] (fun v G => A.freezeB true 64 G v) = some (.bool (mayT countR t)) := by
  have hB : Go.Den.Box [.row 0 7 26 [eT t]] 0 7 26 (eT t).cells := q51 t _ 0 rfl
  have p := fun o => hB.fa (o := o)
  have q := fun o => hB.load (o := o)
  rw [q02] at q
  have q0 := q 0
  have q1 := q 1
  have q2 := q 2
  have q3 := q 3
  have q4 := q 4
  have q5 := q 5
  have q6 := q 6
  simp only [List.getElem?_cons_succ, List.getElem?_cons_zero] at q0 q1 q2 q3 q4 q5 q6
  have hcl : (eT t).cells.length = 7 := by rw [q02]; rfl
  have hl5 : A.len (eL 7 eT t.l) [.row 0 7 26 [eT t]] = some (.int .i64 ((t.kids.length : Nat) : Int)) := q08
  have hl2 : A.len (eD t.d) [.row 0 7 26 [eT t]] = some (.int .i64 ((t.d.getD []).length : Int)) := q08
  have hl6 : A.len (eL 1 eb t.b) [.row 0 7 26 [eT t]] = some (.int .i64 ((t.b.getD []).length : Int)) := q08
  have hsn := fun H => q0x (t := 9) (c := true) (H := H) t.name
  have hs0 := fun H => q0x (t := 9) (c := true) (H := H) []
  have hfew : few t.d := (tame_eq.1 ht).1.1
  have hnl : q1k t.name := (tame_eq.1 ht).1.2.1
  have hnm : ∀ (R : Type) (H : Heap) (k : AV → Heap → Option R), polK pRnorm [.agg [.bool t.neg, eD t.d]] H k = k (eN (rnormS (t.neg, t.d))) H := fun R H k => kRnorm (a := (t.neg, t.d)) hfew
  have hsm : ∀ (R : Type) (H : Heap) (k : AV → Heap → Option R), polK pSame [.agg [.bool t.neg, eD t.d], eN (rnormS (t.neg, t.d))] H k = k (.bool (sameS (t.neg, t.d) (rnormS (t.neg, t.d)))) H := fun R H k => kSame (a := (t.neg, t.d)) hfew (q3o hfew)
  have hfill : A.fill [.bool false, .nils] [(0, 1, .bool t.neg), (1, 1, eD t.d)] = some [.bool t.neg, eD t.d] := by simp [A.fill, A.splice]
  have hva : ∀ (R : Type) (H : Heap) (k : AV → Heap → Option R), polK q2b [.str t.name] H k = k (.bool (Lib.validD t.name)) H := fun R H k => q2v
  have hco : ∀ (R : Type) (H : Heap) (k : AV → Heap → Option R), polK q3d [.str t.name] H k = k (.int .i64 (countR t.name)) H := fun R H k => q86 hnl
  have hcv := q27 (s := t.name)
  have hL := q3w hs ht hB t.kids.length 0 (by omega)
  rw [List.drop_zero] at hL
  have hrest : ∀ kd, t.kind = kd → (kd = 4 ∨ kd = 6) → ((partsO t).getD []).all (mayT countR) = t.kids.all (mayT countR) := fun kd e hkd => by
    unfold partsO
    rw [if_pos (by rw [e]; exact hkd)]
    rfl
  have hrest0 : t.kind ≠ 4 → t.kind ≠ 6 → ((partsO t).getD []).all (mayT countR) = true := fun e1 e2 => by
    unfold partsO
    rw [if_neg (by omega)]
    rfl
  rw [q4q]
  unfold oneS spareS
  rw [← q31]
  generalize sameS (t.neg, t.d) (rnormS (t.neg, t.d)) = sn at *
  generalize rnormS (t.neg, t.d) = rn at *
  generalize ((partsO t).getD []).all (mayT countR) = rest at *
  generalize t.kids.all (mayT countR) = kall at *
  generalize countR t.name = cn at *
  generalize Lib.validD t.name = vn at *
  generalize t.kids.length = nl at *
  generalize (t.d.getD []).length = nd at *
  generalize (t.b.getD []).length = nb at *
  generalize t.kind = kd at *
  generalize t.neg = ng at *
  generalize t.n = nn at *
  generalize eL 7 eT t.l = vl at *
  generalize eD t.d = vd at *
  generalize eL 1 eb t.b = vb at *
  clear q
  have e64 : decide ((nd : Int) ≤ 64) = decide (nd ≤ 64) := decide_eq_decide.2 (by omega)
  have e4096 : decide ((nb : Int) ≤ 4096) = decide (nb ≤ 4096) := decide_eq_decide.2 (by omega)
  have c0 : ¬ kd = 0 := by omega
  have c1 : ¬ kd = 1 := by omega
  have c2 : ¬ kd = 2 := by omega
  have c3 : ¬ kd = 3 := by omega
  have c4 : ¬ kd = 4 := by omega
  have c5 : ¬ kd = 5 := by omega
  have c6 : ¬ kd = 6 := by omega
  by_cases c7 : kd = 7
  case pos =>
    by_cases a1 : ng = true
    case pos =>
      exact Evs.of fun n m => by simp [-q08, -q02, S57, hcl, p, q0, q1, q2, q3, q6, hl2, hl6, c7, a1]
    by_cases a2 : nd = 0
    case neg =>
      have a2p : 0 < nd := by omega
      exact Evs.of fun n m => by simp [-q08, -q02, S57, hcl, p, q0, q1, q2, q3, q6, hl2, hl6, c7, a1, a2, a2p]
    by_cases a5 : t.name = []
    case neg =>
      exact Evs.of fun n m => by simp [-q08, -q02, S57, hcl, p, q0, q1, q2, q3, q6, hl2, hl6, hsn, c7, a1, a2, a5]
    by_cases a3 : nn = 0
    case neg =>
      exact Evs.of fun n m => by simp [-q08, -q02, S57, hcl, p, q0, q1, q2, q3, q4, q6, hl2, hl6, hs0, c7, a1, a2, a5, a3]
    by_cases a4 : nl = 0
    case neg =>
      have a4p : 0 < nl := by omega
      exact Evs.of fun n m => by simp [-q08, -q02, S57, hcl, p, q0, q1, q2, q3, q4, q5, q6, hl5, hl2, hl6, hs0, c7, a1, a2, a5, a3, a4, a4p]
    have hr := hrest0 (by omega) (by omega)
    exact Evs.of fun n m => by simp [-q08, -q02, S57, hcl, p, q0, q1, q2, q3, q4, q5, q6, hl5, hl2, hl6, hs0, c7, a1, a2, a5, a3, a4, e4096, hr]
  by_cases a1 : ng = true
  case pos =>
    exact Evs.of fun n m => by simp [-q08, -q02, S57, hcl, p, q0, q1, q2, q3, q6, hl2, hl6, c0, c1, c2, c3, c4, c5, c6, c7, a1]
  by_cases a2 : nd = 0
  case neg =>
    have a2p : 0 < nd := by omega
    exact Evs.of fun n m => by simp [-q08, -q02, S57, hcl, p, q0, q1, q2, q3, q6, hl2, hl6, c0, c1, c2, c3, c4, c5, c6, c7, a1, a2, a2p]
  by_cases a5 : t.name = []
  case neg =>
    exact Evs.of fun n m => by simp [-q08, -q02, S57, hcl, p, q0, q1, q2, q3, q6, hl2, hl6, hsn, c0, c1, c2, c3, c4, c5, c6, c7, a1, a2, a5]
  by_cases a3 : nn = 0
  case neg =>
    exact Evs.of fun n m => by simp [-q08, -q02, S57, hcl, p, q0, q1, q2, q3, q4, q6, hl2, hl6, hs0, c0, c1, c2, c3, c4, c5, c6, c7, a1, a2, a5, a3]
  by_cases a4 : nl = 0
  case neg =>
    have a4p : 0 < nl := by omega
    exact Evs.of fun n m => by simp [-q08, -q02, S57, hcl, p, q0, q1, q2, q3, q4, q5, q6, hl5, hl2, hl6, hs0, c0, c1, c2, c3, c4, c5, c6, c7, a1, a2, a5, a3, a4, a4p]
  by_cases a6 : nb = 0
  case neg =>
    have a6p : 0 < nb := by omega
    exact Evs.of fun n m => by simp [-q08, -q02, S57, hcl, p, q0, q1, q2, q3, q4, q5, q6, hl5, hl2, hl6, hs0, c0, c1, c2, c3, c4, c5, c6, c7, a1, a2, a5, a3, a4, a6, a6p]
  exact Evs.of fun n m => by simp [-q08, -q02, S57, hcl, p, q0, q1, q2, q3, q4, q5, q6, hl5, hl2, hl6, hs0, c0, c1, c2, c3, c4, c5, c6, c7, a1, a2, a5, a3, a4, a6]
end Go.Proofs.YtleikacgncpfbaaDoor

/- Terms, the reference: may one be, but for how many parts it has; and all of it. -/
set_option maxRecDepth 100000
namespace Go.Proofs.YtleikacgncpfbaaDoor
open Go Go.Den
theorem okRmay : ∀ n, PolOK base 57 (pRmay n)
  | 0 => still1 base_ok [] trivial fun t ⟨hs, _⟩ => by
    have := t.size_eq
    omega
  | n + 1 => still1 base_ok (TRm n) ⟨okRmay n, qit, okSame, qan, okRcount, trivial⟩ fun t ⟨hs, ht⟩ => by
    by_cases a : t.kind = 0 ∨ t.kind = 1
    · exact rmay_A n t hs ht a
    by_cases b : t.kind = 2 ∨ t.kind = 3
    · exact rmay_B n t hs ht b
    by_cases c : t.kind = 4 ∨ t.kind = 5
    · exact rmay_C n t hs ht c
    by_cases d : t.kind = 6
    · exact rmay_D n t hs ht d
    · exact rmay_E n t hs ht (by omega)
noncomputable def pRMay (n : Nat) : Pol := .still (p1 cT .bool (fun t => t.size ≤ n ∧ tame t) mayS)
theorem okRMay (n : Nat) : PolOK base 18 (pRMay n) := still1 base_ok [(20, pRtree n), (57, pRmay n)] ⟨qiu n, okRmay n, trivial⟩ fun t ⟨hs, ht⟩ => by
  have hcl : (eT t).cells.length = 7 := by rw [q02]; rfl
  have hof : A.ofList true 7 (eT t).cells 0 = some (eT t) := q13 (H := [])
  have h1 : ∀ (R : Type) (H : Heap) (k : AV → Heap → Option R), polK (pRtree n) [eT t] H k = k (.int .i64 ((min (szT t) 65537 : Nat) : Int)) H := fun R H k => kRtree hs (tame_thin t ht)
  have h2 : ∀ (R : Type) (H : Heap) (k : AV → Heap → Option R), polK (pRmay n) [eT t] H k = k (.bool (mayT countR t)) H := fun R H k => kRmay hs ht
  unfold mayS
  by_cases hc : szT t ≤ 65536
  · have hc' : ((min (szT t) 65537 : Nat) : Int) ≤ 65536 := by omega
    generalize ((min (szT t) 65537 : Nat) : Int) = N at *
    refine Evs.of fun n m => ?_
    simp [↓q0b, ↓q01, ↓q05, ↓q04, ↓q07, -q02, S18, hcl, hof, h1, h2, hc, hc']
  · have hc' : ¬ ((min (szT t) 65537 : Nat) : Int) ≤ 65536 := by omega
    generalize ((min (szT t) 65537 : Nat) : Int) = N at *
    refine Evs.of fun n m => ?_
    simp [↓q0b, ↓q01, ↓q05, ↓q04, ↓q07, -q02, S18, hcl, hof, h1, hc, hc']
end Go.Proofs.YtleikacgncpfbaaDoor

/- Terms: what is known of them, of any size; what is handed in. -/
set_option maxRecDepth 100000
set_option maxHeartbeats 4000000
namespace Go.Proofs.YtleikacgncpfbaaDoor
open Go Go.Den
noncomputable def pRoomA : Pol := .still (p3 cT (cI .i64) (cI .i64) .bool (fun _ dep most => -1 ≤ dep ∧ dep ≤ 1000 ∧ most ≤ 1000) roomS)
theorem okRoomA : PolOK base 16 pRoomA := q4b (F := fun n => p3 cT (cI .i64) (cI .i64) .bool (fun t dep most => t.size ≤ n ∧ -1 ≤ dep ∧ dep ≤ 1000 ∧ most ≤ 1000) roomS) okRoom fun zs v h => by
  match zs, h with
  | [a, b, c], h =>
    simp only [p3_app, Option.bind_eq_some_iff] at h ⊢
    obtain ⟨t, ht, d, hd, m, hm, h⟩ := h
    split at h
    · rename_i hc
      exact ⟨t.size, t, ht, d, hd, m, hm, by rw [if_pos ⟨Nat.le_refl _, hc⟩]; exact h⟩
    · cases h
theorem kRoomA {R : Type} {t : Tm} {dep most : Int} (h0 : -1 ≤ dep) (h1 : dep ≤ 1000) (h2 : most ≤ 1000) {H : Heap} {k : AV → Heap → Option R} : polK pRoomA [eT t, .int .i64 dep, .int .i64 most] H k = k (.bool (roomS t dep most)) H := by
  simp [pRoomA, q0i, h0, h1, h2]
noncomputable def pRtreeA : Pol := .still (p1 cT (fun n : Nat => .int .i64 (n : Int)) (fun t => t.thin 1000) (fun t => min (szT t) 65537))
noncomputable def pRwordsA : Pol := .still (p1 cT (fun n : Nat => .int .i64 (n : Int)) fineW wT)
noncomputable def pRMayA : Pol := .still (p1 cT .bool tame mayS)
theorem okRMayA : PolOK base 18 pRMayA := q4b (F := fun n => p1 cT .bool (fun t => t.size ≤ n ∧ tame t) mayS) okRMay fun zs v h => by
  match zs, h with
  | [a], h =>
    simp only [p1_app, Option.bind_eq_some_iff] at h ⊢
    obtain ⟨t, ht, h⟩ := h
    split at h
    · rename_i hc
      exact ⟨t.size, t, ht, by rw [if_pos ⟨Nat.le_refl _, hc⟩]; exact h⟩
    · cases h
theorem kRMayA {R : Type} {t : Tm} (h : tame t) {H : Heap} {k : AV → Heap → Option R} : polK pRMayA [eT t] H k = k (.bool (mayS t)) H := by
  simp [pRMayA, q0i, h]
theorem ty_u32s {n : Nat} {y : AV} (hy : Ty Tryd.prog n 22 y) : ∃ d : Option (List UInt32), y = eD d := by
  obtain ⟨l, hl, hb, -⟩ := hy.ints (k := .u32) (e := 59) (by kernel_rfl) (by kernel_rfl) (by kernel_rfl)
  have hll : l.map (AV.int .u32) = (l.map fun i => UInt32.ofNat i.toNat).map eu := by
    rw [List.map_map]
    refine List.map_congr_left fun i hi => ?_
    have := hb i hi
    have h5 : (0 : Int) ≤ i ∧ i ≤ 4294967295 := this
    show AV.int .u32 i = AV.int .u32 ((UInt32.ofNat i.toNat).toNat : Int)
    rw [q8a, Nat.mod_eq_of_lt (by omega)]
    congr 1
    omega
  rw [hll] at hl
  generalize hm : (l.map fun i => UInt32.ofNat i.toNat).map eu = es at hl
  cases hl with
  | nil => exact ⟨none, rfl⟩
  | sh _ =>
    subst hm
    exact ⟨some (l.map fun i => UInt32.ofNat i.toNat), rfl⟩
theorem ty_u8s {n : Nat} {y : AV} (hy : Ty Tryd.prog n 24 y) : ∃ d : Option (List UInt8), y = eL 1 eb d := by
  obtain ⟨l, hl, hb, -⟩ := hy.ints (k := .u8) (e := 5) (by kernel_rfl) (by kernel_rfl) (by kernel_rfl)
  have hll : l.map (AV.int .u8) = (l.map fun i => UInt8.ofNat i.toNat).map eb := by
    rw [List.map_map]
    refine List.map_congr_left fun i hi => ?_
    have := hb i hi
    have h5 : (0 : Int) ≤ i ∧ i ≤ 255 := this
    show AV.int .u8 i = AV.int .u8 ((UInt8.ofNat i.toNat).toNat : Int)
    rw [UInt8.toNat_ofNat']
    congr 1
    omega
  rw [hll] at hl
  generalize hm : (l.map fun i => UInt8.ofNat i.toNat).map eb = es at hl
  cases hl with
  | nil => exact ⟨none, rfl⟩
  | sh _ =>
    subst hm
    exact ⟨some (l.map fun i => UInt8.ofNat i.toNat), rfl⟩
theorem ty_tm : ∀ (n : Nat) (v : AV), Ty Tryd.prog n 26 v → ∃ t : Tm, v = eT t
  | 0, _, h => by cases h
  | 1, v, h => by
    obtain ⟨m, vs, hm, h1, h2, h3⟩ := h.struct (fs := #[{ name := "Kind", type := 3, offset := 0, embedded := false, tag := "", pkgPath := "", byteOffset := 0 }, { name := "Neg", type := 4, offset := 1, embedded := false, tag := "", pkgPath := "", byteOffset := 8 }, { name := "D", type := 22, offset := 2, embedded := false, tag := "", pkgPath := "", byteOffset := 16 }, { name := "Name", type := 9, offset := 3, embedded := false, tag := "", pkgPath := "", byteOffset := 40 }, { name := "N", type := 3, offset := 4, embedded := false, tag := "", pkgPath := "", byteOffset := 56 }, { name := "L", type := 23, offset := 5, embedded := false, tag := "", pkgPath := "", byteOffset := 64 }, { name := "B", type := 24, offset := 6, embedded := false, tag := "", pkgPath := "", byteOffset := 88 }]) (by kernel_rfl)
    match vs, h2 with
    | [x0, x1, x2, x3, x4, x5, x6], _ =>
      have y0 := (h3 0 _ x0 rfl rfl).1
      have : m = 0 := by omega
      subst this
      cases y0
  | n + 2, v, h => by
    obtain ⟨m, vs, hm, h1, h2, h3⟩ := h.struct (fs := #[{ name := "Kind", type := 3, offset := 0, embedded := false, tag := "", pkgPath := "", byteOffset := 0 }, { name := "Neg", type := 4, offset := 1, embedded := false, tag := "", pkgPath := "", byteOffset := 8 }, { name := "D", type := 22, offset := 2, embedded := false, tag := "", pkgPath := "", byteOffset := 16 }, { name := "Name", type := 9, offset := 3, embedded := false, tag := "", pkgPath := "", byteOffset := 40 }, { name := "N", type := 3, offset := 4, embedded := false, tag := "", pkgPath := "", byteOffset := 56 }, { name := "L", type := 23, offset := 5, embedded := false, tag := "", pkgPath := "", byteOffset := 64 }, { name := "B", type := 24, offset := 6, embedded := false, tag := "", pkgPath := "", byteOffset := 88 }]) (by kernel_rfl)
    have hmn : m = n + 1 := by omega
    subst hmn
    match vs, h2 with
    | [x0, x1, x2, x3, x4, x5, x6], _ =>
      have y0 := (h3 0 _ x0 rfl rfl).1
      have y1 := (h3 1 _ x1 rfl rfl).1
      have y2 := (h3 2 _ x2 rfl rfl).1
      have y3 := (h3 3 _ x3 rfl rfl).1
      have y4 := (h3 4 _ x4 rfl rfl).1
      have y5 := (h3 5 _ x5 rfl rfl).1
      have y6 := (h3 6 _ x6 rfl rfl).1
      obtain ⟨i0, rfl, -⟩ := y0.int (k := .i64) (by kernel_rfl)
      obtain ⟨b1, rfl⟩ := y1.bool (by kernel_rfl)
      obtain ⟨d2, rfl⟩ := ty_u32s y2
      obtain ⟨s3, rfl, -⟩ := y3.str (by kernel_rfl)
      obtain ⟨i4, rfl, -⟩ := y4.int (k := .i64) (by kernel_rfl)
      obtain ⟨d6, rfl⟩ := ty_u8s y6
      obtain ⟨m, es, hm, him, -, hes⟩ := y5.slice (e := 26) (by kernel_rfl)
      have hmn : m = n := by omega
      subst hmn
      obtain ⟨l, hl, -⟩ := q6g (f := eT) (p := fun _ => True) (es := es) fun x hx => by
        obtain ⟨t, ht⟩ := ty_tm m x (hes x hx)
        exact ⟨t, ht, trivial⟩
      have hc : Tryd.prog.cellsOf 26 = 7 := by kernel_rfl
      rw [hc] at him
      have hv : ∃ o : Option (List Tm), x5 = eL 7 eT o := by
        cases him with
        | nil => exact ⟨none, rfl⟩
        | sh _ =>
          subst hl
          exact ⟨some l, rfl⟩
      obtain ⟨o, rfl⟩ := hv
      refine ⟨.mk i0 b1 d2 s3 i4 o d6, ?_⟩
      rw [h1, q39]
      have e2 : (eD d2).cells = [eD d2] := by cases d2 <;> rfl
      have e5 : (eL 7 eT o).cells = [eL 7 eT o] := by cases o <;> rfl
      have e6 : (eL 1 eb d6).cells = [eL 1 eb d6] := by cases d6 <;> rfl
      simp only [List.flatMap_cons, List.flatMap_nil, e2, e5, e6]
      rfl
end Go.Proofs.YtleikacgncpfbaaDoor

/- Terms in a row: are they few and small. -/
set_option maxRecDepth 100000
set_option maxHeartbeats 4000000
namespace Go.Proofs.YtleikacgncpfbaaDoor
open Go Go.Den
def roomsAll (l : List Tm) : Prop := ∀ u ∈ l, roomS u 8 40 = true ∧ mayS u = true
noncomputable def roomsS (o : Option (List Tm)) (most : Int) : Bool := decide (((o.getD []).length : Int) ≤ most) && (o.getD []).all fun u => roomS u 8 40 && mayS u
noncomputable abbrev TRms : List (FuncId × Pol) := [(16, pRoomA), (18, pRMayA)]
noncomputable def pRooms : Pol := .still (p2 cTs (cI .i64) .bool (fun _ most => most ≤ 1000) roomsS)
theorem size_szT : ∀ t : Tm, mayT countR t = true → t.size = szT t := q72 fun t ih h => by
  rw [q4q] at h
  simp only [Bool.and_eq_true, List.all_eq_true] at h
  obtain ⟨ho, hk⟩ := h
  have hl : ∀ l : List Tm, (∀ u ∈ l, u ∈ t.kids) → (∀ u ∈ l, mayT countR u = true) → Tm.sizes l = szs l := by
    intro l
    induction l with
    | nil => intro _ _; simp [Tm.sizes, szs]
    | cons u l ihl =>
      intro h1 h2
      rw [Tm.sizes, szs, ih u (h1 u (by simp)) (h2 u (by simp)), ihl (fun x hx => h1 x (by simp [hx])) fun x hx => h2 x (by simp [hx])]
  have hs : spareS t = true := by
    unfold oneS at ho
    simp only [Bool.and_eq_true] at ho
    exact ho.1
  rw [t.size_eq, szT_eq]
  congr 1
  unfold partsO
  unfold partsO at hk
  by_cases hc : t.kind = 4 ∨ t.kind = 6
  · rw [if_pos hc] at hk ⊢
    exact hl _ (fun u hu => hu) hk
  · rw [if_neg hc]
    have hz : t.kids.length = 0 := by
      unfold spareS at hs
      simp only [Bool.and_eq_true, Bool.or_eq_true, decide_eq_true_eq] at hs
      rcases hs.1.1.2 with h | h
      · exact absurd h hc
      · exact h
    rw [List.length_eq_zero_iff.1 hz]
    rfl
end Go.Proofs.YtleikacgncpfbaaDoor

/- Any two terms that are few and small: which is less, by both; rows of terms that are handed on. -/
set_option maxRecDepth 100000
set_option maxHeartbeats 4000000
namespace Go.Proofs.YtleikacgncpfbaaDoor
open Go Go.Den Go.Lib
/-! ### a row of terms that is handed on -/
theorem room_okR {most : Int} (hm : most ≤ 1000) : ∀ t dep, roomS t dep most = true → okR t := fun t => q72 (P := fun t => ∀ dep, roomS t dep most = true → okR t) (fun t ih dep h => by
  rw [q49] at h
  simp only [Bool.and_eq_true, Bool.not_eq_true', Bool.or_eq_false_iff, decide_eq_false_iff_not, List.all_eq_true] at h
  obtain ⟨⟨⟨⟨⟨h1, h2⟩, h3⟩, h4⟩, h5⟩, h6⟩ := h
  exact okR_eq.2 ⟨⟨by unfold few; omega, by unfold q1k; omega, by omega, by omega⟩, fun u hu => ih u hu _ (h6 u hu)⟩) t
theorem may_kids {t : Tm} (h : mayT countR t = true) : (0 ≤ t.kind ∧ t.kind ≤ 7) ∧ ∀ u ∈ t.kids, mayT countR u = true := by
  rw [q4q] at h
  simp only [Bool.and_eq_true, List.all_eq_true] at h
  obtain ⟨ho, hk⟩ := h
  unfold oneS at ho
  simp only [Bool.and_eq_true] at ho
  obtain ⟨hs, ho⟩ := ho
  refine ⟨?_, ?_⟩
  · by_cases c0 : t.kind = 0
    · omega
    by_cases c1 : t.kind = 1
    · omega
    by_cases c2 : t.kind = 2 ∨ t.kind = 3
    · omega
    by_cases c4 : t.kind = 4
    · omega
    by_cases c6 : t.kind = 6
    · omega
    by_cases c7 : t.kind = 7
    · omega
    rw [if_neg c0, if_neg c1, if_neg c2, if_neg c4, if_neg c6, if_neg c7] at ho
    have := of_decide_eq_true ho
    omega
  · unfold partsO at hk
    by_cases hc : t.kind = 4 ∨ t.kind = 6
    · rw [if_pos hc] at hk
      exact hk
    · intro u hu
      have hz : t.kids.length = 0 := by
        unfold spareS at hs
        simp only [Bool.and_eq_true, Bool.or_eq_true, decide_eq_true_eq] at hs
        rcases hs.1.1.2 with h | h
        · exact absurd h hc
        · exact h
      rw [List.length_eq_zero_iff.1 hz] at hu
      cases hu
theorem may_okA : ∀ t : Tm, okR t → mayT countR t = true → okA t := q72 fun t ih h1 h2 => by
  have h1 := okR_eq.1 h1
  obtain ⟨k1, k2⟩ := may_kids h2
  exact okA_eq.2 ⟨⟨⟨k1.1, k1.2, h1.1.1⟩, h1.1.2.2.2⟩, fun u hu => ih u hu (h1.2 u hu) (k2 u hu)⟩
def fitT (t : Tm) : Prop := okA t ∧ okR t ∧ t.size ≤ 65536
end Go.Proofs.YtleikacgncpfbaaDoor

/- Any two terms: that what is less is so in order. -/
set_option maxRecDepth 100000
set_option maxHeartbeats 4000000
namespace Go.Proofs.YtleikacgncpfbaaDoor
open Go Go.Den Go.Lib
def okV1 (t : Tm) : Prop := t.kind = 1 → validD t.name = true
def okV (t : Tm) : Prop := evT okV1 t
end Go.Proofs.YtleikacgncpfbaaDoor

/- Two terms, but for what is in them: are they the same? By the program. -/
set_option maxRecDepth 100000
set_option maxHeartbeats 4000000
namespace Go.Proofs.YtleikacgncpfbaaDoor
open Go Go.Den Go.Lib
noncomputable def pKnown : Pol := .still (p1 cT (.int .i64) (fun t => 0 ≤ t.kind ∧ t.kind ≤ 7) Tm.kind)
theorem okKnown : PolOK base 93 pKnown := still1 base_ok [] trivial fun t ⟨h1, h2⟩ => by
  have hB : Go.Den.Box [.row 0 7 26 [eT t]] 0 7 26 (eT t).cells := q51 t _ 0 rfl
  have p := fun o => hB.fa (o := o)
  have q := fun o => hB.load (o := o)
  rw [q02] at q
  have q0 := q 0
  simp only [List.getElem?_cons_zero] at q0
  have hcl : (eT t).cells.length = 7 := by rw [q02]; rfl
  have n1 : ¬ t.kind < 0 := by omega
  have n2 : ¬ (7 : Int) < t.kind := by omega
  exact Evs.of fun n m => by simp [-q08, -q02, S93, hcl, p, q0, n1, n2]
theorem kKnown {R : Type} {t : Tm} (h1 : 0 ≤ t.kind) (h2 : t.kind ≤ 7) {H : Heap} {k : AV → Heap → Option R} : polK pKnown [eT t] H k = k (.int .i64 t.kind) H := by
  simp [pKnown, q0i, h1, h2]
theorem qKnown {R : Type} {t : Tm} (h1 : 0 ≤ t.kind) (h2 : t.kind ≤ 7) {H : Heap} {k : AV → Heap → Option R} : polQ pKnown [eT t] H k = k (.int .i64 t.kind) H := by
  simp [pKnown, q2d, h1, h2]
theorem qbh : ∀ l : List UInt8, A.bytes8 (l.map eb) = some l
  | [] => rfl
  | x :: l => by
    have hx := x.toNat_lt
    have e : (x.toNat : Int).toNat.toUInt8 = x := by simp
    rw [List.map_cons]
    show (bif decide ((0 : Int) ≤ (x.toNat : Int)) && decide ((x.toNat : Int) < 256) then (match A.bytes8 (l.map eb) with | some l => some ((x.toNat : Int).toNat.toUInt8 :: l) | none => none) else none) = _
    rw [qbh l, e]
    have h1 : decide ((0 : Int) ≤ (x.toNat : Int)) = true := by simp
    have h2 : decide ((x.toNat : Int) < 256) = true := by simp; omega
    rw [h1, h2]
    rfl
theorem qbo {R : Type} {d : Option (List UInt8)} {H : Heap} {k : AV → Heap → Option R} : q0l base 24 9 (eL 1 eb d) H k = k (.str (d.getD [])) H := by
  have h1 : Go.Den.convert base 24 9 (eL 1 eb d) = none := by
    unfold Go.Den.convert
    rw [q73, q0y]
    cases d <;> rfl
  have hr : A.read 1 (eL 1 eb d) H = some ((d.getD []).map eb) := by cases d <;> rfl
  have h2 : convH base 24 9 (eL 1 eb d) H = some (.str (d.getD [])) := by
    unfold convH
    rw [q73, q0y]
    dsimp only
    rw [ty_u8]
    dsimp only
    rw [hr]
    dsimp only
    rw [qbh]
    rfl
  unfold q0l
  rw [h1, h2]
theorem str_eql {a b : List UInt8} {c : Bool} {H : Heap} : A.bin base.P .eql 9 (.str a) (.str b) c H = some (.bool (decide (a = b))) := by
  simp only [A.bin, A.binStr]
  congr 2
  by_cases h : a = b <;> simp [h]
noncomputable def pBeq : Pol := .still (p2 cBy cBy .bool (fun _ _ => True) fun a b => decide (a.getD [] = b.getD []))
theorem okBeq : PolOK base 95 pBeq := still2 base_ok [] trivial fun a b _ => by
  have c1 : ∀ (R : Type) (H : Heap) (k : AV → Heap → Option R), q0l base 24 9 (eL 1 eb a) H k = k (.str (a.getD [])) H := fun R H k => qbo
  have c2 : ∀ (R : Type) (H : Heap) (k : AV → Heap → Option R), q0l base 24 9 (eL 1 eb b) H k = k (.str (b.getD [])) H := fun R H k => qbo
  have e1 : cBy.enc a = eL 1 eb a := rfl
  have e2 : cBy.enc b = eL 1 eb b := rfl
  rw [e1, e2]
  generalize eL 1 eb a = va at *
  generalize eL 1 eb b = vb at *
  exact Evs.of fun n m => by simp [↓q01, S95, c1, c2, str_eql]
theorem kBeq {R : Type} {a b : Option (List UInt8)} {H : Heap} {k : AV → Heap → Option R} : polK pBeq [eL 1 eb a, eL 1 eb b] H k = k (.bool (decide (a.getD [] = b.getD []))) H := by
  simp [pBeq, q0i]
theorem qParts {R : Type} {t : Tm} {H : Heap} {k : AV → Heap → Option R} : polQ pParts [eT t] H k = k (eL 7 eT (partsO t)) H := by
  simp [pParts, q2d]
noncomputable abbrev TAlk : List (FuncId × Pol) := [(93, pKnown), (94, q5g), (95, pBeq), (75, pParts)]
theorem qal {a b : List UInt8} (h : nums a = nums b) : a = b := by
  have : ∀ x y : UInt8, x.toNat = y.toNat → x = y := fun x y h => UInt8.toNat_inj.1 h
  exact (List.map_inj_right this).1 h
noncomputable def pAlike : Pol := .still (p2 cT cT .bool (fun a b => okK a ∧ okK b) fun a b => decide (oneT a b = 0))
theorem okAlike : PolOK base 74 pAlike := still2 base_ok TAlk ⟨okKnown, qiq, okBeq, qir, trivial⟩ fun a b ⟨⟨a1, a2, a3⟩, ⟨b1, b2, b3⟩⟩ => by
  have la : (eT a).cells.length = 7 := by rw [q02]; rfl
  have lb : (eT b).cells.length = 7 := by rw [q02]; rfl
  have oa : A.ofList true 7 (eT a).cells 0 = some (eT a) := q13 (H := [])
  have ob : A.ofList true 7 (eT b).cells 0 = some (eT b) := q13 (H := [])
  have ga : ∀ (i : Nat) (v : AV), i < 7 → (eT a).cells[i]? = some v → A.ofList false 1 (eT a).cells i = some v := fun i v _ h => h
  have gb : ∀ (i : Nat) (v : AV), i < 7 → (eT b).cells[i]? = some v → A.ofList false 1 (eT b).cells i = some v := fun i v _ h => h
  have a_1 := ga 1 (.bool a.neg) (by omega) (by rw [q02]; rfl)
  have a_2 := ga 2 (eD a.d) (by omega) (by rw [q02]; rfl)
  have a_3 := ga 3 (.str a.name) (by omega) (by rw [q02]; rfl)
  have a_4 := ga 4 (.int .i64 a.n) (by omega) (by rw [q02]; rfl)
  have a_6 := ga 6 (eL 1 eb a.b) (by omega) (by rw [q02]; rfl)
  have b_1 := gb 1 (.bool b.neg) (by omega) (by rw [q02]; rfl)
  have b_2 := gb 2 (eD b.d) (by omega) (by rw [q02]; rfl)
  have b_3 := gb 3 (.str b.name) (by omega) (by rw [q02]; rfl)
  have b_4 := gb 4 (.int .i64 b.n) (by omega) (by rw [q02]; rfl)
  have b_6 := gb 6 (eL 1 eb b.b) (by omega) (by rw [q02]; rfl)
  have a4 : ∀ h : 4 < (eT a).cells.length, (eT a).cells[4]'h = .int .i64 a.n := fun h => by simp [q02]
  have b4 : ∀ h : 4 < (eT b).cells.length, (eT b).cells[4]'h = .int .i64 b.n := fun h => by simp [q02]
  have a6 : ∀ h : 6 < (eT a).cells.length, (eT a).cells[6]'h = eL 1 eb a.b := fun h => by simp [q02]
  have b6 : ∀ h : 6 < (eT b).cells.length, (eT b).cells[6]'h = eL 1 eb b.b := fun h => by simp [q02]
  have fl : ∀ (x : Bool) (d : Option (List UInt32)), (A.fill [(AV.bool false), AV.nils] [(0, 1, AV.bool x), (1, 1, eD d)]).map .agg = some (eN (x, d)) := fun x d => by cases d <;> rfl
  have fa := fl a.neg a.d
  have fb := fl b.neg b.d
  clear fl
  have k1 : ∀ (R : Type) (H : Heap) (k : AV → Heap → Option R), polK pKnown [eT a] H k = k (.int .i64 a.kind) H := fun R H k => kKnown a1 a2
  have k2 : ∀ (R : Type) (H : Heap) (k : AV → Heap → Option R), polQ pKnown [eT a] H k = k (.int .i64 a.kind) H := fun R H k => qKnown a1 a2
  have k3 : ∀ (R : Type) (H : Heap) (k : AV → Heap → Option R), polQ pKnown [eT b] H k = k (.int .i64 b.kind) H := fun R H k => qKnown b1 b2
  have kc : ∀ (R : Type) (H : Heap) (k : AV → Heap → Option R), polK q5g [eN (a.neg, a.d), eN (b.neg, b.d)] H k = k (.int .i64 (cmpI (toI (a.neg, a.d)) (toI (b.neg, b.d)))) H := fun R H k => by
    rw [kCompare a3 b3, qfp]
  have kq1 : ∀ (R : Type) (H : Heap) (k : AV → Heap → Option R), polQ pParts [eT a] H k = k (eL 7 eT (partsO a)) H := fun R H k => qParts
  have kq2 : ∀ (R : Type) (H : Heap) (k : AV → Heap → Option R), polQ pParts [eT b] H k = k (eL 7 eT (partsO b)) H := fun R H k => qParts
  have p1 : ∀ H, A.len (eL 7 eT (partsO a)) H = some (.int .i64 (((partsO a).getD []).length : Int)) := fun H => q08
  have p2 : ∀ H, A.len (eL 7 eT (partsO b)) H = some (.int .i64 (((partsO b).getD []).length : Int)) := fun H => q08
  have e1 : cT.enc a = eT a := rfl
  have e2 : cT.enc b = eT b := rfl
  have d1 : (eT a).isDef = true := q7b
  have d2 : (eT b).isDef = true := q7b
  rw [e1, e2]
  by_cases hk : a.kind = b.kind
  · have n0 : ¬ a.kind ≠ b.kind := fun g => g hk
    have hone : oneT a b = if a.kind = 0 then cmpI (toI (a.neg, a.d)) (toI (b.neg, b.d)) else if a.kind = 1 then lessR a.name b.name else if a.kind = 2 ∨ a.kind = 3 then ordI a.n b.n else if a.kind = 4 ∨ a.kind = 6 then ordI (a.kids.length : Int) (b.kids.length : Int) else if a.kind = 7 then lexR (nums (a.b.getD [])) (nums (b.b.getD [])) else 0 := by
      unfold oneT
      rw [if_neg n0]
    have hs : decide (lessR a.name b.name = 0) = decide (a.name = b.name) := by simp only [decide_eq_decide]; exact qc3 _ _
    have hn : decide (ordI a.n b.n = 0) = decide (a.n = b.n) := by simp only [decide_eq_decide]; exact ord_zero
    have hx : decide (lexR (nums (a.b.getD [])) (nums (b.b.getD [])) = 0) = decide (a.b.getD [] = b.b.getD []) := by
      simp only [decide_eq_decide]
      exact ⟨fun h => qal ((q48 _ _).1 h), fun h => (q48 _ _).2 (by rw [h])⟩
    have hl : decide (ordI (a.kids.length : Int) (b.kids.length : Int) = 0) = decide ((a.kids.length : Int) = (b.kids.length : Int)) := by simp only [decide_eq_decide]; exact ord_zero
    have hb3 : ∀ (R : Type) (H : Heap) (k : AV → Heap → Option R), polQ pKnown [eT b] H k = k (.int .i64 a.kind) H := fun R H k => by rw [k3, hk]
    rw [hone]
    clear hone k3
    generalize lessR a.name b.name = X1 at *
    generalize ordI a.n b.n = X2 at *
    generalize ordI (a.kids.length : Int) (b.kids.length : Int) = X3 at *
    generalize lexR (nums (a.b.getD [])) (nums (b.b.getD [])) = X4 at *
    have hpa : (a.kind = 4 ∨ a.kind = 6) → ((partsO a).getD []).length = a.kids.length ∧ ((partsO b).getD []).length = b.kids.length := fun h => by
      unfold partsO
      rw [if_pos h, if_pos (hk ▸ h)]
      exact ⟨rfl, rfl⟩
    have hp5 : a.kind = 5 → ((partsO a).getD []).length = 0 ∧ ((partsO b).getD []).length = 0 := fun h => by
      unfold partsO
      rw [if_neg (by omega), if_neg (by omega)]
      exact ⟨rfl, rfl⟩
    generalize ((partsO a).getD []).length = LA at *
    generalize ((partsO b).getD []).length = LB at *
    generalize eN (a.neg, a.d) = na at *
    generalize eN (b.neg, b.d) = nb at *
    generalize eT a = va at *
    generalize eT b = vb at *
    generalize eL 7 eT (partsO a) = pa at *
    generalize eL 7 eT (partsO b) = pb at *
    generalize cmpI (toI (a.neg, a.d)) (toI (b.neg, b.d)) = X0 at *
    rcases (show a.kind = 0 ∨ a.kind = 1 ∨ a.kind = 2 ∨ a.kind = 3 ∨ a.kind = 4 ∨ a.kind = 5 ∨ a.kind = 6 ∨ a.kind = 7 by omega) with c | c | c | c | c | c | c | c
    · rw [c] at k1 k2 hb3
      exact Evs.of fun n m => by simp [↓q00, ↓q03, ↓q0b, ↓q01, ↓q07, S74, d1, d2, la, lb, oa, ob, k1, k2, hb3, a_1, a_2, b_1, b_2, fa, fb, kc, c]
    · rw [c] at k1 k2 hb3
      exact Evs.of fun n m => by simp [↓q00, ↓q03, ↓q0b, ↓q01, ↓q07, S74, d1, d2, la, lb, oa, ob, k1, k2, hb3, a_3, b_3, str_eql, c, hs]
    · rw [c] at k1 k2 hb3
      exact Evs.of fun n m => by simp [↓q00, ↓q03, ↓q0b, ↓q01, ↓q06, ↓q07, S74, d1, d2, la, lb, oa, ob, k1, k2, hb3, a4, b4, c, hn]
    · rw [c] at k1 k2 hb3
      exact Evs.of fun n m => by simp [↓q00, ↓q03, ↓q0b, ↓q01, ↓q06, ↓q07, S74, d1, d2, la, lb, oa, ob, k1, k2, hb3, a4, b4, c, hn]
    · rw [c] at k1 k2 hb3
      obtain ⟨q1, q2⟩ := hpa (.inl c)
      rw [q1] at p1
      rw [q2] at p2
      exact Evs.of fun n m => by simp [↓q00, ↓q03, ↓q0b, ↓q01, ↓q06, ↓q07, S74, d1, d2, la, lb, oa, ob, k1, k2, hb3, kq1, kq2, p1, p2, c, hl]
    · rw [c] at k1 k2 hb3
      obtain ⟨q1, q2⟩ := hp5 c
      rw [q1] at p1
      rw [q2] at p2
      exact Evs.of fun n m => by simp [↓q00, ↓q03, ↓q0b, ↓q01, ↓q06, ↓q07, S74, d1, d2, la, lb, oa, ob, k1, k2, hb3, kq1, kq2, p1, p2, c]
    · rw [c] at k1 k2 hb3
      obtain ⟨q1, q2⟩ := hpa (.inr c)
      rw [q1] at p1
      rw [q2] at p2
      exact Evs.of fun n m => by simp [↓q00, ↓q03, ↓q0b, ↓q01, ↓q06, ↓q07, S74, d1, d2, la, lb, oa, ob, k1, k2, hb3, kq1, kq2, p1, p2, c, hl]
    · rw [c] at k1 k2 hb3
      exact Evs.of fun n m => by simp [↓q00, ↓q03, ↓q0b, ↓q01, ↓q06, ↓q07, S74, d1, d2, la, lb, oa, ob, k1, k2, hb3, a6, b6, kBeq, c, hx]
  · have hz : ¬ oneT a b = 0 := by
      unfold oneT
      rw [if_pos hk]
      exact fun e => hk (ord_zero.1 e)
    generalize eT a = va at *
    generalize eT b = vb at *
    exact Evs.of fun n m => by simp [↓q00, ↓q03, ↓q0b, ↓q01, ↓q07, S74, d1, d2, la, lb, oa, ob, k2, k3, hk, hz]
theorem kAlike {R : Type} {a b : Tm} (ha : okK a) (hb : okK b) {H : Heap} {k : AV → Heap → Option R} : polK pAlike [eT a, eT b] H k = k (.bool (decide (oneT a b = 0))) H := by
  simp [pAlike, q0i, ha, hb]
end Go.Proofs.YtleikacgncpfbaaDoor
