/- Texts put together: Tm4, Tm5, Tm6, Tm7, Tm8, Tm9, Tm10, Tm11, Ma1, Ma2, Ma3, Ma4, Ma5, Ma6, Ma7, Ma8, Ma9, MaA, Mb1, Mb2, Mb3, Mb3A, Mb3B, Mb3C, Mb3D, Mb3E, Mb4, Mb5, Cp1, Cp2, Cp3, Cp4, Cp5, Cp6, Cp7, Cp8, Cp9, Awake5, Lw5c, Lw5d, Sm1, Sm2, Sm3. -/
import Derived.Test.YtleikacgncpfbaaDoorMf
import Derived.Test.YtleikacgncpfbaaDoorRows

/- Terms: how many parts a term has. -/
set_option maxRecDepth 100000
set_option maxHeartbeats 2000000
namespace Go.Proofs.YtleikacgncpfbaaDoor
open Go Go.Den
noncomputable def pWalk : Pol := .prim (runF base [] 55)
noncomputable abbrev TTree1 : List (FuncId × Pol) := [(75, pParts)]
noncomputable def pWalkTree : Pol := .prim (runF base TTree1 77)
noncomputable def LDt (t : Tm) : LoopD := LD19 (eT t) (.int .i64 0) (.ptr 0 0 0 0) (eT t) (.fn (.func 77) [] [.ptr 1 0 0 0])
def InvT (t : Tm) (s : Nat) (H : Heap) : Prop := s ≤ 65536 ∧ H[0]? = some (.row 0 1 3 [.int .i64 (s : Int)]) ∧ H[2]? = some (.loop (LDt t))
def FinT (t : Tm) (s : Nat) (H : Heap) : Prop := s = 65537 ∧ H[0]? = some (.row 0 1 3 [.int .i64 (s : Int)]) ∧ H[2]? = some (.loop { LDt t with state := 2, pending := some (.exit 0) })
end Go.Proofs.YtleikacgncpfbaaDoor

/- Terms: how many parts a term has: the entry. -/
set_option maxRecDepth 100000
set_option maxHeartbeats 2000000
namespace Go.Proofs.YtleikacgncpfbaaDoor
open Go Go.Den
mutual
def szT : Tm → Nat
  | .mk k _ _ _ _ l _ => 1 + (if k = 4 ∨ k = 6 then szO l else 0)
def szO : Option (List Tm) → Nat
  | none => 0
  | some l => szs l
def szs : List Tm → Nat
  | [] => 0
  | t :: l => szT t + szs l
end
theorem szT_eq (t : Tm) : szT t = 1 + szs ((partsO t).getD []) := by
  cases t with
  | mk k x d s n l b =>
    rw [szT]
    unfold partsO Tm.kind Tm.l
    dsimp only
    split
    · cases l with
      | none => rw [szO]; rfl
      | some l => rw [szO]; rfl
    · rfl
noncomputable def pTree : Pol := .still (p1 cT (fun n : Nat => .int .i64 (n : Int)) (fun t => t.thin 1000) (fun t => min (szT t) 65537))
end Go.Proofs.YtleikacgncpfbaaDoor

/- Terms: how many words a term takes. -/
set_option maxRecDepth 100000
set_option maxHeartbeats 4000000
namespace Go.Proofs.YtleikacgncpfbaaDoor
open Go Go.Den
def wordsOne (x : Tm) : Nat :=
  if x.kind = 0 then (if (smallS (x.neg, x.d)).2 then 0 else 1 + ((normS (false, x.d)).2.getD []).length)
  else if x.kind = 6 then 1 + x.kids.length else if x.kind = 4 then 1 + x.kids.length else if x.kind = 7 then 4 else 0
noncomputable abbrev TWords1 : List (FuncId × Pol) := [(75, pParts), (58, pSmall), (59, pNorm)]
noncomputable def pWalkWords : Pol := .prim (runF base TWords1 77)
noncomputable def LDw (t : Tm) : LoopD := LD21 (eT t) (.int .i64 0) (.ptr 0 0 0 0) (eT t) (.fn (.func 77) [] [.ptr 1 0 0 0])
def okW (s : Nat × Nat) (x : Tm) : Bool := decide ((x.d.getD []).length ≤ 1000000) && decide (x.kids.length ≤ 1000) && decide (s.1 < 65537)
def InvW (t : Tm) (s : Nat × Nat) (H : Heap) : Prop := s.2 ≤ s.1 * 1000002 ∧ s.1 ≤ 65537 ∧ H[0]? = some (.row 0 1 3 [.int .i64 (s.2 : Int)]) ∧ H[2]? = some (.loop (LDw t))
end Go.Proofs.YtleikacgncpfbaaDoor

/- Terms: how many words a term takes: the entry. -/
set_option maxRecDepth 100000
set_option maxHeartbeats 4000000
namespace Go.Proofs.YtleikacgncpfbaaDoor
open Go Go.Den
mutual
def wT : Tm → Nat
  | .mk k x d s n l b => wordsOne (.mk k x d s n l b) + (if k = 4 ∨ k = 6 then wTo l else 0)
def wTo : Option (List Tm) → Nat
  | none => 0
  | some l => wTs l
def wTs : List Tm → Nat
  | [] => 0
  | t :: l => wT t + wTs l
end
noncomputable def pWords : Pol := .still (p1 cT (fun n : Nat => .int .i64 (n : Int)) (fun t => t.thin 1000 ∧ t.fewd ∧ szT t ≤ 65536) wT)
end Go.Proofs.YtleikacgncpfbaaDoor

/- Terms: numbers as terms, more. -/
set_option maxRecDepth 100000
set_option maxHeartbeats 2000000
namespace Go.Proofs.YtleikacgncpfbaaDoor
open Go Go.Den
def intT (a : Nm) : Tm := .mk 0 a.1 a.2 [] 0 none none
theorem eT_int (a : Nm) : eT (intT a) = .agg [.int .i64 0, .bool a.1, eD a.2, .str [], .int .i64 0, .nils, .nils] := by rw [eT_eq]; rfl
noncomputable def pTnum : Pol := .still (p1 cN eT (fun a => few a.2) fun a => intT (normS a))
theorem okTnum : PolOK base 30 pTnum := still1 base_ok [(59, pNorm)] ⟨okNorm, trivial⟩ fun a hf => by
  have hk : ∀ (H : Heap) (k : AV → Heap → Option AV), polK pNorm [eN a] H k = k (eN (normS a)) H := fun H k => kNorm hf
  have hq : ∀ (H : Heap) (k : AV → Heap → Option AV), polQ pNorm [eN a] H k = k (eN (normS a)) H := fun H k => qNorm hf
  have hz : ∀ (H : Heap), A.freezeB true 64 H (eT (intT (normS a))) = some (eT (intT (normS a))) := fun H => frz_imm (by simp)
  rw [eT_int] at hz ⊢
  generalize normS a = N at *
  refine Evs.of fun n m => ?_
  simp [↓bindC_eq, ↓withV_of, ↓chkD_true, S30, hk, A.ofList, A.fill, A.fits, A.splice, hz]
theorem kTnum {R : Type} {a : Nm} (h : few a.2) {H : Heap} {k : AV → Heap → Option R} : polK pTnum [eN a] H k = k (eT (intT (normS a))) H := by
  simp [pTnum, polK_imm, h]
noncomputable def pTint : Pol := .still (p1 (cI .i64) eT (fun n => -9223372036854775808 ≤ n ∧ n ≤ 9223372036854775807) fun n => intT (normS (ofS n)))
end Go.Proofs.YtleikacgncpfbaaDoor

/- Terms: the number that a term is. -/
set_option maxRecDepth 100000
set_option maxHeartbeats 2000000
namespace Go.Proofs.YtleikacgncpfbaaDoor
open Go Go.Den
def numOf (t : Tm) : Nm × Bool := if t.kind = 0 then (normS (t.neg, t.d), true) else ((false, none), false)
noncomputable def pTof : Pol := .still (p1 cT (fun r : Nm × Bool => .tup [eN r.1, .bool r.2]) (fun t => few t.d) numOf)
theorem okTof : PolOK base 32 pTof := still1 base_ok [(59, pNorm)] ⟨okNorm, trivial⟩ fun t hf => by
  have hk : ∀ (H : Heap) (k : AV → Heap → Option AV), polK pNorm [.agg [.bool t.neg, eD t.d]] H k = k (eN (normS (t.neg, t.d))) H := fun H k => kNorm (a := (t.neg, t.d)) hf
  have hz : ∀ (H : Heap) (N : Nm) (b : Bool), A.freezeB true 64 H (.tup [.agg [.bool N.1, eD N.2], .bool b]) = some (.tup [.agg [.bool N.1, eD N.2], .bool b]) := fun H N b => frz_imm (by simp)
  refine Evs.of fun n m => ?_
  unfold numOf
  by_cases c : t.kind = 0
  · rw [if_pos c]
    generalize normS (t.neg, t.d) = N at *
    simp [↓test_bool, ↓bindC_eq, ↓withV_of, ↓chkD_true, S32, c, hk, A.ofList, A.fill, A.fits, A.splice, hz]
  · rw [if_neg c]
    have hz0 := hz [] (false, none) false
    simp [↓test_bool, ↓bindC_eq, ↓withV_of, ↓chkD_true, S32, c, A.ofList, A.fill, A.fits, A.splice]
    exact hz0
theorem kTof {R : Type} {t : Tm} (h : few t.d) {H : Heap} {k : AV → Heap → Option R} : polK pTof [eT t] H k = k (.tup [eN (numOf t).1, .bool (numOf t).2]) H := by
  simp [pTof, polK_imm, h]
end Go.Proofs.YtleikacgncpfbaaDoor

/- Terms: may a number be one? -/
set_option maxRecDepth 100000
set_option maxHeartbeats 2000000
namespace Go.Proofs.YtleikacgncpfbaaDoor
open Go Go.Den
def isI (t : Tm) : Prop := ∃ a, t = intT a
noncomputable def pSpareI : Pol := .still (p1 cT .bool isI fun _ => true)
end Go.Proofs.YtleikacgncpfbaaDoor

/- Terms: a number in its plain form may be one. -/
set_option maxRecDepth 100000
set_option maxHeartbeats 2000000
namespace Go.Proofs.YtleikacgncpfbaaDoor
open Go Go.Den
def plainI (t : Tm) : Prop := ∃ a z, t = intT a ∧ Rep a z ∧ (a.2.getD []).length ≤ 64
noncomputable def pOneI : Pol := .still (p1 cT .bool plainI fun _ => true)
end Go.Proofs.YtleikacgncpfbaaDoor

/- Terms: what one is that may be, in plain words. -/
set_option maxRecDepth 100000
set_option maxHeartbeats 2000000
namespace Go.Proofs.YtleikacgncpfbaaDoor
open Go Go.Den
mutual
def evT (p : Tm → Prop) : Tm → Prop
  | .mk k x d s n l b => p (.mk k x d s n l b) ∧ evTo p l
def evTo (p : Tm → Prop) : Option (List Tm) → Prop
  | none => True
  | some l => evTs p l
def evTs (p : Tm → Prop) : List Tm → Prop
  | [] => True
  | t :: l => evT p t ∧ evTs p l
end
theorem evTs_all {p : Tm → Prop} : ∀ {l : List Tm}, evTs p l ↔ ∀ u ∈ l, evT p u
  | [] => by simp [evTs]
  | t :: l => by rw [evTs, evTs_all (l := l)]; simp
theorem evT_eq {p : Tm → Prop} {t : Tm} : evT p t ↔ p t ∧ ∀ u ∈ t.kids, evT p u := by
  cases t with
  | mk k x d s n l b =>
    rw [evT]
    cases l with
    | none => rw [evTo]; simp [Tm.kids, Tm.l]
    | some l => rw [evTo, evTs_all]; rfl
theorem tm_ind {P : Tm → Prop} (h : ∀ t, (∀ u ∈ t.kids, P u) → P t) (t : Tm) : P t := by
  have : ∀ n, ∀ t : Tm, t.size ≤ n → P t := by
    intro n
    induction n with
    | zero =>
      intro t ht
      have := t.size_eq
      omega
    | succ n ih =>
      intro t ht
      exact h t fun u hu => ih u (by have := Tm.size_kid hu; omega)
  exact this t.size t (Nat.le_refl _)
def tameOne (u : Tm) : Prop := (u.d.getD []).length ≤ 1000000 ∧ u.name.length ≤ 1000000 ∧ u.kids.length ≤ 1000
def tame (t : Tm) : Prop := evT tameOne t
theorem tame_eq {t : Tm} : tame t ↔ tameOne t ∧ ∀ u ∈ t.kids, tame u := evT_eq
theorem tame_thin : ∀ t, tame t → t.thin 1000 := tm_ind fun t ih h => by
  rw [tame_eq] at h
  exact Tm.thin_eq.2 ⟨h.1.2.2, fun u hu => ih u hu (h.2 u hu)⟩
theorem room_tame {most : Int} (hm : most ≤ 1000) : ∀ t dep, roomS t dep most = true → tame t := fun t => tm_ind (P := fun t => ∀ dep, roomS t dep most = true → tame t) (fun t ih dep h => by
  rw [roomS_eq] at h
  simp only [Bool.and_eq_true, Bool.not_eq_true', Bool.or_eq_false_iff, decide_eq_false_iff_not, List.all_eq_true] at h
  obtain ⟨⟨⟨⟨⟨h1, h2⟩, h3⟩, h4⟩, h5⟩, h6⟩ := h
  exact tame_eq.2 ⟨⟨by omega, by omega, by omega⟩, fun u hu => ih u hu _ (h6 u hu)⟩) t
def spareS (t : Tm) : Bool :=
  (decide (t.kind = 0) || (!t.neg && decide ((t.d.getD []).length = 0))) && ((decide (t.kind = 3) || decide (t.kind = 2)) || decide (t.n = 0)) && ((decide (t.kind = 4) || decide (t.kind = 6)) || decide (t.kids.length = 0)) && (decide (t.kind = 1) || decide (t.name = [])) && (decide (t.kind = 7) || decide ((t.b.getD []).length = 0))
def plainN (neg : Bool) (d : List UInt32) : Bool := match d.getLast? with
  | none => !neg
  | some x => decide (x ≠ 0)
def oneS (cnt : List UInt8 → Int) (t : Tm) : Bool := spareS t && (
  if t.kind = 0 then decide ((t.d.getD []).length ≤ 64) && plainN t.neg (t.d.getD [])
  else if t.kind = 1 then decide (0 ≤ cnt t.name) && decide (cnt t.name ≤ 255)
  else if t.kind = 2 ∨ t.kind = 3 then decide (0 ≤ t.n) && decide (t.n ≤ 1073741824)
  else if t.kind = 4 then decide (t.kids.length ≤ 255)
  else if t.kind = 6 then decide (t.kids.length = 2)
  else if t.kind = 7 then decide ((t.b.getD []).length ≤ 4096)
  else decide (t.kind = 5))
mutual
def mayT (cnt : List UInt8 → Int) : Tm → Bool
  | .mk k x d s n l b => oneS cnt (.mk k x d s n l b) && (if k = 4 ∨ k = 6 then mayTo cnt l else true)
def mayTo (cnt : List UInt8 → Int) : Option (List Tm) → Bool
  | none => true
  | some l => mayTs cnt l
def mayTs (cnt : List UInt8 → Int) : List Tm → Bool
  | [] => true
  | t :: l => mayT cnt t && mayTs cnt l
end
theorem mayTs_all {cnt : List UInt8 → Int} : ∀ l : List Tm, mayTs cnt l = l.all (mayT cnt)
  | [] => by simp [mayTs]
  | t :: l => by rw [mayTs, mayTs_all l]; rfl
theorem mayT_eq {cnt : List UInt8 → Int} (t : Tm) : mayT cnt t = (oneS cnt t && ((partsO t).getD []).all (mayT cnt)) := by
  cases t with
  | mk k x d s n l b =>
    rw [mayT]
    unfold partsO Tm.kind Tm.l
    dsimp only
    split
    · cases l with
      | none => rw [mayTo]; rfl
      | some l => rw [mayTo, mayTs_all]; rfl
    · rfl
theorem lim_ends {n : Nat} {x : UInt32} (h : (lim n).getLast? = some x) : x ≠ 0 := by
  by_cases hn : n = 0
  · subst hn
    rw [lim_zero] at h
    cases h
  · obtain ⟨y, hy, h0⟩ := lim_last hn
    rw [h] at hy
    injection hy with hy
    rw [hy]
    exact h0
theorem same_plain {neg : Bool} {d : Option (List UInt32)} : sameS (neg, d) (rnormS (neg, d)) = plainN neg (d.getD []) := by
  have hg : ∀ l : List UInt32, (nz l).getD [] = l := fun l => by cases l <;> rfl
  unfold sameS rnormS plainN
  dsimp only
  rw [hg]
  generalize d.getD [] = l
  cases h : l.getLast? with
  | none =>
    have : l = [] := List.getLast?_eq_none_iff.1 h
    subst this
    simp [val, lim_zero]
  | some x =>
    dsimp only
    by_cases hx : x = 0
    · have hne : ¬ l = lim (val l) := fun e => by
        rw [e] at h
        exact lim_ends h hx
      simp [hx, hne]
    · have e : lim (val l) = l := lim_val_last (fun y hy => by
        rw [h] at hy
        injection hy with hy
        rw [← hy]
        exact hx)
      have hl : 0 < l.length := by
        cases l with
        | nil => cases h
        | cons => simp
      rw [e]
      simp [hx, hl]
end Go.Proofs.YtleikacgncpfbaaDoor

/- Terms: whether the fields that a kind does not use are zero. -/
set_option maxRecDepth 100000
set_option maxHeartbeats 4000000
namespace Go.Proofs.YtleikacgncpfbaaDoor
open Go Go.Den
noncomputable def pSpare : Pol := .still (p1 cT .bool (fun _ => True) spareS)
end Go.Proofs.YtleikacgncpfbaaDoor

/- Texts: is one well-formed: it is found out, one way or the other. -/
set_option maxRecDepth 100000
set_option maxHeartbeats 4000000
namespace Go.Proofs.YtleikacgncpfbaaDoor
open Go Go.Den
def andI (k : IntKind) (a b : Int) : Int := k.wrap ((BitVec.ofInt k.bits a &&& BitVec.ofInt k.bits b).toNat : Int)
def orI (k : IntKind) (a b : Int) : Int := k.wrap ((BitVec.ofInt k.bits a ||| BitVec.ofInt k.bits b).toNat : Int)
theorem bin_andI {P : Program} {t : TypeId} {k : IntKind} {a b : Int} {c : Bool} {H : Heap} : A.bin P .and t (.int k a) (.int k b) c H = some (.int k (andI k a b)) := by
  simp [A.bin, A.binInt, A.bits, andI]
theorem bin_orI {P : Program} {t : TypeId} {k : IntKind} {a b : Int} {c : Bool} {H : Heap} : A.bin P .or t (.int k a) (.int k b) c H = some (.int k (orI k a b)) := by
  simp [A.bin, A.binInt, A.bits, orI]
theorem slice_str {s : List UInt8} {i : Nat} {k : IntKind} (h : i ≤ s.length) : A.sliceStr (.str s) (some (.int k (i : Int))) none = some (.str (s.drop i)) := by
  have e : (s.drop i).take (s.length - i) = s.drop i := List.take_of_length_le (by simp)
  simp [A.sliceStr, A.bound, h, e]
theorem len_str {s : List UInt8} : A.lenStr (.str s) = some (.int .i64 (s.length : Int)) := rfl
/-! ### eight bytes as a word -/
theorem cv_8_int (n : Int) (j : IntKind) : Go.Den.convert base 5 3 (.int j n) = some (.int .i64 (IntKind.wrap .i64 n)) := conv_int (x := .int .u8) (by kernel_rfl) (by kernel_rfl)
theorem frz_i {k : IntKind} {x : Int} {H : Heap} : A.freezeB true 64 H (.int k x) = some (.int k x) := rfl
theorem word_ex (s : List UInt8) (h : 8 ≤ s.length) : ∃ v : Int, ∀ n, callF (base.with (polT [])) (n + 1) AV 106 [.str s] [] (fun v G => A.freezeB true 64 G v) = some (.int .u64 v) := by
  obtain ⟨c0, c1, c2, c3, c4, c5, c6, c7, r, rfl⟩ : ∃ c0 c1 c2 c3 c4 c5 c6 c7 r, s = c0 :: c1 :: c2 :: c3 :: c4 :: c5 :: c6 :: c7 :: r := by
    match s, h with
    | c0 :: c1 :: c2 :: c3 :: c4 :: c5 :: c6 :: c7 :: r, _ => exact ⟨c0, c1, c2, c3, c4, c5, c6, c7, r, rfl⟩
  have x0 : A.index (.str (c0 :: c1 :: c2 :: c3 :: c4 :: c5 :: c6 :: c7 :: r)) (.int .i64 0) = some (.int .u8 (c0.toNat : Int)) := rfl
  have x1 : A.index (.str (c0 :: c1 :: c2 :: c3 :: c4 :: c5 :: c6 :: c7 :: r)) (.int .i64 1) = some (.int .u8 (c1.toNat : Int)) := rfl
  have x2 : A.index (.str (c0 :: c1 :: c2 :: c3 :: c4 :: c5 :: c6 :: c7 :: r)) (.int .i64 2) = some (.int .u8 (c2.toNat : Int)) := rfl
  have x3 : A.index (.str (c0 :: c1 :: c2 :: c3 :: c4 :: c5 :: c6 :: c7 :: r)) (.int .i64 3) = some (.int .u8 (c3.toNat : Int)) := rfl
  have x4 : A.index (.str (c0 :: c1 :: c2 :: c3 :: c4 :: c5 :: c6 :: c7 :: r)) (.int .i64 4) = some (.int .u8 (c4.toNat : Int)) := rfl
  have x5 : A.index (.str (c0 :: c1 :: c2 :: c3 :: c4 :: c5 :: c6 :: c7 :: r)) (.int .i64 5) = some (.int .u8 (c5.toNat : Int)) := rfl
  have x6 : A.index (.str (c0 :: c1 :: c2 :: c3 :: c4 :: c5 :: c6 :: c7 :: r)) (.int .i64 6) = some (.int .u8 (c6.toNat : Int)) := rfl
  have x7 : A.index (.str (c0 :: c1 :: c2 :: c3 :: c4 :: c5 :: c6 :: c7 :: r)) (.int .i64 7) = some (.int .u8 (c7.toNat : Int)) := rfl
  generalize (c0 :: c1 :: c2 :: c3 :: c4 :: c5 :: c6 :: c7 :: r) = s at *
  refine ⟨?_, fun n => ?_⟩
  rotate_left
  · rw [S106]
    have h8 : ¬ (8 : Int) < 0 := by decide
    have h16 : ¬ (16 : Int) < 0 := by decide
    have h24 : ¬ (24 : Int) < 0 := by decide
    have h32 : ¬ (32 : Int) < 0 := by decide
    have h40 : ¬ (40 : Int) < 0 := by decide
    have h48 : ¬ (48 : Int) < 0 := by decide
    have h56 : ¬ (56 : Int) < 0 := by decide
    rw [test_bool]
    simp only [x0, x1, x2, x3, x4, x5, x6, x7]
    exact frz_i (H := [])
noncomputable def wordV (s : List UInt8) : Int := open Classical in if h : 8 ≤ s.length then (word_ex s h).choose else 0
noncomputable def pWord : Pol := .still (p1 cS (.int .u64) (fun s => 8 ≤ s.length) wordV)
theorem okWord : PolOK base 106 pWord := still1 base_ok [] trivial fun s h => Evs.of fun n _ => by
  have := (word_ex s h).choose_spec n
  unfold wordV
  rw [dif_pos h]
  exact this
theorem kWord {R : Type} {s : List UInt8} (h : 8 ≤ s.length) {H : Heap} {k : AV → Heap → Option R} : polK pWord [.str s] H k = k (.int .u64 (wordV s)) H := by
  simp [pWord, polK_imm, h]
/-! ### the tables -/
theorem first_all : ((base.glob 0).getD []).length = 256 ∧ ((base.glob 0).getD []).all (fun v => match v with | .int .u8 n => decide (0 ≤ n) && decide (n < 256) | _ => false) = true := by
  constructor <;> kernel_rfl
theorem first_ex (z : Int) (h0 : 0 ≤ z) (h1 : z < 256) : ∃ (p : AV) (x : Int), 0 ≤ x ∧ x < 256 ∧ ∀ H, A.idxArr 1 256 (globV base 0) (.int .u8 z) H = some p ∧ A.load false 1 p H = some (.int .u8 x) := by
  obtain ⟨hl, ha⟩ := first_all
  unfold globV
  generalize (base.glob 0).getD [] = cs at *
  have hz : z.toNat < cs.length := by omega
  have hm : cs[z.toNat] ∈ cs := List.getElem_mem hz
  have hx := List.all_eq_true.1 ha _ hm
  generalize hv : cs[z.toNat] = v at hx
  split at hx
  · rename_i n
    simp only [Bool.and_eq_true, decide_eq_true_eq] at hx
    refine ⟨.rop (cs.drop z.toNat), n, hx.1, hx.2, fun H => ⟨?_, ?_⟩⟩
    · have : 0 ≤ z ∧ z < ((256 : Nat) : Int) := ⟨h0, by omega⟩
      show (if 0 ≤ z ∧ z < ((256 : Nat) : Int) then A.fa (z.toNat * 1) (.rop cs) H else none) = _
      rw [if_pos this, Nat.mul_one]
      rfl
    · show A.ofList false 1 (cs.drop z.toNat) 0 = _
      simp [A.ofList, hz, hv]
  · cases hx
theorem acc_all : ((base.glob 1).getD []).length = 32 ∧ ((base.glob 1).getD []).all (fun v => match v with | .int .u8 n => decide (0 ≤ n) && decide (n < 256) | _ => false) = true := by
  constructor <;> kernel_rfl
theorem acc_ex (z : Int) (h0 : 0 ≤ z) (h1 : z < 16) : ∃ (p : AV) (lo hi : Int), ∀ H, A.idxArr 2 16 (globV base 1) (.int .u8 z) H = some p ∧ A.load true 2 p H = some (.agg [.int .u8 lo, .int .u8 hi]) := by
  obtain ⟨hl, ha⟩ := acc_all
  unfold globV
  generalize (base.glob 1).getD [] = cs at *
  have hz : z.toNat * 2 + 1 < cs.length := by omega
  have e1 : ∃ n, cs[z.toNat * 2] = .int .u8 n := by
    have hx := List.all_eq_true.1 ha _ (List.getElem_mem (show z.toNat * 2 < cs.length by omega))
    generalize hv : cs[z.toNat * 2] = v at hx
    split at hx
    · exact ⟨_, rfl⟩
    · cases hx
  have e2 : ∃ n, cs[z.toNat * 2 + 1] = .int .u8 n := by
    have hx := List.all_eq_true.1 ha _ (List.getElem_mem hz)
    generalize hv : cs[z.toNat * 2 + 1] = v at hx
    split at hx
    · exact ⟨_, rfl⟩
    · cases hx
  obtain ⟨lo, e1⟩ := e1
  obtain ⟨hi, e2⟩ := e2
  refine ⟨.rop (cs.drop (z.toNat * 2)), lo, hi, fun H => ⟨?_, ?_⟩⟩
  · have : 0 ≤ z ∧ z < ((16 : Nat) : Int) := ⟨h0, by omega⟩
    show (if 0 ≤ z ∧ z < ((16 : Nat) : Int) then A.fa (z.toNat * 2) (.rop cs) H else none) = _
    rw [if_pos this]
    rfl
  · show A.ofList true 2 (cs.drop (z.toNat * 2)) 0 = _
    have hd : cs.drop (z.toNat * 2) = .int .u8 lo :: .int .u8 hi :: cs.drop (z.toNat * 2 + 2) := by
      rw [List.drop_eq_getElem_cons (show z.toNat * 2 < cs.length by omega), e1, List.drop_eq_getElem_cons hz, e2]
    rw [hd]
    simp [A.ofList]
theorem shr4 {P : Program} {t : TypeId} {j : IntKind} {a : Int} {c : Bool} (h0 : 0 ≤ a) (h1 : a < 256) : ∃ w, 0 ≤ w ∧ w < 16 ∧ ∀ H, A.bin P .shr t (.int .u8 a) (.int j 4) c H = some (.int .u8 w) := by
  refine ⟨a.fdiv 16, ?_, ?_, fun H => ?_⟩
  · exact Int.fdiv_nonneg h0 (by omega)
  · rw [Int.fdiv_eq_ediv_of_nonneg _ (by omega)]
    omega
  · simp [A.bin, A.binInt, IntKind.bits]
end Go.Proofs.YtleikacgncpfbaaDoor

/- Texts: is one well-formed: the loops. -/
set_option maxRecDepth 100000
set_option maxHeartbeats 4000000
namespace Go.Proofs.YtleikacgncpfbaaDoor
open Go Go.Den
noncomputable abbrev TVal : List (FuncId × Pol) := [(106, pWord)]
theorem valid_skip : ∀ (N : Nat) (s : List UInt8), s.length ≤ N → ∀ H : Heap, ∃ s' : List UInt8, s'.length ≤ s.length ∧ LDoes (L99_1 (polT TVal)) ⟨[.str s], []⟩ H 0 ⟨[.str s'], []⟩ H
  | N, s, hN, H => by
    by_cases h : 32 < s.length
    · have hlt : (32 : Int) < (s.length : Int) := by omega
      have d8 := slice_str (s := s) (k := .i64) (i := 8) (by omega)
      have d16 := slice_str (s := s) (k := .i64) (i := 16) (by omega)
      have d24 := slice_str (s := s) (k := .i64) (i := 24) (by omega)
      have d32 := slice_str (s := s) (k := .i64) (i := 32) (by omega)
      have e8 : 8 ≤ s.length - 8 := by omega
      have e16 : 8 ≤ s.length - 16 := by omega
      have e24 : 8 ≤ s.length - 24 := by omega
      have e0 : 8 ≤ s.length := by omega
      have w0 : ∀ (R : Type) (H : Heap) (k : AV → Heap → Option R), polK pWord [.str s] H k = k (.int .u64 (wordV s)) H := fun R H k => kWord e0
      have w8 : ∀ (R : Type) (H : Heap) (k : AV → Heap → Option R), polK pWord [.str (s.drop 8)] H k = k (.int .u64 (wordV (s.drop 8))) H := fun R H k => kWord (by simpa using e8)
      have w16 : ∀ (R : Type) (H : Heap) (k : AV → Heap → Option R), polK pWord [.str (s.drop 16)] H k = k (.int .u64 (wordV (s.drop 16))) H := fun R H k => kWord (by simpa using e16)
      have w24 : ∀ (R : Type) (H : Heap) (k : AV → Heap → Option R), polK pWord [.str (s.drop 24)] H k = k (.int .u64 (wordV (s.drop 24))) H := fun R H k => kWord (by simpa using e24)
      have hl : A.lenStr (.str s) = some (.int .i64 (s.length : Int)) := len_str
      generalize wordV s = a0 at *
      generalize wordV (s.drop 8) = a8 at *
      generalize wordV (s.drop 16) = a16 at *
      generalize wordV (s.drop 24) = a24 at *
      simp only [Int.cast_ofNat_Int] at d8 d16 d24 d32
      by_cases hc : andI .u64 (orI .u64 (orI .u64 a0 a8) (orI .u64 a16 a24)) 9259542123273814144 = 0
      · match N with
        | 0 => omega
        | N + 1 =>
          obtain ⟨s', hs, hL⟩ := valid_skip N (s.drop 32) (by simp; omega) H
          simp only [List.length_drop] at hs
          refine ⟨s', by omega, LDoes.step (Evs.withL hL (Evs.of fun n m _ h2 => ?_))⟩
          generalize s.drop 8 = s8 at *
          generalize s.drop 16 = s16 at *
          generalize s.drop 24 = s24 at *
          generalize s.drop 32 = s32 at *
          generalize (s.length : Int) = N at *
          simp [↓test_bool, ↓withV_of, ↓withP_some, ↓withB_some, ↓chkD_true, L99_1_step, hl, hlt, d8, d16, d24, d32, w0, w8, w16, w24, bin_orI, bin_andI, hc, AV.heapy, h2]
      · refine ⟨s, Nat.le_refl _, LDoes.step (Evs.of fun n m => ?_)⟩
        generalize s.drop 8 = s8 at *
        generalize s.drop 16 = s16 at *
        generalize s.drop 24 = s24 at *
        generalize s.drop 32 = s32 at *
        generalize (s.length : Int) = N at *
        simp [↓test_bool, ↓withV_of, ↓withP_some, ↓withB_some, ↓chkD_true, L99_1_step, hl, hlt, d8, d16, d24, w0, w8, w16, w24, bin_orI, bin_andI, hc, AV.heapy]
    · have hlt : ¬ (32 : Int) < (s.length : Int) := by omega
      have hl : A.lenStr (.str s) = some (.int .i64 (s.length : Int)) := len_str
      generalize (s.length : Int) = N at *
      refine ⟨s, Nat.le_refl _, LDoes.step (Evs.of fun n m => ?_)⟩
      simp [↓test_bool, ↓withV_of, ↓withP_some, ↓withB_some, ↓chkD_true, L99_1_step, hl, hlt, AV.heapy]
end Go.Proofs.YtleikacgncpfbaaDoor

/- Texts: is one well-formed: the loop over its signs. -/
set_option maxRecDepth 100000
set_option maxHeartbeats 8000000
namespace Go.Proofs.YtleikacgncpfbaaDoor
open Go Go.Den
def ValidFrom (s : List UInt8) : Prop := ∀ H : Heap, ∃ (b : Bool) (H' : Heap), LDoes (L99_0 (polT TVal)) ⟨[.str s], []⟩ H (if b then 0 else 1) ⟨[if b then .undef else .bool false], []⟩ H'
theorem valid_nil : ValidFrom [] := fun H => by
  have hl : A.lenStr (.str []) = some (.int .i64 0) := len_str
  exact ⟨true, H, LDoes.step (Evs.of fun n m => by simp [↓test_bool, ↓withV_of, L99_0_step, hl])⟩
theorem valid_ascii (c : UInt8) (r : List UInt8) (hc : c.toNat < 128) (ih : ∀ s, s.length ≤ r.length → ValidFrom s) : ValidFrom (c :: r) := fun H => by
  have hl : A.lenStr (.str (c :: r)) = some (.int .i64 ((r.length + 1 : Nat) : Int)) := len_str
  have hp : (0 : Int) < ((r.length + 1 : Nat) : Int) := by omega
  have hx : A.index (.str (c :: r)) (.int .i64 0) = some (.int .u8 (c.toNat : Int)) := rfl
  have d1 : A.sliceStr (.str (c :: r)) (some (.int .i64 1)) none = some (.str r) := slice_str (s := c :: r) (i := 1) (by simp)
  have hr : A.lenStr (.str r) = some (.int .i64 (r.length : Int)) := len_str
  have hz : (c.toNat : Int) < 128 := by omega
  have ih8 := ih (r.drop 8) (by simp)
  have ih24 : ∀ s', s'.length ≤ (r.drop 24).length → ValidFrom s' := fun s' h => ih s' (by simp at h; omega)
  have ihr := ih r (Nat.le_refl _)
  generalize ((r.length + 1 : Nat) : Int) = N1 at *
  generalize (c.toNat : Int) = z at *
  generalize c :: r = s at *
  by_cases h8 : 8 < r.length
  · have h8' : (8 : Int) < (r.length : Int) := by omega
    have d8 : A.sliceStr (.str r) (some (.int .i64 8)) none = some (.str (r.drop 8)) := slice_str (s := r) (i := 8) (by omega)
    have w0 : ∀ (R : Type) (H : Heap) (k : AV → Heap → Option R), polK pWord [.str r] H k = k (.int .u64 (wordV r)) H := fun R H k => kWord (by omega)
    generalize wordV r = a0 at *
    by_cases c0 : andI .u64 a0 9259542123273814144 = 0
    · have hr8 : A.lenStr (.str (r.drop 8)) = some (.int .i64 ((r.length - 8 : Nat) : Int)) := by rw [len_str]; simp
      by_cases h16 : 16 < r.length - 8
      · have h16' : (16 : Int) < ((r.length - 8 : Nat) : Int) := by omega
        have d16 : A.sliceStr (.str (r.drop 8)) (some (.int .i64 8)) none = some (.str (r.drop 16)) := by
          have := slice_str (s := r.drop 8) (k := .i64) (i := 8) (by simp; omega)
          rw [List.drop_drop] at this
          exact this
        have d24 : A.sliceStr (.str (r.drop 8)) (some (.int .i64 16)) none = some (.str (r.drop 24)) := by
          have := slice_str (s := r.drop 8) (k := .i64) (i := 16) (by simp; omega)
          rw [List.drop_drop] at this
          exact this
        have w8 : ∀ (R : Type) (H : Heap) (k : AV → Heap → Option R), polK pWord [.str (r.drop 8)] H k = k (.int .u64 (wordV (r.drop 8))) H := fun R H k => kWord (by simp; omega)
        have w16 : ∀ (R : Type) (H : Heap) (k : AV → Heap → Option R), polK pWord [.str (r.drop 16)] H k = k (.int .u64 (wordV (r.drop 16))) H := fun R H k => kWord (by simp; omega)
        generalize wordV (r.drop 8) = a8 at *
        generalize wordV (r.drop 16) = a16 at *
        by_cases c1 : andI .u64 (orI .u64 a8 a16) 9259542123273814144 = 0
        · obtain ⟨s', hs', hL1⟩ := valid_skip _ (r.drop 24) (Nat.le_refl _) H
          obtain ⟨b, H', hL⟩ := ih24 s' hs' H
          refine ⟨b, H', LDoes.step (Evs.withL hL1 (Evs.withL hL (Evs.of fun n m _ h2 h3 _ => ?_)))⟩
          generalize r.drop 8 = r8 at *
          generalize r.drop 16 = r16 at *
          generalize r.drop 24 = r24 at *
          generalize (r.length : Int) = N at *
          generalize ((r.length - 8 : Nat) : Int) = N8 at *
          simp [↓test_bool, ↓bindV_eq, ↓withV_of, ↓withP_some, ↓withB_some, ↓bindX_some, ↓chkD_true, L99_0_step, hl, hp, hx, hz, d1, hr, h8', d8, w0, bin_andI, c0, hr8, h16', d16, w8, w16, bin_orI, c1, d24, AV.heapy, h2, h3]
        · obtain ⟨b, H', hL⟩ := ih8 H
          refine ⟨b, H', LDoes.step (Evs.withL hL (Evs.of fun n m _ h2 => ?_))⟩
          generalize r.drop 8 = r8 at *
          generalize r.drop 16 = r16 at *
          generalize (r.length : Int) = N at *
          generalize ((r.length - 8 : Nat) : Int) = N8 at *
          simp [↓test_bool, ↓bindV_eq, ↓withV_of, ↓withP_some, ↓withB_some, ↓bindX_some, ↓chkD_true, L99_0_step, hl, hp, hx, hz, d1, hr, h8', d8, w0, bin_andI, c0, hr8, h16', d16, w8, w16, bin_orI, c1, AV.heapy, h2]
      · have h16' : ¬ (16 : Int) < ((r.length - 8 : Nat) : Int) := by omega
        obtain ⟨b, H', hL⟩ := ih8 H
        refine ⟨b, H', LDoes.step (Evs.withL hL (Evs.of fun n m _ h2 => ?_))⟩
        generalize r.drop 8 = r8 at *
        generalize (r.length : Int) = N at *
        generalize ((r.length - 8 : Nat) : Int) = N8 at *
        simp [↓test_bool, ↓bindV_eq, ↓withV_of, ↓withP_some, ↓withB_some, ↓bindX_some, ↓chkD_true, L99_0_step, hl, hp, hx, hz, d1, hr, h8', d8, w0, bin_andI, c0, hr8, h16', AV.heapy, h2]
    · obtain ⟨b, H', hL⟩ := ihr H
      refine ⟨b, H', LDoes.step (Evs.withL hL (Evs.of fun n m _ h2 => ?_))⟩
      generalize (r.length : Int) = N at *
      simp [↓test_bool, ↓bindV_eq, ↓withV_of, ↓withP_some, ↓withB_some, ↓bindX_some, L99_0_step, hl, hp, hx, hz, d1, hr, h8', w0, bin_andI, c0, h2]
  · have h8' : ¬ (8 : Int) < (r.length : Int) := by omega
    obtain ⟨b, H', hL⟩ := ihr H
    refine ⟨b, H', LDoes.step (Evs.withL hL (Evs.of fun n m _ h2 => ?_))⟩
    generalize (r.length : Int) = N at *
    simp [↓test_bool, ↓bindV_eq, ↓withV_of, ↓withP_some, ↓withB_some, ↓bindX_some, L99_0_step, hl, hp, hx, hz, d1, hr, h8', h2]
end Go.Proofs.YtleikacgncpfbaaDoor

/- Texts: is one well-formed: signs of more bytes than one; the entry. -/
set_option maxRecDepth 100000
set_option maxHeartbeats 8000000
namespace Go.Proofs.YtleikacgncpfbaaDoor
open Go Go.Den
theorem idx_str {s : List UInt8} {i : Nat} {k : IntKind} (h : i < s.length) : A.index (.str s) (.int k (i : Int)) = some (.int .u8 ((s[i]).toNat : Int)) := by
  simp [A.index, h]
theorem valid_high (s : List UInt8) (h0 : 0 < s.length) (hc : 128 ≤ (s[0]).toNat) (ih : ∀ s' : List UInt8, s'.length < s.length → ValidFrom s') : ValidFrom s := fun H => by
  have hl : A.lenStr (.str s) = some (.int .i64 (s.length : Int)) := len_str
  have hp : (0 : Int) < (s.length : Int) := by omega
  have hx : A.index (.str s) (.int .i64 0) = some (.int .u8 ((s[0]).toNat : Int)) := idx_str (i := 0) h0
  have hz : ¬ ((s[0]).toNat : Int) < 128 := by omega
  have hz0 : 0 ≤ ((s[0]).toNat : Int) := by omega
  have hz1 : ((s[0]).toNat : Int) < 256 := by have := (s[0]).toNat_lt; omega
  generalize ((s[0]).toNat : Int) = z at *
  obtain ⟨p0, x, hx0, hx1, hfirst⟩ := first_ex z hz0 hz1
  obtain ⟨w, hw0, hw1, hshr⟩ := shr4 (P := base.P) (t := 5) (j := .u64) (c := true) hx0 hx1
  obtain ⟨p1, lo, hi, hacc⟩ := acc_ex w hw0 hw1
  have hf1 := fun H => (hfirst H).1
  have hf2 := fun H => (hfirst H).2
  have ha1 := fun H => (hacc H).1
  have ha2 := fun H => (hacc H).2
  generalize hy : IntKind.wrap .i64 (andI .u8 x 7) = y
  have hst : A.store 2 (.ptr H.length 0 0 0) (.agg [.int .u8 lo, .int .u8 hi]) (H ++ [.row 0 2 108 [.agg [.int .u8 0, .int .u8 0]]]) = some (H ++ [.row 0 2 108 [.agg [.int .u8 lo, .int .u8 hi]]]) := by
    have hb : Go.Den.Box (H ++ [.row 0 2 108 [.agg [.int .u8 0, .int .u8 0]]]) H.length 2 108 [.int .u8 0, .int .u8 0] := row_push
    have := box_store (ds := [.int .u8 lo, .int .u8 hi]) hb rfl rfl (by simp)
    rw [this]
    simp
  have hB : Go.Den.Box (H ++ [.row 0 2 108 [.agg [.int .u8 lo, .int .u8 hi]]]) H.length 2 108 [.int .u8 lo, .int .u8 hi] := row_push
  have fa := fun o => hB.fa (o := o)
  have ld0 := hB.load (o := 0)
  have ld1 := hB.load (o := 1)
  have fa0 := fa 0
  have fa1 := fa 1
  simp only [List.getElem?_cons_succ, List.getElem?_cons_zero] at ld0 ld1
  generalize H ++ [.row 0 2 108 [.agg [.int .u8 lo, .int .u8 hi]]] = Hx at *
  obtain ⟨N, hN⟩ : ∃ N : Int, N = (s.length : Int) := ⟨_, rfl⟩
  rw [← hN] at hl hp
  by_cases y2 : y = 2
  case pos =>
    by_cases hk : N < 2
    case pos =>
      exact ⟨false, Hx, LDoes.step (Evs.of fun n m => by simp [↓test_bool, ↓bindV_eq, ↓bindH_eq, ↓withV_of, ↓withP_some, ↓withH_some, ↓withB_some, ↓bindX_some, L99_0_step, hl, hp, hx, hz, hf1, hf2, bin_andI, cv_8_int, hy, hshr, ha1, ha2, hst, fa0, fa1, y2, hk])⟩
    have dk := slice_str (s := s) (k := .i64) (i := 2) (by omega)
    have i1 : A.index (.str s) (.int .i64 1) = some (.int .u8 ((s[1]'(by omega)).toNat : Int)) := idx_str (i := 1) (by omega)
    generalize ((s[1]'(by omega)).toNat : Int) = z1 at i1
    simp only [Int.cast_ofNat_Int] at dk
    by_cases a1 : z1 < lo
    case pos =>
      exact ⟨false, Hx, LDoes.step (Evs.of fun n m => by simp [↓test_bool, ↓bindV_eq, ↓bindH_eq, ↓withV_of, ↓withP_some, ↓withH_some, ↓withB_some, ↓bindX_some, L99_0_step, hl, hp, hx, hz, hf1, hf2, bin_andI, cv_8_int, hy, hshr, ha1, ha2, hst, fa0, fa1, ld0, y2, hk, i1, a1])⟩
    by_cases b1 : hi < z1
    case pos =>
      exact ⟨false, Hx, LDoes.step (Evs.of fun n m => by simp [↓test_bool, ↓bindV_eq, ↓bindH_eq, ↓withV_of, ↓withP_some, ↓withH_some, ↓withB_some, ↓bindX_some, L99_0_step, hl, hp, hx, hz, hf1, hf2, bin_andI, cv_8_int, hy, hshr, ha1, ha2, hst, fa0, fa1, ld0, ld1, y2, hk, i1, a1, b1])⟩
    obtain ⟨b, H', hL⟩ := ih (s.drop 2) (by simp; omega) Hx
    refine ⟨b, H', LDoes.step (Evs.withL hL (Evs.of fun n m _ h2 => ?_))⟩
    generalize s.drop 2 = sk at *
    simp [↓test_bool, ↓bindV_eq, ↓bindH_eq, ↓withV_of, ↓withP_some, ↓withH_some, ↓withB_some, ↓bindX_some, L99_0_step, hl, hp, hx, hz, hf1, hf2, bin_andI, cv_8_int, hy, hshr, ha1, ha2, hst, fa0, fa1, ld0, ld1, y2, hk, dk, i1, a1, b1, h2]
  by_cases y3 : y = 3
  case pos =>
    by_cases hk : N < 3
    case pos =>
      exact ⟨false, Hx, LDoes.step (Evs.of fun n m => by simp [↓test_bool, ↓bindV_eq, ↓bindH_eq, ↓withV_of, ↓withP_some, ↓withH_some, ↓withB_some, ↓bindX_some, L99_0_step, hl, hp, hx, hz, hf1, hf2, bin_andI, cv_8_int, hy, hshr, ha1, ha2, hst, fa0, fa1, y3, hk])⟩
    have dk := slice_str (s := s) (k := .i64) (i := 3) (by omega)
    have i1 : A.index (.str s) (.int .i64 1) = some (.int .u8 ((s[1]'(by omega)).toNat : Int)) := idx_str (i := 1) (by omega)
    generalize ((s[1]'(by omega)).toNat : Int) = z1 at i1
    have i2 : A.index (.str s) (.int .i64 2) = some (.int .u8 ((s[2]'(by omega)).toNat : Int)) := idx_str (i := 2) (by omega)
    generalize ((s[2]'(by omega)).toNat : Int) = z2 at i2
    simp only [Int.cast_ofNat_Int] at dk
    by_cases a1 : z1 < lo
    case pos =>
      exact ⟨false, Hx, LDoes.step (Evs.of fun n m => by simp [↓test_bool, ↓bindV_eq, ↓bindH_eq, ↓withV_of, ↓withP_some, ↓withH_some, ↓withB_some, ↓bindX_some, L99_0_step, hl, hp, hx, hz, hf1, hf2, bin_andI, cv_8_int, hy, hshr, ha1, ha2, hst, fa0, fa1, ld0, y3, hk, i1, a1])⟩
    by_cases b1 : hi < z1
    case pos =>
      exact ⟨false, Hx, LDoes.step (Evs.of fun n m => by simp [↓test_bool, ↓bindV_eq, ↓bindH_eq, ↓withV_of, ↓withP_some, ↓withH_some, ↓withB_some, ↓bindX_some, L99_0_step, hl, hp, hx, hz, hf1, hf2, bin_andI, cv_8_int, hy, hshr, ha1, ha2, hst, fa0, fa1, ld0, ld1, y3, hk, i1, a1, b1])⟩
    by_cases a2 : z2 < 128
    case pos =>
      exact ⟨false, Hx, LDoes.step (Evs.of fun n m => by simp [↓test_bool, ↓bindV_eq, ↓bindH_eq, ↓withV_of, ↓withP_some, ↓withH_some, ↓withB_some, ↓bindX_some, L99_0_step, hl, hp, hx, hz, hf1, hf2, bin_andI, cv_8_int, hy, hshr, ha1, ha2, hst, fa0, fa1, ld0, ld1, y3, hk, i1, i2, a1, b1, a2])⟩
    by_cases b2 : 191 < z2
    case pos =>
      exact ⟨false, Hx, LDoes.step (Evs.of fun n m => by simp [↓test_bool, ↓bindV_eq, ↓bindH_eq, ↓withV_of, ↓withP_some, ↓withH_some, ↓withB_some, ↓bindX_some, L99_0_step, hl, hp, hx, hz, hf1, hf2, bin_andI, cv_8_int, hy, hshr, ha1, ha2, hst, fa0, fa1, ld0, ld1, y3, hk, i1, i2, a1, b1, a2, b2])⟩
    obtain ⟨b, H', hL⟩ := ih (s.drop 3) (by simp; omega) Hx
    refine ⟨b, H', LDoes.step (Evs.withL hL (Evs.of fun n m _ h2 => ?_))⟩
    generalize s.drop 3 = sk at *
    simp [↓test_bool, ↓bindV_eq, ↓bindH_eq, ↓withV_of, ↓withP_some, ↓withH_some, ↓withB_some, ↓bindX_some, L99_0_step, hl, hp, hx, hz, hf1, hf2, bin_andI, cv_8_int, hy, hshr, ha1, ha2, hst, fa0, fa1, ld0, ld1, y3, hk, dk, i1, i2, a1, b1, a2, b2, h2]
  by_cases y4 : y = 4
  case pos =>
    by_cases hk : N < 4
    case pos =>
      exact ⟨false, Hx, LDoes.step (Evs.of fun n m => by simp [↓test_bool, ↓bindV_eq, ↓bindH_eq, ↓withV_of, ↓withP_some, ↓withH_some, ↓withB_some, ↓bindX_some, L99_0_step, hl, hp, hx, hz, hf1, hf2, bin_andI, cv_8_int, hy, hshr, ha1, ha2, hst, fa0, fa1, y4, hk])⟩
    have dk := slice_str (s := s) (k := .i64) (i := 4) (by omega)
    have i1 : A.index (.str s) (.int .i64 1) = some (.int .u8 ((s[1]'(by omega)).toNat : Int)) := idx_str (i := 1) (by omega)
    generalize ((s[1]'(by omega)).toNat : Int) = z1 at i1
    have i2 : A.index (.str s) (.int .i64 2) = some (.int .u8 ((s[2]'(by omega)).toNat : Int)) := idx_str (i := 2) (by omega)
    generalize ((s[2]'(by omega)).toNat : Int) = z2 at i2
    have i3 : A.index (.str s) (.int .i64 3) = some (.int .u8 ((s[3]'(by omega)).toNat : Int)) := idx_str (i := 3) (by omega)
    generalize ((s[3]'(by omega)).toNat : Int) = z3 at i3
    simp only [Int.cast_ofNat_Int] at dk
    by_cases a1 : z1 < lo
    case pos =>
      exact ⟨false, Hx, LDoes.step (Evs.of fun n m => by simp [↓test_bool, ↓bindV_eq, ↓bindH_eq, ↓withV_of, ↓withP_some, ↓withH_some, ↓withB_some, ↓bindX_some, L99_0_step, hl, hp, hx, hz, hf1, hf2, bin_andI, cv_8_int, hy, hshr, ha1, ha2, hst, fa0, fa1, ld0, y4, hk, i1, a1])⟩
    by_cases b1 : hi < z1
    case pos =>
      exact ⟨false, Hx, LDoes.step (Evs.of fun n m => by simp [↓test_bool, ↓bindV_eq, ↓bindH_eq, ↓withV_of, ↓withP_some, ↓withH_some, ↓withB_some, ↓bindX_some, L99_0_step, hl, hp, hx, hz, hf1, hf2, bin_andI, cv_8_int, hy, hshr, ha1, ha2, hst, fa0, fa1, ld0, ld1, y4, hk, i1, a1, b1])⟩
    by_cases a2 : z2 < 128
    case pos =>
      exact ⟨false, Hx, LDoes.step (Evs.of fun n m => by simp [↓test_bool, ↓bindV_eq, ↓bindH_eq, ↓withV_of, ↓withP_some, ↓withH_some, ↓withB_some, ↓bindX_some, L99_0_step, hl, hp, hx, hz, hf1, hf2, bin_andI, cv_8_int, hy, hshr, ha1, ha2, hst, fa0, fa1, ld0, ld1, y4, hk, i1, i2, a1, b1, a2])⟩
    by_cases b2 : 191 < z2
    case pos =>
      exact ⟨false, Hx, LDoes.step (Evs.of fun n m => by simp [↓test_bool, ↓bindV_eq, ↓bindH_eq, ↓withV_of, ↓withP_some, ↓withH_some, ↓withB_some, ↓bindX_some, L99_0_step, hl, hp, hx, hz, hf1, hf2, bin_andI, cv_8_int, hy, hshr, ha1, ha2, hst, fa0, fa1, ld0, ld1, y4, hk, i1, i2, a1, b1, a2, b2])⟩
    by_cases a3 : z3 < 128
    case pos =>
      exact ⟨false, Hx, LDoes.step (Evs.of fun n m => by simp [↓test_bool, ↓bindV_eq, ↓bindH_eq, ↓withV_of, ↓withP_some, ↓withH_some, ↓withB_some, ↓bindX_some, L99_0_step, hl, hp, hx, hz, hf1, hf2, bin_andI, cv_8_int, hy, hshr, ha1, ha2, hst, fa0, fa1, ld0, ld1, y4, hk, i1, i2, i3, a1, b1, a2, b2, a3])⟩
    by_cases b3 : 191 < z3
    case pos =>
      exact ⟨false, Hx, LDoes.step (Evs.of fun n m => by simp [↓test_bool, ↓bindV_eq, ↓bindH_eq, ↓withV_of, ↓withP_some, ↓withH_some, ↓withB_some, ↓bindX_some, L99_0_step, hl, hp, hx, hz, hf1, hf2, bin_andI, cv_8_int, hy, hshr, ha1, ha2, hst, fa0, fa1, ld0, ld1, y4, hk, i1, i2, i3, a1, b1, a2, b2, a3, b3])⟩
    obtain ⟨b, H', hL⟩ := ih (s.drop 4) (by simp; omega) Hx
    refine ⟨b, H', LDoes.step (Evs.withL hL (Evs.of fun n m _ h2 => ?_))⟩
    generalize s.drop 4 = sk at *
    simp [↓test_bool, ↓bindV_eq, ↓bindH_eq, ↓withV_of, ↓withP_some, ↓withH_some, ↓withB_some, ↓bindX_some, L99_0_step, hl, hp, hx, hz, hf1, hf2, bin_andI, cv_8_int, hy, hshr, ha1, ha2, hst, fa0, fa1, ld0, ld1, y4, hk, dk, i1, i2, i3, a1, b1, a2, b2, a3, b3, h2]
  exact ⟨false, Hx, LDoes.step (Evs.of fun n m => by simp [↓test_bool, ↓bindV_eq, ↓bindH_eq, ↓withV_of, ↓withH_some, ↓bindX_some, L99_0_step, hl, hp, hx, hz, hf1, hf2, bin_andI, cv_8_int, hy, hshr, ha1, ha2, hst, y2, y3, y4])⟩
theorem valid_from : ∀ (N : Nat) (s : List UInt8), s.length ≤ N → ValidFrom s
  | _, [], _ => valid_nil
  | 0, _ :: _, h => by simp at h
  | N + 1, c :: r, h => by
    have ih : ∀ s' : List UInt8, s'.length < (c :: r).length → ValidFrom s' := fun s' h' => valid_from N s' (by simp at h h'; omega)
    by_cases hc : c.toNat < 128
    · exact valid_ascii c r hc fun s' h' => ih s' (by simp; omega)
    · exact valid_high (c :: r) (by simp) (by simp; omega) ih
theorem valid_ex (s : List UInt8) : ∃ b : Bool, Evs fun n _ => callF (base.with (polT TVal)) (n + 1) AV 99 [.str s] [] (fun v G => A.freezeB true 64 G v) = some (.bool b) := by
  obtain ⟨b, H', hL⟩ := valid_from _ s (Nat.le_refl _) []
  refine ⟨b, Evs.withL hL (Evs.of fun n m h1 _ => ?_)⟩
  cases b <;> simp [↓bindV_eq, ↓bindX_some, S99, h1]
noncomputable def validV (s : List UInt8) : Bool := (valid_ex s).choose
noncomputable def pValid : Pol := .still (p1 cS .bool (fun _ => True) validV)
theorem okValid : PolOK base 99 pValid := still1 base_ok TVal ⟨okWord, trivial⟩ fun s _ => (valid_ex s).choose_spec
theorem kValid {R : Type} {s : List UInt8} {H : Heap} {k : AV → Heap → Option R} : polK pValid [.str s] H k = k (.bool (validV s)) H := by
  simp [pValid, polK_imm]
end Go.Proofs.YtleikacgncpfbaaDoor

/- Texts: how many signs one has. -/
set_option maxRecDepth 100000
set_option maxHeartbeats 4000000
namespace Go.Proofs.YtleikacgncpfbaaDoor
open Go Go.Den
theorem width_ge (s : ByteArray) (pos : Nat) : 1 ≤ (Utf8.decode s pos).2 := by
  unfold Utf8.decode
  repeat' (first | omega | split | (dsimp only))
def signs (l : List UInt8) : Nat → Nat → Nat
  | 0, _ => 0
  | N + 1, pos => if pos < l.length then 1 + signs l N (pos + (Utf8.decode ⟨l.toArray⟩ pos).2) else 0
theorem count_loop {pol : FuncId → Pol} {l : List UInt8} {id : Nat} : ∀ (N pos : Nat) (c : Int) (H : Heap), l.length - pos ≤ N → H[id]? = some (.iter l pos) → 0 ≤ c → c + N ≤ 1000000000 →
    ∃ H', LDoes (L81_0 pol) ⟨[.int .i64 c, .it id], []⟩ H 0 ⟨[.int .i64 (c + signs l N pos)], []⟩ H' := by
  intro N
  induction N with
  | zero =>
    intro pos c H hN hH h0 h1
    have hp : ¬ pos < l.length := by omega
    refine ⟨H, LDoes.step (Evs.of fun n m => ?_)⟩
    simp [↓test_bool, ↓withV_of, L81_0_step, nextK, hH, hp, signs]
  | succ N ih =>
    intro pos c H hN hH h0 h1
    by_cases hp : pos < l.length
    · have hw := width_ge ⟨l.toArray⟩ pos
      have hid : id < H.length := (List.getElem?_eq_some_iff.1 hH).1
      obtain ⟨H', hL⟩ := ih (pos + (Utf8.decode ⟨l.toArray⟩ pos).2) (c + 1) (H.set id (.iter l (pos + (Utf8.decode ⟨l.toArray⟩ pos).2))) (by omega) (List.getElem?_set_self hid) (by omega) (by omega)
      have hc : IntKind.wrap .i64 (c + 1) = c + 1 := wrap_i64 (by omega) (by omega)
      have e : c + (signs l (N + 1) pos : Nat) = c + 1 + (signs l N (pos + (Utf8.decode ⟨l.toArray⟩ pos).2) : Nat) := by
        have : signs l (N + 1) pos = 1 + signs l N (pos + (Utf8.decode ⟨l.toArray⟩ pos).2) := by rw [signs, if_pos hp]
        omega
      rw [e]
      refine ⟨H', LDoes.step (Evs.withL hL (Evs.of fun n m _ h2 => ?_))⟩
      simp [↓test_bool, ↓withV_of, L81_0_step, nextK, hH, hp, hc, h2]
    · refine ⟨H, LDoes.step (Evs.of fun n m => ?_)⟩
      simp [↓test_bool, ↓withV_of, L81_0_step, nextK, hH, hp, signs]
def notlong (s : List UInt8) : Prop := s.length ≤ 1000000
noncomputable def pRunes : Pol := .still (p1 cS (.int .i64) notlong (fun s => (signs s s.length 0 : Int)))
noncomputable def pRvalid : Pol := .still (p1 cS .bool (fun _ => True) validV)
theorem okRvalid : PolOK base 80 pRvalid := still1 base_ok [(99, pValid)] ⟨okValid, trivial⟩ fun s _ => Evs.of fun n m => by
  simp [S80, kValid]
theorem kRvalid {R : Type} {s : List UInt8} {H : Heap} {k : AV → Heap → Option R} : polK pRvalid [.str s] H k = k (.bool (validV s)) H := by
  simp [pRvalid, polK_imm]
noncomputable def pTvalid : Pol := .still (p1 cS .bool (fun _ => True) validV)
noncomputable def countV (s : List UInt8) : Int := if validV s then (signs s s.length 0 : Nat) else -1
noncomputable def pCount : Pol := .still (p1 cS (.int .i64) notlong countV)
noncomputable def pRcount : Pol := .still (p1 cS (.int .i64) notlong countV)
theorem okRcount : PolOK base 81 pRcount := still1 base_ok [(80, pRvalid)] ⟨okRvalid, trivial⟩ fun s hs => by
  unfold notlong at hs
  obtain ⟨H', hL⟩ := count_loop (pol := polT [(80, pRvalid)]) (l := s) (id := 0) s.length 0 0 [.iter s 0] (by omega) rfl (by omega) (by omega)
  refine Evs.withL hL (Evs.of fun n m h1 _ => ?_)
  simp only [Int.zero_add] at h1
  unfold countV
  cases h : validV s <;> simp [↓test_bool, ↓bindV_eq, ↓withV_of, ↓bindX_some, S81, kRvalid, h, rangeK, h1]
theorem kRcount {R : Type} {s : List UInt8} (h : notlong s) {H : Heap} {k : AV → Heap → Option R} : polK pRcount [.str s] H k = k (.int .i64 (countV s)) H := by
  simp [pRcount, polK_imm, h]
theorem countV_valid {s : List UInt8} : (0 ≤ countV s ↔ validV s = true) := by
  unfold countV
  cases validV s
  · simp
  · simp
end Go.Proofs.YtleikacgncpfbaaDoor

/- Terms: may one be, but for what is in it. -/
set_option maxRecDepth 100000
set_option maxHeartbeats 4000000
namespace Go.Proofs.YtleikacgncpfbaaDoor
open Go Go.Den
def shortOne (t : Tm) : Prop := (t.d.getD []).length ≤ 1000000 ∧ t.name.length ≤ 1000000
noncomputable def pOne : Pol := .still (p1 cT .bool shortOne (oneS countV))
end Go.Proofs.YtleikacgncpfbaaDoor

/- Terms: may one be: a round. -/
set_option maxRecDepth 100000
set_option maxHeartbeats 4000000
namespace Go.Proofs.YtleikacgncpfbaaDoor
open Go Go.Den
noncomputable abbrev TMay1 : List (FuncId × Pol) := [(75, pParts), (56, pOne)]
noncomputable def pWalkMay : Pol := .prim (runF base TMay1 77)
noncomputable def LDm (t : Tm) : LoopD := LD17 (eT t) (.ptr 0 0 0 0) (.ptr 1 0 0 0) (eT t) (.fn (.func 77) [] [.ptr 2 0 0 0])
def okM (_ : Nat) (x : Tm) : Bool := decide ((x.d.getD []).length ≤ 1000000) && decide (x.name.length ≤ 1000000)
noncomputable def goM (s : Nat) (x : Tm) : Bool := decide (s + 1 ≤ 65536) && oneS countV x
def InvM (t : Tm) (s : Nat) (H : Heap) : Prop := s ≤ 65536 ∧ H[0]? = some (.row 0 1 4 [.bool false]) ∧ H[1]? = some (.row 0 1 3 [.int .i64 (s : Int)]) ∧ H[3]? = some (.loop (LDm t))
def FinM (t : Tm) (_ : Nat) (H : Heap) : Prop := H[0]? = some (.row 0 1 4 [.bool false]) ∧ H[3]? = some (.loop { LDm t with state := 2, pending := some .ret })
end Go.Proofs.YtleikacgncpfbaaDoor

/- Terms: may one be: the entry. -/
set_option maxRecDepth 100000
set_option maxHeartbeats 4000000
namespace Go.Proofs.YtleikacgncpfbaaDoor
open Go Go.Den
noncomputable def mayS (t : Tm) : Bool := decide (szT t ≤ 65536) && mayT countV t
noncomputable def pMay : Pol := .still (p1 cT .bool tame mayS)
end Go.Proofs.YtleikacgncpfbaaDoor

/- Terms, the reference: how many parts a term has. -/
set_option maxRecDepth 100000
set_option maxHeartbeats 4000000
namespace Go.Proofs.YtleikacgncpfbaaDoor
open Go Go.Den
theorem szs_drop {l : List Tm} {i : Nat} (h : i < l.length) : szs (l.drop i) = szT l[i] + szs (l.drop (i + 1)) := by
  rw [List.drop_eq_getElem_cons h, szs]
theorem min_int {a b : Int} {k : IntKind} : A.minv (.int k a) (.int k b) = some (.int k (if b < a then b else a)) := by simp [A.minv]
noncomputable def pRtree (n : Nat) : Pol := .still (p1 cT (fun n : Nat => .int .i64 (n : Int)) (fun t => t.size ≤ n ∧ t.thin 1000) (fun t => min (szT t) 65537))
theorem kRtree {n : Nat} {R : Type} {t : Tm} (h : t.size ≤ n) (h2 : t.thin 1000) {H : Heap} {k : AV → Heap → Option R} : polK (pRtree n) [eT t] H k = k (.int .i64 ((min (szT t) 65537 : Nat) : Int)) H := by
  simp [pRtree, polK_imm, h, h2]
theorem rtree_loop {n : Nat} {t : Tm} {H : Heap} (hs : t.size ≤ n + 1) (ht : t.thin 1000) (hB : Go.Den.Box H 0 7 26 (eT t).cells) : ∀ (k i c : Nat), i + k = t.kids.length → c ≤ 200000 →
    ∃ c' : Nat, min c' 65537 = min (c + szs (t.kids.drop i)) 65537 ∧ LDoes (L20_0 (polT [(20, pRtree n)])) ⟨[.ptr 0 0 0 0, .int .i64 (c : Int), .int .i64 (i : Int)], []⟩ H 0 ⟨[.int .i64 (c' : Int)], []⟩ H := by
  have p1 := hB.fa (o := 5)
  have p2 := hB.load (o := 5)
  rw [cells_eT] at p2
  simp only [List.getElem?_cons_succ, List.getElem?_cons_zero] at p2
  have hl : t.kids.length ≤ 1000 := (Tm.thin_eq.1 ht).1
  have hlen : A.len (eL 7 eT t.l) H = some (.int .i64 ((t.kids.length : Nat) : Int)) := len_eL
  intro k
  induction k with
  | zero =>
    intro i c hi hc
    have : i = t.kids.length := by omega
    subst this
    have h0 : szs [] = 0 := by rw [szs]
    rw [List.drop_length, h0]
    refine ⟨c, rfl, LDoes.step (Evs.of fun n m => ?_)⟩
    generalize (t.kids.length : Int) = N at *
    simp [↓test_bool, ↓withV_of, ↓withP_some, ↓withB_some, L20_0_step, p1, p2, hlen]
  | succ k ih =>
    intro i c hi hc
    have hlt : i < t.kids.length := by omega
    have hlt' : (i : Int) < (t.kids.length : Int) := by omega
    by_cases h6 : c ≤ 65536
    · have h6' : (c : Int) ≤ 65536 := by omega
      have hx : A.idx 7 (eL 7 eT t.l) (.int .i64 (i : Int)) H = some (.rop (eT t.kids[i]).cells) := idx_eL (sz := 7) (e := eT) (o := t.l) (H := H) (k := .i64) (i := i) hlt
      have hi1 : IntKind.wrap .i64 ((i : Int) + 1) = (i : Int) + 1 := wrap_i64 (by omega) (by omega)
      have hsz : (t.kids[i]).size ≤ n := by
        have := Tm.size_kid (t := t) (u := t.kids[i]) (List.getElem_mem hlt)
        omega
      have hr : ∀ (R : Type) (H : Heap) (k : AV → Heap → Option R), polK (pRtree n) [eT t.kids[i]] H k = k (.int .i64 ((min (szT t.kids[i]) 65537 : Nat) : Int)) H := fun R H k => kRtree hsz ((Tm.thin_eq.1 ht).2 _ (List.getElem_mem hlt))
      have hld := load_eT (t := t.kids[i]) (H := H)
      generalize hm : min (szT t.kids[i]) 65537 = m at *
      obtain ⟨c', hc', hL⟩ := ih (i + 1) (c + m) (by omega) (by omega)
      have hw : IntKind.wrap .i64 ((c : Int) + (m : Int)) = (c : Int) + (m : Int) := wrap_i64 (by omega) (by omega)
      simp only [Int.natCast_add, Int.natCast_one] at hL
      refine ⟨c', ?_, LDoes.step (Evs.withL hL (Evs.of fun n m _ h2 => ?_))⟩
      · rw [hc', szs_drop hlt]
        omega
      · generalize (eT t.kids[i]).cells = cs at *
        generalize eT t.kids[i] = v at *
        generalize (t.kids.length : Int) = N at *
        simp [↓test_bool, ↓withV_of, ↓withP_some, ↓withB_some, L20_0_step, p1, p2, hlen, hlt', h6', hx, hld, hr, hw, hi1, h2]
    · have h6' : ¬ (c : Int) ≤ 65536 := by omega
      refine ⟨c, by omega, LDoes.step (Evs.of fun n m => ?_)⟩
      generalize (t.kids.length : Int) = N at *
      simp [↓test_bool, ↓withV_of, ↓withP_some, ↓withB_some, L20_0_step, p1, p2, hlen, hlt', h6']
theorem okRtree : ∀ n, PolOK base 20 (pRtree n)
  | 0 => still1 base_ok [] trivial fun t ⟨hs, _⟩ => by
    have := t.size_eq
    omega
  | n + 1 => still1 base_ok [(20, pRtree n)] ⟨okRtree n, trivial⟩ fun t ⟨hs, ht⟩ => by
    have hB := box_eT t [.row 0 7 26 [eT t]] 0 rfl
    have p := fun o => hB.fa (o := o)
    have q := fun o => hB.load (o := o)
    rw [cells_eT] at q
    have q0 := q 0
    simp only [List.getElem?_cons_zero] at q0
    have hce : (eT t).cells.length = 7 := by rw [cells_eT]; rfl
    obtain ⟨c', hc', hL⟩ := rtree_loop (n := n) (t := t) hs ht hB t.kids.length 0 1 (by omega) (by omega)
    have hmin : ∀ a : Nat, A.minv (.int .i64 (a : Int)) (.int .i64 65537) = some (.int .i64 ((min a 65537 : Nat) : Int)) := fun a => by
      rw [min_int]
      congr 2
      split <;> omega
    refine Evs.withL hL (Evs.of fun n m h1 _ => ?_)
    rw [szT_eq]
    unfold partsO
    by_cases c4 : t.kind = 4
    · have e : min c' 65537 = min (1 + szs (t.l.getD [])) 65537 := hc'
      rw [if_pos (Or.inl c4), ← e]
      rw [c4] at q0
      have h1' : L20_0 (polT [(20, pRtree _)]) n n ⟨[.ptr 0 0 0 0, .int .i64 1, .int .i64 0], []⟩ [.row 0 7 26 [eT t]] = some (0, ⟨[.int .i64 (c' : Int)], []⟩, [.row 0 7 26 [eT t]]) := h1
      have hm := hmin c'
      generalize ((min c' 65537 : Nat) : Int) = r at *
      simp [-cells_eT, S20, hce, p, q0, h1', hm]
    · by_cases c6 : t.kind = 6
      · have e : min c' 65537 = min (1 + szs (t.l.getD [])) 65537 := hc'
        rw [if_pos (Or.inr c6), ← e]
        rw [c6] at q0
        have h1' : L20_0 (polT [(20, pRtree _)]) n n ⟨[.ptr 0 0 0 0, .int .i64 1, .int .i64 0], []⟩ [.row 0 7 26 [eT t]] = some (0, ⟨[.int .i64 (c' : Int)], []⟩, [.row 0 7 26 [eT t]]) := h1
        have hm := hmin c'
        generalize ((min c' 65537 : Nat) : Int) = r at *
        simp [-cells_eT, S20, hce, p, q0, h1', hm]
      · rw [if_neg (by omega)]
        have e0 : min (1 + szs ((none : Option (List Tm)).getD [])) 65537 = 1 := by
          have h0 : szs [] = 0 := by rw [szs]
          show min (1 + szs []) 65537 = 1
          rw [h0]
          rfl
        have hm := hmin 1
        rw [e0]
        simp only [Int.natCast_one] at hm
        simp [-cells_eT, S20, hce, p, q0, c4, c6]
end Go.Proofs.YtleikacgncpfbaaDoor

/- Terms, the reference: how many words a term takes. -/
set_option maxRecDepth 100000
set_option maxHeartbeats 4000000
namespace Go.Proofs.YtleikacgncpfbaaDoor
open Go Go.Den
def fineW (t : Tm) : Prop := t.thin 1000 ∧ t.fewd ∧ szT t ≤ 65536
noncomputable def pRwords (n : Nat) : Pol := .still (p1 cT (fun n : Nat => .int .i64 (n : Int)) (fun t => t.size ≤ n ∧ fineW t) wT)
noncomputable abbrev TRw (n : Nat) : List (FuncId × Pol) := [(22, pRwords n), (33, pSmallof), (35, pRnorm)]
end Go.Proofs.YtleikacgncpfbaaDoor

/- Terms, the reference: may one be, but for how many parts it has. -/
set_option maxRecDepth 100000
set_option maxHeartbeats 8000000
namespace Go.Proofs.YtleikacgncpfbaaDoor
open Go Go.Den
theorem str_nil_neq {t : TypeId} {c : Bool} {H : Heap} (s : List UInt8) : A.bin base.P .neq t (.str s) (.str []) c H = some (.bool (!decide (s = []))) := by
  cases s <;> rfl
theorem few_rnorm {a : Nm} (h : few a.2) : few (rnormS a).2 := by
  unfold few at h ⊢
  have e : (rnormS a).2.getD [] = lim (val (a.2.getD [])) := by
    unfold rnormS
    cases lim (val (a.2.getD [])) <;> rfl
  have := lim_len_le (a.2.getD [])
  rw [e]
  omega
noncomputable def pRmay (n : Nat) : Pol := .still (p1 cT .bool (fun t => t.size ≤ n ∧ tame t) (mayT countV))
theorem kRmay {n : Nat} {R : Type} {t : Tm} (h : t.size ≤ n) (h2 : tame t) {H : Heap} {k : AV → Heap → Option R} : polK (pRmay n) [eT t] H k = k (.bool (mayT countV t)) H := by
  simp [pRmay, polK_imm, h, h2]
noncomputable abbrev TRm (n : Nat) : List (FuncId × Pol) := [(57, pRmay n), (35, pRnorm), (34, pSame), (80, pRvalid), (81, pRcount)]
theorem rmay_loop {n : Nat} {t : Tm} {H : Heap} (hs : t.size ≤ n + 1) (ht : tame t) (hB : Go.Den.Box H 0 7 26 (eT t).cells) : ∀ (k i : Nat), i + k = t.kids.length →
    LDoes (L57_0 (polT (TRm n))) ⟨[.ptr 0 0 0 0, .int .i64 (i : Int)], []⟩ H (if (t.kids.drop i).all (mayT countV) then 0 else 1) ⟨[if (t.kids.drop i).all (mayT countV) then .undef else .bool false], []⟩ H := by
  have p1 := hB.fa (o := 5)
  have p2 := hB.load (o := 5)
  rw [cells_eT] at p2
  simp only [List.getElem?_cons_succ, List.getElem?_cons_zero] at p2
  have hl : t.kids.length ≤ 1000 := (tame_eq.1 ht).1.2.2
  have hlen : A.len (eL 7 eT t.l) H = some (.int .i64 ((t.kids.length : Nat) : Int)) := len_eL
  intro k
  induction k with
  | zero =>
    intro i hi
    have : i = t.kids.length := by omega
    subst this
    rw [List.drop_length]
    refine LDoes.step (Evs.of fun n m => ?_)
    generalize (t.kids.length : Int) = N at *
    simp [-len_eL, L57_0_step, p1, p2, hlen]
  | succ k ih =>
    intro i hi
    have hlt : i < t.kids.length := by omega
    have hlt' : (i : Int) < (t.kids.length : Int) := by omega
    have hmem : t.kids[i] ∈ t.kids := List.getElem_mem hlt
    have hx : A.idx 7 (eL 7 eT t.l) (.int .i64 (i : Int)) H = some (.rop (eT t.kids[i]).cells) := idx_eL (sz := 7) (e := eT) (o := t.l) (H := H) (k := .i64) (i := i) hlt
    have hi1 : IntKind.wrap .i64 ((i : Int) + 1) = (i : Int) + 1 := wrap_i64 (by omega) (by omega)
    have hsz : (t.kids[i]).size ≤ n := by
      have := Tm.size_kid (t := t) (u := t.kids[i]) hmem
      omega
    have hr : ∀ (R : Type) (H : Heap) (k : AV → Heap → Option R), polK (pRmay n) [eT t.kids[i]] H k = k (.bool (mayT countV t.kids[i])) H := fun R H k => kRmay hsz ((tame_eq.1 ht).2 _ hmem)
    have hld := load_eT (t := t.kids[i]) (H := H)
    have hL := ih (i + 1) (by omega)
    simp only [Int.natCast_add, Int.natCast_one] at hL
    rw [List.drop_eq_getElem_cons hlt, List.all_cons]
    generalize (t.kids.drop (i + 1)).all (mayT countV) = rest at *
    generalize (eT t.kids[i]).cells = cs at *
    generalize (t.kids.length : Int) = N at *
    cases hm : mayT countV t.kids[i]
    · rw [hm] at hr
      generalize eT t.kids[i] = v at *
      refine LDoes.step (Evs.of fun n m => ?_)
      simp [-len_eL, L57_0_step, p1, p2, hlen, hlt', hx, hld, hr]
    · rw [hm] at hr
      generalize eT t.kids[i] = v at *
      refine LDoes.step (Evs.withL hL (Evs.of fun n m _ h2 => ?_))
      simp [-len_eL, L57_0_step, p1, p2, hlen, hlt', hx, hld, hr, hi1, h2]
end Go.Proofs.YtleikacgncpfbaaDoor

/- Terms, the reference: may one be, but for how many parts it has: kinds 0, 1. -/
set_option maxRecDepth 100000
set_option maxHeartbeats 8000000
namespace Go.Proofs.YtleikacgncpfbaaDoor
open Go Go.Den
theorem rmay_A (n : Nat) (t : Tm) (hs : t.size ≤ n + 1) (ht : tame t) (hkd : t.kind = 0 ∨ t.kind = 1) : Evs fun n' _ => callF (base.with (polT (TRm n))) (n' + 1) AV 57 [cT.enc t] [] (fun v G => A.freezeB true 64 G v) = some (.bool (mayT countV t)) := by
  have hB : Go.Den.Box [.row 0 7 26 [eT t]] 0 7 26 (eT t).cells := box_eT t _ 0 rfl
  have p := fun o => hB.fa (o := o)
  have q := fun o => hB.load (o := o)
  rw [cells_eT] at q
  have q0 := q 0
  have q1 := q 1
  have q2 := q 2
  have q3 := q 3
  have q4 := q 4
  have q5 := q 5
  have q6 := q 6
  simp only [List.getElem?_cons_succ, List.getElem?_cons_zero] at q0 q1 q2 q3 q4 q5 q6
  have hcl : (eT t).cells.length = 7 := by rw [cells_eT]; rfl
  have hl5 : A.len (eL 7 eT t.l) [.row 0 7 26 [eT t]] = some (.int .i64 ((t.kids.length : Nat) : Int)) := len_eL
  have hl2 : A.len (eD t.d) [.row 0 7 26 [eT t]] = some (.int .i64 ((t.d.getD []).length : Int)) := len_eL
  have hl6 : A.len (eL 1 eb t.b) [.row 0 7 26 [eT t]] = some (.int .i64 ((t.b.getD []).length : Int)) := len_eL
  have hsn := fun H => str_nil_neq (t := 9) (c := true) (H := H) t.name
  have hs0 := fun H => str_nil_neq (t := 9) (c := true) (H := H) []
  have hfew : few t.d := (tame_eq.1 ht).1.1
  have hnl : notlong t.name := (tame_eq.1 ht).1.2.1
  have hnm : ∀ (R : Type) (H : Heap) (k : AV → Heap → Option R), polK pRnorm [.agg [.bool t.neg, eD t.d]] H k = k (eN (rnormS (t.neg, t.d))) H := fun R H k => kRnorm (a := (t.neg, t.d)) hfew
  have hsm : ∀ (R : Type) (H : Heap) (k : AV → Heap → Option R), polK pSame [.agg [.bool t.neg, eD t.d], eN (rnormS (t.neg, t.d))] H k = k (.bool (sameS (t.neg, t.d) (rnormS (t.neg, t.d)))) H := fun R H k => kSame (a := (t.neg, t.d)) hfew (few_rnorm hfew)
  have hfill : A.fill [.bool false, .nils] [(0, 1, .bool t.neg), (1, 1, eD t.d)] = some [.bool t.neg, eD t.d] := by simp [A.fill, A.splice]
  have hva : ∀ (R : Type) (H : Heap) (k : AV → Heap → Option R), polK pRvalid [.str t.name] H k = k (.bool (validV t.name)) H := fun R H k => kRvalid
  have hco : ∀ (R : Type) (H : Heap) (k : AV → Heap → Option R), polK pRcount [.str t.name] H k = k (.int .i64 (countV t.name)) H := fun R H k => kRcount hnl
  have hcv := countV_valid (s := t.name)
  have hL := rmay_loop hs ht hB t.kids.length 0 (by omega)
  rw [List.drop_zero] at hL
  have hrest : ∀ kd, t.kind = kd → (kd = 4 ∨ kd = 6) → ((partsO t).getD []).all (mayT countV) = t.kids.all (mayT countV) := fun kd e hkd => by
    unfold partsO
    rw [if_pos (by rw [e]; exact hkd)]
    rfl
  have hrest0 : t.kind ≠ 4 → t.kind ≠ 6 → ((partsO t).getD []).all (mayT countV) = true := fun e1 e2 => by
    unfold partsO
    rw [if_neg (by omega)]
    rfl
  rw [mayT_eq]
  unfold oneS spareS
  rw [← same_plain]
  generalize sameS (t.neg, t.d) (rnormS (t.neg, t.d)) = sn at *
  generalize rnormS (t.neg, t.d) = rn at *
  generalize ((partsO t).getD []).all (mayT countV) = rest at *
  generalize t.kids.all (mayT countV) = kall at *
  generalize countV t.name = cn at *
  generalize validV t.name = vn at *
  generalize t.kids.length = nl at *
  generalize (t.d.getD []).length = nd at *
  generalize (t.b.getD []).length = nb at *
  generalize t.kind = kd at *
  generalize t.neg = ng at *
  generalize t.n = nn at *
  generalize eL 7 eT t.l = vl at *
  generalize eD t.d = vd at *
  generalize eL 1 eb t.b = vb at *
  clear q
  have e64 : decide ((nd : Int) ≤ 64) = decide (nd ≤ 64) := decide_eq_decide.2 (by omega)
  have e4096 : decide ((nb : Int) ≤ 4096) = decide (nb ≤ 4096) := decide_eq_decide.2 (by omega)
  by_cases c0 : kd = 0
  case pos =>
    by_cases a5 : t.name = []
    case neg =>
      exact Evs.of fun n m => by simp [-len_eL, -cells_eT, S57, hcl, p, q0, q2, q3, q6, hl2, hl6, hsn, c0, a5]
    by_cases a3 : nn = 0
    case neg =>
      exact Evs.of fun n m => by simp [-len_eL, -cells_eT, S57, hcl, p, q0, q2, q3, q4, q6, hl2, hl6, hs0, c0, a5, a3]
    by_cases a4 : nl = 0
    case neg =>
      have a4p : 0 < nl := by omega
      exact Evs.of fun n m => by simp [-len_eL, -cells_eT, S57, hcl, p, q0, q2, q3, q4, q5, q6, hl5, hl2, hl6, hs0, c0, a5, a3, a4, a4p]
    by_cases a6 : nb = 0
    case neg =>
      have a6p : 0 < nb := by omega
      exact Evs.of fun n m => by simp [-len_eL, -cells_eT, S57, hcl, p, q0, q2, q3, q4, q5, q6, hl5, hl2, hl6, hs0, c0, a5, a3, a4, a6, a6p]
    have hr := hrest0 (by omega) (by omega)
    by_cases h64 : nd ≤ 64
    · exact Evs.of fun n m => by simp [-len_eL, -cells_eT, S57, hcl, p, q0, q1, q2, q3, q4, q5, q6, hl5, hl2, hl6, hs0, c0, a5, a3, a4, a6, e64, h64, hfill, hnm, hsm, hr, AV.beq_refl, AV.heapy]
    · exact Evs.of fun n m => by simp [-len_eL, -cells_eT, S57, hcl, p, q0, q2, q3, q4, q5, q6, hl5, hl2, hl6, hs0, c0, a5, a3, a4, a6, e64, h64, hr, AV.heapy]
  by_cases c1 : kd = 1
  case pos =>
    by_cases a1 : ng = true
    case pos =>
      exact Evs.of fun n m => by simp [-len_eL, -cells_eT, S57, hcl, p, q0, q1, q2, q3, q6, hl2, hl6, c1, a1]
    by_cases a2 : nd = 0
    case neg =>
      have a2p : 0 < nd := by omega
      exact Evs.of fun n m => by simp [-len_eL, -cells_eT, S57, hcl, p, q0, q1, q2, q3, q6, hl2, hl6, c1, a1, a2, a2p]
    by_cases a3 : nn = 0
    case neg =>
      exact Evs.of fun n m => by simp [-len_eL, -cells_eT, S57, hcl, p, q0, q1, q2, q3, q4, q6, hl2, hl6, c1, a1, a2, a3]
    by_cases a4 : nl = 0
    case neg =>
      have a4p : 0 < nl := by omega
      exact Evs.of fun n m => by simp [-len_eL, -cells_eT, S57, hcl, p, q0, q1, q2, q3, q4, q5, q6, hl5, hl2, hl6, c1, a1, a2, a3, a4, a4p]
    by_cases a6 : nb = 0
    case neg =>
      have a6p : 0 < nb := by omega
      exact Evs.of fun n m => by simp [-len_eL, -cells_eT, S57, hcl, p, q0, q1, q2, q3, q4, q5, q6, hl5, hl2, hl6, c1, a1, a2, a3, a4, a6, a6p]
    have hr := hrest0 (by omega) (by omega)
    cases vn
    · have h0 : ¬ 0 ≤ cn := fun h => by simpa using hcv.1 h
      exact Evs.of fun n m => by simp [-len_eL, -cells_eT, S57, hcl, p, q0, q1, q2, q3, q4, q5, q6, hl5, hl2, hl6, c1, a1, a2, a3, a4, a6, hva, h0, hr]
    · have h0 : 0 ≤ cn := hcv.2 rfl
      exact Evs.of fun n m => by simp [-len_eL, -cells_eT, S57, hcl, p, q0, q1, q2, q3, q4, q5, q6, hl5, hl2, hl6, c1, a1, a2, a3, a4, a6, hva, hco, h0, hr]
  omega
end Go.Proofs.YtleikacgncpfbaaDoor

/- Terms, the reference: may one be, but for how many parts it has: kinds 2, 3. -/
set_option maxRecDepth 100000
set_option maxHeartbeats 8000000
namespace Go.Proofs.YtleikacgncpfbaaDoor
open Go Go.Den
theorem rmay_B (n : Nat) (t : Tm) (hs : t.size ≤ n + 1) (ht : tame t) (hkd : t.kind = 2 ∨ t.kind = 3) : Evs fun n' _ => callF (base.with (polT (TRm n))) (n' + 1) AV 57 [cT.enc t] [] (fun v G => A.freezeB true 64 G v) = some (.bool (mayT countV t)) := by
  have hB : Go.Den.Box [.row 0 7 26 [eT t]] 0 7 26 (eT t).cells := box_eT t _ 0 rfl
  have p := fun o => hB.fa (o := o)
  have q := fun o => hB.load (o := o)
  rw [cells_eT] at q
  have q0 := q 0
  have q1 := q 1
  have q2 := q 2
  have q3 := q 3
  have q4 := q 4
  have q5 := q 5
  have q6 := q 6
  simp only [List.getElem?_cons_succ, List.getElem?_cons_zero] at q0 q1 q2 q3 q4 q5 q6
  have hcl : (eT t).cells.length = 7 := by rw [cells_eT]; rfl
  have hl5 : A.len (eL 7 eT t.l) [.row 0 7 26 [eT t]] = some (.int .i64 ((t.kids.length : Nat) : Int)) := len_eL
  have hl2 : A.len (eD t.d) [.row 0 7 26 [eT t]] = some (.int .i64 ((t.d.getD []).length : Int)) := len_eL
  have hl6 : A.len (eL 1 eb t.b) [.row 0 7 26 [eT t]] = some (.int .i64 ((t.b.getD []).length : Int)) := len_eL
  have hsn := fun H => str_nil_neq (t := 9) (c := true) (H := H) t.name
  have hs0 := fun H => str_nil_neq (t := 9) (c := true) (H := H) []
  have hfew : few t.d := (tame_eq.1 ht).1.1
  have hnl : notlong t.name := (tame_eq.1 ht).1.2.1
  have hnm : ∀ (R : Type) (H : Heap) (k : AV → Heap → Option R), polK pRnorm [.agg [.bool t.neg, eD t.d]] H k = k (eN (rnormS (t.neg, t.d))) H := fun R H k => kRnorm (a := (t.neg, t.d)) hfew
  have hsm : ∀ (R : Type) (H : Heap) (k : AV → Heap → Option R), polK pSame [.agg [.bool t.neg, eD t.d], eN (rnormS (t.neg, t.d))] H k = k (.bool (sameS (t.neg, t.d) (rnormS (t.neg, t.d)))) H := fun R H k => kSame (a := (t.neg, t.d)) hfew (few_rnorm hfew)
  have hfill : A.fill [.bool false, .nils] [(0, 1, .bool t.neg), (1, 1, eD t.d)] = some [.bool t.neg, eD t.d] := by simp [A.fill, A.splice]
  have hva : ∀ (R : Type) (H : Heap) (k : AV → Heap → Option R), polK pRvalid [.str t.name] H k = k (.bool (validV t.name)) H := fun R H k => kRvalid
  have hco : ∀ (R : Type) (H : Heap) (k : AV → Heap → Option R), polK pRcount [.str t.name] H k = k (.int .i64 (countV t.name)) H := fun R H k => kRcount hnl
  have hcv := countV_valid (s := t.name)
  have hL := rmay_loop hs ht hB t.kids.length 0 (by omega)
  rw [List.drop_zero] at hL
  have hrest : ∀ kd, t.kind = kd → (kd = 4 ∨ kd = 6) → ((partsO t).getD []).all (mayT countV) = t.kids.all (mayT countV) := fun kd e hkd => by
    unfold partsO
    rw [if_pos (by rw [e]; exact hkd)]
    rfl
  have hrest0 : t.kind ≠ 4 → t.kind ≠ 6 → ((partsO t).getD []).all (mayT countV) = true := fun e1 e2 => by
    unfold partsO
    rw [if_neg (by omega)]
    rfl
  rw [mayT_eq]
  unfold oneS spareS
  rw [← same_plain]
  generalize sameS (t.neg, t.d) (rnormS (t.neg, t.d)) = sn at *
  generalize rnormS (t.neg, t.d) = rn at *
  generalize ((partsO t).getD []).all (mayT countV) = rest at *
  generalize t.kids.all (mayT countV) = kall at *
  generalize countV t.name = cn at *
  generalize validV t.name = vn at *
  generalize t.kids.length = nl at *
  generalize (t.d.getD []).length = nd at *
  generalize (t.b.getD []).length = nb at *
  generalize t.kind = kd at *
  generalize t.neg = ng at *
  generalize t.n = nn at *
  generalize eL 7 eT t.l = vl at *
  generalize eD t.d = vd at *
  generalize eL 1 eb t.b = vb at *
  clear q
  have e64 : decide ((nd : Int) ≤ 64) = decide (nd ≤ 64) := decide_eq_decide.2 (by omega)
  have e4096 : decide ((nb : Int) ≤ 4096) = decide (nb ≤ 4096) := decide_eq_decide.2 (by omega)
  have c0 : ¬ kd = 0 := by omega
  have c1 : ¬ kd = 1 := by omega
  by_cases c2 : kd = 2
  case pos =>
    by_cases a1 : ng = true
    case pos =>
      exact Evs.of fun n m => by simp [-len_eL, -cells_eT, S57, hcl, p, q0, q1, q2, q3, q4, hl2, c2, a1]
    by_cases a2 : nd = 0
    case neg =>
      have a2p : 0 < nd := by omega
      exact Evs.of fun n m => by simp [-len_eL, -cells_eT, S57, hcl, p, q0, q1, q2, q3, q4, hl2, c2, a1, a2, a2p]
    by_cases a5 : t.name = []
    case neg =>
      exact Evs.of fun n m => by simp [-len_eL, -cells_eT, S57, hcl, p, q0, q1, q2, q3, q4, hl2, hsn, c2, a1, a2, a5]
    by_cases a4 : nl = 0
    case neg =>
      have a4p : 0 < nl := by omega
      exact Evs.of fun n m => by simp [-len_eL, -cells_eT, S57, hcl, p, q0, q1, q2, q3, q4, q5, hl5, hl2, hs0, c2, a1, a2, a5, a4, a4p]
    by_cases a6 : nb = 0
    case neg =>
      have a6p : 0 < nb := by omega
      exact Evs.of fun n m => by simp [-len_eL, -cells_eT, S57, hcl, p, q0, q1, q2, q3, q4, q5, q6, hl5, hl2, hl6, hs0, c2, a1, a2, a5, a4, a6, a6p]
    have hr := hrest0 (by omega) (by omega)
    by_cases h0 : 0 ≤ nn
    · exact Evs.of fun n m => by simp [-len_eL, -cells_eT, S57, hcl, p, q0, q1, q2, q3, q4, q5, q6, hl5, hl2, hl6, hs0, c2, a1, a2, a5, a4, a6, h0, hr]
    · exact Evs.of fun n m => by simp [-len_eL, -cells_eT, S57, hcl, p, q0, q1, q2, q3, q4, q5, q6, hl5, hl2, hl6, hs0, c2, a1, a2, a5, a4, a6, h0, hr]
  by_cases c3 : kd = 3
  case pos =>
    by_cases a1 : ng = true
    case pos =>
      exact Evs.of fun n m => by simp [-len_eL, -cells_eT, S57, hcl, p, q0, q1, q2, q3, q4, hl2, c3, a1]
    by_cases a2 : nd = 0
    case neg =>
      have a2p : 0 < nd := by omega
      exact Evs.of fun n m => by simp [-len_eL, -cells_eT, S57, hcl, p, q0, q1, q2, q3, q4, hl2, c3, a1, a2, a2p]
    by_cases a5 : t.name = []
    case neg =>
      exact Evs.of fun n m => by simp [-len_eL, -cells_eT, S57, hcl, p, q0, q1, q2, q3, q4, hl2, hsn, c3, a1, a2, a5]
    by_cases a4 : nl = 0
    case neg =>
      have a4p : 0 < nl := by omega
      exact Evs.of fun n m => by simp [-len_eL, -cells_eT, S57, hcl, p, q0, q1, q2, q3, q4, q5, hl5, hl2, hs0, c3, a1, a2, a5, a4, a4p]
    by_cases a6 : nb = 0
    case neg =>
      have a6p : 0 < nb := by omega
      exact Evs.of fun n m => by simp [-len_eL, -cells_eT, S57, hcl, p, q0, q1, q2, q3, q4, q5, q6, hl5, hl2, hl6, hs0, c3, a1, a2, a5, a4, a6, a6p]
    have hr := hrest0 (by omega) (by omega)
    by_cases h0 : 0 ≤ nn
    · exact Evs.of fun n m => by simp [-len_eL, -cells_eT, S57, hcl, p, q0, q1, q2, q3, q4, q5, q6, hl5, hl2, hl6, hs0, c3, a1, a2, a5, a4, a6, h0, hr]
    · exact Evs.of fun n m => by simp [-len_eL, -cells_eT, S57, hcl, p, q0, q1, q2, q3, q4, q5, q6, hl5, hl2, hl6, hs0, c3, a1, a2, a5, a4, a6, h0, hr]
  omega
end Go.Proofs.YtleikacgncpfbaaDoor

/- Terms, the reference: may one be, but for how many parts it has: kinds 4, 5. -/
set_option maxRecDepth 100000
set_option maxHeartbeats 8000000
namespace Go.Proofs.YtleikacgncpfbaaDoor
open Go Go.Den
theorem rmay_C (n : Nat) (t : Tm) (hs : t.size ≤ n + 1) (ht : tame t) (hkd : t.kind = 4 ∨ t.kind = 5) : Evs fun n' _ => callF (base.with (polT (TRm n))) (n' + 1) AV 57 [cT.enc t] [] (fun v G => A.freezeB true 64 G v) = some (.bool (mayT countV t)) := by
  have hB : Go.Den.Box [.row 0 7 26 [eT t]] 0 7 26 (eT t).cells := box_eT t _ 0 rfl
  have p := fun o => hB.fa (o := o)
  have q := fun o => hB.load (o := o)
  rw [cells_eT] at q
  have q0 := q 0
  have q1 := q 1
  have q2 := q 2
  have q3 := q 3
  have q4 := q 4
  have q5 := q 5
  have q6 := q 6
  simp only [List.getElem?_cons_succ, List.getElem?_cons_zero] at q0 q1 q2 q3 q4 q5 q6
  have hcl : (eT t).cells.length = 7 := by rw [cells_eT]; rfl
  have hl5 : A.len (eL 7 eT t.l) [.row 0 7 26 [eT t]] = some (.int .i64 ((t.kids.length : Nat) : Int)) := len_eL
  have hl2 : A.len (eD t.d) [.row 0 7 26 [eT t]] = some (.int .i64 ((t.d.getD []).length : Int)) := len_eL
  have hl6 : A.len (eL 1 eb t.b) [.row 0 7 26 [eT t]] = some (.int .i64 ((t.b.getD []).length : Int)) := len_eL
  have hsn := fun H => str_nil_neq (t := 9) (c := true) (H := H) t.name
  have hs0 := fun H => str_nil_neq (t := 9) (c := true) (H := H) []
  have hfew : few t.d := (tame_eq.1 ht).1.1
  have hnl : notlong t.name := (tame_eq.1 ht).1.2.1
  have hnm : ∀ (R : Type) (H : Heap) (k : AV → Heap → Option R), polK pRnorm [.agg [.bool t.neg, eD t.d]] H k = k (eN (rnormS (t.neg, t.d))) H := fun R H k => kRnorm (a := (t.neg, t.d)) hfew
  have hsm : ∀ (R : Type) (H : Heap) (k : AV → Heap → Option R), polK pSame [.agg [.bool t.neg, eD t.d], eN (rnormS (t.neg, t.d))] H k = k (.bool (sameS (t.neg, t.d) (rnormS (t.neg, t.d)))) H := fun R H k => kSame (a := (t.neg, t.d)) hfew (few_rnorm hfew)
  have hfill : A.fill [.bool false, .nils] [(0, 1, .bool t.neg), (1, 1, eD t.d)] = some [.bool t.neg, eD t.d] := by simp [A.fill, A.splice]
  have hva : ∀ (R : Type) (H : Heap) (k : AV → Heap → Option R), polK pRvalid [.str t.name] H k = k (.bool (validV t.name)) H := fun R H k => kRvalid
  have hco : ∀ (R : Type) (H : Heap) (k : AV → Heap → Option R), polK pRcount [.str t.name] H k = k (.int .i64 (countV t.name)) H := fun R H k => kRcount hnl
  have hcv := countV_valid (s := t.name)
  have hL := rmay_loop hs ht hB t.kids.length 0 (by omega)
  rw [List.drop_zero] at hL
  have hrest : ∀ kd, t.kind = kd → (kd = 4 ∨ kd = 6) → ((partsO t).getD []).all (mayT countV) = t.kids.all (mayT countV) := fun kd e hkd => by
    unfold partsO
    rw [if_pos (by rw [e]; exact hkd)]
    rfl
  have hrest0 : t.kind ≠ 4 → t.kind ≠ 6 → ((partsO t).getD []).all (mayT countV) = true := fun e1 e2 => by
    unfold partsO
    rw [if_neg (by omega)]
    rfl
  rw [mayT_eq]
  unfold oneS spareS
  rw [← same_plain]
  generalize sameS (t.neg, t.d) (rnormS (t.neg, t.d)) = sn at *
  generalize rnormS (t.neg, t.d) = rn at *
  generalize ((partsO t).getD []).all (mayT countV) = rest at *
  generalize t.kids.all (mayT countV) = kall at *
  generalize countV t.name = cn at *
  generalize validV t.name = vn at *
  generalize t.kids.length = nl at *
  generalize (t.d.getD []).length = nd at *
  generalize (t.b.getD []).length = nb at *
  generalize t.kind = kd at *
  generalize t.neg = ng at *
  generalize t.n = nn at *
  generalize eL 7 eT t.l = vl at *
  generalize eD t.d = vd at *
  generalize eL 1 eb t.b = vb at *
  clear q
  have e64 : decide ((nd : Int) ≤ 64) = decide (nd ≤ 64) := decide_eq_decide.2 (by omega)
  have e4096 : decide ((nb : Int) ≤ 4096) = decide (nb ≤ 4096) := decide_eq_decide.2 (by omega)
  have c0 : ¬ kd = 0 := by omega
  have c1 : ¬ kd = 1 := by omega
  have c2 : ¬ kd = 2 := by omega
  have c3 : ¬ kd = 3 := by omega
  by_cases c4 : kd = 4
  case pos =>
    by_cases a1 : ng = true
    case pos =>
      exact Evs.of fun n m => by simp [-len_eL, -cells_eT, S57, hcl, p, q0, q1, q2, q3, q5, q6, hl5, hl2, hl6, c4, a1]
    by_cases a2 : nd = 0
    case neg =>
      have a2p : 0 < nd := by omega
      exact Evs.of fun n m => by simp [-len_eL, -cells_eT, S57, hcl, p, q0, q1, q2, q3, q5, q6, hl5, hl2, hl6, c4, a1, a2, a2p]
    by_cases a5 : t.name = []
    case neg =>
      exact Evs.of fun n m => by simp [-len_eL, -cells_eT, S57, hcl, p, q0, q1, q2, q3, q5, q6, hl5, hl2, hl6, hsn, c4, a1, a2, a5]
    by_cases a3 : nn = 0
    case neg =>
      exact Evs.of fun n m => by simp [-len_eL, -cells_eT, S57, hcl, p, q0, q1, q2, q3, q4, q5, q6, hl5, hl2, hl6, hs0, c4, a1, a2, a5, a3]
    by_cases a6 : nb = 0
    case neg =>
      have a6p : 0 < nb := by omega
      exact Evs.of fun n m => by simp [-len_eL, -cells_eT, S57, hcl, p, q0, q1, q2, q3, q4, q5, q6, hl5, hl2, hl6, hs0, c4, a1, a2, a5, a3, a6, a6p]
    have hr := hrest 4 c4 (Or.inl rfl)
    by_cases h255 : nl ≤ 255
    · have hg : ¬ (255 : Int) < (nl : Int) := by omega
      have hg' : ¬ 255 < nl := by omega
      refine Evs.withL hL (Evs.of fun n m h1 _ => ?_)
      simp only [Int.natCast_zero] at h1
      cases kall <;> simp [-len_eL, -cells_eT, S57, hcl, p, q0, q1, q2, q3, q4, q5, q6, hl5, hl2, hl6, hs0, c4, a1, a2, a5, a3, a6, h255, hg, hr, h1]
    · have hg : (255 : Int) < (nl : Int) := by omega
      have hg' : 255 < nl := by omega
      exact Evs.of fun n m => by simp [-len_eL, -cells_eT, S57, hcl, p, q0, q1, q2, q3, q4, q5, q6, hl5, hl2, hl6, hs0, c4, a1, a2, a5, a3, a6, h255, hg, hr]
  by_cases c5 : kd = 5
  case pos =>
    by_cases a1 : ng = true
    case pos =>
      exact Evs.of fun n m => by simp [-len_eL, -cells_eT, S57, hcl, p, q0, q1, q2, q3, q6, hl2, hl6, c5, a1]
    by_cases a2 : nd = 0
    case neg =>
      have a2p : 0 < nd := by omega
      exact Evs.of fun n m => by simp [-len_eL, -cells_eT, S57, hcl, p, q0, q1, q2, q3, q6, hl2, hl6, c5, a1, a2, a2p]
    by_cases a5 : t.name = []
    case neg =>
      exact Evs.of fun n m => by simp [-len_eL, -cells_eT, S57, hcl, p, q0, q1, q2, q3, q6, hl2, hl6, hsn, c5, a1, a2, a5]
    by_cases a3 : nn = 0
    case neg =>
      exact Evs.of fun n m => by simp [-len_eL, -cells_eT, S57, hcl, p, q0, q1, q2, q3, q4, q6, hl2, hl6, hs0, c5, a1, a2, a5, a3]
    by_cases a4 : nl = 0
    case neg =>
      have a4p : 0 < nl := by omega
      exact Evs.of fun n m => by simp [-len_eL, -cells_eT, S57, hcl, p, q0, q1, q2, q3, q4, q5, q6, hl5, hl2, hl6, hs0, c5, a1, a2, a5, a3, a4, a4p]
    by_cases a6 : nb = 0
    case neg =>
      have a6p : 0 < nb := by omega
      exact Evs.of fun n m => by simp [-len_eL, -cells_eT, S57, hcl, p, q0, q1, q2, q3, q4, q5, q6, hl5, hl2, hl6, hs0, c5, a1, a2, a5, a3, a4, a6, a6p]
    have hr := hrest0 (by omega) (by omega)
    exact Evs.of fun n m => by simp [-len_eL, -cells_eT, S57, hcl, p, q0, q1, q2, q3, q4, q5, q6, hl5, hl2, hl6, hs0, c5, a1, a2, a5, a3, a4, a6, hr]
  omega
end Go.Proofs.YtleikacgncpfbaaDoor

/- Terms, the reference: may one be, but for how many parts it has: kinds 6. -/
set_option maxRecDepth 100000
set_option maxHeartbeats 8000000
namespace Go.Proofs.YtleikacgncpfbaaDoor
open Go Go.Den
theorem rmay_D (n : Nat) (t : Tm) (hs : t.size ≤ n + 1) (ht : tame t) (hkd : t.kind = 6) : Evs fun n' _ => callF (base.with (polT (TRm n))) (n' + 1) AV 57 [cT.enc t] [] (fun v G => A.freezeB true 64 G v) = some (.bool (mayT countV t)) := by
  have hB : Go.Den.Box [.row 0 7 26 [eT t]] 0 7 26 (eT t).cells := box_eT t _ 0 rfl
  have p := fun o => hB.fa (o := o)
  have q := fun o => hB.load (o := o)
  rw [cells_eT] at q
  have q0 := q 0
  have q1 := q 1
  have q2 := q 2
  have q3 := q 3
  have q4 := q 4
  have q5 := q 5
  have q6 := q 6
  simp only [List.getElem?_cons_succ, List.getElem?_cons_zero] at q0 q1 q2 q3 q4 q5 q6
  have hcl : (eT t).cells.length = 7 := by rw [cells_eT]; rfl
  have hl5 : A.len (eL 7 eT t.l) [.row 0 7 26 [eT t]] = some (.int .i64 ((t.kids.length : Nat) : Int)) := len_eL
  have hl2 : A.len (eD t.d) [.row 0 7 26 [eT t]] = some (.int .i64 ((t.d.getD []).length : Int)) := len_eL
  have hl6 : A.len (eL 1 eb t.b) [.row 0 7 26 [eT t]] = some (.int .i64 ((t.b.getD []).length : Int)) := len_eL
  have hsn := fun H => str_nil_neq (t := 9) (c := true) (H := H) t.name
  have hs0 := fun H => str_nil_neq (t := 9) (c := true) (H := H) []
  have hfew : few t.d := (tame_eq.1 ht).1.1
  have hnl : notlong t.name := (tame_eq.1 ht).1.2.1
  have hnm : ∀ (R : Type) (H : Heap) (k : AV → Heap → Option R), polK pRnorm [.agg [.bool t.neg, eD t.d]] H k = k (eN (rnormS (t.neg, t.d))) H := fun R H k => kRnorm (a := (t.neg, t.d)) hfew
  have hsm : ∀ (R : Type) (H : Heap) (k : AV → Heap → Option R), polK pSame [.agg [.bool t.neg, eD t.d], eN (rnormS (t.neg, t.d))] H k = k (.bool (sameS (t.neg, t.d) (rnormS (t.neg, t.d)))) H := fun R H k => kSame (a := (t.neg, t.d)) hfew (few_rnorm hfew)
  have hfill : A.fill [.bool false, .nils] [(0, 1, .bool t.neg), (1, 1, eD t.d)] = some [.bool t.neg, eD t.d] := by simp [A.fill, A.splice]
  have hva : ∀ (R : Type) (H : Heap) (k : AV → Heap → Option R), polK pRvalid [.str t.name] H k = k (.bool (validV t.name)) H := fun R H k => kRvalid
  have hco : ∀ (R : Type) (H : Heap) (k : AV → Heap → Option R), polK pRcount [.str t.name] H k = k (.int .i64 (countV t.name)) H := fun R H k => kRcount hnl
  have hcv := countV_valid (s := t.name)
  have hL := rmay_loop hs ht hB t.kids.length 0 (by omega)
  rw [List.drop_zero] at hL
  have hrest : ∀ kd, t.kind = kd → (kd = 4 ∨ kd = 6) → ((partsO t).getD []).all (mayT countV) = t.kids.all (mayT countV) := fun kd e hkd => by
    unfold partsO
    rw [if_pos (by rw [e]; exact hkd)]
    rfl
  have hrest0 : t.kind ≠ 4 → t.kind ≠ 6 → ((partsO t).getD []).all (mayT countV) = true := fun e1 e2 => by
    unfold partsO
    rw [if_neg (by omega)]
    rfl
  rw [mayT_eq]
  unfold oneS spareS
  rw [← same_plain]
  generalize sameS (t.neg, t.d) (rnormS (t.neg, t.d)) = sn at *
  generalize rnormS (t.neg, t.d) = rn at *
  generalize ((partsO t).getD []).all (mayT countV) = rest at *
  generalize t.kids.all (mayT countV) = kall at *
  generalize countV t.name = cn at *
  generalize validV t.name = vn at *
  generalize t.kids.length = nl at *
  generalize (t.d.getD []).length = nd at *
  generalize (t.b.getD []).length = nb at *
  generalize t.kind = kd at *
  generalize t.neg = ng at *
  generalize t.n = nn at *
  generalize eL 7 eT t.l = vl at *
  generalize eD t.d = vd at *
  generalize eL 1 eb t.b = vb at *
  clear q
  have e64 : decide ((nd : Int) ≤ 64) = decide (nd ≤ 64) := decide_eq_decide.2 (by omega)
  have e4096 : decide ((nb : Int) ≤ 4096) = decide (nb ≤ 4096) := decide_eq_decide.2 (by omega)
  have c0 : ¬ kd = 0 := by omega
  have c1 : ¬ kd = 1 := by omega
  have c2 : ¬ kd = 2 := by omega
  have c3 : ¬ kd = 3 := by omega
  have c4 : ¬ kd = 4 := by omega
  have c5 : ¬ kd = 5 := by omega
  by_cases c6 : kd = 6
  case pos =>
    by_cases a1 : ng = true
    case pos =>
      exact Evs.of fun n m => by simp [-len_eL, -cells_eT, S57, hcl, p, q0, q1, q2, q3, q5, q6, hl5, hl2, hl6, c6, a1]
    by_cases a2 : nd = 0
    case neg =>
      have a2p : 0 < nd := by omega
      exact Evs.of fun n m => by simp [-len_eL, -cells_eT, S57, hcl, p, q0, q1, q2, q3, q5, q6, hl5, hl2, hl6, c6, a1, a2, a2p]
    by_cases a5 : t.name = []
    case neg =>
      exact Evs.of fun n m => by simp [-len_eL, -cells_eT, S57, hcl, p, q0, q1, q2, q3, q5, q6, hl5, hl2, hl6, hsn, c6, a1, a2, a5]
    by_cases a3 : nn = 0
    case neg =>
      exact Evs.of fun n m => by simp [-len_eL, -cells_eT, S57, hcl, p, q0, q1, q2, q3, q4, q5, q6, hl5, hl2, hl6, hs0, c6, a1, a2, a5, a3]
    by_cases a6 : nb = 0
    case neg =>
      have a6p : 0 < nb := by omega
      exact Evs.of fun n m => by simp [-len_eL, -cells_eT, S57, hcl, p, q0, q1, q2, q3, q4, q5, q6, hl5, hl2, hl6, hs0, c6, a1, a2, a5, a3, a6, a6p]
    have hr := hrest 6 c6 (Or.inr rfl)
    by_cases h2 : nl = 2
    · subst h2
      refine Evs.withL hL (Evs.of fun n m h1 _ => ?_)
      simp only [Int.natCast_zero] at h1
      cases kall <;> simp [-len_eL, -cells_eT, S57, hcl, p, q0, q1, q2, q3, q4, q5, q6, hl5, hl2, hl6, hs0, c6, a1, a2, a5, a3, a6, hr, h1]
    · have h2' : ¬ (nl : Int) = 2 := by omega
      exact Evs.of fun n m => by simp [-len_eL, -cells_eT, S57, hcl, p, q0, q1, q2, q3, q4, q5, q6, hl5, hl2, hl6, hs0, c6, a1, a2, a5, a3, a6, h2, h2', hr]
  omega
end Go.Proofs.YtleikacgncpfbaaDoor

/- Terms, the reference: may one be, but for how many parts it has: the rest. -/
set_option maxRecDepth 100000
set_option maxHeartbeats 8000000
namespace Go.Proofs.YtleikacgncpfbaaDoor
open Go Go.Den
theorem rmay_E (n : Nat) (t : Tm) (hs : t.size ≤ n + 1) (ht : tame t) (hkd : t.kind ≠ 0 ∧ t.kind ≠ 1 ∧ t.kind ≠ 2 ∧ t.kind ≠ 3 ∧ t.kind ≠ 4 ∧ t.kind ≠ 5 ∧ t.kind ≠ 6) : Evs fun n' _ => callF (base.with (polT (TRm n))) (n' + 1) AV 57 [cT.enc t] [] (fun v G => A.freezeB true 64 G v) = some (.bool (mayT countV t)) := by
  have hB : Go.Den.Box [.row 0 7 26 [eT t]] 0 7 26 (eT t).cells := box_eT t _ 0 rfl
  have p := fun o => hB.fa (o := o)
  have q := fun o => hB.load (o := o)
  rw [cells_eT] at q
  have q0 := q 0
  have q1 := q 1
  have q2 := q 2
  have q3 := q 3
  have q4 := q 4
  have q5 := q 5
  have q6 := q 6
  simp only [List.getElem?_cons_succ, List.getElem?_cons_zero] at q0 q1 q2 q3 q4 q5 q6
  have hcl : (eT t).cells.length = 7 := by rw [cells_eT]; rfl
  have hl5 : A.len (eL 7 eT t.l) [.row 0 7 26 [eT t]] = some (.int .i64 ((t.kids.length : Nat) : Int)) := len_eL
  have hl2 : A.len (eD t.d) [.row 0 7 26 [eT t]] = some (.int .i64 ((t.d.getD []).length : Int)) := len_eL
  have hl6 : A.len (eL 1 eb t.b) [.row 0 7 26 [eT t]] = some (.int .i64 ((t.b.getD []).length : Int)) := len_eL
  have hsn := fun H => str_nil_neq (t := 9) (c := true) (H := H) t.name
  have hs0 := fun H => str_nil_neq (t := 9) (c := true) (H := H) []
  have hfew : few t.d := (tame_eq.1 ht).1.1
  have hnl : notlong t.name := (tame_eq.1 ht).1.2.1
  have hnm : ∀ (R : Type) (H : Heap) (k : AV → Heap → Option R), polK pRnorm [.agg [.bool t.neg, eD t.d]] H k = k (eN (rnormS (t.neg, t.d))) H := fun R H k => kRnorm (a := (t.neg, t.d)) hfew
  have hsm : ∀ (R : Type) (H : Heap) (k : AV → Heap → Option R), polK pSame [.agg [.bool t.neg, eD t.d], eN (rnormS (t.neg, t.d))] H k = k (.bool (sameS (t.neg, t.d) (rnormS (t.neg, t.d)))) H := fun R H k => kSame (a := (t.neg, t.d)) hfew (few_rnorm hfew)
  have hfill : A.fill [.bool false, .nils] [(0, 1, .bool t.neg), (1, 1, eD t.d)] = some [.bool t.neg, eD t.d] := by simp [A.fill, A.splice]
  have hva : ∀ (R : Type) (H : Heap) (k : AV → Heap → Option R), polK pRvalid [.str t.name] H k = k (.bool (validV t.name)) H := fun R H k => kRvalid
  have hco : ∀ (R : Type) (H : Heap) (k : AV → Heap → Option R), polK pRcount [.str t.name] H k = k (.int .i64 (countV t.name)) H := fun R H k => kRcount hnl
  have hcv := countV_valid (s := t.name)
  have hL := rmay_loop hs ht hB t.kids.length 0 (by omega)
  rw [List.drop_zero] at hL
  have hrest : ∀ kd, t.kind = kd → (kd = 4 ∨ kd = 6) → ((partsO t).getD []).all (mayT countV) = t.kids.all (mayT countV) := fun kd e hkd => by
    unfold partsO
    rw [if_pos (by rw [e]; exact hkd)]
    rfl
  have hrest0 : t.kind ≠ 4 → t.kind ≠ 6 → ((partsO t).getD []).all (mayT countV) = true := fun e1 e2 => by
    unfold partsO
    rw [if_neg (by omega)]
    rfl
  rw [mayT_eq]
  unfold oneS spareS
  rw [← same_plain]
  generalize sameS (t.neg, t.d) (rnormS (t.neg, t.d)) = sn at *
  generalize rnormS (t.neg, t.d) = rn at *
  generalize ((partsO t).getD []).all (mayT countV) = rest at *
  generalize t.kids.all (mayT countV) = kall at *
  generalize countV t.name = cn at *
  generalize validV t.name = vn at *
  generalize t.kids.length = nl at *
  generalize (t.d.getD []).length = nd at *
  generalize (t.b.getD []).length = nb at *
  generalize t.kind = kd at *
  generalize t.neg = ng at *
  generalize t.n = nn at *
  generalize eL 7 eT t.l = vl at *
  generalize eD t.d = vd at *
  generalize eL 1 eb t.b = vb at *
  clear q
  have e64 : decide ((nd : Int) ≤ 64) = decide (nd ≤ 64) := decide_eq_decide.2 (by omega)
  have e4096 : decide ((nb : Int) ≤ 4096) = decide (nb ≤ 4096) := decide_eq_decide.2 (by omega)
  have c0 : ¬ kd = 0 := by omega
  have c1 : ¬ kd = 1 := by omega
  have c2 : ¬ kd = 2 := by omega
  have c3 : ¬ kd = 3 := by omega
  have c4 : ¬ kd = 4 := by omega
  have c5 : ¬ kd = 5 := by omega
  have c6 : ¬ kd = 6 := by omega
  by_cases c7 : kd = 7
  case pos =>
    by_cases a1 : ng = true
    case pos =>
      exact Evs.of fun n m => by simp [-len_eL, -cells_eT, S57, hcl, p, q0, q1, q2, q3, q6, hl2, hl6, c7, a1]
    by_cases a2 : nd = 0
    case neg =>
      have a2p : 0 < nd := by omega
      exact Evs.of fun n m => by simp [-len_eL, -cells_eT, S57, hcl, p, q0, q1, q2, q3, q6, hl2, hl6, c7, a1, a2, a2p]
    by_cases a5 : t.name = []
    case neg =>
      exact Evs.of fun n m => by simp [-len_eL, -cells_eT, S57, hcl, p, q0, q1, q2, q3, q6, hl2, hl6, hsn, c7, a1, a2, a5]
    by_cases a3 : nn = 0
    case neg =>
      exact Evs.of fun n m => by simp [-len_eL, -cells_eT, S57, hcl, p, q0, q1, q2, q3, q4, q6, hl2, hl6, hs0, c7, a1, a2, a5, a3]
    by_cases a4 : nl = 0
    case neg =>
      have a4p : 0 < nl := by omega
      exact Evs.of fun n m => by simp [-len_eL, -cells_eT, S57, hcl, p, q0, q1, q2, q3, q4, q5, q6, hl5, hl2, hl6, hs0, c7, a1, a2, a5, a3, a4, a4p]
    have hr := hrest0 (by omega) (by omega)
    exact Evs.of fun n m => by simp [-len_eL, -cells_eT, S57, hcl, p, q0, q1, q2, q3, q4, q5, q6, hl5, hl2, hl6, hs0, c7, a1, a2, a5, a3, a4, e4096, hr]
  by_cases a1 : ng = true
  case pos =>
    exact Evs.of fun n m => by simp [-len_eL, -cells_eT, S57, hcl, p, q0, q1, q2, q3, q6, hl2, hl6, c0, c1, c2, c3, c4, c5, c6, c7, a1]
  by_cases a2 : nd = 0
  case neg =>
    have a2p : 0 < nd := by omega
    exact Evs.of fun n m => by simp [-len_eL, -cells_eT, S57, hcl, p, q0, q1, q2, q3, q6, hl2, hl6, c0, c1, c2, c3, c4, c5, c6, c7, a1, a2, a2p]
  by_cases a5 : t.name = []
  case neg =>
    exact Evs.of fun n m => by simp [-len_eL, -cells_eT, S57, hcl, p, q0, q1, q2, q3, q6, hl2, hl6, hsn, c0, c1, c2, c3, c4, c5, c6, c7, a1, a2, a5]
  by_cases a3 : nn = 0
  case neg =>
    exact Evs.of fun n m => by simp [-len_eL, -cells_eT, S57, hcl, p, q0, q1, q2, q3, q4, q6, hl2, hl6, hs0, c0, c1, c2, c3, c4, c5, c6, c7, a1, a2, a5, a3]
  by_cases a4 : nl = 0
  case neg =>
    have a4p : 0 < nl := by omega
    exact Evs.of fun n m => by simp [-len_eL, -cells_eT, S57, hcl, p, q0, q1, q2, q3, q4, q5, q6, hl5, hl2, hl6, hs0, c0, c1, c2, c3, c4, c5, c6, c7, a1, a2, a5, a3, a4, a4p]
  by_cases a6 : nb = 0
  case neg =>
    have a6p : 0 < nb := by omega
    exact Evs.of fun n m => by simp [-len_eL, -cells_eT, S57, hcl, p, q0, q1, q2, q3, q4, q5, q6, hl5, hl2, hl6, hs0, c0, c1, c2, c3, c4, c5, c6, c7, a1, a2, a5, a3, a4, a6, a6p]
  exact Evs.of fun n m => by simp [-len_eL, -cells_eT, S57, hcl, p, q0, q1, q2, q3, q4, q5, q6, hl5, hl2, hl6, hs0, c0, c1, c2, c3, c4, c5, c6, c7, a1, a2, a5, a3, a4, a6]
end Go.Proofs.YtleikacgncpfbaaDoor

/- Terms, the reference: may one be, but for how many parts it has; and all of it. -/
set_option maxRecDepth 100000
namespace Go.Proofs.YtleikacgncpfbaaDoor
open Go Go.Den
theorem okRmay : ∀ n, PolOK base 57 (pRmay n)
  | 0 => still1 base_ok [] trivial fun t ⟨hs, _⟩ => by
    have := t.size_eq
    omega
  | n + 1 => still1 base_ok (TRm n) ⟨okRmay n, okRnorm, okSame, okRvalid, okRcount, trivial⟩ fun t ⟨hs, ht⟩ => by
    by_cases a : t.kind = 0 ∨ t.kind = 1
    · exact rmay_A n t hs ht a
    by_cases b : t.kind = 2 ∨ t.kind = 3
    · exact rmay_B n t hs ht b
    by_cases c : t.kind = 4 ∨ t.kind = 5
    · exact rmay_C n t hs ht c
    by_cases d : t.kind = 6
    · exact rmay_D n t hs ht d
    · exact rmay_E n t hs ht (by omega)
noncomputable def pRMay (n : Nat) : Pol := .still (p1 cT .bool (fun t => t.size ≤ n ∧ tame t) mayS)
theorem okRMay (n : Nat) : PolOK base 18 (pRMay n) := still1 base_ok [(20, pRtree n), (57, pRmay n)] ⟨okRtree n, okRmay n, trivial⟩ fun t ⟨hs, ht⟩ => by
  have hcl : (eT t).cells.length = 7 := by rw [cells_eT]; rfl
  have hof : A.ofList true 7 (eT t).cells 0 = some (eT t) := load_eT (H := [])
  have h1 : ∀ (R : Type) (H : Heap) (k : AV → Heap → Option R), polK (pRtree n) [eT t] H k = k (.int .i64 ((min (szT t) 65537 : Nat) : Int)) H := fun R H k => kRtree hs (tame_thin t ht)
  have h2 : ∀ (R : Type) (H : Heap) (k : AV → Heap → Option R), polK (pRmay n) [eT t] H k = k (.bool (mayT countV t)) H := fun R H k => kRmay hs ht
  unfold mayS
  by_cases hc : szT t ≤ 65536
  · have hc' : ((min (szT t) 65537 : Nat) : Int) ≤ 65536 := by omega
    generalize ((min (szT t) 65537 : Nat) : Int) = N at *
    refine Evs.of fun n m => ?_
    simp [↓bindC_eq, ↓withV_of, ↓withP_some, ↓withB_some, ↓chkD_true, -cells_eT, S18, hcl, hof, h1, h2, hc, hc']
  · have hc' : ¬ ((min (szT t) 65537 : Nat) : Int) ≤ 65536 := by omega
    generalize ((min (szT t) 65537 : Nat) : Int) = N at *
    refine Evs.of fun n m => ?_
    simp [↓bindC_eq, ↓withV_of, ↓withP_some, ↓withB_some, ↓chkD_true, -cells_eT, S18, hcl, hof, h1, hc, hc']
end Go.Proofs.YtleikacgncpfbaaDoor

/- Terms: what is known of them, of any size; what is handed in. -/
set_option maxRecDepth 100000
set_option maxHeartbeats 4000000
namespace Go.Proofs.YtleikacgncpfbaaDoor
open Go Go.Den
noncomputable def pRoomA : Pol := .still (p3 cT (cI .i64) (cI .i64) .bool (fun _ dep most => -1 ≤ dep ∧ dep ≤ 1000 ∧ most ≤ 1000) roomS)
theorem okRoomA : PolOK base 16 pRoomA := still_join (F := fun n => p3 cT (cI .i64) (cI .i64) .bool (fun t dep most => t.size ≤ n ∧ -1 ≤ dep ∧ dep ≤ 1000 ∧ most ≤ 1000) roomS) okRoom fun zs v h => by
  match zs, h with
  | [a, b, c], h =>
    simp only [p3_app, Option.bind_eq_some_iff] at h ⊢
    obtain ⟨t, ht, d, hd, m, hm, h⟩ := h
    split at h
    · rename_i hc
      exact ⟨t.size, t, ht, d, hd, m, hm, by rw [if_pos ⟨Nat.le_refl _, hc⟩]; exact h⟩
    · cases h
theorem kRoomA {R : Type} {t : Tm} {dep most : Int} (h0 : -1 ≤ dep) (h1 : dep ≤ 1000) (h2 : most ≤ 1000) {H : Heap} {k : AV → Heap → Option R} : polK pRoomA [eT t, .int .i64 dep, .int .i64 most] H k = k (.bool (roomS t dep most)) H := by
  simp [pRoomA, polK_imm, h0, h1, h2]
noncomputable def pRtreeA : Pol := .still (p1 cT (fun n : Nat => .int .i64 (n : Int)) (fun t => t.thin 1000) (fun t => min (szT t) 65537))
noncomputable def pRwordsA : Pol := .still (p1 cT (fun n : Nat => .int .i64 (n : Int)) fineW wT)
noncomputable def pRMayA : Pol := .still (p1 cT .bool tame mayS)
theorem okRMayA : PolOK base 18 pRMayA := still_join (F := fun n => p1 cT .bool (fun t => t.size ≤ n ∧ tame t) mayS) okRMay fun zs v h => by
  match zs, h with
  | [a], h =>
    simp only [p1_app, Option.bind_eq_some_iff] at h ⊢
    obtain ⟨t, ht, h⟩ := h
    split at h
    · rename_i hc
      exact ⟨t.size, t, ht, by rw [if_pos ⟨Nat.le_refl _, hc⟩]; exact h⟩
    · cases h
theorem kRMayA {R : Type} {t : Tm} (h : tame t) {H : Heap} {k : AV → Heap → Option R} : polK pRMayA [eT t] H k = k (.bool (mayS t)) H := by
  simp [pRMayA, polK_imm, h]
theorem ty_u32s {n : Nat} {y : AV} (hy : Ty Tryd.prog n 22 y) : ∃ d : Option (List UInt32), y = eD d := by
  obtain ⟨l, hl, hb, -⟩ := hy.ints (k := .u32) (e := 59) (by kernel_rfl) (by kernel_rfl) (by kernel_rfl)
  have hll : l.map (AV.int .u32) = (l.map fun i => UInt32.ofNat i.toNat).map eu := by
    rw [List.map_map]
    refine List.map_congr_left fun i hi => ?_
    have := hb i hi
    have h5 : (0 : Int) ≤ i ∧ i ≤ 4294967295 := this
    show AV.int .u32 i = AV.int .u32 ((UInt32.ofNat i.toNat).toNat : Int)
    rw [limb_of, Nat.mod_eq_of_lt (by omega)]
    congr 1
    omega
  rw [hll] at hl
  generalize hm : (l.map fun i => UInt32.ofNat i.toNat).map eu = es at hl
  cases hl with
  | nil => exact ⟨none, rfl⟩
  | sh _ =>
    subst hm
    exact ⟨some (l.map fun i => UInt32.ofNat i.toNat), rfl⟩
theorem ty_u8s {n : Nat} {y : AV} (hy : Ty Tryd.prog n 24 y) : ∃ d : Option (List UInt8), y = eL 1 eb d := by
  obtain ⟨l, hl, hb, -⟩ := hy.ints (k := .u8) (e := 5) (by kernel_rfl) (by kernel_rfl) (by kernel_rfl)
  have hll : l.map (AV.int .u8) = (l.map fun i => UInt8.ofNat i.toNat).map eb := by
    rw [List.map_map]
    refine List.map_congr_left fun i hi => ?_
    have := hb i hi
    have h5 : (0 : Int) ≤ i ∧ i ≤ 255 := this
    show AV.int .u8 i = AV.int .u8 ((UInt8.ofNat i.toNat).toNat : Int)
    rw [UInt8.toNat_ofNat']
    congr 1
    omega
  rw [hll] at hl
  generalize hm : (l.map fun i => UInt8.ofNat i.toNat).map eb = es at hl
  cases hl with
  | nil => exact ⟨none, rfl⟩
  | sh _ =>
    subst hm
    exact ⟨some (l.map fun i => UInt8.ofNat i.toNat), rfl⟩
theorem ty_tm : ∀ (n : Nat) (v : AV), Ty Tryd.prog n 26 v → ∃ t : Tm, v = eT t
  | 0, _, h => by cases h
  | 1, v, h => by
    obtain ⟨m, vs, hm, h1, h2, h3⟩ := h.struct (fs := #[{ name := "Kind", type := 3, offset := 0, embedded := false, tag := "", pkgPath := "", byteOffset := 0 }, { name := "Neg", type := 4, offset := 1, embedded := false, tag := "", pkgPath := "", byteOffset := 8 }, { name := "D", type := 22, offset := 2, embedded := false, tag := "", pkgPath := "", byteOffset := 16 }, { name := "Name", type := 9, offset := 3, embedded := false, tag := "", pkgPath := "", byteOffset := 40 }, { name := "N", type := 3, offset := 4, embedded := false, tag := "", pkgPath := "", byteOffset := 56 }, { name := "L", type := 23, offset := 5, embedded := false, tag := "", pkgPath := "", byteOffset := 64 }, { name := "B", type := 24, offset := 6, embedded := false, tag := "", pkgPath := "", byteOffset := 88 }]) (by kernel_rfl)
    match vs, h2 with
    | [x0, x1, x2, x3, x4, x5, x6], _ =>
      have y0 := (h3 0 _ x0 rfl rfl).1
      have : m = 0 := by omega
      subst this
      cases y0
  | n + 2, v, h => by
    obtain ⟨m, vs, hm, h1, h2, h3⟩ := h.struct (fs := #[{ name := "Kind", type := 3, offset := 0, embedded := false, tag := "", pkgPath := "", byteOffset := 0 }, { name := "Neg", type := 4, offset := 1, embedded := false, tag := "", pkgPath := "", byteOffset := 8 }, { name := "D", type := 22, offset := 2, embedded := false, tag := "", pkgPath := "", byteOffset := 16 }, { name := "Name", type := 9, offset := 3, embedded := false, tag := "", pkgPath := "", byteOffset := 40 }, { name := "N", type := 3, offset := 4, embedded := false, tag := "", pkgPath := "", byteOffset := 56 }, { name := "L", type := 23, offset := 5, embedded := false, tag := "", pkgPath := "", byteOffset := 64 }, { name := "B", type := 24, offset := 6, embedded := false, tag := "", pkgPath := "", byteOffset := 88 }]) (by kernel_rfl)
    have hmn : m = n + 1 := by omega
    subst hmn
    match vs, h2 with
    | [x0, x1, x2, x3, x4, x5, x6], _ =>
      have y0 := (h3 0 _ x0 rfl rfl).1
      have y1 := (h3 1 _ x1 rfl rfl).1
      have y2 := (h3 2 _ x2 rfl rfl).1
      have y3 := (h3 3 _ x3 rfl rfl).1
      have y4 := (h3 4 _ x4 rfl rfl).1
      have y5 := (h3 5 _ x5 rfl rfl).1
      have y6 := (h3 6 _ x6 rfl rfl).1
      obtain ⟨i0, rfl, -⟩ := y0.int (k := .i64) (by kernel_rfl)
      obtain ⟨b1, rfl⟩ := y1.bool (by kernel_rfl)
      obtain ⟨d2, rfl⟩ := ty_u32s y2
      obtain ⟨s3, rfl, -⟩ := y3.str (by kernel_rfl)
      obtain ⟨i4, rfl, -⟩ := y4.int (k := .i64) (by kernel_rfl)
      obtain ⟨d6, rfl⟩ := ty_u8s y6
      obtain ⟨m, es, hm, him, -, hes⟩ := y5.slice (e := 26) (by kernel_rfl)
      have hmn : m = n := by omega
      subst hmn
      obtain ⟨l, hl, -⟩ := map_of_all (f := eT) (p := fun _ => True) (es := es) fun x hx => by
        obtain ⟨t, ht⟩ := ty_tm m x (hes x hx)
        exact ⟨t, ht, trivial⟩
      have hc : Tryd.prog.cellsOf 26 = 7 := by kernel_rfl
      rw [hc] at him
      have hv : ∃ o : Option (List Tm), x5 = eL 7 eT o := by
        cases him with
        | nil => exact ⟨none, rfl⟩
        | sh _ =>
          subst hl
          exact ⟨some l, rfl⟩
      obtain ⟨o, rfl⟩ := hv
      refine ⟨.mk i0 b1 d2 s3 i4 o d6, ?_⟩
      rw [h1, eT_eq]
      have e2 : (eD d2).cells = [eD d2] := by cases d2 <;> rfl
      have e5 : (eL 7 eT o).cells = [eL 7 eT o] := by cases o <;> rfl
      have e6 : (eL 1 eb d6).cells = [eL 1 eb d6] := by cases d6 <;> rfl
      simp only [List.flatMap_cons, List.flatMap_nil, e2, e5, e6]
      rfl
end Go.Proofs.YtleikacgncpfbaaDoor

/- Terms: copies of rows. -/
set_option maxRecDepth 100000
set_option maxHeartbeats 2000000
namespace Go.Proofs.YtleikacgncpfbaaDoor
open Go Go.Den
/-! ### bytes -/
def cBy : Cd (Option (List UInt8)) := ⟨eL 1 eb, fun a b h => eL_inj' (fun l m _ _ hm => map_inj' (fun a b => eb_inj) hm) h, fun a => by cases a <;> rfl⟩
@[simp] theorem enc_cBy {a : Option (List UInt8)} : cBy.enc a = eL 1 eb a := id rfl
@[simp] theorem dec_cBy {a : Option (List UInt8)} : cBy.dec (eL 1 eb a) = some a := cBy.dec_enc a
def fewB (d : Option (List UInt8)) : Prop := (d.getD []).length ≤ 1000000
theorem flat_bytes (l : List UInt8) : ∀ v ∈ l.map eb, v.flat0 = true ∧ v.isDef = true := fun v hv => by
  obtain ⟨x, -, rfl⟩ := List.mem_map.1 hv
  exact ⟨rfl, rfl⟩
theorem ty_bytes : base.P.underlying 24 = some (.slice 5) := by kernel_rfl
noncomputable def pBclone : Pol := .still (p1 cBy (eL 1 eb) fewB id)
theorem okBclone : PolOK base 71 pBclone := still1 base_ok [] trivial fun d hf => by
  unfold fewB at hf
  refine Evs.of fun n _ => ?_
  cases d with
  | none => simp [↓test_bool, ↓bindV_eq, ↓bindH_eq, ↓withV_of, S71, eL, A.bin, ty_bytes, A.eqNil]
  | some l =>
    simp only [Option.getD_some] at hf
    cases l with
    | nil =>
      have h1 := row_append_nil (H := [.row 0 1 5 []]) (id := 0) (ver := 0) (sz := 1) (ty := 5) (es := []) (n := 0) (bytes := 1) rfl rfl (by omega) (by simp)
      simp [↓test_bool, ↓bindV_eq, ↓bindH_eq, ↓withV_of, ↓withL_some, ↓withVH_some, S71, eL, A.bin, ty_bytes, A.eqNil, A.fillElems, newsZ_sl ty_bytes, A.read, h1]
      exact freeze_row (b := true) (m := 62) (es := []) rfl rfl (by simp)
    | cons x l =>
      have h1 := row_append (H := [.row 0 1 5 []]) (id := 0) (ver := 0) (sz := 1) (ty := 5) (es := []) (n := 0) (bytes := 1) (news := (x :: l).map eb) rfl rfl (by simp) (by omega) (by simp at hf ⊢; omega)
      simp only [List.nil_append] at h1
      simp [↓test_bool, ↓bindV_eq, ↓bindH_eq, ↓withV_of, ↓withL_some, S71, eL, A.bin, ty_bytes, A.eqNil, A.fillElems, newsZ_sl ty_bytes, A.read]
      simp at h1
      simp [h1]
      exact freeze_row (b := true) (m := 62) (es := (x :: l).map eb) rfl (by simp) (flat_bytes _)
theorem qBclone {R : Type} {d : Option (List UInt8)} (h : fewB d) {H : Heap} {k : AV → Heap → Option R} : polQ pBclone [eL 1 eb d] H k = k (eL 1 eb d) H := by
  simp [pBclone, polQ_imm, h]
/-! ### terms: into a row of the small heap -/
noncomputable def pTclone : Pol := .prim (runF base [] 73)
theorem okTclone : PolOK base 73 pTclone := ok_run base_ok [] trivial
def cw (l : List Tm) : Nat := if l = [] then 0 else 1
def cv (id : Nat) : Option (List Tm) → AV
  | none => .nils
  | some l => .sl id (cw l) 0 l.length l.length
def cr (o : Option (List Tm)) (es : List AV) : List HObj := match o with
  | none => []
  | some l => [.row (cw l) 7 26 es]
theorem kTclone {R : Type} {o : Option (List Tm)} (h : (o.getD []).length ≤ 1000) {H : Heap} {k : AV → Heap → Option R} : polK pTclone [eL 7 eT o] H k = k (cv H.length o) (H ++ cr o ((o.getD []).map eT)) := by
  have hr : runF base [] 73 [eL 7 eT o] H = some (cv H.length o, H ++ cr o ((o.getD []).map eT)) := runF_of (Evs.of fun n m => by
    cases o with
    | none => simp [↓test_bool, ↓bindV_eq, ↓bindH_eq, ↓withV_of, S73, eL, A.bin, ty_terms, A.eqNil, cv, cr]
    | some l =>
      simp only [Option.getD_some] at h
      cases l with
      | nil =>
        have h1 := row_append_nil (H := H ++ [.row 0 7 26 []]) (id := H.length) (ver := 0) (sz := 7) (ty := 26) (es := []) (n := 0) (bytes := 112) row_push rfl (by omega) (by simp)
        simp [↓test_bool, ↓bindV_eq, ↓bindH_eq, ↓withV_of, ↓withL_some, ↓withVH_some, S73, eL, A.bin, ty_terms, A.eqNil, A.fillElems, newsZ_sl ty_terms, A.read, h1, cv, cr, cw]
      | cons x l =>
        have h1 := row_append (H := H ++ [.row 0 7 26 []]) (id := H.length) (ver := 0) (sz := 7) (ty := 26) (es := []) (n := 0) (bytes := 112) (news := (x :: l).map eT) row_push rfl (by simp) (by omega) (by simp at h ⊢; omega)
        simp only [List.nil_append] at h1
        simp [↓test_bool, ↓bindV_eq, ↓bindH_eq, ↓withV_of, ↓withL_some, S73, eL, A.bin, ty_terms, A.eqNil, A.fillElems, newsZ_sl ty_terms, A.read]
        simp at h1
        simp [h1, cv, cr, cw])
  exact k_run hr
end Go.Proofs.YtleikacgncpfbaaDoor

/- Terms: a value of the small heap that stands for a term. -/
set_option maxRecDepth 100000
set_option maxHeartbeats 2000000
namespace Go.Proofs.YtleikacgncpfbaaDoor
open Go Go.Den
def op (t : Tm) (vl : AV) : AV := .agg [.int .i64 t.kind, .bool t.neg, eD t.d, .str t.name, .int .i64 t.n, vl, eL 1 eb t.b]
theorem op_eT (t : Tm) : op t (eL 7 eT t.l) = eT t := (eT_eq t).symm
inductive Rd (H : Heap) : AV → Tm → Prop
  | imm (t : Tm) : Rd H (eT t) t
  | nil (t : Tm) (h : t.l = none) : Rd H (op t .nils) t
  | own (t : Tm) (l : List Tm) (id w cap : Nat) (es : List AV) (h : t.l = some l) (hr : H[id]? = some (.row w 7 26 es)) (hn : es.length = l.length) (he : ∀ i (hi : i < es.length), Rd H es[i] (l[i]'(hn ▸ hi))) : Rd H (op t (.sl id w 0 l.length cap)) t
theorem op_inj {t u : Tm} {v w : AV} (h : op t v = op u w) : t.kind = u.kind ∧ t.neg = u.neg ∧ t.d = u.d ∧ t.name = u.name ∧ t.n = u.n ∧ v = w ∧ t.b = u.b := by
  unfold op at h
  injection h with h
  simp only [List.cons.injEq, AV.int.injEq, AV.bool.injEq, AV.str.injEq, true_and, and_true] at h
  obtain ⟨h1, h2, h3, h4, h5, h6, h7⟩ := h
  exact ⟨h1, h2, cD.inj _ _ h3, h4, h5, h6, cBy.inj _ _ h7⟩
theorem tm_ext {t u : Tm} (h : t.kind = u.kind ∧ t.neg = u.neg ∧ t.d = u.d ∧ t.name = u.name ∧ t.n = u.n ∧ t.l = u.l ∧ t.b = u.b) : t = u := by
  cases t
  cases u
  simp only [Tm.kind, Tm.neg, Tm.d, Tm.name, Tm.n, Tm.l, Tm.b] at h
  obtain ⟨rfl, rfl, rfl, rfl, rfl, rfl, rfl⟩ := h
  rfl
theorem rd_eT {H : Heap} {t u : Tm} (h : Rd H (eT t) u) : u = t := by
  generalize hv : eT t = v at h
  cases h with
  | imm => exact (eT_inj _ _ hv).symm
  | nil _ h =>
    rw [← op_eT] at hv
    have := op_inj hv
    refine tm_ext ⟨this.1.symm, this.2.1.symm, this.2.2.1.symm, this.2.2.2.1.symm, this.2.2.2.2.1.symm, ?_, this.2.2.2.2.2.2.symm⟩
    have h6 := this.2.2.2.2.2.1
    rw [h]
    cases ht : t.l with
    | none => rfl
    | some l => rw [ht] at h6; cases h6
  | own _ l id w cap es h hr hn he =>
    rw [← op_eT] at hv
    have h6 := (op_inj hv).2.2.2.2.2.1
    cases ht : t.l with
    | none => rw [ht] at h6; cases h6
    | some l => rw [ht] at h6; cases h6
theorem rd_mono {H H' : Heap} (hm : ∀ (id w : Nat) (es : List AV), H[id]? = some (.row w 7 26 es) → ∃ es' : List AV, H'[id]? = some (.row w 7 26 es') ∧ ∃ hl : es'.length = es.length, ∀ i (hi : i < es.length), es'[i]'(hl ▸ hi) = es[i] ∨ ∀ u, Rd H es[i] u → Rd H' (es'[i]'(hl ▸ hi)) u) {v : AV} {t : Tm} (h : Rd H v t) : Rd H' v t := by
  induction h with
  | imm t => exact .imm t
  | nil t h => exact .nil t h
  | own t l id w cap es h hr hn he ih =>
    obtain ⟨es', h1, hl, h2⟩ := hm id w es hr
    refine .own t l id w cap es' h h1 (by omega) fun i hi => ?_
    have hi' : i < es.length := by omega
    rcases h2 i hi' with h3 | h3
    · rw [h3]
      exact ih i hi'
    · exact h3 _ (he i hi')
theorem rd_push {H X : Heap} {v : AV} {t : Tm} (h : Rd H v t) : Rd (H ++ X) v t := rd_mono (fun id w es hr => ⟨es, by rw [List.getElem?_append_left (List.getElem?_eq_some_iff.1 hr).1]; exact hr, rfl, fun _ _ => .inl rfl⟩) h
theorem rd_other {H : Heap} {q ver sz : Nat} {ty : TypeId} {es : List AV} {o : HObj} {v : AV} {t : Tm} (hq : H[q]? = some (.row ver sz ty es)) (hs : sz ≠ 7) (h : Rd H v t) : Rd (H.set q o) v t := rd_mono (fun id w es' hr => ⟨es', by
  have : q ≠ id := fun e => by
    subst e
    rw [hq] at hr
    injection hr with hr
    injection hr with _ h2
    exact hs h2
  rw [List.getElem?_set_ne this]
  exact hr, rfl, fun _ _ => .inl rfl⟩) h
theorem rd_open {H : Heap} {r w i : Nat} {es : List AV} {u : Tm} {x : AV} (hr : H[r]? = some (.row w 7 26 es)) (hi : i < es.length) (hu : es[i] = eT u) (hx : Rd (H.set r (.row w 7 26 (es.set i x))) x u) {v : AV} {t : Tm} (h : Rd H v t) : Rd (H.set r (.row w 7 26 (es.set i x))) v t := rd_mono (fun id w' es' hr' => by
  by_cases e : r = id
  · subst e
    rw [hr] at hr'
    injection hr' with hr'
    injection hr' with h1 _ _ h2
    subst h1 h2
    refine ⟨es.set i x, List.getElem?_set_self (List.getElem?_eq_some_iff.1 hr).1, by simp, fun j hj => ?_⟩
    by_cases hij : i = j
    · subst hij
      right
      intro u' hu'
      rw [hu] at hu'
      rw [rd_eT hu', List.getElem_set_self]
      exact hx
    · left
      rw [List.getElem_set_ne hij]
  · exact ⟨es', by rw [List.getElem?_set_ne e]; exact hr', rfl, fun _ _ => .inl rfl⟩) h
/-! ### how deep -/
def shal : Nat → Tm → Prop
  | 0, _ => False
  | n + 1, t => ∀ u ∈ t.kids, shal n u
theorem room_shal {most : Int} : ∀ (n : Nat) (t : Tm) (dep : Int), dep < n → roomS t dep most = true → shal n t
  | 0, t, dep, hd, h => by
    rw [roomS_eq] at h
    simp only [Bool.and_eq_true, Bool.not_eq_true', Bool.or_eq_false_iff, decide_eq_false_iff_not] at h
    omega
  | n + 1, t, dep, hd, h => by
    rw [roomS_eq] at h
    simp only [Bool.and_eq_true, Bool.not_eq_true', Bool.or_eq_false_iff, decide_eq_false_iff_not, List.all_eq_true] at h
    exact fun u hu => room_shal n u (dep - 1) (by omega) (h.2 u hu)
theorem mapM_get {α β : Type} {f : α → Option β} {g : List β} : ∀ {l : List α}, (hl : l.length = g.length) → (∀ i (hi : i < l.length), f l[i] = some (g[i]'(hl ▸ hi))) → l.mapM f = some g := by
  induction g with
  | nil =>
    intro l hl _
    have : l = [] := List.length_eq_zero_iff.1 hl
    subst this
    rfl
  | cons b g ih =>
    intro l hl h
    cases l with
    | nil => simp at hl
    | cons a l =>
      have h0 := h 0 (by simp)
      simp only [List.getElem_cons_zero] at h0
      have h1 := ih (l := l) (by simpa using hl) fun i hi => by
        have := h (i + 1) (by simp; omega)
        simpa using this
      simp [List.mapM_cons, h0, h1]
theorem frz_eL {n sz : Nat} {α : Type} {e : α → AV} {H : Heap} {o : Option (List α)} : A.freezeB true (n + 1) H (eL sz e o) = some (eL sz e o) := by cases o <;> rfl
theorem frz_op {n : Nat} {H : Heap} {t : Tm} {v w : AV} (h : A.freezeB true (n + 1) H v = some w) : A.freezeB true (n + 2) H (op t v) = some (op t w) := by
  have hd : A.freezeB true (n + 1) H (eD t.d) = some (eD t.d) := frz_eL
  have hb : A.freezeB true (n + 1) H (eL 1 eb t.b) = some (eL 1 eb t.b) := frz_eL
  show ([AV.int .i64 t.kind, .bool t.neg, eD t.d, .str t.name, .int .i64 t.n, v, eL 1 eb t.b].mapM (A.freezeB true (n + 1) H)).map AV.agg = _
  have h0 : A.freezeB true (n + 1) H (.int .i64 t.kind) = some (.int .i64 t.kind) := rfl
  have h1 : A.freezeB true (n + 1) H (.bool t.neg) = some (.bool t.neg) := rfl
  have h3 : A.freezeB true (n + 1) H (.str t.name) = some (.str t.name) := rfl
  have h4 : A.freezeB true (n + 1) H (.int .i64 t.n) = some (.int .i64 t.n) := rfl
  simp [List.mapM_cons, h0, h1, hd, h3, h4, h, hb, op]
theorem rd_agg {H : Heap} {v : AV} {t : Tm} (h : Rd H v t) : ∃ cs, v = .agg cs := by
  cases h with
  | imm => exact ⟨_, eT_eq t⟩
  | nil => exact ⟨_, rfl⟩
  | own => exact ⟨_, rfl⟩
theorem rd_freeze {H : Heap} : ∀ (n : Nat) (t : Tm) (v : AV), shal n t → Rd H v t → A.freezeB true (n + 1) H v = some (eT t)
  | 0, _, _, hs, _ => by cases hs
  | n + 1, t, v, hs, h => by
    cases h with
    | imm =>
      rw [← op_eT]
      exact frz_op frz_eL
    | nil _ h =>
      rw [← op_eT, h]
      exact frz_op rfl
    | own _ l id w cap es h hr hn he =>
      rw [← op_eT, h]
      refine frz_op ?_
      have hk : ∀ u ∈ l, shal n u := fun u hu => hs u (by unfold Tm.kids; rw [h]; exact hu)
      show (match H[id]? with | some (.row w' z _ es) => if w' = w ∧ 0 + l.length ≤ es.length then (((es.drop 0).take l.length).mapM fun (e : AV) => match e with | AV.agg cs => (cs.mapM (A.freezeB true n H)).map AV.agg | e => A.freezeB true n H e).map (AV.sh z) else none | _ => none) = _
      rw [hr]
      dsimp only
      rw [if_pos ⟨rfl, by omega⟩, List.drop_zero, List.take_of_length_le (by omega)]
      have : (es.mapM fun (e : AV) => match e with | AV.agg cs => (cs.mapM (A.freezeB true n H)).map AV.agg | e => A.freezeB true n H e) = some (l.map eT) := mapM_get (by simpa using hn) fun i hi => by
        have hri := he i hi
        have hf := rd_freeze n _ _ (hk _ (List.getElem_mem (by omega))) hri
        obtain ⟨cs, hcs⟩ := rd_agg hri
        rw [hcs] at hf ⊢
        simp only [List.getElem_map]
        exact hf
      rw [this]
      rfl
end Go.Proofs.YtleikacgncpfbaaDoor

/- Terms: what still is to be copied. -/
set_option maxRecDepth 100000
set_option maxHeartbeats 4000000
namespace Go.Proofs.YtleikacgncpfbaaDoor
open Go Go.Den
section
variable {H : Heap} {id ver sz j : Nat} {ty : TypeId} {es cs : List AV}
theorem cell_load {off : Nat} {v : AV} (h : H[id]? = some (.row ver sz ty es)) (he : es[j]? = some (.agg cs)) (hv : cs[off]? = some v) : A.load false 1 (.ptr id ver j off) H = some v := by
  simp [A.load, A.elemAt, h, he, A.ofList, AV.cells, hv]
theorem cell_fa {o : Nat} (h : H[id]? = some (.row ver sz ty es)) : A.fa o (.ptr id ver j 0) H = some (.ptr id ver j o) := by
  simp [A.fa, A.alive, h]
theorem cell_store {off : Nat} {v w : AV} (h : H[id]? = some (.row ver sz ty es)) (he : es[j]? = some (.agg cs)) (hw : cs[off]? = some w) (hv : v.one = true) : A.store 1 (.ptr id ver j off) v H = some (H.set id (.row ver sz ty (es.set j (.agg (cs.set off v))))) := by
  have hc : v.cells = [v] := by cases v <;> first | rfl | cases hv
  have hl : off < cs.length := (List.getElem?_eq_some_iff.1 hw).1
  have hs : A.splice cs off [v] = cs.set off v := by
    unfold A.splice
    rw [List.set_eq_take_append_cons_drop, if_pos hl]
    simp
  simp [A.store, A.fits, hc, hv, h, he, A.setElem, hs]
  omega
theorem cell_store_same {off : Nat} {v : AV} (h : H[id]? = some (.row ver sz ty es)) (he : es[j]? = some (.agg cs)) (hw : cs[off]? = some v) (hv : v.one = true) : A.store 1 (.ptr id ver j off) v H = some H := by
  rw [cell_store h he hw hv]
  congr 1
  have e1 : cs.set off v = cs := by
    rw [List.getElem?_eq_some_iff] at hw
    obtain ⟨hl, hw⟩ := hw
    rw [← hw]
    exact List.set_getElem_self _
  have e2 : es.set j (.agg cs) = es := by
    rw [List.getElem?_eq_some_iff] at he
    obtain ⟨hl, he⟩ := he
    rw [← he]
    exact List.set_getElem_self _
  rw [e1, e2]
  rw [List.getElem?_eq_some_iff] at h
  obtain ⟨hl, h⟩ := h
  rw [← h]
  exact List.set_getElem_self _
end
end Go.Proofs.YtleikacgncpfbaaDoor

/- Terms: one more is copied. -/
set_option maxRecDepth 100000
set_option maxHeartbeats 4000000
namespace Go.Proofs.YtleikacgncpfbaaDoor
open Go Go.Den
structure Ent where
  r : Nat
  w : Nat
  i : Nat
  u : Tm
  id : Nat
def Ent.ptr (e : Ent) : AV := .ptr e.r e.w e.i 0
def Ent.own (e : Ent) : Prop := e.u.l ≠ none
def Pend (H : Heap) (e : Ent) : Prop := ∃ es : List AV, H[e.r]? = some (.row e.w 7 26 es) ∧ es[e.i]? = some (op e.u (cv e.id e.u.l)) ∧ ∀ l, e.u.l = some l → H[e.id]? = some (.row (cw l) 7 26 (l.map eT))
structure CInv (t : Tm) (q ver cap : Nat) (P : List Ent) (H : Heap) : Prop where
  root : ∃ v, H[0]? = some (.row 0 7 26 [v]) ∧ Rd H v t
  todo : ∃ es : List AV, H[q]? = some (.row ver 1 86 es) ∧ es.take P.length = P.map Ent.ptr ∧ P.length ≤ cap
  pend : ∀ e ∈ P, Pend H e
  ids : ∀ e ∈ P, e.own → e.id ≠ q ∧ e.id < H.length ∧ e.id ≠ 0
  dist : P.Pairwise fun e f => e.own → f.own → e.id ≠ f.id
  apart : ∀ e ∈ P, ∀ f ∈ P, f.own → e.r ≠ f.id
structure Cur (p : Ent) (l : List Tm) (i q : Nat) (P : List Ent) (H : Heap) : Prop where
  ul : p.u.l = some l
  cell : ∃ es : List AV, H[p.r]? = some (.row p.w 7 26 es) ∧ es[p.i]? = some (op p.u (cv p.id p.u.l))
  rows : ∃ es : List AV, H[p.id]? = some (.row (cw l) 7 26 es) ∧ es.length = l.length ∧ ∀ j (hj : j < l.length), i ≤ j → es[j]? = some (eT l[j])
  idq : p.id ≠ q
  id0 : p.id ≠ 0
  rid : p.r ≠ p.id
  oth : ∀ e ∈ P, e.own → e.id ≠ p.id ∧ e.id ≠ p.r
  kid : ∀ e ∈ P, e.r = p.id → e.i < i
theorem row_ne {H : Heap} {a b v w : Nat} {ty ty' : TypeId} {es fs : List AV} (h : H[a]? = some (.row v 7 ty es)) (g : H[b]? = some (.row w 1 ty' fs)) : a ≠ b := fun e => by
  subst e
  rw [h] at g
  injection g with g
  injection g with _ g
  cases g
theorem cp_step {t : Tm} {q ver cap : Nat} {P : List Ent} {H : Heap} {p : Ent} {l : List Tm} {i : Nat} (hC : CInv t q ver cap P H) (hK : Cur p l i q P H) (hi : i < l.length) (hb : P.length ≤ 1000000000) {es : List AV} (hes : H[p.id]? = some (.row (cw l) 7 26 es)) (hn : es.length = l.length) (hej : ∀ j (hj : j < l.length), i ≤ j → es[j]? = some (eT l[j])) {H6 : Heap} (h6 : H6 = (H ++ cr l[i].l ((l[i].l.getD []).map eT)).set p.id (.row (cw l) 7 26 (es.set i (op l[i] (cv H.length l[i].l))))) :
    ∃ ver' cap' H8, A.append 1 8 86 (.sl q ver 0 P.length cap) [.ptr p.id (cw l) i 0] (H6 ++ [.row 0 1 86 [.ptr p.id (cw l) i 0]]) = some (.sl q ver' 0 (P ++ [(⟨p.id, cw l, i, l[i], H.length⟩ : Ent)]).length cap', H8) ∧ CInv t q ver' cap' (P ++ [(⟨p.id, cw l, i, l[i], H.length⟩ : Ent)]) H8 ∧ Cur p l (i + 1) q (P ++ [(⟨p.id, cw l, i, l[i], H.length⟩ : Ent)]) H8 := by
  obtain ⟨v0, hv0, hv⟩ := hC.root
  obtain ⟨es0, hq, htk, hcap⟩ := hC.todo
  have hpl : p.id < H.length := (List.getElem?_eq_some_iff.1 hes).1
  have hql : q < H.length := (List.getElem?_eq_some_iff.1 hq).1
  have h0q : 0 ≠ q := row_ne hv0 hq
  have hidq := hK.idq
  have hid0 := hK.id0
  have hei : es[i]? = some (eT l[i]) := hej i hi (Nat.le_refl _)
  obtain ⟨hil, hei'⟩ := List.getElem?_eq_some_iff.1 hei
  generalize hnew : (⟨p.id, cw l, i, l[i], H.length⟩ : Ent) = new at *
  generalize hX : cr l[i].l ((l[i].l.getD []).map eT) = X at *
  generalize hH3 : H ++ X = H3 at *
  have g3 : ∀ k o, H[k]? = some o → H3[k]? = some o := fun k o h => by
    rw [← hH3, List.getElem?_append_left (List.getElem?_eq_some_iff.1 h).1]
    exact h
  have hl3 : H.length ≤ H3.length := by rw [← hH3]; simp
  generalize hes6 : es.set i (op l[i] (cv H.length l[i].l)) = es6 at *
  have g6 : ∀ k o, H3[k]? = some o → k ≠ p.id → H6[k]? = some o := fun k o h hk => by
    rw [h6, List.getElem?_set_ne (fun e => hk e.symm)]
    exact h
  have hl6 : H6.length = H3.length := by rw [h6]; simp
  have hp6 : H6[p.id]? = some (.row (cw l) 7 26 es6) := by rw [h6]; exact List.getElem?_set_self (by omega)
  have hrow : ∀ l', l[i].l = some l' → H6[H.length]? = some (.row (cw l') 7 26 (l'.map eT)) := fun l' hl' => by
    refine g6 _ _ ?_ (by omega)
    rw [← hH3, ← hX, hl']
    simp [cr]
  -- the root
  have r3 : Rd H3 v0 t := by rw [← hH3]; exact rd_push hv
  have hx : Rd H6 (op l[i] (cv H.length l[i].l)) l[i] := by
    cases hu : l[i].l with
    | none => exact .nil _ hu
    | some l' =>
      refine .own _ l' _ _ _ _ hu (hrow l' hu) (by simp) fun j hj => ?_
      rw [List.getElem_map]
      exact .imm _
  have r6 : Rd H6 v0 t := by
    rw [h6, ← hes6] at hx ⊢
    exact rd_open (g3 _ _ hes) hil hei' hx r3
  generalize hH7 : H6 ++ [.row 0 1 86 [.ptr p.id (cw l) i 0]] = H7
  have g7 : ∀ k o, H6[k]? = some o → H7[k]? = some o := fun k o h => by
    rw [← hH7, List.getElem?_append_left (List.getElem?_eq_some_iff.1 h).1]
    exact h
  have r7 : Rd H7 v0 t := by rw [← hH7]; exact rd_push r6
  have hl7 : H7.length = H3.length + 1 := by rw [← hH7]; simp [hl6]
  have hq7 : H7[q]? = some (.row ver 1 86 es0) := g7 _ _ (g6 _ _ (g3 _ _ hq) (fun e => hidq e.symm))
  have hptr : new.ptr = .ptr p.id (cw l) i 0 := by rw [← hnew]; rfl
  have hlen : (P ++ [new]).length = P.length + 1 := by simp
  have happ : ∃ ver' cap' es', A.append 1 8 86 (.sl q ver 0 P.length cap) [.ptr p.id (cw l) i 0] H7 = some (.sl q ver' 0 (P ++ [new]).length cap', H7.set q (.row ver' 1 86 es')) ∧ es'.take (P ++ [new]).length = (P ++ [new]).map Ent.ptr ∧ (P ++ [new]).length ≤ cap' := by
    have hle : P.length ≤ es0.length := by
      have := congrArg List.length htk
      simp at this
      omega
    by_cases hc : P.length + 1 ≤ cap
    · refine ⟨ver, cap, A.splice es0 P.length [.ptr p.id (cw l) i 0], ?_, ?_, by omega⟩
      · simp only [A.append, hq7]
        rw [if_pos ⟨trivial, trivial, trivial, by omega, by omega, by simp; omega, by omega⟩, if_pos (by simpa using hc)]
        simp
      · have : A.splice es0 P.length [.ptr p.id (cw l) i 0] = es0.take P.length ++ [.ptr p.id (cw l) i 0] ++ es0.drop (P.length + 1) := rfl
        rw [this, htk, List.map_append, List.map_cons, List.map_nil, hptr, List.take_append_of_le_length (by simp), List.take_of_length_le (by simp)]
    · refine ⟨ver + 1, P.length + 1, P.map Ent.ptr ++ [.ptr p.id (cw l) i 0], ?_, ?_, by omega⟩
      · simp only [A.append, hq7]
        rw [if_pos ⟨trivial, trivial, trivial, by omega, by omega, by simp; omega, by omega⟩, if_neg (by simpa using hc)]
        simp [htk]
      · rw [List.map_append, List.map_cons, List.map_nil, hptr, List.take_of_length_le (by simp)]
  obtain ⟨ver', cap', es', ha, htk', hcap'⟩ := happ
  have g8 : ∀ k o, H7[k]? = some o → k ≠ q → (H7.set q (.row ver' 1 86 es'))[k]? = some o := fun k o h hk => by
    rw [List.getElem?_set_ne (fun e => hk e.symm)]
    exact h
  generalize hH8 : H7.set q (.row ver' 1 86 es') = H8 at *
  have fr : ∀ k o, H[k]? = some o → k ≠ p.id → k ≠ q → H8[k]? = some o := fun k o h h1 h2 => g8 _ _ (g7 _ _ (g6 _ _ (g3 _ _ h) h1)) h2
  have hp8 : H8[p.id]? = some (.row (cw l) 7 26 es6) := g8 _ _ (g7 _ _ hp6) hidq
  have hl8 : H8.length = H3.length + 1 := by rw [← hH8]; simp [hl7]
  have hnr : new.r = p.id := by rw [← hnew]
  have hnid : new.id = H.length := by rw [← hnew]
  have hnu : new.u = l[i] := by rw [← hnew]
  have hni : new.i = i := by rw [← hnew]
  have hnw : new.w = cw l := by rw [← hnew]
  have hes6i : es6[i]? = some (op l[i] (cv H.length l[i].l)) := by rw [← hes6]; exact List.getElem?_set_self hil
  have hrl : ∀ e ∈ P, e.r < H.length := fun e he => by
    obtain ⟨fs, h1, -⟩ := hC.pend e he
    exact (List.getElem?_eq_some_iff.1 h1).1
  refine ⟨ver', cap', H8, ha, ⟨⟨v0, fr _ _ hv0 (fun e => hid0 e.symm) h0q, ?_⟩, ⟨es', ?_, htk', hcap'⟩, ?_, ?_, ?_, ?_⟩, ⟨hK.ul, ?_, ⟨es6, hp8, by rw [← hes6]; simpa using hn, ?_⟩, hidq, hid0, hK.rid, ?_, ?_⟩⟩
  · rw [← hH8]
    exact rd_other hq7 (by omega) r7
  · rw [← hH8]
    exact List.getElem?_set_self (by omega)
  · intro e he
    rcases List.mem_append.1 he with he | he
    · obtain ⟨fs, h1, h2, h3⟩ := hC.pend e he
      have hkids : ∀ l', e.u.l = some l' → H8[e.id]? = some (.row (cw l') 7 26 (l'.map eT)) := fun l' hl' => by
        have ho : e.own := by unfold Ent.own; rw [hl']; simp
        exact fr _ _ (h3 l' hl') (hK.oth e he ho).1 (hC.ids e he ho).1
      by_cases hr : e.r = p.id
      · rw [hr, hes] at h1
        injection h1 with h1
        injection h1 with h1 _ _ h4
        have hei2 := hK.kid e he hr
        refine ⟨es6, by rw [hr, ← h1]; exact hp8, ?_, hkids⟩
        rw [← hes6, List.getElem?_set_ne (by omega), h4]
        exact h2
      · exact ⟨fs, fr _ _ h1 hr (row_ne h1 hq), h2, hkids⟩
    · rw [List.mem_singleton] at he
      rw [he]
      refine ⟨es6, by rw [hnr, hnw]; exact hp8, by rw [hni, hnu, hnid]; exact hes6i, fun l' hl' => ?_⟩
      rw [hnu] at hl'
      rw [hnid]
      exact g8 _ _ (g7 _ _ (hrow l' hl')) (by omega)
  · intro e he ho
    rcases List.mem_append.1 he with he | he
    · have := hC.ids e he ho
      exact ⟨this.1, by omega, this.2.2⟩
    · rw [List.mem_singleton] at he
      rw [he]
      rw [hnid]
      exact ⟨by omega, by omega, by omega⟩
  · rw [List.pairwise_append]
    refine ⟨hC.dist, List.pairwise_singleton _ _, fun e he f hf ho _ => ?_⟩
    rw [List.mem_singleton] at hf
    rw [hf]
    have := (hC.ids e he ho).2.1
    rw [hnid]
    omega
  · intro e he f hf ho
    rcases List.mem_append.1 he with he | he
    · rcases List.mem_append.1 hf with hf | hf
      · exact hC.apart e he f hf ho
      · rw [List.mem_singleton] at hf
        rw [hf]
        have := hrl e he
        rw [hnid]
        omega
    · rw [List.mem_singleton] at he
      rw [he]
      rw [hnr]
      rcases List.mem_append.1 hf with hf | hf
      · exact fun e => (hK.oth f hf ho).1 e.symm
      · rw [List.mem_singleton] at hf
        rw [hf]
        rw [hnid]
        omega
  · obtain ⟨fs, h1, h2⟩ := hK.cell
    exact ⟨fs, fr _ _ h1 hK.rid (row_ne h1 hq), h2⟩
  · intro j hj hij
    rw [← hes6, List.getElem?_set_ne (by omega)]
    exact hej j hj (by omega)
  · intro e he ho
    rcases List.mem_append.1 he with he | he
    · exact hK.oth e he ho
    · rw [List.mem_singleton] at he
      rw [he]
      obtain ⟨fs, h1, h2⟩ := hK.cell
      have := (List.getElem?_eq_some_iff.1 h1).1
      rw [hnid]
      exact ⟨by omega, by omega⟩
  · intro e he hr
    rcases List.mem_append.1 he with he | he
    · have := hK.kid e he hr
      omega
    · rw [List.mem_singleton] at he
      rw [he]
      rw [hni]
      omega
end Go.Proofs.YtleikacgncpfbaaDoor

/- Terms: the parts of one are copied; all are. -/
set_option maxRecDepth 100000
set_option maxHeartbeats 4000000
namespace Go.Proofs.YtleikacgncpfbaaDoor
open Go Go.Den
def fineOne (u : Tm) : Prop := few u.d ∧ fewB u.b ∧ u.kids.length ≤ 1000
noncomputable abbrev TCp : List (FuncId × Pol) := [(72, pClone), (71, pBclone), (73, pTclone)]
theorem ty_ptrs : base.P.underlying 87 = some (.slice 86) := by kernel_rfl
theorem cv_one (id : Nat) (o : Option (List Tm)) : (cv id o).one = true := by cases o <;> rfl
theorem cp_inner {t : Tm} {q : Nat} {p : Ent} {l : List Tm} {t3 : AV} {c1 : List AV} (hl : ∀ u ∈ l, fineOne u) : ∀ (k i : Nat) (P : List Ent) (ver cap : Nat) (H : Heap), i + k = l.length → CInv t q ver cap P H → Cur p l i q P H → P.length + k ≤ 1000000000 → l.length ≤ 1000 →
    ∃ (P' : List Ent) (ver' cap' : Nat) (H' : Heap), P'.map Ent.u = P.map Ent.u ++ l.drop i ∧ CInv t q ver' cap' P' H' ∧ LDoes (L44_1 (polT TCp)) ⟨[t3, .sl q ver 0 P.length cap, .ptr p.r p.w p.i 0, .int .i64 (l.length : Int), .int .i64 (i : Int)], [c1]⟩ H 0 ⟨[t3, .sl q ver' 0 P'.length cap'], [c1]⟩ H' := by
  intro k
  induction k with
  | zero =>
    intro i P ver cap H hi hC hK hb hll
    have : i = l.length := by omega
    subst this
    refine ⟨P, ver, cap, H, by simp, hC, LDoes.step (Evs.of fun n m => ?_)⟩
    simp [↓test_bool, ↓withV_of, L44_1_step]
  | succ k ih =>
    intro i P ver cap H hi hC hK hb hll
    have hlt : i < l.length := by omega
    have hlt' : (i : Int) < (l.length : Int) := by omega
    obtain ⟨es, hes, hn, hej⟩ := hK.rows
    obtain ⟨H6, h6⟩ : ∃ H6, H6 = (H ++ cr l[i].l ((l[i].l.getD []).map eT)).set p.id (.row (cw l) 7 26 (es.set i (op l[i] (cv H.length l[i].l)))) := ⟨_, rfl⟩
    obtain ⟨ver', cap', H8, happ, hC', hK'⟩ := cp_step hC hK hlt (by omega) hes hn hej h6
    obtain ⟨P', ver2, cap2, H', hP', hC2, hL⟩ := ih (i + 1) _ ver' cap' H8 (by omega) hC' hK' (by simp; omega) hll
    have hu := hl l[i] (List.getElem_mem hlt)
    obtain ⟨fs, hc1, hc2⟩ := hK.cell
    rw [hK.ul] at hc2
    have hpl : p.id < H.length := (List.getElem?_eq_some_iff.1 hes).1
    have hei := hej i hlt (Nat.le_refl _)
    rw [← op_eT] at hei
    -- the place that is copied from
    have a1 : A.nilCheck (.ptr p.r p.w p.i 0) H = some (.ptr p.r p.w p.i 0) := row_nilCheck hc1
    have a2 : A.fa 5 (.ptr p.r p.w p.i 0) H = some (.ptr p.r p.w p.i 5) := cell_fa hc1
    have a3 : A.load false 1 (.ptr p.r p.w p.i 5) H = some (.sl p.id (cw l) 0 l.length l.length) := cell_load hc1 hc2 rfl
    have a4 : A.idx 7 (.sl p.id (cw l) 0 l.length l.length) (.int .i64 (i : Int)) H = some (.ptr p.id (cw l) i 0) := by
      have := row_idx (cap := l.length) (off := 0) (k := .i64) hes (i := (i : Int)) (n := l.length) (by omega) hlt'
      simpa using this
    -- the part
    have b1 : A.nilCheck (.ptr p.id (cw l) i 0) H = some (.ptr p.id (cw l) i 0) := row_nilCheck hes
    have b2 : A.fa 2 (.ptr p.id (cw l) i 0) H = some (.ptr p.id (cw l) i 2) := cell_fa hes
    have b6 : A.fa 6 (.ptr p.id (cw l) i 0) H = some (.ptr p.id (cw l) i 6) := cell_fa hes
    have b5 : A.fa 5 (.ptr p.id (cw l) i 0) H = some (.ptr p.id (cw l) i 5) := cell_fa hes
    have d2 : A.load false 1 (.ptr p.id (cw l) i 2) H = some (eD l[i].d) := cell_load hes hei rfl
    have d6 : A.load false 1 (.ptr p.id (cw l) i 6) H = some (eL 1 eb l[i].b) := cell_load hes hei rfl
    have d5 : A.load false 1 (.ptr p.id (cw l) i 5) H = some (eL 7 eT l[i].l) := cell_load hes hei rfl
    have q2 : ∀ (R : Type) (H : Heap) (k : AV → Heap → Option R), polQ pClone [eD l[i].d] H k = k (eD l[i].d) H := fun R H k => qClone hu.1
    have q6 : ∀ (R : Type) (H : Heap) (k : AV → Heap → Option R), polQ pBclone [eL 1 eb l[i].b] H k = k (eL 1 eb l[i].b) H := fun R H k => qBclone hu.2.1
    have q5 : ∀ (R : Type) (k : AV → Heap → Option R), polK pTclone [eL 7 eT l[i].l] H k = k (cv H.length l[i].l) (H ++ cr l[i].l ((l[i].l.getD []).map eT)) := fun R k => kTclone hu.2.2
    have hes3 : (H ++ cr l[i].l ((l[i].l.getD []).map eT))[p.id]? = some (.row (cw l) 7 26 es) := by
      rw [List.getElem?_append_left hpl]
      exact hes
    have e1 : A.nilCheck (.ptr p.id (cw l) i 0) (H ++ cr l[i].l ((l[i].l.getD []).map eT)) = some (.ptr p.id (cw l) i 0) := row_nilCheck hes3
    have e2 : A.fa 2 (.ptr p.id (cw l) i 0) (H ++ cr l[i].l ((l[i].l.getD []).map eT)) = some (.ptr p.id (cw l) i 2) := cell_fa hes3
    have e6 : A.fa 6 (.ptr p.id (cw l) i 0) (H ++ cr l[i].l ((l[i].l.getD []).map eT)) = some (.ptr p.id (cw l) i 6) := cell_fa hes3
    have e5 : A.fa 5 (.ptr p.id (cw l) i 0) (H ++ cr l[i].l ((l[i].l.getD []).map eT)) = some (.ptr p.id (cw l) i 5) := cell_fa hes3
    have hone : ∀ d : Option (List UInt32), (eD d).one = true := fun d => by cases d <;> rfl
    have honb : ∀ d : Option (List UInt8), (eL 1 eb d).one = true := fun d => by cases d <;> rfl
    have s2 : A.store 1 (.ptr p.id (cw l) i 2) (eD l[i].d) (H ++ cr l[i].l ((l[i].l.getD []).map eT)) = some (H ++ cr l[i].l ((l[i].l.getD []).map eT)) := cell_store_same hes3 hei rfl (hone _)
    have s6 : A.store 1 (.ptr p.id (cw l) i 6) (eL 1 eb l[i].b) (H ++ cr l[i].l ((l[i].l.getD []).map eT)) = some (H ++ cr l[i].l ((l[i].l.getD []).map eT)) := cell_store_same hes3 hei rfl (honb _)
    have s5 : A.store 1 (.ptr p.id (cw l) i 5) (cv H.length l[i].l) (H ++ cr l[i].l ((l[i].l.getD []).map eT)) = some H6 := by
      rw [h6]
      exact cell_store hes3 hei rfl (cv_one _ _)
    have hfe : A.fillElems 1 [AV.nilp] [(0, 1, .ptr p.id (cw l) i 0)] = some [.ptr p.id (cw l) i 0] := by simp [A.fillElems]
    have hrd : A.read 1 (.sl H6.length 0 0 1 1) (H6 ++ [.row 0 1 86 [.ptr p.id (cw l) i 0]]) = some [.ptr p.id (cw l) i 0] := row_read row_push rfl
    have hi1 : IntKind.wrap .i64 ((i : Int) + 1) = (i : Int) + 1 := wrap_i64 (by omega) (by omega)
    simp only [Int.natCast_add, Int.natCast_one] at hL
    refine ⟨P', ver2, cap2, H', ?_, hC2, LDoes.step (Evs.withL hL (Evs.of fun n m _ h2 => ?_))⟩
    · rw [hP', List.drop_eq_getElem_cons hlt]
      simp
    generalize H ++ cr l[i].l ((l[i].l.getD []).map eT) = H3 at *
    generalize cv H.length l[i].l = V at *
    generalize (P ++ [(⟨p.id, cw l, i, l[i], H.length⟩ : Ent)]).length = PL at *
    generalize eD l[i].d = vd at *
    generalize eL 1 eb l[i].b = vb at *
    generalize eL 7 eT l[i].l = vl at *
    generalize (l.length : Int) = N at *
    simp [↓test_bool, ↓bindV_eq, ↓bindH_eq, ↓withV_of, ↓withL_some, ↓withH_some, ↓withVH_some, L44_1_step, hlt', a1, a2, a3, a4, b1, b2, b6, b5, d2, d6, d5, q2, q6, q5, e1, e2, e6, e5, s2, s6, s5, hfe, newsZ_sl ty_ptrs, hrd, happ, hi1, h2]
end Go.Proofs.YtleikacgncpfbaaDoor

/- Terms: all that is still to be copied. -/
set_option maxRecDepth 100000
set_option maxHeartbeats 4000000
namespace Go.Proofs.YtleikacgncpfbaaDoor
open Go Go.Den
theorem sizes_append : ∀ a b : List Tm, Tm.sizes (a ++ b) = Tm.sizes a + Tm.sizes b
  | [], b => by simp [Tm.sizes]
  | t :: a, b => by simp only [List.cons_append, Tm.sizes, sizes_append a b]; omega
theorem len_sizes : ∀ l : List Tm, l.length ≤ Tm.sizes l
  | [] => by simp
  | t :: l => by
    have := len_sizes l
    have h := t.size_eq
    simp only [List.length_cons, Tm.sizes]
    omega
def fineT (t : Tm) : Prop := evT fineOne t
theorem fineT_eq {t : Tm} : fineT t ↔ fineOne t ∧ ∀ u ∈ t.kids, fineT u := evT_eq
theorem cp_outer {t : Tm} {q : Nat} {t3 : AV} {c1 : List AV} : ∀ (N : Nat) (P : List Ent) (ver cap : Nat) (H : Heap), Tm.sizes (P.map Ent.u) ≤ N → N ≤ 1000000000 → CInv t q ver cap P H → (∀ e ∈ P, fineT e.u) →
    ∃ H', (∃ v, H'[0]? = some (.row 0 7 26 [v]) ∧ Rd H' v t) ∧ LDoes (L44_0 (polT TCp)) ⟨[t3, .sl q ver 0 P.length cap], [c1]⟩ H 0 ⟨[t3], [c1]⟩ H' := by
  intro N
  induction N with
  | zero =>
    intro P ver cap H hN hB hC hf
    have hp : P = [] := by
      have := len_sizes (P.map Ent.u)
      simp at this
      exact List.length_eq_zero_iff.1 (by omega)
    subst hp
    obtain ⟨es0, hq, -, -⟩ := hC.todo
    have f0 : A.len (.sl q ver 0 0 cap) H = some (.int .i64 0) := by simp [A.len, A.alive, hq]
    refine ⟨H, hC.root, LDoes.step (Evs.of fun n m => ?_)⟩
    simp [↓test_bool, ↓withV_of, L44_0_step, f0]
  | succ N ih =>
    intro P ver cap H hN hB hC hf
    obtain ⟨es0, hq, htk, hcap⟩ := hC.todo
    rcases List.eq_nil_or_concat P with rfl | ⟨P, p, rfl⟩
    · have f0 : A.len (.sl q ver 0 0 cap) H = some (.int .i64 0) := by simp [A.len, A.alive, hq]
      refine ⟨H, hC.root, LDoes.step (Evs.of fun n m => ?_)⟩
      simp [↓test_bool, ↓withV_of, L44_0_step, f0]
    · simp only [List.concat_eq_append] at *
      have hn : (P ++ [p]).length = P.length + 1 := by simp
      have hpm : p ∈ P ++ [p] := by simp
      have hle : P.length + 1 ≤ es0.length := by
        have := congrArg List.length htk
        simp at this
        omega
      have hlast : es0[P.length]? = some p.ptr := by
        have h2 := congrArg (fun l => l[P.length]?) htk
        simp only [List.getElem?_take, List.map_append, List.map_cons, List.map_nil] at h2
        rw [if_pos (by simp)] at h2
        rw [h2, List.getElem?_append_right (by simp)]
        simp
      have htk' : es0.take P.length = P.map Ent.ptr := by
        have h3 := congrArg (List.take P.length) htk
        rw [List.take_take] at h3
        simpa using h3
      have hmem : ∀ e ∈ P, e ∈ P ++ [p] := fun e he => List.mem_append_left _ he
      have hdist := List.pairwise_append.1 hC.dist
      have hC0 : CInv t q ver cap P H := ⟨hC.root, ⟨es0, hq, htk', by omega⟩, fun e he => hC.pend e (hmem e he), fun e he => hC.ids e (hmem e he), hdist.1, fun e he f hf => hC.apart e (hmem e he) f (hmem f hf)⟩
      obtain ⟨fs, hc1, hc2, hc3⟩ := hC.pend p hpm
      have hsz : Tm.sizes ((P ++ [p]).map Ent.u) = Tm.sizes (P.map Ent.u) + p.u.size := by
        rw [List.map_append, sizes_append]
        simp [Tm.sizes]
      have hpl : P.length ≤ Tm.sizes (P.map Ent.u) := by
        have := len_sizes (P.map Ent.u)
        simpa using this
      have hpsz := p.u.size_eq
      have e1 : ((P.length + 1 : Nat) : Int) - 1 = (P.length : Int) := by omega
      have hw : IntKind.wrap .i64 (((P.length + 1 : Nat) : Int) - 1) = (P.length : Int) := by rw [wrap_i64 (by omega) (by omega), e1]
      have hpos : (0 : Int) < ((P.length + 1 : Nat) : Int) := by omega
      have f1 : A.len (.sl q ver 0 (P.length + 1) cap) H = some (.int .i64 ((P.length + 1 : Nat) : Int)) := by simp [A.len, A.alive, hq]
      have f2 : A.idx 1 (.sl q ver 0 (P.length + 1) cap) (.int .i64 (P.length : Int)) H = some (.ptr q ver P.length 0) := by
        have := row_idx (cap := cap) (off := 0) (k := .i64) hq (i := (P.length : Int)) (n := P.length + 1) (by omega) (by omega)
        simpa using this
      have f3 : A.load false 1 (.ptr q ver P.length 0) H = some (.ptr p.r p.w p.i 0) := row_load hq hlast rfl
      have f4 : A.slice 1 (.sl q ver 0 (P.length + 1) cap) none (some (.int .i64 (P.length : Int))) none H = some (.sl q ver 0 P.length cap) := by
        simp [A.slice, A.bound, A.aliveZ, hq]
        omega
      have f5 : A.nilCheck (.ptr p.r p.w p.i 0) H = some (.ptr p.r p.w p.i 0) := row_nilCheck hc1
      have f6 : A.fa 5 (.ptr p.r p.w p.i 0) H = some (.ptr p.r p.w p.i 5) := cell_fa hc1
      have f7 : A.load false 1 (.ptr p.r p.w p.i 5) H = some (cv p.id p.u.l) := cell_load hc1 hc2 rfl
      rw [hn]
      cases hul : p.u.l with
      | none =>
        rw [hul] at f7
        have f7 : A.load false 1 (.ptr p.r p.w p.i 5) H = some .nils := f7
        have f9 : A.len .nils H = some (.int .i64 0) := rfl
        obtain ⟨H', hr, hL⟩ := ih P ver cap H (by omega) (by omega) hC0 (fun e he => hf e (hmem e he))
        have hin : LDoes (L44_1 (polT TCp)) ⟨[t3, .sl q ver 0 P.length cap, .ptr p.r p.w p.i 0, .int .i64 0, .int .i64 0], [c1]⟩ H 0 ⟨[t3, .sl q ver 0 P.length cap], [c1]⟩ H := LDoes.step (Evs.of fun n m => by simp [↓test_bool, ↓withV_of, L44_1_step])
        refine ⟨H', hr, LDoes.step (Evs.withL hin (Evs.withL hL (Evs.of fun n m _ h2 h3 _ => ?_)))⟩
        generalize ((P.length + 1 : Nat) : Int) = N1 at *
        simp [↓test_bool, ↓bindV_eq, ↓bindC_eq, ↓withV_of, ↓bindX_some, L44_0_step, f1, hpos, hw, f2, f3, f4, f5, f6, f7, f9, h2, h3]
      | some l =>
        rw [hul] at f7
        have ho : p.own := by unfold Ent.own; rw [hul]; simp
        have hkl : p.u.kids = l := by unfold Tm.kids; rw [hul]; rfl
        have hpf := fineT_eq.1 (hf p hpm)
        have hids := hC.ids p hpm ho
        have hll : l.length ≤ 1000 := by rw [← hkl]; exact hpf.1.2.2
        have hls := len_sizes l
        rw [hkl] at hpsz
        have hK : Cur p l 0 q P H := ⟨hul, ⟨fs, hc1, hc2⟩, ⟨l.map eT, hc3 l hul, by simp, fun j hj _ => by simp [hj]⟩, hids.1, hids.2.2, hC.apart p hpm p hpm ho, fun e he heo => ⟨hdist.2.2 e he p (by simp) heo ho, fun e2 => hC.apart p hpm e (hmem e he) heo e2.symm⟩, fun e he h => absurd h (hC.apart e (hmem e he) p hpm ho)⟩
        obtain ⟨P', ver', cap', H1, hP', hC', hin⟩ := cp_inner (t := t) (q := q) (p := p) (l := l) (t3 := t3) (c1 := c1) (fun u hu => (fineT_eq.1 (hpf.2 u (by rw [hkl]; exact hu))).1) l.length 0 P ver cap H (by omega) hC0 hK (by omega) hll
        rw [List.drop_zero] at hP'
        have hf' : ∀ e ∈ P', fineT e.u := fun e he => by
          have : e.u ∈ P.map Ent.u ++ l := by rw [← hP']; exact List.mem_map_of_mem he
          rcases List.mem_append.1 this with h | h
          · obtain ⟨e', he', h⟩ := List.mem_map.1 h
            rw [← h]
            exact hf e' (hmem e' he')
          · exact hpf.2 _ (by rw [hkl]; exact h)
        obtain ⟨H', hr, hL⟩ := ih P' ver' cap' H1 (by rw [hP', sizes_append]; omega) (by omega) hC' hf'
        refine ⟨H', hr, LDoes.step (Evs.withL hin (Evs.withL hL (Evs.of fun n m _ h2 h3 _ => ?_)))⟩
        have f8 : A.len (cv p.id (some l)) H = some (.int .i64 (l.length : Int)) := by
          have := hc3 l hul
          simp [A.len, A.alive, cv, this]
        simp only [Int.natCast_zero] at h3
        generalize cv p.id (some l) = V at *
        generalize ((P.length + 1 : Nat) : Int) = N1 at *
        generalize (l.length : Int) = N2 at *
        simp [↓test_bool, ↓bindV_eq, ↓bindC_eq, ↓withV_of, ↓bindX_some, L44_0_step, f1, hpos, hw, f2, f3, f4, f5, f6, f7, f8, h2, h3]
end Go.Proofs.YtleikacgncpfbaaDoor

/- Terms: a copy is the term. -/
set_option maxRecDepth 100000
set_option maxHeartbeats 4000000
namespace Go.Proofs.YtleikacgncpfbaaDoor
open Go Go.Den
theorem rd_seven {H : Heap} {v : AV} {t : Tm} (h : Rd H v t) : v.cells.length = 7 ∧ A.fits 7 v = true ∧ A.ofList true 7 v.cells 0 = some v ∧ v.isDef = true ∧ A.splice [.int .i64 0, .bool false, .nils, .str [], .int .i64 0, .nils, .nils] 0 v.cells = v.cells := by
  have hop : ∀ (u : Tm) (w : AV), w.one = true → (op u w).cells.length = 7 ∧ A.fits 7 (op u w) = true ∧ A.ofList true 7 (op u w).cells 0 = some (op u w) ∧ (op u w).isDef = true ∧ A.splice [.int .i64 0, .bool false, .nils, .str [], .int .i64 0, .nils, .nils] 0 (op u w).cells = (op u w).cells := fun u w hw => by
    have hd : (eD u.d).one = true := by cases u.d <;> rfl
    have hb : (eL 1 eb u.b).one = true := by cases u.b <;> rfl
    refine ⟨rfl, ?_, rfl, rfl, rfl⟩
    show (((op u w).cells.length == 7) && (op u w).cells.all AV.one) = true
    show ((7 == 7) && [AV.int .i64 u.kind, .bool u.neg, eD u.d, .str u.name, .int .i64 u.n, w, eL 1 eb u.b].all AV.one) = true
    simp only [List.all_cons, List.all_nil, hd, hb, hw]
    rfl
  cases h with
  | imm =>
    rw [← op_eT]
    exact hop _ _ (by cases t.l <;> rfl)
  | nil => exact hop _ _ rfl
  | own => exact hop _ _ rfl
def copyT (t : Tm) : Prop := fineT t ∧ shal 63 t ∧ t.size ≤ 1000000000
noncomputable def pCopy : Pol := .still (p1 cT eT copyT id)
theorem kCopy {R : Type} {t : Tm} (h : copyT t) {H : Heap} {k : AV → Heap → Option R} : polK pCopy [eT t] H k = k (eT t) H := by
  simp [pCopy, polK_imm, h]
theorem qCopy {R : Type} {t : Tm} (h : copyT t) {H : Heap} {k : AV → Heap → Option R} : polQ pCopy [eT t] H k = k (eT t) H := by
  simp [pCopy, polQ_imm, h]
theorem okCopy : PolOK base 44 pCopy := still1 base_ok TCp ⟨okClone, okBclone, okTclone, trivial⟩ fun t ⟨hf, hsh, hsz⟩ => by
  have hf1 := (fineT_eq.1 hf).1
  have hcl : (eT t).cells.length = 7 := by rw [cells_eT]; rfl
  have hof : A.ofList true 7 (eT t).cells 0 = some (eT t) := load_eT (H := [])
  have hof2 : (eT t).cells[2]? = some (eD t.d) := by rw [cells_eT]; rfl
  have hof6 : (eT t).cells[6]? = some (eL 1 eb t.b) := by rw [cells_eT]; rfl
  have hof5 : (eT t).cells[5]? = some (eL 7 eT t.l) := by rw [cells_eT]; rfl
  have st0 : A.store 7 (.ptr 0 0 0 0) (eT t) [.row 0 7 26 [.agg [.int .i64 0, .bool false, .nils, .str [], .int .i64 0, .nils, .nils]]] = some [.row 0 7 26 [eT t]] := by
    have := box_store (cs := [.int .i64 0, .bool false, .nils, .str [], .int .i64 0, .nils, .nils]) (ds := (eT t).cells) (b := 0) (sz := 7) (ty := 26) (H := [.row 0 7 26 [.agg [.int .i64 0, .bool false, .nils, .str [], .int .i64 0, .nils, .nils]]]) rfl rfl (by rw [cells_eT]; rfl) (by rw [cells_eT]; simp)
    have e : AV.agg (eT t).cells = eT t := by rw [cells_eT, eT_eq]
    rw [e] at this
    exact this
  have k2 : ∀ (R : Type) (H : Heap) (k : AV → Heap → Option R), polQ pClone [eD t.d] H k = k (eD t.d) H := fun R H k => qClone hf1.1
  have k6 : ∀ (R : Type) (H : Heap) (k : AV → Heap → Option R), polQ pBclone [eL 1 eb t.b] H k = k (eL 1 eb t.b) H := fun R H k => qBclone hf1.2.1
  have k5 : ∀ (R : Type) (k : AV → Heap → Option R), polK pTclone [eL 7 eT t.l] [.row 0 7 26 [eT t]] k = k (cv 1 t.l) ([.row 0 7 26 [eT t]] ++ cr t.l ((t.l.getD []).map eT)) := fun R k => kTclone (H := [.row 0 7 26 [eT t]]) hf1.2.2
  have h0 : ([.row 0 7 26 [eT t]] ++ cr t.l ((t.l.getD []).map eT))[0]? = some (.row 0 7 26 [eT t]) := rfl
  have he : [eT t][0]? = some (.agg [.int .i64 t.kind, .bool t.neg, eD t.d, .str t.name, .int .i64 t.n, eL 7 eT t.l, eL 1 eb t.b]) := by rw [eT_eq]; rfl
  have hone : ∀ d : Option (List UInt32), (eD d).one = true := fun d => by cases d <;> rfl
  have honb : ∀ d : Option (List UInt8), (eL 1 eb d).one = true := fun d => by cases d <;> rfl
  have f2 : A.fa 2 (.ptr 0 0 0 0) ([.row 0 7 26 [eT t]] ++ cr t.l ((t.l.getD []).map eT)) = some (.ptr 0 0 0 2) := cell_fa h0
  have f6 : A.fa 6 (.ptr 0 0 0 0) ([.row 0 7 26 [eT t]] ++ cr t.l ((t.l.getD []).map eT)) = some (.ptr 0 0 0 6) := cell_fa h0
  have f5 : A.fa 5 (.ptr 0 0 0 0) ([.row 0 7 26 [eT t]] ++ cr t.l ((t.l.getD []).map eT)) = some (.ptr 0 0 0 5) := cell_fa h0
  have s2 : A.store 1 (.ptr 0 0 0 2) (eD t.d) ([.row 0 7 26 [eT t]] ++ cr t.l ((t.l.getD []).map eT)) = some ([.row 0 7 26 [eT t]] ++ cr t.l ((t.l.getD []).map eT)) := cell_store_same h0 he rfl (hone _)
  have s6 : A.store 1 (.ptr 0 0 0 6) (eL 1 eb t.b) ([.row 0 7 26 [eT t]] ++ cr t.l ((t.l.getD []).map eT)) = some ([.row 0 7 26 [eT t]] ++ cr t.l ((t.l.getD []).map eT)) := cell_store_same h0 he rfl (honb _)
  have s5 : A.store 1 (.ptr 0 0 0 5) (cv 1 t.l) ([.row 0 7 26 [eT t]] ++ cr t.l ((t.l.getD []).map eT)) = some ([.row 0 7 26 [op t (cv 1 t.l)]] ++ cr t.l ((t.l.getD []).map eT)) := cell_store h0 he rfl (cv_one _ _)
  have hfe : A.fillElems 1 [AV.nilp] [(0, 1, .ptr 0 0 0 0)] = some [.ptr 0 0 0 0] := by simp [A.fillElems]
  obtain ⟨H8, hH8⟩ : ∃ H8 : Heap, H8 = [.row 0 7 26 [op t (cv 1 t.l)]] ++ cr t.l ((t.l.getD []).map eT) := ⟨_, rfl⟩
  rw [← hH8] at s5
  have hk : ∀ l, t.l = some l → (H8 ++ [.row 0 1 86 [.ptr 0 0 0 0]])[1]? = some (.row (cw l) 7 26 (l.map eT)) := fun l hl => by
    rw [hH8, hl]
    rfl
  have hz : (H8 ++ [.row 0 1 86 [.ptr 0 0 0 0]])[0]? = some (.row 0 7 26 [op t (cv 1 t.l)]) := by rw [hH8]; rfl
  have hH1 : 1 ≤ H8.length := by rw [hH8]; simp
  have hC : CInv t H8.length 0 1 [⟨0, 0, 0, t, 1⟩] (H8 ++ [.row 0 1 86 [.ptr 0 0 0 0]]) := by
    refine ⟨⟨_, hz, ?_⟩, ⟨[.ptr 0 0 0 0], by simp, rfl, by simp⟩, ?_, ?_, List.pairwise_singleton _ _, ?_⟩
    · cases hl : t.l with
      | none => exact .nil _ hl
      | some l =>
        refine .own _ l _ _ _ _ hl (hk l hl) (by simp) fun j hj => ?_
        rw [List.getElem_map]
        exact .imm _
    · intro e hee
      rw [List.mem_singleton] at hee
      rw [hee]
      exact ⟨_, hz, rfl, hk⟩
    · intro e hee ho
      rw [List.mem_singleton] at hee
      rw [hee] at ho ⊢
      obtain ⟨l, hl⟩ : ∃ l, t.l = some l := by
        cases hl : t.l with
        | none => exact absurd hl ho
        | some l => exact ⟨l, rfl⟩
      have : H8.length = 2 := by rw [hH8, hl]; rfl
      exact ⟨by show 1 ≠ H8.length; omega, by simp; omega, by show 1 ≠ 0; omega⟩
    · intro e hee f hf' _
      rw [List.mem_singleton] at hee hf'
      rw [hee, hf']
      show 0 ≠ 1
      omega
  obtain ⟨H', ⟨v, hv0, hv⟩, hL⟩ := cp_outer (t3 := .ptr 0 0 0 0) (c1 := [.int .i64 0, .bool false, .nils, .str [], .int .i64 0, .nils, .nils]) t.size _ _ _ _ (by simp [Tm.sizes]) hsz hC (fun e hee => by
    rw [List.mem_singleton] at hee
    rw [hee]
    exact hf)
  obtain ⟨v1, v2, v3, v4, v5⟩ := rd_seven hv
  have hld : A.load true 7 (.ptr 0 0 0 0) H' = some v := by
    simp only [A.load, A.elemAt, hv0]
    exact v3
  have hfz := rd_freeze 63 t v hsh hv
  refine Evs.withL hL (Evs.of fun n m h1 _ => ?_)
  have h1' : L44_0 (polT TCp) n n ⟨[.ptr 0 0 0 0, .sl H8.length 0 0 1 1], [[.int .i64 0, .bool false, .nils, .str [], .int .i64 0, .nils, .nils]]⟩ (H8 ++ [.row 0 1 86 [.ptr 0 0 0 0]]) = some (0, ⟨[.ptr 0 0 0 0], [[.int .i64 0, .bool false, .nils, .str [], .int .i64 0, .nils, .nils]]⟩, H') := h1
  generalize [.row 0 7 26 [eT t]] ++ cr t.l ((t.l.getD []).map eT) = H5 at *
  rw [cells_eT] at hof
  simp [↓bindV_eq, ↓bindC_eq, ↓bindH_eq, ↓withV_of, ↓withL_some, ↓withH_some, ↓bindX_some, ↓chkD_true, S44, hof, st0, k2, k6, k5, f2, s2, f6, s6, f5, s5, hfe, h1', hld, v1, v2, v3, v5, hfz]
end Go.Proofs.YtleikacgncpfbaaDoor

/- Terms: tuples and lists. -/
set_option maxRecDepth 100000
set_option maxHeartbeats 4000000
namespace Go.Proofs.YtleikacgncpfbaaDoor
open Go Go.Den
theorem shal_succ : ∀ (n : Nat) (t : Tm), shal n t → shal (n + 1) t
  | 0, _, h => by cases h
  | n + 1, _, h => fun u hu => shal_succ n u (h u hu)
theorem shal_le {n m : Nat} (h : n ≤ m) {t : Tm} (ht : shal n t) : shal m t := by
  induction h with
  | refl => exact ht
  | step _ ih => exact shal_succ _ _ ih
def tupT (l : List Tm) : Tm := .mk 4 false none [] 0 (nz l) none
def listT : List Tm → Tm
  | [] => .mk 5 false none [] 0 none none
  | x :: r => .mk 6 false none [] 0 (some [x, listT r]) none
theorem kids_tup (l : List Tm) : (tupT l).kids = l := nz_get l
theorem zero_one (w : AV) (hw : w.one = true) (k : Int) : A.fits 7 (.agg [.int .i64 k, .bool false, .nils, .str [], .int .i64 0, w, .nils]) = true := by
  show ((7 == 7) && [AV.int .i64 k, .bool false, .nils, .str [], .int .i64 0, w, .nils].all AV.one) = true
  simp only [List.all_cons, List.all_nil, hw]
  rfl
/-! ### a tuple -/
theorem out_rd {H : Heap} {v : AV} {l : List Tm} (h : Out eT 7 26 H v l) : Rd H (op (tupT l) v) (tupT l) := by
  rcases h with ⟨rfl, rfl⟩ | ⟨id, ver, h0, rfl, h2⟩
  · exact .nil _ rfl
  · have hl : (tupT l).l = some l := by
      show nz l = some l
      unfold nz
      rw [if_neg h0]
    refine .own _ l id ver _ (l.map eT) hl h2 (by simp) fun i hi => ?_
    rw [List.getElem_map]
    exact .imm _
theorem out_one {H : Heap} {v : AV} {l : List Tm} (h : Out eT 7 26 H v l) : v.one = true ∧ v.cells = [v] := by
  rcases h with ⟨-, rfl⟩ | ⟨_, _, -, rfl, -⟩ <;> exact ⟨rfl, rfl⟩
def partT (u : Tm) : Prop := copyT u ∧ shal 20 u
noncomputable abbrev TTup : List (FuncId × Pol) := [(44, pCopy)]
theorem tup_loop {o : Option (List Tm)} {c0 : List AV} (hall : ∀ u ∈ o.getD [], partT u) (hlen : (o.getD []).length ≤ 1000) : ∀ (k i : Nat) (v : AV) (H : Heap), i + k = (o.getD []).length → Out eT 7 26 H v ((o.getD []).take i) →
    ∃ v' H', LDoes (L38_0 (polT TTup)) ⟨[eL 7 eT o, .int .i64 ((o.getD []).length : Int), .int .i64 (i : Int)], [c0, [.int .i64 4, .bool false, .nils, .str [], .int .i64 0, v, .nils]]⟩ H 0 ⟨[], [c0, [.int .i64 4, .bool false, .nils, .str [], .int .i64 0, v', .nils]]⟩ H' ∧ Out eT 7 26 H' v' (o.getD []) := by
  intro k
  induction k with
  | zero =>
    intro i v H hi hO
    have : i = (o.getD []).length := by omega
    subst this
    rw [List.take_length] at hO
    refine ⟨v, H, LDoes.step (Evs.of fun n m => ?_), hO⟩
    simp [↓test_bool, ↓withV_of, L38_0_step]
  | succ k ih =>
    intro i v H hi hO
    have hlt : i < (o.getD []).length := by omega
    have hlt' : (i : Int) < ((o.getD []).length : Int) := by omega
    have hx : A.idx 7 (eL 7 eT o) (.int .i64 (i : Int)) H = some (.rop (eT (o.getD [])[i]).cells) := idx_eL (sz := 7) (e := eT) (o := o) (H := H) (k := .i64) (i := i) hlt
    have hld := load_eT (t := (o.getD [])[i]) (H := H)
    have hof : A.ofList true 7 (eT (o.getD [])[i]).cells 0 = some (eT (o.getD [])[i]) := load_eT (H := [])
    have hfit : A.fits 7 (eT (o.getD [])[i]) = true := by simp [A.fits]
    have hcl : (eT (o.getD [])[i]).cells.length = 7 := by rw [cells_eT]; rfl
    have hspl : A.splice [.int .i64 0, .bool false, .nils, .str [], .int .i64 0, .nils, .nils] 0 (eT (o.getD [])[i]).cells = (eT (o.getD [])[i]).cells := by rw [cells_eT]; rfl
    have hcp : ∀ (R : Type) (H : Heap) (k : AV → Heap → Option R), polQ pCopy [eT (o.getD [])[i]] H k = k (eT (o.getD [])[i]) H := fun R H k => qCopy (hall _ (List.getElem_mem hlt)).1
    obtain ⟨v1, H1, happ, hO1⟩ := hO.push (bytes := 112) (o.getD [])[i] (by omega) (by simp; omega)
    have ht : (o.getD []).take i ++ [(o.getD [])[i]] = (o.getD []).take (i + 1) := by rw [List.take_succ_eq_append_getElem hlt]
    rw [ht] at hO1
    obtain ⟨v', H', hL, hO'⟩ := ih (i + 1) v1 H1 (by omega) hO1
    obtain ⟨ho1, hc1⟩ := out_one hO1
    have hf1 : A.fits 1 v1 = true := by simp [A.fits, hc1, ho1]
    have hi1 : IntKind.wrap .i64 ((i : Int) + 1) = (i : Int) + 1 := wrap_i64 (by omega) (by omega)
    have hfe : A.fillElems 7 [.agg [.int .i64 0, .bool false, .nils, .str [], .int .i64 0, .nils, .nils]] [(0, 1, eT (o.getD [])[i])] = some [eT (o.getD [])[i]] := by simp [A.fillElems, cells_eT]
    have hrd : A.read 7 (.sl H.length 0 0 1 1) (H ++ [.row 0 7 26 [eT (o.getD [])[i]]]) = some [eT (o.getD [])[i]] := tmp_read
    have hsp1 : A.splice [.int .i64 4, .bool false, .nils, .str [], .int .i64 0, v, .nils] 5 [v1] = [.int .i64 4, .bool false, .nils, .str [], .int .i64 0, v1, .nils] := rfl
    have ho5 : A.ofList false 1 [.int .i64 4, .bool false, .nils, .str [], .int .i64 0, v, .nils] 5 = some v := rfl
    simp only [Int.natCast_add, Int.natCast_one] at hL
    refine ⟨v', H', LDoes.step (Evs.withL hL (Evs.of fun n m _ h2 => ?_)), hO'⟩
    generalize eT (o.getD [])[i] = x at *
    generalize ((o.getD []).length : Int) = N at *
    simp [↓test_bool, ↓bindV_eq, ↓bindC_eq, ↓bindH_eq, ↓withV_of, ↓withL_some, ↓withVH_some, ↓chkD_true, L38_0_step, hlt', hx, hld, hof, hfit, hcl, hspl, hcp, hfe, newsZ_sl ty_terms, hrd, happ, hf1, hc1, hsp1, hi1, h2]
def allP (o : Option (List Tm)) : Prop := (∀ u ∈ o.getD [], partT u) ∧ (o.getD []).length ≤ 1000
noncomputable def pTuple : Pol := .still (p1 cTs eT allP fun o => tupT (o.getD []))
theorem kTuple {R : Type} {o : Option (List Tm)} (h : allP o) {H : Heap} {k : AV → Heap → Option R} : polK pTuple [eL 7 eT o] H k = k (eT (tupT (o.getD []))) H := by
  simp [pTuple, polK_imm, h]
theorem okTuple : PolOK base 38 pTuple := still1 base_ok TTup ⟨okCopy, trivial⟩ fun o ⟨hall, hlen⟩ => by
  obtain ⟨v, H', hL, hO⟩ := tup_loop (c0 := [.int .i64 0, .bool false, .nils, .str [], .int .i64 0, .nils, .nils]) hall hlen (o.getD []).length 0 .nils [] (by omega) (by rw [List.take_zero]; exact .nil)
  have hln : A.len (eL 7 eT o) [] = some (.int .i64 ((o.getD []).length : Int)) := len_eL
  have hsh : shal 63 (tupT (o.getD [])) := fun u hu => by
    rw [kids_tup] at hu
    exact shal_le (n := 20) (m := 62) (by decide) (hall u hu).2
  have hfz : A.freezeB true 64 H' (.agg [.int .i64 4, .bool false, .nils, .str [], .int .i64 0, v, .nils]) = some (eT (tupT (o.getD []))) := rd_freeze 63 _ _ hsh (out_rd hO)
  obtain ⟨ho, -⟩ := out_one hO
  have hft := zero_one v ho 4
  refine Evs.withL hL (Evs.of fun n m h1 _ => ?_)
  simp only [Int.natCast_zero] at h1
  have hf0 : A.fits 7 (.agg [.int .i64 4, .bool false, .nils, .str [], .int .i64 0, .nils, .nils]) = true := rfl
  generalize ((o.getD []).length : Int) = N at *
  simp [↓bindC_eq, ↓withV_of, ↓bindX_some, ↓chkD_true, -len_eL, S38, A.fill, A.splice, hf0, hln, h1, A.ofList, hft, hfz]
end Go.Proofs.YtleikacgncpfbaaDoor

/- Terms: lists. -/
set_option maxRecDepth 100000
set_option maxHeartbeats 4000000
namespace Go.Proofs.YtleikacgncpfbaaDoor
open Go Go.Den
noncomputable def pNil : Pol := .still (Cd.f0 (eT (listT [])))
theorem okNil : PolOK base 47 pNil := still_of base_ok [] trivial fun zs v h => by
  unfold Cd.f0 at h
  split at h
  · cases h
    refine Evs.of fun n m => ?_
    have e : eT (listT []) = .agg [.int .i64 5, .bool false, .nils, .str [], .int .i64 0, .nils, .nils] := by rw [eT_eq]; rfl
    have hf0 : A.fits 7 (.agg [.int .i64 5, .bool false, .nils, .str [], .int .i64 0, .nils, .nils]) = true := rfl
    rw [e]
    simp [↓bindC_eq, ↓withV_of, ↓chkD_true, S47, A.fill, A.splice, hf0, A.ofList]
    rfl
  · cases h
theorem kNil {R : Type} {H : Heap} {k : AV → Heap → Option R} : polK pNil [] H k = k (eT (listT [])) H := by
  unfold pNil
  rw [polK_imm (by simp)]
  rfl
noncomputable abbrev TLst : List (FuncId × Pol) := [(47, pNil), (44, pCopy)]
theorem lst_loop {o : Option (List Tm)} {c0 : List AV} (hall : ∀ u ∈ o.getD [], partT u) (hlen : (o.getD []).length ≤ 1000) : ∀ (j : Nat) (z : Int) (w : AV) (H : Heap), z = (j : Int) - 1 → j ≤ (o.getD []).length → Rd H w (listT ((o.getD []).drop j)) →
    ∃ w' H', LDoes (L39_0 (polT TLst)) ⟨[eL 7 eT o, .int .i64 z], [c0, w.cells]⟩ H 0 ⟨[], [c0, w'.cells]⟩ H' ∧ Rd H' w' (listT (o.getD [])) := by
  intro j
  induction j with
  | zero =>
    intro z w H hz hj hR
    rw [List.drop_zero] at hR
    have hz' : ¬ 0 ≤ z := by omega
    refine ⟨w, H, LDoes.step (Evs.of fun n m => ?_), hR⟩
    generalize w.cells = wc at *
    simp [↓test_bool, ↓withV_of, L39_0_step, hz']
  | succ j ih =>
    intro z w H hz hj hR
    have hz' : 0 ≤ z := by omega
    have hlt : j < (o.getD []).length := by omega
    have hx : A.idx 7 (eL 7 eT o) (.int .i64 z) H = some (.rop (eT (o.getD [])[j]).cells) := by
      have : z = (j : Int) := by omega
      rw [this]
      exact idx_eL (sz := 7) (e := eT) (o := o) (H := H) (k := .i64) (i := j) hlt
    have hld := load_eT (t := (o.getD [])[j]) (H := H)
    have hcp : ∀ (R : Type) (H : Heap) (k : AV → Heap → Option R), polQ pCopy [eT (o.getD [])[j]] H k = k (eT (o.getD [])[j]) H := fun R H k => qCopy (hall _ (List.getElem_mem hlt)).1
    obtain ⟨v1, v2, v3, v4, v5⟩ := rd_seven hR
    have hfe : A.fillElems 7 [.agg [.int .i64 0, .bool false, .nils, .str [], .int .i64 0, .nils, .nils], .agg [.int .i64 0, .bool false, .nils, .str [], .int .i64 0, .nils, .nils]] [(0, 1, eT (o.getD [])[j]), (1, 1, w)] = some [eT (o.getD [])[j], w] := by
      have x1 : (eT (o.getD [])[j]).cells.length = 7 := by rw [cells_eT]; rfl
      have x2 : (eT (o.getD [])[j]).isDef = true := isDef_eT
      simp [-cells_eT, A.fillElems, x1, x2, v1, v4]
    have hR' : Rd (H ++ [.row 0 7 26 [eT (o.getD [])[j], w]]) (op (listT ((o.getD []).drop j)) (.sl H.length 0 0 2 2)) (listT ((o.getD []).drop j)) := by
      rw [List.drop_eq_getElem_cons hlt]
      refine .own _ [(o.getD [])[j], listT ((o.getD []).drop (j + 1))] H.length 0 2 [eT (o.getD [])[j], w] rfl (by simp) rfl fun i hi => ?_
      match i, hi with
      | 0, _ => exact .imm _
      | 1, _ => exact rd_push hR
    have hop : op (listT ((o.getD []).drop j)) (.sl H.length 0 0 2 2) = .agg [.int .i64 6, .bool false, .nils, .str [], .int .i64 0, .sl H.length 0 0 2 2, .nils] := by
      rw [List.drop_eq_getElem_cons hlt]
      rfl
    rw [hop] at hR'
    obtain ⟨w', H', hL, hR2⟩ := ih (z - 1) _ _ (by omega) (by omega) hR'
    have hcc : (AV.agg [.int .i64 6, .bool false, .nils, .str [], .int .i64 0, .sl H.length 0 0 2 2, .nils]).cells = [.int .i64 6, .bool false, .nils, .str [], .int .i64 0, .sl H.length 0 0 2 2, .nils] := rfl
    rw [hcc] at hL
    have hi1 : IntKind.wrap .i64 (z - 1) = z - 1 := wrap_i64 (by omega) (by omega)
    have hft := zero_one (.sl H.length 0 0 2 2) rfl 6
    refine ⟨w', H', LDoes.step (Evs.withL hL (Evs.of fun n m _ h2 => ?_)), hR2⟩
    generalize eT (o.getD [])[j] = x at *
    have hsp : A.splice w.cells 0 [.int .i64 6, .bool false, .nils, .str [], .int .i64 0, .sl H.length 0 0 2 2, .nils] = [.int .i64 6, .bool false, .nils, .str [], .int .i64 0, .sl H.length 0 0 2 2, .nils] := by
      unfold A.splice
      rw [List.take_zero, List.drop_of_length_le (by simp [v1])]
      simp
    have hfl : A.fill [.int .i64 0, .bool false, .nils, .str [], .int .i64 0, .nils, .nils] [(0, 1, .int .i64 6), (5, 1, .sl H.length 0 0 2 2)] = some [.int .i64 6, .bool false, .nils, .str [], .int .i64 0, .sl H.length 0 0 2 2, .nils] := by simp [A.fill, A.splice]
    simp [↓test_bool, ↓bindV_eq, ↓bindC_eq, ↓bindH_eq, ↓withV_of, ↓withL_some, ↓chkD_true, L39_0_step, hz', hx, hld, hcp, v3, hfe, hfl, hft, v1, hsp, hi1, h2]
def allL (o : Option (List Tm)) : Prop := (∀ u ∈ o.getD [], partT u) ∧ (o.getD []).length ≤ 40
theorem shal_list : ∀ l : List Tm, (∀ u ∈ l, shal 20 u) → shal (l.length + 21) (listT l)
  | [], _ => fun u hu => by simp [listT, Tm.kids, Tm.l] at hu
  | x :: r, h => fun u hu => by
    have ih := shal_list r fun u hu => h u (by simp [hu])
    have : u ∈ [x, listT r] := hu
    simp only [List.mem_cons, List.not_mem_nil, or_false] at this
    rcases this with rfl | rfl
    · exact shal_le (n := 20) (m := r.length + 21) (by omega) (h u (by simp))
    · exact ih
noncomputable def pList : Pol := .still (p1 cTs eT allL fun o => listT (o.getD []))
theorem kList {R : Type} {o : Option (List Tm)} (h : allL o) {H : Heap} {k : AV → Heap → Option R} : polK pList [eL 7 eT o] H k = k (eT (listT (o.getD []))) H := by
  simp [pList, polK_imm, h]
theorem okList : PolOK base 39 pList := still1 base_ok TLst ⟨okNil, okCopy, trivial⟩ fun o ⟨hall, hlen⟩ => by
  obtain ⟨w, H', hL, hR⟩ := lst_loop (c0 := [.int .i64 0, .bool false, .nils, .str [], .int .i64 0, .nils, .nils]) hall (by omega) (o.getD []).length (((o.getD []).length : Int) - 1) (eT (listT [])) [] rfl (Nat.le_refl _) (by rw [List.drop_length]; exact .imm _)
  have hln : A.len (eL 7 eT o) [] = some (.int .i64 ((o.getD []).length : Int)) := len_eL
  have hw1 : IntKind.wrap .i64 (((o.getD []).length : Int) - 1) = ((o.getD []).length : Int) - 1 := wrap_i64 (by omega) (by omega)
  have hsh : shal 63 (listT (o.getD [])) := shal_le (n := (o.getD []).length + 21) (m := 63) (by omega) (shal_list _ fun u hu => (hall u hu).2)
  obtain ⟨v1, v2, v3, v4, v5⟩ := rd_seven hR
  have hfz := rd_freeze 63 _ _ hsh hR
  have hcl : (eT (listT [])).cells = [.int .i64 5, .bool false, .nils, .str [], .int .i64 0, .nils, .nils] := by rw [cells_eT]; rfl
  have e0 : eT (listT []) = .agg [.int .i64 5, .bool false, .nils, .str [], .int .i64 0, .nils, .nils] := by rw [eT_eq]; rfl
  have hf0 : A.fits 7 (.agg [.int .i64 5, .bool false, .nils, .str [], .int .i64 0, .nils, .nils]) = true := rfl
  have hn : ∀ (R : Type) (H : Heap) (k : AV → Heap → Option R), polK pNil [] H k = k (.agg [.int .i64 5, .bool false, .nils, .str [], .int .i64 0, .nils, .nils]) H := fun R H k => by rw [kNil, e0]
  rw [hcl] at hL
  refine Evs.withL hL (Evs.of fun n m h1 _ => ?_)
  have hsp : A.splice [.int .i64 0, .bool false, .nils, .str [], .int .i64 0, .nils, .nils] 0 [.int .i64 5, .bool false, .nils, .str [], .int .i64 0, .nils, .nils] = [.int .i64 5, .bool false, .nils, .str [], .int .i64 0, .nils, .nils] := rfl
  generalize ((o.getD []).length : Int) = N at *
  simp [↓bindC_eq, ↓withV_of, ↓bindX_some, ↓chkD_true, -len_eL, S39, hn, hf0, hsp, hln, hw1, h1, v3, v2, v1, v5, hfz]
end Go.Proofs.YtleikacgncpfbaaDoor

/- The seat's first question: by computation. -/
set_option maxRecDepth 100000
namespace Go.Proofs.YtleikacgncpfbaaDoor.awake5
open Go Go.Den
def reached : List FuncId := [15, 17, 19, 21, 30, 31, 39, 44, 47, 54, 55, 56, 58, 59, 69, 71, 72, 73, 75, 77, 78, 79, 82, 83, 84, 97, 98, 99, 106]
noncomputable def env0 : Env := { P := Tryd.prog, pol := fun _ => .plain, ann := fun _ => {}, glob := fun g => bif Nat.beq g 0 then flatD (H := Unit) Rows.laid_unicode_utf8_first else bif Nat.beq g 1 then flatD (H := Unit) Rows.laid_unicode_utf8_acceptRanges else none }
def siteTable : List (Nat × List (Nat × Nat × Nat)) := []
def sitesIn : List (Nat × List (Nat × Nat × Nat)) → Nat → List (Nat × Nat × Nat)
  | [], _ => []
  | (g, l) :: r, f => bif Nat.beq g f then l else sitesIn r f
def annsIn (f : Nat) : Ann :=  .nil
noncomputable def tab (f : FuncId) : FAnn :=
  match Tryd.prog.funcs[f]? with
  | some fn => { ann := annsIn f, depth := Nat.log2 fn.ntmps + 1, sites := sitesIn siteTable f, draws := mkDraws env0 (sitesIn siteTable f) fn }
  | none => {}
noncomputable def env : Env := { env0 with ann := fun f => if f ∈ reached then tab f else {} }
theorem env_ok : EnvOK env := envOK reached (by kernel_rfl) (fun f hf => by show (if f ∈ reached then tab f else {}).draws = []; rw [if_neg hf]) (by kernel_rfl)
theorem prims_ok : ∀ f, env.pol f = .plain ∨ ∃ F, env.pol f = .prim F ∧ PrimOK env f F := fun f => by
  refine .inl ?_
  show ( Pol.plain) = _
  rfl
theorem calls_ok (n : Nat) : CallOK env (callF env n) := callF_prims env_ok (by kernel_rfl) prims_ok n
def saysTrue : Option AV → Bool
  | some (.bool true) => true
  | _ => false
theorem says_true {x : Option AV} (h : saysTrue x = true) : x = some (.bool true) := by
  unfold saysTrue at h
  split at h
  · rfl
  · cases h
theorem known : callF env 300 AV 15 [] [] (fun v G => A.freezeB true 64 G v) = some (.bool true) := says_true (by kernel_rfl)
end Go.Proofs.YtleikacgncpfbaaDoor.awake5
namespace Go.Proofs.YtleikacgncpfbaaDoor
open Go Go.Den
noncomputable def pAwake5 : Pol := .still (Cd.f0 (.bool true))
theorem okAwake5 : PolOK base 15 pAwake5 := pure_prim (E := base) (E' := awake5.env) rfl rfl awake5.calls_ok fun xs v h => by
  unfold Cd.f0 at h
  split at h
  · cases h
    exact ⟨300, awake5.known⟩
  · cases h
theorem kAwake5 {R : Type} {H : Heap} {k : AV → Heap → Option R} : polK pAwake5 [] H k = k (.bool true) H := by
  unfold pAwake5
  rw [polK_imm (by simp)]
  rfl
end Go.Proofs.YtleikacgncpfbaaDoor

/- Terms in a row: are they few and small; how many parts and words a tuple and a list have. -/
set_option maxRecDepth 100000
set_option maxHeartbeats 4000000
namespace Go.Proofs.YtleikacgncpfbaaDoor
open Go Go.Den
def roomsAll (l : List Tm) : Prop := ∀ u ∈ l, roomS u 8 40 = true ∧ mayS u = true
noncomputable def roomsS (o : Option (List Tm)) (most : Int) : Bool := decide (((o.getD []).length : Int) ≤ most) && (o.getD []).all fun u => roomS u 8 40 && mayS u
noncomputable abbrev TRms : List (FuncId × Pol) := [(16, pRoomA), (18, pRMayA)]
theorem rooms_loop {o : Option (List Tm)} (hlen : (o.getD []).length ≤ 1000) (H : Heap) : ∀ (k i : Nat), i + k = (o.getD []).length →
    LDoes (L24_0 (polT TRms)) ⟨[eL 7 eT o, .int .i64 (i : Int)], []⟩ H (if ((o.getD []).drop i).all (fun u => roomS u 8 40 && mayS u) then 0 else 1) ⟨[if ((o.getD []).drop i).all (fun u => roomS u 8 40 && mayS u) then .undef else .bool false], []⟩ H := by
  have hln : A.len (eL 7 eT o) H = some (.int .i64 ((o.getD []).length : Int)) := len_eL
  intro k
  induction k with
  | zero =>
    intro i hi
    have : i = (o.getD []).length := by omega
    subst this
    rw [List.drop_length]
    refine LDoes.step (Evs.of fun n m => ?_)
    generalize ((o.getD []).length : Int) = N at *
    simp [-len_eL, L24_0_step, hln]
  | succ k ih =>
    intro i hi
    have hlt : i < (o.getD []).length := by omega
    have hlt' : (i : Int) < ((o.getD []).length : Int) := by omega
    have hx : A.idx 7 (eL 7 eT o) (.int .i64 (i : Int)) H = some (.rop (eT (o.getD [])[i]).cells) := idx_eL (sz := 7) (e := eT) (o := o) (H := H) (k := .i64) (i := i) hlt
    have hld := load_eT (t := (o.getD [])[i]) (H := H)
    have hi1 : IntKind.wrap .i64 ((i : Int) + 1) = (i : Int) + 1 := wrap_i64 (by omega) (by omega)
    have hr : ∀ (R : Type) (H : Heap) (k : AV → Heap → Option R), polK pRoomA [eT (o.getD [])[i], .int .i64 8, .int .i64 40] H k = k (.bool (roomS (o.getD [])[i] 8 40)) H := fun R H k => kRoomA (by omega) (by omega) (by omega)
    have hL := ih (i + 1) (by omega)
    simp only [Int.natCast_add, Int.natCast_one] at hL
    rw [List.drop_eq_getElem_cons hlt, List.all_cons]
    generalize ((o.getD []).drop (i + 1)).all (fun u => roomS u 8 40 && mayS u) = rest at *
    cases hrm : roomS (o.getD [])[i] 8 40
    · rw [hrm] at hr
      refine LDoes.step (Evs.of fun n m => ?_)
      generalize eT (o.getD [])[i] = v at *
      generalize ((o.getD []).length : Int) = N at *
      simp [-len_eL, L24_0_step, hln, hlt', hx, hld, hr]
    · rw [hrm] at hr
      have hm : ∀ (R : Type) (H : Heap) (k : AV → Heap → Option R), polK pRMayA [eT (o.getD [])[i]] H k = k (.bool (mayS (o.getD [])[i])) H := fun R H k => kRMayA (room_tame (by omega) _ 8 hrm)
      cases hmy : mayS (o.getD [])[i]
      · rw [hmy] at hm
        refine LDoes.step (Evs.of fun n m => ?_)
        generalize eT (o.getD [])[i] = v at *
        generalize ((o.getD []).length : Int) = N at *
        simp [-len_eL, L24_0_step, hln, hlt', hx, hld, hr, hm]
      · rw [hmy] at hm
        refine LDoes.step (Evs.withL hL (Evs.of fun n m _ h2 => ?_))
        generalize eT (o.getD [])[i] = v at *
        generalize ((o.getD []).length : Int) = N at *
        simp [-len_eL, L24_0_step, hln, hlt', hx, hld, hr, hm, hi1, h2]
noncomputable def pRooms : Pol := .still (p2 cTs (cI .i64) .bool (fun _ most => most ≤ 1000) roomsS)
theorem kRooms {R : Type} {o : Option (List Tm)} {most : Int} (h : most ≤ 1000) {H : Heap} {k : AV → Heap → Option R} : polK pRooms [eL 7 eT o, .int .i64 most] H k = k (.bool (roomsS o most)) H := by
  simp [pRooms, polK_imm, h]
theorem okRooms : PolOK base 24 pRooms := still2 base_ok TRms ⟨okRoomA, okRMayA, trivial⟩ fun o most hm => by
  have hln : A.len (eL 7 eT o) [] = some (.int .i64 ((o.getD []).length : Int)) := len_eL
  unfold roomsS
  by_cases hc : ((o.getD []).length : Int) ≤ most
  · have hc' : ¬ most < ((o.getD []).length : Int) := by omega
    have hL := rooms_loop (o := o) (by omega) [] (o.getD []).length 0 (by omega)
    rw [List.drop_zero] at hL
    refine Evs.withL hL (Evs.of fun n m h1 _ => ?_)
    simp only [Int.natCast_zero] at h1
    generalize (o.getD []).all (fun u => roomS u 8 40 && mayS u) = w at *
    generalize ((o.getD []).length : Int) = N at *
    cases w <;> simp [↓test_bool, ↓bindV_eq, ↓withV_of, ↓bindX_some, -len_eL, S24, hln, hc, hc', h1]
  · have hc' : most < ((o.getD []).length : Int) := by omega
    generalize ((o.getD []).length : Int) = N at *
    exact Evs.of fun n m => by simp [↓test_bool, ↓withV_of, -len_eL, S24, hln, hc, hc']
theorem rooms_true {o : Option (List Tm)} {most : Int} (h : roomsS o most = true) : ((o.getD []).length : Int) ≤ most ∧ roomsAll (o.getD []) := by
  unfold roomsS at h
  simp only [Bool.and_eq_true, decide_eq_true_eq, List.all_eq_true] at h
  exact h
/-! ### a term that may be: as great as it has parts -/
theorem size_szT : ∀ t : Tm, mayT countV t = true → t.size = szT t := tm_ind fun t ih h => by
  rw [mayT_eq] at h
  simp only [Bool.and_eq_true, List.all_eq_true] at h
  obtain ⟨ho, hk⟩ := h
  have hl : ∀ l : List Tm, (∀ u ∈ l, u ∈ t.kids) → (∀ u ∈ l, mayT countV u = true) → Tm.sizes l = szs l := by
    intro l
    induction l with
    | nil => intro _ _; simp [Tm.sizes, szs]
    | cons u l ihl =>
      intro h1 h2
      rw [Tm.sizes, szs, ih u (h1 u (by simp)) (h2 u (by simp)), ihl (fun x hx => h1 x (by simp [hx])) fun x hx => h2 x (by simp [hx])]
  have hs : spareS t = true := by
    unfold oneS at ho
    simp only [Bool.and_eq_true] at ho
    exact ho.1
  rw [t.size_eq, szT_eq]
  congr 1
  unfold partsO
  unfold partsO at hk
  by_cases hc : t.kind = 4 ∨ t.kind = 6
  · rw [if_pos hc] at hk ⊢
    exact hl _ (fun u hu => hu) hk
  · rw [if_neg hc]
    have hz : t.kids.length = 0 := by
      unfold spareS at hs
      simp only [Bool.and_eq_true, Bool.or_eq_true, decide_eq_true_eq] at hs
      rcases hs.1.1.2 with h | h
      · exact absurd h hc
      · exact h
    rw [List.length_eq_zero_iff.1 hz]
    rfl
theorem room_fine {most : Int} (hm : most ≤ 1000) : ∀ t dep, roomS t dep most = true → fineT t := fun t => tm_ind (P := fun t => ∀ dep, roomS t dep most = true → fineT t) (fun t ih dep h => by
  rw [roomS_eq] at h
  simp only [Bool.and_eq_true, Bool.not_eq_true', Bool.or_eq_false_iff, decide_eq_false_iff_not, List.all_eq_true] at h
  obtain ⟨⟨⟨⟨⟨h1, h2⟩, h3⟩, h4⟩, h5⟩, h6⟩ := h
  exact fineT_eq.2 ⟨⟨by unfold few; omega, by unfold fewB; omega, by omega⟩, fun u hu => ih u hu _ (h6 u hu)⟩) t
theorem room_part {u : Tm} (h : roomS u 8 40 = true ∧ mayS u = true) : partT u := by
  have hm := h.2
  unfold mayS at hm
  simp only [Bool.and_eq_true, decide_eq_true_eq] at hm
  refine ⟨⟨room_fine (by omega) u 8 h.1, room_shal 63 u 8 (by omega) h.1, ?_⟩, room_shal 20 u 8 (by omega) h.1⟩
  rw [size_szT u hm.2]
  omega
theorem tame_tup {l : List Tm} (h : ∀ u ∈ l, tame u) (hl : l.length ≤ 1000) : tame (tupT l) := by
  rw [tame_eq, kids_tup]
  refine ⟨⟨by simp [tupT, Tm.d], by simp [tupT, Tm.name], by rw [kids_tup]; exact hl⟩, h⟩
theorem tame_list : ∀ {l : List Tm}, (∀ u ∈ l, tame u) → tame (listT l)
  | [], _ => by
    rw [tame_eq]
    exact ⟨⟨by simp [listT, Tm.d], by simp [listT, Tm.name], by simp [listT, Tm.kids, Tm.l]⟩, fun u hu => by simp [listT, Tm.kids, Tm.l] at hu⟩
  | x :: r, h => by
    rw [tame_eq]
    refine ⟨⟨by simp [listT, Tm.d], by simp [listT, Tm.name], by simp [listT, Tm.kids, Tm.l]⟩, fun u hu => ?_⟩
    have : u ∈ [x, listT r] := hu
    simp only [List.mem_cons, List.not_mem_nil, or_false] at this
    rcases this with rfl | rfl
    · exact h _ (by simp)
    · exact tame_list fun u hu => h u (by simp [hu])
end Go.Proofs.YtleikacgncpfbaaDoor

/- The law on the parts of tuples and lists: what its function answers. -/
set_option maxRecDepth 100000
set_option maxHeartbeats 8000000
namespace Go.Proofs.YtleikacgncpfbaaDoor
open Go Go.Den
noncomputable abbrev TLp : List (FuncId × Pol) := [(15, pAwake5), (24, pRooms), (20, pRtreeA), (22, pRwordsA), (38, pTuple), (39, pList), (19, pTree), (21, pWords), (17, pMay)]
theorem ty_terms_in {n : Nat} {v : AV} (h : Ty Tryd.prog n 23 v) : ∃ o : Option (List Tm), v = eL 7 eT o := by
  obtain ⟨m, es, hm, him, -, hes⟩ := h.slice (e := 26) (by kernel_rfl)
  obtain ⟨l, hl, -⟩ := map_of_all (f := eT) (p := fun _ => True) (es := es) fun x hx => by
    obtain ⟨t, ht⟩ := ty_tm m x (hes x hx)
    exact ⟨t, ht, trivial⟩
  have hc : Tryd.prog.cellsOf 26 = 7 := by kernel_rfl
  rw [hc] at him
  cases him with
  | nil => exact ⟨none, rfl⟩
  | sh _ =>
    subst hl
    exact ⟨some l, rfl⟩
end Go.Proofs.YtleikacgncpfbaaDoor

/- The reference's comparisons, of what is the same. -/
set_option maxRecDepth 100000
set_option maxHeartbeats 4000000
namespace Go.Proofs.YtleikacgncpfbaaDoor
open Go Go.Den
theorem bool_ty : base.P.underlying 4 = some .bool := by kernel_rfl
/-! ### two numbers -/
def ordI (x y : Int) : Int := if x < y then -1 else if y < x then 1 else 0
noncomputable def pOrd : Pol := .still (p2 (cI .i64) (cI .i64) (.int .i64) (fun _ _ => True) ordI)
theorem okOrd : PolOK base 64 pOrd := still2 base_ok [] trivial fun x y _ => by
  unfold ordI
  by_cases h1 : x < y
  · exact Evs.of fun n m => by simp [↓test_bool, ↓withV_of, S64, h1]
  · by_cases h2 : y < x
    · exact Evs.of fun n m => by simp [↓test_bool, ↓withV_of, S64, h1, h2]
    · exact Evs.of fun n m => by simp [↓test_bool, ↓withV_of, S64, h1, h2]
theorem kOrd {R : Type} {x y : Int} {H : Heap} {k : AV → Heap → Option R} : polK pOrd [.int .i64 x, .int .i64 y] H k = k (.int .i64 (ordI x y)) H := by
  simp [pOrd, polK_imm]
theorem ord_self (x : Int) : ordI x x = 0 := by unfold ordI; simp
/-! ### two rows of bytes -/
def sameB (a b : Option (List UInt8)) : Prop := a.getD [] = b.getD [] ∧ (a.getD []).length ≤ 1000000
noncomputable abbrev TByw : List (FuncId × Pol) := [(64, pOrd)]
theorem byw_loop {a b : Option (List UInt8)} (h : sameB a b) (H : Heap) : ∀ (k i : Nat), i + k = (a.getD []).length →
    LDoes (L67_0 (polT TByw)) ⟨[eL 1 eb a, eL 1 eb b, .int .i64 (i : Int)], []⟩ H 0 ⟨[eL 1 eb a, eL 1 eb b, .undef], []⟩ H := by
  obtain ⟨h1, h2⟩ := h
  have l1 : A.len (eL 1 eb a) H = some (.int .i64 ((a.getD []).length : Int)) := len_eL
  have l2 : A.len (eL 1 eb b) H = some (.int .i64 ((a.getD []).length : Int)) := by rw [len_eL, h1]
  intro k
  induction k with
  | zero =>
    intro i hi
    have : i = (a.getD []).length := by omega
    subst this
    refine LDoes.step (Evs.of fun n m => ?_)
    generalize ((a.getD []).length : Int) = N at *
    simp [-len_eL, L67_0_step, l1]
  | succ k ih =>
    intro i hi
    have hlt : i < (a.getD []).length := by omega
    have hlt' : (i : Int) < ((a.getD []).length : Int) := by omega
    have x1 : A.idx 1 (eL 1 eb a) (.int .i64 (i : Int)) H = some (.rop [.int .u8 ((a.getD [])[i]).toNat]) := idx_eL (sz := 1) (e := eb) (o := a) (H := H) (k := .i64) (i := i) hlt
    have x2 : A.idx 1 (eL 1 eb b) (.int .i64 (i : Int)) H = some (.rop [.int .u8 ((a.getD [])[i]).toNat]) := by
      have := idx_eL (sz := 1) (e := eb) (o := b) (H := H) (k := .i64) (i := i) (by rw [← h1]; exact hlt)
      rw [this]
      simp only [h1]
      rfl
    have hi1 : IntKind.wrap .i64 ((i : Int) + 1) = (i : Int) + 1 := wrap_i64 (by omega) (by omega)
    have hL := ih (i + 1) (by omega)
    simp only [Int.natCast_add, Int.natCast_one] at hL
    refine LDoes.step (Evs.withL hL (Evs.of fun n m _ h3 => ?_))
    generalize (((a.getD [])[i]).toNat : Int) = z at *
    generalize ((a.getD []).length : Int) = N at *
    simp [-len_eL, L67_0_step, l1, l2, hlt', x1, x2, hi1, h3]
noncomputable def pByw : Pol := .still (p2 cBy cBy (.int .i64) sameB fun _ _ => 0)
theorem kByw {R : Type} {a b : Option (List UInt8)} (h : sameB a b) {H : Heap} {k : AV → Heap → Option R} : polK pByw [eL 1 eb a, eL 1 eb b] H k = k (.int .i64 0) H := by
  simp [pByw, polK_imm, h]
theorem okByw : PolOK base 67 pByw := still2 base_ok TByw ⟨okOrd, trivial⟩ fun a b h => by
  have hL := byw_loop h [] (a.getD []).length 0 (by omega)
  have l1 : A.len (eL 1 eb a) [] = some (.int .i64 ((a.getD []).length : Int)) := len_eL
  have l2 : A.len (eL 1 eb b) [] = some (.int .i64 ((a.getD []).length : Int)) := by rw [len_eL, h.1]
  refine Evs.withL hL (Evs.of fun n m h1 _ => ?_)
  simp only [Int.natCast_zero] at h1
  generalize ((a.getD []).length : Int) = N at *
  simp [↓bindV_eq, ↓withV_of, ↓bindX_some, -len_eL, S67, h1, l1, l2, kOrd, ord_self]
/-! ### limbs -/
def sameD (a b : Option (List UInt32)) : Prop := a.getD [] = b.getD [] ∧ (a.getD []).length ≤ 1000000
theorem mags_loop {a b : Option (List UInt32)} (h : sameD a b) (H : Heap) : ∀ (j : Nat) (z : Int), z = (j : Int) - 1 → j ≤ (a.getD []).length →
    LDoes (L92_0 (polT TByw)) ⟨[eD a, eD b, .int .i64 z], []⟩ H 0 ⟨[.undef], []⟩ H := by
  obtain ⟨h1, h2⟩ := h
  intro j
  induction j with
  | zero =>
    intro z hz _
    have hz' : ¬ 0 ≤ z := by omega
    exact LDoes.step (Evs.of fun n m => by simp [↓test_bool, ↓withV_of, L92_0_step, hz'])
  | succ j ih =>
    intro z hz hj
    have hz' : 0 ≤ z := by omega
    have hzj : z = (j : Int) := by omega
    have x1 : A.idx 1 (eD a) (.int .i64 z) H = some (.rop [.int .u32 ((a.getD [])[j]'(by omega)).toNat]) := by
      rw [hzj]
      exact idx_eD (by omega)
    have x2 : A.idx 1 (eD b) (.int .i64 z) H = some (.rop [.int .u32 ((a.getD [])[j]'(by omega)).toNat]) := by
      rw [hzj, idx_eD (by rw [← h1]; omega)]
      simp only [h1]
    have hi1 : IntKind.wrap .i64 (z - 1) = z - 1 := wrap_i64 (by omega) (by omega)
    have hL := ih (z - 1) (by omega) (by omega)
    refine LDoes.step (Evs.withL hL (Evs.of fun n m _ h3 => ?_))
    generalize (((a.getD [])[j]'(by omega)).toNat : Int) = y at *
    simp [↓test_bool, ↓withV_of, L92_0_step, hz', x1, x2, hi1, h3]
noncomputable def pMags0 : Pol := .still (p2 cD cD (.int .i64) sameD fun _ _ => 0)
theorem kMags0 {R : Type} {a b : Option (List UInt32)} (h : sameD a b) {H : Heap} {k : AV → Heap → Option R} : polK pMags0 [eD a, eD b] H k = k (.int .i64 0) H := by
  simp [pMags0, polK_imm, h]
theorem okMags0 : PolOK base 92 pMags0 := still2 base_ok TByw ⟨okOrd, trivial⟩ fun a b h => by
  have hL := mags_loop h [] (a.getD []).length (((a.getD []).length : Int) - 1) rfl (Nat.le_refl _)
  have l1 : A.len (eD a) [] = some (.int .i64 ((a.getD []).length : Int)) := len_eL
  have l2 : A.len (eD b) [] = some (.int .i64 ((a.getD []).length : Int)) := by
    have : A.len (eD b) [] = some (.int .i64 ((b.getD []).length : Int)) := len_eL
    rw [this, h.1]
  have hw : IntKind.wrap .i64 (((a.getD []).length : Int) - 1) = ((a.getD []).length : Int) - 1 := wrap_i64 (by omega) (by have := h.2; omega)
  refine Evs.withL hL (Evs.of fun n m h1 _ => ?_)
  generalize ((a.getD []).length : Int) = N at *
  simp [↓test_bool, ↓bindV_eq, ↓withV_of, ↓bindX_some, -len_eL, S92, l1, l2, hw, h1]
/-! ### numbers -/
def sameN (a b : Nm) : Prop := a.1 = b.1 ∧ a.2.getD [] = b.2.getD [] ∧ (a.2.getD []).length ≤ 1000000
noncomputable def pCmpN : Pol := .still (p2 cN cN (.int .i64) sameN fun _ _ => 0)
theorem kCmpN {R : Type} {a b : Nm} (h : sameN a b) {H : Heap} {k : AV → Heap → Option R} : polK pCmpN [eN a, eN b] H k = k (.int .i64 0) H := by
  simp [pCmpN, polK_imm, h]
theorem okCmpN : PolOK base 65 pCmpN := still2 base_ok [(35, pRnorm), (92, pMags0)] ⟨okRnorm, okMags0, trivial⟩ fun a b ⟨h1, h2, h3⟩ => by
  have fa : few a.2 := h3
  have fb : few b.2 := by unfold few; rw [← h2]; exact h3
  have q1 : ∀ (R : Type) (H : Heap) (k : AV → Heap → Option R), polQ pRnorm [eN a] H k = k (eN (rnormS a)) H := fun R H k => qRnorm fa
  have q2 : ∀ (R : Type) (H : Heap) (k : AV → Heap → Option R), polQ pRnorm [eN b] H k = k (eN (rnormS b)) H := fun R H k => qRnorm fb
  have e : rnormS a = rnormS b := by unfold rnormS; rw [h1, h2]
  have hl := few_rnorm fa
  rw [← e] at q2
  generalize rnormS a = r at *
  obtain ⟨r1, r2⟩ := r
  have hm : ∀ (R : Type) (H : Heap) (k : AV → Heap → Option R), polK pMags0 [eD r2, eD r2] H k = k (.int .i64 0) H := fun R H k => kMags0 ⟨rfl, hl⟩
  have hone : ∀ d : Option (List UInt32), [AV.bool r1, eD d].all AV.one = true := fun d => by cases d <;> rfl
  have hf : A.fits 2 (.agg [.bool r1, eD r2]) = true := by
    show ((2 == 2) && [AV.bool r1, eD r2].all AV.one) = true
    rw [hone]
    rfl
  have hneq : ∀ H, A.bin base.P .neq 4 (.bool r1) (.bool r1) false H = some (.bool false) := fun H => by simp [A.bin, bool_ty]
  have hw0 : IntKind.wrap .i64 0 = 0 := rfl
  refine Evs.of fun n m => ?_
  cases r1 <;> simp [↓test_bool, ↓bindC_eq, ↓withV_of, ↓chkD_true, S65, hw0, q1, q2, hf, A.splice, hneq, hm, A.ofList, A.un]
end Go.Proofs.YtleikacgncpfbaaDoor

/- The reference's comparison of two texts, of what is the same. -/
set_option maxRecDepth 100000
set_option maxHeartbeats 4000000
namespace Go.Proofs.YtleikacgncpfbaaDoor
open Go Go.Den
theorem ty_str : base.P.underlying 9 = some .string := by kernel_rfl
theorem ty_u8 : base.P.underlying 5 = some (.int .u8) := by kernel_rfl
theorem ty_i32 : base.P.underlying 21 = some (.int .i32) := by kernel_rfl
theorem ty_runes : base.P.underlying 98 = some (.slice 21) := by kernel_rfl
theorem conv_bytes {R : Type} {s : List UInt8} (h : s.length ≤ 1000000) {H : Heap} {k : AV → Heap → Option R} : convertK base 9 24 (.str s) H k = k (.sl H.length 0 0 s.length s.length) (H ++ [.row 0 1 5 (s.map eb)]) := by
  have h1 : Go.Den.convert base 9 24 (.str s) = none := by
    unfold Go.Den.convert
    rw [ty_str, ty_bytes]
  have h2 : convH base 9 24 (.str s) H = none := by
    unfold convH
    rw [ty_str, ty_bytes]
  have h3 : convN base 9 24 (.str s) H = some (.sl H.length 0 0 s.length s.length, H ++ [.row 0 1 5 (s.map eb)]) := by
    unfold convN
    rw [ty_str, ty_bytes]
    dsimp only
    rw [ty_u8]
    have : decide (s.length ≤ 140737488355328) = true := by simp; omega
    dsimp only
    rw [this]
    simp [A.newRow, A.strElems]
  unfold convertK
  rw [h1, h2, h3]
def runesIn (s : List UInt8) : List Int := runeL ⟨s.toArray⟩ s.length 0
theorem runes_len (s : List UInt8) : (runesIn s).length ≤ s.length := runeL_len _ _ _
theorem conv_runes {R : Type} {s : List UInt8} (h : s.length ≤ 1000000) {H : Heap} {k : AV → Heap → Option R} : convertK base 9 98 (.str s) H k = k (.sl H.length 0 0 (runesIn s).length (runesIn s).length) (H ++ [.row 0 1 21 ((runesIn s).map (AV.int .i32))]) := by
  have h1 : Go.Den.convert base 9 98 (.str s) = none := by
    unfold Go.Den.convert
    rw [ty_str, ty_runes]
  have h2 : convH base 9 98 (.str s) H = none := by
    unfold convH
    rw [ty_str, ty_runes]
  have h3 : convN base 9 98 (.str s) H = some (.sl H.length 0 0 (runesIn s).length (runesIn s).length, H ++ [.row 0 1 21 ((runesIn s).map (AV.int .i32))]) := by
    unfold convN
    rw [ty_str, ty_runes]
    dsimp only
    rw [ty_i32]
    have : decide (s.length ≤ 70368744177664) = true := by simp; omega
    dsimp only
    rw [this]
    simp [A.newRow, runesIn]
  unfold convertK
  rw [h1, h2, h3]
noncomputable abbrev TLess : List (FuncId × Pol) := [(80, pRvalid), (67, pByw), (64, pOrd)]
theorem less_loop {L : List Int} {H : Heap} (h0 : H[0]? = some (.row 0 1 21 (L.map (AV.int .i32)))) (h1 : H[1]? = some (.row 0 1 21 (L.map (AV.int .i32)))) (hl : L.length ≤ 1000000) : ∀ (k i : Nat), i + k = L.length →
    LDoes (L66_0 (polT TLess)) ⟨[.sl 0 0 0 L.length L.length, .sl 1 0 0 L.length L.length, .int .i64 (i : Int)], []⟩ H 0 ⟨[.undef, .sl 0 0 0 L.length L.length, .sl 1 0 0 L.length L.length], []⟩ H := by
  have l0 : A.len (.sl 0 0 0 L.length L.length) H = some (.int .i64 (L.length : Int)) := by simp [A.len, A.alive, h0]
  have l1 : A.len (.sl 1 0 0 L.length L.length) H = some (.int .i64 (L.length : Int)) := by simp [A.len, A.alive, h1]
  intro k
  induction k with
  | zero =>
    intro i hi
    have : i = L.length := by omega
    subst this
    refine LDoes.step (Evs.of fun n m => ?_)
    generalize (L.length : Int) = N at *
    simp [↓test_bool, ↓withV_of, ↓withP_some, ↓withB_some, L66_0_step, l0]
  | succ k ih =>
    intro i hi
    have hlt : i < L.length := by omega
    have hlt' : (i : Int) < (L.length : Int) := by omega
    have x0 : A.idx 1 (.sl 0 0 0 L.length L.length) (.int .i64 (i : Int)) H = some (.ptr 0 0 i 0) := by
      have := row_idx (cap := L.length) (off := 0) (k := .i64) h0 (i := (i : Int)) (n := L.length) (by omega) hlt'
      simpa using this
    have x1 : A.idx 1 (.sl 1 0 0 L.length L.length) (.int .i64 (i : Int)) H = some (.ptr 1 0 i 0) := by
      have := row_idx (cap := L.length) (off := 0) (k := .i64) h1 (i := (i : Int)) (n := L.length) (by omega) hlt'
      simpa using this
    have y0 : A.load false 1 (.ptr 0 0 i 0) H = some (.int .i32 L[i]) := row_load h0 (by simp [hlt]) rfl
    have y1 : A.load false 1 (.ptr 1 0 i 0) H = some (.int .i32 L[i]) := row_load h1 (by simp [hlt]) rfl
    have hi1 : IntKind.wrap .i64 ((i : Int) + 1) = (i : Int) + 1 := wrap_i64 (by omega) (by omega)
    have hL := ih (i + 1) (by omega)
    simp only [Int.natCast_add, Int.natCast_one] at hL
    refine LDoes.step (Evs.withL hL (Evs.of fun n m _ h3 => ?_))
    generalize L[i] = z at *
    generalize (L.length : Int) = N at *
    simp [↓test_bool, ↓withV_of, ↓withP_some, ↓withB_some, L66_0_step, l0, l1, hlt', x0, x1, y0, y1, hi1, h3]
noncomputable def pLess0 : Pol := .still (p2 cS cS (.int .i64) (fun a b => a = b ∧ notlong a) fun _ _ => 0)
theorem kLess0 {R : Type} {s : List UInt8} (h : notlong s) {H : Heap} {k : AV → Heap → Option R} : polK pLess0 [.str s, .str s] H k = k (.int .i64 0) H := by
  simp [pLess0, polK_imm, h]
theorem okLess0 : PolOK base 66 pLess0 := still2 base_ok TLess ⟨okRvalid, okByw, okOrd, trivial⟩ fun s b ⟨e, hs⟩ => by
  subst e
  unfold notlong at hs
  have c1 : ∀ (R : Type) (H : Heap) (k : AV → Heap → Option R), convertK base 9 24 (.str s) H k = k (.sl H.length 0 0 s.length s.length) (H ++ [.row 0 1 5 (s.map eb)]) := fun R H k => conv_bytes hs
  have c2 : ∀ (R : Type) (H : Heap) (k : AV → Heap → Option R), convertK base 9 98 (.str s) H k = k (.sl H.length 0 0 (runesIn s).length (runesIn s).length) (H ++ [.row 0 1 21 ((runesIn s).map (AV.int .i32))]) := fun R H k => conv_runes hs
  cases hv : validV s
  · have hf0 : A.freezeB true 64 [.row 0 1 5 (s.map eb), .row 0 1 5 (s.map eb)] (.sl 0 0 0 s.length s.length) = some (eL 1 eb (some s)) := freeze_row (b := true) (m := 62) (es := s.map eb) rfl (by simp) (flat_bytes _)
    have hf1 : A.freezeB true 64 [.row 0 1 5 (s.map eb), .row 0 1 5 (s.map eb)] (.sl 1 0 0 s.length s.length) = some (eL 1 eb (some s)) := freeze_row (b := true) (m := 62) (es := s.map eb) rfl (by simp) (flat_bytes _)
    have hfa : freezeAll [.row 0 1 5 (s.map eb), .row 0 1 5 (s.map eb)] [.sl 0 0 0 s.length s.length, .sl 1 0 0 s.length s.length] = some [eL 1 eb (some s), eL 1 eb (some s)] := freezeAll_cons hf0 (freezeAll_cons hf1 rfl)
    have hb : ∀ (R : Type) (k : AV → Heap → Option R), polK pByw [.sl 0 0 0 s.length s.length, .sl 1 0 0 s.length s.length] [.row 0 1 5 (s.map eb), .row 0 1 5 (s.map eb)] k = k (.int .i64 0) [.row 0 1 5 (s.map eb), .row 0 1 5 (s.map eb)] := fun R k => by
      have hsb : sameB (some s) (some s) := ⟨rfl, hs⟩
      unfold pByw
      rw [polK_frz hfa]
      simp [hsb]
      rfl
    refine Evs.of fun n m => ?_
    simp [↓test_bool, ↓bindV_eq, ↓withV_of, ↓withP_some, ↓withB_some, S66, kRvalid, hv, c1, hb]
  · have hl := runes_len s
    have hL := less_loop (L := runesIn s) (H := [.row 0 1 21 ((runesIn s).map (AV.int .i32)), .row 0 1 21 ((runesIn s).map (AV.int .i32))]) rfl rfl (by omega) (runesIn s).length 0 (by omega)
    have l0 : A.len (.sl 0 0 0 (runesIn s).length (runesIn s).length) [.row 0 1 21 ((runesIn s).map (AV.int .i32)), .row 0 1 21 ((runesIn s).map (AV.int .i32))] = some (.int .i64 ((runesIn s).length : Int)) := rfl
    have l1 : A.len (.sl 1 0 0 (runesIn s).length (runesIn s).length) [.row 0 1 21 ((runesIn s).map (AV.int .i32)), .row 0 1 21 ((runesIn s).map (AV.int .i32))] = some (.int .i64 ((runesIn s).length : Int)) := rfl
    refine Evs.withL hL (Evs.of fun n m h1 _ => ?_)
    simp only [Int.natCast_zero] at h1
    generalize ((runesIn s).length : Int) = N at *
    simp [↓test_bool, ↓bindV_eq, ↓withV_of, ↓withP_some, ↓withB_some, ↓bindX_some, S66, kRvalid, hv, c2, h1, l0, l1, kOrd, ord_self]
end Go.Proofs.YtleikacgncpfbaaDoor

/- The reference's comparison of two terms, of what is the same. -/
set_option maxRecDepth 100000
set_option maxHeartbeats 8000000
namespace Go.Proofs.YtleikacgncpfbaaDoor
open Go Go.Den
mutual
def canonT : Tm → Tm
  | .mk k x d s n l b => .mk k x (nz (d.getD [])) s n (canonO l) (nz (b.getD []))
def canonO : Option (List Tm) → Option (List Tm)
  | none => none
  | some l => nz (canons l)
def canons : List Tm → List Tm
  | [] => []
  | t :: l => canonT t :: canons l
end
theorem canons_map : ∀ l : List Tm, canons l = l.map canonT
  | [] => by simp [canons]
  | t :: l => by rw [canons, canons_map l]; rfl
theorem canonT_eq (t : Tm) : canonT t = .mk t.kind t.neg (nz (t.d.getD [])) t.name t.n (nz (t.kids.map canonT)) (nz (t.b.getD [])) := by
  cases t with
  | mk k x d s n l b =>
    rw [canonT]
    cases l with
    | none => rw [canonO]; rfl
    | some l => rw [canonO, canons_map]; rfl
theorem nz_inj {α : Type} {a b : List α} (h : nz a = nz b) : a = b := by
  rw [← nz_get a, h, nz_get]
structure SameT (a b : Tm) : Prop where
  kind : a.kind = b.kind
  neg : a.neg = b.neg
  d : a.d.getD [] = b.d.getD []
  name : a.name = b.name
  n : a.n = b.n
  kids : a.kids.map canonT = b.kids.map canonT
  b : a.b.getD [] = b.b.getD []
theorem canon_same {a b : Tm} (h : canonT a = canonT b) : SameT a b := by
  rw [canonT_eq, canonT_eq] at h
  injection h with h1 h2 h3 h4 h5 h6 h7
  exact ⟨h1, h2, nz_inj h3, h4, h5, nz_inj h6, nz_inj h7⟩
theorem kids_get {a b : Tm} (h : a.kids.map canonT = b.kids.map canonT) {i : Nat} (hi : i < a.kids.length) : ∃ hj : i < b.kids.length, canonT a.kids[i] = canonT (b.kids[i]'hj) := by
  have hl := congrArg List.length h
  simp only [List.length_map] at hl
  refine ⟨by omega, ?_⟩
  have := congrArg (fun l => l[i]?) h
  simp only [List.getElem?_map, List.getElem?_eq_getElem hi, List.getElem?_eq_getElem (show i < b.kids.length by omega), Option.map_some] at this
  injection this
def likeT (a b : Tm) : Prop := tame a ∧ fineT a ∧ canonT a = canonT b
noncomputable def pCpt (n : Nat) : Pol := .still (p2 cT cT (.int .i64) (fun a b => a.size ≤ n ∧ likeT a b) fun _ _ => 0)
theorem qCpt {n : Nat} {R : Type} {a b : Tm} (h : a.size ≤ n) (h2 : likeT a b) {H : Heap} {k : AV → Heap → Option R} : polQ (pCpt n) [eT a, eT b] H k = k (.int .i64 0) H := by
  simp [pCpt, polQ_imm, h, h2]
noncomputable abbrev TCpt (n : Nat) : List (FuncId × Pol) := [(26, pCpt n), (64, pOrd), (65, pCmpN), (66, pLess0), (67, pByw)]
theorem cmp_loop {n : Nat} {a b : Tm} (hs : a.size ≤ n + 1) (h : likeT a b) (H : Heap) : ∀ (k i : Nat), i + k = a.kids.length →
    LDoes (L26_0 (polT (TCpt n))) ⟨[.int .i64 (i : Int)], [(eT a).cells, (eT b).cells]⟩ H 0 ⟨[.undef], []⟩ H := by
  obtain ⟨h1, h2, h3⟩ := h
  have hsm := canon_same h3
  have la : A.len (eL 7 eT a.l) H = some (.int .i64 ((a.kids.length : Nat) : Int)) := len_eL
  have oa : A.ofList false 1 (eT a).cells 5 = some (eL 7 eT a.l) := by rw [cells_eT]; rfl
  have ob : A.ofList false 1 (eT b).cells 5 = some (eL 7 eT b.l) := by rw [cells_eT]; rfl
  have hl : a.kids.length ≤ 1000 := (tame_eq.1 h1).1.2.2
  intro k
  induction k with
  | zero =>
    intro i hi
    have : i = a.kids.length := by omega
    subst this
    refine LDoes.step (Evs.of fun n m => ?_)
    generalize (eT a).cells = ca at *
    generalize (eT b).cells = cb at *
    generalize (a.kids.length : Int) = N at *
    simp [-len_eL, L26_0_step, oa, la]
  | succ k ih =>
    intro i hi
    have hlt : i < a.kids.length := by omega
    have hlt' : (i : Int) < (a.kids.length : Int) := by omega
    obtain ⟨hj, hc⟩ := kids_get hsm.kids hlt
    have hmem : a.kids[i] ∈ a.kids := List.getElem_mem hlt
    have xa : A.idx 7 (eL 7 eT a.l) (.int .i64 (i : Int)) H = some (.rop (eT a.kids[i]).cells) := idx_eL (sz := 7) (e := eT) (o := a.l) (H := H) (k := .i64) (i := i) hlt
    have xb : A.idx 7 (eL 7 eT b.l) (.int .i64 (i : Int)) H = some (.rop (eT b.kids[i]).cells) := idx_eL (sz := 7) (e := eT) (o := b.l) (H := H) (k := .i64) (i := i) hj
    have da := load_eT (t := a.kids[i]) (H := H)
    have db := load_eT (t := b.kids[i]) (H := H)
    have hsz : (a.kids[i]).size ≤ n := by
      have := Tm.size_kid (t := a) (u := a.kids[i]) hmem
      omega
    have hr : ∀ (R : Type) (H : Heap) (k : AV → Heap → Option R), polQ (pCpt n) [eT a.kids[i], eT b.kids[i]] H k = k (.int .i64 0) H := fun R H k => qCpt hsz ⟨(tame_eq.1 h1).2 _ hmem, (fineT_eq.1 h2).2 _ hmem, hc⟩
    have hi1 : IntKind.wrap .i64 ((i : Int) + 1) = (i : Int) + 1 := wrap_i64 (by omega) (by omega)
    have hL := ih (i + 1) (by omega)
    simp only [Int.natCast_add, Int.natCast_one] at hL
    refine LDoes.step (Evs.withL hL (Evs.of fun n m _ h3 => ?_))
    generalize (eT a).cells = ca at *
    generalize (eT b).cells = cb at *
    generalize eT a.kids[i] = va at *
    generalize eT b.kids[i] = vb at *
    generalize (a.kids.length : Int) = N at *
    simp [-len_eL, L26_0_step, oa, ob, la, hlt', xa, xb, da, db, hr, hi1, h3]
theorem okCpt : ∀ n, PolOK base 26 (pCpt n)
  | 0 => still2 base_ok [] trivial fun a b ⟨hs, _⟩ => by
    have := a.size_eq
    omega
  | n + 1 => still2 base_ok (TCpt n) ⟨okCpt n, okOrd, okCmpN, okLess0, okByw, trivial⟩ fun a b ⟨hs, h⟩ => by
    have hL := cmp_loop hs h [] a.kids.length 0 (by omega)
    obtain ⟨h1, h2, h3⟩ := h
    have hsm := canon_same h3
    have hf := (fineT_eq.1 h2).1
    have ht := (tame_eq.1 h1).1
    have hla : A.len (eL 7 eT a.l) [] = some (.int .i64 ((a.kids.length : Nat) : Int)) := len_eL
    have hlb : A.len (eL 7 eT b.l) [] = some (.int .i64 ((a.kids.length : Nat) : Int)) := by
      have e := congrArg List.length hsm.kids
      simp only [List.length_map] at e
      have : A.len (eL 7 eT b.l) [] = some (.int .i64 ((b.kids.length : Nat) : Int)) := len_eL
      rw [this, e]
    have k0 : ∀ (R : Type) (H : Heap) (k : AV → Heap → Option R), polK pCmpN [.agg [.bool a.neg, eD a.d], .agg [.bool b.neg, eD b.d]] H k = k (.int .i64 0) H := fun R H k => kCmpN (a := (a.neg, a.d)) (b := (b.neg, b.d)) ⟨hsm.neg, hsm.d, hf.1⟩
    have k1 : ∀ (R : Type) (H : Heap) (k : AV → Heap → Option R), polK pLess0 [.str a.name, .str b.name] H k = k (.int .i64 0) H := fun R H k => by rw [← hsm.name]; exact kLess0 ht.2.1
    have k2 : ∀ (R : Type) (H : Heap) (k : AV → Heap → Option R), polK pOrd [.int .i64 a.n, .int .i64 b.n] H k = k (.int .i64 0) H := fun R H k => by rw [kOrd, ← hsm.n, ord_self]
    have k7 : ∀ (R : Type) (H : Heap) (k : AV → Heap → Option R), polK pByw [eL 1 eb a.b, eL 1 eb b.b] H k = k (.int .i64 0) H := fun R H k => kByw ⟨hsm.b, hf.2.1⟩
    have fa : A.fill [.bool false, .nils] [(0, 1, .bool a.neg), (1, 1, eD a.d)] = some [.bool a.neg, eD a.d] := by simp [A.fill, A.splice]
    have fb : A.fill [.bool false, .nils] [(0, 1, .bool b.neg), (1, 1, eD b.d)] = some [.bool b.neg, eD b.d] := by simp [A.fill, A.splice]
    have hkb := hsm.kind
    refine Evs.withL hL (Evs.of fun n m hl _ => ?_)
    simp only [Int.natCast_zero] at hl
    rw [cells_eT, cells_eT, ← hkb] at hl
    have hkb' : b.kind = a.kind := hkb.symm
    clear hkb
    generalize (a.kids.length : Int) = N at *
    by_cases c0 : a.kind = 0
    · rw [c0] at hkb'
      simp [↓test_bool, ↓bindC_eq, ↓withV_of, ↓chkD_true, -len_eL, S26, c0, hkb', fa, fb, k0]
    by_cases c1 : a.kind = 1
    · rw [c1] at hkb'
      simp [↓test_bool, ↓bindC_eq, ↓withV_of, ↓chkD_true, -len_eL, S26, c1, hkb', k1]
    by_cases c2 : a.kind = 2
    · rw [c2] at hkb'
      simp [↓test_bool, ↓bindV_eq, ↓bindC_eq, ↓withV_of, ↓bindX_some, ↓chkD_true, -len_eL, S26, c2, hkb', k2]
    by_cases c3 : a.kind = 3
    · rw [c3] at hkb'
      simp [↓test_bool, ↓bindV_eq, ↓bindC_eq, ↓withV_of, ↓bindX_some, ↓chkD_true, -len_eL, S26, c3, hkb', k2]
    by_cases c7 : a.kind = 7
    · rw [c7] at hkb'
      simp [↓test_bool, ↓bindV_eq, ↓bindC_eq, ↓withV_of, ↓bindX_some, ↓chkD_true, -len_eL, S26, c7, hkb', k7]
    by_cases c4 : a.kind = 4
    · rw [c4] at hkb' hl
      simp [↓test_bool, ↓bindV_eq, ↓bindC_eq, ↓withV_of, ↓bindX_some, ↓chkD_true, -len_eL, S26, c4, hkb', hla, hlb, hl]
    by_cases c6 : a.kind = 6
    · rw [c6] at hkb' hl
      simp [↓test_bool, ↓bindV_eq, ↓bindC_eq, ↓withV_of, ↓bindX_some, ↓chkD_true, -len_eL, S26, c6, hkb', hla, hlb, hl]
    · simp [↓test_bool, ↓bindV_eq, ↓bindC_eq, ↓withV_of, ↓bindX_some, ↓chkD_true, -len_eL, S26, c0, c1, c2, c3, c4, c6, c7, hkb']
noncomputable def pCptA : Pol := .still (p2 cT cT (.int .i64) likeT fun _ _ => 0)
theorem okCptA : PolOK base 26 pCptA := still_join (F := fun n => p2 cT cT (.int .i64) (fun a b => a.size ≤ n ∧ likeT a b) fun _ _ => 0) okCpt fun zs v h => by
  match zs, h with
  | [x, y], h =>
    simp only [p2_app, Option.bind_eq_some_iff] at h ⊢
    obtain ⟨a, ha, b, hb, h⟩ := h
    split at h
    · rename_i hc
      exact ⟨a.size, a, ha, b, hb, by rw [if_pos ⟨Nat.le_refl _, hc⟩]; exact h⟩
    · cases h
theorem kCptA {R : Type} {a b : Tm} (h : likeT a b) {H : Heap} {k : AV → Heap → Option R} : polK pCptA [eT a, eT b] H k = k (.int .i64 0) H := by
  simp [pCptA, polK_imm, h]
noncomputable def pSameT : Pol := .still (p2 cT cT .bool likeT fun _ _ => true)
theorem kSameT {R : Type} {a b : Tm} (h : likeT a b) {H : Heap} {k : AV → Heap → Option R} : polK pSameT [eT a, eT b] H k = k (.bool true) H := by
  simp [pSameT, polK_imm, h]
theorem qSameT {R : Type} {a b : Tm} (h : likeT a b) {H : Heap} {k : AV → Heap → Option R} : polQ pSameT [eT a, eT b] H k = k (.bool true) H := by
  simp [pSameT, polQ_imm, h]
theorem okSameT : PolOK base 41 pSameT := still2 base_ok [(26, pCptA)] ⟨okCptA, trivial⟩ fun a b h => by
  have ca : (eT a).cells.length = 7 := by rw [cells_eT]; rfl
  have cb : (eT b).cells.length = 7 := by rw [cells_eT]; rfl
  have oa : A.ofList true 7 (eT a).cells 0 = some (eT a) := load_eT (H := [])
  have ob : A.ofList true 7 (eT b).cells 0 = some (eT b) := load_eT (H := [])
  have hc : ∀ (R : Type) (H : Heap) (k : AV → Heap → Option R), polK pCptA [eT a, eT b] H k = k (.int .i64 0) H := fun R H k => kCptA h
  refine Evs.of fun n m => ?_
  simp [↓bindC_eq, ↓withV_of, ↓chkD_true, -cells_eT, S41, ca, cb, oa, ob, hc]
end Go.Proofs.YtleikacgncpfbaaDoor
