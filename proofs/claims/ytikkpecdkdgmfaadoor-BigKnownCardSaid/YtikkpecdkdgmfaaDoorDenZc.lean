/- DEN, part Zc: regions whose order is open (on): the walk. -/
import Derived.Test.YtikkpecdkdgmfaaDoorDenZb
namespace Go.Den
open Go.RowKit

section
variable {E : Env} {cf : CallFn} {sites : List (Nat × Nat × Nat)} {rid : Nat} {ops : Array Oper} {d : DInfo} {st' : St} {H' : Heap}

theorem get_stPut_ne {st : St} {dst : Option Tmp} {x : SV} {t : Tmp} (h : dst ≠ some t) : (stPut st dst x).get t = st.get t := by
  cases dst with
  | none => rfl
  | some u =>
    show (if u < st.N then st.put u x else st).get t = st.get t
    split
    · exact St.get_put_ne (fun e => h (by rw [e]))
    · rfl

theorem get_stPut_self {st : St} {t : Tmp} {x : SV} : (stPut st (some t) x).get t = if t < st.N then (bif st.slots.has t then x else .no) else st.get t := by
  show (if t < st.N then st.put t x else st).get t = _
  split
  · exact Tr.get_set_has
  · rfl

structure Shape (st sa : St) : Prop where
  N : sa.N = st.N
  slots : ∀ t, sa.slots.has t = st.slots.has t
  L : ∀ s, sa.L.has s = st.L.has s

theorem Shape.refl (st : St) : Shape st st := ⟨rfl, fun _ => rfl, fun _ => rfl⟩
theorem Shape.put {st sa : St} (h : Shape st sa) (dst : Option Tmp) (x : SV) : Shape st (stPut sa dst x) := by
  cases dst with
  | none => exact h
  | some u =>
    show Shape st (if u < sa.N then sa.put u x else sa)
    split
    · exact ⟨h.N, fun t => Tr.has_set.trans (h.slots t), h.L⟩
    · exact h
theorem Shape.setVar {st sa : St} (h : Shape st sa) (s : Nat) (cs : List AV) : Shape st (sa.setVar s cs) := ⟨h.N, h.slots, fun s => Tr.has_set.trans (h.L s)⟩

/-- What the text's order leaves, place by place. -/
structure TextRun (E : Env) (cf : CallFn) (sites : List (Nat × Nat × Nat)) (rid : Nat) (ops : Array Oper) (S : Nat → St) (Hh : Nat → Heap) (X : Nat → SV) : Prop where
  step : ∀ (i : Nat) (o : Oper), ops[i]? = some o → TextStep E cf sites rid ops i o ⟨S i, Hh i, X i, S (i + 1), Hh (i + 1)⟩

variable {S : Nat → St} {Hh : Nat → Heap} {X : Nat → SV}

/-- Does it write the variable? -/
def Wr (sites : List (Nat × Nat × Nat)) (rid : Nat) (ops : Array Oper) (S : Nat → St) (s j : Nat) : Prop := ∃ o, ops[j]? = some o ∧ touchOf (S j) (siteAt sites rid j o) o = some (s, true)

theorem step_form (hcn : CNat cf) {i : Nat} {o : Oper} {r : Rec} (h : TextStep E cf sites rid ops i o r) : ∃ st1, r.st1 = stPut st1 o.dst r.x ∧ (st1 = r.st ∨ ∃ s cs, touchOf r.st (siteAt sites rid i o) o = some (s, true) ∧ st1 = r.st.setVar s cs) := by
  cases h with
  | plain st1 hg h h1 =>
    rw [siteAt_none hg]
    refine ⟨st1, h1, ?_⟩
    rcases touch_dec r.st (siteOf sites rid i) o with ⟨s, ht⟩ | ht
    · obtain ⟨cs, e1, _, _⟩ := write_ok ht h
      exact .inr ⟨s, cs, ht, e1⟩
    · exact .inl (op_keeps' hcn ht h)
  | on j want v hg hb hk hx h h1 => exact ⟨r.st, h1, .inl rfl⟩
  | off j want b hg hb hne hx hH h1 => exact ⟨r.st, h1, .inl rfl⟩

theorem TextRun.shape (hcn : CNat cf) (hT : TextRun E cf sites rid ops S Hh X) : ∀ k, k ≤ ops.size → Shape (S 0) (S k)
  | 0, _ => Shape.refl _
  | k + 1, h => by
    obtain ⟨st1, e1, e2⟩ := step_form hcn (hT.step k _ (Array.getElem?_eq_getElem (by omega)))
    dsimp only at e1
    rw [e1]
    refine Shape.put ?_ _ _
    rcases e2 with e2 | ⟨s, cs, _, e2⟩
    · rw [e2]; exact hT.shape hcn k (by omega)
    · rw [e2]; exact (hT.shape hcn k (by omega)).setVar s cs

theorem TextRun.get_step (hcn : CNat cf) (hT : TextRun E cf sites rid ops S Hh X) {i : Nat} {o : Oper} (ho : ops[i]? = some o) {t : Tmp} (h : o.dst ≠ some t) : (S (i + 1)).get t = (S i).get t := by
  obtain ⟨st1, e1, e2⟩ := step_form hcn (hT.step i o ho)
  dsimp only at e1 e2
  rw [e1, get_stPut_ne h]
  rcases e2 with e2 | ⟨s, cs, _, e2⟩
  · rw [e2]
  · rw [e2]; rfl

theorem TextRun.var_step (hcn : CNat cf) (hT : TextRun E cf sites rid ops S Hh X) {i : Nat} {o : Oper} (ho : ops[i]? = some o) {s : Nat} (h : ¬ Wr sites rid ops S s i) : (S (i + 1)).var s = (S i).var s := by
  obtain ⟨st1, e1, e2⟩ := step_form hcn (hT.step i o ho)
  dsimp only at e1 e2
  rw [e1, St.put_var]
  rcases e2 with e2 | ⟨s', cs, ht, e2⟩
  · rw [e2]
  · rw [e2]
    exact var_set_ne (fun e => h ⟨o, ho, by rw [← e]; exact ht⟩)

theorem TextRun.get_first (hcn : CNat cf) (hT : TextRun E cf sites rid ops S Hh X) {t : Tmp} : ∀ k, k ≤ ops.size → (∀ j o, j < k → ops[j]? = some o → o.dst ≠ some t) → (S k).get t = (S 0).get t
  | 0, _, _ => rfl
  | k + 1, hk, h => by
    have ho := Array.getElem?_eq_getElem (show k < ops.size by omega)
    rw [hT.get_step hcn ho (h k _ (by omega) ho)]
    exact hT.get_first hcn k (by omega) fun j o hj hjo => h j o (by omega) hjo

/-- From a place on, nobody writes it. -/
theorem TextRun.get_rest (hcn : CNat cf) (hT : TextRun E cf sites rid ops S Hh X) {t : Tmp} (i : Nat) : ∀ n, i + n ≤ ops.size → (∀ j o, i ≤ j → ops[j]? = some o → o.dst ≠ some t) → (S (i + n)).get t = (S i).get t
  | 0, _, _ => rfl
  | n + 1, hk, h => by
    have ho := Array.getElem?_eq_getElem (show i + n < ops.size by omega)
    rw [show i + (n + 1) = (i + n) + 1 by omega, hT.get_step hcn ho (h (i + n) _ (by omega) ho)]
    exact hT.get_rest hcn i n (by omega) h

theorem TextRun.var_rest (hcn : CNat cf) (hT : TextRun E cf sites rid ops S Hh X) {s : Nat} (i : Nat) : ∀ n, i + n ≤ ops.size → (∀ j, i ≤ j → j < i + n → ¬ Wr sites rid ops S s j) → (S (i + n)).var s = (S i).var s
  | 0, _, _ => rfl
  | n + 1, hk, h => by
    have ho := Array.getElem?_eq_getElem (show i + n < ops.size by omega)
    rw [show i + (n + 1) = (i + n) + 1 by omega, hT.var_step hcn ho (h (i + n) (by omega) (by omega))]
    exact hT.var_rest hcn i n (by omega) fun j h1 h2 => h j h1 (by omega)

/-- The frame after some operations, in some order. -/
structure After (sites : List (Nat × Nat × Nat)) (rid : Nat) (ops : Array Oper) (S : Nat → St) (M : Nat → Bool) (sa : St) : Prop where
  shape : Shape (S 0) sa
  old : ∀ t, (∀ j o, M j = true → ops[j]? = some o → o.dst ≠ some t) → sa.get t = (S 0).get t
  new : ∀ t j o, M j = true → ops[j]? = some o → o.dst = some t → sa.get t = (S ops.size).get t
  var : ∀ s k, k ≤ ops.size → (∀ j, j < ops.size → Wr sites rid ops S s j → (M j = true ↔ j < k)) → sa.var s = (S k).var s

/-- The slots that an operation looks at hold what they hold in the text's order. -/
theorem After.looks (hcn : CNat cf) (hT : TextRun E cf sites rid ops S Hh X) (hK : TextOK E sites rid ops d) {M : Nat → Bool} {sa : St} (hA : After sites rid ops S M sa) {i : Nat} {o : Oper} (ho : ops[i]? = some o) (hi : M i = false)
    (hb : ∀ j q, ops[j]? = some q → bef d i j = true → M j = true) (ha : ∀ j q, ops[j]? = some q → bef d j i = true → M j = false) {t : Tmp} (ht : t ∈ Den.looks ops o ∨ o.dst = some t) : sa.get t = (S i).get t := by
  have hlt := (Array.getElem?_eq_some_iff.1 ho).1
  by_cases hw : ∃ (j : Nat) (q : Oper), ops[j]? = some q ∧ q.dst = some t
  · obtain ⟨j, q, hq, hd⟩ := hw
    have huniq : ∀ j' q', ops[j']? = some q' → q'.dst = some t → j' = j := fun j' q' h1 h2 => by
      rcases Decidable.em (j' = j) with e | e
      · exact e
      · exact absurd h2 (hK.dsts j j' q q' t hq h1 (fun e' => e e'.symm) hd)
    have hjl := (Array.getElem?_eq_some_iff.1 hq).1
    by_cases e : j = i
    · subst e
      rw [hA.old t fun j' q' h1 h2 h3 => by rw [huniq j' q' h2 h3, hi] at h1; cases h1]
      exact (hT.get_first hcn j (by omega) fun j' q' h1 h2 h3 => by
        have := huniq j' q' h2 h3
        omega).symm
    · have hor : bef d i j = true ∨ bef d j i = true := by
        rcases ht with ht | ht
        · exact hK.slots i j o q t ho hq (fun e' => e e'.symm) hd ht
        · exact absurd hd (hK.dsts i j o q t ho hq (fun e' => e e'.symm) ht)
      rcases hor with hor | hor
      · have hji := hK.lt i j o q ho hq hor
        rw [hA.new t j q (hb j q hq hor) hq hd]
        have := hT.get_rest hcn (t := t) i (ops.size - i) (by omega) fun j' q' h1 h2 h3 => by
          have := huniq j' q' h2 h3
          omega
        rw [← this]
        congr 2
        omega
      · have hij := hK.lt j i q o hq ho hor
        rw [hA.old t fun j' q' h1 h2 h3 => by rw [huniq j' q' h2 h3, ha j q hq hor] at h1; cases h1]
        exact (hT.get_first hcn i (by omega) fun j' q' h1 h2 h3 => by
          have := huniq j' q' h2 h3
          omega).symm
  · have hno : ∀ (j : Nat) (q : Oper), ops[j]? = some q → q.dst ≠ some t := fun j q h1 h2 => hw ⟨j, q, h1, h2⟩
    rw [hA.old t fun j q _ h2 => hno j q h2]
    exact (hT.get_first hcn i (by omega) fun j q _ h2 => hno j q h2).symm

/-- A variable that an operation touches holds what it holds in the text's order. -/
theorem After.touch (hK : TextOK E sites rid ops d) {M : Nat → Bool} {sa : St} (hA : After sites rid ops S M sa)
    (hp : ∀ (i j : Nat) (o q : Oper) (s : Nat) (w w' : Bool), i < j → ops[i]? = some o → ops[j]? = some q → touchOf (S i) (siteAt sites rid i o) o = some (s, w) → touchOf (S j) (siteAt sites rid j q) q = some (s, w') → (w || w') = true → bef d j i = true)
    {i : Nat} {o : Oper} (ho : ops[i]? = some o) (hi : M i = false)
    (hb : ∀ j q, ops[j]? = some q → bef d i j = true → M j = true) (ha : ∀ j q, ops[j]? = some q → bef d j i = true → M j = false) {s : Nat} {w : Bool} (ht : touchOf (S i) (siteAt sites rid i o) o = some (s, w)) : sa.var s = (S i).var s := by
  have hlt := (Array.getElem?_eq_some_iff.1 ho).1
  refine hA.var s i (by omega) fun j hj hw => ?_
  obtain ⟨q, hq, hqt⟩ := hw
  rcases Nat.lt_trichotomy j i with h | h | h
  · exact ⟨fun _ => h, fun _ => hb j q hq (hp j i q o s true w h hq ho hqt ht (by simp))⟩
  · subst h
    exact ⟨fun e => (by rw [hi] at e; cases e), fun e => by omega⟩
  · exact ⟨fun e => (by rw [ha j q hq (hp i j o q s w true h ho hq ht hqt (by simp))] at e; cases e), fun e => by omega⟩

def memOf (listed : Array Bool) (j : Nat) : Bool := listed.getD j false

theorem mem_set {listed : Array Bool} {i j : Nat} (hi : i < listed.size) : memOf (listed.setIfInBounds i true) j = if j = i then true else memOf listed j := by
  unfold memOf
  rw [Array.getD_eq_getD_getElem?, Array.getD_eq_getD_getElem?]
  by_cases e : j = i
  · subst e
    rw [Array.getElem?_setIfInBounds_self_of_lt hi]
    simp
  · rw [Array.getElem?_setIfInBounds_ne (fun e' => e e'.symm), if_neg e]

/-- One more operation: what is left. -/
theorem After.next (hcn : CNat cf) (hT : TextRun E cf sites rid ops S Hh X) (hK : TextOK E sites rid ops d) {M M' : Nat → Bool} {sa : St} (hA : After sites rid ops S M sa)
    {i : Nat} {o : Oper} (ho : ops[i]? = some o) (hi : M i = false) (hM' : ∀ j, M' j = if j = i then true else M j)
    (hself : ∀ t, o.dst = some t → sa.get t = (S i).get t) (htouch : ∀ s w, touchOf (S i) (siteAt sites rid i o) o = some (s, w) → sa.var s = (S i).var s)
    (hord : ∀ s, Wr sites rid ops S s i → ∀ j, j < ops.size → Wr sites rid ops S s j → (j < i → M j = true) ∧ (i < j → M j = false))
    {st1 sa1 : St} (h1 : S (i + 1) = stPut st1 o.dst (X i)) (h2 : Eff2 o (siteAt sites rid i o) (S i) st1 sa sa1) : After sites rid ops S M' (stPut sa1 o.dst (X i)) := by
  have hlt := (Array.getElem?_eq_some_iff.1 ho).1
  have hshape : Shape (S 0) sa1 := by
    cases h2 with
    | none e e2 => rw [e2]; exact hA.shape
    | set s cs h e e2 => rw [e2]; exact hA.shape.setVar s cs
  have hSi := hT.shape hcn i (by omega)
  have hgs : ∀ t, sa1.get t = sa.get t := fun t => by
    cases h2 with
    | none e e2 => rw [e2]
    | set s cs h e e2 => rw [e2]; rfl
  have hgt : ∀ t, st1.get t = (S i).get t := fun t => by
    cases h2 with
    | none e e2 => rw [e]
    | set s cs h e e2 => rw [e]; rfl
  have hst1 : Shape (S 0) st1 := by
    cases h2 with
    | none e e2 => rw [e]; exact hSi
    | set s cs h e e2 => rw [e]; exact hSi.setVar s cs
  refine ⟨hshape.put _ _, ?_, ?_, ?_⟩
  · intro t h
    rw [get_stPut_ne (h i o (by rw [hM']; simp) ho), hgs]
    exact hA.old t fun j q hj hq => h j q (by rw [hM', hj]; simp) hq
  · intro t j q hj hq hd
    by_cases e : j = i
    · subst e
      have : q = o := by
        rw [ho] at hq
        injection hq with hq
        exact hq.symm
      subst this
      have hn : (S ops.size).get t = (S (j + 1)).get t := by
        have := hT.get_rest hcn (t := t) (j + 1) (ops.size - (j + 1)) (by omega) fun j' q' h3 h4 h5 => by
          have hne : j' ≠ j := by omega
          exact hK.dsts j j' q q' t ho h4 (fun e => hne e.symm) hd h5
        rw [← this]
        congr 2
        omega
      rw [hn, h1, hd, get_stPut_self, get_stPut_self, hshape.N, hst1.N, hshape.slots, hst1.slots, hgs, hgt, hself t hd]
    · have hj' : M j = true := by
        rw [hM', if_neg e] at hj
        exact hj
      rw [get_stPut_ne (fun e' => hK.dsts i j o q t ho hq (fun e2 => e e2.symm) e' hd), hgs]
      exact hA.new t j q hj' hq hd
  · intro s k hk hp
    rw [St.put_var]
    by_cases hw : Wr sites rid ops S s i
    · have hik : i < k := ((hp i hlt hw).1 (by rw [hM']; simp))
      have hbet : ∀ j, i + 1 ≤ j → j < i + 1 + (k - (i + 1)) → ¬ Wr sites rid ops S s j := fun j h3 h4 h5 => by
        have hj : j < ops.size := by omega
        have h6 := (hp j hj h5).2 (by omega)
        rw [hM', if_neg (by omega), (hord s hw j hj h5).2 (by omega)] at h6
        cases h6
      have hk' := hT.var_rest hcn (s := s) (i + 1) (k - (i + 1)) (by omega) hbet
      rw [show i + 1 + (k - (i + 1)) = k by omega] at hk'
      rw [hk', h1, St.put_var]
      obtain ⟨o', ho', ht'⟩ := hw
      have : o' = o := by
        rw [ho] at ho'
        injection ho' with ho'
        exact ho'.symm
      subst this
      have hv := htouch s true ht'
      cases h2 with
      | none e e2 => rw [e, e2, hv]
      | set s1 cs h e e2 =>
        rw [e, e2]
        by_cases es : s1 = s
        · subst es
          rw [var_setVar, var_setVar, hA.shape.L, hSi.L]
        · rw [var_set_ne es, var_set_ne es, hv]
    · have : sa1.var s = sa.var s := by
        cases h2 with
        | none e e2 => rw [e2]
        | set s1 cs h e e2 =>
          rw [e2]
          exact var_set_ne fun e' => hw ⟨o, ho, by rw [← e']; exact h⟩
      rw [this]
      refine hA.var s k hk fun j hj hwj => ?_
      have hne : j ≠ i := fun e => hw (e ▸ hwj)
      have := hp j hj hwj
      rw [hM', if_neg hne] at this
      exact this

end
end Go.Den
