/- DEN, part Z: regions whose order is open (on): what their text says, and the walk in any order. -/
import Derived.Test.YtikkpecdkdgmfaaDoorDenY
namespace Go.Den
open Go.RowKit

section
variable {E : Env} {cf : CallFn} {sites : List (Nat × Nat × Nat)} {rid : Nat} {ops : Array Oper} {d : DInfo} {st' : St} {H' : Heap}

def loudAt (E : Env) (sites : List (Nat × Nat × Nat)) (rid : Nat) (ops : Array Oper) (j : Nat) : Bool :=
  match ops[j]? with
  | some o => isLoud E (siteAt sites rid j o) o
  | none => false

/-- What the check of the text tells. -/
structure TextOK (E : Env) (sites : List (Nat × Nat × Nat)) (rid : Nat) (ops : Array Oper) (d : DInfo) : Prop where
  edge : ∀ (i j : Nat) (o q : Oper), ops[i]? = some o → ops[j]? = some q → bef d i j = true → ∃ e ∈ o.after.toList, Region.binds .any e = true ∧ e.on < i ∧ (e.on = j ∨ bef d e.on j = true)
  back : ∀ (i : Nat) (o : Oper), ops[i]? = some o → ∀ e ∈ o.after.toList, Region.binds .any e = true → e.on < i
  loud : ∀ (i j : Nat) (o q : Oper), ops[i]? = some o → ops[j]? = some q → j < i → loudAt E sites rid ops i = true → loudAt E sites rid ops j = true → bef d i j = true
  slots : ∀ (i j : Nat) (o q : Oper) (t : Tmp), ops[i]? = some o → ops[j]? = some q → i ≠ j → q.dst = some t → t ∈ looks ops o → bef d i j = true ∨ bef d j i = true
  dsts : ∀ (i j : Nat) (o q : Oper) (t : Tmp), ops[i]? = some o → ops[j]? = some q → i ≠ j → o.dst = some t → q.dst ≠ some t
  wins : ∀ (i : Nat) (o : Oper), ops[i]? = some o → loudAt E sites rid ops i = false → reads o = true →
    (countLoud E sites rid ops fun j => !bef d j i) ≤ (countLoud E sites rid ops fun j => bef d i j) ∨
      ∃ l h, winOf i d.wins = some (l, h) ∧ l ≤ (countLoud E sites rid ops fun j => bef d i j) ∧ (countLoud E sites rid ops fun j => !bef d j i) ≤ h

theorem textOK (h : staticOk E sites rid ops d = true) : TextOK E sites rid ops d := by
  have hop : ∀ (i : Nat) (o : Oper), ops[i]? = some o → opOk E sites rid ops d i = true := fun i o ho => by
    unfold staticOk at h
    exact List.all_eq_true.1 h i (List.mem_range.2 (Array.getElem?_eq_some_iff.1 ho).1)
  have hpair : ∀ (i j : Nat) (o q : Oper), ops[i]? = some o → ops[j]? = some q → pairOk E sites rid ops d i o j = true := fun i j o q hi hj => by
    have := hop i o hi
    unfold opOk at this
    rw [hi] at this
    simp only [Bool.and_eq_true] at this
    exact List.all_eq_true.1 this.1.1 j (List.mem_range.2 (Array.getElem?_eq_some_iff.1 hj).1)
  have hl : ∀ (i : Nat) (o : Oper), ops[i]? = some o → loudAt E sites rid ops i = isLoud E (siteAt sites rid i o) o := fun i o ho => by
    unfold loudAt; rw [ho]
  refine ⟨?_, ?_, ?_, ?_, ?_, ?_⟩
  · intro i j o q hi hj hb
    have := hpair i j o q hi hj
    unfold pairOk at this
    rw [hj] at this
    simp only [Bool.and_eq_true, hb, Bool.not_true, Bool.false_or] at this
    obtain ⟨e, he, h1⟩ := Array.any_eq_true'.1 this.1.1.1
    simp only [Bool.and_eq_true, decide_eq_true_eq, Bool.or_eq_true] at h1
    exact ⟨e, by simpa using he, h1.1.1, h1.1.2, h1.2.imp (fun h => Nat.eq_of_beq_eq_true h) id⟩
  · intro i o hi e he hb
    have := hop i o hi
    unfold opOk at this
    rw [hi] at this
    simp only [Bool.and_eq_true] at this
    have := Array.all_eq_true'.1 this.1.2 e (by simpa using he)
    simpa [hb] using this
  · intro i j o q hi hj hlt h1 h2
    have := hpair i j o q hi hj
    rw [hl i o hi] at h1
    rw [hl j q hj] at h2
    unfold pairOk at this
    rw [hj] at this
    simp only [Bool.and_eq_true] at this
    simpa [hlt, h1, h2] using this.1.1.2
  · intro i j o q t hi hj hne hd ht
    have := hpair i j o q hi hj
    unfold pairOk at this
    rw [hj] at this
    simp only [Bool.and_eq_true] at this
    have h1 := this.1.2
    have hs : slotsApart o q ops = false := by
      unfold slotsApart
      rw [hd]
      simpa using ht
    have hb : Nat.beq i j = false := by
      cases hb : Nat.beq i j
      · rfl
      · exact absurd (Nat.eq_of_beq_eq_true hb) hne
    rw [hs, hb] at h1
    simpa using h1
  · intro i j o q t hi hj hne hd
    have := hpair i j o q hi hj
    unfold pairOk at this
    rw [hj] at this
    simp only [Bool.and_eq_true] at this
    have h1 := this.2
    have hb : Nat.beq i j = false := by
      cases hb : Nat.beq i j
      · rfl
      · exact absurd (Nat.eq_of_beq_eq_true hb) hne
    rw [hb, hd] at h1
    intro e
    rw [e] at h1
    simp at h1
  · intro i o hi h1 h2
    have := hop i o hi
    rw [hl i o hi] at h1
    unfold opOk at this
    rw [hi] at this
    simp only [Bool.and_eq_true, h1, h2, Bool.false_or, Bool.not_true, Bool.or_eq_true, Nat.ble_eq] at this
    rcases this.2 with h3 | h3
    · exact .inl h3
    · split at h3
      · rename_i l h hw
        simp only [Bool.and_eq_true, Nat.ble_eq] at h3
        exact .inr ⟨l, h, hw, h3.1, h3.2⟩
      · cases h3

theorem TextOK.lt (hT : TextOK E sites rid ops d) : ∀ (i j : Nat) (o q : Oper), ops[i]? = some o → ops[j]? = some q → bef d i j = true → j < i := by
  intro i
  induction i using Nat.strongRecOn with
  | _ i ih =>
    intro j o q hi hj hb
    obtain ⟨e, he, h1, h2, h3⟩ := hT.edge i j o q hi hj hb
    rcases h3 with rfl | h3
    · exact h2
    · have hlt := (Array.getElem?_eq_some_iff.1 hi).1
      have := ih e.on h2 j _ q (Array.getElem?_eq_getElem (by omega)) hj h3
      omega

/-- A set of operations that holds, with each one, what it waits for. -/
def Closed (ops : Array Oper) (M : Nat → Prop) : Prop := ∀ (i : Nat) (o : Oper), ops[i]? = some o → M i → ∀ e ∈ o.after.toList, Region.binds .any e = true → M e.on

theorem Closed.bef (hT : TextOK E sites rid ops d) {M : Nat → Prop} (hc : Closed ops M) : ∀ (i j : Nat) (o q : Oper), ops[i]? = some o → ops[j]? = some q → bef d i j = true → (∀ e ∈ o.after.toList, Region.binds .any e = true → M e.on) → M j := by
  intro i
  induction i using Nat.strongRecOn with
  | _ i ih =>
    intro j o q hi hj hb hr
    obtain ⟨e, he, h1, h2, h3⟩ := hT.edge i j o q hi hj hb
    rcases h3 with rfl | h3
    · exact hr e he h1
    · have hlt := (Array.getElem?_eq_some_iff.1 hi).1
      have hg : ops[e.on]? = some _ := Array.getElem?_eq_getElem (show e.on < ops.size by omega)
      exact ih e.on h2 j _ q hg hj h3 (hc e.on _ hg (hr e he h1))

/-! ### what the text's order touched, and the versions of the small heap -/

theorem touchOk_mem {j s : Nat} {w : Bool} : ∀ {l : List (Nat × Nat × Bool)}, touchOk d j s w l = true → ∀ {i : Nat} {w' : Bool}, (i, s, w') ∈ l → (w || w') = true → bef d i j = true
  | [], _, i, w', hm, _ => by cases hm
  | (i0, s0, w0) :: l, h, i, w', hm, hw => by
    unfold touchOk at h
    simp only [Bool.and_eq_true] at h
    rcases List.mem_cons.1 hm with e | hm
    · injection e with e1 e2
      injection e2 with e2 e3
      subst e1 e2 e3
      have h1 := h.1
      rw [hw] at h1
      simpa using h1
    · exact touchOk_mem h.2 hm hw

theorem touches_mem : ∀ {l : List Oper} {i : Nat} {rs : List Rec} {k : Nat} {o : Oper} {r : Rec} {s : Nat} {w : Bool}, l[k]? = some o → rs[k]? = some r → touchOf r.st (siteAt sites rid (i + k) o) o = some (s, w) → (i + k, s, w) ∈ touches sites rid l i rs
  | [], _, _, _, _, _, _, _, h, _, _ => by simp at h
  | _ :: _, _, [], _, _, _, _, _, _, h, _ => by simp at h
  | o0 :: l, i, r0 :: rs, 0, o, r, s, w, h1, h2, h3 => by
    simp only [List.getElem?_cons_zero, Option.some.injEq] at h1 h2
    subst h1 h2
    unfold touches
    rw [show i + 0 = i from rfl] at h3
    rw [h3]
    exact List.mem_cons_self
  | o0 :: l, i, r0 :: rs, k + 1, o, r, s, w, h1, h2, h3 => by
    have := touches_mem (i := i + 1) (k := k) (l := l) (rs := rs) (by simpa using h1) (by simpa using h2) (by rw [show i + 1 + k = i + (k + 1) by omega]; exact h3)
    rw [show i + 1 + k = i + (k + 1) by omega] at this
    unfold touches
    split
    · exact List.mem_cons_of_mem _ this
    · exact this

theorem touches_ok : ∀ (l : List Oper) (i : Nat) (rs : List Rec), touchesOk d (touches sites rid l i rs) = true → ∀ (k k' : Nat) (o o' : Oper) (r r' : Rec) (s : Nat) (w w' : Bool), k < k' → l[k]? = some o → l[k']? = some o' → rs[k]? = some r → rs[k']? = some r' →
    touchOf r.st (siteAt sites rid (i + k) o) o = some (s, w) → touchOf r'.st (siteAt sites rid (i + k') o') o' = some (s, w') → (w || w') = true → bef d (i + k') (i + k) = true := by
  intro l
  induction l with
  | nil => intro i rs _ k k' o o' r r' s w w' _ h; simp at h
  | cons o0 l ih =>
    intro i rs h k k' o o' r r' s w w' hlt h1 h2 h3 h4 h5 h6 hw
    cases rs with
    | nil => simp at h3
    | cons r0 rs =>
      obtain ⟨k', rfl⟩ : ∃ n, k' = n + 1 := ⟨k' - 1, by omega⟩
      have e' : i + 1 + k' = i + (k' + 1) := by omega
      rw [← e'] at h6 ⊢
      cases k with
      | zero =>
        simp only [List.getElem?_cons_zero, Option.some.injEq] at h1 h3
        subst h1 h3
        unfold touches at h
        rw [show i + 0 = i from rfl] at h5
        rw [h5] at h
        unfold touchesOk at h
        simp only [Bool.and_eq_true] at h
        have hm := touches_mem (sites := sites) (rid := rid) (i := i + 1) (k := k') (l := l) (rs := rs) (o := o') (r := r') (s := s) (w := w') (by simpa using h2) (by simpa using h4) h6
        exact touchOk_mem h.1 hm hw
      | succ k =>
        have e : i + 1 + k = i + (k + 1) := by omega
        rw [← e] at h5 ⊢
        have h' : touchesOk d (touches sites rid l (i + 1) rs) = true := by
          unfold touches at h
          split at h
          · unfold touchesOk at h
            simp only [Bool.and_eq_true] at h
            exact h.2
          · exact h
        exact ih (i + 1) rs h' k k' o o' r r' s w w' (by omega) (by simpa using h1) (by simpa using h2) (by simpa using h3) (by simpa using h4) h5 h6 hw

theorem dropK_eq {α : Type} : ∀ (n : Nat) (l : List α), dropK n l = l.drop n
  | 0, l => rfl
  | n + 1, [] => rfl
  | n + 1, _ :: l => dropK_eq n l

theorem allOk_get {ok : Heap → Bool} : ∀ {n : Nat} {l : List Heap}, allOk ok n l = true → ∀ {m : Nat} {G : Heap}, m < n → l[m]? = some G → ok G = true
  | 0, _, _, _, _, h, _ => by omega
  | n + 1, [], _, _, _, _, h => by simp at h
  | n + 1, G0 :: l, h, m, G, hm, hg => by
    unfold allOk at h
    simp only [Bool.and_eq_true] at h
    cases m with
    | zero =>
      simp only [List.getElem?_cons_zero, Option.some.injEq] at hg
      subst hg
      exact h.1
    | succ m => exact allOk_get h.2 (show m < n by omega) (by simpa using hg)

theorem winsOk_get {wins : List (Nat × Nat × Nat)} {vers : List Heap} : ∀ (l : List Oper) (i : Nat) (rs : List Rec), winsOk E sites wins rid ops vers l i rs = true → ∀ (k : Nat) (o : Oper) (r : Rec) (lo hi m : Nat) (G : Heap), l[k]? = some o → rs[k]? = some r → winOf (i + k) wins = some (lo, hi) →
    isLoud E (siteAt sites rid (i + k) o) o = false → reads o = true → acts ops r.st o = true → heapy r.st o = true → lo ≤ m → m ≤ hi → vers[m]? = some G → sameAt E o r G = true := by
  intro l
  induction l with
  | nil => intro i rs _ k o r lo hi m G h; simp at h
  | cons o0 l ih =>
    intro i rs h k o r lo hi m G h1 h2 h3 h4 h5 h6 h7 h8 h9 hG
    cases rs with
    | nil => simp at h2
    | cons r0 rs =>
      unfold winsOk at h
      simp only [Bool.and_eq_true] at h
      cases k with
      | zero =>
        simp only [List.getElem?_cons_zero, Option.some.injEq] at h1 h2
        subst h1 h2
        have := h.1
        rw [show i + 0 = i from rfl] at h3 h4
        rw [h3] at this
        simp only [h4, h5, h6, h7, Bool.not_false, Bool.and_self, cond_true] at this
        refine allOk_get this (m := m - lo) (by omega) ?_
        rw [dropK_eq, List.getElem?_drop, show lo + (m - lo) = m by omega]
        exact hG
      | succ k =>
        have e : i + 1 + k = i + (k + 1) := by omega
        rw [← e] at h3 h4
        exact ih (i + 1) rs h.2 k o r lo hi m G (by simpa using h1) (by simpa using h2) h3 h4 h5 h6 h7 h8 h9 hG

/-- How many of the first k are loud. -/
def louds (E : Env) (sites : List (Nat × Nat × Nat)) (rid : Nat) (ops : Array Oper) (k : Nat) : Nat := ((List.range k).filter fun j => loudAt E sites rid ops j).length

theorem louds_succ {k : Nat} : louds E sites rid ops (k + 1) = louds E sites rid ops k + (if loudAt E sites rid ops k = true then 1 else 0) := by
  unfold louds
  rw [List.range_succ, List.filter_append, List.length_append]
  congr 1
  cases h : loudAt E sites rid ops k <;> simp [h]

end
end Go.Den
