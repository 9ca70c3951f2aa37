/- DEN, part Zb: regions whose order is open (on): how many loud ones were done, and which version of the small heap that is. -/
import Derived.Test.YtikkpecdkdgmfaaDoorDenZa
namespace Go.Den
open Go.RowKit

section
variable {E : Env} {cf : CallFn} {sites : List (Nat × Nat × Nat)} {rid : Nat} {ops : Array Oper} {d : DInfo} {st' : St} {H' : Heap}

theorem countLoud_eq (p : Nat → Bool) : countLoud E sites rid ops p = (List.range ops.size).countP fun j => loudAt E sites rid ops j && p j := by
  rw [List.countP_eq_length_filter]
  rfl

theorem countLoud_mono {p q : Nat → Bool} (h : ∀ j, j < ops.size → p j = true → q j = true) : countLoud E sites rid ops p ≤ countLoud E sites rid ops q := by
  rw [countLoud_eq, countLoud_eq]
  refine List.countP_mono_left fun j hj hp => ?_
  simp only [Bool.and_eq_true] at hp ⊢
  exact ⟨hp.1, h j (List.mem_range.1 hj) hp.2⟩

theorem countP_add (f g : Nat → Bool) (i : Nat) (h : ∀ j, j ≠ i → f j = g j) (hf : g i = false) : ∀ n, (List.range n).countP f = (List.range n).countP g + (if i < n ∧ f i = true then 1 else 0)
  | 0 => by simp
  | n + 1 => by
    rw [List.range_succ, List.countP_append, List.countP_append, countP_add f g i h hf n]
    by_cases e : n = i
    · subst e
      cases hfi : f n <;> simp [hfi, hf]
    · rw [show List.countP f [n] = List.countP g [n] by simp [h n e]]
      by_cases hi : i < n
      · simp [hi, show i < n + 1 by omega]; omega
      · have : ¬ i < n + 1 := by omega
        simp [hi, this]

/-- One more. -/
theorem countLoud_add {p q : Nat → Bool} {i : Nat} (hi : i < ops.size) (h : ∀ j, j ≠ i → q j = p j) (hp : p i = false) (hq : q i = true) :
    countLoud E sites rid ops q = countLoud E sites rid ops p + (if loudAt E sites rid ops i = true then 1 else 0) := by
  rw [countLoud_eq, countLoud_eq, countP_add _ (fun j => loudAt E sites rid ops j && p j) i (fun j hj => by rw [h j hj]) (by simp [hp])]
  congr 1
  simp [hi, hq]

theorem countP_lt (f : Nat → Bool) (i : Nat) : ∀ n, i ≤ n → (List.range n).countP (fun j => f j && decide (j < i)) = (List.range i).countP f := by
  intro n hn
  induction n with
  | zero =>
    have : i = 0 := by omega
    subst this
    rfl
  | succ n ih =>
    by_cases e : i = n + 1
    · subst e
      refine List.countP_congr fun j hj => ?_
      simp [List.mem_range.1 hj]
    · rw [List.range_succ, List.countP_append, ih (by omega)]
      have : ¬ n < i := by omega
      simp [this]

/-- Just the first ones. -/
theorem countLoud_first {p : Nat → Bool} {i : Nat} (hi : i ≤ ops.size) (h : ∀ j, j < ops.size → loudAt E sites rid ops j = true → (p j = decide (j < i))) : countLoud E sites rid ops p = louds E sites rid ops i := by
  rw [countLoud_eq]
  unfold louds
  rw [← List.countP_eq_length_filter, ← countP_lt _ i ops.size hi]
  refine List.countP_congr fun j hj => ?_
  cases hl : loudAt E sites rid ops j
  · simp
  · simp [h j (List.mem_range.1 hj) hl]

/-- Of a list, from its i-th place on: how many of the first k are loud. -/
def cntL (E : Env) (sites : List (Nat × Nat × Nat)) (rid : Nat) : List Oper → Nat → Nat → Nat
  | o :: os, i, k + 1 => (if isLoud E (siteAt sites rid i o) o = true then 1 else 0) + cntL E sites rid os (i + 1) k
  | _, _, _ => 0

theorem cntL_succ : ∀ {l : List Oper} {i k : Nat} {o : Oper}, l[k]? = some o → cntL E sites rid l i (k + 1) = cntL E sites rid l i k + (if isLoud E (siteAt sites rid (i + k) o) o = true then 1 else 0)
  | [], _, _, _, h => by simp at h
  | o0 :: l, i, 0, o, h => by
    simp only [List.getElem?_cons_zero, Option.some.injEq] at h
    subst h
    cases l <;> simp [cntL]
  | o0 :: l, i, k + 1, o, h => by
    have := cntL_succ (i := i + 1) (k := k) (l := l) (o := o) (by simpa using h)
    rw [show i + 1 + k = i + (k + 1) by omega] at this
    unfold cntL
    rw [this]
    omega

theorem cntL_louds : ∀ {k : Nat}, k ≤ ops.size → cntL E sites rid ops.toList 0 k = louds E sites rid ops k
  | 0, _ => by
    unfold louds
    cases ops.toList <;> rfl
  | k + 1, h => by
    have hk : ops.toList[k]? = some (ops[k]'(by omega)) := by
      rw [Array.getElem?_toList, Array.getElem?_eq_getElem]
    rw [cntL_succ hk, cntL_louds (by omega), louds_succ]
    congr 1
    unfold loudAt
    rw [Array.getElem?_toList] at hk
    rw [hk, show 0 + k = k by omega]

theorem vers_at (hcn : CNat cf) {i : Nat} {l : List Oper} {st : St} {H : Heap} {rs : List Rec} (h : Run E cf sites rid ops i l st H rs st' H') : ∀ k, k ≤ l.length → (H :: versOf E sites rid l i rs)[cntL E sites rid l i k]? = some (heapAt rs H' k) := by
  induction h with
  | nil i st H =>
    intro k hk
    have : k = 0 := by simpa using hk
    subst this
    rfl
  | cons i o os r rs st' H' h1 h2 ih =>
    intro k hk
    cases k with
    | zero => rfl
    | succ k =>
      have := ih k (by simpa using hk)
      have hh : heapAt (r :: rs) H' (k + 1) = heapAt rs H' k := rfl
      have e1 : cntL E sites rid (o :: os) i (k + 1) = (if isLoud E (siteAt sites rid i o) o = true then 1 else 0) + cntL E sites rid os (i + 1) k := rfl
      have e2 : versOf E sites rid (o :: os) i (r :: rs) = bif isLoud E (siteAt sites rid i o) o then r.H1 :: versOf E sites rid os (i + 1) rs else versOf E sites rid os (i + 1) rs := rfl
      rw [hh, ← this, e1, e2]
      cases hl : isLoud E (siteAt sites rid i o) o
      · rw [step_quiet hcn h1 hl]
        simp
      · simp only [if_true, cond_true]
        rw [Nat.add_comm 1]
        rfl

/-- The version ahead of the k-th operation. -/
theorem vers_louds (hcn : CNat cf) {st : St} {H : Heap} {rs : List Rec} (h : Run E cf sites rid ops 0 ops.toList st H rs st' H') {k : Nat} (hk : k ≤ ops.size) :
    (H :: versOf E sites rid ops.toList 0 rs)[louds E sites rid ops k]? = some (heapAt rs H' k) := by
  rw [← cntL_louds hk]
  exact vers_at hcn h k (by simpa using hk)

end
end Go.Den
