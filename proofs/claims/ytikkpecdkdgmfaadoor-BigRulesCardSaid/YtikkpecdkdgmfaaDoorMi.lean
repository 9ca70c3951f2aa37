/- Texts put together: DenNum, DenDiv, DenDiv2, DenZj. -/
import Derived.Test.YtikkpecdkdgmfaaDoorMh

/- Rows of limbs and the numbers that they are: plain laws. -/
namespace Go.Den

/-- The number of a row of limbs, the lowest first. -/
def val : List UInt32 → Nat
  | [] => 0
  | x :: l => x.toNat + 4294967296 * val l
/-- So many limbs of a number. -/
def digs : Nat → Nat → List UInt32
  | 0, _ => []
  | k + 1, n => UInt32.ofNat n :: digs k (n / 4294967296)
/-- A number's limbs, no nought at the end. -/
def lim (n : Nat) : List UInt32 := if h : n = 0 then [] else UInt32.ofNat n :: lim (n / 4294967296)
termination_by n
decreasing_by omega

theorem limb_lt (x : UInt32) : x.toNat < 4294967296 := x.toNat_lt
theorem limb_of (n : Nat) : (UInt32.ofNat n).toNat = n % 4294967296 := by simp
theorem limb_eq {x : UInt32} {n : Nat} (h : n % 4294967296 = x.toNat) : UInt32.ofNat n = x := UInt32.toNat_inj.1 (by rw [limb_of, h])

theorem lim_zero : lim 0 = [] := by unfold lim; simp
theorem lim_pos {n : Nat} (h : n ≠ 0) : lim n = UInt32.ofNat n :: lim (n / 4294967296) := by
  rw [lim, dif_neg h]
theorem val_lim (n : Nat) : val (lim n) = n := by
  induction n using Nat.strongRecOn with
  | _ n ih =>
    by_cases h : n = 0
    · subst h; rw [lim_zero]; rfl
    · rw [lim_pos h, val, ih _ (by omega), limb_of]
      omega
theorem lim_nil {n : Nat} : lim n = [] ↔ n = 0 := by
  constructor
  · intro h
    rw [← val_lim n, h]; rfl
  · intro h; subst h; exact lim_zero
theorem lim_inj {a b : Nat} (h : lim a = lim b) : a = b := by rw [← val_lim a, h, val_lim]

theorem val_lt (l : List UInt32) : val l < 4294967296 ^ l.length := by
  induction l with
  | nil => simp [val]
  | cons x l ih =>
    have := limb_lt x
    rw [val, List.length_cons, Nat.pow_succ]
    omega
theorem val_append (a b : List UInt32) : val (a ++ b) = val a + 4294967296 ^ a.length * val b := by
  induction a with
  | nil => simp [val]
  | cons x a ih =>
    rw [List.cons_append, val, val, ih, List.length_cons, Nat.pow_succ]
    grind
theorem digs_length (k n : Nat) : (digs k n).length = k := by
  induction k generalizing n with
  | zero => rfl
  | succ k ih => simp [digs, ih]
theorem val_digs (k n : Nat) : val (digs k n) = n % 4294967296 ^ k := by
  induction k generalizing n with
  | zero => simp [digs, val, Nat.mod_one]
  | succ k ih =>
    rw [digs, val, ih, limb_of, Nat.pow_succ, Nat.mul_comm (4294967296 ^ k) 4294967296, Nat.mod_mul]
theorem val_digs_lt {k n : Nat} (h : n < 4294967296 ^ k) : val (digs k n) = n := by rw [val_digs, Nat.mod_eq_of_lt h]
theorem digs_val (l : List UInt32) : digs l.length (val l) = l := by
  induction l with
  | nil => rfl
  | cons x l ih =>
    have h1 := limb_lt x
    rw [List.length_cons, digs, val, limb_eq (x := x) (by omega), show (x.toNat + 4294967296 * val l) / 4294967296 = val l by omega, ih]
theorem eq_digs {l : List UInt32} {k n : Nat} (h : l.length = k) (v : val l = n) : l = digs k n := by
  subst h v
  exact (digs_val l).symm
theorem val_inj {a b : List UInt32} (hl : a.length = b.length) (hv : val a = val b) : a = b := by
  rw [← digs_val a, ← digs_val b, hl, hv]
theorem val_zeros (k : Nat) : val (List.replicate k 0) = 0 := by
  induction k with
  | zero => rfl
  | succ k ih => rw [List.replicate_succ, val, ih]; simp

theorem lim_val_last {l : List UInt32} (h : ∀ x, l.getLast? = some x → x ≠ 0) : lim (val l) = l := by
  induction l with
  | nil => exact lim_zero
  | cons x l ih =>
    have hx := limb_lt x
    have hih : lim (val l) = l := ih fun y hy => h y (by
      cases l with
      | nil => simp at hy
      | cons z l => rw [List.getLast?_cons_cons]; exact hy)
    have hne : val (x :: l) ≠ 0 := by
      intro e
      rw [val] at e
      have h1 : val l = 0 := by omega
      have h2 : x.toNat = 0 := by omega
      rw [h1, lim_zero] at hih
      subst hih
      exact h x rfl (UInt32.toNat_inj.1 (by simpa using h2))
    rw [lim_pos hne, val, limb_eq (x := x) (by omega), show (x.toNat + 4294967296 * val l) / 4294967296 = val l by omega, hih]
theorem val_take_succ {l : List UInt32} {n : Nat} (h : n < l.length) : val (l.take (n + 1)) = val (l.take n) + 4294967296 ^ n * (l[n]).toNat := by
  rw [List.take_succ_eq_append_getElem h, val_append, List.length_take, Nat.min_eq_left (by omega), val, val]
  simp
theorem val_drop {l : List UInt32} {n : Nat} (h : n ≤ l.length) : val l = val (l.take n) + 4294967296 ^ n * val (l.drop n) := by
  conv => lhs; rw [← List.take_append_drop n l]
  rw [val_append, List.length_take, Nat.min_eq_left h]
theorem val_set {l : List UInt32} {i : Nat} (h : i < l.length) (d : UInt32) : val (l.set i d) + 4294967296 ^ i * (l[i]).toNat = val l + 4294967296 ^ i * d.toNat := by
  induction l generalizing i with
  | nil => simp at h
  | cons x l ih =>
    cases i with
    | zero => simp [val]; omega
    | succ i =>
      have := ih (i := i) (by simpa using h)
      simp only [List.set_cons_succ, val, List.getElem_cons_succ, Nat.pow_succ]
      grind
theorem lim_take {l : List UInt32} {n : Nat} (h : n < l.length) : lim (val (l.take (n + 1))) = if l[n] = 0 then lim (val (l.take n)) else l.take (n + 1) := by
  split
  · rename_i e
    rw [val_take_succ h, e]
    simp
  · rename_i e
    refine lim_val_last fun x hx => ?_
    rw [List.take_succ_eq_append_getElem h, List.getLast?_append, List.getLast?_singleton, Option.some_or, Option.some.injEq] at hx
    rw [← hx]
    exact e
theorem lim_len_le (l : List UInt32) : (lim (val l)).length ≤ l.length := by
  induction l with
  | nil => simp [val, lim_zero]
  | cons x l ih =>
    by_cases h : val (x :: l) = 0
    · rw [h, lim_zero]; simp
    · have hx := limb_lt x
      rw [lim_pos h, val, show (x.toNat + 4294967296 * val l) / 4294967296 = val l by omega]
      simpa using ih
/-- The limbs at the beginning are the number's. -/
theorem take_lim (l : List UInt32) : l.take (lim (val l)).length = lim (val l) := by
  induction l with
  | nil => simp [val, lim_zero]
  | cons x l ih =>
    by_cases h : val (x :: l) = 0
    · rw [h, lim_zero]; rfl
    · have hx := limb_lt x
      rw [lim_pos h, val, show (x.toNat + 4294967296 * val l) / 4294967296 = val l by omega, limb_eq (x := x) (by omega)]
      simp [ih]
theorem lim_le {n k : Nat} : (lim n).length ≤ k ↔ n < 4294967296 ^ k := by
  constructor
  · intro h
    have h1 := val_lt (lim n)
    rw [val_lim] at h1
    exact Nat.lt_of_lt_of_le h1 (Nat.pow_le_pow_right (by omega) h)
  · intro h
    have h1 := lim_len_le (digs k n)
    rw [val_digs_lt h, digs_length] at h1
    exact h1
theorem lim_last {n : Nat} (h : n ≠ 0) : ∃ x, (lim n).getLast? = some x ∧ x ≠ 0 := by
  induction n using Nat.strongRecOn with
  | _ n ih =>
    rw [lim_pos h]
    by_cases h2 : n / 4294967296 = 0
    · rw [h2, lim_zero]
      refine ⟨UInt32.ofNat n, rfl, fun e => ?_⟩
      have := congrArg UInt32.toNat e
      rw [limb_of] at this
      simp at this
      omega
    · obtain ⟨x, hx, h0⟩ := ih (n / 4294967296) (by omega) h2
      refine ⟨x, ?_, h0⟩
      cases hl : lim (n / 4294967296) with
      | nil => exact absurd (lim_nil.1 hl) h2
      | cons y l => rw [hl] at hx; rw [List.getLast?_cons_cons]; exact hx
/-- Of so many limbs, the last no nought. -/
theorem pow_le_lim {n : Nat} (h : n ≠ 0) : 4294967296 ^ ((lim n).length - 1) ≤ n := by
  rcases Nat.lt_or_ge n (4294967296 ^ ((lim n).length - 1)) with h1 | h1
  · have := lim_le.2 h1
    have hp : lim n ≠ [] := fun e => h (lim_nil.1 e)
    have := List.length_pos_iff.2 hp
    omega
  · exact h1

theorem digs_append (i n : Nat) : digs (i + 1) n = digs i n ++ [UInt32.ofNat (n / 4294967296 ^ i)] := by
  induction i generalizing n with
  | zero => simp [digs]
  | succ i ih =>
    rw [digs, ih (n / 4294967296)]
    simp only [digs, List.cons_append]
    rw [Nat.div_div_eq_div_mul, Nat.pow_succ, Nat.mul_comm]
theorem digs_add (i n m : Nat) : digs i (n + 4294967296 ^ i * m) = digs i n := by
  refine val_inj (by rw [digs_length, digs_length]) ?_
  rw [val_digs, val_digs, Nat.add_mul_mod_self_left]
theorem limb_zero {l : List UInt32} {i j : Nat} (hv : val l < 4294967296 ^ i) (hj : i ≤ j) (hl : j < l.length) : l[j] = 0 := by
  have h1 := val_drop (l := l) (n := j) (by omega)
  have h2 : 4294967296 ^ i ≤ 4294967296 ^ j := Nat.pow_le_pow_right (by omega) hj
  have h3 : val (l.drop j) = 0 := by
    rcases Nat.eq_zero_or_pos (val (l.drop j)) with h | h
    · exact h
    · have : 4294967296 ^ j * 1 ≤ 4294967296 ^ j * val (l.drop j) := Nat.mul_le_mul_left _ h
      omega
  rw [List.drop_eq_getElem_cons hl, val] at h3
  exact UInt32.toNat_inj.1 (by simp; omega)
theorem val_take_lt (l : List UInt32) (i : Nat) : val (l.take i) < 4294967296 ^ i := by
  have h1 := val_lt (l.take i)
  have h2 : 4294967296 ^ (l.take i).length ≤ 4294967296 ^ i := Nat.pow_le_pow_right (by omega) (by rw [List.length_take]; omega)
  omega

/-- Which is less. -/
def cmpI (a b : Int) : Int := if a < b then -1 else if b < a then 1 else 0
def cmpN (a b : Nat) : Int := cmpI a b
theorem cmpI_swap (a b : Int) : cmpI b a = -cmpI a b := by unfold cmpI; split <;> split <;> first | rfl | omega
theorem cmpI_eq {a b : Int} : cmpI a b = 0 ↔ a = b := by unfold cmpI; split <;> (try split) <;> omega
theorem cmpI_self (a : Int) : cmpI a a = 0 := cmpI_eq.2 rfl

theorem cmp_top {a b : List UInt32} {n : Nat} (ha : n < a.length) (hb : n < b.length) : cmpN (val (a.take (n + 1))) (val (b.take (n + 1))) = if a[n] = b[n] then cmpN (val (a.take n)) (val (b.take n)) else cmpI (a[n]).toNat (b[n]).toNat := by
  rw [val_take_succ ha, val_take_succ hb]
  have h1 := val_lt (a.take n)
  have h2 := val_lt (b.take n)
  rw [List.length_take, Nat.min_eq_left (by omega)] at h1 h2
  split
  · rename_i e
    rw [e]
    unfold cmpN cmpI
    split <;> split <;> (try split) <;> (try split) <;> first | rfl | omega
  · rename_i e
    have hne : (a[n]).toNat ≠ (b[n]).toNat := fun e2 => e (UInt32.toNat_inj.1 e2)
    generalize (a[n]).toNat = x at hne ⊢
    generalize (b[n]).toNat = y at hne ⊢
    generalize 4294967296 ^ n = p at h1 h2 ⊢
    rcases Nat.lt_or_gt_of_ne hne with h | h
    · have : p * (x + 1) ≤ p * y := Nat.mul_le_mul_left p h
      rw [Nat.mul_add] at this
      have e1 : cmpN (val (a.take n) + p * x) (val (b.take n) + p * y) = -1 := by unfold cmpN cmpI; rw [if_pos (by omega)]
      have e2 : cmpI (x : Int) (y : Int) = -1 := by unfold cmpI; rw [if_pos (by omega)]
      rw [e1, e2]
    · have : p * (y + 1) ≤ p * x := Nat.mul_le_mul_left p h
      rw [Nat.mul_add] at this
      have e1 : cmpN (val (a.take n) + p * x) (val (b.take n) + p * y) = 1 := by unfold cmpN cmpI; rw [if_neg (by omega), if_pos (by omega)]
      have e2 : cmpI (x : Int) (y : Int) = 1 := by unfold cmpI; rw [if_neg (by omega), if_pos (by omega)]
      rw [e1, e2]

/-- Rows without noughts at the end: the longer is the greater. -/
theorem cmp_len {a b : Nat} (h : (lim a).length ≠ (lim b).length) : cmpN a b = cmpI (lim a).length (lim b).length := by
  have key : ∀ {a b : Nat}, (lim a).length < (lim b).length → a < b := fun {a b} h => by
    have h1 := (lim_le (n := a) (k := (lim a).length)).1 (Nat.le_refl _)
    have hb : b ≠ 0 := by rintro rfl; rw [lim_zero] at h; simp at h
    have h2 := pow_le_lim hb
    have h3 : 4294967296 ^ (lim a).length ≤ 4294967296 ^ ((lim b).length - 1) := Nat.pow_le_pow_right (by omega) (by omega)
    omega
  rcases Nat.lt_or_gt_of_ne h with h | h
  · have := key h
    unfold cmpN cmpI
    rw [if_pos (by omega), if_pos (by omega)]
  · have := key h
    unfold cmpN cmpI
    rw [if_neg (by omega), if_pos (by omega), if_neg (by omega), if_pos (by omega)]
end Go.Den

/- Long division: plain laws on numbers. -/
namespace Go.Den

/-- A limb of a quotient is guessed: never too small, at most one too great. -/
def guessG (v1 v2 u2 : Nat) : Nat → Nat → Nat → Nat
  | 0, q, _ => q
  | f + 1, q, r => if 4294967296 ≤ q ∨ 4294967296 * r + u2 < q * v2 then (if 4294967296 ≤ r + v1 then q - 1 else guessG v1 v2 u2 f (q - 1) (r + v1)) else q

section
variable {v1 v2 v3 u0 u1 u2 u3 P Q : Nat}

/-- What stands throughout: q times v1 and r are what is to be divided; the quotient is not above q. -/
theorem guess_low {q r : Nat} (hW : Q * (P * (4294967296 * v1 + v2) + v3) ≤ P * (4294967296 * (4294967296 * u0 + u1) + u2) + u3) (h3 : u3 < P) (hT : q * v1 + r = 4294967296 * u0 + u1) (hQB : Q < 4294967296) (hq : Q ≤ q) (hc : 4294967296 ≤ q ∨ 4294967296 * r + u2 < q * v2) : Q ≤ q - 1 ∧ 1 ≤ q := by
  rcases Nat.lt_or_ge Q q with h | h
  · omega
  · exfalso
    have e : Q = q := by omega
    subst e
    rcases hc with hc | hc
    · omega
    · have h1 : Q * (P * (4294967296 * v1 + v2)) ≤ Q * (P * (4294967296 * v1 + v2) + v3) := Nat.mul_le_mul_left _ (by omega)
      have h2 : P * (Q * (4294967296 * v1 + v2)) = Q * (P * (4294967296 * v1 + v2)) := by grind
      have h3' : P * (Q * (4294967296 * v1 + v2)) < P * (4294967296 * (4294967296 * u0 + u1) + u2 + 1) := by
        have : P * (4294967296 * (4294967296 * u0 + u1) + u2 + 1) = P * (4294967296 * (4294967296 * u0 + u1) + u2) + P := by grind
        omega
      have h4 : Q * (4294967296 * v1 + v2) < 4294967296 * (4294967296 * u0 + u1) + u2 + 1 := Nat.lt_of_mul_lt_mul_left h3'
      have h5 : Q * (4294967296 * v1 + v2) = 4294967296 * (Q * v1) + Q * v2 := by grind
      omega

theorem guess_ok (hP : 0 < P) (h3 : u3 < P) (hu1 : u1 < 4294967296) (hu2 : u2 < 4294967296) (hv1 : v1 < 4294967296) (hv1b : 2147483648 ≤ v1) (hv2 : v2 < 4294967296) (hv3 : v3 < P) (hu0 : u0 ≤ v1)
    (hW : Q * (P * (4294967296 * v1 + v2) + v3) ≤ P * (4294967296 * (4294967296 * u0 + u1) + u2) + u3) (hW2 : P * (4294967296 * (4294967296 * u0 + u1) + u2) + u3 < (Q + 1) * (P * (4294967296 * v1 + v2) + v3)) (hQB : Q < 4294967296) :
    ∀ (f q r : Nat), q * v1 + r = 4294967296 * u0 + u1 → Q ≤ q → r < 4294967296 → 4294967296 ≤ r + f * v1 → Q ≤ guessG v1 v2 u2 f q r ∧ guessG v1 v2 u2 f q r ≤ Q + 1 ∧ guessG v1 v2 u2 f q r < 4294967296 := by
  -- what stands where the guess is good
  have fin : ∀ q r : Nat, q * v1 + r = 4294967296 * u0 + u1 → q < 4294967296 → q * v2 ≤ 4294967296 * r + u2 → q ≤ Q + 1 := by
    intro q r hT hqB hc
    rcases Nat.lt_or_ge q (Q + 2) with h | h
    · omega
    · exfalso
      have e1 : q * (4294967296 * v1 + v2) ≤ 4294967296 * (4294967296 * u0 + u1) + u2 := by
        have : q * (4294967296 * v1 + v2) = 4294967296 * (q * v1) + q * v2 := by grind
        omega
      have e2 : P * (q * (4294967296 * v1 + v2)) ≤ P * (4294967296 * (4294967296 * u0 + u1) + u2) := Nat.mul_le_mul_left _ e1
      have e3 : (Q + 1) * (P * (4294967296 * v1 + v2) + v3) ≤ (q - 1) * (P * (4294967296 * v1 + v2) + v3) := Nat.mul_le_mul_right _ (by omega)
      obtain ⟨p, rfl⟩ : ∃ p, q = p + 1 := ⟨q - 1, by omega⟩
      rw [Nat.add_sub_cancel] at e3
      have e4 : p * (P * (4294967296 * v1 + v2) + v3) + P * (4294967296 * v1 + v2) = P * ((p + 1) * (4294967296 * v1 + v2)) + p * v3 := by grind
      have e5 : p * v3 ≤ P * (4294967296 * v1) := by
        have a1 : p * v3 ≤ 4294967296 * P := Nat.mul_le_mul (by omega) (by omega)
        have a2 : P * (4294967296 * 1) ≤ P * (4294967296 * v1) := Nat.mul_le_mul_left _ (Nat.mul_le_mul_left _ (by omega))
        omega
      have e6 : P * (4294967296 * v1 + v2) = P * (4294967296 * v1) + P * v2 := by grind
      omega
  intro f
  induction f with
  | zero => intro q r _ _ h1 h2; omega
  | succ f ih =>
    intro q r hT hq hr hf
    unfold guessG
    by_cases hc : 4294967296 ≤ q ∨ 4294967296 * r + u2 < q * v2
    · rw [if_pos hc]
      obtain ⟨l1, l2⟩ := guess_low hW h3 hT hQB hq hc
      obtain ⟨p, rfl⟩ : ∃ p, q = p + 1 := ⟨q - 1, by omega⟩
      rw [Nat.add_sub_cancel] at l1 ⊢
      have hT' : p * v1 + (r + v1) = 4294967296 * u0 + u1 := by
        have : (p + 1) * v1 = p * v1 + v1 := by grind
        omega
      by_cases hb : 4294967296 ≤ r + v1
      · rw [if_pos hb]
        have hpB : p < 4294967296 := by
          have a1 : p * v1 < 4294967296 * v1 := by omega
          exact Nat.lt_of_mul_lt_mul_right a1
        refine ⟨l1, fin p (r + v1) hT' hpB ?_, hpB⟩
        have a1 : p * v2 ≤ 4294967296 * 4294967296 := Nat.mul_le_mul (by omega) (by omega)
        omega
      · rw [if_neg hb]
        refine ih p (r + v1) hT' l1 (by omega) ?_
        have : (f + 1) * v1 = f * v1 + v1 := by grind
        omega
    · rw [if_neg hc]
      exact ⟨hq, fin q r hT (by omega) (by omega), by omega⟩
end
end Go.Den

/- DEN: limb by limb: what is taken away, what is given back; heap functions as table entries. -/
namespace Go.Den
open Go.RowKit

/-- q times a row of limbs taken from another one, limb by limb: what is left, what was borrowed. -/
def takeS (q : Nat) : List UInt32 → List UInt32 → Nat → Nat → List UInt32 × Nat
  | [], _, _, b => ([], b)
  | r :: rs, v, c, b =>
    if r.toNat < (c + q * (v.headD 0).toNat) % 4294967296 + b then
      (UInt32.ofNat (r.toNat + 4294967296 - ((c + q * (v.headD 0).toNat) % 4294967296 + b)) :: (takeS q rs v.tail ((c + q * (v.headD 0).toNat) / 4294967296) 1).1, (takeS q rs v.tail ((c + q * (v.headD 0).toNat) / 4294967296) 1).2)
    else
      (UInt32.ofNat (r.toNat - ((c + q * (v.headD 0).toNat) % 4294967296 + b)) :: (takeS q rs v.tail ((c + q * (v.headD 0).toNat) / 4294967296) 0).1, (takeS q rs v.tail ((c + q * (v.headD 0).toNat) / 4294967296) 0).2)
def giveS : List UInt32 → List UInt32 → Nat → List UInt32
  | [], _, _ => []
  | r :: rs, v, c => UInt32.ofNat (c + r.toNat + (v.headD 0).toNat) :: giveS rs v.tail ((c + r.toNat + (v.headD 0).toNat) / 4294967296)

theorem val_head (v : List UInt32) : val v = (v.headD 0).toNat + 4294967296 * val v.tail := by
  cases v with
  | nil => rfl
  | cons x v => rfl
theorem take_t {q c x : Nat} (hq : q ≤ 4294967296) (hc : c < 4294967296) (hx : x < 4294967296) : c + q * x < 18446744073709551616 := by
  have h1 : q * x ≤ 4294967296 * x := Nat.mul_le_mul_right x hq
  omega
theorem takeS_len (q : Nat) : ∀ (rs v : List UInt32) (c b : Nat), (takeS q rs v c b).1.length = rs.length
  | [], _, _, _ => rfl
  | r :: rs, v, c, b => by
    unfold takeS
    split <;> simp [takeS_len q rs]
theorem giveS_len : ∀ (rs v : List UInt32) (c : Nat), (giveS rs v c).length = rs.length
  | [], _, _ => rfl
  | r :: rs, v, c => by simp [giveS, giveS_len rs]
theorem takeS_val {q : Nat} (hq : q ≤ 4294967296) : ∀ (rs v : List UInt32) (c b : Nat), v.length ≤ rs.length → c < 4294967296 → b ≤ 1 → q * val v + c < 4294967296 ^ rs.length →
    val (takeS q rs v c b).1 + q * val v + c + b = val rs + (takeS q rs v c b).2 * 4294967296 ^ rs.length ∧ (takeS q rs v c b).2 ≤ 1
  | [], v, c, b, hl, hc, hb, h => by
    cases v with
    | nil =>
      simp [val] at h
      subst h
      simp [takeS, val]
      exact hb
    | cons x v => simp at hl
  | r :: rs, v, c, b, hl, hc, hb, h => by
    have hx := limb_lt (v.headD 0)
    have hr := limb_lt r
    have ht := take_t hq hc hx
    have hvt : v.tail.length ≤ rs.length := by simp at hl ⊢; omega
    have hv := val_head v
    have hsplit : q * val v = q * (v.headD 0).toNat + 4294967296 * (q * val v.tail) := by rw [hv, Nat.mul_add]; grind
    have hdm := Nat.mod_add_div (c + q * (v.headD 0).toNat) 4294967296
    have hm := Nat.mod_lt (c + q * (v.headD 0).toNat) (show 0 < 4294967296 by omega)
    have hcar : (c + q * (v.headD 0).toNat) / 4294967296 < 4294967296 := by omega
    rw [List.length_cons, Nat.pow_succ] at h
    have hrest : q * val v.tail + (c + q * (v.headD 0).toNat) / 4294967296 < 4294967296 ^ rs.length := by
      generalize 4294967296 ^ rs.length = w at *
      omega
    have ih1 := takeS_val hq rs v.tail ((c + q * (v.headD 0).toNat) / 4294967296) 1 hvt hcar (by omega) hrest
    have ih0 := takeS_val hq rs v.tail ((c + q * (v.headD 0).toNat) / 4294967296) 0 hvt hcar (by omega) hrest
    unfold takeS
    rw [List.length_cons, Nat.pow_succ]
    split
    · rename_i hlt
      obtain ⟨e, hb'⟩ := ih1
      refine ⟨?_, hb'⟩
      dsimp only
      have hd : (r.toNat + 4294967296 - ((c + q * (v.headD 0).toNat) % 4294967296 + b)) < 4294967296 := by omega
      rw [val, val, limb_of, Nat.mod_eq_of_lt hd, hsplit]
      generalize (takeS q rs v.tail ((c + q * (v.headD 0).toNat) / 4294967296) 1).2 = bb at *
      generalize val (takeS q rs v.tail ((c + q * (v.headD 0).toNat) / 4294967296) 1).1 = o at *
      generalize q * val v.tail = m at *
      generalize q * (v.headD 0).toNat = p at *
      generalize 4294967296 ^ rs.length = w at *
      have e2 : bb * (w * 4294967296) = 4294967296 * (bb * w) := by grind
      rw [e2]
      generalize bb * w = bw at *
      omega
    · rename_i hlt
      obtain ⟨e, hb'⟩ := ih0
      refine ⟨?_, hb'⟩
      dsimp only
      have hd : (r.toNat - ((c + q * (v.headD 0).toNat) % 4294967296 + b)) < 4294967296 := by omega
      rw [val, val, limb_of, Nat.mod_eq_of_lt hd, hsplit]
      generalize (takeS q rs v.tail ((c + q * (v.headD 0).toNat) / 4294967296) 0).2 = bb at *
      generalize val (takeS q rs v.tail ((c + q * (v.headD 0).toNat) / 4294967296) 0).1 = o at *
      generalize q * val v.tail = m at *
      generalize q * (v.headD 0).toNat = p at *
      generalize 4294967296 ^ rs.length = w at *
      have e2 : bb * (w * 4294967296) = 4294967296 * (bb * w) := by grind
      rw [e2]
      generalize bb * w = bw at *
      omega
theorem giveS_val : ∀ (rs v : List UInt32) (c : Nat), v.length ≤ rs.length → val (giveS rs v c) = (val rs + val v + c) % 4294967296 ^ rs.length
  | [], v, c, hl => by
    simp [giveS, val, Nat.mod_one]
  | r :: rs, v, c, hl => by
    have hvt : v.tail.length ≤ rs.length := by simp at hl ⊢; omega
    have hv := val_head v
    have ih := giveS_val rs v.tail ((c + r.toNat + (v.headD 0).toNat) / 4294967296) hvt
    have hdm := Nat.mod_add_div (c + r.toNat + (v.headD 0).toNat) 4294967296
    rw [giveS, val, limb_of, ih, List.length_cons, Nat.pow_succ, Nat.mul_comm _ 4294967296]
    have e : val (r :: rs) + val v + c = (c + r.toNat + (v.headD 0).toNat) % 4294967296 + 4294967296 * (val rs + val v.tail + (c + r.toNat + (v.headD 0).toNat) / 4294967296) := by
      rw [val, hv]
      omega
    rw [e]
    generalize (c + r.toNat + (v.headD 0).toNat) / 4294967296 = cc at *
    generalize val rs + val v.tail + cc = X at *
    have hmm := Nat.mod_lt (c + r.toNat + (v.headD 0).toNat) (show 0 < 4294967296 by omega)
    generalize (c + r.toNat + (v.headD 0).toNat) % 4294967296 = y at *
    rw [Nat.mod_mul, Nat.add_mul_mod_self_left, Nat.mod_eq_of_lt hmm, Nat.add_mul_div_left _ _ (by omega : 0 < 4294967296), Nat.div_eq_of_lt hmm, Nat.zero_add]

/-! ### functions on the small heap as entries of tables -/
/-- A function on the small heap: what it is handed (as plain data), what must hold, what comes of it. -/
noncomputable def hp {α : Type} (enc : α → List AV) (P : α → Heap → Prop) (F : α → Heap → AV × Heap) (args : List AV) (H : Heap) : Option (AV × Heap) :=
  open Classical in if h : ∃ x, args = enc x ∧ P x H then some (F h.choose H) else none
theorem polK_hp {R : Type} {α : Type} {enc : α → List AV} {P : α → Heap → Prop} {F : α → Heap → AV × Heap} (det : ∀ x y H, enc x = enc y → P x H → P y H → F x H = F y H) {x : α} {H : Heap} (hP : P x H) {k : AV → Heap → Option R} :
    polK (.prim (hp enc P F)) (enc x) H k = k (F x H).1 (F x H).2 := by
  have h : ∃ y, enc x = enc y ∧ P y H := ⟨x, rfl, hP⟩
  show withP (hp enc P F (enc x) H) k = _
  unfold hp
  rw [dif_pos h, det x h.choose H h.choose_spec.1 hP h.choose_spec.2]
  rfl
theorem heap_hp {E : Env} (hb : BaseOK E) (T : List (FuncId × Pol)) (hT : TabOK E T) {f : FuncId} {α : Type} {enc : α → List AV} {P : α → Heap → Prop} {F : α → Heap → AV × Heap}
    (h : ∀ x H, P x H → Evs fun n _ => callF (E.with (polT T)) (n + 1) (AV × Heap) f (enc x) H (fun v G => some (v, G)) = some (F x H)) : PolOK E f (.prim (hp enc P F)) :=
  heap_of hb T hT fun zs H v H' hv => by
    unfold hp at hv
    split at hv
    · rename_i hx
      have := h _ _ hx.choose_spec.2
      rw [← hx.choose_spec.1] at this
      simp only [Option.some.injEq] at hv
      rw [hv] at this
      exact this
    · cases hv
theorem set_same {H : Heap} {id : Nat} {x : HObj} (h : H[id]? = some x) : H.set id x = H := by
  apply List.ext_getElem?
  intro j
  by_cases hj : id = j
  · subst hj
    rw [get_set_same h, h]
  · rw [get_set_ne hj]
end Go.Den

/- DEN, part Zj: what the values of a type are. -/
namespace Go.Den

section
variable {P : Program} {n : Nat} {t e : TypeId} {v : AV} {k : IntKind}

theorem Ty.int (h : Ty P n t v) (ht : P.underlying t = some (.int k)) : ∃ i, v = .int k i ∧ k.min ≤ i ∧ i ≤ k.max := by
  cases n with
  | zero => cases h
  | succ n =>
    unfold Ty at h
    rw [ht] at h
    exact h

theorem Ty.bool (h : Ty P n t v) (ht : P.underlying t = some .bool) : ∃ b, v = .bool b := by
  cases n with
  | zero => cases h
  | succ n =>
    unfold Ty at h
    rw [ht] at h
    exact h

theorem Ty.str (h : Ty P n t v) (ht : P.underlying t = some .string) : ∃ l : List UInt8, v = .str l ∧ l.length ≤ maxLen := by
  cases n with
  | zero => cases h
  | succ n =>
    unfold Ty at h
    rw [ht] at h
    exact h

theorem Ty.slice (h : Ty P n t v) (ht : P.underlying t = some (.slice e)) : ∃ (m : Nat) (es : List AV), n = m + 1 ∧ Im (P.cellsOf e) v es ∧ es.length ≤ maxLen ∧ ∀ x ∈ es, Ty P m e x := by
  cases n with
  | zero => cases h
  | succ n =>
    unfold Ty at h
    rw [ht] at h
    rcases h with rfl | ⟨es, rfl, h1, h2⟩
    · exact ⟨n, [], rfl, .nil, by simp, by simp⟩
    · exact ⟨n, es, rfl, .sh es, h1, h2⟩

theorem Ty.struct (h : Ty P n t v) {fs : Array Field} (ht : P.underlying t = some (.struct fs)) : ∃ (m : Nat) (vs : List AV), n = m + 1 ∧ v = .agg (vs.flatMap AV.cells) ∧ vs.length = fs.size ∧
    ∀ (i : Nat) (f : Field) (x : AV), fs[i]? = some f → vs[i]? = some x → Ty P m f.type x ∧ x.cells.length = P.cellsOf f.type := by
  cases n with
  | zero => cases h
  | succ n =>
    unfold Ty at h
    rw [ht] at h
    obtain ⟨vs, h1, h2, h3⟩ := h
    exact ⟨n, vs, rfl, h1, h2, h3⟩

/-- All of a kind: one list. -/
theorem map_of_all {α : Type} {f : α → AV} {p : α → Prop} : ∀ {es : List AV}, (∀ x ∈ es, ∃ a, x = f a ∧ p a) → ∃ l : List α, es = l.map f ∧ ∀ a ∈ l, p a
  | [], _ => ⟨[], rfl, by simp⟩
  | x :: es, h => by
    obtain ⟨a, rfl, ha⟩ := h x List.mem_cons_self
    obtain ⟨l, rfl, hl⟩ := map_of_all (f := f) (p := p) (es := es) fun y hy => h y (List.mem_cons_of_mem _ hy)
    exact ⟨a :: l, rfl, by simp only [List.mem_cons, forall_eq_or_imp]; exact ⟨ha, hl⟩⟩

theorem Ty.ints (h : Ty P n t v) (ht : P.underlying t = some (.slice e)) (he : P.underlying e = some (.int k)) (hc : P.cellsOf e = 1) : ∃ l : List Int, Im 1 v (l.map (AV.int k)) ∧ (∀ x ∈ l, k.min ≤ x ∧ x ≤ k.max) ∧ l.length ≤ maxLen := by
  obtain ⟨m, es, rfl, h1, h2, h3⟩ := h.slice ht
  obtain ⟨l, rfl, hl⟩ := map_of_all (f := AV.int k) (p := fun x => k.min ≤ x ∧ x ≤ k.max) fun x hx => (h3 x hx).int he
  rw [hc] at h1
  exact ⟨l, h1, hl, by simpa using h2⟩
end
end Go.Den
