/- Texts put together: DenU8, DenU9, DenT, DenZn. -/
import Derived.Test.YtdkjednjlpcboaaDoorMd
import Derived.Lib.ValidLaws
import Derived.Lib.TrimUEq
import Derived.Lib.MakeNoZero

/- DEN: texts as signs: what is decoded is encoded again. No program is in sight. -/
set_option maxRecDepth 100000
namespace Go.Den
open Go Go.Lib
def enc (r : Nat) : List UInt8 := (Utf8.encode (r : Int)).data.toList
def scal (r : Nat) : Prop := r < 55296 ∨ (57344 ≤ r ∧ r ≤ 1114111)
theorem q47 {r : Nat} (h : scal r) : Utf8.valid (r : Int) = true := by
  unfold scal at h
  simp [Utf8.valid]
  omega
theorem q75 {r : Nat} (h : r < 128) : enc r = [UInt8.ofNat r] := by
  have v := q47 (r := r) (.inl (by omega))
  unfold enc
  simp [Utf8.encode, v, h]
theorem qap {r : Nat} (h : ¬ r < 128) (h2 : r < 2048) : enc r = [UInt8.ofNat (192 + r / 64), UInt8.ofNat (128 + r % 64)] := by
  have v := q47 (r := r) (.inl (by omega))
  unfold enc
  simp [Utf8.encode, v, h, h2]
theorem qc1 {r : Nat} (h2 : ¬ r < 2048) (h3 : r < 65536) (hs : scal r) : enc r = [UInt8.ofNat (224 + r / 4096), UInt8.ofNat (128 + r / 64 % 64), UInt8.ofNat (128 + r % 64)] := by
  have v := q47 hs
  have h : ¬ r < 128 := by omega
  unfold enc
  simp [Utf8.encode, v, h, h2, h3]
theorem qej {r : Nat} (h3 : ¬ r < 65536) (hs : scal r) : enc r = [UInt8.ofNat (240 + r / 262144), UInt8.ofNat (128 + r / 4096 % 64), UInt8.ofNat (128 + r / 64 % 64), UInt8.ofNat (128 + r % 64)] := by
  have v := q47 hs
  have h : ¬ r < 128 := by omega
  have h2 : ¬ r < 2048 := by omega
  unfold enc
  simp [Utf8.encode, v, h, h2, h3]
theorem q81 {x : Nat} (h : x < 256) : (UInt8.ofNat x).toNat = x := by
  rw [UInt8.toNat_ofNat']
  omega
theorem q36 {x : Nat} {b : UInt8} (h : x = b.toNat) : UInt8.ofNat x = b := by
  have := b.toNat_lt
  exact UInt8.toNat_inj.1 (by rw [q81 (by omega), h])
theorem dec_enc {r : Nat} (hs : scal r) (rest : List UInt8) : decodeL (enc r ++ rest) = (r, (enc r).length) := by
  by_cases h1 : r < 128
  · rw [q75 h1, decodeL_N]
    simp only [List.cons_append, List.nil_append, List.length_cons, List.length_nil, List.getD_cons_zero, q81 (show r < 256 by omega)]
    unfold decodeN
    rw [if_pos h1]
  by_cases h2 : r < 2048
  · rw [qap h1 h2, decodeL_N]
    simp only [List.cons_append, List.nil_append, List.length_cons, List.length_nil, List.getD_cons_zero, List.getD_cons_succ, q81 (show 192 + r / 64 < 256 by omega), q81 (show 128 + r % 64 < 256 by omega)]
    unfold decodeN
    rw [if_neg (by omega), if_pos ⟨by omega, by omega, by omega⟩, if_pos (by omega)]
    apply Prod.ext <;> simp only <;> omega
  by_cases h3 : r < 65536
  · rw [qc1 h2 h3 hs, decodeL_N]
    simp only [List.cons_append, List.nil_append, List.length_cons, List.length_nil, List.getD_cons_zero, List.getD_cons_succ, q81 (show 224 + r / 4096 < 256 by omega), q81 (show 128 + r / 64 % 64 < 256 by omega), q81 (show 128 + r % 64 < 256 by omega)]
    unfold decodeN
    unfold scal at hs
    rw [if_neg (by omega), if_neg (by omega), if_pos ⟨by omega, ⟨by omega, by omega⟩, by omega, by omega⟩, if_pos ⟨by omega, by omega⟩]
    apply Prod.ext <;> simp only <;> omega
  · rw [qej h3 hs, decodeL_N]
    unfold scal at hs
    simp only [List.cons_append, List.nil_append, List.length_cons, List.length_nil, List.getD_cons_zero, List.getD_cons_succ, q81 (show 240 + r / 262144 < 256 by omega), q81 (show 128 + r / 4096 % 64 < 256 by omega), q81 (show 128 + r / 64 % 64 < 256 by omega), q81 (show 128 + r % 64 < 256 by omega)]
    unfold decodeN
    rw [if_neg (by omega), if_neg (by omega), if_neg (by omega), if_pos ⟨by omega, ⟨by omega, by omega⟩, ⟨by omega, by omega⟩, by omega, by omega⟩, if_pos ⟨by omega, by omega⟩]
    apply Prod.ext <;> simp only <;> omega
theorem q44 {l : List UInt8} (hne : l ≠ []) (hg : ¬ ((decodeL l).1 = 65533 ∧ (decodeL l).2 = 1)) : enc (decodeL l).1 = l.take (decodeL l).2 ∧ scal (decodeL l).1 ∧ (decodeL l).2 ≤ l.length ∧ 1 ≤ (decodeL l).2 := by
  rw [decodeL_N] at hg ⊢
  match l, hne with
  | [a], _ =>
    have ha := a.toNat_lt
    simp only [List.length_cons, List.length_nil, List.getD_cons_zero, List.getD_cons_succ, List.getD_nil] at hg ⊢
    unfold decodeN at hg ⊢
    by_cases h1 : a.toNat < 128
    · rw [if_pos h1]
      exact ⟨by rw [q75 h1, q36 rfl]; rfl, .inl (by dsimp only; omega), by dsimp only; omega, by dsimp only; omega⟩
    · rw [if_neg h1, if_neg (by omega), if_neg (by omega), if_neg (by omega)] at hg
      exact absurd ⟨rfl, rfl⟩ hg
  | [a, b], _ =>
    have ha := a.toNat_lt
    have hb := b.toNat_lt
    simp only [List.length_cons, List.length_nil, List.getD_cons_zero, List.getD_cons_succ, List.getD_nil] at hg ⊢
    unfold decodeN at hg ⊢
    by_cases h1 : a.toNat < 128
    · rw [if_pos h1]
      exact ⟨by rw [q75 h1, q36 rfl]; rfl, .inl (by dsimp only; omega), by dsimp only; omega, by dsimp only; omega⟩
    rw [if_neg h1] at hg ⊢
    by_cases h2 : a.toNat / 32 = 6 ∧ (1 < 0 + 1 + 1 ∧ b.toNat / 64 = 2)
    · rw [if_pos h2] at hg ⊢
      by_cases h3 : a.toNat % 32 * 64 + b.toNat % 64 ≥ 128
      · rw [if_pos h3]
        exact ⟨by rw [qap (by omega) (by omega), q36 (b := a) (by omega), q36 (b := b) (by omega)]; rfl, .inl (by dsimp only; omega), by dsimp only; omega, by dsimp only; omega⟩
      · rw [if_neg h3] at hg
        exact absurd ⟨rfl, rfl⟩ hg
    · rw [if_neg h2, if_neg (by omega), if_neg (by omega)] at hg
      exact absurd ⟨rfl, rfl⟩ hg
  | [a, b, c], _ =>
    have ha := a.toNat_lt
    have hb := b.toNat_lt
    have hc := c.toNat_lt
    simp only [List.length_cons, List.length_nil, List.getD_cons_zero, List.getD_cons_succ, List.getD_nil] at hg ⊢
    unfold decodeN at hg ⊢
    by_cases h1 : a.toNat < 128
    · rw [if_pos h1]
      exact ⟨by rw [q75 h1, q36 rfl]; rfl, .inl (by dsimp only; omega), by dsimp only; omega, by dsimp only; omega⟩
    rw [if_neg h1] at hg ⊢
    by_cases h2 : a.toNat / 32 = 6 ∧ (1 < 0 + 1 + 1 + 1 ∧ b.toNat / 64 = 2)
    · rw [if_pos h2] at hg ⊢
      by_cases h3 : a.toNat % 32 * 64 + b.toNat % 64 ≥ 128
      · rw [if_pos h3]
        exact ⟨by rw [qap (by omega) (by omega), q36 (b := a) (by omega), q36 (b := b) (by omega)]; rfl, .inl (by dsimp only; omega), by dsimp only; omega, by dsimp only; omega⟩
      · rw [if_neg h3] at hg
        exact absurd ⟨rfl, rfl⟩ hg
    rw [if_neg h2] at hg ⊢
    split at hg
    · rename_i h4
      rw [if_pos h4]
      split at hg
      · rename_i h5
        rw [if_pos h5]
        have hs : scal (a.toNat % 16 * 4096 + b.toNat % 64 * 64 + c.toNat % 64) := h5.2
        exact ⟨by rw [qc1 (by omega) (by omega) hs, q36 (b := a) (by omega), q36 (b := b) (by omega), q36 (b := c) (by omega)]; rfl, hs, by dsimp only; omega, by dsimp only; omega⟩
      · exact absurd ⟨rfl, rfl⟩ hg
    · rw [if_neg (by omega)] at hg
      exact absurd ⟨rfl, rfl⟩ hg
  | a :: b :: c :: d :: r, _ =>
    have ha := a.toNat_lt
    have hb := b.toNat_lt
    have hc := c.toNat_lt
    have hd := d.toNat_lt
    simp only [List.length_cons, List.getD_cons_zero, List.getD_cons_succ] at hg ⊢
    unfold decodeN at hg ⊢
    by_cases h1 : a.toNat < 128
    · rw [if_pos h1]
      exact ⟨by rw [q75 h1, q36 rfl]; rfl, .inl (by dsimp only; omega), by dsimp only; omega, by dsimp only; omega⟩
    rw [if_neg h1] at hg ⊢
    by_cases h2 : a.toNat / 32 = 6 ∧ (1 < r.length + 1 + 1 + 1 + 1 ∧ b.toNat / 64 = 2)
    · rw [if_pos h2] at hg ⊢
      by_cases h3 : a.toNat % 32 * 64 + b.toNat % 64 ≥ 128
      · rw [if_pos h3]
        exact ⟨by rw [qap (by omega) (by omega), q36 (b := a) (by omega), q36 (b := b) (by omega)]; rfl, .inl (by dsimp only; omega), by dsimp only; omega, by dsimp only; omega⟩
      · rw [if_neg h3] at hg
        exact absurd ⟨rfl, rfl⟩ hg
    rw [if_neg h2] at hg ⊢
    split at hg
    · rename_i h4
      rw [if_pos h4]
      split at hg
      · rename_i h5
        rw [if_pos h5]
        have hs : scal (a.toNat % 16 * 4096 + b.toNat % 64 * 64 + c.toNat % 64) := h5.2
        exact ⟨by rw [qc1 (by omega) (by omega) hs, q36 (b := a) (by omega), q36 (b := b) (by omega), q36 (b := c) (by omega)]; rfl, hs, by dsimp only; omega, by dsimp only; omega⟩
      · exact absurd ⟨rfl, rfl⟩ hg
    · rename_i h4
      rw [if_neg h4]
      split at hg
      · rename_i h5
        rw [if_pos h5]
        split at hg
        · rename_i h6
          rw [if_pos h6]
          have hs : scal (a.toNat % 8 * 262144 + b.toNat % 64 * 4096 + c.toNat % 64 * 64 + d.toNat % 64) := h6.2
          exact ⟨by rw [qej (by omega) hs, q36 (b := a) (by omega), q36 (b := b) (by omega), q36 (b := c) (by omega), q36 (b := d) (by omega)]; rfl, hs, by dsimp only; omega, by dsimp only; omega⟩
        · exact absurd ⟨rfl, rfl⟩ hg
      · exact absurd ⟨rfl, rfl⟩ hg
/-! ### a text's signs -/
def rsF : Nat → List UInt8 → List Nat
  | 0, _ => []
  | n + 1, l => if l = [] then [] else (decodeL l).1 :: rsF n (l.drop (decodeL l).2)
theorem qdy : ∀ (n m : Nat) (l : List UInt8), l.length ≤ n → l.length ≤ m → rsF n l = rsF m l
  | 0, m, l, hn, _ => by
    have : l = [] := List.eq_nil_of_length_eq_zero (by omega)
    subst this
    cases m <;> simp [rsF]
  | n + 1, 0, l, _, hm => by
    have : l = [] := List.eq_nil_of_length_eq_zero (by omega)
    subst this
    simp [rsF]
  | n + 1, m + 1, l, hn, hm => by
    unfold rsF
    by_cases hne : l = []
    · simp [hne]
    · have hw := decodeL_width l
      have hl : 0 < l.length := List.length_pos_iff.2 hne
      rw [if_neg hne, if_neg hne, qdy n m (l.drop (decodeL l).2) (by rw [List.length_drop]; omega) (by rw [List.length_drop]; omega)]
def rs (l : List UInt8) : List Nat := rsF l.length l
theorem q31 : rs [] = [] := rfl
theorem q1o {l : List UInt8} (hne : l ≠ []) : rs l = (decodeL l).1 :: rs (l.drop (decodeL l).2) := by
  have hl : 0 < l.length := List.length_pos_iff.2 hne
  have hw := decodeL_width l
  obtain ⟨n, hn⟩ : ∃ n, l.length = n + 1 := ⟨l.length - 1, by omega⟩
  unfold rs
  rw [hn]
  show (if l = [] then [] else _) = _
  rw [if_neg hne, qdy n (l.drop (decodeL l).2).length _ (by rw [List.length_drop]; omega) (Nat.le_refl _)]
theorem q37 : ∀ (n : Nat) (l : List UInt8), l.length ≤ n → validD l = true → l = (rs l).flatMap enc ∧ ∀ r ∈ rs l, scal r
  | 0, l, hn, _ => by
    have : l = [] := List.eq_nil_of_length_eq_zero (by omega)
    subst this
    exact ⟨rfl, fun r hr => by cases hr⟩
  | n + 1, l, hn, hv => by
    by_cases hne : l = []
    · subst hne
      exact ⟨rfl, fun r hr => by cases hr⟩
    · rw [validD_step l hne] at hv
      by_cases hg : (decodeL l).1 = 65533 ∧ (decodeL l).2 = 1
      · rw [if_pos hg] at hv
        cases hv
      · rw [if_neg hg] at hv
        obtain ⟨h1, h2, h3, h4⟩ := q44 hne hg
        obtain ⟨g1, g2⟩ := q37 n (l.drop (decodeL l).2) (by rw [List.length_drop]; omega) hv
        rw [q1o hne]
        refine ⟨?_, fun r hr => ?_⟩
        · rw [List.flatMap_cons, h1, ← g1, List.take_append_drop]
        · rcases List.mem_cons.1 hr with rfl | hr
          · exact h2
          · exact g2 r hr
end Go.Den

/- DEN: texts in their order, sign by sign, byte by byte. No program is in sight. -/
set_option maxRecDepth 100000
namespace Go.Den
open Go Go.Lib
def lexR : List Nat → List Nat → Int
  | [], [] => 0
  | [], _ :: _ => -1
  | _ :: _, [] => 1
  | x :: p, y :: q => if x < y then -1 else if y < x then 1 else lexR p q
def nums (l : List UInt8) : List Nat := l.map UInt8.toNat
def lessR (a b : List UInt8) : Int := if validD a = true ∧ validD b = true then lexR (rs a) (rs b) else lexR (nums a) (nums b)
def revR (s : List UInt8) : List UInt8 := if validD s = true then (rs s).reverse.flatMap enc else []
theorem qdz (l : List UInt8) : ∀ (n pos : Nat), (l.drop pos).length ≤ n → runeL ⟨l.toArray⟩ n pos = (rs (l.drop pos)).map Int.ofNat
  | 0, pos, h => by
    have : l.drop pos = [] := List.eq_nil_of_length_eq_zero (by omega)
    rw [this]
    simp [runeL, q31]
  | n + 1, pos, h => by
    have hd := decodeL_drop ⟨l.toArray⟩ pos
    have e0 : (⟨l.toArray⟩ : ByteArray).data.toList = l := by simp
    rw [e0] at hd
    have hsz : (⟨l.toArray⟩ : ByteArray).size = l.length := by show l.toArray.size = _; simp
    unfold runeL
    rw [hsz]
    by_cases hp : pos < l.length
    · have hne : l.drop pos ≠ [] := by
        intro e
        have := congrArg List.length e
        simp at this
        omega
      have hw := decodeL_width (l.drop pos)
      rw [if_pos hp, q1o hne, List.map_cons, ← hd, qdz l n _ (by simp at h ⊢; omega), List.drop_drop]
      rfl
    · rw [if_neg hp]
      have : l.drop pos = [] := List.drop_of_length_le (by omega)
      rw [this]
      rfl
theorem q8y : ∀ (n : Nat) (l : List UInt8), l.length ≤ n → (rs l).length ≤ l.length
  | 0, l, h => by
    have : l = [] := List.eq_nil_of_length_eq_zero (by omega)
    subst this
    exact Nat.le_refl _
  | n + 1, l, h => by
    by_cases hne : l = []
    · subst hne; exact Nat.le_refl _
    · have hl : 0 < l.length := List.length_pos_iff.2 hne
      have hw := decodeL_width l
      have := q8y n (l.drop (decodeL l).2) (by rw [List.length_drop]; omega)
      rw [q1o hne, List.length_cons]
      rw [List.length_drop] at this
      omega
end Go.Den

/- DEN, tables: what exec wants to know of a function's regions, reckoned off its code (to be printed; not trusted). -/
namespace Go.Den
def q29 : Code → List (Nat × Array Oper × Bool)
  | .region id ops d => [(id, ops, d)]
  | .seq a b => q29 a ++ q29 b
  | .cond _ a b => q29 a ++ q29 b
  | .block _ a | .loop a | .scope a => q29 a
  | .rangeFunc _ _ a b => q29 a ++ q29 b
  | _ => []
def dinfo (E : Env) (sites : List (Nat × Nat × Nat)) (rid : Nat) (ops : Array Oper) : DInfo :=
  let b := Region.before ops
  let bf (i j : Nat) : Bool := (b.getD i 0).testBit j
  let wins := (List.range ops.size).filterMap fun i =>
    let o := ops.getD i default
    if reads o && !isLoud E (siteAt sites rid i o) o then
      let lo := q0b E sites rid ops fun j => bf i j
      let hi := q0b E sites rid ops fun j => !bf j i
      if lo < hi then some (i, lo, hi) else none
    else none
  let loud := (List.range ops.size).filter fun i => match ops[i]? with
    | some o => isLoud E (siteAt sites rid i o) o
    | none => false
  let swap := (loud.zip loud.tail).find? fun (i, j) => !bf j i
  { before := b.toList, wins, swap }
def qgk (E : Env) (sites : List (Nat × Nat × Nat)) (fn : Func) : List (Nat × DInfo) :=
  match fn.body with
  | some c => (q29 c).filterMap fun (id, ops, d) => if d then some (id, dinfo E sites id ops) else none
  | none => []
end Go.Den

/- DEN, part Zn: more entries of the model: a new row of whatever bytes; where a byte stands. -/
namespace Go.Den
open Go.RowKit
section
variable {E : Env}
def noZeroF (e : TypeId) (args : List AV) (H : Heap) : Option (AV × Heap) :=
  match args with
  | [.int .i64 n] => bif decide (0 ≤ n) && decide (n ≤ 281474976710656) then some (.sl H.length 0 0 n.toNat n.toNat, H ++ [.row 0 1 e []]) else none
  | _ => none
def indexByteF (args : List AV) (H : Heap) : Option (AV × Heap) :=
  match args with
  | [x, .int .u8 c] => match qbu x H with
    | some l => some (.int .i64 (Lib.indexByte l (byteOf c)), H)
    | none => none
  | _ => none
end
end Go.Den
