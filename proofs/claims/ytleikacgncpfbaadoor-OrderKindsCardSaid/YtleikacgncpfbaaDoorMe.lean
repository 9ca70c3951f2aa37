/- Texts put together: DenZm, DenU8, DenU9, DenT, DenZn. -/
import Derived.Test.YtleikacgncpfbaaDoorMd
import Derived.Lib.LaidU8
import Derived.Lib.ValidLaws
import Derived.Lib.TrimUEq
import Derived.Lib.MakeNoZero

/- DEN, part Zm: package variables that are laid. -/
namespace Go.Den
open Go.RowKit
mutual
def flatD {H : Type} : DataW H → Option (List AV)
  | .lit (.bool b) => some [.bool b]
  | .lit (.int k n) => some [.int k n]
  | .lit (.string s) => some [.str s]
  | .agg ds => flatDs ds
  | _ => none
def flatDs {H : Type} : List (DataW H) → Option (List AV)
  | [] => some []
  | d :: r => match flatD d with
    | some a => match flatDs r with
      | some b => some (a ++ b)
      | none => none
    | none => none
end
theorem q6b {H : Type} : ∀ {ds : List (DataW H)} {vs : List AV}, flatDs ds = some vs → ∃ vss : List (List AV), vss.length = ds.length ∧ vs = vss.flatten ∧ ∀ (i : Nat) (d : DataW H) (v : List AV), ds[i]? = some d → vss[i]? = some v → flatD d = some v
  | [], vs, h => by
    simp only [flatDs, Option.some.injEq] at h
    subst h
    exact ⟨[], rfl, rfl, fun i d v h => by simp at h⟩
  | d :: r, vs, h => by
    unfold flatDs at h
    split at h
    · rename_i a ha
      split at h
      · rename_i b hb
        simp only [Option.some.injEq] at h
        subst h
        obtain ⟨vss, h1, h2, h3⟩ := q6b hb
        refine ⟨a :: vss, by simp [h1], by simp [h2], fun i d' v hd hv => ?_⟩
        cases i with
        | zero =>
          simp only [List.getElem?_cons_zero, Option.some.injEq] at hd hv
          subst hd hv
          exact ha
        | succ i => exact h3 i d' v (by simpa using hd) (by simpa using hv)
      · cases h
    · cases h
theorem Vs.joinL {C : Ctx} {p : Bool} : ∀ {vss : List (List AV)} {css : List (List Value)}, vss.length = css.length → (∀ (i : Nat) (v : List AV) (cs : List Value), vss[i]? = some v → css[i]? = some cs → Vs C p v cs) → Vs C p vss.flatten css.flatten
  | [], [], _, _ => .nil _
  | [], _ :: _, h, _ => by simp at h
  | _ :: _, [], h, _ => by simp at h
  | v :: vs, cs :: css, hl, h => by
    simp only [List.flatten_cons]
    exact (h 0 v cs rfl rfl).append (Vs.joinL (by simpa using hl) fun i v' cs' h1 h2 => h (i + 1) v' cs' (by simpa using h1) (by simpa using h2))
section
variable {H : Type} {enc : TypeId × Value → H} {P : Program} {W : World} {sp : Nat → Bool} {hd : Bool}
def flatTy (P : Program) (ts : List TypeId) (t : TypeId) : Bool :=
  match P.underlying t with
  | some .bool | some (.int _) | some .string => true
  | some (.struct fs) => fs.toList.all (fun f => ts.contains f.type) && decide (contig P 0 fs.toList = some (P.cellsOf t))
  | some (.array n e) => ts.contains e && decide (n * P.cellsOf e = P.cellsOf t)
  | _ => false
theorem trod_flat {C : Ctx} {ts : List TypeId} (hts : ∀ t ∈ ts, flatTy P ts t = true) : ∀ (fuel : Nat) (t : TypeId) (cs : List Value) (d : DataW H) (q : List MemPlace) (vs : List AV), t ∈ ts → DataW.trod enc P W 0 sp hd fuel t cs = some (d, q) → flatD d = some vs →
    Vs C true vs cs ∧ ∀ c ∈ vs, c.one = true := by
  intro fuel
  induction fuel with
  | zero => intro t cs d q vs _ h; simp [DataW.trod] at h
  | succ fuel ih =>
    intro t cs d q vs ht h hf
    have hok := hts t ht
    unfold flatTy at hok
    split at hok
    · rename_i hu
      obtain ⟨b, rfl, hx⟩ := DataW.trod_bool hu h
      cases hx
      simp only [flatD, Option.some.injEq] at hf
      subst hf
      exact ⟨.cons _ _ _ _ _ (.bool _ _) (.nil _), by simp [AV.one]⟩
    · rename_i k hu
      obtain ⟨n, rfl, hx, hw⟩ := DataW.trod_int hu h
      cases hx
      simp only [flatD, Option.some.injEq] at hf
      subst hf
      exact ⟨.cons _ _ _ _ _ (.int _ _ _) (.nil _), by simp [AV.one]⟩
    · rename_i hu
      obtain ⟨s, rfl, hx, hs⟩ := DataW.trod_string hu h
      cases hx
      simp only [flatD, Option.some.injEq] at hf
      subst hf
      exact ⟨.cons _ _ _ _ _ (.str _ _) (.nil _), by simp [AV.one]⟩
    · rename_i fs hu
      simp only [Bool.and_eq_true, List.all_eq_true, List.contains_iff_mem, decide_eq_true_eq] at hok
      obtain ⟨xs, n, hn, hx, hcl, hxl, hget⟩ := DataW.trod_struct hu h
      injection hn with hn
      subst hn
      cases hx
      simp only [flatD] at hf
      obtain ⟨vss, h1, h2, h3⟩ := q6b hf
      subst h2
      have hp : ∀ (i : Nat) (f : Field) (v : List AV), fs[i]? = some f → vss[i]? = some v → Vs C true v ((cs.drop f.offset).take (P.cellsOf f.type)) ∧ ∀ c ∈ v, c.one = true := fun i f v hfi hv => by
        have hlt : i < fs.size := (Array.getElem?_eq_some_iff.1 hfi).1
        have hg := hget i f hfi
        rw [List.getElem?_eq_getElem (by omega)] at hg
        have hmem : f.type ∈ ts := hok.1 _ (Array.mem_toList_iff.2 (Array.mem_of_getElem? hfi))
        exact ih _ _ _ _ v hmem (hg.trans (by rfl)) (h3 i _ v (by rw [List.getElem?_map, List.getElem?_eq_getElem (by omega)]; rfl) hv)
      have hl : vss.length = fs.size := by rw [h1, List.length_map, hxl]
      have hfl : ((fs.toList.map fun f => (cs.drop f.offset).take (P.cellsOf f.type)) : List (List Value)).flatten = cs := by
        have := (q2x (cs := cs) (css := fs.toList.map fun f => (cs.drop f.offset).take (P.cellsOf f.type)) hok.2 (by simp) fun i f c hf hc => by
          rw [List.getElem?_map, hf] at hc
          simpa using hc.symm).1
        rw [this, ← hcl]
        simp
      constructor
      · rw [← hfl]
        refine Vs.joinL (by simp [hl]) fun i v c hv hc => ?_
        rw [List.getElem?_map] at hc
        cases hfi : fs.toList[i]? with
        | none => rw [hfi] at hc; cases hc
        | some f =>
          rw [hfi] at hc
          simp only [Option.map_some, Option.some.injEq] at hc
          subst hc
          exact (hp i f v (by simpa using hfi) hv).1
      · intro c hc
        obtain ⟨v, hv, hcv⟩ := List.mem_flatten.1 hc
        obtain ⟨i, hi, e⟩ := List.mem_iff_getElem.1 hv
        exact (hp i (fs[i]'(by omega)) v (Array.getElem?_eq_getElem _) (by rw [List.getElem?_eq_getElem hi, e])).2 c hcv
    · rename_i m e hu
      simp only [Bool.and_eq_true, List.contains_iff_mem, decide_eq_true_eq] at hok
      obtain ⟨xs, n, hn, hx, hcl, hxl, hget⟩ := DataW.trod_array hu h
      injection hn with hn
      subst hn
      cases hx
      simp only [flatD] at hf
      obtain ⟨vss, h1, h2, h3⟩ := q6b hf
      subst h2
      have hl : vss.length = m := by rw [h1, List.length_map, hxl]
      have hp : ∀ (i : Nat) (v : List AV), vss[i]? = some v → Vs C true v ((cs.drop (i * P.cellsOf e)).take (P.cellsOf e)) ∧ ∀ c ∈ v, c.one = true := fun i v hv => by
        have hlt : i < m := by rw [← hl]; exact (List.getElem?_eq_some_iff.1 hv).1
        have hg := hget i hlt
        rw [List.getElem?_eq_getElem (by omega)] at hg
        exact ih _ _ _ _ v hok.1 (hg.trans (by rfl)) (h3 i _ v (by rw [List.getElem?_map, List.getElem?_eq_getElem (by omega)]; rfl) hv)
      have hfl : ((List.range m).map fun i => (cs.drop (i * P.cellsOf e)).take (P.cellsOf e)).flatten = cs := q4l (n := P.cellsOf e) (fun i c hc => by
        rw [List.getElem?_map] at hc
        cases hr : (List.range m)[i]? with
        | none => rw [hr] at hc; cases hc
        | some j =>
          rw [hr] at hc
          obtain ⟨_, hj⟩ := List.getElem?_eq_some_iff.1 hr
          rw [List.getElem_range] at hj
          subst hj
          simpa using hc.symm) (by simp; rw [hcl]; exact hok.2)
      constructor
      · rw [← hfl]
        refine Vs.joinL (by simp [hl]) fun i v c hv hc => ?_
        rw [List.getElem?_map] at hc
        cases hr : (List.range m)[i]? with
        | none => rw [hr] at hc; cases hc
        | some j =>
          rw [hr] at hc
          obtain ⟨_, hj⟩ := List.getElem?_eq_some_iff.1 hr
          rw [List.getElem_range] at hj
          subst hj
          simp only [Option.map_some, Option.some.injEq] at hc
          subst hc
          exact (hp i v hv).1
      · intro c hc
        obtain ⟨v, hv, hcv⟩ := List.mem_flatten.1 hc
        obtain ⟨i, hi, e⟩ := List.mem_iff_getElem.1 hv
        exact (hp i v (by rw [List.getElem?_eq_getElem hi, e])).2 c hcv
    · cases hok
end
theorem q5i {P : Program} {W : World} {n : String} {d : DataW Unit} {ts : List TypeId} (hts : ∀ t ∈ ts, flatTy P ts t = true) (h : Lib.VarReads P W n d) {g : Nat} (hg : P.globalNamed n = some g)
    (ht : ∀ t, (P.globals[g]?).map (·.type) = some t → t ∈ ts) {cs : List AV} (hc : flatD d = some cs) : V (.outer W (immK W)) true (.rop cs) (.pointer (some ⟨g, 0, none⟩)) := by
  obtain ⟨g', t, us, fuel, p, h1, h2, h3, h4⟩ := h
  obtain rfl := Option.some.inj (hg.symm.trans h1)
  obtain ⟨k1, k2⟩ := trod_flat (C := .outer W (immK W)) hts fuel t us.toList d p cs (ht t h2) h4 hc
  have hb : g < W.heap.size := by
    simp only [World.var?, h1, Option.bind_some] at h3
    cases hh : W.heap[g]? with
    | none => simp [hh] at h3
    | some o => exact (Array.getElem?_eq_some_iff.1 hh).1
  exact .rop _ cs ⟨g, 0, none⟩ us.toList k2 k1 (fun j u hj => by
    have := World.var?_cell h1 h3 j
    rw [Array.getElem?_toList] at hj
    rw [Addr.add_lit, Nat.zero_add]
    show W.cell? ⟨g, j, none⟩ = some u
    rw [this]
    exact hj) (if_pos hb) hb
end Go.Den

/- DEN: texts as signs: what is decoded is encoded again. No program is in sight. -/
set_option maxRecDepth 100000
namespace Go.Den
open Go Go.Lib
def enc (r : Nat) : List UInt8 := (Utf8.encode (r : Int)).data.toList
def scal (r : Nat) : Prop := r < 55296 ∨ (57344 ≤ r ∧ r ≤ 1114111)
theorem q4h {r : Nat} (h : scal r) : Utf8.valid (r : Int) = true := by
  unfold scal at h
  simp [Utf8.valid]
  omega
theorem qho {r : Nat} (h : r < 128) : enc r = [UInt8.ofNat r] := by
  have v := q4h (r := r) (.inl (by omega))
  unfold enc
  simp [Utf8.encode, v, h]
theorem enc_2 {r : Nat} (h : ¬ r < 128) (h2 : r < 2048) : enc r = [UInt8.ofNat (192 + r / 64), UInt8.ofNat (128 + r % 64)] := by
  have v := q4h (r := r) (.inl (by omega))
  unfold enc
  simp [Utf8.encode, v, h, h2]
theorem enc_3 {r : Nat} (h2 : ¬ r < 2048) (h3 : r < 65536) (hs : scal r) : enc r = [UInt8.ofNat (224 + r / 4096), UInt8.ofNat (128 + r / 64 % 64), UInt8.ofNat (128 + r % 64)] := by
  have v := q4h hs
  have h : ¬ r < 128 := by omega
  unfold enc
  simp [Utf8.encode, v, h, h2, h3]
theorem enc_4 {r : Nat} (h3 : ¬ r < 65536) (hs : scal r) : enc r = [UInt8.ofNat (240 + r / 262144), UInt8.ofNat (128 + r / 4096 % 64), UInt8.ofNat (128 + r / 64 % 64), UInt8.ofNat (128 + r % 64)] := by
  have v := q4h hs
  have h : ¬ r < 128 := by omega
  have h2 : ¬ r < 2048 := by omega
  unfold enc
  simp [Utf8.encode, v, h, h2, h3]
theorem q90 {x : Nat} (h : x < 256) : (UInt8.ofNat x).toNat = x := by
  rw [UInt8.toNat_ofNat']
  omega
theorem q3b {x : Nat} {b : UInt8} (h : x = b.toNat) : UInt8.ofNat x = b := by
  have := b.toNat_lt
  exact UInt8.toNat_inj.1 (by rw [q90 (by omega), h])
theorem dec_enc {r : Nat} (hs : scal r) (rest : List UInt8) : decodeL (enc r ++ rest) = (r, (enc r).length) := by
  by_cases h1 : r < 128
  · rw [qho h1, decodeL_N]
    simp only [List.cons_append, List.nil_append, List.length_cons, List.length_nil, List.getD_cons_zero, q90 (show r < 256 by omega)]
    unfold decodeN
    rw [if_pos h1]
  by_cases h2 : r < 2048
  · rw [enc_2 h1 h2, decodeL_N]
    simp only [List.cons_append, List.nil_append, List.length_cons, List.length_nil, List.getD_cons_zero, List.getD_cons_succ, q90 (show 192 + r / 64 < 256 by omega), q90 (show 128 + r % 64 < 256 by omega)]
    unfold decodeN
    rw [if_neg (by omega), if_pos ⟨by omega, by omega, by omega⟩, if_pos (by omega)]
    apply Prod.ext <;> simp only <;> omega
  by_cases h3 : r < 65536
  · rw [enc_3 h2 h3 hs, decodeL_N]
    simp only [List.cons_append, List.nil_append, List.length_cons, List.length_nil, List.getD_cons_zero, List.getD_cons_succ, q90 (show 224 + r / 4096 < 256 by omega), q90 (show 128 + r / 64 % 64 < 256 by omega), q90 (show 128 + r % 64 < 256 by omega)]
    unfold decodeN
    unfold scal at hs
    rw [if_neg (by omega), if_neg (by omega), if_pos ⟨by omega, ⟨by omega, by omega⟩, by omega, by omega⟩, if_pos ⟨by omega, by omega⟩]
    apply Prod.ext <;> simp only <;> omega
  · rw [enc_4 h3 hs, decodeL_N]
    unfold scal at hs
    simp only [List.cons_append, List.nil_append, List.length_cons, List.length_nil, List.getD_cons_zero, List.getD_cons_succ, q90 (show 240 + r / 262144 < 256 by omega), q90 (show 128 + r / 4096 % 64 < 256 by omega), q90 (show 128 + r / 64 % 64 < 256 by omega), q90 (show 128 + r % 64 < 256 by omega)]
    unfold decodeN
    rw [if_neg (by omega), if_neg (by omega), if_neg (by omega), if_pos ⟨by omega, ⟨by omega, by omega⟩, ⟨by omega, by omega⟩, by omega, by omega⟩, if_pos ⟨by omega, by omega⟩]
    apply Prod.ext <;> simp only <;> omega
theorem qew {l : List UInt8} (hne : l ≠ []) (hg : ¬ ((decodeL l).1 = 65533 ∧ (decodeL l).2 = 1)) : enc (decodeL l).1 = l.take (decodeL l).2 ∧ scal (decodeL l).1 ∧ (decodeL l).2 ≤ l.length ∧ 1 ≤ (decodeL l).2 := by
  rw [decodeL_N] at hg ⊢
  match l, hne with
  | [a], _ =>
    have ha := a.toNat_lt
    simp only [List.length_cons, List.length_nil, List.getD_cons_zero, List.getD_cons_succ, List.getD_nil] at hg ⊢
    unfold decodeN at hg ⊢
    by_cases h1 : a.toNat < 128
    · rw [if_pos h1]
      exact ⟨by rw [qho h1, q3b rfl]; rfl, .inl (by dsimp only; omega), by dsimp only; omega, by dsimp only; omega⟩
    · rw [if_neg h1, if_neg (by omega), if_neg (by omega), if_neg (by omega)] at hg
      exact absurd ⟨rfl, rfl⟩ hg
  | [a, b], _ =>
    have ha := a.toNat_lt
    have hb := b.toNat_lt
    simp only [List.length_cons, List.length_nil, List.getD_cons_zero, List.getD_cons_succ, List.getD_nil] at hg ⊢
    unfold decodeN at hg ⊢
    by_cases h1 : a.toNat < 128
    · rw [if_pos h1]
      exact ⟨by rw [qho h1, q3b rfl]; rfl, .inl (by dsimp only; omega), by dsimp only; omega, by dsimp only; omega⟩
    rw [if_neg h1] at hg ⊢
    by_cases h2 : a.toNat / 32 = 6 ∧ (1 < 0 + 1 + 1 ∧ b.toNat / 64 = 2)
    · rw [if_pos h2] at hg ⊢
      by_cases h3 : a.toNat % 32 * 64 + b.toNat % 64 ≥ 128
      · rw [if_pos h3]
        exact ⟨by rw [enc_2 (by omega) (by omega), q3b (b := a) (by omega), q3b (b := b) (by omega)]; rfl, .inl (by dsimp only; omega), by dsimp only; omega, by dsimp only; omega⟩
      · rw [if_neg h3] at hg
        exact absurd ⟨rfl, rfl⟩ hg
    · rw [if_neg h2, if_neg (by omega), if_neg (by omega)] at hg
      exact absurd ⟨rfl, rfl⟩ hg
  | [a, b, c], _ =>
    have ha := a.toNat_lt
    have hb := b.toNat_lt
    have hc := c.toNat_lt
    simp only [List.length_cons, List.length_nil, List.getD_cons_zero, List.getD_cons_succ, List.getD_nil] at hg ⊢
    unfold decodeN at hg ⊢
    by_cases h1 : a.toNat < 128
    · rw [if_pos h1]
      exact ⟨by rw [qho h1, q3b rfl]; rfl, .inl (by dsimp only; omega), by dsimp only; omega, by dsimp only; omega⟩
    rw [if_neg h1] at hg ⊢
    by_cases h2 : a.toNat / 32 = 6 ∧ (1 < 0 + 1 + 1 + 1 ∧ b.toNat / 64 = 2)
    · rw [if_pos h2] at hg ⊢
      by_cases h3 : a.toNat % 32 * 64 + b.toNat % 64 ≥ 128
      · rw [if_pos h3]
        exact ⟨by rw [enc_2 (by omega) (by omega), q3b (b := a) (by omega), q3b (b := b) (by omega)]; rfl, .inl (by dsimp only; omega), by dsimp only; omega, by dsimp only; omega⟩
      · rw [if_neg h3] at hg
        exact absurd ⟨rfl, rfl⟩ hg
    rw [if_neg h2] at hg ⊢
    split at hg
    · rename_i h4
      rw [if_pos h4]
      split at hg
      · rename_i h5
        rw [if_pos h5]
        have hs : scal (a.toNat % 16 * 4096 + b.toNat % 64 * 64 + c.toNat % 64) := h5.2
        exact ⟨by rw [enc_3 (by omega) (by omega) hs, q3b (b := a) (by omega), q3b (b := b) (by omega), q3b (b := c) (by omega)]; rfl, hs, by dsimp only; omega, by dsimp only; omega⟩
      · exact absurd ⟨rfl, rfl⟩ hg
    · rw [if_neg (by omega)] at hg
      exact absurd ⟨rfl, rfl⟩ hg
  | a :: b :: c :: d :: r, _ =>
    have ha := a.toNat_lt
    have hb := b.toNat_lt
    have hc := c.toNat_lt
    have hd := d.toNat_lt
    simp only [List.length_cons, List.getD_cons_zero, List.getD_cons_succ] at hg ⊢
    unfold decodeN at hg ⊢
    by_cases h1 : a.toNat < 128
    · rw [if_pos h1]
      exact ⟨by rw [qho h1, q3b rfl]; rfl, .inl (by dsimp only; omega), by dsimp only; omega, by dsimp only; omega⟩
    rw [if_neg h1] at hg ⊢
    by_cases h2 : a.toNat / 32 = 6 ∧ (1 < r.length + 1 + 1 + 1 + 1 ∧ b.toNat / 64 = 2)
    · rw [if_pos h2] at hg ⊢
      by_cases h3 : a.toNat % 32 * 64 + b.toNat % 64 ≥ 128
      · rw [if_pos h3]
        exact ⟨by rw [enc_2 (by omega) (by omega), q3b (b := a) (by omega), q3b (b := b) (by omega)]; rfl, .inl (by dsimp only; omega), by dsimp only; omega, by dsimp only; omega⟩
      · rw [if_neg h3] at hg
        exact absurd ⟨rfl, rfl⟩ hg
    rw [if_neg h2] at hg ⊢
    split at hg
    · rename_i h4
      rw [if_pos h4]
      split at hg
      · rename_i h5
        rw [if_pos h5]
        have hs : scal (a.toNat % 16 * 4096 + b.toNat % 64 * 64 + c.toNat % 64) := h5.2
        exact ⟨by rw [enc_3 (by omega) (by omega) hs, q3b (b := a) (by omega), q3b (b := b) (by omega), q3b (b := c) (by omega)]; rfl, hs, by dsimp only; omega, by dsimp only; omega⟩
      · exact absurd ⟨rfl, rfl⟩ hg
    · rename_i h4
      rw [if_neg h4]
      split at hg
      · rename_i h5
        rw [if_pos h5]
        split at hg
        · rename_i h6
          rw [if_pos h6]
          have hs : scal (a.toNat % 8 * 262144 + b.toNat % 64 * 4096 + c.toNat % 64 * 64 + d.toNat % 64) := h6.2
          exact ⟨by rw [enc_4 (by omega) hs, q3b (b := a) (by omega), q3b (b := b) (by omega), q3b (b := c) (by omega), q3b (b := d) (by omega)]; rfl, hs, by dsimp only; omega, by dsimp only; omega⟩
        · exact absurd ⟨rfl, rfl⟩ hg
      · exact absurd ⟨rfl, rfl⟩ hg
/-! ### a text's signs -/
def rsF : Nat → List UInt8 → List Nat
  | 0, _ => []
  | n + 1, l => if l = [] then [] else (decodeL l).1 :: rsF n (l.drop (decodeL l).2)
theorem qfw : ∀ (n m : Nat) (l : List UInt8), l.length ≤ n → l.length ≤ m → rsF n l = rsF m l
  | 0, m, l, hn, _ => by
    have : l = [] := List.eq_nil_of_length_eq_zero (by omega)
    subst this
    cases m <;> simp [rsF]
  | n + 1, 0, l, _, hm => by
    have : l = [] := List.eq_nil_of_length_eq_zero (by omega)
    subst this
    simp [rsF]
  | n + 1, m + 1, l, hn, hm => by
    unfold rsF
    by_cases hne : l = []
    · simp [hne]
    · have hw := decodeL_width l
      have hl : 0 < l.length := List.length_pos_iff.2 hne
      rw [if_neg hne, if_neg hne, qfw n m (l.drop (decodeL l).2) (by rw [List.length_drop]; omega) (by rw [List.length_drop]; omega)]
def rs (l : List UInt8) : List Nat := rsF l.length l
theorem rs_nil : rs [] = [] := rfl
theorem q53 {l : List UInt8} (hne : l ≠ []) : rs l = (decodeL l).1 :: rs (l.drop (decodeL l).2) := by
  have hl : 0 < l.length := List.length_pos_iff.2 hne
  have hw := decodeL_width l
  obtain ⟨n, hn⟩ : ∃ n, l.length = n + 1 := ⟨l.length - 1, by omega⟩
  unfold rs
  rw [hn]
  show (if l = [] then [] else _) = _
  rw [if_neg hne, qfw n (l.drop (decodeL l).2).length _ (by rw [List.length_drop]; omega) (Nat.le_refl _)]
theorem q6t : ∀ (n : Nat) (l : List UInt8), l.length ≤ n → validD l = true → l = (rs l).flatMap enc ∧ ∀ r ∈ rs l, scal r
  | 0, l, hn, _ => by
    have : l = [] := List.eq_nil_of_length_eq_zero (by omega)
    subst this
    exact ⟨rfl, fun r hr => by cases hr⟩
  | n + 1, l, hn, hv => by
    by_cases hne : l = []
    · subst hne
      exact ⟨rfl, fun r hr => by cases hr⟩
    · rw [validD_step l hne] at hv
      by_cases hg : (decodeL l).1 = 65533 ∧ (decodeL l).2 = 1
      · rw [if_pos hg] at hv
        cases hv
      · rw [if_neg hg] at hv
        obtain ⟨h1, h2, h3, h4⟩ := qew hne hg
        obtain ⟨g1, g2⟩ := q6t n (l.drop (decodeL l).2) (by rw [List.length_drop]; omega) hv
        rw [q53 hne]
        refine ⟨?_, fun r hr => ?_⟩
        · rw [List.flatMap_cons, h1, ← g1, List.take_append_drop]
        · rcases List.mem_cons.1 hr with rfl | hr
          · exact h2
          · exact g2 r hr
end Go.Den

/- DEN: texts in their order, sign by sign, byte by byte. No program is in sight. -/
set_option maxRecDepth 100000
namespace Go.Den
open Go Go.Lib
def lexR : List Nat → List Nat → Int
  | [], [] => 0
  | [], _ :: _ => -1
  | _ :: _, [] => 1
  | x :: p, y :: q => if x < y then -1 else if y < x then 1 else lexR p q
theorem qfc : ∀ a : List Nat, lexR a a = 0
  | [] => rfl
  | x :: p => by unfold lexR; rw [if_neg (by omega), if_neg (by omega), qfc p]
theorem q7f : ∀ a b : List Nat, lexR b a = -lexR a b
  | [], [] => rfl
  | [], _ :: _ => rfl
  | _ :: _, [] => rfl
  | x :: p, y :: q => by
    unfold lexR
    by_cases h1 : x < y
    · rw [if_pos h1, if_neg (by omega), if_pos h1]; rfl
    · by_cases h2 : y < x
      · rw [if_pos h2, if_neg h1, if_pos h2]
      · rw [if_neg h2, if_neg h1, if_neg h1, if_neg h2, q7f p q]
theorem q4c : ∀ a b : List Nat, lexR a b = 0 ↔ a = b
  | [], [] => by simp [lexR]
  | [], _ :: _ => by simp [lexR]
  | _ :: _, [] => by simp [lexR]
  | x :: p, y :: q => by
    unfold lexR
    by_cases h1 : x < y
    · rw [if_pos h1]
      refine ⟨fun h => by omega, fun h => ?_⟩
      injection h with h _
      omega
    · by_cases h2 : y < x
      · rw [if_neg h1, if_pos h2]
        refine ⟨fun h => by omega, fun h => ?_⟩
        injection h with h _
        omega
      · rw [if_neg h1, if_neg h2, q4c p q]
        have : x = y := by omega
        simp [this]
theorem q8h : ∀ a b : List Nat, lexR a b = -1 ∨ lexR a b = 0 ∨ lexR a b = 1
  | [], [] => by simp [lexR]
  | [], _ :: _ => by simp [lexR]
  | _ :: _, [] => by simp [lexR]
  | x :: p, y :: q => by
    unfold lexR
    have := q8h p q
    repeat' split
    all_goals omega
def nums (l : List UInt8) : List Nat := l.map UInt8.toNat
theorem qfm {a b : List UInt8} (h : nums a = nums b) : a = b := by
  induction a generalizing b with
  | nil =>
    cases b with
    | nil => rfl
    | cons => cases h
  | cons x a ih =>
    cases b with
    | nil => cases h
    | cons y b =>
      simp only [nums, List.map_cons, List.cons.injEq] at h
      rw [UInt8.toNat_inj.1 h.1, ih h.2]
theorem q7v : ∀ a b : List UInt8, Op.bytesLess a b = decide (lexR (nums a) (nums b) < 0)
  | [], [] => rfl
  | [], _ :: _ => rfl
  | _ :: _, [] => rfl
  | x :: p, y :: q => by
    have ih := q7v p q
    unfold Op.bytesLess
    show _ = decide ((if x.toNat < y.toNat then -1 else if y.toNat < x.toNat then 1 else lexR (nums p) (nums q)) < (0 : Int))
    rw [ih]
    by_cases h1 : x.toNat < y.toNat
    · have : x < y := h1
      rw [if_pos h1]
      simp [this]
    · have n1 : ¬ x < y := h1
      by_cases h2 : y.toNat < x.toNat
      · have : ¬ x = y := fun e => by subst e; omega
        rw [if_neg h1, if_pos h2]
        simp [n1, this]
      · have : x = y := UInt8.toNat_inj.1 (by omega)
        subst this
        rw [if_neg h1, if_neg h2]
        simp
def lessR (a b : List UInt8) : Int := if validD a = true ∧ validD b = true then lexR (rs a) (rs b) else lexR (nums a) (nums b)
theorem qix (a b : List UInt8) : lessR b a = -lessR a b := by
  unfold lessR
  by_cases h : validD a = true ∧ validD b = true
  · rw [if_pos h, if_pos ⟨h.2, h.1⟩, q7f]
  · rw [if_neg h, if_neg (fun g => h ⟨g.2, g.1⟩), q7f]
theorem rs_inj {a b : List UInt8} (ha : validD a = true) (hb : validD b = true) (h : rs a = rs b) : a = b := by
  rw [(q6t _ a (Nat.le_refl _) ha).1, (q6t _ b (Nat.le_refl _) hb).1, h]
theorem qcn (a b : List UInt8) : lessR a b = 0 ↔ a = b := by
  unfold lessR
  by_cases h : validD a = true ∧ validD b = true
  · rw [if_pos h, q4c]
    exact ⟨fun e => rs_inj h.1 h.2 e, fun e => by rw [e]⟩
  · rw [if_neg h, q4c]
    exact ⟨fun e => qfm e, fun e => by rw [e]⟩
def revR (s : List UInt8) : List UInt8 := if validD s = true then (rs s).reverse.flatMap enc else []
end Go.Den

/- DEN, tables: what exec wants to know of a function's regions, reckoned off its code (to be printed; not trusted). -/
namespace Go.Den
def q26 : Code → List (Nat × Array Oper × Bool)
  | .region id ops d => [(id, ops, d)]
  | .seq a b => q26 a ++ q26 b
  | .cond _ a b => q26 a ++ q26 b
  | .block _ a | .loop a | .scope a => q26 a
  | .rangeFunc _ _ a b => q26 a ++ q26 b
  | _ => []
def dinfo (E : Env) (sites : List (Nat × Nat × Nat)) (rid : Nat) (ops : Array Oper) : DInfo :=
  let b := Region.before ops
  let bf (i j : Nat) : Bool := (b.getD i 0).testBit j
  let wins := (List.range ops.size).filterMap fun i =>
    let o := ops.getD i default
    if reads o && !isLoud E (siteAt sites rid i o) o then
      let lo := q0f E sites rid ops fun j => bf i j
      let hi := q0f E sites rid ops fun j => !bf j i
      if lo < hi then some (i, lo, hi) else none
    else none
  let loud := (List.range ops.size).filter fun i => match ops[i]? with
    | some o => isLoud E (siteAt sites rid i o) o
    | none => false
  let swap := (loud.zip loud.tail).find? fun (i, j) => !bf j i
  { before := b.toList, wins, swap }
def qj7 (E : Env) (sites : List (Nat × Nat × Nat)) (fn : Func) : List (Nat × DInfo) :=
  match fn.body with
  | some c => (q26 c).filterMap fun (id, ops, d) => if d then some (id, dinfo E sites id ops) else none
  | none => []
end Go.Den

/- DEN, part Zn: more entries of the model: a new row of whatever bytes; where a byte stands. -/
namespace Go.Den
open Go.RowKit
section
variable {E : Env}
def noZeroF (e : TypeId) (args : List AV) (H : Heap) : Option (AV × Heap) :=
  match args with
  | [.int .i64 n] => bif decide (0 ≤ n) && decide (n ≤ 281474976710656) then some (.sl H.length 0 0 n.toNat n.toNat, H ++ [.row 0 1 e []]) else none
  | _ => none
def indexByteF (args : List AV) (H : Heap) : Option (AV × Heap) :=
  match args with
  | [x, .int .u8 c] => match q4t x H with
    | some l => some (.int .i64 (Lib.indexByte l (byteOf c)), H)
    | none => none
  | _ => none
end
end Go.Den
