/- DEN, part Zj: what the values of a type are. -/
import Derived.Test.YtmeimiflflilpaaDenZh
import Derived.Test.YtmeimiflflilpaaDenSd
namespace Go.Den

section
variable {P : Program} {n : Nat} {t e : TypeId} {v : AV} {k : IntKind}

theorem Ty.int (h : Ty P n t v) (ht : P.underlying t = some (.int k)) : ∃ i, v = .int k i ∧ k.min ≤ i ∧ i ≤ k.max := by
  cases n with
  | zero => cases h
  | succ n =>
    unfold Ty at h
    rw [ht] at h
    exact h

theorem Ty.bool (h : Ty P n t v) (ht : P.underlying t = some .bool) : ∃ b, v = .bool b := by
  cases n with
  | zero => cases h
  | succ n =>
    unfold Ty at h
    rw [ht] at h
    exact h

theorem Ty.str (h : Ty P n t v) (ht : P.underlying t = some .string) : ∃ l : List UInt8, v = .str l ∧ l.length ≤ maxLen := by
  cases n with
  | zero => cases h
  | succ n =>
    unfold Ty at h
    rw [ht] at h
    exact h

theorem Ty.slice (h : Ty P n t v) (ht : P.underlying t = some (.slice e)) : ∃ (m : Nat) (es : List AV), n = m + 1 ∧ Im (P.cellsOf e) v es ∧ es.length ≤ maxLen ∧ ∀ x ∈ es, Ty P m e x := by
  cases n with
  | zero => cases h
  | succ n =>
    unfold Ty at h
    rw [ht] at h
    rcases h with rfl | ⟨es, rfl, h1, h2⟩
    · exact ⟨n, [], rfl, .nil, by simp, by simp⟩
    · exact ⟨n, es, rfl, .sh es, h1, h2⟩

theorem Ty.struct (h : Ty P n t v) {fs : Array Field} (ht : P.underlying t = some (.struct fs)) : ∃ (m : Nat) (vs : List AV), n = m + 1 ∧ v = .agg (vs.flatMap AV.cells) ∧ vs.length = fs.size ∧
    ∀ (i : Nat) (f : Field) (x : AV), fs[i]? = some f → vs[i]? = some x → Ty P m f.type x ∧ x.cells.length = P.cellsOf f.type := by
  cases n with
  | zero => cases h
  | succ n =>
    unfold Ty at h
    rw [ht] at h
    obtain ⟨vs, h1, h2, h3⟩ := h
    exact ⟨n, vs, rfl, h1, h2, h3⟩

/-- All of a kind: one list. -/
theorem map_of_all {α : Type} {f : α → AV} {p : α → Prop} : ∀ {es : List AV}, (∀ x ∈ es, ∃ a, x = f a ∧ p a) → ∃ l : List α, es = l.map f ∧ ∀ a ∈ l, p a
  | [], _ => ⟨[], rfl, by simp⟩
  | x :: es, h => by
    obtain ⟨a, rfl, ha⟩ := h x List.mem_cons_self
    obtain ⟨l, rfl, hl⟩ := map_of_all (f := f) (p := p) (es := es) fun y hy => h y (List.mem_cons_of_mem _ hy)
    exact ⟨a :: l, rfl, by simp only [List.mem_cons, forall_eq_or_imp]; exact ⟨ha, hl⟩⟩

theorem Ty.ints (h : Ty P n t v) (ht : P.underlying t = some (.slice e)) (he : P.underlying e = some (.int k)) (hc : P.cellsOf e = 1) : ∃ l : List Int, Im 1 v (l.map (AV.int k)) ∧ (∀ x ∈ l, k.min ≤ x ∧ x ≤ k.max) ∧ l.length ≤ maxLen := by
  obtain ⟨m, es, rfl, h1, h2, h3⟩ := h.slice ht
  obtain ⟨l, rfl, hl⟩ := map_of_all (f := AV.int k) (p := fun x => k.min ≤ x ∧ x ≤ k.max) fun x hx => (h3 x hx).int he
  rw [hc] at h1
  exact ⟨l, h1, hl, by simpa using h2⟩
end
end Go.Den
