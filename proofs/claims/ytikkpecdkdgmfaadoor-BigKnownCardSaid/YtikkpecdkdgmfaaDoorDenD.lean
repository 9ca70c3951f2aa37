/- DEN, part D: what it means that an abstract value stands for a value of memory; what a step may change. -/
import Derived.Test.YtikkpecdkdgmfaaDoorDenC
import Derived.WalkKit
namespace Go.Den
open Go.RowKit

/-! ### slots -/
namespace Tr
variable {α : Type} {z : α}
theorem get_set_ne : ∀ {t : Tr α} {i j : Nat} {x : α}, i ≠ j → get z (set t i x) j = get z t j
  | .lf, _, _, _, _ => rfl
  | .nd l v r, i, j, x, h => by
    unfold set
    by_cases hi : i = 0
    · subst hi
      have hj : Nat.beq j 0 = false := by
        cases hb : Nat.beq j 0
        · rfl
        · exact absurd (Nat.eq_of_beq_eq_true hb).symm h
      have h0 : Nat.beq 0 0 = true := rfl
      simp only [h0, cond_true]
      simp only [get, hj, cond_false]
    · have hi' : Nat.beq i 0 = false := by
        cases hb : Nat.beq i 0
        · rfl
        · exact absurd (Nat.eq_of_beq_eq_true hb) hi
      simp only [hi', cond_false]
      cases hm : Nat.beq (i % 2) 1
      · simp only [cond_false, get]
        cases hj0 : Nat.beq j 0
        · simp only [cond_false]
          cases hj1 : Nat.beq (j % 2) 1
          · simp only [cond_false]
            refine get_set_ne (t := r) ?_
            intro e
            have h1 : i % 2 = 0 := by
              have := Nat.mod_two_eq_zero_or_one i
              rcases this with h | h
              · exact h
              · rw [h] at hm; simp at hm
            have h2 : j % 2 = 0 := by
              have := Nat.mod_two_eq_zero_or_one j
              rcases this with h | h
              · exact h
              · rw [h] at hj1; simp at hj1
            have : j ≠ 0 := by intro e; subst e; simp at hj0
            omega
          · simp only [cond_true]
        · simp only [cond_true]
      · simp only [cond_true, get]
        cases hj0 : Nat.beq j 0
        · simp only [cond_false]
          cases hj1 : Nat.beq (j % 2) 1
          · simp only [cond_false]
          · simp only [cond_true]
            refine get_set_ne (t := l) ?_
            intro e
            have h1 := Nat.eq_of_beq_eq_true hm
            have h2 := Nat.eq_of_beq_eq_true hj1
            omega
        · simp only [cond_true]
theorem get_set_self : ∀ {t : Tr α} {i : Nat} {x : α}, get z (set t i x) i = x ∨ (get z (set t i x) i = z ∧ get z t i = z)
  | .lf, _, _ => .inr ⟨rfl, rfl⟩
  | .nd l v r, i, x => by
    unfold set
    cases hi : Nat.beq i 0
    · simp only [cond_false]
      cases hm : Nat.beq (i % 2) 1
      · simp only [cond_false, get, hi, hm]
        exact get_set_self
      · simp only [cond_true, get, hi, hm, cond_false]
        exact get_set_self
    · simp only [cond_true, get, hi]
      exact .inl trivial
theorem get_full : ∀ (d i : Nat), get z (full z d) i = z
  | 0, _ => rfl
  | d + 1, i => by
    unfold full get
    cases Nat.beq i 0
    · cases Nat.beq (i % 2) 1
      · exact get_full d _
      · exact get_full d _
    · rfl
/-- What a tree that was made out of a list holds. -/
theorem get_mk {d : Nat} (l : List (Nat × α)) (i : Nat) : get z (mk z d l) i = z ∨ (i, get z (mk z d l) i) ∈ l := by
  have key : ∀ (l : List (Nat × α)) (t : Tr α), get z (l.foldl (fun t p => t.set p.1 p.2) t) i = get z t i ∨ get z (l.foldl (fun t p => t.set p.1 p.2) t) i = z ∨ (i, get z (l.foldl (fun t p => t.set p.1 p.2) t) i) ∈ l := by
    intro l
    induction l with
    | nil => exact fun t => .inl rfl
    | cons p l ih =>
      intro t
      rcases ih (t.set p.1 p.2) with h | h | h
      · by_cases e : p.1 = i
        · rcases get_set_self (z := z) (t := t) (i := i) (x := p.2) with h2 | h2
          · refine .inr (.inr ?_)
            simp only [List.foldl_cons]
            rw [h, e, h2, ← e]
            exact List.mem_cons_self
          · refine .inr (.inl ?_)
            simp only [List.foldl_cons]
            rw [h, e, h2.1]
        · refine .inl ?_
          simp only [List.foldl_cons]
          rw [h, get_set_ne e]
      · exact .inr (.inl h)
      · exact .inr (.inr (List.mem_cons_of_mem _ h))
  rcases key l (full z d) with h | h | h
  · exact .inl (h.trans (get_full d i))
  · exact .inl h
  · exact .inr h
end Tr

/-! ### the roles of blocks -/
inductive Role where
  | imm
  | obj (id : Nat)
  | loc (site : Nat)
  | oth

/-- A moment: the world; each block's role; where each object of the small heap lies (its block, its first cell); the small heap. -/
structure Ctx where
  w : World
  κ : Nat → Role
  ρ : Nat → Nat × Nat
  H : Heap

def PtrOk (C : Ctx) (id ver i off : Nat) (u : Value) : Prop :=
  id < C.H.length ∧ ∀ v sz ty es, C.H[id]? = some (.row v sz ty es) → ver ≤ v ∧ (ver = v → u = .pointer (some ⟨(C.ρ id).1, (C.ρ id).2 + (i * sz + off), none⟩))

def SlOk (C : Ctx) (id ver off n cap : Nat) (u : Value) : Prop :=
  id < C.H.length ∧ ∀ v sz ty es, C.H[id]? = some (.row v sz ty es) → ver ≤ v ∧ (ver = v → ∃ a c, u = .slice (some a) n c ∧ n ≤ cap ∧ cap ≤ c ∧ c ≤ maxLen ∧
    (0 < c → a = ⟨(C.ρ id).1, (C.ρ id).2 + off * sz, none⟩) ∧ ∀ cells t fr, C.w.heap[(C.ρ id).1]? = some (.cells cells t fr) → (C.ρ id).2 + (off + c) * sz ≤ cells.size)

def ItOk (C : Ctx) (id : Nat) (u : Value) : Prop :=
  id < C.H.length ∧ ∀ l pos, C.H[id]? = some (.iter l pos) → u = .pointer (some ⟨(C.ρ id).1, 0, none⟩)

def MpOk (C : Ctx) (id : Nat) (u : Value) : Prop :=
  id < C.H.length ∧ ∀ k e es, C.H[id]? = some (.map k e es) → u = .map (some (C.ρ id).1)

mutual
/-- The abstract value stands for the value ('true': it leads to memory alone that never changes). -/
inductive V (C : Ctx) : Bool → AV → Value → Prop
  | undef (u : Value) : V C false .undef u
  | bool (p : Bool) (b : Bool) : V C p (.bool b) (.bool b)
  | int (p : Bool) (k : IntKind) (n : Int) : V C p (.int k n) (.int k n)
  | str (p : Bool) (s : ByteArray) : V C p (.str s.data.toList) (.string s)
  | nilp (p : Bool) : V C p .nilp (.pointer none)
  | nils (p : Bool) : V C p .nils (.slice none 0 0)
  | nilf (p : Bool) : V C p .nilf .nilFunc
  | nili (p : Bool) : V C p .nili .nilIface
  | nilm (p : Bool) : V C p .nilm (.map none)
  | fn (p : Bool) (f : Fn) (a b : List AV) (as bs : Array Value) : Vs C p a as.toList → Vs C p b bs.toList → V C p (.fn f a b) (.func f as bs)
  | iface (p : Bool) (t : TypeId) (v : AV) (u : Value) : V C p v u → V C p (.iface t v) (.iface t u)
  | agg (p : Bool) (cs : List AV) (us : Array Value) : (∀ c ∈ cs, c.one = true) → Vs C p cs us.toList → V C p (.agg cs) (.agg us)
  | tup (p : Bool) (cs : List AV) (us : Array Value) : Vs C p cs us.toList → V C p (.tup cs) (.tuple us)
  | rop (p : Bool) (cs : List AV) (a : Addr) (us : List Value) : (∀ c ∈ cs, c.one = true) → Vs C true cs us → (∀ j u, us[j]? = some u → C.w.cell? (a.add j) = some u) → C.κ a.block = .imm → a.block < C.w.heap.size → V C p (.rop cs) (.pointer (some a))
  | sh (p : Bool) (z : Nat) (es : List AV) (a : Addr) (c : Nat) (us : List Value) : Vs C true (es.flatMap AV.cells) us → (∀ e ∈ es, e.cells.length = z ∧ ∀ c ∈ e.cells, c.one = true) → (∀ j u, us[j]? = some u → C.w.cell? (a.add j) = some u) →
      (es ≠ [] → C.κ a.block = .imm ∧ a.block < C.w.heap.size) → es.length ≤ c → c ≤ maxLen → V C p (.sh z es) (.slice (some a) es.length c)
  | ptr (id ver i off : Nat) (u : Value) : u.oneCell' = true → PtrOk C id ver i off u → V C false (.ptr id ver i off) u
  | sl (id ver off n cap : Nat) (u : Value) : u.oneCell' = true → SlOk C id ver off n cap u → V C false (.sl id ver off n cap) u
  | it (id : Nat) (u : Value) : u.oneCell' = true → ItOk C id u → V C false (.it id) u
  | mp (id : Nat) (u : Value) : u.oneCell' = true → MpOk C id u → V C false (.mp id) u
inductive Vs (C : Ctx) : Bool → List AV → List Value → Prop
  | nil (p : Bool) : Vs C p [] []
  | cons (p : Bool) (v : AV) (u : Value) (vs : List AV) (us : List Value) : V C p v u → Vs C p vs us → Vs C p (v :: vs) (u :: us)
end

/-- A step may do no more than this. -/
structure Ev (C C' : Ctx) : Prop where
  os : C'.w.os = C.w.os
  tape : C'.w.tape = C.w.tape
  output : C'.w.output = C.w.output
  size : C.w.heap.size ≤ C'.w.heap.size
  keep : ∀ b, b < C.w.heap.size → (C.κ b = .imm ∨ C.κ b = .oth) → C'.w.heap[b]? = C.w.heap[b]? ∧ C'.κ b = C.κ b
  hlen : C.H.length ≤ C'.H.length
  rows : ∀ id, id < C.H.length → ∀ v' sz' ty' es', C'.H[id]? = some (.row v' sz' ty' es') → ∃ v es, C.H[id]? = some (.row v sz' ty' es) ∧ v ≤ v' ∧
    (v = v' → C'.ρ id = C.ρ id ∧ ∀ cells t fr, C'.w.heap[(C.ρ id).1]? = some (.cells cells t fr) → ∃ cells' t' fr', C.w.heap[(C.ρ id).1]? = some (.cells cells' t' fr') ∧ cells.size = cells'.size)
  iters : ∀ id, id < C.H.length → ∀ l' pos', C'.H[id]? = some (.iter l' pos') → (∃ l pos, C.H[id]? = some (.iter l pos)) ∧ C'.ρ id = C.ρ id
  maps : ∀ id, id < C.H.length → ∀ k' e' es', C'.H[id]? = some (.map k' e' es') → (∃ k e es, C.H[id]? = some (.map k e es)) ∧ C'.ρ id = C.ρ id

/-- What an abstract value's meaning needs of a step. -/
structure EvV (C C' : Ctx) : Prop where
  size : C.w.heap.size ≤ C'.w.heap.size
  imm : ∀ b, b < C.w.heap.size → C.κ b = .imm → C'.w.heap[b]? = C.w.heap[b]? ∧ C'.κ b = .imm
  hlen : C.H.length ≤ C'.H.length
  rows : ∀ id, id < C.H.length → ∀ v' sz' ty' es', C'.H[id]? = some (.row v' sz' ty' es') → ∃ v es, C.H[id]? = some (.row v sz' ty' es) ∧ v ≤ v' ∧
    (v = v' → C'.ρ id = C.ρ id ∧ ∀ cells t fr, C'.w.heap[(C.ρ id).1]? = some (.cells cells t fr) → ∃ cells' t' fr', C.w.heap[(C.ρ id).1]? = some (.cells cells' t' fr') ∧ cells.size = cells'.size)
  iters : ∀ id, id < C.H.length → ∀ l' pos', C'.H[id]? = some (.iter l' pos') → (∃ l pos, C.H[id]? = some (.iter l pos)) ∧ C'.ρ id = C.ρ id
  maps : ∀ id, id < C.H.length → ∀ k' e' es', C'.H[id]? = some (.map k' e' es') → (∃ k e es, C.H[id]? = some (.map k e es)) ∧ C'.ρ id = C.ρ id

theorem Ev.toV {C C' : Ctx} (h : Ev C C') : EvV C C' :=
  ⟨h.size, fun b hb hi => ⟨(h.keep b hb (.inl hi)).1, (h.keep b hb (.inl hi)).2.trans hi⟩, h.hlen, h.rows, h.iters, h.maps⟩

theorem Ev.refl (C : Ctx) : Ev C C :=
  ⟨rfl, rfl, rfl, Nat.le_refl _, fun _ _ _ => ⟨rfl, rfl⟩, Nat.le_refl _, fun _ _ v' sz' ty' es' h => ⟨v', es', h, Nat.le_refl _, fun _ => ⟨rfl, fun cells t fr h => ⟨cells, t, fr, h, rfl⟩⟩⟩,
    fun _ _ l pos h => ⟨⟨l, pos, h⟩, rfl⟩, fun _ _ k e es h => ⟨⟨k, e, es, h⟩, rfl⟩⟩

theorem Ev.trans {A B C : Ctx} (h : Ev A B) (g : Ev B C) : Ev A C := by
  refine ⟨g.os.trans h.os, g.tape.trans h.tape, g.output.trans h.output, Nat.le_trans h.size g.size, ?_, Nat.le_trans h.hlen g.hlen, ?_, ?_, ?_⟩
  · intro b hb hr
    obtain ⟨h1, h2⟩ := h.keep b hb hr
    obtain ⟨g1, g2⟩ := g.keep b (Nat.lt_of_lt_of_le hb h.size) (by rw [h2]; exact hr)
    exact ⟨g1.trans h1, g2.trans h2⟩
  · intro id hid v' sz' ty' es' hc
    obtain ⟨v1, es1, hb, hv1, g1⟩ := g.rows id (Nat.lt_of_lt_of_le hid h.hlen) v' sz' ty' es' hc
    obtain ⟨v0, es0, ha, hv0, h1⟩ := h.rows id hid v1 sz' ty' es1 hb
    refine ⟨v0, es0, ha, Nat.le_trans hv0 hv1, fun e => ?_⟩
    have e1 : v1 = v' := by omega
    have e0 : v0 = v1 := by omega
    obtain ⟨g2, g3⟩ := g1 e1
    obtain ⟨h2, h3⟩ := h1 e0
    refine ⟨g2.trans h2, fun cells t fr hx => ?_⟩
    obtain ⟨c1, t1, f1, hc1, hs1⟩ := g3 cells t fr (by rw [h2]; exact hx)
    obtain ⟨c2, t2, f2, hc2, hs2⟩ := h3 c1 t1 f1 (by rw [← h2]; exact hc1)
    exact ⟨c2, t2, f2, hc2, hs1.trans hs2⟩
  · intro id hid l' pos' hc
    obtain ⟨⟨l1, p1, hb⟩, e1⟩ := g.iters id (Nat.lt_of_lt_of_le hid h.hlen) l' pos' hc
    obtain ⟨hx, e0⟩ := h.iters id hid l1 p1 hb
    exact ⟨hx, e1.trans e0⟩
  · intro id hid k' e' es' hc
    obtain ⟨⟨k1, e1, es1, hb⟩, r1⟩ := g.maps id (Nat.lt_of_lt_of_le hid h.hlen) k' e' es' hc
    obtain ⟨hx, r0⟩ := h.maps id hid k1 e1 es1 hb
    exact ⟨hx, r1.trans r0⟩

section
variable {C C' : Ctx}

mutual
theorem V.weaken {C : Ctx} {v : AV} {u : Value} : V C true v u → V C false v u
  | .bool _ b => .bool _ b
  | .int _ k n => .int _ k n
  | .str _ s => .str _ s
  | .nilp _ => .nilp _
  | .nils _ => .nils _
  | .nilf _ => .nilf _
  | .nili _ => .nili _
  | .nilm _ => .nilm _
  | .fn _ f a b as bs h1 h2 => .fn _ f a b as bs h1.weaken h2.weaken
  | .iface _ t v u h => .iface _ t v u h.weaken
  | .agg _ cs us h0 h => .agg _ cs us h0 h.weaken
  | .tup _ cs us h => .tup _ cs us h.weaken
  | .rop _ cs a us h0 h1 h2 h3 h4 => .rop _ cs a us h0 h1 h2 h3 h4
  | .sh _ z es a c us h1 h2 h3 h4 h5 h6 => .sh _ z es a c us h1 h2 h3 h4 h5 h6
theorem Vs.weaken {C : Ctx} {vs : List AV} {us : List Value} : Vs C true vs us → Vs C false vs us
  | .nil _ => .nil _
  | .cons _ v u vs us h1 h2 => .cons _ v u vs us h1.weaken h2.weaken
end

theorem V.weakenB {C : Ctx} {p : Bool} {v : AV} {u : Value} (h : V C p v u) : V C false v u := by
  cases p
  · exact h
  · exact h.weaken
theorem Vs.weakenB {C : Ctx} {p : Bool} {v : List AV} {u : List Value} (h : Vs C p v u) : Vs C false v u := by
  cases p
  · exact h
  · exact h.weaken

theorem cell_keep (h : EvV C C') {a : Addr} {u : Value} (hk : C.κ a.block = .imm) (hb : a.block < C.w.heap.size) {j : Nat} (hc : C.w.cell? (a.add j) = some u) : C'.w.cell? (a.add j) = some u := by
  have hab : (a.add j).block = a.block := by unfold Addr.add; split <;> rfl
  have := (h.imm a.block hb hk).1
  rw [← hc]
  exact World.cell?_of_block (by rw [hab]; exact this)

mutual
theorem V.evV {C C' : Ctx} (h : EvV C C') {p : Bool} {v : AV} {u : Value} : V C p v u → V C' p v u
  | .undef u => .undef u
  | .bool _ b => .bool _ b
  | .int _ k n => .int _ k n
  | .str _ s => .str _ s
  | .nilp _ => .nilp _
  | .nils _ => .nils _
  | .nilf _ => .nilf _
  | .nili _ => .nili _
  | .nilm _ => .nilm _
  | .fn _ f a b as bs h1 h2 => .fn _ f a b as bs (h1.evV h) (h2.evV h)
  | .iface _ t v u h1 => .iface _ t v u (h1.evV h)
  | .agg _ cs us h0 h1 => .agg _ cs us h0 (h1.evV h)
  | .tup _ cs us h1 => .tup _ cs us (h1.evV h)
  | .rop _ cs a us h0 h1 h2 h3 h4 => .rop _ cs a us h0 (h1.evV h) (fun j u hu => cell_keep h h3 h4 (h2 j u hu)) (h.imm _ h4 h3).2 (Nat.lt_of_lt_of_le h4 h.size)
  | .sh _ z es a c us h1 h2 h3 h4 h5 h6 => .sh _ z es a c us (h1.evV h) h2 (fun j u hu => by
      have hne : es ≠ [] := by
        rintro rfl
        cases h1
        simp at hu
      exact cell_keep h (h4 hne).1 (h4 hne).2 (h3 j u hu)) (fun hne => ⟨(h.imm _ (h4 hne).2 (h4 hne).1).2, Nat.lt_of_lt_of_le (h4 hne).2 h.size⟩) h5 h6
  | .ptr id ver i off u h0 h1 => .ptr id ver i off u h0 ⟨Nat.lt_of_lt_of_le h1.1 h.hlen, fun v' sz ty es hr => by
      obtain ⟨v, es0, hz, hv, hx⟩ := h.rows id h1.1 v' sz ty es hr
      obtain ⟨h2, h3⟩ := h1.2 v sz ty es0 hz
      refine ⟨Nat.le_trans h2 hv, fun e => ?_⟩
      have e0 : v = v' := by omega
      rw [(hx e0).1]
      exact h3 (by omega)⟩
  | .sl id ver off n cap u h0 h1 => .sl id ver off n cap u h0 ⟨Nat.lt_of_lt_of_le h1.1 h.hlen, fun v' sz ty es hr => by
      obtain ⟨v, es0, hz, hv, hx⟩ := h.rows id h1.1 v' sz ty es hr
      obtain ⟨h2, h3⟩ := h1.2 v sz ty es0 hz
      refine ⟨Nat.le_trans h2 hv, fun e => ?_⟩
      have e0 : v = v' := by omega
      obtain ⟨a, c, g1, g2, g3, g4, g5, g6⟩ := h3 (by omega)
      obtain ⟨hx1, hx2⟩ := hx e0
      refine ⟨a, c, g1, g2, g3, g4, by rw [hx1]; exact g5, fun cells t fr hc => ?_⟩
      rw [hx1] at hc ⊢
      obtain ⟨c', t', f', hc', hs⟩ := hx2 cells t fr hc
      rw [hs]
      exact g6 c' t' f' hc'⟩
  | .it id u h0 h1 => .it id u h0 ⟨Nat.lt_of_lt_of_le h1.1 h.hlen, fun l pos hr => by
      obtain ⟨⟨l0, p0, hz⟩, e⟩ := h.iters id h1.1 l pos hr
      rw [e]
      exact h1.2 l0 p0 hz⟩
  | .mp id u h0 h1 => .mp id u h0 ⟨Nat.lt_of_lt_of_le h1.1 h.hlen, fun k e es hr => by
      obtain ⟨⟨k0, e0, es0, hz⟩, r⟩ := h.maps id h1.1 k e es hr
      rw [r]
      exact h1.2 k0 e0 es0 hz⟩
theorem Vs.evV {C C' : Ctx} (h : EvV C C') {p : Bool} {vs : List AV} {us : List Value} : Vs C p vs us → Vs C' p vs us
  | .nil _ => .nil _
  | .cons _ v u vs us h1 h2 => .cons _ v u vs us (h1.evV h) (h2.evV h)
end

theorem V.ev {C C' : Ctx} {p : Bool} {v : AV} {u : Value} (g : V C p v u) (h : Ev C C') : V C' p v u := g.evV h.toV
theorem Vs.ev {C C' : Ctx} {p : Bool} {vs : List AV} {us : List Value} (g : Vs C p vs us) (h : Ev C C') : Vs C' p vs us := g.evV h.toV

end
end Go.Den
