/- DEN, part E: the small heap and the frame stand for memory; what follows for values, slots and operands. -/
import Derived.Test.YtikkpecdkdgmfaaDoorDenD
namespace Go.Den
open Go.RowKit

section lists
variable {C : Ctx} {p : Bool}
theorem Vs.length {vs : List AV} {us : List Value} (h : Vs C p vs us) : us.length = vs.length := by
  induction vs generalizing us with
  | nil => cases h; rfl
  | cons v vs ih => cases h with | cons _ _ u _ us h1 h2 => simp [ih h2]
theorem Vs.append {a b : List AV} {x y : List Value} (h : Vs C p a x) (g : Vs C p b y) : Vs C p (a ++ b) (x ++ y) := by
  induction a generalizing x with
  | nil => cases h; exact g
  | cons v a ih => cases h with | cons _ _ u _ us h1 h2 => exact .cons _ _ _ _ _ h1 (ih h2)
theorem Vs.get {vs : List AV} {us : List Value} (h : Vs C p vs us) {i : Nat} {v : AV} (hv : vs[i]? = some v) : ∃ u, us[i]? = some u ∧ V C p v u := by
  induction vs generalizing us i with
  | nil => simp at hv
  | cons x vs ih =>
    cases h with
    | cons _ _ u _ us h1 h2 =>
      cases i with
      | zero => simp at hv; subst hv; exact ⟨u, by simp, h1⟩
      | succ i => simp at hv; simpa using ih h2 hv
theorem Vs.take {vs : List AV} {us : List Value} (h : Vs C p vs us) (n : Nat) : Vs C p (vs.take n) (us.take n) := by
  induction vs generalizing us n with
  | nil => cases h; simp; exact .nil _
  | cons x vs ih =>
    cases h with
    | cons _ _ u _ us h1 h2 =>
      cases n with
      | zero => exact .nil _
      | succ n => exact .cons _ _ _ _ _ h1 (ih h2 n)
theorem Vs.drop {vs : List AV} {us : List Value} (h : Vs C p vs us) (n : Nat) : Vs C p (vs.drop n) (us.drop n) := by
  induction vs generalizing us n with
  | nil => cases h; simp; exact .nil _
  | cons x vs ih =>
    cases h with
    | cons _ _ u _ us h1 h2 =>
      cases n with
      | zero => exact .cons _ _ _ _ _ h1 h2
      | succ n => exact ih h2 n
theorem Vs.split {a b : List AV} {us : List Value} (h : Vs C p (a ++ b) us) : Vs C p a (us.take a.length) ∧ Vs C p b (us.drop a.length) := by
  have h1 := h.take a.length
  have h2 := h.drop a.length
  simp at h1 h2
  exact ⟨h1, h2⟩
theorem Vs.of_get {vs : List AV} {us : List Value} (hl : us.length = vs.length) (h : ∀ (i : Nat) (v : AV) (u : Value), vs[i]? = some v → us[i]? = some u → V C p v u) : Vs C p vs us := by
  induction vs generalizing us with
  | nil => cases us with
    | nil => exact .nil _
    | cons _ _ => simp at hl
  | cons v vs ih => cases us with
    | nil => simp at hl
    | cons u us => exact .cons _ _ _ _ _ (h 0 v u rfl rfl) (ih (by simpa using hl) (fun i v' u' hv hu => h (i + 1) v' u' (by simpa using hv) (by simpa using hu)))
end lists

theorem cells_one {u : Value} (h : u.oneCell' = true) : u.cells.toList = [u] := by
  cases u <;> first | rfl | simp [Value.oneCell'] at h

theorem V.one {C : Ctx} {p : Bool} {v : AV} {u : Value} (h : V C p v u) (hv : v.one = true) : u.oneCell' = true := by
  cases h with
  | undef _ => simp [AV.one] at hv
  | agg _ _ _ _ _ => simp [AV.one] at hv
  | tup _ _ _ _ => simp [AV.one] at hv
  | ptr _ _ _ _ _ h0 _ => exact h0
  | sl _ _ _ _ _ _ h0 _ => exact h0
  | it _ _ h0 _ => exact h0
  | mp _ _ h0 _ => exact h0
  | _ => rfl

theorem Vs.one {C : Ctx} {p : Bool} {vs : List AV} {us : List Value} (h : Vs C p vs us) (hv : ∀ v ∈ vs, v.one = true) : ∀ u ∈ us, u.oneCell' = true := by
  induction vs generalizing us with
  | nil => cases h; simp
  | cons v vs ih =>
    cases h with
    | cons _ _ u _ us h1 h2 =>
      intro x hx
      rcases List.mem_cons.1 hx with rfl | hx
      · exact h1.one (hv v List.mem_cons_self)
      · exact ih h2 (fun y hy => hv y (List.mem_cons_of_mem _ hy)) x hx

/-- An element of so many cells. -/
def Good (z : Nat) (e : AV) : Prop := e.cells.length = z ∧ ∀ c ∈ e.cells, c.one = true

/-- A value's cells. -/
theorem V.cells {C : Ctx} {p : Bool} {v : AV} {u : Value} (h : V C p v u) (hv : v.isDef = true) : Vs C p v.cells u.cells.toList ∧ ∀ c ∈ v.cells, c.one = true := by
  cases h with
  | undef u => simp [AV.isDef] at hv
  | agg _ cs us h0 h => exact ⟨h, h0⟩
  | tup _ cs us h => simp [AV.isDef] at hv
  | ptr _ _ _ _ _ h0 h1 => rw [cells_one h0]; exact ⟨.cons _ _ _ _ _ (.ptr _ _ _ _ _ h0 h1) (.nil _), by simp [AV.cells, AV.one]⟩
  | sl _ _ _ _ _ _ h0 h1 => rw [cells_one h0]; exact ⟨.cons _ _ _ _ _ (.sl _ _ _ _ _ _ h0 h1) (.nil _), by simp [AV.cells, AV.one]⟩
  | it _ _ h0 h1 => rw [cells_one h0]; exact ⟨.cons _ _ _ _ _ (.it _ _ h0 h1) (.nil _), by simp [AV.cells, AV.one]⟩
  | mp _ _ h0 h1 => rw [cells_one h0]; exact ⟨.cons _ _ _ _ _ (.mp _ _ h0 h1) (.nil _), by simp [AV.cells, AV.one]⟩
  | rop _ cs a us h0 h1 h2 h3 h4 => exact ⟨.cons _ _ _ _ _ (.rop _ _ _ _ h0 h1 h2 h3 h4) (.nil _), by simp [AV.cells, AV.one]⟩
  | sh _ z es a c us h1 h2 h3 h4 h5 h6 => exact ⟨.cons _ _ _ _ _ (.sh _ _ _ _ _ _ h1 h2 h3 h4 h5 h6) (.nil _), by simp [AV.cells, AV.one]⟩
  | fn _ f a b as bs h1 h2 => exact ⟨.cons _ _ _ _ _ (.fn _ _ _ _ _ _ h1 h2) (.nil _), by simp [AV.cells, AV.one]⟩
  | iface _ t v u h1 => exact ⟨.cons _ _ _ _ _ (.iface _ _ _ _ h1) (.nil _), by simp [AV.cells, AV.one]⟩
  | _ => exact ⟨.cons _ _ _ _ _ (by constructor) (.nil _), by simp [AV.cells, AV.one]⟩

/-- The object's row lies in memory. -/
def RowAt (C : Ctx) (id sz : Nat) (ty : TypeId) (es : List AV) : Prop :=
  0 < sz ∧ (∀ e ∈ es, Good sz e) ∧ C.κ (C.ρ id).1 = .obj id ∧
    ∃ cur fr us, C.w.heap[(C.ρ id).1]? = some (.cells cur ty fr) ∧ (∀ j, j < cur.size → ¬ (fr.1 ≤ j ∧ j < fr.2)) ∧ Vs C false (es.flatMap AV.cells) us ∧ ∀ j u, us[j]? = some u → cur[(C.ρ id).2 + j]? = some u

def IterAt (C : Ctx) (id : Nat) (l : List UInt8) (pos : Nat) : Prop :=
  C.κ (C.ρ id).1 = .obj id ∧ ∃ s, s.data.toList = l ∧ C.w.heap[(C.ρ id).1]? = some (.stringIter s pos)

/-- Memory keeps the small heap. -/
structure HR (E : Env) (C : Ctx) : Prop where
  row : ∀ id v sz ty es, C.H[id]? = some (.row v sz ty es) → RowAt C id sz ty es
  iter : ∀ id l pos, C.H[id]? = some (.iter l pos) → IterAt C id l pos
  new : ∀ b, C.w.heap.size ≤ b → C.κ b = .oth
  glob : ∀ g cs, E.glob g = some cs → V C true (.rop cs) (.pointer (some ⟨g, 0, none⟩))
  al : ∀ id v sz ty es, C.H[id]? = some (.row v sz ty es) → (C.ρ id).2 % sz = 0

/-- What a step must leave of the small heap. -/
theorem HR.step {E : Env} {C C' : Ctx} (hr : HR E C) (ev : Ev C C')
    (hrow : ∀ id v sz ty es, C'.H[id]? = some (.row v sz ty es) → (C.H[id]? = some (.row v sz ty es) ∧ C'.ρ id = C.ρ id ∧ C'.κ (C.ρ id).1 = .obj id ∧ C'.w.heap[(C.ρ id).1]? = C.w.heap[(C.ρ id).1]?) ∨ (RowAt C' id sz ty es ∧ (C'.ρ id).2 % sz = 0))
    (hiter : ∀ id l pos, C'.H[id]? = some (.iter l pos) → (C.H[id]? = some (.iter l pos) ∧ C'.ρ id = C.ρ id ∧ C'.κ (C.ρ id).1 = .obj id ∧ C'.w.heap[(C.ρ id).1]? = C.w.heap[(C.ρ id).1]?) ∨ IterAt C' id l pos)
    (hnew : ∀ b, C'.w.heap.size ≤ b → C'.κ b = .oth) : HR E C' := by
  refine ⟨fun id v sz ty es h => ?_, fun id l pos h => ?_, hnew, fun g cs h => (hr.glob g cs h).ev ev, fun id v sz ty es h => ?_⟩
  · rcases hrow id v sz ty es h with ⟨h1, h2, h3, h4⟩ | h1
    · obtain ⟨g0, g1, g2, cur, fr, us, g3, g4, g5, g6⟩ := hr.row id v sz ty es h1
      exact ⟨g0, g1, by rw [h2]; exact h3, cur, fr, us, by rw [h2, h4]; exact g3, g4, g5.ev ev, by rw [h2]; exact g6⟩
    · exact h1.1
  · rcases hiter id l pos h with ⟨h1, h2, h3, h4⟩ | h1
    · obtain ⟨g0, s, g1, g2⟩ := hr.iter id l pos h1
      exact ⟨by rw [h2]; exact h3, s, g1, by rw [h2, h4]; exact g2⟩
    · exact h1
  · rcases hrow id v sz ty es h with ⟨h1, h2, _, _⟩ | h1
    · rw [h2]
      exact hr.al id v sz ty es h1
    · exact h1.2

/-- The frame's slot t holds what the abstract one says. -/
def SlotOk (C : Ctx) (lam : Nat → Nat) (st : St) (a : Act) (t : Nat) : Prop :=
  match st.get t with
  | .val v => V C false v (a.tmps.getD t undef)
  | .lp s off => a.tmps.getD t undef = .pointer (some ⟨lam s, off, none⟩) ∧ st.var s ≠ none
  | .no => True

structure FrameR (C : Ctx) (lam : Nat → Nat) (st : St) (a : Act) : Prop where
  size : a.tmps.size = st.N
  defers : a.defers = []
  slots : ∀ t, SlotOk C lam st a t
  vars : ∀ s cs, st.var s = some cs → C.κ (lam s) = .loc s ∧ lam s < C.w.heap.size ∧ ∃ cur ty fr, C.w.heap[lam s]? = some (.cells cur ty fr) ∧ (∀ j, j < cur.size → ¬ (fr.1 ≤ j ∧ j < fr.2)) ∧ Vs C false cs cur.toList ∧ ∀ c ∈ cs, c.one = true

/-- The frame's own variables are left alone. -/
structure EvL (C C' : Ctx) : Prop where
  ev : Ev C C'
  loc : ∀ b, b < C.w.heap.size → ∀ s, C.κ b = .loc s → C'.w.heap[b]? = C.w.heap[b]? ∧ C'.κ b = .loc s

theorem EvL.refl (C : Ctx) : EvL C C := ⟨Ev.refl C, fun _ _ _ h => ⟨rfl, h⟩⟩

theorem FrameR.ev {C C' : Ctx} {lam : Nat → Nat} {st : St} {a : Act} (h : FrameR C lam st a) (g : EvL C C') : FrameR C' lam st a := by
  refine ⟨h.size, h.defers, fun t => ?_, fun s cs hs => ?_⟩
  · have ht := h.slots t
    unfold SlotOk at ht ⊢
    split at ht
    · exact ht.ev g.ev
    · exact ht
    · trivial
  · obtain ⟨h1, h2, cur, ty, fr, h3, h4, h5, h6⟩ := h.vars s cs hs
    obtain ⟨g1, g2⟩ := g.loc _ h2 s h1
    exact ⟨g2, Nat.lt_of_lt_of_le h2 g.ev.size, cur, ty, fr, g1.trans h3, h4, h5.ev g.ev, h6⟩

theorem getD_set_self {xs : Array Value} {i : Nat} {v : Value} (h : i < xs.size) : (xs.setIfInBounds i v).getD i undef = v := by
  simp [Array.getD_eq_getD_getElem?, h]
theorem getD_set_ne {xs : Array Value} {i j : Nat} {v : Value} (h : i ≠ j) : (xs.setIfInBounds i v).getD j undef = xs.getD j undef := by
  simp [Array.getD_eq_getD_getElem?, Array.getElem?_setIfInBounds_ne h]

theorem St.get_put_ne {st : St} {i j : Nat} {x : SV} (h : i ≠ j) : (st.put i x).get j = st.get j := Tr.get_set_ne h
theorem St.get_put_self {st : St} {i : Nat} {x : SV} : (st.put i x).get i = x ∨ (st.put i x).get i = .no := by
  rcases Tr.get_set_self (z := SV.no) (t := st.slots) (i := i) (x := x) with h | h
  · exact .inl h
  · exact .inr h.1

/-- A slot is written. -/
theorem FrameR.put {C : Ctx} {lam : Nat → Nat} {st : St} {a : Act} (h : FrameR C lam st a) {d : Option Tmp} {x : SV} {u : Value}
    (hx : match x with | .val v => V C false v u | .lp s off => u = .pointer (some ⟨lam s, off, none⟩) ∧ st.var s ≠ none | .no => True) : FrameR C lam (stPut st d x) (a.put d u) := by
  cases d with
  | none => exact h
  | some t =>
    show FrameR C lam (if t < st.N then st.put t x else st) { a with tmps := a.tmps.setIfInBounds t u }
    by_cases hlt : t < st.N
    · rw [if_pos hlt]
      refine ⟨by rw [Array.size_setIfInBounds]; exact h.size, h.defers, fun i => ?_, h.vars⟩
      by_cases e : t = i
      · subst e
        have hg : (a.tmps.setIfInBounds t u).getD t undef = u := getD_set_self (by rw [h.size]; exact hlt)
        show SlotOk C lam (st.put t x) _ t
        unfold SlotOk
        rcases St.get_put_self (st := st) (i := t) (x := x) with h1 | h1
        · rw [h1]
          dsimp only
          rw [hg]
          exact hx
        · rw [h1]
          trivial
      · have hi := h.slots i
        show SlotOk C lam (st.put t x) _ i
        unfold SlotOk at hi ⊢
        rw [St.get_put_ne e]
        dsimp only
        rw [getD_set_ne e]
        exact hi
    · rw [if_neg hlt]
      have : a.tmps.setIfInBounds t u = a.tmps := by
        simp [Array.setIfInBounds, h.size, hlt]
      rw [this]
      exact h

theorem St.put_var {st : St} {d : Option Tmp} {x : SV} {s : Nat} : (stPut st d x).var s = st.var s := by
  cases d with
  | none => rfl
  | some t =>
    show (if t < st.N then st.put t x else st).var s = st.var s
    split <;> rfl

section consts
theorem mapM_vs {C : Ctx} {f : Value → Option AV} (hf : ∀ u v, f u = some v → V C true v u) : ∀ {us : List Value} {vs : List AV}, us.mapM f = some vs → Vs C true vs us
  | [], vs, h => by simp at h; subst h; exact .nil _
  | u :: us, vs, h => by
    rw [List.mapM_cons] at h
    simp only [Option.bind_eq_bind, Option.bind_eq_some_iff] at h
    obtain ⟨v, hv, ws, hw, e⟩ := h
    simp only [Option.pure_def, Option.some.injEq] at e
    subst e
    exact .cons _ _ _ _ _ (hf _ _ hv) (mapM_vs hf hw)
theorem ofConst_ok {C : Ctx} : ∀ {n : Nat} {u : Value} {v : AV}, ofConst n u = some v → V C true v u
  | 0, _, _, h => by simp [ofConst] at h
  | n + 1, u, v, h => by
    unfold ofConst at h
    split at h
    · simp at h; subst h; exact .bool _ _
    · simp at h; subst h; exact .int _ _ _
    · simp at h; subst h; exact .str _ _
    · simp at h; subst h; exact .nilp _
    · simp at h; subst h; exact .nils _
    · simp at h; subst h; exact .nilm _
    · simp at h; subst h; exact .nilf _
    · simp at h; subst h; exact .nili _
    · rename_i cs
      split at h
      · rename_i vs h1
        cases ho : vs.all AV.one
        · rw [ho] at h; simp at h
        · rw [ho] at h
          simp at h
          subst h
          exact .agg _ _ _ (fun c hc => List.all_eq_true.1 ho c hc) (mapM_vs (fun u v => ofConst_ok) h1)
      · simp at h
    · simp at h
end consts

theorem slot_val {C : Ctx} {lam : Nat → Nat} {st : St} {a : Act} (h : FrameR C lam st a) {t : Nat} {v : AV} (hv : st.get t = .val v) : V C false v (a.eval (.tmp t)) := by
  have := h.slots t
  unfold SlotOk at this
  rw [hv] at this
  exact this
theorem slot_lp {C : Ctx} {lam : Nat → Nat} {st : St} {a : Act} (h : FrameR C lam st a) {t s off : Nat} (hv : st.get t = .lp s off) : a.eval (.tmp t) = .pointer (some ⟨lam s, off, none⟩) ∧ st.var s ≠ none := by
  have := h.slots t
  unfold SlotOk at this
  rw [hv] at this
  exact this

theorem eval_ok {E : Env} {C : Ctx} {lam : Nat → Nat} {st : St} {a : Act} (hr : HR E C) (h : FrameR C lam st a) {x : Operand} {v : AV} (hv : st.eval E x = some v) : V C false v (a.eval x) := by
  cases x with
  | tmp t =>
    change (match st.get t with | .val v => some v | _ => none) = some v at hv
    split at hv
    · rename_i w hw
      simp at hv
      subst hv
      exact slot_val h hw
    · simp at hv
  | const u => exact (ofConst_ok hv).weaken
  | func f =>
    simp [St.eval] at hv
    subst hv
    exact .fn _ _ _ _ _ _ (.nil _) (.nil _)
  | global g =>
    simp only [St.eval, Option.map_eq_some_iff] at hv
    obtain ⟨cs, h1, rfl⟩ := hv
    exact (hr.glob g cs h1).weaken

theorem evals_ok {E : Env} {C : Ctx} {lam : Nat → Nat} {st : St} {a : Act} (hr : HR E C) (h : FrameR C lam st a) : ∀ {xs : List Operand} {vs : List AV}, evals E st xs = some vs → Vs C false vs (xs.map a.eval)
  | [], vs, hv => by simp [evals] at hv; subst hv; exact .nil _
  | x :: xs, vs, hv => by
    unfold evals at hv
    split at hv
    · rename_i v h1
      split at hv
      · rename_i ws h2
        simp at hv
        subst hv
        exact .cons _ _ _ _ _ (eval_ok hr h h1) (evals_ok hr h h2)
      · simp at hv
    · simp at hv

end Go.Den
