/- DEN, part H: the steps that memory takes: a row written in place, a row anew, a row that moves. -/
import Derived.Test.YtikkpecdkdgmfaaDoorDenG
namespace Go.Den
open Go.RowKit

section
variable {E : Env} {C : Ctx}

/-- The worlds differ in blocks alone. -/
structure Same (w w' : World) : Prop where
  os : w'.os = w.os
  tape : w'.tape = w.tape
  output : w'.output = w.output

theorem list_get_set {α : Type} {l : List α} {i j : Nat} {x y : α} (h : (l.set i x)[j]? = some y) : (i = j ∧ x = y ∧ i < l.length) ∨ (i ≠ j ∧ l[j]? = some y) := by
  rw [List.getElem?_set] at h
  split at h
  · rename_i e
    split at h
    · simp at h; exact .inl ⟨e, h, by assumption⟩
    · simp at h
  · rename_i e
    exact .inr ⟨e, h⟩

theorem obj_ne {κ : Nat → Role} {a b i j : Nat} (h : κ a = .obj i) (g : κ b = .obj j) (hne : i ≠ j) : a ≠ b := by
  rintro rfl
  rw [h] at g
  injection g with g
  exact hne g

/-- A row is written in place, or at the same block anew. -/
theorem row_write (hr : HR E C) {id ver ver' sz : Nat} {ty : TypeId} {es es' : List AV} (hrow : C.H[id]? = some (.row ver sz ty es)) {w' : World} {base' : Nat} {cur cur' : Array Value} {fr : Nat × Nat} {us' : List Value}
    (hold : C.w.heap[(C.ρ id).1]? = some (.cells cur ty fr)) (hs : Same C.w w') (hsize : w'.heap.size = C.w.heap.size) (hoth : ∀ i, i ≠ (C.ρ id).1 → w'.heap[i]? = C.w.heap[i]?)
    (hnow : w'.heap[(C.ρ id).1]? = some (.cells cur' ty fr)) (hcs : cur'.size = cur.size) (hfz : ∀ j, j < cur.size → ¬ (fr.1 ≤ j ∧ j < fr.2))
    (hal : base' % sz = 0) (hver : (ver' = ver ∧ base' = (C.ρ id).2) ∨ ver < ver') (hgood : ∀ e ∈ es', Good sz e) (hv : Vs C false (es'.flatMap AV.cells) us') (hcell : ∀ j u, us'[j]? = some u → cur'[base' + j]? = some u) :
    HR E { w := w', κ := C.κ, ρ := fun i => if i = id then ((C.ρ id).1, base') else C.ρ i, H := C.H.set id (.row ver' sz ty es') } ∧
    EvL C { w := w', κ := C.κ, ρ := fun i => if i = id then ((C.ρ id).1, base') else C.ρ i, H := C.H.set id (.row ver' sz ty es') } := by
  have hid : id < C.H.length := (List.getElem?_eq_some_iff.1 hrow).1
  obtain ⟨hz, _, hk, _⟩ := hr.row id ver sz ty es hrow
  have ev : Ev C { w := w', κ := C.κ, ρ := fun i => if i = id then ((C.ρ id).1, base') else C.ρ i, H := C.H.set id (.row ver' sz ty es') } := by
    refine ⟨hs.os, hs.tape, hs.output, Nat.le_of_eq hsize.symm, fun b hb hro => ⟨hoth b ?_, rfl⟩, by simp, ?_, ?_, ?_⟩
    · rintro rfl
      rw [hk] at hro
      rcases hro with h | h <;> cases h
    · intro i hi v1 sz1 ty1 es1 h1
      rcases list_get_set h1 with ⟨rfl, hx, _⟩ | ⟨hne, h2⟩
      · injection hx with e1 e2 e3 e4
        subst e1 e2 e3 e4
        refine ⟨ver, es, hrow, by omega, fun e => ?_⟩
        rcases hver with ⟨_, hb⟩ | hlt
        · refine ⟨by simp [hb], fun cells t f hc => ?_⟩
          have hc' : w'.heap[(C.ρ id).1]? = some (.cells cells t f) := hc
          rw [hnow] at hc'
          injection hc' with hc'
          injection hc' with c1 c2 c3
          exact ⟨cur, ty, fr, hold, by rw [← c1, hcs]⟩
        · omega
      · refine ⟨v1, es1, h2, Nat.le_refl _, fun _ => ⟨by simp [Ne.symm hne], fun cells t f hc => ?_⟩⟩
        obtain ⟨_, _, hk1, _⟩ := hr.row i v1 sz1 ty1 es1 h2
        have : w'.heap[(C.ρ i).1]? = C.w.heap[(C.ρ i).1]? := hoth _ (obj_ne hk1 hk (Ne.symm hne))
        exact ⟨cells, t, f, this ▸ hc, rfl⟩
    · intro i hi l pos h1
      rcases list_get_set h1 with ⟨rfl, hx, _⟩ | ⟨hne, h2⟩
      · cases hx
      · exact ⟨⟨l, pos, h2⟩, by simp [Ne.symm hne]⟩
    · intro i hi k e es1 h1
      rcases list_get_set h1 with ⟨rfl, hx, _⟩ | ⟨hne, h2⟩
      · cases hx
      · exact ⟨⟨k, e, es1, h2⟩, by simp [Ne.symm hne]⟩
  refine ⟨hr.step ev ?_ ?_ (fun b hb => hr.new b (by rw [← hsize]; exact hb)), ev, fun b hb s hl => ⟨hoth b ?_, hl⟩⟩
  · intro i v1 sz1 ty1 es1 h1
    rcases list_get_set h1 with ⟨rfl, hx, _⟩ | ⟨hne, h2⟩
    · injection hx with e1 e2 e3 e4
      subst e1 e2 e3 e4
      refine .inr ⟨⟨hz, hgood, by simpa using hk, cur', fr, us', by simpa using hnow, by rw [hcs]; exact hfz, hv.ev ev, by simpa using hcell⟩, by simpa using hal⟩
    · obtain ⟨_, _, hk1, _⟩ := hr.row i v1 sz1 ty1 es1 h2
      exact .inl ⟨h2, by simp [Ne.symm hne], hk1, hoth _ (obj_ne hk1 hk (Ne.symm hne))⟩
  · intro i l pos h1
    rcases list_get_set h1 with ⟨rfl, hx, _⟩ | ⟨hne, h2⟩
    · cases hx
    · obtain ⟨hk1, _⟩ := hr.iter i l pos h2
      exact .inl ⟨h2, by simp [Ne.symm hne], hk1, hoth _ (obj_ne hk1 hk (Ne.symm hne))⟩
  · rintro rfl
    rw [hk] at hl
    cases hl

/-- The new block's role, the new object's place. -/
def Ctx.grow (C : Ctx) (w' : World) (o : HObj) : Ctx :=
  { w := w', κ := fun b => if b = C.w.heap.size then .obj C.H.length else C.κ b, ρ := fun i => if i = C.H.length then (C.w.heap.size, 0) else C.ρ i, H := C.H ++ [o] }

theorem grow_place {w' : World} {o : HObj} : (C.grow w' o).ρ C.H.length = (C.w.heap.size, 0) := by simp [Ctx.grow]

theorem get_append {α : Type} {l : List α} {x y : α} {i : Nat} (h : (l ++ [x])[i]? = some y) : l[i]? = some y ∧ i < l.length ∨ i = l.length ∧ x = y := by
  rcases Nat.lt_or_ge i l.length with hi | hi
  · rw [List.getElem?_append_left hi] at h
    exact .inl ⟨h, hi⟩
  · rw [List.getElem?_append_right hi] at h
    have : i - l.length = 0 := by
      have := (List.getElem?_eq_some_iff.1 h).1
      simpa using this
    rw [this] at h
    simp at h
    exact .inr ⟨by omega, h⟩

/-- A new block, of whatever kind, for a new object. -/
theorem grow_ev (hr : HR E C) {w' : World} {b : Obj} {o : HObj} (hs : Same C.w w') (hheap : w'.heap = C.w.heap.push b) : EvL C (C.grow w' o) := by
  have hold : ∀ i, i < C.w.heap.size → w'.heap[i]? = C.w.heap[i]? := fun i hi => by rw [hheap, Array.getElem?_push, if_neg (by omega)]
  have hne : ∀ i, i < C.w.heap.size → (C.grow w' o).κ i = C.κ i := fun i hi => by show (if i = _ then _ else _) = _; rw [if_neg (by omega)]
  refine ⟨⟨hs.os, hs.tape, hs.output, by show _ ≤ w'.heap.size; rw [hheap]; simp, fun i hi _ => ⟨hold i hi, hne i hi⟩, by show _ ≤ (C.H ++ [o]).length; simp, ?_, ?_, ?_⟩, fun i hi s hl => ⟨hold i hi, (hne i hi).trans hl⟩⟩
  · intro i hi v sz ty es h
    rcases get_append h with ⟨h1, _⟩ | ⟨rfl, _⟩
    · refine ⟨v, es, h1, Nat.le_refl _, fun _ => ⟨by show (if i = _ then _ else _) = _; rw [if_neg (by omega)], fun cells t f hc => ⟨cells, t, f, ?_, rfl⟩⟩⟩
      obtain ⟨_, _, _, cur, fr, us, hcur, _⟩ := hr.row i v sz ty es h1
      rw [← hold _ (Array.getElem?_eq_some_iff.1 hcur).1]
      exact hc
    · omega
  · intro i hi l pos h
    rcases get_append h with ⟨h1, _⟩ | ⟨rfl, _⟩
    · exact ⟨⟨l, pos, h1⟩, by show (if i = _ then _ else _) = _; rw [if_neg (by omega)]⟩
    · omega
  · intro i hi k e es h
    rcases get_append h with ⟨h1, _⟩ | ⟨rfl, _⟩
    · exact ⟨⟨k, e, es, h1⟩, by show (if i = _ then _ else _) = _; rw [if_neg (by omega)]⟩
    · omega

theorem grow_hr (hr : HR E C) {w' : World} {b : Obj} {o : HObj} (hs : Same C.w w') (hheap : w'.heap = C.w.heap.push b)
    (hrow : ∀ v sz ty es, o = .row v sz ty es → RowAt (C.grow w' o) C.H.length sz ty es) (hiter : ∀ l pos, o = .iter l pos → IterAt (C.grow w' o) C.H.length l pos) : HR E (C.grow w' o) := by
  have hold : ∀ i, i < C.w.heap.size → w'.heap[i]? = C.w.heap[i]? := fun i hi => by rw [hheap, Array.getElem?_push, if_neg (by omega)]
  have hne : ∀ i, i < C.w.heap.size → (C.grow w' o).κ i = C.κ i := fun i hi => by show (if i = _ then _ else _) = _; rw [if_neg (by omega)]
  refine hr.step (grow_ev hr hs hheap).ev ?_ ?_ ?_
  · intro i v sz ty es h
    rcases get_append h with ⟨h1, hi⟩ | ⟨rfl, e⟩
    · obtain ⟨_, _, hk, cur, fr, us, hcur, _⟩ := hr.row i v sz ty es h1
      have hlt := (Array.getElem?_eq_some_iff.1 hcur).1
      exact .inl ⟨h1, by show (if i = _ then _ else _) = _; rw [if_neg (by omega)], (hne _ hlt).trans hk, hold _ hlt⟩
    · exact .inr ⟨hrow v sz ty es e, by simp [Ctx.grow]⟩
  · intro i l pos h
    rcases get_append h with ⟨h1, hi⟩ | ⟨rfl, e⟩
    · obtain ⟨hk, s, _, hcur⟩ := hr.iter i l pos h1
      have hlt := (Array.getElem?_eq_some_iff.1 hcur).1
      exact .inl ⟨h1, by show (if i = _ then _ else _) = _; rw [if_neg (by omega)], (hne _ hlt).trans hk, hold _ hlt⟩
    · exact .inr (hiter l pos e)
  · intro i hi
    have hi' : C.w.heap.size + 1 ≤ i := by
      have : (C.grow w' o).w.heap.size = C.w.heap.size + 1 := by show w'.heap.size = _; rw [hheap]; simp
      omega
    show (if i = _ then _ else _) = _
    rw [if_neg (by omega)]
    exact hr.new i (by omega)

/-- A new row. -/
theorem row_new (hr : HR E C) {w' : World} {cells : Array Value} {sz ver : Nat} {ty : TypeId} {fr : Nat × Nat} {es : List AV} {us : List Value} (hs : Same C.w w') (hheap : w'.heap = C.w.heap.push (.cells cells ty fr))
    (hz : 0 < sz) (hgood : ∀ e ∈ es, Good sz e) (hfz : ∀ j, j < cells.size → ¬ (fr.1 ≤ j ∧ j < fr.2)) (hv : Vs C false (es.flatMap AV.cells) us) (hc : ∀ (j : Nat) (u : Value), us[j]? = some u → cells[j]? = some u) :
    HR E (C.grow w' (.row ver sz ty es)) ∧ EvL C (C.grow w' (.row ver sz ty es)) := by
  have ev := grow_ev (o := .row ver sz ty es) hr hs hheap
  refine ⟨grow_hr hr hs hheap ?_ (fun l pos h => by cases h), ev⟩
  intro v1 sz1 ty1 es1 h
  injection h with e1 e2 e3 e4
  subst e1 e2 e3 e4
  refine ⟨hz, hgood, by simp [Ctx.grow], cells, fr, us, ?_, hfz, hv.ev ev.ev, ?_⟩
  · simp [Ctx.grow, hheap]
  · simpa [Ctx.grow] using hc

/-- A row moves to a new block. -/
theorem row_move (hr : HR E C) {id ver ver' sz : Nat} {ty : TypeId} {es es' : List AV} (hrow : C.H[id]? = some (.row ver sz ty es)) (hver : ver < ver') {w' : World} {cells : Array Value} {fr : Nat × Nat} {us : List Value}
    (hs : Same C.w w') (hheap : w'.heap = C.w.heap.push (.cells cells ty fr)) (hgood : ∀ e ∈ es', Good sz e) (hfz : ∀ j, j < cells.size → ¬ (fr.1 ≤ j ∧ j < fr.2)) (hv : Vs C false (es'.flatMap AV.cells) us) (hc : ∀ (j : Nat) (u : Value), us[j]? = some u → cells[j]? = some u) :
    HR E { w := w', κ := fun b => if b = C.w.heap.size then .obj id else C.κ b, ρ := fun i => if i = id then (C.w.heap.size, 0) else C.ρ i, H := C.H.set id (.row ver' sz ty es') } ∧
    EvL C { w := w', κ := fun b => if b = C.w.heap.size then .obj id else C.κ b, ρ := fun i => if i = id then (C.w.heap.size, 0) else C.ρ i, H := C.H.set id (.row ver' sz ty es') } := by
  have hid : id < C.H.length := (List.getElem?_eq_some_iff.1 hrow).1
  obtain ⟨hz, _, hk, _⟩ := hr.row id ver sz ty es hrow
  have hold : ∀ i, i < C.w.heap.size → w'.heap[i]? = C.w.heap[i]? := fun i hi => by rw [hheap, Array.getElem?_push, if_neg (by omega)]
  have ev : Ev C { w := w', κ := fun b => if b = C.w.heap.size then .obj id else C.κ b, ρ := fun i => if i = id then (C.w.heap.size, 0) else C.ρ i, H := C.H.set id (.row ver' sz ty es') } := by
    refine ⟨hs.os, hs.tape, hs.output, by show _ ≤ w'.heap.size; rw [hheap]; simp, fun b hb _ => ⟨hold b hb, by show (if b = _ then _ else _) = _; rw [if_neg (by omega)]⟩, by simp, ?_, ?_, ?_⟩
    · intro i hi v1 sz1 ty1 es1 h1
      rcases list_get_set h1 with ⟨rfl, hx, _⟩ | ⟨hne, h2⟩
      · injection hx with e1 e2 e3 e4
        subst e1 e2 e3 e4
        exact ⟨ver, es, hrow, by omega, fun e => by omega⟩
      · refine ⟨v1, es1, h2, Nat.le_refl _, fun _ => ⟨by simp [Ne.symm hne], fun cells t f hc => ⟨cells, t, f, ?_, rfl⟩⟩⟩
        obtain ⟨_, _, _, cur, fr, us, hcur, _⟩ := hr.row i v1 sz1 ty1 es1 h2
        rw [← hold _ (Array.getElem?_eq_some_iff.1 hcur).1]
        exact hc
    · intro i hi l pos h1
      rcases list_get_set h1 with ⟨rfl, hx, _⟩ | ⟨hne, h2⟩
      · cases hx
      · exact ⟨⟨l, pos, h2⟩, by simp [Ne.symm hne]⟩
    · intro i hi k e es1 h1
      rcases list_get_set h1 with ⟨rfl, hx, _⟩ | ⟨hne, h2⟩
      · cases hx
      · exact ⟨⟨k, e, es1, h2⟩, by simp [Ne.symm hne]⟩
  refine ⟨hr.step ev ?_ ?_ ?_, ev, fun b hb s hl => ⟨hold b hb, by show (if b = _ then _ else _) = _; rw [if_neg (by omega)]; exact hl⟩⟩
  · intro i v1 sz1 ty1 es1 h1
    rcases list_get_set h1 with ⟨rfl, hx, _⟩ | ⟨hne, h2⟩
    · injection hx with e1 e2 e3 e4
      subst e1 e2 e3 e4
      exact .inr ⟨⟨hz, hgood, by simp, cells, fr, us, by simp [hheap], hfz, hv.ev ev, by simpa using hc⟩, by simp⟩
    · obtain ⟨_, _, hk1, cur, fr, us, hcur, _⟩ := hr.row i v1 sz1 ty1 es1 h2
      have hlt := (Array.getElem?_eq_some_iff.1 hcur).1
      exact .inl ⟨h2, by simp [Ne.symm hne], by show (if _ = _ then _ else _) = _; rw [if_neg (by omega)]; exact hk1, hold _ hlt⟩
  · intro i l pos h1
    rcases list_get_set h1 with ⟨rfl, hx, _⟩ | ⟨hne, h2⟩
    · cases hx
    · obtain ⟨hk1, s, _, hcur⟩ := hr.iter i l pos h2
      have hlt := (Array.getElem?_eq_some_iff.1 hcur).1
      exact .inl ⟨h2, by simp [Ne.symm hne], by show (if _ = _ then _ else _) = _; rw [if_neg (by omega)]; exact hk1, hold _ hlt⟩
  · intro i hi
    have hi' : C.w.heap.size + 1 ≤ i := by
      have : w'.heap.size = C.w.heap.size + 1 := by rw [hheap]; simp
      have : w'.heap.size ≤ i := hi
      omega
    show (if i = _ then _ else _) = _
    rw [if_neg (by omega)]
    exact hr.new i (by omega)

end
end Go.Den
