/- DEN, part G: how the small heap and memory go together where memory is read, written, made. -/
import Derived.Test.YtikkpecdkdgmfaaDoorDenF
namespace Go.Den
open Go.RowKit

/-! ### cells set one by one -/
theorem setCells_other (b : Nat) : ∀ (vs : List Value) (o : Nat) (w : World) (i : Nat), i ≠ b → (w.setCells b o vs).heap[i]? = w.heap[i]?
  | [], _, _, _, _ => rfl
  | v :: r, o, w, i, h => by
    rw [World.setCells, setCells_other b r _ _ _ h]
    exact Below.heap_setCell _ _ _ _ h
theorem setCells_frame (b : Nat) : ∀ (vs : List Value) (o : Nat) (w : World), (w.setCells b o vs).heap.size = w.heap.size ∧ (w.setCells b o vs).os = w.os ∧ (w.setCells b o vs).tape = w.tape ∧ (w.setCells b o vs).output = w.output
  | [], _, _ => ⟨rfl, rfl, rfl, rfl⟩
  | v :: r, o, w => by
    rw [World.setCells]
    obtain ⟨h1, h2, h3, h4⟩ := setCells_frame b r (o + 1) (w.setCell ⟨b, o, none⟩ v)
    exact ⟨h1.trans (by simp [World.setCell]), h2, h3, h4⟩
theorem setCells_heap (b : Nat) : ∀ (vs : List Value) (o : Nat) (w : World) (cur : Array Value) (ty : TypeId) (fr : Nat × Nat), w.heap[b]? = some (.cells cur ty fr) → o + vs.length ≤ cur.size →
    ∃ cur' : Array Value, (w.setCells b o vs).heap[b]? = some (.cells cur' ty fr) ∧ cur'.size = cur.size ∧ ∀ j, cur'[j]? = if o ≤ j ∧ j < o + vs.length then vs[j - o]? else cur[j]?
  | [], o, w, cur, ty, fr, h, _ => ⟨cur, h, rfl, fun j => by rw [if_neg (by simp only [List.length_nil]; omega)]⟩
  | v :: r, o, w, cur, ty, fr, h, hl => by
    simp only [List.length_cons] at hl
    have h1 : (w.setCell ⟨b, o, none⟩ v).heap[b]? = some (.cells (cur.setIfInBounds o v) ty fr) := by
      simp [World.setCell, Array.getElem?_modify, h]
    obtain ⟨cur', g1, g2, g3⟩ := setCells_heap b r (o + 1) _ _ ty fr h1 (by simp; omega)
    refine ⟨cur', g1, by simpa using g2, fun j => ?_⟩
    rw [g3 j]
    simp only [List.length_cons]
    by_cases hj : j = o
    · subst hj
      rw [if_neg (by omega), if_pos (by omega)]
      simp
      rw [Array.getElem?_setIfInBounds_self_of_lt (by omega)]
    · by_cases h2 : o + 1 ≤ j ∧ j < o + 1 + r.length
      · rw [if_pos h2, if_pos (by omega)]
        rw [show j - o = (j - (o + 1)) + 1 by omega]
        simp
      · rw [if_neg h2, if_neg (by omega)]
        exact Array.getElem?_setIfInBounds_ne (Ne.symm hj)

section
variable {E : Env} {C : Ctx} {p : Bool}

/-! ### what is read -/
theorem isAgg_run {P : Program} {t : TypeId} {w : World} {ag : Bool} (h : Env.isAgg E t = some ag) (hP : E.P = P) : (isAgg t).run P w = .ok ag w := by
  subst hP
  unfold Env.isAgg at h
  rw [Option.map_eq_some_iff] at h
  obtain ⟨d, hd, rfl⟩ := h
  simp only [isAgg, Sem.run_bind, run_underlying hd, Result.andThen_ok]
  cases d <;> rfl
theorem size_run {t : TypeId} {w : World} {sz : Nat} (h : E.size t = some sz) : (sizeOf t).run E.P w = .ok sz w := by
  unfold Env.size at h
  rw [Option.map_eq_some_iff] at h
  obtain ⟨i, hi, rfl⟩ := h
  simp [sizeOf, typeInfo, hi]
theorem size_cells {t : TypeId} {sz : Nat} (h : E.size t = some sz) : (E.P.info? t).map (·.size) = some sz := h

theorem ofList_drop {ag : Bool} {sz off : Nat} {cs : List AV} {v : AV} (h : A.ofList ag sz cs off = some v) : A.ofList ag sz (cs.drop off) 0 = some v := by
  unfold A.ofList at h ⊢
  cases ag
  · simpa using h
  · simp only [cond_true] at h ⊢
    split at h
    · rename_i hl
      rw [if_pos (by simp; omega)]
      simpa using h
    · simp at h

/-- A variable is loaded whose cells are known. -/
theorem load_cells {t : TypeId} {ag : Bool} {sz : Nat} {cs : List AV} {us : List Value} {v : AV} {a : Addr} (hag : E.isAgg t = some ag) (hsz : E.size t = some sz) (h : A.ofList ag sz cs 0 = some v) (hv : Vs C p cs us) (h1 : ∀ c ∈ cs, c.one = true)
    (hc : ∀ j u, us[j]? = some u → C.w.cell? (a.add j) = some u) : ∃ u, (loadVar t a).run E.P C.w = .ok u C.w ∧ V C p v u := by
  unfold A.ofList at h
  cases ag
  · simp only [cond_false] at h
    obtain ⟨u, g1, g2⟩ := hv.get h
    refine ⟨u, ?_, g2⟩
    have := hc 0 u g1
    rw [Addr.add_zero'] at this
    simp only [loadVar, Sem.run_bind, isAgg_run hag rfl, Result.andThen_ok, Bool.false_eq_true, if_false, run_load, this]
  · simp only [cond_true] at h
    split at h
    · rename_i hl
      simp only [Option.some.injEq, List.drop_zero] at h
      subst h
      refine ⟨.agg (us.take sz).toArray, ?_, .agg _ _ _ (fun c hc => h1 c (List.mem_of_mem_take hc)) (by simpa using hv.take sz)⟩
      have hlen : (us.take sz).length = sz := by
        rw [List.length_take, hv.length]
        omega
      have hl2 := run_loadCells_list (P := E.P) C.w a (us.take sz) (fun j u hu => hc j u (by
        rw [List.getElem?_take] at hu
        split at hu
        · exact hu
        · simp at hu))
      rw [hlen] at hl2
      simp only [loadVar, Sem.run_bind, isAgg_run hag rfl, Result.andThen_ok, if_true, size_run hsz, hl2, Sem.run_pure]
    · simp at h

theorem flat_length {z : Nat} : ∀ {es : List AV}, (∀ e ∈ es, Good z e) → (es.flatMap AV.cells).length = es.length * z
  | [], _ => by simp
  | e :: es, h => by
    rw [List.flatMap_cons, List.length_append, (h e List.mem_cons_self).1, flat_length (fun x hx => h x (List.mem_cons_of_mem _ hx)), List.length_cons, Nat.succ_mul]
    omega

/-- The cells of element i stand behind those of the elements ahead of it. -/
theorem flat_split {z : Nat} {es : List AV} {e : AV} {i : Nat} (h : ∀ e ∈ es, Good z e) (hi : es[i]? = some e) : es.flatMap AV.cells = (es.take i).flatMap AV.cells ++ (e.cells ++ (es.drop (i + 1)).flatMap AV.cells) ∧ ((es.take i).flatMap AV.cells).length = i * z := by
  have hlt : i < es.length := (List.getElem?_eq_some_iff.1 hi).1
  have he : es[i] = e := (List.getElem?_eq_some_iff.1 hi).2
  constructor
  · have h2 : es.drop i = e :: es.drop (i + 1) := by rw [List.drop_eq_getElem_cons hlt, he]
    have h3 : es = es.take i ++ e :: es.drop (i + 1) := by rw [← h2, List.take_append_drop]
    rw [← List.flatMap_cons, ← List.flatMap_append, ← h3]
  · rw [flat_length (fun x hx => h x (List.mem_of_mem_take hx)), List.length_take, Nat.min_eq_left (by omega)]

theorem elem_cells {z : Nat} {es : List AV} {e : AV} {i : Nat} {us : List Value} (h : ∀ e ∈ es, Good z e) (hi : es[i]? = some e) (hv : Vs C p (es.flatMap AV.cells) us) : Vs C p e.cells ((us.drop (i * z)).take z) := by
  obtain ⟨h1, h2⟩ := flat_split h hi
  rw [h1] at hv
  have g := hv.split.2
  rw [h2] at g
  have g2 := g.split.1
  rw [(h e (List.mem_of_getElem? hi)).1] at g2
  exact g2

theorem add_add (a : Addr) (i j : Nat) : (a.add i).add j = a.add (i + j) := by
  unfold Addr.add
  by_cases hi : i = 0
  · subst hi; simp
  · by_cases hj : j = 0
    · subst hj; simp
    · rw [if_neg hi, if_neg hj, if_neg (by omega)]
      simp [Nat.add_assoc]

/-- What stands in an object's element. -/
theorem row_elem (hr : HR E C) {id ver i : Nat} {e : AV} (h : A.elemAt C.H id ver i = some e) : ∃ sz ty es us, C.H[id]? = some (.row ver sz ty es) ∧ es[i]? = some e ∧ Good sz e ∧ Vs C false e.cells us ∧
    ∀ j u, us[j]? = some u → C.w.cell? ⟨(C.ρ id).1, (C.ρ id).2 + (i * sz + j), none⟩ = some u := by
  unfold A.elemAt at h
  split at h
  · rename_i v sz ty es hrow
    cases hb : (v == ver)
    · rw [hb] at h; simp at h
    · rw [hb] at h
      have : v = ver := by simpa using hb
      subst this
      simp only [cond_true] at h
      obtain ⟨h0, hg, hk, cur, fr, us, hc, hf, hv, hcell⟩ := hr.row id v sz ty es hrow
      refine ⟨sz, ty, es, _, hrow, h, hg e (List.mem_of_getElem? h), elem_cells hg h hv, fun j u hu => ?_⟩
      rw [List.getElem?_take] at hu
      split at hu
      · rw [List.getElem?_drop] at hu
        have := hcell _ _ hu
        simp only [World.cell?, hc]
        simpa using this
      · simp at hu
  · simp at h

theorem loadH_ok (hr : HR E C) {t : TypeId} {ag : Bool} {sz : Nat} {x v : AV} {u0 : Value} (hag : E.isAgg t = some ag) (hsz : E.size t = some sz) (h : A.load ag sz x C.H = some v) (hx : V C p x u0) :
    ∃ u, (Instr.loadAt t u0).run E.P C.w = .ok u C.w ∧ V C false v u := by
  unfold A.load at h
  split at h
  · rename_i cs
    cases hx with
    | rop _ _ a us h0 h1 h2 h3 h4 =>
      obtain ⟨u, g1, g2⟩ := load_cells hag hsz h h1 h0 h2
      exact ⟨u, by simpa [Instr.loadAt, Instr.sureAddr] using g1, g2.weaken⟩
  · rename_i id ver i off
    rw [Option.bind_eq_some_iff] at h
    obtain ⟨e, he, hl⟩ := h
    obtain ⟨z, ty, es, us, h1, h2, h3, h4, h5⟩ := row_elem hr he
    cases hx with
    | ptr _ _ _ _ _ g0 g1 =>
      have := (g1.2 ver z ty es h1).2 rfl
      subst this
      obtain ⟨u, k1, k2⟩ := load_cells (a := ⟨(C.ρ id).1, (C.ρ id).2 + (i * z + off), none⟩) hag hsz (ofList_drop hl) (h4.drop off) (fun c hc => h3.2 c (List.mem_of_mem_drop hc)) (fun j u hu => by
        rw [List.getElem?_drop] at hu
        have := h5 _ _ hu
        rw [Addr.add_lit]
        rw [← this]
        congr 2
        omega)
      exact ⟨u, by simpa [Instr.loadAt, Instr.sureAddr] using k1, k2⟩
  · simp at h

end
end Go.Den
