/- DEN, part O: the frame's own variables: laid, written, read. -/
import Derived.Test.YtikkpecdkdgmfaaDoorDenN
namespace Go.Den
open Go.RowKit

section
variable {E : Env} {C C' : Ctx} {lam : Nat → Nat} {st : St} {a : Act} {o : Oper} {Q : Exit → Act → World → Prop} {q : Bool}

theorem var_set_ne {s s' : Nat} {cs : List AV} (h : s ≠ s') : (st.setVar s cs).var s' = st.var s' := Tr.get_set_ne h
theorem var_set_self {s : Nat} {cs x : List AV} (h : (st.setVar s cs).var s = some x) : x = cs := by
  rcases Tr.get_set_self (z := (none : Option (List AV))) (t := st.L) (i := s) (x := some cs) with h1 | h1
  · have : (some cs : Option (List AV)) = some x := h1.symm.trans h
    injection this with this
    exact this.symm
  · have : (none : Option (List AV)) = some x := h1.1.symm.trans h
    cases this
theorem var_set_some {s : Nat} {cs ds : List AV} (h : st.var s = some ds) : (st.setVar s cs).var s = some cs := by
  rcases Tr.get_set_self (z := (none : Option (List AV))) (t := st.L) (i := s) (x := some cs) with h1 | h1
  · exact h1
  · have : (none : Option (List AV)) = some ds := h1.2.symm.trans h
    cases this
theorem get_setVar {s t : Nat} {cs : List AV} : (st.setVar s cs).get t = st.get t := rfl

def Ctx.lay (C : Ctx) (s : Nat) (w' : World) : Ctx := { C with w := w', κ := fun b => if b = C.w.heap.size then .loc s else C.κ b }

theorem lay_ok (hr : HR E C) {s : Nat} {w' : World} {b : Obj} (hs : Same C.w w') (hheap : w'.heap = C.w.heap.push b) : EvL C (C.lay s w') ∧ HR E (C.lay s w') := by
  have hold : ∀ i, i < C.w.heap.size → w'.heap[i]? = C.w.heap[i]? := fun i hi => by rw [hheap, Array.getElem?_push, if_neg (by omega)]
  have hne : ∀ i, i < C.w.heap.size → (C.lay s w').κ i = C.κ i := fun i hi => by show (if i = _ then _ else _) = _; rw [if_neg (by omega)]
  have ev : EvL C (C.lay s w') := by
    refine ⟨⟨hs.os, hs.tape, hs.output, by show _ ≤ w'.heap.size; rw [hheap]; simp, fun i hi _ => ⟨hold i hi, hne i hi⟩, Nat.le_refl _, ?_, ?_, ?_⟩, fun i hi s hl => ⟨hold i hi, (hne i hi).trans hl⟩⟩
    · intro i hi v sz ty es h
      refine ⟨v, es, h, Nat.le_refl _, fun _ => ⟨rfl, fun cells t f hc => ⟨cells, t, f, ?_, rfl⟩⟩⟩
      obtain ⟨_, _, _, cur, fr, us, hcur, _⟩ := hr.row i v sz ty es h
      rw [← hold _ (Array.getElem?_eq_some_iff.1 hcur).1]
      exact hc
    · exact fun i hi l pos h => ⟨⟨l, pos, h⟩, rfl⟩
    · exact fun i hi k e es h => ⟨⟨k, e, es, h⟩, rfl⟩
  refine ⟨ev, hr.step ev.ev ?_ ?_ ?_⟩
  · intro i v sz ty es h
    obtain ⟨_, _, hk, cur, fr, us, hcur, _⟩ := hr.row i v sz ty es h
    have hlt := (Array.getElem?_eq_some_iff.1 hcur).1
    exact .inl ⟨h, rfl, (hne _ hlt).trans hk, hold _ hlt⟩
  · intro i l pos h
    obtain ⟨hk, s, _, hcur⟩ := hr.iter i l pos h
    have hlt := (Array.getElem?_eq_some_iff.1 hcur).1
    exact .inl ⟨h, rfl, (hne _ hlt).trans hk, hold _ hlt⟩
  · intro i hi
    have hi' : C.w.heap.size + 1 ≤ i := by
      have : (C.lay s w').w.heap.size = C.w.heap.size + 1 := by show w'.heap.size = _; rw [hheap]; simp
      omega
    show (if i = _ then _ else _) = _
    rw [if_neg (by omega)]
    exact hr.new i (by omega)

theorem lay_wp (hr : HR E C) (hf : FrameR C lam st a) {s : Nat} {v : AV} {uv : Value} {x : SV} {st' : St} {H' : Heap} {t : TypeId} (h : layK s v.cells st C.H (fun x s G => some (x, s, G)) = some (x, st', H')) (hd : v.isDef = true) (hv : V C q v uv)
    (hrun : (execOp a.eval o).run E.P C.w = .ok (.value (.pointer (some ⟨C.w.heap.size, 0, none⟩))) (C.w.alloc (.cells uv.cells t))) : o.wp E.P a C.w (Post E C (stPut st' o.dst x) H') Q := by
  unfold layK at h
  split at h
  · rename_i hn
    split at h
    · rename_i ds hds
      simp only [Option.some.injEq, Prod.mk.injEq] at h
      obtain ⟨rfl, rfl, rfl⟩ := h
      have := var_set_self hds
      subst this
      obtain ⟨ev, hr'⟩ := lay_ok (s := s) (w' := C.w.alloc (.cells uv.cells t)) hr ⟨rfl, rfl, rfl⟩ rfl
      obtain ⟨hvc, h1⟩ := hv.cells hd
      have hf' := hf.ev ev
      have hF : FrameR (C.lay s (C.w.alloc (.cells uv.cells t))) (fun i => if i = s then C.w.heap.size else lam i) (st.setVar s v.cells) a := by
        refine ⟨hf.size, hf.defers, fun i => ?_, fun s' cs hs' => ?_⟩
        · have hi := hf'.slots i
          unfold SlotOk at hi ⊢
          rw [get_setVar]
          split at hi
          · exact hi
          · rename_i s2 off _
            have hne : s2 ≠ s := fun e => hi.2 (by rw [e]; exact hn)
            refine ⟨by simp only [if_neg hne]; exact hi.1, ?_⟩
            rw [var_set_ne (fun e => hne e.symm)]
            exact hi.2
          · trivial
        · by_cases e : s' = s
          · subst e
            rw [hds] at hs'
            injection hs' with hs'
            subst hs'
            simp only [if_true]
            have hsz : (C.w.alloc (.cells uv.cells t)).heap.size = C.w.heap.size + 1 := by simp
            refine ⟨by simp [Ctx.lay], by show _ < (C.w.alloc (.cells uv.cells t)).heap.size; omega, uv.cells, t, (0, 0), by show (C.w.heap.push _)[_]? = _; simp, fun j _ h => by omega, hvc.weakenB.ev ev.ev, h1⟩
          · simp only [if_neg e]
            exact hf'.vars s' cs (by rw [← hs', var_set_ne (fun e' => e e'.symm)])
      unfold Oper.wp
      rw [hrun]
      refine ⟨C.lay s (C.w.alloc (.cells uv.cells t)), _, rfl, rfl, hr', ev.ev, hF.put (x := .lp s 0) ⟨by simp, by rw [hds]; simp⟩⟩
    · simp at h
  · simp at h

/-- What a variable of the frame's own holds. -/
theorem loc_load (hf : FrameR C lam st a) {s off : Nat} {cs : List AV} {t : TypeId} {ag : Bool} {sz : Nat} {v : AV} (hs : st.var s = some cs) (hag : E.isAgg t = some ag) (hsz : E.size t = some sz) (h : A.ofList ag sz cs off = some v) :
    ∃ u, (loadVar t ⟨lam s, off, none⟩).run E.P C.w = .ok u C.w ∧ V C false v u := by
  obtain ⟨h1, h2, cur, ty, fr, h3, h4, h5, h6⟩ := hf.vars s cs hs
  exact load_cells (a := ⟨lam s, off, none⟩) hag hsz (ofList_drop h) (h5.drop off) (fun c hc => h6 c (List.mem_of_mem_drop hc)) fun j u hu => by
    rw [List.getElem?_drop, Array.getElem?_toList] at hu
    rw [Addr.add_lit]
    simp only [World.cell?, h3]
    simpa using hu

theorem loc_store (hr : HR E C) (hf : FrameR C lam st a) {s off : Nat} {cs : List AV} {t : TypeId} {sz : Nat} {v : AV} {uv : Value} (hs : st.var s = some cs) (hsz : E.size t = some sz) (hfit : A.fits sz v = true) (hle : off + v.cells.length ≤ cs.length) (hv : V C q v uv) :
    ∃ C', (storeVar t ⟨lam s, off, none⟩ uv).run E.P C.w = .ok () C'.w ∧ C'.H = C.H ∧ HR E C' ∧ Ev C C' ∧ FrameR C' lam (st.setVar s (A.splice cs off v.cells)) a := by
  obtain ⟨hd, hl, h1⟩ := fits_def hfit
  obtain ⟨hvc, _⟩ := hv.cells hd
  obtain ⟨k1, k2, cur, ty, fr, k3, k4, k5, k6⟩ := hf.vars s cs hs
  have hwl : uv.cells.toList.length = v.cells.length := hvc.length
  have hcl : cur.size = cs.length := by rw [← Array.length_toList]; exact k5.length
  have hrun : (storeVar t ⟨lam s, off, none⟩ uv).run E.P C.w = .ok () (C.w.setCells (lam s) off uv.cells.toList) := by
    have hcs : uv.cells.size = sz := by rw [← Array.length_toList, hwl, hl]
    simp only [storeVar, Sem.run_bind, Sem.run_pure, Result.andThen_ok, size_run hsz, hcs, ne_eq, not_true_eq_false, if_false]
    have := run_storeCells_cells (P := E.P) (lam s) off uv.cells.toList 0 C.w (fun j hj => by
      simp only [World.cell?, k3, Option.isSome_none, Bool.false_eq_true, if_false, Nat.add_zero]
      rw [Array.getElem?_eq_getElem (by omega)]
      rfl) (fun j hj => by
      simp only [World.frozen?, k3, Nat.add_zero]
      have := k4 (off + j) (by omega)
      simp only [Bool.and_eq_false_iff, decide_eq_false_iff_not]
      rcases Nat.lt_or_ge (off + j) fr.1 with h | h
      · exact .inl (by omega)
      · exact .inr (fun h2 => this ⟨h, h2⟩)) (hvc.one h1)
    simpa using this
  obtain ⟨cur', g1, g2, g3⟩ := setCells_heap (lam s) uv.cells.toList off C.w cur ty fr k3 (by rw [hwl, hcl]; exact hle)
  obtain ⟨f1, f2, f3, f4⟩ := setCells_frame (lam s) uv.cells.toList off C.w
  have hot : ∀ b, b ≠ lam s → (C.w.setCells (lam s) off uv.cells.toList).heap[b]? = C.w.heap[b]? := fun b hb => setCells_other _ _ _ _ _ hb
  have hobj : ∀ b id, C.κ b = .obj id → b ≠ lam s := fun b id hb e => by rw [e, k1] at hb; cases hb
  have ev : Ev C { C with w := C.w.setCells (lam s) off uv.cells.toList } := by
    refine ⟨f2, f3, f4, Nat.le_of_eq f1.symm, fun b hb hk => ⟨hot b fun e => ?_, rfl⟩, Nat.le_refl _, ?_, ?_, ?_⟩
    · rw [e, k1] at hk
      rcases hk with hk | hk <;> cases hk
    · intro i hi v sz ty es h
      refine ⟨v, es, h, Nat.le_refl _, fun _ => ⟨rfl, fun cells t f hc => ⟨cells, t, f, ?_, rfl⟩⟩⟩
      rw [← hot _ (hobj _ i (hr.row i v sz ty es h).2.2.1)]
      exact hc
    · exact fun i hi l pos h => ⟨⟨l, pos, h⟩, rfl⟩
    · exact fun i hi k e es h => ⟨⟨k, e, es, h⟩, rfl⟩
  refine ⟨{ C with w := C.w.setCells (lam s) off uv.cells.toList }, hrun, rfl, hr.step ev ?_ ?_ ?_, ev, ⟨hf.size, hf.defers, fun i => ?_, fun s' cs' hs' => ?_⟩⟩
  · intro i v sz ty es h
    exact .inl ⟨h, rfl, (hr.row i v sz ty es h).2.2.1, hot _ (hobj _ i (hr.row i v sz ty es h).2.2.1)⟩
  · intro i l pos h
    exact .inl ⟨h, rfl, (hr.iter i l pos h).1, hot _ (hobj _ i (hr.iter i l pos h).1)⟩
  · intro b hb
    exact hr.new b (by rw [← f1]; exact hb)
  · have hi := hf.slots i
    unfold SlotOk at hi ⊢
    rw [get_setVar]
    split at hi
    · exact hi.ev ev
    · rename_i s2 o2 _
      refine ⟨hi.1, ?_⟩
      by_cases e : s2 = s
      · rw [e, var_set_some hs]; simp
      · rw [var_set_ne (fun e' => e e'.symm)]; exact hi.2
    · trivial
  · by_cases e : s' = s
    · subst e
      rw [var_set_some hs] at hs'
      injection hs' with hs'
      subst hs'
      refine ⟨k1, by show _ < _; rw [f1]; exact k2, cur', ty, fr, g1, by rw [g2]; exact k4, ?_, splice_mem k6 h1⟩
      have hsp := (k5.splice hvc.weakenB off).ev ev
      have : cur'.toList = cur.toList.take off ++ uv.cells.toList ++ cur.toList.drop (off + uv.cells.toList.length) := by
        apply List.ext_getElem?
        intro j
        rw [splice_get (by rw [Array.length_toList]; omega)]
        simp only [Array.getElem?_toList, g3]
      rw [this]
      exact hsp
    · rw [var_set_ne (fun e' => e e'.symm)] at hs'
      obtain ⟨m1, m2, cur2, ty2, fr2, m3, m4, m5, m6⟩ := hf.vars s' cs' hs'
      have hne : lam s' ≠ lam s := fun e2 => by
        rw [e2, k1] at m1
        injection m1 with m1
        exact e m1.symm
      exact ⟨m1, by show _ < _; rw [f1]; exact m2, cur2, ty2, fr2, (hot _ hne).trans m3, m4, m5.ev ev, m6⟩

end
end Go.Den
