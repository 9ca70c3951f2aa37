/- DEN, part L: structs, arrays and slices out of parts, as the machine does them. -/
import Derived.Test.YtikkpecdkdgmfaaDoorDenK
namespace Go.Den
open Go.RowKit

theorem foldl_set {l : List Value} : ∀ (k : Nat) (off : Nat) (cells : Array Value), off + k + l.length ≤ cells.size →
    (((l.zipIdx k).foldl (fun cs p => cs.setIfInBounds (off + p.2) p.1) cells).size = cells.size ∧ ∀ j, ((l.zipIdx k).foldl (fun cs p => cs.setIfInBounds (off + p.2) p.1) cells)[j]? = if off + k ≤ j ∧ j < off + k + l.length then l[j - (off + k)]? else cells[j]?) := by
  induction l with
  | nil =>
    intro k off cells _
    refine ⟨rfl, fun j => ?_⟩
    rw [if_neg (by simp only [List.length_nil]; omega)]
    rfl
  | cons v l ih =>
    intro k off cells h
    simp only [List.length_cons] at h
    simp only [List.zipIdx_cons, List.foldl_cons]
    obtain ⟨h1, h2⟩ := ih (k + 1) off (cells.setIfInBounds (off + k) v) (by simp; omega)
    refine ⟨by rw [h1]; simp, fun j => ?_⟩
    rw [h2]
    simp only [List.length_cons]
    by_cases hj : j = off + k
    · subst hj
      rw [if_neg (by omega), if_pos (by omega)]
      simp only [Nat.sub_self, List.getElem?_cons_zero]
      rw [Array.getElem?_setIfInBounds_self_of_lt (by omega)]
    · by_cases h3 : off + (k + 1) ≤ j ∧ j < off + (k + 1) + l.length
      · rw [if_pos h3, if_pos (by omega), show j - (off + k) = (j - (off + (k + 1))) + 1 by omega]
        simp
      · rw [if_neg h3, if_neg (by omega)]
        exact Array.getElem?_setIfInBounds_ne (Ne.symm hj)

theorem fill_step {cells v : Array Value} {off : Nat} (h : off + v.size ≤ cells.size) :
    (v.zipIdx.foldl (fun cs p => cs.setIfInBounds (off + p.2) p.1) cells).toList = cells.toList.take off ++ v.toList ++ cells.toList.drop (off + v.size) := by
  have h0 : v.zipIdx.foldl (fun cs p => cs.setIfInBounds (off + p.2) p.1) cells = (v.toList.zipIdx 0).foldl (fun cs p => cs.setIfInBounds (off + p.2) p.1) cells := by
    rw [← Array.foldl_toList, Array.toList_zipIdx]
  rw [h0]
  obtain ⟨h1, h2⟩ := foldl_set (l := v.toList) 0 off cells (by simpa using h)
  apply List.ext_getElem?
  intro j
  have := splice_get (us := cells.toList) (ws := v.toList) (s := off) (by simp; omega) j
  simp only [Array.length_toList] at this
  rw [this]
  have h3 := h2 j
  simp only [Nat.add_zero, Array.length_toList] at h3
  simpa using h3

section
variable {E : Env} {C : Ctx} {p q : Bool}

theorem fill_ok (place : Nat → Option (Nat × Nat)) {lam : Nat → Nat} {st : St} {a : Act} (hr : HR E C) (hf : FrameR C lam st a) : ∀ {ps : List (Nat × Operand)} {l : List (Nat × Nat × AV)} {z r : List AV} {cells : Array Value}, parts E st place ps = some l → A.fill z l = some r → Vs C false z cells.toList → (∀ c ∈ z, c.one = true) →
    ∃ cells', Instr.fill place cells (ps.map fun p => (p.1, a.eval p.2)) = some cells' ∧ Vs C false r cells'.toList ∧ ∀ c ∈ r, c.one = true
  | [], l, z, r, cells, hp, h, hv, h1 => by
    simp [parts] at hp
    subst hp
    simp only [A.fill, Option.some.injEq] at h
    subst h
    exact ⟨cells, rfl, hv, h1⟩
  | (i, x) :: ps, l, z, r, cells, hp, h, hv, h1 => by
    unfold parts at hp
    split at hp
    · rename_i off sz v hpl hev
      split at hp
      · rename_i r' hp'
        simp only [Option.some.injEq] at hp
        subst hp
        unfold A.fill at h
        split at h
        · rename_i hc
          obtain ⟨hl, hle, hd⟩ := hc
          have hvx := eval_ok hr hf hev
          obtain ⟨g1, g2⟩ := hvx.cells hd
          have hsz : (a.eval x).cells.size = sz := by rw [← Array.length_toList, g1.length, hl]
          have hcl : cells.size = z.length := by rw [← Array.length_toList, hv.length]
          have hst : ((a.eval x).cells.zipIdx.foldl (fun cs p => cs.setIfInBounds (off + p.2) p.1) cells).toList = cells.toList.take off ++ (a.eval x).cells.toList ++ cells.toList.drop (off + (a.eval x).cells.size) := fill_step (by omega)
          have hv2 : Vs C false (A.splice z off v.cells) ((a.eval x).cells.zipIdx.foldl (fun cs p => cs.setIfInBounds (off + p.2) p.1) cells).toList := by
            rw [hst]
            have := hv.splice g1 off
            rw [Array.length_toList] at this
            exact this
          obtain ⟨cells', k1, k2, k3⟩ := fill_ok place hr hf hp' h hv2 (splice_mem h1 g2)
          refine ⟨cells', ?_, k2, k3⟩
          simp only [List.map_cons, Instr.fill, hpl]
          rw [if_neg (by simp; omega)]
          exact k1
        · simp at h
      · simp at hp
    · simp at hp

theorem list_mapM_run {α β : Type} {P : Program} {w : World} {f : α → Sem β} {g : α → β} : ∀ {l : List α}, (∀ x ∈ l, (f x).run P w = .ok (g x) w) → (l.mapM f).run P w = .ok (l.map g) w
  | [], _ => rfl
  | x :: l, h => by
    rw [List.mapM_cons]
    simp only [Sem.run_bind, h x List.mem_cons_self, Result.andThen_ok, list_mapM_run (fun y hy => h y (List.mem_cons_of_mem _ hy)), Sem.run_pure, List.map_cons]

theorem fieldPlaces_get : ∀ {fs : List Field} {l : List (Nat × Nat)}, fieldPlaces E fs = some l → l = fs.map (fun f => (f.offset, (E.size f.type).getD 0)) ∧ ∀ f ∈ fs, ∃ s, E.size f.type = some s
  | [], l, h => by simp [fieldPlaces] at h; subst h; exact ⟨rfl, by simp⟩
  | f :: fs, l, h => by
    unfold fieldPlaces at h
    split at h
    · rename_i s hs
      split at h
      · rename_i r hr
        simp only [Option.some.injEq] at h
        subst h
        obtain ⟨h1, h2⟩ := fieldPlaces_get hr
        refine ⟨by rw [h1]; simp [hs], fun x hx => ?_⟩
        rcases List.mem_cons.1 hx with rfl | hx
        · exact ⟨s, hs⟩
        · exact h2 x hx
      · simp at h
    · simp at h

theorem zero_run {t : TypeId} {z : AV} (h : E.zero t = some z) (w : World) : ∃ zv, (zeroValue t).run E.P w = .ok zv w ∧ V C true z zv := by
  unfold Env.zero at h
  cases hi : E.P.info? t with
  | none => rw [hi] at h; simp at h
  | some i =>
    rw [hi] at h
    simp only [Option.bind_some, Option.bind_eq_some_iff] at h
    obtain ⟨zv, h1, h2⟩ := h
    exact ⟨zv, by simp [zeroValue, typeInfo, hi, h1], ofConst_ok h2⟩

theorem build_ok {t : TypeId} {lam : Nat → Nat} {st : St} {a : Act} (hr : HR E C) (hf : FrameR C lam st a) {ps : Array (Nat × Operand)} {z : List AV} {pl : Nat → Option (Nat × Nat)} {l : List (Nat × Nat × AV)} {v : AV} (hz : zeroCellsOf E t = some z) (hpl : places E t = some pl) (hp : parts E st pl ps.toList = some l)
    (h : (A.fill z l).map .agg = some v) : ∃ u, (Instr.build t (ps.map fun (i, x) => (i, a.eval x))).run E.P C.w = .ok u C.w ∧ V C false v u := by
  rw [Option.map_eq_some_iff] at h
  obtain ⟨r, h, rfl⟩ := h
  unfold zeroCellsOf at hz
  split at hz
  · rename_i z0 hz0
    cases hd : z0.isDef
    · rw [hd] at hz; simp at hz
    · rw [hd] at hz
      simp only [cond_true, Option.some.injEq] at hz
      subst hz
      obtain ⟨zv, k1, k2⟩ := zero_run (C := C) hz0 C.w
      obtain ⟨g1, g2⟩ := k2.cells hd
      obtain ⟨cells', c1, c2, c3⟩ := fill_ok pl hr hf hp h g1.weakenB g2
      have hps : (ps.map fun (i, x) => (i, a.eval x)).toList = ps.toList.map fun p => (p.1, a.eval p.2) := by simp
      refine ⟨.agg cells', ?_, .agg _ _ _ c3 c2⟩
      unfold places at hpl
      split at hpl
      · rename_i fs hu
        split at hpl
        · rename_i pls hfp
          simp only [Option.some.injEq] at hpl
          subst hpl
          obtain ⟨e1, e2⟩ := fieldPlaces_get hfp
          have hm : (fs.mapM fun f => (do pure (f.offset, ← sizeOf f.type) : Sem (Nat × Nat))).run E.P C.w = .ok pls.toArray C.w := by
            rw [Array.mapM_eq_mapM_toList]
            simp only [Sem.run_map]
            rw [list_mapM_run (g := fun f => (f.offset, (E.size f.type).getD 0)) (fun f hf => by
              obtain ⟨s, hs⟩ := e2 f hf
              simp only [Sem.run_bind, size_run hs, Result.andThen_ok, Sem.run_pure, hs, Option.getD_some])]
            rw [e1]
            rfl
          simp only [Instr.build, Sem.run_bind, k1, Result.andThen_ok, run_underlying hu, hm, hps]
          have : (fun (x : Nat) => pls.toArray[x]?) = fun (i : Nat) => pls[i]? := by funext i; simp
          rw [this, c1]
          rfl
        · simp at hpl
      · rename_i n e hu
        split at hpl
        · rename_i s hs
          simp only [Option.some.injEq] at hpl
          subst hpl
          simp only [Instr.build, Sem.run_bind, k1, Result.andThen_ok, run_underlying hu, size_run hs, hps, c1]
          rfl
        · simp at hpl
      · simp at hpl
  · simp at hz

theorem fillElems_ok {sz : Nat} {lam : Nat → Nat} {st : St} {a : Act} (hr : HR E C) (hf : FrameR C lam st a) : ∀ {ps : List (Nat × Operand)} {l : List (Nat × Nat × AV)} {es r : List AV} {cells : Array Value}, parts E st (fun i => some (i, 1)) ps = some l → A.fillElems sz es l = some r → Vs C false (es.flatMap AV.cells) cells.toList → (∀ e ∈ es, Good sz e) →
    ∃ cells', Instr.fill (fun i => some (i * sz, sz)) cells (ps.map fun p => (p.1, a.eval p.2)) = some cells' ∧ Vs C false (r.flatMap AV.cells) cells'.toList ∧ (∀ e ∈ r, Good sz e) ∧ r.length = es.length
  | [], l, es, r, cells, hp, h, hv, h1 => by
    simp [parts] at hp
    subst hp
    simp only [A.fillElems, Option.some.injEq] at h
    subst h
    exact ⟨cells, rfl, hv, h1, rfl⟩
  | (i, x) :: ps, l, es, r, cells, hp, h, hv, h1 => by
    unfold parts at hp
    split at hp
    · rename_i off sz' v hpl hev
      simp only [Option.some.injEq, Prod.mk.injEq] at hpl
      obtain ⟨rfl, rfl⟩ := hpl
      split at hp
      · rename_i r' hp'
        simp only [Option.some.injEq] at hp
        subst hp
        unfold A.fillElems at h
        split at h
        · rename_i hc
          obtain ⟨hl, hle, hd⟩ := hc
          have hvx := eval_ok hr hf hev
          obtain ⟨g1, g2⟩ := hvx.cells hd
          have hgv : Good sz v := ⟨hl, g2⟩
          have hsz : (a.eval x).cells.size = sz := by rw [← Array.length_toList, g1.length, hl]
          have hcl : cells.size = es.length * sz := by rw [← Array.length_toList, hv.length, flat_length h1]
          have hle2 : i * sz + sz ≤ es.length * sz := by
            have := Nat.mul_le_mul_right sz (show i + 1 ≤ es.length by omega)
            rwa [Nat.succ_mul] at this
          have hst := fill_step (cells := cells) (v := (a.eval x).cells) (off := i * sz) (by omega)
          have hge := h1 es[i] (List.getElem_mem hle)
          have hfs : (es.set i v).flatMap AV.cells = A.splice (es.flatMap AV.cells) (i * sz) v.cells := by
            have := flat_set (e' := v) (off := 0) (vs := v.cells) h1 (List.getElem?_eq_getElem hle) (by
              unfold A.splice
              simp only [List.take_zero, List.nil_append, Nat.zero_add]
              rw [List.drop_eq_nil_of_le (by rw [hge.1, hl]; omega), List.append_nil]) (by omega)
            simpa using this
          have hv2 : Vs C false ((es.set i v).flatMap AV.cells) ((a.eval x).cells.zipIdx.foldl (fun cs p => cs.setIfInBounds (i * sz + p.2) p.1) cells).toList := by
            rw [hst, hfs]
            have := hv.splice g1 (i * sz)
            rw [Array.length_toList] at this
            exact this
          obtain ⟨cells', k1, k2, k3, k4⟩ := fillElems_ok hr hf hp' h hv2 (set_good h1 hgv)
          refine ⟨cells', ?_, k2, k3, by rw [k4]; simp⟩
          simp only [List.map_cons, Instr.fill]
          rw [if_neg (by simp; omega)]
          exact k1
        · simp at h
      · simp at hp
    · simp at hp

theorem buildSlice_ok {t e : TypeId} {n sz : Nat} {lam : Nat → Nat} {st : St} {a : Act} (hr : HR E C) (hf : FrameR C lam st a) {ps : Array (Nat × Operand)} {z : AV} {l : List (Nat × Nat × AV)} {es : List AV} (ht : E.P.underlying t = some (.slice e)) (hsz : E.size e = some sz) (hz : E.zero e = some z)
    (hn : n * sz ≤ 16777216) (hpos : 0 < sz) (hzl : z.cells.length = sz) (hp : parts E st (fun i => some (i, 1)) ps.toList = some l) (h : A.fillElems sz (List.replicate n z) l = some es) :
    ∃ u C', (Instr.buildSlice t n (ps.map fun (i, x) => (i, a.eval x))).run E.P C.w = .ok u C'.w ∧ V C' false (A.newRow sz e es C.H).1 u ∧ HR E C' ∧ EvL C C' ∧ C'.H = (A.newRow sz e es C.H).2 := by
  obtain ⟨zv, k1, k2⟩ := zero_run (C := C) hz C.w
  have hzd : z.isDef = true := by
    unfold Env.zero at hz
    simp only [Option.bind_eq_some_iff] at hz
    obtain ⟨_, _, h2⟩ := hz
    exact ofConst_def h2
  obtain ⟨g1, g2⟩ := k2.cells hzd
  have hzs : zv.cells.size = sz := by rw [← Array.length_toList, g1.length, hzl]
  have hv0 : Vs C false ((List.replicate n z).flatMap AV.cells) ((Array.range (n * sz)).map (zv.cells[· % zv.cells.size]!)).toList := by
    have := (made_vs g1 hzs hpos n).weakenB
    rw [Array.toList_map, Array.toList_range, hzs]
    exact this
  obtain ⟨cells', c1, c2, c3, c4⟩ := fillElems_ok hr hf hp h hv0 (fun x hx => by
    have := List.eq_of_mem_replicate hx
    subst this
    exact ⟨hzl, g2⟩)
  have hps : (ps.map fun (i, x) => (i, a.eval x)).toList = ps.toList.map fun p => (p.1, a.eval p.2) := by simp
  have hlen : es.length = n := by rw [c4]; simp
  have key := row_new (E := E) (ver := 0) (sz := sz) (ty := e) (fr := (0, 0)) (w' := C.w.alloc (.cells cells' e)) hr ⟨rfl, rfl, rfl⟩ rfl hpos c3 (fun j _ h => by simp at h) c2 (fun j u hu => by simpa using hu)
  refine ⟨.slice (some ⟨C.w.heap.size, 0, none⟩) n n, _, ?_, ?_, key.1, key.2, rfl⟩
  · simp only [Instr.buildSlice, Sem.run_bind, run_underlying ht, Result.andThen_ok, size_run hsz]
    rw [if_neg (by omega)]
    simp only [Sem.run_bind, Sem.run_pure, Result.andThen_ok, hps]
    by_cases h0 : n * sz = 0
    · rw [if_pos h0]
      have : n = 0 := by
        rcases Nat.mul_eq_zero.1 h0 with h | h <;> omega
      subst this
      have e0 : (Array.range (0 * sz)).map ((#[] : Array Value)[· % (#[] : Array Value).size]!) = (Array.range (0 * sz)).map (zv.cells[· % zv.cells.size]!) := by simp
      simp only [pure_bind, e0, c1]
      rfl
    · rw [if_neg h0]
      simp only [Sem.run_bind, k1, Result.andThen_ok, Sem.run_pure, c1]
      rfl
  · refine .sl _ _ _ _ _ _ rfl ⟨by simp [Ctx.grow], fun v sz' ty' es' hx => ?_⟩
    simp [Ctx.grow] at hx
    obtain ⟨rfl, rfl, rfl, rfl⟩ := hx
    refine ⟨Nat.le_refl _, fun _ => ⟨⟨C.w.heap.size, 0, none⟩, n, by rw [hlen], Nat.le_refl _, by omega, by unfold maxLen; have := Nat.le_mul_of_pos_right n hpos; omega, fun _ => by simp [Ctx.grow], fun cells t' fr hc => ?_⟩⟩
    rw [grow_place] at hc ⊢
    have hc' := (heap_alloc_new C.w _).symm.trans hc
    injection hc' with hc'
    injection hc' with hc1 hc2 hc3
    subst hc1
    have : cells'.size = n * sz := by rw [← Array.length_toList, c2.length, flat_length c3, hlen]
    simp [this]

end
end Go.Den
