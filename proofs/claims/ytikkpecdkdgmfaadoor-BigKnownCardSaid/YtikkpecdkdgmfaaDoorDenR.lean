/- DEN, part R: texts sign by sign; the builtin functions; calls; each operation. -/
import Derived.Test.YtikkpecdkdgmfaaDoorDenQ
namespace Go.Den
open Go.RowKit

section
variable {E : Env} {cf : CallFn} {C C' : Ctx} {lam : Nat → Nat} {st : St} {a : Act} {o : Oper} {Q : Exit → Act → World → Prop} {q p : Bool} {site : Option Nat} {x : SV} {st' : St} {H' : Heap}

theorem range_sound (hr : HR E C) (hf : FrameR C lam st a) {t : TypeId} {y : Operand} (ho : o.op = .range t y)
    (h : opK E cf site o st C.H (fun x s G => some (x, s, G)) = some (x, st', H')) : o.wp E.P a C.w (Post E C (stPut st' o.dst x) H') Q := by
  unfold opK at h
  simp only [ho] at h
  split at h
  · rename_i l ht hy
    obtain ⟨s, hs, hsv⟩ := (eval_ok hr hf hy).str_inv
    have ev := grow_ev (o := .iter l 0) (w' := C.w.alloc (.stringIter s 0)) hr ⟨rfl, rfl, rfl⟩ rfl
    have hr' : HR E (C.grow (C.w.alloc (.stringIter s 0)) (.iter l 0)) := grow_hr hr ⟨rfl, rfl, rfl⟩ rfl (fun _ _ _ _ e => by cases e) (fun l' pos e => by
      injection e with e1 e2
      subst e1 e2
      refine ⟨by simp [Ctx.grow], s, hs, ?_⟩
      show (C.w.heap.push _)[((C.grow _ _).ρ C.H.length).1]? = _
      rw [grow_place]
      simp)
    refine make_wp (C' := C.grow (C.w.alloc (.stringIter s 0)) (.iter l 0)) hf h (u := .pointer (some ⟨C.w.heap.size, 0, none⟩)) ?_ hr' ev rfl (.it _ _ rfl ⟨by show _ < (C.H ++ [_]).length; simp, fun l' pos e => by rw [grow_place]⟩)
    unfold execOp
    simp only [ho, hsv]
    refine run_v ?_
    unfold Instr.range
    simp only [Sem.run_bind, run_underlying ht, Result.andThen_ok, Sem.run_pure, run_newObj_alloc]
    rfl
  · cases h

theorem next_sound (hr : HR E C) (hf : FrameR C lam st a) {y : Operand} {b : Bool} (ho : o.op = .next y b)
    (h : opK E cf site o st C.H (fun x s G => some (x, s, G)) = some (x, st', H')) : o.wp E.P a C.w (Post E C (stPut st' o.dst x) H') Q := by
  unfold opK at h
  simp only [ho] at h
  cases b
  · cases h
  · dsimp only at h
    split at h
    · rename_i id hy
      split at h
      · rename_i l pos hi
        have hu := eval_ok hr hf hy
        have hp : a.eval y = .pointer (some ⟨(C.ρ id).1, 0, none⟩) := by
          generalize a.eval y = u at hu
          cases hu with
          | it _ _ _ h2 => exact h2.2 l pos hi
        obtain ⟨hk, s, hsl, hheap⟩ := hr.iter id l pos hi
        have hsz : l.length = s.size := by rw [← hsl]; exact Array.length_toList
        have hsa : (⟨l.toArray⟩ : ByteArray) = s := by
          rw [← hsl]
        have hrun : ∀ u w', (Instr.next (.pointer (some ⟨(C.ρ id).1, 0, none⟩)) true o.type).run E.P C.w = .ok u w' → (execOp a.eval o).run E.P C.w = .ok (.value u) w' := fun u w' hn => by
          unfold execOp
          simp only [ho, hp]
          exact run_v hn
        split at h
        · rename_i hlt
          have hlt' : pos < s.size := by omega
          have hne : ∀ b i, C.κ b = .obj i → i ≠ id → b ≠ (C.ρ id).1 := fun b i hb hi e => by
            rw [e, hk] at hb
            injection hb with hb
            exact hi hb.symm
          have hbs : (C.ρ id).1 < C.w.heap.size := (Array.getElem?_eq_some_iff.1 hheap).1
          have hidl : id < C.H.length := (List.getElem?_eq_some_iff.1 hi).1
          generalize hd : Utf8.decode s pos = d
          have hot : ∀ b, b ≠ (C.ρ id).1 → (C.w.heap.setIfInBounds (C.ρ id).1 (.stringIter s (pos + d.2)))[b]? = C.w.heap[b]? := fun b hb => Array.getElem?_setIfInBounds_ne (fun e => hb e.symm)
          have hHne : ∀ i, i ≠ id → ∀ n, (C.H.set id (HObj.iter l (pos + n)))[i]? = C.H[i]? := fun i hi n => List.getElem?_set_ne (fun e => hi e.symm)
          have hHself : ∀ n, (C.H.set id (HObj.iter l (pos + n)))[id]? = some (.iter l (pos + n)) := fun n => List.getElem?_set_self hidl
          let C1 : Ctx := { C with w := { C.w with heap := C.w.heap.setIfInBounds (C.ρ id).1 (.stringIter s (pos + d.2)) }, H := C.H.set id (.iter l (pos + d.2)) }
          have ev : EvL C C1 := by
            refine ⟨⟨rfl, rfl, rfl, by simp [C1], fun b hb hk' => ⟨hot b fun e => ?_, rfl⟩, by simp [C1], ?_, ?_, ?_⟩, fun b hb s' hs' => ⟨hot b fun e => ?_, hs'⟩⟩
            · rw [e, hk] at hk'
              rcases hk' with hk' | hk' <;> cases hk'
            · intro i hil v sz ty es hrow
              by_cases e : i = id
              · subst e
                rw [hHself] at hrow
                cases hrow
              · rw [hHne i e] at hrow
                refine ⟨v, es, hrow, Nat.le_refl _, fun _ => ⟨rfl, fun cells t f hc => ⟨cells, t, f, ?_, rfl⟩⟩⟩
                rw [← hot _ (hne _ i (hr.row i v sz ty es hrow).2.2.1 e)]
                exact hc
            · intro i hil l' pos' hit
              by_cases e : i = id
              · subst e
                exact ⟨⟨l, pos, hi⟩, rfl⟩
              · rw [hHne i e] at hit
                exact ⟨⟨l', pos', hit⟩, rfl⟩
            · intro i hil k' e' es' hm
              by_cases e : i = id
              · subst e
                rw [hHself] at hm
                cases hm
              · rw [hHne i e] at hm
                exact ⟨⟨k', e', es', hm⟩, rfl⟩
            · rw [e, hk] at hs'
              cases hs'
          have hr' : HR E C1 := by
            refine hr.step ev.ev ?_ ?_ ?_
            · intro i v sz ty es hrow
              by_cases e : i = id
              · subst e
                rw [hHself] at hrow
                cases hrow
              · rw [hHne i e] at hrow
                exact .inl ⟨hrow, rfl, (hr.row i v sz ty es hrow).2.2.1, hot _ (hne _ i (hr.row i v sz ty es hrow).2.2.1 e)⟩
            · intro i l' pos' hit
              by_cases e : i = id
              · subst e
                rw [hHself] at hit
                injection hit with hit
                injection hit with h1 h2
                subst h1 h2
                exact .inr ⟨hk, s, hsl, by show (C.w.heap.setIfInBounds _ _)[_]? = _; rw [Array.getElem?_setIfInBounds_self_of_lt hbs]⟩
              · rw [hHne i e] at hit
                exact .inl ⟨hit, rfl, (hr.iter i l' pos' hit).1, hot _ (hne _ i (hr.iter i l' pos' hit).1 e)⟩
            · intro b hb
              exact hr.new b (by simpa [C1] using hb)
          rw [hsa, hd] at h
          refine make_wp (C' := C1) hf h (hrun (.tuple #[.bool true, goInt pos, .int .i32 d.1]) _ ?_) hr' ev rfl (.tup _ _ _ (.cons _ _ _ _ _ (.bool _ _) (.cons _ _ _ _ _ (.int _ _ _) (.cons _ _ _ _ _ (.int _ _ _) (.nil _)))))
          have hget : (getObj (C.ρ id).1).run E.P C.w = .ok (.stringIter s pos) C.w := by simp [getObj, Sem.run, hheap]
          have hset : ∀ n, (setObj (C.ρ id).1 (.stringIter s n)).run E.P C.w = .ok () { C.w with heap := C.w.heap.setIfInBounds (C.ρ id).1 (.stringIter s n) } := fun n => by simp [setObj, Sem.run, hheap]
          unfold Instr.next
          simp only [Sem.run_bind, hget, Result.andThen_ok, hlt', if_true, hd, hset, Sem.run_pure]
          rfl
        · rename_i hlt
          have hlt' : ¬ pos < s.size := by omega
          refine pure_wp (p := false) hr hf h (hrun (.tuple #[.bool false]) _ ?_) (.tup _ _ _ (.cons _ _ _ _ _ (.bool _ _) (.nil _)))
          have hget : (getObj (C.ρ id).1).run E.P C.w = .ok (.stringIter s pos) C.w := by simp [getObj, Sem.run, hheap]
          unfold Instr.next
          simp only [Sem.run_bind, hget, Result.andThen_ok, hlt', if_false, Sem.run_pure]

      · cases h
    · cases h

theorem max_ok {P : Program} {w : World} : ∀ {xs : List AV} {y v : AV} {u : Value} {us : List Value}, xs.foldlM A.maxv y = some v → V C p y u → Vs C p xs us → ∃ u', (us.foldlM Builtin.max2 u).run P w = .ok u' w ∧ V C p v u'
  | [], y, v, u, us, h, hy, hx => by
    cases hx
    simp only [List.foldlM_nil, Option.pure_def, Option.some.injEq] at h
    subst h
    exact ⟨u, rfl, hy⟩
  | z :: xs, y, v, u, us, h, hy, hx => by
    cases hx with
    | cons _ _ u1 _ us h1 h2 =>
      rw [List.foldlM_cons] at h
      simp only [Option.bind_eq_bind, Option.bind_eq_some_iff] at h
      obtain ⟨m, hm, h⟩ := h
      unfold A.maxv at hm
      split at hm
      · rename_i k a k' b
        cases hk : decide (k = k')
        · rw [hk] at hm; cases hm
        · rw [hk] at hm
          simp only [cond_true, Option.some.injEq] at hm
          subst hm
          cases hy
          cases h1
          obtain ⟨u', g1, g2⟩ := max_ok (P := P) (w := w) h (.int p k _) h2
          refine ⟨u', ?_, g2⟩
          rw [List.foldlM_cons, Sem.run_bind]
          exact g1
      · cases hm

theorem min_ok {P : Program} {w : World} : ∀ {xs : List AV} {y v : AV} {u : Value} {us : List Value}, xs.foldlM A.minv y = some v → V C p y u → Vs C p xs us → ∃ u', (us.foldlM Builtin.min2 u).run P w = .ok u' w ∧ V C p v u'
  | [], y, v, u, us, h, hy, hx => by
    cases hx
    simp only [List.foldlM_nil, Option.pure_def, Option.some.injEq] at h
    subst h
    exact ⟨u, rfl, hy⟩
  | z :: xs, y, v, u, us, h, hy, hx => by
    cases hx with
    | cons _ _ u1 _ us h1 h2 =>
      rw [List.foldlM_cons] at h
      simp only [Option.bind_eq_bind, Option.bind_eq_some_iff] at h
      obtain ⟨m, hm, h⟩ := h
      unfold A.minv at hm
      split at hm
      · rename_i k a k' b
        cases hk : decide (k = k')
        · rw [hk] at hm; cases hm
        · rw [hk] at hm
          simp only [cond_true, Option.some.injEq] at hm
          subst hm
          cases hy
          cases h1
          obtain ⟨u', g1, g2⟩ := min_ok (P := P) (w := w) h (.int p k _) h2
          refine ⟨u', ?_, g2⟩
          rw [List.foldlM_cons, Sem.run_bind]
          exact g1
      · cases hm

theorem arr_one {α : Type} {xs : Array α} {x : α} (h : xs.toList = [x]) : xs = #[x] := by
  apply Array.toList_inj.1
  exact h
theorem arr_two {α : Type} {xs : Array α} {x y : α} (h : xs.toList = [x, y]) : xs = #[x, y] := by
  apply Array.toList_inj.1
  exact h

theorem news_ok (hr : HR E C) {sz : Nat} {tx : TypeId} {y : AV} {u : Value} {news : List AV} (h : newsOf E sz tx y C.H = some news) (hy : V C p y u) :
    ∃ ws, Src E.P sz tx u news.length ws C.w ∧ Vs C false (news.flatMap AV.cells) ws ∧ ∀ e ∈ news, Good sz e := by
  unfold newsOf at h
  split at h
  · rename_i ht
    split at h
    · rename_i l
      cases hd : decide (sz = 1)
      · rw [hd] at h; cases h
      · rw [hd] at h
        simp only [cond_true, Option.some.injEq] at h
        simp only [decide_eq_true_eq] at hd
        subst hd h
        obtain ⟨s, rfl, rfl⟩ := hy.str_inv
        exact strElems_ok ht
    · cases h
  · rename_i e ht
    exact read_ok hr ht h hy
  · cases h

theorem isSl_ok {d : AV} {u : Value} {p : Bool} (h : A.isSl d C.H = true) (hd : V C p d u) : ∃ a n c, u = .slice a n c := by
  unfold A.isSl at h
  split at h
  · cases hd
    exact ⟨_, _, _, rfl⟩
  · rename_i id ver off n cap
    obtain ⟨sz, ty, es, hrow⟩ := alive_row h
    cases hd with
    | sl _ _ _ _ _ _ g0 g1 =>
      obtain ⟨a, c, hu, _⟩ := (g1.2 ver sz ty es hrow).2 rfl
      exact ⟨_, _, _, hu⟩
  · cases h

theorem copy_none {t tx ty e : TypeId} {sz : Nat} {x : Value} (he : E.P.underlying t = some (.slice e)) (hsz : E.size e = some sz) (hs : Src E.P sz tx x 0 [] C.w) (a : Option Addr) (n c : Nat) :
    (Builtin.copy_ #[t, tx] ty #[.slice a n c, x]).run E.P C.w = .ok (.int .i64 0) C.w := by
  have hl := hs.len C.w
  have hc := hs.cells
  have hz := size_run (E := E) (w := C.w) hsz
  have e1 : Builtin.copy_ #[t, tx] ty #[.slice a n c, x] = (do
      let .slice elem ← underlying t | stuck "copy: slice type expected"
      let n := Nat.min (← Builtin.lenOf x) n
      let cells ← Builtin.firstCells (← sizeOf elem) n x
      if let some a := a then storeCells a cells.toList
      pure (goInt n)) := rfl
  rw [e1]
  simp only [Sem.run_bind, run_underlying he, Result.andThen_ok, hl, hz]
  have : Nat.min 0 n = 0 := Nat.zero_min n
  simp only [this, hc, Result.andThen_ok]
  cases a <;> simp [storeCells, goInt]

/-- The builtin functions. -/
theorem builtin_sound (hr : HR E C) {b : Builtin} {ts : Array TypeId} {ty : TypeId} {cs : Array Bool} {args : List AV} {us : Array Value} {v : AV} (hv : Vs C false args us.toList)
    (h : builtinK E b ts.toList args C.H (fun v G => some (v, G)) = some (v, H')) :
    ∃ u C', (builtin b ts ty cs us).run E.P C.w = .ok (.value u) C'.w ∧ HR E C' ∧ EvL C C' ∧ C'.H = H' ∧ V C' false v u := by
  have one : ∀ {y : AV} {p : Bool}, Vs C p [y] us.toList → ∃ u, us = #[u] ∧ V C p y u := fun {y p} hv => by
    generalize hul : us.toList = ul at hv
    cases hv with
    | cons _ _ u _ us' h1 h2 =>
      cases h2
      exact ⟨u, arr_one hul, h1⟩
  have two : ∀ {y z : AV} {p : Bool}, Vs C p [y, z] us.toList → ∃ u1 u2, us = #[u1, u2] ∧ V C p y u1 ∧ V C p z u2 := fun {y z p} hv => by
    generalize hul : us.toList = ul at hv
    cases hv with
    | cons _ _ u _ us' h1 h2 =>
      cases h2 with
      | cons _ _ u2 _ us2 h3 h4 =>
        cases h4
        exact ⟨u, u2, arr_two hul, h1, h3⟩
  have same : ∀ {y : AV} {G : Heap}, (some (y, G) : Option (AV × Heap)) = some (v, H') → y = v ∧ G = H' := fun h => by
    simp only [Option.some.injEq, Prod.mk.injEq] at h
    exact h
  unfold builtinK at h
  split at h
  · rename_i t x hts
    obtain ⟨u, rfl, h1⟩ := one hv
    have := arr_one hts
    subst this
    split at h
    · rename_i ht
      obtain ⟨v', hv', h⟩ := withV_some h
      obtain ⟨rfl, rfl⟩ := same h
      obtain ⟨u', g1, g2⟩ := lenStr_ok (ty := ty) ht hv' h1
      exact ⟨u', C, run_v g1, hr, EvL.refl C, rfl, g2.weaken⟩
    · rename_i e ht
      obtain ⟨v', hv', h⟩ := withV_some h
      obtain ⟨rfl, rfl⟩ := same h
      obtain ⟨u', g1, g2⟩ := len_ok (ty := ty) ht hv' h1
      exact ⟨u', C, run_v g1, hr, EvL.refl C, rfl, g2.weaken⟩
    · cases h
  · rename_i x xs
    obtain ⟨v', hv', h⟩ := withV_some h
    obtain ⟨rfl, rfl⟩ := same h
    generalize hul : us.toList = ul at hv
    cases hv with
    | cons _ _ u _ us' h1 h2 =>
      obtain ⟨u', g1, g2⟩ := max_ok (P := E.P) (w := C.w) hv' h1 h2
      exact ⟨u', C, run_v (by unfold Builtin.max_; rw [hul]; exact g1), hr, EvL.refl C, rfl, g2⟩
  · rename_i x xs
    obtain ⟨v', hv', h⟩ := withV_some h
    obtain ⟨rfl, rfl⟩ := same h
    generalize hul : us.toList = ul at hv
    cases hv with
    | cons _ _ u _ us' h1 h2 =>
      obtain ⟨u', g1, g2⟩ := min_ok (P := E.P) (w := C.w) hv' h1 h2
      exact ⟨u', C, run_v (by unfold Builtin.min_; rw [hul]; exact g1), hr, EvL.refl C, rfl, g2⟩
  · rename_i t tx s x hts
    obtain ⟨u1, u2, rfl, h1, h2⟩ := two hv
    have := arr_two hts
    subst this
    split at h
    · rename_i e he
      split at h
      · rename_i sz by_ z hsz hby hz
        cases hc : (decide (z.cells.length = sz) && decide (0 < sz))
        · simp only [hc, cond_false] at h
          cases h
        · simp only [hc, cond_true] at h
          simp only [Bool.and_eq_true, decide_eq_true_eq] at hc
          split at h
          · rename_i news hnews
            split at h
            · rename_i v1 H1 ha
              obtain ⟨rfl, rfl⟩ := same h
              obtain ⟨ws, k1, k2, k3⟩ := news_ok hr hnews h2
              obtain ⟨u, C', g1, g2, g3, g4, g5⟩ := append_ok (ty := ty) hr (elem_slice he) hsz hby hz hc.1 hc.2 k1 k2 k3 ha h1
              exact ⟨u, C', run_v g1, g3, g4, g5, g2⟩
            · cases h
          · cases h
      · cases h
    · cases h
  · rename_i t d hts
    obtain ⟨u1, rfl, h1⟩ := one hv
    have := arr_one hts
    subst this
    split at h
    · rename_i e he
      split at h
      · rename_i sz z hsz hz
        cases hc : decide (z.cells.length = sz)
        · simp only [hc, cond_false] at h
          cases h
        · simp only [hc, cond_true] at h
          simp only [decide_eq_true_eq] at hc
          split at h
          · rename_i v1 H1 ha
            obtain ⟨rfl, rfl⟩ := same h
            obtain ⟨u, C', g1, g2, g3, g4, g5⟩ := clear_ok (ty := ty) hr (elem_slice he) hsz hz hc ha h1
            exact ⟨u, C', run_v g1, g3, g4, g5, g2⟩
          · cases h
      · cases h
    · cases h
  · rename_i t tx d x hts
    obtain ⟨u1, u2, rfl, h1, h2⟩ := two hv
    have := arr_two hts
    subst this
    split at h
    · rename_i e he
      split at h
      · rename_i sz hsz
        split at h
        · rename_i hnews
          cases hi : A.isSl d C.H
          · rw [hi] at h
            cases h
          · rw [hi] at h
            simp only [cond_true] at h
            obtain ⟨rfl, rfl⟩ := same h
            obtain ⟨ws, k1, k2, k3⟩ := news_ok hr hnews h2
            obtain ⟨a, n, c, hu⟩ := isSl_ok hi h1
            subst hu
            have hw : ws = [] := by
              have := k1.newsLen
              simpa using this
            subst hw
            refine ⟨.int .i64 0, C, run_v ?_, hr, EvL.refl C, rfl, .int _ _ _⟩
            exact copy_none (elem_slice he) hsz k1 a n c
        · cases h
      · cases h
    · cases h
  · rename_i t hts
    obtain ⟨u1, rfl, h1⟩ := one hv
    have := arr_one hts
    subst this
    split at h
    · rename_i e he
      obtain ⟨rfl, rfl⟩ := same h
      cases h1
      exact ⟨.int .i64 0, C, run_v (by simp [Builtin.cap_, run_underlying he, goInt]), hr, EvL.refl C, rfl, .int _ _ _⟩
    · cases h
  · rename_i t s hts
    obtain ⟨u1, rfl, h1⟩ := one hv
    have := arr_one hts
    subst this
    obtain ⟨v', hv', h⟩ := withV_some h
    obtain ⟨rfl, rfl⟩ := same h
    obtain ⟨u, g1, g2⟩ := sliceData_ok (ts := #[t]) (ty := ty) hv' h1
    exact ⟨u, C, run_v g1, hr, EvL.refl C, rfl, g2⟩
  · rename_i pt it x n hts
    obtain ⟨u1, u2, rfl, h1, h2⟩ := two hv
    have := arr_two hts
    subst this
    split at h
    · rename_i e he
      cases hc : Nat.beq (E.P.cellsOf e) 1
      · rw [hc] at h
        cases h
      · rw [hc] at h
        simp only [cond_true] at h
        split at h
        · rename_i v1 H1 ha
          obtain ⟨rfl, rfl⟩ := same h
          obtain ⟨u, C', g1, g2, g3, g4, g5⟩ := unsafeStr_ok (it := it) (ty := ty) hr he (Nat.eq_of_beq_eq_true hc) ha h1 h2
          exact ⟨u, C', run_v g1, g2, g3, g4, g5⟩
        · cases h
    · cases h
  · cases h

theorem callV_sound (hck : CallKOK E cf) (hr : HR E C) {f : AV} {uf : Value} {args : List AV} {us : Array Value} {v : AV} (hfv : V C false f uf) (hv : Vs C false args us.toList)
    (h : callV E cf f args C.H (fun v G => some (v, G)) = some (v, H')) : ∃ g fs cs, uf = .func (.func g) fs cs ∧ Lands E.P g (fs ++ us ++ cs) C.w (GivesL E C v H') := by
  unfold callV at h
  split at h
  · rename_i g first captured
    cases hfv with
    | fn _ _ _ _ fs cs h1 h2 =>
      refine ⟨g, fs, cs, rfl, hck _ _ C _ _ _ h hr ?_⟩
      rw [Array.toList_append, Array.toList_append]
      exact (h1.append hv).append h2
  · cases h

/-- What is given goes on. -/
theorem gives_wp {v : AV} {x : SV} {H1 : Heap} {g : FuncId} {us : Array Value} (hf : FrameR C lam st a) (hrun : (execOp a.eval o).run E.P C.w = (callFunc g us).run E.P C.w) (hl : Lands E.P g us C.w (GivesL E C v H1))
    (h : (some (SV.val v, st, H1) : Option (SV × St × Heap)) = some (x, st', H')) : o.wp E.P a C.w (Post E C (stPut st' o.dst x) H') Q := by
  simp only [Option.some.injEq, Prod.mk.injEq] at h
  obtain ⟨rfl, rfl, rfl⟩ := h
  exact lands_wp hf hrun hl

theorem method_run {t : TypeId} {v : Value} {m : String} {mt : Method} {f : FuncId} {ptr : Bool} {w : World} {d : TypeDesc} (hm : (E.P.info? t).bind (fun i => i.methods.find? (·.name == m)) = some mt) (hfn : mt.func = some (f, ptr)) (hp : mt.path.toList = [])
    (hd : E.P.underlying t = some d) (hk : (∃ e, d = .pointer e ∧ ptr = true) ∨ ((∀ e, d ≠ .pointer e) ∧ ptr = false)) (n : Nat) : (method (n + 1) t v m).run E.P w = .ok (f, v) w := by
  simp only [Option.bind_eq_some_iff] at hm
  obtain ⟨i, hi, hm⟩ := hm
  have hti : (typeInfo t).run E.P w = .ok i w := by simp [typeInfo, Sem.run_bind, hi]
  unfold method
  simp only [Sem.run_bind, hti, Result.andThen_ok, hm, hp, follow, Sem.run_pure, hfn]
  rcases hk with ⟨e, rfl, rfl⟩ | ⟨hne, rfl⟩
  · simp only [receiverAt, Sem.run_bind, run_underlying hd, Result.andThen_ok, Place.get, Sem.run_pure]
  · simp only [receiverAt, Sem.run_bind, run_underlying hd, Result.andThen_ok]
    cases d <;> first | exact absurd rfl (hne _) | simp only [Place.get, Sem.run_pure, Result.andThen_ok]

theorem call_sound (hcn : CNat cf) (hck : CallKOK E cf) (hr : HR E C) (hf : FrameR C lam st a) {c : Call} (ho : o.op = .call c)
    (h : opK E cf site o st C.H (fun x s G => some (x, s, G)) = some (x, st', H')) : o.wp E.P a C.w (Post E C (stPut st' o.dst x) H') Q := by
  unfold opK at h
  simp only [ho] at h
  split at h
  · rename_i args hargs
    have hv : Vs C false args (c.args.map a.eval).toList := by simpa using evals_ok hr hf hargs
    split at h
    · rename_i f hc
      split at h
      case h_2 =>
        split at h
        · rename_i g
          rw [callQ_nat _ _ _ (k := fun w H' => some (SV.val w, st, H')) (g := fun v G => some (v, G)) (h := fun p => some (SV.val p.1, st, p.2)) (fun _ _ => rfl)] at h
          simp only [Option.bind_eq_some_iff] at h
          obtain ⟨⟨v, H1⟩, h1, h⟩ := h
          refine gives_wp hf ?_ (hck _ _ C _ _ _ (callQ_callK h1) hr hv) h
          unfold execOp
          simp only [ho, resolve, hc, Act.eval, Deferred.ofValue, Sem.run_bind, Sem.run_pure, Result.andThen_ok, invoke]
          simp only [Array.empty_append, Array.append_empty]
        · cases h
      split at h
      · rename_i fv hfv
        rw [callV_nat hcn _ _ _ (k := fun w H' => some (SV.val w, st, H')) (g := fun v G => some (v, G)) (h := fun p => some (SV.val p.1, st, p.2)) (fun _ _ => rfl)] at h
        simp only [Option.bind_eq_some_iff] at h
        obtain ⟨⟨v, H1⟩, h1, h⟩ := h
        obtain ⟨g, fs, cs, hu, hl⟩ := callV_sound hck hr (eval_ok hr hf hfv) hv h1
        refine gives_wp hf ?_ hl h
        unfold execOp
        simp only [ho, resolve, hc, hu, Deferred.ofValue, Sem.run_bind, Sem.run_pure, Result.andThen_ok, invoke]
      · cases h
    · rename_i b hc
      rw [builtinK_nat _ _ _ _ (k := fun w H' => some (SV.val w, st, H')) (g := fun v G => some (v, G)) (h := fun p => some (SV.val p.1, st, p.2)) (fun _ _ => rfl)] at h
      simp only [Option.bind_eq_some_iff] at h
      obtain ⟨⟨v, H1⟩, h1, h⟩ := h
      obtain ⟨u, C', g1, g2, g3, g4, g5⟩ := builtin_sound (ty := o.type) (cs := c.args.map fun | .const _ => true | _ => false) hr hv h1
      refine make_wp hf h ?_ g2 g3 g4 g5
      unfold execOp
      simp only [ho, resolve, hc, Sem.run_bind, Sem.run_pure, Result.andThen_ok, invoke]
      exact g1
    · rename_i r m hc
      split at h
      · rename_i t w hw
        have hu := eval_ok hr hf hw
        generalize hru : a.eval r = ur at hu
        cases hu with
        | iface _ _ _ uw huw =>
          split at h
          · rename_i mt hm
            split at h
            · rename_i f ptr hfn hp
              have hargs' : Vs C false (w :: args) (#[uw] ++ c.args.map a.eval).toList := by
                rw [Array.toList_append]
                exact .cons _ _ _ _ _ huw hv
              have fin : ∀ {d : TypeDesc}, E.P.underlying t = some d → ((∃ e, d = .pointer e ∧ ptr = true) ∨ ((∀ e, d ≠ .pointer e) ∧ ptr = false)) →
                  callK E cf f (w :: args) C.H (fun w H' => some (SV.val w, st, H')) = some (x, st', H') → o.wp E.P a C.w (Post E C (stPut st' o.dst x) H') Q := fun {d} hd hk h => by
                rw [callK_nat hcn _ _ _ (k := fun w H' => some (SV.val w, st, H')) (g := fun v G => some (v, G)) (h := fun p => some (SV.val p.1, st, p.2)) (fun _ _ => rfl)] at h
                simp only [Option.bind_eq_some_iff] at h
                obtain ⟨⟨v, H1⟩, h1, h⟩ := h
                refine gives_wp hf ?_ (hck _ _ C _ _ _ h1 hr hargs') h
                unfold execOp
                have hx : (#[Value.iface t uw] ++ c.args.map a.eval)[0]? = some (Value.iface t uw) := by rw [← Array.getElem?_toList, Array.toList_append]; rfl
                have he : (#[Value.iface t uw] ++ c.args.map a.eval).extract 1 (#[Value.iface t uw] ++ c.args.map a.eval).size = c.args.map a.eval := by
                  apply Array.toList_inj.1
                  simp only [Array.toList_extract, Array.toList_append, List.extract_eq_take_drop, List.cons_append, List.nil_append, List.drop_succ_cons, List.drop_zero]
                  exact List.take_of_length_le (by simp)
                simp only [ho, resolve, hc, hru, Sem.run_bind, Sem.run_pure, Result.andThen_ok, invoke, hx, he, callMethod]
                have hpr : program.run E.P C.w = .ok E.P C.w := rfl
                rw [hpr]
                simp only [Result.andThen_ok]
                rw [show E.P.types.size + Made.depth = (E.P.types.size + Made.depth - 1) + 1 from (Nat.sub_add_cancel (by show 1 ≤ E.P.types.size + Made.depth; unfold Made.depth; omega)).symm, method_run hm hfn hp hd hk]
                rfl
              split at h
              · rename_i e ht
                cases ptr
                · cases h
                · exact fin ht (.inl ⟨e, rfl, rfl⟩) h
              · rename_i d hnp ht
                cases ptr
                · exact fin ht (.inr ⟨fun e he => hnp e (by rw [← he]), rfl⟩) h
                · cases h
              · cases h
            · cases h
          · cases h
      · cases h
  · cases h

end
end Go.Den
