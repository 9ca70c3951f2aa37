/- DEN, part I: loads, stores, new variables, new rows, appends, as the machine does them. -/
import Derived.Test.YtikkpecdkdgmfaaDoorDenH
import Derived.Deep.AppendSrc
import Derived.Deep.Upon
namespace Go.Den
open Go.RowKit

section lists
variable {α : Type}
theorem splice_get {us ws : List α} {s : Nat} (hs : s ≤ us.length) (j : Nat) : (us.take s ++ ws ++ us.drop (s + ws.length))[j]? = if s ≤ j ∧ j < s + ws.length then ws[j - s]? else us[j]? := by
  have ht : (us.take s).length = s := by simp [hs]
  rcases Nat.lt_or_ge j s with h | h
  · rw [if_neg (by omega), List.append_assoc, List.getElem?_append_left (by omega), List.getElem?_take, if_pos h]
  · rw [List.append_assoc, List.getElem?_append_right (by omega), ht]
    rcases Nat.lt_or_ge j (s + ws.length) with h2 | h2
    · rw [if_pos ⟨h, h2⟩, List.getElem?_append_left (by omega)]
    · rw [if_neg (by omega), List.getElem?_append_right (by omega), List.getElem?_drop]
      congr 1
      omega
end lists

section
variable {E : Env} {C : Ctx} {p q : Bool}

theorem Vs.splice {cs vs : List AV} {us ws : List Value} (h : Vs C p cs us) (g : Vs C p vs ws) (s : Nat) : Vs C p (A.splice cs s vs) (us.take s ++ ws ++ us.drop (s + ws.length)) := by
  unfold A.splice
  have := g.length
  rw [this]
  exact ((h.take s).append g).append (h.drop _)

theorem splice_mem {cs vs : List AV} {s : Nat} {P : AV → Prop} (h : ∀ c ∈ cs, P c) (g : ∀ c ∈ vs, P c) : ∀ c ∈ A.splice cs s vs, P c := by
  intro c hc
  unfold A.splice at hc
  simp only [List.mem_append] at hc
  rcases hc with (hc | hc) | hc
  · exact h c (List.mem_of_mem_take hc)
  · exact g c hc
  · exact h c (List.mem_of_mem_drop hc)

theorem splice_length {cs vs : List AV} {s : Nat} (h : s + vs.length ≤ cs.length) : (A.splice cs s vs).length = cs.length := by
  unfold A.splice
  simp only [List.length_append, List.length_take, List.length_drop]
  omega

theorem setElem_good {z off : Nat} {e e' v : AV} (he : Good z e) (h : A.setElem e off v = some e') (hv : ∀ c ∈ v.cells, c.one = true) : e'.cells = A.splice e.cells off v.cells ∧ off + v.cells.length ≤ z ∧ Good z e' := by
  unfold A.setElem at h
  split at h
  · rename_i cs
    split at h
    · rename_i hl
      simp only [Option.some.injEq] at h
      subst h
      have hz : cs.length = z := he.1
      refine ⟨rfl, by omega, ?_, splice_mem he.2 hv⟩
      show (A.splice cs off v.cells).length = z
      rw [splice_length hl, hz]
    · simp at h
  · simp at h
  · simp at h
  · rename_i hn1 hn2 hn3
    split at h
    · simp at h
    · rename_i hv1
      split at h
      · rename_i h0
        simp only [Option.some.injEq] at h
        subst h
        subst h0
        have e1 : e.cells = [e] := by cases e <;> first | rfl | exact absurd rfl (hn1 _)
        have e2 : v.cells = [v] := by cases v <;> first | rfl | exact absurd rfl (hv1 _)
        have hz : z = 1 := by rw [← he.1, e1]; rfl
        subst hz
        refine ⟨by rw [e1, e2]; rfl, by rw [e2]; simp, by rw [e2]; rfl, hv⟩
      · simp at h

theorem flat_set {z : Nat} {es : List AV} {e e' : AV} {i off : Nat} {vs : List AV} (h : ∀ e ∈ es, Good z e) (hi : es[i]? = some e) (hc : e'.cells = A.splice e.cells off vs) (hl : off + vs.length ≤ z) :
    (es.set i e').flatMap AV.cells = A.splice (es.flatMap AV.cells) (i * z + off) vs := by
  obtain ⟨h1, h2⟩ := flat_split h hi
  have hlt : i < es.length := (List.getElem?_eq_some_iff.1 hi).1
  have he : e.cells.length = z := (h e (List.mem_of_getElem? hi)).1
  have h3 : es.set i e' = es.take i ++ e' :: es.drop (i + 1) := by rw [List.set_eq_take_append_cons_drop, if_pos hlt]
  rw [h3, List.flatMap_append, List.flatMap_cons, hc, h1]
  unfold A.splice
  generalize (es.take i).flatMap AV.cells = a at *
  generalize (es.drop (i + 1)).flatMap AV.cells = d at *
  generalize e.cells = m at *
  have t1 : (a ++ (m ++ d)).take (i * z + off) = a ++ m.take off := by
    rw [List.take_append, h2, show i * z + off - i * z = off by omega, List.take_of_length_le (l := a) (by omega), List.take_append, show off - m.length = 0 by omega]
    simp
  have t2 : (a ++ (m ++ d)).drop (i * z + off + vs.length) = m.drop (off + vs.length) ++ d := by
    rw [List.drop_append, h2, show i * z + off + vs.length - i * z = off + vs.length by omega, List.drop_eq_nil_of_le (by omega), List.nil_append, List.drop_append, show off + vs.length - m.length = 0 by omega]
    simp
  rw [t1, t2]
  simp [List.append_assoc]

theorem set_good {z : Nat} {es : List AV} {e' : AV} {i : Nat} (h : ∀ e ∈ es, Good z e) (g : Good z e') : ∀ e ∈ es.set i e', Good z e := by
  intro e he
  rcases List.mem_or_eq_of_mem_set he with h1 | h1
  · exact h e h1
  · subst h1; exact g

/-- Cells are written into an object's block. -/
theorem row_splice (hr : HR E C) {id ver ver' sz s : Nat} {ty : TypeId} {es es' : List AV} {vs : List AV} {ws : List Value} (hrow : C.H[id]? = some (.row ver sz ty es))
    (hflat : es'.flatMap AV.cells = A.splice (es.flatMap AV.cells) s vs) (hgood : ∀ e ∈ es', Good sz e) (hv : Vs C false vs ws) (hs : s ≤ (es.flatMap AV.cells).length)
    (hcap : ∀ cells t fr, C.w.heap[(C.ρ id).1]? = some (.cells cells t fr) → (C.ρ id).2 + s + ws.length ≤ cells.size) (h1 : ∀ v ∈ vs, v.one = true) (hver : ver ≤ ver') :
    ∃ C', (storeCells ⟨(C.ρ id).1, (C.ρ id).2 + s, none⟩ ws).run E.P C.w = .ok () C'.w ∧ C'.w = C.w.setCells (C.ρ id).1 ((C.ρ id).2 + s) ws ∧ HR E C' ∧ EvL C C' ∧ C'.H = C.H.set id (.row ver' sz ty es') ∧ C'.ρ id = C.ρ id := by
  obtain ⟨hz, hg0, hk, cur, fr, us, hcur, hfz, hus, hcell⟩ := hr.row id ver sz ty es hrow
  have hcap' := hcap cur ty fr hcur
  obtain ⟨cur', g1, g2, g3⟩ := setCells_heap (C.ρ id).1 ws ((C.ρ id).2 + s) C.w cur ty fr hcur hcap'
  obtain ⟨f1, f2, f3, f4⟩ := setCells_frame (C.ρ id).1 ws ((C.ρ id).2 + s) C.w
  have hlen : us.length = (es.flatMap AV.cells).length := hus.length
  have key := row_write hr hrow (w' := C.w.setCells (C.ρ id).1 ((C.ρ id).2 + s) ws) (ver' := ver') (base' := (C.ρ id).2) (us' := us.take s ++ ws ++ us.drop (s + ws.length)) (es' := es') hcur ⟨f2, f3, f4⟩ f1 (fun i hi => setCells_other _ _ _ _ _ hi) g1 g2 hfz (hr.al id ver sz ty es hrow)
    (by rcases Nat.lt_or_ge ver ver' with h | h
        · exact .inr h
        · exact .inl ⟨by omega, rfl⟩) hgood (by rw [hflat]; exact hus.splice hv s) (fun j u hu => by
      rw [splice_get (by omega)] at hu
      rw [g3]
      by_cases hj : s ≤ j ∧ j < s + ws.length
      · rw [if_pos hj] at hu
        rw [if_pos (by omega), show (C.ρ id).2 + j - ((C.ρ id).2 + s) = j - s by omega]
        exact hu
      · rw [if_neg hj] at hu
        rw [if_neg (by omega)]
        exact hcell j u hu)
  refine ⟨_, ?_, rfl, key.1, key.2, rfl, by simp⟩
  have := run_storeCells_cells (P := E.P) (C.ρ id).1 ((C.ρ id).2 + s) ws 0 C.w (fun j hj => by
      simp only [World.cell?, hcur, Option.isSome_none, Bool.false_eq_true, if_false, Nat.add_zero]
      rw [Array.getElem?_eq_getElem (by omega)]
      rfl) (fun j hj => by
      simp only [World.frozen?, hcur, Nat.add_zero]
      have := hfz ((C.ρ id).2 + s + j) (by omega)
      simp only [Bool.and_eq_false_iff, decide_eq_false_iff_not]
      rcases Nat.lt_or_ge ((C.ρ id).2 + s + j) fr.1 with h | h
      · exact .inl (by omega)
      · exact .inr (fun h2 => this ⟨h, h2⟩)) (hv.one h1)
  simpa using this

theorem fits_def {sz : Nat} {v : AV} (h : A.fits sz v = true) : v.isDef = true ∧ v.cells.length = sz ∧ ∀ c ∈ v.cells, c.one = true := by
  unfold A.fits at h
  simp only [Bool.and_eq_true, beq_iff_eq, List.all_eq_true] at h
  refine ⟨?_, h.1, h.2⟩
  cases v <;> first | rfl | (have := h.2 _ List.mem_cons_self; simp [AV.one] at this)

theorem storeH_ok (hr : HR E C) {t : TypeId} {sz : Nat} {x v : AV} {u0 uv : Value} {H' : Heap} (hsz : E.size t = some sz) (h : A.store sz x v C.H = some H') (hx : V C p x u0) (hv : V C q v uv) :
    ∃ C', (Instr.storeAt t u0 uv).run E.P C.w = .ok () C'.w ∧ HR E C' ∧ EvL C C' ∧ C'.H = H' := by
  unfold A.store at h
  split at h
  · rename_i id ver i off
    cases hf : A.fits sz v
    · rw [hf] at h; simp at h
    · rw [hf] at h
      simp only [cond_true] at h
      obtain ⟨hd, hl, h1⟩ := fits_def hf
      split at h
      · rename_i w z ty es hrow
        cases hb : (w == ver)
        · rw [hb] at h; simp at h
        · rw [hb] at h
          have : w = ver := by simpa using hb
          subst this
          simp only [cond_true, Option.bind_eq_some_iff, Option.map_eq_some_iff] at h
          obtain ⟨e, he, e', hse, rfl⟩ := h
          cases hx with
          | ptr _ _ _ _ _ g0 g1 =>
            have := (g1.2 w z ty es hrow).2 rfl
            subst this
            obtain ⟨hz, hg, hk, cur, fr, us, hcur, hfz, hus, hcell⟩ := hr.row id w z ty es hrow
            have hge := hg e (List.mem_of_getElem? he)
            obtain ⟨k1, k2, k3⟩ := setElem_good hge hse h1
            obtain ⟨hvc, _⟩ := hv.cells hd
            have hit : i < es.length := (List.getElem?_eq_some_iff.1 he).1
            have hfl : (es.flatMap AV.cells).length = es.length * z := flat_length hg
            have hmul : i * z + z ≤ es.length * z := by
              have := Nat.mul_le_mul_right z (show i + 1 ≤ es.length by omega)
              rwa [Nat.succ_mul] at this
            have hul : us.length = es.length * z := hus.length.trans hfl
            have hwl := hvc.length
            obtain ⟨C', c1, c2, c3, c4, c5, c6⟩ := row_splice (ver' := w) (es' := es.set i e') (s := i * z + off) (ws := uv.cells.toList) hr hrow (flat_set hg he k1 k2) (set_good hg k3) hvc.weakenB (by omega) (fun cells t' f hc => by
                rw [hcur] at hc
                injection hc with hc
                injection hc with hc _ _
                subst hc
                have hpos : 0 < es.length * z := by
                  have := Nat.mul_pos (show 0 < es.length by omega) hz
                  omega
                have hlast := hcell (es.length * z - 1) _ (List.getElem?_eq_getElem (by omega))
                have := (Array.getElem?_eq_some_iff.1 hlast).1
                omega) h1 (Nat.le_refl _)
            refine ⟨C', ?_, c3, c4, c5⟩
            have hcs : uv.cells.size = sz := by
              rw [← Array.length_toList, hwl, hl]
            simp only [Instr.storeAt, Instr.sureAddr, storeVar, Sem.run_bind, Sem.run_pure, Result.andThen_ok, size_run hsz, hcs, ne_eq, not_true_eq_false, if_false]
            exact c1
      · simp at h
  · simp at h

/-- A new variable, in the small heap. -/
theorem newBox_ok (hr : HR E C) {t : TypeId} {sz : Nat} {v : AV} {uv : Value} (hl : v.cells.length = sz) (hd : v.isDef = true) (hz : 0 < sz) (hv : V C q v uv) :
    ∃ C' u, (newVar t uv).run E.P C.w = .ok u C'.w ∧ HR E C' ∧ EvL C C' ∧ C'.H = (A.newBox sz t v C.H).2 ∧ V C' false (A.newBox sz t v C.H).1 (.pointer (some u)) := by
  obtain ⟨hvc, h1⟩ := hv.cells hd
  have key := row_new (ver := 0) (sz := sz) (ty := t) (es := [v]) (us := uv.cells.toList) (w' := C.w.alloc (.cells uv.cells t)) (cells := uv.cells) (fr := (0, 0)) hr ⟨rfl, rfl, rfl⟩ rfl hz (fun e he => by
      have : e = v := by simpa using he
      subst this
      exact ⟨hl, h1⟩) (fun j _ h => by omega) (by simpa using hvc.weakenB) (fun j u hu => by simpa using hu)
  refine ⟨_, ⟨C.w.heap.size, 0, none⟩, ?_, key.1, key.2, rfl, .ptr _ _ _ _ _ rfl ⟨by simp [Ctx.grow], fun w z ty es h => ?_⟩⟩
  · rfl
  · simp [Ctx.grow] at h ⊢

/-- What a slice's elements are, as the source of an append, of a copy. -/
theorem read_ok (hr : HR E C) {sz : Nat} {x : AV} {u0 : Value} {news : List AV} {tx e' : TypeId} (hk : E.P.underlying tx = some (.slice e')) (h : A.read sz x C.H = some news) (hx : V C p x u0) :
    ∃ ws, Src E.P sz tx u0 news.length ws C.w ∧ Vs C false (news.flatMap AV.cells) ws ∧ ∀ e ∈ news, Good sz e := by
  unfold A.read at h
  split at h
  · cases hx
    simp only [Option.some.injEq] at h
    subst h
    exact ⟨[], Src.ofNil C.w hk 0, .nil _, by simp⟩
  · rename_i z es
    split at h
    · rename_i hz
      subst hz
      simp only [Option.some.injEq] at h
      subst h
      cases hx with
      | sh _ _ _ a c us h1 h2 h3 h4 h5 h6 =>
        have hl : us.length = es.length * z := h1.length.trans (flat_length h2)
        exact ⟨us, Src.ofSlice C.w hk a es.length c us hl h3 (h1.one (fun v hv => by
          obtain ⟨e, he, hve⟩ := List.mem_flatMap.1 hv
          exact (h2 e he).2 v hve)), h1.weaken, h2⟩
    · simp at h
  · rename_i id ver off n cap
    split at h
    · rename_i w z ty es hrow
      split at h
      · rename_i hc
        obtain ⟨rfl, rfl, hle⟩ := hc
        simp only [Option.some.injEq] at h
        subst h
        obtain ⟨hz, hg, hk2, cur, fr, us, hcur, hfz, hus, hcell⟩ := hr.row id w z ty es hrow
        have hgd : ∀ e ∈ (es.drop off).take n, Good z e := fun e he => hg e (List.mem_of_mem_drop (List.mem_of_mem_take he))
        have hnl : ((es.drop off).take n).length = n := by rw [List.length_take, List.length_drop]; omega
        cases hx with
        | sl _ _ _ _ _ _ g0 g1 =>
          obtain ⟨a, c, hu, g2, g3, g4, g5, g6⟩ := (g1.2 w z ty es hrow).2 rfl
          subst hu
          have hfl : es.flatMap AV.cells = (es.take off).flatMap AV.cells ++ (((es.drop off).take n).flatMap AV.cells ++ ((es.drop off).drop n).flatMap AV.cells) := by
            rw [← List.flatMap_append, List.take_append_drop, ← List.flatMap_append, List.take_append_drop]
          have hl1 : ((es.take off).flatMap AV.cells).length = off * z := by
            rw [flat_length (fun x hx => hg x (List.mem_of_mem_take hx)), List.length_take, Nat.min_eq_left (by omega)]
          have hl2 : (((es.drop off).take n).flatMap AV.cells).length = n * z := by rw [flat_length hgd, hnl]
          have hv := hus
          rw [hfl] at hv
          have hv2 := hv.split.2.split.1
          rw [hl1, hl2] at hv2
          refine ⟨_, ?_, hv2, hgd⟩
          have hwl : ((us.drop (off * z)).take (n * z)).length = n * z := hv2.length.trans hl2
          have hone := hv2.one (fun v hv => by
            obtain ⟨e, he, hve⟩ := List.mem_flatMap.1 hv
            exact (hgd e he).2 v hve)
          rw [hnl]
          refine Src.ofSlice C.w hk a n c _ hwl (fun j u hju => ?_) hone
          have hpos : 0 < c := by
            rcases Nat.eq_zero_or_pos c with h0 | h0
            · have : n = 0 := by omega
              subst this
              simp at hju
            · exact h0
          have ha := g5 hpos
          subst ha
          rw [List.getElem?_take] at hju
          split at hju
          · rw [List.getElem?_drop] at hju
            have := hcell _ _ hju
            rw [Addr.add_lit]
            simp only [World.cell?, hcur, Option.isSome_none, Bool.false_eq_true, if_false]
            rw [show (C.ρ id).2 + off * z + j = (C.ρ id).2 + (off * z + j) by omega]
            exact this
          · simp at hju
      · simp at h
    · simp at h
  · simp at h

theorem strElems_ok {s : ByteArray} {tx : TypeId} (hk : E.P.underlying tx = some .string) : ∃ ws, Src E.P 1 tx (.string s) (A.strElems s.data.toList).length ws C.w ∧ Vs C false ((A.strElems s.data.toList).flatMap AV.cells) ws ∧ ∀ e ∈ A.strElems s.data.toList, Good 1 e := by
  have hl : (A.strElems s.data.toList).length = s.size := by
    unfold A.strElems
    rw [List.length_map, Array.length_toList]
    rfl
  refine ⟨byteCells s, by rw [hl]; exact Src.ofString C.w hk s, ?_, ?_⟩
  · unfold A.strElems byteCells
    generalize s.data.toList = l
    induction l with
    | nil => exact .nil _
    | cons b l ih => exact .cons _ _ _ _ _ (.int _ _ _) ih
  · intro e he
    obtain ⟨b, _, rfl⟩ := List.mem_map.1 he
    exact ⟨rfl, by simp [AV.cells, AV.one]⟩

theorem info_of {e : TypeId} {sz by_ : Nat} {z : AV} (hsz : E.size e = some sz) (hby : E.bytes e = some by_) (hz : E.zero e = some z) : ∃ i zv, E.P.info? e = some i ∧ i.size = sz ∧ i.bytes = by_ ∧ i.zero = some zv ∧ ofConst 3 zv = some z := by
  unfold Env.size at hsz
  unfold Env.bytes at hby
  unfold Env.zero at hz
  cases hi : E.P.info? e with
  | none => rw [hi] at hsz; simp at hsz
  | some i =>
    rw [hi] at hsz hby hz
    simp only [Option.map_some, Option.some.injEq] at hsz hby
    simp only [Option.bind_some, Option.bind_eq_some_iff] at hz
    obtain ⟨zv, h1, h2⟩ := hz
    exact ⟨i, zv, rfl, hsz, hby, h1, h2⟩

theorem list_set_same {α : Type} {l : List α} {i : Nat} {x : α} (h : l[i]? = some x) : l.set i x = l := by
  apply List.ext_getElem?
  intro j
  rw [List.getElem?_set]
  split
  · rename_i e
    subst e
    rw [if_pos (List.getElem?_eq_some_iff.1 h).1, h]
  · rfl

theorem flat_take {z : Nat} {es : List AV} (h : ∀ e ∈ es, Good z e) (k : Nat) : (es.flatMap AV.cells).take (k * z) = (es.take k).flatMap AV.cells := by
  have h1 : es.flatMap AV.cells = (es.take k).flatMap AV.cells ++ (es.drop k).flatMap AV.cells := by rw [← List.flatMap_append, List.take_append_drop]
  have h2 : ((es.take k).flatMap AV.cells).length = min k es.length * z := by rw [flat_length (fun x hx => h x (List.mem_of_mem_take hx)), List.length_take]
  rw [h1]
  rcases Nat.le_total k es.length with hk | hk
  · rw [Nat.min_eq_left hk] at h2
    rw [List.take_append, h2, Nat.sub_self, List.take_zero, List.append_nil, List.take_of_length_le (by omega)]
  · rw [List.drop_eq_nil_of_le hk, List.flatMap_nil, List.append_nil, List.take_of_length_le]
    rw [h2]
    exact Nat.mul_le_mul_right _ (Nat.min_le_left _ _)
theorem flat_drop {z : Nat} {es : List AV} (h : ∀ e ∈ es, Good z e) (k : Nat) : (es.flatMap AV.cells).drop (k * z) = (es.drop k).flatMap AV.cells := by
  have h1 : es.flatMap AV.cells = (es.take k).flatMap AV.cells ++ (es.drop k).flatMap AV.cells := by rw [← List.flatMap_append, List.take_append_drop]
  have h2 : ((es.take k).flatMap AV.cells).length = min k es.length * z := by rw [flat_length (fun x hx => h x (List.mem_of_mem_take hx)), List.length_take]
  rw [h1]
  rcases Nat.le_total k es.length with hk | hk
  · rw [Nat.min_eq_left hk] at h2
    rw [List.drop_append, h2, Nat.sub_self, List.drop_zero, List.drop_eq_nil_of_le (by omega), List.nil_append]
  · have h3 : es.drop k = [] := List.drop_eq_nil_of_le hk
    rw [h3, List.flatMap_nil, List.append_nil, List.drop_eq_nil_of_le]
    rw [h2]
    exact Nat.mul_le_mul_right _ (Nat.min_le_left _ _)
theorem flat_splice {z : Nat} {es news : List AV} (h : ∀ e ∈ es, Good z e) (g : ∀ e ∈ news, Good z e) (k : Nat) : (A.splice es k news).flatMap AV.cells = A.splice (es.flatMap AV.cells) (k * z) (news.flatMap AV.cells) := by
  unfold A.splice
  rw [flat_length g, ← Nat.add_mul, flat_take h, flat_drop h, List.flatMap_append, List.flatMap_append]

theorem ofConst_def {n : Nat} {u : Value} {v : AV} (h : ofConst n u = some v) : v.isDef = true := by
  cases n with
  | zero => simp [ofConst] at h
  | succ n =>
    unfold ofConst at h
    split at h <;> first
      | (simp only [Option.some.injEq] at h; subst h; rfl)
      | (simp at h; done)
      | skip
    split at h
    · rename_i vs _
      cases ho : vs.all AV.one <;> rw [ho] at h <;> simp at h
      subst h
      rfl
    · simp at h

theorem size_zeroCells' (z : Array Value) (n : Nat) : (Builtin.zeroCells z n).size = n * z.size := by simp [Builtin.zeroCells]

theorem append_ok (hr : HR E C) {t tx ty e : TypeId} {sz by_ : Nat} {z s v : AV} {news : List AV} {ws : List Value} {x u0 : Value} {H' : Heap} (ht : E.P.underlying t = some (.slice e)) (hsz : E.size e = some sz) (hby : E.bytes e = some by_) (hzv : E.zero e = some z)
    (hzl : z.cells.length = sz) (hpos : 0 < sz) (hs : Src E.P sz tx x news.length ws C.w) (hv : Vs C false (news.flatMap AV.cells) ws) (hg : ∀ e ∈ news, Good sz e) (h : A.append sz by_ e s news C.H = some (v, H')) (hs0 : V C p s u0) :
    ∃ u C', (Builtin.append_ #[t, tx] ty #[u0, x]).run E.P C.w = .ok u C'.w ∧ V C' false v u ∧ HR E C' ∧ EvL C C' ∧ C'.H = H' := by
  obtain ⟨i, zv, hi, hi1, hi2, hi3, hi4⟩ := info_of hsz hby hzv
  have hzd : z.isDef = true := ofConst_def hi4
  have hzs : zv.cells.size = sz := by
    have := (ofConst_ok (C := C) hi4).cells hzd
    rw [← Array.length_toList, this.1.length, hzl]
  subst hi1
  subst hi2
  unfold A.append at h
  split at h
  · -- nil
    cases hs0
    split at h
    · simp only [Option.some.injEq, Prod.mk.injEq] at h
      obtain ⟨rfl, rfl⟩ := h
      cases hv
      exact ⟨_, C, run_append_nothing C.w t tx ty e i ht hi none 0 0 (Nat.le_refl _) x hs, .nils _, hr, EvL.refl C, rfl⟩
    · rename_i hne
      split at h
      · rename_i hb
        obtain ⟨hb, hb0⟩ := hb
        simp only [Option.some.injEq, A.newRow, Prod.mk.injEq] at h
        obtain ⟨rfl, rfl⟩ := h
        have hlen : 0 < news.length := by
          cases news with
          | nil => exact absurd rfl hne
          | cons _ _ => simp
        have hnl : news.length ≤ 140737488355328 := Nat.le_trans (Nat.le_mul_of_pos_right _ hb0) hb
        have hrun := run_append_grow_src (P := E.P) C.w t tx ty e i zv ht hi hi3 none 0 0 [] (by simp [Builtin.firstCells]) x news.length ws hs (by omega) (by simp; omega) (growslice_fits (by omega) (by simpa using hb))
        simp only [Nat.zero_add, List.nil_append] at hrun
        have key := row_new (E := E) (ver := 0) (sz := i.size) (ty := e) (es := news) (us := ws) (fr := (0, 0)) (w' := C.w.drew.alloc (.cells (ws.toArray ++ Builtin.zeroCells zv.cells (grownCap C.w news.length 0 e - news.length)) e)) hr ⟨rfl, rfl, rfl⟩ rfl hpos hg (fun j _ h => by simp at h) hv (fun j u hu => by
          rw [Array.getElem?_append_left (by have := (List.getElem?_eq_some_iff.1 hu).1; simpa using this)]
          simpa using hu)
        refine ⟨_, _, hrun, ?_, key.1, key.2, rfl⟩
        refine .sl _ _ _ _ _ _ rfl ⟨by simp [Ctx.grow], fun v sz' ty' es' hx => ?_⟩
        simp [Ctx.grow] at hx
        obtain ⟨rfl, rfl, rfl, rfl⟩ := hx
        have hge := grownCap_ge C.w news.length 0 e
        refine ⟨Nat.le_refl _, fun _ => ⟨⟨C.w.heap.size, 0, none⟩, grownCap C.w news.length 0 e, rfl, Nat.le_refl _, hge, grownCap_le_maxLen C.w _ 0 e (by unfold maxLen; omega), fun _ => by simp [Ctx.grow], fun cells t' fr hc => ?_⟩⟩
        rw [grow_place] at hc ⊢
        have hc' := (heap_alloc_new C.w.drew _).symm.trans hc
        injection hc' with hc'
        injection hc' with hc1 hc2 hc3
        subst hc1
        have hwl : ws.length = news.length * i.size := hs.newsLen
        simp only [Array.size_append, List.size_toArray, size_zeroCells', hzs, hwl, Nat.zero_add, ← Nat.add_mul]
        exact Nat.mul_le_mul_right _ (by omega)
      · simp at h
  · rename_i id ver off n cap
    split at h
    · rename_i w z' ty' es hrow
      split at h
      · rename_i hc
        obtain ⟨rfl, rfl, rfl, hcap, hncap, hb, hb0⟩ := hc
        obtain ⟨hz, hgd, hk, cur, fr, us, hcur, hfz, hus, hcell⟩ := hr.row id w i.size ty' es hrow
        have hnl : n + news.length ≤ 140737488355328 := Nat.le_trans (Nat.le_mul_of_pos_right _ hb0) hb
        have hfl : (es.flatMap AV.cells).length = es.length * i.size := flat_length hgd
        have hul : us.length = es.length * i.size := hus.length.trans hfl
        have hwl : ws.length = news.length * i.size := hs.newsLen
        cases hs0 with
        | sl _ _ _ _ _ _ g0 g1 =>
          obtain ⟨a, c, hu, g2, g3, g4, g5, g6⟩ := (g1.2 w i.size ty' es hrow).2 rfl
          subst hu
          have g6' := g6 cur ty' fr hcur
          by_cases hroom : n + news.length ≤ cap
          · rw [if_pos hroom] at h
            simp only [Option.some.injEq, Prod.mk.injEq] at h
            obtain ⟨rfl, rfl⟩ := h
            rcases Nat.eq_zero_or_pos c with h0 | h0
            · have hn0 : n = 0 := by omega
              have hm0 : news = [] := List.eq_nil_of_length_eq_zero (by omega)
              subst hn0
              subst hm0
              cases hv
              refine ⟨_, C, run_append_nothing C.w t tx ty _ i ht hi (some a) 0 c (by omega) x hs, ?_, hr, EvL.refl C, ?_⟩
              · exact .sl _ _ _ _ _ _ rfl ⟨g1.1, fun v sz' ty' es' hx => ⟨(g1.2 v sz' ty' es' hx).1, (g1.2 v sz' ty' es' hx).2⟩⟩
              · have hsp : A.splice es (off + 0) [] = es := by simp [A.splice]
                rw [hsp]
                exact (list_set_same hrow).symm
            · have ha := g5 h0
              subst ha
              have hle : (n + news.length) * i.size ≤ c * i.size := Nat.mul_le_mul_right _ (by omega)
              have hadd : (off + c) * i.size = off * i.size + c * i.size := Nat.add_mul _ _ _
              have hadd2 : (n + news.length) * i.size = n * i.size + news.length * i.size := Nat.add_mul _ _ _
              have hoff : (off + n) * i.size = off * i.size + n * i.size := Nat.add_mul _ _ _
              have hle2 : (off + n) * i.size ≤ es.length * i.size := Nat.mul_le_mul_right _ (by omega)
              obtain ⟨C', c1, c2, c3, c4, c5, c6⟩ := row_splice (ver' := w) (es' := A.splice es (off + n) news) (s := (off + n) * i.size) (ws := ws) (vs := news.flatMap AV.cells) hr hrow (flat_splice hgd hg _) (splice_mem hgd hg) hv (by omega) (fun cells t' f hc => by
                rw [hcur] at hc
                injection hc with hc
                injection hc with hc _ _
                subst hc
                omega) (fun v hv => by
                  obtain ⟨e, he, hve⟩ := List.mem_flatMap.1 hv
                  exact (hg e he).2 v hve) (Nat.le_refl _)
              have hrun := run_append_room_src (P := E.P) C.w t tx ty ty' i ht hi (C.ρ id).1 ((C.ρ id).2 + off * i.size) n c x news.length ws hs (by omega) (fun j hj => by
                simp only [World.cell?, hcur, Option.isSome_none, Bool.false_eq_true, if_false]
                rw [Array.getElem?_eq_getElem (by omega)]
                rfl) (fun j hj => by
                simp only [World.frozen?, hcur]
                have := hfz ((C.ρ id).2 + off * i.size + n * i.size + j) (by omega)
                simp only [Bool.and_eq_false_iff, decide_eq_false_iff_not]
                rcases Nat.lt_or_ge ((C.ρ id).2 + off * i.size + n * i.size + j) fr.1 with h | h
                · exact .inl (by omega)
                · exact .inr (fun h2 => this ⟨h, h2⟩))
              rw [show (C.ρ id).2 + off * i.size + n * i.size = (C.ρ id).2 + (off + n) * i.size by omega, ← c2] at hrun
              refine ⟨_, C', hrun, ?_, c3, c4, c5⟩
              refine .sl _ _ _ _ _ _ rfl ⟨Nat.lt_of_lt_of_le g1.1 c4.ev.hlen, fun v sz' ty2 es' hx => ?_⟩
              rw [c5, List.getElem?_set_self g1.1] at hx
              injection hx with hx
              injection hx with e1 e2 e3 e4
              subst e1 e2 e3 e4
              refine ⟨Nat.le_refl _, fun _ => ⟨_, c, rfl, hroom, g3, g4, fun _ => by rw [c6], fun cells t' f hc => ?_⟩⟩
              rw [c6] at hc ⊢
              obtain ⟨v0, es0, q1, q2, q3⟩ := c4.ev.rows id g1.1 w i.size ty' (A.splice es (off + n) news) (by rw [c5, List.getElem?_set_self g1.1])
              rw [hrow] at q1
              injection q1 with q1
              injection q1 with q1 _ _ _
              obtain ⟨_, q4⟩ := q3 q1.symm
              obtain ⟨cells', t2, f2, q5, q6⟩ := q4 cells t' f hc
              rw [hcur] at q5
              injection q5 with q5
              injection q5 with q5 _ _
              subst q5
              omega
          · rw [if_neg hroom] at h
            simp only [Option.some.injEq, Prod.mk.injEq] at h
            obtain ⟨rfl, rfl⟩ := h
            have hgd2 : ∀ e ∈ (es.drop off).take n, Good i.size e := fun e he => hgd e (List.mem_of_mem_drop (List.mem_of_mem_take he))
            have hg3 : ∀ e ∈ (es.drop off).take n ++ news, Good i.size e := fun e he => by
              rcases List.mem_append.1 he with h | h
              · exact hgd2 e h
              · exact hg e h
            have hnl2 : ((es.drop off).take n).length = n := by rw [List.length_take, List.length_drop]; omega
            have hfl2 : ((es.drop off).take n).flatMap AV.cells = ((es.flatMap AV.cells).drop (off * i.size)).take (n * i.size) := by
              rw [flat_drop hgd, flat_take (fun x hx => hgd x (List.mem_of_mem_drop hx))]
            have hvo : Vs C false (((es.drop off).take n).flatMap AV.cells) ((us.drop (off * i.size)).take (n * i.size)) := by
              rw [hfl2]
              exact (hus.drop _).take _
            have hol : ((us.drop (off * i.size)).take (n * i.size)).length = n * i.size := by rw [hvo.length, flat_length hgd2, hnl2]
            have hvn : Vs C false (((es.drop off).take n ++ news).flatMap AV.cells) ((us.drop (off * i.size)).take (n * i.size) ++ ws) := by
              rw [List.flatMap_append]
              exact hvo.append hv
            have hle : n * i.size ≤ c * i.size := Nat.mul_le_mul_right _ (by omega)
            have hadd : (off + c) * i.size = off * i.size + c * i.size := Nat.add_mul _ _ _
            have hoc : (off + n) * i.size = off * i.size + n * i.size := Nat.add_mul _ _ _
            have hle2 : (off + n) * i.size ≤ es.length * i.size := Nat.mul_le_mul_right _ (by omega)
            by_cases hin : n + news.length ≤ c
            · have h0 : 0 < c := by omega
              have ha := g5 h0
              subst ha
              have hadd2 : (n + news.length) * i.size = n * i.size + news.length * i.size := Nat.add_mul _ _ _
              have hle3 : (n + news.length) * i.size ≤ c * i.size := Nat.mul_le_mul_right _ hin
              have hrun := run_append_room_src (P := E.P) C.w t tx ty ty' i ht hi (C.ρ id).1 ((C.ρ id).2 + off * i.size) n c x news.length ws hs hin (fun j hj => by
                simp only [World.cell?, hcur, Option.isSome_none, Bool.false_eq_true, if_false]
                rw [Array.getElem?_eq_getElem (by omega)]
                rfl) (fun j hj => by
                simp only [World.frozen?, hcur]
                have := hfz ((C.ρ id).2 + off * i.size + n * i.size + j) (by omega)
                simp only [Bool.and_eq_false_iff, decide_eq_false_iff_not]
                rcases Nat.lt_or_ge ((C.ρ id).2 + off * i.size + n * i.size + j) fr.1 with h | h
                · exact .inl (by omega)
                · exact .inr (fun h2 => this ⟨h, h2⟩))
              obtain ⟨cur', k1, k2, k3⟩ := setCells_heap (C.ρ id).1 ws ((C.ρ id).2 + off * i.size + n * i.size) C.w cur ty' fr hcur (by omega)
              obtain ⟨f1, f2, f3, f4⟩ := setCells_frame (C.ρ id).1 ws ((C.ρ id).2 + off * i.size + n * i.size) C.w
              have key := row_write hr hrow (w' := C.w.setCells (C.ρ id).1 ((C.ρ id).2 + off * i.size + n * i.size) ws) (ver' := w + 1) (base' := (C.ρ id).2 + off * i.size) (us' := (us.drop (off * i.size)).take (n * i.size) ++ ws)
                (es' := (es.drop off).take n ++ news) hcur ⟨f2, f3, f4⟩ f1 (fun i hi => setCells_other _ _ _ _ _ hi) k1 k2 hfz (by rw [Nat.add_mul_mod_self_right]; exact hr.al id w _ _ es hrow) (.inr (by omega)) hg3 hvn (fun j u hu => by
                  rw [k3]
                  rcases Nat.lt_or_ge j (n * i.size) with hj | hj
                  · rw [List.getElem?_append_left (by omega), List.getElem?_take, if_pos hj, List.getElem?_drop] at hu
                    rw [if_neg (by omega)]
                    have := hcell _ _ hu
                    rw [show (C.ρ id).2 + off * i.size + j = (C.ρ id).2 + (off * i.size + j) by omega]
                    exact this
                  · rw [List.getElem?_append_right (by omega), hol] at hu
                    have hlt := (List.getElem?_eq_some_iff.1 hu).1
                    rw [if_pos (by omega), show (C.ρ id).2 + off * i.size + j - ((C.ρ id).2 + off * i.size + n * i.size) = j - n * i.size by omega]
                    exact hu)
              refine ⟨_, _, hrun, ?_, key.1, key.2, rfl⟩
              refine .sl _ _ _ _ _ _ rfl ⟨by simpa using g1.1, fun v sz' ty2 es' hx => ?_⟩
              simp only [List.getElem?_set_self g1.1, Option.some.injEq, HObj.row.injEq] at hx
              obtain ⟨rfl, rfl, rfl, rfl⟩ := hx
              refine ⟨Nat.le_refl _, fun _ => ⟨_, c, rfl, Nat.le_refl _, hin, g4, fun _ => by simp, fun cells t' f hc => ?_⟩⟩
              simp only [if_true] at hc ⊢
              rw [k1] at hc
              injection hc with hc
              injection hc with hc _ _
              subst hc
              rw [k2, Nat.zero_add]
              omega
            · have hold : (Builtin.firstCells i.size n (.slice (some a) n c)).run E.P C.w.drew = .ok ((us.drop (off * i.size)).take (n * i.size)).toArray C.w.drew := by
                refine run_firstCells_some C.w.drew i.size n a n c _ hol (fun j u hu => ?_)
                have h0 : 0 < c := by
                  rcases Nat.eq_zero_or_pos c with h0 | h0
                  · have : n = 0 := by omega
                    subst this
                    simp at hu
                  · exact h0
                have ha := g5 h0
                subst ha
                rw [List.getElem?_take] at hu
                split at hu
                · rw [List.getElem?_drop] at hu
                  have := hcell _ _ hu
                  rw [Addr.add_lit]
                  show C.w.cell? _ = _
                  simp only [World.cell?, hcur, Option.isSome_none, Bool.false_eq_true, if_false]
                  rw [show (C.ρ id).2 + off * i.size + j = (C.ρ id).2 + (off * i.size + j) by omega]
                  exact this
                · simp at hu
              have hrun := run_append_grow_src (P := E.P) C.w t tx ty ty' i zv ht hi hi3 (some a) n c _ hold x news.length ws hs (by omega) (by omega) (growslice_fits (by omega) hb)
              have key := row_move (E := E) (ver' := w + 1) (es' := (es.drop off).take n ++ news) (us := (us.drop (off * i.size)).take (n * i.size) ++ ws) (fr := (0, 0)) hr hrow (by omega)
                (w' := C.w.drew.alloc (.cells (((us.drop (off * i.size)).take (n * i.size) ++ ws).toArray ++ Builtin.zeroCells zv.cells (grownCap C.w (n + news.length) c ty' - (n + news.length))) ty')) ⟨rfl, rfl, rfl⟩ rfl hg3 (fun j _ h => by simp at h) hvn (fun j u hu => by
                  rw [Array.getElem?_append_left (by have := (List.getElem?_eq_some_iff.1 hu).1; simpa using this)]
                  simpa using hu)
              refine ⟨_, _, hrun, ?_, key.1, key.2, rfl⟩
              refine .sl _ _ _ _ _ _ rfl ⟨by simpa using g1.1, fun v sz' ty2 es' hx => ?_⟩
              simp only [List.getElem?_set_self g1.1, Option.some.injEq, HObj.row.injEq] at hx
              obtain ⟨rfl, rfl, rfl, rfl⟩ := hx
              have hge := grownCap_ge C.w (n + news.length) c ty'
              refine ⟨Nat.le_refl _, fun _ => ⟨⟨C.w.heap.size, 0, none⟩, grownCap C.w (n + news.length) c ty', rfl, Nat.le_refl _, hge, grownCap_le_maxLen C.w _ c ty' (by unfold maxLen; omega), fun _ => by simp, fun cells t' f hc => ?_⟩⟩
              simp only [if_true] at hc ⊢
              have hc' := (heap_alloc_new C.w.drew _).symm.trans hc
              injection hc' with hc'
              injection hc' with hc1 hc2 hc3
              subst hc1
              have hwl2 : ((us.drop (off * i.size)).take (n * i.size) ++ ws).length = (n + news.length) * i.size := by rw [List.length_append, hol, hwl, Nat.add_mul]
              simp only [Array.size_append, List.size_toArray, size_zeroCells', hzs, hwl2, Nat.zero_add, ← Nat.add_mul]
              exact Nat.mul_le_mul_right _ (by omega)
      · simp at h
    · simp at h
  · simp at h

theorem made_vs {z : AV} {zc : Array Value} {sz : Nat} (hv : Vs C p z.cells zc.toList) (hl : zc.size = sz) (hpos : 0 < sz) : ∀ n, Vs C p ((List.replicate n z).flatMap AV.cells) ((List.range (n * sz)).map fun j => zc[j % sz]!)
  | 0 => by simp; exact .nil _
  | n + 1 => by
    have h1 : List.replicate (n + 1) z = List.replicate n z ++ [z] := by rw [← List.replicate_append_replicate (n := n) (m := 1)]; rfl
    rw [h1, List.flatMap_append, Nat.succ_mul, List.range_add, List.map_append]
    refine (made_vs hv hl hpos n).append ?_
    simp only [List.flatMap_cons, List.flatMap_nil, List.append_nil, List.map_map]
    have h2 : (List.range sz).map ((fun j => zc[j % sz]!) ∘ fun x => n * sz + x) = zc.toList := by
      apply List.ext_getElem?
      intro j
      rw [List.getElem?_map]
      by_cases hj : j < sz
      · rw [List.getElem?_range hj]
        simp only [Option.map_some, Function.comp]
        have : (n * sz + j) % sz = j := by rw [Nat.mul_comm, Nat.mul_add_mod, Nat.mod_eq_of_lt hj]
        rw [this]
        simp [hl, hj]
      · rw [List.getElem?_eq_none (by simp; omega), List.getElem?_eq_none (by simp; omega)]
        rfl
    rw [h2]
    exact hv

theorem makeSlice_ok (hr : HR E C) {t e : TypeId} {sz by_ : Nat} {z l c v : AV} {u1 u2 : Value} {H' : Heap} (ht : E.P.underlying t = some (.slice e)) (hsz : E.size e = some sz) (hby : E.bytes e = some by_) (hzv : E.zero e = some z) (hzl : z.cells.length = sz) (hpos : 0 < sz)
    (h : A.makeSlice sz by_ e z l c C.H = some (v, H')) (hx : V C p l u1) (hy : V C q c u2) :
    ∃ u C', (Instr.makeSlice t u1 u2).run E.P C.w = .ok u C'.w ∧ V C' false v u ∧ HR E C' ∧ EvL C C' ∧ C'.H = H' := by
  obtain ⟨i, zv, hi, hi1, hi2, hi3, hi4⟩ := info_of hsz hby hzv
  have hzd : z.isDef = true := ofConst_def hi4
  have hzc := (ofConst_ok (C := C) hi4).cells hzd
  have hzs : zv.cells.size = sz := by rw [← Array.length_toList, hzc.1.length, hzl]
  subst hi1
  subst hi2
  unfold A.makeSlice at h
  split at h
  · rename_i l c
    have e1 := hx.int_inv
    have e2 := hy.int_inv
    subst e1 e2
    split at h
    · rename_i hc
      obtain ⟨h0, hlc, hb, hb0⟩ := hc
      simp only [Option.some.injEq, Prod.mk.injEq] at h
      obtain ⟨rfl, rfl⟩ := h
      have hcb : c ≤ 281474976710656 := by
        have : c ≤ (i.bytes : Int) * c := by
          have h1 : (1 : Int) * c ≤ (i.bytes : Int) * c := Int.mul_le_mul_of_nonneg_right (by omega) (by omega)
          omega
        omega
      have hrun := run_make (P := E.P) C.w t e i zv ht hi hi3 .i64 .i64 l c h0 hlc hb (by omega)
      have hv : Vs C false ((List.replicate c.toNat z).flatMap AV.cells) (madeCells zv.cells (c.toNat * i.size)).toList := by
        have := made_vs hzc.1 hzs hpos c.toNat
        have e : (madeCells zv.cells (c.toNat * i.size)).toList = (List.range (c.toNat * i.size)).map fun j => zv.cells[j % i.size]! := by
          unfold madeCells
          rw [hzs, Array.toList_map, Array.toList_range]
        rw [e]
        exact this.weakenB
      have key := row_new (E := E) (ver := 0) (sz := i.size) (ty := e) (es := List.replicate c.toNat z) (fr := (0, 0)) (w' := C.w.alloc (.cells (madeCells zv.cells (c.toNat * i.size)) e)) hr ⟨rfl, rfl, rfl⟩ rfl hpos (fun x hx => by
        have := List.eq_of_mem_replicate hx
        subst this
        exact ⟨hzl, hzc.2⟩) (fun j _ h => by simp at h) hv (fun j u hu => by simpa using hu)
      refine ⟨_, _, hrun, ?_, key.1, key.2, rfl⟩
      refine .sl _ _ _ _ _ _ rfl ⟨by simp [Ctx.grow], fun v sz' ty' es' hx => ?_⟩
      simp [Ctx.grow] at hx
      obtain ⟨rfl, rfl, rfl, rfl⟩ := hx
      refine ⟨Nat.le_refl _, fun _ => ⟨⟨C.w.heap.size, 0, none⟩, c.toNat, rfl, by omega, Nat.le_refl _, by unfold maxLen; omega, fun _ => by simp [Ctx.grow], fun cells t' fr hc => ?_⟩⟩
      rw [grow_place] at hc ⊢
      have hc' := (heap_alloc_new C.w _).symm.trans hc
      injection hc' with hc'
      injection hc' with hc1 hc2 hc3
      subst hc1
      simp only [size_madeCells, Nat.zero_add, Nat.le_refl]
    · simp at h
  · simp at h

theorem clear_ok (hr : HR E C) {t e ty : TypeId} {sz : Nat} {z d v : AV} {u0 : Value} {H' : Heap} (ht : E.P.underlying t = some (.slice e)) (hsz : E.size e = some sz) (hzv : E.zero e = some z) (hzl : z.cells.length = sz)
    (h : A.clear sz z d C.H = some (v, H')) (hx : V C p d u0) :
    ∃ u C', (Builtin.clear_ #[t] ty #[u0]).run E.P C.w = .ok u C'.w ∧ V C' false v u ∧ HR E C' ∧ EvL C C' ∧ C'.H = H' := by
  have hdone : ∀ {b : Option Addr} {n c : Nat}, (b = none ∨ n = 0) → (Builtin.clear_ #[t] ty #[.slice b n c]).run E.P C.w = .ok (.tuple #[]) C.w := by
    intro b n c hb
    rcases hb with rfl | rfl
    · simp [Builtin.clear_, run_underlying ht]
    · cases b <;> simp [Builtin.clear_, run_underlying ht]
  unfold A.clear at h
  split at h
  · cases hx
    simp only [Option.some.injEq, Prod.mk.injEq] at h
    obtain ⟨rfl, rfl⟩ := h
    exact ⟨_, C, hdone (.inl rfl), .tup _ _ _ (.nil _), hr, EvL.refl C, rfl⟩
  · cases hx
    simp only [Option.some.injEq, Prod.mk.injEq] at h
    obtain ⟨rfl, rfl⟩ := h
    exact ⟨_, C, hdone (.inr rfl), .tup _ _ _ (.nil _), hr, EvL.refl C, rfl⟩
  · rename_i id ver off n cap
    cases hx with
    | sl _ _ _ _ _ _ g0 g1 =>
      split at h
      · rename_i hn
        subst hn
        cases ha : A.alive C.H id ver
        · rw [ha] at h; simp at h
        · rw [ha] at h
          simp only [cond_true, Option.some.injEq, Prod.mk.injEq] at h
          obtain ⟨rfl, rfl⟩ := h
          obtain ⟨z', ty', es, hrow⟩ := alive_row ha
          obtain ⟨a, c, hu, _⟩ := (g1.2 ver z' ty' es hrow).2 rfl
          subst hu
          exact ⟨_, C, hdone (.inr rfl), .tup _ _ _ (.nil _), hr, EvL.refl C, rfl⟩
      · rename_i hn
        split at h
        · rename_i w z' ty' es hrow
          split at h
          · rename_i hc
            obtain ⟨rfl, rfl, hle⟩ := hc
            simp only [Option.some.injEq, Prod.mk.injEq] at h
            obtain ⟨rfl, rfl⟩ := h
            obtain ⟨hz, hgd, hk, cur, fr, us, hcur, hfz, hus, hcell⟩ := hr.row id w z' ty' es hrow
            obtain ⟨a, c, hu, g2, g3, g4, g5, g6⟩ := (g1.2 w z' ty' es hrow).2 rfl
            subst hu
            have ha := g5 (by omega)
            subst ha
            have g6' := g6 cur ty' fr hcur
            unfold Env.size at hsz
            unfold Env.zero at hzv
            cases hi : E.P.info? e with
            | none => rw [hi] at hsz; simp at hsz
            | some i =>
              rw [hi] at hsz hzv
              simp only [Option.map_some, Option.some.injEq] at hsz
              simp only [Option.bind_some, Option.bind_eq_some_iff] at hzv
              obtain ⟨zv, h1, h2⟩ := hzv
              have hzd : z.isDef = true := ofConst_def h2
              have hzc := (ofConst_ok (C := C) h2).cells hzd
              have hzs : zv.cells.size = z' := by rw [← Array.length_toList, hzc.1.length, hzl]
              have hgr : ∀ x ∈ List.replicate n z, Good z' x := fun x hx => by
                have := List.eq_of_mem_replicate hx
                subst this
                exact ⟨hzl, hzc.2⟩
              have hv := (made_vs hzc.1 hzs hz n).weakenB
              have hfl : (es.flatMap AV.cells).length = es.length * z' := flat_length hgd
              have hadd : (off + c) * z' = off * z' + c * z' := Nat.add_mul _ _ _
              have hadd2 : (off + n) * z' = off * z' + n * z' := Nat.add_mul _ _ _
              have hl2 : (off + n) * z' ≤ es.length * z' := Nat.mul_le_mul_right _ hle
              have hl3 : n * z' ≤ c * z' := Nat.mul_le_mul_right _ (by omega)
              obtain ⟨C', c1, c2, c3, c4, c5, c6⟩ := row_splice (ver' := w) (es' := A.splice es off (List.replicate n z)) (s := off * z') (ws := (List.range (n * z')).map fun j => zv.cells[j % z']!) (vs := (List.replicate n z).flatMap AV.cells) hr hrow (flat_splice hgd hgr _) (splice_mem hgd hgr) hv (by omega) (fun cells t' f hc => by
                rw [hcur] at hc
                injection hc with hc
                injection hc with hc _ _
                subst hc
                simp
                omega) (fun v hv => by
                  obtain ⟨e, he, hve⟩ := List.mem_flatMap.1 hv
                  exact (hgr e he).2 v hve) (Nat.le_refl _)
              refine ⟨.tuple #[], C', ?_, .tup _ _ _ (.nil _), c3, c4, c5⟩
              have hzz : (Builtin.zeroCells zv.cells n).toList = (List.range (n * z')).map fun j => zv.cells[j % z']! := by
                unfold Builtin.zeroCells
                rw [hzs, Array.toList_map, Array.toList_range]
              rw [← hzz] at c1
              cases n with
              | zero => exact absurd rfl hn
              | succ n =>
                simp [Builtin.clear_, run_underlying ht, zeroValue, typeInfo, hi, h1, c1]
          · simp at h
        · simp at h
  · simp at h

end
end Go.Den
