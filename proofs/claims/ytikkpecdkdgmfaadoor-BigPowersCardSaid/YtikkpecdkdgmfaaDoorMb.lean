/- Texts put together: DenI, DenJ, DenK, DenL, DenM, DenN, DenO, DenLf, DenP, DenPb, DenPc, DenPd. -/
import Derived.Test.YtikkpecdkdgmfaaDoorMa
import Derived.Deep.AppendSrc
import Derived.Deep.Upon
import Derived.OrdersIn
import Derived.TacticsIn
import Derived.LoopNIn
import Derived.RangeFuncRecord
import Derived.Lib.Builder
import Derived.Lib.UnsafeStr
import Derived.Laws.BytesString
import Derived.Laws.Cover4
import Derived.Laws.IdiomStrings
import Derived.Lib.ConvBytes

/- DEN, part I: loads, stores, new variables, new rows, appends, as the machine does them. -/
namespace Go.Den
open Go.RowKit
section lists
variable {α : Type}
theorem q76 {us ws : List α} {s : Nat} (hs : s ≤ us.length) (j : Nat) : (us.take s ++ ws ++ us.drop (s + ws.length))[j]? = if s ≤ j ∧ j < s + ws.length then ws[j - s]? else us[j]? := by
  have ht : (us.take s).length = s := by simp [hs]
  rcases Nat.lt_or_ge j s with h | h
  · rw [if_neg (by omega), List.append_assoc, List.getElem?_append_left (by omega), List.getElem?_take, if_pos h]
  · rw [List.append_assoc, List.getElem?_append_right (by omega), ht]
    rcases Nat.lt_or_ge j (s + ws.length) with h2 | h2
    · rw [if_pos ⟨h, h2⟩, List.getElem?_append_left (by omega)]
    · rw [if_neg (by omega), List.getElem?_append_right (by omega), List.getElem?_drop]
      congr 1
      omega
end lists
section
variable {E : Env} {C : Ctx} {p q : Bool}
theorem Vs.splice {cs vs : List AV} {us ws : List Value} (h : Vs C p cs us) (g : Vs C p vs ws) (s : Nat) : Vs C p (A.splice cs s vs) (us.take s ++ ws ++ us.drop (s + ws.length)) := by
  unfold A.splice
  have := g.length
  rw [this]
  exact ((h.take s).append g).append (h.drop _)
theorem q3n {cs vs : List AV} {s : Nat} {P : AV → Prop} (h : ∀ c ∈ cs, P c) (g : ∀ c ∈ vs, P c) : ∀ c ∈ A.splice cs s vs, P c := by
  intro c hc
  unfold A.splice at hc
  simp only [List.mem_append] at hc
  rcases hc with (hc | hc) | hc
  · exact h c (List.mem_of_mem_take hc)
  · exact g c hc
  · exact h c (List.mem_of_mem_drop hc)
theorem qce {cs vs : List AV} {s : Nat} (h : s + vs.length ≤ cs.length) : (A.splice cs s vs).length = cs.length := by
  unfold A.splice
  simp only [List.length_append, List.length_take, List.length_drop]
  omega
theorem qe9 {z off : Nat} {e e' v : AV} (he : Good z e) (h : A.setElem e off v = some e') (hv : ∀ c ∈ v.cells, c.one = true) : e'.cells = A.splice e.cells off v.cells ∧ off + v.cells.length ≤ z ∧ Good z e' := by
  unfold A.setElem at h
  split at h
  · rename_i cs
    split at h
    · rename_i hl
      simp only [Option.some.injEq] at h
      subst h
      have hz : cs.length = z := he.1
      refine ⟨rfl, by omega, ?_, q3n he.2 hv⟩
      show (A.splice cs off v.cells).length = z
      rw [qce hl, hz]
    · simp at h
  · simp at h
  · simp at h
  · rename_i hn1 hn2 hn3
    split at h
    · simp at h
    · rename_i hv1
      split at h
      · rename_i h0
        simp only [Option.some.injEq] at h
        subst h
        subst h0
        have e1 : e.cells = [e] := by cases e <;> first | rfl | exact absurd rfl (hn1 _)
        have e2 : v.cells = [v] := by cases v <;> first | rfl | exact absurd rfl (hv1 _)
        have hz : z = 1 := by rw [← he.1, e1]; rfl
        subst hz
        refine ⟨by rw [e1, e2]; rfl, by rw [e2]; simp, by rw [e2]; rfl, hv⟩
      · simp at h
theorem qga {z : Nat} {es : List AV} {e e' : AV} {i off : Nat} {vs : List AV} (h : ∀ e ∈ es, Good z e) (hi : es[i]? = some e) (hc : e'.cells = A.splice e.cells off vs) (hl : off + vs.length ≤ z) :
    (es.set i e').flatMap AV.cells = A.splice (es.flatMap AV.cells) (i * z + off) vs := by
  obtain ⟨h1, h2⟩ := qah h hi
  have hlt : i < es.length := (List.getElem?_eq_some_iff.1 hi).1
  have he : e.cells.length = z := (h e (List.mem_of_getElem? hi)).1
  have h3 : es.set i e' = es.take i ++ e' :: es.drop (i + 1) := by rw [List.set_eq_take_append_cons_drop, if_pos hlt]
  rw [h3, List.flatMap_append, List.flatMap_cons, hc, h1]
  unfold A.splice
  generalize (es.take i).flatMap AV.cells = a at *
  generalize (es.drop (i + 1)).flatMap AV.cells = d at *
  generalize e.cells = m at *
  have t1 : (a ++ (m ++ d)).take (i * z + off) = a ++ m.take off := by
    rw [List.take_append, h2, show i * z + off - i * z = off by omega, List.take_of_length_le (l := a) (by omega), List.take_append, show off - m.length = 0 by omega]
    simp
  have t2 : (a ++ (m ++ d)).drop (i * z + off + vs.length) = m.drop (off + vs.length) ++ d := by
    rw [List.drop_append, h2, show i * z + off + vs.length - i * z = off + vs.length by omega, List.drop_eq_nil_of_le (by omega), List.nil_append, List.drop_append, show off + vs.length - m.length = 0 by omega]
    simp
  rw [t1, t2]
  simp [List.append_assoc]
theorem qh0 {z : Nat} {es : List AV} {e' : AV} {i : Nat} (h : ∀ e ∈ es, Good z e) (g : Good z e') : ∀ e ∈ es.set i e', Good z e := by
  intro e he
  rcases List.mem_or_eq_of_mem_set he with h1 | h1
  · exact h e h1
  · subst h1; exact g
theorem q73 (hr : HR E C) {id ver ver' sz s : Nat} {ty : TypeId} {es es' : List AV} {vs : List AV} {ws : List Value} (hrow : C.H[id]? = some (.row ver sz ty es))
    (hflat : es'.flatMap AV.cells = A.splice (es.flatMap AV.cells) s vs) (hgood : ∀ e ∈ es', Good sz e) (hv : Vs C false vs ws) (hs : s ≤ (es.flatMap AV.cells).length)
    (hcap : ∀ cells t fr, C.w.heap[(C.ρ id).1]? = some (.cells cells t fr) → (C.ρ id).2 + s + ws.length ≤ cells.size) (h1 : ∀ v ∈ vs, v.one = true) (hver : ver ≤ ver') :
    ∃ C', (storeCells ⟨(C.ρ id).1, (C.ρ id).2 + s, none⟩ ws).run E.P C.w = .ok () C'.w ∧ C'.w = C.w.setCells (C.ρ id).1 ((C.ρ id).2 + s) ws ∧ HR E C' ∧ EvL C C' ∧ C'.H = C.H.set id (.row ver' sz ty es') ∧ C'.ρ id = C.ρ id := by
  obtain ⟨hz, hg0, hk, cur, fr, us, hcur, hfz, hus, hcell⟩ := hr.row id ver sz ty es hrow
  have hcap' := hcap cur ty fr hcur
  obtain ⟨cur', g1, g2, g3⟩ := q2u (C.ρ id).1 ws ((C.ρ id).2 + s) C.w cur ty fr hcur hcap'
  obtain ⟨f1, f2, f3, f4⟩ := q2f (C.ρ id).1 ws ((C.ρ id).2 + s) C.w
  have hlen : us.length = (es.flatMap AV.cells).length := hus.length
  have key := qe4 hr hrow (w' := C.w.setCells (C.ρ id).1 ((C.ρ id).2 + s) ws) (ver' := ver') (base' := (C.ρ id).2) (us' := us.take s ++ ws ++ us.drop (s + ws.length)) (es' := es') hcur ⟨f2, f3, f4⟩ f1 (fun i hi => q2g _ _ _ _ _ hi) g1 g2 hfz (hr.al id ver sz ty es hrow)
    (by rcases Nat.lt_or_ge ver ver' with h | h
        · exact .inr h
        · exact .inl ⟨by omega, rfl⟩) hgood (by rw [hflat]; exact hus.splice hv s) (fun j u hu => by
      rw [q76 (by omega)] at hu
      rw [g3]
      by_cases hj : s ≤ j ∧ j < s + ws.length
      · rw [if_pos hj] at hu
        rw [if_pos (by omega), show (C.ρ id).2 + j - ((C.ρ id).2 + s) = j - s by omega]
        exact hu
      · rw [if_neg hj] at hu
        rw [if_neg (by omega)]
        exact hcell j u hu)
  refine ⟨_, ?_, rfl, key.1, key.2, rfl, by simp⟩
  have := run_storeCells_cells (P := E.P) (C.ρ id).1 ((C.ρ id).2 + s) ws 0 C.w (fun j hj => by
      simp only [World.cell?, hcur, Option.isSome_none, Bool.false_eq_true, if_false, Nat.add_zero]
      rw [Array.getElem?_eq_getElem (by omega)]
      rfl) (fun j hj => by
      simp only [World.frozen?, hcur, Nat.add_zero]
      have := nofr hfz ((C.ρ id).2 + s + j) (by omega)
      simp only [Bool.and_eq_false_iff, decide_eq_false_iff_not]
      rcases Nat.lt_or_ge ((C.ρ id).2 + s + j) fr.1 with h | h
      · exact .inl (by omega)
      · exact .inr (fun h2 => this ⟨h, h2⟩)) (hv.one h1)
  simpa using this
theorem qg8 {sz : Nat} {v : AV} (h : A.fits sz v = true) : v.isDef = true ∧ v.cells.length = sz ∧ ∀ c ∈ v.cells, c.one = true := by
  unfold A.fits at h
  simp only [Bool.and_eq_true, beq_iff_eq, List.all_eq_true] at h
  refine ⟨?_, h.1, h.2⟩
  cases v <;> first | rfl | (have := h.2 _ List.mem_cons_self; simp [AV.one] at this)
theorem storeH_ok (hr : HR E C) {t : TypeId} {sz : Nat} {x v : AV} {u0 uv : Value} {H' : Heap} (hsz : E.size t = some sz) (h : A.store sz x v C.H = some H') (hx : V C p x u0) (hv : V C q v uv) :
    ∃ C', (Instr.storeAt t u0 uv).run E.P C.w = .ok () C'.w ∧ HR E C' ∧ EvL C C' ∧ C'.H = H' := by
  unfold A.store at h
  split at h
  · rename_i id ver i off
    cases hf : A.fits sz v
    · rw [hf] at h; simp at h
    · rw [hf] at h
      simp only [cond_true] at h
      obtain ⟨hd, hl, h1⟩ := qg8 hf
      split at h
      · rename_i w z ty es hrow
        cases hb : (w == ver)
        · rw [hb] at h; simp at h
        · rw [hb] at h
          have : w = ver := by simpa using hb
          subst this
          simp only [cond_true, Option.bind_eq_some_iff, Option.map_eq_some_iff] at h
          obtain ⟨e, he, e', hse, rfl⟩ := h
          cases hx with
          | ptr _ _ _ _ _ g0 g1 =>
            have := (g1.2 w z ty es hrow).2 rfl
            subst this
            obtain ⟨hz, hg, hk, cur, fr, us, hcur, hfz, hus, hcell⟩ := hr.row id w z ty es hrow
            have hge := hg e (List.mem_of_getElem? he)
            obtain ⟨k1, k2, k3⟩ := qe9 hge hse h1
            obtain ⟨hvc, _⟩ := hv.cells hd
            have hit : i < es.length := (List.getElem?_eq_some_iff.1 he).1
            have hfl : (es.flatMap AV.cells).length = es.length * z := q0d hg
            have hmul : i * z + z ≤ es.length * z := by
              have := Nat.mul_le_mul_right z (show i + 1 ≤ es.length by omega)
              rwa [Nat.succ_mul] at this
            have hul : us.length = es.length * z := hus.length.trans hfl
            have hwl := hvc.length
            obtain ⟨C', c1, c2, c3, c4, c5, c6⟩ := q73 (ver' := w) (es' := es.set i e') (s := i * z + off) (ws := uv.cells.toList) hr hrow (qga hg he k1 k2) (qh0 hg k3) hvc.weakenB (by omega) (fun cells t' f hc => by
                rw [hcur] at hc
                injection hc with hc
                injection hc with hc _ _
                subst hc
                have hpos : 0 < es.length * z := by
                  have := Nat.mul_pos (show 0 < es.length by omega) hz
                  omega
                have hlast := hcell (es.length * z - 1) _ (List.getElem?_eq_getElem (by omega))
                have := (Array.getElem?_eq_some_iff.1 hlast).1
                omega) h1 (Nat.le_refl _)
            refine ⟨C', ?_, c3, c4, c5⟩
            have hcs : uv.cells.size = sz := by
              rw [← Array.length_toList, hwl, hl]
            simp only [Instr.storeAt, Instr.sureAddr, storeVar, Sem.run_bind, Sem.run_pure, Result.andThen_ok, q13 hsz, hcs, ne_eq, not_true_eq_false, if_false]
            exact c1
      · simp at h
  · simp at h
theorem newBox_ok (hr : HR E C) {t : TypeId} {sz : Nat} {v : AV} {uv : Value} (hl : v.cells.length = sz) (hd : v.isDef = true) (hz : 0 < sz) (hv : V C q v uv) :
    ∃ C' u, (newVar t uv).run E.P C.w = .ok u C'.w ∧ HR E C' ∧ EvL C C' ∧ C'.H = (A.newBox sz t v C.H).2 ∧ V C' false (A.newBox sz t v C.H).1 (.pointer (some u)) := by
  obtain ⟨hvc, h1⟩ := hv.cells hd
  have key := q4e (ver := 0) (sz := sz) (ty := t) (es := [v]) (us := uv.cells.toList) (w' := C.w.alloc (.cells uv.cells t)) (cells := uv.cells) (fr := (0, 0)) hr ⟨rfl, rfl, rfl⟩ rfl hz (fun e he => by
      have : e = v := by simpa using he
      subst this
      exact ⟨hl, h1⟩) (.inl rfl) (by simpa using hvc.weakenB) (fun j u hu => by simpa using hu)
  refine ⟨_, ⟨C.w.heap.size, 0, none⟩, ?_, key.1, key.2, rfl, .ptr _ _ _ _ _ rfl ⟨by simp [Ctx.grow], fun w z ty es h => ?_⟩⟩
  · rfl
  · simp [Ctx.grow] at h ⊢
theorem read_ok (hr : HR E C) {sz : Nat} {x : AV} {u0 : Value} {news : List AV} {tx e' : TypeId} (hk : E.P.underlying tx = some (.slice e')) (h : A.read sz x C.H = some news) (hx : V C p x u0) :
    ∃ ws, Src E.P sz tx u0 news.length ws C.w ∧ Vs C false (news.flatMap AV.cells) ws ∧ ∀ e ∈ news, Good sz e := by
  unfold A.read at h
  split at h
  · cases hx
    simp only [Option.some.injEq] at h
    subst h
    exact ⟨[], Src.ofNil C.w hk 0, .nil _, by simp⟩
  · rename_i z es
    split at h
    · rename_i hz
      subst hz
      simp only [Option.some.injEq] at h
      subst h
      cases hx with
      | sh _ _ _ a c us h1 h2 h3 h4 h5 h6 =>
        have hl : us.length = es.length * z := h1.length.trans (q0d h2)
        exact ⟨us, Src.ofSlice C.w hk a es.length c us hl h3 (h1.one (fun v hv => by
          obtain ⟨e, he, hve⟩ := List.mem_flatMap.1 hv
          exact (h2 e he).2 v hve)), h1.weaken, h2⟩
    · simp at h
  · rename_i id ver off n cap
    split at h
    · rename_i w z ty es hrow
      split at h
      · rename_i hc
        obtain ⟨rfl, rfl, hle⟩ := hc
        simp only [Option.some.injEq] at h
        subst h
        obtain ⟨hz, hg, hk2, cur, fr, us, hcur, hfz, hus, hcell⟩ := hr.row id w z ty es hrow
        have hgd : ∀ e ∈ (es.drop off).take n, Good z e := fun e he => hg e (List.mem_of_mem_drop (List.mem_of_mem_take he))
        have hnl : ((es.drop off).take n).length = n := by rw [List.length_take, List.length_drop]; omega
        cases hx with
        | sl _ _ _ _ _ _ g0 g1 =>
          obtain ⟨a, c, hu, g2, g3, g4, g5, g6⟩ := (g1.2 w z ty es hrow).2 rfl
          subst hu
          have hfl : es.flatMap AV.cells = (es.take off).flatMap AV.cells ++ (((es.drop off).take n).flatMap AV.cells ++ ((es.drop off).drop n).flatMap AV.cells) := by
            rw [← List.flatMap_append, List.take_append_drop, ← List.flatMap_append, List.take_append_drop]
          have hl1 : ((es.take off).flatMap AV.cells).length = off * z := by
            rw [q0d (fun x hx => hg x (List.mem_of_mem_take hx)), List.length_take, Nat.min_eq_left (by omega)]
          have hl2 : (((es.drop off).take n).flatMap AV.cells).length = n * z := by rw [q0d hgd, hnl]
          have hv := hus
          rw [hfl] at hv
          have hv2 := hv.split.2.split.1
          rw [hl1, hl2] at hv2
          refine ⟨_, ?_, hv2, hgd⟩
          have hwl : ((us.drop (off * z)).take (n * z)).length = n * z := hv2.length.trans hl2
          have hone := hv2.one (fun v hv => by
            obtain ⟨e, he, hve⟩ := List.mem_flatMap.1 hv
            exact (hgd e he).2 v hve)
          rw [hnl]
          refine Src.ofSlice C.w hk a n c _ hwl (fun j u hju => ?_) hone
          have hpos : 0 < c := by
            rcases Nat.eq_zero_or_pos c with h0 | h0
            · have : n = 0 := by omega
              subst this
              simp at hju
            · exact h0
          have ha := g5 hpos
          subst ha
          rw [List.getElem?_take] at hju
          split at hju
          · rw [List.getElem?_drop] at hju
            have := hcell _ _ hju
            rw [Addr.add_lit]
            simp only [World.cell?, hcur, Option.isSome_none, Bool.false_eq_true, if_false]
            rw [show (C.ρ id).2 + off * z + j = (C.ρ id).2 + (off * z + j) by omega]
            exact this
          · simp at hju
      · simp at h
    · simp at h
  · simp at h
theorem qfx {s : ByteArray} {tx : TypeId} (hk : E.P.underlying tx = some .string) : ∃ ws, Src E.P 1 tx (.string s) (A.strElems s.data.toList).length ws C.w ∧ Vs C false ((A.strElems s.data.toList).flatMap AV.cells) ws ∧ ∀ e ∈ A.strElems s.data.toList, Good 1 e := by
  have hl : (A.strElems s.data.toList).length = s.size := by
    unfold A.strElems
    rw [List.length_map, Array.length_toList]
    rfl
  refine ⟨byteCells s, by rw [hl]; exact Src.ofString C.w hk s, ?_, ?_⟩
  · unfold A.strElems byteCells
    generalize s.data.toList = l
    induction l with
    | nil => exact .nil _
    | cons b l ih => exact .cons _ _ _ _ _ (.int _ _ _) ih
  · intro e he
    obtain ⟨b, _, rfl⟩ := List.mem_map.1 he
    exact ⟨rfl, by simp [AV.cells, AV.one]⟩
theorem qf8 {e : TypeId} {sz by_ : Nat} {z : AV} (hsz : E.size e = some sz) (hby : E.bytes e = some by_) (hz : E.zero e = some z) : ∃ i zv, E.P.info? e = some i ∧ i.size = sz ∧ i.bytes = by_ ∧ i.zero = some zv ∧ q21 3 zv = some z := by
  unfold Env.size at hsz
  unfold Env.bytes at hby
  unfold Env.zero at hz
  cases hi : E.P.info? e with
  | none => rw [hi] at hsz; simp at hsz
  | some i =>
    rw [hi] at hsz hby hz
    simp only [Option.map_some, Option.some.injEq] at hsz hby
    simp only [Option.bind_some, Option.bind_eq_some_iff] at hz
    obtain ⟨zv, h1, h2⟩ := hz
    exact ⟨i, zv, rfl, hsz, hby, h1, h2⟩
theorem qbx {α : Type} {l : List α} {i : Nat} {x : α} (h : l[i]? = some x) : l.set i x = l := by
  apply List.ext_getElem?
  intro j
  rw [List.getElem?_set]
  split
  · rename_i e
    subst e
    rw [if_pos (List.getElem?_eq_some_iff.1 h).1, h]
  · rfl
theorem q8k {z : Nat} {es : List AV} (h : ∀ e ∈ es, Good z e) (k : Nat) : (es.flatMap AV.cells).take (k * z) = (es.take k).flatMap AV.cells := by
  have h1 : es.flatMap AV.cells = (es.take k).flatMap AV.cells ++ (es.drop k).flatMap AV.cells := by rw [← List.flatMap_append, List.take_append_drop]
  have h2 : ((es.take k).flatMap AV.cells).length = min k es.length * z := by rw [q0d (fun x hx => h x (List.mem_of_mem_take hx)), List.length_take]
  rw [h1]
  rcases Nat.le_total k es.length with hk | hk
  · rw [Nat.min_eq_left hk] at h2
    rw [List.take_append, h2, Nat.sub_self, List.take_zero, List.append_nil, List.take_of_length_le (by omega)]
  · rw [List.drop_eq_nil_of_le hk, List.flatMap_nil, List.append_nil, List.take_of_length_le]
    rw [h2]
    exact Nat.mul_le_mul_right _ (Nat.min_le_left _ _)
theorem q8h {z : Nat} {es : List AV} (h : ∀ e ∈ es, Good z e) (k : Nat) : (es.flatMap AV.cells).drop (k * z) = (es.drop k).flatMap AV.cells := by
  have h1 : es.flatMap AV.cells = (es.take k).flatMap AV.cells ++ (es.drop k).flatMap AV.cells := by rw [← List.flatMap_append, List.take_append_drop]
  have h2 : ((es.take k).flatMap AV.cells).length = min k es.length * z := by rw [q0d (fun x hx => h x (List.mem_of_mem_take hx)), List.length_take]
  rw [h1]
  rcases Nat.le_total k es.length with hk | hk
  · rw [Nat.min_eq_left hk] at h2
    rw [List.drop_append, h2, Nat.sub_self, List.drop_zero, List.drop_eq_nil_of_le (by omega), List.nil_append]
  · have h3 : es.drop k = [] := List.drop_eq_nil_of_le hk
    rw [h3, List.flatMap_nil, List.append_nil, List.drop_eq_nil_of_le]
    rw [h2]
    exact Nat.mul_le_mul_right _ (Nat.min_le_left _ _)
theorem q8j {z : Nat} {es news : List AV} (h : ∀ e ∈ es, Good z e) (g : ∀ e ∈ news, Good z e) (k : Nat) : (A.splice es k news).flatMap AV.cells = A.splice (es.flatMap AV.cells) (k * z) (news.flatMap AV.cells) := by
  unfold A.splice
  rw [q0d g, ← Nat.add_mul, q8k h, q8h h, List.flatMap_append, List.flatMap_append]
theorem q1u {n : Nat} {u : Value} {v : AV} (h : q21 n u = some v) : v.isDef = true := by
  cases n with
  | zero => simp [q21] at h
  | succ n =>
    unfold q21 at h
    split at h <;> first
      | (simp only [Option.some.injEq] at h; subst h; rfl)
      | (simp at h; done)
      | skip
    split at h
    · rename_i vs _
      cases ho : vs.all AV.one <;> rw [ho] at h <;> simp at h
      subst h
      rfl
    · simp at h
theorem q1j (z : Array Value) (n : Nat) : (Builtin.zeroCells z n).size = n * z.size := by simp [Builtin.zeroCells]
structure ApS (P : Program) (t tx ty e : TypeId) (x : Value) (n : Nat) (news : List Value) (w : World) : Prop where
  len : ∀ i, P.info? e = some i → news.length = n * i.size
  nothing : ∀ i, P.info? e = some i → n = 0 → news = [] → ∀ (base : Option Addr) (sLen sCap : Nat), sLen ≤ sCap → (Builtin.append_ #[t, tx] ty #[.slice base sLen sCap, x]).run P w = .ok (.slice base sLen sCap) w
  room : ∀ i, P.info? e = some i → ∀ b off sLen sCap : Nat, sLen + n ≤ sCap → (∀ j, j < news.length → (w.cell? ⟨b, off + sLen * i.size + j, none⟩).isSome = true) → (∀ j, j < news.length → w.frozen? ⟨b, off + sLen * i.size + j, none⟩ = false) →
    (Builtin.append_ #[t, tx] ty #[.slice (some ⟨b, off, none⟩) sLen sCap, x]).run P w = .ok (.slice (some ⟨b, off, none⟩) (sLen + n) sCap) (w.setCells b (off + sLen * i.size) news)
  grow : ∀ i z, P.info? e = some i → i.zero = some z → ∀ (base : Option Addr) (sLen sCap : Nat) (olds : List Value), (Builtin.firstCells i.size sLen (.slice base sLen sCap)).run P w.drew = .ok olds.toArray w.drew → sCap < sLen + n → ((sLen + n : Nat) : Int) ≤ 9223372036854775807 →
    Builtin.nextslicecap (sLen + n) sCap * i.bytes ≤ 281474976710656 → (Builtin.append_ #[t, tx] ty #[.slice base sLen sCap, x]).run P w =
      .ok (.slice (some ⟨w.heap.size, 0, none⟩) (sLen + n) (grownCap w (sLen + n) sCap e)) (w.drew.alloc (.cells ((olds ++ news).toArray ++ Builtin.zeroCells z.cells (grownCap w (sLen + n) sCap e - (sLen + n))) e))
theorem ApS.ofSrc {P : Program} {t tx ty e : TypeId} {x : Value} {n : Nat} {news : List Value} {w : World} {sz : Nat} (ht : P.underlying t = some (.slice e)) (hsz : ∀ i, P.info? e = some i → i.size = sz) (hs : Src P sz tx x n news w) : ApS P t tx ty e x n news w :=
  ⟨fun i hi => by rw [hsz i hi]; exact hs.newsLen,
   fun i hi hn hnw base sLen sCap hle => by
    subst hn hnw
    exact run_append_nothing w t tx ty e i ht hi base sLen sCap hle x (by rw [hsz i hi]; exact hs),
   fun i hi b off sLen sCap hroom hc hf => run_append_room_src w t tx ty e i ht hi b off sLen sCap x n news (by rw [hsz i hi]; exact hs) hroom hc hf,
   fun i z hi hz base sLen sCap olds hold hg h63 hfit => run_append_grow_src w t tx ty e i z ht hi hz base sLen sCap olds hold x n news (by rw [hsz i hi]; exact hs) hg h63 hfit⟩
theorem ApS.ofZeros {P : Program} {t tx ty e : TypeId} {w : World} {k : IntKind} {m : Nat} {i : TypeInfo} {zv : Value} (ht : P.underlying t = some (.slice e)) (hk : P.underlying tx = some (.int k)) (hi : P.info? e = some i) (hz : i.zero = some zv) (hzs : zv.cells.size = i.size) (hpos : 0 < i.size)
    (hone : ∀ u ∈ zv.cells.toList, u.oneCell' = true) (hm : m * i.bytes ≤ 281474976710656) (hm2 : m ≤ 9223372036854775807) : ApS P t tx ty e (.int .i64 m) m (Builtin.zeroCells zv.cells m).toList w := by
  have hai : ∀ k : Int, asInt (.int .i64 k) = pure k := fun _ => rfl
  have hw : IntKind.i64.wrap (m : Int) = m := by
    simp [IntKind.wrap, IntKind.bits, IntKind.signed]
    omega
  have hneg : ¬ ((m : Int) < 0) := by omega
  have hbig : ¬ (281474976710656 < (m : Int) * (i.bytes : Int)) := by
    have : ((m * i.bytes : Nat) : Int) ≤ 281474976710656 := by omega
    rw [Int.natCast_mul] at this
    omega
  have hlen : (Builtin.zeroCells zv.cells m).toList.length = m * i.size := by rw [Array.length_toList, q1j, hzs]
  have hnz : ∀ h0 : m * i.size = 0, Builtin.zeroCells zv.cells m = #[] := fun h0 => by
    apply Array.eq_empty_of_size_eq_zero
    rw [q1j, hzs, h0]
  have hone' : ∀ u ∈ (Builtin.zeroCells zv.cells m).toList, u.oneCell' = true := fun u hu => by
    simp only [Builtin.zeroCells, Array.toList_map, List.mem_map] at hu
    obtain ⟨j, hj, rfl⟩ := hu
    refine hone _ ?_
    have : j % zv.cells.size < zv.cells.size := Nat.mod_lt _ (by omega)
    simp [this]
  have happ : ∀ w', (if m * i.size = 0 then (pure #[] : Sem (Array Value)) else do pure (Builtin.zeroCells (← zeroValue e).cells m)).run P w' = .ok (Builtin.zeroCells zv.cells m) w' := fun w' => by
    split
    · rename_i h0
      rw [hnz h0]
      rfl
    · simp [zeroValue, typeInfo, hi, hz]
  refine ⟨fun j hj => by rw [hi] at hj; cases hj; exact hlen, fun j hj h0 hn base sLen sCap hle => ?_, fun j hj b off sLen sCap hroom hc hf => ?_, fun j z hj hz' base sLen sCap olds hold hg h63 hfit => ?_⟩
  · rw [hi] at hj
    cases hj
    subst h0
    have hw0 : IntKind.i64.wrap 0 = 0 := rfl
    cases base <;> simp [Builtin.append_, run_underlying ht, run_underlying hk, sizeOf, typeInfo, hi, hai, hle, storeCells, hw0]
  · rw [hi] at hj
    cases hj
    have hst := run_storeCells_cells (P := P) b (off + sLen * i.size) (Builtin.zeroCells zv.cells m).toList 0 w (by simpa using hc) (by simpa using hf) hone'
    simp only [Nat.add_zero] at hst
    unfold Builtin.append_
    simp [run_underlying ht, run_underlying hk, sizeOf, typeInfo, hi, hai, hw, hneg, hbig, hroom, Addr.add_lit]
    split
    · rename_i h0
      rw [hnz h0] at hst ⊢
      have hst' : (storeCells ⟨b, off + sLen * i.size, none⟩ []).run P w = .ok () (w.setCells b (off + sLen * i.size) []) := hst
      rw [hst']
      rfl
    · simp [zeroValue, typeInfo, hi, hz, hst]
  · rw [hi] at hj
    cases hj
    have hn : ¬ (sLen + m ≤ sCap) := by omega
    have h63' : ¬ (9223372036854775807 < ((sLen : Int) + (m : Int))) := by omega
    have h48' : ¬ (281474976710656 < Builtin.nextslicecap (sLen + m) sCap * i.bytes) := by omega
    rw [hz] at hz'
    cases hz'
    unfold Builtin.append_
    simp [run_underlying ht, run_underlying hk, sizeOf, typeInfo, hi, hai, hw, hneg, hbig, hn, h63', h48', Question.forced, hold]
    split
    · rename_i h0
      rw [hnz h0]
      simp [zeroValue, typeInfo, hi, hz, newRow, grownCap]
    · simp [zeroValue, typeInfo, hi, hz, newRow, grownCap]
      congr 2
      apply Array.ext'
      simp [List.append_assoc]
theorem qir (hr : HR E C) {t tx ty e : TypeId} {sz by_ : Nat} {z s v : AV} {news : List AV} {ws : List Value} {x u0 : Value} {H' : Heap} (ht : E.P.underlying t = some (.slice e)) (hsz : E.size e = some sz) (hby : E.bytes e = some by_) (hzv : E.zero e = some z)
    (hzl : z.cells.length = sz) (hpos : 0 < sz) (hs : ApS E.P t tx ty e x news.length ws C.w) (hv : Vs C false (news.flatMap AV.cells) ws) (hg : ∀ e ∈ news, Good sz e) (h : A.append sz by_ e s news C.H = some (v, H')) (hs0 : V C p s u0) :
    ∃ u C', (Builtin.append_ #[t, tx] ty #[u0, x]).run E.P C.w = .ok u C'.w ∧ V C' false v u ∧ HR E C' ∧ EvL C C' ∧ C'.H = H' := by
  obtain ⟨i, zv, hi, hi1, hi2, hi3, hi4⟩ := qf8 hsz hby hzv
  have hzd : z.isDef = true := q1u hi4
  have hzs : zv.cells.size = sz := by
    have := (q25 (C := C) hi4).cells hzd
    rw [← Array.length_toList, this.1.length, hzl]
  subst hi1
  subst hi2
  unfold A.append at h
  split at h
  · -- nil
    cases hs0
    split at h
    · simp only [Option.some.injEq, Prod.mk.injEq] at h
      obtain ⟨rfl, rfl⟩ := h
      cases hv
      exact ⟨_, C, hs.nothing i hi rfl rfl none 0 0 (Nat.le_refl _), .nils _, hr, EvL.refl C, rfl⟩
    · rename_i hne
      split at h
      · rename_i hb
        obtain ⟨hb, hb0⟩ := hb
        simp only [Option.some.injEq, A.newRow, Prod.mk.injEq] at h
        obtain ⟨rfl, rfl⟩ := h
        have hlen : 0 < news.length := by
          cases news with
          | nil => exact absurd rfl hne
          | cons _ _ => simp
        have hnl : news.length ≤ 140737488355328 := Nat.le_trans (Nat.le_mul_of_pos_right _ hb0) hb
        have hrun := hs.grow i zv hi hi3 none 0 0 [] (by simp [Builtin.firstCells]) (by omega) (by simp; omega) (growslice_fits (by omega) (by simpa using hb))
        simp only [Nat.zero_add, List.nil_append] at hrun
        have key := q4e (E := E) (ver := 0) (sz := i.size) (ty := e) (es := news) (us := ws) (fr := (0, 0)) (w' := C.w.drew.alloc (.cells (ws.toArray ++ Builtin.zeroCells zv.cells (grownCap C.w news.length 0 e - news.length)) e)) hr ⟨rfl, rfl, rfl⟩ rfl hpos hg (.inl rfl) hv (fun j u hu => by
          rw [Array.getElem?_append_left (by have := (List.getElem?_eq_some_iff.1 hu).1; simpa using this)]
          simpa using hu)
        refine ⟨_, _, hrun, ?_, key.1, key.2, rfl⟩
        refine .sl _ _ _ _ _ _ rfl ⟨by simp [Ctx.grow], fun v sz' ty' es' hx => ?_⟩
        simp [Ctx.grow] at hx
        obtain ⟨rfl, rfl, rfl, rfl⟩ := hx
        have hge := grownCap_ge C.w news.length 0 e
        refine ⟨Nat.le_refl _, fun _ => ⟨⟨C.w.heap.size, 0, none⟩, grownCap C.w news.length 0 e, rfl, Nat.le_refl _, hge, grownCap_le_maxLen C.w _ 0 e (by unfold maxLen; omega), fun _ => by simp [Ctx.grow], fun cells t' fr hc => ?_⟩⟩
        rw [q1h] at hc ⊢
        have hc' := (heap_alloc_new C.w.drew _).symm.trans hc
        injection hc' with hc'
        injection hc' with hc1 hc2 hc3
        subst hc1
        have hwl : ws.length = news.length * i.size := hs.len _ hi
        simp only [Array.size_append, List.size_toArray, q1j, hzs, hwl, Nat.zero_add, ← Nat.add_mul]
        exact Nat.mul_le_mul_right _ (by omega)
      · simp at h
  · rename_i id ver off n cap
    split at h
    · rename_i w z' ty' es hrow
      split at h
      · rename_i hc
        obtain ⟨rfl, rfl, rfl, hcap, hncap, hb, hb0⟩ := hc
        obtain ⟨hz, hgd, hk, cur, fr, us, hcur, hfz, hus, hcell⟩ := hr.row id w i.size ty' es hrow
        have hnl : n + news.length ≤ 140737488355328 := Nat.le_trans (Nat.le_mul_of_pos_right _ hb0) hb
        have hfl : (es.flatMap AV.cells).length = es.length * i.size := q0d hgd
        have hul : us.length = es.length * i.size := hus.length.trans hfl
        have hwl : ws.length = news.length * i.size := hs.len _ hi
        cases hs0 with
        | sl _ _ _ _ _ _ g0 g1 =>
          obtain ⟨a, c, hu, g2, g3, g4, g5, g6⟩ := (g1.2 w i.size ty' es hrow).2 rfl
          subst hu
          have g6' := g6 cur ty' fr hcur
          by_cases hroom : n + news.length ≤ cap
          · rw [if_pos hroom] at h
            simp only [Option.some.injEq, Prod.mk.injEq] at h
            obtain ⟨rfl, rfl⟩ := h
            rcases Nat.eq_zero_or_pos c with h0 | h0
            · have hn0 : n = 0 := by omega
              have hm0 : news = [] := List.eq_nil_of_length_eq_zero (by omega)
              subst hn0
              subst hm0
              cases hv
              refine ⟨_, C, hs.nothing i hi rfl rfl (some a) 0 c (by omega), ?_, hr, EvL.refl C, ?_⟩
              · exact .sl _ _ _ _ _ _ rfl ⟨g1.1, fun v sz' ty' es' hx => ⟨(g1.2 v sz' ty' es' hx).1, (g1.2 v sz' ty' es' hx).2⟩⟩
              · have hsp : A.splice es (off + 0) [] = es := by simp [A.splice]
                rw [hsp]
                exact (qbx hrow).symm
            · have ha := g5 h0
              subst ha
              have hle : (n + news.length) * i.size ≤ c * i.size := Nat.mul_le_mul_right _ (by omega)
              have hadd : (off + c) * i.size = off * i.size + c * i.size := Nat.add_mul _ _ _
              have hadd2 : (n + news.length) * i.size = n * i.size + news.length * i.size := Nat.add_mul _ _ _
              have hoff : (off + n) * i.size = off * i.size + n * i.size := Nat.add_mul _ _ _
              have hle2 : (off + n) * i.size ≤ es.length * i.size := Nat.mul_le_mul_right _ (by omega)
              obtain ⟨C', c1, c2, c3, c4, c5, c6⟩ := q73 (ver' := w) (es' := A.splice es (off + n) news) (s := (off + n) * i.size) (ws := ws) (vs := news.flatMap AV.cells) hr hrow (q8j hgd hg _) (q3n hgd hg) hv (by omega) (fun cells t' f hc => by
                rw [hcur] at hc
                injection hc with hc
                injection hc with hc _ _
                subst hc
                omega) (fun v hv => by
                  obtain ⟨e, he, hve⟩ := List.mem_flatMap.1 hv
                  exact (hg e he).2 v hve) (Nat.le_refl _)
              have hrun := hs.room i hi (C.ρ id).1 ((C.ρ id).2 + off * i.size) n c (by omega) (fun j hj => by
                simp only [World.cell?, hcur, Option.isSome_none, Bool.false_eq_true, if_false]
                rw [Array.getElem?_eq_getElem (by omega)]
                rfl) (fun j hj => by
                simp only [World.frozen?, hcur]
                have := nofr hfz ((C.ρ id).2 + off * i.size + n * i.size + j) (by omega)
                simp only [Bool.and_eq_false_iff, decide_eq_false_iff_not]
                rcases Nat.lt_or_ge ((C.ρ id).2 + off * i.size + n * i.size + j) fr.1 with h | h
                · exact .inl (by omega)
                · exact .inr (fun h2 => this ⟨h, h2⟩))
              rw [show (C.ρ id).2 + off * i.size + n * i.size = (C.ρ id).2 + (off + n) * i.size by omega, ← c2] at hrun
              refine ⟨_, C', hrun, ?_, c3, c4, c5⟩
              refine .sl _ _ _ _ _ _ rfl ⟨Nat.lt_of_lt_of_le g1.1 c4.ev.hlen, fun v sz' ty2 es' hx => ?_⟩
              rw [c5, List.getElem?_set_self g1.1] at hx
              injection hx with hx
              injection hx with e1 e2 e3 e4
              subst e1 e2 e3 e4
              refine ⟨Nat.le_refl _, fun _ => ⟨_, c, rfl, hroom, g3, g4, fun _ => by rw [c6], fun cells t' f hc => ?_⟩⟩
              rw [c6] at hc ⊢
              obtain ⟨v0, es0, q1, q2, q3⟩ := c4.ev.rows id g1.1 w i.size ty' (A.splice es (off + n) news) (by rw [c5, List.getElem?_set_self g1.1])
              rw [hrow] at q1
              injection q1 with q1
              injection q1 with q1 _ _ _
              obtain ⟨_, q4⟩ := q3 q1.symm
              obtain ⟨cells', t2, f2, q5, q6⟩ := q4 cells t' f hc
              rw [hcur] at q5
              injection q5 with q5
              injection q5 with q5 _ _
              subst q5
              omega
          · rw [if_neg hroom] at h
            simp only [Option.some.injEq, Prod.mk.injEq] at h
            obtain ⟨rfl, rfl⟩ := h
            have hgd2 : ∀ e ∈ (es.drop off).take n, Good i.size e := fun e he => hgd e (List.mem_of_mem_drop (List.mem_of_mem_take he))
            have hg3 : ∀ e ∈ (es.drop off).take n ++ news, Good i.size e := fun e he => by
              rcases List.mem_append.1 he with h | h
              · exact hgd2 e h
              · exact hg e h
            have hnl2 : ((es.drop off).take n).length = n := by rw [List.length_take, List.length_drop]; omega
            have hfl2 : ((es.drop off).take n).flatMap AV.cells = ((es.flatMap AV.cells).drop (off * i.size)).take (n * i.size) := by
              rw [q8h hgd, q8k (fun x hx => hgd x (List.mem_of_mem_drop hx))]
            have hvo : Vs C false (((es.drop off).take n).flatMap AV.cells) ((us.drop (off * i.size)).take (n * i.size)) := by
              rw [hfl2]
              exact (hus.drop _).take _
            have hol : ((us.drop (off * i.size)).take (n * i.size)).length = n * i.size := by rw [hvo.length, q0d hgd2, hnl2]
            have hvn : Vs C false (((es.drop off).take n ++ news).flatMap AV.cells) ((us.drop (off * i.size)).take (n * i.size) ++ ws) := by
              rw [List.flatMap_append]
              exact hvo.append hv
            have hle : n * i.size ≤ c * i.size := Nat.mul_le_mul_right _ (by omega)
            have hadd : (off + c) * i.size = off * i.size + c * i.size := Nat.add_mul _ _ _
            have hoc : (off + n) * i.size = off * i.size + n * i.size := Nat.add_mul _ _ _
            have hle2 : (off + n) * i.size ≤ es.length * i.size := Nat.mul_le_mul_right _ (by omega)
            by_cases hin : n + news.length ≤ c
            · have h0 : 0 < c := by omega
              have ha := g5 h0
              subst ha
              have hadd2 : (n + news.length) * i.size = n * i.size + news.length * i.size := Nat.add_mul _ _ _
              have hle3 : (n + news.length) * i.size ≤ c * i.size := Nat.mul_le_mul_right _ hin
              have hrun := hs.room i hi (C.ρ id).1 ((C.ρ id).2 + off * i.size) n c hin (fun j hj => by
                simp only [World.cell?, hcur, Option.isSome_none, Bool.false_eq_true, if_false]
                rw [Array.getElem?_eq_getElem (by omega)]
                rfl) (fun j hj => by
                simp only [World.frozen?, hcur]
                have := nofr hfz ((C.ρ id).2 + off * i.size + n * i.size + j) (by omega)
                simp only [Bool.and_eq_false_iff, decide_eq_false_iff_not]
                rcases Nat.lt_or_ge ((C.ρ id).2 + off * i.size + n * i.size + j) fr.1 with h | h
                · exact .inl (by omega)
                · exact .inr (fun h2 => this ⟨h, h2⟩))
              obtain ⟨cur', k1, k2, k3⟩ := q2u (C.ρ id).1 ws ((C.ρ id).2 + off * i.size + n * i.size) C.w cur ty' fr hcur (by omega)
              obtain ⟨f1, f2, f3, f4⟩ := q2f (C.ρ id).1 ws ((C.ρ id).2 + off * i.size + n * i.size) C.w
              have key := qe4 hr hrow (w' := C.w.setCells (C.ρ id).1 ((C.ρ id).2 + off * i.size + n * i.size) ws) (ver' := w + 1) (base' := (C.ρ id).2 + off * i.size) (us' := (us.drop (off * i.size)).take (n * i.size) ++ ws)
                (es' := (es.drop off).take n ++ news) hcur ⟨f2, f3, f4⟩ f1 (fun i hi => q2g _ _ _ _ _ hi) k1 k2 hfz (by rw [Nat.add_mul_mod_self_right]; exact hr.al id w _ _ es hrow) (.inr (by omega)) hg3 hvn (fun j u hu => by
                  rw [k3]
                  rcases Nat.lt_or_ge j (n * i.size) with hj | hj
                  · rw [List.getElem?_append_left (by omega), List.getElem?_take, if_pos hj, List.getElem?_drop] at hu
                    rw [if_neg (by omega)]
                    have := hcell _ _ hu
                    rw [show (C.ρ id).2 + off * i.size + j = (C.ρ id).2 + (off * i.size + j) by omega]
                    exact this
                  · rw [List.getElem?_append_right (by omega), hol] at hu
                    have hlt := (List.getElem?_eq_some_iff.1 hu).1
                    rw [if_pos (by omega), show (C.ρ id).2 + off * i.size + j - ((C.ρ id).2 + off * i.size + n * i.size) = j - n * i.size by omega]
                    exact hu)
              refine ⟨_, _, hrun, ?_, key.1, key.2, rfl⟩
              refine .sl _ _ _ _ _ _ rfl ⟨by simpa using g1.1, fun v sz' ty2 es' hx => ?_⟩
              simp only [List.getElem?_set_self g1.1, Option.some.injEq, HObj.row.injEq] at hx
              obtain ⟨rfl, rfl, rfl, rfl⟩ := hx
              refine ⟨Nat.le_refl _, fun _ => ⟨_, c, rfl, Nat.le_refl _, hin, g4, fun _ => by simp, fun cells t' f hc => ?_⟩⟩
              simp only [if_true] at hc ⊢
              rw [k1] at hc
              injection hc with hc
              injection hc with hc _ _
              subst hc
              rw [k2, Nat.zero_add]
              omega
            · have hold : (Builtin.firstCells i.size n (.slice (some a) n c)).run E.P C.w.drew = .ok ((us.drop (off * i.size)).take (n * i.size)).toArray C.w.drew := by
                refine run_firstCells_some C.w.drew i.size n a n c _ hol (fun j u hu => ?_)
                have h0 : 0 < c := by
                  rcases Nat.eq_zero_or_pos c with h0 | h0
                  · have : n = 0 := by omega
                    subst this
                    simp at hu
                  · exact h0
                have ha := g5 h0
                subst ha
                rw [List.getElem?_take] at hu
                split at hu
                · rw [List.getElem?_drop] at hu
                  have := hcell _ _ hu
                  rw [Addr.add_lit]
                  show C.w.cell? _ = _
                  simp only [World.cell?, hcur, Option.isSome_none, Bool.false_eq_true, if_false]
                  rw [show (C.ρ id).2 + off * i.size + j = (C.ρ id).2 + (off * i.size + j) by omega]
                  exact this
                · simp at hu
              have hrun := hs.grow i zv hi hi3 (some a) n c _ hold (by omega) (by omega) (growslice_fits (by omega) hb)
              have key := row_move (E := E) (ver' := w + 1) (es' := (es.drop off).take n ++ news) (us := (us.drop (off * i.size)).take (n * i.size) ++ ws) (fr := (0, 0)) hr hrow (by omega)
                (w' := C.w.drew.alloc (.cells (((us.drop (off * i.size)).take (n * i.size) ++ ws).toArray ++ Builtin.zeroCells zv.cells (grownCap C.w (n + news.length) c ty' - (n + news.length))) ty')) ⟨rfl, rfl, rfl⟩ rfl hg3 (.inl rfl) hvn (fun j u hu => by
                  rw [Array.getElem?_append_left (by have := (List.getElem?_eq_some_iff.1 hu).1; simpa using this)]
                  simpa using hu)
              refine ⟨_, _, hrun, ?_, key.1, key.2, rfl⟩
              refine .sl _ _ _ _ _ _ rfl ⟨by simpa using g1.1, fun v sz' ty2 es' hx => ?_⟩
              simp only [List.getElem?_set_self g1.1, Option.some.injEq, HObj.row.injEq] at hx
              obtain ⟨rfl, rfl, rfl, rfl⟩ := hx
              have hge := grownCap_ge C.w (n + news.length) c ty'
              refine ⟨Nat.le_refl _, fun _ => ⟨⟨C.w.heap.size, 0, none⟩, grownCap C.w (n + news.length) c ty', rfl, Nat.le_refl _, hge, grownCap_le_maxLen C.w _ c ty' (by unfold maxLen; omega), fun _ => by simp, fun cells t' f hc => ?_⟩⟩
              simp only [if_true] at hc ⊢
              have hc' := (heap_alloc_new C.w.drew _).symm.trans hc
              injection hc' with hc'
              injection hc' with hc1 hc2 hc3
              subst hc1
              have hwl2 : ((us.drop (off * i.size)).take (n * i.size) ++ ws).length = (n + news.length) * i.size := by rw [List.length_append, hol, hwl, Nat.add_mul]
              simp only [Array.size_append, List.size_toArray, q1j, hzs, hwl2, Nat.zero_add, ← Nat.add_mul]
              exact Nat.mul_le_mul_right _ (by omega)
      · simp at h
    · simp at h
  · -- a literal
    rename_i z' es
    cases hs0 with
    | lit _ _ _ a us h1 h2 h3 h4 h5 =>
      split at h
      · simp only [Option.some.injEq, Prod.mk.injEq] at h
        obtain ⟨rfl, rfl⟩ := h
        cases hv
        exact ⟨_, C, hs.nothing i hi rfl rfl (some a) es.length es.length (Nat.le_refl _), .sh false z' es a es.length us h1 h2 h3 h4 (Nat.le_refl _) h5, hr, EvL.refl C, rfl⟩
      · rename_i hne
        split at h
        · rename_i hb
          obtain ⟨rfl, hb, hb0⟩ := hb
          simp only [Option.some.injEq, A.newRow, Prod.mk.injEq] at h
          obtain ⟨rfl, rfl⟩ := h
          have hlen : 0 < news.length := by
            cases news with
            | nil => exact absurd rfl hne
            | cons _ _ => simp
          have hnl : es.length + news.length ≤ 140737488355328 := Nat.le_trans (Nat.le_mul_of_pos_right _ hb0) hb
          have hgd : ∀ e ∈ es, Good i.size e := h2
          have hul : us.length = es.length * i.size := h1.length.trans (q0d hgd)
          have hold : (Builtin.firstCells i.size es.length (.slice (some a) es.length es.length)).run E.P C.w.drew = .ok us.toArray C.w.drew := run_firstCells_some C.w.drew i.size es.length a es.length es.length us hul (fun j u hu => by
            have := h3 j u hu
            exact this)
          have hrun := hs.grow i zv hi hi3 (some a) es.length es.length us hold (by omega) (by omega) (growslice_fits (by omega) hb)
          have hg3 : ∀ e ∈ es ++ news, Good i.size e := fun e he => by
            rcases List.mem_append.1 he with h | h
            · exact hgd e h
            · exact hg e h
          have hvn : Vs C false ((es ++ news).flatMap AV.cells) (us ++ ws) := by
            rw [List.flatMap_append]
            exact h1.weaken.append hv
          have key := q4e (E := E) (ver := 0) (sz := i.size) (ty := e) (es := es ++ news) (us := us ++ ws) (fr := (0, 0)) (w' := C.w.drew.alloc (.cells ((us ++ ws).toArray ++ Builtin.zeroCells zv.cells (grownCap C.w (es.length + news.length) es.length e - (es.length + news.length))) e)) hr ⟨rfl, rfl, rfl⟩ rfl hpos hg3 (.inl rfl) hvn (fun j u hu => by
            rw [Array.getElem?_append_left (by have := (List.getElem?_eq_some_iff.1 hu).1; simpa using this)]
            simpa using hu)
          refine ⟨_, _, hrun, ?_, key.1, key.2, rfl⟩
          rw [← List.length_append]
          refine .sl _ _ _ _ _ _ rfl ⟨by simp [Ctx.grow], fun v sz' ty' es' hx => ?_⟩
          simp [Ctx.grow] at hx
          obtain ⟨rfl, rfl, rfl, rfl⟩ := hx
          have hge := grownCap_ge C.w (es.length + news.length) es.length e
          rw [← List.length_append] at hge
          refine ⟨Nat.le_refl _, fun _ => ⟨⟨C.w.heap.size, 0, none⟩, grownCap C.w (es ++ news).length es.length e, rfl, Nat.le_refl _, hge, grownCap_le_maxLen C.w _ es.length e (by unfold maxLen; rw [List.length_append]; omega), fun _ => by simp [Ctx.grow], fun cells t' fr hc => ?_⟩⟩
          rw [q1h] at hc ⊢
          have hc' := (heap_alloc_new C.w.drew _).symm.trans hc
          injection hc' with hc'
          injection hc' with hc1 hc2 hc3
          subst hc1
          have hwl : ws.length = news.length * i.size := hs.len _ hi
          have hwl2 : (us ++ ws).length = (es ++ news).length * i.size := by rw [List.length_append, List.length_append, hul, hwl, Nat.add_mul]
          simp only [Array.size_append, List.size_toArray, q1j, hzs, hwl2, Nat.zero_add, ← Nat.add_mul]
          exact Nat.mul_le_mul_right _ (by omega)
        · simp at h
  · simp at h
theorem q6w {z : AV} {zc : Array Value} {sz : Nat} (hv : Vs C p z.cells zc.toList) (hl : zc.size = sz) (hpos : 0 < sz) : ∀ n, Vs C p ((List.replicate n z).flatMap AV.cells) ((List.range (n * sz)).map fun j => zc[j % sz]!)
  | 0 => by simp; exact .nil _
  | n + 1 => by
    have h1 : List.replicate (n + 1) z = List.replicate n z ++ [z] := by rw [← List.replicate_append_replicate (n := n) (m := 1)]; rfl
    rw [h1, List.flatMap_append, Nat.succ_mul, List.range_add, List.map_append]
    refine (q6w hv hl hpos n).append ?_
    simp only [List.flatMap_cons, List.flatMap_nil, List.append_nil, List.map_map]
    have h2 : (List.range sz).map ((fun j => zc[j % sz]!) ∘ fun x => n * sz + x) = zc.toList := by
      apply List.ext_getElem?
      intro j
      rw [List.getElem?_map]
      by_cases hj : j < sz
      · rw [List.getElem?_range hj]
        simp only [Option.map_some, Function.comp]
        have : (n * sz + j) % sz = j := by rw [Nat.mul_comm, Nat.mul_add_mod, Nat.mod_eq_of_lt hj]
        rw [this]
        simp [hl, hj]
      · rw [List.getElem?_eq_none (by simp; omega), List.getElem?_eq_none (by simp; omega)]
        rfl
    rw [h2]
    exact hv
theorem qdu (hr : HR E C) {t e : TypeId} {sz by_ : Nat} {z l c v : AV} {u1 u2 : Value} {H' : Heap} (ht : E.P.underlying t = some (.slice e)) (hsz : E.size e = some sz) (hby : E.bytes e = some by_) (hzv : E.zero e = some z) (hzl : z.cells.length = sz) (hpos : 0 < sz)
    (h : A.makeSlice sz by_ e z l c C.H = some (v, H')) (hx : V C p l u1) (hy : V C q c u2) :
    ∃ u C', (Instr.makeSlice t u1 u2).run E.P C.w = .ok u C'.w ∧ V C' false v u ∧ HR E C' ∧ EvL C C' ∧ C'.H = H' := by
  obtain ⟨i, zv, hi, hi1, hi2, hi3, hi4⟩ := qf8 hsz hby hzv
  have hzd : z.isDef = true := q1u hi4
  have hzc := (q25 (C := C) hi4).cells hzd
  have hzs : zv.cells.size = sz := by rw [← Array.length_toList, hzc.1.length, hzl]
  subst hi1
  subst hi2
  unfold A.makeSlice at h
  split at h
  · rename_i l c
    have e1 := hx.int_inv
    have e2 := hy.int_inv
    subst e1 e2
    split at h
    · rename_i hc
      obtain ⟨h0, hlc, hb, hb0⟩ := hc
      simp only [Option.some.injEq, Prod.mk.injEq] at h
      obtain ⟨rfl, rfl⟩ := h
      have hcb : c ≤ 281474976710656 := by
        have : c ≤ (i.bytes : Int) * c := by
          have h1 : (1 : Int) * c ≤ (i.bytes : Int) * c := Int.mul_le_mul_of_nonneg_right (by omega) (by omega)
          omega
        omega
      have hrun := run_make (P := E.P) C.w t e i zv ht hi hi3 .i64 .i64 l c h0 hlc hb (by omega)
      have hv : Vs C false ((List.replicate c.toNat z).flatMap AV.cells) (madeCells zv.cells (c.toNat * i.size)).toList := by
        have := q6w hzc.1 hzs hpos c.toNat
        have e : (madeCells zv.cells (c.toNat * i.size)).toList = (List.range (c.toNat * i.size)).map fun j => zv.cells[j % i.size]! := by
          unfold madeCells
          rw [hzs, Array.toList_map, Array.toList_range]
        rw [e]
        exact this.weakenB
      have key := q4e (E := E) (ver := 0) (sz := i.size) (ty := e) (es := List.replicate c.toNat z) (fr := (0, 0)) (w' := C.w.alloc (.cells (madeCells zv.cells (c.toNat * i.size)) e)) hr ⟨rfl, rfl, rfl⟩ rfl hpos (fun x hx => by
        have := List.eq_of_mem_replicate hx
        subst this
        exact ⟨hzl, hzc.2⟩) (.inl rfl) hv (fun j u hu => by simpa using hu)
      refine ⟨_, _, hrun, ?_, key.1, key.2, rfl⟩
      refine .sl _ _ _ _ _ _ rfl ⟨by simp [Ctx.grow], fun v sz' ty' es' hx => ?_⟩
      simp [Ctx.grow] at hx
      obtain ⟨rfl, rfl, rfl, rfl⟩ := hx
      refine ⟨Nat.le_refl _, fun _ => ⟨⟨C.w.heap.size, 0, none⟩, c.toNat, rfl, by omega, Nat.le_refl _, by unfold maxLen; omega, fun _ => by simp [Ctx.grow], fun cells t' fr hc => ?_⟩⟩
      rw [q1h] at hc ⊢
      have hc' := (heap_alloc_new C.w _).symm.trans hc
      injection hc' with hc'
      injection hc' with hc1 hc2 hc3
      subst hc1
      simp only [size_madeCells, Nat.zero_add, Nat.le_refl]
    · simp at h
  · simp at h
theorem clear_ok (hr : HR E C) {t e ty : TypeId} {sz : Nat} {z d v : AV} {u0 : Value} {H' : Heap} (ht : E.P.underlying t = some (.slice e)) (hsz : E.size e = some sz) (hzv : E.zero e = some z) (hzl : z.cells.length = sz)
    (h : A.clear sz z d C.H = some (v, H')) (hx : V C p d u0) :
    ∃ u C', (Builtin.clear_ #[t] ty #[u0]).run E.P C.w = .ok u C'.w ∧ V C' false v u ∧ HR E C' ∧ EvL C C' ∧ C'.H = H' := by
  have hdone : ∀ {b : Option Addr} {n c : Nat}, (b = none ∨ n = 0) → (Builtin.clear_ #[t] ty #[.slice b n c]).run E.P C.w = .ok (.tuple #[]) C.w := by
    intro b n c hb
    rcases hb with rfl | rfl
    · simp [Builtin.clear_, run_underlying ht]
    · cases b <;> simp [Builtin.clear_, run_underlying ht]
  unfold A.clear at h
  split at h
  · cases hx
    simp only [Option.some.injEq, Prod.mk.injEq] at h
    obtain ⟨rfl, rfl⟩ := h
    exact ⟨_, C, hdone (.inl rfl), .tup _ _ _ (.nil _), hr, EvL.refl C, rfl⟩
  · cases hx
    simp only [Option.some.injEq, Prod.mk.injEq] at h
    obtain ⟨rfl, rfl⟩ := h
    exact ⟨_, C, hdone (.inr rfl), .tup _ _ _ (.nil _), hr, EvL.refl C, rfl⟩
  · rename_i id ver off n cap
    cases hx with
    | sl _ _ _ _ _ _ g0 g1 =>
      split at h
      · rename_i hn
        subst hn
        cases ha : A.alive C.H id ver
        · rw [ha] at h; simp at h
        · rw [ha] at h
          simp only [cond_true, Option.some.injEq, Prod.mk.injEq] at h
          obtain ⟨rfl, rfl⟩ := h
          obtain ⟨z', ty', es, hrow⟩ := q1y ha
          obtain ⟨a, c, hu, _⟩ := (g1.2 ver z' ty' es hrow).2 rfl
          subst hu
          exact ⟨_, C, hdone (.inr rfl), .tup _ _ _ (.nil _), hr, EvL.refl C, rfl⟩
      · rename_i hn
        split at h
        · rename_i w z' ty' es hrow
          split at h
          · rename_i hc
            obtain ⟨rfl, rfl, hle⟩ := hc
            simp only [Option.some.injEq, Prod.mk.injEq] at h
            obtain ⟨rfl, rfl⟩ := h
            obtain ⟨hz, hgd, hk, cur, fr, us, hcur, hfz, hus, hcell⟩ := hr.row id w z' ty' es hrow
            obtain ⟨a, c, hu, g2, g3, g4, g5, g6⟩ := (g1.2 w z' ty' es hrow).2 rfl
            subst hu
            have ha := g5 (by omega)
            subst ha
            have g6' := g6 cur ty' fr hcur
            unfold Env.size at hsz
            unfold Env.zero at hzv
            cases hi : E.P.info? e with
            | none => rw [hi] at hsz; simp at hsz
            | some i =>
              rw [hi] at hsz hzv
              simp only [Option.map_some, Option.some.injEq] at hsz
              simp only [Option.bind_some, Option.bind_eq_some_iff] at hzv
              obtain ⟨zv, h1, h2⟩ := hzv
              have hzd : z.isDef = true := q1u h2
              have hzc := (q25 (C := C) h2).cells hzd
              have hzs : zv.cells.size = z' := by rw [← Array.length_toList, hzc.1.length, hzl]
              have hgr : ∀ x ∈ List.replicate n z, Good z' x := fun x hx => by
                have := List.eq_of_mem_replicate hx
                subst this
                exact ⟨hzl, hzc.2⟩
              have hv := (q6w hzc.1 hzs hz n).weakenB
              have hfl : (es.flatMap AV.cells).length = es.length * z' := q0d hgd
              have hadd : (off + c) * z' = off * z' + c * z' := Nat.add_mul _ _ _
              have hadd2 : (off + n) * z' = off * z' + n * z' := Nat.add_mul _ _ _
              have hl2 : (off + n) * z' ≤ es.length * z' := Nat.mul_le_mul_right _ hle
              have hl3 : n * z' ≤ c * z' := Nat.mul_le_mul_right _ (by omega)
              obtain ⟨C', c1, c2, c3, c4, c5, c6⟩ := q73 (ver' := w) (es' := A.splice es off (List.replicate n z)) (s := off * z') (ws := (List.range (n * z')).map fun j => zv.cells[j % z']!) (vs := (List.replicate n z).flatMap AV.cells) hr hrow (q8j hgd hgr _) (q3n hgd hgr) hv (by omega) (fun cells t' f hc => by
                rw [hcur] at hc
                injection hc with hc
                injection hc with hc _ _
                subst hc
                simp
                omega) (fun v hv => by
                  obtain ⟨e, he, hve⟩ := List.mem_flatMap.1 hv
                  exact (hgr e he).2 v hve) (Nat.le_refl _)
              refine ⟨.tuple #[], C', ?_, .tup _ _ _ (.nil _), c3, c4, c5⟩
              have hzz : (Builtin.zeroCells zv.cells n).toList = (List.range (n * z')).map fun j => zv.cells[j % z']! := by
                unfold Builtin.zeroCells
                rw [hzs, Array.toList_map, Array.toList_range]
              rw [← hzz] at c1
              cases n with
              | zero => exact absurd rfl hn
              | succ n =>
                simp [Builtin.clear_, run_underlying ht, zeroValue, typeInfo, hi, h1, c1]
          · simp at h
        · simp at h
  · simp at h
end
end Go.Den

/- DEN, part J: addresses, indexes, cuts, structs, lengths, as the machine does them. -/
namespace Go.Den
open Go.RowKit
section
variable {E : Env} {C : Ctx} {p q : Bool}
theorem qa7 {H : Heap} {id ver sz : Nat} (h : A.aliveZ H id ver sz = true) : ∃ ty es, H[id]? = some (.row ver sz ty es) := by
  unfold A.aliveZ at h
  split at h
  · rename_i v z ty es hr
    simp only [Bool.and_eq_true, beq_iff_eq] at h
    obtain ⟨rfl, rfl⟩ := h
    exact ⟨ty, es, hr⟩
  · simp at h
theorem q8z {id ver i off : Nat} {u : Value} (h : V C p (.ptr id ver i off) u) (ha : A.alive C.H id ver = true) : ∃ sz ty es, C.H[id]? = some (.row ver sz ty es) ∧ u = .pointer (some ⟨(C.ρ id).1, (C.ρ id).2 + (i * sz + off), none⟩) ∧ PtrOk C id ver i off u := by
  obtain ⟨sz, ty, es, hr⟩ := q1y ha
  cases h with
  | ptr _ _ _ _ _ h0 h1 => exact ⟨sz, ty, es, hr, (h1.2 ver sz ty es hr).2 rfl, h1⟩
theorem q46 {s i fo : Nat} (h : E.fieldOff s i = some fo) (a : Addr) (w : World) : (Instr.fieldAt s (.pointer (some a)) i).run E.P w = .ok (.pointer (some (a.add fo))) w := by
  unfold Env.fieldOff Env.fieldOf at h
  split at h
  · rename_i f hf
    split at h
    · rename_i k hk
      simp only [Option.some.injEq] at h
      subst h
      split at hf
      · rename_i fs hd
        have hs := q13 (w := w) hk
        simp only [Instr.fieldAt, Sem.run_bind, run_underlying hd, Result.andThen_ok, hf, Instr.sureAddr, Sem.run_pure, fieldPlace, hs, Nat.add_one_ne_zero, if_false]
      · simp at hf
    · simp at h
  · simp at h
theorem fa_ok {s i fo : Nat} {x v : AV} {u0 : Value} (hf : E.fieldOff s i = some fo) (h : A.fa fo x C.H = some v) (hx : V C p x u0) : ∃ u, (Instr.fieldAt s u0 i).run E.P C.w = .ok u C.w ∧ V C false v u := by
  unfold A.fa at h
  split at h
  · rename_i cs
    simp only [Option.some.injEq] at h
    subst h
    cases hx with
    | rop _ _ a us h0 h1 h2 h3 h4 =>
      have hab : (a.add fo).block = a.block := by unfold Addr.add; split <;> rfl
      refine ⟨_, q46 hf a C.w, .rop _ _ _ _ (fun c hc => h0 c (List.mem_of_mem_drop hc)) (h1.drop fo) (fun j u hu => ?_) (by rw [hab]; exact h3) (by rw [hab]; exact h4)⟩
      rw [List.getElem?_drop] at hu
      rw [q6l]
      exact h2 _ _ hu
  · rename_i id ver i' o
    cases ha : A.alive C.H id ver
    · rw [ha] at h; simp at h
    · rw [ha] at h
      simp only [cond_true, Option.some.injEq] at h
      subst h
      obtain ⟨sz, ty, es, hr, rfl, h1⟩ := q8z hx ha
      refine ⟨_, q46 hf _ C.w, .ptr _ _ _ _ _ rfl ⟨h1.1, fun v sz' ty' es' hr' => ?_⟩⟩
      obtain ⟨g1, g2⟩ := h1.2 v sz' ty' es' hr'
      refine ⟨g1, fun e => ?_⟩
      have := g2 e
      injection this with this
      injection this with this
      rw [this, Addr.add_lit]
      congr 2
      simp only [Addr.mk.injEq, true_and, and_true]
      omega
  · simp at h
theorem add_ok {x v : AV} {n : Nat} {u0 : Value} (h : A.fa n x C.H = some v) (hx : V C p x u0) : ∃ a, u0 = .pointer (some a) ∧ V C false v (.pointer (some (a.add n))) := by
  unfold A.fa at h
  split at h
  · rename_i cs
    simp only [Option.some.injEq] at h
    subst h
    cases hx with
    | rop _ _ a us h0 h1 h2 h3 h4 =>
      have hab : (a.add n).block = a.block := by unfold Addr.add; split <;> rfl
      refine ⟨a, rfl, .rop _ _ _ _ (fun c hc => h0 c (List.mem_of_mem_drop hc)) (h1.drop n) (fun j u hu => ?_) (by rw [hab]; exact h3) (by rw [hab]; exact h4)⟩
      rw [List.getElem?_drop] at hu
      rw [q6l]
      exact h2 _ _ hu
  · rename_i id ver i' o
    cases ha : A.alive C.H id ver
    · rw [ha] at h; simp at h
    · rw [ha] at h
      simp only [cond_true, Option.some.injEq] at h
      subst h
      obtain ⟨sz, ty, es, hr, rfl, h1⟩ := q8z hx ha
      refine ⟨_, rfl, .ptr _ _ _ _ _ rfl ⟨h1.1, fun v sz' ty' es' hr' => ?_⟩⟩
      obtain ⟨g1, g2⟩ := h1.2 v sz' ty' es' hr'
      refine ⟨g1, fun e => ?_⟩
      have := g2 e
      injection this with this
      injection this with this
      rw [this, Addr.add_lit]
      congr 2
      simp only [Addr.mk.injEq, true_and, and_true]
      omega
  · simp at h
theorem qfe {x v : AV} {u0 : Value} {P : Program} (h : A.nilCheck x C.H = some v) (hx : V C p x u0) : V C false v u0 ∧ (∀ o : Oper, ∀ a : Act, ∀ y, o.op = .nilCheck y → a.eval y = u0 → (execOp a.eval o).run P C.w = .ok (.value u0) C.w) := by
  unfold A.nilCheck at h
  split at h
  · simp only [Option.some.injEq] at h
    subst h
    cases hx with
    | rop _ _ a us h0 h1 h2 h3 h4 =>
      refine ⟨.rop _ _ _ _ h0 h1 h2 h3 h4, fun o act y ho he => ?_⟩
      unfold execOp
      simp only [ho, he]
      rfl
  · rename_i id ver i o
    cases ha : A.alive C.H id ver
    · rw [ha] at h; simp at h
    · rw [ha] at h
      simp only [cond_true, Option.some.injEq] at h
      subst h
      have hx' := hx.weakenB
      obtain ⟨sz, ty, es, hr, rfl, h1⟩ := q8z hx ha
      refine ⟨hx', fun o act y ho he => ?_⟩
      unfold execOp
      simp only [ho, he]
      rfl
  · simp only [Option.some.injEq] at h
    subst h
    cases hx with
    | fn _ f a b as bs h1 h2 =>
      refine ⟨.fn _ _ _ _ _ _ h1.weakenB h2.weakenB, fun o act y ho he => ?_⟩
      unfold execOp
      simp only [ho, he]
      rfl
  · simp at h
theorem idx_ok {t e : TypeId} {sz : Nat} {s i v : AV} {u1 u2 : Value} (ht : E.P.underlying t = some (.slice e)) (hsz : E.size e = some sz) (h : A.idx sz s i C.H = some v) (hx : V C p s u1) (hy : V C q i u2) :
    ∃ u, (Instr.indexAt t u1 u2).run E.P C.w = .ok u C.w ∧ V C false v u := by
  have hrun : ∀ (a : Addr) (n c : Nat) (k : IntKind) (i : Int), 0 ≤ i → i < n → (Instr.indexAt t (.slice (some a) n c) (.int k i)).run E.P C.w = .ok (.pointer (some (a.add (i.toNat * sz)))) C.w := by
    intro a n c k i h0 h1
    simp only [Instr.indexAt, Sem.run_bind, asIntOf, Sem.run_pure, Result.andThen_ok, run_underlying ht, q13 hsz]
    rw [if_pos ⟨h0, h1⟩]
    simp only [Sem.run_bind, q13 hsz, Result.andThen_ok, Sem.run_pure]
  unfold A.idx at h
  split at h
  · rename_i z es k i
    split at h
    · rename_i hc
      obtain ⟨h0, h1, rfl⟩ := hc
      rw [Option.map_eq_some_iff] at h
      obtain ⟨e', he, rfl⟩ := h
      have e2 := hy.int_inv
      subst e2
      cases hx with
      | sh _ _ _ a c us g1 g2 g3 g4 g5 g6 =>
        have hge : Good z e' := g2 e' (List.mem_of_getElem? he)
        have hne : es ≠ [] := by rintro rfl; simp at he
        have hab : (a.add (i.toNat * z)).block = a.block := by unfold Addr.add; split <;> rfl
        refine ⟨_, hrun a _ _ k i h0 (by omega), .rop _ _ _ _ hge.2 (qaf g2 he g1) (fun j u hu => ?_) (by rw [hab]; exact (g4 hne).1) (by rw [hab]; exact (g4 hne).2)⟩
        rw [List.getElem?_take] at hu
        split at hu
        · rw [List.getElem?_drop] at hu
          rw [q6l]
          exact g3 _ _ hu
        · simp at hu
    · simp at h
  · rename_i id ver off n cap k i
    split at h
    · rename_i hc
      obtain ⟨h0, h1, ha⟩ := hc
      simp only [Option.some.injEq] at h
      subst h
      obtain ⟨ty, es, hr⟩ := qa7 ha
      have e2 := hy.int_inv
      subst e2
      cases hx with
      | sl _ _ _ _ _ _ g0 g1 =>
        obtain ⟨a, c, rfl, g2, g3, g4, g5, g6⟩ := (g1.2 ver sz ty es hr).2 rfl
        have hab := g5 (by omega)
        subst hab
        refine ⟨_, hrun _ _ _ k i h0 (by omega), .ptr _ _ _ _ _ rfl ⟨g1.1, fun v sz' ty' es' hr' => ?_⟩⟩
        rw [hr] at hr'
        injection hr' with hr'
        injection hr' with e1 e2 e3 e4
        subst e1 e2 e3 e4
        refine ⟨Nat.le_refl _, fun _ => ?_⟩
        rw [Addr.add_lit]
        congr 2
        simp only [Addr.mk.injEq, true_and, and_true]
        rw [Nat.add_mul]
        omega
    · simp at h
  · simp at h
theorem qdk {t e : TypeId} {sz n : Nat} {x i v : AV} {u1 u2 : Value} (ht : E.P.underlying t = some (.array n e)) (hsz : E.size e = some sz) (h : A.idxArr sz n x i C.H = some v) (hx : V C p x u1) (hy : V C q i u2) :
    ∃ u, (Instr.indexAt t u1 u2).run E.P C.w = .ok u C.w ∧ V C false v u := by
  unfold A.idxArr at h
  split at h
  · rename_i k i
    split at h
    · rename_i hc
      have e2 := hy.int_inv
      subst e2
      obtain ⟨a, rfl, hv⟩ := add_ok h hx
      refine ⟨_, ?_, hv⟩
      simp only [Instr.indexAt, Sem.run_bind, asIntOf, Sem.run_pure, Result.andThen_ok, run_underlying ht, q13 hsz, Instr.sureAddr]
      rw [if_pos hc]
      simp only [Sem.run_bind, q13 hsz, Result.andThen_ok, Sem.run_pure]
    · simp at h
  · simp at h
theorem idxArr_lp {t e : TypeId} {sz n : Nat} {k : IntKind} {j : Int} (ht : E.P.underlying t = some (.array n e)) (hsz : E.size e = some sz) (h0 : 0 ≤ j ∧ j < n) (a : Addr) (w : World) :
    (Instr.indexAt t (.pointer (some a)) (.int k j)).run E.P w = .ok (.pointer (some (a.add (j.toNat * sz)))) w := by
  simp only [Instr.indexAt, Sem.run_bind, asIntOf, Sem.run_pure, Result.andThen_ok, run_underlying ht, q13 hsz, Instr.sureAddr]
  rw [if_pos h0]
  simp only [Sem.run_bind, q13 hsz, Result.andThen_ok, Sem.run_pure]
theorem part_ok {t : TypeId} {ag : Bool} {sz off : Nat} {cs : List AV} {us : Array Value} {v : AV} (hag : E.isAgg t = some ag) (hsz : E.size t = some sz) (h : A.ofList ag sz cs off = some v) (hv : Vs C p cs us.toList) (h1 : ∀ c ∈ cs, c.one = true) (w : World) :
    ∃ u, (part t us off).run E.P w = .ok u w ∧ V C p v u := by
  unfold A.ofList at h
  cases ag
  · simp only [cond_false] at h
    obtain ⟨u, g1, g2⟩ := hv.get h
    refine ⟨u, ?_, g2⟩
    have g1' : us[off]? = some u := by simpa using g1
    simp only [part, Sem.run_bind, q5p hag rfl, Result.andThen_ok, Bool.false_eq_true, if_false, g1', Sem.run_pure]
  · simp only [cond_true] at h
    split at h
    · rename_i hl
      simp only [Option.some.injEq] at h
      subst h
      refine ⟨.agg (us.extract off (off + sz)), ?_, .agg _ _ _ (fun c hc => h1 c (List.mem_of_mem_drop (List.mem_of_mem_take hc))) ?_⟩
      · simp only [part, Sem.run_bind, q5p hag rfl, Result.andThen_ok, if_true, q13 hsz, Sem.run_pure]
      · have : (us.extract off (off + sz)).toList = (us.toList.drop off).take sz := by
          rw [Array.toList_extract, List.extract_eq_take_drop]
          congr 1
          omega
        rw [this]
        exact (hv.drop off).take sz
    · simp at h
theorem qcu {cs : List AV} {u : Value} (h : V C p (.agg cs) u) : ∃ us : Array Value, u = .agg us ∧ Vs C p cs us.toList ∧ ∀ c ∈ cs, c.one = true := by
  cases h with | agg _ _ us h0 h => exact ⟨us, rfl, h, h0⟩
theorem field_ok {t : TypeId} {i : Nat} {f : Field} {ag : Bool} {sz : Nat} {x v : AV} {u0 : Value} (hf : E.fieldOf t i = some f) (hag : E.isAgg f.type = some ag) (hsz : E.size f.type = some sz) (h : A.field ag sz f.offset x = some v) (hx : V C p x u0) :
    ∃ u, (Instr.field t u0 i).run E.P C.w = .ok u C.w ∧ V C p v u := by
  unfold A.field at h
  split at h
  · rename_i cs
    obtain ⟨us, rfl, h1, h2⟩ := qcu hx
    obtain ⟨u, g1, g2⟩ := part_ok hag hsz h h1 h2 C.w
    refine ⟨u, ?_, g2⟩
    unfold Env.fieldOf at hf
    split at hf
    · rename_i fs hd
      simp only [Instr.field, Sem.run_bind, run_underlying hd, Result.andThen_ok, hf, asAgg, Sem.run_pure, g1]
    · simp at hf
  · simp at h
theorem qf6 {t e : TypeId} {ag : Bool} {sz n : Nat} {x i v : AV} {u1 u2 : Value} (ht : E.P.underlying t = some (.array n e)) (hag : E.isAgg e = some ag) (hsz : E.size e = some sz) (h : A.indexArr ag sz n x i = some v) (hx : V C p x u1) (hy : V C q i u2) :
    ∃ u, (Instr.index t u1 u2).run E.P C.w = .ok u C.w ∧ V C p v u := by
  unfold A.indexArr at h
  split at h
  · rename_i cs k i
    split at h
    · rename_i hc
      have e2 := hy.int_inv
      subst e2
      obtain ⟨us, rfl, h1, h2⟩ := qcu hx
      obtain ⟨u, g1, g2⟩ := part_ok hag hsz h h1 h2 C.w
      refine ⟨u, ?_, g2⟩
      simp only [Instr.index, Sem.run_bind, asIntOf, Sem.run_pure, Result.andThen_ok, run_underlying ht]
      rw [if_pos hc]
      simp only [Sem.run_bind, q13 hsz, Result.andThen_ok, g1]
    · simp at h
  · simp at h
theorem index_ok {t : TypeId} {s i v : AV} {u1 u2 : Value} (ht : E.P.underlying t = some .string) (h : A.index s i = some v) (hx : V C p s u1) (hy : V C q i u2) :
    ∃ u, (Instr.index t u1 u2).run E.P C.w = .ok u C.w ∧ V C true v u := by
  unfold A.index at h
  split at h
  · rename_i l k i
    split at h
    · rename_i h0
      rw [Option.map_eq_some_iff] at h
      obtain ⟨b, hb, rfl⟩ := h
      have e2 := hy.int_inv
      subst e2
      obtain ⟨s, rfl, rfl⟩ := hx.str_inv
      refine ⟨.int .u8 b.toNat, ?_, .int _ _ _⟩
      have hb' : s[i.toNat]? = some b := by
        have h1 : s.data[i.toNat]? = some b := by simpa using hb
        obtain ⟨hlt, he⟩ := Array.getElem?_eq_some_iff.1 h1
        rw [getElem?_pos s i.toNat hlt]
        exact congrArg some he
      simp only [Instr.index, Sem.run_bind, asIntOf, Sem.run_pure, Result.andThen_ok, run_underlying ht, if_pos h0, hb']
    · simp at h
  · simp at h
theorem len_ok {t ty e : TypeId} {x v : AV} {u0 : Value} (ht : E.P.underlying t = some (.slice e)) (h : A.len x C.H = some v) (hx : V C p x u0) : ∃ u, (Builtin.len_ #[t] ty #[u0]).run E.P C.w = .ok u C.w ∧ V C true v u := by
  have hrun : ∀ (b : Option Addr) (n c : Nat), (Builtin.len_ #[t] ty #[.slice b n c]).run E.P C.w = .ok (.int .i64 n) C.w := fun b n c => by
    simp [Builtin.len_, run_underlying ht, goInt]
  unfold A.len at h
  split at h
  · cases hx
    simp only [Option.some.injEq] at h
    subst h
    exact ⟨_, hrun none 0 0, .int _ _ _⟩
  · cases hx
    simp only [Option.some.injEq] at h
    subst h
    exact ⟨_, hrun _ _ _, .int _ _ _⟩
  · rename_i id ver off n cap
    cases ha : A.alive C.H id ver
    · rw [ha] at h; simp at h
    · rw [ha] at h
      simp only [cond_true, Option.some.injEq] at h
      subst h
      obtain ⟨sz, ty', es, hr⟩ := q1y ha
      cases hx with
      | sl _ _ _ _ _ _ g0 g1 =>
        obtain ⟨a, c, rfl, _⟩ := (g1.2 ver sz ty' es hr).2 rfl
        exact ⟨_, hrun _ _ _, .int _ _ _⟩
  · simp at h
theorem lenStr_ok {t ty : TypeId} {x v : AV} {u0 : Value} (ht : E.P.underlying t = some .string) (h : A.lenStr x = some v) (hx : V C p x u0) : ∃ u, (Builtin.len_ #[t] ty #[u0]).run E.P C.w = .ok u C.w ∧ V C true v u := by
  unfold A.lenStr at h
  split at h
  · obtain ⟨s, rfl, rfl⟩ := hx.str_inv
    simp only [Option.some.injEq] at h
    subst h
    refine ⟨.int .i64 s.size, by simp [Builtin.len_, run_underlying ht, goInt], ?_⟩
    have : s.data.toList.length = s.size := by rw [Array.length_toList]; rfl
    rw [this]
    exact .int _ _ _
  · simp at h
end
end Go.Den

/- DEN, part K: cuts of texts and slices, structs and slices out of parts, as the machine does them. -/
namespace Go.Den
open Go.RowKit
section
variable {E : Env} {C : Ctx} {p q : Bool}
def OptV (C : Ctx) : Option AV → Option Value → Prop
  | none, none => True
  | some v, some u => V C false v u
  | _, _ => False
theorem q8w {lam : Nat → Nat} {st : St} {a : Act} (hr : HR E C) (hf : FrameR C lam st a) {x : Option Operand} {l : List AV} (h : evals E st x.toList = some l) : OptV C l.head? (x.map a.eval) ∧ (l = [] ↔ x = none) := by
  have := q5m hr hf h
  cases x with
  | none => cases this; exact ⟨trivial, by simp⟩
  | some x => cases this with | cons _ v u vs us h1 h2 => cases h2; exact ⟨h1, by simp⟩
theorem q4l {v : AV} {u : Value} {d a : Nat} (h : A.bound (some v) d = some a) (hv : V C p v u) : ∃ k i, u = .int k i ∧ 0 ≤ i ∧ a = i.toNat := by
  unfold A.bound at h
  split at h
  · rename_i e; cases e
  · rename_i k i e
    injection e with e
    subst e
    split at h
    · simp only [Option.some.injEq] at h
      exact ⟨_, _, hv.int_inv, by assumption, h.symm⟩
    · simp at h
  · simp at h
theorem q2h {P : Program} {w : World} {k : IntKind} {i : Int} {y : Nat} {code : BoundsCode} (h0 : 0 ≤ i) (h1 : i.toNat ≤ y) : (Instr.sliceBound (.int k i) y code).run P w = .ok i.toNat w := by
  have h2 : 0 ≤ i ∧ i ≤ y := ⟨h0, by omega⟩
  simp only [Instr.sliceBound, Sem.run_bind, asIntOf, Sem.run_pure, Result.andThen_ok]
  rw [if_pos h2]
  rfl
theorem q2v {P : Program} {w : World} {isSl : Bool} {len cap ccap a b c : Nat} {lo hi mx : Option AV} {ulo uhi umx : Option Value} (hlo : OptV C lo ulo) (hhi : OptV C hi uhi) (hmx : OptV C mx umx)
    (ha : A.bound lo 0 = some a) (hb : A.bound hi len = some b) (hc : A.bound mx cap = some c) (hmh : mx = none ∨ hi ≠ none) (hab : a ≤ b) (hbc : b ≤ c) (hcc : c ≤ cap) (hcap : cap ≤ ccap) :
    (Instr.sliceBounds isSl len ccap ulo uhi umx).run P w = .ok (a, b, if umx = none then ccap else c) w := by
  have hl : (ulo = none ∧ a = 0) ∨ ∃ k i, ulo = some (.int k i) ∧ 0 ≤ i ∧ a = i.toNat := by
    cases lo with
    | none =>
      cases ulo with
      | none => simp [A.bound] at ha; exact .inl ⟨rfl, ha.symm⟩
      | some _ => exact hlo.elim
    | some v =>
      cases ulo with
      | none => exact hlo.elim
      | some u =>
        obtain ⟨k, i, rfl, h0, rfl⟩ := q4l ha hlo
        exact .inr ⟨k, i, rfl, h0, rfl⟩
  clear ha hlo
  have hlow : ∀ code, a ≤ b → ((ulo = none ∧ a = 0) ∨ ∃ k i, ulo = some (.int k i) ∧ 0 ≤ i ∧ a = i.toNat ∧ (Instr.sliceBound (.int k i) b code).run P w = .ok i.toNat w) := fun code hab => by
    rcases hl with h | ⟨k, i, h1, h2, h3⟩
    · exact .inl h
    · exact .inr ⟨k, i, h1, h2, h3, q2h h2 (by omega)⟩
  cases mx with
  | none =>
    cases umx with
    | some _ => exact hmx.elim
    | none =>
      simp only [A.bound, Option.some.injEq] at hc
      subst hc
      have hlow := hlow .sliceB hab
      cases hi with
      | none =>
        cases uhi with
        | some _ => exact hhi.elim
        | none =>
          simp only [A.bound, Option.some.injEq] at hb
          subst hb
          rcases hlow with ⟨rfl, rfl⟩ | ⟨k0, i0, rfl, _, rfl, hr⟩
          · simp [Instr.sliceBounds]
          · simp [Instr.sliceBounds, hr]
      | some v =>
        cases uhi with
        | none => exact hhi.elim
        | some u =>
          obtain ⟨k, i, rfl, h0, rfl⟩ := q4l hb hhi
          have := q2h (P := P) (w := w) (k := k) (code := if isSl = true then BoundsCode.sliceAcap else .sliceAlen) h0 (show i.toNat ≤ ccap by omega)
          rcases hlow with ⟨rfl, rfl⟩ | ⟨k0, i0, rfl, _, rfl, hr⟩
          · simp [Instr.sliceBounds, this]
          · simp [Instr.sliceBounds, this, hr]
  | some mv =>
    cases umx with
    | none => exact hmx.elim
    | some um =>
      obtain ⟨k2, j, rfl, g0, rfl⟩ := q4l hc hmx
      have hm := q2h (P := P) (w := w) (k := k2) (code := if isSl = true then BoundsCode.slice3Acap else .slice3Alen) g0 (show j.toNat ≤ ccap by omega)
      have hlow := hlow .slice3C hab
      cases hi with
      | none => rcases hmh with h | h <;> simp at h
      | some v =>
        cases uhi with
        | none => exact hhi.elim
        | some u =>
          obtain ⟨k, i, rfl, h0, rfl⟩ := q4l hb hhi
          have := q2h (P := P) (w := w) (k := k) (code := BoundsCode.slice3B) h0 hbc
          rcases hlow with ⟨rfl, rfl⟩ | ⟨k0, i0, rfl, _, rfl, hr⟩
          · simp [Instr.sliceBounds, this, hm]
          · simp [Instr.sliceBounds, this, hm, hr]
theorem qft {t : TypeId} {x v : AV} {lo hi : Option AV} {ulo uhi : Option Value} {u0 : Value} (ht : E.P.underlying t = some .string) (hlo : OptV C lo ulo) (hhi : OptV C hi uhi) (h : A.sliceStr x lo hi = some v) (hx : V C p x u0) :
    ∃ u, (Instr.sliceAt t u0 ulo uhi none).run E.P C.w = .ok u C.w ∧ V C true v u := by
  unfold A.sliceStr at h
  split at h
  · rename_i l
    obtain ⟨s, rfl, rfl⟩ := hx.str_inv
    simp only [Option.bind_eq_some_iff] at h
    obtain ⟨a, ha, b, hb, hc⟩ := h
    split at hc
    · rename_i hab
      simp only [Option.some.injEq] at hc
      subst hc
      have hl : s.data.toList.length = s.size := by rw [Array.length_toList]; rfl
      rw [hl] at hb hab
      have hbr := q2v (P := E.P) (w := C.w) (isSl := false) (C := C) (len := s.size) (cap := s.size) (ccap := s.size) (mx := none) (umx := none) (c := s.size) hlo hhi trivial ha hb rfl (.inl rfl) hab.1 hab.2 (Nat.le_refl _) (Nat.le_refl _)
      refine ⟨.string (s.extract a b), ?_, ?_⟩
      · simp only [Instr.sliceAt, Sem.run_bind, run_underlying ht, Result.andThen_ok, Instr.slice, hbr, Option.isSome_none, Bool.false_eq_true, if_false, Sem.run_pure]
      · have : (s.data.toList.drop a).take (b - a) = (s.extract a b).data.toList := by
          simp [ByteArray.data_extract, List.extract_eq_take_drop]
        rw [this]
        exact .str _ _
    · simp at hc
  · simp at h
theorem slice_ok {t e : TypeId} {sz : Nat} {x v : AV} {lo hi mx : Option AV} {ulo uhi umx : Option Value} {u0 : Value} (ht : E.P.underlying t = some (.slice e)) (hsz : E.size e = some sz) (hlo : OptV C lo ulo) (hhi : OptV C hi uhi) (hmx : OptV C mx umx) (hmh : mx = none ∨ hi ≠ none)
    (h : A.slice sz x lo hi mx C.H = some v) (hx : V C p x u0) : ∃ u, (Instr.sliceAt t u0 ulo uhi umx).run E.P C.w = .ok u C.w ∧ V C false v u := by
  have hrun : ∀ {b : Option Addr} {len cap l h m : Nat}, (Instr.sliceBounds true len cap ulo uhi umx).run E.P C.w = .ok (l, h, m) C.w → (Instr.sliceAt t (.slice b len cap) ulo uhi umx).run E.P C.w = .ok (.slice (if m = l then b else b.map (·.add (l * sz))) (h - l) (m - l)) C.w := by
    intro b len cap l h m hb
    simp only [Instr.sliceAt, Sem.run_bind, run_underlying ht, Result.andThen_ok, Instr.slice, hb, q13 hsz, Sem.run_pure]
  unfold A.slice at h
  split at h
  · cases hx
    simp only [Option.bind_eq_some_iff] at h
    obtain ⟨a, ha, b, hb, c, hc, h⟩ := h
    split at h
    · rename_i hz
      obtain ⟨rfl, rfl, rfl⟩ := hz
      simp only [Option.some.injEq] at h
      subst h
      have hbr := q2v (P := E.P) (w := C.w) (isSl := true) (C := C) (len := 0) (cap := 0) (ccap := 0) hlo hhi hmx ha hb hc hmh (Nat.le_refl _) (Nat.le_refl _) (Nat.le_refl _) (Nat.le_refl _)
      refine ⟨_, hrun hbr, ?_⟩
      have : (if umx = none then 0 else 0) = 0 := by split <;> rfl
      rw [this]
      exact .nils _
    · simp at h
  · rename_i z es
    simp only [Option.bind_eq_some_iff] at h
    obtain ⟨a, ha, b, hb, c, hc, h⟩ := h
    split at h
    · rename_i hz
      obtain ⟨hab, hbc, hcl, rfl⟩ := hz
      simp only [Option.some.injEq] at h
      subst h
      cases hx with
      | sh _ _ _ ad cc us g1 g2 g3 g4 g5 g6 =>
        have hbr := q2v (P := E.P) (w := C.w) (isSl := true) (C := C) (cap := es.length) hlo hhi hmx ha hb hc hmh hab hbc hcl g5
        refine ⟨_, hrun hbr, ?_⟩
        have hgd : ∀ e ∈ (es.drop a).take (b - a), Good z e := fun x hx => g2 x (List.mem_of_mem_drop (List.mem_of_mem_take hx))
        have hlen : ((es.drop a).take (b - a)).length = b - a := by rw [List.length_take, List.length_drop]; omega
        have hv : Vs C true (((es.drop a).take (b - a)).flatMap AV.cells) ((us.drop (a * z)).take ((b - a) * z)) := by
          have := (g1.drop (a * z)).take ((b - a) * z)
          rw [q8h g2, q8k (fun x hx => g2 x (List.mem_of_mem_drop hx))] at this
          exact this
        have hwl : ((us.drop (a * z)).take ((b - a) * z)).length = (b - a) * z := by rw [hv.length, q0d hgd, hlen]
        generalize hM : (if umx = none then cc else c) = M
        have hMb : b ≤ M := by rw [← hM]; split <;> omega
        have hMm : M ≤ maxLen := by rw [← hM]; split <;> omega
        have key : ∀ ad', (es.drop a).take (b - a) ≠ [] → ad' = ad.add (a * z) → C.κ ad'.block = .imm ∧ ad'.block < C.w.heap.size := by
          intro ad' hne e
          subst e
          have hab2 : (ad.add (a * z)).block = ad.block := by unfold Addr.add; split <;> rfl
          rw [hab2]
          refine g4 ?_
          rintro rfl
          simp at hne
        by_cases hm : M = a
        · rw [if_pos hm]
          have hb0 : b - a = 0 := by omega
          have hnil : (es.drop a).take (b - a) = [] := by rw [hb0]; rfl
          rw [hnil, hb0]
          have := V.sh (C := C) false z [] ad (M - a) [] (.nil _) (by simp) (by simp) (by simp) (by simp) (by omega)
          exact this
        · rw [if_neg hm]
          have := V.sh (C := C) false z ((es.drop a).take (b - a)) (ad.add (a * z)) (M - a) _ hv hgd (fun j u hu => by
            rw [List.getElem?_take] at hu
            split at hu
            · rw [List.getElem?_drop] at hu
              rw [q6l]
              exact g3 _ _ hu
            · simp at hu) (fun hne => key _ hne rfl) (by rw [hlen]; omega) (by omega)
          rw [hlen] at this
          exact this
    · simp at h
  · rename_i id ver off n cap
    simp only [Option.bind_eq_some_iff] at h
    obtain ⟨a, ha, b, hb, c, hc, h⟩ := h
    split at h
    · rename_i hz
      obtain ⟨hab, hbc, hcl, hal⟩ := hz
      simp only [Option.some.injEq] at h
      subst h
      obtain ⟨ty, es, hr⟩ := qa7 hal
      cases hx with
      | sl _ _ _ _ _ _ g0 g1 =>
        obtain ⟨ad, cc, rfl, g2, g3, g4, g5, g6⟩ := (g1.2 ver sz ty es hr).2 rfl
        have hbr := q2v (P := E.P) (w := C.w) (isSl := true) (C := C) (cap := cap) hlo hhi hmx ha hb hc hmh hab hbc hcl g3
        refine ⟨_, hrun hbr, .sl _ _ _ _ _ _ rfl ⟨g1.1, fun v sz' ty' es' hr' => ?_⟩⟩
        rw [hr] at hr'
        injection hr' with hr'
        injection hr' with e1 e2 e3 e4
        subst e1 e2 e3 e4
        generalize hM : (if umx = none then cc else c) = M
        have hMc : c ≤ M := by rw [← hM]; split <;> omega
        have hMcc : M ≤ cc := by rw [← hM]; split <;> omega
        refine ⟨Nat.le_refl _, fun _ => ⟨(if M = a then ad else ad.add (a * sz)), M - a, ?_, by omega, by omega, by omega, fun h0 => ?_, fun cells t' fr hcl => ?_⟩⟩
        · split <;> rfl
        · rw [if_neg (by omega), g5 (by omega), Addr.add_lit]
          simp only [Addr.mk.injEq, true_and, and_true]
          rw [Nat.add_mul]
          omega
        · have := g6 cells t' fr hcl
          have h1 : (off + a + (M - a)) * sz ≤ (off + cc) * sz ∨ M < a := by
            rcases Nat.lt_or_ge M a with h | h
            · exact .inr h
            · exact .inl (Nat.mul_le_mul_right _ (by omega))
          rcases h1 with h1 | h1
          · omega
          · omega
    · simp at h
  · simp at h
end
end Go.Den

/- DEN, part L: structs, arrays and slices out of parts, as the machine does them. -/
namespace Go.Den
open Go.RowKit
theorem foldl_set {l : List Value} : ∀ (k : Nat) (off : Nat) (cells : Array Value), off + k + l.length ≤ cells.size →
    (((l.zipIdx k).foldl (fun cs p => cs.setIfInBounds (off + p.2) p.1) cells).size = cells.size ∧ ∀ j, ((l.zipIdx k).foldl (fun cs p => cs.setIfInBounds (off + p.2) p.1) cells)[j]? = if off + k ≤ j ∧ j < off + k + l.length then l[j - (off + k)]? else cells[j]?) := by
  induction l with
  | nil =>
    intro k off cells _
    refine ⟨rfl, fun j => ?_⟩
    rw [if_neg (by simp only [List.length_nil]; omega)]
    rfl
  | cons v l ih =>
    intro k off cells h
    simp only [List.length_cons] at h
    simp only [List.zipIdx_cons, List.foldl_cons]
    obtain ⟨h1, h2⟩ := ih (k + 1) off (cells.setIfInBounds (off + k) v) (by simp; omega)
    refine ⟨by rw [h1]; simp, fun j => ?_⟩
    rw [h2]
    simp only [List.length_cons]
    by_cases hj : j = off + k
    · subst hj
      rw [if_neg (by omega), if_pos (by omega)]
      simp only [Nat.sub_self, List.getElem?_cons_zero]
      rw [Array.getElem?_setIfInBounds_self_of_lt (by omega)]
    · by_cases h3 : off + (k + 1) ≤ j ∧ j < off + (k + 1) + l.length
      · rw [if_pos h3, if_pos (by omega), show j - (off + k) = (j - (off + (k + 1))) + 1 by omega]
        simp
      · rw [if_neg h3, if_neg (by omega)]
        exact Array.getElem?_setIfInBounds_ne (Ne.symm hj)
theorem qdd {cells v : Array Value} {off : Nat} (h : off + v.size ≤ cells.size) :
    (v.zipIdx.foldl (fun cs p => cs.setIfInBounds (off + p.2) p.1) cells).toList = cells.toList.take off ++ v.toList ++ cells.toList.drop (off + v.size) := by
  have h0 : v.zipIdx.foldl (fun cs p => cs.setIfInBounds (off + p.2) p.1) cells = (v.toList.zipIdx 0).foldl (fun cs p => cs.setIfInBounds (off + p.2) p.1) cells := by
    rw [← Array.foldl_toList, Array.toList_zipIdx]
  rw [h0]
  obtain ⟨h1, h2⟩ := foldl_set (l := v.toList) 0 off cells (by simpa using h)
  apply List.ext_getElem?
  intro j
  have := q76 (us := cells.toList) (ws := v.toList) (s := off) (by simp; omega) j
  simp only [Array.length_toList] at this
  rw [this]
  have h3 := h2 j
  simp only [Nat.add_zero, Array.length_toList] at h3
  simpa using h3
section
variable {E : Env} {C : Ctx} {p q : Bool}
theorem qje (place : Nat → Option (Nat × Nat)) {lam : Nat → Nat} {st : St} {a : Act} (hr : HR E C) (hf : FrameR C lam st a) : ∀ {ps : List (Nat × Operand)} {l : List (Nat × Nat × AV)} {z r : List AV} {cells : Array Value}, parts E st place ps = some l → A.fill z l = some r → Vs C false z cells.toList → (∀ c ∈ z, c.one = true) →
    ∃ cells', Instr.fill place cells (ps.map fun p => (p.1, a.eval p.2)) = some cells' ∧ Vs C false r cells'.toList ∧ ∀ c ∈ r, c.one = true
  | [], l, z, r, cells, hp, h, hv, h1 => by
    simp [parts] at hp
    subst hp
    simp only [A.fill, Option.some.injEq] at h
    subst h
    exact ⟨cells, rfl, hv, h1⟩
  | (i, x) :: ps, l, z, r, cells, hp, h, hv, h1 => by
    unfold parts at hp
    split at hp
    · rename_i off sz v hpl hev
      split at hp
      · rename_i r' hp'
        simp only [Option.some.injEq] at hp
        subst hp
        unfold A.fill at h
        split at h
        · rename_i hc
          obtain ⟨hl, hle, hd⟩ := hc
          have hvx := q09 hr hf hev
          obtain ⟨g1, g2⟩ := hvx.cells hd
          have hsz : (a.eval x).cells.size = sz := by rw [← Array.length_toList, g1.length, hl]
          have hcl : cells.size = z.length := by rw [← Array.length_toList, hv.length]
          have hst : ((a.eval x).cells.zipIdx.foldl (fun cs p => cs.setIfInBounds (off + p.2) p.1) cells).toList = cells.toList.take off ++ (a.eval x).cells.toList ++ cells.toList.drop (off + (a.eval x).cells.size) := qdd (by omega)
          have hv2 : Vs C false (A.splice z off v.cells) ((a.eval x).cells.zipIdx.foldl (fun cs p => cs.setIfInBounds (off + p.2) p.1) cells).toList := by
            rw [hst]
            have := hv.splice g1 off
            rw [Array.length_toList] at this
            exact this
          obtain ⟨cells', k1, k2, k3⟩ := qje place hr hf hp' h hv2 (q3n h1 g2)
          refine ⟨cells', ?_, k2, k3⟩
          simp only [List.map_cons, Instr.fill, hpl]
          rw [if_neg (by simp; omega)]
          exact k1
        · simp at h
      · simp at hp
    · simp at hp
theorem q5r {α β : Type} {P : Program} {w : World} {f : α → Sem β} {g : α → β} : ∀ {l : List α}, (∀ x ∈ l, (f x).run P w = .ok (g x) w) → (l.mapM f).run P w = .ok (l.map g) w
  | [], _ => rfl
  | x :: l, h => by
    rw [List.mapM_cons]
    simp only [Sem.run_bind, h x List.mem_cons_self, Result.andThen_ok, q5r (fun y hy => h y (List.mem_cons_of_mem _ hy)), Sem.run_pure, List.map_cons]
theorem q47 : ∀ {fs : List Field} {l : List (Nat × Nat)}, q31 E fs = some l → l = fs.map (fun f => (f.offset, (E.size f.type).getD 0)) ∧ ∀ f ∈ fs, ∃ s, E.size f.type = some s
  | [], l, h => by simp [q31] at h; subst h; exact ⟨rfl, by simp⟩
  | f :: fs, l, h => by
    unfold q31 at h
    split at h
    · rename_i s hs
      split at h
      · rename_i r hr
        simp only [Option.some.injEq] at h
        subst h
        obtain ⟨h1, h2⟩ := q47 hr
        refine ⟨by rw [h1]; simp [hs], fun x hx => ?_⟩
        rcases List.mem_cons.1 hx with rfl | hx
        · exact ⟨s, hs⟩
        · exact h2 x hx
      · simp at h
    · simp at h
theorem q41 {t : TypeId} {z : AV} (h : E.zero t = some z) (w : World) : ∃ zv, (zeroValue t).run E.P w = .ok zv w ∧ V C true z zv := by
  unfold Env.zero at h
  cases hi : E.P.info? t with
  | none => rw [hi] at h; simp at h
  | some i =>
    rw [hi] at h
    simp only [Option.bind_some, Option.bind_eq_some_iff] at h
    obtain ⟨zv, h1, h2⟩ := h
    exact ⟨zv, by simp [zeroValue, typeInfo, hi, h1], q25 h2⟩
theorem build_ok {t : TypeId} {lam : Nat → Nat} {st : St} {a : Act} (hr : HR E C) (hf : FrameR C lam st a) {ps : Array (Nat × Operand)} {z : List AV} {pl : Nat → Option (Nat × Nat)} {l : List (Nat × Nat × AV)} {v : AV} (hz : q5j E t = some z) (hpl : places E t = some pl) (hp : parts E st pl ps.toList = some l)
    (h : (A.fill z l).map .agg = some v) : ∃ u, (Instr.build t (ps.map fun (i, x) => (i, a.eval x))).run E.P C.w = .ok u C.w ∧ V C false v u := by
  rw [Option.map_eq_some_iff] at h
  obtain ⟨r, h, rfl⟩ := h
  unfold q5j at hz
  split at hz
  · rename_i z0 hz0
    cases hd : z0.isDef
    · rw [hd] at hz; simp at hz
    · rw [hd] at hz
      simp only [cond_true, Option.some.injEq] at hz
      subst hz
      obtain ⟨zv, k1, k2⟩ := q41 (C := C) hz0 C.w
      obtain ⟨g1, g2⟩ := k2.cells hd
      obtain ⟨cells', c1, c2, c3⟩ := qje pl hr hf hp h g1.weakenB g2
      have hps : (ps.map fun (i, x) => (i, a.eval x)).toList = ps.toList.map fun p => (p.1, a.eval p.2) := by simp
      refine ⟨.agg cells', ?_, .agg _ _ _ c3 c2⟩
      unfold places at hpl
      split at hpl
      · rename_i fs hu
        split at hpl
        · rename_i pls hfp
          simp only [Option.some.injEq] at hpl
          subst hpl
          obtain ⟨e1, e2⟩ := q47 hfp
          have hm : (fs.mapM fun f => (do pure (f.offset, ← sizeOf f.type) : Sem (Nat × Nat))).run E.P C.w = .ok pls.toArray C.w := by
            rw [Array.mapM_eq_mapM_toList]
            simp only [Sem.run_map]
            rw [q5r (g := fun f => (f.offset, (E.size f.type).getD 0)) (fun f hf => by
              obtain ⟨s, hs⟩ := e2 f hf
              simp only [Sem.run_bind, q13 hs, Result.andThen_ok, Sem.run_pure, hs, Option.getD_some])]
            rw [e1]
            rfl
          simp only [Instr.build, Sem.run_bind, k1, Result.andThen_ok, run_underlying hu, hm, hps]
          have : (fun (x : Nat) => pls.toArray[x]?) = fun (i : Nat) => pls[i]? := by funext i; simp
          rw [this, c1]
          rfl
        · simp at hpl
      · rename_i n e hu
        split at hpl
        · rename_i s hs
          simp only [Option.some.injEq] at hpl
          subst hpl
          simp only [Instr.build, Sem.run_bind, k1, Result.andThen_ok, run_underlying hu, q13 hs, hps, c1]
          rfl
        · simp at hpl
      · simp at hpl
  · simp at hz
theorem q48 {sz : Nat} {lam : Nat → Nat} {st : St} {a : Act} (hr : HR E C) (hf : FrameR C lam st a) : ∀ {ps : List (Nat × Operand)} {l : List (Nat × Nat × AV)} {es r : List AV} {cells : Array Value}, parts E st (fun i => some (i, 1)) ps = some l → A.fillElems sz es l = some r → Vs C false (es.flatMap AV.cells) cells.toList → (∀ e ∈ es, Good sz e) →
    ∃ cells', Instr.fill (fun i => some (i * sz, sz)) cells (ps.map fun p => (p.1, a.eval p.2)) = some cells' ∧ Vs C false (r.flatMap AV.cells) cells'.toList ∧ (∀ e ∈ r, Good sz e) ∧ r.length = es.length
  | [], l, es, r, cells, hp, h, hv, h1 => by
    simp [parts] at hp
    subst hp
    simp only [A.fillElems, Option.some.injEq] at h
    subst h
    exact ⟨cells, rfl, hv, h1, rfl⟩
  | (i, x) :: ps, l, es, r, cells, hp, h, hv, h1 => by
    unfold parts at hp
    split at hp
    · rename_i off sz' v hpl hev
      simp only [Option.some.injEq, Prod.mk.injEq] at hpl
      obtain ⟨rfl, rfl⟩ := hpl
      split at hp
      · rename_i r' hp'
        simp only [Option.some.injEq] at hp
        subst hp
        unfold A.fillElems at h
        split at h
        · rename_i hc
          obtain ⟨hl, hle, hd⟩ := hc
          have hvx := q09 hr hf hev
          obtain ⟨g1, g2⟩ := hvx.cells hd
          have hgv : Good sz v := ⟨hl, g2⟩
          have hsz : (a.eval x).cells.size = sz := by rw [← Array.length_toList, g1.length, hl]
          have hcl : cells.size = es.length * sz := by rw [← Array.length_toList, hv.length, q0d h1]
          have hle2 : i * sz + sz ≤ es.length * sz := by
            have := Nat.mul_le_mul_right sz (show i + 1 ≤ es.length by omega)
            rwa [Nat.succ_mul] at this
          have hst := qdd (cells := cells) (v := (a.eval x).cells) (off := i * sz) (by omega)
          have hge := h1 es[i] (List.getElem_mem hle)
          have hfs : (es.set i v).flatMap AV.cells = A.splice (es.flatMap AV.cells) (i * sz) v.cells := by
            have := qga (e' := v) (off := 0) (vs := v.cells) h1 (List.getElem?_eq_getElem hle) (by
              unfold A.splice
              simp only [List.take_zero, List.nil_append, Nat.zero_add]
              rw [List.drop_eq_nil_of_le (by rw [hge.1, hl]; omega), List.append_nil]) (by omega)
            simpa using this
          have hv2 : Vs C false ((es.set i v).flatMap AV.cells) ((a.eval x).cells.zipIdx.foldl (fun cs p => cs.setIfInBounds (i * sz + p.2) p.1) cells).toList := by
            rw [hst, hfs]
            have := hv.splice g1 (i * sz)
            rw [Array.length_toList] at this
            exact this
          obtain ⟨cells', k1, k2, k3, k4⟩ := q48 hr hf hp' h hv2 (qh0 h1 hgv)
          refine ⟨cells', ?_, k2, k3, by rw [k4]; simp⟩
          simp only [List.map_cons, Instr.fill]
          rw [if_neg (by simp; omega)]
          exact k1
        · simp at h
      · simp at hp
    · simp at hp
theorem qbb {t e : TypeId} {n sz : Nat} {lam : Nat → Nat} {st : St} {a : Act} (hr : HR E C) (hf : FrameR C lam st a) {ps : Array (Nat × Operand)} {z : AV} {l : List (Nat × Nat × AV)} {es : List AV} (ht : E.P.underlying t = some (.slice e)) (hsz : E.size e = some sz) (hz : E.zero e = some z)
    (hn : n * sz ≤ 16777216) (hpos : 0 < sz) (hzl : z.cells.length = sz) (hp : parts E st (fun i => some (i, 1)) ps.toList = some l) (h : A.fillElems sz (List.replicate n z) l = some es) :
    ∃ u C', (Instr.buildSlice t n (ps.map fun (i, x) => (i, a.eval x))).run E.P C.w = .ok u C'.w ∧ V C' false (A.newRow sz e es C.H).1 u ∧ HR E C' ∧ EvL C C' ∧ C'.H = (A.newRow sz e es C.H).2 := by
  obtain ⟨zv, k1, k2⟩ := q41 (C := C) hz C.w
  have hzd : z.isDef = true := by
    unfold Env.zero at hz
    simp only [Option.bind_eq_some_iff] at hz
    obtain ⟨_, _, h2⟩ := hz
    exact q1u h2
  obtain ⟨g1, g2⟩ := k2.cells hzd
  have hzs : zv.cells.size = sz := by rw [← Array.length_toList, g1.length, hzl]
  have hv0 : Vs C false ((List.replicate n z).flatMap AV.cells) ((Array.range (n * sz)).map (zv.cells[· % zv.cells.size]!)).toList := by
    have := (q6w g1 hzs hpos n).weakenB
    rw [Array.toList_map, Array.toList_range, hzs]
    exact this
  obtain ⟨cells', c1, c2, c3, c4⟩ := q48 hr hf hp h hv0 (fun x hx => by
    have := List.eq_of_mem_replicate hx
    subst this
    exact ⟨hzl, g2⟩)
  have hps : (ps.map fun (i, x) => (i, a.eval x)).toList = ps.toList.map fun p => (p.1, a.eval p.2) := by simp
  have hlen : es.length = n := by rw [c4]; simp
  have key := q4e (E := E) (ver := 0) (sz := sz) (ty := e) (fr := (0, 0)) (w' := C.w.alloc (.cells cells' e)) hr ⟨rfl, rfl, rfl⟩ rfl hpos c3 (.inl rfl) c2 (fun j u hu => by simpa using hu)
  refine ⟨.slice (some ⟨C.w.heap.size, 0, none⟩) n n, _, ?_, ?_, key.1, key.2, rfl⟩
  · simp only [Instr.buildSlice, Sem.run_bind, run_underlying ht, Result.andThen_ok, q13 hsz]
    rw [if_neg (by omega)]
    simp only [Sem.run_bind, Sem.run_pure, Result.andThen_ok, hps]
    by_cases h0 : n * sz = 0
    · rw [if_pos h0]
      have : n = 0 := by
        rcases Nat.mul_eq_zero.1 h0 with h | h <;> omega
      subst this
      have e0 : (Array.range (0 * sz)).map ((#[] : Array Value)[· % (#[] : Array Value).size]!) = (Array.range (0 * sz)).map (zv.cells[· % zv.cells.size]!) := by simp
      simp only [pure_bind, e0, c1]
      rfl
    · rw [if_neg h0]
      simp only [Sem.run_bind, k1, Result.andThen_ok, Sem.run_pure, c1]
      rfl
  · refine .sl _ _ _ _ _ _ rfl ⟨by simp [Ctx.grow], fun v sz' ty' es' hx => ?_⟩
    simp [Ctx.grow] at hx
    obtain ⟨rfl, rfl, rfl, rfl⟩ := hx
    refine ⟨Nat.le_refl _, fun _ => ⟨⟨C.w.heap.size, 0, none⟩, n, by rw [hlen], Nat.le_refl _, by omega, by unfold maxLen; have := Nat.le_mul_of_pos_right n hpos; omega, fun _ => by simp [Ctx.grow], fun cells t' fr hc => ?_⟩⟩
    rw [q1h] at hc ⊢
    have hc' := (heap_alloc_new C.w _).symm.trans hc
    injection hc' with hc'
    injection hc' with hc1 hc2 hc3
    subst hc1
    have : cells'.size = n * sz := by rw [← Array.length_toList, c2.length, q0d c3, hlen]
    simp [this]
end
end Go.Den

/- DEN, part M: what goes on with a result changes nothing of how the result comes about. -/
namespace Go.Den
/-! ### what does not change is frozen already -/
theorem q2c {v : AV} (h : v.leaf = true) (n : Nat) (H : Heap) : A.freezeB true (n + 1) H v = some v ∧ reach (n + 1) H v = [] := by
  cases v <;> first | exact ⟨rfl, rfl⟩ | (simp [AV.leaf] at h)
theorem q33 {α : Type} {f : α → Option α} : ∀ {l : List α}, (∀ x ∈ l, f x = some x) → l.mapM f = some l
  | [], _ => rfl
  | x :: l, h => by
    rw [List.mapM_cons, h x List.mem_cons_self, q33 fun y hy => h y (List.mem_cons_of_mem _ hy)]
    rfl
theorem flatMap_nil {α β : Type} {f : α → List β} : ∀ {l : List α}, (∀ x ∈ l, f x = []) → l.flatMap f = []
  | [], _ => rfl
  | x :: l, h => by
    rw [List.flatMap_cons, h x List.mem_cons_self, flatMap_nil fun y hy => h y (List.mem_cons_of_mem _ hy)]
    rfl
theorem qht {b : Bool} {n : Nat} {H : Heap} {cs : List AV} : A.freezeB b (n + 1) H (.agg cs) = (cs.mapM (A.freezeB b n H)).map .agg := rfl
theorem qai {b : Bool} {n : Nat} {H : Heap} {cs : List AV} : A.freezeB b (n + 1) H (.tup cs) = (cs.mapM (A.freezeB b n H)).map .tup := rfl
theorem freeze_fn {q : Bool} {n : Nat} {H : Heap} {f : Fn} {a b : List AV} : A.freezeB q (n + 1) H (.fn f a b) = (a.mapM (A.freezeB q n H)).bind fun a' => (b.mapM (A.freezeB q n H)).map fun b' => .fn f a' b' := rfl
theorem qbs {v : AV} (h : v.imm1 = true) (n : Nat) (H : Heap) : A.freezeB true (n + 2) H v = some v ∧ reach (n + 2) H v = [] := by
  cases v with
  | agg cs =>
    have h : ∀ c ∈ cs, c.leaf = true := fun c hc => List.all_eq_true.1 h c hc
    exact ⟨by rw [qht, q33 fun x hx => (q2c (h x hx) n H).1]; rfl, flatMap_nil fun x hx => (q2c (h x hx) n H).2⟩
  | tup cs =>
    have h : ∀ c ∈ cs, c.leaf = true := fun c hc => List.all_eq_true.1 h c hc
    exact ⟨by rw [qai, q33 fun x hx => (q2c (h x hx) n H).1]; rfl, flatMap_nil fun x hx => (q2c (h x hx) n H).2⟩
  | fn f a b =>
    simp only [AV.imm1, Bool.and_eq_true] at h
    have h1 : ∀ c ∈ a, c.leaf = true := fun c hc => List.all_eq_true.1 h.1 c hc
    have h2 : ∀ c ∈ b, c.leaf = true := fun c hc => List.all_eq_true.1 h.2 c hc
    refine ⟨by rw [freeze_fn, q33 fun x hx => (q2c (h1 x hx) n H).1, q33 fun x hx => (q2c (h2 x hx) n H).1]; rfl, ?_⟩
    show a.flatMap (reach (n + 1) H) ++ b.flatMap (reach (n + 1) H) = []
    rw [flatMap_nil fun x hx => (q2c (h1 x hx) n H).2, flatMap_nil fun x hx => (q2c (h2 x hx) n H).2]
    rfl
  | _ => refine q2c ?_ (n + 1) H; exact h
theorem qf5 {v : AV} (h : v.imm = true) (n : Nat) (H : Heap) : A.freezeB true (n + 3) H v = some v ∧ reach (n + 3) H v = [] := by
  cases v with
  | tup cs =>
    have h : ∀ c ∈ cs, c.imm1 = true := fun c hc => List.all_eq_true.1 h c hc
    exact ⟨by rw [qai, q33 fun x hx => (qbs (h x hx) n H).1]; rfl, flatMap_nil fun x hx => (qbs (h x hx) n H).2⟩
  | _ => refine qbs ?_ (n + 1) H; exact h
theorem q3t {H : Heap} : ∀ {args : List AV}, args.all AV.imm = true → q0r H args = some args ∧ args.flatMap (reach 64 H) = []
  | [], _ => ⟨rfl, rfl⟩
  | a :: args, h => by
    simp only [List.all_cons, Bool.and_eq_true] at h
    obtain ⟨g1, g2⟩ := qf5 h.1 61 H
    obtain ⟨k1, k2⟩ := q3t (H := H) h.2
    refine ⟨?_, ?_⟩
    · unfold q0r
      rw [g1, k1]
    · rw [List.flatMap_cons, g2, k2]
      rfl
theorem qe0 {F : List AV → Option AV} {args : List AV} {H : Heap} (h : args.all AV.imm = true) : pureF F args H = (F args).map (·, H) := by
  unfold pureF
  rw [(q3t h).1]
  dsimp only
  cases F args with
  | none => rfl
  | some v =>
    dsimp only
    rw [(q3t h).2]
    cases v.flat <;> rfl
def CNat (cf : CallFn) : Prop :=
  ∀ (R : Type) (f : FuncId) (args : List AV) (H : Heap) (k : AV → Heap → Option R), cf R f args H k = (cf (AV × Heap) f args H fun v G => some (v, G)).bind fun p => k p.1 p.2
section
variable {E : Env} {cf : CallFn} {R S : Type}
theorem q2i {x : Option AV} {k : AV → Option R} {g : AV → Option S} {f : S → Option R} (h : ∀ v, k v = (g v).bind f) : withV x k = (withV x g).bind f := by
  cases x
  · rfl
  · exact h _
theorem q1v {c : Bool} {a b : Option R} {a' b' : Option S} {f : S → Option R} (h1 : a = a'.bind f) (h2 : b = b'.bind f) : (bif c then a else b) = (bif c then a' else b').bind f := by
  cases c
  · exact h2
  · exact h1
theorem q2x (hc : CNat cf) (f : FuncId) (args : List AV) (H : Heap) {k : AV → Heap → Option R} {g : AV → Heap → Option S} {h : S → Option R} (hk : ∀ v G, k v G = (g v G).bind h) :
    callK E cf f args H k = (callK E cf f args H g).bind h := by
  unfold callK
  split
  · refine q1v ?_ rfl
    rw [hc R, hc S, Option.bind_assoc]
    congr 1
    funext p
    exact hk _ _
  · split
    · exact hk _ _
    · rfl
  · split
    · exact hk _ _
    · rfl
theorem q87 (f : FuncId) (args : List AV) (H : Heap) {k : AV → Heap → Option R} {g : AV → Heap → Option S} {h : S → Option R} (hk : ∀ v G, k v G = (g v G).bind h) :
    callQ E f args H k = (callQ E f args H g).bind h := by
  unfold callQ
  split
  · refine q1v ?_ rfl
    split
    · exact hk _ _
    · rfl
  · rfl
theorem qer {f : FuncId} {args : List AV} {H : Heap} {p : AV × Heap} (h : callQ E f args H (fun v G => some (v, G)) = some p) : callK E cf f args H (fun v G => some (v, G)) = some p := by
  unfold callQ at h
  unfold callK
  split at h
  · rename_i F hF
    rw [hF]
    dsimp only
    cases hi : args.all AV.imm
    · rw [hi] at h; cases h
    · rw [hi] at h
      simp only [cond_true] at h
      rw [qe0 hi]
      cases hx : F args with
      | none => rw [hx] at h; cases h
      | some v => rw [hx] at h; exact h
  · cases h
theorem q89 (hc : CNat cf) (f : AV) (args : List AV) (H : Heap) {k : AV → Heap → Option R} {g : AV → Heap → Option S} {h : S → Option R} (hk : ∀ v G, k v G = (g v G).bind h) :
    callV E cf f args H k = (callV E cf f args H g).bind h := by
  unfold callV
  split
  · exact q2x hc _ _ _ hk
  · rw [hc R, hc S, Option.bind_assoc]
    congr 1
    funext p
    exact hk _ _
  · rfl
theorem q43 (b : Builtin) (ts : List TypeId) (args : List AV) (H : Heap) {k : AV → Heap → Option R} {g : AV → Heap → Option S} {h : S → Option R} (hk : ∀ v G, k v G = (g v G).bind h) :
    q17 E b ts args H k = (q17 E b ts args H g).bind h := by
  unfold q17
  repeat' (first | rfl | exact hk _ _ | exact q2i fun v => hk _ _ | apply q1v | split)
theorem qd6 (src dst : TypeId) (x : AV) (H : Heap) {k : AV → Heap → Option R} {g : AV → Heap → Option S} {h : S → Option R} (hk : ∀ v G, k v G = (g v G).bind h) :
    q0u E src dst x H k = (q0u E src dst x H g).bind h := by
  unfold q0u
  split
  · exact hk _ _
  · split
    · exact hk _ _
    · split
      · exact hk _ _
      · rfl
theorem layK_nat (s : Nat) (cs : List AV) (st : St) (H : Heap) {k : SV → St → Heap → Option R} {g : SV → St → Heap → Option S} {h : S → Option R} (hk : ∀ v s G, k v s G = (g v s G).bind h) :
    layK s cs st H k = (layK s cs st H g).bind h := by
  unfold layK
  repeat' (first | rfl | exact hk _ _ _ | split)
theorem opK_to (hc : CNat cf) (site : Option Nat) (o : Oper) (st : St) (H : Heap) {k : SV → St → Heap → Option R} {g : SV → St → Heap → Option S} {h : S → Option R} (hk : ∀ v s G, k v s G = (g v s G).bind h) :
    opK E cf site o st H k = (opK E cf site o st H g).bind h := by
  unfold opK
  generalize ho : o.op = op
  cases op <;> dsimp only
  all_goals repeat' (first | (exfalso; contradiction) | split | (with_reducible exact hk _ _ _) | (with_reducible exact (Option.bind_none _).symm) | (with_reducible apply q1v) | (with_reducible exact q2i fun v => hk _ _ _) | (with_reducible refine layK_nat _ _ _ _ hk) | (with_reducible refine qd6 _ _ _ _ ?_; intro v G; exact hk _ _ _))
  case h_1 => exact q89 hc _ _ _ fun v G => hk _ _ _
  case h_1 => exact q87 _ _ _ fun v G => hk _ _ _
  case h_2 => exact q43 _ _ _ _ fun v G => hk _ _ _
  all_goals exact q2x hc _ _ _ fun v G => hk _ _ _
theorem q6y (hc : CNat cf) (site : Option Nat) (o : Oper) (st : St) (H : Heap) (k : SV → St → Heap → Option R) :
    opK E cf site o st H k = (opK E cf site o st H fun x s G => some (x, s, G)).bind fun p => k p.1 p.2.1 p.2.2 :=
  opK_to hc site o st H fun _ _ _ => rfl
theorem qfg (hc : CNat cf) (sites : List (Nat × Nat × Nat)) (rid : Nat) (ops : Array Oper) : ∀ (l : List Oper) (i : Nat) (st : St) (H : Heap) {k : St → Heap → Option R} {g : St → Heap → Option S} {h : S → Option R} (_ : ∀ s G, k s G = (g s G).bind h),
    opsK E cf sites rid ops l i st H k = (opsK E cf sites rid ops l i st H g).bind h := by
  intro l
  induction l with
  | nil => intro i st H k g h hk; exact hk _ _
  | cons o l ih =>
    intro i st H k g h hk
    unfold opsK
    split
    · exact opK_to hc _ _ _ _ fun x s G => ih _ _ _ hk
    · split
      · split
        · exact ih _ _ _ hk
        · rfl
      · rfl
theorem qff (hc : CNat cf) (sites : List (Nat × Nat × Nat)) (d : DInfo) (rid : Nat) (ops : Array Oper) (H0 : Heap) : ∀ (l : List Oper) (i : Nat) (r : List Rec) (st : St) (H : Heap) {k : St → Heap → Option R} {g : St → Heap → Option S} {h : S → Option R} (_ : ∀ s G, k s G = (g s G).bind h),
    opsD E cf sites d rid ops H0 l i r st H k = (opsD E cf sites d rid ops H0 l i r st H g).bind h := by
  intro l
  induction l with
  | nil => intro i r st H k g h hk; exact q1v (hk _ _) rfl
  | cons o l ih =>
    intro i r st H k g h hk
    unfold opsD
    split
    · exact opK_to hc _ _ _ _ fun x s G => ih _ _ _ _ hk
    · split
      · split
        · exact ih _ _ _ _ hk
        · rfl
      · rfl
theorem q8r {σ : Type} {G : σ → Heap → (σ → Heap → Option R) → Option R} {G' : σ → Heap → (σ → Heap → Option S) → Option S} {h : S → Option R}
    (hg : ∀ st H r r', (∀ s G, r s G = (r' s G).bind h) → G st H r = (G' st H r').bind h) : ∀ (m : Nat) (st : σ) (H : Heap), iter G m st H = (iter G' m st H).bind h
  | 0, _, _ => rfl
  | m + 1, st, H => hg st H _ _ (q8r hg m)
def FNat (F : (S : Type) → (AExit → St → Heap → Option S) → Option S) : Prop :=
  ∀ {R S : Type} {k : AExit → St → Heap → Option R} {g : AExit → St → Heap → Option S} {h : S → Option R}, (∀ e s G, k e s G = (g e s G).bind h) → F R k = (F S g).bind h
theorem qgp {k : AExit → Option R} {g : AExit → Option S} {h : S → Option R} (hk : ∀ e, k e = (g e).bind h) (i : Nat) : ∀ (outs : List AExit) (j : Nat), pickK k i outs j = (pickK g i outs j).bind h
  | [], _ => rfl
  | x :: r, j => q1v (hk x) (qgp hk i r (j + 1))
theorem qa8 {F : (S : Type) → (AExit → St → Heap → Option S) → Option S} (hF : FNat F) {an : Ann} {N : Nat} {k : AExit → St → Heap → Option R} {g : AExit → St → Heap → Option S} {h : S → Option R} (hk : ∀ e s G, k e s G = (g e s G).bind h) :
    bar an N F k = (bar an N F g).bind h := by
  unfold bar
  split
  · unfold bindX
    split
    · exact qgp (fun e => hk _ _ _) _ _ _
    · rfl
  · exact hF hk
theorem test_to {v : AV} {a b : Option R} {a' b' : Option S} {f : S → Option R} (h1 : a = a'.bind f) (h2 : b = b'.bind f) : A.test v a b = (A.test v a' b').bind f := by
  unfold A.test
  split
  · exact q1v h1 h2
  · rfl
theorem qgh {kh : LK} {r : Live → Heap → Option R} {r' : Live → Heap → Option S} {h : S → Option R} (hr : ∀ s G, r s G = (r' s G).bind h) {k : AExit → St → Heap → Option R} {g : AExit → St → Heap → Option S} (hk : ∀ e s G, k e s G = (g e s G).bind h) (e : AExit) (s : St) (G : Heap) :
    loopK kh r k e s G = (loopK kh r' g e s G).bind h := by
  unfold loopK
  cases e with
  | normal =>
    dsimp only
    split
    · exact hr _ _
    · rfl
  | exit _ => exact hk _ _ _
  | ret => exact hk _ _ _
theorem qgi {r : St → Heap → Option R} {r' : St → Heap → Option S} {h : S → Option R} (hr : ∀ s G, r s G = (r' s G).bind h) {k : AExit → St → Heap → Option R} {g : AExit → St → Heap → Option S} (hk : ∀ e s G, k e s G = (g e s G).bind h) (e : AExit) (s : St) (G : Heap) :
    loopS r k e s G = (loopS r' g e s G).bind h := by
  cases e with
  | normal => exact hr _ _
  | exit _ => exact hk _ _ _
  | ret => exact hk _ _ _
theorem seqK_to {r : St → Heap → Option R} {r' : St → Heap → Option S} {h : S → Option R} (hr : ∀ s G, r s G = (r' s G).bind h) {k : AExit → St → Heap → Option R} {g : AExit → St → Heap → Option S} (hk : ∀ e s G, k e s G = (g e s G).bind h) (e : AExit) (s : St) (G : Heap) :
    seqK r k e s G = (seqK r' g e s G).bind h := by
  cases e with
  | normal => exact hr _ _
  | exit _ => exact hk _ _ _
  | ret => exact hk _ _ _
theorem qcy {id : Nat} {h : S → Option R} {k : AExit → St → Heap → Option R} {g : AExit → St → Heap → Option S} (hk : ∀ e s G, k e s G = (g e s G).bind h) (e : AExit) (s : St) (G : Heap) :
    blockK id k e s G = (blockK id g e s G).bind h := by
  cases e with
  | normal => exact hk _ _ _
  | exit _ => exact q1v (hk _ _ _) (hk _ _ _)
  | ret => exact hk _ _ _
theorem q2o (hc : CNat cf) (n : Nat) (fa : FAnn) : ∀ (c : Code) (an : Ann) (R S : Type) (st : St) (H : Heap) {k : AExit → St → Heap → Option R} {g : AExit → St → Heap → Option S} {h : S → Option R} (_ : ∀ e s G, k e s G = (g e s G).bind h),
    exec E cf n fa c an R st H k = (exec E cf n fa c an S st H g).bind h := by
  intro c
  induction c with
  | skip => intro an R S st H k g h hk; exact hk _ _ _
  | label _ => intro an R S st H k g h hk; exact hk _ _ _
  | exit _ => intro an R S st H k g h hk; exact hk _ _ _
  | ret => intro an R S st H k g h hk; exact hk _ _ _
  | region rid ops draw =>
    intro an R S st H k g h hk
    unfold exec
    refine q1v ?_ ?_
    · split
      · exact qff hc _ _ _ _ _ _ _ _ _ _ fun s G => hk _ _ _
      · rfl
    · exact qfg hc _ _ _ _ _ _ _ fun s G => hk _ _ _
  | seq a b iha ihb =>
    intro an R S st H k g h hk
    unfold exec
    refine qa8 (fun hk => ?_) hk
    exact iha _ _ _ _ _ fun e s G => seqK_to (fun s G => ihb _ _ _ _ _ hk) hk _ _ _
  | cond c x y ihx ihy =>
    intro an R S st H k g h hk
    unfold exec
    split
    · refine qa8 (fun hk => ?_) hk
      exact test_to (ihx _ _ _ _ _ hk) (ihy _ _ _ _ _ hk)
    · rfl
  | block id c ih =>
    intro an R S st H k g h hk
    unfold exec
    refine qa8 (fun hk => ?_) hk
    exact ih _ _ _ _ _ fun e s G => qcy hk _ _ _
  | loop c ih =>
    intro an R S st H k g h hk
    unfold exec
    split
    · split
      · refine qa8 (fun hk => ?_) hk
        refine q8r ?_ _ _ _
        intro l H r r' hr
        exact ih _ _ _ _ _ fun e s G => qgh hr hk e s G
      · rfl
    · refine qa8 (fun hk => ?_) hk
      refine q8r ?_ _ _ _
      intro l H r r' hr
      exact ih _ _ _ _ _ fun e s G => qgi hr hk e s G
  | scope c ih =>
    intro an R S st H k g h hk
    unfold exec
    refine qa8 (fun hk => ?_) hk
    exact ih _ _ _ _ _ hk
  | rangeFunc g ps assign body _ _ =>
    intro an R S st H k g h hk
    unfold exec
    refine q1v ?_ rfl
    split
    · refine q1v rfl ?_
      refine q2x hc _ _ _ fun v G => ?_
      split
      · refine q1v rfl ?_
        split
        · exact hk _ _ _
        · exact hk _ _ _
      · rfl
    · rfl
  | goto _ => intro an R S st H k g h hk; rfl
  | refuse _ => intro an R S st H k g h hk; rfl
theorem q3w {st : St} {H : Heap} : ∀ (rs : List ResultVar) (acc : List AV) {k : List AV → Option R} {g : List AV → Option S} {h : S → Option R} (_ : ∀ vs, k vs = (g vs).bind h),
    q1l E st H rs acc k = (q1l E st H rs acc g).bind h
  | [], _, _, _, _, hk => hk _
  | r :: rs, acc, k, g, h, hk => by
    unfold q1l
    split
    · exact q3w rs _ hk
    · rfl
theorem roundK_to {id : Nat} {k : AV → Heap → Option R} {g : AV → Heap → Option S} {h : S → Option R} (hk : ∀ v G, k v G = (g v G).bind h) (e : AExit) (H : Heap) : roundK id k e H = (roundK id g e H).bind h := by
  unfold roundK
  split
  · refine q1v ?_ rfl
    split
    · exact hk _ _
    · exact hk _ _
  · rfl
theorem qfp (hc : CNat cf) (n id : Nat) (args : List AV) (H : Heap) {k : AV → Heap → Option R} {g : AV → Heap → Option S} {h : S → Option R} (hk : ∀ v G, k v G = (g v G).bind h) :
    q40 E cf n id args H k = (q40 E cf n id args H g).bind h := by
  unfold q40
  split
  · refine q1v ?_ rfl
    refine q2o hc _ _ _ _ _ _ _ _ fun e s G => ?_
    split
    · split
      · refine q1v ?_ rfl
        exact q2o hc _ _ _ _ _ _ _ _ fun e s G => roundK_to hk e G
      · rfl
    · rfl
  · rfl
theorem q1z : ∀ n, CNat (callF E n)
  | 0 => fun _ _ _ _ _ => rfl
  | n + 1 => fun R f args H k => by
    unfold callF
    refine q1v (qfp (q1z n) _ _ _ _ fun _ _ => rfl) ?_
    split
    · split
      · split
        · refine q2o (q1z n) _ _ _ _ _ _ _ _ fun e s G => ?_
          cases e with
          | normal => exact q3w _ _ fun vs => rfl
          | exit _ => rfl
          | ret => exact q3w _ _ fun vs => rfl
        · rfl
      · rfl
    · rfl
end
end Go.Den

/- DEN, part N: calls and the frame's own variables. -/
namespace Go.Den
open Go.RowKit
def Ctx.noLoc (C : Ctx) : Prop := ∀ b s, C.κ b ≠ .loc s
def Ctx.strip (C : Ctx) : Ctx := { C with κ := fun b => match C.κ b with | .loc _ => .oth | x => x }
def Ctx.back (C C' : Ctx) : Ctx := { C' with κ := fun b => match C.κ b with | .loc s => .loc s | _ => C'.κ b }
section
variable {E : Env} {C C' : Ctx} {b : Nat}
theorem q66 {b : Nat} {r : Role} (h : C.κ b = r) (hr : ∀ s, r ≠ .loc s) : C.strip.κ b = r := by
  show (match C.κ b with | .loc _ => Role.oth | x => x) = r
  rw [h]
  cases r <;> first | rfl | exact absurd rfl (hr _)
theorem q65 {b s : Nat} (h : C.κ b = .loc s) : C.strip.κ b = .oth := by
  show (match C.κ b with | .loc _ => Role.oth | x => x) = .oth
  rw [h]
theorem q35 : C.strip.noLoc := fun b s => by
  show (match C.κ b with | .loc _ => Role.oth | x => x) ≠ .loc s
  cases C.κ b <;> simp
theorem q3o : EvV C C.strip :=
  ⟨Nat.le_refl _, fun b _ h => ⟨rfl, q66 h (by simp)⟩, Nat.le_refl _, fun id _ v' sz' ty' es' h => ⟨v', es', h, Nat.le_refl _, fun _ => ⟨rfl, fun cells t fr h => ⟨cells, t, fr, h, rfl⟩⟩⟩,
    fun _ _ o _ h => ⟨⟨o, h, rfl⟩, rfl⟩⟩
theorem HR.evV (hr : HR E C) (ev : EvV C C') (hH : C'.H = C.H) (hw : C'.w = C.w) (hρ : C'.ρ = C.ρ) (hκ : ∀ b id, C.κ b = .obj id → C'.κ b = .obj id) (hn : ∀ b, C.κ b = .oth → C'.w.heap.size ≤ b → C'.κ b = .oth) : HR E C' := by
  refine ⟨fun id v sz ty es h => ?_, fun id o ho h => ?_, fun b hb => ?_, fun g cs h => (hr.glob g cs h).evV ev, fun id v sz ty es h => by rw [hρ]; exact hr.al id v sz ty es (hH ▸ h)⟩
  · rw [hH] at h
    obtain ⟨g0, g1, g2, cur, fr, us, g3, g4, g5, g6⟩ := hr.row id v sz ty es h
    exact ⟨g0, g1, by rw [hρ]; exact hκ _ _ g2, cur, fr, us, by rw [hρ, hw]; exact g3, g4, g5.evV ev, by rw [hρ]; exact g6⟩
  · rw [hH] at h
    obtain ⟨g0, g1⟩ := hr.oth id o ho h
    exact ⟨by rw [hρ]; exact hκ _ _ g0, by rw [hρ, hw]; exact g1.evV ev⟩
  · exact hn b (hr.new b (by rw [← hw]; exact hb)) hb
theorem q64 (hr : HR E C) : HR E C.strip :=
  hr.evV q3o rfl rfl rfl (fun b id h => q66 h (by simp)) (fun b h _ => q66 h (by simp))
theorem qg0 (hr : HR E C) (h : Ev C.strip C') : EvV C' (C.back C') :=
  ⟨Nat.le_refl _, fun b _ hi => ⟨rfl, by
    show (match C.κ b with | .loc s => Role.loc s | _ => C'.κ b) = .imm
    cases hc : C.κ b with
    | loc s =>
      exfalso
      have hb : b < C.w.heap.size := by
        rcases Nat.lt_or_ge b C.w.heap.size with h1 | h1
        · exact h1
        · rw [hr.new b h1] at hc; cases hc
      have := (h.keep b hb (.inr (q65 hc))).2
      rw [hi, q65 hc] at this
      cases this
    | _ => exact hi⟩, Nat.le_refl _, fun id _ v' sz' ty' es' h => ⟨v', es', h, Nat.le_refl _, fun _ => ⟨rfl, fun cells t fr h => ⟨cells, t, fr, h, rfl⟩⟩⟩,
    fun _ _ o _ h => ⟨⟨o, h, rfl⟩, rfl⟩⟩
theorem qej (h : ∀ s, C.κ b ≠ .loc s) : (C.back C').κ b = C'.κ b := by
  show (match C.κ b with | .loc s => Role.loc s | _ => C'.κ b) = C'.κ b
  cases hc : C.κ b with
  | loc s => exact absurd hc (h s)
  | _ => rfl
theorem back_loc {s : Nat} (h : C.κ b = .loc s) : (C.back C').κ b = .loc s := by
  show (match C.κ b with | .loc s => Role.loc s | _ => C'.κ b) = .loc s
  rw [h]
theorem loc_lt (hr : HR E C) {b s : Nat} (h : C.κ b = .loc s) : b < C.w.heap.size := by
  rcases Nat.lt_or_ge b C.w.heap.size with h1 | h1
  · exact h1
  · rw [hr.new b h1] at h; cases h
theorem back_ok (hr : HR E C) (hr' : HR E C') (h : Ev C.strip C') : EvL C (C.back C') ∧ HR E (C.back C') := by
  have hloc : ∀ b s, C.κ b = .loc s → C'.κ b = .oth ∧ C'.w.heap[b]? = C.w.heap[b]? := fun b s hb => by
    have := h.keep b (loc_lt hr hb) (.inr (q65 hb))
    exact ⟨this.2.trans (q65 hb), this.1⟩
  have hobj : ∀ b id, C'.κ b = .obj id → ∀ s, C.κ b ≠ .loc s := fun b id h1 s h2 => by
    rw [(hloc b s h2).1] at h1
    cases h1
  refine ⟨⟨⟨h.os, h.tape, h.output, h.size, ?_, h.hlen, h.rows, h.oths⟩, ?_⟩, ?_⟩
  · intro b hb hk
    have hn : ∀ s, C.κ b ≠ .loc s := fun s e => by rcases hk with hk | hk <;> rw [hk] at e <;> cases e
    have hs : C.strip.κ b = C.κ b := q66 rfl hn
    obtain ⟨h1, h2⟩ := h.keep b hb (by rw [hs]; exact hk)
    exact ⟨h1, (qej hn).trans (h2.trans hs)⟩
  · intro b hb s hs
    exact ⟨(hloc b s hs).2, back_loc hs⟩
  · refine hr'.evV (qg0 hr h) rfl rfl rfl (fun b id hb => (qej (hobj b id hb)).trans hb) fun b ho hb => ?_
    exact (qej (fun s e => by
      have := loc_lt hr e
      have h2 : C.w.heap.size ≤ C'.w.heap.size := h.size
      have h3 : (C.back C').w.heap.size = C'.w.heap.size := rfl
      omega)).trans ho
def FW (ro : Option Nat) : Fence := { fn := fun _ => True, depth := none, alive := false, round := ro }
theorem qaa {ro : Option Nat} {n : Nat} {P : Program} {f : FuncId} {args : Array Value} {w : World} {R : Ending → World → Prop} (h : Calls P f args w R) : CallsIn (FW ro) n P f args w R :=
  callsIn_wide.2 h
def Lands (P : Program) (f : FuncId) (us : Array Value) (w : World) (R : Value → World → Prop) : Prop :=
  ((callFunc f us).run P w = .ok (.enter f us) w ∧ Calls P f us w fun e w' => ∃ u, e = .returned u ∧ R u w') ∨ ∃ u w', (callFunc f us).run P w = .ok (.value u) w' ∧ R u w'
theorem Lands.mono {P : Program} {f : FuncId} {us : Array Value} {w : World} {R R' : Value → World → Prop} (h : Lands P f us w R) (hr : ∀ u w, R u w → R' u w) : Lands P f us w R' := by
  rcases h with ⟨h1, h2⟩ | ⟨u, w', h1, h2⟩
  · exact .inl ⟨h1, Calls.mono h2 fun e w' ⟨u, h3, h4⟩ => ⟨u, h3, hr _ _ h4⟩⟩
  · exact .inr ⟨u, w', h1, hr _ _ h2⟩
def Gives (E : Env) (C : Ctx) (v : AV) (H' : Heap) (u : Value) (w' : World) : Prop :=
  ∃ C' : Ctx, C'.w = w' ∧ C'.H = H' ∧ V C' false v u ∧ HR E C' ∧ Ev C C' ∧ C'.noLoc
def GivesL (E : Env) (C : Ctx) (v : AV) (H' : Heap) (u : Value) (w' : World) : Prop :=
  ∃ C' : Ctx, C'.w = w' ∧ C'.H = H' ∧ V C' false v u ∧ HR E C' ∧ EvL C C'
def YLands (E : Env) (C : Ctx) (id : Nat) (us : Array Value) (R : Value → World → Prop) : Prop :=
  (∃ L, C.H[id]? = some (.loop L)) ∧ ∃ f tmps assign body, (Instr.yield (C.ρ id).1 us).run E.P C.w = .ok (.round (C.ρ id).1 f tmps assign body) C.w ∧
    RoundIn (FW none) 0 E.P (C.ρ id).1 f tmps assign body C.w fun e w' => ∃ u, e = .returned u ∧ R u w'
structure CallOK (E : Env) (cf : CallFn) : Prop where
  call : ∀ (f : FuncId) (args : List AV) (C : Ctx) (us : Array Value) (v : AV) (H' : Heap), Nat.blt f yBase = true → cf (AV × Heap) f args C.H (fun v G => some (v, G)) = some (v, H') → HR E C → C.noLoc → Vs C false args us.toList →
    Lands E.P f us C.w (Gives E C v H')
  yield : ∀ (id : Nat) (args : List AV) (C : Ctx) (us : Array Value) (v : AV) (H' : Heap), cf (AV × Heap) (yBase + id) args C.H (fun v G => some (v, G)) = some (v, H') → HR E C → C.noLoc → Vs C false args us.toList →
    YLands E C id us (Gives E C v H')
structure CallKOK (E : Env) (cf : CallFn) : Prop where
  call : ∀ (f : FuncId) (args : List AV) (C : Ctx) (us : Array Value) (v : AV) (H' : Heap), callK E cf f args C.H (fun v G => some (v, G)) = some (v, H') → HR E C → Vs C false args us.toList →
    Lands E.P f us C.w (GivesL E C v H')
  yield : ∀ (id : Nat) (args : List AV) (C : Ctx) (us : Array Value) (v : AV) (H' : Heap), cf (AV × Heap) (yBase + id) args C.H (fun v G => some (v, G)) = some (v, H') → HR E C → Vs C false args us.toList →
    YLands E C id us (GivesL E C v H')
theorem YLands.mono {E : Env} {C : Ctx} {id : Nat} {us : Array Value} {R R' : Value → World → Prop} (h : YLands E C id us R) (hr : ∀ u w, R u w → R' u w) : YLands E C id us R' := by
  obtain ⟨h0, f, tmps, assign, body, h1, h2⟩ := h
  exact ⟨h0, f, tmps, assign, body, h1, h2.mono fun e w' ⟨u, h3, h4⟩ => ⟨u, h3, hr _ _ h4⟩⟩
theorem q4s (hr : HR E C) {v : AV} {H' : Heap} {u : Value} {w' : World} (h : Gives E C.strip v H' u w') : GivesL E C v H' u w' := by
  obtain ⟨C', h1, h2, h3, h4, h5, h6⟩ := h
  obtain ⟨g1, g2⟩ := back_ok hr h4 h5
  exact ⟨C.back C', h1, h2, h3.evV (qg0 hr h5), g2, g1⟩
theorem qin (hr : HR E C) {id : Nat} {us : Array Value} {v : AV} {H' : Heap} (h : YLands E C.strip id us (Gives E C.strip v H')) : YLands E C id us (GivesL E C v H') :=
  YLands.mono (C := C) h fun u w hg => q4s hr hg
def Post (E : Env) (C : Ctx) (st' : St) (H' : Heap) (a' : Act) (w' : World) : Prop :=
  ∃ C' lam', C'.w = w' ∧ C'.H = H' ∧ HR E C' ∧ Ev C C' ∧ FrameR C' lam' st' a'
variable {lam : Nat → Nat} {st : St} {a : Act} {o : Oper} {Q : Exit → Act → World → Prop} {ro : Option Nat}
theorem qdc {P : Program} {c : Call} (ho : o.op = .defer c) {x : Next} {w w' : World} {ρ : Operand → Value} (h : (execOp ρ o).run P w = .ok x w') : ∃ d, x = .defer d := by
  unfold execOp at h
  simp only [ho] at h
  rw [Sem.run_bind] at h
  cases hr : (resolve ρ c o.type).run P w with
  | ok d w1 =>
    rw [hr] at h
    simp only [Result.andThen_ok, Sem.run_pure] at h
    injection h with h
    exact ⟨_, h.symm⟩
  | halt x w1 => rw [hr] at h; cases h
theorem q4h {P : Program} {n : Nat} {x : Next} {w w' : World} {next : Act → World → Prop} (hrun : (execOp a.eval o).run P w = .ok x w') (hx : ∀ d, x ≠ .defer d) (h : o.uponIn (FW ro) n P a next Q (.ok x w')) : o.wpIn (FW ro) n P a w next Q := by
  refine ⟨fun _ _ => trivial, ?_⟩
  rw [Oper.semAt_eq _ _ _ fun c ho => by
    obtain ⟨d, hd⟩ := qdc ho hrun
    exact hx d hd, hrun]
  exact h
theorem qh9 {u : Value} {v : AV} (hf : FrameR C lam st a) (hrun : (execOp a.eval o).run E.P C.w = .ok (.value u) C'.w) (ev : EvL C C') (hr' : HR E C') (hv : V C' false v u) :
    o.wpIn (FW ro) 0 E.P a C.w (Post E C (stPut st o.dst (.val v)) C'.H) Q := by
  refine q4h hrun (fun _ e => by cases e) ?_
  exact ⟨C', lam, rfl, rfl, hr', ev.ev, (hf.ev ev).put hv⟩
theorem qfq (hf : FrameR C lam st a) (hrun : (execOp a.eval o).run E.P C.w = .ok .skip C'.w) (ev : EvL C C') (hr' : HR E C') :
    o.wpIn (FW ro) 0 E.P a C.w (Post E C (stPut st o.dst (.val .undef)) C'.H) Q := by
  refine q4h hrun (fun _ e => by cases e) ?_
  exact ⟨C', lam, rfl, rfl, hr', ev.ev, (hf.ev ev).put (.undef _)⟩
theorem lp_wp {s off : Nat} (hr : HR E C) (hf : FrameR C lam st a) (hrun : (execOp a.eval o).run E.P C.w = .ok (.value (.pointer (some ⟨lam s, off, none⟩))) C.w) (hs : st.var s ≠ none) :
    o.wpIn (FW ro) 0 E.P a C.w (Post E C (stPut st o.dst (.lp s off)) C.H) Q := by
  refine q4h hrun (fun _ e => by cases e) ?_
  exact ⟨C, lam, rfl, rfl, hr, Ev.refl C, hf.put ⟨rfl, hs⟩⟩
theorem lands_wp {f : FuncId} {us : Array Value} {v : AV} {H' : Heap} (hf : FrameR C lam st a) (hrun : (execOp a.eval o).run E.P C.w = (callFunc f us).run E.P C.w) (h : Lands E.P f us C.w (GivesL E C v H')) :
    o.wpIn (FW ro) 0 E.P a C.w (Post E C (stPut st o.dst (.val v)) H') Q := by
  rcases h with ⟨h1, h2⟩ | ⟨u, w', h1, C', rfl, rfl, h4, h5, h6⟩
  · refine q4h (hrun.trans h1) (fun _ e => by cases e) ?_
    rw [Oper.uponIn_enter]
    refine ⟨fun e => by simp [FW] at e, qaa (Calls.mono h2 fun e w' h3 => ?_)⟩
    obtain ⟨u, rfl, C', rfl, rfl, h4, h5, h6⟩ := h3
    exact ⟨C', lam, rfl, rfl, h5, h6.ev, (hf.ev h6).put h4⟩
  · refine q4h (hrun.trans h1) (fun _ e => by cases e) ?_
    exact ⟨C', lam, rfl, rfl, h5, h6.ev, (hf.ev h6).put h4⟩
theorem yield_wp {id : Nat} {us : Array Value} {v : AV} {H' : Heap} (hf : FrameR C lam st a) (hrun : (execOp a.eval o).run E.P C.w = (Instr.yield (C.ρ id).1 us).run E.P C.w) (h : YLands E C id us (GivesL E C v H')) :
    o.wpIn (FW ro) 0 E.P a C.w (Post E C (stPut st o.dst (.val v)) H') Q := by
  obtain ⟨_, f, tmps, assign, body, h1, h2⟩ := h
  refine q4h (hrun.trans h1) (fun _ e => by cases e) ?_
  rw [Oper.uponIn_round]
  refine ⟨fun e => by simp [FW] at e, RoundIn.mono (F := FW ro) h2 fun e w' h3 => ?_⟩
  obtain ⟨u, rfl, C', rfl, rfl, h4, h5, h6⟩ := h3
  exact ⟨C', lam, rfl, rfl, h5, h6.ev, (hf.ev h6).put h4⟩
end
end Go.Den

/- DEN, part O: the frame's own variables: laid, written, read. -/
namespace Go.Den
open Go.RowKit
section
variable {E : Env} {C C' : Ctx} {lam : Nat → Nat} {st : St} {a : Act} {o : Oper} {Q : Exit → Act → World → Prop} {ro : Option Nat} {q : Bool}
theorem q1x {s s' : Nat} {cs : List AV} (h : s ≠ s') : (st.setVar s cs).var s' = st.var s' := Tr.get_set_ne h
theorem qef {s : Nat} {cs x : List AV} (h : (st.setVar s cs).var s = some x) : x = cs := by
  rcases Tr.get_set_self (z := (none : Option (List AV))) (t := st.L) (i := s) (x := some cs) with h1 | h1
  · have : (some cs : Option (List AV)) = some x := h1.symm.trans h
    injection this with this
    exact this.symm
  · have : (none : Option (List AV)) = some x := h1.1.symm.trans h
    cases this
theorem q7l {s : Nat} {cs ds : List AV} (h : st.var s = some ds) : (st.setVar s cs).var s = some cs := by
  rcases Tr.get_set_self (z := (none : Option (List AV))) (t := st.L) (i := s) (x := some cs) with h1 | h1
  · exact h1
  · have : (none : Option (List AV)) = some ds := h1.2.symm.trans h
    cases this
theorem qak {s t : Nat} {cs : List AV} : (st.setVar s cs).get t = st.get t := rfl
def Ctx.lay (C : Ctx) (s : Nat) (w' : World) : Ctx := { C with w := w', κ := fun b => if b = C.w.heap.size then .loc s else C.κ b }
theorem lay_ok (hr : HR E C) {s : Nat} {w' : World} {b : Obj} (hs : Same C.w w') (hheap : w'.heap = C.w.heap.push b) : EvL C (C.lay s w') ∧ HR E (C.lay s w') := by
  have hold : ∀ i, i < C.w.heap.size → w'.heap[i]? = C.w.heap[i]? := fun i hi => by rw [hheap, Array.getElem?_push, if_neg (by omega)]
  have hne : ∀ i, i < C.w.heap.size → (C.lay s w').κ i = C.κ i := fun i hi => by show (if i = _ then _ else _) = _; rw [if_neg (by omega)]
  have ev : EvL C (C.lay s w') := by
    refine ⟨⟨hs.os, hs.tape, hs.output, by show _ ≤ w'.heap.size; rw [hheap]; simp, fun i hi _ => ⟨hold i hi, hne i hi⟩, Nat.le_refl _, ?_, ?_⟩, fun i hi s hl => ⟨hold i hi, (hne i hi).trans hl⟩⟩
    · intro i hi v sz ty es h
      refine ⟨v, es, h, Nat.le_refl _, fun _ => ⟨rfl, fun cells t f hc => ⟨cells, t, f, ?_, rfl⟩⟩⟩
      obtain ⟨_, _, _, cur, fr, us, hcur, _⟩ := hr.row i v sz ty es h
      rw [← hold _ (Array.getElem?_eq_some_iff.1 hcur).1]
      exact hc
    · exact fun i hi o _ h => ⟨⟨o, h, rfl⟩, rfl⟩
  refine ⟨ev, hr.step ev.ev ?_ ?_ ?_⟩
  · intro i v sz ty es h
    obtain ⟨_, _, hk, cur, fr, us, hcur, _⟩ := hr.row i v sz ty es h
    have hlt := (Array.getElem?_eq_some_iff.1 hcur).1
    exact .inl ⟨h, rfl, (hne _ hlt).trans hk, hold _ hlt⟩
  · intro i o ho h
    obtain ⟨hk, hov⟩ := hr.oth i o ho h
    obtain ⟨ob, hcur⟩ := hov.some ho
    have hlt := (Array.getElem?_eq_some_iff.1 hcur).1
    exact .inl ⟨h, rfl, (hne _ hlt).trans hk, hold _ hlt⟩
  · intro i hi
    have hi' : C.w.heap.size + 1 ≤ i := by
      have : (C.lay s w').w.heap.size = C.w.heap.size + 1 := by show w'.heap.size = _; rw [hheap]; simp
      omega
    show (if i = _ then _ else _) = _
    rw [if_neg (by omega)]
    exact hr.new i (by omega)
theorem lay_wp (hr : HR E C) (hf : FrameR C lam st a) {s : Nat} {v : AV} {uv : Value} {x : SV} {st' : St} {H' : Heap} {t : TypeId} (h : layK s v.cells st C.H (fun x s G => some (x, s, G)) = some (x, st', H')) (hd : v.isDef = true) (hv : V C q v uv)
    (hrun : (execOp a.eval o).run E.P C.w = .ok (.value (.pointer (some ⟨C.w.heap.size, 0, none⟩))) (C.w.alloc (.cells uv.cells t))) : o.wpIn (FW ro) 0 E.P a C.w (Post E C (stPut st' o.dst x) H') Q := by
  unfold layK at h
  split at h
  · rename_i hn
    split at h
    · rename_i ds hds
      simp only [Option.some.injEq, Prod.mk.injEq] at h
      obtain ⟨rfl, rfl, rfl⟩ := h
      have := qef hds
      subst this
      obtain ⟨ev, hr'⟩ := lay_ok (s := s) (w' := C.w.alloc (.cells uv.cells t)) hr ⟨rfl, rfl, rfl⟩ rfl
      obtain ⟨hvc, h1⟩ := hv.cells hd
      have hf' := hf.ev ev
      have hF : FrameR (C.lay s (C.w.alloc (.cells uv.cells t))) (fun i => if i = s then C.w.heap.size else lam i) (st.setVar s v.cells) a := by
        refine ⟨hf.size, hf'.defers, fun i => ?_, fun s' cs hs' => ?_⟩
        · have hi := hf'.slots i
          unfold SlotOk at hi ⊢
          rw [qak]
          split at hi
          · exact hi
          · rename_i s2 off _
            have hne : s2 ≠ s := fun e => hi.2 (by rw [e]; exact hn)
            refine ⟨by simp only [if_neg hne]; exact hi.1, ?_⟩
            rw [q1x (fun e => hne e.symm)]
            exact hi.2
          · trivial
        · by_cases e : s' = s
          · subst e
            rw [hds] at hs'
            injection hs' with hs'
            subst hs'
            simp only [if_true]
            have hsz : (C.w.alloc (.cells uv.cells t)).heap.size = C.w.heap.size + 1 := by simp
            refine ⟨by simp [Ctx.lay], by show _ < (C.w.alloc (.cells uv.cells t)).heap.size; omega, uv.cells, t, (0, 0), by show (C.w.heap.push _)[_]? = _; simp, fun j _ h => by omega, hvc.weakenB.ev ev.ev, h1⟩
          · simp only [if_neg e]
            exact hf'.vars s' cs (by rw [← hs', q1x (fun e' => e e'.symm)])
      refine q4h hrun (fun _ e => by cases e) ?_
      refine ⟨C.lay s (C.w.alloc (.cells uv.cells t)), _, rfl, rfl, hr', ev.ev, hF.put (x := .lp s 0) ⟨by simp, by rw [hds]; simp⟩⟩
    · simp at h
  · simp at h
theorem qgf (hf : FrameR C lam st a) {s off : Nat} {cs : List AV} {t : TypeId} {ag : Bool} {sz : Nat} {v : AV} (hs : st.var s = some cs) (hag : E.isAgg t = some ag) (hsz : E.size t = some sz) (h : A.ofList ag sz cs off = some v) :
    ∃ u, (loadVar t ⟨lam s, off, none⟩).run E.P C.w = .ok u C.w ∧ V C false v u := by
  obtain ⟨h1, h2, cur, ty, fr, h3, h4, h5, h6⟩ := hf.vars s cs hs
  exact q6t (a := ⟨lam s, off, none⟩) hag hsz (q8u h) (h5.drop off) (fun c hc => h6 c (List.mem_of_mem_drop hc)) fun j u hu => by
    rw [List.getElem?_drop, Array.getElem?_toList] at hu
    rw [Addr.add_lit]
    simp only [World.cell?, h3]
    simpa using hu
theorem loc_store (hr : HR E C) (hf : FrameR C lam st a) {s off : Nat} {cs : List AV} {t : TypeId} {sz : Nat} {v : AV} {uv : Value} (hs : st.var s = some cs) (hsz : E.size t = some sz) (hfit : A.fits sz v = true) (hle : off + v.cells.length ≤ cs.length) (hv : V C q v uv) :
    ∃ C', (storeVar t ⟨lam s, off, none⟩ uv).run E.P C.w = .ok () C'.w ∧ C'.H = C.H ∧ HR E C' ∧ Ev C C' ∧ FrameR C' lam (st.setVar s (A.splice cs off v.cells)) a := by
  obtain ⟨hd, hl, h1⟩ := qg8 hfit
  obtain ⟨hvc, _⟩ := hv.cells hd
  obtain ⟨k1, k2, cur, ty, fr, k3, k4, k5, k6⟩ := hf.vars s cs hs
  have hwl : uv.cells.toList.length = v.cells.length := hvc.length
  have hcl : cur.size = cs.length := by rw [← Array.length_toList]; exact k5.length
  have hrun : (storeVar t ⟨lam s, off, none⟩ uv).run E.P C.w = .ok () (C.w.setCells (lam s) off uv.cells.toList) := by
    have hcs : uv.cells.size = sz := by rw [← Array.length_toList, hwl, hl]
    simp only [storeVar, Sem.run_bind, Sem.run_pure, Result.andThen_ok, q13 hsz, hcs, ne_eq, not_true_eq_false, if_false]
    have := run_storeCells_cells (P := E.P) (lam s) off uv.cells.toList 0 C.w (fun j hj => by
      simp only [World.cell?, k3, Option.isSome_none, Bool.false_eq_true, if_false, Nat.add_zero]
      rw [Array.getElem?_eq_getElem (by omega)]
      rfl) (fun j hj => by
      simp only [World.frozen?, k3, Nat.add_zero]
      have := k4 (off + j) (by omega)
      simp only [Bool.and_eq_false_iff, decide_eq_false_iff_not]
      rcases Nat.lt_or_ge (off + j) fr.1 with h | h
      · exact .inl (by omega)
      · exact .inr (fun h2 => this ⟨h, h2⟩)) (hvc.one h1)
    simpa using this
  obtain ⟨cur', g1, g2, g3⟩ := q2u (lam s) uv.cells.toList off C.w cur ty fr k3 (by rw [hwl, hcl]; exact hle)
  obtain ⟨f1, f2, f3, f4⟩ := q2f (lam s) uv.cells.toList off C.w
  have hot : ∀ b, b ≠ lam s → (C.w.setCells (lam s) off uv.cells.toList).heap[b]? = C.w.heap[b]? := fun b hb => q2g _ _ _ _ _ hb
  have hobj : ∀ b id, C.κ b = .obj id → b ≠ lam s := fun b id hb e => by rw [e, k1] at hb; cases hb
  have ev : Ev C { C with w := C.w.setCells (lam s) off uv.cells.toList } := by
    refine ⟨f2, f3, f4, Nat.le_of_eq f1.symm, fun b hb hk => ⟨hot b fun e => ?_, rfl⟩, Nat.le_refl _, ?_, ?_⟩
    · rw [e, k1] at hk
      rcases hk with hk | hk <;> cases hk
    · intro i hi v sz ty es h
      refine ⟨v, es, h, Nat.le_refl _, fun _ => ⟨rfl, fun cells t f hc => ⟨cells, t, f, ?_, rfl⟩⟩⟩
      rw [← hot _ (hobj _ i (hr.row i v sz ty es h).2.2.1)]
      exact hc
    · exact fun i hi o _ h => ⟨⟨o, h, rfl⟩, rfl⟩
  refine ⟨{ C with w := C.w.setCells (lam s) off uv.cells.toList }, hrun, rfl, hr.step ev ?_ ?_ ?_, ev, ⟨hf.size, Marks.step (C := C) (C' := { C with w := C.w.setCells (lam s) off uv.cells.toList }) (Nat.le_of_eq f1.symm) (fun b s2 _ hk hb => ⟨hot b (fun e => by
    rw [e, k3] at hb
    injection hb with hb
    cases hb), hk⟩) hf.defers, fun i => ?_, fun s' cs' hs' => ?_⟩⟩
  · intro i v sz ty es h
    exact .inl ⟨h, rfl, (hr.row i v sz ty es h).2.2.1, hot _ (hobj _ i (hr.row i v sz ty es h).2.2.1)⟩
  · intro i o ho h
    exact .inl ⟨h, rfl, (hr.oth i o ho h).1, hot _ (hobj _ i (hr.oth i o ho h).1)⟩
  · intro b hb
    exact hr.new b (by rw [← f1]; exact hb)
  · have hi := hf.slots i
    unfold SlotOk at hi ⊢
    rw [qak]
    split at hi
    · exact hi.ev ev
    · rename_i s2 o2 _
      refine ⟨hi.1, ?_⟩
      by_cases e : s2 = s
      · rw [e, q7l hs]; simp
      · rw [q1x (fun e' => e e'.symm)]; exact hi.2
    · trivial
  · by_cases e : s' = s
    · subst e
      rw [q7l hs] at hs'
      injection hs' with hs'
      subst hs'
      refine ⟨k1, by show _ < _; rw [f1]; exact k2, cur', ty, fr, g1, by rw [g2]; exact k4, ?_, q3n k6 h1⟩
      have hsp := (k5.splice hvc.weakenB off).ev ev
      have : cur'.toList = cur.toList.take off ++ uv.cells.toList ++ cur.toList.drop (off + uv.cells.toList.length) := by
        apply List.ext_getElem?
        intro j
        rw [q76 (by rw [Array.length_toList]; omega)]
        simp only [Array.getElem?_toList, g3]
      rw [this]
      exact hsp
    · rw [q1x (fun e' => e e'.symm)] at hs'
      obtain ⟨m1, m2, cur2, ty2, fr2, m3, m4, m5, m6⟩ := hf.vars s' cs' hs'
      have hne : lam s' ≠ lam s := fun e2 => by
        rw [e2, k1] at m1
        injection m1 with m1
        exact e m1.symm
      exact ⟨m1, by show _ < _; rw [f1]; exact m2, cur2, ty2, fr2, (hot _ hne).trans m3, m4, m5.ev ev, m6⟩
end
end Go.Den

/- DEN, part Lf: a slice's literal that never changes. -/
namespace Go.Den
open Go.RowKit
section
variable {E : Env} {C : Ctx} {p : Bool}
def Ctx.fixed (C : Ctx) (w' : World) : Ctx := { C with w := w', κ := fun b => if b = C.w.heap.size then .imm else C.κ b }
theorem qg9 (hr : HR E C) {w' : World} {b : Obj} (hs : Same C.w w') (hheap : w'.heap = C.w.heap.push b) : EvL C (C.fixed w') ∧ HR E (C.fixed w') := by
  have hold : ∀ i, i < C.w.heap.size → w'.heap[i]? = C.w.heap[i]? := fun i hi => by rw [hheap, Array.getElem?_push, if_neg (by omega)]
  have hne : ∀ i, i < C.w.heap.size → (C.fixed w').κ i = C.κ i := fun i hi => by show (if i = _ then _ else _) = _; rw [if_neg (by omega)]
  have ev : EvL C (C.fixed w') := by
    refine ⟨⟨hs.os, hs.tape, hs.output, by show _ ≤ w'.heap.size; rw [hheap]; simp, fun i hi _ => ⟨hold i hi, hne i hi⟩, Nat.le_refl _, ?_, ?_⟩, fun i hi s hl => ⟨hold i hi, (hne i hi).trans hl⟩⟩
    · intro i hi v sz ty es h
      refine ⟨v, es, h, Nat.le_refl _, fun _ => ⟨rfl, fun cells t f hc => ⟨cells, t, f, ?_, rfl⟩⟩⟩
      obtain ⟨_, _, _, cur, fr, us, hcur, _⟩ := hr.row i v sz ty es h
      rw [← hold _ (Array.getElem?_eq_some_iff.1 hcur).1]
      exact hc
    · exact fun i hi o _ h => ⟨⟨o, h, rfl⟩, rfl⟩
  refine ⟨ev, hr.step ev.ev ?_ ?_ ?_⟩
  · intro i v sz ty es h
    obtain ⟨_, _, hk, cur, fr, us, hcur, _⟩ := hr.row i v sz ty es h
    have hlt := (Array.getElem?_eq_some_iff.1 hcur).1
    exact .inl ⟨h, rfl, (hne _ hlt).trans hk, hold _ hlt⟩
  · intro i o ho h
    obtain ⟨hk, hov⟩ := hr.oth i o ho h
    obtain ⟨ob, hcur⟩ := hov.some ho
    have hlt := (Array.getElem?_eq_some_iff.1 hcur).1
    exact .inl ⟨h, rfl, (hne _ hlt).trans hk, hold _ hlt⟩
  · intro i hi
    have hi' : C.w.heap.size + 1 ≤ i := by
      have : (C.fixed w').w.heap.size = C.w.heap.size + 1 := by show w'.heap.size = _; rw [hheap]; simp
      omega
    show (if i = _ then _ else _) = _
    rw [if_neg (by omega)]
    exact hr.new i (by omega)
theorem V.leaf {v : AV} {u : Value} (h : V C p v u) (hl : v.leaf = true) : V C true v u := by
  cases h <;> first | (cases hl; done) | (constructor <;> assumption)
theorem Vs.leaf : ∀ {vs : List AV} {us : List Value}, Vs C p vs us → (∀ v ∈ vs, v.leaf = true) → Vs C true vs us
  | [], _, h, _ => by cases h; exact .nil _
  | v :: vs, _, h, hl => by
    cases h with
    | cons _ _ u _ us h1 h2 => exact .cons _ _ _ _ _ (h1.leaf (hl v List.mem_cons_self)) (Vs.leaf h2 fun x hx => hl x (List.mem_cons_of_mem _ hx))
theorem qba {t e : TypeId} {n sz : Nat} (lit : Bool) {lam : Nat → Nat} {st : St} {a : Act} (hr : HR E C) (hf : FrameR C lam st a) {ps : Array (Nat × Operand)} {z : AV} {l : List (Nat × Nat × AV)} {es : List AV} (ht : E.P.underlying t = some (.slice e)) (hsz : E.size e = some sz) (hz : E.zero e = some z)
    (hn : n * sz ≤ 16777216) (hpos : 0 < sz) (hzl : z.cells.length = sz) (hp : parts E st (fun i => some (i, 1)) ps.toList = some l) (h : A.fillElems sz (List.replicate n z) l = some es) (him : (es.all fun x => x.cells.all AV.leaf) = true) :
    ∃ u C', (Instr.buildSlice t n (ps.map fun (i, x) => (i, a.eval x))).run E.P C.w = .ok u C'.w ∧ V C' false (bif lit then .lit sz es else .sh sz es) u ∧ HR E C' ∧ EvL C C' ∧ C'.H = C.H := by
  obtain ⟨zv, k1, k2⟩ := q41 (C := C) hz C.w
  have hzd : z.isDef = true := by
    unfold Env.zero at hz
    simp only [Option.bind_eq_some_iff] at hz
    obtain ⟨_, _, h2⟩ := hz
    exact q1u h2
  obtain ⟨g1, g2⟩ := k2.cells hzd
  have hzs : zv.cells.size = sz := by rw [← Array.length_toList, g1.length, hzl]
  have hv0 : Vs C false ((List.replicate n z).flatMap AV.cells) ((Array.range (n * sz)).map (zv.cells[· % zv.cells.size]!)).toList := by
    have := (q6w g1 hzs hpos n).weakenB
    rw [Array.toList_map, Array.toList_range, hzs]
    exact this
  obtain ⟨cells', c1, c2, c3, c4⟩ := q48 hr hf hp h hv0 (fun x hx => by
    have := List.eq_of_mem_replicate hx
    subst this
    exact ⟨hzl, g2⟩)
  have hps : (ps.map fun (i, x) => (i, a.eval x)).toList = ps.toList.map fun p => (p.1, a.eval p.2) := by simp
  have hlen : es.length = n := by rw [c4]; simp
  have key := qg9 (E := E) (w' := C.w.alloc (.cells cells' e)) hr ⟨rfl, rfl, rfl⟩ rfl
  refine ⟨.slice (some ⟨C.w.heap.size, 0, none⟩) n n, _, ?_, ?_, key.2, key.1, rfl⟩
  · simp only [Instr.buildSlice, Sem.run_bind, run_underlying ht, Result.andThen_ok, q13 hsz]
    rw [if_neg (by omega)]
    simp only [Sem.run_bind, Sem.run_pure, Result.andThen_ok, hps]
    by_cases h0 : n * sz = 0
    · rw [if_pos h0]
      have : n = 0 := by
        rcases Nat.mul_eq_zero.1 h0 with h | h <;> omega
      subst this
      have e0 : (Array.range (0 * sz)).map ((#[] : Array Value)[· % (#[] : Array Value).size]!) = (Array.range (0 * sz)).map (zv.cells[· % zv.cells.size]!) := by simp
      simp only [pure_bind, e0, c1]
      rfl
    · rw [if_neg h0]
      simp only [Sem.run_bind, k1, Result.andThen_ok, Sem.run_pure, c1]
      rfl
  · have hvs : Vs (C.fixed (C.w.alloc (.cells cells' e))) true (es.flatMap AV.cells) cells'.toList := (c2.leaf fun v hv => by
      obtain ⟨x, hx, hv⟩ := List.mem_flatMap.1 hv
      exact List.all_eq_true.1 (List.all_eq_true.1 him x hx) v hv).ev key.1.ev
    have hmax : n ≤ maxLen := by unfold maxLen; have := Nat.le_mul_of_pos_right n hpos; omega
    rw [← hlen] at hmax ⊢
    have hcl : ∀ j u, cells'.toList[j]? = some u → (C.fixed (C.w.alloc (.cells cells' e))).w.cell? ((⟨C.w.heap.size, 0, none⟩ : Addr).add j) = some u := fun j u hu => by
      have hg : (C.fixed (C.w.alloc (.cells cells' e))).w.heap[C.w.heap.size]? = some (.cells cells' e) := heap_alloc_new C.w _
      rw [Addr.add_lit]
      unfold World.cell?
      rw [hg]
      simpa using hu
    have him' : es ≠ [] → (C.fixed (C.w.alloc (.cells cells' e))).κ (⟨C.w.heap.size, 0, none⟩ : Addr).block = .imm ∧ (⟨C.w.heap.size, 0, none⟩ : Addr).block < (C.fixed (C.w.alloc (.cells cells' e))).w.heap.size := fun _ => ⟨by
      show (if _ = _ then _ else _) = _
      rw [if_pos rfl], (Array.getElem?_eq_some_iff.1 (heap_alloc_new C.w (.cells cells' e))).1⟩
    cases lit
    · exact .sh _ _ _ ⟨C.w.heap.size, 0, none⟩ es.length cells'.toList hvs (fun x hx => c3 x hx) hcl him' (Nat.le_refl _) hmax
    · exact .lit _ _ _ ⟨C.w.heap.size, 0, none⟩ cells'.toList hvs (fun x hx => c3 x hx) hcl him' hmax
theorem qel {q : Bool} (hr : HR E C) {t : TypeId} {v : AV} {uv : Value} (hd : v.isDef = true) (hl : v.cells.all AV.leaf = true) (hv : V C q v uv) :
    ∃ C' u, (newVar t uv).run E.P C.w = .ok u C'.w ∧ HR E C' ∧ EvL C C' ∧ C'.H = C.H ∧ V C' false (.rop v.cells) (.pointer (some u)) := by
  obtain ⟨hvc, h1⟩ := hv.cells hd
  have key := qg9 (E := E) (w' := C.w.alloc (.cells uv.cells t)) hr ⟨rfl, rfl, rfl⟩ rfl
  refine ⟨C.fixed (C.w.alloc (.cells uv.cells t)), ⟨C.w.heap.size, 0, none⟩, rfl, key.2, key.1, rfl, .rop _ _ _ uv.cells.toList h1 ((hvc.weakenB.leaf fun x hx => List.all_eq_true.1 hl x hx).ev key.1.ev) (fun j u hu => ?_) ?_ ?_⟩
  · have hg : (C.fixed (C.w.alloc (.cells uv.cells t))).w.heap[C.w.heap.size]? = some (.cells uv.cells t) := heap_alloc_new C.w _
    rw [Addr.add_lit]
    unfold World.cell?
    rw [hg]
    simpa using hu
  · show (if _ = _ then _ else _) = _
    rw [if_pos rfl]
  · exact (Array.getElem?_eq_some_iff.1 (heap_alloc_new C.w (.cells uv.cells t))).1
end
end Go.Den

/- DEN, part P: each operation does what it is said to do. -/
namespace Go.Den
open Go.RowKit
section
variable {E : Env} {cf : CallFn} {C C' : Ctx} {lam : Nat → Nat} {st : St} {a : Act} {o : Oper} {Q : Exit → Act → World → Prop} {ro : Option Nat} {q p : Bool}
theorem q0b {R : Type} {x : Option AV} {k : AV → Option R} {r : R} (h : withV x k = some r) : ∃ v, x = some v ∧ k v = some r := by
  cases x with
  | none => cases h
  | some v => exact ⟨v, rfl, h⟩
theorem q1b {P : Program} {s : Sem Value} {w w' : World} {u : Value} (h : s.run P w = .ok u w') : (do pure (.value (← s)) : Sem Next).run P w = .ok (.value u) w' := by
  simp [Sem.run_bind, h]
theorem run_u {P : Program} {s : Sem Unit} {w w' : World} (h : s.run P w = .ok () w') : (do s; pure .skip : Sem Next).run P w = .ok .skip w' := by
  simp [Sem.run_bind, h]
theorem q0t {u : Value} {v : AV} {x : SV} {st' : St} {H' : Heap} (hr : HR E C) (hf : FrameR C lam st a) (h : (some (SV.val v, st, C.H) : Option (SV × St × Heap)) = some (x, st', H')) (hrun : (execOp a.eval o).run E.P C.w = .ok (.value u) C.w) (hv : V C p v u) :
    o.wpIn (FW ro) 0 E.P a C.w (Post E C (stPut st' o.dst x) H') Q := by
  simp only [Option.some.injEq, Prod.mk.injEq] at h
  obtain ⟨rfl, rfl, rfl⟩ := h
  exact qh9 hf hrun (EvL.refl C) hr hv.weakenB
theorem q2p {u : Value} {v : AV} {x : SV} {st' : St} {H1 H' : Heap} (hf : FrameR C lam st a) (h : (some (SV.val v, st, H1) : Option (SV × St × Heap)) = some (x, st', H')) (hrun : (execOp a.eval o).run E.P C.w = .ok (.value u) C'.w) (hr' : HR E C') (ev : EvL C C') (hH : C'.H = H1) (hv : V C' false v u) :
    o.wpIn (FW ro) 0 E.P a C.w (Post E C (stPut st' o.dst x) H') Q := by
  simp only [Option.some.injEq, Prod.mk.injEq] at h
  obtain ⟨rfl, rfl, rfl⟩ := h
  rw [← hH]
  exact qh9 hf hrun ev hr' hv
theorem qgj {s off : Nat} {x : SV} {st' : St} {H' : Heap} (hr : HR E C) (hf : FrameR C lam st a) (h : (some (SV.lp s off, st, C.H) : Option (SV × St × Heap)) = some (x, st', H'))
    (hrun : (execOp a.eval o).run E.P C.w = .ok (.value (.pointer (some ⟨lam s, off, none⟩))) C.w) (hs : st.var s ≠ none) : o.wpIn (FW ro) 0 E.P a C.w (Post E C (stPut st' o.dst x) H') Q := by
  simp only [Option.some.injEq, Prod.mk.injEq] at h
  obtain ⟨rfl, rfl, rfl⟩ := h
  exact lp_wp hr hf hrun hs
theorem qaq (hr : HR E C) (hf : FrameR C lam st a) {y : Operand} {x : SV} {st' : St} {H' : Heap}
    (h : (match y with
      | .tmp t => match st.get t with
        | .val w => some (SV.val w, st, C.H)
        | .lp s off => some (SV.lp s off, st, C.H)
        | .no => none
      | y => withV (st.eval E y) fun v => some (SV.val v, st, C.H)) = some (x, st', H'))
    (hrun : (execOp a.eval o).run E.P C.w = .ok (.value (a.eval y)) C.w) : o.wpIn (FW ro) 0 E.P a C.w (Post E C (stPut st' o.dst x) H') Q := by
  cases y with
  | tmp t =>
    dsimp only at h
    split at h
    · rename_i w hw
      exact q0t hr hf h hrun (q22 hf hw)
    · rename_i s off hw
      obtain ⟨h1, h2⟩ := q5g hf hw
      exact qgj hr hf h (by rw [hrun, h1]) h2
    · cases h
  | _ =>
    dsimp only at h
    obtain ⟨v, hv, h⟩ := q0b h
    exact q0t hr hf h hrun (q09 hr hf hv)
theorem q6x {P : Program} {t : TypeId} {uv : Value} {w : World} : (newVar t uv).run P w = .ok ⟨w.heap.size, 0, none⟩ (w.alloc (.cells uv.cells t)) := rfl
theorem qhb {t : TypeId} {z : AV} (h : E.zero t = some z) : z.isDef = true := by
  simp only [Env.zero, Option.bind_eq_some_iff] at h
  obtain ⟨_, _, h⟩ := h
  exact q1u h
theorem qeg (hr : HR E C) (hf : FrameR C lam st a) {site : Option Nat} {t : TypeId} {sz : Nat} {v : AV} {uv : Value} {x : SV} {st' : St} {H' : Heap}
    (hrun : ∀ u w', (newVar t uv).run E.P C.w = .ok u w' → (execOp a.eval o).run E.P C.w = .ok (.value (.pointer (some u))) w') (hd : v.isDef = true) (hv : V C q v uv) (hl : v.cells.length = sz) (hz : 0 < sz)
    (h : (match site with
      | some s => layK s v.cells st C.H (fun x s G => some (x, s, G))
      | none => some (SV.val (A.newBox sz t v C.H).1, st, (A.newBox sz t v C.H).2)) = some (x, st', H')) : o.wpIn (FW ro) 0 E.P a C.w (Post E C (stPut st' o.dst x) H') Q := by
  split at h
  · exact lay_wp hr hf h hd hv (hrun _ _ q6x)
  · obtain ⟨C', u, g1, g2, g3, g4, g5⟩ := newBox_ok hr hl hd hz hv
    exact q2p hf h (hrun _ _ g1) g2 g3 g4 g5
theorem qei (hr : HR E C) (hf : FrameR C lam st a) {site : Option Nat} {t : TypeId} {x : SV} {st' : St} {H' : Heap} (ho : o.op = .alloc t)
    (h : opK E cf site o st C.H (fun x s G => some (x, s, G)) = some (x, st', H')) : o.wpIn (FW ro) 0 E.P a C.w (Post E C (stPut st' o.dst x) H') Q := by
  unfold opK at h
  simp only [ho] at h
  split at h
  · rename_i z sz hz hsz
    obtain ⟨zv, k1, k2⟩ := q41 hz C.w
    have hrun : ∀ u w', (newVar t zv).run E.P C.w = .ok u w' → (execOp a.eval o).run E.P C.w = .ok (.value (.pointer (some u))) w' := fun u w' hn => by
      unfold execOp
      simp only [ho]
      refine q1b ?_
      simp only [Instr.alloc, Sem.run_bind, k1, Result.andThen_ok, hn, Sem.run_pure]
    cases site with
    | some s =>
      dsimp only at h
      cases hc : (z.cells.length == sz && (decide (0 < sz) || Nat.beq sz 0))
      · rw [hc] at h; cases h
      · rw [hc] at h
        exact lay_wp hr hf h (qhb hz) k2 (hrun _ _ q6x)
    | none =>
      dsimp only at h
      cases hc : (z.cells.length == sz && decide (0 < sz))
      · rw [hc] at h; cases h
      · rw [hc] at h
        simp only [Bool.and_eq_true, beq_iff_eq, decide_eq_true_eq] at hc
        exact qeg (site := none) hr hf hrun (qhb hz) k2 hc.1 hc.2 h
  · cases h
theorem qiv (hr : HR E C) (hf : FrameR C lam st a) {site : Option Nat} {t : TypeId} {y : Operand} {x : SV} {st' : St} {H' : Heap} (ho : o.op = .box t y)
    (h : opK E cf site o st C.H (fun x s G => some (x, s, G)) = some (x, st', H')) : o.wpIn (FW ro) 0 E.P a C.w (Post E C (stPut st' o.dst x) H') Q := by
  unfold opK at h
  simp only [ho] at h
  split at h
  · rename_i v sz hv hsz
    have hrun : ∀ u w', (newVar t (a.eval y)).run E.P C.w = .ok u w' → (execOp a.eval o).run E.P C.w = .ok (.value (.pointer (some u))) w' := fun u w' hn => by
      unfold execOp
      simp only [ho]
      refine q1b ?_
      simp only [Instr.box, Sem.run_bind, Result.andThen_ok, hn, Sem.run_pure]
    cases site with
    | some s =>
      dsimp only at h
      cases hs : Nat.ble 1000 s
      · rw [hs] at h
        simp only [cond_false] at h
        cases hc : (v.cells.length == sz && v.isDef && (decide (0 < sz) || Nat.beq sz 0))
        · rw [hc] at h; cases h
        · rw [hc] at h
          simp only [Bool.and_eq_true] at hc
          exact lay_wp hr hf h hc.1.2 (q09 hr hf hv) (hrun _ _ q6x)
      · rw [hs] at h
        simp only [cond_true] at h
        cases hc : (v.cells.length == sz && v.isDef && v.cells.all AV.leaf)
        · rw [hc] at h; cases h
        · rw [hc, cond_true] at h
          simp only [Bool.and_eq_true] at hc
          obtain ⟨C', u, g1, g2, g3, g4, g5⟩ := qel (t := t) hr hc.1.2 hc.2 (q09 hr hf hv)
          exact q2p hf h (hrun _ _ g1) g2 g3 g4 g5
    | none =>
      dsimp only at h
      cases hc : (v.cells.length == sz && v.isDef && decide (0 < sz))
      · rw [hc] at h; cases h
      · rw [hc] at h
        simp only [Bool.and_eq_true, beq_iff_eq, decide_eq_true_eq] at hc
        exact qeg (site := none) hr hf hrun hc.1.2 (q09 hr hf hv) hc.1.1 hc.2 h
  · cases h
theorem qhx (hr : HR E C) (hf : FrameR C lam st a) {site : Option Nat} {t : TypeId} {y : Operand} {x : SV} {st' : St} {H' : Heap} (ho : o.op = .load t y)
    (h : opK E cf site o st C.H (fun x s G => some (x, s, G)) = some (x, st', H')) : o.wpIn (FW ro) 0 E.P a C.w (Post E C (stPut st' o.dst x) H') Q := by
  unfold opK at h
  simp only [ho] at h
  have hrun : ∀ u, (Instr.loadAt t (a.eval y)).run E.P C.w = .ok u C.w → (execOp a.eval o).run E.P C.w = .ok (.value u) C.w := fun u hn => by
    unfold execOp
    simp only [ho]
    exact q1b hn
  split at h
  · rename_i ag sz hag hsz
    split at h
    · rename_i t'
      split at h
      · rename_i s off hw
        obtain ⟨h1, h2⟩ := q5g hf hw
        split at h
        · rename_i cs hcs
          obtain ⟨v, hv, h⟩ := q0b h
          obtain ⟨u, g1, g2⟩ := qgf hf hcs hag hsz hv
          exact q0t hr hf h (hrun u (by rw [h1]; simpa [Instr.loadAt, Instr.sureAddr] using g1)) g2
        · cases h
      · rename_i w hw
        obtain ⟨v, hv, h⟩ := q0b h
        obtain ⟨u, g1, g2⟩ := qbz hr hag hsz hv (q22 hf hw)
        exact q0t hr hf h (hrun u g1) g2
      · cases h
    · split at h
      · rename_i w hw
        obtain ⟨v, hv, h⟩ := q0b h
        obtain ⟨u, g1, g2⟩ := qbz hr hag hsz hv (q09 hr hf hw)
        exact q0t hr hf h (hrun u g1) g2
      · cases h
  · cases h
theorem qfw (hr : HR E C) (hf : FrameR C lam st a) {site : Option Nat} {t : TypeId} {y z : Operand} {x : SV} {st' : St} {H' : Heap} (ho : o.op = .store t y z)
    (h : opK E cf site o st C.H (fun x s G => some (x, s, G)) = some (x, st', H')) : o.wpIn (FW ro) 0 E.P a C.w (Post E C (stPut st' o.dst x) H') Q := by
  unfold opK at h
  simp only [ho] at h
  have hrun : ∀ w', (Instr.storeAt t (a.eval y) (a.eval z)).run E.P C.w = .ok () w' → (execOp a.eval o).run E.P C.w = .ok .skip w' := fun u hn => by
    unfold execOp
    simp only [ho]
    exact run_u hn
  split at h
  · rename_i v sz hv hsz
    split at h
    · rename_i t'
      split at h
      · rename_i s off hw
        obtain ⟨h1, h2⟩ := q5g hf hw
        split at h
        · rename_i cs hcs
          cases hc : (A.fits sz v && decide (off + v.cells.length ≤ cs.length))
          · simp only [hc, cond_false] at h
            cases h
          · simp only [hc, cond_true, Option.some.injEq, Prod.mk.injEq] at h
            obtain ⟨rfl, rfl, rfl⟩ := h
            simp only [Bool.and_eq_true, decide_eq_true_eq] at hc
            obtain ⟨C', g1, g2, g3, g4, g5⟩ := loc_store hr hf hcs hsz hc.1 hc.2 (q09 hr hf hv)
            refine q4h (hrun C'.w (by rw [h1]; simpa [Instr.storeAt, Instr.sureAddr] using g1)) (fun _ e => by cases e) ?_
            exact ⟨C', lam, rfl, g2, g3, g4, g5.put (x := .val .undef) (.undef _)⟩
        · cases h
      · rename_i w hw
        split at h
        · rename_i H1 hH
          obtain ⟨C', g1, g2, g3, g4⟩ := storeH_ok hr hsz hH (q22 hf hw) (q09 hr hf hv)
          simp only [Option.some.injEq, Prod.mk.injEq] at h
          obtain ⟨rfl, rfl, rfl⟩ := h
          rw [← g4]
          exact qfq hf (hrun _ g1) g3 g2
        · cases h
      · cases h
    · cases h
  · cases h
end
end Go.Den

/- DEN, part Pb: texts made of memory, pointers seen as another type. -/
namespace Go.Den
open Go.RowKit
theorem lies_self {P : Program} {e : TypeId} {s cells off n : Nat} (hs : P.cellsOf e = s) (h0 : 0 < s) (ha : off % s = 0) (hn : off + n * s ≤ cells) : liesAt P P.depth e (cells / P.cellsOf e) off e n = true := by
  have hd : P.depth = (2 * (P.types.size + Made.depth) + 1) + 1 := rfl
  have h1 : off / s + n ≤ cells / s := by
    rw [Nat.le_div_iff_mul_le h0, Nat.add_mul, Nat.div_mul_cancel (Nat.dvd_of_mod_eq_zero ha)]
    exact hn
  rw [hd]
  simp only [liesAt, Bool.or_eq_true]
  left
  rw [hd, hs]
  have h2 : s ≠ 0 := by omega
  simp [rowAt, hs, h1, ha, h2, sameLayout]
theorem qfo {P : Program} {fits : TypeId → Bool} {e : TypeId} {s o k count : Nat} (hs : P.cellsOf e = s) (ho : o < s) (hk : k < count) : ∀ {d : Nat}, rowAt P fits d e 1 o 1 = true → rowAt P fits d e count (k * s + o) 1 = true
  | 0, h => by cases h
  | d + 1, h => by
    unfold rowAt at h ⊢
    simp only [hs] at h ⊢
    have hs0 : ¬ s = 0 := by omega
    rw [if_neg hs0] at h ⊢
    have e1 : o / s = 0 := Nat.div_eq_of_lt ho
    have e2 : o % s = o := Nat.mod_eq_of_lt ho
    have e3 : (k * s + o) / s = k := by
      rw [Nat.mul_comm, Nat.mul_add_div (by omega), e1, Nat.add_zero]
    have e4 : (k * s + o) % s = o := by
      rw [Nat.mul_comm, Nat.mul_add_mod, e2]
    rw [e1, e2] at h
    rw [e3, e4]
    simp only [Bool.or_eq_true, Bool.and_eq_true, decide_eq_true_eq] at h ⊢
    rcases h with h | h
    · exact .inl ⟨⟨h.1.1, by omega⟩, h.2⟩
    · exact .inr ⟨hk, h.2⟩
theorem lies_in {P : Program} {e t : TypeId} {s o k cells off : Nat} (hs : P.cellsOf e = s) (_h0 : 0 < s) (ho : o < s) (h : rowAt P (fun x => sameLayout P P.depth x t) P.depth e 1 o 1 = true) (hoff : off = k * s + o) (hk : k < cells / P.cellsOf e) : liesAt P P.depth e (cells / P.cellsOf e) off t 1 = true := by
  have hd : P.depth = (2 * (P.types.size + Made.depth) + 1) + 1 := rfl
  have := qfo (count := cells / P.cellsOf e) (k := k) hs ho hk h
  rw [← hoff] at this
  generalize cells / P.cellsOf e = c at *
  have key : ∀ n, n = P.depth → liesAt P n e c off t 1 = true := fun n hn => by
    cases n with
    | zero => omega
    | succ n =>
      unfold liesAt
      rw [this]
      rfl
  exact key _ rfl
section
variable {E : Env} {C : Ctx} {p : Bool}
theorem qav (hr : HR E C) {sz : Nat} {x : AV} {u0 : Value} {es : List AV} (h : A.read sz x C.H = some es) (hx : V C p x u0) :
    (u0 = .slice none 0 0 ∧ es = []) ∨ ∃ a c us, u0 = .slice (some a) es.length c ∧ Vs C false (es.flatMap AV.cells) us ∧ ∀ j u, us[j]? = some u → C.w.cell? (a.add j) = some u := by
  unfold A.read at h
  split at h
  · cases hx
    simp only [Option.some.injEq] at h
    exact .inl ⟨rfl, h.symm⟩
  · rename_i z es'
    split at h
    · rename_i hz
      simp only [Option.some.injEq] at h
      subst h
      cases hx with
      | sh _ _ _ a c us h1 h2 h3 h4 h5 h6 => exact .inr ⟨a, c, us, rfl, h1.weaken, h3⟩
    · simp at h
  · rename_i id ver off n cap
    split at h
    · rename_i w z ty es' hrow
      split at h
      · rename_i hc
        obtain ⟨rfl, rfl, hle⟩ := hc
        simp only [Option.some.injEq] at h
        subst h
        obtain ⟨hz, hg, hk2, cur, fr, us, hcur, hfz, hus, hcell⟩ := hr.row id w z ty es' hrow
        have hgd : ∀ e ∈ (es'.drop off).take n, Good z e := fun e he => hg e (List.mem_of_mem_drop (List.mem_of_mem_take he))
        have hnl : ((es'.drop off).take n).length = n := by rw [List.length_take, List.length_drop]; omega
        cases hx with
        | sl _ _ _ _ _ _ g0 g1 =>
          obtain ⟨a, c, hu, g2, g3, g4, g5, g6⟩ := (g1.2 w z ty es' hrow).2 rfl
          subst hu
          have hfl : es'.flatMap AV.cells = (es'.take off).flatMap AV.cells ++ (((es'.drop off).take n).flatMap AV.cells ++ ((es'.drop off).drop n).flatMap AV.cells) := by
            rw [← List.flatMap_append, List.take_append_drop, ← List.flatMap_append, List.take_append_drop]
          have hl1 : ((es'.take off).flatMap AV.cells).length = off * z := by
            rw [q0d (fun x hx => hg x (List.mem_of_mem_take hx)), List.length_take, Nat.min_eq_left (by omega)]
          have hl2 : (((es'.drop off).take n).flatMap AV.cells).length = n * z := by rw [q0d hgd, hnl]
          have hv := hus
          rw [hfl] at hv
          have hv2 := hv.split.2.split.1
          rw [hl1, hl2] at hv2
          refine .inr ⟨a, c, _, by rw [hnl], hv2, fun j u hju => ?_⟩
          have hpos : 0 < c := by
            rcases Nat.eq_zero_or_pos c with h0 | h0
            · have : n = 0 := by omega
              subst this
              simp at hju
            · exact h0
          have ha := g5 hpos
          subst ha
          rw [List.getElem?_take] at hju
          split at hju
          · rw [List.getElem?_drop] at hju
            have := hcell _ _ hju
            rw [Addr.add_lit]
            simp only [World.cell?, hcur, Option.isSome_none, Bool.false_eq_true, if_false]
            rw [show (C.ρ id).2 + off * z + j = (C.ρ id).2 + (off * z + j) by omega]
            exact this
          · simp at hju
      · simp at h
    · simp at h
  · simp at h
theorem toNat_u8 {n : Int} (h0 : 0 ≤ n) (h1 : n < 256) : ((n.toNat.toUInt8).toNat : Int) = n := by
  have : n.toNat < 256 := by omega
  simp
  omega
theorem q82 : ∀ {es : List AV} {l : List UInt8} {us : List Value}, A.bytes8 es = some l → Vs C p (es.flatMap AV.cells) us → us = l.map (fun b => Value.int .u8 b.toNat) ∧ l.length = es.length
  | [], _, _, h, hv => by
    simp only [A.bytes8, Option.some.injEq] at h
    subst h
    cases hv
    exact ⟨rfl, rfl⟩
  | e :: es, l, us, h, hv => by
    unfold A.bytes8 at h
    split at h
    · rename_i h0; cases h0
    · rename_i n r h0
      cases h0
      cases hc : (decide (0 ≤ n) && decide (n < 256))
      · rw [hc] at h; cases h
      · rw [hc] at h
        simp only [cond_true] at h
        simp only [Bool.and_eq_true, decide_eq_true_eq] at hc
        split at h
        · rename_i l' hl'
          simp only [Option.some.injEq] at h
          subst h
          rw [List.flatMap_cons] at hv
          change Vs C p (.int .u8 n :: es.flatMap AV.cells) us at hv
          cases hv with
          | cons _ _ u _ us h1 h2 =>
            obtain ⟨g1, g2⟩ := q82 hl' h2
            rw [h1.int_inv, g1]
            exact ⟨by rw [List.map_cons, toNat_u8 hc.1 hc.2], by simp [g2]⟩
        · cases h
    · cases h
theorem qaz : ∀ {es : List AV} {l : List Int} {us : List Value}, A.runes32 es = some l → Vs C p (es.flatMap AV.cells) us → us = l.map (Value.int .i32) ∧ l.length = es.length
  | [], _, _, h, hv => by
    simp only [A.runes32, Option.some.injEq] at h
    subst h
    cases hv
    exact ⟨rfl, rfl⟩
  | e :: es, l, us, h, hv => by
    unfold A.runes32 at h
    split at h
    · rename_i h0; cases h0
    · rename_i n r h0
      cases h0
      split at h
      · rename_i l' hl'
        simp only [Option.some.injEq] at h
        subst h
        rw [List.flatMap_cons] at hv
        change Vs C p (.int .i32 n :: es.flatMap AV.cells) us at hv
        cases hv with
        | cons _ _ u _ us h1 h2 =>
          obtain ⟨g1, g2⟩ := qaz hl' h2
          rw [h1.int_inv, g1]
          exact ⟨rfl, by simp [g2]⟩
      · cases h
    · cases h
theorem row_in (hr : HR E C) {id w sz i off : Nat} {ty : TypeId} {es : List AV} (hrow : C.H[id]? = some (.row w sz ty es)) (hi : i < es.length) (ho : off < sz) :
    ∃ cells, C.w.shape? (C.ρ id).1 = some (ty, cells) ∧ (C.ρ id).2 + (i * sz + off) < cells ∧ (C.ρ id).2 + es.length * sz ≤ cells := by
  obtain ⟨hz, hg, hk2, cur, fr, us, hcur, hfz, hus, hcell⟩ := hr.row id w sz ty es hrow
  have hl : us.length = es.length * sz := hus.length.trans (q0d hg)
  have key : ∀ j, j < es.length * sz → (C.ρ id).2 + j < cur.size := fun j hj => by
    have := hcell j us[j] (List.getElem?_eq_getElem (by omega))
    exact (Array.getElem?_eq_some_iff.1 this).1
  have h1 : i * sz + off < es.length * sz := by
    have := Nat.mul_le_mul_right sz (show i + 1 ≤ es.length from hi)
    rw [Nat.add_mul, Nat.one_mul] at this
    omega
  refine ⟨cur.size, by simp [World.shape?, hcur], key _ h1, ?_⟩
  have := key (es.length * sz - 1) (by omega)
  omega
theorem convH_ok (hr : HR E C) {s d : TypeId} {y v : AV} {u : Value} (h : convH E s d y C.H = some v) (hy : V C p y u) : ∃ u', (Go.convert s d u).run E.P C.w = .ok u' C.w ∧ V C false v u' := by
  unfold convH at h
  split at h
  · rename_i t hs hd
    split at h
    · rename_i id ver i off
      split at h
      · rename_i w sz ty es info hrow hinfo
        cases hc : (Nat.beq w ver && decide (info.size ≠ 0) && decide (i < es.length) && decide (off < sz))
        · rw [hc] at h; cases h
        · rw [hc] at h
          simp only [cond_true, Option.some.injEq] at h
          subst h
          simp only [Bool.and_eq_true, Nat.beq_eq, decide_eq_true_eq] at hc
          obtain ⟨⟨⟨rfl, h2⟩, h3⟩, h4⟩ := hc
          cases hy with
          | ptr _ _ _ _ _ g0 g1 =>
            have e := (g1.2 w sz ty es hrow).2 rfl
            subst e
            obtain ⟨cells, k1, k2, _⟩ := row_in hr hrow h3 h4
            exact ⟨_, Lib.run_to_unsafe C.w _ hs hd hinfo h2 k1 k2, .ptr _ _ _ _ _ g0 g1⟩
      · cases h
    · cases h
  · rename_i t hs hd
    split at h
    · rename_i id ver i o
      split at h
      · rename_i w sz ty es info hrow hinfo
        cases hc : (Nat.beq w ver && decide (i < es.length) && decide (o < sz) && Nat.beq sz (E.P.cellsOf ty) && rowAt E.P (fun x => sameLayout E.P E.P.depth x t) E.P.depth ty 1 o 1)
        · rw [hc] at h; cases h
        · rw [hc] at h
          simp only [cond_true, Option.some.injEq] at h
          subst h
          simp only [Bool.and_eq_true, Nat.beq_eq, decide_eq_true_eq] at hc
          obtain ⟨⟨⟨⟨rfl, h3⟩, h4⟩, h5⟩, h6⟩ := hc
          cases hy with
          | ptr _ _ _ _ _ g0 g1 =>
            have e := (g1.2 w sz ty es hrow).2 rfl
            subst e
            have hz := (hr.row id w sz ty es hrow).1
            obtain ⟨cells, k1, k2, k3⟩ := row_in hr hrow h3 hz
            have hlt : (i + 1) * sz ≤ es.length * sz := Nat.mul_le_mul_right sz h3
            rw [Nat.add_mul, Nat.one_mul] at hlt
            refine ⟨_, Lib.run_from_unsafe C.w _ hs hd hinfo k1 ?_, .ptr _ _ _ _ _ g0 g1⟩
            have hal := hr.al id w sz ty es hrow
            refine lies_in (s := sz) h5.symm hz h4 h6 (k := (C.ρ id).2 / sz + i) ?_ ?_
            · show (C.ρ id).2 + (i * sz + o) = _
              have := Nat.div_add_mod (C.ρ id).2 sz
              rw [hal, Nat.add_zero] at this
              rw [Nat.add_mul, Nat.mul_comm ((C.ρ id).2 / sz) sz, this]
              omega
            · rw [← h5]
              have h7 : (C.ρ id).2 / sz * sz = (C.ρ id).2 := Nat.div_mul_cancel (Nat.dvd_of_mod_eq_zero hal)
              have : (C.ρ id).2 / sz + i + 1 ≤ cells / sz := by
                rw [Nat.le_div_iff_mul_le hz, Nat.add_mul, Nat.add_mul, h7]
                omega
              omega
      · cases h
    · cases h
  · rename_i e hs hd
    split at h
    · rename_i he
      split at h
      · rename_i es hes
        rw [Option.map_eq_some_iff] at h
        obtain ⟨l, hl, rfl⟩ := h
        rcases qav hr hes hy with ⟨rfl, rfl⟩ | ⟨a, c, us, rfl, h2, h3⟩
        · simp only [A.bytes8, Option.some.injEq] at hl
          subst hl
          refine ⟨.string .empty, ?_, V.str _ .empty⟩
          rw [run_convert_bytes_string C.w s d e none 0 0 hs he hd]
          rfl
        · obtain ⟨g1, g2⟩ := q82 hl h2
          refine ⟨.string ⟨l.toArray⟩, ?_, ?_⟩
          · rw [run_convert_bytes_string C.w s d e (some a) _ c hs he hd]
            rw [run_bytesToString C.w a es.length c (l.map fun b => (b.toNat : Int)) ?_]
            · congr 2
              have : ∀ (l : List UInt8) (s : ByteArray), (l.map fun b => (b.toNat : Int)).foldl (fun r n => r.push (UInt8.ofNat n.toNat)) s = ⟨s.data ++ l.toArray⟩ := by
                intro l
                induction l with
                | nil => intro s; simp
                | cons b l ih =>
                  intro s
                  rw [List.map_cons, List.foldl_cons, ih]
                  apply ByteArray.ext
                  simp [ByteArray.push]
              rw [this]
              simp
            · rw [← g2]
              rw [run_loadCells C.w a l.length (fun j => .int .u8 ((l.map fun b => (b.toNat : Int)).getD j 0)) (fun j hj => h3 j _ (by rw [g1, List.getElem?_map, List.getElem?_eq_getElem hj]; simp [List.getD, hj]))]
              congr 2
              apply List.ext_getElem
              · simp
              · intro i h1 h2'
                simp at h1
                simp [List.getD, h1]
          · have := V.str (C := C) false ⟨l.toArray⟩
            simpa using this
      · cases h
    · rename_i he
      split at h
      · rename_i es hes
        rw [Option.map_eq_some_iff] at h
        obtain ⟨l, hl, rfl⟩ := h
        rcases qav hr hes hy with ⟨rfl, rfl⟩ | ⟨a, c, us, rfl, h2, h3⟩
        · simp only [A.runes32, Option.some.injEq] at hl
          subst hl
          refine ⟨.string .empty, ?_, V.str _ .empty⟩
          rw [run_convert_runes_string C.w s d e none 0 0 hs he hd]
          rfl
        · obtain ⟨g1, g2⟩ := qaz hl h2
          refine ⟨.string (runesBytes l), ?_, ?_⟩
          · have hc : ∀ j, j < l.length → C.w.cell? (a.add j) = some (.int .i32 (l.getD j 0)) := fun j hj => h3 j _ (by rw [g1, List.getElem?_map, List.getElem?_eq_getElem hj]; simp [List.getD, hj])
            have := run_convert_runes C.w s d e a es.length c l (by omega) hs he hd hc
            rw [← g2, List.take_length] at this
            rw [← g2]
            exact this
          · have : ∀ (l : List Int) (s : ByteArray), (l.foldl (fun r n => r ++ Utf8.encode n) s).data.toList = s.data.toList ++ l.flatMap fun n => (Utf8.encode n).data.toList := by
              intro l
              induction l with
              | nil => intro s; simp
              | cons n l ih =>
                intro s
                rw [List.foldl_cons, ih]
                simp
            have e1 : (l.flatMap fun n => (Utf8.encode n).data.toList) = (runesBytes l).data.toList := by
              unfold runesBytes
              rw [this]
              rfl
            rw [e1]
            exact V.str _ _
      · cases h
    · cases h
  · cases h
end
end Go.Den

/- DEN, part Pc: a text made of a row's bytes, which are written no more. -/
namespace Go.Den
open Go.RowKit
section
variable {E : Env} {C : Ctx} {p q : Bool}
theorem qec {ts : Array TypeId} {ty : TypeId} {s v : AV} {u : Value} (h : A.sliceData s C.H = some v) (hs : V C p s u) : ∃ u', (Builtin.unsafeSliceData_ ts ty #[u]).run E.P C.w = .ok u' C.w ∧ V C false v u' := by
  unfold A.sliceData at h
  split at h
  · simp only [Option.some.injEq] at h
    subst h
    cases hs
    exact ⟨_, Lib.run_unsafeSliceData_nil C.w ts ty 0 0, .nilp _⟩
  · rename_i id ver off n cap
    cases hc : (A.alive C.H id ver && decide (0 < n))
    · rw [hc] at h; cases h
    · rw [hc] at h
      simp only [cond_true, Option.some.injEq] at h
      subst h
      simp only [Bool.and_eq_true, decide_eq_true_eq] at hc
      obtain ⟨sz, ty', es, hrow⟩ := q1y hc.1
      cases hs with
      | sl _ _ _ _ _ _ g0 g1 =>
        obtain ⟨a, c, hu, g2, g3, g4, g5, g6⟩ := (g1.2 ver sz ty' es hrow).2 rfl
        subst hu
        have hpos : 0 < c := by omega
        have ha := g5 hpos
        subst ha
        refine ⟨_, Lib.run_unsafeSliceData_row C.w ts ty _ n c (by omega), .ptr _ _ _ _ _ rfl ⟨g1.1, fun v1 sz1 ty1 es1 h1 => ?_⟩⟩
        rw [hrow] at h1
        cases h1
        exact ⟨Nat.le_refl _, fun _ => by rw [Nat.add_zero]⟩
  · cases h
theorem q49 (w : World) (a : Addr) (n : Nat) : (w.freeze a n).os = w.os ∧ (w.freeze a n).tape = w.tape ∧ (w.freeze a n).output = w.output ∧ (w.freeze a n).heap.size = w.heap.size ∧ ∀ b, b ≠ a.block → (w.freeze a n).heap[b]? = w.heap[b]? := by
  unfold World.freeze
  split
  · exact ⟨rfl, rfl, rfl, rfl, fun _ _ => rfl⟩
  · exact ⟨rfl, rfl, rfl, by simp, fun b hb => by simp only [Array.getElem?_modify]; rw [if_neg (fun e => hb e.symm)]⟩
theorem qic (hr : HR E C) {id w sz : Nat} {ty : TypeId} {es : List AV} (hrow : C.H[id]? = some (.row w sz ty es)) (o n : Nat) :
    HR E { C with w := C.w.freeze ⟨(C.ρ id).1, o, none⟩ n, H := C.H.set id .dead } ∧ EvL C { C with w := C.w.freeze ⟨(C.ρ id).1, o, none⟩ n, H := C.H.set id .dead } := by
  obtain ⟨f1, f2, f3, f4, f5⟩ := q49 C.w ⟨(C.ρ id).1, o, none⟩ n
  have hk := (hr.row id w sz ty es hrow).2.2.1
  have hidl : id < C.H.length := (List.getElem?_eq_some_iff.1 hrow).1
  have hne : ∀ b i, C.κ b = .obj i → i ≠ id → b ≠ (C.ρ id).1 := fun b i hb hi e => by
    rw [e, hk] at hb
    injection hb with hb
    exact hi hb.symm
  have hHne : ∀ i, i ≠ id → (C.H.set id HObj.dead)[i]? = C.H[i]? := fun i hi => List.getElem?_set_ne (fun e => hi e.symm)
  have hHself : (C.H.set id HObj.dead)[id]? = some .dead := List.getElem?_set_self hidl
  have ev : EvL C { C with w := C.w.freeze ⟨(C.ρ id).1, o, none⟩ n, H := C.H.set id .dead } := by
    refine ⟨⟨f1, f2, f3, Nat.le_of_eq f4.symm, fun b hb hk' => ⟨f5 b fun e => ?_, rfl⟩, by simp, ?_, ?_⟩, fun b hb s' hs' => ⟨f5 b fun e => ?_, hs'⟩⟩
    · rw [e, hk] at hk'
      rcases hk' with hk' | hk' <;> cases hk'
    · intro i hil v sz ty es hrow
      by_cases e : i = id
      · subst e
        rw [show ({ C with w := C.w.freeze ⟨(C.ρ i).1, o, none⟩ n, H := C.H.set i .dead } : Ctx).H[i]? = _ from hHself] at hrow
        cases hrow
      · rw [show ({ C with w := C.w.freeze ⟨(C.ρ id).1, o, none⟩ n, H := C.H.set id .dead } : Ctx).H[i]? = _ from hHne i e] at hrow
        refine ⟨v, es, hrow, Nat.le_refl _, fun _ => ⟨rfl, fun cells t f hc => ⟨cells, t, f, ?_, rfl⟩⟩⟩
        rw [← f5 _ (hne _ i (hr.row i v sz ty es hrow).2.2.1 e)]
        exact hc
    · intro i hil o' ho' hit
      by_cases e : i = id
      · subst e
        rw [show ({ C with w := C.w.freeze ⟨(C.ρ i).1, o, none⟩ n, H := C.H.set i .dead } : Ctx).H[i]? = _ from hHself] at hit
        injection hit with hit
        subst hit
        cases ho'
      · rw [show ({ C with w := C.w.freeze ⟨(C.ρ id).1, o, none⟩ n, H := C.H.set id .dead } : Ctx).H[i]? = _ from hHne i e] at hit
        exact ⟨⟨o', hit, rfl⟩, rfl⟩
    · rw [e, hk] at hs'
      cases hs'
  refine ⟨hr.step ev.ev ?_ ?_ (fun b hb => hr.new b (by rw [← f4]; exact hb)), ev⟩
  · intro i v sz ty es hrow
    by_cases e : i = id
    · subst e
      rw [show ({ C with w := C.w.freeze ⟨(C.ρ i).1, o, none⟩ n, H := C.H.set i .dead } : Ctx).H[i]? = _ from hHself] at hrow
      cases hrow
    · rw [show ({ C with w := C.w.freeze ⟨(C.ρ id).1, o, none⟩ n, H := C.H.set id .dead } : Ctx).H[i]? = _ from hHne i e] at hrow
      have hk1 := (hr.row i v sz ty es hrow).2.2.1
      exact .inl ⟨hrow, rfl, hk1, f5 _ (hne _ i hk1 e)⟩
  · intro i o' ho' hit
    by_cases e : i = id
    · subst e
      rw [show ({ C with w := C.w.freeze ⟨(C.ρ i).1, o, none⟩ n, H := C.H.set i .dead } : Ctx).H[i]? = _ from hHself] at hit
      injection hit with hit
      subst hit
      cases ho'
    · rw [show ({ C with w := C.w.freeze ⟨(C.ρ id).1, o, none⟩ n, H := C.H.set id .dead } : Ctx).H[i]? = _ from hHne i e] at hit
      have hk1 := (hr.oth i o' ho' hit).1
      exact .inl ⟨hit, rfl, hk1, f5 _ (hne _ i hk1 e)⟩
theorem q5c {P : Program} (w : World) (pt it ty e : TypeId) (hp : P.underlying pt = some (.pointer e)) (hc : P.cellsOf e = 1) (g o cells : Nat) (hsh : w.shape? g = some (e, cells)) (l : List UInt8) (h0 : l ≠ []) (hn : o + l.length ≤ cells) (h63 : l.length ≤ 9223372036854775807)
    (hcell : ∀ j x, l[j]? = some x → w.cell? ((⟨g, o, none⟩ : Addr).add j) = some (.int .u8 x.toNat)) :
    (Builtin.unsafeString_ #[pt, it] ty #[.pointer (some ⟨g, o, none⟩), .int .i64 l.length]).run P w = .ok (.string ⟨l.toArray⟩) (w.freeze ⟨g, o, none⟩ l.length) := by
  have hl : l.length ≠ 0 := by simpa using h0
  have hlb := Lib.run_loadBytes (P := P) w l ⟨g, o, none⟩ .empty hcell
  have hlies := lies_self (P := P) (e := e) (cells := cells) (off := o) (n := l.length) hc (by omega) (by omega) (by omega)
  have h63' : ¬ (9223372036854775807 : Int) < (l.length : Int) := by omega
  have hdef : Builtin.unsafeString_ #[pt, it] ty #[.pointer (some ⟨g, o, none⟩), .int .i64 l.length] =
      (do
        let n ← asInt (.int .i64 l.length)
        if n < 0 then runtimePanic (.error "unsafe.String: len out of range")
        if n > IntKind.i64.max then unsupported (.unsafePointer "String: a length above the largest int")
        if n = 0 then pure (.string .empty)
        else if ← variablesAt ⟨g, o, none⟩ (← elemOf pt) n.toNat then do
          let s ← loadBytes ⟨g, o, none⟩ .empty n.toNat
          freeze ⟨g, o, none⟩ n.toNat
          pure (.string s)
        else unsupported (.unsafePointer "String: not so many bytes at ptr")) := rfl
  rw [hdef]
  have hmax : IntKind.i64.max = 9223372036854775807 := rfl
  have hneg : ¬ (l.length : Int) < 0 := by omega
  simp [asInt, asIntOf, hmax, h63', hneg, hl, variablesAt, hsh, elemOf, run_underlying hp, hlies, hlb]
theorem qed (hr : HR E C) {pt it ty e : TypeId} {x n v : AV} {u1 u2 : Value} {H' : Heap} (hp : E.P.underlying pt = some (.pointer e)) (hc : E.P.cellsOf e = 1) (h : A.unsafeStr e x n C.H = some (v, H')) (hx : V C p x u1) (hn : V C q n u2) :
    ∃ u C', (Builtin.unsafeString_ #[pt, it] ty #[u1, u2]).run E.P C.w = .ok u C'.w ∧ HR E C' ∧ EvL C C' ∧ C'.H = H' ∧ V C' false v u := by
  unfold A.unsafeStr at h
  split at h
  · rename_i m
    have := hn.int_inv
    subst this
    cases hm : decide (m = 0)
    · rw [hm] at h
      simp only [cond_false] at h
      split at h
      · rename_i id ver i
        split at h
        · rename_i w sz ty' es hrow
          cases hcond : (Nat.beq w ver && Nat.beq sz 1 && Nat.beq ty' e && decide (0 < m) && decide (m ≤ 9223372036854775807) && decide (i + m.toNat ≤ es.length))
          · rw [hcond] at h; cases h
          · rw [hcond] at h
            simp only [cond_true] at h
            simp only [Bool.and_eq_true, Nat.beq_eq, decide_eq_true_eq] at hcond
            obtain ⟨⟨⟨⟨⟨rfl, rfl⟩, rfl⟩, hm0⟩, hm1⟩, hle⟩ := hcond
            split at h
            · rename_i l hl
              simp only [Option.some.injEq, Prod.mk.injEq] at h
              obtain ⟨rfl, rfl⟩ := h
              cases hx with
              | ptr _ _ _ _ _ g0 g1 =>
                have e1 := (g1.2 w 1 _ es hrow).2 rfl
                subst e1
                obtain ⟨hz, hg, hk2, cur, fr, us, hcur, hfz, hus, hcell⟩ := hr.row id w 1 _ es hrow
                have hgd : ∀ e ∈ (es.drop i).take m.toNat, Good 1 e := fun e he => hg e (List.mem_of_mem_drop (List.mem_of_mem_take he))
                have hnl : ((es.drop i).take m.toNat).length = m.toNat := by rw [List.length_take, List.length_drop]; omega
                have hfl : es.flatMap AV.cells = (es.take i).flatMap AV.cells ++ (((es.drop i).take m.toNat).flatMap AV.cells ++ ((es.drop i).drop m.toNat).flatMap AV.cells) := by
                  rw [← List.flatMap_append, List.take_append_drop, ← List.flatMap_append, List.take_append_drop]
                have hl1 : ((es.take i).flatMap AV.cells).length = i := by
                  rw [q0d (fun x hx => hg x (List.mem_of_mem_take hx)), List.length_take, Nat.min_eq_left (by omega), Nat.mul_one]
                have hl2 : (((es.drop i).take m.toNat).flatMap AV.cells).length = m.toNat := by rw [q0d hgd, hnl, Nat.mul_one]
                have hv := hus
                rw [hfl] at hv
                have hv2 := hv.split.2.split.1
                rw [hl1, hl2] at hv2
                obtain ⟨k1, k2⟩ := q82 hl hv2
                have hll : l.length = m.toNat := by rw [k2, hnl]
                have hmm : m = (l.length : Int) := by omega
                have hl0 : l ≠ [] := fun e => by rw [e] at hll; simp at hll; omega
                obtain ⟨cells, s1, s2, s3⟩ := row_in hr hrow (i := i) (off := 0) (by omega) (by omega)
                have hrun := q5c (P := E.P) C.w pt it ty _ hp hc (C.ρ id).1 ((C.ρ id).2 + i) cells s1 l hl0 (by rw [hll]; omega) (by omega) (fun j x hj => by
                  have hjl : j < m.toNat := by rw [← hll]; exact (List.getElem?_eq_some_iff.1 hj).1
                  have h5 : ((us.drop i).take m.toNat)[j]? = some (.int .u8 x.toNat) := by rw [k1, List.getElem?_map, hj]; rfl
                  rw [List.getElem?_take, if_pos hjl, List.getElem?_drop] at h5
                  have := hcell _ _ h5
                  rw [Addr.add_lit]
                  simp only [World.cell?, hcur, Option.isSome_none, Bool.false_eq_true, if_false]
                  rw [show (C.ρ id).2 + i + j = (C.ρ id).2 + (i + j) by omega]
                  exact this)
                obtain ⟨r1, r2⟩ := qic hr hrow ((C.ρ id).2 + i) l.length
                refine ⟨.string ⟨l.toArray⟩, _, ?_, r1, r2, rfl, by simpa using V.str (C := { C with w := C.w.freeze ⟨(C.ρ id).1, (C.ρ id).2 + i, none⟩ l.length, H := C.H.set id .dead }) false ⟨l.toArray⟩⟩
                rw [hmm]
                rw [show (C.ρ id).2 + (i * 1 + 0) = (C.ρ id).2 + i by omega]
                exact hrun
            · cases h
        · cases h
      · cases h
    · rw [hm] at h
      simp only [cond_true] at h
      simp only [decide_eq_true_eq] at hm
      subst hm
      split at h
      · simp only [Option.some.injEq, Prod.mk.injEq] at h
        obtain ⟨rfl, rfl⟩ := h
        cases hx
        exact ⟨.string .empty, C, Lib.run_unsafeString_none C.w pt it ty none, hr, EvL.refl C, rfl, V.str _ .empty⟩
      · cases h
  · cases h
end
end Go.Den

/- DEN, part Pd: a text as a new slice of bytes. -/
namespace Go.Den
open Go.RowKit
section
variable {E : Env} {C : Ctx} {p q : Bool}
theorem q85 (w : World) (e : TypeId) (s : ByteArray) : Same w (Lib.bytesWorld w e s) := by
  obtain ⟨f1, f2, f3, _⟩ := q49 (w.drew.alloc (.cells (Lib.bytesCells w e s) e)) ⟨w.heap.size, (Lib.bytesCells w e s).size, none⟩ 1
  exact ⟨f1, f2, f3⟩
theorem q84 (w : World) (e : TypeId) (s : ByteArray) : (Lib.bytesWorld w e s).heap = w.heap.push (.cells (Lib.bytesCells w e s) e ((Lib.bytesCells w e s).size, (Lib.bytesCells w e s).size + 1)) := by
  apply Array.ext_getElem?
  intro i
  rcases Nat.lt_trichotomy i w.heap.size with h | h | h
  · rw [Lib.bytesWorld_at_old w e s i h, Array.getElem?_push, if_neg (by omega)]
  · subst h
    rw [Lib.bytesWorld_at_new, Array.getElem?_push, if_pos rfl]
  · rw [Array.getElem?_eq_none (by rw [Lib.bytesWorld_size]; omega), Array.getElem?_eq_none (by simp; omega)]
theorem row_mark (hr : HR E C) {id w sz : Nat} {ty : TypeId} {es : List AV} (hrow : C.H[id]? = some (.row w sz ty es)) {cur : Array Value} {fr : Nat × Nat} (hcur : C.w.heap[(C.ρ id).1]? = some (.cells cur ty fr)) :
    HR E { C with w := C.w.freeze ⟨(C.ρ id).1, cur.size, none⟩ 1 } ∧ EvL C { C with w := C.w.freeze ⟨(C.ρ id).1, cur.size, none⟩ 1 } := by
  obtain ⟨f1, f2, f3, f4, f5⟩ := q49 C.w ⟨(C.ρ id).1, cur.size, none⟩ 1
  obtain ⟨hz, hg, hk, cur0, fr0, us, hc0, hfz, hus, hcell⟩ := hr.row id w sz ty es hrow
  rw [hcur] at hc0
  injection hc0 with hc0
  injection hc0 with e1 e2 e3
  subst e1 e3
  have hnow : ∃ fr', (C.w.freeze ⟨(C.ρ id).1, cur.size, none⟩ 1).heap[(C.ρ id).1]? = some (.cells cur ty fr') ∧ (fr'.1 = fr'.2 ∨ cur.size ≤ fr'.1) := by
    obtain ⟨lo, hi⟩ := fr
    refine ⟨if lo == hi then (cur.size, cur.size + 1) else (min lo cur.size, max hi (cur.size + 1)), ?_, ?_⟩
    · unfold World.freeze
      rw [if_neg (by omega)]
      simp only [Array.getElem?_modify, if_true, hcur, Option.map_some]
    · split
      · exact .inr (Nat.le_refl _)
      · rename_i hne
        have hne' : lo ≠ hi := by simpa using hne
        dsimp only at hfz ⊢
        omega
  obtain ⟨fr', hnow, hfz'⟩ := hnow
  have hne : ∀ b i, C.κ b = .obj i → i ≠ id → b ≠ (C.ρ id).1 := fun b i hb hi e => by
    rw [e, hk] at hb
    injection hb with hb
    exact hi hb.symm
  have ev : EvL C { C with w := C.w.freeze ⟨(C.ρ id).1, cur.size, none⟩ 1 } := by
    refine ⟨⟨f1, f2, f3, Nat.le_of_eq f4.symm, fun b hb hk' => ⟨f5 b fun e => ?_, rfl⟩, Nat.le_refl _, ?_, fun i hi o _ h => ⟨⟨o, h, rfl⟩, rfl⟩⟩, fun b hb s' hs' => ⟨f5 b fun e => ?_, hs'⟩⟩
    · rw [e, hk] at hk'
      rcases hk' with hk' | hk' <;> cases hk'
    · intro i hil v sz' ty' es' hr'
      refine ⟨v, es', hr', Nat.le_refl _, fun _ => ⟨rfl, fun cells t f hc => ?_⟩⟩
      by_cases e : (C.ρ i).1 = (C.ρ id).1
      · rw [e] at hc ⊢
        have hc' := hnow.symm.trans hc
        injection hc' with hc'
        injection hc' with q1 q2 q3
        subst q1
        exact ⟨cur, ty, fr, hcur, rfl⟩
      · exact ⟨cells, t, f, (f5 _ e).symm.trans hc, rfl⟩
    · rw [e, hk] at hs'
      cases hs'
  refine ⟨hr.step ev.ev ?_ ?_ (fun b hb => hr.new b (by rw [← f4]; exact hb)), ev⟩
  · intro i v sz' ty' es' hr'
    by_cases e : i = id
    · subst e
      have hr2 : C.H[i]? = some (.row v sz' ty' es') := hr'
      rw [hrow] at hr2
      injection hr2 with hr2
      injection hr2 with q1 q2 q3 q4
      subst q1 q2 q3 q4
      exact .inr ⟨⟨hz, hg, hk, cur, fr', us, hnow, hfz', hus.ev ev.ev, hcell⟩, hr.al _ _ _ _ _ hrow⟩
    · have hk1 := (hr.row i v sz' ty' es' hr').2.2.1
      exact .inl ⟨hr', rfl, hk1, f5 _ (hne _ i hk1 e)⟩
  · intro i o' ho' hit
    have hk1 := (hr.oth i o' ho' hit).1
    refine .inl ⟨hit, rfl, hk1, f5 _ fun e => ?_⟩
    have := (hr.oth i o' ho' hit).2.no_cells ho' (cells := cur) (t := ty) (fr := fr)
    rw [e] at this
    exact this hcur
theorem q7j (s : ByteArray) : ∀ (b i : Nat) (acc : Array Value), Conv.runesFrom s b i acc = acc ++ ((runeL s b i).map (Value.int .i32)).toArray
  | 0, _, acc => by simp [Conv.runesFrom, runeL]
  | b + 1, i, acc => by
    unfold Conv.runesFrom runeL
    split
    · dsimp only
      rw [q7j s b]
      simp
    · simp
theorem qe6 (s : ByteArray) : ∀ (b i : Nat), (runeL s b i).length ≤ b
  | 0, _ => by simp [runeL]
  | b + 1, i => by
    unfold runeL
    split
    · have := qe6 s b (i + (Utf8.decode s i).2)
      simp only [List.length_cons]
      omega
    · simp
theorem convN_ok (hr : HR E C) {s d : TypeId} {y : AV} {q : AV × Heap} {u : Value} (h : convN E s d y C.H = some q) (hy : V C p y u) :
    ∃ u' C', (Go.convert s d u).run E.P C.w = .ok u' C'.w ∧ HR E C' ∧ EvL C C' ∧ C'.H = q.2 ∧ V C' false q.1 u' := by
  unfold convN at h
  split at h
  · rename_i e hs hd
    split at h
    · rename_i he
      split at h
      · rename_i l
        obtain ⟨b, hb, rfl⟩ := hy.str_inv
        subst hb
        cases hc : decide (b.data.toList.length ≤ 140737488355328)
        · rw [hc] at h; cases h
        · rw [hc] at h
          simp only [cond_true, Option.some.injEq] at h
          subst h
          simp only [decide_eq_true_eq] at hc
          have hbl : b.data.toList.length = b.size := by rw [Array.length_toList]; rfl
          have hel : (A.strElems b.data.toList).length = b.size := by unfold A.strElems; rw [List.length_map, hbl]
          have hge := grownCap_ge C.w b.size 0 e
          have hcs : (Lib.bytesCells C.w e b).size = grownCap C.w b.size 0 e := by
            unfold Lib.bytesCells
            have : b.data.size = b.size := rfl
            simp [this]
            omega
          have key := q4e (E := E) (C := C) (ver := 0) (sz := 1) (ty := e) (es := A.strElems b.data.toList) (us := b.data.toList.map fun x => Value.int .u8 x.toNat) (w' := Lib.bytesWorld C.w e b) hr (q85 C.w e b) (q84 C.w e b) Nat.one_pos
            (fun x hx => by
              obtain ⟨c, _, rfl⟩ := List.mem_map.1 hx
              exact ⟨rfl, by simp [AV.cells, AV.one]⟩)
            (.inr (by dsimp only; omega))
            (by
              unfold A.strElems
              generalize b.data.toList = l
              induction l with
              | nil => exact .nil _
              | cons c l ih => exact .cons _ _ _ _ _ (.int _ _ _) ih)
            (fun j u hu => by
              unfold Lib.bytesCells
              have hj : j < b.data.size := by
                have := (List.getElem?_eq_some_iff.1 hu).1
                simpa using this
              rw [Array.getElem?_append_left (by simpa using hj)]
              rw [List.getElem?_map] at hu
              rw [Array.getElem?_map]
              rw [← Array.getElem?_toList]
              exact hu)
          refine ⟨_, _, Lib.run_convert_string_bytes C.w s d e b hs hd he, key.1, key.2, rfl, ?_⟩
          show V _ false (.sl C.H.length 0 0 (A.strElems b.data.toList).length (A.strElems b.data.toList).length) _
          rw [hel]
          refine .sl _ _ _ _ _ _ rfl ⟨by simp [Ctx.grow], fun v sz' ty' es' hx => ?_⟩
          simp [Ctx.grow] at hx
          obtain ⟨rfl, rfl, rfl, rfl⟩ := hx
          refine ⟨Nat.le_refl _, fun _ => ⟨⟨C.w.heap.size, 0, none⟩, grownCap C.w b.size 0 e, rfl, Nat.le_refl _, hge, grownCap_le_maxLen C.w _ 0 e (by unfold maxLen; omega), fun _ => by simp [Ctx.grow], fun cells t' fr hc => ?_⟩⟩
          rw [q1h] at hc ⊢
          have hc' := (Lib.bytesWorld_at_new C.w e b).symm.trans hc
          injection hc' with hc'
          injection hc' with hc1 hc2 hc3
          subst hc1
          rw [hcs]
          simp
      · cases h
    · rename_i he
      split at h
      · rename_i l
        obtain ⟨b, hb, rfl⟩ := hy.str_inv
        subst hb
        cases hc : decide (b.data.toList.length ≤ 70368744177664)
        · rw [hc] at h; cases h
        · rw [hc] at h
          simp only [cond_true, Option.some.injEq] at h
          subst h
          simp only [decide_eq_true_eq] at hc
          have hbl : b.data.toList.length = b.size := by rw [Array.length_toList]; rfl
          have e0 : (⟨b.data.toList.toArray⟩ : ByteArray) = b := by cases b; simp
          rw [e0, hbl]
          have hcs := q7j b b.size 0 #[]
          have hn := qe6 b b.size 0
          generalize runeL b b.size 0 = L at *
          simp only [Array.empty_append] at hcs
          have hsz : ((L.map (Value.int .i32)).toArray).size = L.length := by simp
          have hrun := run_runes_of_string C.w s d e b hs hd he (by rw [hcs, hsz]; omega)
          rw [hcs, hsz] at hrun
          have hge := grownCap_ge C.w L.length 0 e
          have key := q4e (E := E) (C := C) (ver := 0) (sz := 1) (ty := e) (es := L.map (AV.int .i32)) (us := L.map (Value.int .i32)) (fr := (0, 0)) (w' := C.w.drew.alloc (.cells ((L.map (Value.int .i32)).toArray ++ Array.replicate (grownCap C.w L.length 0 e - L.length) (.int .i32 0)) e)) hr ⟨rfl, rfl, rfl⟩ rfl Nat.one_pos
            (fun x hx => by
              obtain ⟨c, _, rfl⟩ := List.mem_map.1 hx
              exact ⟨rfl, by simp [AV.cells, AV.one]⟩)
            (.inl rfl)
            (by
              clear hcs hn hsz hrun hge
              induction L with
              | nil => exact .nil _
              | cons c l ih => exact .cons _ _ _ _ _ (.int _ _ _) ih)
            (fun j u hu => by
              rw [Array.getElem?_append_left (by have := (List.getElem?_eq_some_iff.1 hu).1; simpa using this)]
              simpa using hu)
          refine ⟨_, _, hrun, key.1, key.2, rfl, ?_⟩
          show V _ false (.sl C.H.length 0 0 (L.map (AV.int .i32)).length (L.map (AV.int .i32)).length) _
          rw [List.length_map]
          refine .sl _ _ _ _ _ _ rfl ⟨by simp [Ctx.grow], fun v sz' ty' es' hx => ?_⟩
          simp [Ctx.grow] at hx
          obtain ⟨rfl, rfl, rfl, rfl⟩ := hx
          refine ⟨Nat.le_refl _, fun _ => ⟨⟨C.w.heap.size, 0, none⟩, grownCap C.w L.length 0 e, rfl, Nat.le_refl _, hge, grownCap_le_maxLen C.w _ 0 e (by unfold maxLen; omega), fun _ => by simp [Ctx.grow], fun cells t' fr hc => ?_⟩⟩
          rw [q1h] at hc ⊢
          have hc' := (heap_alloc_new C.w.drew _).symm.trans hc
          injection hc' with hc'
          injection hc' with hc1 hc2 hc3
          subst hc1
          simp
          omega
      · cases h
    · cases h
  · rename_i e0 e hs hd
    split at h
    · rename_i he
      split at h
      · rename_i id ver off n cap
        cases hc : (Nat.beq s d && A.alive C.H id ver && decide (0 < n))
        · rw [hc] at h; cases h
        · rw [hc] at h
          simp only [cond_true, Option.some.injEq] at h
          subst h
          simp only [Bool.and_eq_true, decide_eq_true_eq] at hc
          obtain ⟨⟨h1, h2⟩, h3⟩ := hc
          have hsd := Nat.eq_of_beq_eq_true h1
          obtain ⟨sz, ty, es, hrow⟩ := q1y h2
          have hyy := hy
          cases hy with
          | sl _ _ _ _ _ _ g0 g1 =>
            obtain ⟨a, c, hu, g2, g3, g4, g5, g6⟩ := (g1.2 ver sz ty es hrow).2 rfl
            have ha := g5 (by omega)
            subst ha hu
            obtain ⟨hz, hg, hk, cur, fr, us, hcur, _⟩ := hr.row id ver sz ty es hrow
            obtain ⟨k1, k2⟩ := row_mark hr hrow hcur
            refine ⟨_, { C with w := C.w.freeze ⟨(C.ρ id).1, cur.size, none⟩ 1 }, ?_, k1, k2, rfl, hyy.ev k2.ev⟩
            subst hsd
            have hb : (s == s) = true := by simp
            have hsl := hs.symm.trans hd
            injection hsl with hsl
            injection hsl with hsl
            subst hsl
            have hsh : (shape (C.ρ id).1).run E.P C.w = .ok (some (ty, cur.size)) C.w := by
              simp [shape, Sem.run, World.shape?, hcur]
            unfold Go.convert
            simp only [Sem.run_bind, run_underlying hs, Result.andThen_ok, run_underlying he, hb]
            unfold markStringish
            simp only [Sem.run_bind, hsh, Result.andThen_ok]
            rfl
      · cases h
    · cases h
  · cases h
end
end Go.Den
