/- DEN, part Pu: pure functions: they are read on arguments that do not change, with a small heap of their own; what they return does not change. -/
import Derived.Test.YtikkpecdkdgmfaaDoorDenZl
namespace Go.Den
open Go.RowKit

/-- What memory that never changes needs of a step. -/
structure EvI (C C' : Ctx) : Prop where
  size : C.w.heap.size ≤ C'.w.heap.size
  imm : ∀ b, b < C.w.heap.size → C.κ b = .imm → C'.w.heap[b]? = C.w.heap[b]? ∧ C'.κ b = .imm

theorem cell_keepI {C C' : Ctx} (h : EvI C C') {a : Addr} {u : Value} (hk : C.κ a.block = .imm) (hb : a.block < C.w.heap.size) {j : Nat} (hc : C.w.cell? (a.add j) = some u) : C'.w.cell? (a.add j) = some u := by
  have hab : (a.add j).block = a.block := by unfold Addr.add; split <;> rfl
  have := (h.imm a.block hb hk).1
  rw [← hc]
  exact World.cell?_of_block (by rw [hab]; exact this)

mutual
theorem V.evI' {C C' : Ctx} (h : EvI C C') {p : Bool} {v : AV} {u : Value} : V C p v u → p = true → V C' true v u
  | .bool _ b, _ => .bool _ b
  | .int _ k n, _ => .int _ k n
  | .str _ s, _ => .str _ s
  | .nilp _, _ => .nilp _
  | .nils _, _ => .nils _
  | .nilf _, _ => .nilf _
  | .nili _, _ => .nili _
  | .nilm _, _ => .nilm _
  | .fn _ f a b as bs h1 h2, e => .fn _ f a b as bs (h1.evI' h e) (h2.evI' h e)
  | .iface _ t v u h1, e => .iface _ t v u (h1.evI' h e)
  | .agg _ cs us h0 h1, e => .agg _ cs us h0 (h1.evI' h e)
  | .tup _ cs us h1, e => .tup _ cs us (h1.evI' h e)
  | .rop _ cs a us h0 h1 h2 h3 h4, _ => .rop _ cs a us h0 (h1.evI' h rfl) (fun j u hu => cell_keepI h h3 h4 (h2 j u hu)) (h.imm _ h4 h3).2 (Nat.lt_of_lt_of_le h4 h.size)
  | .sh _ z es a c us h1 h2 h3 h4 h5 h6, _ => .sh _ z es a c us (h1.evI' h rfl) h2 (fun j u hu => by
      have hne : es ≠ [] := by
        rintro rfl
        cases h1
        simp at hu
      exact cell_keepI h (h4 hne).1 (h4 hne).2 (h3 j u hu)) (fun hne => ⟨(h.imm _ (h4 hne).2 (h4 hne).1).2, Nat.lt_of_lt_of_le (h4 hne).2 h.size⟩) h5 h6
  | .undef _, e => by cases e
  | .ptr _ _ _ _ _ _ _, e => by cases e
  | .sl _ _ _ _ _ _ _ _, e => by cases e
  | .it _ _ _ _, e => by cases e
  | .mp _ _ _ _, e => by cases e
theorem Vs.evI' {C C' : Ctx} (h : EvI C C') {p : Bool} {vs : List AV} {us : List Value} : Vs C p vs us → p = true → Vs C' true vs us
  | .nil _, _ => .nil _
  | .cons _ v u vs us h1 h2, e => .cons _ v u vs us (h1.evI' h e) (h2.evI' h e)
end
theorem V.evI {C C' : Ctx} (h : EvI C C') {v : AV} {u : Value} (g : V C true v u) : V C' true v u := g.evI' h rfl
theorem Vs.evI {C C' : Ctx} (h : EvI C C') {vs : List AV} {us : List Value} (g : Vs C true vs us) : Vs C' true vs us := g.evI' h rfl

/-- Where a value is to be frozen, what it leads to is to be memory that never changes. -/
def ImmAt (C C' : Ctx) (ids : List Nat) : Prop := ∀ id ∈ ids, ∀ v sz ty es, C.H[id]? = some (.row v sz ty es) → C'.κ (C.ρ id).1 = .imm

theorem ImmAt.sub {C C' : Ctx} {a b : List Nat} (h : ImmAt C C' b) (hs : ∀ i ∈ a, i ∈ b) : ImmAt C C' a := fun id hi => h id (hs id hi)

theorem freeze_list {bb : Bool} {C C' : Ctx} {n : Nat} (ih : ∀ (v v' : AV) (u : Value), A.freezeB bb n C.H v = some v' → V C false v u → ImmAt C C' (reach n C.H v) → V C' true v' u ∧ (v.one = true → v'.one = true)) : ∀ {cs cs' : List AV} {us : List Value},
    cs.mapM (A.freezeB bb n C.H) = some cs' → Vs C false cs us → ImmAt C C' (cs.flatMap (reach n C.H)) → Vs C' true cs' us ∧ ((∀ c ∈ cs, c.one = true) → ∀ c ∈ cs', c.one = true) ∧ cs'.length = cs.length
  | [], cs', us, h, hv, _ => by
    simp only [List.mapM_nil, Option.pure_def, Option.some.injEq] at h
    subst h
    cases hv
    exact ⟨.nil _, fun _ => by simp, rfl⟩
  | c :: cs, cs', us, h, hv, hi => by
    rw [List.mapM_cons] at h
    simp only [Option.pure_def, Option.bind_eq_bind, Option.bind_eq_some_iff, Option.some.injEq] at h
    obtain ⟨c', h1, r, h2, rfl⟩ := h
    cases hv with
    | cons _ _ u _ us g1 g2 =>
      obtain ⟨k1, k2⟩ := ih c c' u h1 g1 (hi.sub fun i hi => List.mem_flatMap.2 ⟨c, List.mem_cons_self, hi⟩)
      obtain ⟨m1, m2, m3⟩ := freeze_list ih h2 g2 (hi.sub fun i hi => by
        obtain ⟨x, hx, hxi⟩ := List.mem_flatMap.1 hi
        exact List.mem_flatMap.2 ⟨x, List.mem_cons_of_mem _ hx, hxi⟩)
      refine ⟨.cons _ _ _ _ _ k1 m1, fun ho x hx => ?_, by simp [m3]⟩
      rcases List.mem_cons.1 hx with rfl | hx
      · exact k2 (ho c List.mem_cons_self)
      · exact m2 (fun y hy => ho y (List.mem_cons_of_mem _ hy)) x hx

theorem cells_of_one {v : AV} (h : v.one = true) : v.cells = [v] := by
  cases v <;> first | rfl | (simp [AV.one] at h)

/-- A row's elements. -/
def freezeE (bb : Bool) (n : Nat) (H : Heap) (e : AV) : Option AV :=
  match e with
  | AV.agg cs => (cs.mapM (A.freezeB bb n H)).map AV.agg
  | e => A.freezeB bb n H e

theorem freeze_elems {bb : Bool} {C C' : Ctx} {n z : Nat} (ih : ∀ (v v' : AV) (u : Value), A.freezeB bb n C.H v = some v' → V C false v u → ImmAt C C' (reach n C.H v) → V C' true v' u ∧ (v.one = true → v'.one = true)) : ∀ {es es' : List AV} {us : List Value},
    es.mapM (freezeE bb n C.H) = some es' → Vs C false (es.flatMap AV.cells) us → (∀ e ∈ es, Good z e) → ImmAt C C' (es.flatMap fun e => e.cells.flatMap (reach n C.H)) →
    Vs C' true (es'.flatMap AV.cells) us ∧ (∀ e ∈ es', Good z e) ∧ es'.length = es.length
  | [], es', us, h, hv, _, _ => by
    simp only [List.mapM_nil, Option.pure_def, Option.some.injEq] at h
    subst h
    cases hv
    exact ⟨.nil _, by simp, rfl⟩
  | e :: es, es', us, h, hv, hg, hi => by
    rw [List.mapM_cons] at h
    simp only [Option.pure_def, Option.bind_eq_bind, Option.bind_eq_some_iff, Option.some.injEq] at h
    obtain ⟨e', h1, r, h2, rfl⟩ := h
    rw [List.flatMap_cons] at hv
    obtain ⟨v1, v2⟩ := hv.split
    obtain ⟨m1, m2, m3⟩ := freeze_elems ih h2 v2 (fun x hx => hg x (List.mem_cons_of_mem _ hx)) (hi.sub fun i hi => by
      obtain ⟨x, hx, hxi⟩ := List.mem_flatMap.1 hi
      exact List.mem_flatMap.2 ⟨x, List.mem_cons_of_mem _ hx, hxi⟩)
    have hie : ImmAt C C' (e.cells.flatMap (reach n C.H)) := hi.sub fun i hi => List.mem_flatMap.2 ⟨e, List.mem_cons_self, hi⟩
    have hge := hg e List.mem_cons_self
    have key : Vs C' true e'.cells (us.take e.cells.length) ∧ Good z e' := by
      unfold freezeE at h1
      split at h1
      · rename_i cs
        simp only [Option.map_eq_some_iff] at h1
        obtain ⟨cs', g1, rfl⟩ := h1
        obtain ⟨k1, k2, k3⟩ := freeze_list ih g1 v1 hie
        exact ⟨k1, k3.trans hge.1, k2 hge.2⟩
      · rename_i hna
        have hc : e.cells = [e] := by
          cases e <;> first | rfl | exact absurd rfl (hna _)
        rw [hc] at v1 hie
        have ho : e.one = true := hge.2 e (by rw [hc]; simp)
        have hv1 : ∃ u, us.take 1 = [u] ∧ V C false e u := by
          have e1 : ([e] : List AV).length = 1 := rfl
          rw [e1] at v1
          generalize hx : us.take 1 = l at v1
          cases v1 with
          | cons _ _ u _ _ q1 q2 => cases q2; exact ⟨u, rfl, q1⟩
        obtain ⟨u, hu, q1⟩ := hv1
        obtain ⟨k1, k2⟩ := ih e e' u h1 q1 (hie.sub fun i hi => by simpa using hi)
        have hc' := cells_of_one (k2 ho)
        rw [hc, hc', show ([e] : List AV).length = 1 from rfl, hu]
        refine ⟨.cons _ _ _ _ _ k1 (.nil _), ?_, ?_⟩
        · rw [hc']
          have := hge.1
          rw [hc] at this
          exact this
        · rw [hc']
          intro c hcm
          simp only [List.mem_cons, List.not_mem_nil, or_false] at hcm
          rw [hcm]
          exact k2 ho
    refine ⟨?_, fun x hx => ?_, by simp [m3]⟩
    · rw [List.flatMap_cons]
      have := key.1.append m1
      rw [List.take_append_drop] at this
      exact this
    · rcases List.mem_cons.1 hx with rfl | hx
      · exact key.2
      · exact m2 x hx

theorem freeze_sl {bb : Bool} {n : Nat} {H : Heap} {id ver off m cap : Nat} : A.freezeB bb (n + 1) H (.sl id ver off m cap) = match H[id]? with
    | some (.row w z _ es) => if w = ver ∧ off + m ≤ es.length then (((es.drop off).take m).mapM (freezeE bb n H)).map (.sh z) else none
    | _ => none := rfl

theorem freeze_ok {bb : Bool} {E : Env} {C C' : Ctx} (hr : HR E C) (hi : bb = true → EvI C C') (hw : C'.w = C.w) : ∀ (n : Nat) (v v' : AV) (u : Value), A.freezeB bb n C.H v = some v' → V C false v u → ImmAt C C' (reach n C.H v) → V C' true v' u ∧ (v.one = true → v'.one = true)
  | 0, v, v', u, h, _, _ => by cases h
  | n + 1, v, v', u, h, hv, hm => by
    have ih := freeze_ok hr hi hw n
    cases hv with
    | undef _ => cases h
    | bool _ b => cases h; exact ⟨.bool _ _, id⟩
    | int _ k i => cases h; exact ⟨.int _ _ _, id⟩
    | str _ s => cases h; exact ⟨.str _ _, id⟩
    | nilp _ => cases h; exact ⟨.nilp _, id⟩
    | nils _ => cases h; exact ⟨.nils _, id⟩
    | nilf _ => cases h; exact ⟨.nilf _, id⟩
    | nili _ => cases h; exact ⟨.nili _, id⟩
    | nilm _ => cases h; exact ⟨.nilm _, id⟩
    | it _ _ _ _ => cases h
    | mp _ _ _ _ => cases h
    | rop _ cs a us h0 h1 h2 h3 h4 =>
      cases hbb : bb
      · subst hbb; cases h
      · subst hbb
        cases h
        exact ⟨V.evI (hi rfl) (.rop _ cs a us h0 h1 h2 h3 h4), id⟩
    | sh _ z es a c us h1 h2 h3 h4 h5 h6 =>
      cases hbb : bb
      · subst hbb; cases h
      · subst hbb
        cases h
        exact ⟨V.evI (hi rfl) (.sh _ z es a c us h1 h2 h3 h4 h5 h6), id⟩
    | fn _ f a b as bs h1 h2 =>
      unfold A.freezeB at h
      simp only [Option.bind_eq_some_iff, Option.map_eq_some_iff] at h
      obtain ⟨a', g1, b', g2, rfl⟩ := h
      obtain ⟨k1, _, _⟩ := freeze_list ih g1 h1 (hm.sub fun i hi => by unfold reach; exact List.mem_append_left _ hi)
      obtain ⟨k2, _, _⟩ := freeze_list ih g2 h2 (hm.sub fun i hi => by unfold reach; exact List.mem_append_right _ hi)
      exact ⟨.fn _ _ _ _ _ _ k1 k2, fun _ => rfl⟩
    | iface _ t x u h1 =>
      unfold A.freezeB at h
      simp only [Option.map_eq_some_iff] at h
      obtain ⟨x', g1, rfl⟩ := h
      exact ⟨.iface _ _ _ _ (ih x x' u g1 h1 (hm.sub fun i hi => by unfold reach; exact hi)).1, fun _ => rfl⟩
    | agg _ cs us h0 h1 =>
      unfold A.freezeB at h
      simp only [Option.map_eq_some_iff] at h
      obtain ⟨cs', g1, rfl⟩ := h
      obtain ⟨k1, k2, _⟩ := freeze_list ih g1 h1 (hm.sub fun i hi => by unfold reach; exact hi)
      exact ⟨.agg _ _ _ (k2 h0) k1, fun h => by cases h⟩
    | tup _ cs us h1 =>
      unfold A.freezeB at h
      simp only [Option.map_eq_some_iff] at h
      obtain ⟨cs', g1, rfl⟩ := h
      obtain ⟨k1, k2, _⟩ := freeze_list ih g1 h1 (hm.sub fun i hi => by unfold reach; exact hi)
      exact ⟨.tup _ _ _ k1, fun h => by cases h⟩
    | ptr id ver i off u h0 h1 =>
      unfold A.freezeB at h
      dsimp only at h
      split at h
      · rename_i w z ty es hrow
        cases hb : (w == ver)
        · rw [hb] at h; cases h
        · rw [hb] at h
          have : w = ver := by simpa using hb
          subst this
          simp only [cond_true, Option.bind_eq_some_iff, Option.map_eq_some_iff] at h
          obtain ⟨e, he, cs', g1, rfl⟩ := h
          have hel : A.elemAt C.H id w i = some e := by simp [A.elemAt, hrow, he]
          obtain ⟨z', ty', es2, us, q1, q2, q3, q4, q5⟩ := row_elem hr hel
          rw [hrow] at q1
          cases q1
          have hpt := (h1.2 w z ty es hrow).2 rfl
          subst hpt
          have hk : C.κ (C.ρ id).1 = .obj id := (hr.row id w z ty es hrow).2.2.1
          have hmm : ImmAt C C' ((e.cells.drop off).flatMap (reach n C.H)) := hm.sub fun j hj => by
            unfold reach
            dsimp only
            rw [hrow]
            dsimp only
            refine List.mem_cons_of_mem _ (List.mem_flatMap.2 ⟨e, List.mem_of_getElem? he, ?_⟩)
            obtain ⟨x, hx, hxi⟩ := List.mem_flatMap.1 hj
            exact List.mem_flatMap.2 ⟨x, List.mem_of_mem_drop hx, hxi⟩
          obtain ⟨k1, k2, k3⟩ := freeze_list ih g1 (q4.drop off) hmm
          have himm : C'.κ (C.ρ id).1 = .imm := hm id (by unfold reach; exact List.mem_cons_self) w z ty es hrow
          have hblk : (C.ρ id).1 < C.w.heap.size := by
            rcases Nat.lt_or_ge (C.ρ id).1 C.w.heap.size with hlt | hge
            · exact hlt
            · rw [hr.new _ hge] at hk; cases hk
          refine ⟨.rop _ cs' ⟨(C.ρ id).1, (C.ρ id).2 + (i * z + off), none⟩ _ (k2 fun c hc => q3.2 c (List.mem_of_mem_drop hc)) k1 (fun j u hu => ?_) himm (by rw [hw]; exact hblk), fun _ => rfl⟩
          rw [List.getElem?_drop] at hu
          have := q5 _ _ hu
          rw [hw, Addr.add_lit]
          rw [show (C.ρ id).2 + (i * z + off) + j = (C.ρ id).2 + (i * z + (off + j)) by omega]
          exact this
      · cases h
    | sl id ver off m cap u h0 h1 =>
      rw [freeze_sl] at h
      split at h
      · rename_i w z ty es hrow
        split at h
        · rename_i hc
          obtain ⟨rfl, hle⟩ := hc
          simp only [Option.map_eq_some_iff] at h
          obtain ⟨es', g1, rfl⟩ := h
          obtain ⟨hz, hg, hk, cur, fr, us, hcur, hfz, hus, hcell⟩ := hr.row id w z ty es hrow
          obtain ⟨a, c, hu, g2, g3, g4, g5, g6⟩ := (h1.2 w z ty es hrow).2 rfl
          subst hu
          have hgd : ∀ e ∈ (es.drop off).take m, Good z e := fun e he => hg e (List.mem_of_mem_drop (List.mem_of_mem_take he))
          have hnl : ((es.drop off).take m).length = m := by rw [List.length_take, List.length_drop]; omega
          have hfl : es.flatMap AV.cells = (es.take off).flatMap AV.cells ++ (((es.drop off).take m).flatMap AV.cells ++ ((es.drop off).drop m).flatMap AV.cells) := by
            rw [← List.flatMap_append, List.take_append_drop, ← List.flatMap_append, List.take_append_drop]
          have hl1 : ((es.take off).flatMap AV.cells).length = off * z := by
            rw [flat_length (fun x hx => hg x (List.mem_of_mem_take hx)), List.length_take, Nat.min_eq_left (by omega)]
          have hl2 : (((es.drop off).take m).flatMap AV.cells).length = m * z := by rw [flat_length hgd, hnl]
          have hv := hus
          rw [hfl] at hv
          have hv2 := hv.split.2.split.1
          rw [hl1, hl2] at hv2
          obtain ⟨k1, k2, k3⟩ := freeze_elems ih g1 hv2 hgd (hm.sub fun j hj => by
            unfold reach
            dsimp only
            rw [hrow]
            dsimp only
            refine List.mem_cons_of_mem _ ?_
            obtain ⟨x, hx, hxi⟩ := List.mem_flatMap.1 hj
            exact List.mem_flatMap.2 ⟨x, List.mem_of_mem_drop (List.mem_of_mem_take hx), hxi⟩)
          have himm : C'.κ (C.ρ id).1 = .imm := hm id (by unfold reach; exact List.mem_cons_self) w z ty es hrow
          have hblk : (C.ρ id).1 < C.w.heap.size := by
            rcases Nat.lt_or_ge (C.ρ id).1 C.w.heap.size with hlt | hge
            · exact hlt
            · rw [hr.new _ hge] at hk; cases hk
          have hlen : es'.length = m := k3.trans hnl
          have hsh : V C' true (.sh z es') (.slice (some a) es'.length c) := by
            refine .sh _ z es' a c _ k1 k2 (fun j u hju => ?_) (fun hne => ?_) (by omega) g4
            · have hpos : 0 < c := by
                rcases Nat.eq_zero_or_pos c with h0 | h0
                · have : m = 0 := by omega
                  subst this
                  simp at hju
                · exact h0
              have ha := g5 hpos
              subst ha
              rw [List.getElem?_take] at hju
              split at hju
              · rw [List.getElem?_drop] at hju
                have := hcell _ _ hju
                rw [hw, Addr.add_lit]
                simp only [World.cell?, hcur, Option.isSome_none, Bool.false_eq_true, if_false]
                rw [show (C.ρ id).2 + off * z + j = (C.ρ id).2 + (off * z + j) by omega]
                exact this
              · simp at hju
            · have hpos : 0 < c := by
                cases es' with
                | nil => exact absurd rfl hne
                | cons _ _ => simp at hlen; omega
              have ha := g5 hpos
              subst ha
              exact ⟨himm, by rw [hw]; exact hblk⟩
          rw [hlen] at hsh
          exact ⟨hsh, fun _ => rfl⟩
        · cases h
      · cases h

/-- What leads to no memory is the same everywhere. -/
theorem flat0_V {C C' : Ctx} {p : Bool} {v : AV} {u : Value} (hf : v.flat0 = true) (h : V C p v u) : V C' false v u := by
  cases h <;> first | exact absurd (show false = true from hf) Bool.false_ne_true | constructor
theorem flat_V {C C' : Ctx} {p : Bool} {v : AV} {u : Value} (hf : v.flat = true) (h : V C p v u) : V C' false v u := by
  have key : ∀ (vs : List AV) (us : List Value), vs.all AV.flat0 = true → Vs C p vs us → Vs C' false vs us := by
    intro vs
    induction vs with
    | nil => intro us _ h; cases h; exact .nil _
    | cons x vs ih =>
      intro us hf h
      simp only [List.all_cons, Bool.and_eq_true] at hf
      cases h with
      | cons _ _ u _ us h1 h2 => exact .cons _ _ _ _ _ (flat0_V hf.1 h1) (ih us hf.2 h2)
  cases h with
  | agg _ cs us h0 h1 => exact .agg _ _ _ h0 (key _ _ hf h1)
  | tup _ cs us h1 => exact .tup _ _ _ (key _ _ hf h1)
  | _ => first | exact absurd (show false = true from hf) Bool.false_ne_true | constructor

theorem kill_length : ∀ (ids : List Nat) (H : Heap), (kill ids H).length = H.length
  | [], _ => rfl
  | i :: ids, H => by
    show (kill ids (H.set i .dead)).length = H.length
    rw [kill_length ids, List.length_set]

theorem kill_get {o : HObj} (ho : o ≠ .dead) : ∀ {ids : List Nat} {H : Heap} {j : Nat}, (kill ids H)[j]? = some o → H[j]? = some o ∧ j ∉ ids
  | [], _, _, h => ⟨h, by simp⟩
  | i :: ids, H, j, h => by
    have h' : (kill ids (H.set i .dead))[j]? = some o := h
    obtain ⟨h1, h2⟩ := kill_get ho h'
    by_cases e : i = j
    · subst e
      rw [List.getElem?_set] at h1
      simp only [if_true] at h1
      split at h1
      · simp only [Option.some.injEq] at h1
        exact absurd h1.symm ho
      · cases h1
    · rw [List.getElem?_set_ne e] at h1
      exact ⟨h1, by simp [h2, Ne.symm e]⟩

theorem freezeAll_ok {E : Env} {C C' : Ctx} (hr : HR E C) (hi : EvI C C') (hw : C'.w = C.w) : ∀ {args as : List AV} {us : List Value}, freezeAll C.H args = some as → Vs C false args us → ImmAt C C' (args.flatMap (reach 64 C.H)) → Vs C' true as us
  | [], as, us, h, hv, _ => by
    simp only [freezeAll, Option.some.injEq] at h
    subst h
    cases hv
    exact .nil _
  | a :: args, as, us, h, hv, hm => by
    unfold freezeAll at h
    split at h
    · rename_i x hx
      split at h
      · rename_i r hrr
        simp only [Option.some.injEq] at h
        subst h
        cases hv with
        | cons _ _ u _ us g1 g2 =>
          exact .cons _ _ _ _ _ (freeze_ok hr (fun _ => hi) hw 64 a x u hx g1 (hm.sub fun i hi => List.mem_flatMap.2 ⟨a, List.mem_cons_self, hi⟩)).1
            (freezeAll_ok hr hi hw hrr g2 (hm.sub fun i hi => by
              obtain ⟨x, hx, hxi⟩ := List.mem_flatMap.1 hi
              exact List.mem_flatMap.2 ⟨x, List.mem_cons_of_mem _ hx, hxi⟩))
      · cases h
    · cases h

/-- The moment as a pure function sees it. -/
def Ctx.pureIn (C : Ctx) (ids : List Nat) : Ctx :=
  ⟨C.w, fun b => if b < C.w.heap.size then (match C.κ b with | .imm => .imm | .obj id => if id ∈ ids then .imm else .oth | _ => .oth) else .oth, fun _ => (0, 0), []⟩
/-- All objects become memory that never changes. -/
def Ctx.allImm (C : Ctx) : Ctx := { C with κ := fun b => match C.κ b with | .obj _ => .imm | x => x }
/-- The moment behind it. -/
def Ctx.pureOut (C C1 : Ctx) (ids : List Nat) (H' : Heap) : Ctx :=
  ⟨C1.w, fun b => if b < C.w.heap.size then (match C.κ b with | .obj id => if id ∈ ids then .imm else .obj id | x => x) else (match C1.κ b with | .obj _ => .imm | .imm => .imm | _ => .oth), C.ρ, H'⟩

theorem pureIn_evI {C : Ctx} {ids : List Nat} : EvI C (C.pureIn ids) :=
  ⟨Nat.le_refl _, fun b hb hi => ⟨rfl, by simp [Ctx.pureIn, hb, hi]⟩⟩
theorem pureIn_two {C : Ctx} {ids : List Nat} (b : Nat) : (C.pureIn ids).κ b = .imm ∨ (C.pureIn ids).κ b = .oth := by
  unfold Ctx.pureIn
  dsimp only
  split
  · split
    · exact .inl rfl
    · split
      · exact .inl rfl
      · exact .inr rfl
    · exact .inr rfl
  · exact .inr rfl

theorem HR.block_lt {E : Env} {C : Ctx} (hr : HR E C) {b id : Nat} (h : C.κ b = .obj id) : b < C.w.heap.size := by
  rcases Nat.lt_or_ge b C.w.heap.size with h1 | h1
  · exact h1
  · rw [hr.new b h1] at h; cases h

theorem pure_prim {E E' : Env} (hP : E'.P = E.P) (hG : E'.glob = E.glob) (hcf : ∀ n, CallOK E' (callF E' n)) {f : FuncId} {F : List AV → Option AV}
    (hF : ∀ as v, F as = some v → ∃ n, callF E' n AV f as [] (fun v G => A.freezeB true 64 G v) = some v) : PrimOK E f (pureF F) := by
  intro args C us v H' h hr hl hv
  unfold pureF at h
  split at h
  · rename_i as has
    split at h
    · rename_i r hr0
      simp only [Option.some.injEq, Prod.mk.injEq] at h
      obtain ⟨rfl, hH⟩ := h
      obtain ⟨n, hn⟩ := hF as r hr0
      rw [callF_nat n] at hn
      simp only [Option.bind_eq_some_iff] at hn
      obtain ⟨⟨x, G⟩, hn1, hn2⟩ := hn
      dsimp only at hn2
      let ids := args.flatMap (reach 64 C.H)
      have ev0 : EvI C (C.pureIn ids) := pureIn_evI
      have hm : ImmAt C (C.pureIn ids) ids := fun id hid w z ty es hrow => by
        have hk := (hr.row id w z ty es hrow).2.2.1
        have hb := hr.block_lt hk
        show (if (C.ρ id).1 < C.w.heap.size then _ else _) = _
        rw [if_pos hb, hk]
        exact if_pos hid
      have has' : Vs (C.pureIn ids) true as us.toList := freezeAll_ok hr ev0 rfl has hv hm
      have hr0' : HR E' (C.pureIn ids) := ⟨fun id v sz ty es h => by simp [Ctx.pureIn] at h, fun id l pos h => by simp [Ctx.pureIn] at h, fun b hb => by
        have : ¬ b < C.w.heap.size := by have : C.w.heap.size ≤ b := hb; omega
        simp [Ctx.pureIn, this], fun g cs hg => V.evI ev0 (hr.glob g cs (by rw [← hG]; exact hg)), fun id v sz ty es h => by simp [Ctx.pureIn] at h⟩
      have hl0 : (C.pureIn ids).noLoc := fun b s e => by rcases pureIn_two (C := C) (ids := ids) b with h | h <;> (rw [h] at e; cases e)
      have hL := hcf n f as (C.pureIn ids) us x G hn1 hr0' hl0 has'.weaken
      rw [hP] at hL
      refine Lands.mono hL fun u w' hg => ?_
      obtain ⟨C1, rfl, rfl, hx, hr1, hev, hl1⟩ := hg
      have hsize : C.w.heap.size ≤ C1.w.heap.size := hev.size
      have keep : ∀ b, b < C.w.heap.size → C1.w.heap[b]? = C.w.heap[b]? ∧ C1.κ b = (C.pureIn ids).κ b := fun b hb => hev.keep b hb (pureIn_two b)
      have ev1 : EvI C1 C1.allImm := ⟨Nat.le_refl _, fun b _ hi => ⟨rfl, by simp [Ctx.allImm, hi]⟩⟩
      have hm1 : ImmAt C1 C1.allImm (reach 64 C1.H x) := fun id _ w z ty es hrow => by
        have hk := (hr1.row id w z ty es hrow).2.2.1
        simp [Ctx.allImm, hk]
      have hfz := (freeze_ok hr1 (fun _ => ev1) rfl 64 x r u hn2 hx hm1).1
      let kd := if r.flat = true then [] else ids
      have hH2 : H' = kill kd C.H := by
        rw [← hH]
        show (bif r.flat then C.H else kill ids C.H) = kill (if r.flat = true then [] else ids) C.H
        cases r.flat <;> rfl
      subst hH2
      have hk2 : ∀ b id, C.κ b = .obj id → id ∉ kd → (C.pureOut C1 kd (kill kd C.H)).κ b = .obj id := fun b id hk hid => by
        show (if b < C.w.heap.size then _ else _) = _
        rw [if_pos (hr.block_lt hk), hk]
        exact if_neg hid
      have hk3 : ∀ b, (C.κ b = .imm ∨ C.κ b = .oth) → b < C.w.heap.size → (C.pureOut C1 kd (kill kd C.H)).κ b = C.κ b := fun b hk hb => by
        show (if b < C.w.heap.size then _ else _) = _
        rw [if_pos hb]
        rcases hk with hk | hk <;> rw [hk]
      have hrows : ∀ id, id < C.H.length → ∀ v' sz' ty' es', (kill kd C.H)[id]? = some (.row v' sz' ty' es') → ∃ v es, C.H[id]? = some (.row v sz' ty' es) ∧ v ≤ v' ∧
          (v = v' → C.ρ id = C.ρ id ∧ ∀ cells t fr, C1.w.heap[(C.ρ id).1]? = some (.cells cells t fr) → ∃ cells' t' fr', C.w.heap[(C.ρ id).1]? = some (.cells cells' t' fr') ∧ cells.size = cells'.size) := fun id _ v' sz' ty' es' hrow => by
        obtain ⟨g1, g2⟩ := kill_get (by simp) hrow
        refine ⟨v', es', g1, Nat.le_refl _, fun _ => ⟨rfl, fun cells t fr hc => ?_⟩⟩
        have hb := hr.block_lt (hr.row id v' sz' ty' es' g1).2.2.1
        rw [(keep _ hb).1] at hc
        exact ⟨cells, t, fr, hc, rfl⟩
      have ev2 : EvV C (C.pureOut C1 kd (kill kd C.H)) := ⟨hsize, fun b hb hi => ⟨(keep b hb).1, (hk3 b (.inl hi) hb).trans hi⟩, Nat.le_of_eq (kill_length _ _).symm, hrows,
        fun id _ l pos h => ⟨⟨l, pos, (kill_get (by simp) h).1⟩, rfl⟩, fun id _ k e es h => ⟨⟨k, e, es, (kill_get (by simp) h).1⟩, rfl⟩⟩
      refine ⟨C.pureOut C1 kd (kill kd C.H), rfl, rfl, ?_, ?_, ?_, ?_⟩
      · cases hfl : r.flat with
        | true => exact flat_V hfl hfz
        | false =>
          have hkd : kd = ids := by show (if r.flat = true then [] else ids) = ids; rw [hfl]; rfl
          refine (V.evI (C := C1.allImm) (C' := C.pureOut C1 kd (kill kd C.H)) ⟨Nat.le_refl _, fun b hb hi => ⟨rfl, ?_⟩⟩ hfz).weaken
          rw [hkd]
          show (if b < C.w.heap.size then _ else _) = _
          by_cases hbs : b < C.w.heap.size
          · rw [if_pos hbs]
            have hkb := (keep b hbs).2
            have hi' : (C.pureIn ids).κ b = .imm := by
              rcases pureIn_two (C := C) (ids := ids) b with h | h
              · exact h
              · rw [h] at hkb
                have : C1.allImm.κ b = .oth := by simp [Ctx.allImm, hkb]
                rw [this] at hi; cases hi
            have hi2 : (if b < C.w.heap.size then (match C.κ b with | .imm => Role.imm | .obj id => if id ∈ ids then .imm else .oth | _ => .oth) else .oth) = .imm := hi'
            rw [if_pos hbs] at hi2
            cases hcb : C.κ b with
            | imm => rfl
            | obj id =>
              rw [hcb] at hi2
              dsimp only at hi2 ⊢
              split at hi2
              · rename_i hid; exact if_pos hid
              · cases hi2
            | loc s => rw [hcb] at hi2; cases hi2
            | oth => rw [hcb] at hi2; cases hi2
          · rw [if_neg hbs]
            have hi' : (match C1.κ b with | .obj _ => Role.imm | x => x) = .imm := hi
            cases hcb : C1.κ b with
            | imm => rfl
            | obj id => rfl
            | loc s => rw [hcb] at hi'; cases hi'
            | oth => rw [hcb] at hi'; cases hi'
      · refine ⟨fun id v sz ty es h => ?_, fun id l pos h => ?_, fun b hb => ?_, fun g cs h => (hr.glob g cs h).evV ev2, fun id v sz ty es h => hr.al id v sz ty es (kill_get (by simp) h).1⟩
        · obtain ⟨g1, g2⟩ := kill_get (by simp) h
          obtain ⟨p0, p1, p2, cur, fr, us', p3, p4, p5, p6⟩ := hr.row id v sz ty es g1
          refine ⟨p0, p1, hk2 _ _ p2 g2, cur, fr, us', ?_, p4, p5.evV ev2, p6⟩
          exact (keep _ (hr.block_lt p2)).1.trans p3
        · obtain ⟨g1, g2⟩ := kill_get (by simp) h
          obtain ⟨p0, s, p1, p2⟩ := hr.iter id l pos g1
          exact ⟨hk2 _ _ p0 g2, s, p1, (keep _ (hr.block_lt p0)).1.trans p2⟩
        · have hb' : C1.w.heap.size ≤ b := hb
          have hnb : ¬ b < C.w.heap.size := by omega
          show (if b < C.w.heap.size then _ else _) = _
          rw [if_neg hnb, hr1.new b hb']
      · exact ⟨hev.os, hev.tape, hev.output, hsize, fun b hb hk => ⟨(keep b hb).1, hk3 b hk hb⟩, Nat.le_of_eq (kill_length _ _).symm, hrows,
          fun id _ l pos h => ⟨⟨l, pos, (kill_get (by simp) h).1⟩, rfl⟩, fun id _ k e es h => ⟨⟨k, e, es, (kill_get (by simp) h).1⟩, rfl⟩⟩
      · intro b s e
        have e' : (if b < C.w.heap.size then (match C.κ b with | .obj id => if id ∈ kd then Role.imm else .obj id | x => x) else (match C1.κ b with | .obj _ => .imm | .imm => .imm | _ => .oth)) = .loc s := e
        split at e'
        · cases hcb : C.κ b with
          | imm => rw [hcb] at e'; cases e'
          | obj id => rw [hcb] at e'; dsimp only at e'; split at e' <;> cases e'
          | loc s' => exact hl b s' hcb
          | oth => rw [hcb] at e'; cases e'
        · cases hcb : C1.κ b with
          | imm => rw [hcb] at e'; cases e'
          | obj id => rw [hcb] at e'; cases e'
          | loc s' => rw [hcb] at e'; cases e'
          | oth => rw [hcb] at e'; cases e'
    · cases h
  · cases h

end Go.Den
