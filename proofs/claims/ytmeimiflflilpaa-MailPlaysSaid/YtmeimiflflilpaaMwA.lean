/- What the mailbox's functions do, on a small heap that holds a mailbox of whole numbers. -/
import Derived.Test.YtmeimiflflilpaaSb
import Derived.Test.YtmeimiflflilpaaDenSd
set_option maxRecDepth 100000
namespace Go.Proofs.Ytmeimiflflilpaa
open Go Go.Den

theorem ty29 : env.P.underlying 29 = some (.pointer 76) := by kernel_rfl
theorem ty33 : env.P.underlying 33 = some (.slice 3) := by kernel_rfl

abbrev I (n : Int) : AV := .int .i64 n

/-- A mailbox: what it holds, its mark, how many it may hold; the rows that are its own. -/
def MB (H : Heap) (b : Nat) (l : List Int) (at_ most : Int) (own : List Nat) : Prop :=
  ∃ s, Go.Den.Box H b 3 76 [s, I at_, I most] ∧ Sl H 1 3 s (l.map I) own ∧ b ∉ own

section
variable {H H' : Heap} {b : Nat} {l : List Int} {at_ most : Int} {own : List Nat}

theorem MB.kept (h : MB H b l at_ most own) {o : List Nat} (hk : Kept o H H') (hb : b ∉ o) (ho : ∀ i ∈ own, i ∉ o) : MB H' b l at_ most own := by
  obtain ⟨s, h1, h2, h3⟩ := h
  exact ⟨s, h1.kept hk hb, h2.kept hk ho, h3⟩

theorem new_int (most : Int) (H : Heap) : ∃ H', Does env 17 [I most] H (.ptr H.length 0 0 0) H' ∧ MB H' H.length [] 0 (max most 0) [] ∧ Kept [] H H' := by
  refine ⟨H ++ [.row 0 3 76 [.agg [.nils, I 0, I (max most 0)]]], ?_, ⟨.nils, by unfold Go.Den.Box; exact get_new, .nil, by simp⟩, .app _ _ _⟩
  refine Does.intro (Evs.of fun n _ => ?_)
  simp [S17, A.fill, A.splice, AV.cells, AV.isDef]
  omega

theorem ahead (h : MB H b l at_ most own) : Does env 32 [.ptr b 0 0 0] H (.bool (decide (at_ < l.length))) H := by
  obtain ⟨s, h1, h2, h3⟩ := h
  refine Does.intro (Evs.of fun n _ => ?_)
  simp [S32, (h1.not_nil ty29).2, h1.nilCheck, h1.fa, h1.load, h2.len]

theorem put_full (h : MB H b l at_ most own) (hl : most ≤ l.length) (x : Int) : Does env 18 [.ptr b 0 0 0, I x] H (.bool false) H := by
  obtain ⟨s, h1, h2, h3⟩ := h
  refine Does.intro (Evs.of fun n _ => ?_)
  simp [S18, (h1.not_nil ty29).1, h1.nilCheck, h1.fa, h1.load, h2.len, hl]

theorem put_ok (h : MB H b l at_ most own) (hl : (l.length : Int) < most) (hs : l.length < 1000000) (x : Int) :
    ∃ H' own', Does env 18 [.ptr b 0 0 0, I x] H (.bool true) H' ∧ MB H' b (l ++ [x]) at_ most own' ∧ Kept (b :: own) H H' ∧ ∀ i ∈ own', i ∈ own ∨ H.length ≤ i := by
  obtain ⟨s, h1, h2, h3⟩ := h
  have k1 : Kept [] H (H ++ [.row 0 1 3 [I x]]) := .app _ _ _
  have hb1 := h1.kept k1 (by simp)
  have hs1 := h2.kept k1 (by simp)
  obtain ⟨v, H2, own', ha, hs2, hk, hown⟩ := hs1.append (bytes := 8) [I x] (by omega) (by simp; omega)
  have hb2 := hb1.kept hk h3
  obtain ⟨d1, d2, d3⟩ := hs2.def
  have hst := hb2.store (o := 0) (v := v) (by simp) d1 d3 d2
  simp only [List.set_cons_zero] at hst
  have hr : A.read 1 (.sl H.length 0 0 1 1) (H ++ [.row 0 1 3 [I x]]) = some [I x] := (Sl.new (H := H) (sz := 1) (ty := 3) [I x]).read
  have hlt : ¬ most ≤ l.length := by omega
  have hbl : b < H.length := lt_of_get h1
  have hb' : b ∉ own' := fun e => by
    rcases hown b e with h | h
    · exact h3 h
    · simp at h; omega
  refine ⟨_, own', ?_, ⟨v, hb2.stored (o := 0) (v := v), ?_, hb'⟩, ?_, fun i hi => ?_⟩
  · refine Does.intro (Evs.of fun n _ => ?_)
    simp [S18, (h1.not_nil ty29).1, h1.nilCheck, h1.fa, h1.load, h2.len, hlt, fillElems_one (I x) (.int .i64 0) rfl rfl, newsOf_sl ty33, hr, ha, hb1.nilCheck, hb1.fa, hb1.load, hb2.nilCheck, hb2.fa, hst]
  · rw [List.map_append]
    exact hs2.kept (.set (own := [b]) (by simp)) (fun i hi e => hb' (by simp at e; exact e ▸ hi))
  · exact (k1.mono (by simp)).trans ((hk.mono fun i hi _ => by simp [hi]).trans (.set (by simp)))
  · rcases hown i hi with h | h
    · exact .inl h
    · simp at h; right; omega

theorem peek_some (h : MB H b l at_ most own) {x : Int} (h0 : 0 ≤ at_) (hx : l[at_.toNat]? = some x) : Does env 19 [.ptr b 0 0 0] H (.tup [I x, .bool true]) H := by
  have hlt : at_ < l.length := by
    have := (List.getElem?_eq_some_iff.1 hx).1
    omega
  refine Does.intro ?_
  simp only [S19]
  refine Evs.call (ahead h) ?_
  obtain ⟨s, h1, h2, h3⟩ := h
  obtain ⟨p, g1, g2⟩ := h2.load1 (k := .i64) h0 (by simpa using hlt) (e := I x) (by simp [hx]) rfl
  refine Evs.of fun n _ => ?_
  simp [hlt, h1.nilCheck, h1.fa, h1.load, g1, g2]

theorem peek_none (h : MB H b l at_ most own) (hlt : ¬ at_ < l.length) : Does env 19 [.ptr b 0 0 0] H (.tup [I 0, .bool false]) H := by
  refine Does.intro ?_
  simp only [S19]
  refine Evs.call (ahead h) ?_
  refine Evs.of fun n _ => ?_
  simp [hlt]

theorem len_ (h : MB H b l at_ most own) : Does env 21 [.ptr b 0 0 0] H (I l.length) H := by
  obtain ⟨s, h1, h2, h3⟩ := h
  refine Does.intro (Evs.of fun n _ => ?_)
  simp [S21, (h1.not_nil ty29).1, h1.nilCheck, h1.fa, h1.load, h2.len]

theorem mark (h : MB H b l at_ most own) : Does env 26 [.ptr b 0 0 0] H (I at_) H := by
  obtain ⟨s, h1, h2, h3⟩ := h
  refine Does.intro (Evs.of fun n _ => ?_)
  simp [S26, (h1.not_nil ty29).1, h1.nilCheck, h1.fa, h1.load, h2.len]

theorem reset (h : MB H b l at_ most own) : ∃ H', Does env 25 [.ptr b 0 0 0] H (.tup []) H' ∧ MB H' b l 0 most own ∧ Kept [b] H H' := by
  obtain ⟨s, h1, h2, h3⟩ := h
  have hst := h1.store (o := 1) (v := I 0) (by simp) rfl rfl rfl
  refine ⟨_, ?_, ⟨s, h1.stored (o := 1) (v := I 0), h2.kept (.set (own := [b]) (by simp)) (fun i hi e => h3 (by simp at e; exact e ▸ hi)), h3⟩, .set (by simp)⟩
  refine Does.intro (Evs.of fun n _ => ?_)
  simp [S25, (h1.not_nil ty29).2, h1.nilCheck, h1.fa, hst]

theorem skip_ok (h : MB H b l at_ most own) (h0 : 0 ≤ at_) (hl : at_ < l.length) (hs : l.length < 1000000) : ∃ H', Does env 24 [.ptr b 0 0 0] H (.bool true) H' ∧ MB H' b l (at_ + 1) most own ∧ Kept [b] H H' := by
  have hah := ahead h
  obtain ⟨s, h1, h2, h3⟩ := h
  have hst := h1.store (o := 1) (v := I (at_ + 1)) (by simp) rfl rfl rfl
  refine ⟨_, ?_, ⟨s, h1.stored (o := 1) (v := I (at_ + 1)), h2.kept (.set (own := [b]) (by simp)) (fun i hi e => h3 (by simp at e; exact e ▸ hi)), h3⟩, .set (by simp)⟩
  refine Does.intro ?_
  simp only [S24]
  refine Evs.call hah (Evs.of fun n _ => ?_)
  have hw : IntKind.wrap .i64 (at_ + 1) = at_ + 1 := wrap_i64 (by omega) (by omega)
  simp [hl, h1.nilCheck, h1.fa, h1.load, hw, hst]

theorem skip_no (h : MB H b l at_ most own) (hl : ¬ at_ < l.length) : Does env 24 [.ptr b 0 0 0] H (.bool false) H := by
  refine Does.intro ?_
  simp only [S24]
  refine Evs.call (ahead h) (Evs.of fun n _ => ?_)
  simp [hl]

/-- A copy of a slice of whole numbers. -/
theorem clone {v : AV} (h : Sl H 1 3 v (l.map I) own) (hs : l.length < 1000000) : ∃ v' H' own', Does env 49 [v] H v' H' ∧ Sl H' 1 3 v' (l.map I) own' ∧ Kept [] H H' ∧ ∀ i ∈ own', H.length ≤ i := by
  by_cases hv : v = .nils
  · subst hv
    rw [h.nils.1]
    refine ⟨.nils, H, [], Does.intro (Evs.of fun n _ => ?_), .nil, .refl _ _, by simp⟩
    simp [S49, A.bin, ty33, A.eqNil]
  · have hne := (h.not_nil hv (P := env.P) (c := true) ty33).1
    have k1 : Kept [] H (H ++ [.row 0 1 3 []]) := .app _ _ _
    have h1 := h.kept k1 (by simp)
    have hn : Sl (H ++ [.row 0 1 3 []]) 1 3 (.sl H.length 0 0 0 0) [] [H.length] := Sl.new []
    obtain ⟨v', H2, own', ha, hs2, hk, hown⟩ := hn.append (bytes := 8) (l.map I) (by omega) (by simp; omega)
    refine ⟨v', H2, own', Does.intro (Evs.of fun n _ => ?_), hs2, k1.then hk (by simp), fun i hi => ?_⟩
    · have hr := h1.read
      simp [S49, hne, A.fillElems, newsOf_sl ty33, hr, ha]
    · rcases hown i hi with h | h
      · simp at h; omega
      · simp at h; omega

/-- One element is taken out of a slice of whole numbers. -/
theorem delete_one {v : AV} {l1 l2 : List Int} {x : Int} (h : Sl H 1 3 v ((l1 ++ x :: l2).map I) own) (hs : (l1 ++ x :: l2).length < 1000000) :
    ∃ v' H', Does env 48 [v, I l1.length, I (l1.length + 1)] H v' H' ∧ Sl H' 1 3 v' ((l1 ++ l2).map I) own ∧ Kept own H H' := by
  rcases h.inv with ⟨_, h, _⟩ | ⟨id, ver, cap, P, Q, rfl, rfl, hr, hc, hq⟩
  · simp at h
  · simp only [List.length_map, List.length_append, List.length_cons] at hc hq hs
    have hlen : ((l1 ++ x :: l2).map I).length = l1.length + l2.length + 1 := by simp; omega
    rw [hlen]
    have hlt : id < H.length := lt_of_get hr
    have a1 := slice_three (n := l1.length + l2.length + 1) (off := P.length) (cap := cap) (k1 := .i64) (k2 := .i64) (k3 := .i64) (lo := l1.length) (hi := l1.length + 1) (mx := ((l1.length + l2.length + 1 : Nat) : Int)) hr (by omega) (by omega) (by omega) (by omega)
    have a2 := slice_to (n := l1.length + l2.length + 1) (off := P.length) (cap := cap) (k2 := .i64) (hi := l1.length) hr (by omega) (by omega)
    have a3 := slice_from (n := l1.length + l2.length + 1) (off := P.length) (cap := cap) (k1 := .i64) (lo := l1.length + 1) hr (by omega) (by omega) (by omega)
    have e1 : ((l1.length : Int) + 1).toNat = l1.length + 1 := by omega
    have e2 : (l1.length : Int).toNat = l1.length := by omega
    rw [e1] at a3
    rw [e2] at a2
    have a4 := read_row (off := P.length + (l1.length + 1)) (n := l1.length + l2.length + 1 - (l1.length + 1)) (cap := cap - (l1.length + 1)) hr (by simp; omega)
    have e3 : List.take (l1.length + l2.length + 1 - (l1.length + 1)) (List.drop (P.length + (l1.length + 1)) (P ++ (List.map I (l1 ++ x :: l2) ++ Q))) = l2.map I := by
      rw [← List.drop_drop, List.drop_left]
      have : List.map I (l1 ++ x :: l2) ++ Q = (l1.map I ++ [I x]) ++ (l2.map I ++ Q) := by simp
      rw [this, show l1.length + 1 = (l1.map I ++ [I x]).length by simp, List.drop_left]
      have : l1.length + l2.length + 1 - (l1.map I ++ [I x]).length = (l2.map I).length := by simp only [List.length_append, List.length_map, List.length_cons, List.length_nil]; omega
      rw [this, List.take_left]
    rw [e3] at a4
    have a5 := append_row (off := P.length) (n := l1.length) (cap := cap) (bytes := 8) (news := l2.map I) hr (by simp; omega) (by simp; omega) (by omega) (by simp; omega)
    have e4 : A.splice (P ++ (List.map I (l1 ++ x :: l2) ++ Q)) (P.length + l1.length) (l2.map I) = P ++ ((l1 ++ l2).map I ++ ((I x :: l2.map I ++ Q).drop l2.length)) := by
      have : List.map I (l1 ++ x :: l2) ++ Q = l1.map I ++ (I x :: l2.map I ++ Q) := by simp
      rw [this, show P.length + l1.length = P.length + (l1.map I).length by simp, splice_at]
      simp
    rw [e4, List.length_map] at a5
    have hQ : ((I x :: l2.map I ++ Q).drop l2.length).length = Q.length + 1 := by simp; omega
    obtain ⟨y, Q', hy, hQ'⟩ : ∃ y Q', (I x :: l2.map I ++ Q).drop l2.length = y :: Q' ∧ Q'.length = Q.length := by
      cases hd : (I x :: l2.map I ++ Q).drop l2.length with
      | nil => rw [hd] at hQ; simp at hQ
      | cons y Q' => rw [hd] at hQ; exact ⟨y, Q', rfl, by simpa using hQ⟩
    rw [hy] at a5
    have h1 := get_set_same (x := .row ver 1 3 (P ++ ((l1 ++ l2).map I ++ y :: Q'))) hr
    have a6 := len_row (off := P.length) (n := l1.length + l2.length) (cap := cap) h1
    have a7 := slice_row (off := P.length) (n := l1.length + l2.length) (cap := cap) (k1 := .i64) (k2 := .i64) (lo := ((l1.length + l2.length : Nat) : Int)) (hi := ((l1.length + l2.length + 1 : Nat) : Int)) h1 (by omega) (by omega) (by omega)
    have e5 : ((l1.length + l2.length + 1 : Nat) : Int).toNat - ((l1.length + l2.length : Nat) : Int).toNat = 1 := by omega
    rw [e5, Int.toNat_natCast] at a7
    have a8 := clear_row (off := P.length + (l1.length + l2.length)) (n := 1) (cap := cap - (l1.length + l2.length)) (z := I 0) h1 (by simp; omega) (by omega)
    have e6 : A.splice (P ++ ((l1 ++ l2).map I ++ y :: Q')) (P.length + (l1.length + l2.length)) (List.replicate 1 (I 0)) = P ++ ((l1 ++ l2).map I ++ I 0 :: Q') := by
      rw [show P.length + (l1.length + l2.length) = P.length + ((l1 ++ l2).map I).length by simp, splice_at]
      simp
    rw [e6] at a8
    refine ⟨.sl id ver P.length (l1.length + l2.length) cap, _, Does.intro (Evs.of fun n _ => ?_), Sl.of (P := P) (Q := I 0 :: Q') (get_set_same h1) rfl (by simp) (by simp; omega) (by simp; omega), (Kept.set (by simp)).then (Kept.set (by simp)) (fun i hi _ => hi)⟩
    have hne : ¬ (l1.length : Int) = l1.length + 1 := by omega
    have a0 := len_row (off := P.length) (n := l1.length + l2.length + 1) (cap := cap) hr
    simp only [S48, a0, withV_of, a1, A.bin_eql, hne, decide_false, test_bool, Bool.false_eq_true, if_false, a2, a3, newsOf_sl ty33, a4, withL_some, a5, withVH_some, a6, a7, a8]

theorem accept_ok {l1 l2 : List Int} {x : Int} (h : MB H b (l1 ++ x :: l2) l1.length most own) (hs : (l1 ++ x :: l2).length < 1000000) :
    ∃ H', Does env 20 [.ptr b 0 0 0] H (.bool true) H' ∧ MB H' b (l1 ++ l2) 0 most own ∧ Kept (b :: own) H H' := by
  have hah := ahead h
  have hlt : (l1.length : Int) < (l1 ++ x :: l2).length := by simp; omega
  obtain ⟨s, h1, h2, h3⟩ := h
  obtain ⟨v, H1, hd, hs1, hk1⟩ := delete_one h2 hs
  have hb1 := h1.kept hk1 h3
  obtain ⟨d1, d2, d3⟩ := hs1.def
  have st1 := hb1.store (o := 0) (v := v) (by simp) d1 d3 d2
  have hb2 := hb1.stored (o := 0) (v := v)
  have st2 := hb2.store (o := 1) (v := I 0) (by simp) rfl rfl rfl
  have hb3 := hb2.stored (o := 1) (v := I 0)
  simp only [List.set_cons_zero, List.set_cons_succ] at st1 st2 hb2 hb3
  have hown : ∀ i ∈ own, i ∉ [b] := fun i hi e => h3 (by simp at e; exact e ▸ hi)
  refine ⟨_, Does.intro ?_, ⟨v, hb3, (hs1.kept (.set (own := [b]) (by simp)) hown).kept (.set (own := [b]) (by simp)) hown, h3⟩, (hk1.mono (by simp; exact fun i hi _ => .inr hi)).trans ((Kept.set (by simp)).trans (Kept.set (by simp)))⟩
  simp only [S20]
  refine Evs.call hah ?_
  have hw : IntKind.wrap .i64 ((l1.length : Int) + 1) = l1.length + 1 := wrap_i64 (by omega) (by simp at hs; omega)
  simp only [hlt, decide_true, A.un_not, withV_of, Bool.not_true, test_bool, Bool.false_eq_true, if_false, h1.nilCheck, h1.fa, h1.load, List.getElem?_cons_zero, List.getElem?_cons_succ, A.bin_add, hw]
  refine Evs.call hd (Evs.of fun n _ => ?_)
  simp only [hb1.nilCheck, hb1.fa, withV_of, st1, withH_some, hb2.nilCheck, hb2.fa, st2]

theorem accept_no (h : MB H b l at_ most own) (hl : ¬ at_ < l.length) : Does env 20 [.ptr b 0 0 0] H (.bool false) H := by
  refine Does.intro ?_
  simp only [S20]
  refine Evs.call (ahead h) (Evs.of fun n _ => ?_)
  simp [hl]

theorem all_ (h : MB H b l at_ most own) (hs : l.length < 1000000) : ∃ v H' own', Does env 23 [.ptr b 0 0 0] H v H' ∧ Sl H' 1 3 v (l.map I) own' ∧ Kept [] H H' ∧ ∀ i ∈ own', H.length ≤ i := by
  obtain ⟨s, h1, h2, h3⟩ := h
  obtain ⟨v, H', own', hd, g1, g2, g3⟩ := clone h2 hs
  refine ⟨v, H', own', Does.intro ?_, g1, g2, g3⟩
  simp only [S23, (h1.not_nil ty29).1, withV_of, test_bool, Bool.false_eq_true, if_false, h1.nilCheck, h1.fa, h1.load, List.getElem?_cons_zero]
  exact Evs.call hd (Evs.of fun n _ => rfl)

theorem loop22_eq {v w : AV} {l : List Int} (ha : Rd H v (l.map I)) (hb : Rd H w (l.map I)) (hs : l.length < 1000000) : ∀ (k i : Nat), l.length = i + k → LDoes L22_0 ⟨[v, w, I i], []⟩ H 0 ⟨[.undef], []⟩ H := by
  intro k
  induction k with
  | zero =>
    intro i hi
    refine LDoes.step (Evs.of fun n m => ?_)
    have : ¬ (i : Int) < l.length := by omega
    simp [L22_0_step, ha.len, this]
  | succ k ih =>
    intro i hi
    have hx : (l.map I)[(i : Int).toNat]? = some (I (l[i]'(by omega))) := by simp
    obtain ⟨p, g1, g2⟩ := ha.at_ .i64 i _ (by omega) hx
    obtain ⟨q, g3, g4⟩ := hb.at_ .i64 i _ (by omega) hx
    refine LDoes.step (Evs.withL (ih (i + 1) (by omega)) (Evs.of fun n m _ h => ?_))
    have : (i : Int) < l.length := by omega
    have hw : IntKind.wrap .i64 ((i : Int) + 1) = ((i + 1 : Nat) : Int) := by rw [wrap_i64 (by omega) (by omega)]; omega
    simp only [Int.natCast_add] at h hw
    simp [L22_0_step, ha.len, this, g1, g2, g3, g4, hw]
    simpa using h

theorem same_eq {v w : AV} {l : List Int} (ha : Rd H v (l.map I)) (hb : Rd H w (l.map I)) (hs : l.length < 1000000) : Does env 22 [v, w] H (.bool true) H := by
  refine Does.intro (Evs.withL (loop22_eq ha hb hs l.length 0 (by omega)) (Evs.of fun n m h _ => ?_))
  simp only [Int.ofNat_zero, Int.natCast_zero] at h
  simp [S22, ha.len, hb.len, h]

end
end Go.Proofs.Ytmeimiflflilpaa
