/- MailPlays: the document's mailbox, and that the two go together, whatever is done. -/
import Derived.Test.YtmeimiflflilpaaMwOrder
set_option maxRecDepth 100000
namespace Go.Proofs.Ytmeimiflflilpaa
open Go Go.Den

theorem ty41 : env.P.underlying 41 = some (.pointer 43) := by kernel_rfl

/-- The document's mailbox. -/
def MR (H : Heap) (b : Nat) (l : List Int) (at_ most : Int) (own : List Nat) : Prop :=
  ∃ s, Go.Den.Box H b 3 43 [s, I at_, I most] ∧ Sl H 1 3 s (l.map I) own ∧ b ∉ own

section
variable {H H' : Heap} {b : Nat} {l : List Int} {at_ most : Int} {own : List Nat}

theorem MR.kept (h : MR H b l at_ most own) {o : List Nat} (hk : Kept o H H') (hb : b ∉ o) (ho : ∀ i ∈ own, i ∉ o) : MR H' b l at_ most own := by
  obtain ⟨s, h1, h2, h3⟩ := h
  exact ⟨s, h1.kept hk hb, h2.kept hk ho, h3⟩

theorem MB.lt (h : MB H b l at_ most own) : b < H.length ∧ ∀ i ∈ own, i < H.length := by
  obtain ⟨s, h1, h2, h3⟩ := h
  exact ⟨lt_of_get h1, h2.own_lt⟩
theorem MR.lt (h : MR H b l at_ most own) : b < H.length ∧ ∀ i ∈ own, i < H.length := by
  obtain ⟨s, h1, h2, h3⟩ := h
  exact ⟨lt_of_get h1, h2.own_lt⟩

theorem rput_full (h : MR H b l at_ most own) (hl : most ≤ l.length) (x : Int) : Does env 27 [.ptr b 0 0 0, I x] H (.bool false) H := by
  obtain ⟨s, h1, h2, h3⟩ := h
  refine Does.intro (Evs.of fun n _ => ?_)
  simp [S27, h1.nilCheck, h1.fa, h1.load, h2.len, hl]

theorem rput_ok (h : MR H b l at_ most own) (hl : (l.length : Int) < most) (hs : l.length < 1000000) (x : Int) :
    ∃ H' own', Does env 27 [.ptr b 0 0 0, I x] H (.bool true) H' ∧ MR H' b (l ++ [x]) at_ most own' ∧ Kept (b :: own) H H' ∧ ∀ i ∈ own', i ∈ own ∨ H.length ≤ i := by
  obtain ⟨s, h1, h2, h3⟩ := h
  have k1 : Kept [] H (H ++ [.row 0 1 3 [I x]]) := .app _ _ _
  have hb1 := h1.kept k1 (by simp)
  have hs1 := h2.kept k1 (by simp)
  obtain ⟨v, H2, own', ha, hs2, hk, hown⟩ := hs1.append (bytes := 8) [I x] (by omega) (by simp; omega)
  have hb2 := hb1.kept hk h3
  obtain ⟨d1, d2, d3⟩ := hs2.def
  have hst := hb2.store (o := 0) (v := v) (by simp) d1 d3 d2
  simp only [List.set_cons_zero] at hst
  have hr : A.read 1 (.sl H.length 0 0 1 1) (H ++ [.row 0 1 3 [I x]]) = some [I x] := (Sl.new (H := H) (sz := 1) (ty := 3) [I x]).read
  have hlt : ¬ most ≤ l.length := by omega
  have hbl : b < H.length := lt_of_get h1
  have hb' : b ∉ own' := fun e => by
    rcases hown b e with h | h
    · exact h3 h
    · simp at h; omega
  refine ⟨_, own', ?_, ⟨v, hb2.stored (o := 0) (v := v), ?_, hb'⟩, ?_, fun i hi => ?_⟩
  · refine Does.intro (Evs.of fun n _ => ?_)
    simp [S27, h1.nilCheck, h1.fa, h1.load, h2.len, hlt, fillElems_one (I x) (.int .i64 0) rfl rfl, newsOf_sl ty33, hr, ha, hb1.nilCheck, hb1.fa, hb1.load, hb2.nilCheck, hb2.fa, hst]
  · rw [List.map_append]
    exact hs2.kept (.set (own := [b]) (by simp)) (fun i hi e => hb' (by simp at e; exact e ▸ hi))
  · exact (k1.mono (by simp)).trans ((hk.mono fun i hi _ => by simp [hi]).trans (.set (by simp)))
  · rcases hown i hi with h | h
    · exact .inl h
    · simp at h; right; omega

theorem rpeek_some (h : MR H b l at_ most own) {x : Int} (h0 : 0 ≤ at_) (hx : l[at_.toNat]? = some x) : Does env 28 [.ptr b 0 0 0] H (.tup [I x, .bool true]) H := by
  have hlt : at_ < l.length := by
    have := (List.getElem?_eq_some_iff.1 hx).1
    omega
  have hge : ¬ (l.length : Int) ≤ at_ := by omega
  obtain ⟨s, h1, h2, h3⟩ := h
  obtain ⟨p, g1, g2⟩ := h2.load1 (k := .i64) h0 (by simpa using hlt) (e := I x) (by simp [hx]) rfl
  refine Does.intro (Evs.of fun n _ => ?_)
  simp [S28, hge, h1.nilCheck, h1.fa, h1.load, h2.len, g1, g2]

theorem rpeek_none (h : MR H b l at_ most own) (hlt : ¬ at_ < l.length) : Does env 28 [.ptr b 0 0 0] H (.tup [I 0, .bool false]) H := by
  have hge : (l.length : Int) ≤ at_ := by omega
  obtain ⟨s, h1, h2, h3⟩ := h
  refine Does.intro (Evs.of fun n _ => ?_)
  simp [S28, hge, h1.nilCheck, h1.fa, h1.load, h2.len]

theorem rskip_ok (h : MR H b l at_ most own) (h0 : 0 ≤ at_) (hl : at_ < l.length) (hs : l.length < 1000000) : ∃ H', Does env 30 [.ptr b 0 0 0] H (.bool true) H' ∧ MR H' b l (at_ + 1) most own ∧ Kept [b] H H' := by
  obtain ⟨s, h1, h2, h3⟩ := h
  have hst := h1.store (o := 1) (v := I (at_ + 1)) (by simp) rfl rfl rfl
  refine ⟨_, ?_, ⟨s, h1.stored (o := 1) (v := I (at_ + 1)), h2.kept (.set (own := [b]) (by simp)) (fun i hi e => h3 (by simp at e; exact e ▸ hi)), h3⟩, .set (by simp)⟩
  refine Does.intro (Evs.of fun n _ => ?_)
  have hge : ¬ (l.length : Int) ≤ at_ := by omega
  have hw : IntKind.wrap .i64 (at_ + 1) = at_ + 1 := wrap_i64 (by omega) (by omega)
  simp [S30, hge, h1.nilCheck, h1.fa, h1.load, h2.len, hw, hst]

theorem rskip_no (h : MR H b l at_ most own) (hl : ¬ at_ < l.length) : Does env 30 [.ptr b 0 0 0] H (.bool false) H := by
  have hge : (l.length : Int) ≤ at_ := by omega
  obtain ⟨s, h1, h2, h3⟩ := h
  refine Does.intro (Evs.of fun n _ => ?_)
  simp [S30, hge, h1.nilCheck, h1.fa, h1.load, h2.len]

theorem raccept_no (h : MR H b l at_ most own) (hl : ¬ at_ < l.length) : Does env 29 [.ptr b 0 0 0] H (.bool false) H := by
  have hge : (l.length : Int) ≤ at_ := by omega
  obtain ⟨s, h1, h2, h3⟩ := h
  refine Does.intro (Evs.of fun n _ => ?_)
  simp [S29, hge, h1.nilCheck, h1.fa, h1.load, h2.len]

theorem raccept_ok {l1 l2 : List Int} {x : Int} (h : MR H b (l1 ++ x :: l2) l1.length most own) (hs : (l1 ++ x :: l2).length < 1000000) :
    ∃ H' own', Does env 29 [.ptr b 0 0 0] H (.bool true) H' ∧ MR H' b (l1 ++ l2) 0 most own' ∧ Kept (b :: own) H H' ∧ ∀ i ∈ own', i ∈ own ∨ H.length ≤ i := by
  have hlt : ¬ ((l1 ++ x :: l2).length : Int) ≤ (l1.length : Int) := by simp; omega
  obtain ⟨s, h1, h2, h3⟩ := h
  have hbl : b < H.length := lt_of_get h1
  obtain ⟨v1, H1, own1, ha1, hs1, hk1, ho1⟩ := (Sl.nil (H := H) (sz := 1) (ty := 3)).append (bytes := 8) (l1.map I) (by omega) (by simp at hs ⊢; omega)
  have hb1 := h1.kept hk1 (by simp)
  have h21 := h2.kept hk1 (by simp)
  obtain ⟨v2, H2, own2, ha2, hs2, hk2, ho2⟩ := hs1.append (bytes := 8) (l2.map I) (by omega) (by simp at hs ⊢; omega)
  have new1 : ∀ j ∈ own1, H.length ≤ j := fun j hj => by
    rcases ho1 j hj with h | h
    · cases h
    · exact h
  have new2 : ∀ j ∈ own2, H.length ≤ j := fun j hj => by
    rcases ho2 j hj with h | h
    · exact new1 j h
    · have := hk1.len; omega
  have hb2 := hb1.kept hk2 (fun e => by have := new1 b e; omega)
  have e1 := h2.slice_to (k := .i64) (i := l1.length) (by omega) (by simp; omega)
  have f0 := (h2.slice_from (k := .i64) (i := l1.length + 1) (by omega) (by simp; omega)).1
  have f1 := h21.slice_from (k := .i64) (i := l1.length + 1) (by omega) (by simp; omega)
  have r1 := e1.2.read
  have r2 := f1.2.read
  have e1 := e1.1
  have f1 := f1.1
  have et : ((l1.length : Int) + 1).toNat = l1.length + 1 := by omega
  rw [Int.toNat_natCast] at e1 r1
  rw [et] at f0 f1 r2
  have rr1 : ((l1 ++ x :: l2).map I).take l1.length = l1.map I := by
    rw [← List.map_take, List.take_left]
  have rr2 : ((l1 ++ x :: l2).map I).drop (l1.length + 1) = l2.map I := by
    rw [← List.map_drop, ← List.drop_drop, List.drop_left]; rfl
  rw [rr1] at r1
  rw [rr2] at r2
  have hwl : IntKind.wrap .i64 ((l1.length : Int) + 1) = (l1.length : Int) + 1 := wrap_i64 (by omega) (by simp at hs; omega)
  obtain ⟨d1, d2, d3⟩ := hs2.def
  have st1 := hb2.store (o := 0) (v := v2) (by simp) d1 d3 d2
  have hb3 := hb2.stored (o := 0) (v := v2)
  have st2 := hb3.store (o := 1) (v := I 0) (by simp) rfl rfl rfl
  have hb4 := hb3.stored (o := 1) (v := I 0)
  simp only [List.set_cons_zero, List.set_cons_succ] at st1 st2 hb3 hb4
  have hb' : b ∉ own2 := fun e => by have := new2 b e; omega
  have hown : ∀ i ∈ own2, i ∉ [b] := fun i hi e => hb' (by simp at e; exact e ▸ hi)
  rw [List.nil_append, ← List.map_append] at hs2
  refine ⟨_, own2, Does.intro (Evs.of fun n _ => ?_), ⟨v2, hb4, (hs2.kept (.set (own := [b]) (by simp)) hown).kept (.set (own := [b]) (by simp)) hown, hb'⟩, ?_, fun i hi => .inr (new2 i hi)⟩
  · simp [S29, h1.nilCheck, h1.fa, h1.load, h2.len, e1, newsOf_sl ty33, r1, ha1, hb1.nilCheck, hb1.fa, hb1.load, hwl, f0, f1, r2, ha2, hb2.nilCheck, hb2.fa, st1, hb3.nilCheck, hb3.fa, st2]
    omega
  · refine (hk1.then hk2 (fun j hj hj' => by have := new1 j hj; omega)).mono (by simp) |>.trans ?_
    exact (Kept.set (by simp)).trans (Kept.set (by simp))

theorem set_ok {v : AV} {l2 : List Int} {own2 : List Nat} (h : MB H b l at_ most own) (hv : Sl H 1 3 v (l2.map I) own2) (hl : l2.length = l.length) (hs : l.length < 1000000) :
    ∃ H' own', Does env 31 [.ptr b 0 0 0, v] H (.bool true) H' ∧ MB H' b l2 at_ most own' ∧ Kept [b] H H' ∧ ∀ i ∈ own', H.length ≤ i := by
  obtain ⟨s, h1, h2, h3⟩ := h
  obtain ⟨v', H1, own1, hd, hs1, hk1, ho1⟩ := clone hv (by omega)
  have hb1 := h1.kept hk1 (by simp)
  obtain ⟨d1, d2, d3⟩ := hs1.def
  have st1 := hb1.store (o := 0) (v := v') (by simp) d1 d3 d2
  simp only [List.set_cons_zero] at st1
  have hbl : b < H.length := lt_of_get h1
  refine ⟨_, own1, Does.intro (Evs.with hd (Evs.of fun n _ c => ?_)), ⟨v', hb1.stored (o := 0) (v := v'), hs1.kept (.set (own := [b]) (by simp)) (fun i hi e => by have := ho1 i hi; simp at e; omega), fun e => by have := ho1 b e; omega⟩, (hk1.mono (by simp)).trans (.set (by simp)), ho1⟩
  simp [S31, (h1.not_nil ty29).1, h1.nilCheck, h1.fa, h1.load, h2.len, hv.len, hl, c, hb1.nilCheck, hb1.fa, st1]

theorem set_no {v : AV} {l2 : List Int} {own2 : List Nat} (h : MB H b l at_ most own) (hv : Sl H 1 3 v (l2.map I) own2) (hl : l2.length ≠ l.length) : Does env 31 [.ptr b 0 0 0, v] H (.bool false) H := by
  obtain ⟨s, h1, h2, h3⟩ := h
  have : ¬ (l2.length : Int) = l.length := by omega
  refine Does.intro (Evs.of fun n _ => ?_)
  simp [S31, (h1.not_nil ty29).1, h1.nilCheck, h1.fa, h1.load, h2.len, hv.len, this]

end
/-- The two mailboxes hold the same. -/
structure InvP (H : Heap) (b r : Nat) (l : List Int) (at_ most : Int) (own ownr : List Nat) : Prop where
  box : MB H b l at_ most own
  ref : MR H r l at_ most ownr
  ne : b ≠ r
  nr : r ∉ own
  nb : b ∉ ownr
  apart : ∀ i ∈ own, i ∉ ownr
  lo : 0 ≤ at_
  hi : at_ ≤ l.length

section
variable {H H1 H2 : Heap} {b r : Nat} {l l1 : List Int} {at_ at1 most : Int} {own ownr own1 ownr2 : List Nat}

/-- The document's one abides what is done to the other one. -/
theorem InvP.ref1 (h : InvP H b r l at_ most own ownr) (hk : Kept (b :: own) H H1) : MR H1 r l at_ most ownr :=
  h.ref.kept hk (fun e => by
    rcases List.mem_cons.1 e with e | e
    · exact h.ne e.symm
    · exact h.nr e) (fun i hi e => by
    rcases List.mem_cons.1 e with e | e
    · exact h.nb (e ▸ hi)
    · exact h.apart i e hi)

/-- Both have been done. -/
theorem InvP.join (h : InvP H b r l at_ most own ownr) (h1 : MB H1 b l1 at1 most own1) (hk : Kept (b :: own) H H1) (ho : ∀ i ∈ own1, i ∈ own ∨ H.length ≤ i)
    (h2 : MR H2 r l1 at1 most ownr2) (hk2 : Kept (r :: ownr) H1 H2) (ho2 : ∀ i ∈ ownr2, i ∈ ownr ∨ H1.length ≤ i) (lo : 0 ≤ at1) (hi : at1 ≤ l1.length) : InvP H2 b r l1 at1 most own1 ownr2 := by
  have hb := h.box.lt
  have hr := h.ref.lt
  have h1l := h1.lt
  have hnr : ∀ i ∈ own1, i ∉ r :: ownr := fun i hi e => by
    rcases ho i hi with g | g
    · rcases List.mem_cons.1 e with e | e
      · exact h.nr (e ▸ g)
      · exact h.apart i g e
    · rcases List.mem_cons.1 e with e | e
      · omega
      · have := hr.2 i e; omega
  have hbr : b ∉ r :: ownr := fun e => by
    rcases List.mem_cons.1 e with e | e
    · exact h.ne e
    · exact h.nb e
  refine ⟨h1.kept hk2 hbr hnr, h2, h.ne, fun e => ?_, fun e => ?_, fun i hi e => ?_, lo, hi⟩
  · exact hnr r e (by simp)
  · rcases ho2 b e with g | g
    · exact h.nb g
    · omega
  · rcases ho2 i e with g | g
    · exact hnr i hi (by simp [g])
    · have := h1l.2 i hi; omega

theorem Kept.cons {o : List Nat} (h : Kept [b] H H1) : Kept (b :: o) H H1 := h.mono fun i hi _ => by simp at hi; simp [hi]

/-- 's' is filled. -/
theorem loop61 {t1 t5 t6 t7 : AV} {do_ nn : Int} {cnt : Nat} (hc : cnt ≤ 1000) : ∀ (j k : Nat) (H : Heap) (v : AV) (own : List Nat) (l2 : List Int), cnt = k + j → Sl H 1 3 v (l2.map I) own → l2.length = k →
    ∃ (H' : Heap) (v' : AV) (own' : List Nat) (l2' : List Int), LDoes L6_1 ⟨[t1, t5, t6, t7, I cnt, v, I k], [[I do_, I nn]]⟩ H 0 ⟨[t1, t5, t6, t7, I cnt, v'], []⟩ H' ∧ Sl H' 1 3 v' (l2'.map I) own' ∧ l2'.length = cnt ∧ Kept own H H' ∧ ∀ i ∈ own', i ∈ own ∨ H.length ≤ i := by
  intro j
  induction j with
  | zero =>
    intro k H v own l2 hk hs hl
    refine ⟨H, v, own, l2, LDoes.step (Evs.of fun n m => ?_), hs, by omega, .refl _ _, fun i hi => .inl hi⟩
    have : ¬ (k : Int) < cnt := by omega
    simp [L6_1_step, this]
  | succ j ih =>
    intro k H v own l2 hk hs hl
    obtain ⟨x, hx⟩ : ∃ x, IntKind.wrap .i64 (nn + k) = x := ⟨_, rfl⟩
    have k1 : Kept [] H (H ++ [.row 0 1 3 [I x]]) := .app _ _ _
    have hs1 := hs.kept k1 (by simp)
    obtain ⟨v2, H2, own2, ha, hs2, hk2, ho2⟩ := hs1.append (bytes := 8) [I x] (by omega) (by simp; omega)
    obtain ⟨H', v', own', l2', hL, g1, g2, g3, g4⟩ := ih (k + 1) H2 v2 own2 (l2 ++ [x]) (by omega) (by rw [List.map_append]; exact hs2) (by simp; omega)
    have hr : A.read 1 (.sl H.length 0 0 1 1) (H ++ [.row 0 1 3 [I x]]) = some [I x] := (Sl.new (H := H) (sz := 1) (ty := 3) [I x]).read
    have hlt : (k : Int) < cnt := by omega
    have hw : IntKind.wrap .i64 ((k : Int) + 1) = (k : Int) + 1 := wrap_i64 (by omega) (by omega)
    refine ⟨H', v', own', l2', LDoes.step (Evs.withL hL (Evs.of fun n m _ c => ?_)), g1, g2, ?_, fun i hi => ?_⟩
    · simp only [Int.natCast_add, Int.natCast_one] at c
      simp [L6_1_step, hlt, hx, fillElems_one (I x) (.int .i64 0) rfl rfl, newsOf_sl ty33, hr, ha, hw, c]
    · refine (k1.mono (by simp)).then (hk2.then g3 (fun i hi hi' => ?_)) (fun i hi _ => hi)
      rcases ho2 i hi with h | h
      · exact h
      · simp at h hi'; omega
    · rcases g4 i hi with h | h
      · rcases ho2 i h with h | h
        · exact .inl h
        · simp at h; exact .inr (by omega)
      · have := hk2.len
        simp at this
        exact .inr (by omega)

/-- What is done to the one is done to the other. -/
theorem sw6 (h : InvP H b r l at_ most own ownr) (hl : l.length ≤ 200) (t1 t7 : AV) (do_ nn : Int) : ∃ (H' : Heap) (l' : List Int) (at' : Int) (own' ownr' : List Nat),
    (Evs fun n _ => B6_4 n t1 (.ptr b 0 0 0) (.ptr r 0 0 0) t7 (.bool (decide (do_ ≤ 3))) [I do_, I nn] H = some (0, ⟨[t1, .ptr b 0 0 0, .ptr r 0 0 0, t7, .bool true], []⟩, H')) ∧
    InvP H' b r l' at' most own' ownr' ∧ l'.length ≤ l.length + 1 := by
  have hlo := h.lo
  have hhi := h.hi
  by_cases d3 : do_ ≤ 3
  · by_cases hm : (l.length : Int) < most
    · obtain ⟨H1, own1, c1, b1, k1, o1⟩ := put_ok h.box hm (by omega) nn
      obtain ⟨H2, own2, c2, r2, k2, o2⟩ := rput_ok (h.ref1 k1) hm (by omega) nn
      refine ⟨H2, l ++ [nn], at_, own1, own2, Evs.with c1 (Evs.with c2 (Evs.of fun n _ e2 e1 => ?_)), h.join b1 k1 o1 r2 k2 o2 hlo (by simp; omega), by simp⟩
      simp [B6_4, d3, e1, e2, A.bin_beq ty4]
    · have c1 := put_full h.box (by omega) nn
      have c2 := rput_full h.ref (by omega) nn
      refine ⟨H, l, at_, own, ownr, Evs.with c1 (Evs.with c2 (Evs.of fun n _ e2 e1 => ?_)), h, by omega⟩
      simp [B6_4, d3, e1, e2, A.bin_beq ty4]
  by_cases d4 : do_ = 4
  · subst d4
    by_cases ha : at_ < l.length
    · obtain ⟨x, hx⟩ : ∃ x, l[at_.toNat]? = some x := ⟨_, List.getElem?_eq_getElem (by omega)⟩
      have c1 := peek_some h.box hlo hx
      have c2 := rpeek_some h.ref hlo hx
      refine ⟨H, l, at_, own, ownr, Evs.with c1 (Evs.with c2 (Evs.of fun n _ e2 e1 => ?_)), h, by omega⟩
      simp [B6_4, B6_3, e1, e2, A.bin_beq ty4]
    · have c1 := peek_none h.box ha
      have c2 := rpeek_none h.ref ha
      refine ⟨H, l, at_, own, ownr, Evs.with c1 (Evs.with c2 (Evs.of fun n _ e2 e1 => ?_)), h, by omega⟩
      simp [B6_4, B6_3, e1, e2, A.bin_beq ty4]
  by_cases d5 : do_ = 5
  · subst d5
    by_cases ha : at_ < l.length
    · obtain ⟨l1, x, l2, hl12, hl1⟩ : ∃ l1 x l2, l = l1 ++ x :: l2 ∧ at_ = (l1.length : Int) := by
        refine ⟨l.take at_.toNat, l[at_.toNat]'(by omega), l.drop (at_.toNat + 1), ?_, ?_⟩
        · conv => lhs; rw [← List.take_append_drop at_.toNat l, List.drop_eq_getElem_cons (i := at_.toNat) (by omega)]
        · simp; omega
      subst hl12 hl1
      obtain ⟨H1, c1, b1, k1⟩ := accept_ok h.box (by omega)
      obtain ⟨H2, own2, c2, r2, k2, o2⟩ := raccept_ok (h.ref1 k1) (by omega)
      refine ⟨H2, l1 ++ l2, 0, own, own2, Evs.with c1 (Evs.with c2 (Evs.of fun n _ e2 e1 => ?_)), h.join b1 k1 (fun i hi => .inl hi) r2 k2 o2 (by omega) (by omega), by simp; omega⟩
      simp [B6_4, B6_3, B6_2, e1, e2, A.bin_beq ty4]
    · have c1 := accept_no h.box ha
      have c2 := raccept_no h.ref ha
      refine ⟨H, l, at_, own, ownr, Evs.with c1 (Evs.with c2 (Evs.of fun n _ e2 e1 => ?_)), h, by omega⟩
      simp [B6_4, B6_3, B6_2, e1, e2, A.bin_beq ty4]
  by_cases d7 : do_ ≤ 7
  · by_cases ha : at_ < l.length
    · obtain ⟨H1, c1, b1, k1⟩ := skip_ok h.box hlo ha (by omega)
      obtain ⟨H2, c2, r2, k2⟩ := rskip_ok (h.ref1 (Kept.cons k1)) hlo ha (by omega)
      refine ⟨H2, l, at_ + 1, own, ownr, Evs.with c1 (Evs.with c2 (Evs.of fun n _ e2 e1 => ?_)), h.join b1 (Kept.cons k1) (fun i hi => .inl hi) r2 (Kept.cons k2) (fun i hi => .inl hi) (by omega) (by omega), by omega⟩
      simp [B6_4, B6_3, B6_2, B6_1, d3, d4, d5, d7, e1, e2, A.bin_beq ty4]
    · have c1 := skip_no h.box ha
      have c2 := rskip_no h.ref ha
      refine ⟨H, l, at_, own, ownr, Evs.with c1 (Evs.with c2 (Evs.of fun n _ e2 e1 => ?_)), h, by omega⟩
      simp [B6_4, B6_3, B6_2, B6_1, d3, d4, d5, d7, e1, e2, A.bin_beq ty4]
  by_cases d8 : do_ = 8
  · subst d8
    obtain ⟨H1, c1, b1, k1⟩ := reset h.box
    have hr1 := h.ref1 (Kept.cons k1)
    obtain ⟨s, g1, g2, g3⟩ := hr1
    have st := g1.store (o := 1) (v := I 0) (by simp) rfl rfl rfl
    have r2 : MR _ r l 0 most ownr := ⟨s, g1.stored (o := 1) (v := I 0), g2.kept (.set (own := [r]) (by simp)) (fun i hi e => g3 (by simp at e; exact e ▸ hi)), g3⟩
    refine ⟨_, l, 0, own, ownr, Evs.with c1 (Evs.of fun n _ e1 => ?_), h.join b1 (Kept.cons k1) (fun i hi => .inl hi) r2 (.set (by simp)) (fun i hi => .inl hi) (by omega) (by omega), by omega⟩
    simp [B6_4, B6_3, B6_2, B6_1, B6_0, e1, g1.nilCheck, g1.fa, st]
  · obtain ⟨cnt, hcnt, hcl⟩ : ∃ cnt : Nat, (if nn.tmod 3 = 0 then (l.length : Int) + 1 else l.length) = cnt ∧ cnt ≤ 201 := by
      split
      · exact ⟨l.length + 1, by simp, by omega⟩
      · exact ⟨l.length, rfl, by omega⟩
    obtain ⟨H1, v, own1, l2, hL, s1, hl2, k1, o1⟩ := loop61 (t1 := t1) (t5 := .ptr b 0 0 0) (t6 := .ptr r 0 0 0) (t7 := t7) (do_ := do_) (nn := nn) (cnt := cnt) (by omega) cnt 0 H .nils [] [] (by omega) .nil rfl
    have hw : IntKind.wrap .i64 ((l.length : Int) + 1) = (l.length : Int) + 1 := wrap_i64 (by omega) (by omega)
    have hb1 := h.box.kept k1 (by simp) (by simp)
    have hr1 := h.ref.kept k1 (by simp) (by simp)
    obtain ⟨s, g1, g2, g3⟩ := h.ref
    have hfirst : (if nn.tmod 3 = 0 then some (0, (⟨[t1, .ptr b 0 0 0, .ptr r 0 0 0, t7, I (IntKind.wrap .i64 ((l.length : Int) + 1))], [[I do_, I nn]]⟩ : Live), H)
        else some (0, ⟨[t1, .ptr b 0 0 0, .ptr r 0 0 0, t7, I l.length], [[I do_, I nn]]⟩, H)) = some (0, ⟨[t1, .ptr b 0 0 0, .ptr r 0 0 0, t7, I cnt], [[I do_, I nn]]⟩, H) := by
      rw [← hcnt, hw]
      by_cases h3 : nn.tmod 3 = 0 <;> simp [h3]
    by_cases hsame : cnt = l.length
    · subst hsame
      obtain ⟨H2, own2, c2, b2, k2, o2⟩ := set_ok hb1 s1 (by omega) (by omega)
      have hbl := h.box.lt
      have hrl : r < H.length := lt_of_get g1
      have new1 : ∀ i ∈ own1, H.length ≤ i := fun i hi => by
        rcases o1 i hi with h | h
        · cases h
        · exact h
      have s2 := s1.kept k2 (fun i hi e => by have := new1 i hi; simp at e; omega)
      have hr2 := hr1.kept k2 (by simp; exact fun e => h.ne e.symm) (fun i hi e => h.nb (by simp at e; exact e ▸ hi))
      obtain ⟨s', q1, q2, q3⟩ := hr2
      obtain ⟨f1, f2, f3⟩ := s2.def
      have st := q1.store (o := 0) (v := v) (by simp) f1 f3 f2
      have hq := q1.stored (o := 0) (v := v)
      simp only [List.set_cons_zero] at st hq
      obtain ⟨s'', q1', q2', q3'⟩ := hr1
      have hne : r ∉ own1 := fun e => by have := new1 r e; omega
      refine ⟨_, l2, at_, own2, own1, Evs.withL hL (Evs.with c2 (Evs.of fun n _ e2 e1 _ => ?_)), ⟨b2.kept (.set (own := [r]) (by simp)) (by simp; exact h.ne) (fun i hi e => by have := o2 i hi; have := k1.len; simp at e; omega), ⟨v, hq, s2.kept (.set (own := [r]) (by simp)) (fun i hi e => hne (by simp at e; exact e ▸ hi)), hne⟩, h.ne, fun e => by have := o2 r e; have := k1.len; omega, fun e => by have := new1 b e; omega, fun i hi e => by have := o2 i hi; have := s1.own_lt i e; omega, hlo, by omega⟩, by omega⟩
      simp only [Int.natCast_zero, Int.ofNat_zero] at e1
      have e3 : A.len s'' H1 = A.len s' H2 := by rw [q2'.len, q2.len]
      have hs' : s'' = s' := by
        have a1 := q1'.kept k2 (by simp; exact fun e => h.ne e.symm)
        unfold Go.Den.Box at a1 q1
        rw [a1] at q1
        simpa using q1
      subst hs'
      simp [B6_4, B6_3, B6_2, B6_1, B6_0, d3, d4, d5, d7, d8, g1.nilCheck, g1.fa, g1.load, g2.len, hfirst, e1, e2, q1.nilCheck, q1.fa, q1.load, q2.len, q1'.nilCheck, q1'.fa, q1'.load, q2'.len, A.bin_beq ty4, st]
    · have c2 := set_no hb1 s1 (by omega)
      obtain ⟨s', q1, q2, q3⟩ := hr1
      refine ⟨H1, l, at_, own, ownr, Evs.withL hL (Evs.with c2 (Evs.of fun n _ e2 e1 _ => ?_)), ⟨hb1, ⟨s', q1, q2, q3⟩, h.ne, h.nr, h.nb, h.apart, hlo, hhi⟩, by omega⟩
      have hcl : ¬ (cnt : Int) = l.length := by omega
      simp only [Int.natCast_zero, Int.ofNat_zero] at e1
      simp [B6_4, B6_3, B6_2, B6_1, B6_0, d3, d4, d5, d7, d8, g1.nilCheck, g1.fa, g1.load, g2.len, hfirst, e1, e2, q1.nilCheck, q1.fa, q1.load, q2.len, hcl, A.bin_beq ty4]
end

abbrev Dd (d : Int × Int) : AV := .agg [I d.1, I d.2]

theorem loop60 {a1 : AV} {ds : List (Int × Int)} {b r : Nat} {most : Int} (ha : Im 2 a1 (ds.map Dd)) (hs : ds.length ≤ 120) : ∀ (k i : Nat) (H : Heap) (l : List Int) (at_ : Int) (own ownr : List Nat),
    ds.length = i + k → l.length ≤ i → InvP H b r l at_ most own ownr → ∃ H', LDoes L6_0 ⟨[a1, .ptr b 0 0 0, .ptr r 0 0 0, I i], []⟩ H 0 ⟨[.undef], []⟩ H' := by
  intro k
  induction k with
  | zero =>
    intro i H l at_ own ownr hi hl h
    refine ⟨H, LDoes.step (Evs.of fun nn mm => ?_)⟩
    have : ¬ (i : Int) < ds.length := by omega
    simp [L6_0_step, ha.len, this]
  | succ k ih =>
    intro i H l at_ own ownr hi hl h
    have hlt : (i : Int) < ds.length := by omega
    obtain ⟨d, hd⟩ : ∃ d, (ds.map Dd)[(i : Int).toNat]? = some (Dd d) := ⟨ds[i]'(by omega), by rw [List.getElem?_map, Int.toNat_natCast, List.getElem?_eq_getElem (by omega)]; rfl⟩
    have g1 := ha.idx (H := H) (k := .i64) (i := i) (by omega) hd
    have hw : IntKind.wrap .i64 ((i : Int) + 1) = (i : Int) + 1 := wrap_i64 (by omega) (by omega)
    have hld : A.ofList true 2 [I d.1, I d.2] 0 = some (Dd d) := by simp [A.ofList]
    have hft : A.fits 2 (Dd d) = true := by simp [A.fits, AV.one]
    obtain ⟨H1, l1, at1, own1, ownr1, hsw, hI1, hl1⟩ := sw6 h (by omega) a1 (I i) d.1 d.2
    have hlen := len_ hI1.box
    have hmk := mark hI1.box
    have hah := ahead hI1.box
    obtain ⟨u, H2, ou, hall, su, ku, nu⟩ := all_ hI1.box (by omega)
    have hI2 : InvP H2 b r l1 at1 most own1 ownr1 := ⟨hI1.box.kept ku (by simp) (by simp), hI1.ref.kept ku (by simp) (by simp), hI1.ne, hI1.nr, hI1.nb, hI1.apart, hI1.lo, hI1.hi⟩
    obtain ⟨s, q1, q2, q3⟩ := hI1.ref
    have q1' := q1.kept ku (by simp)
    have q2' := q2.kept ku (by simp)
    have cell : ∀ l : List Int, ∀ e ∈ l.map I, e.cells = [e] := fun l e he => by
      obtain ⟨n, _, rfl⟩ := List.mem_map.1 he
      rfl
    have hsame := same_eq (su.rd (cell _)) (q2'.rd (cell _)) (by omega)
    obtain ⟨H', hL⟩ := ih (i + 1) H2 l1 at1 own1 ownr1 (by omega) (by omega) hI2
    refine ⟨H', LDoes.step ?_⟩
    refine (hsw.and (Evs.with hlen (Evs.with hmk (Evs.with hah (Evs.with hall (Evs.with hsame (Evs.withL hL (Evs.of fun nn mm _ c c22 c23 c32 c26 c21 => (⟨c, c22, c23, c32, c26, c21⟩ : _ ∧ _ ∧ _ ∧ _ ∧ _ ∧ _))))))))).mono ?_
    intro nn mm ⟨e1, c, c22, c23, c32, c26, c21⟩
    simp only [Int.natCast_add, Int.natCast_one] at c
    simp [L6_0_step, ha.len, hlt, g1, hld, hft, A.splice, e1, c21, c26, c32, c23, c22, q1.nilCheck, q1.fa, q1.load, q2.len, q1'.nilCheck, q1'.fa, q1'.load, A.bin_bne ty4, hw, c]

theorem law6 {a1 : AV} {ds : List (Int × Int)} {x : Int} (ha : Im 2 a1 (ds.map Dd)) : ∃ H', Does env 6 [I x, a1] [] (.bool true) H' := by
  obtain ⟨H1, hd9⟩ := awake20
  by_cases hs : ds.length ≤ 120
  · have hs1 : ¬ (ds.length : Int) > 120 := by omega
    obtain ⟨H2, hd17, hbox, hk⟩ := new_int x H1
    have k2 : Kept [] H2 (H2 ++ [.row 0 3 43 [.agg [.nils, I 0, I (max x 0)]]]) := .app _ _ _
    have hbox2 := hbox.kept k2 (by simp) (by simp)
    have hbl := hbox.lt.1
    have hI : InvP (H2 ++ [.row 0 3 43 [.agg [.nils, I 0, I (max x 0)]]]) H1.length H2.length [] 0 (max x 0) [] [] :=
      ⟨hbox2, ⟨.nils, by unfold Go.Den.Box; exact get_new, .nil, by simp⟩, by omega, by simp, by simp, by simp, by omega, by simp⟩
    obtain ⟨H4, hL⟩ := loop60 ha hs ds.length 0 _ [] 0 [] [] (by omega) (by simp) hI
    have hnn : A.bin env.P .eql 29 (.ptr H1.length 0 0 0) .nilp true (H2 ++ [.row 0 3 43 [.agg [.nils, I 0, I (max x 0)]]]) = some (.bool false) := by
      obtain ⟨s, h1, _⟩ := hbox2
      exact (h1.not_nil ty29).1
    have hmax : (if (0 : Int) > x then (0 : Int) else x) = max x 0 := by split <;> omega
    refine ⟨H4, Does.intro (Evs.with hd9 (Evs.with hd17 (Evs.withL hL (Evs.of fun nn mm c1 _ c17 c9 => ?_))))⟩
    simp only [Int.natCast_zero, Int.ofNat_zero] at c1
    simp only [S6, c9, A.un_not, withV_of, Bool.not_true, test_bool, Bool.false_eq_true, if_false, ha.len, List.length_map, A.bin_gtr, hs1, decide_false, c17, List.foldlM_cons, List.foldlM_nil, A.maxv_int, hmax]
    simp [A.fill, A.splice, hnn, c1]
  · refine ⟨H1, Does.intro (Evs.with hd9 (Evs.of fun nn mm c9 => ?_))⟩
    have : (ds.length : Int) > 120 := by omega
    simp [S6, c9, ha.len, this]

theorem lawMailPlays : ∀ vs : List AV, vs.length = Try.f6.params.size → (∀ (j : Nat) t v, Try.f6.params[j]? = some t → vs[j]? = some v → ∃ n, Ty Try.prog n t v) → ∃ n, answer env n 6 vs = some (.bool true) := by
  intro vs hl h
  have hp : Try.f6.params = #[3, 40] := by kernel_rfl
  rw [hp] at hl h
  match vs, hl with
  | [v, w], _ =>
    obtain ⟨n, h1⟩ := h 0 3 v rfl rfl
    obtain ⟨m, h2⟩ := h 1 40 w rfl rfl
    obtain ⟨x, rfl, _⟩ := h1.int (k := .i64) (by kernel_rfl)
    obtain ⟨m, es, _, him, _, hes⟩ := h2.slice (e := 45) (by kernel_rfl)
    have hcell : Try.prog.cellsOf 45 = 2 := by kernel_rfl
    rw [hcell] at him
    have hstr : ∃ f1 f2 : Field, Try.prog.underlying 45 = some (.struct #[f1, f2]) ∧ Try.prog.underlying f1.type = some (.int .i64) ∧ Try.prog.underlying f2.type = some (.int .i64) := ⟨{ name := "Do", type := 3, offset := 0, embedded := false, tag := "", pkgPath := "", byteOffset := 0 }, { name := "N", type := 3, offset := 1, embedded := false, tag := "", pkgPath := "", byteOffset := 8 }, by kernel_rfl, by kernel_rfl, by kernel_rfl⟩
    obtain ⟨f1, f2, hu, hf1, hf2⟩ := hstr
    obtain ⟨ds, rfl, _⟩ := map_of_all (f := Dd) (p := fun _ => True) (es := es) fun y hy => by
      obtain ⟨k, vs, _, rfl, hl, hv⟩ := (hes y hy).struct hu
      match vs, hl with
      | [p, q], _ =>
        obtain ⟨a, rfl, _⟩ := (hv 0 f1 p rfl rfl).1.int hf1
        obtain ⟨b, rfl, _⟩ := (hv 1 f2 q rfl rfl).1.int hf2
        exact ⟨(a, b), rfl, trivial⟩
    obtain ⟨H', hd⟩ := law6 (x := x) him
    exact hd.answer

end Go.Proofs.Ytmeimiflflilpaa
