/- MailSelects: what its loops do, and that it answers true. -/
import Derived.Test.YtmeimiflflilpaaMwOrder
set_option maxRecDepth 100000
namespace Go.Proofs.Ytmeimiflflilpaa
open Go Go.Den

section
variable {b : Nat} {most nn : Int} {t1 t5 t6 t8 t10 v : AV} {own : List Nat}

theorem loop52 {H : Heap} {l1 rest : List Int} (hs : Sl H 1 3 v ((l1 ++ rest).map I) own) (hlen : (l1 ++ rest).length < 1000000) (h1 : ∀ x ∈ l1, x ≠ nn) (h2 : rest = [] ∨ ∃ l2, rest = nn :: l2) : ∀ (q p : List Int), l1 = p ++ q →
    LDoes L5_2 ⟨[t1, t5, v, t8, I nn, I p.length], []⟩ H 0 ⟨[t1, t5, v, t8, I nn, I l1.length], []⟩ H := by
  intro q
  induction q with
  | nil =>
    intro p hp
    have hp : l1 = p := by simpa using hp
    subst hp
    refine LDoes.step (Evs.of fun n m => ?_)
    rcases h2 with rfl | ⟨l2, rfl⟩
    · simp [L5_2_step, hs.len]
    · obtain ⟨p, g1, g2⟩ := hs.load1 (k := .i64) (i := l1.length) (e := I nn) (by omega) (by simp; omega) (by simp) rfl
      have hlt : (l1.length : Int) < l1.length + (l2.length + 1) := by omega
      simp [L5_2_step, hs.len, hlt, g1, g2]
  | cons x q ih =>
    intro p hp
    have hx : x ≠ nn := h1 x (by rw [hp]; simp)
    have hi := ih (p ++ [x]) (by simp [hp])
    obtain ⟨pp, g1, g2⟩ := hs.load1 (k := .i64) (i := p.length) (e := I x) (by omega) (by simp [hp]; omega) (by simp [hp]) rfl
    refine LDoes.step (Evs.withL hi (Evs.of fun n m _ c => ?_))
    have hlt : (p.length : Int) < l1.length + rest.length := by rw [hp]; simp; omega
    have hpl : p.length ≤ l1.length := by rw [hp]; simp
    have hw : IntKind.wrap .i64 ((p.length : Int) + 1) = p.length + 1 := wrap_i64 (by omega) (by simp at hlen; omega)
    simp only [List.length_append, List.length_cons, List.length_nil, Int.natCast_add, Nat.zero_add, Int.natCast_one] at c
    simp [L5_2_step, hs.len, hlt, g1, g2, hx, hw, c]

theorem loop53 {l1 rest : List Int} (hlen : (l1 ++ rest).length < 1000000) (h1 : ∀ x ∈ l1, x ≠ nn) (h2 : rest = [] ∨ ∃ l2, rest = nn :: l2) : ∀ (q p : List Int) (H : Heap), l1 = p ++ q → MB H b (l1 ++ rest) p.length most own →
    ∃ H', (∀ t11 t12, (match q ++ rest with | [] => t11 = I 0 ∧ t12 = .bool false | x :: _ => t11 = I x ∧ t12 = .bool true) → LDoes L5_3 ⟨[t1, .ptr b 0 0 0, t6, t8, I nn, t10, t11, t12], []⟩ H 0 ⟨[t1, .ptr b 0 0 0, t6, t8, t10, .bool (!rest.isEmpty)], []⟩ H') ∧
      MB H' b (l1 ++ rest) l1.length most own ∧ Kept [b] H H' := by
  intro q
  induction q with
  | nil =>
    intro p H hp hb
    have hp : l1 = p := by simpa using hp
    subst hp
    refine ⟨H, fun t11 t12 ht => LDoes.step (Evs.of fun n m => ?_), hb, .refl _ _⟩
    rcases h2 with rfl | ⟨l2, rfl⟩
    · obtain ⟨rfl, rfl⟩ := ht
      simp [L5_3_step]
    · obtain ⟨rfl, rfl⟩ := ht
      simp [L5_3_step]
  | cons x q ih =>
    intro p H hp hb
    have hx : x ≠ nn := h1 x (by rw [hp]; simp)
    have hlt : (p.length : Int) < (l1 ++ rest).length := by rw [hp]; simp; omega
    obtain ⟨H1, hd1, hb1, hk1⟩ := skip_ok hb (by omega) hlt hlen
    obtain ⟨H2, hL, hb2, hk2⟩ := ih (p ++ [x]) H1 (by simp [hp]) (by simpa using hb1)
    refine ⟨H2, fun t11 t12 ht => ?_, hb2, hk1.trans hk2⟩
    obtain ⟨rfl, rfl⟩ := ht
    cases hq : q ++ rest with
    | nil =>
      have hpn := peek_none hb1 (by
        have : (l1 ++ rest).length = p.length + 1 := by rw [hp]; simp [hq]
        omega)
      refine LDoes.step (Evs.with hd1 (Evs.with hpn (Evs.withL (hL (I 0) (.bool false) (by rw [hq]; exact ⟨rfl, rfl⟩)) (Evs.of fun n m _ c c2 c1 => ?_))))
      simp [L5_3_step, hx, c1, c2, c]
    | cons y r =>
      have hpn := peek_some hb1 (x := y) (by omega) (by
        have e : l1 ++ rest = p ++ [x] ++ (y :: r) := by rw [hp, ← hq]; simp
        have e2 : ((p.length : Int) + 1).toNat = (p ++ [x]).length := by simp
        rw [e, e2, List.getElem?_append_right (Nat.le_refl _), Nat.sub_self]
        rfl)
      refine LDoes.step (Evs.with hd1 (Evs.with hpn (Evs.withL (hL (I y) (.bool true) (by rw [hq]; exact ⟨rfl, rfl⟩)) (Evs.of fun n m _ c c2 c1 => ?_))))
      simp [L5_3_step, hx, c1, c2, c]
end

structure InvS (H : Heap) (b : Nat) (most : Int) (ml : List Int) (v : AV) (own own9 : List Nat) : Prop where
  box : MB H b ml 0 most own
  sl : Sl H 1 3 v (ml.map I) own9
  apart : b ∉ own9 ∧ ∀ i ∈ own9, i ∉ own


theorem rem4 (x : Int) (h : 0 ≤ x ∧ x ≤ 255) : 0 ≤ x.tmod 4 ∧ x.tmod 4 < 4 := ⟨Int.tmod_nonneg _ h.1, Int.tmod_lt_of_pos _ (by omega)⟩

theorem conv53' {x : Int} (h : 0 ≤ x ∧ x ≤ 255) : Go.Den.convert env 5 3 (U x) = some (I x) := by
  rw [conv53, wrap_i64 (by omega) (by omega)]

/-- Split at the first one that is looked for. -/
theorem split_at (nn : Int) : ∀ ml : List Int, ∃ l1 rest, ml = l1 ++ rest ∧ (∀ x ∈ l1, x ≠ nn) ∧ (rest = [] ∨ ∃ l2, rest = nn :: l2)
  | [] => ⟨[], [], rfl, by simp, .inl rfl⟩
  | x :: ml => by
    by_cases h : x = nn
    · subst h
      exact ⟨[], x :: ml, rfl, by simp, .inr ⟨ml, rfl⟩⟩
    · obtain ⟨l1, rest, rfl, h1, h2⟩ := split_at nn ml
      exact ⟨x :: l1, rest, rfl, by simp only [List.mem_cons, forall_eq_or_imp]; exact ⟨h, h1⟩, h2⟩

theorem loop51 {a1 : AV} {w : List Int} {b : Nat} {most : Int} (ha : Im 1 a1 (w.map U)) (hw : ∀ x ∈ w, 0 ≤ x ∧ x ≤ 255) (hs : w.length ≤ 100) : ∀ (k i : Nat) (H : Heap) (ml : List Int) (v : AV) (own own9 : List Nat),
    w.length = i + k → ml.length ≤ 100 → InvS H b most ml v own own9 → ∃ H', LDoes L5_1 ⟨[a1, .ptr b 0 0 0, v, I i], []⟩ H 0 ⟨[.undef], []⟩ H' := by
  intro k
  induction k with
  | zero =>
    intro i H ml v own own9 hi hml hI
    refine ⟨H, LDoes.step (Evs.of fun nn mm => ?_)⟩
    have : ¬ (i : Int) < w.length := by omega
    simp [L5_1_step, ha.len, this]
  | succ k ih =>
    intro i H ml v own own9 hi hml hI
    have hlt : (i : Int) < w.length := by omega
    obtain ⟨hbox, hsl, ⟨hb9, hap⟩⟩ := hI
    obtain ⟨y, hx, hr⟩ : ∃ y, (w.map U)[(i : Int).toNat]? = some (U y) ∧ 0 ≤ y ∧ y ≤ 255 := ⟨w[i]'(by omega), by simp, hw _ (List.getElem_mem (l := w) (n := i) (by omega))⟩
    have g1 := ha.idx (H := H) (k := .i64) (i := i) (by omega) hx
    have hcv := conv53' hr
    have hwi : IntKind.wrap .i64 ((i : Int) + 1) = (i : Int) + 1 := wrap_i64 (by omega) (by omega)
    obtain ⟨l1, rest, rfl, h1, h2⟩ := split_at (y.tmod 4) ml
    have hlen : (l1 ++ rest).length < 1000000 := by omega
    have hL2 := loop52 (t1 := a1) (t5 := .ptr b 0 0 0) (t8 := I i) hsl hlen h1 h2 l1 [] rfl
    obtain ⟨H1, hL3, hbox1, hk1⟩ := loop53 (t1 := a1) (t6 := v) (t8 := I i) (t10 := I l1.length) hlen h1 h2 l1 [] H rfl hbox
    have hsl1 := hsl.kept hk1 (fun j hj e => hb9 (by simp at e; exact e ▸ hj))
    have hbl : b < H1.length := by
      obtain ⟨s, h, _⟩ := hbox1
      exact lt_of_get h
    have hol : ∀ j ∈ own, j < H1.length := by
      obtain ⟨s, _, h, _⟩ := hbox1
      exact h.own_lt
    have cell : ∀ l : List Int, ∀ e ∈ l.map I, e.cells = [e] := fun l e he => by
      obtain ⟨n, _, rfl⟩ := List.mem_map.1 he
      rfl
    have hpk : ∃ t11 t12, Does env 19 [.ptr b 0 0 0] H (.tup [t11, t12]) H ∧ (match l1 ++ rest with | [] => t11 = I 0 ∧ t12 = .bool false | x :: _ => t11 = I x ∧ t12 = .bool true) := by
      cases hm : l1 ++ rest with
      | nil => exact ⟨I 0, .bool false, peek_none hbox (by rw [hm]; simp), rfl, rfl⟩
      | cons x r => exact ⟨I x, .bool true, peek_some hbox (x := x) (by omega) (by rw [hm]; rfl), rfl, rfl⟩
    obtain ⟨t11, t12, hd19, ht⟩ := hpk
    have hL3 := hL3 t11 t12 ht
    rcases h2 with rfl | ⟨l2, rfl⟩
    · obtain ⟨H2, hd25, hbox2, hk2⟩ := reset hbox1
      have hsl2 := hsl1.kept hk2 (fun j hj e => hb9 (by simp at e; exact e ▸ hj))
      obtain ⟨u, H3, own3, hd23, hs3, hk3, ho3⟩ := all_ hbox2 hlen
      have hsl3 := hsl2.kept hk3 (by simp)
      have hbox3 := hbox2.kept hk3 (by simp) (by simp)
      have hd22 := same_eq (hs3.rd (cell _)) (hsl3.rd (cell _)) hlen
      have hd26 := mark hbox3
      obtain ⟨H', hL⟩ := ih (i + 1) H3 _ v own own9 (by omega) hml ⟨hbox3, hsl3, ⟨hb9, hap⟩⟩
      refine ⟨H', LDoes.step (Evs.withL hL2 (Evs.with hd19 (Evs.withL hL3 (Evs.with hd25 (Evs.with hd23 (Evs.with hd22 (Evs.with hd26 (Evs.withL hL (Evs.of fun nn mm _ c c26 c22 c23 c25 cL3 _ c19 cL2 _ => ?_)))))))))⟩
      simp only [List.length_nil, Int.natCast_zero, Int.ofNat_zero] at cL2
      simp only [Int.natCast_add, Int.natCast_one] at c
      simp at cL3
      simp [L5_1_step, ha.len, hlt, g1, hcv, cL2, c19, cL3, hsl1.len, A.bin_bne ty4, c25, c23, c22, c26, hwi, c]
    · have hneg : ((l1.length : Int) < (l1.length : Int) + ((l2.length : Int) + 1)) := by omega
      have k1 : Kept [] H1 (H1 ++ [.row 0 1 3 []]) := .app _ _ _
      have hslA := hsl1.kept k1 (by simp)
      have hnewA : Sl (H1 ++ [.row 0 1 3 []]) 1 3 (.sl H1.length 0 0 0 0) [] [H1.length] := Sl.new []
      obtain ⟨v7, H7, own7, ha7, hs7, hk7, ho7⟩ := hnewA.append (bytes := 8) (l1.map I) (by omega) (by simp at hml ⊢; omega)
      have hslB := hslA.kept hk7 (fun j hj e => by have := hsl1.own_lt j hj; simp at e; omega)
      obtain ⟨v8, H8, own8, ha8, hs8, hk8, ho8⟩ := hs7.append (bytes := 8) (l2.map I) (by omega) (by simp at hml ⊢; omega)
      have hslC := hslB.kept hk8 (fun j hj e => by
        have := hsl1.own_lt j hj
        rcases ho7 j e with h | h
        · simp at h; omega
        · simp at h; omega)
      have hnew7 : ∀ j ∈ own7, H1.length ≤ j := fun j hj => by
        rcases ho7 j hj with h | h
        · simp at h; omega
        · simp at h; omega
      have hnew8 : ∀ j ∈ own8, H1.length ≤ j := fun j hj => by
        rcases ho8 j hj with h | h
        · exact hnew7 j h
        · have := hk7.len; simp at this; omega
      have e1 := (hsl1.slice_to (k := .i64) (i := l1.length) (by omega) (by simp; omega)).1
      have e2 := hslA.slice_to (k := .i64) (i := l1.length) (by omega) (by simp; omega)
      have f1 := (hsl1.slice_from (k := .i64) (i := l1.length + 1) (by omega) (by simp; omega)).1
      have f2 := (hslA.slice_from (k := .i64) (i := l1.length + 1) (by omega) (by simp; omega)).1
      have f3 := hslB.slice_from (k := .i64) (i := l1.length + 1) (by omega) (by simp; omega)
      have r2 := e2.2.read
      have r3 := f3.2.read
      have e2 := e2.1
      have f3 := f3.1
      have et : ((l1.length : Int) + 1).toNat = l1.length + 1 := by omega
      rw [Int.toNat_natCast] at e1 e2 r2
      rw [et] at f1 f2 f3 r3
      have rr2 : ((l1 ++ y.tmod 4 :: l2).map I).take l1.length = l1.map I := by
        rw [← List.map_take, List.take_left]
      have rr3 : ((l1 ++ y.tmod 4 :: l2).map I).drop (l1.length + 1) = l2.map I := by
        rw [← List.map_drop, ← List.drop_drop, List.drop_left]; rfl
      rw [rr2] at r2
      rw [rr3] at r3
      have kk := k1.then (hk7.then hk8 (fun j hj _ => by
        have := hnew7 j hj
        rcases ho7 j hj with h | h
        · exact h
        · simp at h; have := hk7.len; simp at *; omega)) (by simp)
      have hwl : IntKind.wrap .i64 ((l1.length : Int) + 1) = (l1.length : Int) + 1 := wrap_i64 (by omega) (by simp at hml; omega)
      have hbox8 : MB H8 b (l1 ++ y.tmod 4 :: l2) l1.length most own := hbox1.kept kk (by simp) (by simp)
      obtain ⟨H9, hd20, hbox9, hk9⟩ := accept_ok hbox8 hlen
      have hs9 := hs8.kept hk9 (fun j hj e => by
        have := hnew8 j hj
        rcases List.mem_cons.1 e with e | e
        · omega
        · have := hol j e; omega)
      obtain ⟨u, H3, own3, hd23, hs3, hk3, ho3⟩ := all_ hbox9 (by simp at hlen ⊢; omega)
      have hsl3 := hs9.kept hk3 (by simp)
      have hbox3 := hbox9.kept hk3 (by simp) (by simp)
      rw [List.nil_append, ← List.map_append] at hsl3
      have hd22 := same_eq (hs3.rd (cell _)) (hsl3.rd (cell _)) (by simp at hlen ⊢; omega)
      have hd26 := mark hbox3
      obtain ⟨H', hL⟩ := ih (i + 1) H3 _ v8 own own8 (by omega) (by simp at hml ⊢; omega) ⟨hbox3, hsl3, ⟨fun e => by have := hnew8 b e; omega, fun j hj e => by have := hnew8 j hj; have := hol j e; omega⟩⟩
      refine ⟨H', LDoes.step (Evs.withL hL2 (Evs.with hd19 (Evs.withL hL3 (Evs.with hd20 (Evs.with hd23 (Evs.with hd22 (Evs.with hd26 (Evs.withL hL (Evs.of fun nn mm _ c c26 c22 c23 c20 cL3 _ c19 cL2 _ => ?_)))))))))⟩
      simp only [List.length_nil, Int.natCast_zero, Int.ofNat_zero] at cL2
      simp only [Int.natCast_add, Int.natCast_one] at c
      simp at cL3
      simp [L5_1_step, ha.len, hlt, g1, hcv, cL2, c19, cL3, hsl1.len, A.bin_bne ty4, hneg, A.fillElems, newsOf_sl ty33, e1, e2, r2, ha7, hwl, f1, f2, f3, r3, ha8, c20, c23, c22, c26, hwi, c]

theorem loop50 {a0 a1 : AV} {w : List Int} {b : Nat} {most : Int} (ha : Im 1 a0 (w.map U)) (hw : ∀ x ∈ w, 0 ≤ x ∧ x ≤ 255) (hs : w.length ≤ 100) (hm : most = w.length) : ∀ (k i : Nat) (H : Heap) (ml : List Int) (v : AV) (own own9 : List Nat),
    w.length = i + k → ml.length = i → InvS H b most ml v own own9 →
    ∃ (H' : Heap) (ml' : List Int) (v' : AV) (own' own9' : List Nat), LDoes L5_0 ⟨[a0, a1, .ptr b 0 0 0, v, I i], []⟩ H 0 ⟨[a1, .undef, .ptr b 0 0 0, v'], []⟩ H' ∧ InvS H' b most ml' v' own' own9' ∧ ml'.length ≤ 100 := by
  intro k
  induction k with
  | zero =>
    intro i H ml v own own9 hi hml hI
    refine ⟨H, ml, v, own, own9, LDoes.step (Evs.of fun nn mm => ?_), hI, by omega⟩
    have : ¬ (i : Int) < w.length := by omega
    simp [L5_0_step, ha.len, this]
  | succ k ih =>
    intro i H ml v own own9 hi hml hI
    have hlt : (i : Int) < w.length := by omega
    obtain ⟨hbox, hsl, ⟨hb9, hap⟩⟩ := hI
    obtain ⟨y, hx, hr⟩ : ∃ y, (w.map U)[(i : Int).toNat]? = some (U y) ∧ 0 ≤ y ∧ y ≤ 255 := ⟨w[i]'(by omega), by simp, hw _ (List.getElem_mem (l := w) (n := i) (by omega))⟩
    have g1 := fun H : Heap => ha.idx (H := H) (k := .i64) (i := i) (by omega) hx
    have hcv := conv53' hr
    have hwi : IntKind.wrap .i64 ((i : Int) + 1) = (i : Int) + 1 := wrap_i64 (by omega) (by omega)
    obtain ⟨H1, own1, hd, hbox1, hk1, ho1⟩ := put_ok hbox (by omega) (by omega) (y.tmod 4)
    have hsl1 := hsl.kept hk1 (fun j hj e => by
      rcases List.mem_cons.1 e with e | e
      · exact hb9 (e ▸ hj)
      · exact hap j hj e)
    have k2 : Kept [] H1 (H1 ++ [.row 0 1 3 [I (y.tmod 4)]]) := .app _ _ _
    have hsl2 := hsl1.kept k2 (by simp)
    have hbox2 := hbox1.kept k2 (by simp) (by simp)
    obtain ⟨v2, H3, own3, ha3, hsl3, hk3, ho3⟩ := hsl2.append (bytes := 8) [I (y.tmod 4)] (by omega) (by simp; omega)
    have hn9 : ∀ j ∈ own9, j ∉ own1 := fun j hj e => by
      rcases ho1 j e with h | h
      · exact hap j hj h
      · have := hsl.own_lt j hj; omega
    have hbox3 := hbox2.kept hk3 hb9 (fun j hj e => hn9 j e hj)
    have hbl1 : b < H1.length := by
      obtain ⟨s, h1, _⟩ := hbox1
      exact lt_of_get h1
    have hol1 : ∀ j ∈ own1, j < H1.length := by
      obtain ⟨s, _, h2, _⟩ := hbox1
      exact h2.own_lt
    have hI3 : InvS H3 b most (ml ++ [y.tmod 4]) v2 own1 own3 := by
      refine ⟨hbox3, by rw [List.map_append]; exact hsl3, ⟨fun e => ?_, fun j hj e => ?_⟩⟩
      · rcases ho3 b e with h | h
        · exact hb9 h
        · simp at h; omega
      · rcases ho3 j hj with h | h
        · exact hn9 j h e
        · have := hol1 j e
          simp at h; omega
    obtain ⟨H', ml', v', own', own9', hL, hI', hlen⟩ := ih (i + 1) H3 (ml ++ [y.tmod 4]) v2 own1 own3 (by omega) (by simp; omega) hI3
    refine ⟨H', ml', v', own', own9', LDoes.step (Evs.with hd (Evs.withL hL (Evs.of fun nn mm _ c2 c1 => ?_))), hI', hlen⟩
    have hr2 : A.read 1 (.sl H1.length 0 0 1 1) (H1 ++ [.row 0 1 3 [I (y.tmod 4)]]) = some [I (y.tmod 4)] := (Sl.new (H := H1) (sz := 1) (ty := 3) [I (y.tmod 4)]).read
    simp only [Int.natCast_add, Int.natCast_one] at c2
    simp [L5_0_step, ha.len, hlt, g1, hcv, c1, fillElems_one (I (y.tmod 4)) (.int .i64 0) rfl rfl, newsOf_sl ty33, hr2, ha3, hwi, c2]

theorem law5 {a0 a1 : AV} {l w : List Int} (h0 : Im 1 a0 (l.map U)) (h1 : Im 1 a1 (w.map U)) (hl : ∀ x ∈ l, 0 ≤ x ∧ x ≤ 255) (hw : ∀ x ∈ w, 0 ≤ x ∧ x ≤ 255) : ∃ H', Does env 5 [a0, a1] [] (.bool true) H' := by
  obtain ⟨H1, hd9⟩ := awake20
  by_cases hs : l.length ≤ 100
  · have hs1 : ¬ (l.length : Int) > 100 := by omega
    by_cases hs2 : w.length ≤ 100
    · have hs3 : ¬ (w.length : Int) > 100 := by omega
      obtain ⟨H2, hd17, hbox, hk⟩ := new_int (l.length : Int) H1
      rw [show max (l.length : Int) 0 = l.length by omega] at hbox
      obtain ⟨H3, ml, v, own, own9, hL, hI, hml⟩ := loop50 (a1 := a1) (b := H1.length) h0 hl hs rfl l.length 0 H2 [] .nils [] [] (by omega) rfl ⟨hbox, .nil, ⟨by simp, by simp⟩⟩
      obtain ⟨H4, hL1⟩ := loop51 h1 hw hs2 w.length 0 H3 ml v own own9 (by omega) hml hI
      have hnn : A.bin env.P .eql 29 (.ptr H1.length 0 0 0) .nilp true H2 = some (.bool false) := by
        obtain ⟨s, h1, _⟩ := hbox
        exact (h1.not_nil ty29).1
      refine ⟨H4, Does.intro (Evs.with hd9 (Evs.with hd17 (Evs.withL hL (Evs.withL hL1 (Evs.of fun nn mm c1 _ c0 _ c17 c9 => ?_)))))⟩
      simp only [Int.natCast_zero, Int.ofNat_zero] at c0 c1
      simp [S5, c9, h0.len, h1.len, hs1, hs3, c17, hnn, c0, c1]
    · have hs3 : (w.length : Int) > 100 := by omega
      refine ⟨H1, Does.intro (Evs.with hd9 (Evs.of fun nn mm c9 => ?_))⟩
      simp [S5, c9, h0.len, h1.len, hs1, hs3]
  · have hs1 : (l.length : Int) > 100 := by omega
    refine ⟨H1, Does.intro (Evs.with hd9 (Evs.of fun nn mm c9 => ?_))⟩
    simp [S5, c9, h0.len, hs1]

theorem lawMailSelects : ∀ vs : List AV, vs.length = Try.f5.params.size → (∀ (j : Nat) t v, Try.f5.params[j]? = some t → vs[j]? = some v → ∃ n, Ty Try.prog n t v) → ∃ n, answer env n 5 vs = some (.bool true) := by
  intro vs hl h
  have hp : Try.f5.params = #[32, 32] := by kernel_rfl
  rw [hp] at hl h
  match vs, hl with
  | [v, w], _ =>
    obtain ⟨n, h1⟩ := h 0 32 v rfl rfl
    obtain ⟨m, h2⟩ := h 1 32 w rfl rfl
    obtain ⟨l, hl, hl2, _⟩ := h1.ints (k := .u8) (e := 5) (by kernel_rfl) (by kernel_rfl) (by kernel_rfl)
    obtain ⟨l', hl', hl2', _⟩ := h2.ints (k := .u8) (e := 5) (by kernel_rfl) (by kernel_rfl) (by kernel_rfl)
    obtain ⟨H', hd⟩ := law5 hl hl' hl2 hl2'
    exact hd.answer

end Go.Proofs.Ytmeimiflflilpaa
