/- DEN, part Sd: slices in the small heap. -/
import Derived.Test.YtikkpecdkdgmfaaDoorDenMa
namespace Go.Den

/-- What stood stands, but for these places. -/
structure Kept (own : List Nat) (H H' : Heap) : Prop where
  len : H.length ≤ H'.length
  same : ∀ i, i < H.length → i ∉ own → H'[i]? = H[i]?

theorem Kept.refl (own : List Nat) (H : Heap) : Kept own H H := ⟨Nat.le_refl _, fun _ _ _ => rfl⟩
theorem Kept.trans {own : List Nat} {A B C : Heap} (h : Kept own A B) (g : Kept own B C) : Kept own A C :=
  ⟨Nat.le_trans h.len g.len, fun i hi ho => (g.same i (Nat.lt_of_lt_of_le hi h.len) ho).trans (h.same i hi ho)⟩
theorem Kept.mono {own own' : List Nat} {A B : Heap} (h : Kept own A B) (hs : ∀ i ∈ own, i < A.length → i ∈ own') : Kept own' A B :=
  ⟨h.len, fun i hi ho => h.same i hi fun e => ho (hs i e hi)⟩
theorem Kept.then {own own' : List Nat} {A B C : Heap} (h : Kept own A B) (g : Kept own' B C) (hs : ∀ i ∈ own', i < A.length → i ∈ own) : Kept own A C :=
  ⟨Nat.le_trans h.len g.len, fun i hi ho => (g.same i (Nat.lt_of_lt_of_le hi h.len) fun e => ho (hs i e hi)).trans (h.same i hi ho)⟩
theorem Kept.get {own : List Nat} {H H' : Heap} (h : Kept own H H') {i : Nat} {x : HObj} (hx : H[i]? = some x) (ho : i ∉ own) : H'[i]? = some x :=
  (h.same i (lt_of_get hx) ho).trans hx
theorem Kept.app (own : List Nat) (H l : Heap) : Kept own H (H ++ l) :=
  ⟨by simp, fun i hi _ => by rw [List.getElem?_append_left hi]⟩
theorem Kept.set {own : List Nat} {H : Heap} {b : Nat} {x : HObj} (hb : b ∈ own) : Kept own H (H.set b x) :=
  ⟨by simp, fun i _ ho => get_set_ne fun e => ho (e ▸ hb)⟩

/-- A slice of elements: nil, or a piece of a row. -/
inductive Sl (H : Heap) (sz : Nat) (ty : TypeId) : AV → List AV → List Nat → Prop
  | nil : Sl H sz ty .nils [] []
  | mk (id ver off cap : Nat) (row es : List AV) : H[id]? = some (.row ver sz ty row) → off + cap ≤ row.length → es.length ≤ cap → (row.drop off).take es.length = es → Sl H sz ty (.sl id ver off es.length cap) es [id]

section
variable {H H' : Heap} {sz : Nat} {ty : TypeId} {v : AV} {es : List AV} {own : List Nat}

theorem Sl.kept (h : Sl H sz ty v es own) {o : List Nat} (hk : Kept o H H') (ho : ∀ i ∈ own, i ∉ o) : Sl H' sz ty v es own := by
  cases h with
  | nil => exact .nil
  | mk id ver off cap row es h1 h2 h3 h4 => exact .mk id ver off cap row es (hk.get h1 (ho id (by simp))) h2 h3 h4

theorem Sl.own_lt (h : Sl H sz ty v es own) : ∀ i ∈ own, i < H.length := by
  cases h with
  | nil => intro i hi; cases hi
  | mk id ver off cap row es h1 h2 h3 h4 =>
    intro i hi
    simp only [List.mem_singleton] at hi
    subst hi
    exact lt_of_get h1

theorem Sl.nils (h : Sl H sz ty .nils es own) : es = [] ∧ own = [] := by
  cases h
  exact ⟨rfl, rfl⟩

theorem Sl.not_nil (h : Sl H sz ty v es own) (hv : v ≠ .nils) {P : Program} {t e : TypeId} {c : Bool} (ht : P.underlying t = some (.slice e)) : A.bin P .eql t v .nils c H = some (.bool false) ∧ A.bin P .neq t v .nils c H = some (.bool true) := by
  cases h with
  | nil => exact absurd rfl hv
  | mk id ver off cap row es g1 g2 g3 g4 => constructor <;> simp [A.bin, ht, A.eqNil, A.eqNilH, A.alive, g1]

theorem Sl.def (h : Sl H sz ty v es own) : v.cells = [v] ∧ v.isDef = true ∧ v.one = true := by
  cases h <;> exact ⟨rfl, rfl, rfl⟩

theorem Sl.len (h : Sl H sz ty v es own) : A.len v H = some (.int .i64 es.length) := by
  cases h with
  | nil => rfl
  | mk id ver off cap row es h1 h2 h3 h4 => simp [A.len, A.alive, h1]

theorem Sl.read (h : Sl H sz ty v es own) : A.read sz v H = some es := by
  cases h with
  | nil => rfl
  | mk id ver off cap row es h1 h2 h3 h4 =>
    simp only [A.read, h1]
    rw [if_pos ⟨trivial, trivial, by omega⟩, h4]

/-- An element. -/
theorem Sl.idx (h : Sl H sz ty v es own) {k : IntKind} {i : Int} (h0 : 0 ≤ i) (h1 : i < es.length) : ∃ p, A.idx sz v (.int k i) H = some p ∧
    ∀ ag size, A.load ag size p H = (es[i.toNat]?).bind fun e => A.ofList ag size e.cells 0 := by
  cases h with
  | nil => simp at h1; omega
  | mk id ver off cap row es g1 g2 g3 g4 =>
    refine ⟨.ptr id ver (off + i.toNat) 0, ?_, fun ag size => ?_⟩
    · simp [A.idx, A.aliveZ, g1, h0, h1]
    · simp only [A.load, A.elemAt, g1, beq_self_eq_true, cond_true]
      congr 1
      conv => rhs; rw [← g4]
      rw [List.getElem?_take_of_lt (by omega), List.getElem?_drop]

theorem Sl.append (h : Sl H sz ty v es own) {bytes : Nat} (news : List AV) (hb : 0 < bytes) (hn : (es.length + news.length) * bytes ≤ 140737488355328) :
    ∃ v' H' own', A.append sz bytes ty v news H = some (v', H') ∧ Sl H' sz ty v' (es ++ news) own' ∧ Kept own H H' ∧ (∀ i ∈ own', i ∈ own ∨ H.length ≤ i) := by
  cases h with
  | nil =>
    cases news with
    | nil => exact ⟨.nils, H, [], rfl, .nil, .refl _ _, by simp⟩
    | cons x news =>
      refine ⟨.sl H.length 0 0 (x :: news).length (x :: news).length, H ++ [.row 0 sz ty (x :: news)], [H.length], ?_, ?_, .app _ _ _, by simp⟩
      · unfold A.append
        dsimp only
        rw [if_pos ⟨by simpa using hn, hb⟩]
        rfl
      · exact .mk H.length 0 0 _ (x :: news) (x :: news) get_new (by simp) (Nat.le_refl _) (by simp)
  | mk id ver off cap row es h1 h2 h3 h4 =>
    by_cases hc : es.length + news.length ≤ cap
    · refine ⟨.sl id ver off (es ++ news).length cap, H.set id (.row ver sz ty (A.splice row (off + es.length) news)), [id], ?_, ?_, .set (by simp), by simp⟩
      · simp only [A.append, h1]
        rw [if_pos ⟨trivial, trivial, trivial, by omega, h3, hn, hb⟩, if_pos hc, List.length_append]
      · refine .mk id ver off cap _ (es ++ news) (get_set_same h1) ?_ (by simpa using hc) ?_
        · simp [A.splice]
          omega
        · have e1 : (row.take (off + es.length)).length = off + es.length := by simp; omega
          have e2 : (A.splice row (off + es.length) news).drop off = es ++ news ++ row.drop (off + es.length + news.length) := by
            unfold A.splice
            rw [List.append_assoc, List.drop_append_of_le_length (by omega), List.drop_take, Nat.add_sub_cancel_left, h4, List.append_assoc]
          rw [e2, List.take_left]
    · refine ⟨.sl id (ver + 1) 0 (es ++ news).length (es ++ news).length, H.set id (.row (ver + 1) sz ty (es ++ news)), [id], ?_, ?_, .set (by simp), by simp⟩
      · simp only [A.append, h1]
        rw [if_pos ⟨trivial, trivial, trivial, by omega, h3, hn, hb⟩, if_neg hc, h4, List.length_append]
      · exact .mk id (ver + 1) 0 _ _ _ (get_set_same h1) (by simp) (Nat.le_refl _) (by rw [List.drop_zero, List.take_length])

/-- One element of a slice, read off a struct or a number. -/
theorem Sl.load1 (h : Sl H sz ty v es own) {k : IntKind} {i : Int} (h0 : 0 ≤ i) (h1 : i < es.length) {e : AV} (he : es[i.toNat]? = some e) (hc : e.cells = [e]) : ∃ p, A.idx sz v (.int k i) H = some p ∧ A.load false 1 p H = some e := by
  obtain ⟨p, g1, g2⟩ := h.idx (k := k) h0 h1
  refine ⟨p, g1, ?_⟩
  rw [g2, he]
  simp [A.ofList, hc]

end

section
variable {H : Heap} {sz : Nat} {ty : TypeId} {v : AV} {es : List AV} {own : List Nat}

/-- Nil, or a row: what is ahead of the slice, the slice, what is behind. -/
theorem Sl.inv (h : Sl H sz ty v es own) : (v = .nils ∧ es = [] ∧ own = []) ∨ ∃ id ver cap P Q, v = .sl id ver P.length es.length cap ∧ own = [id] ∧ H[id]? = some (.row ver sz ty (P ++ (es ++ Q))) ∧ es.length ≤ cap ∧ cap ≤ es.length + Q.length := by
  cases h with
  | nil => exact .inl ⟨rfl, rfl, rfl⟩
  | mk id ver off cap row es h1 h2 h3 h4 =>
    have hl : (row.take off).length = off := by simp; omega
    refine .inr ⟨id, ver, cap, row.take off, row.drop (off + es.length), by rw [hl], rfl, ?_, h3, by simp; omega⟩
    rw [h1]
    congr 2
    conv => lhs; rw [← List.take_append_drop off row]
    congr 1
    conv => lhs; rw [← List.take_append_drop es.length (row.drop off)]
    rw [h4, List.drop_drop]

theorem Sl.of {id ver off n cap : Nat} {P Q : List AV} (h : H[id]? = some (.row ver sz ty (P ++ (es ++ Q)))) (ho : off = P.length) (hn : n = es.length) (hc : es.length ≤ cap) (hq : cap ≤ es.length + Q.length) : Sl H sz ty (.sl id ver off n cap) es [id] := by
  subst ho hn
  exact .mk id ver _ cap _ es h (by simp; omega) hc (by simp)

theorem splice_at {P X Y news : List AV} : A.splice (P ++ (X ++ Y)) (P.length + X.length) news = P ++ (X ++ (news ++ Y.drop news.length)) := by
  unfold A.splice
  have e1 : P ++ (X ++ Y) = (P ++ X) ++ Y := by simp
  rw [e1, ← List.length_append, List.take_left, ← List.drop_drop, List.drop_left]
  simp

/-- What is cut off a slice. -/
theorem slice_row {id ver off n cap : Nat} {row : List AV} {k1 k2 : IntKind} {lo hi : Int} (h : H[id]? = some (.row ver sz ty row)) (h0 : 0 ≤ lo) (h1 : lo ≤ hi) (h2 : hi ≤ cap) :
    A.slice sz (.sl id ver off n cap) (some (.int k1 lo)) (some (.int k2 hi)) none H = some (.sl id ver (off + lo.toNat) (hi.toNat - lo.toNat) (cap - lo.toNat)) := by
  have e1 : (0 : Int) ≤ hi := by omega
  simp only [A.slice, A.bound, h0, e1, if_true, Option.bind_some]
  rw [if_pos ⟨by omega, by omega, Nat.le_refl _, by simp [A.aliveZ, h]⟩]
theorem slice_to {id ver off n cap : Nat} {row : List AV} {k2 : IntKind} {hi : Int} (h : H[id]? = some (.row ver sz ty row)) (h1 : 0 ≤ hi) (h2 : hi ≤ cap) :
    A.slice sz (.sl id ver off n cap) none (some (.int k2 hi)) none H = some (.sl id ver off hi.toNat cap) := by
  simp only [A.slice, A.bound, h1, if_true, Option.bind_some]
  rw [if_pos ⟨by omega, by omega, Nat.le_refl _, by simp [A.aliveZ, h]⟩]
  simp
theorem slice_from {id ver off n cap : Nat} {row : List AV} {k1 : IntKind} {lo : Int} (h : H[id]? = some (.row ver sz ty row)) (h0 : 0 ≤ lo) (h1 : lo ≤ n) (h2 : n ≤ cap) :
    A.slice sz (.sl id ver off n cap) (some (.int k1 lo)) none none H = some (.sl id ver (off + lo.toNat) (n - lo.toNat) (cap - lo.toNat)) := by
  simp only [A.slice, A.bound, h0, if_true, Option.bind_some]
  rw [if_pos ⟨by omega, by omega, Nat.le_refl _, by simp [A.aliveZ, h]⟩]
theorem slice_three {id ver off n cap : Nat} {row : List AV} {k1 k2 k3 : IntKind} {lo hi mx : Int} (h : H[id]? = some (.row ver sz ty row)) (h0 : 0 ≤ lo) (h1 : lo ≤ hi) (h2 : hi ≤ mx) (h3 : mx ≤ cap) :
    A.slice sz (.sl id ver off n cap) (some (.int k1 lo)) (some (.int k2 hi)) (some (.int k3 mx)) H = some (.sl id ver (off + lo.toNat) (hi.toNat - lo.toNat) (mx.toNat - lo.toNat)) := by
  have e1 : (0 : Int) ≤ hi := by omega
  have e2 : (0 : Int) ≤ mx := by omega
  simp only [A.slice, A.bound, h0, e1, e2, if_true, Option.bind_some]
  rw [if_pos ⟨by omega, by omega, by omega, by simp [A.aliveZ, h]⟩]
theorem len_row {id ver off n cap : Nat} {row : List AV} (h : H[id]? = some (.row ver sz ty row)) : A.len (.sl id ver off n cap) H = some (.int .i64 n) := by
  simp [A.len, A.alive, h]
theorem read_row {id ver off n cap : Nat} {row : List AV} (h : H[id]? = some (.row ver sz ty row)) (hl : off + n ≤ row.length) : A.read sz (.sl id ver off n cap) H = some ((row.drop off).take n) := by
  simp only [A.read, h]
  rw [if_pos ⟨trivial, trivial, hl⟩]
theorem append_row {id ver off n cap bytes : Nat} {row news : List AV} (h : H[id]? = some (.row ver sz ty row)) (hl : off + cap ≤ row.length) (hc : n + news.length ≤ cap) (hb : 0 < bytes) (hn : (n + news.length) * bytes ≤ 140737488355328) :
    A.append sz bytes ty (.sl id ver off n cap) news H = some (.sl id ver off (n + news.length) cap, H.set id (.row ver sz ty (A.splice row (off + n) news))) := by
  simp only [A.append, h]
  rw [if_pos ⟨trivial, trivial, trivial, by omega, by omega, hn, hb⟩, if_pos hc]
theorem clear_row {id ver off n cap : Nat} {row : List AV} {z : AV} (h : H[id]? = some (.row ver sz ty row)) (hl : off + n ≤ row.length) (hn : n ≠ 0) :
    A.clear sz z (.sl id ver off n cap) H = some (.tup [], H.set id (.row ver sz ty (A.splice row off (List.replicate n z)))) := by
  simp only [A.clear, h]
  rw [if_neg hn, if_pos ⟨trivial, trivial, hl⟩]
end

/-- What is left of a slice from a place on. -/
def cutFrom (v : AV) (i : Nat) : AV :=
  match v with
  | .sl id ver off n cap => .sl id ver (off + i) (n - i) (cap - i)
  | v => v

theorem Sl.slice_from {H : Heap} {sz : Nat} {ty : TypeId} {v : AV} {es : List AV} {own : List Nat} (h : Sl H sz ty v es own) {k : IntKind} {i : Int} (h0 : 0 ≤ i) (h1 : i ≤ es.length) :
    A.slice sz v (some (.int k i)) none none H = some (cutFrom v i.toNat) ∧ Sl H sz ty (cutFrom v i.toNat) (es.drop i.toNat) own := by
  cases h with
  | nil =>
    have : i = 0 := by simp at h1; omega
    subst this
    exact ⟨rfl, .nil⟩
  | mk id ver off cap row es g1 g2 g3 g4 =>
    refine ⟨Go.Den.slice_from g1 h0 h1 g3, ?_⟩
    have hl : (es.drop i.toNat).length = es.length - i.toNat := by simp
    have := Sl.mk (H := H) (sz := sz) (ty := ty) id ver (off + i.toNat) (cap - i.toNat) row (es.drop i.toNat) g1 (by omega) (by omega) (by
      rw [hl, ← List.drop_drop]
      conv => rhs; rw [← g4]
      rw [List.drop_take])
    rw [hl] at this
    exact this

/-- What a slice is up to a place. -/
def cutTo (v : AV) (i : Nat) : AV :=
  match v with
  | .sl id ver off _ cap => .sl id ver off i cap
  | v => v

theorem Sl.slice_to {H : Heap} {sz : Nat} {ty : TypeId} {v : AV} {es : List AV} {own : List Nat} (h : Sl H sz ty v es own) {k : IntKind} {i : Int} (h0 : 0 ≤ i) (h1 : i ≤ es.length) :
    A.slice sz v none (some (.int k i)) none H = some (cutTo v i.toNat) ∧ Sl H sz ty (cutTo v i.toNat) (es.take i.toNat) own := by
  cases h with
  | nil =>
    have : i = 0 := by simp at h1; omega
    subst this
    exact ⟨rfl, .nil⟩
  | mk id ver off cap row es g1 g2 g3 g4 =>
    refine ⟨Go.Den.slice_to g1 h0 (by omega), ?_⟩
    have hl : (es.take i.toNat).length = i.toNat := by simp; omega
    have := Sl.mk (H := H) (sz := sz) (ty := ty) id ver off cap row (es.take i.toNat) g1 g2 (by omega) (by
      rw [hl]
      conv => rhs; rw [← g4]
      rw [List.take_take, Nat.min_eq_left (by omega)])
    rw [hl] at this
    exact this

/-- A slice of memory that does not change. -/
inductive Im (sz : Nat) : AV → List AV → Prop
  | nil : Im sz .nils []
  | sh (es : List AV) : Im sz (.sh sz es) es

section
variable {H : Heap} {sz : Nat} {v : AV} {es : List AV}
theorem Im.len (h : Im sz v es) : A.len v H = some (.int .i64 es.length) := by
  cases h <;> rfl
theorem Im.read (h : Im sz v es) : A.read sz v H = some es := by
  cases h <;> simp [A.read]
theorem Im.idx (h : Im sz v es) {k : IntKind} {i : Int} (h0 : 0 ≤ i) {e : AV} (he : es[i.toNat]? = some e) : A.idx sz v (.int k i) H = some (.rop e.cells) := by
  have hl := (List.getElem?_eq_some_iff.1 he).1
  cases h with
  | nil => simp at hl
  | sh es =>
    simp only [A.idx]
    rw [if_pos ⟨h0, by omega, trivial⟩, he]
    rfl
end

/-- Whatever a slice is: its length, its elements, one cell each. -/
structure Rd (H : Heap) (v : AV) (es : List AV) : Prop where
  len : A.len v H = some (.int .i64 es.length)
  at_ : ∀ (k : IntKind) (i : Int) (e : AV), 0 ≤ i → es[i.toNat]? = some e → ∃ p, A.idx 1 v (.int k i) H = some p ∧ A.load false 1 p H = some e

theorem Sl.rd {H : Heap} {ty : TypeId} {v : AV} {es : List AV} {own : List Nat} (h : Sl H 1 ty v es own) (hc : ∀ e ∈ es, e.cells = [e]) : Rd H v es :=
  ⟨h.len, fun k i e h0 he => h.load1 h0 (by have := (List.getElem?_eq_some_iff.1 he).1; omega) he (hc e (List.mem_of_getElem? he))⟩
theorem Im.rd {H : Heap} {v : AV} {es : List AV} (h : Im 1 v es) (hc : ∀ e ∈ es, e.cells = [e]) : Rd H v es :=
  ⟨h.len, fun k i e h0 he => ⟨_, h.idx h0 he, by simp [A.load, A.ofList, hc e (List.mem_of_getElem? he)]⟩⟩

/-- A struct behind a pointer. -/
def Box (H : Heap) (b sz : Nat) (ty : TypeId) (cs : List AV) : Prop := H[b]? = some (.row 0 sz ty [.agg cs])

section
variable {H H' : Heap} {b sz : Nat} {ty : TypeId} {cs : List AV}

theorem Box.kept (h : Box H b sz ty cs) {o : List Nat} (hk : Kept o H H') (ho : b ∉ o) : Box H' b sz ty cs := hk.get h ho
theorem Box.nilCheck (h : Box H b sz ty cs) {o : Nat} : A.nilCheck (.ptr b 0 0 o) H = some (.ptr b 0 0 o) := by
  simp only [Box] at h
  simp [A.nilCheck, A.alive, h]
theorem Box.fa (h : Box H b sz ty cs) {o : Nat} : A.fa o (.ptr b 0 0 0) H = some (.ptr b 0 0 o) := by
  simp only [Box] at h
  simp [A.fa, A.alive, h]
theorem Box.load (h : Box H b sz ty cs) {o : Nat} : A.load false 1 (.ptr b 0 0 o) H = cs[o]? := by
  simp only [Box] at h
  simp [A.load, A.elemAt, h, A.ofList, AV.cells]
theorem Box.store (h : Box H b sz ty cs) {o : Nat} {v : AV} (ho : o < cs.length) (hc : v.cells = [v]) (h1 : v.one = true) (hd : v.isDef = true) : A.store 1 (.ptr b 0 0 o) v H = some (H.set b (.row 0 sz ty [.agg (cs.set o v)])) := by
  simp only [Box] at h
  have : A.fits 1 v = true := by simp [A.fits, hc, h1]
  have hs : A.splice cs o [v] = cs.set o v := by
    rw [List.set_eq_take_append_cons_drop, if_pos ho]
    simp [A.splice]
  have hle : o + v.cells.length ≤ cs.length := by rw [hc]; simp; omega
  simp only [A.store, this, cond_true, h, beq_self_eq_true, A.setElem]
  simp only [List.getElem?_cons_zero, Option.bind_some]
  rw [if_pos hle, hc, hs]
  rfl
theorem Box.stored (h : Box H b sz ty cs) {o : Nat} {v : AV} : Box (H.set b (.row 0 sz ty [.agg (cs.set o v)])) b sz ty (cs.set o v) := get_set_same h
theorem Box.not_nil (h : Box H b sz ty cs) {P : Program} {t e : TypeId} {c : Bool} (ht : P.underlying t = some (.pointer e)) : A.bin P .eql t (.ptr b 0 0 0) .nilp c H = some (.bool false) ∧ A.bin P .neq t (.ptr b 0 0 0) .nilp c H = some (.bool true) := by
  simp only [Box] at h
  constructor <;> simp [A.bin, ht, A.eqNil, A.eqNilH, A.alive, h]
end

theorem fillElems_one (e z : AV) (hc : e.cells.length = 1) (hd : e.isDef = true) : A.fillElems 1 [z] [(0, 1, e)] = some [e] := by
  simp [A.fillElems, hc, hd]

theorem newsOf_sl {E : Env} {sz : Nat} {tx e : TypeId} {x : AV} {H : Heap} (ht : E.P.underlying tx = some (.slice e)) : newsOf E sz tx x H = A.read sz x H := by
  unfold newsOf
  rw [ht]

theorem Sl.new {H : Heap} {sz : Nat} {ty : TypeId} (es : List AV) : Sl (H ++ [.row 0 sz ty es]) sz ty (.sl H.length 0 0 es.length es.length) es [H.length] :=
  .mk _ _ _ _ es es get_new (by simp) (Nat.le_refl _) (by simp)

end Go.Den
