/- DEN, part F: what the operations on plain values come to. -/
import Derived.Test.YtikkpecdkdgmfaaDoorDenE
import Derived.LaidEql
namespace Go.Den
open Go.RowKit

section
variable {E : Env} {C : Ctx} {p q : Bool} {w : World}

theorem V.int_inv {u : Value} {k : IntKind} {n : Int} (h : V C p (.int k n) u) : u = .int k n := by cases h; rfl
theorem V.bool_inv {u : Value} {b : Bool} (h : V C p (.bool b) u) : u = .bool b := by cases h; rfl
theorem V.str_inv {u : Value} {l : List UInt8} (h : V C p (.str l) u) : ∃ s : ByteArray, s.data.toList = l ∧ u = .string s := by
  generalize e : AV.str l = v at h
  cases h <;> first | (injection e with e; exact ⟨_, e.symm, rfl⟩) | (exact absurd e (by simp))
theorem V.agg_inv {u : Value} {cs : List AV} (h : V C p (.agg cs) u) : ∃ us : Array Value, u = .agg us ∧ Vs C p cs us.toList := by
  cases h with | agg _ _ us h0 h => exact ⟨us, rfl, h⟩

theorem bin_int {op : BinOp} {k k' : IntKind} {a b : Int} {v : AV} (t : TypeId) (hk : k = k' ∨ op = .shl ∨ op = .shr) (h : A.binInt op k a b = some v) :
    (binOp op t (.int k a) (.int k' b)).run E.P w = .ok (match v with | .int j n => .int j n | .bool b => .bool b | _ => undef) w ∧ V C true v (match v with | .int j n => .int j n | .bool b => .bool b | _ => undef) := by
  cases op <;> simp only [A.binInt, A.bits] at h
  all_goals first
    | (rcases hk with rfl | hk | hk)
    | skip
  all_goals first
    | (simp at hk; done)
    | skip
  all_goals (try (split at h <;> first | (simp at h; done) | skip))
  all_goals (simp only [Option.some.injEq, Option.map_some] at h; subst h)
  all_goals refine ⟨?_, by first | exact .int _ _ _ | exact .bool _ _⟩
  all_goals simp [binOp, Op.intArith, Op.intDiv, Op.intBits, Op.intCmp, Op.shift, *]

theorem bin_int' {op : BinOp} {k k' : IntKind} {a b : Int} {v : AV} (E : Env) (C : Ctx) (w : World) (t : TypeId) (hk : k = k' ∨ op = .shl ∨ op = .shr) (h : A.binInt op k a b = some v) :
    ∃ u, (binOp op t (.int k a) (.int k' b)).run E.P w = .ok u w ∧ V C true v u :=
  ⟨_, bin_int (E := E) (C := C) (w := w) t hk h⟩

theorem bin_str {op : BinOp} {s s' : ByteArray} {v : AV} (t : TypeId) (h : A.binStr op s.data.toList s'.data.toList = some v) :
    ∃ u, (binOp op t (.string s) (.string s')).run E.P w = .ok u w ∧ V C true v u := by
  cases op <;> simp only [A.binStr] at h
  case add =>
    split at h
    · rename_i hl
      simp only [Option.some.injEq] at h
      subst h
      refine ⟨.string (s ++ s'), ?_, ?_⟩
      · simp only [binOp, Op.stringOp]
        have h1 : ¬ (((s.size + s'.size : Nat) : Int) > IntKind.i64.max) := by
          have e1 : s.size = s.data.toList.length := by rw [Array.length_toList]; rfl
          have e2 : s'.size = s'.data.toList.length := by rw [Array.length_toList]; rfl
          rw [e1, e2]
          have : IntKind.i64.max = 9223372036854775807 := by decide
          rw [this]
          omega
        rw [if_neg h1]
        rfl
      · have : s.data.toList ++ s'.data.toList = (s ++ s').data.toList := by simp
        rw [this]
        exact .str _ _
    · simp at h
  all_goals first
    | (simp only [Option.some.injEq] at h; subst h; refine ⟨.bool _, ?_, .bool _ _⟩; simp [binOp, Op.stringOp, ByteArray.toList_eq]; done)
    | (exact absurd h (by simp))

theorem eqFlat_ok {P : Program} {t : TypeId} {x y : AV} {u1 u2 : Value} {b : Bool} (d : Nat) (h : A.eqFlat (P.underlying t) x y = some b) (hx : V C p x u1) (hy : V C q y u2) : (Op.equalIn (d + 1) t u1 u2).run P w = .ok b w := by
  unfold A.eqFlat at h
  split at h
  · rename_i j k a k' b' hd
    have e1 := hx.int_inv
    have e2 := hy.int_inv
    subst e1 e2
    by_cases hk : k = k'
    · subst hk
      simp at h
      subst h
      exact run_equalIn_int w d t k _ a b' hd
    · simp [hk] at h
  · rename_i a b' hd
    obtain ⟨s, rfl, rfl⟩ := hx.str_inv
    obtain ⟨s', rfl, rfl⟩ := hy.str_inv
    simp only [Option.some.injEq] at h
    subst h
    have := run_equalIn_string (P := P) w d t s s' hd
    rw [ByteArray.toList_eq, ByteArray.toList_eq] at this
    exact this
  · rename_i a b' hd
    have e1 := hx.bool_inv
    have e2 := hy.bool_inv
    subst e1 e2
    simp only [Option.some.injEq] at h
    subst h
    exact run_equalIn_bool' w d t _ _ hd
  · simp at h

theorem eqFlat_plain {P : Program} {t : TypeId} {x y : AV} {b : Bool} (h : A.eqFlat (P.underlying t) x y = some b) : (isAgg t).run P w = .ok false w := by
  unfold A.eqFlat at h
  split at h <;> first | (rename_i hd; simp [isAgg, underlying, hd]; done) | (simp at h; done)

theorem part_flat {P : Program} {t : TypeId} {us : Array Value} {off : Nat} {u : Value} (h1 : (isAgg t).run P w = .ok false w) (h2 : us[off]? = some u) : (part t us off).run P w = .ok u w := by
  simp [part, h1, h2]

theorem eqFields_ok {P : Program} (d : Nat) {xs ys : List AV} {us vs : Array Value} (hx : Vs C p xs us.toList) (hy : Vs C q ys vs.toList) : ∀ {fs : List Field} {b : Bool}, A.eqFields P fs xs ys = some b → (Op.eqFields (d + 1) us vs fs).run P w = .ok b w
  | [], b, h => by
    simp [A.eqFields] at h
    subst h
    simp [Op.eqFields]
  | f :: fs, b, h => by
    unfold A.eqFields at h
    unfold Op.eqFields
    by_cases hn : f.name = "_"
    · have hb : (f.name == "_") = true := by simp [hn]
      rw [hb] at h
      rw [if_neg (by simpa using hn)]
      exact eqFields_ok d hx hy h
    · have hb : (f.name == "_") = false := by simp [hn]
      rw [hb] at h
      rw [if_pos hn]
      dsimp only [cond_false] at h
      split at h
      · rename_i x y h1 h2
        obtain ⟨u1, g1, k1⟩ := hx.get h1
        obtain ⟨u2, g2, k2⟩ := hy.get h2
        have g1' : us[f.offset]? = some u1 := by simpa using g1
        have g2' : vs[f.offset]? = some u2 := by simpa using g2
        split at h
        · rename_i he
          have ha := eqFlat_plain (w := w) he
          simp only [Sem.run_bind, part_flat ha g1', part_flat ha g2', Result.andThen_ok, eqFlat_ok (w := w) d he k1 k2]
          simpa using eqFields_ok d hx hy h
        · rename_i he
          have ha := eqFlat_plain (w := w) he
          simp only [Sem.run_bind, part_flat ha g1', part_flat ha g2', Result.andThen_ok, eqFlat_ok (w := w) d he k1 k2]
          simp at h
          subst h
          simp
        · simp at h
      · simp at h

/-- No number, no text, no struct. -/
def Other (u : Value) : Prop :=
  match u with
  | .int _ _ | .string _ | .float _ _ | .complex _ _ _ | .agg _ => False
  | _ => True

theorem equal_of {P : Program} {t : TypeId} {u1 u2 : Value} {b : Bool} (h : ∀ d, (Op.equalIn (d + 1) t u1 u2).run P w = .ok b w) : (Op.equal t u1 u2).run P w = .ok b w := h 9999

theorem eqNil_ok {P : Program} {t : TypeId} {x y : AV} {u1 u2 : Value} {b yc : Bool} {xo yo : Operand} {op : BinOp} (hc : yc = true → ∃ c, yo = .const c) (h : A.eqNil (P.underlying t) x y yc = some b) (hx : V C p x u1) (hy : V C q y u2) :
    (eqGuard op t xo yo u1 u2).run P w = .ok () w ∧ (Op.equal t u1 u2).run P w = .ok b w ∧ Other u1 := by
  unfold A.eqNil at h
  split at h
  · rename_i e hd
    split at h
    · cases hy
      split at h
      · cases hx
        simp only [Option.some.injEq] at h
        subst h
        exact ⟨by cases op <;> rfl, equal_of fun d => by simp only [Op.equalIn, Sem.run_bind, run_underlying hd, Result.andThen_ok]; rfl, trivial⟩
      · cases hx
        simp only [Option.some.injEq] at h
        subst h
        exact ⟨by cases op <;> rfl, equal_of fun d => by simp only [Op.equalIn, Sem.run_bind, run_underlying hd, Result.andThen_ok]; rfl, trivial⟩
      · simp at h
    · simp at h
  · rename_i e hd
    split at h
    · cases hy
      split at h
      · cases hx
        simp only [Option.some.injEq] at h
        subst h
        exact ⟨by cases op <;> rfl, equal_of fun d => by simp only [Op.equalIn, Sem.run_bind, run_underlying hd, Result.andThen_ok]; rfl, trivial⟩
      · cases hx
        simp only [Option.some.injEq] at h
        subst h
        exact ⟨by cases op <;> rfl, equal_of fun d => by simp only [Op.equalIn, Sem.run_bind, run_underlying hd, Result.andThen_ok]; rfl, trivial⟩
      · simp at h
    · simp at h
  · rename_i hd
    split at h
    · cases hy
      split at h
      · cases hx
        simp only [Option.some.injEq] at h
        subst h
        exact ⟨by cases op <;> rfl, equal_of fun d => by simp only [Op.equalIn, Sem.run_bind, run_underlying hd, Result.andThen_ok]; rfl, trivial⟩
      · cases hx
        simp only [Option.some.injEq] at h
        subst h
        exact ⟨by cases op <;> rfl, equal_of fun d => by simp only [Op.equalIn, Sem.run_bind, run_underlying hd, Result.andThen_ok]; rfl, trivial⟩
      · simp at h
    · simp at h
  · rename_i hd
    split at h
    · cases hy
      split at h
      · cases hx
        simp only [Option.some.injEq] at h
        subst h
        exact ⟨by cases op <;> rfl, equal_of fun d => by simp only [Op.equalIn, Sem.run_bind, run_underlying hd, Result.andThen_ok]; rfl, trivial⟩
      · simp at h
    · simp at h
  · rename_i hd
    cases yc
    · simp at h
    · obtain ⟨c, rfl⟩ := hc rfl
      dsimp only [cond_true] at h
      split at h
      · cases hy
        split at h
        · cases hx
          simp only [Option.some.injEq] at h
          subst h
          exact ⟨by cases op <;> cases xo <;> rfl, equal_of fun d => by simp only [Op.equalIn, Sem.run_bind, run_underlying hd, Result.andThen_ok]; rfl, trivial⟩
        · cases hx
          simp only [Option.some.injEq] at h
          subst h
          exact ⟨by cases op <;> rfl, equal_of fun d => by simp only [Op.equalIn, Sem.run_bind, run_underlying hd, Result.andThen_ok]; rfl, trivial⟩
        · simp at h
      · simp at h
  · simp at h

theorem alive_row {H : Heap} {id ver : Nat} (h : A.alive H id ver = true) : ∃ sz ty es, H[id]? = some (.row ver sz ty es) := by
  unfold A.alive at h
  split at h
  · rename_i v sz ty es hr
    have : v = ver := by simpa using h
    subst this
    exact ⟨sz, ty, es, hr⟩
  · simp at h

theorem eqNilH_ok {P : Program} {t : TypeId} {x y : AV} {u1 u2 : Value} {b : Bool} {xo yo : Operand} {op : BinOp} (h : A.eqNilH (P.underlying t) x y C.H = some b) (hx : V C p x u1) (hy : V C q y u2) :
    (eqGuard op t xo yo u1 u2).run P w = .ok () w ∧ (Op.equal t u1 u2).run P w = .ok b w ∧ Other u1 := by
  unfold A.eqNilH at h
  split at h
  · rename_i e hd
    split at h
    · cases hy
      split at h
      · rename_i id ver i off
        cases hx with
        | ptr _ _ _ _ _ h0 h1 =>
          cases ha : A.alive C.H id ver
          · rw [ha] at h; simp at h
          · rw [ha] at h
            simp only [cond_true, Option.some.injEq] at h
            subst h
            obtain ⟨sz, ty, es, hr⟩ := alive_row ha
            have := (h1.2 ver sz ty es hr).2 rfl
            subst this
            exact ⟨by cases op <;> rfl, equal_of fun d => by simp only [Op.equalIn, Sem.run_bind, run_underlying hd, Result.andThen_ok]; rfl, trivial⟩
      · simp at h
    · simp at h
  · rename_i e hd
    split at h
    · cases hy
      split at h
      · rename_i id ver off n cap
        cases hx with
        | sl _ _ _ _ _ _ h0 h1 =>
          cases ha : A.alive C.H id ver
          · rw [ha] at h; simp at h
          · rw [ha] at h
            simp only [cond_true, Option.some.injEq] at h
            subst h
            obtain ⟨sz, ty, es, hr⟩ := alive_row ha
            obtain ⟨a, c, hu, _⟩ := (h1.2 ver sz ty es hr).2 rfl
            subst hu
            exact ⟨by cases op <;> rfl, equal_of fun d => by simp only [Op.equalIn, Sem.run_bind, run_underlying hd, Result.andThen_ok]; rfl, trivial⟩
      · simp at h
    · simp at h
  · rename_i ke e hd
    split at h
    · cases hy
      split at h
      · rename_i id
        cases hx with
        | mp _ _ h0 h1 =>
          split at h
          · rename_i k e' es hm
            simp only [Option.some.injEq] at h
            subst h
            have := h1.2 k e' es hm
            subst this
            exact ⟨by cases op <;> rfl, equal_of fun d => by simp only [Op.equalIn, Sem.run_bind, run_underlying hd, Result.andThen_ok]; rfl, trivial⟩
          · simp at h
      · simp at h
    · simp at h
  · simp at h

theorem eqPtr_ok {t : TypeId} {x y : AV} {u1 u2 : Value} {b : Bool} {xo yo : Operand} {op : BinOp} (h : A.eqPtr E.P (E.P.underlying t) x y C.H = some b) (hx : V C p x u1) (hy : V C q y u2) :
    (eqGuard op t xo yo u1 u2).run E.P w = .ok () w ∧ (Op.equal t u1 u2).run E.P w = .ok b w ∧ Other u1 := by
  unfold A.eqPtr at h
  split at h
  · rename_i e hd
    split at h
    · rename_i id ver i off
      split at h
      · rename_i id' ver' i' off'
        cases hc : (A.alive C.H id ver && (E.P.info? e).isSome && Nat.beq id id' && Nat.beq ver ver' && Nat.beq i i' && Nat.beq off off')
        · rw [hc] at h; simp at h
        · rw [hc] at h
          simp only [cond_true, Option.some.injEq] at h
          subst h
          simp only [Bool.and_eq_true, Nat.beq_eq] at hc
          obtain ⟨⟨⟨⟨⟨ha, hi⟩, rfl⟩, rfl⟩, rfl⟩, rfl⟩ := hc
          cases hx with
          | ptr _ _ _ _ _ h0 h1 =>
            cases hy with
            | ptr _ _ _ _ _ h2 h3 =>
              obtain ⟨sz, ty, es, hr⟩ := alive_row ha
              have e1 := (h1.2 ver sz ty es hr).2 rfl
              have e2 := (h3.2 ver sz ty es hr).2 rfl
              subst e1 e2
              obtain ⟨j, hj⟩ := Option.isSome_iff_exists.1 hi
              exact ⟨by cases op <;> rfl, equal_of fun d => by simp [Op.equalIn, run_underlying hd, sizeOf, typeInfo, hj, run_sameAddr_same], trivial⟩
      · simp at h
    · simp at h
  · simp at h

/-- '==', '!=' of what is no number, no text, no struct. -/
theorem binOp_other {P : Program} {t : TypeId} {u1 u2 : Value} {b : Bool} (h1 : (Op.equal t u1 u2).run P w = .ok b w) (ho : Other u1) :
    (binOp .eql t u1 u2).run P w = .ok (.bool b) w ∧ (binOp .neq t u1 u2).run P w = .ok (.bool !b) w := by
  constructor
  · have : binOp .eql t u1 u2 = (do pure (.bool (← Op.equal t u1 u2)) : Sem Value) := by
      cases u1 <;> first | rfl | exact ho.elim
    rw [this]
    simp [h1]
  · have : binOp .neq t u1 u2 = (do pure (.bool (!(← Op.equal t u1 u2))) : Sem Value) := by
      cases u1 <;> first | rfl | exact ho.elim
    rw [this]
    simp [h1]

theorem run_guarded {P : Program} {op : BinOp} {t : TypeId} {xo yo : Operand} {u1 u2 u : Value} (h1 : (eqGuard op t xo yo u1 u2).run P w = .ok () w) (h2 : (binOp op t u1 u2).run P w = .ok u w) :
    (do eqGuard op t xo yo u1 u2; binOp op t u1 u2 : Sem Value).run P w = .ok u w := by simp [h1, h2]

theorem bin_ok {op : BinOp} {t : TypeId} {x y v : AV} {u1 u2 : Value} {yc : Bool} {xo yo : Operand} (hc : yc = true → ∃ c, yo = .const c) (h : A.bin E.P op t x y yc C.H = some v) (hx : V C p x u1) (hy : V C q y u2) :
    ∃ u, (do eqGuard op t xo yo u1 u2; binOp op t u1 u2 : Sem Value).run E.P w = .ok u w ∧ V C true v u := by
  unfold A.bin at h
  split at h
  · rename_i k a k' b
    have e1 := hx.int_inv
    have e2 := hy.int_inv
    subst e1 e2
    have hg : (eqGuard op t xo yo (.int k a) (.int k' b)).run E.P w = .ok () w := by rw [eqGuard_at_int]; rfl
    split at h
    · obtain ⟨u, g1, g2⟩ := bin_int' (k' := k') E C w t (.inr (.inl rfl)) h
      exact ⟨u, run_guarded hg g1, g2⟩
    · obtain ⟨u, g1, g2⟩ := bin_int' (k' := k') E C w t (.inr (.inr rfl)) h
      exact ⟨u, run_guarded hg g1, g2⟩
    · by_cases hk : k = k'
      · have hd : decide (k = k') = true := by simpa using hk
        rw [hd] at h
        obtain ⟨u, g1, g2⟩ := bin_int' (k' := k') E C w t (.inl hk) h
        exact ⟨u, run_guarded hg g1, g2⟩
      · have hd : decide (k = k') = false := by simpa using hk
        rw [hd] at h
        simp at h
  · obtain ⟨s, rfl, rfl⟩ := hx.str_inv
    obtain ⟨s', rfl, rfl⟩ := hy.str_inv
    obtain ⟨u, h1, h2⟩ := bin_str (E := E) (C := C) (w := w) t h
    exact ⟨u, run_guarded (by rw [eqGuard_at_string]; rfl) h1, h2⟩
  · rename_i a b
    have e1 := hx.bool_inv
    have e2 := hy.bool_inv
    subst e1 e2
    split at h
    · rename_i hd
      have hq : (Op.equal t (.bool a) (.bool b)).run E.P w = .ok (a == b) w := equal_of fun d => run_equalIn_bool' w d t a b hd
      have ho := binOp_other hq trivial
      split at h
      · simp only [Option.some.injEq] at h
        subst h
        exact ⟨_, run_guarded (by rw [eqGuard_at_bool]; rfl) ho.1, .bool _ _⟩
      · simp only [Option.some.injEq] at h
        subst h
        exact ⟨_, run_guarded (by rw [eqGuard_at_bool]; rfl) ho.2, .bool _ _⟩
      · simp at h
    · simp at h
  · rename_i xs ys
    obtain ⟨us, rfl, h1⟩ := hx.agg_inv
    obtain ⟨vs, rfl, h2⟩ := hy.agg_inv
    split at h
    · rename_i fs hd
      cases hst : E.P.stoodInHeld t
      · cases heg : E.P.eqGuardType E.P.depth t
        · rw [hst, heg] at h
          simp only [Bool.or_false, cond_false] at h
          have hff : E.P.fieldsOf t = fs := by unfold Program.fieldsOf; rw [hd]
          have hqq : ∀ {b : Bool}, A.eqFields E.P fs.toList xs ys = some b → (Op.equalIn 10000 t (.agg us) (.agg vs)).run E.P w = .ok b w := fun hb => by
            have := run_equalIn_struct (P := E.P) w 9999 t us vs (by rw [hff]; exact hd) hst
            rw [show (10000 : Nat) = 9999 + 1 from rfl, this, hff]
            exact eqFields_ok 9998 h1 h2 hb
          split at h
          · rw [Option.map_eq_some_iff] at h
            obtain ⟨b, hb, rfl⟩ := h
            exact ⟨.bool b, run_guarded (run_eqGuard_agg w _ t xo yo us vs heg) (by rw [run_eql_struct, hqq hb]; rfl), .bool _ _⟩
          · rw [Option.map_eq_some_iff] at h
            obtain ⟨b, hb, rfl⟩ := h
            exact ⟨.bool !b, run_guarded (run_eqGuard_agg w _ t xo yo us vs heg) (by rw [run_neq_struct, hqq hb]; rfl), .bool _ _⟩
          · simp at h
        · rw [hst, heg] at h; simp at h
      · rw [hst] at h; simp at h
    · simp at h
  · split at h
    · split at h
      · rename_i b hb
        simp only [Option.some.injEq] at h
        subst h
        obtain ⟨g1, g2, g3⟩ := eqNil_ok (w := w) (op := .eql) (xo := xo) hc hb hx hy
        exact ⟨_, run_guarded g1 (binOp_other g2 g3).1, .bool _ _⟩
      · rw [Option.map_eq_some_iff] at h
        obtain ⟨b, hb, rfl⟩ := h
        rcases Option.or_eq_some_iff.1 hb with hb | ⟨_, hb⟩
        · obtain ⟨g1, g2, g3⟩ := eqNilH_ok (w := w) (op := .eql) (xo := xo) (yo := yo) hb hx hy
          exact ⟨_, run_guarded g1 (binOp_other g2 g3).1, .bool _ _⟩
        · obtain ⟨g1, g2, g3⟩ := eqPtr_ok (E := E) (w := w) (op := .eql) (xo := xo) (yo := yo) hb hx hy
          exact ⟨_, run_guarded g1 (binOp_other g2 g3).1, .bool _ _⟩
    · split at h
      · rename_i b hb
        simp only [Option.some.injEq] at h
        subst h
        obtain ⟨g1, g2, g3⟩ := eqNil_ok (w := w) (op := .neq) (xo := xo) hc hb hx hy
        exact ⟨_, run_guarded g1 (binOp_other g2 g3).2, .bool _ _⟩
      · rw [Option.map_eq_some_iff] at h
        obtain ⟨b, hb, rfl⟩ := h
        rcases Option.or_eq_some_iff.1 hb with hb | ⟨_, hb⟩
        · obtain ⟨g1, g2, g3⟩ := eqNilH_ok (w := w) (op := .neq) (xo := xo) (yo := yo) hb hx hy
          exact ⟨_, run_guarded g1 (binOp_other g2 g3).2, .bool _ _⟩
        · obtain ⟨g1, g2, g3⟩ := eqPtr_ok (E := E) (w := w) (op := .neq) (xo := xo) (yo := yo) hb hx hy
          exact ⟨_, run_guarded g1 (binOp_other g2 g3).2, .bool _ _⟩
    · simp at h

theorem un_ok {op : UnOp} {x v : AV} {u1 : Value} (h : A.un op x = some v) (hx : V C p x u1) : ∃ u, (Op.unary op u1).run E.P w = .ok u w ∧ V C true v u := by
  unfold A.un at h
  split at h
  · have e1 := hx.int_inv
    subst e1
    simp only [Option.some.injEq] at h
    subst h
    exact ⟨_, rfl, .int _ _ _⟩
  · have e1 := hx.int_inv
    subst e1
    simp only [A.bits, Option.map_some, Option.some.injEq] at h
    subst h
    exact ⟨_, rfl, .int _ _ _⟩
  · have e1 := hx.bool_inv
    subst e1
    simp only [Option.some.injEq] at h
    subst h
    exact ⟨_, rfl, .bool _ _⟩
  · simp at h

end
end Go.Den
