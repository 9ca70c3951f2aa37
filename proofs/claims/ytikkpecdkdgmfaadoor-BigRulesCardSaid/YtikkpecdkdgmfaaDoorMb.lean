/- Texts put together: DenF, DenG, DenH, DenI. -/
import Derived.Test.YtikkpecdkdgmfaaDoorMa
import Derived.LaidEql
import Derived.Deep.AppendSrc
import Derived.Deep.Upon

/- DEN, part F: what the operations on plain values come to. -/
namespace Go.Den
open Go.RowKit

section
variable {E : Env} {C : Ctx} {p q : Bool} {w : World}

theorem V.int_inv {u : Value} {k : IntKind} {n : Int} (h : V C p (.int k n) u) : u = .int k n := by cases h; rfl
theorem V.bool_inv {u : Value} {b : Bool} (h : V C p (.bool b) u) : u = .bool b := by cases h; rfl
theorem V.str_inv {u : Value} {l : List UInt8} (h : V C p (.str l) u) : ∃ s : ByteArray, s.data.toList = l ∧ u = .string s := by
  generalize e : AV.str l = v at h
  cases h <;> first | (injection e with e; exact ⟨_, e.symm, rfl⟩) | (exact absurd e (by simp))
theorem V.agg_inv {u : Value} {cs : List AV} (h : V C p (.agg cs) u) : ∃ us : Array Value, u = .agg us ∧ Vs C p cs us.toList := by
  cases h with | agg _ _ us h0 h => exact ⟨us, rfl, h⟩

theorem bin_int {op : BinOp} {k k' : IntKind} {a b : Int} {v : AV} (t : TypeId) (hk : k = k' ∨ op = .shl ∨ op = .shr) (h : A.binInt op k a b = some v) :
    (binOp op t (.int k a) (.int k' b)).run E.P w = .ok (match v with | .int j n => .int j n | .bool b => .bool b | _ => undef) w ∧ V C true v (match v with | .int j n => .int j n | .bool b => .bool b | _ => undef) := by
  cases op <;> simp only [A.binInt, A.bits] at h
  all_goals first
    | (rcases hk with rfl | hk | hk)
    | skip
  all_goals first
    | (simp at hk; done)
    | skip
  all_goals (try (split at h <;> first | (simp at h; done) | skip))
  all_goals (simp only [Option.some.injEq, Option.map_some] at h; subst h)
  all_goals refine ⟨?_, by first | exact .int _ _ _ | exact .bool _ _⟩
  all_goals simp [binOp, Op.intArith, Op.intDiv, Op.intBits, Op.intCmp, Op.shift, *]

theorem bin_int' {op : BinOp} {k k' : IntKind} {a b : Int} {v : AV} (E : Env) (C : Ctx) (w : World) (t : TypeId) (hk : k = k' ∨ op = .shl ∨ op = .shr) (h : A.binInt op k a b = some v) :
    ∃ u, (binOp op t (.int k a) (.int k' b)).run E.P w = .ok u w ∧ V C true v u :=
  ⟨_, bin_int (E := E) (C := C) (w := w) t hk h⟩

theorem bin_str {op : BinOp} {s s' : ByteArray} {v : AV} (t : TypeId) (h : A.binStr op s.data.toList s'.data.toList = some v) :
    ∃ u, (binOp op t (.string s) (.string s')).run E.P w = .ok u w ∧ V C true v u := by
  cases op <;> simp only [A.binStr] at h
  case add =>
    split at h
    · rename_i hl
      simp only [Option.some.injEq] at h
      subst h
      refine ⟨.string (s ++ s'), ?_, ?_⟩
      · simp only [binOp, Op.stringOp]
        have h1 : ¬ (((s.size + s'.size : Nat) : Int) > IntKind.i64.max) := by
          have e1 : s.size = s.data.toList.length := by rw [Array.length_toList]; rfl
          have e2 : s'.size = s'.data.toList.length := by rw [Array.length_toList]; rfl
          rw [e1, e2]
          have : IntKind.i64.max = 9223372036854775807 := by decide
          rw [this]
          omega
        rw [if_neg h1]
        rfl
      · have : s.data.toList ++ s'.data.toList = (s ++ s').data.toList := by simp
        rw [this]
        exact .str _ _
    · simp at h
  all_goals first
    | (simp only [Option.some.injEq] at h; subst h; refine ⟨.bool _, ?_, .bool _ _⟩; simp [binOp, Op.stringOp, ByteArray.toList_eq]; done)
    | (exact absurd h (by simp))

theorem eqFlat_ok {P : Program} {t : TypeId} {x y : AV} {u1 u2 : Value} {b : Bool} (d : Nat) (h : A.eqFlat (P.underlying t) x y = some b) (hx : V C p x u1) (hy : V C q y u2) : (Op.equalIn (d + 1) t u1 u2).run P w = .ok b w := by
  unfold A.eqFlat at h
  split at h
  · rename_i j k a k' b' hd
    have e1 := hx.int_inv
    have e2 := hy.int_inv
    subst e1 e2
    by_cases hk : k = k'
    · subst hk
      simp at h
      subst h
      exact run_equalIn_int w d t k _ a b' hd
    · simp [hk] at h
  · rename_i a b' hd
    obtain ⟨s, rfl, rfl⟩ := hx.str_inv
    obtain ⟨s', rfl, rfl⟩ := hy.str_inv
    simp only [Option.some.injEq] at h
    subst h
    have := run_equalIn_string (P := P) w d t s s' hd
    rw [ByteArray.toList_eq, ByteArray.toList_eq] at this
    exact this
  · rename_i a b' hd
    have e1 := hx.bool_inv
    have e2 := hy.bool_inv
    subst e1 e2
    simp only [Option.some.injEq] at h
    subst h
    exact run_equalIn_bool' w d t _ _ hd
  · simp at h

theorem eqFlat_plain {P : Program} {t : TypeId} {x y : AV} {b : Bool} (h : A.eqFlat (P.underlying t) x y = some b) : (isAgg t).run P w = .ok false w := by
  unfold A.eqFlat at h
  split at h <;> first | (rename_i hd; simp [isAgg, underlying, hd]; done) | (simp at h; done)

theorem part_flat {P : Program} {t : TypeId} {us : Array Value} {off : Nat} {u : Value} (h1 : (isAgg t).run P w = .ok false w) (h2 : us[off]? = some u) : (part t us off).run P w = .ok u w := by
  simp [part, h1, h2]

theorem eqFields_ok {P : Program} (d : Nat) {xs ys : List AV} {us vs : Array Value} (hx : Vs C p xs us.toList) (hy : Vs C q ys vs.toList) : ∀ {fs : List Field} {b : Bool}, A.eqFields P fs xs ys = some b → (Op.eqFields (d + 1) us vs fs).run P w = .ok b w
  | [], b, h => by
    simp [A.eqFields] at h
    subst h
    simp [Op.eqFields]
  | f :: fs, b, h => by
    unfold A.eqFields at h
    unfold Op.eqFields
    by_cases hn : f.name = "_"
    · have hb : (f.name == "_") = true := by simp [hn]
      rw [hb] at h
      rw [if_neg (by simpa using hn)]
      exact eqFields_ok d hx hy h
    · have hb : (f.name == "_") = false := by simp [hn]
      rw [hb] at h
      rw [if_pos hn]
      dsimp only [cond_false] at h
      split at h
      · rename_i x y h1 h2
        obtain ⟨u1, g1, k1⟩ := hx.get h1
        obtain ⟨u2, g2, k2⟩ := hy.get h2
        have g1' : us[f.offset]? = some u1 := by simpa using g1
        have g2' : vs[f.offset]? = some u2 := by simpa using g2
        split at h
        · rename_i he
          have ha := eqFlat_plain (w := w) he
          simp only [Sem.run_bind, part_flat ha g1', part_flat ha g2', Result.andThen_ok, eqFlat_ok (w := w) d he k1 k2]
          simpa using eqFields_ok d hx hy h
        · rename_i he
          have ha := eqFlat_plain (w := w) he
          simp only [Sem.run_bind, part_flat ha g1', part_flat ha g2', Result.andThen_ok, eqFlat_ok (w := w) d he k1 k2]
          simp at h
          subst h
          simp
        · simp at h
      · simp at h

/-- No number, no text, no struct. -/
def Other (u : Value) : Prop :=
  match u with
  | .int _ _ | .string _ | .float _ _ | .complex _ _ _ | .agg _ => False
  | _ => True

theorem equal_of {P : Program} {t : TypeId} {u1 u2 : Value} {b : Bool} (h : ∀ d, (Op.equalIn (d + 1) t u1 u2).run P w = .ok b w) : (Op.equal t u1 u2).run P w = .ok b w := h 9999

theorem eqNil_ok {P : Program} {t : TypeId} {x y : AV} {u1 u2 : Value} {b yc : Bool} {xo yo : Operand} {op : BinOp} (hc : yc = true → ∃ c, yo = .const c) (h : A.eqNil (P.underlying t) x y yc = some b) (hx : V C p x u1) (hy : V C q y u2) :
    (eqGuard op t xo yo u1 u2).run P w = .ok () w ∧ (Op.equal t u1 u2).run P w = .ok b w ∧ Other u1 := by
  unfold A.eqNil at h
  split at h
  · rename_i e hd
    split at h
    · cases hy
      split at h
      · cases hx
        simp only [Option.some.injEq] at h
        subst h
        exact ⟨by cases op <;> rfl, equal_of fun d => by simp only [Op.equalIn, Sem.run_bind, run_underlying hd, Result.andThen_ok]; rfl, trivial⟩
      · cases hx
        simp only [Option.some.injEq] at h
        subst h
        exact ⟨by cases op <;> rfl, equal_of fun d => by simp only [Op.equalIn, Sem.run_bind, run_underlying hd, Result.andThen_ok]; rfl, trivial⟩
      · simp at h
    · simp at h
  · rename_i e hd
    split at h
    · cases hy
      split at h
      · cases hx
        simp only [Option.some.injEq] at h
        subst h
        exact ⟨by cases op <;> rfl, equal_of fun d => by simp only [Op.equalIn, Sem.run_bind, run_underlying hd, Result.andThen_ok]; rfl, trivial⟩
      · cases hx
        simp only [Option.some.injEq] at h
        subst h
        exact ⟨by cases op <;> rfl, equal_of fun d => by simp only [Op.equalIn, Sem.run_bind, run_underlying hd, Result.andThen_ok]; rfl, trivial⟩
      · simp at h
    · simp at h
  · rename_i hd
    split at h
    · cases hy
      split at h
      · cases hx
        simp only [Option.some.injEq] at h
        subst h
        exact ⟨by cases op <;> rfl, equal_of fun d => by simp only [Op.equalIn, Sem.run_bind, run_underlying hd, Result.andThen_ok]; rfl, trivial⟩
      · cases hx
        simp only [Option.some.injEq] at h
        subst h
        exact ⟨by cases op <;> rfl, equal_of fun d => by simp only [Op.equalIn, Sem.run_bind, run_underlying hd, Result.andThen_ok]; rfl, trivial⟩
      · simp at h
    · simp at h
  · rename_i hd
    split at h
    · cases hy
      split at h
      · cases hx
        simp only [Option.some.injEq] at h
        subst h
        exact ⟨by cases op <;> rfl, equal_of fun d => by simp only [Op.equalIn, Sem.run_bind, run_underlying hd, Result.andThen_ok]; rfl, trivial⟩
      · simp at h
    · simp at h
  · rename_i hd
    cases yc
    · simp at h
    · obtain ⟨c, rfl⟩ := hc rfl
      dsimp only [cond_true] at h
      split at h
      · cases hy
        split at h
        · cases hx
          simp only [Option.some.injEq] at h
          subst h
          exact ⟨by cases op <;> cases xo <;> rfl, equal_of fun d => by simp only [Op.equalIn, Sem.run_bind, run_underlying hd, Result.andThen_ok]; rfl, trivial⟩
        · cases hx
          simp only [Option.some.injEq] at h
          subst h
          exact ⟨by cases op <;> rfl, equal_of fun d => by simp only [Op.equalIn, Sem.run_bind, run_underlying hd, Result.andThen_ok]; rfl, trivial⟩
        · simp at h
      · simp at h
  · simp at h

theorem alive_row {H : Heap} {id ver : Nat} (h : A.alive H id ver = true) : ∃ sz ty es, H[id]? = some (.row ver sz ty es) := by
  unfold A.alive at h
  split at h
  · rename_i v sz ty es hr
    have : v = ver := by simpa using h
    subst this
    exact ⟨sz, ty, es, hr⟩
  · simp at h

theorem eqNilH_ok {P : Program} {t : TypeId} {x y : AV} {u1 u2 : Value} {b : Bool} {xo yo : Operand} {op : BinOp} (h : A.eqNilH (P.underlying t) x y C.H = some b) (hx : V C p x u1) (hy : V C q y u2) :
    (eqGuard op t xo yo u1 u2).run P w = .ok () w ∧ (Op.equal t u1 u2).run P w = .ok b w ∧ Other u1 := by
  unfold A.eqNilH at h
  split at h
  · rename_i e hd
    split at h
    · cases hy
      split at h
      · rename_i id ver i off
        cases hx with
        | ptr _ _ _ _ _ h0 h1 =>
          cases ha : A.alive C.H id ver
          · rw [ha] at h; simp at h
          · rw [ha] at h
            simp only [cond_true, Option.some.injEq] at h
            subst h
            obtain ⟨sz, ty, es, hr⟩ := alive_row ha
            have := (h1.2 ver sz ty es hr).2 rfl
            subst this
            exact ⟨by cases op <;> rfl, equal_of fun d => by simp only [Op.equalIn, Sem.run_bind, run_underlying hd, Result.andThen_ok]; rfl, trivial⟩
      · simp at h
    · simp at h
  · rename_i e hd
    split at h
    · cases hy
      split at h
      · rename_i id ver off n cap
        cases hx with
        | sl _ _ _ _ _ _ h0 h1 =>
          cases ha : A.alive C.H id ver
          · rw [ha] at h; simp at h
          · rw [ha] at h
            simp only [cond_true, Option.some.injEq] at h
            subst h
            obtain ⟨sz, ty, es, hr⟩ := alive_row ha
            obtain ⟨a, c, hu, _⟩ := (h1.2 ver sz ty es hr).2 rfl
            subst hu
            exact ⟨by cases op <;> rfl, equal_of fun d => by simp only [Op.equalIn, Sem.run_bind, run_underlying hd, Result.andThen_ok]; rfl, trivial⟩
      · simp at h
    · simp at h
  · rename_i ke e hd
    split at h
    · cases hy
      split at h
      · rename_i id
        cases hx with
        | mp _ _ h0 h1 =>
          split at h
          · rename_i k e' es hm
            simp only [Option.some.injEq] at h
            subst h
            have := h1.2 k e' es hm
            subst this
            exact ⟨by cases op <;> rfl, equal_of fun d => by simp only [Op.equalIn, Sem.run_bind, run_underlying hd, Result.andThen_ok]; rfl, trivial⟩
          · simp at h
      · simp at h
    · simp at h
  · simp at h

theorem eqPtr_ok {t : TypeId} {x y : AV} {u1 u2 : Value} {b : Bool} {xo yo : Operand} {op : BinOp} (h : A.eqPtr E.P (E.P.underlying t) x y C.H = some b) (hx : V C p x u1) (hy : V C q y u2) :
    (eqGuard op t xo yo u1 u2).run E.P w = .ok () w ∧ (Op.equal t u1 u2).run E.P w = .ok b w ∧ Other u1 := by
  unfold A.eqPtr at h
  split at h
  · rename_i e hd
    split at h
    · rename_i id ver i off
      split at h
      · rename_i id' ver' i' off'
        cases hc : (A.alive C.H id ver && (E.P.info? e).isSome && Nat.beq id id' && Nat.beq ver ver' && Nat.beq i i' && Nat.beq off off')
        · rw [hc] at h; simp at h
        · rw [hc] at h
          simp only [cond_true, Option.some.injEq] at h
          subst h
          simp only [Bool.and_eq_true, Nat.beq_eq] at hc
          obtain ⟨⟨⟨⟨⟨ha, hi⟩, rfl⟩, rfl⟩, rfl⟩, rfl⟩ := hc
          cases hx with
          | ptr _ _ _ _ _ h0 h1 =>
            cases hy with
            | ptr _ _ _ _ _ h2 h3 =>
              obtain ⟨sz, ty, es, hr⟩ := alive_row ha
              have e1 := (h1.2 ver sz ty es hr).2 rfl
              have e2 := (h3.2 ver sz ty es hr).2 rfl
              subst e1 e2
              obtain ⟨j, hj⟩ := Option.isSome_iff_exists.1 hi
              exact ⟨by cases op <;> rfl, equal_of fun d => by simp [Op.equalIn, run_underlying hd, sizeOf, typeInfo, hj, run_sameAddr_same], trivial⟩
      · simp at h
    · simp at h
  · simp at h

/-- '==', '!=' of what is no number, no text, no struct. -/
theorem binOp_other {P : Program} {t : TypeId} {u1 u2 : Value} {b : Bool} (h1 : (Op.equal t u1 u2).run P w = .ok b w) (ho : Other u1) :
    (binOp .eql t u1 u2).run P w = .ok (.bool b) w ∧ (binOp .neq t u1 u2).run P w = .ok (.bool !b) w := by
  constructor
  · have : binOp .eql t u1 u2 = (do pure (.bool (← Op.equal t u1 u2)) : Sem Value) := by
      cases u1 <;> first | rfl | exact ho.elim
    rw [this]
    simp [h1]
  · have : binOp .neq t u1 u2 = (do pure (.bool (!(← Op.equal t u1 u2))) : Sem Value) := by
      cases u1 <;> first | rfl | exact ho.elim
    rw [this]
    simp [h1]

theorem run_guarded {P : Program} {op : BinOp} {t : TypeId} {xo yo : Operand} {u1 u2 u : Value} (h1 : (eqGuard op t xo yo u1 u2).run P w = .ok () w) (h2 : (binOp op t u1 u2).run P w = .ok u w) :
    (do eqGuard op t xo yo u1 u2; binOp op t u1 u2 : Sem Value).run P w = .ok u w := by simp [h1, h2]

theorem bin_ok {op : BinOp} {t : TypeId} {x y v : AV} {u1 u2 : Value} {yc : Bool} {xo yo : Operand} (hc : yc = true → ∃ c, yo = .const c) (h : A.bin E.P op t x y yc C.H = some v) (hx : V C p x u1) (hy : V C q y u2) :
    ∃ u, (do eqGuard op t xo yo u1 u2; binOp op t u1 u2 : Sem Value).run E.P w = .ok u w ∧ V C true v u := by
  unfold A.bin at h
  split at h
  · rename_i k a k' b
    have e1 := hx.int_inv
    have e2 := hy.int_inv
    subst e1 e2
    have hg : (eqGuard op t xo yo (.int k a) (.int k' b)).run E.P w = .ok () w := by rw [eqGuard_at_int]; rfl
    split at h
    · obtain ⟨u, g1, g2⟩ := bin_int' (k' := k') E C w t (.inr (.inl rfl)) h
      exact ⟨u, run_guarded hg g1, g2⟩
    · obtain ⟨u, g1, g2⟩ := bin_int' (k' := k') E C w t (.inr (.inr rfl)) h
      exact ⟨u, run_guarded hg g1, g2⟩
    · by_cases hk : k = k'
      · have hd : decide (k = k') = true := by simpa using hk
        rw [hd] at h
        obtain ⟨u, g1, g2⟩ := bin_int' (k' := k') E C w t (.inl hk) h
        exact ⟨u, run_guarded hg g1, g2⟩
      · have hd : decide (k = k') = false := by simpa using hk
        rw [hd] at h
        simp at h
  · obtain ⟨s, rfl, rfl⟩ := hx.str_inv
    obtain ⟨s', rfl, rfl⟩ := hy.str_inv
    obtain ⟨u, h1, h2⟩ := bin_str (E := E) (C := C) (w := w) t h
    exact ⟨u, run_guarded (by rw [eqGuard_at_string]; rfl) h1, h2⟩
  · rename_i a b
    have e1 := hx.bool_inv
    have e2 := hy.bool_inv
    subst e1 e2
    split at h
    · rename_i hd
      have hq : (Op.equal t (.bool a) (.bool b)).run E.P w = .ok (a == b) w := equal_of fun d => run_equalIn_bool' w d t a b hd
      have ho := binOp_other hq trivial
      split at h
      · simp only [Option.some.injEq] at h
        subst h
        exact ⟨_, run_guarded (by rw [eqGuard_at_bool]; rfl) ho.1, .bool _ _⟩
      · simp only [Option.some.injEq] at h
        subst h
        exact ⟨_, run_guarded (by rw [eqGuard_at_bool]; rfl) ho.2, .bool _ _⟩
      · simp at h
    · simp at h
  · rename_i xs ys
    obtain ⟨us, rfl, h1⟩ := hx.agg_inv
    obtain ⟨vs, rfl, h2⟩ := hy.agg_inv
    split at h
    · rename_i fs hd
      cases hst : E.P.stoodInHeld t
      · cases heg : E.P.eqGuardType E.P.depth t
        · rw [hst, heg] at h
          simp only [Bool.or_false, cond_false] at h
          have hff : E.P.fieldsOf t = fs := by unfold Program.fieldsOf; rw [hd]
          have hqq : ∀ {b : Bool}, A.eqFields E.P fs.toList xs ys = some b → (Op.equalIn 10000 t (.agg us) (.agg vs)).run E.P w = .ok b w := fun hb => by
            have := run_equalIn_struct (P := E.P) w 9999 t us vs (by rw [hff]; exact hd) hst
            rw [show (10000 : Nat) = 9999 + 1 from rfl, this, hff]
            exact eqFields_ok 9998 h1 h2 hb
          split at h
          · rw [Option.map_eq_some_iff] at h
            obtain ⟨b, hb, rfl⟩ := h
            exact ⟨.bool b, run_guarded (run_eqGuard_agg w _ t xo yo us vs heg) (by rw [run_eql_struct, hqq hb]; rfl), .bool _ _⟩
          · rw [Option.map_eq_some_iff] at h
            obtain ⟨b, hb, rfl⟩ := h
            exact ⟨.bool !b, run_guarded (run_eqGuard_agg w _ t xo yo us vs heg) (by rw [run_neq_struct, hqq hb]; rfl), .bool _ _⟩
          · simp at h
        · rw [hst, heg] at h; simp at h
      · rw [hst] at h; simp at h
    · simp at h
  · split at h
    · split at h
      · rename_i b hb
        simp only [Option.some.injEq] at h
        subst h
        obtain ⟨g1, g2, g3⟩ := eqNil_ok (w := w) (op := .eql) (xo := xo) hc hb hx hy
        exact ⟨_, run_guarded g1 (binOp_other g2 g3).1, .bool _ _⟩
      · rw [Option.map_eq_some_iff] at h
        obtain ⟨b, hb, rfl⟩ := h
        rcases Option.or_eq_some_iff.1 hb with hb | ⟨_, hb⟩
        · obtain ⟨g1, g2, g3⟩ := eqNilH_ok (w := w) (op := .eql) (xo := xo) (yo := yo) hb hx hy
          exact ⟨_, run_guarded g1 (binOp_other g2 g3).1, .bool _ _⟩
        · obtain ⟨g1, g2, g3⟩ := eqPtr_ok (E := E) (w := w) (op := .eql) (xo := xo) (yo := yo) hb hx hy
          exact ⟨_, run_guarded g1 (binOp_other g2 g3).1, .bool _ _⟩
    · split at h
      · rename_i b hb
        simp only [Option.some.injEq] at h
        subst h
        obtain ⟨g1, g2, g3⟩ := eqNil_ok (w := w) (op := .neq) (xo := xo) hc hb hx hy
        exact ⟨_, run_guarded g1 (binOp_other g2 g3).2, .bool _ _⟩
      · rw [Option.map_eq_some_iff] at h
        obtain ⟨b, hb, rfl⟩ := h
        rcases Option.or_eq_some_iff.1 hb with hb | ⟨_, hb⟩
        · obtain ⟨g1, g2, g3⟩ := eqNilH_ok (w := w) (op := .neq) (xo := xo) (yo := yo) hb hx hy
          exact ⟨_, run_guarded g1 (binOp_other g2 g3).2, .bool _ _⟩
        · obtain ⟨g1, g2, g3⟩ := eqPtr_ok (E := E) (w := w) (op := .neq) (xo := xo) (yo := yo) hb hx hy
          exact ⟨_, run_guarded g1 (binOp_other g2 g3).2, .bool _ _⟩
    · simp at h

theorem un_ok {op : UnOp} {x v : AV} {u1 : Value} (h : A.un op x = some v) (hx : V C p x u1) : ∃ u, (Op.unary op u1).run E.P w = .ok u w ∧ V C true v u := by
  unfold A.un at h
  split at h
  · have e1 := hx.int_inv
    subst e1
    simp only [Option.some.injEq] at h
    subst h
    exact ⟨_, rfl, .int _ _ _⟩
  · have e1 := hx.int_inv
    subst e1
    simp only [A.bits, Option.map_some, Option.some.injEq] at h
    subst h
    exact ⟨_, rfl, .int _ _ _⟩
  · have e1 := hx.bool_inv
    subst e1
    simp only [Option.some.injEq] at h
    subst h
    exact ⟨_, rfl, .bool _ _⟩
  · simp at h

end
end Go.Den

/- DEN, part G: how the small heap and memory go together where memory is read, written, made. -/
namespace Go.Den
open Go.RowKit

/-! ### cells set one by one -/
theorem setCells_other (b : Nat) : ∀ (vs : List Value) (o : Nat) (w : World) (i : Nat), i ≠ b → (w.setCells b o vs).heap[i]? = w.heap[i]?
  | [], _, _, _, _ => rfl
  | v :: r, o, w, i, h => by
    rw [World.setCells, setCells_other b r _ _ _ h]
    exact Below.heap_setCell _ _ _ _ h
theorem setCells_frame (b : Nat) : ∀ (vs : List Value) (o : Nat) (w : World), (w.setCells b o vs).heap.size = w.heap.size ∧ (w.setCells b o vs).os = w.os ∧ (w.setCells b o vs).tape = w.tape ∧ (w.setCells b o vs).output = w.output
  | [], _, _ => ⟨rfl, rfl, rfl, rfl⟩
  | v :: r, o, w => by
    rw [World.setCells]
    obtain ⟨h1, h2, h3, h4⟩ := setCells_frame b r (o + 1) (w.setCell ⟨b, o, none⟩ v)
    exact ⟨h1.trans (by simp [World.setCell]), h2, h3, h4⟩
theorem setCells_heap (b : Nat) : ∀ (vs : List Value) (o : Nat) (w : World) (cur : Array Value) (ty : TypeId) (fr : Nat × Nat), w.heap[b]? = some (.cells cur ty fr) → o + vs.length ≤ cur.size →
    ∃ cur' : Array Value, (w.setCells b o vs).heap[b]? = some (.cells cur' ty fr) ∧ cur'.size = cur.size ∧ ∀ j, cur'[j]? = if o ≤ j ∧ j < o + vs.length then vs[j - o]? else cur[j]?
  | [], o, w, cur, ty, fr, h, _ => ⟨cur, h, rfl, fun j => by rw [if_neg (by simp only [List.length_nil]; omega)]⟩
  | v :: r, o, w, cur, ty, fr, h, hl => by
    simp only [List.length_cons] at hl
    have h1 : (w.setCell ⟨b, o, none⟩ v).heap[b]? = some (.cells (cur.setIfInBounds o v) ty fr) := by
      simp [World.setCell, Array.getElem?_modify, h]
    obtain ⟨cur', g1, g2, g3⟩ := setCells_heap b r (o + 1) _ _ ty fr h1 (by simp; omega)
    refine ⟨cur', g1, by simpa using g2, fun j => ?_⟩
    rw [g3 j]
    simp only [List.length_cons]
    by_cases hj : j = o
    · subst hj
      rw [if_neg (by omega), if_pos (by omega)]
      simp
      rw [Array.getElem?_setIfInBounds_self_of_lt (by omega)]
    · by_cases h2 : o + 1 ≤ j ∧ j < o + 1 + r.length
      · rw [if_pos h2, if_pos (by omega)]
        rw [show j - o = (j - (o + 1)) + 1 by omega]
        simp
      · rw [if_neg h2, if_neg (by omega)]
        exact Array.getElem?_setIfInBounds_ne (Ne.symm hj)

section
variable {E : Env} {C : Ctx} {p : Bool}

/-! ### what is read -/
theorem isAgg_run {P : Program} {t : TypeId} {w : World} {ag : Bool} (h : Env.isAgg E t = some ag) (hP : E.P = P) : (isAgg t).run P w = .ok ag w := by
  subst hP
  unfold Env.isAgg at h
  rw [Option.map_eq_some_iff] at h
  obtain ⟨d, hd, rfl⟩ := h
  simp only [isAgg, Sem.run_bind, run_underlying hd, Result.andThen_ok]
  cases d <;> rfl
theorem size_run {t : TypeId} {w : World} {sz : Nat} (h : E.size t = some sz) : (sizeOf t).run E.P w = .ok sz w := by
  unfold Env.size at h
  rw [Option.map_eq_some_iff] at h
  obtain ⟨i, hi, rfl⟩ := h
  simp [sizeOf, typeInfo, hi]
theorem size_cells {t : TypeId} {sz : Nat} (h : E.size t = some sz) : (E.P.info? t).map (·.size) = some sz := h

theorem ofList_drop {ag : Bool} {sz off : Nat} {cs : List AV} {v : AV} (h : A.ofList ag sz cs off = some v) : A.ofList ag sz (cs.drop off) 0 = some v := by
  unfold A.ofList at h ⊢
  cases ag
  · simpa using h
  · simp only [cond_true] at h ⊢
    split at h
    · rename_i hl
      rw [if_pos (by simp; omega)]
      simpa using h
    · simp at h

/-- A variable is loaded whose cells are known. -/
theorem load_cells {t : TypeId} {ag : Bool} {sz : Nat} {cs : List AV} {us : List Value} {v : AV} {a : Addr} (hag : E.isAgg t = some ag) (hsz : E.size t = some sz) (h : A.ofList ag sz cs 0 = some v) (hv : Vs C p cs us) (h1 : ∀ c ∈ cs, c.one = true)
    (hc : ∀ j u, us[j]? = some u → C.w.cell? (a.add j) = some u) : ∃ u, (loadVar t a).run E.P C.w = .ok u C.w ∧ V C p v u := by
  unfold A.ofList at h
  cases ag
  · simp only [cond_false] at h
    obtain ⟨u, g1, g2⟩ := hv.get h
    refine ⟨u, ?_, g2⟩
    have := hc 0 u g1
    rw [Addr.add_zero'] at this
    simp only [loadVar, Sem.run_bind, isAgg_run hag rfl, Result.andThen_ok, Bool.false_eq_true, if_false, run_load, this]
  · simp only [cond_true] at h
    split at h
    · rename_i hl
      simp only [Option.some.injEq, List.drop_zero] at h
      subst h
      refine ⟨.agg (us.take sz).toArray, ?_, .agg _ _ _ (fun c hc => h1 c (List.mem_of_mem_take hc)) (by simpa using hv.take sz)⟩
      have hlen : (us.take sz).length = sz := by
        rw [List.length_take, hv.length]
        omega
      have hl2 := run_loadCells_list (P := E.P) C.w a (us.take sz) (fun j u hu => hc j u (by
        rw [List.getElem?_take] at hu
        split at hu
        · exact hu
        · simp at hu))
      rw [hlen] at hl2
      simp only [loadVar, Sem.run_bind, isAgg_run hag rfl, Result.andThen_ok, if_true, size_run hsz, hl2, Sem.run_pure]
    · simp at h

theorem flat_length {z : Nat} : ∀ {es : List AV}, (∀ e ∈ es, Good z e) → (es.flatMap AV.cells).length = es.length * z
  | [], _ => by simp
  | e :: es, h => by
    rw [List.flatMap_cons, List.length_append, (h e List.mem_cons_self).1, flat_length (fun x hx => h x (List.mem_cons_of_mem _ hx)), List.length_cons, Nat.succ_mul]
    omega

/-- The cells of element i stand behind those of the elements ahead of it. -/
theorem flat_split {z : Nat} {es : List AV} {e : AV} {i : Nat} (h : ∀ e ∈ es, Good z e) (hi : es[i]? = some e) : es.flatMap AV.cells = (es.take i).flatMap AV.cells ++ (e.cells ++ (es.drop (i + 1)).flatMap AV.cells) ∧ ((es.take i).flatMap AV.cells).length = i * z := by
  have hlt : i < es.length := (List.getElem?_eq_some_iff.1 hi).1
  have he : es[i] = e := (List.getElem?_eq_some_iff.1 hi).2
  constructor
  · have h2 : es.drop i = e :: es.drop (i + 1) := by rw [List.drop_eq_getElem_cons hlt, he]
    have h3 : es = es.take i ++ e :: es.drop (i + 1) := by rw [← h2, List.take_append_drop]
    rw [← List.flatMap_cons, ← List.flatMap_append, ← h3]
  · rw [flat_length (fun x hx => h x (List.mem_of_mem_take hx)), List.length_take, Nat.min_eq_left (by omega)]

theorem elem_cells {z : Nat} {es : List AV} {e : AV} {i : Nat} {us : List Value} (h : ∀ e ∈ es, Good z e) (hi : es[i]? = some e) (hv : Vs C p (es.flatMap AV.cells) us) : Vs C p e.cells ((us.drop (i * z)).take z) := by
  obtain ⟨h1, h2⟩ := flat_split h hi
  rw [h1] at hv
  have g := hv.split.2
  rw [h2] at g
  have g2 := g.split.1
  rw [(h e (List.mem_of_getElem? hi)).1] at g2
  exact g2

theorem add_add (a : Addr) (i j : Nat) : (a.add i).add j = a.add (i + j) := by
  unfold Addr.add
  by_cases hi : i = 0
  · subst hi; simp
  · by_cases hj : j = 0
    · subst hj; simp
    · rw [if_neg hi, if_neg hj, if_neg (by omega)]
      simp [Nat.add_assoc]

/-- What stands in an object's element. -/
theorem row_elem (hr : HR E C) {id ver i : Nat} {e : AV} (h : A.elemAt C.H id ver i = some e) : ∃ sz ty es us, C.H[id]? = some (.row ver sz ty es) ∧ es[i]? = some e ∧ Good sz e ∧ Vs C false e.cells us ∧
    ∀ j u, us[j]? = some u → C.w.cell? ⟨(C.ρ id).1, (C.ρ id).2 + (i * sz + j), none⟩ = some u := by
  unfold A.elemAt at h
  split at h
  · rename_i v sz ty es hrow
    cases hb : (v == ver)
    · rw [hb] at h; simp at h
    · rw [hb] at h
      have : v = ver := by simpa using hb
      subst this
      simp only [cond_true] at h
      obtain ⟨h0, hg, hk, cur, fr, us, hc, hf, hv, hcell⟩ := hr.row id v sz ty es hrow
      refine ⟨sz, ty, es, _, hrow, h, hg e (List.mem_of_getElem? h), elem_cells hg h hv, fun j u hu => ?_⟩
      rw [List.getElem?_take] at hu
      split at hu
      · rw [List.getElem?_drop] at hu
        have := hcell _ _ hu
        simp only [World.cell?, hc]
        simpa using this
      · simp at hu
  · simp at h

theorem loadH_ok (hr : HR E C) {t : TypeId} {ag : Bool} {sz : Nat} {x v : AV} {u0 : Value} (hag : E.isAgg t = some ag) (hsz : E.size t = some sz) (h : A.load ag sz x C.H = some v) (hx : V C p x u0) :
    ∃ u, (Instr.loadAt t u0).run E.P C.w = .ok u C.w ∧ V C false v u := by
  unfold A.load at h
  split at h
  · rename_i cs
    cases hx with
    | rop _ _ a us h0 h1 h2 h3 h4 =>
      obtain ⟨u, g1, g2⟩ := load_cells hag hsz h h1 h0 h2
      exact ⟨u, by simpa [Instr.loadAt, Instr.sureAddr] using g1, g2.weaken⟩
  · rename_i id ver i off
    rw [Option.bind_eq_some_iff] at h
    obtain ⟨e, he, hl⟩ := h
    obtain ⟨z, ty, es, us, h1, h2, h3, h4, h5⟩ := row_elem hr he
    cases hx with
    | ptr _ _ _ _ _ g0 g1 =>
      have := (g1.2 ver z ty es h1).2 rfl
      subst this
      obtain ⟨u, k1, k2⟩ := load_cells (a := ⟨(C.ρ id).1, (C.ρ id).2 + (i * z + off), none⟩) hag hsz (ofList_drop hl) (h4.drop off) (fun c hc => h3.2 c (List.mem_of_mem_drop hc)) (fun j u hu => by
        rw [List.getElem?_drop] at hu
        have := h5 _ _ hu
        rw [Addr.add_lit]
        rw [← this]
        congr 2
        omega)
      exact ⟨u, by simpa [Instr.loadAt, Instr.sureAddr] using k1, k2⟩
  · simp at h

end
end Go.Den

/- DEN, part H: the steps that memory takes: a row written in place, a row anew, a row that moves. -/
namespace Go.Den
open Go.RowKit

section
variable {E : Env} {C : Ctx}

/-- The worlds differ in blocks alone. -/
structure Same (w w' : World) : Prop where
  os : w'.os = w.os
  tape : w'.tape = w.tape
  output : w'.output = w.output

theorem list_get_set {α : Type} {l : List α} {i j : Nat} {x y : α} (h : (l.set i x)[j]? = some y) : (i = j ∧ x = y ∧ i < l.length) ∨ (i ≠ j ∧ l[j]? = some y) := by
  rw [List.getElem?_set] at h
  split at h
  · rename_i e
    split at h
    · simp at h; exact .inl ⟨e, h, by assumption⟩
    · simp at h
  · rename_i e
    exact .inr ⟨e, h⟩

theorem obj_ne {κ : Nat → Role} {a b i j : Nat} (h : κ a = .obj i) (g : κ b = .obj j) (hne : i ≠ j) : a ≠ b := by
  rintro rfl
  rw [h] at g
  injection g with g
  exact hne g

/-- A row is written in place, or at the same block anew. -/
theorem row_write (hr : HR E C) {id ver ver' sz : Nat} {ty : TypeId} {es es' : List AV} (hrow : C.H[id]? = some (.row ver sz ty es)) {w' : World} {base' : Nat} {cur cur' : Array Value} {fr : Nat × Nat} {us' : List Value}
    (hold : C.w.heap[(C.ρ id).1]? = some (.cells cur ty fr)) (hs : Same C.w w') (hsize : w'.heap.size = C.w.heap.size) (hoth : ∀ i, i ≠ (C.ρ id).1 → w'.heap[i]? = C.w.heap[i]?)
    (hnow : w'.heap[(C.ρ id).1]? = some (.cells cur' ty fr)) (hcs : cur'.size = cur.size) (hfz : ∀ j, j < cur.size → ¬ (fr.1 ≤ j ∧ j < fr.2))
    (hal : base' % sz = 0) (hver : (ver' = ver ∧ base' = (C.ρ id).2) ∨ ver < ver') (hgood : ∀ e ∈ es', Good sz e) (hv : Vs C false (es'.flatMap AV.cells) us') (hcell : ∀ j u, us'[j]? = some u → cur'[base' + j]? = some u) :
    HR E { w := w', κ := C.κ, ρ := fun i => if i = id then ((C.ρ id).1, base') else C.ρ i, H := C.H.set id (.row ver' sz ty es') } ∧
    EvL C { w := w', κ := C.κ, ρ := fun i => if i = id then ((C.ρ id).1, base') else C.ρ i, H := C.H.set id (.row ver' sz ty es') } := by
  have hid : id < C.H.length := (List.getElem?_eq_some_iff.1 hrow).1
  obtain ⟨hz, _, hk, _⟩ := hr.row id ver sz ty es hrow
  have ev : Ev C { w := w', κ := C.κ, ρ := fun i => if i = id then ((C.ρ id).1, base') else C.ρ i, H := C.H.set id (.row ver' sz ty es') } := by
    refine ⟨hs.os, hs.tape, hs.output, Nat.le_of_eq hsize.symm, fun b hb hro => ⟨hoth b ?_, rfl⟩, by simp, ?_, ?_, ?_⟩
    · rintro rfl
      rw [hk] at hro
      rcases hro with h | h <;> cases h
    · intro i hi v1 sz1 ty1 es1 h1
      rcases list_get_set h1 with ⟨rfl, hx, _⟩ | ⟨hne, h2⟩
      · injection hx with e1 e2 e3 e4
        subst e1 e2 e3 e4
        refine ⟨ver, es, hrow, by omega, fun e => ?_⟩
        rcases hver with ⟨_, hb⟩ | hlt
        · refine ⟨by simp [hb], fun cells t f hc => ?_⟩
          have hc' : w'.heap[(C.ρ id).1]? = some (.cells cells t f) := hc
          rw [hnow] at hc'
          injection hc' with hc'
          injection hc' with c1 c2 c3
          exact ⟨cur, ty, fr, hold, by rw [← c1, hcs]⟩
        · omega
      · refine ⟨v1, es1, h2, Nat.le_refl _, fun _ => ⟨by simp [Ne.symm hne], fun cells t f hc => ?_⟩⟩
        obtain ⟨_, _, hk1, _⟩ := hr.row i v1 sz1 ty1 es1 h2
        have : w'.heap[(C.ρ i).1]? = C.w.heap[(C.ρ i).1]? := hoth _ (obj_ne hk1 hk (Ne.symm hne))
        exact ⟨cells, t, f, this ▸ hc, rfl⟩
    · intro i hi l pos h1
      rcases list_get_set h1 with ⟨rfl, hx, _⟩ | ⟨hne, h2⟩
      · cases hx
      · exact ⟨⟨l, pos, h2⟩, by simp [Ne.symm hne]⟩
    · intro i hi k e es1 h1
      rcases list_get_set h1 with ⟨rfl, hx, _⟩ | ⟨hne, h2⟩
      · cases hx
      · exact ⟨⟨k, e, es1, h2⟩, by simp [Ne.symm hne]⟩
  refine ⟨hr.step ev ?_ ?_ (fun b hb => hr.new b (by rw [← hsize]; exact hb)), ev, fun b hb s hl => ⟨hoth b ?_, hl⟩⟩
  · intro i v1 sz1 ty1 es1 h1
    rcases list_get_set h1 with ⟨rfl, hx, _⟩ | ⟨hne, h2⟩
    · injection hx with e1 e2 e3 e4
      subst e1 e2 e3 e4
      refine .inr ⟨⟨hz, hgood, by simpa using hk, cur', fr, us', by simpa using hnow, by rw [hcs]; exact hfz, hv.ev ev, by simpa using hcell⟩, by simpa using hal⟩
    · obtain ⟨_, _, hk1, _⟩ := hr.row i v1 sz1 ty1 es1 h2
      exact .inl ⟨h2, by simp [Ne.symm hne], hk1, hoth _ (obj_ne hk1 hk (Ne.symm hne))⟩
  · intro i l pos h1
    rcases list_get_set h1 with ⟨rfl, hx, _⟩ | ⟨hne, h2⟩
    · cases hx
    · obtain ⟨hk1, _⟩ := hr.iter i l pos h2
      exact .inl ⟨h2, by simp [Ne.symm hne], hk1, hoth _ (obj_ne hk1 hk (Ne.symm hne))⟩
  · rintro rfl
    rw [hk] at hl
    cases hl

/-- The new block's role, the new object's place. -/
def Ctx.grow (C : Ctx) (w' : World) (o : HObj) : Ctx :=
  { w := w', κ := fun b => if b = C.w.heap.size then .obj C.H.length else C.κ b, ρ := fun i => if i = C.H.length then (C.w.heap.size, 0) else C.ρ i, H := C.H ++ [o] }

theorem grow_place {w' : World} {o : HObj} : (C.grow w' o).ρ C.H.length = (C.w.heap.size, 0) := by simp [Ctx.grow]

theorem get_append {α : Type} {l : List α} {x y : α} {i : Nat} (h : (l ++ [x])[i]? = some y) : l[i]? = some y ∧ i < l.length ∨ i = l.length ∧ x = y := by
  rcases Nat.lt_or_ge i l.length with hi | hi
  · rw [List.getElem?_append_left hi] at h
    exact .inl ⟨h, hi⟩
  · rw [List.getElem?_append_right hi] at h
    have : i - l.length = 0 := by
      have := (List.getElem?_eq_some_iff.1 h).1
      simpa using this
    rw [this] at h
    simp at h
    exact .inr ⟨by omega, h⟩

/-- A new block, of whatever kind, for a new object. -/
theorem grow_ev (hr : HR E C) {w' : World} {b : Obj} {o : HObj} (hs : Same C.w w') (hheap : w'.heap = C.w.heap.push b) : EvL C (C.grow w' o) := by
  have hold : ∀ i, i < C.w.heap.size → w'.heap[i]? = C.w.heap[i]? := fun i hi => by rw [hheap, Array.getElem?_push, if_neg (by omega)]
  have hne : ∀ i, i < C.w.heap.size → (C.grow w' o).κ i = C.κ i := fun i hi => by show (if i = _ then _ else _) = _; rw [if_neg (by omega)]
  refine ⟨⟨hs.os, hs.tape, hs.output, by show _ ≤ w'.heap.size; rw [hheap]; simp, fun i hi _ => ⟨hold i hi, hne i hi⟩, by show _ ≤ (C.H ++ [o]).length; simp, ?_, ?_, ?_⟩, fun i hi s hl => ⟨hold i hi, (hne i hi).trans hl⟩⟩
  · intro i hi v sz ty es h
    rcases get_append h with ⟨h1, _⟩ | ⟨rfl, _⟩
    · refine ⟨v, es, h1, Nat.le_refl _, fun _ => ⟨by show (if i = _ then _ else _) = _; rw [if_neg (by omega)], fun cells t f hc => ⟨cells, t, f, ?_, rfl⟩⟩⟩
      obtain ⟨_, _, _, cur, fr, us, hcur, _⟩ := hr.row i v sz ty es h1
      rw [← hold _ (Array.getElem?_eq_some_iff.1 hcur).1]
      exact hc
    · omega
  · intro i hi l pos h
    rcases get_append h with ⟨h1, _⟩ | ⟨rfl, _⟩
    · exact ⟨⟨l, pos, h1⟩, by show (if i = _ then _ else _) = _; rw [if_neg (by omega)]⟩
    · omega
  · intro i hi k e es h
    rcases get_append h with ⟨h1, _⟩ | ⟨rfl, _⟩
    · exact ⟨⟨k, e, es, h1⟩, by show (if i = _ then _ else _) = _; rw [if_neg (by omega)]⟩
    · omega

theorem grow_hr (hr : HR E C) {w' : World} {b : Obj} {o : HObj} (hs : Same C.w w') (hheap : w'.heap = C.w.heap.push b)
    (hrow : ∀ v sz ty es, o = .row v sz ty es → RowAt (C.grow w' o) C.H.length sz ty es) (hiter : ∀ l pos, o = .iter l pos → IterAt (C.grow w' o) C.H.length l pos) : HR E (C.grow w' o) := by
  have hold : ∀ i, i < C.w.heap.size → w'.heap[i]? = C.w.heap[i]? := fun i hi => by rw [hheap, Array.getElem?_push, if_neg (by omega)]
  have hne : ∀ i, i < C.w.heap.size → (C.grow w' o).κ i = C.κ i := fun i hi => by show (if i = _ then _ else _) = _; rw [if_neg (by omega)]
  refine hr.step (grow_ev hr hs hheap).ev ?_ ?_ ?_
  · intro i v sz ty es h
    rcases get_append h with ⟨h1, hi⟩ | ⟨rfl, e⟩
    · obtain ⟨_, _, hk, cur, fr, us, hcur, _⟩ := hr.row i v sz ty es h1
      have hlt := (Array.getElem?_eq_some_iff.1 hcur).1
      exact .inl ⟨h1, by show (if i = _ then _ else _) = _; rw [if_neg (by omega)], (hne _ hlt).trans hk, hold _ hlt⟩
    · exact .inr ⟨hrow v sz ty es e, by simp [Ctx.grow]⟩
  · intro i l pos h
    rcases get_append h with ⟨h1, hi⟩ | ⟨rfl, e⟩
    · obtain ⟨hk, s, _, hcur⟩ := hr.iter i l pos h1
      have hlt := (Array.getElem?_eq_some_iff.1 hcur).1
      exact .inl ⟨h1, by show (if i = _ then _ else _) = _; rw [if_neg (by omega)], (hne _ hlt).trans hk, hold _ hlt⟩
    · exact .inr (hiter l pos e)
  · intro i hi
    have hi' : C.w.heap.size + 1 ≤ i := by
      have : (C.grow w' o).w.heap.size = C.w.heap.size + 1 := by show w'.heap.size = _; rw [hheap]; simp
      omega
    show (if i = _ then _ else _) = _
    rw [if_neg (by omega)]
    exact hr.new i (by omega)

/-- A new row. -/
theorem row_new (hr : HR E C) {w' : World} {cells : Array Value} {sz ver : Nat} {ty : TypeId} {fr : Nat × Nat} {es : List AV} {us : List Value} (hs : Same C.w w') (hheap : w'.heap = C.w.heap.push (.cells cells ty fr))
    (hz : 0 < sz) (hgood : ∀ e ∈ es, Good sz e) (hfz : ∀ j, j < cells.size → ¬ (fr.1 ≤ j ∧ j < fr.2)) (hv : Vs C false (es.flatMap AV.cells) us) (hc : ∀ (j : Nat) (u : Value), us[j]? = some u → cells[j]? = some u) :
    HR E (C.grow w' (.row ver sz ty es)) ∧ EvL C (C.grow w' (.row ver sz ty es)) := by
  have ev := grow_ev (o := .row ver sz ty es) hr hs hheap
  refine ⟨grow_hr hr hs hheap ?_ (fun l pos h => by cases h), ev⟩
  intro v1 sz1 ty1 es1 h
  injection h with e1 e2 e3 e4
  subst e1 e2 e3 e4
  refine ⟨hz, hgood, by simp [Ctx.grow], cells, fr, us, ?_, hfz, hv.ev ev.ev, ?_⟩
  · simp [Ctx.grow, hheap]
  · simpa [Ctx.grow] using hc

/-- A row moves to a new block. -/
theorem row_move (hr : HR E C) {id ver ver' sz : Nat} {ty : TypeId} {es es' : List AV} (hrow : C.H[id]? = some (.row ver sz ty es)) (hver : ver < ver') {w' : World} {cells : Array Value} {fr : Nat × Nat} {us : List Value}
    (hs : Same C.w w') (hheap : w'.heap = C.w.heap.push (.cells cells ty fr)) (hgood : ∀ e ∈ es', Good sz e) (hfz : ∀ j, j < cells.size → ¬ (fr.1 ≤ j ∧ j < fr.2)) (hv : Vs C false (es'.flatMap AV.cells) us) (hc : ∀ (j : Nat) (u : Value), us[j]? = some u → cells[j]? = some u) :
    HR E { w := w', κ := fun b => if b = C.w.heap.size then .obj id else C.κ b, ρ := fun i => if i = id then (C.w.heap.size, 0) else C.ρ i, H := C.H.set id (.row ver' sz ty es') } ∧
    EvL C { w := w', κ := fun b => if b = C.w.heap.size then .obj id else C.κ b, ρ := fun i => if i = id then (C.w.heap.size, 0) else C.ρ i, H := C.H.set id (.row ver' sz ty es') } := by
  have hid : id < C.H.length := (List.getElem?_eq_some_iff.1 hrow).1
  obtain ⟨hz, _, hk, _⟩ := hr.row id ver sz ty es hrow
  have hold : ∀ i, i < C.w.heap.size → w'.heap[i]? = C.w.heap[i]? := fun i hi => by rw [hheap, Array.getElem?_push, if_neg (by omega)]
  have ev : Ev C { w := w', κ := fun b => if b = C.w.heap.size then .obj id else C.κ b, ρ := fun i => if i = id then (C.w.heap.size, 0) else C.ρ i, H := C.H.set id (.row ver' sz ty es') } := by
    refine ⟨hs.os, hs.tape, hs.output, by show _ ≤ w'.heap.size; rw [hheap]; simp, fun b hb _ => ⟨hold b hb, by show (if b = _ then _ else _) = _; rw [if_neg (by omega)]⟩, by simp, ?_, ?_, ?_⟩
    · intro i hi v1 sz1 ty1 es1 h1
      rcases list_get_set h1 with ⟨rfl, hx, _⟩ | ⟨hne, h2⟩
      · injection hx with e1 e2 e3 e4
        subst e1 e2 e3 e4
        exact ⟨ver, es, hrow, by omega, fun e => by omega⟩
      · refine ⟨v1, es1, h2, Nat.le_refl _, fun _ => ⟨by simp [Ne.symm hne], fun cells t f hc => ⟨cells, t, f, ?_, rfl⟩⟩⟩
        obtain ⟨_, _, _, cur, fr, us, hcur, _⟩ := hr.row i v1 sz1 ty1 es1 h2
        rw [← hold _ (Array.getElem?_eq_some_iff.1 hcur).1]
        exact hc
    · intro i hi l pos h1
      rcases list_get_set h1 with ⟨rfl, hx, _⟩ | ⟨hne, h2⟩
      · cases hx
      · exact ⟨⟨l, pos, h2⟩, by simp [Ne.symm hne]⟩
    · intro i hi k e es1 h1
      rcases list_get_set h1 with ⟨rfl, hx, _⟩ | ⟨hne, h2⟩
      · cases hx
      · exact ⟨⟨k, e, es1, h2⟩, by simp [Ne.symm hne]⟩
  refine ⟨hr.step ev ?_ ?_ ?_, ev, fun b hb s hl => ⟨hold b hb, by show (if b = _ then _ else _) = _; rw [if_neg (by omega)]; exact hl⟩⟩
  · intro i v1 sz1 ty1 es1 h1
    rcases list_get_set h1 with ⟨rfl, hx, _⟩ | ⟨hne, h2⟩
    · injection hx with e1 e2 e3 e4
      subst e1 e2 e3 e4
      exact .inr ⟨⟨hz, hgood, by simp, cells, fr, us, by simp [hheap], hfz, hv.ev ev, by simpa using hc⟩, by simp⟩
    · obtain ⟨_, _, hk1, cur, fr, us, hcur, _⟩ := hr.row i v1 sz1 ty1 es1 h2
      have hlt := (Array.getElem?_eq_some_iff.1 hcur).1
      exact .inl ⟨h2, by simp [Ne.symm hne], by show (if _ = _ then _ else _) = _; rw [if_neg (by omega)]; exact hk1, hold _ hlt⟩
  · intro i l pos h1
    rcases list_get_set h1 with ⟨rfl, hx, _⟩ | ⟨hne, h2⟩
    · cases hx
    · obtain ⟨hk1, s, _, hcur⟩ := hr.iter i l pos h2
      have hlt := (Array.getElem?_eq_some_iff.1 hcur).1
      exact .inl ⟨h2, by simp [Ne.symm hne], by show (if _ = _ then _ else _) = _; rw [if_neg (by omega)]; exact hk1, hold _ hlt⟩
  · intro i hi
    have hi' : C.w.heap.size + 1 ≤ i := by
      have : w'.heap.size = C.w.heap.size + 1 := by rw [hheap]; simp
      have : w'.heap.size ≤ i := hi
      omega
    show (if i = _ then _ else _) = _
    rw [if_neg (by omega)]
    exact hr.new i (by omega)

end
end Go.Den

/- DEN, part I: loads, stores, new variables, new rows, appends, as the machine does them. -/
namespace Go.Den
open Go.RowKit

section lists
variable {α : Type}
theorem splice_get {us ws : List α} {s : Nat} (hs : s ≤ us.length) (j : Nat) : (us.take s ++ ws ++ us.drop (s + ws.length))[j]? = if s ≤ j ∧ j < s + ws.length then ws[j - s]? else us[j]? := by
  have ht : (us.take s).length = s := by simp [hs]
  rcases Nat.lt_or_ge j s with h | h
  · rw [if_neg (by omega), List.append_assoc, List.getElem?_append_left (by omega), List.getElem?_take, if_pos h]
  · rw [List.append_assoc, List.getElem?_append_right (by omega), ht]
    rcases Nat.lt_or_ge j (s + ws.length) with h2 | h2
    · rw [if_pos ⟨h, h2⟩, List.getElem?_append_left (by omega)]
    · rw [if_neg (by omega), List.getElem?_append_right (by omega), List.getElem?_drop]
      congr 1
      omega
end lists

section
variable {E : Env} {C : Ctx} {p q : Bool}

theorem Vs.splice {cs vs : List AV} {us ws : List Value} (h : Vs C p cs us) (g : Vs C p vs ws) (s : Nat) : Vs C p (A.splice cs s vs) (us.take s ++ ws ++ us.drop (s + ws.length)) := by
  unfold A.splice
  have := g.length
  rw [this]
  exact ((h.take s).append g).append (h.drop _)

theorem splice_mem {cs vs : List AV} {s : Nat} {P : AV → Prop} (h : ∀ c ∈ cs, P c) (g : ∀ c ∈ vs, P c) : ∀ c ∈ A.splice cs s vs, P c := by
  intro c hc
  unfold A.splice at hc
  simp only [List.mem_append] at hc
  rcases hc with (hc | hc) | hc
  · exact h c (List.mem_of_mem_take hc)
  · exact g c hc
  · exact h c (List.mem_of_mem_drop hc)

theorem splice_length {cs vs : List AV} {s : Nat} (h : s + vs.length ≤ cs.length) : (A.splice cs s vs).length = cs.length := by
  unfold A.splice
  simp only [List.length_append, List.length_take, List.length_drop]
  omega

theorem setElem_good {z off : Nat} {e e' v : AV} (he : Good z e) (h : A.setElem e off v = some e') (hv : ∀ c ∈ v.cells, c.one = true) : e'.cells = A.splice e.cells off v.cells ∧ off + v.cells.length ≤ z ∧ Good z e' := by
  unfold A.setElem at h
  split at h
  · rename_i cs
    split at h
    · rename_i hl
      simp only [Option.some.injEq] at h
      subst h
      have hz : cs.length = z := he.1
      refine ⟨rfl, by omega, ?_, splice_mem he.2 hv⟩
      show (A.splice cs off v.cells).length = z
      rw [splice_length hl, hz]
    · simp at h
  · simp at h
  · simp at h
  · rename_i hn1 hn2 hn3
    split at h
    · simp at h
    · rename_i hv1
      split at h
      · rename_i h0
        simp only [Option.some.injEq] at h
        subst h
        subst h0
        have e1 : e.cells = [e] := by cases e <;> first | rfl | exact absurd rfl (hn1 _)
        have e2 : v.cells = [v] := by cases v <;> first | rfl | exact absurd rfl (hv1 _)
        have hz : z = 1 := by rw [← he.1, e1]; rfl
        subst hz
        refine ⟨by rw [e1, e2]; rfl, by rw [e2]; simp, by rw [e2]; rfl, hv⟩
      · simp at h

theorem flat_set {z : Nat} {es : List AV} {e e' : AV} {i off : Nat} {vs : List AV} (h : ∀ e ∈ es, Good z e) (hi : es[i]? = some e) (hc : e'.cells = A.splice e.cells off vs) (hl : off + vs.length ≤ z) :
    (es.set i e').flatMap AV.cells = A.splice (es.flatMap AV.cells) (i * z + off) vs := by
  obtain ⟨h1, h2⟩ := flat_split h hi
  have hlt : i < es.length := (List.getElem?_eq_some_iff.1 hi).1
  have he : e.cells.length = z := (h e (List.mem_of_getElem? hi)).1
  have h3 : es.set i e' = es.take i ++ e' :: es.drop (i + 1) := by rw [List.set_eq_take_append_cons_drop, if_pos hlt]
  rw [h3, List.flatMap_append, List.flatMap_cons, hc, h1]
  unfold A.splice
  generalize (es.take i).flatMap AV.cells = a at *
  generalize (es.drop (i + 1)).flatMap AV.cells = d at *
  generalize e.cells = m at *
  have t1 : (a ++ (m ++ d)).take (i * z + off) = a ++ m.take off := by
    rw [List.take_append, h2, show i * z + off - i * z = off by omega, List.take_of_length_le (l := a) (by omega), List.take_append, show off - m.length = 0 by omega]
    simp
  have t2 : (a ++ (m ++ d)).drop (i * z + off + vs.length) = m.drop (off + vs.length) ++ d := by
    rw [List.drop_append, h2, show i * z + off + vs.length - i * z = off + vs.length by omega, List.drop_eq_nil_of_le (by omega), List.nil_append, List.drop_append, show off + vs.length - m.length = 0 by omega]
    simp
  rw [t1, t2]
  simp [List.append_assoc]

theorem set_good {z : Nat} {es : List AV} {e' : AV} {i : Nat} (h : ∀ e ∈ es, Good z e) (g : Good z e') : ∀ e ∈ es.set i e', Good z e := by
  intro e he
  rcases List.mem_or_eq_of_mem_set he with h1 | h1
  · exact h e h1
  · subst h1; exact g

/-- Cells are written into an object's block. -/
theorem row_splice (hr : HR E C) {id ver ver' sz s : Nat} {ty : TypeId} {es es' : List AV} {vs : List AV} {ws : List Value} (hrow : C.H[id]? = some (.row ver sz ty es))
    (hflat : es'.flatMap AV.cells = A.splice (es.flatMap AV.cells) s vs) (hgood : ∀ e ∈ es', Good sz e) (hv : Vs C false vs ws) (hs : s ≤ (es.flatMap AV.cells).length)
    (hcap : ∀ cells t fr, C.w.heap[(C.ρ id).1]? = some (.cells cells t fr) → (C.ρ id).2 + s + ws.length ≤ cells.size) (h1 : ∀ v ∈ vs, v.one = true) (hver : ver ≤ ver') :
    ∃ C', (storeCells ⟨(C.ρ id).1, (C.ρ id).2 + s, none⟩ ws).run E.P C.w = .ok () C'.w ∧ C'.w = C.w.setCells (C.ρ id).1 ((C.ρ id).2 + s) ws ∧ HR E C' ∧ EvL C C' ∧ C'.H = C.H.set id (.row ver' sz ty es') ∧ C'.ρ id = C.ρ id := by
  obtain ⟨hz, hg0, hk, cur, fr, us, hcur, hfz, hus, hcell⟩ := hr.row id ver sz ty es hrow
  have hcap' := hcap cur ty fr hcur
  obtain ⟨cur', g1, g2, g3⟩ := setCells_heap (C.ρ id).1 ws ((C.ρ id).2 + s) C.w cur ty fr hcur hcap'
  obtain ⟨f1, f2, f3, f4⟩ := setCells_frame (C.ρ id).1 ws ((C.ρ id).2 + s) C.w
  have hlen : us.length = (es.flatMap AV.cells).length := hus.length
  have key := row_write hr hrow (w' := C.w.setCells (C.ρ id).1 ((C.ρ id).2 + s) ws) (ver' := ver') (base' := (C.ρ id).2) (us' := us.take s ++ ws ++ us.drop (s + ws.length)) (es' := es') hcur ⟨f2, f3, f4⟩ f1 (fun i hi => setCells_other _ _ _ _ _ hi) g1 g2 hfz (hr.al id ver sz ty es hrow)
    (by rcases Nat.lt_or_ge ver ver' with h | h
        · exact .inr h
        · exact .inl ⟨by omega, rfl⟩) hgood (by rw [hflat]; exact hus.splice hv s) (fun j u hu => by
      rw [splice_get (by omega)] at hu
      rw [g3]
      by_cases hj : s ≤ j ∧ j < s + ws.length
      · rw [if_pos hj] at hu
        rw [if_pos (by omega), show (C.ρ id).2 + j - ((C.ρ id).2 + s) = j - s by omega]
        exact hu
      · rw [if_neg hj] at hu
        rw [if_neg (by omega)]
        exact hcell j u hu)
  refine ⟨_, ?_, rfl, key.1, key.2, rfl, by simp⟩
  have := run_storeCells_cells (P := E.P) (C.ρ id).1 ((C.ρ id).2 + s) ws 0 C.w (fun j hj => by
      simp only [World.cell?, hcur, Option.isSome_none, Bool.false_eq_true, if_false, Nat.add_zero]
      rw [Array.getElem?_eq_getElem (by omega)]
      rfl) (fun j hj => by
      simp only [World.frozen?, hcur, Nat.add_zero]
      have := hfz ((C.ρ id).2 + s + j) (by omega)
      simp only [Bool.and_eq_false_iff, decide_eq_false_iff_not]
      rcases Nat.lt_or_ge ((C.ρ id).2 + s + j) fr.1 with h | h
      · exact .inl (by omega)
      · exact .inr (fun h2 => this ⟨h, h2⟩)) (hv.one h1)
  simpa using this

theorem fits_def {sz : Nat} {v : AV} (h : A.fits sz v = true) : v.isDef = true ∧ v.cells.length = sz ∧ ∀ c ∈ v.cells, c.one = true := by
  unfold A.fits at h
  simp only [Bool.and_eq_true, beq_iff_eq, List.all_eq_true] at h
  refine ⟨?_, h.1, h.2⟩
  cases v <;> first | rfl | (have := h.2 _ List.mem_cons_self; simp [AV.one] at this)

theorem storeH_ok (hr : HR E C) {t : TypeId} {sz : Nat} {x v : AV} {u0 uv : Value} {H' : Heap} (hsz : E.size t = some sz) (h : A.store sz x v C.H = some H') (hx : V C p x u0) (hv : V C q v uv) :
    ∃ C', (Instr.storeAt t u0 uv).run E.P C.w = .ok () C'.w ∧ HR E C' ∧ EvL C C' ∧ C'.H = H' := by
  unfold A.store at h
  split at h
  · rename_i id ver i off
    cases hf : A.fits sz v
    · rw [hf] at h; simp at h
    · rw [hf] at h
      simp only [cond_true] at h
      obtain ⟨hd, hl, h1⟩ := fits_def hf
      split at h
      · rename_i w z ty es hrow
        cases hb : (w == ver)
        · rw [hb] at h; simp at h
        · rw [hb] at h
          have : w = ver := by simpa using hb
          subst this
          simp only [cond_true, Option.bind_eq_some_iff, Option.map_eq_some_iff] at h
          obtain ⟨e, he, e', hse, rfl⟩ := h
          cases hx with
          | ptr _ _ _ _ _ g0 g1 =>
            have := (g1.2 w z ty es hrow).2 rfl
            subst this
            obtain ⟨hz, hg, hk, cur, fr, us, hcur, hfz, hus, hcell⟩ := hr.row id w z ty es hrow
            have hge := hg e (List.mem_of_getElem? he)
            obtain ⟨k1, k2, k3⟩ := setElem_good hge hse h1
            obtain ⟨hvc, _⟩ := hv.cells hd
            have hit : i < es.length := (List.getElem?_eq_some_iff.1 he).1
            have hfl : (es.flatMap AV.cells).length = es.length * z := flat_length hg
            have hmul : i * z + z ≤ es.length * z := by
              have := Nat.mul_le_mul_right z (show i + 1 ≤ es.length by omega)
              rwa [Nat.succ_mul] at this
            have hul : us.length = es.length * z := hus.length.trans hfl
            have hwl := hvc.length
            obtain ⟨C', c1, c2, c3, c4, c5, c6⟩ := row_splice (ver' := w) (es' := es.set i e') (s := i * z + off) (ws := uv.cells.toList) hr hrow (flat_set hg he k1 k2) (set_good hg k3) hvc.weakenB (by omega) (fun cells t' f hc => by
                rw [hcur] at hc
                injection hc with hc
                injection hc with hc _ _
                subst hc
                have hpos : 0 < es.length * z := by
                  have := Nat.mul_pos (show 0 < es.length by omega) hz
                  omega
                have hlast := hcell (es.length * z - 1) _ (List.getElem?_eq_getElem (by omega))
                have := (Array.getElem?_eq_some_iff.1 hlast).1
                omega) h1 (Nat.le_refl _)
            refine ⟨C', ?_, c3, c4, c5⟩
            have hcs : uv.cells.size = sz := by
              rw [← Array.length_toList, hwl, hl]
            simp only [Instr.storeAt, Instr.sureAddr, storeVar, Sem.run_bind, Sem.run_pure, Result.andThen_ok, size_run hsz, hcs, ne_eq, not_true_eq_false, if_false]
            exact c1
      · simp at h
  · simp at h

/-- A new variable, in the small heap. -/
theorem newBox_ok (hr : HR E C) {t : TypeId} {sz : Nat} {v : AV} {uv : Value} (hl : v.cells.length = sz) (hd : v.isDef = true) (hz : 0 < sz) (hv : V C q v uv) :
    ∃ C' u, (newVar t uv).run E.P C.w = .ok u C'.w ∧ HR E C' ∧ EvL C C' ∧ C'.H = (A.newBox sz t v C.H).2 ∧ V C' false (A.newBox sz t v C.H).1 (.pointer (some u)) := by
  obtain ⟨hvc, h1⟩ := hv.cells hd
  have key := row_new (ver := 0) (sz := sz) (ty := t) (es := [v]) (us := uv.cells.toList) (w' := C.w.alloc (.cells uv.cells t)) (cells := uv.cells) (fr := (0, 0)) hr ⟨rfl, rfl, rfl⟩ rfl hz (fun e he => by
      have : e = v := by simpa using he
      subst this
      exact ⟨hl, h1⟩) (fun j _ h => by omega) (by simpa using hvc.weakenB) (fun j u hu => by simpa using hu)
  refine ⟨_, ⟨C.w.heap.size, 0, none⟩, ?_, key.1, key.2, rfl, .ptr _ _ _ _ _ rfl ⟨by simp [Ctx.grow], fun w z ty es h => ?_⟩⟩
  · rfl
  · simp [Ctx.grow] at h ⊢

/-- What a slice's elements are, as the source of an append, of a copy. -/
theorem read_ok (hr : HR E C) {sz : Nat} {x : AV} {u0 : Value} {news : List AV} {tx e' : TypeId} (hk : E.P.underlying tx = some (.slice e')) (h : A.read sz x C.H = some news) (hx : V C p x u0) :
    ∃ ws, Src E.P sz tx u0 news.length ws C.w ∧ Vs C false (news.flatMap AV.cells) ws ∧ ∀ e ∈ news, Good sz e := by
  unfold A.read at h
  split at h
  · cases hx
    simp only [Option.some.injEq] at h
    subst h
    exact ⟨[], Src.ofNil C.w hk 0, .nil _, by simp⟩
  · rename_i z es
    split at h
    · rename_i hz
      subst hz
      simp only [Option.some.injEq] at h
      subst h
      cases hx with
      | sh _ _ _ a c us h1 h2 h3 h4 h5 h6 =>
        have hl : us.length = es.length * z := h1.length.trans (flat_length h2)
        exact ⟨us, Src.ofSlice C.w hk a es.length c us hl h3 (h1.one (fun v hv => by
          obtain ⟨e, he, hve⟩ := List.mem_flatMap.1 hv
          exact (h2 e he).2 v hve)), h1.weaken, h2⟩
    · simp at h
  · rename_i id ver off n cap
    split at h
    · rename_i w z ty es hrow
      split at h
      · rename_i hc
        obtain ⟨rfl, rfl, hle⟩ := hc
        simp only [Option.some.injEq] at h
        subst h
        obtain ⟨hz, hg, hk2, cur, fr, us, hcur, hfz, hus, hcell⟩ := hr.row id w z ty es hrow
        have hgd : ∀ e ∈ (es.drop off).take n, Good z e := fun e he => hg e (List.mem_of_mem_drop (List.mem_of_mem_take he))
        have hnl : ((es.drop off).take n).length = n := by rw [List.length_take, List.length_drop]; omega
        cases hx with
        | sl _ _ _ _ _ _ g0 g1 =>
          obtain ⟨a, c, hu, g2, g3, g4, g5, g6⟩ := (g1.2 w z ty es hrow).2 rfl
          subst hu
          have hfl : es.flatMap AV.cells = (es.take off).flatMap AV.cells ++ (((es.drop off).take n).flatMap AV.cells ++ ((es.drop off).drop n).flatMap AV.cells) := by
            rw [← List.flatMap_append, List.take_append_drop, ← List.flatMap_append, List.take_append_drop]
          have hl1 : ((es.take off).flatMap AV.cells).length = off * z := by
            rw [flat_length (fun x hx => hg x (List.mem_of_mem_take hx)), List.length_take, Nat.min_eq_left (by omega)]
          have hl2 : (((es.drop off).take n).flatMap AV.cells).length = n * z := by rw [flat_length hgd, hnl]
          have hv := hus
          rw [hfl] at hv
          have hv2 := hv.split.2.split.1
          rw [hl1, hl2] at hv2
          refine ⟨_, ?_, hv2, hgd⟩
          have hwl : ((us.drop (off * z)).take (n * z)).length = n * z := hv2.length.trans hl2
          have hone := hv2.one (fun v hv => by
            obtain ⟨e, he, hve⟩ := List.mem_flatMap.1 hv
            exact (hgd e he).2 v hve)
          rw [hnl]
          refine Src.ofSlice C.w hk a n c _ hwl (fun j u hju => ?_) hone
          have hpos : 0 < c := by
            rcases Nat.eq_zero_or_pos c with h0 | h0
            · have : n = 0 := by omega
              subst this
              simp at hju
            · exact h0
          have ha := g5 hpos
          subst ha
          rw [List.getElem?_take] at hju
          split at hju
          · rw [List.getElem?_drop] at hju
            have := hcell _ _ hju
            rw [Addr.add_lit]
            simp only [World.cell?, hcur, Option.isSome_none, Bool.false_eq_true, if_false]
            rw [show (C.ρ id).2 + off * z + j = (C.ρ id).2 + (off * z + j) by omega]
            exact this
          · simp at hju
      · simp at h
    · simp at h
  · simp at h

theorem strElems_ok {s : ByteArray} {tx : TypeId} (hk : E.P.underlying tx = some .string) : ∃ ws, Src E.P 1 tx (.string s) (A.strElems s.data.toList).length ws C.w ∧ Vs C false ((A.strElems s.data.toList).flatMap AV.cells) ws ∧ ∀ e ∈ A.strElems s.data.toList, Good 1 e := by
  have hl : (A.strElems s.data.toList).length = s.size := by
    unfold A.strElems
    rw [List.length_map, Array.length_toList]
    rfl
  refine ⟨byteCells s, by rw [hl]; exact Src.ofString C.w hk s, ?_, ?_⟩
  · unfold A.strElems byteCells
    generalize s.data.toList = l
    induction l with
    | nil => exact .nil _
    | cons b l ih => exact .cons _ _ _ _ _ (.int _ _ _) ih
  · intro e he
    obtain ⟨b, _, rfl⟩ := List.mem_map.1 he
    exact ⟨rfl, by simp [AV.cells, AV.one]⟩

theorem info_of {e : TypeId} {sz by_ : Nat} {z : AV} (hsz : E.size e = some sz) (hby : E.bytes e = some by_) (hz : E.zero e = some z) : ∃ i zv, E.P.info? e = some i ∧ i.size = sz ∧ i.bytes = by_ ∧ i.zero = some zv ∧ ofConst 3 zv = some z := by
  unfold Env.size at hsz
  unfold Env.bytes at hby
  unfold Env.zero at hz
  cases hi : E.P.info? e with
  | none => rw [hi] at hsz; simp at hsz
  | some i =>
    rw [hi] at hsz hby hz
    simp only [Option.map_some, Option.some.injEq] at hsz hby
    simp only [Option.bind_some, Option.bind_eq_some_iff] at hz
    obtain ⟨zv, h1, h2⟩ := hz
    exact ⟨i, zv, rfl, hsz, hby, h1, h2⟩

theorem list_set_same {α : Type} {l : List α} {i : Nat} {x : α} (h : l[i]? = some x) : l.set i x = l := by
  apply List.ext_getElem?
  intro j
  rw [List.getElem?_set]
  split
  · rename_i e
    subst e
    rw [if_pos (List.getElem?_eq_some_iff.1 h).1, h]
  · rfl

theorem flat_take {z : Nat} {es : List AV} (h : ∀ e ∈ es, Good z e) (k : Nat) : (es.flatMap AV.cells).take (k * z) = (es.take k).flatMap AV.cells := by
  have h1 : es.flatMap AV.cells = (es.take k).flatMap AV.cells ++ (es.drop k).flatMap AV.cells := by rw [← List.flatMap_append, List.take_append_drop]
  have h2 : ((es.take k).flatMap AV.cells).length = min k es.length * z := by rw [flat_length (fun x hx => h x (List.mem_of_mem_take hx)), List.length_take]
  rw [h1]
  rcases Nat.le_total k es.length with hk | hk
  · rw [Nat.min_eq_left hk] at h2
    rw [List.take_append, h2, Nat.sub_self, List.take_zero, List.append_nil, List.take_of_length_le (by omega)]
  · rw [List.drop_eq_nil_of_le hk, List.flatMap_nil, List.append_nil, List.take_of_length_le]
    rw [h2]
    exact Nat.mul_le_mul_right _ (Nat.min_le_left _ _)
theorem flat_drop {z : Nat} {es : List AV} (h : ∀ e ∈ es, Good z e) (k : Nat) : (es.flatMap AV.cells).drop (k * z) = (es.drop k).flatMap AV.cells := by
  have h1 : es.flatMap AV.cells = (es.take k).flatMap AV.cells ++ (es.drop k).flatMap AV.cells := by rw [← List.flatMap_append, List.take_append_drop]
  have h2 : ((es.take k).flatMap AV.cells).length = min k es.length * z := by rw [flat_length (fun x hx => h x (List.mem_of_mem_take hx)), List.length_take]
  rw [h1]
  rcases Nat.le_total k es.length with hk | hk
  · rw [Nat.min_eq_left hk] at h2
    rw [List.drop_append, h2, Nat.sub_self, List.drop_zero, List.drop_eq_nil_of_le (by omega), List.nil_append]
  · have h3 : es.drop k = [] := List.drop_eq_nil_of_le hk
    rw [h3, List.flatMap_nil, List.append_nil, List.drop_eq_nil_of_le]
    rw [h2]
    exact Nat.mul_le_mul_right _ (Nat.min_le_left _ _)
theorem flat_splice {z : Nat} {es news : List AV} (h : ∀ e ∈ es, Good z e) (g : ∀ e ∈ news, Good z e) (k : Nat) : (A.splice es k news).flatMap AV.cells = A.splice (es.flatMap AV.cells) (k * z) (news.flatMap AV.cells) := by
  unfold A.splice
  rw [flat_length g, ← Nat.add_mul, flat_take h, flat_drop h, List.flatMap_append, List.flatMap_append]

theorem ofConst_def {n : Nat} {u : Value} {v : AV} (h : ofConst n u = some v) : v.isDef = true := by
  cases n with
  | zero => simp [ofConst] at h
  | succ n =>
    unfold ofConst at h
    split at h <;> first
      | (simp only [Option.some.injEq] at h; subst h; rfl)
      | (simp at h; done)
      | skip
    split at h
    · rename_i vs _
      cases ho : vs.all AV.one <;> rw [ho] at h <;> simp at h
      subst h
      rfl
    · simp at h

theorem size_zeroCells' (z : Array Value) (n : Nat) : (Builtin.zeroCells z n).size = n * z.size := by simp [Builtin.zeroCells]

theorem append_ok (hr : HR E C) {t tx ty e : TypeId} {sz by_ : Nat} {z s v : AV} {news : List AV} {ws : List Value} {x u0 : Value} {H' : Heap} (ht : E.P.underlying t = some (.slice e)) (hsz : E.size e = some sz) (hby : E.bytes e = some by_) (hzv : E.zero e = some z)
    (hzl : z.cells.length = sz) (hpos : 0 < sz) (hs : Src E.P sz tx x news.length ws C.w) (hv : Vs C false (news.flatMap AV.cells) ws) (hg : ∀ e ∈ news, Good sz e) (h : A.append sz by_ e s news C.H = some (v, H')) (hs0 : V C p s u0) :
    ∃ u C', (Builtin.append_ #[t, tx] ty #[u0, x]).run E.P C.w = .ok u C'.w ∧ V C' false v u ∧ HR E C' ∧ EvL C C' ∧ C'.H = H' := by
  obtain ⟨i, zv, hi, hi1, hi2, hi3, hi4⟩ := info_of hsz hby hzv
  have hzd : z.isDef = true := ofConst_def hi4
  have hzs : zv.cells.size = sz := by
    have := (ofConst_ok (C := C) hi4).cells hzd
    rw [← Array.length_toList, this.1.length, hzl]
  subst hi1
  subst hi2
  unfold A.append at h
  split at h
  · -- nil
    cases hs0
    split at h
    · simp only [Option.some.injEq, Prod.mk.injEq] at h
      obtain ⟨rfl, rfl⟩ := h
      cases hv
      exact ⟨_, C, run_append_nothing C.w t tx ty e i ht hi none 0 0 (Nat.le_refl _) x hs, .nils _, hr, EvL.refl C, rfl⟩
    · rename_i hne
      split at h
      · rename_i hb
        obtain ⟨hb, hb0⟩ := hb
        simp only [Option.some.injEq, A.newRow, Prod.mk.injEq] at h
        obtain ⟨rfl, rfl⟩ := h
        have hlen : 0 < news.length := by
          cases news with
          | nil => exact absurd rfl hne
          | cons _ _ => simp
        have hnl : news.length ≤ 140737488355328 := Nat.le_trans (Nat.le_mul_of_pos_right _ hb0) hb
        have hrun := run_append_grow_src (P := E.P) C.w t tx ty e i zv ht hi hi3 none 0 0 [] (by simp [Builtin.firstCells]) x news.length ws hs (by omega) (by simp; omega) (growslice_fits (by omega) (by simpa using hb))
        simp only [Nat.zero_add, List.nil_append] at hrun
        have key := row_new (E := E) (ver := 0) (sz := i.size) (ty := e) (es := news) (us := ws) (fr := (0, 0)) (w' := C.w.drew.alloc (.cells (ws.toArray ++ Builtin.zeroCells zv.cells (grownCap C.w news.length 0 e - news.length)) e)) hr ⟨rfl, rfl, rfl⟩ rfl hpos hg (fun j _ h => by simp at h) hv (fun j u hu => by
          rw [Array.getElem?_append_left (by have := (List.getElem?_eq_some_iff.1 hu).1; simpa using this)]
          simpa using hu)
        refine ⟨_, _, hrun, ?_, key.1, key.2, rfl⟩
        refine .sl _ _ _ _ _ _ rfl ⟨by simp [Ctx.grow], fun v sz' ty' es' hx => ?_⟩
        simp [Ctx.grow] at hx
        obtain ⟨rfl, rfl, rfl, rfl⟩ := hx
        have hge := grownCap_ge C.w news.length 0 e
        refine ⟨Nat.le_refl _, fun _ => ⟨⟨C.w.heap.size, 0, none⟩, grownCap C.w news.length 0 e, rfl, Nat.le_refl _, hge, grownCap_le_maxLen C.w _ 0 e (by unfold maxLen; omega), fun _ => by simp [Ctx.grow], fun cells t' fr hc => ?_⟩⟩
        rw [grow_place] at hc ⊢
        have hc' := (heap_alloc_new C.w.drew _).symm.trans hc
        injection hc' with hc'
        injection hc' with hc1 hc2 hc3
        subst hc1
        have hwl : ws.length = news.length * i.size := hs.newsLen
        simp only [Array.size_append, List.size_toArray, size_zeroCells', hzs, hwl, Nat.zero_add, ← Nat.add_mul]
        exact Nat.mul_le_mul_right _ (by omega)
      · simp at h
  · rename_i id ver off n cap
    split at h
    · rename_i w z' ty' es hrow
      split at h
      · rename_i hc
        obtain ⟨rfl, rfl, rfl, hcap, hncap, hb, hb0⟩ := hc
        obtain ⟨hz, hgd, hk, cur, fr, us, hcur, hfz, hus, hcell⟩ := hr.row id w i.size ty' es hrow
        have hnl : n + news.length ≤ 140737488355328 := Nat.le_trans (Nat.le_mul_of_pos_right _ hb0) hb
        have hfl : (es.flatMap AV.cells).length = es.length * i.size := flat_length hgd
        have hul : us.length = es.length * i.size := hus.length.trans hfl
        have hwl : ws.length = news.length * i.size := hs.newsLen
        cases hs0 with
        | sl _ _ _ _ _ _ g0 g1 =>
          obtain ⟨a, c, hu, g2, g3, g4, g5, g6⟩ := (g1.2 w i.size ty' es hrow).2 rfl
          subst hu
          have g6' := g6 cur ty' fr hcur
          by_cases hroom : n + news.length ≤ cap
          · rw [if_pos hroom] at h
            simp only [Option.some.injEq, Prod.mk.injEq] at h
            obtain ⟨rfl, rfl⟩ := h
            rcases Nat.eq_zero_or_pos c with h0 | h0
            · have hn0 : n = 0 := by omega
              have hm0 : news = [] := List.eq_nil_of_length_eq_zero (by omega)
              subst hn0
              subst hm0
              cases hv
              refine ⟨_, C, run_append_nothing C.w t tx ty _ i ht hi (some a) 0 c (by omega) x hs, ?_, hr, EvL.refl C, ?_⟩
              · exact .sl _ _ _ _ _ _ rfl ⟨g1.1, fun v sz' ty' es' hx => ⟨(g1.2 v sz' ty' es' hx).1, (g1.2 v sz' ty' es' hx).2⟩⟩
              · have hsp : A.splice es (off + 0) [] = es := by simp [A.splice]
                rw [hsp]
                exact (list_set_same hrow).symm
            · have ha := g5 h0
              subst ha
              have hle : (n + news.length) * i.size ≤ c * i.size := Nat.mul_le_mul_right _ (by omega)
              have hadd : (off + c) * i.size = off * i.size + c * i.size := Nat.add_mul _ _ _
              have hadd2 : (n + news.length) * i.size = n * i.size + news.length * i.size := Nat.add_mul _ _ _
              have hoff : (off + n) * i.size = off * i.size + n * i.size := Nat.add_mul _ _ _
              have hle2 : (off + n) * i.size ≤ es.length * i.size := Nat.mul_le_mul_right _ (by omega)
              obtain ⟨C', c1, c2, c3, c4, c5, c6⟩ := row_splice (ver' := w) (es' := A.splice es (off + n) news) (s := (off + n) * i.size) (ws := ws) (vs := news.flatMap AV.cells) hr hrow (flat_splice hgd hg _) (splice_mem hgd hg) hv (by omega) (fun cells t' f hc => by
                rw [hcur] at hc
                injection hc with hc
                injection hc with hc _ _
                subst hc
                omega) (fun v hv => by
                  obtain ⟨e, he, hve⟩ := List.mem_flatMap.1 hv
                  exact (hg e he).2 v hve) (Nat.le_refl _)
              have hrun := run_append_room_src (P := E.P) C.w t tx ty ty' i ht hi (C.ρ id).1 ((C.ρ id).2 + off * i.size) n c x news.length ws hs (by omega) (fun j hj => by
                simp only [World.cell?, hcur, Option.isSome_none, Bool.false_eq_true, if_false]
                rw [Array.getElem?_eq_getElem (by omega)]
                rfl) (fun j hj => by
                simp only [World.frozen?, hcur]
                have := hfz ((C.ρ id).2 + off * i.size + n * i.size + j) (by omega)
                simp only [Bool.and_eq_false_iff, decide_eq_false_iff_not]
                rcases Nat.lt_or_ge ((C.ρ id).2 + off * i.size + n * i.size + j) fr.1 with h | h
                · exact .inl (by omega)
                · exact .inr (fun h2 => this ⟨h, h2⟩))
              rw [show (C.ρ id).2 + off * i.size + n * i.size = (C.ρ id).2 + (off + n) * i.size by omega, ← c2] at hrun
              refine ⟨_, C', hrun, ?_, c3, c4, c5⟩
              refine .sl _ _ _ _ _ _ rfl ⟨Nat.lt_of_lt_of_le g1.1 c4.ev.hlen, fun v sz' ty2 es' hx => ?_⟩
              rw [c5, List.getElem?_set_self g1.1] at hx
              injection hx with hx
              injection hx with e1 e2 e3 e4
              subst e1 e2 e3 e4
              refine ⟨Nat.le_refl _, fun _ => ⟨_, c, rfl, hroom, g3, g4, fun _ => by rw [c6], fun cells t' f hc => ?_⟩⟩
              rw [c6] at hc ⊢
              obtain ⟨v0, es0, q1, q2, q3⟩ := c4.ev.rows id g1.1 w i.size ty' (A.splice es (off + n) news) (by rw [c5, List.getElem?_set_self g1.1])
              rw [hrow] at q1
              injection q1 with q1
              injection q1 with q1 _ _ _
              obtain ⟨_, q4⟩ := q3 q1.symm
              obtain ⟨cells', t2, f2, q5, q6⟩ := q4 cells t' f hc
              rw [hcur] at q5
              injection q5 with q5
              injection q5 with q5 _ _
              subst q5
              omega
          · rw [if_neg hroom] at h
            simp only [Option.some.injEq, Prod.mk.injEq] at h
            obtain ⟨rfl, rfl⟩ := h
            have hgd2 : ∀ e ∈ (es.drop off).take n, Good i.size e := fun e he => hgd e (List.mem_of_mem_drop (List.mem_of_mem_take he))
            have hg3 : ∀ e ∈ (es.drop off).take n ++ news, Good i.size e := fun e he => by
              rcases List.mem_append.1 he with h | h
              · exact hgd2 e h
              · exact hg e h
            have hnl2 : ((es.drop off).take n).length = n := by rw [List.length_take, List.length_drop]; omega
            have hfl2 : ((es.drop off).take n).flatMap AV.cells = ((es.flatMap AV.cells).drop (off * i.size)).take (n * i.size) := by
              rw [flat_drop hgd, flat_take (fun x hx => hgd x (List.mem_of_mem_drop hx))]
            have hvo : Vs C false (((es.drop off).take n).flatMap AV.cells) ((us.drop (off * i.size)).take (n * i.size)) := by
              rw [hfl2]
              exact (hus.drop _).take _
            have hol : ((us.drop (off * i.size)).take (n * i.size)).length = n * i.size := by rw [hvo.length, flat_length hgd2, hnl2]
            have hvn : Vs C false (((es.drop off).take n ++ news).flatMap AV.cells) ((us.drop (off * i.size)).take (n * i.size) ++ ws) := by
              rw [List.flatMap_append]
              exact hvo.append hv
            have hle : n * i.size ≤ c * i.size := Nat.mul_le_mul_right _ (by omega)
            have hadd : (off + c) * i.size = off * i.size + c * i.size := Nat.add_mul _ _ _
            have hoc : (off + n) * i.size = off * i.size + n * i.size := Nat.add_mul _ _ _
            have hle2 : (off + n) * i.size ≤ es.length * i.size := Nat.mul_le_mul_right _ (by omega)
            by_cases hin : n + news.length ≤ c
            · have h0 : 0 < c := by omega
              have ha := g5 h0
              subst ha
              have hadd2 : (n + news.length) * i.size = n * i.size + news.length * i.size := Nat.add_mul _ _ _
              have hle3 : (n + news.length) * i.size ≤ c * i.size := Nat.mul_le_mul_right _ hin
              have hrun := run_append_room_src (P := E.P) C.w t tx ty ty' i ht hi (C.ρ id).1 ((C.ρ id).2 + off * i.size) n c x news.length ws hs hin (fun j hj => by
                simp only [World.cell?, hcur, Option.isSome_none, Bool.false_eq_true, if_false]
                rw [Array.getElem?_eq_getElem (by omega)]
                rfl) (fun j hj => by
                simp only [World.frozen?, hcur]
                have := hfz ((C.ρ id).2 + off * i.size + n * i.size + j) (by omega)
                simp only [Bool.and_eq_false_iff, decide_eq_false_iff_not]
                rcases Nat.lt_or_ge ((C.ρ id).2 + off * i.size + n * i.size + j) fr.1 with h | h
                · exact .inl (by omega)
                · exact .inr (fun h2 => this ⟨h, h2⟩))
              obtain ⟨cur', k1, k2, k3⟩ := setCells_heap (C.ρ id).1 ws ((C.ρ id).2 + off * i.size + n * i.size) C.w cur ty' fr hcur (by omega)
              obtain ⟨f1, f2, f3, f4⟩ := setCells_frame (C.ρ id).1 ws ((C.ρ id).2 + off * i.size + n * i.size) C.w
              have key := row_write hr hrow (w' := C.w.setCells (C.ρ id).1 ((C.ρ id).2 + off * i.size + n * i.size) ws) (ver' := w + 1) (base' := (C.ρ id).2 + off * i.size) (us' := (us.drop (off * i.size)).take (n * i.size) ++ ws)
                (es' := (es.drop off).take n ++ news) hcur ⟨f2, f3, f4⟩ f1 (fun i hi => setCells_other _ _ _ _ _ hi) k1 k2 hfz (by rw [Nat.add_mul_mod_self_right]; exact hr.al id w _ _ es hrow) (.inr (by omega)) hg3 hvn (fun j u hu => by
                  rw [k3]
                  rcases Nat.lt_or_ge j (n * i.size) with hj | hj
                  · rw [List.getElem?_append_left (by omega), List.getElem?_take, if_pos hj, List.getElem?_drop] at hu
                    rw [if_neg (by omega)]
                    have := hcell _ _ hu
                    rw [show (C.ρ id).2 + off * i.size + j = (C.ρ id).2 + (off * i.size + j) by omega]
                    exact this
                  · rw [List.getElem?_append_right (by omega), hol] at hu
                    have hlt := (List.getElem?_eq_some_iff.1 hu).1
                    rw [if_pos (by omega), show (C.ρ id).2 + off * i.size + j - ((C.ρ id).2 + off * i.size + n * i.size) = j - n * i.size by omega]
                    exact hu)
              refine ⟨_, _, hrun, ?_, key.1, key.2, rfl⟩
              refine .sl _ _ _ _ _ _ rfl ⟨by simpa using g1.1, fun v sz' ty2 es' hx => ?_⟩
              simp only [List.getElem?_set_self g1.1, Option.some.injEq, HObj.row.injEq] at hx
              obtain ⟨rfl, rfl, rfl, rfl⟩ := hx
              refine ⟨Nat.le_refl _, fun _ => ⟨_, c, rfl, Nat.le_refl _, hin, g4, fun _ => by simp, fun cells t' f hc => ?_⟩⟩
              simp only [if_true] at hc ⊢
              rw [k1] at hc
              injection hc with hc
              injection hc with hc _ _
              subst hc
              rw [k2, Nat.zero_add]
              omega
            · have hold : (Builtin.firstCells i.size n (.slice (some a) n c)).run E.P C.w.drew = .ok ((us.drop (off * i.size)).take (n * i.size)).toArray C.w.drew := by
                refine run_firstCells_some C.w.drew i.size n a n c _ hol (fun j u hu => ?_)
                have h0 : 0 < c := by
                  rcases Nat.eq_zero_or_pos c with h0 | h0
                  · have : n = 0 := by omega
                    subst this
                    simp at hu
                  · exact h0
                have ha := g5 h0
                subst ha
                rw [List.getElem?_take] at hu
                split at hu
                · rw [List.getElem?_drop] at hu
                  have := hcell _ _ hu
                  rw [Addr.add_lit]
                  show C.w.cell? _ = _
                  simp only [World.cell?, hcur, Option.isSome_none, Bool.false_eq_true, if_false]
                  rw [show (C.ρ id).2 + off * i.size + j = (C.ρ id).2 + (off * i.size + j) by omega]
                  exact this
                · simp at hu
              have hrun := run_append_grow_src (P := E.P) C.w t tx ty ty' i zv ht hi hi3 (some a) n c _ hold x news.length ws hs (by omega) (by omega) (growslice_fits (by omega) hb)
              have key := row_move (E := E) (ver' := w + 1) (es' := (es.drop off).take n ++ news) (us := (us.drop (off * i.size)).take (n * i.size) ++ ws) (fr := (0, 0)) hr hrow (by omega)
                (w' := C.w.drew.alloc (.cells (((us.drop (off * i.size)).take (n * i.size) ++ ws).toArray ++ Builtin.zeroCells zv.cells (grownCap C.w (n + news.length) c ty' - (n + news.length))) ty')) ⟨rfl, rfl, rfl⟩ rfl hg3 (fun j _ h => by simp at h) hvn (fun j u hu => by
                  rw [Array.getElem?_append_left (by have := (List.getElem?_eq_some_iff.1 hu).1; simpa using this)]
                  simpa using hu)
              refine ⟨_, _, hrun, ?_, key.1, key.2, rfl⟩
              refine .sl _ _ _ _ _ _ rfl ⟨by simpa using g1.1, fun v sz' ty2 es' hx => ?_⟩
              simp only [List.getElem?_set_self g1.1, Option.some.injEq, HObj.row.injEq] at hx
              obtain ⟨rfl, rfl, rfl, rfl⟩ := hx
              have hge := grownCap_ge C.w (n + news.length) c ty'
              refine ⟨Nat.le_refl _, fun _ => ⟨⟨C.w.heap.size, 0, none⟩, grownCap C.w (n + news.length) c ty', rfl, Nat.le_refl _, hge, grownCap_le_maxLen C.w _ c ty' (by unfold maxLen; omega), fun _ => by simp, fun cells t' f hc => ?_⟩⟩
              simp only [if_true] at hc ⊢
              have hc' := (heap_alloc_new C.w.drew _).symm.trans hc
              injection hc' with hc'
              injection hc' with hc1 hc2 hc3
              subst hc1
              have hwl2 : ((us.drop (off * i.size)).take (n * i.size) ++ ws).length = (n + news.length) * i.size := by rw [List.length_append, hol, hwl, Nat.add_mul]
              simp only [Array.size_append, List.size_toArray, size_zeroCells', hzs, hwl2, Nat.zero_add, ← Nat.add_mul]
              exact Nat.mul_le_mul_right _ (by omega)
      · simp at h
    · simp at h
  · simp at h

theorem made_vs {z : AV} {zc : Array Value} {sz : Nat} (hv : Vs C p z.cells zc.toList) (hl : zc.size = sz) (hpos : 0 < sz) : ∀ n, Vs C p ((List.replicate n z).flatMap AV.cells) ((List.range (n * sz)).map fun j => zc[j % sz]!)
  | 0 => by simp; exact .nil _
  | n + 1 => by
    have h1 : List.replicate (n + 1) z = List.replicate n z ++ [z] := by rw [← List.replicate_append_replicate (n := n) (m := 1)]; rfl
    rw [h1, List.flatMap_append, Nat.succ_mul, List.range_add, List.map_append]
    refine (made_vs hv hl hpos n).append ?_
    simp only [List.flatMap_cons, List.flatMap_nil, List.append_nil, List.map_map]
    have h2 : (List.range sz).map ((fun j => zc[j % sz]!) ∘ fun x => n * sz + x) = zc.toList := by
      apply List.ext_getElem?
      intro j
      rw [List.getElem?_map]
      by_cases hj : j < sz
      · rw [List.getElem?_range hj]
        simp only [Option.map_some, Function.comp]
        have : (n * sz + j) % sz = j := by rw [Nat.mul_comm, Nat.mul_add_mod, Nat.mod_eq_of_lt hj]
        rw [this]
        simp [hl, hj]
      · rw [List.getElem?_eq_none (by simp; omega), List.getElem?_eq_none (by simp; omega)]
        rfl
    rw [h2]
    exact hv

theorem makeSlice_ok (hr : HR E C) {t e : TypeId} {sz by_ : Nat} {z l c v : AV} {u1 u2 : Value} {H' : Heap} (ht : E.P.underlying t = some (.slice e)) (hsz : E.size e = some sz) (hby : E.bytes e = some by_) (hzv : E.zero e = some z) (hzl : z.cells.length = sz) (hpos : 0 < sz)
    (h : A.makeSlice sz by_ e z l c C.H = some (v, H')) (hx : V C p l u1) (hy : V C q c u2) :
    ∃ u C', (Instr.makeSlice t u1 u2).run E.P C.w = .ok u C'.w ∧ V C' false v u ∧ HR E C' ∧ EvL C C' ∧ C'.H = H' := by
  obtain ⟨i, zv, hi, hi1, hi2, hi3, hi4⟩ := info_of hsz hby hzv
  have hzd : z.isDef = true := ofConst_def hi4
  have hzc := (ofConst_ok (C := C) hi4).cells hzd
  have hzs : zv.cells.size = sz := by rw [← Array.length_toList, hzc.1.length, hzl]
  subst hi1
  subst hi2
  unfold A.makeSlice at h
  split at h
  · rename_i l c
    have e1 := hx.int_inv
    have e2 := hy.int_inv
    subst e1 e2
    split at h
    · rename_i hc
      obtain ⟨h0, hlc, hb, hb0⟩ := hc
      simp only [Option.some.injEq, Prod.mk.injEq] at h
      obtain ⟨rfl, rfl⟩ := h
      have hcb : c ≤ 281474976710656 := by
        have : c ≤ (i.bytes : Int) * c := by
          have h1 : (1 : Int) * c ≤ (i.bytes : Int) * c := Int.mul_le_mul_of_nonneg_right (by omega) (by omega)
          omega
        omega
      have hrun := run_make (P := E.P) C.w t e i zv ht hi hi3 .i64 .i64 l c h0 hlc hb (by omega)
      have hv : Vs C false ((List.replicate c.toNat z).flatMap AV.cells) (madeCells zv.cells (c.toNat * i.size)).toList := by
        have := made_vs hzc.1 hzs hpos c.toNat
        have e : (madeCells zv.cells (c.toNat * i.size)).toList = (List.range (c.toNat * i.size)).map fun j => zv.cells[j % i.size]! := by
          unfold madeCells
          rw [hzs, Array.toList_map, Array.toList_range]
        rw [e]
        exact this.weakenB
      have key := row_new (E := E) (ver := 0) (sz := i.size) (ty := e) (es := List.replicate c.toNat z) (fr := (0, 0)) (w' := C.w.alloc (.cells (madeCells zv.cells (c.toNat * i.size)) e)) hr ⟨rfl, rfl, rfl⟩ rfl hpos (fun x hx => by
        have := List.eq_of_mem_replicate hx
        subst this
        exact ⟨hzl, hzc.2⟩) (fun j _ h => by simp at h) hv (fun j u hu => by simpa using hu)
      refine ⟨_, _, hrun, ?_, key.1, key.2, rfl⟩
      refine .sl _ _ _ _ _ _ rfl ⟨by simp [Ctx.grow], fun v sz' ty' es' hx => ?_⟩
      simp [Ctx.grow] at hx
      obtain ⟨rfl, rfl, rfl, rfl⟩ := hx
      refine ⟨Nat.le_refl _, fun _ => ⟨⟨C.w.heap.size, 0, none⟩, c.toNat, rfl, by omega, Nat.le_refl _, by unfold maxLen; omega, fun _ => by simp [Ctx.grow], fun cells t' fr hc => ?_⟩⟩
      rw [grow_place] at hc ⊢
      have hc' := (heap_alloc_new C.w _).symm.trans hc
      injection hc' with hc'
      injection hc' with hc1 hc2 hc3
      subst hc1
      simp only [size_madeCells, Nat.zero_add, Nat.le_refl]
    · simp at h
  · simp at h

theorem clear_ok (hr : HR E C) {t e ty : TypeId} {sz : Nat} {z d v : AV} {u0 : Value} {H' : Heap} (ht : E.P.underlying t = some (.slice e)) (hsz : E.size e = some sz) (hzv : E.zero e = some z) (hzl : z.cells.length = sz)
    (h : A.clear sz z d C.H = some (v, H')) (hx : V C p d u0) :
    ∃ u C', (Builtin.clear_ #[t] ty #[u0]).run E.P C.w = .ok u C'.w ∧ V C' false v u ∧ HR E C' ∧ EvL C C' ∧ C'.H = H' := by
  have hdone : ∀ {b : Option Addr} {n c : Nat}, (b = none ∨ n = 0) → (Builtin.clear_ #[t] ty #[.slice b n c]).run E.P C.w = .ok (.tuple #[]) C.w := by
    intro b n c hb
    rcases hb with rfl | rfl
    · simp [Builtin.clear_, run_underlying ht]
    · cases b <;> simp [Builtin.clear_, run_underlying ht]
  unfold A.clear at h
  split at h
  · cases hx
    simp only [Option.some.injEq, Prod.mk.injEq] at h
    obtain ⟨rfl, rfl⟩ := h
    exact ⟨_, C, hdone (.inl rfl), .tup _ _ _ (.nil _), hr, EvL.refl C, rfl⟩
  · cases hx
    simp only [Option.some.injEq, Prod.mk.injEq] at h
    obtain ⟨rfl, rfl⟩ := h
    exact ⟨_, C, hdone (.inr rfl), .tup _ _ _ (.nil _), hr, EvL.refl C, rfl⟩
  · rename_i id ver off n cap
    cases hx with
    | sl _ _ _ _ _ _ g0 g1 =>
      split at h
      · rename_i hn
        subst hn
        cases ha : A.alive C.H id ver
        · rw [ha] at h; simp at h
        · rw [ha] at h
          simp only [cond_true, Option.some.injEq, Prod.mk.injEq] at h
          obtain ⟨rfl, rfl⟩ := h
          obtain ⟨z', ty', es, hrow⟩ := alive_row ha
          obtain ⟨a, c, hu, _⟩ := (g1.2 ver z' ty' es hrow).2 rfl
          subst hu
          exact ⟨_, C, hdone (.inr rfl), .tup _ _ _ (.nil _), hr, EvL.refl C, rfl⟩
      · rename_i hn
        split at h
        · rename_i w z' ty' es hrow
          split at h
          · rename_i hc
            obtain ⟨rfl, rfl, hle⟩ := hc
            simp only [Option.some.injEq, Prod.mk.injEq] at h
            obtain ⟨rfl, rfl⟩ := h
            obtain ⟨hz, hgd, hk, cur, fr, us, hcur, hfz, hus, hcell⟩ := hr.row id w z' ty' es hrow
            obtain ⟨a, c, hu, g2, g3, g4, g5, g6⟩ := (g1.2 w z' ty' es hrow).2 rfl
            subst hu
            have ha := g5 (by omega)
            subst ha
            have g6' := g6 cur ty' fr hcur
            unfold Env.size at hsz
            unfold Env.zero at hzv
            cases hi : E.P.info? e with
            | none => rw [hi] at hsz; simp at hsz
            | some i =>
              rw [hi] at hsz hzv
              simp only [Option.map_some, Option.some.injEq] at hsz
              simp only [Option.bind_some, Option.bind_eq_some_iff] at hzv
              obtain ⟨zv, h1, h2⟩ := hzv
              have hzd : z.isDef = true := ofConst_def h2
              have hzc := (ofConst_ok (C := C) h2).cells hzd
              have hzs : zv.cells.size = z' := by rw [← Array.length_toList, hzc.1.length, hzl]
              have hgr : ∀ x ∈ List.replicate n z, Good z' x := fun x hx => by
                have := List.eq_of_mem_replicate hx
                subst this
                exact ⟨hzl, hzc.2⟩
              have hv := (made_vs hzc.1 hzs hz n).weakenB
              have hfl : (es.flatMap AV.cells).length = es.length * z' := flat_length hgd
              have hadd : (off + c) * z' = off * z' + c * z' := Nat.add_mul _ _ _
              have hadd2 : (off + n) * z' = off * z' + n * z' := Nat.add_mul _ _ _
              have hl2 : (off + n) * z' ≤ es.length * z' := Nat.mul_le_mul_right _ hle
              have hl3 : n * z' ≤ c * z' := Nat.mul_le_mul_right _ (by omega)
              obtain ⟨C', c1, c2, c3, c4, c5, c6⟩ := row_splice (ver' := w) (es' := A.splice es off (List.replicate n z)) (s := off * z') (ws := (List.range (n * z')).map fun j => zv.cells[j % z']!) (vs := (List.replicate n z).flatMap AV.cells) hr hrow (flat_splice hgd hgr _) (splice_mem hgd hgr) hv (by omega) (fun cells t' f hc => by
                rw [hcur] at hc
                injection hc with hc
                injection hc with hc _ _
                subst hc
                simp
                omega) (fun v hv => by
                  obtain ⟨e, he, hve⟩ := List.mem_flatMap.1 hv
                  exact (hgr e he).2 v hve) (Nat.le_refl _)
              refine ⟨.tuple #[], C', ?_, .tup _ _ _ (.nil _), c3, c4, c5⟩
              have hzz : (Builtin.zeroCells zv.cells n).toList = (List.range (n * z')).map fun j => zv.cells[j % z']! := by
                unfold Builtin.zeroCells
                rw [hzs, Array.toList_map, Array.toList_range]
              rw [← hzz] at c1
              cases n with
              | zero => exact absurd rfl hn
              | succ n =>
                simp [Builtin.clear_, run_underlying ht, zeroValue, typeInfo, hi, h1, c1]
          · simp at h
        · simp at h
  · simp at h

end
end Go.Den
