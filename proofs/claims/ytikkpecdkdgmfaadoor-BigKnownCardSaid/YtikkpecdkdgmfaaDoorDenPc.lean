/- DEN, part Pc: a text made of a row's bytes, which are written no more. -/
import Derived.Test.YtikkpecdkdgmfaaDoorDenPb
namespace Go.Den
open Go.RowKit

section
variable {E : Env} {C : Ctx} {p q : Bool}

theorem sliceData_ok {ts : Array TypeId} {ty : TypeId} {s v : AV} {u : Value} (h : A.sliceData s C.H = some v) (hs : V C p s u) : ∃ u', (Builtin.unsafeSliceData_ ts ty #[u]).run E.P C.w = .ok u' C.w ∧ V C false v u' := by
  unfold A.sliceData at h
  split at h
  · simp only [Option.some.injEq] at h
    subst h
    cases hs
    exact ⟨_, Lib.run_unsafeSliceData_nil C.w ts ty 0 0, .nilp _⟩
  · rename_i id ver off n cap
    cases hc : (A.alive C.H id ver && decide (0 < n))
    · rw [hc] at h; cases h
    · rw [hc] at h
      simp only [cond_true, Option.some.injEq] at h
      subst h
      simp only [Bool.and_eq_true, decide_eq_true_eq] at hc
      obtain ⟨sz, ty', es, hrow⟩ := alive_row hc.1
      cases hs with
      | sl _ _ _ _ _ _ g0 g1 =>
        obtain ⟨a, c, hu, g2, g3, g4, g5, g6⟩ := (g1.2 ver sz ty' es hrow).2 rfl
        subst hu
        have hpos : 0 < c := by omega
        have ha := g5 hpos
        subst ha
        refine ⟨_, Lib.run_unsafeSliceData_row C.w ts ty _ n c (by omega), .ptr _ _ _ _ _ rfl ⟨g1.1, fun v1 sz1 ty1 es1 h1 => ?_⟩⟩
        rw [hrow] at h1
        cases h1
        exact ⟨Nat.le_refl _, fun _ => by rw [Nat.add_zero]⟩
  · cases h

theorem freeze_frame (w : World) (a : Addr) (n : Nat) : (w.freeze a n).os = w.os ∧ (w.freeze a n).tape = w.tape ∧ (w.freeze a n).output = w.output ∧ (w.freeze a n).heap.size = w.heap.size ∧ ∀ b, b ≠ a.block → (w.freeze a n).heap[b]? = w.heap[b]? := by
  unfold World.freeze
  split
  · exact ⟨rfl, rfl, rfl, rfl, fun _ _ => rfl⟩
  · exact ⟨rfl, rfl, rfl, by simp, fun b hb => by simp only [Array.getElem?_modify]; rw [if_neg (fun e => hb e.symm)]⟩

/-- A row is frozen: no more is known of it. -/
theorem row_freeze (hr : HR E C) {id w sz : Nat} {ty : TypeId} {es : List AV} (hrow : C.H[id]? = some (.row w sz ty es)) (o n : Nat) :
    HR E { C with w := C.w.freeze ⟨(C.ρ id).1, o, none⟩ n, H := C.H.set id .dead } ∧ EvL C { C with w := C.w.freeze ⟨(C.ρ id).1, o, none⟩ n, H := C.H.set id .dead } := by
  obtain ⟨f1, f2, f3, f4, f5⟩ := freeze_frame C.w ⟨(C.ρ id).1, o, none⟩ n
  have hk := (hr.row id w sz ty es hrow).2.2.1
  have hidl : id < C.H.length := (List.getElem?_eq_some_iff.1 hrow).1
  have hne : ∀ b i, C.κ b = .obj i → i ≠ id → b ≠ (C.ρ id).1 := fun b i hb hi e => by
    rw [e, hk] at hb
    injection hb with hb
    exact hi hb.symm
  have hHne : ∀ i, i ≠ id → (C.H.set id HObj.dead)[i]? = C.H[i]? := fun i hi => List.getElem?_set_ne (fun e => hi e.symm)
  have hHself : (C.H.set id HObj.dead)[id]? = some .dead := List.getElem?_set_self hidl
  have ev : EvL C { C with w := C.w.freeze ⟨(C.ρ id).1, o, none⟩ n, H := C.H.set id .dead } := by
    refine ⟨⟨f1, f2, f3, Nat.le_of_eq f4.symm, fun b hb hk' => ⟨f5 b fun e => ?_, rfl⟩, by simp, ?_, ?_, ?_⟩, fun b hb s' hs' => ⟨f5 b fun e => ?_, hs'⟩⟩
    · rw [e, hk] at hk'
      rcases hk' with hk' | hk' <;> cases hk'
    · intro i hil v sz ty es hrow
      by_cases e : i = id
      · subst e
        rw [show ({ C with w := C.w.freeze ⟨(C.ρ i).1, o, none⟩ n, H := C.H.set i .dead } : Ctx).H[i]? = _ from hHself] at hrow
        cases hrow
      · rw [show ({ C with w := C.w.freeze ⟨(C.ρ id).1, o, none⟩ n, H := C.H.set id .dead } : Ctx).H[i]? = _ from hHne i e] at hrow
        refine ⟨v, es, hrow, Nat.le_refl _, fun _ => ⟨rfl, fun cells t f hc => ⟨cells, t, f, ?_, rfl⟩⟩⟩
        rw [← f5 _ (hne _ i (hr.row i v sz ty es hrow).2.2.1 e)]
        exact hc
    · intro i hil l' pos' hit
      by_cases e : i = id
      · subst e
        rw [show ({ C with w := C.w.freeze ⟨(C.ρ i).1, o, none⟩ n, H := C.H.set i .dead } : Ctx).H[i]? = _ from hHself] at hit
        cases hit
      · rw [show ({ C with w := C.w.freeze ⟨(C.ρ id).1, o, none⟩ n, H := C.H.set id .dead } : Ctx).H[i]? = _ from hHne i e] at hit
        exact ⟨⟨l', pos', hit⟩, rfl⟩
    · intro i hil k' e' es' hm
      by_cases e : i = id
      · subst e
        rw [show ({ C with w := C.w.freeze ⟨(C.ρ i).1, o, none⟩ n, H := C.H.set i .dead } : Ctx).H[i]? = _ from hHself] at hm
        cases hm
      · rw [show ({ C with w := C.w.freeze ⟨(C.ρ id).1, o, none⟩ n, H := C.H.set id .dead } : Ctx).H[i]? = _ from hHne i e] at hm
        exact ⟨⟨k', e', es', hm⟩, rfl⟩
    · rw [e, hk] at hs'
      cases hs'
  refine ⟨hr.step ev.ev ?_ ?_ (fun b hb => hr.new b (by rw [← f4]; exact hb)), ev⟩
  · intro i v sz ty es hrow
    by_cases e : i = id
    · subst e
      rw [show ({ C with w := C.w.freeze ⟨(C.ρ i).1, o, none⟩ n, H := C.H.set i .dead } : Ctx).H[i]? = _ from hHself] at hrow
      cases hrow
    · rw [show ({ C with w := C.w.freeze ⟨(C.ρ id).1, o, none⟩ n, H := C.H.set id .dead } : Ctx).H[i]? = _ from hHne i e] at hrow
      have hk1 := (hr.row i v sz ty es hrow).2.2.1
      exact .inl ⟨hrow, rfl, hk1, f5 _ (hne _ i hk1 e)⟩
  · intro i l pos hit
    by_cases e : i = id
    · subst e
      rw [show ({ C with w := C.w.freeze ⟨(C.ρ i).1, o, none⟩ n, H := C.H.set i .dead } : Ctx).H[i]? = _ from hHself] at hit
      cases hit
    · rw [show ({ C with w := C.w.freeze ⟨(C.ρ id).1, o, none⟩ n, H := C.H.set id .dead } : Ctx).H[i]? = _ from hHne i e] at hit
      have hk1 := (hr.iter i l pos hit).1
      exact .inl ⟨hit, rfl, hk1, f5 _ (hne _ i hk1 e)⟩

/-- unsafe.String somewhere in a row of bytes. -/
theorem run_unsafeString_at {P : Program} (w : World) (pt it ty e : TypeId) (hp : P.underlying pt = some (.pointer e)) (hc : P.cellsOf e = 1) (g o cells : Nat) (hsh : w.shape? g = some (e, cells)) (l : List UInt8) (h0 : l ≠ []) (hn : o + l.length ≤ cells) (h63 : l.length ≤ 9223372036854775807)
    (hcell : ∀ j x, l[j]? = some x → w.cell? ((⟨g, o, none⟩ : Addr).add j) = some (.int .u8 x.toNat)) :
    (Builtin.unsafeString_ #[pt, it] ty #[.pointer (some ⟨g, o, none⟩), .int .i64 l.length]).run P w = .ok (.string ⟨l.toArray⟩) (w.freeze ⟨g, o, none⟩ l.length) := by
  have hl : l.length ≠ 0 := by simpa using h0
  have hlb := Lib.run_loadBytes (P := P) w l ⟨g, o, none⟩ .empty hcell
  have hlies := lies_self (P := P) (e := e) (cells := cells) (off := o) (n := l.length) hc (by omega) (by omega) (by omega)
  have h63' : ¬ (9223372036854775807 : Int) < (l.length : Int) := by omega
  have hdef : Builtin.unsafeString_ #[pt, it] ty #[.pointer (some ⟨g, o, none⟩), .int .i64 l.length] =
      (do
        let n ← asInt (.int .i64 l.length)
        if n < 0 then runtimePanic (.error "unsafe.String: len out of range")
        if n > IntKind.i64.max then unsupported (.unsafePointer "String: a length above the largest int")
        if n = 0 then pure (.string .empty)
        else if ← variablesAt ⟨g, o, none⟩ (← elemOf pt) n.toNat then do
          let s ← loadBytes ⟨g, o, none⟩ .empty n.toNat
          freeze ⟨g, o, none⟩ n.toNat
          pure (.string s)
        else unsupported (.unsafePointer "String: not so many bytes at ptr")) := rfl
  rw [hdef]
  have hmax : IntKind.i64.max = 9223372036854775807 := rfl
  have hneg : ¬ (l.length : Int) < 0 := by omega
  simp [asInt, asIntOf, hmax, h63', hneg, hl, variablesAt, hsh, elemOf, run_underlying hp, hlies, hlb]

theorem unsafeStr_ok (hr : HR E C) {pt it ty e : TypeId} {x n v : AV} {u1 u2 : Value} {H' : Heap} (hp : E.P.underlying pt = some (.pointer e)) (hc : E.P.cellsOf e = 1) (h : A.unsafeStr e x n C.H = some (v, H')) (hx : V C p x u1) (hn : V C q n u2) :
    ∃ u C', (Builtin.unsafeString_ #[pt, it] ty #[u1, u2]).run E.P C.w = .ok u C'.w ∧ HR E C' ∧ EvL C C' ∧ C'.H = H' ∧ V C' false v u := by
  unfold A.unsafeStr at h
  split at h
  · rename_i m
    have := hn.int_inv
    subst this
    cases hm : decide (m = 0)
    · rw [hm] at h
      simp only [cond_false] at h
      split at h
      · rename_i id ver i
        split at h
        · rename_i w sz ty' es hrow
          cases hcond : (Nat.beq w ver && Nat.beq sz 1 && Nat.beq ty' e && decide (0 < m) && decide (m ≤ 9223372036854775807) && decide (i + m.toNat ≤ es.length))
          · rw [hcond] at h; cases h
          · rw [hcond] at h
            simp only [cond_true] at h
            simp only [Bool.and_eq_true, Nat.beq_eq, decide_eq_true_eq] at hcond
            obtain ⟨⟨⟨⟨⟨rfl, rfl⟩, rfl⟩, hm0⟩, hm1⟩, hle⟩ := hcond
            split at h
            · rename_i l hl
              simp only [Option.some.injEq, Prod.mk.injEq] at h
              obtain ⟨rfl, rfl⟩ := h
              cases hx with
              | ptr _ _ _ _ _ g0 g1 =>
                have e1 := (g1.2 w 1 _ es hrow).2 rfl
                subst e1
                obtain ⟨hz, hg, hk2, cur, fr, us, hcur, hfz, hus, hcell⟩ := hr.row id w 1 _ es hrow
                have hgd : ∀ e ∈ (es.drop i).take m.toNat, Good 1 e := fun e he => hg e (List.mem_of_mem_drop (List.mem_of_mem_take he))
                have hnl : ((es.drop i).take m.toNat).length = m.toNat := by rw [List.length_take, List.length_drop]; omega
                have hfl : es.flatMap AV.cells = (es.take i).flatMap AV.cells ++ (((es.drop i).take m.toNat).flatMap AV.cells ++ ((es.drop i).drop m.toNat).flatMap AV.cells) := by
                  rw [← List.flatMap_append, List.take_append_drop, ← List.flatMap_append, List.take_append_drop]
                have hl1 : ((es.take i).flatMap AV.cells).length = i := by
                  rw [flat_length (fun x hx => hg x (List.mem_of_mem_take hx)), List.length_take, Nat.min_eq_left (by omega), Nat.mul_one]
                have hl2 : (((es.drop i).take m.toNat).flatMap AV.cells).length = m.toNat := by rw [flat_length hgd, hnl, Nat.mul_one]
                have hv := hus
                rw [hfl] at hv
                have hv2 := hv.split.2.split.1
                rw [hl1, hl2] at hv2
                obtain ⟨k1, k2⟩ := bytes8_vs hl hv2
                have hll : l.length = m.toNat := by rw [k2, hnl]
                have hmm : m = (l.length : Int) := by omega
                have hl0 : l ≠ [] := fun e => by rw [e] at hll; simp at hll; omega
                obtain ⟨cells, s1, s2, s3⟩ := row_in hr hrow (i := i) (off := 0) (by omega) (by omega)
                have hrun := run_unsafeString_at (P := E.P) C.w pt it ty _ hp hc (C.ρ id).1 ((C.ρ id).2 + i) cells s1 l hl0 (by rw [hll]; omega) (by omega) (fun j x hj => by
                  have hjl : j < m.toNat := by rw [← hll]; exact (List.getElem?_eq_some_iff.1 hj).1
                  have h5 : ((us.drop i).take m.toNat)[j]? = some (.int .u8 x.toNat) := by rw [k1, List.getElem?_map, hj]; rfl
                  rw [List.getElem?_take, if_pos hjl, List.getElem?_drop] at h5
                  have := hcell _ _ h5
                  rw [Addr.add_lit]
                  simp only [World.cell?, hcur, Option.isSome_none, Bool.false_eq_true, if_false]
                  rw [show (C.ρ id).2 + i + j = (C.ρ id).2 + (i + j) by omega]
                  exact this)
                obtain ⟨r1, r2⟩ := row_freeze hr hrow ((C.ρ id).2 + i) l.length
                refine ⟨.string ⟨l.toArray⟩, _, ?_, r1, r2, rfl, by simpa using V.str (C := { C with w := C.w.freeze ⟨(C.ρ id).1, (C.ρ id).2 + i, none⟩ l.length, H := C.H.set id .dead }) false ⟨l.toArray⟩⟩
                rw [hmm]
                rw [show (C.ρ id).2 + (i * 1 + 0) = (C.ρ id).2 + i by omega]
                exact hrun
            · cases h
        · cases h
      · cases h
    · rw [hm] at h
      simp only [cond_true] at h
      simp only [decide_eq_true_eq] at hm
      subst hm
      split at h
      · simp only [Option.some.injEq, Prod.mk.injEq] at h
        obtain ⟨rfl, rfl⟩ := h
        cases hx
        exact ⟨.string .empty, C, Lib.run_unsafeString_none C.w pt it ty none, hr, EvL.refl C, rfl, V.str _ .empty⟩
      · cases h
  · cases h

end
end Go.Den
