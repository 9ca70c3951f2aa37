/- DEN, part Pd: a text as a new slice of bytes. -/
import Derived.Test.YtikkpecdkdgmfaaDoorDenPc
import Derived.Lib.ConvBytes
namespace Go.Den
open Go.RowKit

section
variable {E : Env} {C : Ctx} {p q : Bool}

theorem bytesWorld_same (w : World) (e : TypeId) (s : ByteArray) : Same w (Lib.bytesWorld w e s) := by
  obtain ⟨f1, f2, f3, _⟩ := freeze_frame (w.drew.alloc (.cells (Lib.bytesCells w e s) e)) ⟨w.heap.size, (Lib.bytesCells w e s).size, none⟩ 1
  exact ⟨f1, f2, f3⟩

theorem bytesWorld_heap (w : World) (e : TypeId) (s : ByteArray) : (Lib.bytesWorld w e s).heap = w.heap.push (.cells (Lib.bytesCells w e s) e ((Lib.bytesCells w e s).size, (Lib.bytesCells w e s).size + 1)) := by
  apply Array.ext_getElem?
  intro i
  rcases Nat.lt_trichotomy i w.heap.size with h | h | h
  · rw [Lib.bytesWorld_at_old w e s i h, Array.getElem?_push, if_neg (by omega)]
  · subst h
    rw [Lib.bytesWorld_at_new, Array.getElem?_push, if_pos rfl]
  · rw [Array.getElem?_eq_none (by rw [Lib.bytesWorld_size]; omega), Array.getElem?_eq_none (by simp; omega)]

theorem convN_ok (hr : HR E C) {s d : TypeId} {y : AV} {q : AV × Heap} {u : Value} (h : convN E s d y C.H = some q) (hy : V C p y u) :
    ∃ u' C', (Go.convert s d u).run E.P C.w = .ok u' C'.w ∧ HR E C' ∧ EvL C C' ∧ C'.H = q.2 ∧ V C' false q.1 u' := by
  unfold convN at h
  split at h
  · rename_i e hs hd
    split at h
    · rename_i he
      split at h
      · rename_i l
        obtain ⟨b, hb, rfl⟩ := hy.str_inv
        subst hb
        cases hc : decide (b.data.toList.length ≤ 140737488355328)
        · rw [hc] at h; cases h
        · rw [hc] at h
          simp only [cond_true, Option.some.injEq] at h
          subst h
          simp only [decide_eq_true_eq] at hc
          have hbl : b.data.toList.length = b.size := by rw [Array.length_toList]; rfl
          have hel : (A.strElems b.data.toList).length = b.size := by unfold A.strElems; rw [List.length_map, hbl]
          have hge := grownCap_ge C.w b.size 0 e
          have hcs : (Lib.bytesCells C.w e b).size = grownCap C.w b.size 0 e := by
            unfold Lib.bytesCells
            have : b.data.size = b.size := rfl
            simp [this]
            omega
          have key := row_new (E := E) (C := C) (ver := 0) (sz := 1) (ty := e) (es := A.strElems b.data.toList) (us := b.data.toList.map fun x => Value.int .u8 x.toNat) (w' := Lib.bytesWorld C.w e b) hr (bytesWorld_same C.w e b) (bytesWorld_heap C.w e b) Nat.one_pos
            (fun x hx => by
              obtain ⟨c, _, rfl⟩ := List.mem_map.1 hx
              exact ⟨rfl, by simp [AV.cells, AV.one]⟩)
            (fun j hj => by dsimp only; omega)
            (by
              unfold A.strElems
              generalize b.data.toList = l
              induction l with
              | nil => exact .nil _
              | cons c l ih => exact .cons _ _ _ _ _ (.int _ _ _) ih)
            (fun j u hu => by
              unfold Lib.bytesCells
              have hj : j < b.data.size := by
                have := (List.getElem?_eq_some_iff.1 hu).1
                simpa using this
              rw [Array.getElem?_append_left (by simpa using hj)]
              rw [List.getElem?_map] at hu
              rw [Array.getElem?_map]
              rw [← Array.getElem?_toList]
              exact hu)
          refine ⟨_, _, Lib.run_convert_string_bytes C.w s d e b hs hd he, key.1, key.2, rfl, ?_⟩
          show V _ false (.sl C.H.length 0 0 (A.strElems b.data.toList).length (A.strElems b.data.toList).length) _
          rw [hel]
          refine .sl _ _ _ _ _ _ rfl ⟨by simp [Ctx.grow], fun v sz' ty' es' hx => ?_⟩
          simp [Ctx.grow] at hx
          obtain ⟨rfl, rfl, rfl, rfl⟩ := hx
          refine ⟨Nat.le_refl _, fun _ => ⟨⟨C.w.heap.size, 0, none⟩, grownCap C.w b.size 0 e, rfl, Nat.le_refl _, hge, grownCap_le_maxLen C.w _ 0 e (by unfold maxLen; omega), fun _ => by simp [Ctx.grow], fun cells t' fr hc => ?_⟩⟩
          rw [grow_place] at hc ⊢
          have hc' := (Lib.bytesWorld_at_new C.w e b).symm.trans hc
          injection hc' with hc'
          injection hc' with hc1 hc2 hc3
          subst hc1
          rw [hcs]
          simp
      · cases h
    · cases h
  · cases h

end
end Go.Den
