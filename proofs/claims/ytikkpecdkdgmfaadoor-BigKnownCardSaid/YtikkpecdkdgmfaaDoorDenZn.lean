/- DEN, part Zn: more entries of the model: a new row of whatever bytes; where a byte stands. -/
import Derived.Test.YtikkpecdkdgmfaaDoorDenZl
import Derived.Lib.MakeNoZero
namespace Go.Den
open Go.RowKit

section
variable {E : Env}

/-- internal/bytealg.MakeNoZero: room for so many bytes; of what they are nothing is known. -/
def noZeroF (e : TypeId) (args : List AV) (H : Heap) : Option (AV × Heap) :=
  match args with
  | [.int .i64 n] => bif decide (0 ≤ n) && decide (n ≤ 281474976710656) then some (.sl H.length 0 0 n.toNat n.toNat, H ++ [.row 0 1 e []]) else none
  | _ => none

theorem noZero_prim {f : FuncId} {fn : Func} {ps : Array TypeId} {t e : TypeId} (hf : E.P.funcs[f]? = some fn) (hname : (fn.name == "runtime.NumGoroutine") = false)
    (hb : fn.body.isNone = true) (hn : Extern.findNext fn = none) (he : Extern.find fn = some (Extern.BytealgMakeNoZero.makeNoZero ps #[t])) (ht : E.P.underlying t = some (.slice e)) : PrimOK E f (noZeroF e) :=
  fun args C us v H' h hr hl hv => by
    unfold noZeroF at h
    split at h
    · rename_i n
      cases hc : (decide (0 ≤ n) && decide (n ≤ 281474976710656))
      · rw [hc] at h; cases h
      · rw [hc] at h
        simp only [cond_true, Option.some.injEq, Prod.mk.injEq] at h
        obtain ⟨rfl, rfl⟩ := h
        simp only [Bool.and_eq_true, decide_eq_true_eq] at hc
        obtain ⟨us⟩ := us
        cases hv with
        | cons _ _ u1 _ us1 h1 h2 =>
          cases h2
          have := h1.int_inv
          subst this
          obtain ⟨m, rfl⟩ := Int.eq_ofNat_of_zero_le hc.1
          obtain ⟨cs, g1, g2, g3⟩ := Lib.run_makeNoZero (P := E.P) C.w ps t e ht m (by omega)
          have key := row_new (E := E) (C := C) (ver := 0) (sz := 1) (ty := e) (es := []) (us := []) (fr := (0, 0)) (w' := C.w.drew.drew.alloc (.cells cs e)) (cells := cs) hr ⟨rfl, rfl, rfl⟩ rfl Nat.one_pos (fun _ h => by cases h) (fun j _ h => by simp at h) (.nil _) (fun j u h => by simp at h)
          refine .inr ⟨.slice (some ⟨C.w.heap.size, 0, none⟩) m cs.size, (C.grow (C.w.drew.drew.alloc (.cells cs e)) (.row 0 1 e [])).w, ?_, C.grow (C.w.drew.drew.alloc (.cells cs e)) (.row 0 1 e []), rfl, rfl, ?_, key.1, key.2.ev, ?_⟩
          · rw [run_callFunc_extern hf hname hb hn he, g1]
            rfl
          · refine .sl _ _ _ _ _ _ rfl ⟨by simp [Ctx.grow], fun v sz' ty' es' hx => ?_⟩
            simp [Ctx.grow] at hx
            obtain ⟨rfl, rfl, rfl, rfl⟩ := hx
            refine ⟨Nat.le_refl _, fun _ => ⟨⟨C.w.heap.size, 0, none⟩, cs.size, rfl, Nat.le_refl _, g2, g3 (by unfold maxLen; omega), fun _ => by simp [Ctx.grow], fun cells t' fr hc => ?_⟩⟩
            rw [grow_place] at hc ⊢
            have hc' := (heap_alloc_new C.w.drew.drew _).symm.trans hc
            injection hc' with hc'
            injection hc' with hc1 hc2 hc3
            subst hc1
            simp
          · intro b s hbs
            have : (if b = C.w.heap.size then Role.obj C.H.length else C.κ b) = .loc s := hbs
            split at this
            · cases this
            · exact hl b s this
    · cases h

theorem indexByte_run {P : Program} {u : Value} {l : List UInt8} {c : Int} {w : World} (h : (Extern.Bytes.bytesOf u).run P w = .ok ⟨l.toArray⟩ w) : (Extern.BytealgIndexByte.indexByte #[u, .int .u8 c]).run P w = .ok (.int .i64 (Lib.indexByte l (byteOf c))) w := by
  have h1 := Lib.run_indexByteString (P := P) ⟨l.toArray⟩ c w
  have e1 : ∀ x : Value, Extern.BytealgIndexByte.indexByte #[x, .int .u8 c] = (do
      let b ← Extern.Bytes.bytesOf x
      let c ← Extern.Bytes.asByte (.int .u8 c)
      match (List.range b.size).find? fun i => b[i]! == c with
      | some i => pure (goInt i)
      | none => pure (goInt (-1))) := fun _ => rfl
  rw [e1] at h1 ⊢
  have hb : (Extern.Bytes.bytesOf (.string ⟨l.toArray⟩)).run P w = .ok ⟨l.toArray⟩ w := rfl
  simp only [Sem.run_bind, hb, Result.andThen_ok] at h1
  simp only [Sem.run_bind, h, Result.andThen_ok]
  exact h1

/-- internal/bytealg.IndexByte, IndexByteString. -/
def indexByteF (args : List AV) (H : Heap) : Option (AV × Heap) :=
  match args with
  | [x, .int .u8 c] => match bytesAt x H with
    | some l => some (.int .i64 (Lib.indexByte l (byteOf c)), H)
    | none => none
  | _ => none

theorem indexByte_prim {f : FuncId} {fn : Func} (hf : E.P.funcs[f]? = some fn) (hname : (fn.name == "runtime.NumGoroutine") = false)
    (hb : fn.body.isNone = true) (hn : Extern.findNext fn = none) (he : Extern.find fn = some Extern.BytealgIndexByte.indexByte) : PrimOK E f indexByteF :=
  extern_prim hf hname hb hn he fun args C us v H' h hr hv => by
    unfold indexByteF at h
    split at h
    · rename_i x c
      split at h
      · rename_i l hl
        simp only [Option.some.injEq, Prod.mk.injEq] at h
        obtain ⟨rfl, rfl⟩ := h
        obtain ⟨us⟩ := us
        cases hv with
        | cons _ _ u1 _ us1 h1 h2 =>
          cases h2 with
          | cons _ _ u2 _ us2 h3 h4 =>
            cases h4
            have := h3.int_inv
            subst this
            exact ⟨rfl, _, indexByte_run (bytesAt_run hr hl h1), .int _ _ _⟩
      · cases h
    · cases h

end
end Go.Den
