/- DEN, part P: each operation does what it is said to do. -/
import Derived.Test.YtikkpecdkdgmfaaDoorDenO
namespace Go.Den
open Go.RowKit

section
variable {E : Env} {cf : CallFn} {C C' : Ctx} {lam : Nat → Nat} {st : St} {a : Act} {o : Oper} {Q : Exit → Act → World → Prop} {q p : Bool}

theorem withV_some {R : Type} {x : Option AV} {k : AV → Option R} {r : R} (h : withV x k = some r) : ∃ v, x = some v ∧ k v = some r := by
  cases x with
  | none => cases h
  | some v => exact ⟨v, rfl, h⟩

theorem run_v {P : Program} {s : Sem Value} {w w' : World} {u : Value} (h : s.run P w = .ok u w') : (do pure (.value (← s)) : Sem Next).run P w = .ok (.value u) w' := by
  simp [Sem.run_bind, h]
theorem run_u {P : Program} {s : Sem Unit} {w w' : World} (h : s.run P w = .ok () w') : (do s; pure .skip : Sem Next).run P w = .ok .skip w' := by
  simp [Sem.run_bind, h]

/-- A reading of the small heap. -/
theorem pure_wp {u : Value} {v : AV} {x : SV} {st' : St} {H' : Heap} (hr : HR E C) (hf : FrameR C lam st a) (h : (some (SV.val v, st, C.H) : Option (SV × St × Heap)) = some (x, st', H')) (hrun : (execOp a.eval o).run E.P C.w = .ok (.value u) C.w) (hv : V C p v u) :
    o.wp E.P a C.w (Post E C (stPut st' o.dst x) H') Q := by
  simp only [Option.some.injEq, Prod.mk.injEq] at h
  obtain ⟨rfl, rfl, rfl⟩ := h
  exact value_wp hf hrun (EvL.refl C) hr hv.weakenB

theorem make_wp {u : Value} {v : AV} {x : SV} {st' : St} {H1 H' : Heap} (hf : FrameR C lam st a) (h : (some (SV.val v, st, H1) : Option (SV × St × Heap)) = some (x, st', H')) (hrun : (execOp a.eval o).run E.P C.w = .ok (.value u) C'.w) (hr' : HR E C') (ev : EvL C C') (hH : C'.H = H1) (hv : V C' false v u) :
    o.wp E.P a C.w (Post E C (stPut st' o.dst x) H') Q := by
  simp only [Option.some.injEq, Prod.mk.injEq] at h
  obtain ⟨rfl, rfl, rfl⟩ := h
  rw [← hH]
  exact value_wp hf hrun ev hr' hv

theorem lpe_wp {s off : Nat} {x : SV} {st' : St} {H' : Heap} (hr : HR E C) (hf : FrameR C lam st a) (h : (some (SV.lp s off, st, C.H) : Option (SV × St × Heap)) = some (x, st', H'))
    (hrun : (execOp a.eval o).run E.P C.w = .ok (.value (.pointer (some ⟨lam s, off, none⟩))) C.w) (hs : st.var s ≠ none) : o.wp E.P a C.w (Post E C (stPut st' o.dst x) H') Q := by
  simp only [Option.some.injEq, Prod.mk.injEq] at h
  obtain ⟨rfl, rfl, rfl⟩ := h
  exact lp_wp hr hf hrun hs

theorem move_sound (hr : HR E C) (hf : FrameR C lam st a) {y : Operand} {x : SV} {st' : St} {H' : Heap}
    (h : (match y with
      | .tmp t => match st.get t with
        | .val w => some (SV.val w, st, C.H)
        | .lp s off => some (SV.lp s off, st, C.H)
        | .no => none
      | y => withV (st.eval E y) fun v => some (SV.val v, st, C.H)) = some (x, st', H'))
    (hrun : (execOp a.eval o).run E.P C.w = .ok (.value (a.eval y)) C.w) : o.wp E.P a C.w (Post E C (stPut st' o.dst x) H') Q := by
  cases y with
  | tmp t =>
    dsimp only at h
    split at h
    · rename_i w hw
      exact pure_wp hr hf h hrun (slot_val hf hw)
    · rename_i s off hw
      obtain ⟨h1, h2⟩ := slot_lp hf hw
      exact lpe_wp hr hf h (by rw [hrun, h1]) h2
    · cases h
  | _ =>
    dsimp only at h
    obtain ⟨v, hv, h⟩ := withV_some h
    exact pure_wp hr hf h hrun (eval_ok hr hf hv)

theorem newVar_run {P : Program} {t : TypeId} {uv : Value} {w : World} : (newVar t uv).run P w = .ok ⟨w.heap.size, 0, none⟩ (w.alloc (.cells uv.cells t)) := rfl

theorem zero_def {t : TypeId} {z : AV} (h : E.zero t = some z) : z.isDef = true := by
  simp only [Env.zero, Option.bind_eq_some_iff] at h
  obtain ⟨_, _, h⟩ := h
  exact ofConst_def h

/-- A new variable: of the frame's own, or of the small heap. -/
theorem var_sound (hr : HR E C) (hf : FrameR C lam st a) {site : Option Nat} {t : TypeId} {sz : Nat} {v : AV} {uv : Value} {x : SV} {st' : St} {H' : Heap}
    (hrun : ∀ u w', (newVar t uv).run E.P C.w = .ok u w' → (execOp a.eval o).run E.P C.w = .ok (.value (.pointer (some u))) w') (hd : v.isDef = true) (hv : V C q v uv) (hl : v.cells.length = sz) (hz : 0 < sz)
    (h : (match site with
      | some s => layK s v.cells st C.H (fun x s G => some (x, s, G))
      | none => some (SV.val (A.newBox sz t v C.H).1, st, (A.newBox sz t v C.H).2)) = some (x, st', H')) : o.wp E.P a C.w (Post E C (stPut st' o.dst x) H') Q := by
  split at h
  · exact lay_wp hr hf h hd hv (hrun _ _ newVar_run)
  · obtain ⟨C', u, g1, g2, g3, g4, g5⟩ := newBox_ok hr hl hd hz hv
    exact make_wp hf h (hrun _ _ g1) g2 g3 g4 g5

theorem alloc_sound (hr : HR E C) (hf : FrameR C lam st a) {site : Option Nat} {t : TypeId} {x : SV} {st' : St} {H' : Heap} (ho : o.op = .alloc t)
    (h : opK E cf site o st C.H (fun x s G => some (x, s, G)) = some (x, st', H')) : o.wp E.P a C.w (Post E C (stPut st' o.dst x) H') Q := by
  unfold opK at h
  simp only [ho] at h
  split at h
  · rename_i z sz hz hsz
    obtain ⟨zv, k1, k2⟩ := zero_run hz C.w
    have hrun : ∀ u w', (newVar t zv).run E.P C.w = .ok u w' → (execOp a.eval o).run E.P C.w = .ok (.value (.pointer (some u))) w' := fun u w' hn => by
      unfold execOp
      simp only [ho]
      refine run_v ?_
      simp only [Instr.alloc, Sem.run_bind, k1, Result.andThen_ok, hn, Sem.run_pure]
    cases hc : (z.cells.length == sz && decide (0 < sz))
    · simp only [hc, cond_false] at h
      split at h <;> cases h
    · simp only [hc, cond_true] at h
      simp only [Bool.and_eq_true, beq_iff_eq, decide_eq_true_eq] at hc
      exact var_sound hr hf hrun (zero_def hz) k2 hc.1 hc.2 h
  · cases h

theorem box_sound (hr : HR E C) (hf : FrameR C lam st a) {site : Option Nat} {t : TypeId} {y : Operand} {x : SV} {st' : St} {H' : Heap} (ho : o.op = .box t y)
    (h : opK E cf site o st C.H (fun x s G => some (x, s, G)) = some (x, st', H')) : o.wp E.P a C.w (Post E C (stPut st' o.dst x) H') Q := by
  unfold opK at h
  simp only [ho] at h
  split at h
  · rename_i v sz hv hsz
    have hrun : ∀ u w', (newVar t (a.eval y)).run E.P C.w = .ok u w' → (execOp a.eval o).run E.P C.w = .ok (.value (.pointer (some u))) w' := fun u w' hn => by
      unfold execOp
      simp only [ho]
      refine run_v ?_
      simp only [Instr.box, Sem.run_bind, Result.andThen_ok, hn, Sem.run_pure]
    cases hc : (v.cells.length == sz && v.isDef && decide (0 < sz))
    · simp only [hc, cond_false] at h
      split at h <;> cases h
    · simp only [hc, cond_true] at h
      simp only [Bool.and_eq_true, beq_iff_eq, decide_eq_true_eq] at hc
      exact var_sound hr hf hrun hc.1.2 (eval_ok hr hf hv) hc.1.1 hc.2 h
  · cases h

theorem load_sound (hr : HR E C) (hf : FrameR C lam st a) {site : Option Nat} {t : TypeId} {y : Operand} {x : SV} {st' : St} {H' : Heap} (ho : o.op = .load t y)
    (h : opK E cf site o st C.H (fun x s G => some (x, s, G)) = some (x, st', H')) : o.wp E.P a C.w (Post E C (stPut st' o.dst x) H') Q := by
  unfold opK at h
  simp only [ho] at h
  have hrun : ∀ u, (Instr.loadAt t (a.eval y)).run E.P C.w = .ok u C.w → (execOp a.eval o).run E.P C.w = .ok (.value u) C.w := fun u hn => by
    unfold execOp
    simp only [ho]
    exact run_v hn
  split at h
  · rename_i ag sz hag hsz
    split at h
    · rename_i t'
      split at h
      · rename_i s off hw
        obtain ⟨h1, h2⟩ := slot_lp hf hw
        split at h
        · rename_i cs hcs
          obtain ⟨v, hv, h⟩ := withV_some h
          obtain ⟨u, g1, g2⟩ := loc_load hf hcs hag hsz hv
          exact pure_wp hr hf h (hrun u (by rw [h1]; simpa [Instr.loadAt, Instr.sureAddr] using g1)) g2
        · cases h
      · rename_i w hw
        obtain ⟨v, hv, h⟩ := withV_some h
        obtain ⟨u, g1, g2⟩ := loadH_ok hr hag hsz hv (slot_val hf hw)
        exact pure_wp hr hf h (hrun u g1) g2
      · cases h
    · split at h
      · rename_i w hw
        obtain ⟨v, hv, h⟩ := withV_some h
        obtain ⟨u, g1, g2⟩ := loadH_ok hr hag hsz hv (eval_ok hr hf hw)
        exact pure_wp hr hf h (hrun u g1) g2
      · cases h
  · cases h

theorem store_sound (hr : HR E C) (hf : FrameR C lam st a) {site : Option Nat} {t : TypeId} {y z : Operand} {x : SV} {st' : St} {H' : Heap} (ho : o.op = .store t y z)
    (h : opK E cf site o st C.H (fun x s G => some (x, s, G)) = some (x, st', H')) : o.wp E.P a C.w (Post E C (stPut st' o.dst x) H') Q := by
  unfold opK at h
  simp only [ho] at h
  have hrun : ∀ w', (Instr.storeAt t (a.eval y) (a.eval z)).run E.P C.w = .ok () w' → (execOp a.eval o).run E.P C.w = .ok .skip w' := fun u hn => by
    unfold execOp
    simp only [ho]
    exact run_u hn
  split at h
  · rename_i v sz hv hsz
    split at h
    · rename_i t'
      split at h
      · rename_i s off hw
        obtain ⟨h1, h2⟩ := slot_lp hf hw
        split at h
        · rename_i cs hcs
          cases hc : (A.fits sz v && decide (off + v.cells.length ≤ cs.length))
          · simp only [hc, cond_false] at h
            cases h
          · simp only [hc, cond_true, Option.some.injEq, Prod.mk.injEq] at h
            obtain ⟨rfl, rfl, rfl⟩ := h
            simp only [Bool.and_eq_true, decide_eq_true_eq] at hc
            obtain ⟨C', g1, g2, g3, g4, g5⟩ := loc_store hr hf hcs hsz hc.1 hc.2 (eval_ok hr hf hv)
            unfold Oper.wp
            rw [hrun C'.w (by rw [h1]; simpa [Instr.storeAt, Instr.sureAddr] using g1)]
            exact ⟨C', lam, rfl, g2, g3, g4, g5.put (x := .val .undef) (.undef _)⟩
        · cases h
      · rename_i w hw
        split at h
        · rename_i H1 hH
          obtain ⟨C', g1, g2, g3, g4⟩ := storeH_ok hr hsz hH (slot_val hf hw) (eval_ok hr hf hv)
          simp only [Option.some.injEq, Prod.mk.injEq] at h
          obtain ⟨rfl, rfl, rfl⟩ := h
          rw [← g4]
          exact skip_wp hf (hrun _ g1) g3 g2
        · cases h
      · cases h
    · cases h
  · cases h

end
end Go.Den
