/- DEN, part Q: each operation does what it is said to do (on). -/
import Derived.Test.YtikkpecdkdgmfaaDoorDenPd
namespace Go.Den
open Go.RowKit

section
variable {E : Env} {cf : CallFn} {C C' : Ctx} {lam : Nat → Nat} {st : St} {a : Act} {o : Oper} {Q : Exit → Act → World → Prop} {q p : Bool} {site : Option Nat} {x : SV} {st' : St} {H' : Heap}

theorem pick_sound (hr : HR E C) (hf : FrameR C lam st a) {c y z : Operand} (ho : o.op = .pick c y z)
    (h : opK E cf site o st C.H (fun x s G => some (x, s, G)) = some (x, st', H')) : o.wp E.P a C.w (Post E C (stPut st' o.dst x) H') Q := by
  unfold opK at h
  simp only [ho] at h
  split at h
  · rename_i vc vy vz hc hy hz
    obtain ⟨v, hv, h⟩ := withV_some h
    unfold A.pick at hv
    split at hv
    · rename_i b
      simp only [Option.some.injEq] at hv
      subst hv
      have hcb := (eval_ok hr hf hc).bool_inv
      have hrun : (execOp a.eval o).run E.P C.w = .ok (.value (if b then a.eval y else a.eval z)) C.w := by
        unfold execOp
        simp only [ho, hcb]
        rfl
      cases b
      · exact pure_wp hr hf h hrun (eval_ok hr hf hz)
      · exact pure_wp hr hf h hrun (eval_ok hr hf hy)
    · cases hv
  · cases h

theorem build_sound (hr : HR E C) (hf : FrameR C lam st a) {t : TypeId} {ps : Array (Nat × Operand)} (ho : o.op = .build t ps)
    (h : opK E cf site o st C.H (fun x s G => some (x, s, G)) = some (x, st', H')) : o.wp E.P a C.w (Post E C (stPut st' o.dst x) H') Q := by
  unfold opK at h
  simp only [ho] at h
  split at h
  · rename_i z pl hz hpl
    split at h
    · rename_i l hl
      obtain ⟨v, hv, h⟩ := withV_some h
      obtain ⟨u, g1, g2⟩ := build_ok hr hf hz hpl hl hv
      exact pure_wp hr hf h (by unfold execOp; simp only [ho]; exact run_v g1) g2
    · cases h
  · cases h

theorem buildSlice_sound (hr : HR E C) (hf : FrameR C lam st a) {t : TypeId} {n : Nat} {ps : Array (Nat × Operand)} (ho : o.op = .buildSlice t n ps)
    (h : opK E cf site o st C.H (fun x s G => some (x, s, G)) = some (x, st', H')) : o.wp E.P a C.w (Post E C (stPut st' o.dst x) H') Q := by
  unfold opK at h
  simp only [ho] at h
  split at h
  · rename_i e he
    have ht : E.P.underlying t = some (.slice e) := by
      unfold Env.elem at he
      split at he
      · rename_i e' h1
        simp only [Option.some.injEq] at he
        rw [h1, he]
      · cases he
    split at h
    · rename_i sz z l hsz hz hp
      cases hc : (decide (n * sz ≤ 16777216) && decide (0 < sz) && decide (z.cells.length = sz))
      · simp only [hc, cond_false] at h
        cases h
      · simp only [hc, cond_true] at h
        simp only [Bool.and_eq_true, decide_eq_true_eq] at hc
        split at h
        · rename_i es hes
          obtain ⟨u, C', g1, g2, g3, g4, g5⟩ := buildSlice_ok hr hf ht hsz hz hc.1.1 hc.1.2 hc.2 hp hes
          exact make_wp hf h (by unfold execOp; simp only [ho]; exact run_v g1) g3 g4 g5 g2
        · cases h
    · cases h
  · cases h

theorem nilCheck_sound (hr : HR E C) (hf : FrameR C lam st a) {y : Operand} (ho : o.op = .nilCheck y)
    (h : opK E cf site o st C.H (fun x s G => some (x, s, G)) = some (x, st', H')) : o.wp E.P a C.w (Post E C (stPut st' o.dst x) H') Q := by
  unfold opK at h
  simp only [ho] at h
  split at h
  · rename_i t
    split at h
    · rename_i w hw
      obtain ⟨v, hv, h⟩ := withV_some h
      obtain ⟨g1, g2⟩ := nilCheck_ok hv (slot_val hf hw)
      exact pure_wp hr hf h (g2 o a _ ho rfl) g1
    · rename_i s off hw
      obtain ⟨h1, h2⟩ := slot_lp hf hw
      exact lpe_wp hr hf h (by unfold execOp; simp only [ho, h1]; rfl) h2
    · cases h
  · cases h

theorem binOp_sound (hr : HR E C) (hf : FrameR C lam st a) {op : BinOp} {t s : TypeId} {y z : Operand} (ho : o.op = .binOp op t y z s)
    (h : opK E cf site o st C.H (fun x s G => some (x, s, G)) = some (x, st', H')) : o.wp E.P a C.w (Post E C (stPut st' o.dst x) H') Q := by
  unfold opK at h
  simp only [ho] at h
  split at h
  · rename_i vy vz hy hz
    obtain ⟨v, hv, h⟩ := withV_some h
    obtain ⟨u, g1, g2⟩ := bin_ok (xo := y) (yo := z) (fun hc => by
      cases z with
      | const c => exact ⟨c, rfl⟩
      | _ => cases hc) hv (eval_ok hr hf hy) (eval_ok hr hf hz)
    exact pure_wp hr hf h (by unfold execOp; simp only [ho]; exact run_v g1) g2
  · cases h

theorem unOp_sound (hr : HR E C) (hf : FrameR C lam st a) {op : UnOp} {t : TypeId} {y : Operand} (ho : o.op = .unOp op t y)
    (h : opK E cf site o st C.H (fun x s G => some (x, s, G)) = some (x, st', H')) : o.wp E.P a C.w (Post E C (stPut st' o.dst x) H') Q := by
  unfold opK at h
  simp only [ho] at h
  split at h
  · rename_i vy hy
    obtain ⟨v, hv, h⟩ := withV_some h
    obtain ⟨u, g1, g2⟩ := un_ok hv (eval_ok hr hf hy)
    exact pure_wp hr hf h (by unfold execOp; simp only [ho]; exact run_v g1) g2
  · cases h

theorem convert_ok {s d : TypeId} {y v : AV} {u : Value} {w : World} (h : convert E s d y = some v) (hy : V C p y u) : ∃ u', (Go.convert s d u).run E.P w = .ok u' w ∧ V C true v u' := by
  unfold convert at h
  split at h
  · rename_i ds k n hs hd
    simp only [Option.some.injEq] at h
    subst h
    have := hy.int_inv
    subst this
    refine ⟨_, ?_, .int _ _ _⟩
    unfold Go.convert
    simp only [Sem.run_bind, run_underlying hs, run_underlying hd, Result.andThen_ok]
    cases ds <;> rfl
  · rename_i ds l hs hd
    simp only [Option.some.injEq] at h
    subst h
    obtain ⟨b, rfl, rfl⟩ := hy.str_inv
    refine ⟨_, ?_, .str _ _⟩
    unfold Go.convert
    simp only [Sem.run_bind, run_underlying hs, run_underlying hd, Result.andThen_ok]
    cases ds <;> rfl
  · rename_i ds k n hs hd
    simp only [Option.some.injEq] at h
    subst h
    have := hy.int_inv
    subst this
    refine ⟨_, ?_, .str _ _⟩
    unfold Go.convert
    simp only [Sem.run_bind, run_underlying hs, run_underlying hd, Result.andThen_ok]
    cases ds <;> rfl
  · cases h

theorem convert_sound (hr : HR E C) (hf : FrameR C lam st a) {s d : TypeId} {y : Operand} (ho : o.op = .convert s d y)
    (h : opK E cf site o st C.H (fun x s G => some (x, s, G)) = some (x, st', H')) : o.wp E.P a C.w (Post E C (stPut st' o.dst x) H') Q := by
  unfold opK at h
  simp only [ho] at h
  split at h
  · rename_i vy hy
    unfold convertK at h
    split at h
    · rename_i v hv
      obtain ⟨u, g1, g2⟩ := convert_ok (w := C.w) hv (eval_ok hr hf hy)
      exact pure_wp hr hf h (by unfold execOp; simp only [ho]; exact run_v g1) g2
    · split at h
      · rename_i v hv
        obtain ⟨u, g1, g2⟩ := convH_ok hr hv (eval_ok hr hf hy)
        exact pure_wp hr hf h (by unfold execOp; simp only [ho]; exact run_v g1) g2
      · split at h
        · rename_i q hq
          obtain ⟨u, C', g1, g2, g3, g4, g5⟩ := convN_ok hr hq (eval_ok hr hf hy)
          exact make_wp hf h (by unfold execOp; simp only [ho]; exact run_v g1) g2 g3 g4 g5
        · cases h
  · cases h

theorem makeInterface_sound (hr : HR E C) (hf : FrameR C lam st a) {t : TypeId} {y : Operand} (ho : o.op = .makeInterface t y)
    (h : opK E cf site o st C.H (fun x s G => some (x, s, G)) = some (x, st', H')) : o.wp E.P a C.w (Post E C (stPut st' o.dst x) H') Q := by
  unfold opK at h
  simp only [ho] at h
  split at h
  · rename_i vy d hy hd
    split at h
    · cases h
    · rename_i hni
      refine pure_wp hr hf h ?_ (.iface _ _ _ _ (eval_ok hr hf hy))
      unfold execOp
      simp only [ho]
      refine run_v ?_
      unfold Instr.makeInterface
      simp only [Sem.run_bind, run_underlying hd, Result.andThen_ok]
      cases d <;> first | rfl | exact absurd rfl (hni _)
  · cases h

theorem makeFunc_sound (hr : HR E C) (hf : FrameR C lam st a) {f : Fn} {ys zs : Array Operand} (ho : o.op = .makeFunc f ys zs)
    (h : opK E cf site o st C.H (fun x s G => some (x, s, G)) = some (x, st', H')) : o.wp E.P a C.w (Post E C (stPut st' o.dst x) H') Q := by
  unfold opK at h
  simp only [ho] at h
  split at h
  · rename_i vy vz hy hz
    refine pure_wp (u := .func f (ys.map a.eval) (zs.map a.eval)) hr hf h ?_ (.fn _ _ _ _ _ _ (by simpa using evals_ok hr hf hy) (by simpa using evals_ok hr hf hz))
    unfold execOp
    simp only [ho]
    exact run_v rfl
  · cases h

theorem elem_slice {t e : TypeId} (he : E.elem t = some e) : E.P.underlying t = some (.slice e) := by
  unfold Env.elem at he
  split at he
  · rename_i e' h1
    simp only [Option.some.injEq] at he
    rw [h1, he]
  · cases he

theorem makeSlice_sound (hr : HR E C) (hf : FrameR C lam st a) {t : TypeId} {y z : Operand} (ho : o.op = .makeSlice t y z)
    (h : opK E cf site o st C.H (fun x s G => some (x, s, G)) = some (x, st', H')) : o.wp E.P a C.w (Post E C (stPut st' o.dst x) H') Q := by
  unfold opK at h
  simp only [ho] at h
  split at h
  · rename_i e he
    split at h
    · rename_i sz by_ zv vl vc hsz hby hz hl hc
      cases hcd : (zv.cells.length == sz && decide (0 < sz))
      · simp only [hcd, cond_false] at h
        cases h
      · simp only [hcd, cond_true] at h
        simp only [Bool.and_eq_true, beq_iff_eq, decide_eq_true_eq] at hcd
        split at h
        · rename_i w H1 hm
          obtain ⟨u, C', g1, g2, g3, g4, g5⟩ := makeSlice_ok hr (elem_slice he) hsz hby hz hcd.1 hcd.2 hm (eval_ok hr hf hl) (eval_ok hr hf hc)
          exact make_wp hf h (by unfold execOp; simp only [ho]; exact run_v g1) g3 g4 g5 g2
        · cases h
    · cases h
  · cases h

theorem slice_sound (hr : HR E C) (hf : FrameR C lam st a) {t : TypeId} {y : Operand} {lo hi mx : Option Operand} (ho : o.op = .slice t y lo hi mx)
    (h : opK E cf site o st C.H (fun x s G => some (x, s, G)) = some (x, st', H')) : o.wp E.P a C.w (Post E C (stPut st' o.dst x) H') Q := by
  unfold opK at h
  simp only [ho] at h
  split at h
  · rename_i v l hh m hv hl hhi hm
    obtain ⟨k1, _⟩ := opt_evals hr hf hl
    obtain ⟨k2, e2⟩ := opt_evals hr hf hhi
    obtain ⟨k3, e3⟩ := opt_evals hr hf hm
    split at h
    · rename_i ht
      split at h
      · obtain ⟨v', hv', h⟩ := withV_some h
        obtain ⟨u, g1, g2⟩ := sliceStr_ok ht k1 k2 hv' (eval_ok hr hf hv)
        have : mx = none := e3.1 rfl
        subst this
        exact pure_wp hr hf h (by unfold execOp; simp only [ho]; exact run_v g1) g2
      · cases h
    · rename_i e ht
      split at h
      · rename_i sz hsz
        cases hc : (m.isEmpty || !hh.isEmpty)
        · simp only [hc, cond_false] at h
          cases h
        · simp only [hc, cond_true] at h
          obtain ⟨v', hv', h⟩ := withV_some h
          obtain ⟨u, g1, g2⟩ := slice_ok ht hsz k1 k2 k3 (by
            cases m with
            | nil => exact .inl rfl
            | cons _ _ => cases hh with
              | nil => simp at hc
              | cons _ _ => exact .inr (by simp)) hv' (eval_ok hr hf hv)
          exact pure_wp hr hf h (by unfold execOp; simp only [ho]; exact run_v g1) g2
      · cases h
    · cases h
  · cases h

theorem fieldAddr_sound (hr : HR E C) (hf : FrameR C lam st a) {s : TypeId} {y : Operand} {i : Nat} (ho : o.op = .fieldAddr s y i)
    (h : opK E cf site o st C.H (fun x s G => some (x, s, G)) = some (x, st', H')) : o.wp E.P a C.w (Post E C (stPut st' o.dst x) H') Q := by
  unfold opK at h
  simp only [ho] at h
  have hrun : ∀ u, (Instr.fieldAt s (a.eval y) i).run E.P C.w = .ok u C.w → (execOp a.eval o).run E.P C.w = .ok (.value u) C.w := fun u hn => by
    unfold execOp
    simp only [ho]
    exact run_v hn
  split at h
  · rename_i fo hfo
    cases y with
    | tmp t =>
      dsimp only at h
      split at h
      · rename_i s1 off hw
        obtain ⟨h1, h2⟩ := slot_lp hf hw
        exact lpe_wp hr hf h (hrun _ (by rw [h1, fieldOff_run hfo, Addr.add_lit])) h2
      · rename_i w hw
        obtain ⟨v, hv, h⟩ := withV_some h
        obtain ⟨u, g1, g2⟩ := fa_ok hfo hv (slot_val hf hw)
        exact pure_wp hr hf h (hrun u g1) g2
      · cases h
    | _ =>
      dsimp only at h
      split at h
      · rename_i w hw
        obtain ⟨v, hv, h⟩ := withV_some h
        obtain ⟨u, g1, g2⟩ := fa_ok hfo hv (eval_ok hr hf hw)
        exact pure_wp hr hf h (hrun u g1) g2
      · cases h
  · cases h

theorem field_sound (hr : HR E C) (hf : FrameR C lam st a) {t : TypeId} {y : Operand} {i : Nat} (ho : o.op = .field t y i)
    (h : opK E cf site o st C.H (fun x s G => some (x, s, G)) = some (x, st', H')) : o.wp E.P a C.w (Post E C (stPut st' o.dst x) H') Q := by
  unfold opK at h
  simp only [ho] at h
  split at h
  · rename_i f hfo
    split at h
    · rename_i ag sz vy hag hsz hy
      obtain ⟨v, hv, h⟩ := withV_some h
      obtain ⟨u, g1, g2⟩ := field_ok hfo hag hsz hv (eval_ok hr hf hy)
      exact pure_wp hr hf h (by unfold execOp; simp only [ho]; exact run_v g1) g2
    · cases h
  · cases h

theorem indexAddr_sound (hr : HR E C) (hf : FrameR C lam st a) {t : TypeId} {y z : Operand} (ho : o.op = .indexAddr t y z)
    (h : opK E cf site o st C.H (fun x s G => some (x, s, G)) = some (x, st', H')) : o.wp E.P a C.w (Post E C (stPut st' o.dst x) H') Q := by
  unfold opK at h
  simp only [ho] at h
  have hrun : ∀ u, (Instr.indexAt t (a.eval y) (a.eval z)).run E.P C.w = .ok u C.w → (execOp a.eval o).run E.P C.w = .ok (.value u) C.w := fun u hn => by
    unfold execOp
    simp only [ho]
    exact run_v hn
  split at h
  · rename_i vi hi
    split at h
    · rename_i e ht
      split at h
      · rename_i sz vy hsz hy
        obtain ⟨v, hv, h⟩ := withV_some h
        obtain ⟨u, g1, g2⟩ := idx_ok ht hsz hv (eval_ok hr hf hy) (eval_ok hr hf hi)
        exact pure_wp hr hf h (hrun u g1) g2
      · cases h
    · rename_i n e ht
      split at h
      · rename_i sz q hsz
        split at h
        · rename_i s1 off hw
          obtain ⟨h1, h2⟩ := slot_lp hf hw
          split at h
          · rename_i k j
            split at h
            · rename_i hj
              have hi' := (eval_ok hr hf hi).int_inv
              refine lpe_wp hr hf h (hrun _ ?_) h2
              rw [h1, hi', idxArr_lp ht hsz hj, Addr.add_lit]
            · cases h
          · cases h
        · rename_i w hw
          obtain ⟨v, hv, h⟩ := withV_some h
          obtain ⟨u, g1, g2⟩ := idxArr_ok ht hsz hv (slot_val hf hw) (eval_ok hr hf hi)
          exact pure_wp hr hf h (hrun u g1) g2
        · cases h
      · rename_i sz hsz _
        split at h
        · rename_i w hw
          obtain ⟨v, hv, h⟩ := withV_some h
          obtain ⟨u, g1, g2⟩ := idxArr_ok ht hsz hv (eval_ok hr hf hw) (eval_ok hr hf hi)
          exact pure_wp hr hf h (hrun u g1) g2
        · cases h
      · cases h
    · cases h
  · cases h

theorem index_sound (hr : HR E C) (hf : FrameR C lam st a) {t : TypeId} {y z : Operand} (ho : o.op = .index t y z)
    (h : opK E cf site o st C.H (fun x s G => some (x, s, G)) = some (x, st', H')) : o.wp E.P a C.w (Post E C (stPut st' o.dst x) H') Q := by
  unfold opK at h
  simp only [ho] at h
  have hrun : ∀ u, (Instr.index t (a.eval y) (a.eval z)).run E.P C.w = .ok u C.w → (execOp a.eval o).run E.P C.w = .ok (.value u) C.w := fun u hn => by
    unfold execOp
    simp only [ho]
    exact run_v hn
  split at h
  · rename_i vy vi hy hi
    split at h
    · rename_i ht
      obtain ⟨v, hv, h⟩ := withV_some h
      obtain ⟨u, g1, g2⟩ := index_ok ht hv (eval_ok hr hf hy) (eval_ok hr hf hi)
      exact pure_wp hr hf h (hrun u g1) g2
    · rename_i n e ht
      split at h
      · rename_i ag sz hag hsz
        obtain ⟨v, hv, h⟩ := withV_some h
        obtain ⟨u, g1, g2⟩ := indexArr_ok ht hag hsz hv (eval_ok hr hf hy) (eval_ok hr hf hi)
        exact pure_wp hr hf h (hrun u g1) g2
      · cases h
    · cases h
  · cases h

theorem extract_sound (hr : HR E C) (hf : FrameR C lam st a) {y : Operand} {i : Nat} (ho : o.op = .extract y i)
    (h : opK E cf site o st C.H (fun x s G => some (x, s, G)) = some (x, st', H')) : o.wp E.P a C.w (Post E C (stPut st' o.dst x) H') Q := by
  unfold opK at h
  simp only [ho] at h
  split at h
  · rename_i vs hy
    obtain ⟨v, hv, h⟩ := withV_some h
    have hu := eval_ok hr hf hy
    generalize hay : a.eval y = uy at hu
    cases hu with
    | tup _ _ us h1 =>
      obtain ⟨u, g1, g2⟩ := h1.get hv
      refine pure_wp hr hf h ?_ g2
      unfold execOp
      simp only [ho, hay]
      refine run_v ?_
      unfold Instr.extract
      rw [Array.getElem?_toList] at g1
      simp only [g1, Sem.run_pure]
  · cases h

theorem typeAssert_sound (hr : HR E C) (hf : FrameR C lam st a) {y : Operand} {xt t : TypeId} {ok : Bool} (ho : o.op = .typeAssert y xt t ok)
    (h : opK E cf site o st C.H (fun x s G => some (x, s, G)) = some (x, st', H')) : o.wp E.P a C.w (Post E C (stPut st' o.dst x) H') Q := by
  unfold opK at h
  simp only [ho] at h
  have hrun : ∀ u, (Instr.typeAssert (a.eval y) xt t ok).run E.P C.w = .ok u C.w → (execOp a.eval o).run E.P C.w = .ok (.value u) C.w := fun u hn => by
    unfold execOp
    simp only [ho]
    exact run_v hn
  split at h
  · rename_i d w u hy ht
    have hu := eval_ok hr hf hy
    generalize hay : a.eval y = uy at hu hrun
    cases hu with
    | iface _ _ _ uw hw =>
      split at h
      · cases h
      · rename_i hni
        cases ok
        · simp only [cond_false] at h
          split at h
          · rename_i hd
            refine pure_wp hr hf h (hrun uw ?_) hw
            unfold Instr.typeAssert
            simp only [Sem.run_bind, run_underlying ht, Result.andThen_ok]
            cases u <;> first | exact absurd rfl (hni _) | (simp only [hd, if_true, Sem.run_pure]; rfl)
          · cases h
        · simp only [cond_true] at h
          split at h
          · rename_i hd
            refine pure_wp hr hf h (hrun (.tuple #[uw, .bool true]) ?_) (.tup _ _ _ (.cons _ _ _ _ _ hw (.cons _ _ _ _ _ (.bool _ _) (.nil _))))
            unfold Instr.typeAssert
            simp only [Sem.run_bind, run_underlying ht, Result.andThen_ok]
            cases u <;> first | exact absurd rfl (hni _) | (simp only [hd, if_true, Sem.run_pure])
          · rename_i hd
            split at h
            · rename_i z hz
              obtain ⟨zv, k1, k2⟩ := zero_run hz C.w
              refine pure_wp hr hf h (hrun (.tuple #[zv, .bool false]) ?_) (.tup _ _ _ (.cons _ _ _ _ _ k2.weaken (.cons _ _ _ _ _ (.bool _ _) (.nil _))))
              unfold Instr.typeAssert
              simp only [Sem.run_bind, run_underlying ht, Result.andThen_ok]
              cases u <;> first | exact absurd rfl (hni _) | (simp only [hd, if_false, if_true, Sem.run_bind, k1, Result.andThen_ok, Sem.run_pure])
            · cases h
  · cases h

end
end Go.Den
