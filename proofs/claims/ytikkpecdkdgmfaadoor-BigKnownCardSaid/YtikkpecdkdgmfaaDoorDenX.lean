/- DEN, part X: a function's call. -/
import Derived.Test.YtikkpecdkdgmfaaDoorDenU
namespace Go.Den
open Go.RowKit

section
variable {E : Env} {cf : CallFn} {C C' : Ctx} {lam : Nat → Nat} {st : St} {a : Act} {Q : Exit → Act → World → Prop} {st' : St} {H' : Heap}

theorem loadAt_asAddr {P : Program} {t : TypeId} {u0 u : Value} {w w' : World} (h : (Instr.loadAt t u0).run P w = .ok u w') : (do loadVar t (← asAddr u0) : Sem Value).run P w = .ok u w' := by
  unfold Instr.loadAt Instr.sureAddr at h
  split at h
  · exact h
  all_goals simp [Sem.run_bind] at h

theorem resultVar_ok (hr : HR E C) (hf : FrameR C lam st a) {r : ResultVar} {v : AV} (h : resultVar E st C.H r = some v) :
    ∃ u, ((match r with
      | .tmp t => pure (a.tmps.getD t undef)
      | .cell x t => do loadVar t (← asAddr (a.tmps.getD x undef))) : Sem Value).run E.P C.w = .ok u C.w ∧ V C false v u := by
  cases r with
  | tmp t =>
    unfold resultVar at h
    dsimp only at h
    split at h
    · rename_i w hw
      simp only [Option.some.injEq] at h
      subst h
      exact ⟨_, rfl, slot_val hf hw⟩
    · cases h
  | cell x t =>
    unfold resultVar at h
    dsimp only at h
    split at h
    · rename_i ag sz hag hsz
      split at h
      · rename_i s off hw
        split at h
        · rename_i cs hcs
          obtain ⟨u, g1, g2⟩ := loc_load hf hcs hag hsz h
          have h1 : a.tmps.getD x undef = _ := (slot_lp hf hw).1
          refine ⟨u, ?_, g2⟩
          simp only [h1]
          exact g1
        · cases h
      · rename_i p hw
        obtain ⟨u, g1, g2⟩ := loadH_ok hr hag hsz h (slot_val hf hw)
        exact ⟨u, loadAt_asAddr g1, g2⟩
      · cases h
    · cases h

theorem resultVars_ok (hr : HR E C) (hf : FrameR C lam st a) {R : Type} {k : List AV → Option R} {x : R} : ∀ (rs : List ResultVar) (acc : List AV), resultVars E st C.H rs acc k = some x →
    ∃ ws us, k (acc.reverse ++ ws) = some x ∧ Vs C false ws us ∧ (rs.mapM fun
      | .tmp t => pure (a.tmps.getD t undef)
      | .cell x t => do loadVar t (← asAddr (a.tmps.getD x undef)) : Sem (List Value)).run E.P C.w = .ok us C.w
  | [], acc, h => ⟨[], [], by simpa [resultVars] using h, .nil _, rfl⟩
  | r :: rs, acc, h => by
    unfold resultVars at h
    split at h
    · rename_i v hv
      obtain ⟨u, g1, g2⟩ := resultVar_ok hr hf hv
      obtain ⟨ws, us, k1, k2, k3⟩ := resultVars_ok hr hf rs _ h
      refine ⟨v :: ws, u :: us, by simpa using k1, .cons _ _ _ _ _ g2 k2, ?_⟩
      rw [List.mapM_cons, Sem.run_bind, g1]
      simp only [Result.andThen_ok, Sem.run_bind, k3, Sem.run_pure]
    · cases h

theorem one_or_tup {ws : List AV} {us : List Value} (h : Vs C false ws us) : V C false (oneOrTup ws) (if h : us.toArray.size = 1 then us.toArray[0] else .tuple us.toArray) := by
  cases h with
  | nil => exact .tup _ _ _ (.nil _)
  | cons _ v u vs us h1 h2 =>
    cases h2 with
    | nil => exact h1
    | cons _ v2 u2 vs2 us2 h3 h4 =>
      rw [dif_neg (by simp)]
      exact .tup _ _ _ (.cons _ _ _ _ _ h1 (.cons _ _ _ _ _ h3 h4))

theorem start_slots {d : Nat} : ∀ (vs : List AV) (i : Nat) (T : Tr SV) (t : Nat), Tr.get .no (startSlots d vs i T) t = Tr.get .no T t ∨ Tr.get .no (startSlots d vs i T) t = .no ∨ ∃ v, vs[t - i]? = some v ∧ i ≤ t ∧ Tr.get .no (startSlots d vs i T) t = .val v
  | [], i, T, t => .inl rfl
  | v :: vs, i, T, t => by
    unfold startSlots
    rcases start_slots vs (i + 1) (T.set i (.val v)) t with h | h | ⟨w, h1, h2, h3⟩
    · by_cases e : i = t
      · subst e
        rcases Tr.get_set_self (z := SV.no) (t := T) (i := i) (x := .val v) with g | g
        · exact .inr (.inr ⟨v, by simp, Nat.le_refl _, h.trans g⟩)
        · exact .inr (.inl (h.trans g.1))
      · exact .inl (h.trans (Tr.get_set_ne e))
    · exact .inr (.inl h)
    · refine .inr (.inr ⟨w, ?_, by omega, h3⟩)
      rw [show t - i = (t - (i + 1)) + 1 by omega]
      simpa using h1

theorem start_ok {d N : Nat} {args : List AV} {us : Array Value} (hv : Vs C false args us.toList) (hle : args.length ≤ N) : FrameR C lam (St.start d N args) { tmps := us ++ Array.replicate (N - us.size) undef, defers := [] } := by
  have hl : us.size = args.length := by rw [← Array.length_toList]; exact hv.length
  refine ⟨by simp [St.start]; omega, rfl, fun t => ?_, fun s cs hs => ?_⟩
  · unfold SlotOk
    have : (St.start d N args).get t = Tr.get .no (startSlots d args 0 (Tr.full .no d)) t := rfl
    rcases start_slots (d := d) args 0 (Tr.full .no d) t with h | h | ⟨v, h1, _, h3⟩
    · rw [this, h, Tr.get_full]
      trivial
    · rw [this, h]
      trivial
    · rw [this, h3]
      dsimp only
      obtain ⟨u, g1, g2⟩ := hv.get h1
      have : (us ++ Array.replicate (N - us.size) undef).getD t undef = u := by
        rw [Array.getD_eq_getD_getElem?]
        rw [Array.getElem?_toList] at g1
        simp only [Nat.sub_zero] at g1
        rw [Array.getElem?_append_left (Array.getElem?_eq_some_iff.1 g1).1, g1]
        rfl
      rw [this]
      exact g2
  · have : (St.start d N args).var s = Tr.get none (Tr.full none d) s := rfl
    rw [this, Tr.get_full] at hs
    cases hs

/-- What must stand of the program and what is said of it. -/
structure EnvOK (E : Env) : Prop where
  codes : ∀ (f : FuncId) (fn : Func) (c : Code), E.P.funcs[f]? = some fn → fn.body = some c → codeOk (E.ann f).draws (staticOk E (E.ann f).sites) c = true
  names : ∀ (f : FuncId) (fn : Func) (c : Code), E.P.funcs[f]? = some fn → fn.body = some c → fn.name ≠ "runtime.NumGoroutine"

theorem callF_step (hE : EnvOK E) (n : Nat) (hck : CallKOK E (callF E n)) (hD : ∀ f, DrawOK E (callF E n) (E.ann f) (staticOk E (E.ann f).sites)) : CallOK E (callF E (n + 1)) := by
  intro f args C us v H' h hr hn hv
  unfold callF at h
  split at h
  · rename_i fn hfn
    split at h
    · rename_i c hc
      split at h
      · rename_i hle
        have hrun : (callFunc f us).run E.P C.w = .ok (.enter f us) C.w := by
          have hpr : program.run E.P C.w = .ok E.P C.w := rfl
          have hnm := hE.names f fn c hfn hc
          unfold callFunc
          simp only [Sem.run_bind, hpr, Result.andThen_ok, hfn]
          rw [if_neg (by simpa using hnm), if_neg (by simp [hc])]
          rfl
        refine .inl ⟨hrun, calls_of_wp hfn hc ?_⟩
        obtain ⟨e, s1, H1, h1, h2⟩ := exec_split (callF_nat n) h
        refine exec_sound (callF_nat n) hck n (E.ann f) (hD f) c _ _ C (fun _ => 0) _ _ e s1 H1 (hE.codes f fn c hfn hc) h1 hr (start_ok hv hle) fun a' w' hp => ?_
        obtain ⟨C1, lam1, rfl, rfl, g3, g4, g5⟩ := hp
        have fin : resultVars E s1 C1.H fn.results.toList [] (fun vs => some (oneOrTup vs, C1.H)) = some (v, H') → a'.defers = [] ∧ ∃ u, (results fn a'.tmps).run E.P C1.w = .ok u C1.w ∧ ∃ u', Ending.returned u = .returned u' ∧ Gives E C v H' u' C1.w := fun h2 => by
          obtain ⟨ws, us', k1, k2, k3⟩ := resultVars_ok g3 g5 _ _ h2
          simp only [List.reverse_nil, List.nil_append, Option.some.injEq, Prod.mk.injEq] at k1
          obtain ⟨rfl, rfl⟩ := k1
          refine ⟨g5.defers, _, ?_, _, rfl, C1.strip, rfl, rfl, (one_or_tup k2).evV strip_evV, strip_hr g3, ?_, strip_noLoc⟩
          · unfold results
            rw [Array.mapM_eq_mapM_toList]
            simp only [Sem.run_bind, Sem.run_map, Sem.run_pure]
            exact (congrArg (fun r => Result.andThen (Result.andThen r fun a w' => Result.ok a.toArray w') fun a w' => Result.ok (if h : a.size = 1 then a[0] else Value.tuple a) w') k3)
          · refine ⟨g4.os, g4.tape, g4.output, g4.size, fun b hb hk => ?_, g4.hlen, g4.rows, g4.iters, g4.maps⟩
            obtain ⟨m1, m2⟩ := g4.keep b hb hk
            exact ⟨m1, (strip_of rfl (fun s e => by rw [m2] at e; rcases hk with hk | hk <;> rw [hk] at e <;> cases e)).trans m2⟩
        cases e with
        | normal => exact fin h2
        | exit id => cases h2
        | ret => exact fin h2
      · cases h
    · cases h
  · cases h

end
end Go.Den
