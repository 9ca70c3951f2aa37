/- Texts put together: DenRb, DenQ, DenRa, DenR, DenS, DenU, DenX. -/
import Derived.Test.YtikkpecdkdgmfaaDoorMb
import Derived.Scope
import Derived.LoopN

/- DEN, part Rb: slices of arrays. -/
namespace Go.Den
open Go.RowKit
section
variable {E : Env} {C : Ctx} {p : Bool}
def Ctx.retype (C : Ctx) (id : Nat) (ty : TypeId) (cs : List AV) : Ctx :=
  { w := C.w, κ := fun b => if b = (C.ρ id).1 then .obj C.H.length else C.κ b, ρ := fun j => if j = C.H.length then C.ρ id else C.ρ j, H := C.H.set id .dead ++ [.row 0 1 ty cs] }
theorem retype_ok (hr : HR E C) {id w sz : Nat} {ty : TypeId} {cs rest : List AV} (hrow : C.H[id]? = some (.row w sz ty (.agg cs :: rest))) : HR E (C.retype id ty cs) ∧ EvL C (C.retype id ty cs) := by
  have hid : id < C.H.length := (List.getElem?_eq_some_iff.1 hrow).1
  obtain ⟨hz, hg, hk, cur, fr, us, hcur, hfz, hus, hcell⟩ := hr.row id w sz ty _ hrow
  have hne : ∀ b i, C.κ b = .obj i → i ≠ id → b ≠ (C.ρ id).1 := fun b i hb hi e => by
    rw [e, hk] at hb
    injection hb with hb
    exact hi hb.symm
  have hlt : (C.ρ id).1 < C.w.heap.size := (Array.getElem?_eq_some_iff.1 hcur).1
  have hget : ∀ {i : Nat} {o : HObj}, (C.H.set id HObj.dead ++ [HObj.row 0 1 ty cs])[i]? = some o → (i ≠ id ∧ i < C.H.length ∧ C.H[i]? = some o) ∨ (i = id ∧ o = .dead) ∨ (i = C.H.length ∧ o = .row 0 1 ty cs) := fun {i o} h => by
    rcases q3j h with ⟨h1, h2⟩ | ⟨h1, h2⟩
    · rw [List.length_set] at h2
      by_cases e : i = id
      · subst e
        rw [List.getElem?_set_self hid] at h1
        injection h1 with h1
        exact .inr (.inl ⟨rfl, h1.symm⟩)
      · rw [List.getElem?_set_ne (fun e' => e e'.symm)] at h1
        exact .inl ⟨e, h2, h1⟩
    · rw [List.length_set] at h1
      exact .inr (.inr ⟨h1, h2.symm⟩)
  have hρ : ∀ i, i ≠ C.H.length → (C.retype id ty cs).ρ i = C.ρ i := fun i hi => by show (if i = _ then _ else _) = _; rw [if_neg hi]
  have hκ : ∀ b, b ≠ (C.ρ id).1 → (C.retype id ty cs).κ b = C.κ b := fun b hb => by show (if b = _ then _ else _) = _; rw [if_neg hb]
  have ev : Ev C (C.retype id ty cs) := by
    refine ⟨rfl, rfl, rfl, Nat.le_refl _, fun b hb hk' => ⟨rfl, hκ b fun e => ?_⟩, by show _ ≤ (C.H.set id HObj.dead ++ [_]).length; simp, ?_, ?_⟩
    · rw [e, hk] at hk'
      rcases hk' with hk' | hk' <;> cases hk'
    · intro i hi v sz' ty' es h
      rcases hget h with ⟨_, _, h1⟩ | ⟨_, h1⟩ | ⟨h1, _⟩
      · exact ⟨v, es, h1, Nat.le_refl _, fun _ => ⟨hρ i (by omega), fun cells t f hc => ⟨cells, t, f, hc, rfl⟩⟩⟩
      · cases h1
      · omega
    · intro i hi o ho h
      rcases hget h with ⟨_, _, h1⟩ | ⟨_, h1⟩ | ⟨h1, _⟩
      · exact ⟨⟨o, h1, rfl⟩, hρ i (by omega)⟩
      · subst h1; cases ho
      · omega
  refine ⟨hr.step ev ?_ ?_ ?_, ev, fun b hb s hs => ⟨rfl, (hκ b fun e => by rw [e, hk] at hs; cases hs).trans hs⟩⟩
  · intro i v sz' ty' es h
    rcases hget h with ⟨hi, hl, h1⟩ | ⟨_, h1⟩ | ⟨h1, h2⟩
    · have hk1 := (hr.row i v sz' ty' es h1).2.2.1
      exact .inl ⟨h1, hρ i (by omega), (hκ _ (hne _ i hk1 hi)).trans hk1, rfl⟩
    · cases h1
    · subst h1
      injection h2.symm with e1 e2 e3 e4
      obtain rfl := e1
      obtain rfl := e2
      subst e3
      subst e4
      have hplace : (C.retype id ty cs).ρ C.H.length = C.ρ id := by show (if _ = _ then _ else _) = _; rw [if_pos rfl]
      have hga := hg _ List.mem_cons_self
      rw [List.flatMap_cons] at hus
      have hv := hus.split.1
      have hfl : cs.flatMap AV.cells = cs := by
        have h1 := hga.2
        change ∀ c ∈ cs, c.one = true at h1
        clear hus hv hg hga hrow hget hne ev hρ hκ hplace h h2
        induction cs with
        | nil => rfl
        | cons c cs ih =>
          rw [List.flatMap_cons, ih (fun x hx => h1 x (List.mem_cons_of_mem _ hx))]
          have := h1 c List.mem_cons_self
          cases c <;> first | rfl | (simp [AV.one] at this)
      refine .inr ⟨⟨Nat.one_pos, fun e he => ?_, ?_, cur, fr, us.take cs.length, ?_, hfz, ?_, ?_⟩, ?_⟩
      · have := hga.2 e he
        refine ⟨?_, fun c hc => ?_⟩
        · cases e <;> first | rfl | (simp [AV.one] at this)
        · have hce : e.cells = [e] := by cases e <;> first | rfl | (simp [AV.one] at this)
          rw [hce] at hc
          simp only [List.mem_cons, List.not_mem_nil, or_false] at hc
          rw [hc]
          exact this
      · rw [hplace]
        show (if _ = _ then _ else _) = _
        rw [if_pos rfl]
      · rw [hplace]
        exact hcur
      · rw [hfl]
        exact hv.ev ev
      · intro j u hu
        rw [hplace]
        rw [List.getElem?_take] at hu
        split at hu
        · exact hcell j u hu
        · cases hu
      · rw [hplace]
        exact Nat.mod_one _
  · intro i o ho h
    rcases hget h with ⟨hi, hl, h1⟩ | ⟨_, h1⟩ | ⟨_, h2⟩
    · have hk1 := (hr.oth i o ho h1).1
      exact .inl ⟨h1, hρ i (by omega), (hκ _ (hne _ i hk1 hi)).trans hk1, rfl⟩
    · subst h1; cases ho
    · subst h2; cases ho
  · intro b hb
    have hb' : C.w.heap.size ≤ b := hb
    exact (hκ b (by omega)).trans (hr.new b hb')
theorem qfr (hr : HR E C) {t e : TypeId} {n : Nat} {x : AV} {q : AV × Heap} {lo hi : Option AV} {ulo uhi : Option Value} {u0 : Value} (ht : E.P.underlying t = some (.array n e)) (hsz : E.size e = some 1) (hlo : OptV C lo ulo) (hhi : OptV C hi uhi)
    (h : A.sliceArr n x lo hi C.H = some q) (hx : V C p x u0) : ∃ u C', (Instr.sliceAt t u0 ulo uhi none).run E.P C.w = .ok u C'.w ∧ HR E C' ∧ EvL C C' ∧ C'.H = q.2 ∧ V C' false q.1 u := by
  unfold A.sliceArr at h
  split at h
  · rename_i id ver
    split at h
    · rename_i w sz ty cs rest hrow
      simp only [Option.bind_eq_some_iff] at h
      obtain ⟨a, ha, b, hb, h⟩ := h
      split at h
      · rename_i hc
        obtain ⟨rfl, rfl, hab, hbn, hn, hn0⟩ := hc
        simp only [Option.some.injEq] at h
        subst h
        obtain ⟨k1, k2⟩ := retype_ok hr hrow
        obtain ⟨hz, hg, hk, cur, fr, us, hcur, hfz, hus, hcell⟩ := hr.row id w sz ty _ hrow
        cases hx with
        | ptr _ _ _ _ _ g0 g1 =>
          have hu := (g1.2 w sz ty _ hrow).2 rfl
          simp only [Nat.zero_mul, Nat.add_zero] at hu
          subst hu
          have hbr := q2v (P := E.P) (w := C.w) (isSl := false) (C := C) (len := sz) (cap := sz) (ccap := sz) (mx := none) (umx := none) hlo hhi trivial ha hb rfl (.inl rfl) hab hbn (Nat.le_refl _) (Nat.le_refl _)
          refine ⟨.slice (some (if sz = a then ⟨(C.ρ id).1, (C.ρ id).2, none⟩ else (⟨(C.ρ id).1, (C.ρ id).2, none⟩ : Addr).add (a * 1))) (b - a) (sz - a), _, ?_, k1, k2, rfl, .sl _ _ _ _ _ _ rfl ⟨by simp [Ctx.retype], fun v sz' ty' es' hx => ?_⟩⟩
          · simp only [Instr.sliceAt, Sem.run_bind, run_underlying ht, Result.andThen_ok, Instr.sureAddr, hbr, if_true, q13 hsz, Sem.run_pure]
            rfl
          · have hx' : (C.H.set id HObj.dead ++ [HObj.row 0 1 ty cs])[C.H.length]? = some (.row v sz' ty' es') := hx
            rw [List.getElem?_append_right (by simp)] at hx'
            simp only [List.length_set, Nat.sub_self, List.getElem?_cons_zero, Option.some.injEq, HObj.row.injEq] at hx'
            obtain ⟨rfl, rfl, rfl, rfl⟩ := hx'
            have hplace : (C.retype id ty cs).ρ C.H.length = C.ρ id := by show (if _ = _ then _ else _) = _; rw [if_pos rfl]
            refine ⟨Nat.le_refl _, fun _ => ⟨_, sz - a, rfl, by omega, Nat.le_refl _, by unfold maxLen; omega, fun h0 => ?_, fun cells t' f hc => ?_⟩⟩
            · rw [if_neg (by omega), hplace, Addr.add_lit]
            · rw [hplace] at hc ⊢
              have hcs : cs.length = sz := (hg _ List.mem_cons_self).1
              have hc' := hcur.symm.trans hc
              injection hc' with hc'
              injection hc' with q1 _ _
              subst q1
              have hl : us.length = ((AV.agg cs :: rest).flatMap AV.cells).length := hus.length
              rw [List.flatMap_cons, List.length_append] at hl
              have hl2 : (AV.agg cs).cells.length = sz := hcs
              have := hcell (sz - 1) us[sz - 1] (List.getElem?_eq_getElem (by omega))
              have := (Array.getElem?_eq_some_iff.1 this).1
              omega
      · cases h
    · cases h
  · cases h
theorem q7a {sz : Nat} : ∀ {m : Nat} {cs : List AV}, m * sz ≤ cs.length → (A.chunks sz m cs).flatMap AV.cells = cs.take (m * sz)
  | 0, cs, _ => by simp [A.chunks]
  | m + 1, cs, h => by
    have e : (m + 1) * sz = sz + m * sz := by rw [Nat.succ_mul, Nat.add_comm]
    rw [e] at h ⊢
    rw [A.chunks, List.flatMap_cons, q7a (by simp; omega), List.take_add]
    rfl
theorem q5k {sz : Nat} : ∀ {m : Nat} {cs : List AV}, (A.chunks sz m cs).length = m
  | 0, _ => rfl
  | m + 1, cs => by rw [A.chunks, List.length_cons, q5k]
theorem q8b {sz : Nat} : ∀ {m : Nat} {cs : List AV}, m * sz ≤ cs.length → (∀ c ∈ cs, c.one = true) → ∀ e ∈ A.chunks sz m cs, e.cells.length = sz ∧ ∀ c ∈ e.cells, c.one = true
  | 0, _, _, _, e, he => by cases he
  | m + 1, cs, h, hc, e, he => by
    have e1 : (m + 1) * sz = sz + m * sz := by rw [Nat.succ_mul, Nat.add_comm]
    rw [e1] at h
    rw [A.chunks] at he
    rcases List.mem_cons.1 he with rfl | he
    · exact ⟨by show (cs.take sz).length = sz; simp; omega, fun c hm => hc c (List.mem_of_mem_take hm)⟩
    · exact q8b (by simp; omega) (fun c hm => hc c (List.mem_of_mem_drop hm)) e he
theorem qfs {t e : TypeId} {n sz : Nat} {x q : AV} {lo hi : Option AV} {ulo uhi : Option Value} {u0 : Value} (ht : E.P.underlying t = some (.array n e)) (hsz : E.size e = some sz) (hlo : OptV C lo ulo) (hhi : OptV C hi uhi)
    (h : A.sliceRop sz n x lo hi = some q) (hx : V C p x u0) : ∃ u, (Instr.sliceAt t u0 ulo uhi none).run E.P C.w = .ok u C.w ∧ V C true q u := by
  unfold A.sliceRop at h
  split at h
  case h_2 => cases h
  rename_i cs
  simp only [Option.bind_eq_some_iff] at h
  obtain ⟨a, ha, b, hb, h⟩ := h
  split at h
  · rename_i hc
    obtain ⟨hab, hbn, hn, hz, hlen⟩ := hc
    simp only [Option.some.injEq] at h
    subst h
    cases hx with
    | rop _ _ ad us h0 h1 h2 h3 h4 =>
      have hbr := q2v (P := E.P) (w := C.w) (isSl := false) (C := C) (len := n) (cap := n) (ccap := n) (mx := none) (umx := none) hlo hhi trivial ha hb rfl (.inl rfl) hab hbn (Nat.le_refl _) (Nat.le_refl _)
      have hmul : (b - a) * sz ≤ (cs.drop (a * sz)).length := by
        have h5 : b * sz ≤ n * sz := Nat.mul_le_mul_right _ hbn
        have h6 : (b - a) * sz = b * sz - a * sz := Nat.sub_mul ..
        rw [List.length_drop]
        omega
      have hl := q5k (sz := sz) (m := b - a) (cs := cs.drop (a * sz))
      have hblk : (if n = a then ad else ad.add (a * sz)).block = ad.block := by unfold Addr.add; split <;> (try split) <;> rfl
      refine ⟨.slice (some (if n = a then ad else ad.add (a * sz))) (b - a) (n - a), ?_, ?_⟩
      · simp only [Instr.sliceAt, Sem.run_bind, run_underlying ht, Result.andThen_ok, Instr.sureAddr, hbr, q13 hsz, Sem.run_pure]
        rfl
      · have key := V.sh (C := C) true sz (A.chunks sz (b - a) (cs.drop (a * sz))) (if n = a then ad else ad.add (a * sz)) (n - a) ((us.drop (a * sz)).take ((b - a) * sz))
          (by rw [q7a hmul]; exact (h1.drop _).take _)
          (q8b hmul fun c hc => h0 c (List.mem_of_mem_drop hc))
          (fun j u hu => by
            rw [List.getElem?_take] at hu
            split at hu
            · rename_i hj
              rw [if_neg (fun e => by
                subst e
                have : b - n = 0 := by omega
                rw [this] at hj
                omega)]
              rw [List.getElem?_drop] at hu
              rw [q6l]
              exact h2 _ u hu
            · cases hu)
          (fun _ => by rw [hblk]; exact ⟨h3, h4⟩) (by rw [hl]; omega) (by unfold maxLen; omega)
        rw [hl] at key
        exact key
  · cases h
end
end Go.Den

/- DEN, part Q: each operation does what it is said to do (on). -/
namespace Go.Den
open Go.RowKit
section
variable {E : Env} {cf : CallFn} {C C' : Ctx} {lam : Nat → Nat} {st : St} {a : Act} {o : Oper} {Q : Exit → Act → World → Prop} {ro : Option Nat} {q p : Bool} {site : Option Nat} {x : SV} {st' : St} {H' : Heap}
theorem qi6 (hr : HR E C) (hf : FrameR C lam st a) {c y z : Operand} (ho : o.op = .pick c y z)
    (h : opK E cf site o st C.H (fun x s G => some (x, s, G)) = some (x, st', H')) : o.wpIn (FW ro) 0 E.P a C.w (Post E C (stPut st' o.dst x) H') Q := by
  unfold opK at h
  simp only [ho] at h
  split at h
  · rename_i vc vy vz hc hy hz
    obtain ⟨v, hv, h⟩ := q0b h
    unfold A.pick at hv
    split at hv
    · rename_i b
      simp only [Option.some.injEq] at hv
      subst hv
      have hcb := (q09 hr hf hc).bool_inv
      have hrun : (execOp a.eval o).run E.P C.w = .ok (.value (if b then a.eval y else a.eval z)) C.w := by
        unfold execOp
        simp only [ho, hcb]
        rfl
      cases b
      · exact q0t hr hf h hrun (q09 hr hf hz)
      · exact q0t hr hf h hrun (q09 hr hf hy)
    · cases hv
  · cases h
theorem qem (hr : HR E C) (hf : FrameR C lam st a) {t : TypeId} {ps : Array (Nat × Operand)} (ho : o.op = .build t ps)
    (h : opK E cf site o st C.H (fun x s G => some (x, s, G)) = some (x, st', H')) : o.wpIn (FW ro) 0 E.P a C.w (Post E C (stPut st' o.dst x) H') Q := by
  unfold opK at h
  simp only [ho] at h
  split at h
  · rename_i z pl hz hpl
    split at h
    · rename_i l hl
      obtain ⟨v, hv, h⟩ := q0b h
      obtain ⟨u, g1, g2⟩ := build_ok hr hf hz hpl hl hv
      exact q0t hr hf h (by unfold execOp; simp only [ho]; exact q1b g1) g2
    · cases h
  · cases h
theorem q7n (hr : HR E C) (hf : FrameR C lam st a) {t : TypeId} {n : Nat} {ps : Array (Nat × Operand)} (ho : o.op = .buildSlice t n ps)
    (h : opK E cf site o st C.H (fun x s G => some (x, s, G)) = some (x, st', H')) : o.wpIn (FW ro) 0 E.P a C.w (Post E C (stPut st' o.dst x) H') Q := by
  unfold opK at h
  simp only [ho] at h
  split at h
  · rename_i e he
    have ht : E.P.underlying t = some (.slice e) := by
      unfold Env.elem at he
      split at he
      · rename_i e' h1
        simp only [Option.some.injEq] at he
        rw [h1, he]
      · cases he
    split at h
    · rename_i sz z l hsz hz hp
      cases hc : (decide (n * sz ≤ 16777216) && decide (0 < sz) && decide (z.cells.length = sz))
      · simp only [hc, cond_false] at h
        cases h
      · simp only [hc, cond_true] at h
        simp only [Bool.and_eq_true, decide_eq_true_eq] at hc
        split at h
        · rename_i es hes
          split at h
          · obtain ⟨u, C', g1, g2, g3, g4, g5⟩ := qbb hr hf ht hsz hz hc.1.1 hc.1.2 hc.2 hp hes
            exact q2p hf h (by unfold execOp; simp only [ho]; exact q1b g1) g3 g4 g5 g2
          · cases him : es.all fun x => x.cells.all AV.leaf
            · rw [him] at h
              cases h
            · rw [him, cond_true] at h
              obtain ⟨u, C', g1, g2, g3, g4, g5⟩ := qba _ hr hf ht hsz hz hc.1.1 hc.1.2 hc.2 hp hes him
              exact q2p hf h (by unfold execOp; simp only [ho]; exact q1b g1) g3 g4 g5 g2
        · cases h
    · cases h
  · cases h
theorem meth_run {P : Program} {w : AV} {u : Value} (h : methOk P w = true) (hx : V C p w u) : ∀ (o : Oper) (a : Act) y, o.op = .nilCheck y → a.eval y = u → (execOp a.eval o).run P C.w = .ok (.value u) C.w := by
  unfold methOk at h
  split at h
  · rename_i name t x
    cases hx with
    | fn _ _ _ _ as bs h1 h2 =>
      have has : ∃ z, as = #[.iface t z] := by
        generalize hl : as.toList = l at h1
        cases h1 with
        | cons _ _ u _ us g1 g2 =>
          cases g2
          cases g1 with
          | iface _ _ _ z _ => exact ⟨z, Array.toList_inj.1 hl⟩
      obtain ⟨z, rfl⟩ := has
      split at h
      · rename_i mt hm
        simp only [Option.bind_eq_some_iff] at hm
        obtain ⟨i, hi, hm⟩ := hm
        have hti : (typeInfo t).run P C.w = .ok i C.w := by simp [typeInfo, Sem.run_bind, hi]
        have hpr : program.run P C.w = .ok P C.w := rfl
        have key : ∀ (hp : mt.path.toList = []) (r : Bool), (match mt.func, some z with
            | some (_, true), _ => pure (some false)
            | some (_, false), x =>
              (do match ← underlying t, x with
                | .pointer _, some (.pointer none) => pure (some true)
                | .pointer _, some _ => pure (some false)
                | .pointer _, none => pure none
                | _, _ => pure (some false))
            | _, _ => pure (some r) : Sem (Option Bool)).run P C.w = .ok (some false) C.w → mt.func.isSome = true → ∀ n, (nilAhead (n + 1) t z name).run P C.w = .ok (some false) C.w := fun hp r hrun hs n => by
          unfold nilAhead
          simp only [Sem.run_bind, hti, Result.andThen_ok, hm, hp, followBlind, Sem.run_pure]
          cases hf : mt.func with
          | none => rw [hf] at hs; cases hs
          | some q =>
            obtain ⟨f, b⟩ := q
            cases b
            · rw [hf] at hrun
              exact hrun
            · rfl
        have fin : (∀ n, (nilAhead (n + 1) t z name).run P C.w = .ok (some false) C.w) → ∀ (o : Oper) (a : Act) y, o.op = .nilCheck y → a.eval y = .func (.method name) #[.iface t z] bs → (execOp a.eval o).run P C.w = .ok (.value (.func (.method name) #[.iface t z] bs)) C.w := fun hn o a y ho he => by
          unfold execOp
          simp only [ho, he]
          have h0 : (#[Value.iface t z] : Array Value)[0]? = some (.iface t z) := rfl
          rw [h0]
          simp only [Sem.run_bind, hpr, Result.andThen_ok]
          rw [show P.types.size + Made.depth = (P.types.size + Made.depth - 1) + 1 from (Nat.sub_add_cancel (by show 1 ≤ P.types.size + Made.depth; unfold Made.depth; omega)).symm, hn]
          rfl
        split at h
        · rename_i f hp hf
          exact fin (key hp true (by rw [hf]; rfl) (by rw [hf]; rfl))
        · rename_i f hp hf
          split at h
          · cases h
          · rename_i d hnp hd
            refine fin (key hp true ?_ (by rw [hf]; rfl))
            rw [hf]
            simp only [Sem.run_bind, run_underlying hd, Result.andThen_ok]
            cases d <;> first | rfl | exact absurd rfl (hnp _)
          · cases h
        · cases h
      · cases h
  · cases h
theorem nilC_ok {x v : AV} {u0 : Value} {P : Program} (h : nilC P x C.H = some v) (hx : V C p x u0) : V C false v u0 ∧ (∀ o : Oper, ∀ a : Act, ∀ y, o.op = .nilCheck y → a.eval y = u0 → (execOp a.eval o).run P C.w = .ok (.value u0) C.w) := by
  unfold nilC at h
  cases hm : methOk P x
  · rw [hm] at h
    exact qfe h hx
  · rw [hm] at h
    simp only [cond_true, Option.some.injEq] at h
    subst h
    exact ⟨hx.weakenB, meth_run hm hx⟩
theorem q9q (hr : HR E C) (hf : FrameR C lam st a) {y : Operand} (ho : o.op = .nilCheck y)
    (h : opK E cf site o st C.H (fun x s G => some (x, s, G)) = some (x, st', H')) : o.wpIn (FW ro) 0 E.P a C.w (Post E C (stPut st' o.dst x) H') Q := by
  unfold opK at h
  simp only [ho] at h
  split at h
  · rename_i t
    split at h
    · rename_i w hw
      obtain ⟨v, hv, h⟩ := q0b h
      obtain ⟨g1, g2⟩ := nilC_ok hv (q22 hf hw)
      exact q0t hr hf h (g2 o a _ ho rfl) g1
    · rename_i s off hw
      obtain ⟨h1, h2⟩ := q5g hf hw
      exact qgj hr hf h (by unfold execOp; simp only [ho, h1]; rfl) h2
    · cases h
  · cases h
theorem qek (hr : HR E C) (hf : FrameR C lam st a) {op : BinOp} {t s : TypeId} {y z : Operand} (ho : o.op = .binOp op t y z s)
    (h : opK E cf site o st C.H (fun x s G => some (x, s, G)) = some (x, st', H')) : o.wpIn (FW ro) 0 E.P a C.w (Post E C (stPut st' o.dst x) H') Q := by
  unfold opK at h
  simp only [ho] at h
  split at h
  · rename_i vy vz hy hz
    obtain ⟨v, hv, h⟩ := q0b h
    obtain ⟨u, g1, g2⟩ := bin_ok (xo := y) (yo := z) (fun hc => by
      cases z with
      | const c => exact ⟨c, rfl⟩
      | _ => cases hc) hv (q09 hr hf hy) (q09 hr hf hz)
    exact q0t hr hf h (by unfold execOp; simp only [ho]; exact q1b g1) g2
  · cases h
theorem qil (hr : HR E C) (hf : FrameR C lam st a) {op : UnOp} {t : TypeId} {y : Operand} (ho : o.op = .unOp op t y)
    (h : opK E cf site o st C.H (fun x s G => some (x, s, G)) = some (x, st', H')) : o.wpIn (FW ro) 0 E.P a C.w (Post E C (stPut st' o.dst x) H') Q := by
  unfold opK at h
  simp only [ho] at h
  split at h
  · rename_i vy hy
    obtain ⟨v, hv, h⟩ := q0b h
    obtain ⟨u, g1, g2⟩ := un_ok hv (q09 hr hf hy)
    exact q0t hr hf h (by unfold execOp; simp only [ho]; exact q1b g1) g2
  · cases h
theorem qhn {s d : TypeId} {y v : AV} {u : Value} {w : World} (h : convert E s d y = some v) (hy : V C p y u) : ∃ u', (Go.convert s d u).run E.P w = .ok u' w ∧ V C true v u' := by
  unfold convert at h
  split at h
  · rename_i ds k n hs hd
    simp only [Option.some.injEq] at h
    subst h
    have := hy.int_inv
    subst this
    refine ⟨_, ?_, .int _ _ _⟩
    unfold Go.convert
    simp only [Sem.run_bind, run_underlying hs, run_underlying hd, Result.andThen_ok]
    cases ds <;> rfl
  · rename_i ds l hs hd
    simp only [Option.some.injEq] at h
    subst h
    obtain ⟨b, rfl, rfl⟩ := hy.str_inv
    refine ⟨_, ?_, .str _ _⟩
    unfold Go.convert
    simp only [Sem.run_bind, run_underlying hs, run_underlying hd, Result.andThen_ok]
    cases ds <;> rfl
  · rename_i ds k n hs hd
    simp only [Option.some.injEq] at h
    subst h
    have := hy.int_inv
    subst this
    refine ⟨_, ?_, .str _ _⟩
    unfold Go.convert
    simp only [Sem.run_bind, run_underlying hs, run_underlying hd, Result.andThen_ok]
    cases ds <;> rfl
  · cases h
theorem qbd (hr : HR E C) (hf : FrameR C lam st a) {s d : TypeId} {y : Operand} (ho : o.op = .convert s d y)
    (h : opK E cf site o st C.H (fun x s G => some (x, s, G)) = some (x, st', H')) : o.wpIn (FW ro) 0 E.P a C.w (Post E C (stPut st' o.dst x) H') Q := by
  unfold opK at h
  simp only [ho] at h
  split at h
  · rename_i vy hy
    unfold q0u at h
    split at h
    · rename_i v hv
      obtain ⟨u, g1, g2⟩ := qhn (w := C.w) hv (q09 hr hf hy)
      exact q0t hr hf h (by unfold execOp; simp only [ho]; exact q1b g1) g2
    · split at h
      · rename_i v hv
        obtain ⟨u, g1, g2⟩ := convH_ok hr hv (q09 hr hf hy)
        exact q0t hr hf h (by unfold execOp; simp only [ho]; exact q1b g1) g2
      · split at h
        · rename_i q hq
          obtain ⟨u, C', g1, g2, g3, g4, g5⟩ := convN_ok hr hq (q09 hr hf hy)
          exact q2p hf h (by unfold execOp; simp only [ho]; exact q1b g1) g2 g3 g4 g5
        · cases h
  · cases h
theorem q58 (hr : HR E C) (hf : FrameR C lam st a) {t : TypeId} {y : Operand} (ho : o.op = .makeInterface t y)
    (h : opK E cf site o st C.H (fun x s G => some (x, s, G)) = some (x, st', H')) : o.wpIn (FW ro) 0 E.P a C.w (Post E C (stPut st' o.dst x) H') Q := by
  unfold opK at h
  simp only [ho] at h
  split at h
  · rename_i vy d hy hd
    split at h
    · cases h
    · rename_i hni
      refine q0t hr hf h ?_ (.iface _ _ _ _ (q09 hr hf hy))
      unfold execOp
      simp only [ho]
      refine q1b ?_
      unfold Instr.makeInterface
      simp only [Sem.run_bind, run_underlying hd, Result.andThen_ok]
      cases d <;> first | rfl | exact absurd rfl (hni _)
  · cases h
theorem q9o (hr : HR E C) (hf : FrameR C lam st a) {f : Fn} {ys zs : Array Operand} (ho : o.op = .makeFunc f ys zs)
    (h : opK E cf site o st C.H (fun x s G => some (x, s, G)) = some (x, st', H')) : o.wpIn (FW ro) 0 E.P a C.w (Post E C (stPut st' o.dst x) H') Q := by
  unfold opK at h
  simp only [ho] at h
  split at h
  · rename_i vy vz hy hz
    refine q0t (u := .func f (ys.map a.eval) (zs.map a.eval)) hr hf h ?_ (.fn _ _ _ _ _ _ (by simpa using q5m hr hf hy) (by simpa using q5m hr hf hz))
    unfold execOp
    simp only [ho]
    exact q1b rfl
  · cases h
theorem q3i {t e : TypeId} (he : E.elem t = some e) : E.P.underlying t = some (.slice e) := by
  unfold Env.elem at he
  split at he
  · rename_i e' h1
    simp only [Option.some.injEq] at he
    rw [h1, he]
  · cases he
theorem q8t (hr : HR E C) (hf : FrameR C lam st a) {t : TypeId} {y z : Operand} (ho : o.op = .makeSlice t y z)
    (h : opK E cf site o st C.H (fun x s G => some (x, s, G)) = some (x, st', H')) : o.wpIn (FW ro) 0 E.P a C.w (Post E C (stPut st' o.dst x) H') Q := by
  unfold opK at h
  simp only [ho] at h
  split at h
  · rename_i e he
    split at h
    · rename_i sz by_ zv vl vc hsz hby hz hl hc
      cases hcd : (zv.cells.length == sz && decide (0 < sz))
      · simp only [hcd, cond_false] at h
        cases h
      · simp only [hcd, cond_true] at h
        simp only [Bool.and_eq_true, beq_iff_eq, decide_eq_true_eq] at hcd
        split at h
        · rename_i w H1 hm
          obtain ⟨u, C', g1, g2, g3, g4, g5⟩ := qdu hr (q3i he) hsz hby hz hcd.1 hcd.2 hm (q09 hr hf hl) (q09 hr hf hc)
          exact q2p hf h (by unfold execOp; simp only [ho]; exact q1b g1) g3 g4 g5 g2
        · cases h
    · cases h
  · cases h
theorem qfu (hr : HR E C) (hf : FrameR C lam st a) {t : TypeId} {y : Operand} {lo hi mx : Option Operand} (ho : o.op = .slice t y lo hi mx)
    (h : opK E cf site o st C.H (fun x s G => some (x, s, G)) = some (x, st', H')) : o.wpIn (FW ro) 0 E.P a C.w (Post E C (stPut st' o.dst x) H') Q := by
  unfold opK at h
  simp only [ho] at h
  split at h
  · rename_i v l hh m hv hl hhi hm
    obtain ⟨k1, _⟩ := q8w hr hf hl
    obtain ⟨k2, e2⟩ := q8w hr hf hhi
    obtain ⟨k3, e3⟩ := q8w hr hf hm
    split at h
    · rename_i ht
      split at h
      · obtain ⟨v', hv', h⟩ := q0b h
        obtain ⟨u, g1, g2⟩ := qft ht k1 k2 hv' (q09 hr hf hv)
        have : mx = none := e3.1 rfl
        subst this
        exact q0t hr hf h (by unfold execOp; simp only [ho]; exact q1b g1) g2
      · cases h
    · rename_i e ht
      split at h
      · rename_i sz hsz
        cases hc : (m.isEmpty || !hh.isEmpty)
        · simp only [hc, cond_false] at h
          cases h
        · simp only [hc, cond_true] at h
          obtain ⟨v', hv', h⟩ := q0b h
          obtain ⟨u, g1, g2⟩ := slice_ok ht hsz k1 k2 k3 (by
            cases m with
            | nil => exact .inl rfl
            | cons _ _ => cases hh with
              | nil => simp at hc
              | cons _ _ => exact .inr (by simp)) hv' (q09 hr hf hv)
          exact q0t hr hf h (by unfold execOp; simp only [ho]; exact q1b g1) g2
      · cases h
    · rename_i n e ht
      split at h
      · rename_i hsz
        split at h
        · rename_i q hq
          have hmx : mx = none := e3.1 rfl
          subst hmx
          obtain ⟨u, C', g1, g2, g3, g4, g5⟩ := qfr hr ht hsz k1 k2 hq (q09 hr hf hv)
          exact q2p hf h (by unfold execOp; simp only [ho]; exact q1b g1) g2 g3 g4 g5
        · cases h
      · rename_i hsz
        have hmx : mx = none := e3.1 rfl
        subst hmx
        obtain ⟨v', hv', h⟩ := q0b h
        obtain ⟨u, g1, g2⟩ := qfs ht hsz k1 k2 hv' (q09 hr hf hv)
        exact q0t hr hf h (by unfold execOp; simp only [ho]; exact q1b g1) g2
      · cases h
    · cases h
  · cases h
theorem q8g (hr : HR E C) (hf : FrameR C lam st a) {s : TypeId} {y : Operand} {i : Nat} (ho : o.op = .fieldAddr s y i)
    (h : opK E cf site o st C.H (fun x s G => some (x, s, G)) = some (x, st', H')) : o.wpIn (FW ro) 0 E.P a C.w (Post E C (stPut st' o.dst x) H') Q := by
  unfold opK at h
  simp only [ho] at h
  have hrun : ∀ u, (Instr.fieldAt s (a.eval y) i).run E.P C.w = .ok u C.w → (execOp a.eval o).run E.P C.w = .ok (.value u) C.w := fun u hn => by
    unfold execOp
    simp only [ho]
    exact q1b hn
  split at h
  · rename_i fo hfo
    cases y with
    | tmp t =>
      dsimp only at h
      split at h
      · rename_i s1 off hw
        obtain ⟨h1, h2⟩ := q5g hf hw
        exact qgj hr hf h (hrun _ (by rw [h1, q46 hfo, Addr.add_lit])) h2
      · rename_i w hw
        obtain ⟨v, hv, h⟩ := q0b h
        obtain ⟨u, g1, g2⟩ := fa_ok hfo hv (q22 hf hw)
        exact q0t hr hf h (hrun u g1) g2
      · cases h
    | _ =>
      dsimp only at h
      split at h
      · rename_i w hw
        obtain ⟨v, hv, h⟩ := q0b h
        obtain ⟨u, g1, g2⟩ := fa_ok hfo hv (q09 hr hf hw)
        exact q0t hr hf h (hrun u g1) g2
      · cases h
  · cases h
theorem qf2 (hr : HR E C) (hf : FrameR C lam st a) {t : TypeId} {y : Operand} {i : Nat} (ho : o.op = .field t y i)
    (h : opK E cf site o st C.H (fun x s G => some (x, s, G)) = some (x, st', H')) : o.wpIn (FW ro) 0 E.P a C.w (Post E C (stPut st' o.dst x) H') Q := by
  unfold opK at h
  simp only [ho] at h
  split at h
  · rename_i f hfo
    split at h
    · rename_i ag sz vy hag hsz hy
      obtain ⟨v, hv, h⟩ := q0b h
      obtain ⟨u, g1, g2⟩ := field_ok hfo hag hsz hv (q09 hr hf hy)
      exact q0t hr hf h (by unfold execOp; simp only [ho]; exact q1b g1) g2
    · cases h
  · cases h
theorem q8q (hr : HR E C) (hf : FrameR C lam st a) {t : TypeId} {y z : Operand} (ho : o.op = .indexAddr t y z)
    (h : opK E cf site o st C.H (fun x s G => some (x, s, G)) = some (x, st', H')) : o.wpIn (FW ro) 0 E.P a C.w (Post E C (stPut st' o.dst x) H') Q := by
  unfold opK at h
  simp only [ho] at h
  have hrun : ∀ u, (Instr.indexAt t (a.eval y) (a.eval z)).run E.P C.w = .ok u C.w → (execOp a.eval o).run E.P C.w = .ok (.value u) C.w := fun u hn => by
    unfold execOp
    simp only [ho]
    exact q1b hn
  split at h
  · rename_i vi hi
    split at h
    · rename_i e ht
      split at h
      · rename_i sz vy hsz hy
        obtain ⟨v, hv, h⟩ := q0b h
        obtain ⟨u, g1, g2⟩ := idx_ok ht hsz hv (q09 hr hf hy) (q09 hr hf hi)
        exact q0t hr hf h (hrun u g1) g2
      · cases h
    · rename_i n e ht
      split at h
      · rename_i sz q hsz
        split at h
        · rename_i s1 off hw
          obtain ⟨h1, h2⟩ := q5g hf hw
          split at h
          · rename_i k j
            split at h
            · rename_i hj
              have hi' := (q09 hr hf hi).int_inv
              refine qgj hr hf h (hrun _ ?_) h2
              rw [h1, hi', idxArr_lp ht hsz hj, Addr.add_lit]
            · cases h
          · cases h
        · rename_i w hw
          obtain ⟨v, hv, h⟩ := q0b h
          obtain ⟨u, g1, g2⟩ := qdk ht hsz hv (q22 hf hw) (q09 hr hf hi)
          exact q0t hr hf h (hrun u g1) g2
        · cases h
      · rename_i sz hsz _
        split at h
        · rename_i w hw
          obtain ⟨v, hv, h⟩ := q0b h
          obtain ⟨u, g1, g2⟩ := qdk ht hsz hv (q09 hr hf hw) (q09 hr hf hi)
          exact q0t hr hf h (hrun u g1) g2
        · cases h
      · cases h
    · cases h
  · cases h
theorem qf7 (hr : HR E C) (hf : FrameR C lam st a) {t : TypeId} {y z : Operand} (ho : o.op = .index t y z)
    (h : opK E cf site o st C.H (fun x s G => some (x, s, G)) = some (x, st', H')) : o.wpIn (FW ro) 0 E.P a C.w (Post E C (stPut st' o.dst x) H') Q := by
  unfold opK at h
  simp only [ho] at h
  have hrun : ∀ u, (Instr.index t (a.eval y) (a.eval z)).run E.P C.w = .ok u C.w → (execOp a.eval o).run E.P C.w = .ok (.value u) C.w := fun u hn => by
    unfold execOp
    simp only [ho]
    exact q1b hn
  split at h
  · rename_i vy vi hy hi
    split at h
    · rename_i ht
      obtain ⟨v, hv, h⟩ := q0b h
      obtain ⟨u, g1, g2⟩ := index_ok ht hv (q09 hr hf hy) (q09 hr hf hi)
      exact q0t hr hf h (hrun u g1) g2
    · rename_i n e ht
      split at h
      · rename_i ag sz hag hsz
        obtain ⟨v, hv, h⟩ := q0b h
        obtain ⟨u, g1, g2⟩ := qf6 ht hag hsz hv (q09 hr hf hy) (q09 hr hf hi)
        exact q0t hr hf h (hrun u g1) g2
      · cases h
    · cases h
  · cases h
theorem qbj (hr : HR E C) (hf : FrameR C lam st a) {y : Operand} {i : Nat} (ho : o.op = .extract y i)
    (h : opK E cf site o st C.H (fun x s G => some (x, s, G)) = some (x, st', H')) : o.wpIn (FW ro) 0 E.P a C.w (Post E C (stPut st' o.dst x) H') Q := by
  unfold opK at h
  simp only [ho] at h
  split at h
  · rename_i vs hy
    obtain ⟨v, hv, h⟩ := q0b h
    have hu := q09 hr hf hy
    generalize hay : a.eval y = uy at hu
    cases hu with
    | tup _ _ us h1 =>
      obtain ⟨u, g1, g2⟩ := h1.get hv
      refine q0t hr hf h ?_ g2
      unfold execOp
      simp only [ho, hay]
      refine q1b ?_
      unfold Instr.extract
      rw [Array.getElem?_toList] at g1
      simp only [g1, Sem.run_pure]
  · cases h
theorem q7p (hr : HR E C) (hf : FrameR C lam st a) {y : Operand} {xt t : TypeId} {ok : Bool} (ho : o.op = .typeAssert y xt t ok)
    (h : opK E cf site o st C.H (fun x s G => some (x, s, G)) = some (x, st', H')) : o.wpIn (FW ro) 0 E.P a C.w (Post E C (stPut st' o.dst x) H') Q := by
  unfold opK at h
  simp only [ho] at h
  have hrun : ∀ u, (Instr.typeAssert (a.eval y) xt t ok).run E.P C.w = .ok u C.w → (execOp a.eval o).run E.P C.w = .ok (.value u) C.w := fun u hn => by
    unfold execOp
    simp only [ho]
    exact q1b hn
  split at h
  · rename_i d w u hy ht
    have hu := q09 hr hf hy
    generalize hay : a.eval y = uy at hu hrun
    cases hu with
    | iface _ _ _ uw hw =>
      split at h
      · cases h
      · rename_i hni
        cases ok
        · simp only [cond_false] at h
          split at h
          · rename_i hd
            refine q0t hr hf h (hrun uw ?_) hw
            unfold Instr.typeAssert
            simp only [Sem.run_bind, run_underlying ht, Result.andThen_ok]
            cases u <;> first | exact absurd rfl (hni _) | (simp only [hd, if_true, Sem.run_pure]; rfl)
          · cases h
        · simp only [cond_true] at h
          split at h
          · rename_i hd
            refine q0t hr hf h (hrun (.tuple #[uw, .bool true]) ?_) (.tup _ _ _ (.cons _ _ _ _ _ hw (.cons _ _ _ _ _ (.bool _ _) (.nil _))))
            unfold Instr.typeAssert
            simp only [Sem.run_bind, run_underlying ht, Result.andThen_ok]
            cases u <;> first | exact absurd rfl (hni _) | (simp only [hd, if_true, Sem.run_pure])
          · rename_i hd
            split at h
            · rename_i z hz
              obtain ⟨zv, k1, k2⟩ := q41 hz C.w
              refine q0t hr hf h (hrun (.tuple #[zv, .bool false]) ?_) (.tup _ _ _ (.cons _ _ _ _ _ k2.weaken (.cons _ _ _ _ _ (.bool _ _) (.nil _))))
              unfold Instr.typeAssert
              simp only [Sem.run_bind, run_underlying ht, Result.andThen_ok]
              cases u <;> first | exact absurd rfl (hni _) | (simp only [hd, if_false, if_true, Sem.run_bind, k1, Result.andThen_ok, Sem.run_pure])
            · cases h
  · cases h
end
end Go.Den

/- DEN, part Ra: maps. -/
namespace Go.Den
open Go.RowKit
section
variable {E : Env} {cf : CallFn} {C C' : Ctx} {lam : Nat → Nat} {st : St} {a : Act} {o : Oper} {Q : Exit → Act → World → Prop} {ro : Option Nat} {q p : Bool} {site : Option Nat} {x : SV} {st' : St} {H' : Heap}
theorem qiw (s t : ByteArray) : (s.data.toList == t.data.toList) = (s == t) := by
  show _ = (s.data == t.data)
  by_cases h : s.data = t.data
  · rw [h]
    simp
  · have h2 : s.data.toList ≠ t.data.toList := fun e => h (Array.toList_inj.1 e)
    have h3 : (s.data.toList == t.data.toList) = false := by simpa using h2
    have h4 : (s.data == t.data) = false := by simpa using h
    rw [h3, h4]
theorem qag {d : TypeDesc} {x y : AV} {u1 u2 : Value} {b : Bool} (h : A.eqFlat (some d) x y = some b) (hx : V C p x u1) (hy : V C q y u2) : Instr.sameNow d u1 u2 = some b := by
  unfold A.eqFlat at h
  split at h
  · rename_i j k a k' b' hd
    injection hd with hd
    subst hd
    have e1 := hx.int_inv
    have e2 := hy.int_inv
    subst e1 e2
    by_cases hk : k = k'
    · subst hk
      simp at h
      subst h
      simp [Instr.sameNow]
    · simp [hk] at h
  · rename_i a b' hd
    injection hd with hd
    subst hd
    obtain ⟨s, rfl, rfl⟩ := hx.str_inv
    obtain ⟨s', rfl, rfl⟩ := hy.str_inv
    rw [qiw] at h
    exact h
  · rename_i a b' hd
    injection hd with hd
    subst hd
    have e1 := hx.bool_inv
    have e2 := hy.bool_inv
    subst e1 e2
    exact h
  · simp at h
theorem qf0 {d : TypeDesc} {x y : AV} {u1 u2 : Value} (h : A.eqFlat (some d) x y = some true) (hx : V C p x u1) (hy : V C q y u2) : Instr.sameBits 10000 u2 u1 = true := by
  unfold A.eqFlat at h
  split at h
  · rename_i j k a k' b' hd
    have e1 := hx.int_inv
    have e2 := hy.int_inv
    subst e1 e2
    by_cases hk : k = k'
    · subst hk
      simp at h
      subst h
      simp [Instr.sameBits]
    · simp [hk] at h
  · rename_i a b' hd
    obtain ⟨s, rfl, rfl⟩ := hx.str_inv
    obtain ⟨s', rfl, rfl⟩ := hy.str_inv
    simp only [Option.some.injEq] at h
    have : s.data.toList = s'.data.toList := by simpa using h
    have h2 : s.data = s'.data := Array.toList_inj.1 this
    show (s' == s) = true
    show (s'.data == s.data) = true
    rw [h2]
    simp
  · rename_i a b' hd
    have e1 := hx.bool_inv
    have e2 := hy.bool_inv
    subst e1 e2
    simp only [Option.some.injEq] at h
    have : a = b' := by simpa using h
    subst this
    simp [Instr.sameBits]
  · simp at h
theorem EsV.get {es : List (AV × AV)} {us : List MapEntry} (h : EsV C es us) : ∀ {i : Nat} {k v : AV}, es[i]? = some (k, v) → ∃ e, us[i]? = some e ∧ KeyOk k ∧ V C true k e.key ∧ V C false v e.val := by
  induction h with
  | nil => intro i k v h; simp at h
  | cons k0 v0 e es us h0 h1 h2 _ ih =>
    intro i k v h
    cases i with
    | zero =>
      simp only [List.getElem?_cons_zero, Option.some.injEq, Prod.mk.injEq] at h
      obtain ⟨rfl, rfl⟩ := h
      exact ⟨e, rfl, h0, h1, h2⟩
    | succ i => exact ih (by simpa using h)
theorem EsV.length {es : List (AV × AV)} {us : List MapEntry} (h : EsV C es us) : us.length = es.length := by
  induction h with
  | nil => rfl
  | cons _ _ _ _ _ _ _ _ _ ih => simp [ih]
theorem EsV.push {es : List (AV × AV)} {us : List MapEntry} (h : EsV C es us) {k v : AV} {e : MapEntry} (h0 : KeyOk k) (h1 : V C true k e.key) (h2 : V C false v e.val) : EsV C (es ++ [(k, v)]) (us ++ [e]) := by
  induction h with
  | nil => exact .cons _ _ _ _ _ h0 h1 h2 .nil
  | cons _ _ _ _ _ g0 g1 g2 _ ih => exact .cons _ _ _ _ _ g0 g1 g2 ih
theorem EsV.set {es : List (AV × AV)} {us : List MapEntry} (h : EsV C es us) {k v : AV} {e : MapEntry} (h0 : KeyOk k) (h1 : V C true k e.key) (h2 : V C false v e.val) : ∀ {i : Nat}, EsV C (es.set i (k, v)) (us.set i e) := by
  induction h with
  | nil => intro i; exact .nil
  | cons _ _ _ _ _ g0 g1 g2 g3 ih =>
    intro i
    cases i with
    | zero => exact .cons _ _ _ _ _ h0 h1 h2 g3
    | succ i => exact .cons _ _ _ _ _ g0 g1 g2 ih
theorem q6q {d : TypeDesc} {x : AV} {ux : Value} (hx : V C p x ux) {es : List (AV × AV)} {us : List MapEntry} (h : EsV C es us) : ∀ {i : Nat} {r : Option (Nat × AV)}, A.find (some d) x es i = some r →
    (r = none ∧ Instr.findNow d ux us i = some none) ∨ ∃ j v e, r = some (j, v) ∧ i ≤ j ∧ us[j - i]? = some e ∧ Instr.findNow d ux us i = some (some (j, e.val)) ∧ V C false v e.val ∧ Instr.sameBits 10000 e.key ux = true := by
  induction h with
  | nil =>
    intro i r hr
    simp only [A.find, Option.some.injEq] at hr
    exact .inl ⟨hr.symm, rfl⟩
  | cons k v e es us h0 h1 h2 _ ih =>
    intro i r hr
    unfold A.find at hr
    unfold Instr.findNow
    split at hr
    · rename_i he
      simp only [Option.some.injEq] at hr
      subst hr
      rw [qag he hx h1]
      exact .inr ⟨i, v, e, rfl, Nat.le_refl _, by simp, rfl, h2, qf0 he hx h1⟩
    · rename_i he
      rw [qag he hx h1]
      rcases ih hr with ⟨e1, e2⟩ | ⟨j, w, e', e1, e2, e3, e4⟩
      · exact .inl ⟨e1, e2⟩
      · refine .inr ⟨j, w, e', e1, by omega, ?_, e4⟩
        rw [show j - i = (j - (i + 1)) + 1 by omega]
        simpa using e3
    · cases hr
theorem qgc {d : TypeDesc} {x : AV} (h : A.keyOk (some d) x = true) : KeyOk x := by
  unfold A.keyOk at h
  split at h
  · exact .inl ⟨_, _, rfl⟩
  · exact .inr (.inl ⟨_, rfl⟩)
  · exact .inr (.inr ⟨_, rfl⟩)
  · cases h
theorem q51 {P : Program} {w : World} {kt : TypeId} {d : TypeDesc} {x : AV} {u : Value} {b : Bool} {n : Nat} (hd : P.underlying kt = some d) (h : A.keyOk (some d) x = true) (hx : V C p x u) : (Instr.checkKey b (n + 1) kt u).run P w = .ok () w := by
  unfold A.keyOk at h
  split at h
  · rename_i hd'
    injection hd' with hd'
    subst hd'
    simp [Instr.checkKey, Sem.run_bind, run_underlying hd, Result.andThen_ok]
  · rename_i hd'
    injection hd' with hd'
    subst hd'
    simp [Instr.checkKey, Sem.run_bind, run_underlying hd, Result.andThen_ok]
  · rename_i hd'
    injection hd' with hd'
    subst hd'
    simp [Instr.checkKey, Sem.run_bind, run_underlying hd, Result.andThen_ok]
  · cases h
theorem qf9 {d : Option TypeDesc} {x : AV} (h : A.keyOk d x = true) : ∃ e, d = some e := by
  cases d with
  | none => cases x <;> cases h
  | some e => exact ⟨e, rfl⟩
theorem q5q {x : AV} {u : Value} (hk : KeyOk x) (hx : V C p x u) : V C true x u := by
  rcases hk with ⟨k, n, rfl⟩ | ⟨l, rfl⟩ | ⟨b, rfl⟩
  · rw [hx.int_inv]; exact .int _ _ _
  · obtain ⟨s, rfl, rfl⟩ := hx.str_inv; exact .str _ _
  · rw [hx.bool_inv]; exact .bool _ _
theorem q24 {P : Program} {w : World} {r : Nat} {us : Array MapEntry} {c : Nat} (h : w.heap[r]? = some (.map us c)) : (getObj r).run P w = .ok (.map us c) w := by simp [getObj, Sem.run, h]
theorem q3m {P : Program} {w : World} {r : Nat} {us : Array MapEntry} {c : Nat} (o : Obj) (h : w.heap[r]? = some (.map us c)) : (setObj r o).run P w = .ok () (w.putObj r o) := by simp [setObj, Sem.run, h, World.putObj]
theorem qhp (hr : HR E C) {y : AV} {u : Value} {es : List (AV × AV)} (h : A.entries y C.H = some es) (hy : V C p y u) :
    ∃ us : Array MapEntry, EsV C es us.toList ∧ ((u = .map none ∧ us = #[]) ∨ ∃ r c, u = .map (some r) ∧ C.w.heap[r]? = some (.map us c)) := by
  unfold A.entries at h
  split at h
  · simp only [Option.some.injEq] at h
    subst h
    cases hy
    exact ⟨#[], .nil, .inl ⟨rfl, rfl⟩⟩
  · rename_i id
    split at h
    · rename_i k e es' hm
      simp only [Option.some.injEq] at h
      subst h
      cases hy with
      | mp _ _ _ h2 =>
        obtain ⟨hk, us, h3, h4, _⟩ := hr.oth id _ rfl hm
        exact ⟨us, h4, .inr ⟨(C.ρ id).1, us.size, h2.2 _ _ _ hm, h3⟩⟩
    · cases h
  · cases h
theorem qay {P : Program} {w : World} {t kt et : TypeId} {u uk z : Value} {us : Array MapEntry} {ok : Bool} (ht : P.underlying t = some (.map kt et)) (hu : (u = .map none ∧ us = #[]) ∨ ∃ r c, u = .map (some r) ∧ w.heap[r]? = some (.map us c))
    (hck : ∀ b, (Instr.checkKey b 10000 kt uk).run P w = .ok () w) (hz : (zeroValue et).run P w = .ok z w) {r : Option (Nat × Value)} (hf : (Instr.findKey kt uk us.toList).run P w = .ok r w) :
    (Instr.lookup t u uk ok).run P w = .ok (match r with | some (_, v) => (if ok then .tuple #[v, .bool true] else v) | none => (if ok then .tuple #[z, .bool false] else z)) w := by
  unfold Instr.lookup
  rcases hu with ⟨rfl, rfl⟩ | ⟨b, c, rfl, hb⟩
  · simp only [Sem.run_bind, run_underlying ht, Result.andThen_ok, Sem.run_pure, hck, hf]
    cases r with
    | none => simp only [Sem.run_bind, hz, Result.andThen_ok, Sem.run_pure]
    | some p => simp only [Sem.run_bind, Result.andThen_ok, Sem.run_pure]
  · simp only [Sem.run_bind, run_underlying ht, Result.andThen_ok, Sem.run_pure, q24 hb, hck, hf]
    cases r with
    | none => simp only [Sem.run_bind, hz, Result.andThen_ok, Sem.run_pure]
    | some p => simp only [Sem.run_bind, Result.andThen_ok, Sem.run_pure]
theorem qdp (hr : HR E C) (hf : FrameR C lam st a) {t : TypeId} {y z : Operand} {ok : Bool} (ho : o.op = .lookup t y z ok)
    (h : opK E cf site o st C.H (fun x s G => some (x, s, G)) = some (x, st', H')) : o.wpIn (FW ro) 0 E.P a C.w (Post E C (stPut st' o.dst x) H') Q := by
  unfold opK at h
  simp only [ho] at h
  split at h
  · rename_i kt et yv zv ht hyv hzv
    split at h
    · rename_i es zr hes hz
      obtain ⟨v, hv, h⟩ := q0b h
      obtain ⟨us, h1, hu⟩ := qhp hr hes (q09 hr hf hyv)
      unfold A.lookup at hv
      cases hk : A.keyOk (E.P.underlying kt) zv
      · rw [hk] at hv; cases hv
      · rw [hk] at hv
        simp only [cond_true] at hv
        obtain ⟨d, hd⟩ := qf9 hk
        rw [hd] at hk hv
        have hzu := q09 hr hf hzv
        have hck := fun b => q51 (P := E.P) (w := C.w) (b := b) (n := 9999) hd hk hzu
        obtain ⟨uz, hzz, hzV⟩ := q41 hz C.w
        have hrun : ∀ u, (Instr.lookup t (a.eval y) (a.eval z) ok).run E.P C.w = .ok u C.w → (execOp a.eval o).run E.P C.w = .ok (.value u) C.w := fun u hn => by
          unfold execOp
          simp only [ho]
          exact q1b hn
        split at hv
        · rename_i j w hfnd
          simp only [Option.some.injEq] at hv
          rcases q6q hzu h1 hfnd with ⟨e1, _⟩ | ⟨j', v', e, e1, _, _, e4, e5, _⟩
          · cases e1
          · injection e1 with e1
            injection e1 with e1 e2
            subst e1 e2
            have hF : (Instr.findKey kt (a.eval z) us.toList).run E.P C.w = .ok (some (j, e.val)) C.w := by
              unfold Instr.findKey
              simp only [Sem.run_bind, run_underlying hd, Result.andThen_ok, e4, Sem.run_pure]
            refine q0t (p := false) hr hf h (hrun _ (qay ht hu hck hzz hF)) ?_
            rw [← hv]
            cases ok
            · exact e5
            · exact .tup _ _ _ (.cons _ _ _ _ _ e5 (.cons _ _ _ _ _ (.bool _ _) (.nil _)))
        · rename_i hfnd
          simp only [Option.some.injEq] at hv
          rcases q6q hzu h1 hfnd with ⟨_, e1⟩ | ⟨j', v', e, e1, _⟩
          · have hF : (Instr.findKey kt (a.eval z) us.toList).run E.P C.w = .ok none C.w := by
              unfold Instr.findKey
              simp only [Sem.run_bind, run_underlying hd, Result.andThen_ok, e1, Sem.run_pure]
            refine q0t (p := false) hr hf h (hrun _ (qay ht hu hck hzz hF)) ?_
            rw [← hv]
            cases ok
            · exact hzV.weakenB
            · exact .tup _ _ _ (.cons _ _ _ _ _ hzV.weakenB (.cons _ _ _ _ _ (.bool _ _) (.nil _)))
          · cases e1
        · cases hv
    · cases h
  · cases h
theorem qc2 (hr : HR E C) (hf : FrameR C lam st a) {t : TypeId} {r : Option Operand} (ho : o.op = .makeMap t r)
    (h : opK E cf site o st C.H (fun x s G => some (x, s, G)) = some (x, st', H')) : o.wpIn (FW ro) 0 E.P a C.w (Post E C (stPut st' o.dst x) H') Q := by
  unfold opK at h
  simp only [ho] at h
  split at h
  · rename_i kt et ht
    have key : ∀ (us : Option Value), (us = none ∨ ∃ k n, us = some (.int k n)) → r.map a.eval = us → (some (SV.val (.mp C.H.length), st, C.H ++ [HObj.map kt et []]) : Option (SV × St × Heap)) = some (x, st', H') → o.wpIn (FW ro) 0 E.P a C.w (Post E C (stPut st' o.dst x) H') Q := fun us hus hre h => by
      have ev := q8p (o := .map kt et []) (w' := C.w.alloc (.map #[] 0)) hr ⟨rfl, rfl, rfl⟩ rfl
      have hr' : HR E (C.grow (C.w.alloc (.map #[] 0)) (.map kt et [])) := qbq hr ⟨rfl, rfl, rfl⟩ rfl (fun _ _ _ _ e => by cases e) (fun _ => ⟨#[], rfl, .nil, fun i e h => by simp at h⟩)
      refine q2p (C' := C.grow (C.w.alloc (.map #[] 0)) (.map kt et [])) hf h (u := .map (some C.w.heap.size)) ?_ hr' ev rfl (.mp _ _ rfl ⟨by show _ < (C.H ++ [_]).length; simp, fun _ _ _ e => by rw [q1h]⟩)
      unfold execOp
      simp only [ho]
      rw [hre]
      refine q1b ?_
      unfold Instr.makeMap
      rcases hus with rfl | ⟨k, n, rfl⟩
      · simp only [Sem.run_bind, Sem.run_pure, Result.andThen_ok, run_newObj_alloc]
        rfl
      · simp only [Sem.run_bind, run_underlying ht, asInt, Sem.run_pure, Result.andThen_ok, run_newObj_alloc]
        rfl
    split at h
    · exact key none (.inl rfl) rfl h
    · rename_i y
      split at h
      · rename_i k n hy
        have := (q09 hr hf hy).int_inv
        exact key _ (.inr ⟨_, _, rfl⟩) (by rw [Option.map_some, this]) h
      · cases h
  · cases h
theorem q50 {us : Array MapEntry} (h : ∀ (i : Nat) (e : MapEntry), us[i]? = some e → e.born = i) {f : MapEntry → MapEntry} (hf : ∀ e, (f e).born = e.born) {j : Nat} : ∀ (i : Nat) (e : MapEntry), (us.modify j f)[i]? = some e → e.born = i := fun i e he => by
  rw [Array.getElem?_modify] at he
  by_cases hij : j = i
  · rw [if_pos hij, Option.map_eq_some_iff] at he
    obtain ⟨e0, h0, rfl⟩ := he
    rw [hf]
    exact h i e0 h0
  · rw [if_neg hij] at he
    exact h i e he
theorem qd0 {us : Array MapEntry} (h : ∀ (i : Nat) (e : MapEntry), us[i]? = some e → e.born = i) {x : MapEntry} (hx : x.born = us.size) : ∀ (i : Nat) (e : MapEntry), (us.push x)[i]? = some e → e.born = i := fun i e he => by
  rw [Array.getElem?_push] at he
  split at he
  · rename_i hi
    simp only [Option.some.injEq] at he
    rw [← he, hx, hi]
  · exact h i e he
theorem q5t {us : Array MapEntry} {i : Nat} {e : MapEntry} {f : MapEntry → MapEntry} (he : us[i]? = some e) : (us.modify i f).toList = us.toList.set i (f e) := by
  apply List.ext_getElem?
  intro j
  rw [Array.getElem?_toList, Array.getElem?_modify, List.getElem?_set]
  by_cases hij : i = j
  · subst hij
    have hlt := (Array.getElem?_eq_some_iff.1 he).1
    have h2 := (Array.getElem?_eq_some_iff.1 he).2
    simp [he, hlt, h2]
  · simp [hij]
theorem q9p (hr : HR E C) (hf : FrameR C lam st a) {t : TypeId} {m y : Operand} (ho : o.op = .mapEntry t m y)
    (h : opK E cf site o st C.H (fun x s G => some (x, s, G)) = some (x, st', H')) : o.wpIn (FW ro) 0 E.P a C.w (Post E C (stPut st' o.dst x) H') Q := by
  have hrun : ∀ u w', (Instr.mapEntry t (a.eval m) (a.eval y)).run E.P C.w = .ok u w' → (execOp a.eval o).run E.P C.w = .ok (.value u) w' := fun u w' hn => by
    unfold execOp
    simp only [ho]
    exact q1b hn
  unfold opK at h
  simp only [ho] at h
  split at h
  · rename_i kt et id yv ht hm hy
    split at h
    · rename_i kt' et' es zr hmap hz
      split at h
      · rename_i p hup
        obtain ⟨hk, us, h3, h4, hbo⟩ := hr.oth id _ rfl hmap
        have hmu := q09 hr hf hm
        have hmv : a.eval m = .map (some (C.ρ id).1) := by
          generalize a.eval m = u at hmu
          cases hmu with
          | mp _ _ _ h2 => exact h2.2 _ _ _ hmap
        have hyu := q09 hr hf hy
        obtain ⟨uz, hzz, hzV⟩ := q41 hz C.w
        unfold A.entry at hup
        cases hko : A.keyOk (E.P.underlying kt) yv
        · rw [hko] at hup; cases hup
        · rw [hko] at hup
          simp only [cond_true] at hup
          obtain ⟨d, hd⟩ := qf9 hko
          rw [hd] at hko hup
          have hkk := qgc hko
          have hck := q51 (P := E.P) (w := C.w) (b := false) (n := 9999) hd hko hyu
          have fin : ∀ (us' : Array MapEntry) (u : Value), (∀ (i : Nat) (e : MapEntry), us'[i]? = some e → e.born = i) → (Instr.mapEntry t (a.eval m) (a.eval y)).run E.P C.w = .ok u (C.w.putObj (C.ρ id).1 (.map us' us'.size)) → EsV C p.2 us'.toList → V C false p.1 u →
              o.wpIn (FW ro) 0 E.P a C.w (Post E C (stPut st' o.dst x) H') Q := fun us' u hbo' hn hes hu => by
            obtain ⟨g1, g2⟩ := q34 (o' := .map kt' et' p.2) (ob' := .map us' us'.size) (w' := C.w.putObj (C.ρ id).1 (.map us' us'.size)) hr rfl hmap (by simp [HObj.kd]) ⟨rfl, rfl, rfl⟩ rfl (fun _ _ _ e => by cases e) (fun _ => ⟨rfl, fun C' ev => ⟨us', rfl, hes.evV ev, hbo'⟩⟩)
            exact q2p (C' := { C with w := C.w.putObj (C.ρ id).1 (.map us' us'.size), H := C.H.set id (.map kt' et' p.2) }) hf h (hrun _ _ hn) g1 g2 rfl (hu.evV g2.ev.toV)
          split at hup
          · rename_i i w hfnd
            simp only [Option.some.injEq] at hup
            subst hup
            rcases q6q hyu h4 hfnd with ⟨e1, _⟩ | ⟨j', v', e, e1, _, e3, e4, e5, e6⟩
            · cases e1
            · injection e1 with e1
              injection e1 with e1 e2
              subst e1 e2
              rw [Nat.sub_zero, Array.getElem?_toList] at e3
              have hborn := hbo _ _ e3
              refine fin (us.modify i fun e => { e with key := a.eval y }) (.tuple #[e.val, goInt i]) (q50 (f := fun e => { e with key := a.eval y }) hbo fun _ => rfl) ?_ ?_ (.tup _ _ _ (.cons _ _ _ _ _ e5 (.cons _ _ _ _ _ (.int _ _ _) (.nil _))))
              · unfold Instr.mapEntry
                simp only [Sem.run_bind, run_underlying ht, Result.andThen_ok, hmv, q24 h3]
                rw [show (10000 : Nat) = 9999 + 1 from rfl, hck]
                simp only [Result.andThen_ok]
                unfold Instr.findKey
                simp only [Sem.run_bind, run_underlying hd, Result.andThen_ok, e4, Sem.run_pure, e3, Option.map_some, Option.getD_some]
                unfold Instr.keyThatStays
                rw [if_pos e6]
                simp only [Sem.run_pure, Result.andThen_ok, q3m _ h3, hborn]
                simp
              · rw [q5t e3]
                exact h4.set (e := { e with key := a.eval y }) hkk (q5q hkk hyu) e5
          · rename_i hfnd
            simp only [Option.some.injEq] at hup
            subst hup
            rcases q6q hyu h4 hfnd with ⟨_, e1⟩ | ⟨j', v', e, e1, _⟩
            · refine fin (us.push { key := a.eval y, val := uz, born := us.size }) (.tuple #[uz, goInt us.size]) (qd0 hbo rfl) ?_ ?_ (.tup _ _ _ (.cons _ _ _ _ _ hzV.weakenB (.cons _ _ _ _ _ ?_ (.nil _))))
              · unfold Instr.mapEntry
                simp only [Sem.run_bind, run_underlying ht, Result.andThen_ok, hmv, q24 h3]
                rw [show (10000 : Nat) = 9999 + 1 from rfl, hck]
                simp only [Result.andThen_ok]
                unfold Instr.findKey
                simp only [Sem.run_bind, run_underlying hd, Result.andThen_ok, e1, Sem.run_pure, hzz, q3m _ h3]
                simp
              · rw [Array.toList_push]
                exact h4.push hkk (q5q hkk hyu) hzV.weakenB
              · have hl := h4.length
                rw [Array.length_toList] at hl
                rw [← hl]
                exact .int _ _ _
            · cases e1
          · cases hup
      · cases h
    · cases h
  · cases h
theorem qde : ∀ {us : List MapEntry} {i j : Nat} {e : MapEntry}, (∀ (k : Nat) (e : MapEntry), us[k]? = some e → e.born = i + k) → us[j]? = some e → us.findIdx? (fun e => (e.born : Int) == ((i + j : Nat) : Int)) = some j
  | [], _, _, _, _, h => by simp at h
  | x :: us, i, j, e, hb, h => by
    have h0 := hb 0 x rfl
    rw [List.findIdx?_cons]
    cases j with
    | zero =>
      have : ((x.born : Int) == ((i + 0 : Nat) : Int)) = true := by simp [h0]
      rw [this]
      rfl
    | succ j =>
      have : ((x.born : Int) == ((i + (j + 1) : Nat) : Int)) = false := by simp [h0]; omega
      rw [this]
      have := qde (us := us) (i := i + 1) (j := j) (e := e) (fun k e he => by
        have := hb (k + 1) e (by simpa using he)
        omega) (by simpa using h)
      rw [show i + (j + 1) = i + 1 + j by omega, this]
      rfl
theorem q7o (hr : HR E C) (hf : FrameR C lam st a) {t : TypeId} {m y z : Operand} (ho : o.op = .entryStore t m y z)
    (h : opK E cf site o st C.H (fun x s G => some (x, s, G)) = some (x, st', H')) : o.wpIn (FW ro) 0 E.P a C.w (Post E C (stPut st' o.dst x) H') Q := by
  have hrun : ∀ w', (Instr.entryStore t (a.eval m) (a.eval y) (a.eval z)).run E.P C.w = .ok () w' → (execOp a.eval o).run E.P C.w = .ok .skip w' := fun w' hn => by
    unfold execOp
    simp only [ho]
    exact run_u hn
  unfold opK at h
  simp only [ho] at h
  split at h
  · rename_i id sv zv hm hy hz
    split at h
    · rename_i kt' et' es hmap
      split at h
      · rename_i es' hup
        simp only [Option.some.injEq, Prod.mk.injEq] at h
        obtain ⟨rfl, rfl, rfl⟩ := h
        obtain ⟨hk, us, h3, h4, hbo⟩ := hr.oth id _ rfl hmap
        have hmu := q09 hr hf hm
        have hmv : a.eval m = .map (some (C.ρ id).1) := by
          generalize a.eval m = u at hmu
          cases hmu with
          | mp _ _ _ h2 => exact h2.2 _ _ _ hmap
        have hyu := q09 hr hf hy
        have hzu := q09 hr hf hz
        unfold A.entrySet at hup
        split at hup
        · rename_i k i
          have hyv := hyu.int_inv
          split at hup
          · rename_i h0
            split at hup
            · rename_i kv vv hget
              simp only [Option.some.injEq] at hup
              subst hup
              obtain ⟨e, q1, q2, q3, q4⟩ := h4.get hget
              rw [Array.getElem?_toList] at q1
              have hfi := qde (us := us.toList) (i := 0) (j := i.toNat) (e := e) (fun k e he => by rw [Array.getElem?_toList] at he; rw [hbo k e he]; omega) (by rw [Array.getElem?_toList]; exact q1)
              have hi : ((0 + i.toNat : Nat) : Int) = i := by omega
              rw [hi] at hfi
              obtain ⟨g1, g2⟩ := q34 (o' := .map kt' et' (es.set i.toNat (kv, zv))) (ob' := .map (us.modify i.toNat fun e => { e with val := a.eval z }) us.size) (w' := C.w.putObj (C.ρ id).1 (.map (us.modify i.toNat fun e => { e with val := a.eval z }) us.size)) hr rfl hmap (by simp [HObj.kd]) ⟨rfl, rfl, rfl⟩ rfl (fun _ _ _ e => by cases e)
                (fun _ => ⟨rfl, fun C' ev => ⟨us.modify i.toNat fun e => { e with val := a.eval z }, by simp, by
                  have h5 := h4.set (i := i.toNat) (k := kv) (v := zv) (e := { e with val := a.eval z }) q2 q3 hzu
                  rw [q5t q1]
                  exact h5.evV ev, q50 (f := fun e => { e with val := a.eval z }) hbo fun _ => rfl⟩⟩)
              refine qfq (C' := { C with w := C.w.putObj (C.ρ id).1 (.map (us.modify i.toNat fun e => { e with val := a.eval z }) us.size), H := C.H.set id (.map kt' et' (es.set i.toNat (kv, zv))) }) hf (hrun _ ?_) g2 g1
              unfold Instr.entryStore
              rw [hmv]
              have hai : asInt (Value.int k i) = pure i := rfl
              simp only [Sem.run_bind, Sem.run_pure, Result.andThen_ok, q24 h3, hyv, hai]
              have hfa : us.findIdx? (fun e => (e.born : Int) == i) = some i.toNat := by
                rw [← hfi, ← List.findIdx?_toArray]
              rw [hfa]
              exact q3m _ h3
            · cases hup
          · cases hup
        · cases hup
      · cases h
    · cases h
  · cases h
theorem q4c (hr : HR E C) (hf : FrameR C lam st a) {t : TypeId} {m y z : Operand} (ho : o.op = .mapUpdate t m y z ∨ o.op = .insert t m y z)
    (h : opK E cf site o st C.H (fun x s G => some (x, s, G)) = some (x, st', H')) : o.wpIn (FW ro) 0 E.P a C.w (Post E C (stPut st' o.dst x) H') Q := by
  have hrun : ∀ w', (Instr.mapUpdate t (a.eval m) (a.eval y) (a.eval z)).run E.P C.w = .ok () w' → (execOp a.eval o).run E.P C.w = .ok .skip w' := fun w' hn => by
    unfold execOp
    rcases ho with ho | ho <;> simp only [ho] <;> exact run_u hn
  have h' : (match E.P.underlying t, st.eval E m, st.eval E y, st.eval E z with
    | some (.map kt _), some (.mp id), some i, some x => match C.H[id]? with
      | some (.map kt' et es) => match A.update (E.P.underlying kt) i x es with
        | some es' => some (SV.val .undef, st, C.H.set id (.map kt' et es'))
        | none => none
      | _ => none
    | _, _, _, _ => none) = some (x, st', H') := by
    unfold opK at h
    rcases ho with ho | ho <;> simp only [ho] at h <;> exact h
  clear h
  split at h'
  · rename_i kt et id yv zv ht hm hy hz
    split at h'
    · rename_i kt' et' es hmap
      split at h'
      · rename_i es' hup
        simp only [Option.some.injEq, Prod.mk.injEq] at h'
        obtain ⟨rfl, rfl, rfl⟩ := h'
        obtain ⟨hk, us, h3, h4, hbo⟩ := hr.oth id _ rfl hmap
        have hmu := q09 hr hf hm
        have hmv : a.eval m = .map (some (C.ρ id).1) := by
          generalize a.eval m = u at hmu
          cases hmu with
          | mp _ _ _ h2 => exact h2.2 _ _ _ hmap
        have hyu := q09 hr hf hy
        have hzu := q09 hr hf hz
        unfold A.update at hup
        cases hko : A.keyOk (E.P.underlying kt) yv
        · rw [hko] at hup; cases hup
        · rw [hko] at hup
          simp only [cond_true] at hup
          obtain ⟨d, hd⟩ := qf9 hko
          rw [hd] at hko hup
          have hkk := qgc hko
          have hck := q51 (P := E.P) (w := C.w) (b := false) (n := 9999) hd hko hyu
          have fin : ∀ (us' : Array MapEntry) (clock' : Nat), clock' = us'.size → (∀ (i : Nat) (e : MapEntry), us'[i]? = some e → e.born = i) → (Instr.mapUpdate t (a.eval m) (a.eval y) (a.eval z)).run E.P C.w = .ok () (C.w.putObj (C.ρ id).1 (.map us' clock')) → EsV C es' us'.toList →
              o.wpIn (FW ro) 0 E.P a C.w (Post E C (stPut st o.dst (.val .undef)) (C.H.set id (.map kt' et' es'))) Q := fun us' clock' hcl hbo' hn hes => by
            subst hcl
            obtain ⟨g1, g2⟩ := q34 (o' := .map kt' et' es') (ob' := .map us' us'.size) (w' := C.w.putObj (C.ρ id).1 (.map us' us'.size)) hr rfl hmap (by simp [HObj.kd]) ⟨rfl, rfl, rfl⟩ rfl (fun _ _ _ e => by cases e) (fun _ => ⟨rfl, fun C' ev => ⟨us', rfl, hes.evV ev, hbo'⟩⟩)
            exact qfq (C' := { C with w := C.w.putObj (C.ρ id).1 (.map us' us'.size), H := C.H.set id (.map kt' et' es') }) hf (hrun _ hn) g2 g1
          split at hup
          · rename_i i w hfnd
            simp only [Option.some.injEq] at hup
            subst hup
            rcases q6q hyu h4 hfnd with ⟨e1, _⟩ | ⟨j', v', e, e1, _, e3, e4, e5, e6⟩
            · cases e1
            · injection e1 with e1
              injection e1 with e1 e2
              subst e1 e2
              rw [Nat.sub_zero, Array.getElem?_toList] at e3
              refine fin (us.modify i fun e => { e with key := a.eval y, val := a.eval z }) us.size (by simp) (q50 (f := fun e => { e with key := a.eval y, val := a.eval z }) hbo (fun _ => rfl)) ?_ ?_
              · unfold Instr.mapUpdate
                simp only [Sem.run_bind, run_underlying ht, Result.andThen_ok, hmv, q24 h3]
                rw [show (10000 : Nat) = 9999 + 1 from rfl, hck]
                simp only [Result.andThen_ok]
                unfold Instr.findKey
                simp only [Sem.run_bind, run_underlying hd, Result.andThen_ok, e4, Sem.run_pure, e3, Option.map_some, Option.getD_some]
                unfold Instr.keyThatStays
                rw [if_pos e6]
                simp only [Sem.run_pure, Result.andThen_ok]
                exact q3m _ h3
              · have : (us.modify i fun e => { e with key := a.eval y, val := a.eval z }).toList = us.toList.set i { e with key := a.eval y, val := a.eval z } := by
                  apply List.ext_getElem?
                  intro j
                  rw [Array.getElem?_toList, Array.getElem?_modify, List.getElem?_set]
                  by_cases hij : i = j
                  · subst hij
                    have hlt := (Array.getElem?_eq_some_iff.1 e3).1
                    have he := (Array.getElem?_eq_some_iff.1 e3).2
                    simp [e3, hlt, he]
                  · simp [hij]
                rw [this]
                exact h4.set hkk (q5q hkk hyu) hzu
          · rename_i hfnd
            simp only [Option.some.injEq] at hup
            subst hup
            rcases q6q hyu h4 hfnd with ⟨_, e1⟩ | ⟨j', v', e, e1, _⟩
            · refine fin (us.push { key := a.eval y, val := a.eval z, born := us.size }) (us.size + 1) (by simp) (qd0 hbo rfl) ?_ ?_
              · unfold Instr.mapUpdate
                simp only [Sem.run_bind, run_underlying ht, Result.andThen_ok, hmv, q24 h3]
                rw [show (10000 : Nat) = 9999 + 1 from rfl, hck]
                simp only [Result.andThen_ok]
                unfold Instr.findKey
                simp only [Sem.run_bind, run_underlying hd, Result.andThen_ok, e1, Sem.run_pure]
                exact q3m _ h3
              · rw [Array.toList_push]
                exact h4.push hkk (q5q hkk hyu) hzu
            · cases e1
          · cases hup
      · cases h'
    · cases h'
  · cases h'
theorem lenMap_ok (hr : HR E C) {t ty : TypeId} {k e : TypeId} {y v : AV} {u : Value} (ht : E.P.underlying t = some (.map k e)) (h : A.lenMap y C.H = some v) (hy : V C p y u) : ∃ u', (Builtin.len_ #[t] ty #[u]).run E.P C.w = .ok u' C.w ∧ V C true v u' := by
  unfold A.lenMap at h
  split at h
  · simp only [Option.some.injEq] at h
    subst h
    cases hy
    exact ⟨.int .i64 0, by simp [Builtin.len_, Sem.run_bind, run_underlying ht, Result.andThen_ok, goInt], .int _ _ _⟩
  · rename_i id
    split at h
    · rename_i k e es' hm
      simp only [Option.some.injEq] at h
      subst h
      cases hy with
      | mp _ _ _ h2 =>
        obtain ⟨hk, us, h3, h4, _⟩ := hr.oth id _ rfl hm
        have := h2.2 _ _ _ hm
        subst this
        refine ⟨.int .i64 es'.length, ?_, .int _ _ _⟩
        have hl := h4.length
        rw [Array.length_toList] at hl
        simp [Builtin.len_, Sem.run_bind, run_underlying ht, Result.andThen_ok, goInt, q24 h3, hl]
    · cases h
  · cases h
end
end Go.Den

/- DEN, part R: texts sign by sign; the builtin functions; calls; each operation. -/
namespace Go.Den
open Go.RowKit
section
variable {E : Env} {cf : CallFn} {C C' : Ctx} {lam : Nat → Nat} {st : St} {a : Act} {o : Oper} {Q : Exit → Act → World → Prop} {ro : Option Nat} {q p : Bool} {site : Option Nat} {x : SV} {st' : St} {H' : Heap}
theorem qfk (hr : HR E C) (hf : FrameR C lam st a) {t : TypeId} {y : Operand} (ho : o.op = .range t y)
    (h : opK E cf site o st C.H (fun x s G => some (x, s, G)) = some (x, st', H')) : o.wpIn (FW ro) 0 E.P a C.w (Post E C (stPut st' o.dst x) H') Q := by
  unfold opK at h
  simp only [ho] at h
  split at h
  · rename_i l ht hy
    obtain ⟨s, hs, hsv⟩ := (q09 hr hf hy).str_inv
    have ev := q8p (o := .iter l 0) (w' := C.w.alloc (.stringIter s 0)) hr ⟨rfl, rfl, rfl⟩ rfl
    have hr' : HR E (C.grow (C.w.alloc (.stringIter s 0)) (.iter l 0)) := qbq hr ⟨rfl, rfl, rfl⟩ rfl (fun _ _ _ _ e => by cases e) (fun _ => ⟨s, hs, rfl⟩)
    refine q2p (C' := C.grow (C.w.alloc (.stringIter s 0)) (.iter l 0)) hf h (u := .pointer (some ⟨C.w.heap.size, 0, none⟩)) ?_ hr' ev rfl (.it _ _ rfl ⟨by show _ < (C.H ++ [_]).length; simp, fun l' pos e => by rw [q1h]⟩)
    unfold execOp
    simp only [ho, hsv]
    refine q1b ?_
    unfold Instr.range
    simp only [Sem.run_bind, run_underlying ht, Result.andThen_ok, Sem.run_pure, run_newObj_alloc]
    rfl
  · cases h
theorem qi1 (hr : HR E C) (hf : FrameR C lam st a) {y : Operand} {b : Bool} (ho : o.op = .next y b)
    (h : opK E cf site o st C.H (fun x s G => some (x, s, G)) = some (x, st', H')) : o.wpIn (FW ro) 0 E.P a C.w (Post E C (stPut st' o.dst x) H') Q := by
  unfold opK at h
  simp only [ho] at h
  cases b
  · cases h
  · dsimp only at h
    split at h
    · rename_i id hy
      split at h
      · rename_i l pos hi
        have hu := q09 hr hf hy
        have hp : a.eval y = .pointer (some ⟨(C.ρ id).1, 0, none⟩) := by
          generalize a.eval y = u at hu
          cases hu with
          | it _ _ _ h2 => exact h2.2 l pos hi
        obtain ⟨hk, s, hsl, hheap⟩ := hr.oth id _ rfl hi
        have hsz : l.length = s.size := by rw [← hsl]; exact Array.length_toList
        have hsa : (⟨l.toArray⟩ : ByteArray) = s := by
          rw [← hsl]
        have hrun : ∀ u w', (Instr.next (.pointer (some ⟨(C.ρ id).1, 0, none⟩)) true o.type).run E.P C.w = .ok u w' → (execOp a.eval o).run E.P C.w = .ok (.value u) w' := fun u w' hn => by
          unfold execOp
          simp only [ho, hp]
          exact q1b hn
        split at h
        · rename_i hlt
          have hlt' : pos < s.size := by omega
          generalize hd : Utf8.decode s pos = d
          obtain ⟨hr', ev⟩ := q34 (o' := .iter l (pos + d.2)) (ob' := .stringIter s (pos + d.2)) (w' := { C.w with heap := C.w.heap.setIfInBounds (C.ρ id).1 (.stringIter s (pos + d.2)) }) hr rfl hi (by simp [HObj.kd]) ⟨rfl, rfl, rfl⟩ rfl (fun _ _ _ e => by cases e) (fun _ => ⟨rfl, fun C' _ => ⟨s, hsl, rfl⟩⟩)
          rw [hsa, hd] at h
          refine q2p (C' := { C with w := { C.w with heap := C.w.heap.setIfInBounds (C.ρ id).1 (.stringIter s (pos + d.2)) }, H := C.H.set id (.iter l (pos + d.2)) }) hf h (hrun (.tuple #[.bool true, goInt pos, .int .i32 d.1]) _ ?_) hr' ev rfl (.tup _ _ _ (.cons _ _ _ _ _ (.bool _ _) (.cons _ _ _ _ _ (.int _ _ _) (.cons _ _ _ _ _ (.int _ _ _) (.nil _)))))
          have hget : (getObj (C.ρ id).1).run E.P C.w = .ok (.stringIter s pos) C.w := by simp [getObj, Sem.run, hheap]
          have hset : ∀ n, (setObj (C.ρ id).1 (.stringIter s n)).run E.P C.w = .ok () { C.w with heap := C.w.heap.setIfInBounds (C.ρ id).1 (.stringIter s n) } := fun n => by simp [setObj, Sem.run, hheap]
          unfold Instr.next
          simp only [Sem.run_bind, hget, Result.andThen_ok, hlt', if_true, hd, hset, Sem.run_pure]
        · rename_i hlt
          have hlt' : ¬ pos < s.size := by omega
          refine q0t (p := false) hr hf h (hrun (.tuple #[.bool false]) _ ?_) (.tup _ _ _ (.cons _ _ _ _ _ (.bool _ _) (.nil _)))
          have hget : (getObj (C.ρ id).1).run E.P C.w = .ok (.stringIter s pos) C.w := by simp [getObj, Sem.run, hheap]
          unfold Instr.next
          simp only [Sem.run_bind, hget, Result.andThen_ok, hlt', if_false, Sem.run_pure]
      · cases h
    · cases h
theorem max_ok {P : Program} {w : World} : ∀ {xs : List AV} {y v : AV} {u : Value} {us : List Value}, xs.foldlM A.maxv y = some v → V C p y u → Vs C p xs us → ∃ u', (us.foldlM Builtin.max2 u).run P w = .ok u' w ∧ V C p v u'
  | [], y, v, u, us, h, hy, hx => by
    cases hx
    simp only [List.foldlM_nil, Option.pure_def, Option.some.injEq] at h
    subst h
    exact ⟨u, rfl, hy⟩
  | z :: xs, y, v, u, us, h, hy, hx => by
    cases hx with
    | cons _ _ u1 _ us h1 h2 =>
      rw [List.foldlM_cons] at h
      simp only [Option.bind_eq_bind, Option.bind_eq_some_iff] at h
      obtain ⟨m, hm, h⟩ := h
      unfold A.maxv at hm
      split at hm
      · rename_i k a k' b
        cases hk : decide (k = k')
        · rw [hk] at hm; cases hm
        · rw [hk] at hm
          simp only [cond_true, Option.some.injEq] at hm
          subst hm
          cases hy
          cases h1
          obtain ⟨u', g1, g2⟩ := max_ok (P := P) (w := w) h (.int p k _) h2
          refine ⟨u', ?_, g2⟩
          rw [List.foldlM_cons, Sem.run_bind]
          exact g1
      · cases hm
theorem min_ok {P : Program} {w : World} : ∀ {xs : List AV} {y v : AV} {u : Value} {us : List Value}, xs.foldlM A.minv y = some v → V C p y u → Vs C p xs us → ∃ u', (us.foldlM Builtin.min2 u).run P w = .ok u' w ∧ V C p v u'
  | [], y, v, u, us, h, hy, hx => by
    cases hx
    simp only [List.foldlM_nil, Option.pure_def, Option.some.injEq] at h
    subst h
    exact ⟨u, rfl, hy⟩
  | z :: xs, y, v, u, us, h, hy, hx => by
    cases hx with
    | cons _ _ u1 _ us h1 h2 =>
      rw [List.foldlM_cons] at h
      simp only [Option.bind_eq_bind, Option.bind_eq_some_iff] at h
      obtain ⟨m, hm, h⟩ := h
      unfold A.minv at hm
      split at hm
      · rename_i k a k' b
        cases hk : decide (k = k')
        · rw [hk] at hm; cases hm
        · rw [hk] at hm
          simp only [cond_true, Option.some.injEq] at hm
          subst hm
          cases hy
          cases h1
          obtain ⟨u', g1, g2⟩ := min_ok (P := P) (w := w) h (.int p k _) h2
          refine ⟨u', ?_, g2⟩
          rw [List.foldlM_cons, Sem.run_bind]
          exact g1
      · cases hm
theorem q7y {α : Type} {xs : Array α} {x : α} (h : xs.toList = [x]) : xs = #[x] := by
  apply Array.toList_inj.1
  exact h
theorem qb6 {α : Type} {xs : Array α} {x y : α} (h : xs.toList = [x, y]) : xs = #[x, y] := by
  apply Array.toList_inj.1
  exact h
theorem news_ok (hr : HR E C) {sz : Nat} {tx : TypeId} {y : AV} {u : Value} {news : List AV} (h : newsOf E sz tx y C.H = some news) (hy : V C p y u) :
    ∃ ws, Src E.P sz tx u news.length ws C.w ∧ Vs C false (news.flatMap AV.cells) ws ∧ ∀ e ∈ news, Good sz e := by
  unfold newsOf at h
  split at h
  · rename_i ht
    split at h
    · rename_i l
      cases hd : decide (sz = 1)
      · rw [hd] at h; cases h
      · rw [hd] at h
        simp only [cond_true, Option.some.injEq] at h
        simp only [decide_eq_true_eq] at hd
        subst hd h
        obtain ⟨s, rfl, rfl⟩ := hy.str_inv
        exact qfx ht
    · cases h
  · rename_i e ht
    exact read_ok hr ht h hy
  · cases h
theorem newsZ_ok (hr : HR E C) {t tx ty e : TypeId} {sz by_ : Nat} {z y : AV} {u : Value} {news : List AV} (ht : E.P.underlying t = some (.slice e)) (hsz : E.size e = some sz) (hby : E.bytes e = some by_) (hzv : E.zero e = some z) (hzl : z.cells.length = sz) (hpos : 0 < sz)
    (h : newsZ E sz by_ z tx y C.H = some news) (hy : V C p y u) : ∃ ws, ApS E.P t tx ty e u news.length ws C.w ∧ Vs C false (news.flatMap AV.cells) ws ∧ ∀ e ∈ news, Good sz e := by
  obtain ⟨i, zv, hi, hi1, hi2, hi3, hi4⟩ := qf8 hsz hby hzv
  unfold newsZ at h
  split at h
  · rename_i l hl
    simp only [Option.some.injEq] at h
    subst h
    obtain ⟨ws, k1, k2, k3⟩ := news_ok hr hl hy
    exact ⟨ws, ApS.ofSrc ht (fun j hj => by rw [hi] at hj; cases hj; exact hi1) k1, k2, k3⟩
  · split at h
    · rename_i k m hk _hk2
      split at h
      · rename_i hc
        simp only [Option.some.injEq] at h
        subst h
        have hyu := hy.int_inv
        subst hyu
        have hzd : z.isDef = true := q1u hi4
        have hzc := (q25 (C := C) hi4).cells hzd
        have hzs : zv.cells.size = sz := by rw [← Array.length_toList, hzc.1.length, hzl]
        obtain ⟨n, rfl⟩ : ∃ n : Nat, m = n := ⟨m.toNat, by omega⟩
        rw [Int.toNat_natCast, List.length_replicate]
        have hmb : n * i.bytes ≤ 281474976710656 := by
          have := hc.2.1
          rw [← hi2, ← Int.natCast_mul] at this
          omega
        refine ⟨_, ApS.ofZeros ht hk hi hi3 (hzs.trans hi1.symm) (by omega) (hzc.1.one hzc.2) hmb (by omega), ?_, fun x hx => ?_⟩
        · have := q6w hzc.1 hzs hpos n
          have e : (Builtin.zeroCells zv.cells n).toList = (List.range (n * sz)).map fun j => zv.cells[j % sz]! := by
            unfold Builtin.zeroCells
            rw [hzs, Array.toList_map, Array.toList_range]
          rw [e]
          exact this.weakenB
        · have := List.eq_of_mem_replicate hx
          subst this
          exact ⟨hzl, hzc.2⟩
      · cases h
    · cases h
theorem isSl_ok {d : AV} {u : Value} {p : Bool} (h : A.isSl d C.H = true) (hd : V C p d u) : ∃ a n c, u = .slice a n c := by
  unfold A.isSl at h
  split at h
  · cases hd
    exact ⟨_, _, _, rfl⟩
  · rename_i id ver off n cap
    obtain ⟨sz, ty, es, hrow⟩ := q1y h
    cases hd with
    | sl _ _ _ _ _ _ g0 g1 =>
      obtain ⟨a, c, hu, _⟩ := (g1.2 ver sz ty es hrow).2 rfl
      exact ⟨_, _, _, hu⟩
  · cases h
theorem qj0 {t tx ty e : TypeId} {sz : Nat} {x : Value} (he : E.P.underlying t = some (.slice e)) (hsz : E.size e = some sz) (hs : Src E.P sz tx x 0 [] C.w) (a : Option Addr) (n c : Nat) :
    (Builtin.copy_ #[t, tx] ty #[.slice a n c, x]).run E.P C.w = .ok (.int .i64 0) C.w := by
  have hl := hs.len C.w
  have hc := hs.cells
  have hz := q13 (E := E) (w := C.w) hsz
  have e1 : Builtin.copy_ #[t, tx] ty #[.slice a n c, x] = (do
      let .slice elem ← underlying t | stuck "copy: slice type expected"
      let n := Nat.min (← Builtin.lenOf x) n
      let cells ← Builtin.firstCells (← sizeOf elem) n x
      if let some a := a then storeCells a cells.toList
      pure (goInt n)) := rfl
  rw [e1]
  simp only [Sem.run_bind, run_underlying he, Result.andThen_ok, hl, hz]
  have : Nat.min 0 n = 0 := Nat.zero_min n
  simp only [this, hc, Result.andThen_ok]
  cases a <;> simp [storeCells, goInt]
theorem qbc (hr : HR E C) {b : Builtin} {ts : Array TypeId} {ty : TypeId} {cs : Array Bool} {args : List AV} {us : Array Value} {v : AV} (hv : Vs C false args us.toList)
    (h : q17 E b ts.toList args C.H (fun v G => some (v, G)) = some (v, H')) :
    ∃ u C', (builtin b ts ty cs us).run E.P C.w = .ok (.value u) C'.w ∧ HR E C' ∧ EvL C C' ∧ C'.H = H' ∧ V C' false v u := by
  have one : ∀ {y : AV} {p : Bool}, Vs C p [y] us.toList → ∃ u, us = #[u] ∧ V C p y u := fun {y p} hv => by
    generalize hul : us.toList = ul at hv
    cases hv with
    | cons _ _ u _ us' h1 h2 =>
      cases h2
      exact ⟨u, q7y hul, h1⟩
  have two : ∀ {y z : AV} {p : Bool}, Vs C p [y, z] us.toList → ∃ u1 u2, us = #[u1, u2] ∧ V C p y u1 ∧ V C p z u2 := fun {y z p} hv => by
    generalize hul : us.toList = ul at hv
    cases hv with
    | cons _ _ u _ us' h1 h2 =>
      cases h2 with
      | cons _ _ u2 _ us2 h3 h4 =>
        cases h4
        exact ⟨u, u2, qb6 hul, h1, h3⟩
  have same : ∀ {y : AV} {G : Heap}, (some (y, G) : Option (AV × Heap)) = some (v, H') → y = v ∧ G = H' := fun h => by
    simp only [Option.some.injEq, Prod.mk.injEq] at h
    exact h
  unfold q17 at h
  split at h
  · rename_i t x hts
    obtain ⟨u, rfl, h1⟩ := one hv
    have := q7y hts
    subst this
    split at h
    · rename_i ht
      obtain ⟨v', hv', h⟩ := q0b h
      obtain ⟨rfl, rfl⟩ := same h
      obtain ⟨u', g1, g2⟩ := lenStr_ok (ty := ty) ht hv' h1
      exact ⟨u', C, q1b g1, hr, EvL.refl C, rfl, g2.weaken⟩
    · rename_i e ht
      obtain ⟨v', hv', h⟩ := q0b h
      obtain ⟨rfl, rfl⟩ := same h
      obtain ⟨u', g1, g2⟩ := len_ok (ty := ty) ht hv' h1
      exact ⟨u', C, q1b g1, hr, EvL.refl C, rfl, g2.weaken⟩
    · rename_i e ht
      obtain ⟨v', hv', h⟩ := q0b h
      obtain ⟨rfl, rfl⟩ := same h
      obtain ⟨u', g1, g2⟩ := lenMap_ok (ty := ty) hr ht hv' h1
      exact ⟨u', C, q1b g1, hr, EvL.refl C, rfl, g2.weaken⟩
    · cases h
  · rename_i x xs
    obtain ⟨v', hv', h⟩ := q0b h
    obtain ⟨rfl, rfl⟩ := same h
    generalize hul : us.toList = ul at hv
    cases hv with
    | cons _ _ u _ us' h1 h2 =>
      obtain ⟨u', g1, g2⟩ := max_ok (P := E.P) (w := C.w) hv' h1 h2
      exact ⟨u', C, q1b (by unfold Builtin.max_; rw [hul]; exact g1), hr, EvL.refl C, rfl, g2⟩
  · rename_i x xs
    obtain ⟨v', hv', h⟩ := q0b h
    obtain ⟨rfl, rfl⟩ := same h
    generalize hul : us.toList = ul at hv
    cases hv with
    | cons _ _ u _ us' h1 h2 =>
      obtain ⟨u', g1, g2⟩ := min_ok (P := E.P) (w := C.w) hv' h1 h2
      exact ⟨u', C, q1b (by unfold Builtin.min_; rw [hul]; exact g1), hr, EvL.refl C, rfl, g2⟩
  · rename_i t tx s x hts
    obtain ⟨u1, u2, rfl, h1, h2⟩ := two hv
    have := qb6 hts
    subst this
    split at h
    · rename_i e he
      split at h
      · rename_i sz by_ z hsz hby hz
        cases hc : (decide (z.cells.length = sz) && decide (0 < sz))
        · simp only [hc, cond_false] at h
          cases h
        · simp only [hc, cond_true] at h
          simp only [Bool.and_eq_true, decide_eq_true_eq] at hc
          split at h
          · rename_i news hnews
            split at h
            · rename_i v1 H1 ha
              obtain ⟨rfl, rfl⟩ := same h
              obtain ⟨ws, k1, k2, k3⟩ := newsZ_ok (t := t) (ty := ty) hr (q3i he) hsz hby hz hc.1 hc.2 hnews h2
              obtain ⟨u, C', g1, g2, g3, g4, g5⟩ := qir (ty := ty) hr (q3i he) hsz hby hz hc.1 hc.2 k1 k2 k3 ha h1
              exact ⟨u, C', q1b g1, g3, g4, g5, g2⟩
            · cases h
          · cases h
      · cases h
    · cases h
  · rename_i t d hts
    obtain ⟨u1, rfl, h1⟩ := one hv
    have := q7y hts
    subst this
    split at h
    · rename_i e he
      split at h
      · rename_i sz z hsz hz
        cases hc : decide (z.cells.length = sz)
        · simp only [hc, cond_false] at h
          cases h
        · simp only [hc, cond_true] at h
          simp only [decide_eq_true_eq] at hc
          split at h
          · rename_i v1 H1 ha
            obtain ⟨rfl, rfl⟩ := same h
            obtain ⟨u, C', g1, g2, g3, g4, g5⟩ := clear_ok (ty := ty) hr (q3i he) hsz hz hc ha h1
            exact ⟨u, C', q1b g1, g3, g4, g5, g2⟩
          · cases h
      · cases h
    · cases h
  · rename_i t tx d x hts
    obtain ⟨u1, u2, rfl, h1, h2⟩ := two hv
    have := qb6 hts
    subst this
    split at h
    · rename_i e he
      split at h
      · rename_i sz hsz
        split at h
        · rename_i hnews
          cases hi : A.isSl d C.H
          · rw [hi] at h
            cases h
          · rw [hi] at h
            simp only [cond_true] at h
            obtain ⟨rfl, rfl⟩ := same h
            obtain ⟨ws, k1, k2, k3⟩ := news_ok hr hnews h2
            obtain ⟨a, n, c, hu⟩ := isSl_ok hi h1
            subst hu
            have hw : ws = [] := by
              have := k1.newsLen
              simpa using this
            subst hw
            refine ⟨.int .i64 0, C, q1b ?_, hr, EvL.refl C, rfl, .int _ _ _⟩
            exact qj0 (q3i he) hsz k1 a n c
        · cases h
      · cases h
    · cases h
  · rename_i t hts
    obtain ⟨u1, rfl, h1⟩ := one hv
    have := q7y hts
    subst this
    split at h
    · rename_i e he
      obtain ⟨rfl, rfl⟩ := same h
      cases h1
      exact ⟨.int .i64 0, C, q1b (by simp [Builtin.cap_, run_underlying he, goInt]), hr, EvL.refl C, rfl, .int _ _ _⟩
    · cases h
  · rename_i t s hts
    obtain ⟨u1, rfl, h1⟩ := one hv
    have := q7y hts
    subst this
    obtain ⟨v', hv', h⟩ := q0b h
    obtain ⟨rfl, rfl⟩ := same h
    obtain ⟨u, g1, g2⟩ := qec (ts := #[t]) (ty := ty) hv' h1
    exact ⟨u, C, q1b g1, hr, EvL.refl C, rfl, g2⟩
  · rename_i pt it x n hts
    obtain ⟨u1, u2, rfl, h1, h2⟩ := two hv
    have := qb6 hts
    subst this
    split at h
    · rename_i e he
      cases hc : Nat.beq (E.P.cellsOf e) 1
      · rw [hc] at h
        cases h
      · rw [hc] at h
        simp only [cond_true] at h
        split at h
        · rename_i v1 H1 ha
          obtain ⟨rfl, rfl⟩ := same h
          obtain ⟨u, C', g1, g2, g3, g4, g5⟩ := qed (it := it) (ty := ty) hr he (Nat.eq_of_beq_eq_true hc) ha h1 h2
          exact ⟨u, C', q1b g1, g2, g3, g4, g5⟩
        · cases h
    · cases h
  · cases h
theorem qes (hck : CallKOK E cf) (hr : HR E C) {f : AV} {uf : Value} {args : List AV} {us : Array Value} {v : AV} (hfv : V C false f uf) (hv : Vs C false args us.toList)
    (h : callV E cf f args C.H (fun v G => some (v, G)) = some (v, H')) : (∃ g fs cs, uf = .func (.func g) fs cs ∧ Lands E.P g (fs ++ us ++ cs) C.w (GivesL E C v H')) ∨ ∃ id, uf = .func (.yield (C.ρ id).1) #[] #[] ∧ YLands E C id us (GivesL E C v H') := by
  unfold callV at h
  split at h
  · rename_i g first captured
    cases hfv with
    | fn _ _ _ _ fs cs h1 h2 =>
      refine .inl ⟨g, fs, cs, rfl, hck.call _ _ C _ _ _ h hr ?_⟩
      rw [Array.toList_append, Array.toList_append]
      exact (h1.append hv).append h2
  · rename_i id
    have hy := hck.yield id args C us v H' h hr hv
    obtain ⟨L, hL⟩ := hy.1
    cases hfv with
    | yl _ _ _ h2 => exact .inr ⟨id, h2.2 L hL, hy⟩
  · cases h
theorem qbo {v : AV} {x : SV} {H1 : Heap} {g : FuncId} {us : Array Value} (hf : FrameR C lam st a) (hrun : (execOp a.eval o).run E.P C.w = (callFunc g us).run E.P C.w) (hl : Lands E.P g us C.w (GivesL E C v H1))
    (h : (some (SV.val v, st, H1) : Option (SV × St × Heap)) = some (x, st', H')) : o.wpIn (FW ro) 0 E.P a C.w (Post E C (stPut st' o.dst x) H') Q := by
  simp only [Option.some.injEq, Prod.mk.injEq] at h
  obtain ⟨rfl, rfl, rfl⟩ := h
  exact lands_wp hf hrun hl
theorem qhz {t : TypeId} {v : Value} {m : String} {mt : Method} {f : FuncId} {ptr : Bool} {w : World} {d : TypeDesc} (hm : (E.P.info? t).bind (fun i => i.methods.find? (·.name == m)) = some mt) (hfn : mt.func = some (f, ptr)) (hp : mt.path.toList = [])
    (hd : E.P.underlying t = some d) (hk : (∃ e, d = .pointer e ∧ ptr = true) ∨ ((∀ e, d ≠ .pointer e) ∧ ptr = false)) (n : Nat) : (method (n + 1) t v m).run E.P w = .ok (f, v) w := by
  simp only [Option.bind_eq_some_iff] at hm
  obtain ⟨i, hi, hm⟩ := hm
  have hti : (typeInfo t).run E.P w = .ok i w := by simp [typeInfo, Sem.run_bind, hi]
  unfold method
  simp only [Sem.run_bind, hti, Result.andThen_ok, hm, hp, follow, Sem.run_pure, hfn]
  rcases hk with ⟨e, rfl, rfl⟩ | ⟨hne, rfl⟩
  · simp only [receiverAt, Sem.run_bind, run_underlying hd, Result.andThen_ok, Place.get, Sem.run_pure]
  · simp only [receiverAt, Sem.run_bind, run_underlying hd, Result.andThen_ok]
    cases d <;> first | exact absurd rfl (hne _) | simp only [Place.get, Sem.run_pure, Result.andThen_ok]
theorem qhk (hcn : CNat cf) (hck : CallKOK E cf) (hr : HR E C) (hf : FrameR C lam st a) {c : Call} (ho : o.op = .call c)
    (h : opK E cf site o st C.H (fun x s G => some (x, s, G)) = some (x, st', H')) : o.wpIn (FW ro) 0 E.P a C.w (Post E C (stPut st' o.dst x) H') Q := by
  unfold opK at h
  simp only [ho] at h
  split at h
  · rename_i args hargs
    have hv : Vs C false args (c.args.map a.eval).toList := by simpa using q5m hr hf hargs
    split at h
    · rename_i f hc
      split at h
      case h_2 =>
        split at h
        · rename_i g
          rw [q87 _ _ _ (k := fun w H' => some (SV.val w, st, H')) (g := fun v G => some (v, G)) (h := fun p => some (SV.val p.1, st, p.2)) (fun _ _ => rfl)] at h
          simp only [Option.bind_eq_some_iff] at h
          obtain ⟨⟨v, H1⟩, h1, h⟩ := h
          refine qbo hf ?_ (hck.call _ _ C _ _ _ (qer h1) hr hv) h
          unfold execOp
          simp only [ho, resolve, hc, Act.eval, Deferred.ofValue, Sem.run_bind, Sem.run_pure, Result.andThen_ok, invoke]
          simp only [Array.empty_append, Array.append_empty]
        · cases h
      split at h
      · rename_i fv hfv
        rw [q89 hcn _ _ _ (k := fun w H' => some (SV.val w, st, H')) (g := fun v G => some (v, G)) (h := fun p => some (SV.val p.1, st, p.2)) (fun _ _ => rfl)] at h
        simp only [Option.bind_eq_some_iff] at h
        obtain ⟨⟨v, H1⟩, h1, h⟩ := h
        rcases qes hck hr (q09 hr hf hfv) hv h1 with ⟨g, fs, cs, hu, hl⟩ | ⟨id, hu, hl⟩
        · refine qbo hf ?_ hl h
          unfold execOp
          simp only [ho, resolve, hc, hu, Deferred.ofValue, Sem.run_bind, Sem.run_pure, Result.andThen_ok, invoke]
        · simp only [Option.some.injEq, Prod.mk.injEq] at h
          obtain ⟨rfl, rfl, rfl⟩ := h
          refine yield_wp (id := id) hf ?_ hl
          unfold execOp
          simp only [ho, resolve, hc, hu, Deferred.ofValue, Sem.run_bind, Sem.run_pure, Result.andThen_ok, invoke]
          simp
      · cases h
    · rename_i b hc
      rw [q43 _ _ _ _ (k := fun w H' => some (SV.val w, st, H')) (g := fun v G => some (v, G)) (h := fun p => some (SV.val p.1, st, p.2)) (fun _ _ => rfl)] at h
      simp only [Option.bind_eq_some_iff] at h
      obtain ⟨⟨v, H1⟩, h1, h⟩ := h
      obtain ⟨u, C', g1, g2, g3, g4, g5⟩ := qbc (ty := o.type) (cs := c.args.map fun | .const _ => true | _ => false) hr hv h1
      refine q2p hf h ?_ g2 g3 g4 g5
      unfold execOp
      simp only [ho, resolve, hc, Sem.run_bind, Sem.run_pure, Result.andThen_ok, invoke]
      exact g1
    · rename_i r m hc
      split at h
      · rename_i t w hw
        have hu := q09 hr hf hw
        generalize hru : a.eval r = ur at hu
        cases hu with
        | iface _ _ _ uw huw =>
          split at h
          · rename_i mt hm
            split at h
            · rename_i f ptr hfn hp
              have hargs' : Vs C false (w :: args) (#[uw] ++ c.args.map a.eval).toList := by
                rw [Array.toList_append]
                exact .cons _ _ _ _ _ huw hv
              have fin : ∀ {d : TypeDesc}, E.P.underlying t = some d → ((∃ e, d = .pointer e ∧ ptr = true) ∨ ((∀ e, d ≠ .pointer e) ∧ ptr = false)) →
                  callK E cf f (w :: args) C.H (fun w H' => some (SV.val w, st, H')) = some (x, st', H') → o.wpIn (FW ro) 0 E.P a C.w (Post E C (stPut st' o.dst x) H') Q := fun {d} hd hk h => by
                rw [q2x hcn _ _ _ (k := fun w H' => some (SV.val w, st, H')) (g := fun v G => some (v, G)) (h := fun p => some (SV.val p.1, st, p.2)) (fun _ _ => rfl)] at h
                simp only [Option.bind_eq_some_iff] at h
                obtain ⟨⟨v, H1⟩, h1, h⟩ := h
                refine qbo hf ?_ (hck.call _ _ C _ _ _ h1 hr hargs') h
                unfold execOp
                have hx : (#[Value.iface t uw] ++ c.args.map a.eval)[0]? = some (Value.iface t uw) := by rw [← Array.getElem?_toList, Array.toList_append]; rfl
                have he : (#[Value.iface t uw] ++ c.args.map a.eval).extract 1 (#[Value.iface t uw] ++ c.args.map a.eval).size = c.args.map a.eval := by
                  apply Array.toList_inj.1
                  simp only [Array.toList_extract, Array.toList_append, List.extract_eq_take_drop, List.cons_append, List.nil_append, List.drop_succ_cons, List.drop_zero]
                  exact List.take_of_length_le (by simp)
                simp only [ho, resolve, hc, hru, Sem.run_bind, Sem.run_pure, Result.andThen_ok, invoke, hx, he, callMethod]
                have hpr : program.run E.P C.w = .ok E.P C.w := rfl
                rw [hpr]
                simp only [Result.andThen_ok]
                rw [show E.P.types.size + Made.depth = (E.P.types.size + Made.depth - 1) + 1 from (Nat.sub_add_cancel (by show 1 ≤ E.P.types.size + Made.depth; unfold Made.depth; omega)).symm, qhz hm hfn hp hd hk]
                rfl
              split at h
              · rename_i e ht
                cases ptr
                · cases h
                · exact fin ht (.inl ⟨e, rfl, rfl⟩) h
              · rename_i d hnp ht
                cases ptr
                · exact fin ht (.inr ⟨fun e he => hnp e (by rw [← he]), rfl⟩) h
                · cases h
              · cases h
            · cases h
          · cases h
      · cases h
  · cases h
end
end Go.Den

/- DEN, part S: operations, regions in the text's order. -/
namespace Go.Den
open Go.RowKit
section
variable {E : Env} {cf : CallFn} {C C' : Ctx} {lam : Nat → Nat} {st : St} {a : Act} {o : Oper} {Q : Exit → Act → World → Prop} {ro : Option Nat} {q p : Bool} {site : Option Nat} {x : SV} {st' : St} {H' : Heap}
theorem q1d {R : Type} {c : Bool} {y : Option R} {r : R} (h : (bif c then y else none) = some r) : y = some r := by
  cases c
  · cases h
  · exact h
theorem qc6 (hcn : CNat cf) (hck : CallKOK E cf) (hr : HR E C) (hf : FrameR C lam st a)
    (h : opK E cf site o st C.H (fun x s G => some (x, s, G)) = some (x, st', H')) : o.wpIn (FW ro) 0 E.P a C.w (Post E C (stPut st' o.dst x) H') Q := by
  cases ho : o.op with
  | move y =>
    have h' := h
    unfold opK at h'
    simp only [ho] at h'
    exact qaq hr hf h' (by unfold execOp; simp only [ho]; rfl)
  | assign y =>
    have h' := h
    unfold opK at h'
    simp only [ho] at h'
    exact qaq hr hf h' (by unfold execOp; simp only [ho]; rfl)
  | pick c y z => exact qi6 hr hf ho h
  | alloc t => exact qei hr hf ho h
  | box t y => exact qiv hr hf ho h
  | build t ps => exact qem hr hf ho h
  | buildSlice t n ps => exact q7n hr hf ho h
  | load t y => exact qhx hr hf ho h
  | store t y z => exact qfw hr hf ho h
  | nilCheck y => exact q9q hr hf ho h
  | binOp op t y z s => exact qek hr hf ho h
  | unOp op t y => exact qil hr hf ho h
  | convert s d y => exact qbd hr hf ho h
  | makeInterface t y => exact q58 hr hf ho h
  | makeFunc f ys zs => exact q9o hr hf ho h
  | makeSlice t y z => exact q8t hr hf ho h
  | slice t y lo hi mx => exact qfu hr hf ho h
  | fieldAddr s y i => exact q8g hr hf ho h
  | field t y i => exact qf2 hr hf ho h
  | indexAddr t y z => exact q8q hr hf ho h
  | index t y z => exact qf7 hr hf ho h
  | range t y => exact qfk hr hf ho h
  | next y b => exact qi1 hr hf ho h
  | typeAssert y xt t ok => exact q7p hr hf ho h
  | extract y i => exact qbj hr hf ho h
  | call c => exact qhk hcn hck hr hf ho h
  | makeMap t r => exact qc2 hr hf ho h
  | lookup t y z ok => exact qdp hr hf ho h
  | mapUpdate t m y z => exact q4c hr hf (.inl ho) h
  | insert t m y z => exact q4c hr hf (.inr ho) h
  | mapEntry t m y => exact q9p hr hf ho h
  | entryStore t m y z => exact q7o hr hf ho h
  | _ =>
    unfold opK at h
    simp only [ho] at h
    cases h
theorem q5w (hcn : CNat cf) (hk : ∀ s, q0j st site o ≠ some (s, true)) {H : Heap} (h : opK E cf site o st H (fun x s G => some (x, s, G)) = some (x, st', H')) : st' = st := by
  have fin : ∀ {y : SV} {G : Heap}, (some (y, st, G) : Option (SV × St × Heap)) = some (x, st', H') → st' = st := fun h => by
    simp only [Option.some.injEq, Prod.mk.injEq] at h
    exact h.2.1.symm
  have wfin : ∀ {v : Option AV} {G : Heap}, withV v (fun v => some (SV.val v, st, G)) = some (x, st', H') → st' = st := fun h => by
    obtain ⟨v, _, h⟩ := q0b h
    exact fin h
  have bfin : ∀ {y : Option (AV × Heap)}, y.bind (fun p => some (SV.val p.1, st, p.2)) = some (x, st', H') → st' = st := fun h => by
    simp only [Option.bind_eq_some_iff] at h
    obtain ⟨p, _, h⟩ := h
    exact fin h
  unfold opK at h
  unfold q0j at hk
  cases ho : o.op <;> simp only [ho] at h hk
  case call c =>
    split at h
    · split at h
      · split at h
        case h_2 =>
          split at h
          · rw [q87 _ _ _ (k := fun w H' => some (SV.val w, st, H')) (g := fun v G => some (v, G)) (h := fun p => some (SV.val p.1, st, p.2)) (fun _ _ => rfl)] at h
            exact bfin h
          · cases h
        split at h
        · rw [q89 hcn _ _ _ (k := fun w H' => some (SV.val w, st, H')) (g := fun v G => some (v, G)) (h := fun p => some (SV.val p.1, st, p.2)) (fun _ _ => rfl)] at h
          exact bfin h
        · cases h
      · rw [q43 _ _ _ _ (k := fun w H' => some (SV.val w, st, H')) (g := fun v G => some (v, G)) (h := fun p => some (SV.val p.1, st, p.2)) (fun _ _ => rfl)] at h
        exact bfin h
      · split at h
        · split at h
          · split at h
            · rename_i f ptr hfn hp
              have hh : ∀ {f : FuncId} {l : List AV}, callK E cf f l H (fun w H' => some (SV.val w, st, H')) = some (x, st', H') → st' = st := fun h => by
                rw [q2x hcn _ _ _ (k := fun w H' => some (SV.val w, st, H')) (g := fun v G => some (v, G)) (h := fun p => some (SV.val p.1, st, p.2)) (fun _ _ => rfl)] at h
                exact bfin h
              split at h
              · cases ptr
                · cases h
                · exact hh h
              · cases ptr
                · exact hh h
                · cases h
              · cases h
            · cases h
          · cases h
        · cases h
    · cases h
  case convert s d y =>
    split at h
    · unfold q0u at h
      split at h
      · exact fin h
      · split at h
        · exact fin h
        · split at h
          · exact fin h
          · cases h
    · cases h
  case alloc t =>
    cases site with
    | none =>
      split at h
      · exact fin (q1d h)
      · cases h
    | some s => exact absurd rfl (hk s)
  case buildSlice t n ps =>
    split at h
    · split at h
      · have h := q1d h
        split at h
        · split at h
          · exact fin h
          · exact fin (q1d h)
        · cases h
      · cases h
    · cases h
  case box t y =>
    cases site with
    | none =>
      split at h
      · exact fin (q1d h)
      · cases h
    | some s =>
      cases hs : Nat.ble 1000 s
      · exact absurd (by simp only [hs, cond_false]) (hk s)
      · simp only [hs, cond_true] at h
        split at h
        · exact fin (q1d h)
        · cases h
  case store t y z =>
    split at h
    · cases y with
      | tmp q =>
        dsimp only at h hk
        split at h
        · rename_i s off hw
          simp only [hw] at hk
          exact absurd rfl (hk s)
        · split at h
          · exact fin h
          · cases h
        · cases h
      | _ => cases h
    · cases h
  case next y b =>
    cases b
    · cases h
    · dsimp only at h
      split at h
      · split at h
        · split at h
          · exact fin h
          · exact fin h
        · cases h
      · cases h
  case typeAssert y xt t ok =>
    split at h
    · split at h
      · cases h
      · cases ok
        · simp only [cond_false] at h
          split at h
          · exact fin h
          · cases h
        · simp only [cond_true] at h
          split at h
          · exact fin h
          · split at h
            · exact fin h
            · cases h
    · cases h
  all_goals repeat' (first | (exact fin h) | (exact wfin h) | (cases h; done) | (exact fin (q1d h)) | (exact wfin (q1d h)) | (cases q1d h; done) | (unfold q0u at h; exact wfin h) | split at h)
theorem op_keeps (hcn : CNat cf) (hk : keepsL st o = true) {H : Heap} (h : opK E cf none o st H (fun x s G => some (x, s, G)) = some (x, st', H')) : st' = st := by
  refine q5w hcn (fun s e => ?_) h
  unfold q0j at e
  unfold keepsL at hk
  cases ho : o.op <;> simp only [ho] at e hk
  case store t y z =>
    cases y with
    | tmp q =>
      dsimp only at e hk
      cases hq : st.get q <;> simp only [hq] at e hk <;> first | (cases hk; done) | (cases e; done)
    | _ => cases e
  case load t y =>
    cases y with
    | tmp q =>
      dsimp only at e
      cases hq : st.get q <;> simp [hq] at e
    | _ => cases e
  all_goals cases e
theorem qhu (hf : FrameR C lam st a) {ops : Array Oper} {j : Nat} {b want : Bool} (h : q32 ops st j want = some b) : yielded ops a.tmps j = some b ∨ (b = !want ∧ yielded ops a.tmps j = none) := by
  unfold q32 at h
  unfold yielded
  split at h
  · rename_i d hd
    split at h
    · rename_i v hv
      unfold A.asG at h
      split at h
      · simp only [Option.some.injEq] at h
        subst h
        have := (q22 hf hv).bool_inv
        have hg : a.tmps.getD d undef = .bool _ := this
        rw [hd]
        simp only [Option.bind_some]
        rw [Array.getD_eq_getD_getElem?] at hg
        cases hx : a.tmps[d]? with
        | none => rw [hx] at hg; cases hg
        | some u =>
          rw [hx] at hg
          simp only [Option.getD_some] at hg
          rw [hg]
          exact .inl rfl
      · simp only [Option.some.injEq] at h
        subst h
        have hv2 : V C false (.tup []) (a.tmps.getD d undef) := q22 hf hv
        rw [hd]
        simp only [Option.bind_some]
        refine .inr ⟨trivial, ?_⟩
        cases hx : a.tmps[d]? with
        | none => rfl
        | some u =>
          rw [Array.getD_eq_getD_getElem?, hx] at hv2
          simp only [Option.getD_some] at hv2
          cases hv2
          rfl
      · cases h
    · cases h
  · cases h
theorem qal (hcn : CNat cf) {H : Heap} {v : AV} {H1 : Heap} (h : q5o E cf o st H = some (v, H1)) : opK E cf none o st H (fun x s G => some (x, s, G)) = some (.val v, st, H1) := by
  unfold q5o at h
  have h2 := q1d (c := keepsL st o) (y := _) (r := (v, H1)) h
  have hk : keepsL st o = true := by
    cases hk : keepsL st o
    · rw [hk] at h; cases h
    · rfl
  rw [q6y hcn] at h2
  simp only [Option.bind_eq_some_iff] at h2
  obtain ⟨⟨x, s, G⟩, h3, h4⟩ := h2
  have := op_keeps hcn hk h3
  subst this
  cases x with
  | val w =>
    simp only [Option.some.injEq, Prod.mk.injEq] at h4
    obtain ⟨rfl, rfl⟩ := h4
    exact h3
  | _ => cases h4
theorem Post.trans {C1 : Ctx} {st1 : St} {H1 : Heap} {a1 : Act} {w1 : World} (ev : Ev C C1) (h : Post E C1 st1 H1 a1 w1) : Post E C st1 H1 a1 w1 := by
  obtain ⟨C2, lam2, h1, h2, h3, h4, h5⟩ := h
  exact ⟨C2, lam2, h1, h2, h3, ev.trans h4, h5⟩
theorem q9k {ops : Array Oper} (hg : o.guard = none) : Region.wanted o (yielded ops a.tmps) = true := by
  simp [Region.wanted, hg]
theorem q5h {ops : Array Oper} {j : Nat} {b want : Bool} (hf : FrameR C lam st a) (hg : o.guard = some (j, want)) (h : q32 ops st j want = some b) : Region.wanted o (yielded ops a.tmps) = (b == want) := by
  rcases qhu hf h with h1 | ⟨rfl, h1⟩
  · simp [Region.wanted, hg, h1]
  · cases want <;> simp [Region.wanted, hg, h1]
theorem qi5 (hcn : CNat cf) (hck : CallKOK E cf) (sites : List (Nat × Nat × Nat)) (rid : Nat) (ops : Array Oper) : ∀ (l : List Oper) (i : Nat) (st : St) (C : Ctx) (lam : Nat → Nat) (a : Act),
    opsK E cf sites rid ops l i st C.H (fun s G => some (s, G)) = some (st', H') → HR E C → FrameR C lam st a → (∀ a' w', Post E C st' H' a' w' → Q .normal a' w') → wpListIn (FW ro) 0 E.P ops Q l a C.w := by
  intro l
  induction l with
  | nil =>
    intro i st C lam a h hr hf hq
    simp only [opsK, Option.some.injEq, Prod.mk.injEq] at h
    obtain ⟨rfl, rfl⟩ := h
    exact hq _ _ ⟨C, lam, rfl, rfl, hr, Ev.refl C, hf⟩
  | cons o l ih =>
    intro i st C lam a h hr hf hq
    unfold opsK at h
    have go : ∀ {x : SV} {st1 : St} {H1 : Heap}, opsK E cf sites rid ops l (i + 1) (stPut st1 o.dst x) H1 (fun s G => some (s, G)) = some (st', H') →
        ∀ a1 w1, Post E C (stPut st1 o.dst x) H1 a1 w1 → wpListIn (FW ro) 0 E.P ops Q l a1 w1 := fun {x st1 H1} h a1 w1 hp => by
      obtain ⟨C1, lam1, rfl, rfl, h3, h4, h5⟩ := hp
      exact ih _ _ C1 lam1 a1 h h3 h5 fun a' w' hp' => hq a' w' (hp'.trans h4)
    split at h
    · rename_i hg
      rw [q6y hcn] at h
      simp only [Option.bind_eq_some_iff] at h
      obtain ⟨⟨x, st1, H1⟩, h1, h2⟩ := h
      unfold wpListIn
      rw [if_pos (q9k hg)]
      exact (Oper.wpIn_mono (go h2) (qc6 hcn hck hr hf h1))
    · rename_i j want hg
      split at h
      · rename_i b hb
        have hw := q5h hf hg hb
        split at h
        · rename_i p hp
          unfold qbr at hp
          unfold wpListIn
          rw [hw]
          cases hbw : (b == want)
          · rw [hbw] at hp
            simp only [cond_false, Option.some.injEq] at hp
            subst hp
            rw [if_neg (by simp)]
            exact ⟨fun _ _ => trivial, go h _ _ ⟨C, lam, rfl, rfl, hr, Ev.refl C, hf.put (x := .val (.tup [])) (.tup _ [] #[] (.nil _))⟩⟩
          · rw [hbw] at hp
            simp only [cond_true] at hp
            rw [if_pos rfl]
            exact (Oper.wpIn_mono (go h) (qc6 hcn hck hr hf (qal hcn hp)))
        · cases h
      · cases h
end
end Go.Den

/- DEN, part U: control. -/
namespace Go.Den
open Go.RowKit
def AExit.to : AExit → Exit
  | .normal => .normal
  | .exit id => .exit id
  | .ret => .ret
def DrawOK (E : Env) (cf : CallFn) (fa : FAnn) (ok : Nat → Array Oper → DInfo → Bool) : Prop :=
  ∀ (rid : Nat) (ops : Array Oper) (d : DInfo) (st : St) (C : Ctx) (lam : Nat → Nat) (a : Act) (st' : St) (H' : Heap) (Q : Exit → Act → World → Prop), ok rid ops d = true →
    opsD E cf fa.sites d rid ops C.H ops.toList 0 [] st C.H (fun s G => some (s, G)) = some (st', H') → HR E C → FrameR C lam st a → (∀ a' w', Post E C st' H' a' w' → Q .normal a' w') →
      ∀ ro, (Code.region rid ops true).wpIn (FW ro) 0 E.P Q a C.w
section scope
variable {P : Program} {b : Frame} {a : Act} {k : List Item} {cs : List Frame} {w : World} {F : Fence} {n : Nat} {Q : Exit → Act → World → Prop}
theorem q28 {c : Code} : step P (lone (b.atR a (.code (.scope c) :: k)) cs w) = .next (lone (b.atR a (.code c :: .inScope c :: k)) cs w) :=
  step_lone_go (by simp [stepG, stepG.exec, Frame.atR])
theorem qcg {c : Code} : step P (lone (b.atR a (.inScope c :: k)) cs w) = .next (lone (b.atR a k) cs w) :=
  step_lone_go (by simp [stepG, stepG.exec, Frame.atR])
theorem q5i {c : Code} (h : c.wpIn F n P (Exit.noGoto Q) a w) : (Code.scope c).wpIn F n P Q a w := by
  intro b k cs hro hb hr
  have h0 : (lone (b.atR a (.code (.scope c) :: k)) cs w).fenced P F := fenced_calm hb hr rfl
  obtain ⟨e, a₁, w₁, hq, harr⟩ := h b (.inScope c :: k) cs hro hb hr
  cases e with
  | normal => exact ⟨.normal, a₁, w₁, hq, .head h0 q28 (StepsIn.trans harr (.one (fenced_calm hb hr rfl) qcg))⟩
  | exit id' =>
    have hx : exitTo id' (.inScope c :: k) = exitTo id' k := by simp [exitTo]
    exact ⟨.exit id', a₁, w₁, hq, fun k' hk => .head h0 q28 (harr.1 k' (by rw [hx]; exact hk)),
      fun hr' hk => let ⟨k₁, h1, h2⟩ := harr.2 hr' (by rw [hx]; exact hk); ⟨k₁, h1, .head h0 q28 h2⟩⟩
  | goto l => exact hq.elim
  | ret => exact ⟨_, a₁, w₁, hq, .of_steps (.one h0 q28) harr⟩
  | panic ch => exact ⟨_, a₁, w₁, hq, .of_steps (.one h0 q28) harr⟩
  | outgrown => exact ⟨_, a₁, w₁, hq, .of_steps (.one h0 q28) harr⟩
end scope
section
variable {E : Env} {cf : CallFn} {C C' : Ctx} {lam : Nat → Nat} {st : St} {a : Act} {Q : Exit → Act → World → Prop} {st' : St} {H' : Heap}
theorem q9m {cs : List (List AV)} : ∀ {is : List Nat} {j i : Nat} {x : Option (List AV)}, (i, x) ∈ q79 cs is j → ∃ m, is[m]? = some i ∧ x = some (cs.getD (j + m) [])
  | [], _, _, _, h => by cases h
  | a :: is, j, i, x, h => by
    unfold q79 at h
    rcases List.mem_cons.1 h with e | h
    · injection e with e1 e2
      exact ⟨0, by rw [e1]; rfl, e2⟩
    · obtain ⟨m, h1, h2⟩ := q9m h
      exact ⟨m + 1, by simpa using h1, by rw [h2, show j + 1 + m = j + (m + 1) by omega]⟩
theorem q9l {vs : List AV} : ∀ {is : List Nat} {j i : Nat} {x : SV}, (i, x) ∈ q78 vs is j → ∃ m, is[m]? = some i ∧ x = .val (vs.getD (j + m) .undef)
  | [], _, _, _, h => by cases h
  | a :: is, j, i, x, h => by
    unfold q78 at h
    rcases List.mem_cons.1 h with e | h
    · injection e with e1 e2
      exact ⟨0, by rw [e1]; rfl, e2⟩
    · obtain ⟨m, h1, h2⟩ := q9l h
      exact ⟨m + 1, by simpa using h1, by rw [h2, show j + 1 + m = j + (m + 1) by omega]⟩
theorem qb3 {st : St} : ∀ {is : List Nat} {cs : List (List AV)}, varsOf st is = some cs → ∀ {m i : Nat}, is[m]? = some i → st.var i = some (cs.getD m [])
  | [], _, _, m, i, hi => by simp at hi
  | a :: is, cs, h, m, i, hi => by
    unfold varsOf at h
    split at h
    · rename_i c hc
      split at h
      · rename_i l hl
        injection h with h
        subst h
        cases m with
        | zero =>
          simp only [List.length_cons, Nat.zero_lt_succ, List.getElem?_cons_zero, Option.some.injEq] at hi
          subst hi
          exact hc
        | succ m =>
          simp only [List.getElem?_cons_succ] at hi
          have := qb3 hl hi
          simpa using this
      · cases h
    · cases h
theorem qdr {st : St} : ∀ {l : List (Nat × Nat × Nat)}, lpsOk st l = true → ∀ {t s o : Nat}, (t, s, o) ∈ l → st.get t = .lp s o
  | [], _, _, _, _, h => by cases h
  | (t0, s0, o0) :: l, h, t, s, o, hm => by
    unfold lpsOk at h
    simp only [Bool.and_eq_true] at h
    rcases List.mem_cons.1 hm with e | hm
    · injection e with e1 e2
      injection e2 with e2 e3
      subst e1 e2 e3
      have := h.1
      split at this
      · rename_i s' o' hg
        simp only [Bool.and_eq_true] at this
        rw [hg, Nat.eq_of_beq_eq_true this.1, Nat.eq_of_beq_eq_true this.2]
      · cases this
    · exact qdr h.2 hm
theorem qfb (hf : FrameR C lam st a) {k : LK} {l : Live} (h : st.live k = some l) : FrameR C lam (St.ofLive k st.N l) a := by
  unfold St.live at h
  have hlp : lpsOk st k.lps = true := by
    cases hb : lpsOk st k.lps
    · rw [hb] at h; cases h
    · rfl
  rw [hlp] at h
  simp only [cond_true] at h
  split at h
  · rename_i cs hcs
    injection h with h
    subst h
    have hvar : ∀ s c, (St.ofLive k st.N ⟨k.vals.map fun i => valOf (st.get i), cs⟩).var s = some c → st.var s = some c := fun s c hs => by
      have h' : Tr.get none (Tr.mk none k.d (q79 cs k.vars 0)) s = some c := hs
      rcases Tr.get_mk (z := (none : Option (List AV))) (d := k.d) (q79 cs k.vars 0) s with h1 | h1
      · rw [h1] at h'; cases h'
      · obtain ⟨m, h2, h3⟩ := q9m h1
        rw [h3] at h'
        rw [← h', qb3 hcs h2, Nat.zero_add]
    refine ⟨hf.size, hf.defers, fun t => ?_, fun s c hs => hf.vars s c (hvar s c hs)⟩
    have hg : (St.ofLive k st.N ⟨k.vals.map fun i => valOf (st.get i), cs⟩).get t = Tr.get .no (Tr.mk .no k.d (q78 (k.vals.map fun i => valOf (st.get i)) k.vals 0 ++ k.lps.map fun p => (p.1, (SV.lp p.2.1 p.2.2).kept (k.L ⟨k.vals.map fun i => valOf (st.get i), cs⟩)))) t := rfl
    unfold SlotOk
    rcases Tr.get_mk (z := SV.no) (d := k.d) (q78 (k.vals.map fun i => valOf (st.get i)) k.vals 0 ++ k.lps.map fun p => (p.1, (SV.lp p.2.1 p.2.2).kept (k.L ⟨k.vals.map fun i => valOf (st.get i), cs⟩))) t with h1 | h1
    · rw [hg, h1]
      trivial
    · rcases List.mem_append.1 h1 with h2 | h2
      · obtain ⟨m, h3, h4⟩ := q9l h2
        rw [hg, h4]
        dsimp only
        rw [Nat.zero_add, List.getD_eq_getElem?_getD, List.getElem?_map, h3]
        simp only [Option.map_some, Option.getD_some]
        have ht := hf.slots t
        unfold SlotOk at ht
        cases hx : st.get t with
        | val v => rw [hx] at ht; exact ht
        | lp _ _ => exact .undef _
        | no => exact .undef _
      · obtain ⟨⟨t0, s0, o0⟩, h3, h4⟩ := List.mem_map.1 h2
        injection h4 with h4 h5
        subst h4
        rw [hg, ← h5]
        have ht := hf.slots t0
        unfold SlotOk at ht
        rw [qdr hlp h3] at ht
        dsimp only at ht
        unfold SV.kept
        dsimp only
        cases hv : (k.L ⟨k.vals.map fun i => valOf (st.get i), cs⟩).get none s0 with
        | none => trivial
        | some c =>
          refine ⟨ht.1, ?_⟩
          show (k.L ⟨k.vals.map fun i => valOf (st.get i), cs⟩).get none s0 ≠ none
          rw [hv]
          simp
  · cases h
theorem AExit.is_eq {e x : AExit} (h : e.is x = true) : e = x := by
  cases e <;> cases x <;> first | rfl | (cases h; done) | skip
  rw [Nat.eq_of_beq_eq_true h]
theorem qdy {R : Type} {k : AExit → Option R} {e : AExit} {i : Nat} : ∀ {outs : List AExit} {j : Nat}, idxOf e outs j = some i → j ≤ i ∧ pickK k i outs j = k e
  | [], _, h => by cases h
  | x :: r, j, h => by
    unfold idxOf at h
    cases hx : e.is x
    · rw [hx] at h
      simp only [cond_false] at h
      obtain ⟨h1, h2⟩ := qdy (k := k) h
      refine ⟨by omega, ?_⟩
      unfold pickK
      have : Nat.beq i j = false := by
        cases hb : Nat.beq i j
        · rfl
        · have := Nat.eq_of_beq_eq_true hb
          omega
      rw [this]
      exact h2
    · rw [hx] at h
      simp only [cond_true, Option.some.injEq] at h
      subst h
      refine ⟨Nat.le_refl _, ?_⟩
      unfold pickK
      rw [show Nat.beq j j = true from Nat.beq_refl j, AExit.is_eq hx]
      rfl
theorem q4k {F : (S : Type) → (AExit → St → Heap → Option S) → Option S} (hF : FNat F) {an : Ann} {N : Nat} {e : AExit} (h : bar an N F (fun e s G => some (e, s, G)) = some (e, st', H')) :
    ∃ s, F _ (fun e s G => some (e, s, G)) = some (e, s, H') ∧ ∀ C lam a, N = s.N → FrameR C lam s a → FrameR C lam st' a := by
  unfold bar at h
  split at h
  · rename_i kp outs x
    rw [hF (k := pairL kp outs) (g := fun e s G => some (e, s, G)) (h := fun p => pairL kp outs p.1 p.2.1 p.2.2) (fun _ _ _ => rfl)] at h
    cases hx : F _ (fun e s G => some (e, s, G)) with
    | none => rw [hx] at h; cases h
    | some p =>
      obtain ⟨e1, s1, G1⟩ := p
      rw [hx] at h
      simp only [Option.bind_some] at h
      unfold pairL at h
      cases hi : idxOf e1 outs 0 with
      | none => simp only [hi] at h; cases h
      | some i =>
        cases hl : s1.live kp with
        | none => simp only [hi, hl] at h; cases h
        | some l =>
          simp only [hi, hl, bindX] at h
          rw [(qdy hi).2] at h
          simp only [Option.some.injEq, Prod.mk.injEq] at h
          obtain ⟨rfl, rfl, rfl⟩ := h
          exact ⟨s1, rfl, fun C lam a hN hf => by rw [hN]; exact qfb hf hl⟩
  · exact ⟨st', h, fun C lam a _ hf => hf⟩
theorem Post.keep {s : St} {G : Heap} {a1 : Act} {w1 : World} (hk : ∀ C lam a, FrameR C lam s a → FrameR C lam st' a) (h : Post E C s G a1 w1) : Post E C st' G a1 w1 := by
  obtain ⟨C2, lam2, h1, h2, h3, h4, h5⟩ := h
  exact ⟨C2, lam2, h1, h2, h3, h4, hk _ _ _ h5⟩
theorem exec_nat (hcn : CNat cf) {R : Type} (n : Nat) (fa : FAnn) (c : Code) (an : Ann) (st : St) (H : Heap) (k : AExit → St → Heap → Option R) :
    exec E cf n fa c an R st H k = (exec E cf n fa c an _ st H fun e s G => some (e, s, G)).bind fun p => k p.1 p.2.1 p.2.2 :=
  q2o hcn n fa c an _ _ st H fun _ _ _ => rfl
theorem q1a (hcn : CNat cf) {R : Type} {n : Nat} {fa : FAnn} {c : Code} {an : Ann} {st : St} {H : Heap} {k : AExit → St → Heap → Option R} {r : R} (h : exec E cf n fa c an R st H k = some r) :
    ∃ e s G, exec E cf n fa c an _ st H (fun e s G => some (e, s, G)) = some (e, s, G) ∧ k e s G = some r := by
  rw [exec_nat hcn] at h
  simp only [Option.bind_eq_some_iff] at h
  obtain ⟨⟨e, s, G⟩, h1, h2⟩ := h
  exact ⟨e, s, G, h1, h2⟩
theorem op_N (hcn : CNat cf) {o : Oper} {site : Option Nat} {x : SV} {H : Heap} (h : opK E cf site o st H (fun x s G => some (x, s, G)) = some (x, st', H')) : st'.N = st.N := by
  have fin : ∀ {y : SV} {s : St} {G : Heap}, s.N = st.N → (some (y, s, G) : Option (SV × St × Heap)) = some (x, st', H') → st'.N = st.N := fun hs h => by
    simp only [Option.some.injEq, Prod.mk.injEq] at h
    rw [← h.2.1]
    exact hs
  have wfin : ∀ {v : Option AV} {G : Heap}, withV v (fun v => some (SV.val v, st, G)) = some (x, st', H') → st'.N = st.N := fun h => by
    obtain ⟨v, _, h⟩ := q0b h
    exact fin rfl h
  have lfin : ∀ {s : Nat} {cs : List AV} {G : Heap}, layK s cs st G (fun x s G => some (x, s, G)) = some (x, st', H') → st'.N = st.N := fun h => by
    unfold layK at h
    split at h
    · split at h
      · refine fin ?_ h
        rfl
      · cases h
    · cases h
  by_cases hk : ∀ s, q0j st site o ≠ some (s, true)
  · rw [q5w hcn hk h]
  · have hk : ∃ s, q0j st site o = some (s, true) := by
      rcases Classical.em (∃ s, q0j st site o = some (s, true)) with h1 | h1
      · exact h1
      · exact absurd (fun s e => h1 ⟨s, e⟩) hk
    obtain ⟨s, hs⟩ := hk
    unfold opK at h
    unfold q0j at hs
    cases ho : o.op <;> simp only [ho] at h hs
    case alloc t =>
      cases site with
      | none => cases hs
      | some s =>
        split at h
        · exact lfin (q1d h)
        · cases h
    case box t y =>
      cases site with
      | none => cases hs
      | some s1 =>
        dsimp only at hs
        cases hz : Nat.ble 1000 s1
        · simp only [hz, cond_false] at h
          split at h
          · exact lfin (q1d h)
          · cases h
        · rw [hz] at hs
          cases hs
    case store t y z =>
      split at h
      · cases y with
        | tmp q =>
          dsimp only at h hs
          split at h
          · split at h
            · refine fin ?_ (q1d h)
              rfl
            · cases h
          · split at h
            · exact fin rfl h
            · cases h
          · cases h
        | _ => cases h
      · cases h
    case load t y =>
      cases y with
      | tmp q =>
        dsimp only at hs
        split at hs
        · cases hs
        · cases hs
      | _ => cases hs
    all_goals cases hs
theorem qcf {st : St} {d : Option Tmp} {x : SV} : (stPut st d x).N = st.N := by
  cases d with
  | none => rfl
  | some t =>
    show (if t < st.N then st.put t x else st).N = st.N
    split <;> rfl
theorem opsK_N (hcn : CNat cf) (sites : List (Nat × Nat × Nat)) (rid : Nat) (ops : Array Oper) : ∀ (l : List Oper) (i : Nat) (st : St) (H : Heap),
    opsK E cf sites rid ops l i st H (fun s G => some (s, G)) = some (st', H') → st'.N = st.N := by
  intro l
  induction l with
  | nil =>
    intro i st H h
    simp only [opsK, Option.some.injEq, Prod.mk.injEq] at h
    rw [h.1]
  | cons o l ih =>
    intro i st H h
    unfold opsK at h
    split at h
    · rw [q6y hcn] at h
      simp only [Option.bind_eq_some_iff] at h
      obtain ⟨⟨x, st1, H1⟩, h1, h2⟩ := h
      rw [ih _ _ _ h2, qcf, op_N hcn h1]
    · split at h
      · split at h
        · rw [ih _ _ _ h, qcf]
        · cases h
      · cases h
theorem opsD_N (hcn : CNat cf) (sites : List (Nat × Nat × Nat)) (d : DInfo) (rid : Nat) (ops : Array Oper) (H0 : Heap) : ∀ (l : List Oper) (i : Nat) (tr : List Rec) (st : St) (H : Heap),
    opsD E cf sites d rid ops H0 l i tr st H (fun s G => some (s, G)) = some (st', H') → st'.N = st.N := by
  intro l
  induction l with
  | nil =>
    intro i tr st H h
    have h := q1d h
    simp only [Option.some.injEq, Prod.mk.injEq] at h
    rw [h.1]
  | cons o l ih =>
    intro i tr st H h
    unfold opsD at h
    split at h
    · rw [q6y hcn] at h
      simp only [Option.bind_eq_some_iff] at h
      obtain ⟨⟨x, st1, H1⟩, h1, h2⟩ := h
      rw [ih _ _ _ _ h2, qcf, op_N hcn h1]
    · split at h
      · split at h
        · rw [ih _ _ _ _ h, qcf]
        · cases h
      · cases h
def FN (N : Nat) (F : (S : Type) → (AExit → St → Heap → Option S) → Option S) : Prop :=
  ∀ e s G, F _ (fun e s G => some (e, s, G)) = some (e, s, G) → s.N = N
theorem pickK_N {kp : LK} {N : Nat} {l : Live} {G : Heap} {i : Nat} {e : AExit} : ∀ {outs : List AExit} {j : Nat}, pickK (fun e => some (e, St.ofLive kp N l, G)) i outs j = some (e, st', H') → st'.N = N
  | [], _, h => by cases h
  | x :: r, j, h => by
    unfold pickK at h
    cases hb : Nat.beq i j
    · rw [hb] at h
      exact pickK_N h
    · rw [hb] at h
      simp only [cond_true, Option.some.injEq, Prod.mk.injEq] at h
      rw [← h.2.1]
      rfl
theorem qhg {F : (S : Type) → (AExit → St → Heap → Option S) → Option S} {N : Nat} (hF : FN N F) {an : Ann} {e : AExit} (h : bar an N F (fun e s G => some (e, s, G)) = some (e, st', H')) : st'.N = N := by
  unfold bar at h
  split at h
  · unfold bindX at h
    split at h
    · exact pickK_N h
    · cases h
  · exact hF _ _ _ h
theorem qao {kp : LK} {rec : Live → Heap → Option (AExit × St × Heap)} {e e' : AExit} {s : St} {G : Heap} (h : loopK kp rec (fun e s G => some (e, s, G)) e s G = some (e', st', H')) :
    (e = .normal ∧ ∃ l, s.live kp = some l ∧ rec l G = some (e', st', H')) ∨ (e ≠ .normal ∧ e' = e ∧ st' = s ∧ H' = G) := by
  cases e with
  | normal =>
    unfold loopK at h
    dsimp only at h
    split at h
    · rename_i l hl
      exact .inl ⟨rfl, l, hl, h⟩
    · cases h
  | exit j =>
    injection h with h
    simp only [Prod.mk.injEq] at h
    exact .inr ⟨by simp, h.1.symm, h.2.1.symm, h.2.2.symm⟩
  | ret =>
    injection h with h
    simp only [Prod.mk.injEq] at h
    exact .inr ⟨by simp, h.1.symm, h.2.1.symm, h.2.2.symm⟩
theorem q6u {rec : St → Heap → Option (AExit × St × Heap)} {e e' : AExit} {s : St} {G : Heap} (h : loopS rec (fun e s G => some (e, s, G)) e s G = some (e', st', H')) :
    (e = .normal ∧ rec s G = some (e', st', H')) ∨ (e ≠ .normal ∧ e' = e ∧ st' = s ∧ H' = G) := by
  cases e with
  | normal => exact .inl ⟨rfl, h⟩
  | exit j =>
    injection h with h
    simp only [Prod.mk.injEq] at h
    exact .inr ⟨by simp, h.1.symm, h.2.1.symm, h.2.2.symm⟩
  | ret =>
    injection h with h
    simp only [Prod.mk.injEq] at h
    exact .inr ⟨by simp, h.1.symm, h.2.1.symm, h.2.2.symm⟩
theorem qe8 {next : St → Heap → Option (AExit × St × Heap)} {e e' : AExit} {s : St} {G : Heap} (h : seqK next (fun e s G => some (e, s, G)) e s G = some (e', st', H')) :
    (e = .normal ∧ next s G = some (e', st', H')) ∨ (e ≠ .normal ∧ e' = e ∧ st' = s ∧ H' = G) := q6u h
def AExit.leave (id : Nat) : AExit → AExit
  | .normal => .normal
  | .exit j => if j = id then .normal else .exit j
  | .ret => .ret
theorem q7z {id : Nat} {e e' : AExit} {s : St} {G : Heap} (h : blockK id (fun e s G => some (e, s, G)) e s G = some (e', st', H')) :
    st' = s ∧ H' = G ∧ e' = e.leave id := by
  cases e with
  | normal =>
    injection h with h
    simp only [Prod.mk.injEq] at h
    exact ⟨h.2.1.symm, h.2.2.symm, h.1.symm⟩
  | exit j =>
    unfold blockK at h
    dsimp only at h
    cases hj : Nat.beq j id
    · rw [hj] at h
      simp only [cond_false, Option.some.injEq, Prod.mk.injEq] at h
      refine ⟨h.2.1.symm, h.2.2.symm, ?_⟩
      unfold AExit.leave
      dsimp only
      rw [if_neg (by intro e; subst e; simp at hj)]
      exact h.1.symm
    · rw [hj] at h
      simp only [cond_true, Option.some.injEq, Prod.mk.injEq] at h
      refine ⟨h.2.1.symm, h.2.2.symm, ?_⟩
      unfold AExit.leave
      dsimp only
      rw [if_pos (Nat.eq_of_beq_eq_true hj)]
      exact h.1.symm
  | ret =>
    injection h with h
    simp only [Prod.mk.injEq] at h
    exact ⟨h.2.1.symm, h.2.2.symm, h.1.symm⟩
theorem q7c (hcn : CNat cf) (n : Nat) (fa : FAnn) : ∀ (c : Code) (an : Ann) (st : St) (H : Heap) (e : AExit) (st' : St) (H' : Heap),
    exec E cf n fa c an _ st H (fun e s G => some (e, s, G)) = some (e, st', H') → st'.N = st.N := by
  intro c
  induction c with
  | skip => intro an st H e st' H' h; injection h with h; simp only [Prod.mk.injEq] at h; rw [← h.2.1]
  | label _ => intro an st H e st' H' h; injection h with h; simp only [Prod.mk.injEq] at h; rw [← h.2.1]
  | exit _ => intro an st H e st' H' h; injection h with h; simp only [Prod.mk.injEq] at h; rw [← h.2.1]
  | ret => intro an st H e st' H' h; injection h with h; simp only [Prod.mk.injEq] at h; rw [← h.2.1]
  | region rid ops draw =>
    intro an st H e st' H' h
    unfold exec at h
    cases draw
    · simp only [cond_false] at h
      rw [qfg hcn _ _ _ _ _ _ _ (k := fun s G => some (AExit.normal, s, G)) (g := fun s G => some (s, G)) (h := fun p => some (AExit.normal, p.1, p.2)) (fun _ _ => rfl)] at h
      simp only [Option.bind_eq_some_iff] at h
      obtain ⟨⟨s1, H1⟩, h1, h2⟩ := h
      injection h2 with h2
      simp only [Prod.mk.injEq] at h2
      rw [← h2.2.1]
      exact opsK_N hcn _ _ _ _ _ _ _ h1
    · simp only [cond_true] at h
      split at h
      · rw [qff hcn _ _ _ _ _ _ _ _ _ _ (k := fun s G => some (AExit.normal, s, G)) (g := fun s G => some (s, G)) (h := fun p => some (AExit.normal, p.1, p.2)) (fun _ _ => rfl)] at h
        simp only [Option.bind_eq_some_iff] at h
        obtain ⟨⟨s1, H1⟩, h1, h2⟩ := h
        injection h2 with h2
        simp only [Prod.mk.injEq] at h2
        rw [← h2.2.1]
        exact opsD_N hcn _ _ _ _ _ _ _ _ _ _ h1
      · cases h
  | seq a b iha ihb =>
    intro an st H e st' H' h
    unfold exec at h
    refine qhg (fun e s G h => ?_) h
    obtain ⟨e1, s1, H1, h1, h2⟩ := q1a hcn h
    have hN := iha _ _ _ _ _ _ h1
    rcases qe8 h2 with ⟨_, h3⟩ | ⟨_, _, h3, _⟩
    · rw [ihb _ _ _ _ _ _ h3, hN]
    · rw [h3, hN]
  | cond c x y ihx ihy =>
    intro an st H e st' H' h
    unfold exec at h
    split at h
    · rename_i v hv
      refine qhg (fun e s G h0 => ?_) h
      unfold A.test at h0
      cases v with
      | bool b =>
        cases b
        · exact ihy _ _ _ _ _ _ h0
        · exact ihx _ _ _ _ _ _ h0
      | _ => cases h0
    · cases h
  | block id c ih =>
    intro an st H e st' H' h
    unfold exec at h
    refine qhg (fun e s G h => ?_) h
    obtain ⟨e1, s1, H1, h1, h2⟩ := q1a hcn h
    rw [(q7z h2).1, ih _ _ _ _ _ _ h1]
  | loop c ih =>
    intro an st H e st' H' h
    unfold exec at h
    split at h
    · rename_i kp x hx
      split at h
      · refine qhg (fun e s G h0 => ?_) h
        have key : ∀ (m : Nat) (l : Live) (H : Heap), iter (fun l H rec => exec E cf n fa c x _ (St.ofLive kp st.N l) H (loopK kp rec fun e s G => some (e, s, G))) m l H = some (e, s, G) → s.N = st.N := by
          intro m
          induction m with
          | zero => intro l H h1; cases h1
          | succ m ihm =>
            intro l H h1
            unfold iter at h1
            obtain ⟨e1, s1, H1, h2, h3⟩ := q1a hcn h1
            rcases qao h3 with ⟨_, l1, _, h4⟩ | ⟨_, _, h4, _⟩
            · exact ihm _ _ h4
            · rw [h4]
              have hx := ih _ _ _ _ _ _ h2
              exact hx
        exact key _ _ _ h0
      · cases h
    · refine qhg (fun e s G h0 => ?_) h
      have key : ∀ (m : Nat) (s0 : St) (H : Heap), s0.N = st.N → iter (fun st H rec => exec E cf n fa c an.strip.fst _ st H (loopS rec fun e s G => some (e, s, G))) m s0 H = some (e, s, G) → s.N = st.N := by
        intro m
        induction m with
        | zero => intro l H _ h1; cases h1
        | succ m ihm =>
          intro s0 H hs0 h1
          unfold iter at h1
          obtain ⟨e1, s1, H1, h2, h3⟩ := q1a hcn h1
          have hN := ih _ _ _ _ _ _ h2
          rcases q6u h3 with ⟨_, h4⟩ | ⟨_, _, h4, _⟩
          · exact ihm _ _ (hN.trans hs0) h4
          · rw [h4, hN, hs0]
      exact key _ _ _ rfl h0
  | scope c ih =>
    intro an st H e st' H' h
    unfold exec at h
    refine qhg (fun e s G h => ?_) h
    exact ih _ _ _ _ _ _ h
  | rangeFunc g ps assign body _ _ =>
    intro an st H e st' H' h
    unfold exec at h
    have fin : ∀ {e1 : AExit} {G : Heap}, (some (e1, st, G) : Option (AExit × St × Heap)) = some (e, st', H') → st'.N = st.N := fun h => by
      simp only [Option.some.injEq, Prod.mk.injEq] at h
      rw [h.2.1]
    cases hnr : (noRF assign && noRF body)
    · rw [hnr] at h; cases h
    · rw [hnr] at h
      simp only [cond_true] at h
      split at h
      · rename_i f cap hg
        cases hb : q55 E f
        · rw [hb] at h; cases h
        · rw [hb] at h
          simp only [Bool.not_true, cond_false] at h
          generalize hk : (fun (_ : AV) (H1 : Heap) => match H1[H.length]? with
            | some (.loop L) => bif Nat.beq L.state 1 then (none : Option (AExit × St × Heap)) else match L.pending with
              | none => some (.normal, st, H1.set H.length .dead)
              | some e => some (e, st, H1.set H.length .dead)
            | _ => none) = kk at h
          rw [q2x hcn _ _ _ (k := kk) (g := fun v G => some (v, G)) (h := fun p => kk p.1 p.2) (fun _ _ => rfl)] at h
          simp only [Option.bind_eq_some_iff] at h
          obtain ⟨⟨v, G⟩, _, hcont⟩ := h
          subst hk
          dsimp only at hcont
          split at hcont
          · rename_i L hL
            cases hst : Nat.beq L.state 1
            · rw [hst] at hcont
              simp only [cond_false] at hcont
              cases hpe : L.pending with
              | none => rw [hpe] at hcont; exact fin hcont
              | some e4 => rw [hpe] at hcont; exact fin hcont
            · rw [hst] at hcont; cases hcont
          · cases hcont
      · cases h
  | goto _ => intro an st H e st' H' h; cases h
  | refuse _ => intro an st H e st' H' h; cases h
theorem rf_l {ro : Option Nat} {x y : Bool} (h : ro = none ∨ (x && y) = true) : ro = none ∨ x = true := h.imp id fun h => by
  simp only [Bool.and_eq_true] at h
  exact h.1
theorem rf_r {ro : Option Nat} {x y : Bool} (h : ro = none ∨ (x && y) = true) : ro = none ∨ y = true := h.imp id fun h => by
  simp only [Bool.and_eq_true] at h
  exact h.2
theorem snap_get (st : St) (t : Nat) : st.snap.get t = (st.get t).own := by
  show Tr.get .no (st.slots.map SV.own) t = (Tr.get .no st.slots t).own
  generalize st.slots = T
  induction T generalizing t with
  | lf => rfl
  | nd l v r ihl ihr =>
    simp only [Tr.map, Tr.get]
    cases Nat.beq t 0
    · simp only [cond_false]
      cases Nat.beq (t % 2) 1
      · simp only [cond_false]; exact ihr _
      · simp only [cond_true]; exact ihl _
    · rfl
theorem q3b (hnm : ∀ (f : FuncId) (fn : Func) (c : Code), E.P.funcs[f]? = some fn → fn.body = some c → fn.name ≠ "runtime.NumGoroutine") {f : FuncId} (hb : q55 E f = true) {us : Array Value} {w : World} : (callFunc f us).run E.P w = .ok (.enter f us) w := by
  unfold q55 at hb
  split at hb
  · rename_i fn hfn
    obtain ⟨c, hc⟩ := Option.isSome_iff_exists.1 hb
    have hpr : program.run E.P w = .ok E.P w := rfl
    have := hnm f fn c hfn hc
    unfold callFunc
    simp only [Sem.run_bind, hpr, Result.andThen_ok, hfn]
    rw [if_neg (by simpa using this), if_neg (by simp [hc])]
    rfl
  · cases hb
theorem q6p (hcn : CNat cf) (hck : CallKOK E cf) (hnm : ∀ (f : FuncId) (fn : Func) (c : Code), E.P.funcs[f]? = some fn → fn.body = some c → fn.name ≠ "runtime.NumGoroutine") (n : Nat) (fa : FAnn) (hD : DrawOK E cf fa (q1f E fa.sites)) {ro : Option Nat} :
    ∀ (c : Code) (an : Ann) (st : St) (C : Ctx) (lam : Nat → Nat) (a : Act) (Q : Exit → Act → World → Prop) (e : AExit) (st' : St) (H' : Heap), (ro = none ∨ noRF c = true) → codeOk fa.draws (q1f E fa.sites) c = true →
      exec E cf n fa c an _ st C.H (fun e s G => some (e, s, G)) = some (e, st', H') → HR E C → FrameR C lam st a → (∀ a' w', Post E C st' H' a' w' → Q e.to a' w') → c.wpIn (FW ro) 0 E.P Q a C.w := by
  intro c
  induction c with
  | skip =>
    intro an st C lam a Q e st' H' hrf hok h hr hf hq
    injection h with h
    simp only [Prod.mk.injEq] at h
    obtain ⟨rfl, rfl, rfl⟩ := h
    exact wpIn_skip (hq _ _ ⟨C, lam, rfl, rfl, hr, Ev.refl C, hf⟩)
  | label l =>
    intro an st C lam a Q e st' H' hrf hok h hr hf hq
    injection h with h
    simp only [Prod.mk.injEq] at h
    obtain ⟨rfl, rfl, rfl⟩ := h
    exact wpIn_label (hq _ _ ⟨C, lam, rfl, rfl, hr, Ev.refl C, hf⟩)
  | exit id =>
    intro an st C lam a Q e st' H' hrf hok h hr hf hq
    injection h with h
    simp only [Prod.mk.injEq] at h
    obtain ⟨rfl, rfl, rfl⟩ := h
    exact wpIn_exit (hq _ _ ⟨C, lam, rfl, rfl, hr, Ev.refl C, hf⟩)
  | ret =>
    intro an st C lam a Q e st' H' hrf hok h hr hf hq
    injection h with h
    simp only [Prod.mk.injEq] at h
    obtain ⟨rfl, rfl, rfl⟩ := h
    exact wpIn_ret (hq _ _ ⟨C, lam, rfl, rfl, hr, Ev.refl C, hf⟩)
  | region rid ops draw =>
    intro an st C lam a Q e st' H' hrf hok h hr hf hq
    unfold exec at h
    cases draw
    · simp only [cond_false] at h
      rw [qfg hcn _ _ _ _ _ _ _ (k := fun s G => some (AExit.normal, s, G)) (g := fun s G => some (s, G)) (h := fun p => some (AExit.normal, p.1, p.2)) (fun _ _ => rfl)] at h
      simp only [Option.bind_eq_some_iff] at h
      obtain ⟨⟨s1, H1⟩, h1, h2⟩ := h
      injection h2 with h2
      simp only [Prod.mk.injEq] at h2
      obtain ⟨rfl, rfl, rfl⟩ := h2
      exact wpIn_region_list (qi5 hcn hck _ _ _ _ _ _ C lam a h1 hr hf fun a' w' hp => hq a' w' hp)
    · simp only [cond_true] at h
      unfold codeOk at hok
      simp only [cond_true] at hok
      split at h
      · rename_i d hd
        rw [hd] at hok
        rw [qff hcn _ _ _ _ _ _ _ _ _ _ (k := fun s G => some (AExit.normal, s, G)) (g := fun s G => some (s, G)) (h := fun p => some (AExit.normal, p.1, p.2)) (fun _ _ => rfl)] at h
        simp only [Option.bind_eq_some_iff] at h
        obtain ⟨⟨s1, H1⟩, h1, h2⟩ := h
        injection h2 with h2
        simp only [Prod.mk.injEq] at h2
        obtain ⟨rfl, rfl, rfl⟩ := h2
        exact hD rid ops d st C lam a _ _ Q hok h1 hr hf (fun a' w' hp => hq a' w' hp) ro
      · cases h
  | seq x y ihx ihy =>
    intro an st C lam a Q e st' H' hrf hok h hr hf hq
    unfold exec at h
    unfold codeOk at hok
    simp only [Bool.and_eq_true] at hok
    obtain ⟨s, h, hk⟩ := q4k (fun hk => q2o hcn n fa x _ _ _ st C.H fun e s G => seqK_to (fun s G => q2o hcn n fa y _ _ _ s G hk) hk e s G) h
    obtain ⟨e1, s1, H1, h1, h2⟩ := q1a hcn h
    have hN1 := q7c hcn n fa _ _ _ _ _ _ _ h1
    refine wpIn_seq (ihx _ _ C lam a _ e1 s1 H1 (rf_l hrf) hok.1 h1 hr hf fun a' w' hp => ?_)
    rcases qe8 h2 with ⟨he, h3⟩ | ⟨he, h3, h4, h5⟩
    · subst he
      have hN2 := q7c hcn n fa _ _ _ _ _ _ _ h3
      obtain ⟨C1, lam1, rfl, rfl, g3, g4, g5⟩ := hp
      exact ihy _ _ C1 lam1 a' Q _ _ _ (rf_r hrf) hok.2 h3 g3 g5 fun a2 w2 hp2 => hq a2 w2 ((hp2.keep fun C lam a hf => hk C lam a (by rw [hN2, hN1]) hf).trans g4)
    · subst h3 h4 h5
      have hp' := hp.keep fun C lam a hf => hk C lam a hN1.symm hf
      cases e with
      | normal => exact absurd rfl he
      | exit id => exact hq a' w' hp'
      | ret => exact hq a' w' hp'
  | cond c x y ihx ihy =>
    intro an st C lam a Q e st' H' hrf hok h hr hf hq
    unfold exec at h
    unfold codeOk at hok
    simp only [Bool.and_eq_true] at hok
    split at h
    · rename_i v hv
      obtain ⟨s, h0, hk⟩ := q4k (fun hk => test_to (q2o hcn n fa x _ _ _ st C.H hk) (q2o hcn n fa y _ _ _ st C.H hk)) h
      unfold A.test at h0
      cases v with
      | bool b =>
        have hb := (q09 hr hf hv).bool_inv
        refine wpIn_cond hb ?_
        cases b
        · simp only [cond_false] at h0
          have hN := q7c hcn n fa _ _ _ _ _ _ _ h0
          exact ihy _ _ C lam a Q _ _ _ (rf_r hrf) hok.2 h0 hr hf fun a2 w2 hp2 => hq a2 w2 (hp2.keep fun C lam a hf => hk C lam a hN.symm hf)
        · simp only [cond_true] at h0
          have hN := q7c hcn n fa _ _ _ _ _ _ _ h0
          exact ihx _ _ C lam a Q _ _ _ (rf_l hrf) hok.1 h0 hr hf fun a2 w2 hp2 => hq a2 w2 (hp2.keep fun C lam a hf => hk C lam a hN.symm hf)
      | _ => cases h0
    · cases h
  | block id c ih =>
    intro an st C lam a Q e st' H' hrf hok h hr hf hq
    unfold exec at h
    unfold codeOk at hok
    obtain ⟨s, h, hk⟩ := q4k (fun hk => q2o hcn n fa c _ _ _ st C.H fun e s G => qcy hk e s G) h
    obtain ⟨e1, s1, H1, h1, h2⟩ := q1a hcn h
    have hN := q7c hcn n fa _ _ _ _ _ _ _ h1
    obtain ⟨rfl, rfl, he⟩ := q7z h2
    refine wpIn_block (ih _ _ C lam a _ e1 _ _ hrf hok h1 hr hf fun a' w' hp => ?_)
    have hp' := hp.keep fun C lam a hf => hk C lam a hN.symm hf
    cases e1 with
    | normal =>
      subst he
      exact hq a' w' hp'
    | exit j =>
      unfold AExit.leave at he
      dsimp only at he
      show (if j = id then _ else _)
      split
      · rw [if_pos (by assumption)] at he
        subst he
        exact hq a' w' hp'
      · rw [if_neg (by assumption)] at he
        subst he
        exact hq a' w' hp'
    | ret =>
      subst he
      exact hq a' w' hp'
  | loop c ih =>
    intro an st C lam a Q e st' H' hrf hok h hr hf hq
    unfold exec at h
    unfold codeOk at hok
    split at h
    · rename_i kp x hx
      split at h
      · rename_i l0 hl0
        obtain ⟨s, h, hk⟩ := q4k (F := fun S k => iter (fun l H rec => exec E cf n fa c x S (St.ofLive kp st.N l) H (loopK kp rec k)) n l0 C.H)
          (fun hk => by
            refine q8r ?_ _ _ _
            intro l H r r' hr
            exact q2o hcn n fa c x _ _ _ H (fun e s G => qgh hr hk e s G)) h
        have key : ∀ (m : Nat) (l : Live) (C : Ctx) (lam : Nat → Nat) (a : Act),
            iter (fun l H rec => exec E cf n fa c x _ (St.ofLive kp st.N l) H (loopK kp rec fun e s G => some (e, s, G))) m l C.H = some (e, s, H') → HR E C → FrameR C lam (St.ofLive kp st.N l) a → (∀ a' w', Post E C st' H' a' w' → Q e.to a' w') → Code.roundsIn (FW ro) 0 E.P c Q m a C.w := by
          intro m
          induction m with
          | zero => intro l C lam a h; cases h
          | succ m ihm =>
            intro l C lam a h hr hf hq
            unfold iter at h
            obtain ⟨e1, s1, H1, h1, h2⟩ := q1a hcn h
            have hN := q7c hcn n fa _ _ _ _ _ _ _ h1
            change s1.N = st.N at hN
            refine ih x _ C lam a _ e1 s1 H1 hrf hok h1 hr hf fun a' w' hp => ?_
            rcases qao h2 with ⟨he, l1, hl1, h3⟩ | ⟨he, h3, h4, h5⟩
            · subst he
              obtain ⟨C1, lam1, rfl, rfl, g3, g4, g5⟩ := hp
              have g6 := qfb g5 hl1
              rw [hN] at g6
              exact ihm _ C1 lam1 a' h3 g3 g6 fun a2 w2 hp2 => hq a2 w2 (hp2.trans g4)
            · subst h3 h4 h5
              have hp' := hp.keep fun C lam a hf => hk C lam a hN.symm hf
              cases e with
              | normal => exact absurd rfl he
              | exit id => exact hq a' w' hp'
              | ret => exact hq a' w' hp'
        exact wpIn_loop_rounds n (key n _ C lam a h hr (qfb hf hl0) hq)
      · cases h
    · obtain ⟨s, h, hk⟩ := q4k (F := fun S k => iter (fun st H rec => exec E cf n fa c an.strip.fst S st H (loopS rec k)) n st C.H)
          (fun hk => by
          refine q8r ?_ _ _ _
          intro l H r r' hr
          exact q2o hcn n fa c _ _ _ l H (fun e s G => qgi hr hk e s G)) h
      have key : ∀ (m : Nat) (st0 : St) (C : Ctx) (lam : Nat → Nat) (a : Act), st0.N = st.N →
          iter (fun st H rec => exec E cf n fa c an.strip.fst _ st H (loopS rec fun e s G => some (e, s, G))) m st0 C.H = some (e, s, H') → HR E C → FrameR C lam st0 a → (∀ a' w', Post E C st' H' a' w' → Q e.to a' w') → Code.roundsIn (FW ro) 0 E.P c Q m a C.w := by
        intro m
        induction m with
        | zero => intro l C lam a _ h; cases h
        | succ m ihm =>
          intro st0 C lam a hN0 h hr hf hq
          unfold iter at h
          obtain ⟨e1, s1, H1, h1, h2⟩ := q1a hcn h
          have hN : s1.N = st.N := (q7c hcn n fa _ _ _ _ _ _ _ h1).trans hN0
          refine ih _ _ C lam a _ e1 s1 H1 hrf hok h1 hr hf fun a' w' hp => ?_
          rcases q6u h2 with ⟨he, h3⟩ | ⟨he, h3, h4, h5⟩
          · subst he
            obtain ⟨C1, lam1, rfl, rfl, g3, g4, g5⟩ := hp
            exact ihm _ C1 lam1 a' hN h3 g3 g5 fun a2 w2 hp2 => hq a2 w2 (hp2.trans g4)
          · subst h3 h4 h5
            have hp' := hp.keep fun C lam a hf => hk C lam a hN.symm hf
            cases e with
            | normal => exact absurd rfl he
            | exit id => exact hq a' w' hp'
            | ret => exact hq a' w' hp'
      exact wpIn_loop_rounds n (key n _ C lam a rfl h hr hf hq)
  | scope c ih =>
    intro an st C lam a Q e st' H' hrf hok h hr hf hq
    unfold exec at h
    unfold codeOk at hok
    obtain ⟨s, h, hk⟩ := q4k (fun hk => q2o hcn n fa c _ _ _ st C.H hk) h
    have hN := q7c hcn n fa _ _ _ _ _ _ _ h
    refine q5i (ih _ _ C lam a _ _ s _ hrf hok h hr hf fun a' w' hp => ?_)
    have hp' := hp.keep fun C lam a hf => hk C lam a hN.symm hf
    cases e <;> exact hq a' w' hp'
  | rangeFunc g ps assign body _ _ =>
    intro an st C lam a Q e st' H' hrf hok h hr hf hq
    unfold exec at h
    unfold codeOk at hok
    simp only [Bool.and_eq_true] at hok
    have hro : ro = none := by
      rcases hrf with h | h
      · exact h
      · cases h
    subst hro
    cases hnr : (noRF assign && noRF body)
    · rw [hnr] at h; cases h
    · rw [hnr] at h
      simp only [cond_true] at h
      simp only [Bool.and_eq_true] at hnr
      split at h
      · rename_i f cap hg
        cases hbd : q55 E f
        case false => rw [hbd] at h; cases h
        rw [hbd] at h
        simp only [Bool.not_true, cond_false] at h
        generalize hk : (fun (_ : AV) (H1 : Heap) => match H1[C.H.length]? with
          | some (.loop L) => bif Nat.beq L.state 1 then (none : Option (AExit × St × Heap)) else match L.pending with
            | none => some (.normal, st, H1.set C.H.length .dead)
            | some e => some (e, st, H1.set C.H.length .dead)
          | _ => none) = kk at h
        rw [q2x hcn _ _ _ (k := kk) (g := fun v G => some (v, G)) (h := fun p => kk p.1 p.2) (fun _ _ => rfl)] at h
        simp only [Option.bind_eq_some_iff] at h
        obtain ⟨⟨v, G⟩, hcall, hcont⟩ := h
        subst hk
        dsimp only at hcont
        have hgu := q09 hr hf hg
        generalize hgv : a.eval g = gv at hgu
        cases hgu with
        | fn _ _ _ _ as bs hfirst hcap =>
          have has : as = #[] := by
            generalize hl : as.toList = l at hfirst
            cases hfirst
            exact Array.toList_inj.1 hl
          subst has
          refine wpIn_rangeFunc fun fn _ => ?_
          let L : LoopD := ⟨st.snap, fa, ps.toList, assign, body, an.strip, 0, none⟩
          let rcd : Loop := { state := .ready, pending := none, fn, tmps := a.tmps, params := ps, assign, body, defers := C.w.heap.size }
          let w1 := C.w.alloc (.deferred (some []))
          let w2 := w1.alloc (.loop rcd)
          obtain ⟨ev1, hr1⟩ := lay_ok (s := 0) (w' := w1) (b := .deferred (some [])) hr ⟨rfl, rfl, rfl⟩ rfl
          let C1 := C.lay 0 w1
          have hf1 : FrameR C1 lam st a := hf.ev ev1
          have ev2 : EvL C1 (C1.grow w2 (.loop L)) := q8p (o := .loop L) (w' := w2) (b := .loop rcd) hr1 ⟨rfl, rfl, rfl⟩ rfl
          have hLV : LoopV E C1 L rcd := by
            refine ⟨rfl, rfl, rfl, rfl, rfl, hf.size, fun t => ?_, fun s => rfl, hok.1, hok.2, hnr.1, hnr.2⟩
            have ht := hf1.slots t
            unfold SlotOk at ht
            unfold SlotV
            show match st.snap.get t with | .val v => _ | .lp _ _ => _ | .no => _
            rw [snap_get]
            cases hx : st.get t with
            | val v => rw [hx] at ht; exact ht
            | lp s o => trivial
            | no => trivial
          have hr2 : HR E (C1.grow w2 (.loop L)) := qbq hr1 ⟨rfl, rfl, rfl⟩ rfl (fun _ _ _ _ e => by cases e) (fun _ => ⟨rcd, rfl, hLV.evV ev2.ev.toV⟩)
          let C2 := C1.grow w2 (.loop L)
          have hf2 : FrameR C2 lam st a := hf1.ev ev2
          have hplace : C2.ρ C.H.length = (w1.heap.size, 0) := q1h (C := C1)
          have hsz : w1.heap.size = C.w.heap.size + 1 := by simp [w1]
          have hargs : Vs C2 false (.yl C.H.length :: cap) (#[.func (.yield (C.w.heap.size + 1)) #[] #[]] ++ bs : Array Value).toList := by
            rw [Array.toList_append]
            refine .cons _ _ _ _ _ (.yl _ _ rfl ⟨by show _ < (C.H ++ [_]).length; simp, fun L' _ => by rw [hplace, hsz]⟩) ?_
            exact (hcap.ev ev1.ev).ev ev2.ev
          have hland := hck.call f _ C2 _ v G hcall hr2 hargs
          have fin : ∀ (e' : Ending) (w3 : World), (∃ u, e' = .returned u ∧ GivesL E C2 v G u w3) → rangePost (FW none) 0 E.P (C.w.heap.size + 1) Q { a with defers := [{ target := .collected C.w.heap.size, args := #[] }] ++ a.defers } e' w3 := fun e' w3 h3 => by
            obtain ⟨u, rfl, C3, rfl, rfl, _, hr3, ev3⟩ := h3
            split at hcont
            · rename_i L3 hL3
              cases hst : Nat.beq L3.state 1
              case true => rw [hst] at hcont; cases hcont
              rw [hst] at hcont
              simp only [cond_false] at hcont
              obtain ⟨_, rec3, hrec3, hLV3⟩ := hr3.oth _ _ rfl hL3
              have hρ3 : C3.ρ C.H.length = C2.ρ C.H.length := (ev3.ev.oths C.H.length (by show _ < (C.H ++ [_]).length; simp) _ rfl hL3).2
              rw [hρ3, hplace, hsz] at hrec3
              have hnb : rec3.state ≠ .busy := by
                rw [hLV3.state]
                intro hb
                cases hs : L3.state with
                | zero => rw [hs] at hb; cases hb
                | succ k => cases k with
                  | zero => rw [hs] at hst; cases hst
                  | succ k => rw [hs] at hb; cases hb
              obtain ⟨hr4, ev4⟩ := q34 (o' := .dead) (ob' := .loop { rec3 with state := .exhausted }) (w' := C3.w.putObj (C.w.heap.size + 1) (.loop { rec3 with state := .exhausted })) hr3 rfl hL3 (by simp [HObj.kd]) ⟨rfl, rfl, rfl⟩ (by rw [hρ3, hplace, hsz]; rfl) (fun _ _ _ e => by cases e) (fun e => by cases e)
              have evA : EvL C { C3 with w := C3.w.putObj (C.w.heap.size + 1) (.loop { rec3 with state := .exhausted }), H := C3.H.set C.H.length .dead } := ((ev1.trans ev2).trans ev3).trans ev4
              have hmark : C1.κ C.w.heap.size = .loc 0 := by simp [C1, Ctx.lay]
              have evM : EvL C1 { C3 with w := C3.w.putObj (C.w.heap.size + 1) (.loop { rec3 with state := .exhausted }), H := C3.H.set C.H.length .dead } := (ev2.trans ev3).trans ev4
              have hf4 : FrameR { C3 with w := C3.w.putObj (C.w.heap.size + 1) (.loop { rec3 with state := .exhausted }), H := C3.H.set C.H.length .dead } lam st { a with defers := [{ target := .collected C.w.heap.size, args := #[] }] ++ a.defers } := by
                have h4 := hf.ev evA
                refine ⟨h4.size, ⟨⟨C.w.heap.size, 0, rfl, ?_, ?_, ?_⟩, ?_, h4.defers⟩, h4.slots, h4.vars⟩
                · have h5 : w1.heap.size ≤ _ := evM.ev.size
                  rw [hsz] at h5
                  omega
                · exact (evM.loc C.w.heap.size (by show _ < w1.heap.size; rw [hsz]; omega) 0 hmark).2
                · rw [(evM.loc C.w.heap.size (by show _ < w1.heap.size; rw [hsz]; omega) 0 hmark).1]
                  show (C.w.heap.push _)[_]? = _
                  simp
                · intro hm
                  exact qgn hf.defers hm
              generalize hw4 : C3.w.putObj (C.w.heap.size + 1) (.loop { rec3 with state := .exhausted }) = w4 at hr4 evA hf4
              refine ⟨rec3.pending, w4, by rw [← hw4]; exact run_endLoop hrec3 hnb, ?_⟩
              rw [hLV3.pending]
              cases hpe : L3.pending with
              | none =>
                rw [hpe] at hcont
                simp only [Option.some.injEq, Prod.mk.injEq] at hcont
                obtain ⟨rfl, rfl, rfl⟩ := hcont
                exact hq _ _ ⟨_, lam, rfl, rfl, hr4, evA.ev, hf4⟩
              | some e4 =>
                rw [hpe] at hcont
                simp only [Option.some.injEq, Prod.mk.injEq] at hcont
                obtain ⟨rfl, rfl, rfl⟩ := hcont
                have hqq := hq _ _ ⟨_, lam, rfl, rfl, hr4, evA.ev, hf4⟩
                cases e4 with
                | normal => exact wpIn_skip hqq
                | exit id => exact wpIn_exit hqq
                | ret => exact wpIn_ret hqq
            · cases hcont
          refine ⟨C.w.heap.size + 1, [{ target := .collected C.w.heap.size, args := #[] }], w2, { target := .fn (.func f) bs, args := #[.func (.yield (C.w.heap.size + 1)) #[] #[]] }, w2, f,
            #[.func (.yield (C.w.heap.size + 1)) #[] #[]] ++ bs, w2, run_enterLoop_outer _ _ _ _ _, ?_, fun _ _ => trivial, ?_, fun e => by simp [FW] at e, ?_⟩
          · simp only [resolve, hgv]
            simp [go_sem]
          · rcases hland with ⟨h1, _⟩ | ⟨u, w', h1, _⟩
            · simp only [invoke]
              exact h1
            · rw [q3b hnm hbd] at h1
              cases h1
          · rcases hland with ⟨_, h2⟩ | ⟨u, w', h1, _⟩
            · exact qaa (Calls.mono h2 fin)
            · rw [q3b hnm hbd] at h1
              cases h1
      · cases h
  | goto _ => intro an st C lam a Q e st' H' hrf hok h; cases h
  | refuse _ => intro an st C lam a Q e st' H' hrf hok h; cases h
end
end Go.Den

/- DEN, part X: a function's call. -/
namespace Go.Den
open Go.RowKit
section
variable {E : Env} {cf : CallFn} {C C' : Ctx} {lam : Nat → Nat} {st : St} {a : Act} {Q : Exit → Act → World → Prop} {st' : St} {H' : Heap}
theorem qby {P : Program} {t : TypeId} {u0 u : Value} {w w' : World} (h : (Instr.loadAt t u0).run P w = .ok u w') : (do loadVar t (← asAddr u0) : Sem Value).run P w = .ok u w' := by
  unfold Instr.loadAt Instr.sureAddr at h
  split at h
  · exact h
  all_goals simp [Sem.run_bind] at h
theorem qe2 (hr : HR E C) (hf : FrameR C lam st a) {r : ResultVar} {v : AV} (h : q61 E st C.H r = some v) :
    ∃ u, ((match r with
      | .tmp t => pure (a.tmps.getD t undef)
      | .cell x t => do loadVar t (← asAddr (a.tmps.getD x undef))) : Sem Value).run E.P C.w = .ok u C.w ∧ V C false v u := by
  cases r with
  | tmp t =>
    unfold q61 at h
    dsimp only at h
    split at h
    · rename_i w hw
      simp only [Option.some.injEq] at h
      subst h
      exact ⟨_, rfl, q22 hf hw⟩
    · cases h
  | cell x t =>
    unfold q61 at h
    dsimp only at h
    split at h
    · rename_i ag sz hag hsz
      split at h
      · rename_i s off hw
        split at h
        · rename_i cs hcs
          obtain ⟨u, g1, g2⟩ := qgf hf hcs hag hsz h
          have h1 : a.tmps.getD x undef = _ := (q5g hf hw).1
          refine ⟨u, ?_, g2⟩
          simp only [h1]
          exact g1
        · cases h
      · rename_i p hw
        obtain ⟨u, g1, g2⟩ := qbz hr hag hsz h (q22 hf hw)
        exact ⟨u, qby g1, g2⟩
      · cases h
    · cases h
theorem q62 (hr : HR E C) (hf : FrameR C lam st a) {R : Type} {k : List AV → Option R} {x : R} : ∀ (rs : List ResultVar) (acc : List AV), q1l E st C.H rs acc k = some x →
    ∃ ws us, k (acc.reverse ++ ws) = some x ∧ Vs C false ws us ∧ (rs.mapM fun
      | .tmp t => pure (a.tmps.getD t undef)
      | .cell x t => do loadVar t (← asAddr (a.tmps.getD x undef)) : Sem (List Value)).run E.P C.w = .ok us C.w
  | [], acc, h => ⟨[], [], by simpa [q1l] using h, .nil _, rfl⟩
  | r :: rs, acc, h => by
    unfold q1l at h
    split at h
    · rename_i v hv
      obtain ⟨u, g1, g2⟩ := qe2 hr hf hv
      obtain ⟨ws, us, k1, k2, k3⟩ := q62 hr hf rs _ h
      refine ⟨v :: ws, u :: us, by simpa using k1, .cons _ _ _ _ _ g2 k2, ?_⟩
      rw [List.mapM_cons, Sem.run_bind, g1]
      simp only [Result.andThen_ok, Sem.run_bind, k3, Sem.run_pure]
    · cases h
theorem qi4 {ws : List AV} {us : List Value} (h : Vs C false ws us) : V C false (qc5 ws) (if h : us.toArray.size = 1 then us.toArray[0] else .tuple us.toArray) := by
  cases h with
  | nil => exact .tup _ _ _ (.nil _)
  | cons _ v u vs us h1 h2 =>
    cases h2 with
    | nil => exact h1
    | cons _ v2 u2 vs2 us2 h3 h4 =>
      rw [dif_neg (by simp)]
      exact .tup _ _ _ (.cons _ _ _ _ _ h1 (.cons _ _ _ _ _ h3 h4))
theorem q9b {d : Nat} : ∀ (vs : List AV) (i : Nat) (T : Tr SV) (t : Nat), Tr.get .no (q27 d vs i T) t = Tr.get .no T t ∨ Tr.get .no (q27 d vs i T) t = .no ∨ ∃ v, vs[t - i]? = some v ∧ i ≤ t ∧ Tr.get .no (q27 d vs i T) t = .val v
  | [], i, T, t => .inl rfl
  | v :: vs, i, T, t => by
    unfold q27
    rcases q9b vs (i + 1) (T.set i (.val v)) t with h | h | ⟨w, h1, h2, h3⟩
    · by_cases e : i = t
      · subst e
        rcases Tr.get_set_self (z := SV.no) (t := T) (i := i) (x := .val v) with g | g
        · exact .inr (.inr ⟨v, by simp, Nat.le_refl _, h.trans g⟩)
        · exact .inr (.inl (h.trans g.1))
      · exact .inl (h.trans (Tr.get_set_ne e))
    · exact .inr (.inl h)
    · refine .inr (.inr ⟨w, ?_, by omega, h3⟩)
      rw [show t - i = (t - (i + 1)) + 1 by omega]
      simpa using h1
theorem start_ok {d N : Nat} {args : List AV} {us : Array Value} (hv : Vs C false args us.toList) (hle : args.length ≤ N) : FrameR C lam (St.start d N args) { tmps := us ++ Array.replicate (N - us.size) undef, defers := [] } := by
  have hl : us.size = args.length := by rw [← Array.length_toList]; exact hv.length
  refine ⟨by simp [St.start]; omega, trivial, fun t => ?_, fun s cs hs => ?_⟩
  · unfold SlotOk
    have : (St.start d N args).get t = Tr.get .no (q27 d args 0 (Tr.full .no d)) t := rfl
    rcases q9b (d := d) args 0 (Tr.full .no d) t with h | h | ⟨v, h1, _, h3⟩
    · rw [this, h, Tr.get_full]
      trivial
    · rw [this, h]
      trivial
    · rw [this, h3]
      dsimp only
      obtain ⟨u, g1, g2⟩ := hv.get h1
      have : (us ++ Array.replicate (N - us.size) undef).getD t undef = u := by
        rw [Array.getD_eq_getD_getElem?]
        rw [Array.getElem?_toList] at g1
        simp only [Nat.sub_zero] at g1
        rw [Array.getElem?_append_left (Array.getElem?_eq_some_iff.1 g1).1, g1]
        rfl
      rw [this]
      exact g2
  · have : (St.start d N args).var s = Tr.get none (Tr.full none d) s := rfl
    rw [this, Tr.get_full] at hs
    cases hs
structure EnvOK (E : Env) : Prop where
  codes : ∀ (f : FuncId) (fn : Func) (c : Code), E.P.funcs[f]? = some fn → fn.body = some c → codeOk (E.ann f).draws (q1f E (E.ann f).sites) c = true
  names : ∀ (f : FuncId) (fn : Func) (c : Code), E.P.funcs[f]? = some fn → fn.body = some c → fn.name ≠ "runtime.NumGoroutine"
theorem qgq {N : Nat} : ∀ {ps : List Nat} {args : List AV} {us : List Value} {st : St} {tmps : Array Value}, tmps.size = st.N → (∀ t, SlotV C st tmps t) → (∀ s, st.var s = none) → Vs C false args us →
    (((ps.zip us).foldl (fun t p => t.setIfInBounds p.1 p.2) tmps).size = (q26 st ps args).N) ∧ (∀ t, SlotV C (q26 st ps args) ((ps.zip us).foldl (fun t p => t.setIfInBounds p.1 p.2) tmps) t) ∧ ∀ s, (q26 st ps args).var s = none
  | [], _, _, _, _, h1, h2, h3, _ => ⟨by simpa [q26] using h1, by simpa [q26] using h2, by simpa [q26] using h3⟩
  | t :: ts, [], us, st, tmps, h1, h2, h3, hv => by
    cases hv
    exact ⟨by simpa [q26] using h1, by simpa [q26] using h2, by simpa [q26] using h3⟩
  | t :: ts, v :: vs, us, st, tmps, h1, h2, h3, hv => by
    cases hv with
    | cons _ _ u _ us g1 g2 =>
      simp only [List.zip_cons_cons, List.foldl_cons, q26]
      refine qgq (N := N) ?_ ?_ ?_ g2
      · rw [Array.size_setIfInBounds, h1]
        cases Nat.blt t st.N <;> rfl
      · intro i
        have hi := h2 i
        cases hb : Nat.blt t st.N
        · simp only [cond_false]
          have : tmps.setIfInBounds t u = tmps := by
            have : ¬ t < st.N := by
              intro hlt
              have : Nat.blt t st.N = true := Nat.ble_eq_true_of_le hlt
              rw [hb] at this
              cases this
            simp [Array.setIfInBounds, h1, this]
          rw [this]
          exact hi
        · simp only [cond_true]
          have hlt : t < st.N := Nat.le_of_ble_eq_true hb
          unfold SlotV at hi ⊢
          by_cases e : t = i
          · subst e
            have hg : (tmps.setIfInBounds t u).getD t undef = u := q5n (by rw [h1]; exact hlt)
            rcases St.get_put_self (st := st) (i := t) (x := .val v) with k | k
            · rw [k]
              dsimp only
              rw [hg]
              exact g1
            · rw [k]
              trivial
          · rw [St.get_put_ne e, q8n e]
            exact hi
      · intro s
        cases Nat.blt t st.N
        · exact h3 s
        · exact h3 s
theorem qat (hn : C.noLoc) (g3 : HR E C') (g4 : Ev C C') : HR E C'.strip ∧ Ev C C'.strip ∧ C'.strip.noLoc :=
  ⟨q64 g3, ⟨g4.os, g4.tape, g4.output, g4.size, fun b hb hk => by
    obtain ⟨m1, m2⟩ := g4.keep b hb hk
    exact ⟨m1, (q66 rfl (fun s e => by rw [m2] at e; rcases hk with hk | hk <;> rw [hk] at e <;> cases e)).trans m2⟩, g4.hlen, g4.rows, g4.oths⟩, q35⟩
theorem round_ok (hE : EnvOK E) (hcn : CNat cf) (hck : CallKOK E cf) (hD : ∀ fa, DrawOK E cf fa (q1f E fa.sites)) (n id : Nat) {args : List AV} {us : Array Value} {v : AV} (h : q40 E cf n id args C.H (fun v G => some (v, G)) = some (v, H')) (hr : HR E C) (hn : C.noLoc) (hv : Vs C false args us.toList) :
    YLands E C id us (Gives E C v H') := by
  unfold q40 at h
  split at h
  · rename_i L hL
    cases hln : Nat.beq args.length L.ps.length
    · rw [hln] at h; cases h
    · rw [hln] at h
      simp only [cond_true] at h
      have hlen := Nat.eq_of_beq_eq_true hln
      obtain ⟨_, rcd, hrcd, hLV⟩ := hr.oth id _ rfl hL
      have hul : us.size = rcd.params.size := by
        rw [← Array.length_toList, hv.length, hlen, ← hLV.params, Array.length_toList]
      refine ⟨⟨L, hL⟩, rcd.fn, _, rcd.assign, rcd.body, run_yield hrcd hul, roundIn_of_wpIn trivial ?_⟩
      have hfr : FrameR C (fun _ => 0) (q26 L.st L.ps args) { tmps := (rcd.params.zip us).foldl (fun tmps (t, a) => tmps.setIfInBounds t a) rcd.tmps, defers := [] } := by
        obtain ⟨k1, k2, k3⟩ := qgq (N := 0) (ps := L.ps) hLV.size hLV.slots hLV.novar hv
        have e : (rcd.params.zip us).foldl (fun tmps (t, a) => tmps.setIfInBounds t a) rcd.tmps = (L.ps.zip us.toList).foldl (fun t p => t.setIfInBounds p.1 p.2) rcd.tmps := by
          rw [← hLV.params, ← Array.foldl_toList, Array.toList_zip]
        refine ⟨by rw [e]; exact k1, trivial, fun t => ?_, fun s cs hs => by rw [k3 s] at hs; cases hs⟩
        have := k2 t
        unfold SlotV at this
        unfold SlotOk
        rw [e]
        split at this
        · exact this
        · exact this.elim
        · trivial
      obtain ⟨e1, s1, H1, h1, h2⟩ := q1a hcn h
      rw [hLV.assign, hLV.body]
      refine q6p (ro := some (C.ρ id).1) hcn hck hE.names n L.fa (hD L.fa) L.assign _ _ C (fun _ => 0) _ _ e1 s1 H1 (.inr hLV.rf1) hLV.ok1 h1 hr hfr fun a1 w1 hp => ?_
      cases e1 with
      | exit _ => cases h2
      | ret => cases h2
      | normal =>
        dsimp only at h2
        obtain ⟨C1, lam1, rfl, rfl, g3, g4, g5⟩ := hp
        split at h2
        · rename_i L1 hL1
          cases hs0 : Nat.beq L1.state 0
          · rw [hs0] at h2; cases h2
          · rw [hs0] at h2
            simp only [cond_true] at h2
            have hst1 := Nat.eq_of_beq_eq_true hs0
            obtain ⟨_, rcd1, hrcd1, hLV1⟩ := g3.oth id _ rfl hL1
            have hidl : id < C.H.length := (List.getElem?_eq_some_iff.1 hL).1
            have hρ1 : C1.ρ id = C.ρ id := (g4.oths id hidl _ rfl hL1).2
            have hready : rcd1.state = .ready := by rw [hLV1.state, hst1]; rfl
            obtain ⟨k3, k4⟩ := q34 (o' := .loop { L1 with state := 1 }) (ob' := .loop { rcd1 with state := .busy }) (w' := C1.w.putObj (C1.ρ id).1 (.loop { rcd1 with state := .busy })) g3 rfl hL1 (by simp [HObj.kd]) ⟨rfl, rfl, rfl⟩ rfl (fun _ _ _ e => by cases e)
              (fun _ => ⟨rfl, fun C' ev => ⟨_, rfl, ⟨rfl, hLV1.pending, hLV1.params, hLV1.assign, hLV1.body, hLV1.size, fun t => (hLV1.slots t).evV ev, hLV1.novar, hLV1.ok1, hLV1.ok2, hLV1.rf1, hLV1.rf2⟩⟩⟩)
            refine ⟨C1.w.putObj (C1.ρ id).1 (.loop { rcd1 with state := .busy }), by rw [← hρ1]; exact run_beginRound hrcd1 hready, ?_⟩
            obtain ⟨e2, s2, H2, m1, m2⟩ := q1a hcn h2
            refine q6p (ro := some (C.ρ id).1) hcn hck hE.names n L.fa (hD L.fa) L.body _ _ { C1 with w := C1.w.putObj (C1.ρ id).1 (.loop { rcd1 with state := .busy }), H := C1.H.set id (.loop { L1 with state := 1 }) } lam1 _ _ e2 s2 H2 (.inr hLV.rf2) hLV.ok2 m1 k3 (g5.ev k4) fun a2 w2 hp2 => ?_
            obtain ⟨C2, lam2, rfl, rfl, p3, p4, p5⟩ := hp2
            unfold roundK at m2
            split at m2
            · rename_i L2 hL2
              cases hs1 : Nat.beq L2.state 1
              · rw [hs1] at m2; cases m2
              · rw [hs1] at m2
                simp only [cond_true] at m2
                obtain ⟨_, rcd2, hrcd2, hLV2⟩ := p3.oth id _ rfl hL2
                have hidl1 : id < (C1.H.set id (.loop { L1 with state := 1 })).length := by
                  have := g4.hlen
                  rw [List.length_set]
                  omega
                have hρ2 : C2.ρ id = C1.ρ id := (p4.oths id hidl1 _ rfl hL2).2
                have fin : ∀ (jump : Option AExit), v = .bool jump.isNone → H' = C2.H.set id (.loop { L2 with state := if jump.isNone then 0 else 2, pending := jump }) →
                    ∃ v' w', (Instr.endRound (C.ρ id).1 (jump.map AExit.code)).run E.P C2.w = .ok v' w' ∧ ∃ u, Ending.returned v' = .returned u ∧ Gives E C v H' u w' := fun jump hvj hHj => by
                  obtain ⟨q3, q4⟩ := q34 (o' := .loop { L2 with state := if jump.isNone then 0 else 2, pending := jump }) (ob' := .loop { rcd2 with state := if (jump.map AExit.code).isNone then .ready else .done, pending := jump.map AExit.code })
                    (w' := C2.w.putObj (C2.ρ id).1 (.loop { rcd2 with state := if (jump.map AExit.code).isNone then .ready else .done, pending := jump.map AExit.code })) p3 rfl hL2 (by simp [HObj.kd]) ⟨rfl, rfl, rfl⟩ rfl (fun _ _ _ e => by cases e)
                    (fun _ => ⟨rfl, fun C' ev => ⟨_, rfl, ⟨by cases jump <;> rfl, rfl, hLV2.params, hLV2.assign, hLV2.body, hLV2.size, fun t => (hLV2.slots t).evV ev, hLV2.novar, hLV2.ok1, hLV2.ok2, hLV2.rf1, hLV2.rf2⟩⟩⟩)
                  refine ⟨_, _, by rw [← hρ1, ← hρ2]; exact run_endRound (jump.map AExit.code) hrcd2, _, rfl, ?_⟩
                  have evA := ((g4.trans k4.ev).trans p4).trans q4.ev
                  obtain ⟨z1, z2, z3⟩ := qat hn q3 evA
                  subst hvj hHj
                  refine ⟨_, rfl, rfl, ?_, z1, z2, z3⟩
                  have : (Option.map AExit.code jump).isNone = jump.isNone := by cases jump <;> rfl
                  rw [this]
                  exact .bool _ _
                cases e2 with
                | normal =>
                  simp only [Option.some.injEq, Prod.mk.injEq] at m2
                  obtain ⟨rfl, rfl⟩ := m2
                  exact fin none rfl rfl
                | exit i =>
                  simp only [Option.some.injEq, Prod.mk.injEq] at m2
                  obtain ⟨rfl, rfl⟩ := m2
                  exact fin (some (.exit i)) rfl rfl
                | ret =>
                  simp only [Option.some.injEq, Prod.mk.injEq] at m2
                  obtain ⟨rfl, rfl⟩ := m2
                  exact fin (some .ret) rfl rfl
            · cases m2
        · cases h2
  · cases h
theorem qdl {P : Program} (hP : E.P = P) {fn : Func} {tmps : Array Value} {R : Ending → World → Prop} : ∀ {ds : List Deferred} {C : Ctx}, Marks C ds → HR E C →
    (∀ C' : Ctx, C'.H = C.H → C'.κ = C.κ → Ev C C' → EvV C C' → HR E C' → (∀ b, (∀ s, C.κ b ≠ .loc s) → C'.w.heap[b]? = C.w.heap[b]?) → (∀ (b : Nat) cells t fr, C.w.heap[b]? = some (.cells cells t fr) → C'.w.heap[b]? = some (.cells cells t fr)) → LeavesIn (FW none) 0 P fn tmps R [] .returning C'.w) →
    LeavesInM (FW none) 0 P fn tmps R ds .returning C.w := by
  intro ds
  induction ds with
  | nil =>
    intro C hm hr h
    exact h C rfl rfl (Ev.refl C) (Ev.refl C).toV hr (fun _ _ => rfl) (fun _ _ _ _ h => h)
  | cons d ds ih =>
    intro C hm hr h
    obtain ⟨⟨D, s, rfl, hD1, hD2, hD3⟩, hnm, hms⟩ := hm
    refine ⟨(fun e => by cases e), Or.inl ⟨D, C.w.putObj D (.deferred none), rfl, run_takeDeferred hD3, ?_⟩⟩
    have hsz : (C.w.putObj D (.deferred none)).heap.size = C.w.heap.size := World.putObj_size
    have hot : ∀ b, b ≠ D → (C.w.putObj D (.deferred none)).heap[b]? = C.w.heap[b]? := fun b hb => World.putObj_heap_other hb
    have hobj : ∀ b i, C.κ b = .obj i → b ≠ D := fun b i hb e => by rw [e, hD2] at hb; cases hb
    have hcell : ∀ (b : Nat) cells t fr, C.w.heap[b]? = some (.cells cells t fr) → b ≠ D := fun b cells t fr hb e => by
      rw [e, hD3] at hb
      injection hb with hb
      cases hb
    have ev : Ev C { C with w := C.w.putObj D (.deferred none) } := by
      refine ⟨rfl, rfl, rfl, Nat.le_of_eq hsz.symm, fun b hb hk => ⟨hot b fun e => ?_, rfl⟩, Nat.le_refl _, ?_, fun i hi o _ h => ⟨⟨o, h, rfl⟩, rfl⟩⟩
      · rw [e, hD2] at hk
        rcases hk with hk | hk <;> cases hk
      · intro i hi v sz ty es h
        refine ⟨v, es, h, Nat.le_refl _, fun _ => ⟨rfl, fun cells t f hc => ⟨cells, t, f, ?_, rfl⟩⟩⟩
        rw [← hot _ (hobj _ i (hr.row i v sz ty es h).2.2.1)]
        exact hc
    have hr' : HR E { C with w := C.w.putObj D (.deferred none) } := by
      refine hr.step ev ?_ ?_ ?_
      · intro i v sz ty es h
        exact .inl ⟨h, rfl, (hr.row i v sz ty es h).2.2.1, hot _ (hobj _ i (hr.row i v sz ty es h).2.2.1)⟩
      · intro i o ho h
        exact .inl ⟨h, rfl, (hr.oth i o ho h).1, hot _ (hobj _ i (hr.oth i o ho h).1)⟩
      · intro b hb
        exact hr.new b (by rw [← hsz]; exact hb)
    have hms' : Marks { C with w := C.w.putObj D (.deferred none) } ds := by
      clear ih h
      induction ds with
      | nil => trivial
      | cons d' ds ih2 =>
        obtain ⟨⟨D', s', rfl, k1, k2, k3⟩, k4, k5⟩ := hms
        have hne : D' ≠ D := fun e => hnm (by rw [e]; exact List.mem_cons_self)
        exact ⟨⟨D', s', rfl, by show _ < _; rw [hsz]; exact k1, k2, (hot D' hne).trans k3⟩, k4, ih2 (fun hm => hnm (List.mem_cons_of_mem _ hm)) k5⟩
    refine ih hms' hr' fun C' h1 h2 h3 h4 h5 h6 h7 => h C' h1 h2 (ev.trans h3) (ev.trans h3).toV h5 (fun b hb => (h6 b hb).trans (hot b fun e => hb s (by rw [e]; exact hD2))) (fun b cells t fr hb => h7 b cells t fr ((hot b (hcell b cells t fr hb)).trans hb))
theorem FrameR.late {C C' : Ctx} (hf : FrameR C lam st a) (hκ : C'.κ = C.κ) (ev : EvV C C') (hc : ∀ (b : Nat) cells t fr, C.w.heap[b]? = some (.cells cells t fr) → C'.w.heap[b]? = some (.cells cells t fr)) : FrameR C' lam st { a with defers := [] } := by
  refine ⟨hf.size, trivial, fun t => ?_, fun s cs hs => ?_⟩
  · have ht := hf.slots t
    unfold SlotOk at ht ⊢
    split at ht
    · exact ht.evV ev
    · exact ht
    · trivial
  · obtain ⟨h1, h2, cur, ty, fr, h3, h4, h5, h6⟩ := hf.vars s cs hs
    exact ⟨by rw [hκ]; exact h1, Nat.lt_of_lt_of_le h2 ev.size, cur, ty, fr, hc _ _ _ _ h3, h4, h5.evV ev, h6⟩
theorem qhi (hE : EnvOK E) (n : Nat) (hck : CallKOK E (callF E n)) (hD : ∀ fa, DrawOK E (callF E n) fa (q1f E fa.sites)) : CallOK E (callF E (n + 1)) := by
  refine ⟨?_, ?_⟩
  · intro f args C us v H' hlt h hr hn hv
    unfold callF at h
    rw [hlt] at h
    simp only [Bool.not_true, cond_false] at h
    split at h
    · rename_i fn hfn
      split at h
      · rename_i c hc
        split at h
        · rename_i hle
          have hrun : (callFunc f us).run E.P C.w = .ok (.enter f us) C.w := q3b hE.names (by unfold q55; rw [hfn]; simp [hc])
          refine .inl ⟨hrun, callsIn_wide.1 (callsIn_of_wp_marks (F := FW none) (n := 0) hfn hc trivial ?_)⟩
          obtain ⟨e, s1, H1, h1, h2⟩ := q1a (q1z n) h
          refine q6p (ro := none) (q1z n) hck hE.names n (E.ann f) (hD (E.ann f)) c _ _ C (fun _ => 0) _ _ e s1 H1 (.inl rfl) (hE.codes f fn c hfn hc) h1 hr (start_ok hv hle) fun a' w' hp => ?_
          obtain ⟨C1, lam1, rfl, rfl, g3, g4, g5⟩ := hp
          have fin : q1l E s1 C1.H fn.results.toList [] (fun vs => some (qc5 vs, C1.H)) = some (v, H') → LeavesInM (FW none) 0 E.P fn a'.tmps (fun e w' => ∃ u, e = .returned u ∧ Gives E C v H' u w') a'.defers .returning C1.w := fun h2 => by
            refine qdl rfl g5.defers g3 fun C2 q1 q2 q3 q4 q5 q6 q7 => ?_
            have g6 : FrameR C2 lam1 s1 { a' with defers := [] } := g5.late q2 q4 q7
            have h2 := h2
            rw [← q1] at h2
            obtain ⟨ws, us', k1, k2, k3⟩ := q62 q5 g6 _ _ h2
            simp only [List.reverse_nil, List.nil_append, Option.some.injEq, Prod.mk.injEq] at k1
            obtain ⟨rfl, rfl⟩ := k1
            obtain ⟨z1, z2, z3⟩ := qat hn q5 (g4.trans q3)
            refine ⟨_, ?_, _, rfl, C2.strip, rfl, rfl, (qi4 k2).evV q3o, z1, z2, z3⟩
            unfold results
            rw [Array.mapM_eq_mapM_toList]
            simp only [Sem.run_bind, Sem.run_map, Sem.run_pure]
            exact (congrArg (fun r => Result.andThen (Result.andThen r fun a w' => Result.ok a.toArray w') fun a w' => Result.ok (if h : a.size = 1 then a[0] else Value.tuple a) w') k3)
          cases e with
          | normal => exact fin h2
          | exit id => cases h2
          | ret => exact fin h2
        · cases h
      · cases h
    · cases h
  · intro id args C us v H' h hr hn hv
    unfold callF at h
    have hb : Nat.blt (yBase + id) yBase = false := by
      cases hb : Nat.blt (yBase + id) yBase
      · rfl
      · have : yBase + id < yBase := Nat.le_of_ble_eq_true hb
        omega
    rw [hb] at h
    simp only [Bool.not_false, cond_true, Nat.add_sub_cancel_left] at h
    exact round_ok hE (q1z n) hck hD n id h hr hn hv
end
end Go.Den
