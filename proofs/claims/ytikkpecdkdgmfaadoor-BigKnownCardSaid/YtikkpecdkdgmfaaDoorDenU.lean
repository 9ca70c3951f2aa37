/- DEN, part U: control. -/
import Derived.Test.YtikkpecdkdgmfaaDoorDenS
import Derived.Scope
import Derived.LoopN
namespace Go.Den
open Go.RowKit

def AExit.to : AExit → Exit
  | .normal => .normal
  | .exit id => .exit id
  | .ret => .ret

/-- What stands of regions whose order is open. -/
def DrawOK (E : Env) (cf : CallFn) (fa : FAnn) (ok : Nat → Array Oper → DInfo → Bool) : Prop :=
  ∀ (rid : Nat) (ops : Array Oper) (d : DInfo) (st : St) (C : Ctx) (lam : Nat → Nat) (a : Act) (st' : St) (H' : Heap) (Q : Exit → Act → World → Prop), ok rid ops d = true →
    opsD E cf fa.sites d rid ops C.H ops.toList 0 [] st C.H (fun s G => some (s, G)) = some (st', H') → HR E C → FrameR C lam st a → (∀ a' w', Post E C st' H' a' w' → Q .normal a' w') →
      (Code.region rid ops true).wp E.P Q a C.w

/-- The regions whose order is open, of which something is said, are well described. -/
def codeOk (draws : List (Nat × DInfo)) (ok : Nat → Array Oper → DInfo → Bool) : Code → Bool
  | .region rid ops draw => bif draw then (match drawOf rid draws with | some d => ok rid ops d | none => true) else true
  | .seq a b => codeOk draws ok a && codeOk draws ok b
  | .cond _ a b => codeOk draws ok a && codeOk draws ok b
  | .block _ c => codeOk draws ok c
  | .loop c => codeOk draws ok c
  | .scope c => codeOk draws ok c
  | _ => true

section
variable {E : Env} {cf : CallFn} {C C' : Ctx} {lam : Nat → Nat} {st : St} {a : Act} {Q : Exit → Act → World → Prop} {st' : St} {H' : Heap}

theorem zipVars_mem {cs : List (List AV)} : ∀ {is : List Nat} {j i : Nat} {x : Option (List AV)}, (i, x) ∈ zipVars cs is j → ∃ m, is[m]? = some i ∧ x = some (cs.getD (j + m) [])
  | [], _, _, _, h => by cases h
  | a :: is, j, i, x, h => by
    unfold zipVars at h
    rcases List.mem_cons.1 h with e | h
    · injection e with e1 e2
      exact ⟨0, by rw [e1]; rfl, e2⟩
    · obtain ⟨m, h1, h2⟩ := zipVars_mem h
      exact ⟨m + 1, by simpa using h1, by rw [h2, show j + 1 + m = j + (m + 1) by omega]⟩
theorem zipVals_mem {vs : List AV} : ∀ {is : List Nat} {j i : Nat} {x : SV}, (i, x) ∈ zipVals vs is j → ∃ m, is[m]? = some i ∧ x = .val (vs.getD (j + m) .undef)
  | [], _, _, _, h => by cases h
  | a :: is, j, i, x, h => by
    unfold zipVals at h
    rcases List.mem_cons.1 h with e | h
    · injection e with e1 e2
      exact ⟨0, by rw [e1]; rfl, e2⟩
    · obtain ⟨m, h1, h2⟩ := zipVals_mem h
      exact ⟨m + 1, by simpa using h1, by rw [h2, show j + 1 + m = j + (m + 1) by omega]⟩
theorem varsOf_get {st : St} : ∀ {is : List Nat} {cs : List (List AV)}, varsOf st is = some cs → ∀ {m i : Nat}, is[m]? = some i → st.var i = some (cs.getD m [])
  | [], _, _, m, i, hi => by simp at hi
  | a :: is, cs, h, m, i, hi => by
    unfold varsOf at h
    split at h
    · rename_i c hc
      split at h
      · rename_i l hl
        injection h with h
        subst h
        cases m with
        | zero =>
          simp only [List.length_cons, Nat.zero_lt_succ, List.getElem?_cons_zero, Option.some.injEq] at hi
          subst hi
          exact hc
        | succ m =>
          simp only [List.getElem?_cons_succ] at hi
          have := varsOf_get hl hi
          simpa using this
      · cases h
    · cases h
theorem lpsOk_get {st : St} : ∀ {l : List (Nat × Nat × Nat)}, lpsOk st l = true → ∀ {t s o : Nat}, (t, s, o) ∈ l → st.get t = .lp s o
  | [], _, _, _, _, h => by cases h
  | (t0, s0, o0) :: l, h, t, s, o, hm => by
    unfold lpsOk at h
    simp only [Bool.and_eq_true] at h
    rcases List.mem_cons.1 hm with e | hm
    · injection e with e1 e2
      injection e2 with e2 e3
      subst e1 e2 e3
      have := h.1
      split at this
      · rename_i s' o' hg
        simp only [Bool.and_eq_true] at this
        rw [hg, Nat.eq_of_beq_eq_true this.1, Nat.eq_of_beq_eq_true this.2]
      · cases this
    · exact lpsOk_get h.2 hm

theorem live_ok (hf : FrameR C lam st a) {k : LK} {l : Live} (h : st.live k = some l) : FrameR C lam (St.ofLive k st.N l) a := by
  unfold St.live at h
  have hlp : lpsOk st k.lps = true := by
    cases hb : lpsOk st k.lps
    · rw [hb] at h; cases h
    · rfl
  rw [hlp] at h
  simp only [cond_true] at h
  split at h
  · rename_i cs hcs
    injection h with h
    subst h
    have hvar : ∀ s c, (St.ofLive k st.N ⟨k.vals.map fun i => valOf (st.get i), cs⟩).var s = some c → st.var s = some c := fun s c hs => by
      have h' : Tr.get none (Tr.mk none k.d (zipVars cs k.vars 0)) s = some c := hs
      rcases Tr.get_mk (z := (none : Option (List AV))) (d := k.d) (zipVars cs k.vars 0) s with h1 | h1
      · rw [h1] at h'; cases h'
      · obtain ⟨m, h2, h3⟩ := zipVars_mem h1
        rw [h3] at h'
        rw [← h', varsOf_get hcs h2, Nat.zero_add]
    refine ⟨hf.size, hf.defers, fun t => ?_, fun s c hs => hf.vars s c (hvar s c hs)⟩
    have hg : (St.ofLive k st.N ⟨k.vals.map fun i => valOf (st.get i), cs⟩).get t = Tr.get .no (Tr.mk .no k.d (zipVals (k.vals.map fun i => valOf (st.get i)) k.vals 0 ++ k.lps.map fun p => (p.1, (SV.lp p.2.1 p.2.2).kept (k.L ⟨k.vals.map fun i => valOf (st.get i), cs⟩)))) t := rfl
    unfold SlotOk
    rcases Tr.get_mk (z := SV.no) (d := k.d) (zipVals (k.vals.map fun i => valOf (st.get i)) k.vals 0 ++ k.lps.map fun p => (p.1, (SV.lp p.2.1 p.2.2).kept (k.L ⟨k.vals.map fun i => valOf (st.get i), cs⟩))) t with h1 | h1
    · rw [hg, h1]
      trivial
    · rcases List.mem_append.1 h1 with h2 | h2
      · obtain ⟨m, h3, h4⟩ := zipVals_mem h2
        rw [hg, h4]
        dsimp only
        rw [Nat.zero_add, List.getD_eq_getElem?_getD, List.getElem?_map, h3]
        simp only [Option.map_some, Option.getD_some]
        have ht := hf.slots t
        unfold SlotOk at ht
        cases hx : st.get t with
        | val v => rw [hx] at ht; exact ht
        | lp _ _ => exact .undef _
        | no => exact .undef _
      · obtain ⟨⟨t0, s0, o0⟩, h3, h4⟩ := List.mem_map.1 h2
        injection h4 with h4 h5
        subst h4
        rw [hg, ← h5]
        have ht := hf.slots t0
        unfold SlotOk at ht
        rw [lpsOk_get hlp h3] at ht
        dsimp only at ht
        unfold SV.kept
        dsimp only
        cases hv : (k.L ⟨k.vals.map fun i => valOf (st.get i), cs⟩).get none s0 with
        | none => trivial
        | some c =>
          refine ⟨ht.1, ?_⟩
          show (k.L ⟨k.vals.map fun i => valOf (st.get i), cs⟩).get none s0 ≠ none
          rw [hv]
          simp
  · cases h

theorem AExit.is_eq {e x : AExit} (h : e.is x = true) : e = x := by
  cases e <;> cases x <;> first | rfl | (cases h; done) | skip
  rw [Nat.eq_of_beq_eq_true h]

theorem pickK_idx {R : Type} {k : AExit → Option R} {e : AExit} {i : Nat} : ∀ {outs : List AExit} {j : Nat}, idxOf e outs j = some i → j ≤ i ∧ pickK k i outs j = k e
  | [], _, h => by cases h
  | x :: r, j, h => by
    unfold idxOf at h
    cases hx : e.is x
    · rw [hx] at h
      simp only [cond_false] at h
      obtain ⟨h1, h2⟩ := pickK_idx (k := k) h
      refine ⟨by omega, ?_⟩
      unfold pickK
      have : Nat.beq i j = false := by
        cases hb : Nat.beq i j
        · rfl
        · have := Nat.eq_of_beq_eq_true hb
          omega
      rw [this]
      exact h2
    · rw [hx] at h
      simp only [cond_true, Option.some.injEq] at h
      subst h
      refine ⟨Nat.le_refl _, ?_⟩
      unfold pickK
      rw [show Nat.beq j j = true from Nat.beq_refl j, AExit.is_eq hx]
      rfl

/-- Behind a piece with a barrier. -/
theorem bar_some {F : (S : Type) → (AExit → St → Heap → Option S) → Option S} (hF : FNat F) {an : Ann} {N : Nat} {e : AExit} (h : bar an N F (fun e s G => some (e, s, G)) = some (e, st', H')) :
    ∃ s, F _ (fun e s G => some (e, s, G)) = some (e, s, H') ∧ ∀ C lam a, N = s.N → FrameR C lam s a → FrameR C lam st' a := by
  unfold bar at h
  split at h
  · rename_i kp outs x
    rw [hF (k := pairL kp outs) (g := fun e s G => some (e, s, G)) (h := fun p => pairL kp outs p.1 p.2.1 p.2.2) (fun _ _ _ => rfl)] at h
    cases hx : F _ (fun e s G => some (e, s, G)) with
    | none => rw [hx] at h; cases h
    | some p =>
      obtain ⟨e1, s1, G1⟩ := p
      rw [hx] at h
      simp only [Option.bind_some] at h
      unfold pairL at h
      cases hi : idxOf e1 outs 0 with
      | none => simp only [hi] at h; cases h
      | some i =>
        cases hl : s1.live kp with
        | none => simp only [hi, hl] at h; cases h
        | some l =>
          simp only [hi, hl, bindX] at h
          rw [(pickK_idx hi).2] at h
          simp only [Option.some.injEq, Prod.mk.injEq] at h
          obtain ⟨rfl, rfl, rfl⟩ := h
          exact ⟨s1, rfl, fun C lam a hN hf => by rw [hN]; exact live_ok hf hl⟩
  · exact ⟨st', h, fun C lam a _ hf => hf⟩

theorem Post.keep {s : St} {G : Heap} {a1 : Act} {w1 : World} (hk : ∀ C lam a, FrameR C lam s a → FrameR C lam st' a) (h : Post E C s G a1 w1) : Post E C st' G a1 w1 := by
  obtain ⟨C2, lam2, h1, h2, h3, h4, h5⟩ := h
  exact ⟨C2, lam2, h1, h2, h3, h4, hk _ _ _ h5⟩

/-- What goes on is told apart from what was done. -/
theorem exec_nat (hcn : CNat cf) {R : Type} (n : Nat) (fa : FAnn) (c : Code) (an : Ann) (st : St) (H : Heap) (k : AExit → St → Heap → Option R) :
    exec E cf n fa c an R st H k = (exec E cf n fa c an _ st H fun e s G => some (e, s, G)).bind fun p => k p.1 p.2.1 p.2.2 :=
  exec_to hcn n fa c an _ _ st H fun _ _ _ => rfl

theorem exec_split (hcn : CNat cf) {R : Type} {n : Nat} {fa : FAnn} {c : Code} {an : Ann} {st : St} {H : Heap} {k : AExit → St → Heap → Option R} {r : R} (h : exec E cf n fa c an R st H k = some r) :
    ∃ e s G, exec E cf n fa c an _ st H (fun e s G => some (e, s, G)) = some (e, s, G) ∧ k e s G = some r := by
  rw [exec_nat hcn] at h
  simp only [Option.bind_eq_some_iff] at h
  obtain ⟨⟨e, s, G⟩, h1, h2⟩ := h
  exact ⟨e, s, G, h1, h2⟩

theorem op_N (hcn : CNat cf) {o : Oper} {site : Option Nat} {x : SV} {H : Heap} (h : opK E cf site o st H (fun x s G => some (x, s, G)) = some (x, st', H')) : st'.N = st.N := by
  have fin : ∀ {y : SV} {s : St} {G : Heap}, s.N = st.N → (some (y, s, G) : Option (SV × St × Heap)) = some (x, st', H') → st'.N = st.N := fun hs h => by
    simp only [Option.some.injEq, Prod.mk.injEq] at h
    rw [← h.2.1]
    exact hs
  have wfin : ∀ {v : Option AV} {G : Heap}, withV v (fun v => some (SV.val v, st, G)) = some (x, st', H') → st'.N = st.N := fun h => by
    obtain ⟨v, _, h⟩ := withV_some h
    exact fin rfl h
  have lfin : ∀ {s : Nat} {cs : List AV} {G : Heap}, layK s cs st G (fun x s G => some (x, s, G)) = some (x, st', H') → st'.N = st.N := fun h => by
    unfold layK at h
    split at h
    · split at h
      · refine fin ?_ h
        rfl
      · cases h
    · cases h
  by_cases hk : ∀ s, touchOf st site o ≠ some (s, true)
  · rw [op_keeps' hcn hk h]
  · have hk : ∃ s, touchOf st site o = some (s, true) := by
      rcases Classical.em (∃ s, touchOf st site o = some (s, true)) with h1 | h1
      · exact h1
      · exact absurd (fun s e => h1 ⟨s, e⟩) hk
    obtain ⟨s, hs⟩ := hk
    unfold opK at h
    unfold touchOf at hs
    cases ho : o.op <;> simp only [ho] at h hs
    case alloc t =>
      cases site with
      | none => cases hs
      | some s =>
        split at h
        · exact lfin (bif_some h)
        · cases h
    case box t y =>
      cases site with
      | none => cases hs
      | some s =>
        split at h
        · exact lfin (bif_some h)
        · cases h
    case store t y z =>
      split at h
      · cases y with
        | tmp q =>
          dsimp only at h hs
          split at h
          · split at h
            · refine fin ?_ (bif_some h)
              rfl
            · cases h
          · split at h
            · exact fin rfl h
            · cases h
          · cases h
        | _ => cases h
      · cases h
    case load t y =>
      cases y with
      | tmp q =>
        dsimp only at hs
        split at hs
        · cases hs
        · cases hs
      | _ => cases hs
    all_goals cases hs

theorem stPut_N {st : St} {d : Option Tmp} {x : SV} : (stPut st d x).N = st.N := by
  cases d with
  | none => rfl
  | some t =>
    show (if t < st.N then st.put t x else st).N = st.N
    split <;> rfl

theorem opsK_N (hcn : CNat cf) (sites : List (Nat × Nat × Nat)) (rid : Nat) (ops : Array Oper) : ∀ (l : List Oper) (i : Nat) (st : St) (H : Heap),
    opsK E cf sites rid ops l i st H (fun s G => some (s, G)) = some (st', H') → st'.N = st.N := by
  intro l
  induction l with
  | nil =>
    intro i st H h
    simp only [opsK, Option.some.injEq, Prod.mk.injEq] at h
    rw [h.1]
  | cons o l ih =>
    intro i st H h
    unfold opsK at h
    split at h
    · rw [opK_nat hcn] at h
      simp only [Option.bind_eq_some_iff] at h
      obtain ⟨⟨x, st1, H1⟩, h1, h2⟩ := h
      rw [ih _ _ _ h2, stPut_N, op_N hcn h1]
    · split at h
      · split at h
        · rw [ih _ _ _ h, stPut_N]
        · cases h
      · cases h

theorem opsD_N (hcn : CNat cf) (sites : List (Nat × Nat × Nat)) (d : DInfo) (rid : Nat) (ops : Array Oper) (H0 : Heap) : ∀ (l : List Oper) (i : Nat) (tr : List Rec) (st : St) (H : Heap),
    opsD E cf sites d rid ops H0 l i tr st H (fun s G => some (s, G)) = some (st', H') → st'.N = st.N := by
  intro l
  induction l with
  | nil =>
    intro i tr st H h
    have h := bif_some h
    simp only [Option.some.injEq, Prod.mk.injEq] at h
    rw [h.1]
  | cons o l ih =>
    intro i tr st H h
    unfold opsD at h
    split at h
    · rw [opK_nat hcn] at h
      simp only [Option.bind_eq_some_iff] at h
      obtain ⟨⟨x, st1, H1⟩, h1, h2⟩ := h
      rw [ih _ _ _ _ h2, stPut_N, op_N hcn h1]
    · split at h
      · split at h
        · rw [ih _ _ _ _ h, stPut_N]
        · cases h
      · cases h

/-- A piece leaves as many slots. -/
def FN (N : Nat) (F : (S : Type) → (AExit → St → Heap → Option S) → Option S) : Prop :=
  ∀ e s G, F _ (fun e s G => some (e, s, G)) = some (e, s, G) → s.N = N

theorem pickK_N {kp : LK} {N : Nat} {l : Live} {G : Heap} {i : Nat} {e : AExit} : ∀ {outs : List AExit} {j : Nat}, pickK (fun e => some (e, St.ofLive kp N l, G)) i outs j = some (e, st', H') → st'.N = N
  | [], _, h => by cases h
  | x :: r, j, h => by
    unfold pickK at h
    cases hb : Nat.beq i j
    · rw [hb] at h
      exact pickK_N h
    · rw [hb] at h
      simp only [cond_true, Option.some.injEq, Prod.mk.injEq] at h
      rw [← h.2.1]
      rfl

theorem bar_N {F : (S : Type) → (AExit → St → Heap → Option S) → Option S} {N : Nat} (hF : FN N F) {an : Ann} {e : AExit} (h : bar an N F (fun e s G => some (e, s, G)) = some (e, st', H')) : st'.N = N := by
  unfold bar at h
  split at h
  · unfold bindX at h
    split at h
    · exact pickK_N h
    · cases h
  · exact hF _ _ _ h

theorem loopK_some {kp : LK} {rec : Live → Heap → Option (AExit × St × Heap)} {e e' : AExit} {s : St} {G : Heap} (h : loopK kp rec (fun e s G => some (e, s, G)) e s G = some (e', st', H')) :
    (e = .normal ∧ ∃ l, s.live kp = some l ∧ rec l G = some (e', st', H')) ∨ (e ≠ .normal ∧ e' = e ∧ st' = s ∧ H' = G) := by
  cases e with
  | normal =>
    unfold loopK at h
    dsimp only at h
    split at h
    · rename_i l hl
      exact .inl ⟨rfl, l, hl, h⟩
    · cases h
  | exit j =>
    injection h with h
    simp only [Prod.mk.injEq] at h
    exact .inr ⟨by simp, h.1.symm, h.2.1.symm, h.2.2.symm⟩
  | ret =>
    injection h with h
    simp only [Prod.mk.injEq] at h
    exact .inr ⟨by simp, h.1.symm, h.2.1.symm, h.2.2.symm⟩

theorem loopS_some {rec : St → Heap → Option (AExit × St × Heap)} {e e' : AExit} {s : St} {G : Heap} (h : loopS rec (fun e s G => some (e, s, G)) e s G = some (e', st', H')) :
    (e = .normal ∧ rec s G = some (e', st', H')) ∨ (e ≠ .normal ∧ e' = e ∧ st' = s ∧ H' = G) := by
  cases e with
  | normal => exact .inl ⟨rfl, h⟩
  | exit j =>
    injection h with h
    simp only [Prod.mk.injEq] at h
    exact .inr ⟨by simp, h.1.symm, h.2.1.symm, h.2.2.symm⟩
  | ret =>
    injection h with h
    simp only [Prod.mk.injEq] at h
    exact .inr ⟨by simp, h.1.symm, h.2.1.symm, h.2.2.symm⟩

theorem seqK_some {next : St → Heap → Option (AExit × St × Heap)} {e e' : AExit} {s : St} {G : Heap} (h : seqK next (fun e s G => some (e, s, G)) e s G = some (e', st', H')) :
    (e = .normal ∧ next s G = some (e', st', H')) ∨ (e ≠ .normal ∧ e' = e ∧ st' = s ∧ H' = G) := loopS_some h

def AExit.leave (id : Nat) : AExit → AExit
  | .normal => .normal
  | .exit j => if j = id then .normal else .exit j
  | .ret => .ret

theorem blockK_some {id : Nat} {e e' : AExit} {s : St} {G : Heap} (h : blockK id (fun e s G => some (e, s, G)) e s G = some (e', st', H')) :
    st' = s ∧ H' = G ∧ e' = e.leave id := by
  cases e with
  | normal =>
    injection h with h
    simp only [Prod.mk.injEq] at h
    exact ⟨h.2.1.symm, h.2.2.symm, h.1.symm⟩
  | exit j =>
    unfold blockK at h
    dsimp only at h
    cases hj : Nat.beq j id
    · rw [hj] at h
      simp only [cond_false, Option.some.injEq, Prod.mk.injEq] at h
      refine ⟨h.2.1.symm, h.2.2.symm, ?_⟩
      unfold AExit.leave
      dsimp only
      rw [if_neg (by intro e; subst e; simp at hj)]
      exact h.1.symm
    · rw [hj] at h
      simp only [cond_true, Option.some.injEq, Prod.mk.injEq] at h
      refine ⟨h.2.1.symm, h.2.2.symm, ?_⟩
      unfold AExit.leave
      dsimp only
      rw [if_pos (Nat.eq_of_beq_eq_true hj)]
      exact h.1.symm
  | ret =>
    injection h with h
    simp only [Prod.mk.injEq] at h
    exact ⟨h.2.1.symm, h.2.2.symm, h.1.symm⟩

theorem exec_N (hcn : CNat cf) (n : Nat) (fa : FAnn) : ∀ (c : Code) (an : Ann) (st : St) (H : Heap) (e : AExit) (st' : St) (H' : Heap),
    exec E cf n fa c an _ st H (fun e s G => some (e, s, G)) = some (e, st', H') → st'.N = st.N := by
  intro c
  induction c with
  | skip => intro an st H e st' H' h; injection h with h; simp only [Prod.mk.injEq] at h; rw [← h.2.1]
  | label _ => intro an st H e st' H' h; injection h with h; simp only [Prod.mk.injEq] at h; rw [← h.2.1]
  | exit _ => intro an st H e st' H' h; injection h with h; simp only [Prod.mk.injEq] at h; rw [← h.2.1]
  | ret => intro an st H e st' H' h; injection h with h; simp only [Prod.mk.injEq] at h; rw [← h.2.1]
  | region rid ops draw =>
    intro an st H e st' H' h
    unfold exec at h
    cases draw
    · simp only [cond_false] at h
      rw [opsK_to hcn _ _ _ _ _ _ _ (k := fun s G => some (AExit.normal, s, G)) (g := fun s G => some (s, G)) (h := fun p => some (AExit.normal, p.1, p.2)) (fun _ _ => rfl)] at h
      simp only [Option.bind_eq_some_iff] at h
      obtain ⟨⟨s1, H1⟩, h1, h2⟩ := h
      injection h2 with h2
      simp only [Prod.mk.injEq] at h2
      rw [← h2.2.1]
      exact opsK_N hcn _ _ _ _ _ _ _ h1
    · simp only [cond_true] at h
      split at h
      · rw [opsD_to hcn _ _ _ _ _ _ _ _ _ _ (k := fun s G => some (AExit.normal, s, G)) (g := fun s G => some (s, G)) (h := fun p => some (AExit.normal, p.1, p.2)) (fun _ _ => rfl)] at h
        simp only [Option.bind_eq_some_iff] at h
        obtain ⟨⟨s1, H1⟩, h1, h2⟩ := h
        injection h2 with h2
        simp only [Prod.mk.injEq] at h2
        rw [← h2.2.1]
        exact opsD_N hcn _ _ _ _ _ _ _ _ _ _ h1
      · cases h
  | seq a b iha ihb =>
    intro an st H e st' H' h
    unfold exec at h
    refine bar_N (fun e s G h => ?_) h
    obtain ⟨e1, s1, H1, h1, h2⟩ := exec_split hcn h
    have hN := iha _ _ _ _ _ _ h1
    rcases seqK_some h2 with ⟨_, h3⟩ | ⟨_, _, h3, _⟩
    · rw [ihb _ _ _ _ _ _ h3, hN]
    · rw [h3, hN]
  | cond c x y ihx ihy =>
    intro an st H e st' H' h
    unfold exec at h
    split at h
    · rename_i v hv
      refine bar_N (fun e s G h0 => ?_) h
      unfold A.test at h0
      cases v with
      | bool b =>
        cases b
        · exact ihy _ _ _ _ _ _ h0
        · exact ihx _ _ _ _ _ _ h0
      | _ => cases h0
    · cases h
  | block id c ih =>
    intro an st H e st' H' h
    unfold exec at h
    refine bar_N (fun e s G h => ?_) h
    obtain ⟨e1, s1, H1, h1, h2⟩ := exec_split hcn h
    rw [(blockK_some h2).1, ih _ _ _ _ _ _ h1]
  | loop c ih =>
    intro an st H e st' H' h
    unfold exec at h
    split at h
    · rename_i kp x hx
      split at h
      · refine bar_N (fun e s G h0 => ?_) h
        have key : ∀ (m : Nat) (l : Live) (H : Heap), iter (fun l H rec => exec E cf n fa c x _ (St.ofLive kp st.N l) H (loopK kp rec fun e s G => some (e, s, G))) m l H = some (e, s, G) → s.N = st.N := by
          intro m
          induction m with
          | zero => intro l H h1; cases h1
          | succ m ihm =>
            intro l H h1
            unfold iter at h1
            obtain ⟨e1, s1, H1, h2, h3⟩ := exec_split hcn h1
            rcases loopK_some h3 with ⟨_, l1, _, h4⟩ | ⟨_, _, h4, _⟩
            · exact ihm _ _ h4
            · rw [h4]
              have hx := ih _ _ _ _ _ _ h2
              exact hx
        exact key _ _ _ h0
      · cases h
    · refine bar_N (fun e s G h0 => ?_) h
      have key : ∀ (m : Nat) (s0 : St) (H : Heap), s0.N = st.N → iter (fun st H rec => exec E cf n fa c an.strip.fst _ st H (loopS rec fun e s G => some (e, s, G))) m s0 H = some (e, s, G) → s.N = st.N := by
        intro m
        induction m with
        | zero => intro l H _ h1; cases h1
        | succ m ihm =>
          intro s0 H hs0 h1
          unfold iter at h1
          obtain ⟨e1, s1, H1, h2, h3⟩ := exec_split hcn h1
          have hN := ih _ _ _ _ _ _ h2
          rcases loopS_some h3 with ⟨_, h4⟩ | ⟨_, _, h4, _⟩
          · exact ihm _ _ (hN.trans hs0) h4
          · rw [h4, hN, hs0]
      exact key _ _ _ rfl h0
  | scope c ih =>
    intro an st H e st' H' h
    unfold exec at h
    refine bar_N (fun e s G h => ?_) h
    exact ih _ _ _ _ _ _ h
  | rangeFunc _ _ _ _ _ _ => intro an st H e st' H' h; cases h
  | goto _ => intro an st H e st' H' h; cases h
  | refuse _ => intro an st H e st' H' h; cases h

theorem exec_sound (hcn : CNat cf) (hck : CallKOK E cf) (n : Nat) (fa : FAnn) {ok : Nat → Array Oper → DInfo → Bool} (hD : DrawOK E cf fa ok) :
    ∀ (c : Code) (an : Ann) (st : St) (C : Ctx) (lam : Nat → Nat) (a : Act) (Q : Exit → Act → World → Prop) (e : AExit) (st' : St) (H' : Heap), codeOk fa.draws ok c = true →
      exec E cf n fa c an _ st C.H (fun e s G => some (e, s, G)) = some (e, st', H') → HR E C → FrameR C lam st a → (∀ a' w', Post E C st' H' a' w' → Q e.to a' w') → c.wp E.P Q a C.w := by
  intro c
  induction c with
  | skip =>
    intro an st C lam a Q e st' H' hok h hr hf hq
    injection h with h
    simp only [Prod.mk.injEq] at h
    obtain ⟨rfl, rfl, rfl⟩ := h
    exact wp_skip (hq _ _ ⟨C, lam, rfl, rfl, hr, Ev.refl C, hf⟩)
  | label l =>
    intro an st C lam a Q e st' H' hok h hr hf hq
    injection h with h
    simp only [Prod.mk.injEq] at h
    obtain ⟨rfl, rfl, rfl⟩ := h
    exact wp_label (hq _ _ ⟨C, lam, rfl, rfl, hr, Ev.refl C, hf⟩)
  | exit id =>
    intro an st C lam a Q e st' H' hok h hr hf hq
    injection h with h
    simp only [Prod.mk.injEq] at h
    obtain ⟨rfl, rfl, rfl⟩ := h
    exact wp_exit (hq _ _ ⟨C, lam, rfl, rfl, hr, Ev.refl C, hf⟩)
  | ret =>
    intro an st C lam a Q e st' H' hok h hr hf hq
    injection h with h
    simp only [Prod.mk.injEq] at h
    obtain ⟨rfl, rfl, rfl⟩ := h
    exact wp_ret (hq _ _ ⟨C, lam, rfl, rfl, hr, Ev.refl C, hf⟩)
  | region rid ops draw =>
    intro an st C lam a Q e st' H' hok h hr hf hq
    unfold exec at h
    cases draw
    · simp only [cond_false] at h
      rw [opsK_to hcn _ _ _ _ _ _ _ (k := fun s G => some (AExit.normal, s, G)) (g := fun s G => some (s, G)) (h := fun p => some (AExit.normal, p.1, p.2)) (fun _ _ => rfl)] at h
      simp only [Option.bind_eq_some_iff] at h
      obtain ⟨⟨s1, H1⟩, h1, h2⟩ := h
      injection h2 with h2
      simp only [Prod.mk.injEq] at h2
      obtain ⟨rfl, rfl, rfl⟩ := h2
      exact wp_region_list (opsK_sound hcn hck _ _ _ _ _ _ C lam a h1 hr hf fun a' w' hp => hq a' w' hp)
    · simp only [cond_true] at h
      unfold codeOk at hok
      simp only [cond_true] at hok
      split at h
      · rename_i d hd
        rw [hd] at hok
        rw [opsD_to hcn _ _ _ _ _ _ _ _ _ _ (k := fun s G => some (AExit.normal, s, G)) (g := fun s G => some (s, G)) (h := fun p => some (AExit.normal, p.1, p.2)) (fun _ _ => rfl)] at h
        simp only [Option.bind_eq_some_iff] at h
        obtain ⟨⟨s1, H1⟩, h1, h2⟩ := h
        injection h2 with h2
        simp only [Prod.mk.injEq] at h2
        obtain ⟨rfl, rfl, rfl⟩ := h2
        exact hD rid ops d st C lam a _ _ Q hok h1 hr hf fun a' w' hp => hq a' w' hp
      · cases h
  | seq x y ihx ihy =>
    intro an st C lam a Q e st' H' hok h hr hf hq
    unfold exec at h
    unfold codeOk at hok
    simp only [Bool.and_eq_true] at hok
    obtain ⟨s, h, hk⟩ := bar_some (fun hk => exec_to hcn n fa x _ _ _ st C.H fun e s G => seqK_to (fun s G => exec_to hcn n fa y _ _ _ s G hk) hk e s G) h
    obtain ⟨e1, s1, H1, h1, h2⟩ := exec_split hcn h
    have hN1 := exec_N hcn n fa _ _ _ _ _ _ _ h1
    refine wp_seq (ihx _ _ C lam a _ e1 s1 H1 hok.1 h1 hr hf fun a' w' hp => ?_)
    rcases seqK_some h2 with ⟨he, h3⟩ | ⟨he, h3, h4, h5⟩
    · subst he
      have hN2 := exec_N hcn n fa _ _ _ _ _ _ _ h3
      obtain ⟨C1, lam1, rfl, rfl, g3, g4, g5⟩ := hp
      exact ihy _ _ C1 lam1 a' Q _ _ _ hok.2 h3 g3 g5 fun a2 w2 hp2 => hq a2 w2 ((hp2.keep fun C lam a hf => hk C lam a (by rw [hN2, hN1]) hf).trans g4)
    · subst h3 h4 h5
      have hp' := hp.keep fun C lam a hf => hk C lam a hN1.symm hf
      cases e with
      | normal => exact absurd rfl he
      | exit id => exact hq a' w' hp'
      | ret => exact hq a' w' hp'
  | cond c x y ihx ihy =>
    intro an st C lam a Q e st' H' hok h hr hf hq
    unfold exec at h
    unfold codeOk at hok
    simp only [Bool.and_eq_true] at hok
    split at h
    · rename_i v hv
      obtain ⟨s, h0, hk⟩ := bar_some (fun hk => test_to (exec_to hcn n fa x _ _ _ st C.H hk) (exec_to hcn n fa y _ _ _ st C.H hk)) h
      unfold A.test at h0
      cases v with
      | bool b =>
        have hb := (eval_ok hr hf hv).bool_inv
        refine wp_cond hb ?_
        cases b
        · simp only [cond_false] at h0
          have hN := exec_N hcn n fa _ _ _ _ _ _ _ h0
          exact ihy _ _ C lam a Q _ _ _ hok.2 h0 hr hf fun a2 w2 hp2 => hq a2 w2 (hp2.keep fun C lam a hf => hk C lam a hN.symm hf)
        · simp only [cond_true] at h0
          have hN := exec_N hcn n fa _ _ _ _ _ _ _ h0
          exact ihx _ _ C lam a Q _ _ _ hok.1 h0 hr hf fun a2 w2 hp2 => hq a2 w2 (hp2.keep fun C lam a hf => hk C lam a hN.symm hf)
      | _ => cases h0
    · cases h
  | block id c ih =>
    intro an st C lam a Q e st' H' hok h hr hf hq
    unfold exec at h
    unfold codeOk at hok
    obtain ⟨s, h, hk⟩ := bar_some (fun hk => exec_to hcn n fa c _ _ _ st C.H fun e s G => blockK_to hk e s G) h
    obtain ⟨e1, s1, H1, h1, h2⟩ := exec_split hcn h
    have hN := exec_N hcn n fa _ _ _ _ _ _ _ h1
    obtain ⟨rfl, rfl, he⟩ := blockK_some h2
    refine wp_block (ih _ _ C lam a _ e1 _ _ hok h1 hr hf fun a' w' hp => ?_)
    have hp' := hp.keep fun C lam a hf => hk C lam a hN.symm hf
    cases e1 with
    | normal =>
      subst he
      exact hq a' w' hp'
    | exit j =>
      unfold AExit.leave at he
      dsimp only at he
      show (if j = id then _ else _)
      split
      · rw [if_pos (by assumption)] at he
        subst he
        exact hq a' w' hp'
      · rw [if_neg (by assumption)] at he
        subst he
        exact hq a' w' hp'
    | ret =>
      subst he
      exact hq a' w' hp'
  | loop c ih =>
    intro an st C lam a Q e st' H' hok h hr hf hq
    unfold exec at h
    unfold codeOk at hok
    split at h
    · rename_i kp x hx
      split at h
      · rename_i l0 hl0
        obtain ⟨s, h, hk⟩ := bar_some (F := fun S k => iter (fun l H rec => exec E cf n fa c x S (St.ofLive kp st.N l) H (loopK kp rec k)) n l0 C.H)
          (fun hk => by
            refine iter_to ?_ _ _ _
            intro l H r r' hr
            exact exec_to hcn n fa c x _ _ _ H (fun e s G => loopK_to hr hk e s G)) h
        have key : ∀ (m : Nat) (l : Live) (C : Ctx) (lam : Nat → Nat) (a : Act),
            iter (fun l H rec => exec E cf n fa c x _ (St.ofLive kp st.N l) H (loopK kp rec fun e s G => some (e, s, G))) m l C.H = some (e, s, H') → HR E C → FrameR C lam (St.ofLive kp st.N l) a → (∀ a' w', Post E C st' H' a' w' → Q e.to a' w') → Code.rounds E.P c Q m a C.w := by
          intro m
          induction m with
          | zero => intro l C lam a h; cases h
          | succ m ihm =>
            intro l C lam a h hr hf hq
            unfold iter at h
            obtain ⟨e1, s1, H1, h1, h2⟩ := exec_split hcn h
            have hN := exec_N hcn n fa _ _ _ _ _ _ _ h1
            change s1.N = st.N at hN
            refine ih x _ C lam a _ e1 s1 H1 hok h1 hr hf fun a' w' hp => ?_
            rcases loopK_some h2 with ⟨he, l1, hl1, h3⟩ | ⟨he, h3, h4, h5⟩
            · subst he
              obtain ⟨C1, lam1, rfl, rfl, g3, g4, g5⟩ := hp
              have g6 := live_ok g5 hl1
              rw [hN] at g6
              exact ihm _ C1 lam1 a' h3 g3 g6 fun a2 w2 hp2 => hq a2 w2 (hp2.trans g4)
            · subst h3 h4 h5
              have hp' := hp.keep fun C lam a hf => hk C lam a hN.symm hf
              cases e with
              | normal => exact absurd rfl he
              | exit id => exact hq a' w' hp'
              | ret => exact hq a' w' hp'
        exact wp_loop_rounds n (key n _ C lam a h hr (live_ok hf hl0) hq)
      · cases h
    · obtain ⟨s, h, hk⟩ := bar_some (F := fun S k => iter (fun st H rec => exec E cf n fa c an.strip.fst S st H (loopS rec k)) n st C.H)
          (fun hk => by
          refine iter_to ?_ _ _ _
          intro l H r r' hr
          exact exec_to hcn n fa c _ _ _ l H (fun e s G => loopS_to hr hk e s G)) h
      have key : ∀ (m : Nat) (st0 : St) (C : Ctx) (lam : Nat → Nat) (a : Act), st0.N = st.N →
          iter (fun st H rec => exec E cf n fa c an.strip.fst _ st H (loopS rec fun e s G => some (e, s, G))) m st0 C.H = some (e, s, H') → HR E C → FrameR C lam st0 a → (∀ a' w', Post E C st' H' a' w' → Q e.to a' w') → Code.rounds E.P c Q m a C.w := by
        intro m
        induction m with
        | zero => intro l C lam a _ h; cases h
        | succ m ihm =>
          intro st0 C lam a hN0 h hr hf hq
          unfold iter at h
          obtain ⟨e1, s1, H1, h1, h2⟩ := exec_split hcn h
          have hN : s1.N = st.N := (exec_N hcn n fa _ _ _ _ _ _ _ h1).trans hN0
          refine ih _ _ C lam a _ e1 s1 H1 hok h1 hr hf fun a' w' hp => ?_
          rcases loopS_some h2 with ⟨he, h3⟩ | ⟨he, h3, h4, h5⟩
          · subst he
            obtain ⟨C1, lam1, rfl, rfl, g3, g4, g5⟩ := hp
            exact ihm _ C1 lam1 a' hN h3 g3 g5 fun a2 w2 hp2 => hq a2 w2 (hp2.trans g4)
          · subst h3 h4 h5
            have hp' := hp.keep fun C lam a hf => hk C lam a hN.symm hf
            cases e with
            | normal => exact absurd rfl he
            | exit id => exact hq a' w' hp'
            | ret => exact hq a' w' hp'
      exact wp_loop_rounds n (key n _ C lam a rfl h hr hf hq)
  | scope c ih =>
    intro an st C lam a Q e st' H' hok h hr hf hq
    unfold exec at h
    unfold codeOk at hok
    obtain ⟨s, h, hk⟩ := bar_some (fun hk => exec_to hcn n fa c _ _ _ st C.H hk) h
    have hN := exec_N hcn n fa _ _ _ _ _ _ _ h
    refine wp_scope_straight (ih _ _ C lam a _ _ s _ hok h hr hf fun a' w' hp => ?_)
    have hp' := hp.keep fun C lam a hf => hk C lam a hN.symm hf
    cases e <;> exact hq a' w' hp'
  | rangeFunc _ _ _ _ _ _ => intro an st C lam a Q e st' H' hok h; cases h
  | goto _ => intro an st C lam a Q e st' H' hok h; cases h
  | refuse _ => intro an st C lam a Q e st' H' hok h; cases h

end
end Go.Den
