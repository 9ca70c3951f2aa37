/- Texts put together: DenU, DenX, DenV, DenW, DenY, DenZ, DenZa. -/
import Derived.Test.YtikkpecdkdgmfaaDoorMd
import Derived.Scope
import Derived.LoopN
import Derived.Orders

/- DEN, part U: control. -/
namespace Go.Den
open Go.RowKit

def AExit.to : AExit → Exit
  | .normal => .normal
  | .exit id => .exit id
  | .ret => .ret

/-- What stands of regions whose order is open. -/
def DrawOK (E : Env) (cf : CallFn) (fa : FAnn) (ok : Nat → Array Oper → DInfo → Bool) : Prop :=
  ∀ (rid : Nat) (ops : Array Oper) (d : DInfo) (st : St) (C : Ctx) (lam : Nat → Nat) (a : Act) (st' : St) (H' : Heap) (Q : Exit → Act → World → Prop), ok rid ops d = true →
    opsD E cf fa.sites d rid ops C.H ops.toList 0 [] st C.H (fun s G => some (s, G)) = some (st', H') → HR E C → FrameR C lam st a → (∀ a' w', Post E C st' H' a' w' → Q .normal a' w') →
      (Code.region rid ops true).wp E.P Q a C.w

/-- The regions whose order is open, of which something is said, are well described. -/
def codeOk (draws : List (Nat × DInfo)) (ok : Nat → Array Oper → DInfo → Bool) : Code → Bool
  | .region rid ops draw => bif draw then (match drawOf rid draws with | some d => ok rid ops d | none => true) else true
  | .seq a b => codeOk draws ok a && codeOk draws ok b
  | .cond _ a b => codeOk draws ok a && codeOk draws ok b
  | .block _ c => codeOk draws ok c
  | .loop c => codeOk draws ok c
  | .scope c => codeOk draws ok c
  | _ => true

section
variable {E : Env} {cf : CallFn} {C C' : Ctx} {lam : Nat → Nat} {st : St} {a : Act} {Q : Exit → Act → World → Prop} {st' : St} {H' : Heap}

theorem zipVars_mem {cs : List (List AV)} : ∀ {is : List Nat} {j i : Nat} {x : Option (List AV)}, (i, x) ∈ zipVars cs is j → ∃ m, is[m]? = some i ∧ x = some (cs.getD (j + m) [])
  | [], _, _, _, h => by cases h
  | a :: is, j, i, x, h => by
    unfold zipVars at h
    rcases List.mem_cons.1 h with e | h
    · injection e with e1 e2
      exact ⟨0, by rw [e1]; rfl, e2⟩
    · obtain ⟨m, h1, h2⟩ := zipVars_mem h
      exact ⟨m + 1, by simpa using h1, by rw [h2, show j + 1 + m = j + (m + 1) by omega]⟩
theorem zipVals_mem {vs : List AV} : ∀ {is : List Nat} {j i : Nat} {x : SV}, (i, x) ∈ zipVals vs is j → ∃ m, is[m]? = some i ∧ x = .val (vs.getD (j + m) .undef)
  | [], _, _, _, h => by cases h
  | a :: is, j, i, x, h => by
    unfold zipVals at h
    rcases List.mem_cons.1 h with e | h
    · injection e with e1 e2
      exact ⟨0, by rw [e1]; rfl, e2⟩
    · obtain ⟨m, h1, h2⟩ := zipVals_mem h
      exact ⟨m + 1, by simpa using h1, by rw [h2, show j + 1 + m = j + (m + 1) by omega]⟩
theorem varsOf_get {st : St} : ∀ {is : List Nat} {cs : List (List AV)}, varsOf st is = some cs → ∀ {m i : Nat}, is[m]? = some i → st.var i = some (cs.getD m [])
  | [], _, _, m, i, hi => by simp at hi
  | a :: is, cs, h, m, i, hi => by
    unfold varsOf at h
    split at h
    · rename_i c hc
      split at h
      · rename_i l hl
        injection h with h
        subst h
        cases m with
        | zero =>
          simp only [List.length_cons, Nat.zero_lt_succ, List.getElem?_cons_zero, Option.some.injEq] at hi
          subst hi
          exact hc
        | succ m =>
          simp only [List.getElem?_cons_succ] at hi
          have := varsOf_get hl hi
          simpa using this
      · cases h
    · cases h
theorem lpsOk_get {st : St} : ∀ {l : List (Nat × Nat × Nat)}, lpsOk st l = true → ∀ {t s o : Nat}, (t, s, o) ∈ l → st.get t = .lp s o
  | [], _, _, _, _, h => by cases h
  | (t0, s0, o0) :: l, h, t, s, o, hm => by
    unfold lpsOk at h
    simp only [Bool.and_eq_true] at h
    rcases List.mem_cons.1 hm with e | hm
    · injection e with e1 e2
      injection e2 with e2 e3
      subst e1 e2 e3
      have := h.1
      split at this
      · rename_i s' o' hg
        simp only [Bool.and_eq_true] at this
        rw [hg, Nat.eq_of_beq_eq_true this.1, Nat.eq_of_beq_eq_true this.2]
      · cases this
    · exact lpsOk_get h.2 hm

theorem live_ok (hf : FrameR C lam st a) {k : LK} {l : Live} (h : st.live k = some l) : FrameR C lam (St.ofLive k st.N l) a := by
  unfold St.live at h
  have hlp : lpsOk st k.lps = true := by
    cases hb : lpsOk st k.lps
    · rw [hb] at h; cases h
    · rfl
  rw [hlp] at h
  simp only [cond_true] at h
  split at h
  · rename_i cs hcs
    injection h with h
    subst h
    have hvar : ∀ s c, (St.ofLive k st.N ⟨k.vals.map fun i => valOf (st.get i), cs⟩).var s = some c → st.var s = some c := fun s c hs => by
      have h' : Tr.get none (Tr.mk none k.d (zipVars cs k.vars 0)) s = some c := hs
      rcases Tr.get_mk (z := (none : Option (List AV))) (d := k.d) (zipVars cs k.vars 0) s with h1 | h1
      · rw [h1] at h'; cases h'
      · obtain ⟨m, h2, h3⟩ := zipVars_mem h1
        rw [h3] at h'
        rw [← h', varsOf_get hcs h2, Nat.zero_add]
    refine ⟨hf.size, hf.defers, fun t => ?_, fun s c hs => hf.vars s c (hvar s c hs)⟩
    have hg : (St.ofLive k st.N ⟨k.vals.map fun i => valOf (st.get i), cs⟩).get t = Tr.get .no (Tr.mk .no k.d (zipVals (k.vals.map fun i => valOf (st.get i)) k.vals 0 ++ k.lps.map fun p => (p.1, (SV.lp p.2.1 p.2.2).kept (k.L ⟨k.vals.map fun i => valOf (st.get i), cs⟩)))) t := rfl
    unfold SlotOk
    rcases Tr.get_mk (z := SV.no) (d := k.d) (zipVals (k.vals.map fun i => valOf (st.get i)) k.vals 0 ++ k.lps.map fun p => (p.1, (SV.lp p.2.1 p.2.2).kept (k.L ⟨k.vals.map fun i => valOf (st.get i), cs⟩))) t with h1 | h1
    · rw [hg, h1]
      trivial
    · rcases List.mem_append.1 h1 with h2 | h2
      · obtain ⟨m, h3, h4⟩ := zipVals_mem h2
        rw [hg, h4]
        dsimp only
        rw [Nat.zero_add, List.getD_eq_getElem?_getD, List.getElem?_map, h3]
        simp only [Option.map_some, Option.getD_some]
        have ht := hf.slots t
        unfold SlotOk at ht
        cases hx : st.get t with
        | val v => rw [hx] at ht; exact ht
        | lp _ _ => exact .undef _
        | no => exact .undef _
      · obtain ⟨⟨t0, s0, o0⟩, h3, h4⟩ := List.mem_map.1 h2
        injection h4 with h4 h5
        subst h4
        rw [hg, ← h5]
        have ht := hf.slots t0
        unfold SlotOk at ht
        rw [lpsOk_get hlp h3] at ht
        dsimp only at ht
        unfold SV.kept
        dsimp only
        cases hv : (k.L ⟨k.vals.map fun i => valOf (st.get i), cs⟩).get none s0 with
        | none => trivial
        | some c =>
          refine ⟨ht.1, ?_⟩
          show (k.L ⟨k.vals.map fun i => valOf (st.get i), cs⟩).get none s0 ≠ none
          rw [hv]
          simp
  · cases h

theorem AExit.is_eq {e x : AExit} (h : e.is x = true) : e = x := by
  cases e <;> cases x <;> first | rfl | (cases h; done) | skip
  rw [Nat.eq_of_beq_eq_true h]

theorem pickK_idx {R : Type} {k : AExit → Option R} {e : AExit} {i : Nat} : ∀ {outs : List AExit} {j : Nat}, idxOf e outs j = some i → j ≤ i ∧ pickK k i outs j = k e
  | [], _, h => by cases h
  | x :: r, j, h => by
    unfold idxOf at h
    cases hx : e.is x
    · rw [hx] at h
      simp only [cond_false] at h
      obtain ⟨h1, h2⟩ := pickK_idx (k := k) h
      refine ⟨by omega, ?_⟩
      unfold pickK
      have : Nat.beq i j = false := by
        cases hb : Nat.beq i j
        · rfl
        · have := Nat.eq_of_beq_eq_true hb
          omega
      rw [this]
      exact h2
    · rw [hx] at h
      simp only [cond_true, Option.some.injEq] at h
      subst h
      refine ⟨Nat.le_refl _, ?_⟩
      unfold pickK
      rw [show Nat.beq j j = true from Nat.beq_refl j, AExit.is_eq hx]
      rfl

/-- Behind a piece with a barrier. -/
theorem bar_some {F : (S : Type) → (AExit → St → Heap → Option S) → Option S} (hF : FNat F) {an : Ann} {N : Nat} {e : AExit} (h : bar an N F (fun e s G => some (e, s, G)) = some (e, st', H')) :
    ∃ s, F _ (fun e s G => some (e, s, G)) = some (e, s, H') ∧ ∀ C lam a, N = s.N → FrameR C lam s a → FrameR C lam st' a := by
  unfold bar at h
  split at h
  · rename_i kp outs x
    rw [hF (k := pairL kp outs) (g := fun e s G => some (e, s, G)) (h := fun p => pairL kp outs p.1 p.2.1 p.2.2) (fun _ _ _ => rfl)] at h
    cases hx : F _ (fun e s G => some (e, s, G)) with
    | none => rw [hx] at h; cases h
    | some p =>
      obtain ⟨e1, s1, G1⟩ := p
      rw [hx] at h
      simp only [Option.bind_some] at h
      unfold pairL at h
      cases hi : idxOf e1 outs 0 with
      | none => simp only [hi] at h; cases h
      | some i =>
        cases hl : s1.live kp with
        | none => simp only [hi, hl] at h; cases h
        | some l =>
          simp only [hi, hl, bindX] at h
          rw [(pickK_idx hi).2] at h
          simp only [Option.some.injEq, Prod.mk.injEq] at h
          obtain ⟨rfl, rfl, rfl⟩ := h
          exact ⟨s1, rfl, fun C lam a hN hf => by rw [hN]; exact live_ok hf hl⟩
  · exact ⟨st', h, fun C lam a _ hf => hf⟩

theorem Post.keep {s : St} {G : Heap} {a1 : Act} {w1 : World} (hk : ∀ C lam a, FrameR C lam s a → FrameR C lam st' a) (h : Post E C s G a1 w1) : Post E C st' G a1 w1 := by
  obtain ⟨C2, lam2, h1, h2, h3, h4, h5⟩ := h
  exact ⟨C2, lam2, h1, h2, h3, h4, hk _ _ _ h5⟩

/-- What goes on is told apart from what was done. -/
theorem exec_nat (hcn : CNat cf) {R : Type} (n : Nat) (fa : FAnn) (c : Code) (an : Ann) (st : St) (H : Heap) (k : AExit → St → Heap → Option R) :
    exec E cf n fa c an R st H k = (exec E cf n fa c an _ st H fun e s G => some (e, s, G)).bind fun p => k p.1 p.2.1 p.2.2 :=
  exec_to hcn n fa c an _ _ st H fun _ _ _ => rfl

theorem exec_split (hcn : CNat cf) {R : Type} {n : Nat} {fa : FAnn} {c : Code} {an : Ann} {st : St} {H : Heap} {k : AExit → St → Heap → Option R} {r : R} (h : exec E cf n fa c an R st H k = some r) :
    ∃ e s G, exec E cf n fa c an _ st H (fun e s G => some (e, s, G)) = some (e, s, G) ∧ k e s G = some r := by
  rw [exec_nat hcn] at h
  simp only [Option.bind_eq_some_iff] at h
  obtain ⟨⟨e, s, G⟩, h1, h2⟩ := h
  exact ⟨e, s, G, h1, h2⟩

theorem op_N (hcn : CNat cf) {o : Oper} {site : Option Nat} {x : SV} {H : Heap} (h : opK E cf site o st H (fun x s G => some (x, s, G)) = some (x, st', H')) : st'.N = st.N := by
  have fin : ∀ {y : SV} {s : St} {G : Heap}, s.N = st.N → (some (y, s, G) : Option (SV × St × Heap)) = some (x, st', H') → st'.N = st.N := fun hs h => by
    simp only [Option.some.injEq, Prod.mk.injEq] at h
    rw [← h.2.1]
    exact hs
  have wfin : ∀ {v : Option AV} {G : Heap}, withV v (fun v => some (SV.val v, st, G)) = some (x, st', H') → st'.N = st.N := fun h => by
    obtain ⟨v, _, h⟩ := withV_some h
    exact fin rfl h
  have lfin : ∀ {s : Nat} {cs : List AV} {G : Heap}, layK s cs st G (fun x s G => some (x, s, G)) = some (x, st', H') → st'.N = st.N := fun h => by
    unfold layK at h
    split at h
    · split at h
      · refine fin ?_ h
        rfl
      · cases h
    · cases h
  by_cases hk : ∀ s, touchOf st site o ≠ some (s, true)
  · rw [op_keeps' hcn hk h]
  · have hk : ∃ s, touchOf st site o = some (s, true) := by
      rcases Classical.em (∃ s, touchOf st site o = some (s, true)) with h1 | h1
      · exact h1
      · exact absurd (fun s e => h1 ⟨s, e⟩) hk
    obtain ⟨s, hs⟩ := hk
    unfold opK at h
    unfold touchOf at hs
    cases ho : o.op <;> simp only [ho] at h hs
    case alloc t =>
      cases site with
      | none => cases hs
      | some s =>
        split at h
        · exact lfin (bif_some h)
        · cases h
    case box t y =>
      cases site with
      | none => cases hs
      | some s =>
        split at h
        · exact lfin (bif_some h)
        · cases h
    case store t y z =>
      split at h
      · cases y with
        | tmp q =>
          dsimp only at h hs
          split at h
          · split at h
            · refine fin ?_ (bif_some h)
              rfl
            · cases h
          · split at h
            · exact fin rfl h
            · cases h
          · cases h
        | _ => cases h
      · cases h
    case load t y =>
      cases y with
      | tmp q =>
        dsimp only at hs
        split at hs
        · cases hs
        · cases hs
      | _ => cases hs
    all_goals cases hs

theorem stPut_N {st : St} {d : Option Tmp} {x : SV} : (stPut st d x).N = st.N := by
  cases d with
  | none => rfl
  | some t =>
    show (if t < st.N then st.put t x else st).N = st.N
    split <;> rfl

theorem opsK_N (hcn : CNat cf) (sites : List (Nat × Nat × Nat)) (rid : Nat) (ops : Array Oper) : ∀ (l : List Oper) (i : Nat) (st : St) (H : Heap),
    opsK E cf sites rid ops l i st H (fun s G => some (s, G)) = some (st', H') → st'.N = st.N := by
  intro l
  induction l with
  | nil =>
    intro i st H h
    simp only [opsK, Option.some.injEq, Prod.mk.injEq] at h
    rw [h.1]
  | cons o l ih =>
    intro i st H h
    unfold opsK at h
    split at h
    · rw [opK_nat hcn] at h
      simp only [Option.bind_eq_some_iff] at h
      obtain ⟨⟨x, st1, H1⟩, h1, h2⟩ := h
      rw [ih _ _ _ h2, stPut_N, op_N hcn h1]
    · split at h
      · split at h
        · rw [ih _ _ _ h, stPut_N]
        · cases h
      · cases h

theorem opsD_N (hcn : CNat cf) (sites : List (Nat × Nat × Nat)) (d : DInfo) (rid : Nat) (ops : Array Oper) (H0 : Heap) : ∀ (l : List Oper) (i : Nat) (tr : List Rec) (st : St) (H : Heap),
    opsD E cf sites d rid ops H0 l i tr st H (fun s G => some (s, G)) = some (st', H') → st'.N = st.N := by
  intro l
  induction l with
  | nil =>
    intro i tr st H h
    have h := bif_some h
    simp only [Option.some.injEq, Prod.mk.injEq] at h
    rw [h.1]
  | cons o l ih =>
    intro i tr st H h
    unfold opsD at h
    split at h
    · rw [opK_nat hcn] at h
      simp only [Option.bind_eq_some_iff] at h
      obtain ⟨⟨x, st1, H1⟩, h1, h2⟩ := h
      rw [ih _ _ _ _ h2, stPut_N, op_N hcn h1]
    · split at h
      · split at h
        · rw [ih _ _ _ _ h, stPut_N]
        · cases h
      · cases h

/-- A piece leaves as many slots. -/
def FN (N : Nat) (F : (S : Type) → (AExit → St → Heap → Option S) → Option S) : Prop :=
  ∀ e s G, F _ (fun e s G => some (e, s, G)) = some (e, s, G) → s.N = N

theorem pickK_N {kp : LK} {N : Nat} {l : Live} {G : Heap} {i : Nat} {e : AExit} : ∀ {outs : List AExit} {j : Nat}, pickK (fun e => some (e, St.ofLive kp N l, G)) i outs j = some (e, st', H') → st'.N = N
  | [], _, h => by cases h
  | x :: r, j, h => by
    unfold pickK at h
    cases hb : Nat.beq i j
    · rw [hb] at h
      exact pickK_N h
    · rw [hb] at h
      simp only [cond_true, Option.some.injEq, Prod.mk.injEq] at h
      rw [← h.2.1]
      rfl

theorem bar_N {F : (S : Type) → (AExit → St → Heap → Option S) → Option S} {N : Nat} (hF : FN N F) {an : Ann} {e : AExit} (h : bar an N F (fun e s G => some (e, s, G)) = some (e, st', H')) : st'.N = N := by
  unfold bar at h
  split at h
  · unfold bindX at h
    split at h
    · exact pickK_N h
    · cases h
  · exact hF _ _ _ h

theorem loopK_some {kp : LK} {rec : Live → Heap → Option (AExit × St × Heap)} {e e' : AExit} {s : St} {G : Heap} (h : loopK kp rec (fun e s G => some (e, s, G)) e s G = some (e', st', H')) :
    (e = .normal ∧ ∃ l, s.live kp = some l ∧ rec l G = some (e', st', H')) ∨ (e ≠ .normal ∧ e' = e ∧ st' = s ∧ H' = G) := by
  cases e with
  | normal =>
    unfold loopK at h
    dsimp only at h
    split at h
    · rename_i l hl
      exact .inl ⟨rfl, l, hl, h⟩
    · cases h
  | exit j =>
    injection h with h
    simp only [Prod.mk.injEq] at h
    exact .inr ⟨by simp, h.1.symm, h.2.1.symm, h.2.2.symm⟩
  | ret =>
    injection h with h
    simp only [Prod.mk.injEq] at h
    exact .inr ⟨by simp, h.1.symm, h.2.1.symm, h.2.2.symm⟩

theorem loopS_some {rec : St → Heap → Option (AExit × St × Heap)} {e e' : AExit} {s : St} {G : Heap} (h : loopS rec (fun e s G => some (e, s, G)) e s G = some (e', st', H')) :
    (e = .normal ∧ rec s G = some (e', st', H')) ∨ (e ≠ .normal ∧ e' = e ∧ st' = s ∧ H' = G) := by
  cases e with
  | normal => exact .inl ⟨rfl, h⟩
  | exit j =>
    injection h with h
    simp only [Prod.mk.injEq] at h
    exact .inr ⟨by simp, h.1.symm, h.2.1.symm, h.2.2.symm⟩
  | ret =>
    injection h with h
    simp only [Prod.mk.injEq] at h
    exact .inr ⟨by simp, h.1.symm, h.2.1.symm, h.2.2.symm⟩

theorem seqK_some {next : St → Heap → Option (AExit × St × Heap)} {e e' : AExit} {s : St} {G : Heap} (h : seqK next (fun e s G => some (e, s, G)) e s G = some (e', st', H')) :
    (e = .normal ∧ next s G = some (e', st', H')) ∨ (e ≠ .normal ∧ e' = e ∧ st' = s ∧ H' = G) := loopS_some h

def AExit.leave (id : Nat) : AExit → AExit
  | .normal => .normal
  | .exit j => if j = id then .normal else .exit j
  | .ret => .ret

theorem blockK_some {id : Nat} {e e' : AExit} {s : St} {G : Heap} (h : blockK id (fun e s G => some (e, s, G)) e s G = some (e', st', H')) :
    st' = s ∧ H' = G ∧ e' = e.leave id := by
  cases e with
  | normal =>
    injection h with h
    simp only [Prod.mk.injEq] at h
    exact ⟨h.2.1.symm, h.2.2.symm, h.1.symm⟩
  | exit j =>
    unfold blockK at h
    dsimp only at h
    cases hj : Nat.beq j id
    · rw [hj] at h
      simp only [cond_false, Option.some.injEq, Prod.mk.injEq] at h
      refine ⟨h.2.1.symm, h.2.2.symm, ?_⟩
      unfold AExit.leave
      dsimp only
      rw [if_neg (by intro e; subst e; simp at hj)]
      exact h.1.symm
    · rw [hj] at h
      simp only [cond_true, Option.some.injEq, Prod.mk.injEq] at h
      refine ⟨h.2.1.symm, h.2.2.symm, ?_⟩
      unfold AExit.leave
      dsimp only
      rw [if_pos (Nat.eq_of_beq_eq_true hj)]
      exact h.1.symm
  | ret =>
    injection h with h
    simp only [Prod.mk.injEq] at h
    exact ⟨h.2.1.symm, h.2.2.symm, h.1.symm⟩

theorem exec_N (hcn : CNat cf) (n : Nat) (fa : FAnn) : ∀ (c : Code) (an : Ann) (st : St) (H : Heap) (e : AExit) (st' : St) (H' : Heap),
    exec E cf n fa c an _ st H (fun e s G => some (e, s, G)) = some (e, st', H') → st'.N = st.N := by
  intro c
  induction c with
  | skip => intro an st H e st' H' h; injection h with h; simp only [Prod.mk.injEq] at h; rw [← h.2.1]
  | label _ => intro an st H e st' H' h; injection h with h; simp only [Prod.mk.injEq] at h; rw [← h.2.1]
  | exit _ => intro an st H e st' H' h; injection h with h; simp only [Prod.mk.injEq] at h; rw [← h.2.1]
  | ret => intro an st H e st' H' h; injection h with h; simp only [Prod.mk.injEq] at h; rw [← h.2.1]
  | region rid ops draw =>
    intro an st H e st' H' h
    unfold exec at h
    cases draw
    · simp only [cond_false] at h
      rw [opsK_to hcn _ _ _ _ _ _ _ (k := fun s G => some (AExit.normal, s, G)) (g := fun s G => some (s, G)) (h := fun p => some (AExit.normal, p.1, p.2)) (fun _ _ => rfl)] at h
      simp only [Option.bind_eq_some_iff] at h
      obtain ⟨⟨s1, H1⟩, h1, h2⟩ := h
      injection h2 with h2
      simp only [Prod.mk.injEq] at h2
      rw [← h2.2.1]
      exact opsK_N hcn _ _ _ _ _ _ _ h1
    · simp only [cond_true] at h
      split at h
      · rw [opsD_to hcn _ _ _ _ _ _ _ _ _ _ (k := fun s G => some (AExit.normal, s, G)) (g := fun s G => some (s, G)) (h := fun p => some (AExit.normal, p.1, p.2)) (fun _ _ => rfl)] at h
        simp only [Option.bind_eq_some_iff] at h
        obtain ⟨⟨s1, H1⟩, h1, h2⟩ := h
        injection h2 with h2
        simp only [Prod.mk.injEq] at h2
        rw [← h2.2.1]
        exact opsD_N hcn _ _ _ _ _ _ _ _ _ _ h1
      · cases h
  | seq a b iha ihb =>
    intro an st H e st' H' h
    unfold exec at h
    refine bar_N (fun e s G h => ?_) h
    obtain ⟨e1, s1, H1, h1, h2⟩ := exec_split hcn h
    have hN := iha _ _ _ _ _ _ h1
    rcases seqK_some h2 with ⟨_, h3⟩ | ⟨_, _, h3, _⟩
    · rw [ihb _ _ _ _ _ _ h3, hN]
    · rw [h3, hN]
  | cond c x y ihx ihy =>
    intro an st H e st' H' h
    unfold exec at h
    split at h
    · rename_i v hv
      refine bar_N (fun e s G h0 => ?_) h
      unfold A.test at h0
      cases v with
      | bool b =>
        cases b
        · exact ihy _ _ _ _ _ _ h0
        · exact ihx _ _ _ _ _ _ h0
      | _ => cases h0
    · cases h
  | block id c ih =>
    intro an st H e st' H' h
    unfold exec at h
    refine bar_N (fun e s G h => ?_) h
    obtain ⟨e1, s1, H1, h1, h2⟩ := exec_split hcn h
    rw [(blockK_some h2).1, ih _ _ _ _ _ _ h1]
  | loop c ih =>
    intro an st H e st' H' h
    unfold exec at h
    split at h
    · rename_i kp x hx
      split at h
      · refine bar_N (fun e s G h0 => ?_) h
        have key : ∀ (m : Nat) (l : Live) (H : Heap), iter (fun l H rec => exec E cf n fa c x _ (St.ofLive kp st.N l) H (loopK kp rec fun e s G => some (e, s, G))) m l H = some (e, s, G) → s.N = st.N := by
          intro m
          induction m with
          | zero => intro l H h1; cases h1
          | succ m ihm =>
            intro l H h1
            unfold iter at h1
            obtain ⟨e1, s1, H1, h2, h3⟩ := exec_split hcn h1
            rcases loopK_some h3 with ⟨_, l1, _, h4⟩ | ⟨_, _, h4, _⟩
            · exact ihm _ _ h4
            · rw [h4]
              have hx := ih _ _ _ _ _ _ h2
              exact hx
        exact key _ _ _ h0
      · cases h
    · refine bar_N (fun e s G h0 => ?_) h
      have key : ∀ (m : Nat) (s0 : St) (H : Heap), s0.N = st.N → iter (fun st H rec => exec E cf n fa c an.strip.fst _ st H (loopS rec fun e s G => some (e, s, G))) m s0 H = some (e, s, G) → s.N = st.N := by
        intro m
        induction m with
        | zero => intro l H _ h1; cases h1
        | succ m ihm =>
          intro s0 H hs0 h1
          unfold iter at h1
          obtain ⟨e1, s1, H1, h2, h3⟩ := exec_split hcn h1
          have hN := ih _ _ _ _ _ _ h2
          rcases loopS_some h3 with ⟨_, h4⟩ | ⟨_, _, h4, _⟩
          · exact ihm _ _ (hN.trans hs0) h4
          · rw [h4, hN, hs0]
      exact key _ _ _ rfl h0
  | scope c ih =>
    intro an st H e st' H' h
    unfold exec at h
    refine bar_N (fun e s G h => ?_) h
    exact ih _ _ _ _ _ _ h
  | rangeFunc _ _ _ _ _ _ => intro an st H e st' H' h; cases h
  | goto _ => intro an st H e st' H' h; cases h
  | refuse _ => intro an st H e st' H' h; cases h

theorem exec_sound (hcn : CNat cf) (hck : CallKOK E cf) (n : Nat) (fa : FAnn) {ok : Nat → Array Oper → DInfo → Bool} (hD : DrawOK E cf fa ok) :
    ∀ (c : Code) (an : Ann) (st : St) (C : Ctx) (lam : Nat → Nat) (a : Act) (Q : Exit → Act → World → Prop) (e : AExit) (st' : St) (H' : Heap), codeOk fa.draws ok c = true →
      exec E cf n fa c an _ st C.H (fun e s G => some (e, s, G)) = some (e, st', H') → HR E C → FrameR C lam st a → (∀ a' w', Post E C st' H' a' w' → Q e.to a' w') → c.wp E.P Q a C.w := by
  intro c
  induction c with
  | skip =>
    intro an st C lam a Q e st' H' hok h hr hf hq
    injection h with h
    simp only [Prod.mk.injEq] at h
    obtain ⟨rfl, rfl, rfl⟩ := h
    exact wp_skip (hq _ _ ⟨C, lam, rfl, rfl, hr, Ev.refl C, hf⟩)
  | label l =>
    intro an st C lam a Q e st' H' hok h hr hf hq
    injection h with h
    simp only [Prod.mk.injEq] at h
    obtain ⟨rfl, rfl, rfl⟩ := h
    exact wp_label (hq _ _ ⟨C, lam, rfl, rfl, hr, Ev.refl C, hf⟩)
  | exit id =>
    intro an st C lam a Q e st' H' hok h hr hf hq
    injection h with h
    simp only [Prod.mk.injEq] at h
    obtain ⟨rfl, rfl, rfl⟩ := h
    exact wp_exit (hq _ _ ⟨C, lam, rfl, rfl, hr, Ev.refl C, hf⟩)
  | ret =>
    intro an st C lam a Q e st' H' hok h hr hf hq
    injection h with h
    simp only [Prod.mk.injEq] at h
    obtain ⟨rfl, rfl, rfl⟩ := h
    exact wp_ret (hq _ _ ⟨C, lam, rfl, rfl, hr, Ev.refl C, hf⟩)
  | region rid ops draw =>
    intro an st C lam a Q e st' H' hok h hr hf hq
    unfold exec at h
    cases draw
    · simp only [cond_false] at h
      rw [opsK_to hcn _ _ _ _ _ _ _ (k := fun s G => some (AExit.normal, s, G)) (g := fun s G => some (s, G)) (h := fun p => some (AExit.normal, p.1, p.2)) (fun _ _ => rfl)] at h
      simp only [Option.bind_eq_some_iff] at h
      obtain ⟨⟨s1, H1⟩, h1, h2⟩ := h
      injection h2 with h2
      simp only [Prod.mk.injEq] at h2
      obtain ⟨rfl, rfl, rfl⟩ := h2
      exact wp_region_list (opsK_sound hcn hck _ _ _ _ _ _ C lam a h1 hr hf fun a' w' hp => hq a' w' hp)
    · simp only [cond_true] at h
      unfold codeOk at hok
      simp only [cond_true] at hok
      split at h
      · rename_i d hd
        rw [hd] at hok
        rw [opsD_to hcn _ _ _ _ _ _ _ _ _ _ (k := fun s G => some (AExit.normal, s, G)) (g := fun s G => some (s, G)) (h := fun p => some (AExit.normal, p.1, p.2)) (fun _ _ => rfl)] at h
        simp only [Option.bind_eq_some_iff] at h
        obtain ⟨⟨s1, H1⟩, h1, h2⟩ := h
        injection h2 with h2
        simp only [Prod.mk.injEq] at h2
        obtain ⟨rfl, rfl, rfl⟩ := h2
        exact hD rid ops d st C lam a _ _ Q hok h1 hr hf fun a' w' hp => hq a' w' hp
      · cases h
  | seq x y ihx ihy =>
    intro an st C lam a Q e st' H' hok h hr hf hq
    unfold exec at h
    unfold codeOk at hok
    simp only [Bool.and_eq_true] at hok
    obtain ⟨s, h, hk⟩ := bar_some (fun hk => exec_to hcn n fa x _ _ _ st C.H fun e s G => seqK_to (fun s G => exec_to hcn n fa y _ _ _ s G hk) hk e s G) h
    obtain ⟨e1, s1, H1, h1, h2⟩ := exec_split hcn h
    have hN1 := exec_N hcn n fa _ _ _ _ _ _ _ h1
    refine wp_seq (ihx _ _ C lam a _ e1 s1 H1 hok.1 h1 hr hf fun a' w' hp => ?_)
    rcases seqK_some h2 with ⟨he, h3⟩ | ⟨he, h3, h4, h5⟩
    · subst he
      have hN2 := exec_N hcn n fa _ _ _ _ _ _ _ h3
      obtain ⟨C1, lam1, rfl, rfl, g3, g4, g5⟩ := hp
      exact ihy _ _ C1 lam1 a' Q _ _ _ hok.2 h3 g3 g5 fun a2 w2 hp2 => hq a2 w2 ((hp2.keep fun C lam a hf => hk C lam a (by rw [hN2, hN1]) hf).trans g4)
    · subst h3 h4 h5
      have hp' := hp.keep fun C lam a hf => hk C lam a hN1.symm hf
      cases e with
      | normal => exact absurd rfl he
      | exit id => exact hq a' w' hp'
      | ret => exact hq a' w' hp'
  | cond c x y ihx ihy =>
    intro an st C lam a Q e st' H' hok h hr hf hq
    unfold exec at h
    unfold codeOk at hok
    simp only [Bool.and_eq_true] at hok
    split at h
    · rename_i v hv
      obtain ⟨s, h0, hk⟩ := bar_some (fun hk => test_to (exec_to hcn n fa x _ _ _ st C.H hk) (exec_to hcn n fa y _ _ _ st C.H hk)) h
      unfold A.test at h0
      cases v with
      | bool b =>
        have hb := (eval_ok hr hf hv).bool_inv
        refine wp_cond hb ?_
        cases b
        · simp only [cond_false] at h0
          have hN := exec_N hcn n fa _ _ _ _ _ _ _ h0
          exact ihy _ _ C lam a Q _ _ _ hok.2 h0 hr hf fun a2 w2 hp2 => hq a2 w2 (hp2.keep fun C lam a hf => hk C lam a hN.symm hf)
        · simp only [cond_true] at h0
          have hN := exec_N hcn n fa _ _ _ _ _ _ _ h0
          exact ihx _ _ C lam a Q _ _ _ hok.1 h0 hr hf fun a2 w2 hp2 => hq a2 w2 (hp2.keep fun C lam a hf => hk C lam a hN.symm hf)
      | _ => cases h0
    · cases h
  | block id c ih =>
    intro an st C lam a Q e st' H' hok h hr hf hq
    unfold exec at h
    unfold codeOk at hok
    obtain ⟨s, h, hk⟩ := bar_some (fun hk => exec_to hcn n fa c _ _ _ st C.H fun e s G => blockK_to hk e s G) h
    obtain ⟨e1, s1, H1, h1, h2⟩ := exec_split hcn h
    have hN := exec_N hcn n fa _ _ _ _ _ _ _ h1
    obtain ⟨rfl, rfl, he⟩ := blockK_some h2
    refine wp_block (ih _ _ C lam a _ e1 _ _ hok h1 hr hf fun a' w' hp => ?_)
    have hp' := hp.keep fun C lam a hf => hk C lam a hN.symm hf
    cases e1 with
    | normal =>
      subst he
      exact hq a' w' hp'
    | exit j =>
      unfold AExit.leave at he
      dsimp only at he
      show (if j = id then _ else _)
      split
      · rw [if_pos (by assumption)] at he
        subst he
        exact hq a' w' hp'
      · rw [if_neg (by assumption)] at he
        subst he
        exact hq a' w' hp'
    | ret =>
      subst he
      exact hq a' w' hp'
  | loop c ih =>
    intro an st C lam a Q e st' H' hok h hr hf hq
    unfold exec at h
    unfold codeOk at hok
    split at h
    · rename_i kp x hx
      split at h
      · rename_i l0 hl0
        obtain ⟨s, h, hk⟩ := bar_some (F := fun S k => iter (fun l H rec => exec E cf n fa c x S (St.ofLive kp st.N l) H (loopK kp rec k)) n l0 C.H)
          (fun hk => by
            refine iter_to ?_ _ _ _
            intro l H r r' hr
            exact exec_to hcn n fa c x _ _ _ H (fun e s G => loopK_to hr hk e s G)) h
        have key : ∀ (m : Nat) (l : Live) (C : Ctx) (lam : Nat → Nat) (a : Act),
            iter (fun l H rec => exec E cf n fa c x _ (St.ofLive kp st.N l) H (loopK kp rec fun e s G => some (e, s, G))) m l C.H = some (e, s, H') → HR E C → FrameR C lam (St.ofLive kp st.N l) a → (∀ a' w', Post E C st' H' a' w' → Q e.to a' w') → Code.rounds E.P c Q m a C.w := by
          intro m
          induction m with
          | zero => intro l C lam a h; cases h
          | succ m ihm =>
            intro l C lam a h hr hf hq
            unfold iter at h
            obtain ⟨e1, s1, H1, h1, h2⟩ := exec_split hcn h
            have hN := exec_N hcn n fa _ _ _ _ _ _ _ h1
            change s1.N = st.N at hN
            refine ih x _ C lam a _ e1 s1 H1 hok h1 hr hf fun a' w' hp => ?_
            rcases loopK_some h2 with ⟨he, l1, hl1, h3⟩ | ⟨he, h3, h4, h5⟩
            · subst he
              obtain ⟨C1, lam1, rfl, rfl, g3, g4, g5⟩ := hp
              have g6 := live_ok g5 hl1
              rw [hN] at g6
              exact ihm _ C1 lam1 a' h3 g3 g6 fun a2 w2 hp2 => hq a2 w2 (hp2.trans g4)
            · subst h3 h4 h5
              have hp' := hp.keep fun C lam a hf => hk C lam a hN.symm hf
              cases e with
              | normal => exact absurd rfl he
              | exit id => exact hq a' w' hp'
              | ret => exact hq a' w' hp'
        exact wp_loop_rounds n (key n _ C lam a h hr (live_ok hf hl0) hq)
      · cases h
    · obtain ⟨s, h, hk⟩ := bar_some (F := fun S k => iter (fun st H rec => exec E cf n fa c an.strip.fst S st H (loopS rec k)) n st C.H)
          (fun hk => by
          refine iter_to ?_ _ _ _
          intro l H r r' hr
          exact exec_to hcn n fa c _ _ _ l H (fun e s G => loopS_to hr hk e s G)) h
      have key : ∀ (m : Nat) (st0 : St) (C : Ctx) (lam : Nat → Nat) (a : Act), st0.N = st.N →
          iter (fun st H rec => exec E cf n fa c an.strip.fst _ st H (loopS rec fun e s G => some (e, s, G))) m st0 C.H = some (e, s, H') → HR E C → FrameR C lam st0 a → (∀ a' w', Post E C st' H' a' w' → Q e.to a' w') → Code.rounds E.P c Q m a C.w := by
        intro m
        induction m with
        | zero => intro l C lam a _ h; cases h
        | succ m ihm =>
          intro st0 C lam a hN0 h hr hf hq
          unfold iter at h
          obtain ⟨e1, s1, H1, h1, h2⟩ := exec_split hcn h
          have hN : s1.N = st.N := (exec_N hcn n fa _ _ _ _ _ _ _ h1).trans hN0
          refine ih _ _ C lam a _ e1 s1 H1 hok h1 hr hf fun a' w' hp => ?_
          rcases loopS_some h2 with ⟨he, h3⟩ | ⟨he, h3, h4, h5⟩
          · subst he
            obtain ⟨C1, lam1, rfl, rfl, g3, g4, g5⟩ := hp
            exact ihm _ C1 lam1 a' hN h3 g3 g5 fun a2 w2 hp2 => hq a2 w2 (hp2.trans g4)
          · subst h3 h4 h5
            have hp' := hp.keep fun C lam a hf => hk C lam a hN.symm hf
            cases e with
            | normal => exact absurd rfl he
            | exit id => exact hq a' w' hp'
            | ret => exact hq a' w' hp'
      exact wp_loop_rounds n (key n _ C lam a rfl h hr hf hq)
  | scope c ih =>
    intro an st C lam a Q e st' H' hok h hr hf hq
    unfold exec at h
    unfold codeOk at hok
    obtain ⟨s, h, hk⟩ := bar_some (fun hk => exec_to hcn n fa c _ _ _ st C.H hk) h
    have hN := exec_N hcn n fa _ _ _ _ _ _ _ h
    refine wp_scope_straight (ih _ _ C lam a _ _ s _ hok h hr hf fun a' w' hp => ?_)
    have hp' := hp.keep fun C lam a hf => hk C lam a hN.symm hf
    cases e <;> exact hq a' w' hp'
  | rangeFunc _ _ _ _ _ _ => intro an st C lam a Q e st' H' hok h; cases h
  | goto _ => intro an st C lam a Q e st' H' hok h; cases h
  | refuse _ => intro an st C lam a Q e st' H' hok h; cases h

end
end Go.Den

/- DEN, part X: a function's call. -/
namespace Go.Den
open Go.RowKit

section
variable {E : Env} {cf : CallFn} {C C' : Ctx} {lam : Nat → Nat} {st : St} {a : Act} {Q : Exit → Act → World → Prop} {st' : St} {H' : Heap}

theorem loadAt_asAddr {P : Program} {t : TypeId} {u0 u : Value} {w w' : World} (h : (Instr.loadAt t u0).run P w = .ok u w') : (do loadVar t (← asAddr u0) : Sem Value).run P w = .ok u w' := by
  unfold Instr.loadAt Instr.sureAddr at h
  split at h
  · exact h
  all_goals simp [Sem.run_bind] at h

theorem resultVar_ok (hr : HR E C) (hf : FrameR C lam st a) {r : ResultVar} {v : AV} (h : resultVar E st C.H r = some v) :
    ∃ u, ((match r with
      | .tmp t => pure (a.tmps.getD t undef)
      | .cell x t => do loadVar t (← asAddr (a.tmps.getD x undef))) : Sem Value).run E.P C.w = .ok u C.w ∧ V C false v u := by
  cases r with
  | tmp t =>
    unfold resultVar at h
    dsimp only at h
    split at h
    · rename_i w hw
      simp only [Option.some.injEq] at h
      subst h
      exact ⟨_, rfl, slot_val hf hw⟩
    · cases h
  | cell x t =>
    unfold resultVar at h
    dsimp only at h
    split at h
    · rename_i ag sz hag hsz
      split at h
      · rename_i s off hw
        split at h
        · rename_i cs hcs
          obtain ⟨u, g1, g2⟩ := loc_load hf hcs hag hsz h
          have h1 : a.tmps.getD x undef = _ := (slot_lp hf hw).1
          refine ⟨u, ?_, g2⟩
          simp only [h1]
          exact g1
        · cases h
      · rename_i p hw
        obtain ⟨u, g1, g2⟩ := loadH_ok hr hag hsz h (slot_val hf hw)
        exact ⟨u, loadAt_asAddr g1, g2⟩
      · cases h
    · cases h

theorem resultVars_ok (hr : HR E C) (hf : FrameR C lam st a) {R : Type} {k : List AV → Option R} {x : R} : ∀ (rs : List ResultVar) (acc : List AV), resultVars E st C.H rs acc k = some x →
    ∃ ws us, k (acc.reverse ++ ws) = some x ∧ Vs C false ws us ∧ (rs.mapM fun
      | .tmp t => pure (a.tmps.getD t undef)
      | .cell x t => do loadVar t (← asAddr (a.tmps.getD x undef)) : Sem (List Value)).run E.P C.w = .ok us C.w
  | [], acc, h => ⟨[], [], by simpa [resultVars] using h, .nil _, rfl⟩
  | r :: rs, acc, h => by
    unfold resultVars at h
    split at h
    · rename_i v hv
      obtain ⟨u, g1, g2⟩ := resultVar_ok hr hf hv
      obtain ⟨ws, us, k1, k2, k3⟩ := resultVars_ok hr hf rs _ h
      refine ⟨v :: ws, u :: us, by simpa using k1, .cons _ _ _ _ _ g2 k2, ?_⟩
      rw [List.mapM_cons, Sem.run_bind, g1]
      simp only [Result.andThen_ok, Sem.run_bind, k3, Sem.run_pure]
    · cases h

theorem one_or_tup {ws : List AV} {us : List Value} (h : Vs C false ws us) : V C false (oneOrTup ws) (if h : us.toArray.size = 1 then us.toArray[0] else .tuple us.toArray) := by
  cases h with
  | nil => exact .tup _ _ _ (.nil _)
  | cons _ v u vs us h1 h2 =>
    cases h2 with
    | nil => exact h1
    | cons _ v2 u2 vs2 us2 h3 h4 =>
      rw [dif_neg (by simp)]
      exact .tup _ _ _ (.cons _ _ _ _ _ h1 (.cons _ _ _ _ _ h3 h4))

theorem start_slots {d : Nat} : ∀ (vs : List AV) (i : Nat) (T : Tr SV) (t : Nat), Tr.get .no (startSlots d vs i T) t = Tr.get .no T t ∨ Tr.get .no (startSlots d vs i T) t = .no ∨ ∃ v, vs[t - i]? = some v ∧ i ≤ t ∧ Tr.get .no (startSlots d vs i T) t = .val v
  | [], i, T, t => .inl rfl
  | v :: vs, i, T, t => by
    unfold startSlots
    rcases start_slots vs (i + 1) (T.set i (.val v)) t with h | h | ⟨w, h1, h2, h3⟩
    · by_cases e : i = t
      · subst e
        rcases Tr.get_set_self (z := SV.no) (t := T) (i := i) (x := .val v) with g | g
        · exact .inr (.inr ⟨v, by simp, Nat.le_refl _, h.trans g⟩)
        · exact .inr (.inl (h.trans g.1))
      · exact .inl (h.trans (Tr.get_set_ne e))
    · exact .inr (.inl h)
    · refine .inr (.inr ⟨w, ?_, by omega, h3⟩)
      rw [show t - i = (t - (i + 1)) + 1 by omega]
      simpa using h1

theorem start_ok {d N : Nat} {args : List AV} {us : Array Value} (hv : Vs C false args us.toList) (hle : args.length ≤ N) : FrameR C lam (St.start d N args) { tmps := us ++ Array.replicate (N - us.size) undef, defers := [] } := by
  have hl : us.size = args.length := by rw [← Array.length_toList]; exact hv.length
  refine ⟨by simp [St.start]; omega, rfl, fun t => ?_, fun s cs hs => ?_⟩
  · unfold SlotOk
    have : (St.start d N args).get t = Tr.get .no (startSlots d args 0 (Tr.full .no d)) t := rfl
    rcases start_slots (d := d) args 0 (Tr.full .no d) t with h | h | ⟨v, h1, _, h3⟩
    · rw [this, h, Tr.get_full]
      trivial
    · rw [this, h]
      trivial
    · rw [this, h3]
      dsimp only
      obtain ⟨u, g1, g2⟩ := hv.get h1
      have : (us ++ Array.replicate (N - us.size) undef).getD t undef = u := by
        rw [Array.getD_eq_getD_getElem?]
        rw [Array.getElem?_toList] at g1
        simp only [Nat.sub_zero] at g1
        rw [Array.getElem?_append_left (Array.getElem?_eq_some_iff.1 g1).1, g1]
        rfl
      rw [this]
      exact g2
  · have : (St.start d N args).var s = Tr.get none (Tr.full none d) s := rfl
    rw [this, Tr.get_full] at hs
    cases hs

/-- What must stand of the program and what is said of it. -/
structure EnvOK (E : Env) : Prop where
  codes : ∀ (f : FuncId) (fn : Func) (c : Code), E.P.funcs[f]? = some fn → fn.body = some c → codeOk (E.ann f).draws (staticOk E (E.ann f).sites) c = true
  names : ∀ (f : FuncId) (fn : Func) (c : Code), E.P.funcs[f]? = some fn → fn.body = some c → fn.name ≠ "runtime.NumGoroutine"

theorem callF_step (hE : EnvOK E) (n : Nat) (hck : CallKOK E (callF E n)) (hD : ∀ f, DrawOK E (callF E n) (E.ann f) (staticOk E (E.ann f).sites)) : CallOK E (callF E (n + 1)) := by
  intro f args C us v H' h hr hn hv
  unfold callF at h
  split at h
  · rename_i fn hfn
    split at h
    · rename_i c hc
      split at h
      · rename_i hle
        have hrun : (callFunc f us).run E.P C.w = .ok (.enter f us) C.w := by
          have hpr : program.run E.P C.w = .ok E.P C.w := rfl
          have hnm := hE.names f fn c hfn hc
          unfold callFunc
          simp only [Sem.run_bind, hpr, Result.andThen_ok, hfn]
          rw [if_neg (by simpa using hnm), if_neg (by simp [hc])]
          rfl
        refine .inl ⟨hrun, calls_of_wp hfn hc ?_⟩
        obtain ⟨e, s1, H1, h1, h2⟩ := exec_split (callF_nat n) h
        refine exec_sound (callF_nat n) hck n (E.ann f) (hD f) c _ _ C (fun _ => 0) _ _ e s1 H1 (hE.codes f fn c hfn hc) h1 hr (start_ok hv hle) fun a' w' hp => ?_
        obtain ⟨C1, lam1, rfl, rfl, g3, g4, g5⟩ := hp
        have fin : resultVars E s1 C1.H fn.results.toList [] (fun vs => some (oneOrTup vs, C1.H)) = some (v, H') → a'.defers = [] ∧ ∃ u, (results fn a'.tmps).run E.P C1.w = .ok u C1.w ∧ ∃ u', Ending.returned u = .returned u' ∧ Gives E C v H' u' C1.w := fun h2 => by
          obtain ⟨ws, us', k1, k2, k3⟩ := resultVars_ok g3 g5 _ _ h2
          simp only [List.reverse_nil, List.nil_append, Option.some.injEq, Prod.mk.injEq] at k1
          obtain ⟨rfl, rfl⟩ := k1
          refine ⟨g5.defers, _, ?_, _, rfl, C1.strip, rfl, rfl, (one_or_tup k2).evV strip_evV, strip_hr g3, ?_, strip_noLoc⟩
          · unfold results
            rw [Array.mapM_eq_mapM_toList]
            simp only [Sem.run_bind, Sem.run_map, Sem.run_pure]
            exact (congrArg (fun r => Result.andThen (Result.andThen r fun a w' => Result.ok a.toArray w') fun a w' => Result.ok (if h : a.size = 1 then a[0] else Value.tuple a) w') k3)
          · refine ⟨g4.os, g4.tape, g4.output, g4.size, fun b hb hk => ?_, g4.hlen, g4.rows, g4.iters, g4.maps⟩
            obtain ⟨m1, m2⟩ := g4.keep b hb hk
            exact ⟨m1, (strip_of rfl (fun s e => by rw [m2] at e; rcases hk with hk | hk <;> rw [hk] at e <;> cases e)).trans m2⟩
        cases e with
        | normal => exact fin h2
        | exit id => cases h2
        | ret => exact fin h2
      · cases h
    · cases h
  · cases h

end
end Go.Den

/- DEN, part V: what an operation's result hangs on. -/
namespace Go.Den
open Go.RowKit

/-! ### slots that there are -/
namespace Tr
variable {α β : Type} {z : α}
def has : Tr α → Nat → Bool
  | .lf, _ => false
  | .nd l _ r, n => bif Nat.beq n 0 then true else bif Nat.beq (n % 2) 1 then has l (n / 2) else has r (n / 2 - 1)
theorem has_set : ∀ {t : Tr α} {i j : Nat} {x : α}, has (set t i x) j = has t j
  | .lf, _, _, _ => rfl
  | .nd l v r, i, j, x => by
    unfold set
    cases hi : Nat.beq i 0
    · simp only [cond_false]
      cases hm : Nat.beq (i % 2) 1
      · simp only [cond_false, has, has_set]
      · simp only [cond_true, has, has_set]
    · simp only [cond_true, has]
theorem get_set_has : ∀ {t : Tr α} {i : Nat} {x : α}, get z (set t i x) i = bif has t i then x else z
  | .lf, _, _ => rfl
  | .nd l v r, i, x => by
    unfold set
    cases hi : Nat.beq i 0
    · simp only [cond_false]
      cases hm : Nat.beq (i % 2) 1
      · simp only [cond_false, get, has, hi, hm]
        exact get_set_has
      · simp only [cond_true, get, has, hi, hm, cond_false]
        exact get_set_has
    · simp only [cond_true, get, has, hi]
end Tr

section
variable {E : Env} {cf : CallFn} {st st2 : St} {o : Oper} {site : Option Nat} {R : Type} {x : SV} {st' : St} {H' : Heap}

theorem eval_eq {y : Operand} (h : ∀ t, y = .tmp t → st2.get t = st.get t) : st2.eval E y = st.eval E y := by
  cases y with
  | tmp t => simp only [St.eval, h t rfl]
  | _ => rfl

theorem evals_eq : ∀ {ys : List Operand}, (∀ t, Operand.tmp t ∈ ys → st2.get t = st.get t) → evals E st2 ys = evals E st ys
  | [], _ => rfl
  | y :: ys, h => by
    unfold evals
    rw [eval_eq (fun t e => h t (by rw [← e]; exact List.mem_cons_self)), evals_eq (fun t ht => h t (List.mem_cons_of_mem _ ht))]

theorem parts_eq {pl : Nat → Option (Nat × Nat)} : ∀ {ps : List (Nat × Operand)}, (∀ t, Operand.tmp t ∈ ps.map (·.2) → st2.get t = st.get t) → parts E st2 pl ps = parts E st pl ps
  | [], _ => rfl
  | (i, y) :: ps, h => by
    unfold parts
    rw [eval_eq (fun t e => h t (by rw [← e]; exact List.mem_cons_self)), parts_eq (fun t ht => h t (List.mem_cons_of_mem _ ht))]

/-- The operation's result hangs on the slots that it looks at. -/
theorem opK_eq {H : Heap} {k k2 : SV → St → Heap → Option R} (ha : ∀ t, Operand.tmp t ∈ o.op.operands.toList → st2.get t = st.get t) (hv : ∀ s w, touchOf st site o = some (s, w) → w = false ∧ st2.var s = st.var s)
    (hk : ∀ x G, k2 x st2 G = k x st G) : opK E cf site o st2 H k2 = opK E cf site o st H k := by
  unfold opK
  unfold touchOf at hv
  cases ho : o.op <;> simp only [ho, Op.operands] at ha hv ⊢
  case move y => cases y <;> simp_all [St.eval]
  case assign y => cases y <;> simp_all [St.eval]
  case pick c a b =>
    rw [eval_eq (y := c) (fun t e => ha t (by simp [e])), eval_eq (y := a) (fun t e => ha t (by simp [e])), eval_eq (y := b) (fun t e => ha t (by simp [e]))]
    simp only [hk]
  case alloc t =>
    cases site with
    | none => simp only [hk]
    | some s => exact absurd (hv s true rfl).1 (by simp)
  case box t y =>
    rw [eval_eq (y := y) (fun t e => ha t (by simp [e]))]
    cases site with
    | none => simp only [hk]
    | some s => exact absurd (hv s true rfl).1 (by simp)
  case build t ps =>
    simp only [parts_eq (ps := ps.toList) (fun t ht => ha t (by simpa using ht)), hk]
  case buildSlice t n ps =>
    simp only [parts_eq (ps := ps.toList) (fun t ht => ha t (by simpa using ht)), hk]
  case load t y =>
    cases y with
    | tmp q =>
      simp only [ha q (by simp)]
      cases hq : st.get q with
      | val v => simp only [hk]
      | no => rfl
      | lp s off =>
        simp only [hq] at hv
        simp only [(hv s false rfl).2, hk]
    | _ => simp only [St.eval, hk]
  case store t y z =>
    rw [eval_eq (y := z) (fun t e => ha t (by simp [e]))]
    cases y with
    | tmp q =>
      simp only [ha q (by simp)]
      cases hq : st.get q with
      | val v => simp only [hk]
      | no => rfl
      | lp s off =>
        simp only [hq] at hv
        exact absurd (hv s true rfl).1 (by simp)
    | _ => rfl
  case nilCheck y =>
    cases y with
    | tmp q => simp only [ha q (by simp), hk]
    | _ => rfl
  case binOp op t y z s =>
    rw [eval_eq (y := y) (fun t e => ha t (by simp [e])), eval_eq (y := z) (fun t e => ha t (by simp [e]))]
    simp only [hk]
  case unOp op t y =>
    rw [eval_eq (y := y) (fun t e => ha t (by simp [e]))]
    simp only [hk]
  case convert s d y =>
    rw [eval_eq (y := y) (fun t e => ha t (by simp [e]))]
    simp only [hk]
  case makeInterface t y =>
    rw [eval_eq (y := y) (fun t e => ha t (by simp [e]))]
    simp only [hk]
  case makeFunc f ys zs =>
    rw [evals_eq (ys := ys.toList) (fun t ht => ha t (by simp at ht ⊢; exact .inl ht)), evals_eq (ys := zs.toList) (fun t ht => ha t (by simp at ht ⊢; exact .inr ht))]
    simp only [hk]
  case makeSlice t y z =>
    rw [eval_eq (y := y) (fun t e => ha t (by simp [e])), eval_eq (y := z) (fun t e => ha t (by simp [e]))]
    simp only [hk]
  case slice t y lo hi mx =>
    rw [eval_eq (y := y) (fun t e => ha t (by simp [e])), evals_eq (ys := lo.toList) (fun t ht => ha t (by simp at ht ⊢; simp [ht])), evals_eq (ys := hi.toList) (fun t ht => ha t (by simp at ht ⊢; simp [ht])),
      evals_eq (ys := mx.toList) (fun t ht => ha t (by simp at ht ⊢; simp [ht]))]
    simp only [hk]
  case fieldAddr s y i =>
    cases y with
    | tmp q => simp only [ha q (by simp), hk]
    | _ => simp only [St.eval, hk]
  case field t y i =>
    rw [eval_eq (y := y) (fun t e => ha t (by simp [e]))]
    simp only [hk]
  case indexAddr t y z =>
    rw [eval_eq (y := z) (fun t e => ha t (by simp [e])), eval_eq (y := y) (fun t e => ha t (by simp [e]))]
    cases st.eval E z with
    | none => rfl
    | some i =>
      dsimp only
      cases E.P.underlying t with
      | none => rfl
      | some d =>
        cases d <;> dsimp only
        case slice e => simp only [hk]
        case array n e =>
          cases E.size e with
          | none => rfl
          | some sz =>
            cases y with
            | tmp q => dsimp only; rw [ha q (by simp)]; simp only [hk]
            | _ => simp only [St.eval, hk]
  case index t y z =>
    rw [eval_eq (y := y) (fun t e => ha t (by simp [e])), eval_eq (y := z) (fun t e => ha t (by simp [e]))]
    simp only [hk]
  case range t y =>
    rw [eval_eq (y := y) (fun t e => ha t (by simp [e]))]
    simp only [hk]
  case next y b =>
    cases b
    · rfl
    · dsimp only
      rw [eval_eq (y := y) (fun t e => ha t (by simp [e]))]
      simp only [hk]
  case typeAssert y xt t ok =>
    rw [eval_eq (y := y) (fun t e => ha t (by simp [e]))]
    simp only [hk]
  case extract y i =>
    rw [eval_eq (y := y) (fun t e => ha t (by simp [e]))]
    simp only [hk]
  case call c =>
    unfold Call.operands at ha
    rw [evals_eq (ys := c.args.toList) (fun t ht => ha t (by
      cases hc : c.callee <;> simp only [hc] <;> simp at ht ⊢ <;> simp [ht]))]
    cases evals E st c.args.toList with
    | none => rfl
    | some args =>
    dsimp only
    cases hc : c.callee with
    | value f =>
      simp only [hc] at ha
      dsimp only
      rw [eval_eq (y := f) (fun t e => ha t (by simp [e]))]
      simp only [hk]
    | builtin b => simp only [hk]
    | invoke r m =>
      simp only [hc] at ha
      dsimp only
      rw [eval_eq (y := r) (fun t e => ha t (by simp [e]))]
      simp only [hk]

theorem var_setVar {s : Nat} {cs : List AV} : (st.setVar s cs).var s = bif st.L.has s then some cs else none := Tr.get_set_has

theorem lay_some {s : Nat} {cs : List AV} {H : Heap} (h : layK s cs st H (fun x s G => some (x, s, G)) = some (x, st', H')) :
    st' = st.setVar s cs ∧ H' = H ∧ ∀ (st2 : St) (G : Heap), st2.var s = st.var s → st2.L.has s = st.L.has s → layK s cs st2 G (fun x s G => some (x, s, G)) = some (x, st2.setVar s cs, G) := by
  unfold layK at h
  split at h
  · rename_i hn
    split at h
    · rename_i ds hds
      simp only [Option.some.injEq, Prod.mk.injEq] at h
      obtain ⟨rfl, rfl, rfl⟩ := h
      refine ⟨rfl, rfl, fun st2 G h1 h2 => ?_⟩
      unfold layK
      have : (st2.setVar s cs).var s = some ds := by rw [var_setVar, h2, ← var_setVar]; exact hds
      rw [h1, hn, this]
    · cases h
  · cases h

/-- A variable of the frame's own is laid or written. -/
theorem write_ok {H : Heap} {s : Nat} (ht : touchOf st site o = some (s, true)) (h : opK E cf site o st H (fun x s G => some (x, s, G)) = some (x, st', H')) :
    ∃ cs, st' = st.setVar s cs ∧ H' = H ∧ ∀ (st2 : St) (G : Heap), (∀ t, Operand.tmp t ∈ o.op.operands.toList → st2.get t = st.get t) → st2.var s = st.var s → st2.L.has s = st.L.has s →
      opK E cf site o st2 G (fun x s G => some (x, s, G)) = some (x, st2.setVar s cs, G) := by
  unfold opK at h
  unfold touchOf at ht
  cases ho : o.op <;> simp only [ho, Op.operands] at ht h ⊢
  case alloc t =>
    cases site with
    | none => cases ht
    | some s1 =>
      simp only [Option.map_some, Option.some.injEq, Prod.mk.injEq, and_true] at ht
      subst ht
      split at h
      · rename_i z sz hz hsz
        obtain ⟨g1, g2, g3⟩ := lay_some (bif_some h)
        refine ⟨_, g1, g2, fun st2 G _ h1 h2 => ?_⟩
        unfold opK
        simp only [ho, hz, hsz]
        rw [g3 st2 G h1 h2]
        cases hb : (z.cells.length == sz && decide (0 < sz))
        · simp only [hb, cond_false] at h
          cases h
        · rfl
      · cases h
  case box t y =>
    cases site with
    | none => cases ht
    | some s1 =>
      simp only [Option.map_some, Option.some.injEq, Prod.mk.injEq, and_true] at ht
      subst ht
      split at h
      · rename_i z sz hz hsz
        obtain ⟨g1, g2, g3⟩ := lay_some (bif_some h)
        refine ⟨_, g1, g2, fun st2 G ha h1 h2 => ?_⟩
        unfold opK
        simp only [ho, hsz]
        rw [eval_eq (y := y) (st := st) (fun t e => ha t (by simp [e])), hz]
        dsimp only
        rw [g3 st2 G h1 h2]
        cases hb : (z.cells.length == sz && z.isDef && decide (0 < sz))
        · simp only [hb, cond_false] at h
          cases h
        · rfl
      · cases h
  case store t y z =>
    cases y with
    | tmp q =>
      dsimp only at ht h
      split at h
      · rename_i v sz hv hsz
        cases hq : st.get q with
        | val w => simp [hq] at ht
        | no => simp [hq] at ht
        | lp s1 off =>
          simp only [hq, Option.some.injEq, Prod.mk.injEq, and_true] at ht h
          subst ht
          split at h
          · rename_i cs hcs
            have hb : (A.fits sz v && decide (off + v.cells.length ≤ cs.length)) = true := by
              cases hb : (A.fits sz v && decide (off + v.cells.length ≤ cs.length))
              · rw [hb] at h; cases h
              · rfl
            rw [hb] at h
            simp only [cond_true, Option.some.injEq, Prod.mk.injEq] at h
            obtain ⟨rfl, rfl, rfl⟩ := h
            refine ⟨_, rfl, rfl, fun st2 G ha h1 h2 => ?_⟩
            unfold opK
            simp only [ho, hsz]
            rw [eval_eq (y := z) (st := st) (fun t e => ha t (by simp [e])), hv]
            simp only [ha q (by simp), hq, h1, hcs, hb, cond_true]
          · cases h
      · cases h
    | _ => cases ht
  case load t y =>
    cases y with
    | tmp q =>
      dsimp only at ht
      cases hq : st.get q <;> simp [hq] at ht
    | _ => cases ht
  all_goals cases ht

/-- Nothing but the small heap's reading. -/
def quietK (E : Env) (site : Option Nat) (o : Oper) (st : St) (H : Heap) : Option SV := opK E noCalls site o st H fun x _ _ => some x

theorem quietV {R : Type} {v : Option AV} {f : AV → SV} {k : SV → Option R} : withV v (fun v => k (f v)) = (withV v fun v => some (f v)).bind k := by
  cases v <;> rfl

theorem callQ_quiet {f : FuncId} {args : List AV} {H : Heap} {k : AV → Heap → Option R} : callQ E f args H k = (callQ E f args H fun w _ => some w).bind fun w => k w H := by
  unfold callQ
  split
  · cases args.all AV.imm
    · rfl
    · simp only [cond_true]
      split <;> rfl
  · rfl

/-- An operation that is not loud and writes nothing only reads. -/
theorem quiet_ok {H : Heap} {k : SV → St → Heap → Option R} (hl : isLoud E site o = false) (ht : ∀ s, touchOf st site o ≠ some (s, true)) : opK E cf site o st H k = (quietK E site o st H).bind fun x => k x st H := by
  unfold quietK opK
  unfold isLoud at hl
  unfold touchOf at ht
  cases ho : o.op <;> simp only [ho] at hl ht ⊢
  case alloc t =>
    cases site with
    | none => cases hl
    | some s => exact absurd rfl (ht s)
  case box t y =>
    cases site with
    | none => cases hl
    | some s => exact absurd rfl (ht s)
  case call c =>
    cases hc : c.callee with
    | value f =>
      rw [hc] at hl
      cases site with
      | none => cases hl
      | some s =>
        cases evals E st c.args.toList with
        | none => rfl
        | some args =>
          cases f with
          | func g =>
            dsimp only
            rw [callQ_quiet, callQ_quiet (k := fun w _ => some (SV.val w))]
            cases callQ E g args H fun w _ => some w <;> rfl
          | _ => rfl
    | invoke r m => rw [hc] at hl; cases hl
    | builtin b =>
      rw [hc] at hl
      cases evals E st c.args.toList with
      | none => rfl
      | some args =>
        dsimp only
        unfold builtinK
        split
        · split
          · exact withV_to fun v => rfl
          · exact withV_to fun v => rfl
          · rfl
        · exact withV_to fun v => rfl
        · exact withV_to fun v => rfl
        · cases hl
        · cases hl
        · cases hl
        · cases hl
        · cases hl
        · cases hl
        · rfl
  case convert s d y =>
    cases st.eval E y with
    | none => rfl
    | some v =>
      have e : ∀ K : Heap, convN E s d v K = none := fun K => by
        unfold convN
        split at hl <;> first | (cases hl; done) | simp only [*]
      dsimp only
      unfold convertK
      split
      · rfl
      · split
        · rfl
        · simp only [e]
          rfl
  case store => cases hl
  case buildSlice => cases hl
  case makeSlice => cases hl
  case range => cases hl
  case next => cases hl
  case mapUpdate => cases hl
  case insert => cases hl
  case makeMap => cases hl
  case typeAssert y xt t ok =>
    split
    · split
      · rfl
      · cases ok
        · simp only [cond_false]
          split <;> rfl
        · simp only [cond_true]
          split
          · rfl
          · split <;> rfl
    · rfl
  all_goals repeat' (first | split | (with_reducible exact (Option.bind_none _).symm) | (with_reducible apply bif_to) | (with_reducible exact withV_to fun v => rfl) | rfl)

section still
variable {v w : AV} {H G : Heap}
theorem load_still {ag : Bool} {sz : Nat} (h : v.heapy = false) : A.load ag sz v H = A.load ag sz v G := by cases v <;> first | rfl | cases h
theorem nilCheck_still (h : v.heapy = false) : A.nilCheck v H = A.nilCheck v G := by
  cases v
  case fn f a b => cases f <;> rfl
  all_goals first | rfl | cases h
theorem fa_still {off : Nat} (h : v.heapy = false) : A.fa off v H = A.fa off v G := by cases v <;> first | rfl | cases h
theorem idx_still {sz : Nat} (h : v.heapy = false) : A.idx sz v w H = A.idx sz v w G := by
  cases v
  case sh z es => cases w <;> rfl
  all_goals first | rfl | cases h
theorem idxArr_still {sz n : Nat} (h : v.heapy = false) : A.idxArr sz n v w H = A.idxArr sz n v w G := by
  unfold A.idxArr
  cases w <;> dsimp only
  rw [fa_still h]
theorem slice_still {sz : Nat} {lo hi mx : Option AV} (h : v.heapy = false) : A.slice sz v lo hi mx H = A.slice sz v lo hi mx G := by cases v <;> first | rfl | cases h
theorem len_still (h : v.heapy = false) : A.len v H = A.len v G := by cases v <;> first | rfl | cases h
theorem eqNilH_still {d : Option TypeDesc} (h : v.heapy = false) : A.eqNilH d v w H = A.eqNilH d v w G := by
  unfold A.eqNilH
  split
  all_goals try (cases v <;> first | rfl | cases h)
theorem eqPtr_still {P : Program} {d : Option TypeDesc} (h : v.heapy = false) : A.eqPtr P d v w H = A.eqPtr P d v w G := by
  unfold A.eqPtr
  split
  all_goals try (cases v <;> first | rfl | cases h)
theorem bin_still {P : Program} {op : BinOp} {t : TypeId} {yc : Bool} (h : v.heapy = false) : A.bin P op t v w yc H = A.bin P op t v w yc G := by
  unfold A.bin
  split
  · rfl
  · rfl
  · rfl
  · rfl
  · rw [eqNilH_still (G := G) h, eqPtr_still (G := G) h]
end still

theorem mapM_mem {α β : Type} {f : α → Option β} : ∀ {l : List α} {m : List β}, l.mapM f = some m → ∀ {y : β}, y ∈ m → ∃ x ∈ l, f x = some y
  | [], m, h, y, hy => by
    simp only [List.mapM_nil, Option.pure_def, Option.some.injEq] at h
    subst h
    cases hy
  | x :: l, m, h, y, hy => by
    rw [List.mapM_cons] at h
    simp only [Option.pure_def, Option.bind_eq_bind, Option.bind_eq_some_iff, Option.some.injEq] at h
    obtain ⟨z, h1, r, h2, rfl⟩ := h
    rcases List.mem_cons.1 hy with rfl | hy
    · exact ⟨x, List.mem_cons_self, h1⟩
    · obtain ⟨w, g1, g2⟩ := mapM_mem h2 hy
      exact ⟨w, List.mem_cons_of_mem _ g1, g2⟩
theorem ofConst_leaf {n : Nat} {u : Value} {v : AV} (h : ofConst n u = some v) (ho : v.one = true) : v.leaf = true := by
  cases n with
  | zero => cases h
  | succ n =>
    unfold ofConst at h
    split at h
    all_goals first
      | (simp only [Option.some.injEq] at h; subst h; rfl)
      | skip
    · split at h
      · rename_i vs _
        cases hb : vs.all AV.one
        · rw [hb] at h; cases h
        · rw [hb] at h
          simp only [cond_true, Option.some.injEq] at h
          subst h
          cases ho
      · cases h
    · cases h
theorem ofConst_heapy {n : Nat} {u : Value} {v : AV} (h : ofConst n u = some v) : v.heapy = false := by
  cases n with
  | zero => cases h
  | succ n =>
    unfold ofConst at h
    split at h
    all_goals first
      | (simp only [Option.some.injEq] at h; subst h; rfl)
      | skip
    · split at h
      · rename_i vs hm
        cases hb : vs.all AV.one
        · rw [hb] at h; cases h
        · rw [hb] at h
          simp only [cond_true, Option.some.injEq] at h
          subst h
          have : vs.all AV.leaf = true := List.all_eq_true.2 fun y hy => by
            obtain ⟨x, _, hx⟩ := mapM_mem hm hy
            exact ofConst_leaf hx (List.all_eq_true.1 hb y hy)
          show (!(vs.all AV.leaf)) = false
          rw [this]
          rfl
      · cases h
    · cases h

theorem evals_mem : ∀ {ys : List Operand} {vs : List AV}, evals E st ys = some vs → ∀ {v : AV}, v ∈ vs → ∃ y ∈ ys, st.eval E y = some v
  | [], vs, h, v, hv => by
    simp only [evals, Option.some.injEq] at h
    subst h
    cases hv
  | y :: ys, vs, h, v, hv => by
    unfold evals at h
    split at h
    · rename_i w hw
      split at h
      · rename_i ws hws
        simp only [Option.some.injEq] at h
        subst h
        rcases List.mem_cons.1 hv with rfl | hv
        · exact ⟨y, List.mem_cons_self, hw⟩
        · obtain ⟨y', h1, h2⟩ := evals_mem hws hv
          exact ⟨y', List.mem_cons_of_mem _ h1, h2⟩
      · cases h
    · cases h

theorem eval_heapy (hh : heapy st o = false) {y : Operand} (hy : y ∈ o.op.operands.toList) {v : AV} (h : st.eval E y = some v) : v.heapy = false := by
  cases y with
  | tmp t =>
    unfold heapy at hh
    have := List.any_eq_false.1 hh _ hy
    dsimp only at this
    unfold St.eval at h
    dsimp only at h
    split at h
    · rename_i w hw
      rw [hw] at this
      simp only [Option.some.injEq] at h
      subst h
      simpa using this
    · cases h
  | const u => exact ofConst_heapy h
  | func f => simp only [St.eval, Option.some.injEq] at h; subst h; rfl
  | global g =>
    simp only [St.eval, Option.map_eq_some_iff] at h
    obtain ⟨cs, _, rfl⟩ := h
    rfl

/-- What reads the small heap lays nothing. -/
theorem site_reads {H : Heap} {k : SV → St → Heap → Option R} (hr : reads o = true) : opK E cf site o st H k = opK E cf none o st H k := by
  unfold reads at hr
  unfold opK
  cases ho : o.op <;> simp only [ho] at hr ⊢
  all_goals first | (cases hr; done) | skip
  case call c =>
    cases hc : c.callee with
    | builtin b => rfl
    | value f => rw [hc] at hr; cases hr
    | invoke r m => rfl

theorem quiet_still {H G : Heap} (hl : isLoud E site o = false) (ht : ∀ s, touchOf st site o ≠ some (s, true)) (hh : reads o = false ∨ heapy st o = false) : quietK E site o st G = quietK E site o st H := by
  have hev : ∀ {y : Operand}, y ∈ o.op.operands.toList → reads o = true → ∀ {v : AV}, st.eval E y = some v → v.heapy = false := fun hy hr v hv => by
    rcases hh with hh | hh
    · rw [hr] at hh; cases hh
    · exact eval_heapy hh hy hv
  unfold quietK opK
  unfold isLoud at hl
  unfold touchOf at ht
  unfold reads at hev
  cases ho : o.op <;> simp only [ho, Op.operands] at hl ht hev ⊢
  case alloc t =>
    cases site with
    | none => cases hl
    | some s => exact absurd rfl (ht s)
  case box t y =>
    cases site with
    | none => cases hl
    | some s => exact absurd rfl (ht s)
  case store => cases hl
  case buildSlice => cases hl
  case makeSlice => cases hl
  case range => cases hl
  case next => cases hl
  case load t y =>
    cases y with
    | tmp q =>
      dsimp only
      cases hq : st.get q with
      | val v => 
        have := hev (y := .tmp q) (by simp) trivial (v := v) (by simp [St.eval, hq])
        simp only [load_still (G := H) (H := G) this]
      | no => rfl
      | lp s off => rfl
    | _ =>
      dsimp only
      split
      · split
        · rename_i v hv
          rw [load_still (G := H) (hev (by simp) trivial hv)]
        · rfl
      · rfl
  case nilCheck y =>
    cases y with
    | tmp q =>
      dsimp only
      cases hq : st.get q with
      | val v => 
        have := hev (y := .tmp q) (by simp) trivial (v := v) (by simp [St.eval, hq])
        simp only [nilCheck_still (G := H) (H := G) this]
      | no => rfl
      | lp s off => rfl
    | _ => rfl
  case binOp op t y z s =>
    split
    · rename_i v w hv hw
      rw [bin_still (G := H) (hev (by simp) trivial hv)]
    · rfl
  case fieldAddr s y i =>
    split
    · cases y with
      | tmp q =>
        dsimp only
        cases hq : st.get q with
        | val v => 
          have := hev (y := .tmp q) (by simp) trivial (v := v) (by simp [St.eval, hq])
          simp only [fa_still (G := H) (H := G) this]
        | no => rfl
        | lp s off => rfl
      | _ =>
        dsimp only
        split
        · rename_i v hv
          rw [fa_still (G := H) (hev (by simp) trivial hv)]
        · rfl
    · rfl
  case indexAddr t y z =>
    split
    · split
      · split
        · rename_i v hsz hv
          rw [idx_still (G := H) (hev (by simp) trivial hv)]
        · rfl
      · split
        · rename_i q hsz
          cases hq : st.get q with
          | val v => 
            have := hev (y := .tmp q) (by simp) trivial (v := v) (by simp [St.eval, hq])
            simp only [idxArr_still (G := H) (H := G) this]
          | no => rfl
          | lp s off => rfl
        · split
          · rename_i v hv
            rw [idxArr_still (G := H) (hev (by simp) trivial hv)]
          · rfl
        · rfl
      · rfl
    · rfl
  case slice t y lo hi mx =>
    split
    · rename_i v l h m hv _ _ _
      split
      · rfl
      · split
        · rw [slice_still (G := H) (hev (by simp) trivial hv)]
        · rfl
      · rfl
    · rfl
  case call c =>
    cases hc : c.callee with
    | value f =>
      rw [hc] at hl
      cases site with
      | none => cases hl
      | some s =>
        cases evals E st c.args.toList with
        | none => rfl
        | some args =>
          cases f with
          | func g =>
            simp only [callQ]
          | _ => rfl
    | invoke r m => rw [hc] at hl; cases hl
    | builtin b =>
      rw [hc] at hl
      cases hargs : evals E st c.args.toList with
      | none => rfl
      | some args =>
        dsimp only
        unfold builtinK
        split
        · rename_i x hts
          split
          · rfl
          · obtain ⟨y, hy, hyv⟩ := evals_mem hargs (v := x) (by simp)
            rw [len_still (G := H) (hev (y := y) (by unfold Call.operands; simp only [Array.toList_append]; exact List.mem_append_right _ hy) (by rw [hc]) hyv)]
          · rfl
        · rfl
        · rfl
        · cases hl
        · cases hl
        · cases hl
        · cases hl
        · cases hl
        · cases hl
        · rfl
  case convert s d y =>
    cases st.eval E y with
    | none => rfl
    | some v =>
      have e : ∀ K : Heap, convH E s d v K = none := fun K => by
        unfold convH
        split at hl <;> first | (cases hl; done) | simp only [*]
      have e2 : ∀ K : Heap, convN E s d v K = none := fun K => by
        unfold convN
        split at hl <;> first | (cases hl; done) | simp only [*]
      dsimp only
      unfold convertK
      simp only [e, e2]
  all_goals rfl

end
end Go.Den

/- DEN, part W: regions whose order is open. -/
namespace Go.Den
open Go.RowKit

mutual
theorem AV.beq_eq : ∀ (a b : AV), AV.beq a b = true → a = b
  | .undef, b, h | .nilp, b, h | .nils, b, h | .nilf, b, h | .nili, b, h | .nilm, b, h => by cases b <;> first | rfl | cases h
  | .bool x, b, h => by cases b <;> first | (cases h; done) | (simp only [AV.beq, beq_iff_eq] at h; rw [h])
  | .int k x, b, h => by cases b <;> first | (cases h; done) | (simp only [AV.beq, Bool.and_eq_true, decide_eq_true_eq] at h; rw [h.1, h.2])
  | .str x, b, h => by cases b <;> first | (cases h; done) | (simp only [AV.beq, decide_eq_true_eq] at h; rw [h])
  | .ptr x y z w, b, h => by cases b <;> first | (cases h; done) | (simp only [AV.beq, Bool.and_eq_true, decide_eq_true_eq] at h; obtain ⟨⟨⟨rfl, rfl⟩, rfl⟩, rfl⟩ := h; rfl)
  | .sl x y z w v, b, h => by cases b <;> first | (cases h; done) | (simp only [AV.beq, Bool.and_eq_true, decide_eq_true_eq] at h; obtain ⟨⟨⟨⟨rfl, rfl⟩, rfl⟩, rfl⟩, rfl⟩ := h; rfl)
  | .rop x, b, h => by cases b <;> first | (cases h; done) | (rw [AV.beqs_eq x _ h])
  | .sh z x, b, h => by cases b <;> first | (cases h; done) | (simp only [AV.beq, Bool.and_eq_true, decide_eq_true_eq] at h; rw [h.1, AV.beqs_eq x _ h.2])
  | .agg x, b, h => by cases b <;> first | (cases h; done) | (rw [AV.beqs_eq x _ h])
  | .tup x, b, h => by cases b <;> first | (cases h; done) | (rw [AV.beqs_eq x _ h])
  | .fn f x y, b, h => by cases b <;> first | (cases h; done) | (simp only [AV.beq, Bool.and_eq_true, decide_eq_true_eq] at h; rw [h.1.1, AV.beqs_eq x _ h.1.2, AV.beqs_eq y _ h.2])
  | .iface t x, b, h => by cases b <;> first | (cases h; done) | (simp only [AV.beq, Bool.and_eq_true, decide_eq_true_eq] at h; rw [h.1, AV.beq_eq x _ h.2])
  | .mp x, b, h => by cases b <;> first | (cases h; done) | (simp only [AV.beq, decide_eq_true_eq] at h; rw [h])
  | .it x, b, h => by cases b <;> first | (cases h; done) | (simp only [AV.beq, decide_eq_true_eq] at h; rw [h])
theorem AV.beqs_eq : ∀ (a b : List AV), AV.beqs a b = true → a = b
  | [], b, h => by cases b <;> first | rfl | cases h
  | x :: xs, b, h => by
    cases b with
    | nil => cases h
    | cons y ys =>
      simp only [AV.beqs, Bool.and_eq_true] at h
      rw [AV.beq_eq x y h.1, AV.beqs_eq xs ys h.2]
end

section
variable {E : Env} {cf : CallFn} {C C' : Ctx} {lam : Nat → Nat} {st st2 : St} {o : Oper} {site : Option Nat} {x : SV} {st' : St} {H H' G : Heap}

/-- The same result, in another frame and another version of the small heap. -/
theorem quiet_move (hcn : CNat cf) (hl : isLoud E site o = false) (ht : ∀ s, touchOf st site o ≠ some (s, true)) (h : opK E cf site o st H (fun x s G => some (x, s, G)) = some (x, st', H'))
    (hG : (reads o = false ∨ heapy st o = false) ∨ sameAt E o ⟨st, H, x, st', H'⟩ G = true ∨ G = H)
    (ha : ∀ t, Operand.tmp t ∈ o.op.operands.toList → st2.get t = st.get t) (hv : ∀ s, touchOf st site o = some (s, false) → st2.var s = st.var s) :
    st' = st ∧ H' = H ∧ opK E cf site o st2 G (fun x s G => some (x, s, G)) = some (x, st2, G) := by
  have h0 := h
  rw [quiet_ok hl ht] at h
  simp only [Option.bind_eq_some_iff, Option.some.injEq, Prod.mk.injEq] at h
  obtain ⟨x0, hq, rfl, rfl, rfl⟩ := h
  refine ⟨rfl, rfl, ?_⟩
  have hqG : quietK E site o st G = some x0 := by
    rcases hG with hG | hG | rfl
    · rw [quiet_still (G := G) (H := H) hl ht hG]; exact hq
    · cases hrd : reads o
      · rw [quiet_still (G := G) (H := H) hl ht (.inl hrd)]; exact hq
      unfold sameAt at hG
      dsimp only at hG
      rw [← site_reads (site := site) hrd, show opK E noCalls site o st G (fun x _ _ => some x) = quietK E site o st G from rfl] at hG
      split at hG
      · rename_i w hw
        split at hG
        · rename_i v
          rw [hw, AV.beq_eq _ _ hG]
        · cases hG
      · cases hG
    · exact hq
  have key : opK E cf site o st2 G (fun x s G => some (x, s, G)) = opK E cf site o st G (fun x _ G => some (x, st2, G)) := opK_eq ha (fun s w e => by
    cases w with
    | true => exact absurd e (ht s)
    | false => exact ⟨rfl, hv s e⟩) (fun _ _ => rfl)
  rw [key, quiet_ok hl ht, hqG]
  rfl

theorem loud_move (hcn : CNat cf) (ht : ∀ s, touchOf st site o ≠ some (s, true)) (h : opK E cf site o st H (fun x s G => some (x, s, G)) = some (x, st', H'))
    (ha : ∀ t, Operand.tmp t ∈ o.op.operands.toList → st2.get t = st.get t) (hv : ∀ s, touchOf st site o = some (s, false) → st2.var s = st.var s) :
    st' = st ∧ opK E cf site o st2 H (fun x s G => some (x, s, G)) = some (x, st2, H') := by
  have h1 := op_keeps' hcn ht h
  subst h1
  refine ⟨rfl, ?_⟩
  have key : opK E cf site o st2 H (fun x s G => some (x, s, G)) = opK E cf site o st' H (fun x _ G => some (x, st2, G)) := opK_eq ha (fun s w e => by
    cases w with
    | true => exact absurd e (ht s)
    | false => exact ⟨rfl, hv s e⟩) (fun _ _ => rfl)
  rw [key, opK_nat hcn, h]
  rfl

end
end Go.Den

/- DEN, part Y: regions whose order is open: every order comes to the same. -/
namespace Go.Den
open Go.RowKit

/-- What the text's order does at an operation. -/
inductive TextStep (E : Env) (cf : CallFn) (sites : List (Nat × Nat × Nat)) (rid : Nat) (ops : Array Oper) (i : Nat) (o : Oper) (r : Rec) : Prop
  | plain (st' : St) (hg : o.guard = none) (h : opK E cf (siteOf sites rid i) o r.st r.H (fun x s G => some (x, s, G)) = some (r.x, st', r.H1)) (h1 : r.st1 = stPut st' o.dst r.x)
  | on (j : Nat) (want : Bool) (v : AV) (hg : o.guard = some (j, want)) (hb : guardOf ops r.st j want = some want) (hk : keepsL r.st o = true) (hx : r.x = .val v)
      (h : opK E cf none o r.st r.H (fun x s G => some (x, s, G)) = some (r.x, r.st, r.H1)) (h1 : r.st1 = stPut r.st o.dst r.x)
  | off (j : Nat) (want b : Bool) (hg : o.guard = some (j, want)) (hb : guardOf ops r.st j want = some b) (hne : (b == want) = false) (hx : r.x = .val (.tup [])) (hH : r.H1 = r.H) (h1 : r.st1 = stPut r.st o.dst r.x)

inductive Run (E : Env) (cf : CallFn) (sites : List (Nat × Nat × Nat)) (rid : Nat) (ops : Array Oper) : Nat → List Oper → St → Heap → List Rec → St → Heap → Prop
  | nil (i : Nat) (st : St) (H : Heap) : Run E cf sites rid ops i [] st H [] st H
  | cons (i : Nat) (o : Oper) (os : List Oper) (r : Rec) (rs : List Rec) (st' : St) (H' : Heap) : TextStep E cf sites rid ops i o r → Run E cf sites rid ops (i + 1) os r.st1 r.H1 rs st' H' →
      Run E cf sites rid ops i (o :: os) r.st r.H (r :: rs) st' H'

section
variable {E : Env} {cf : CallFn} {sites : List (Nat × Nat × Nat)} {rid : Nat} {ops : Array Oper} {d : DInfo} {st' : St} {H' : Heap}

theorem keepsL_touch {st : St} {o : Oper} (hk : keepsL st o = true) (s : Nat) : touchOf st none o ≠ some (s, true) := fun e => by
  unfold touchOf at e
  unfold keepsL at hk
  cases ho : o.op <;> simp only [ho] at e hk
  case store t y z =>
    cases y with
    | tmp q =>
      dsimp only at e hk
      cases hq : st.get q <;> simp only [hq] at e hk <;> first | (cases hk; done) | (cases e; done)
    | _ => cases e
  case load t y =>
    cases y with
    | tmp q =>
      dsimp only at e
      cases hq : st.get q <;> simp [hq] at e
    | _ => cases e
  all_goals cases e

theorem opsD_run (hcn : CNat cf) (H0 : Heap) : ∀ (l : List Oper) (i : Nat) (tr : List Rec) (st : St) (H : Heap), opsD E cf sites d rid ops H0 l i tr st H (fun s G => some (s, G)) = some (st', H') →
    ∃ rs, Run E cf sites rid ops i l st H rs st' H' ∧ drawOk E sites d rid ops H0 (tr.reverse ++ rs) = true
  | [], i, tr, st, H, h => by
    unfold opsD at h
    cases hd : drawOk E sites d rid ops H0 tr.reverse
    · rw [hd] at h; cases h
    · rw [hd] at h
      simp only [cond_true, Option.some.injEq, Prod.mk.injEq] at h
      obtain ⟨rfl, rfl⟩ := h
      exact ⟨[], .nil _ _ _, by rw [List.append_nil]; exact hd⟩
  | o :: l, i, tr, st, H, h => by
    unfold opsD at h
    split at h
    · rename_i hg
      rw [opK_nat hcn] at h
      simp only [Option.bind_eq_some_iff] at h
      obtain ⟨⟨x, st1, H1⟩, h1, h2⟩ := h
      obtain ⟨rs, k1, k2⟩ := opsD_run hcn H0 l _ _ _ _ h2
      refine ⟨⟨st, H, x, stPut st1 o.dst x, H1⟩ :: rs, .cons i o l ⟨st, H, x, stPut st1 o.dst x, H1⟩ rs _ _ (.plain st1 hg h1 rfl) k1, ?_⟩
      simpa using k2
    · rename_i j want hg
      split at h
      · rename_i b hb
        split at h
        · rename_i p hp
          unfold guarded at hp
          obtain ⟨rs, k1, k2⟩ := opsD_run hcn H0 l _ _ _ _ h
          refine ⟨⟨st, H, .val p.1, stPut st o.dst (.val p.1), p.2⟩ :: rs, .cons i o l ⟨st, H, .val p.1, stPut st o.dst (.val p.1), p.2⟩ rs _ _ ?_ k1, by simpa using k2⟩
          cases hbw : (b == want)
          · rw [hbw] at hp
            simp only [cond_false, Option.some.injEq] at hp
            subst hp
            exact .off j want b hg hb hbw rfl rfl rfl
          · rw [hbw] at hp
            simp only [cond_true] at hp
            have hbe : b = want := by simpa using hbw
            subst hbe
            refine .on j b p.1 hg hb ?_ rfl (guarded_ok hcn hp) rfl
            unfold guardedK at hp
            cases hk : keepsL st o
            · rw [hk] at hp; cases hp
            · rfl
        · cases h
      · cases h

/-- The frame ahead of the k-th operation. -/
def frameAt (rs : List Rec) (st' : St) (k : Nat) : St := match rs[k]? with | some r => r.st | none => st'
def heapAt (rs : List Rec) (H' : Heap) (k : Nat) : Heap := match rs[k]? with | some r => r.H | none => H'
def valAt (rs : List Rec) (k : Nat) : SV := match rs[k]? with | some r => r.x | none => .no

theorem run_start {i : Nat} {l : List Oper} {st : St} {H : Heap} {rs : List Rec} (h : Run E cf sites rid ops i l st H rs st' H') : frameAt rs st' 0 = st ∧ heapAt rs H' 0 = H ∧ rs.length = l.length := by
  induction h with
  | nil => exact ⟨rfl, rfl, rfl⟩
  | cons i o os r rs st' H' h1 h2 ih => exact ⟨rfl, rfl, by simp [ih.2.2]⟩

theorem run_at {i : Nat} {l : List Oper} {st : St} {H : Heap} {rs : List Rec} (h : Run E cf sites rid ops i l st H rs st' H') : ∀ {k : Nat} {o : Oper}, l[k]? = some o →
    rs[k]? = some ⟨frameAt rs st' k, heapAt rs H' k, valAt rs k, frameAt rs st' (k + 1), heapAt rs H' (k + 1)⟩ ∧ TextStep E cf sites rid ops (i + k) o ⟨frameAt rs st' k, heapAt rs H' k, valAt rs k, frameAt rs st' (k + 1), heapAt rs H' (k + 1)⟩ := by
  induction h with
  | nil => intro k o hk; simp at hk
  | cons i o os r rs st' H' h1 h2 ih =>
    intro k q hk
    cases k with
    | zero =>
      obtain ⟨e1, e2, _⟩ := run_start h2
      simp only [List.getElem?_cons_zero, Option.some.injEq] at hk
      subst hk
      have hr : (⟨frameAt (r :: rs) st' 0, heapAt (r :: rs) H' 0, valAt (r :: rs) 0, frameAt (r :: rs) st' 1, heapAt (r :: rs) H' 1⟩ : Rec) = r := by
        have a1 : frameAt (r :: rs) st' 1 = r.st1 := e1
        have a2 : heapAt (r :: rs) H' 1 = r.H1 := e2
        rw [a1, a2]
        rfl
      rw [hr]
      exact ⟨rfl, h1⟩
    | succ k =>
      have := ih (k := k) (o := q) (by simpa using hk)
      have e : (i + 1 + k) = i + (k + 1) := by omega
      rw [e] at this
      exact this

end
end Go.Den

/- DEN, part Z: regions whose order is open (on): what their text says, and the walk in any order. -/
namespace Go.Den
open Go.RowKit

section
variable {E : Env} {cf : CallFn} {sites : List (Nat × Nat × Nat)} {rid : Nat} {ops : Array Oper} {d : DInfo} {st' : St} {H' : Heap}

def loudAt (E : Env) (sites : List (Nat × Nat × Nat)) (rid : Nat) (ops : Array Oper) (j : Nat) : Bool :=
  match ops[j]? with
  | some o => isLoud E (siteAt sites rid j o) o
  | none => false

/-- What the check of the text tells. -/
structure TextOK (E : Env) (sites : List (Nat × Nat × Nat)) (rid : Nat) (ops : Array Oper) (d : DInfo) : Prop where
  edge : ∀ (i j : Nat) (o q : Oper), ops[i]? = some o → ops[j]? = some q → bef d i j = true → ∃ e ∈ o.after.toList, Region.binds .any e = true ∧ e.on < i ∧ (e.on = j ∨ bef d e.on j = true)
  back : ∀ (i : Nat) (o : Oper), ops[i]? = some o → ∀ e ∈ o.after.toList, Region.binds .any e = true → e.on < i
  loud : ∀ (i j : Nat) (o q : Oper), ops[i]? = some o → ops[j]? = some q → j < i → loudAt E sites rid ops i = true → loudAt E sites rid ops j = true → bef d i j = true
  slots : ∀ (i j : Nat) (o q : Oper) (t : Tmp), ops[i]? = some o → ops[j]? = some q → i ≠ j → q.dst = some t → t ∈ looks ops o → bef d i j = true ∨ bef d j i = true
  dsts : ∀ (i j : Nat) (o q : Oper) (t : Tmp), ops[i]? = some o → ops[j]? = some q → i ≠ j → o.dst = some t → q.dst ≠ some t
  wins : ∀ (i : Nat) (o : Oper), ops[i]? = some o → loudAt E sites rid ops i = false → reads o = true →
    (countLoud E sites rid ops fun j => !bef d j i) ≤ (countLoud E sites rid ops fun j => bef d i j) ∨
      ∃ l h, winOf i d.wins = some (l, h) ∧ l ≤ (countLoud E sites rid ops fun j => bef d i j) ∧ (countLoud E sites rid ops fun j => !bef d j i) ≤ h

theorem textOK (h : staticOk E sites rid ops d = true) : TextOK E sites rid ops d := by
  have hop : ∀ (i : Nat) (o : Oper), ops[i]? = some o → opOk E sites rid ops d i = true := fun i o ho => by
    unfold staticOk at h
    exact List.all_eq_true.1 h i (List.mem_range.2 (Array.getElem?_eq_some_iff.1 ho).1)
  have hpair : ∀ (i j : Nat) (o q : Oper), ops[i]? = some o → ops[j]? = some q → pairOk E sites rid ops d i o j = true := fun i j o q hi hj => by
    have := hop i o hi
    unfold opOk at this
    rw [hi] at this
    simp only [Bool.and_eq_true] at this
    exact List.all_eq_true.1 this.1.1 j (List.mem_range.2 (Array.getElem?_eq_some_iff.1 hj).1)
  have hl : ∀ (i : Nat) (o : Oper), ops[i]? = some o → loudAt E sites rid ops i = isLoud E (siteAt sites rid i o) o := fun i o ho => by
    unfold loudAt; rw [ho]
  refine ⟨?_, ?_, ?_, ?_, ?_, ?_⟩
  · intro i j o q hi hj hb
    have := hpair i j o q hi hj
    unfold pairOk at this
    rw [hj] at this
    simp only [Bool.and_eq_true, hb, Bool.not_true, Bool.false_or] at this
    obtain ⟨e, he, h1⟩ := Array.any_eq_true'.1 this.1.1.1
    simp only [Bool.and_eq_true, decide_eq_true_eq, Bool.or_eq_true] at h1
    exact ⟨e, by simpa using he, h1.1.1, h1.1.2, h1.2.imp (fun h => Nat.eq_of_beq_eq_true h) id⟩
  · intro i o hi e he hb
    have := hop i o hi
    unfold opOk at this
    rw [hi] at this
    simp only [Bool.and_eq_true] at this
    have := Array.all_eq_true'.1 this.1.2 e (by simpa using he)
    simpa [hb] using this
  · intro i j o q hi hj hlt h1 h2
    have := hpair i j o q hi hj
    rw [hl i o hi] at h1
    rw [hl j q hj] at h2
    unfold pairOk at this
    rw [hj] at this
    simp only [Bool.and_eq_true] at this
    simpa [hlt, h1, h2] using this.1.1.2
  · intro i j o q t hi hj hne hd ht
    have := hpair i j o q hi hj
    unfold pairOk at this
    rw [hj] at this
    simp only [Bool.and_eq_true] at this
    have h1 := this.1.2
    have hs : slotsApart o q ops = false := by
      unfold slotsApart
      rw [hd]
      simpa using ht
    have hb : Nat.beq i j = false := by
      cases hb : Nat.beq i j
      · rfl
      · exact absurd (Nat.eq_of_beq_eq_true hb) hne
    rw [hs, hb] at h1
    simpa using h1
  · intro i j o q t hi hj hne hd
    have := hpair i j o q hi hj
    unfold pairOk at this
    rw [hj] at this
    simp only [Bool.and_eq_true] at this
    have h1 := this.2
    have hb : Nat.beq i j = false := by
      cases hb : Nat.beq i j
      · rfl
      · exact absurd (Nat.eq_of_beq_eq_true hb) hne
    rw [hb, hd] at h1
    intro e
    rw [e] at h1
    simp at h1
  · intro i o hi h1 h2
    have := hop i o hi
    rw [hl i o hi] at h1
    unfold opOk at this
    rw [hi] at this
    simp only [Bool.and_eq_true, h1, h2, Bool.false_or, Bool.not_true, Bool.or_eq_true, Nat.ble_eq] at this
    rcases this.2 with h3 | h3
    · exact .inl h3
    · split at h3
      · rename_i l h hw
        simp only [Bool.and_eq_true, Nat.ble_eq] at h3
        exact .inr ⟨l, h, hw, h3.1, h3.2⟩
      · cases h3

theorem TextOK.lt (hT : TextOK E sites rid ops d) : ∀ (i j : Nat) (o q : Oper), ops[i]? = some o → ops[j]? = some q → bef d i j = true → j < i := by
  intro i
  induction i using Nat.strongRecOn with
  | _ i ih =>
    intro j o q hi hj hb
    obtain ⟨e, he, h1, h2, h3⟩ := hT.edge i j o q hi hj hb
    rcases h3 with rfl | h3
    · exact h2
    · have hlt := (Array.getElem?_eq_some_iff.1 hi).1
      have := ih e.on h2 j _ q (Array.getElem?_eq_getElem (by omega)) hj h3
      omega

/-- A set of operations that holds, with each one, what it waits for. -/
def Closed (ops : Array Oper) (M : Nat → Prop) : Prop := ∀ (i : Nat) (o : Oper), ops[i]? = some o → M i → ∀ e ∈ o.after.toList, Region.binds .any e = true → M e.on

theorem Closed.bef (hT : TextOK E sites rid ops d) {M : Nat → Prop} (hc : Closed ops M) : ∀ (i j : Nat) (o q : Oper), ops[i]? = some o → ops[j]? = some q → bef d i j = true → (∀ e ∈ o.after.toList, Region.binds .any e = true → M e.on) → M j := by
  intro i
  induction i using Nat.strongRecOn with
  | _ i ih =>
    intro j o q hi hj hb hr
    obtain ⟨e, he, h1, h2, h3⟩ := hT.edge i j o q hi hj hb
    rcases h3 with rfl | h3
    · exact hr e he h1
    · have hlt := (Array.getElem?_eq_some_iff.1 hi).1
      have hg : ops[e.on]? = some _ := Array.getElem?_eq_getElem (show e.on < ops.size by omega)
      exact ih e.on h2 j _ q hg hj h3 (hc e.on _ hg (hr e he h1))

/-! ### what the text's order touched, and the versions of the small heap -/

theorem touchOk_mem {j s : Nat} {w : Bool} : ∀ {l : List (Nat × Nat × Bool)}, touchOk d j s w l = true → ∀ {i : Nat} {w' : Bool}, (i, s, w') ∈ l → (w || w') = true → bef d i j = true
  | [], _, i, w', hm, _ => by cases hm
  | (i0, s0, w0) :: l, h, i, w', hm, hw => by
    unfold touchOk at h
    simp only [Bool.and_eq_true] at h
    rcases List.mem_cons.1 hm with e | hm
    · injection e with e1 e2
      injection e2 with e2 e3
      subst e1 e2 e3
      have h1 := h.1
      rw [hw] at h1
      simpa using h1
    · exact touchOk_mem h.2 hm hw

theorem touches_mem : ∀ {l : List Oper} {i : Nat} {rs : List Rec} {k : Nat} {o : Oper} {r : Rec} {s : Nat} {w : Bool}, l[k]? = some o → rs[k]? = some r → touchOf r.st (siteAt sites rid (i + k) o) o = some (s, w) → (i + k, s, w) ∈ touches sites rid l i rs
  | [], _, _, _, _, _, _, _, h, _, _ => by simp at h
  | _ :: _, _, [], _, _, _, _, _, _, h, _ => by simp at h
  | o0 :: l, i, r0 :: rs, 0, o, r, s, w, h1, h2, h3 => by
    simp only [List.getElem?_cons_zero, Option.some.injEq] at h1 h2
    subst h1 h2
    unfold touches
    rw [show i + 0 = i from rfl] at h3
    rw [h3]
    exact List.mem_cons_self
  | o0 :: l, i, r0 :: rs, k + 1, o, r, s, w, h1, h2, h3 => by
    have := touches_mem (i := i + 1) (k := k) (l := l) (rs := rs) (by simpa using h1) (by simpa using h2) (by rw [show i + 1 + k = i + (k + 1) by omega]; exact h3)
    rw [show i + 1 + k = i + (k + 1) by omega] at this
    unfold touches
    split
    · exact List.mem_cons_of_mem _ this
    · exact this

theorem touches_ok : ∀ (l : List Oper) (i : Nat) (rs : List Rec), touchesOk d (touches sites rid l i rs) = true → ∀ (k k' : Nat) (o o' : Oper) (r r' : Rec) (s : Nat) (w w' : Bool), k < k' → l[k]? = some o → l[k']? = some o' → rs[k]? = some r → rs[k']? = some r' →
    touchOf r.st (siteAt sites rid (i + k) o) o = some (s, w) → touchOf r'.st (siteAt sites rid (i + k') o') o' = some (s, w') → (w || w') = true → bef d (i + k') (i + k) = true := by
  intro l
  induction l with
  | nil => intro i rs _ k k' o o' r r' s w w' _ h; simp at h
  | cons o0 l ih =>
    intro i rs h k k' o o' r r' s w w' hlt h1 h2 h3 h4 h5 h6 hw
    cases rs with
    | nil => simp at h3
    | cons r0 rs =>
      obtain ⟨k', rfl⟩ : ∃ n, k' = n + 1 := ⟨k' - 1, by omega⟩
      have e' : i + 1 + k' = i + (k' + 1) := by omega
      rw [← e'] at h6 ⊢
      cases k with
      | zero =>
        simp only [List.getElem?_cons_zero, Option.some.injEq] at h1 h3
        subst h1 h3
        unfold touches at h
        rw [show i + 0 = i from rfl] at h5
        rw [h5] at h
        unfold touchesOk at h
        simp only [Bool.and_eq_true] at h
        have hm := touches_mem (sites := sites) (rid := rid) (i := i + 1) (k := k') (l := l) (rs := rs) (o := o') (r := r') (s := s) (w := w') (by simpa using h2) (by simpa using h4) h6
        exact touchOk_mem h.1 hm hw
      | succ k =>
        have e : i + 1 + k = i + (k + 1) := by omega
        rw [← e] at h5 ⊢
        have h' : touchesOk d (touches sites rid l (i + 1) rs) = true := by
          unfold touches at h
          split at h
          · unfold touchesOk at h
            simp only [Bool.and_eq_true] at h
            exact h.2
          · exact h
        exact ih (i + 1) rs h' k k' o o' r r' s w w' (by omega) (by simpa using h1) (by simpa using h2) (by simpa using h3) (by simpa using h4) h5 h6 hw

theorem dropK_eq {α : Type} : ∀ (n : Nat) (l : List α), dropK n l = l.drop n
  | 0, l => rfl
  | n + 1, [] => rfl
  | n + 1, _ :: l => dropK_eq n l

theorem allOk_get {ok : Heap → Bool} : ∀ {n : Nat} {l : List Heap}, allOk ok n l = true → ∀ {m : Nat} {G : Heap}, m < n → l[m]? = some G → ok G = true
  | 0, _, _, _, _, h, _ => by omega
  | n + 1, [], _, _, _, _, h => by simp at h
  | n + 1, G0 :: l, h, m, G, hm, hg => by
    unfold allOk at h
    simp only [Bool.and_eq_true] at h
    cases m with
    | zero =>
      simp only [List.getElem?_cons_zero, Option.some.injEq] at hg
      subst hg
      exact h.1
    | succ m => exact allOk_get h.2 (show m < n by omega) (by simpa using hg)

theorem winsOk_get {wins : List (Nat × Nat × Nat)} {vers : List Heap} : ∀ (l : List Oper) (i : Nat) (rs : List Rec), winsOk E sites wins rid ops vers l i rs = true → ∀ (k : Nat) (o : Oper) (r : Rec) (lo hi m : Nat) (G : Heap), l[k]? = some o → rs[k]? = some r → winOf (i + k) wins = some (lo, hi) →
    isLoud E (siteAt sites rid (i + k) o) o = false → reads o = true → acts ops r.st o = true → heapy r.st o = true → lo ≤ m → m ≤ hi → vers[m]? = some G → sameAt E o r G = true := by
  intro l
  induction l with
  | nil => intro i rs _ k o r lo hi m G h; simp at h
  | cons o0 l ih =>
    intro i rs h k o r lo hi m G h1 h2 h3 h4 h5 h6 h7 h8 h9 hG
    cases rs with
    | nil => simp at h2
    | cons r0 rs =>
      unfold winsOk at h
      simp only [Bool.and_eq_true] at h
      cases k with
      | zero =>
        simp only [List.getElem?_cons_zero, Option.some.injEq] at h1 h2
        subst h1 h2
        have := h.1
        rw [show i + 0 = i from rfl] at h3 h4
        rw [h3] at this
        simp only [h4, h5, h6, h7, Bool.not_false, Bool.and_self, cond_true] at this
        refine allOk_get this (m := m - lo) (by omega) ?_
        rw [dropK_eq, List.getElem?_drop, show lo + (m - lo) = m by omega]
        exact hG
      | succ k =>
        have e : i + 1 + k = i + (k + 1) := by omega
        rw [← e] at h3 h4
        exact ih (i + 1) rs h.2 k o r lo hi m G (by simpa using h1) (by simpa using h2) h3 h4 h5 h6 h7 h8 h9 hG

/-- How many of the first k are loud. -/
def louds (E : Env) (sites : List (Nat × Nat × Nat)) (rid : Nat) (ops : Array Oper) (k : Nat) : Nat := ((List.range k).filter fun j => loudAt E sites rid ops j).length

theorem louds_succ {k : Nat} : louds E sites rid ops (k + 1) = louds E sites rid ops k + (if loudAt E sites rid ops k = true then 1 else 0) := by
  unfold louds
  rw [List.range_succ, List.filter_append, List.length_append]
  congr 1
  cases h : loudAt E sites rid ops k <;> simp [h]

end
end Go.Den

/- DEN, part Za: regions whose order is open (on): one operation, in whatever order. -/
namespace Go.Den
open Go.RowKit

section
variable {E : Env} {cf : CallFn} {sites : List (Nat × Nat × Nat)} {rid : Nat} {ops : Array Oper} {d : DInfo} {st' : St} {H' : Heap} {i : Nat} {o : Oper} {r : Rec}

theorem siteAt_none (hg : o.guard = none) : siteAt sites rid i o = siteOf sites rid i := by unfold siteAt; rw [hg]
theorem siteAt_some {j : Nat} {w : Bool} (hg : o.guard = some (j, w)) : siteAt sites rid i o = none := by unfold siteAt; rw [hg]

/-- The frame behind an operation, in the text's order and in another one. -/
inductive Eff2 (o : Oper) (site : Option Nat) (st0 st1 sa sa1 : St) : Prop
  | none (e : st1 = st0) (e2 : sa1 = sa)
  | set (s : Nat) (cs : List AV) (h : touchOf st0 site o = some (s, true)) (e : st1 = st0.setVar s cs) (e2 : sa1 = sa.setVar s cs)

theorem touch_dec (st : St) (site : Option Nat) (o : Oper) : (∃ s, touchOf st site o = some (s, true)) ∨ ∀ s, touchOf st site o ≠ some (s, true) := by
  cases h : touchOf st site o with
  | none => exact .inr (fun s e => by cases e)
  | some p =>
    obtain ⟨s, w⟩ := p
    cases w
    · exact .inr (fun s' e => by cases e)
    · exact .inl ⟨s, rfl⟩

theorem step_quiet (hcn : CNat cf) (h : TextStep E cf sites rid ops i o r) (hl : isLoud E (siteAt sites rid i o) o = false) : r.H1 = r.H := by
  cases h with
  | plain st1 hg h h1 =>
    rw [siteAt_none hg] at hl
    rcases touch_dec r.st (siteOf sites rid i) o with ⟨s, ht⟩ | ht
    · obtain ⟨cs, _, h2, _⟩ := write_ok ht h
      exact h2
    · rw [quiet_ok hl ht] at h
      simp only [Option.bind_eq_some_iff, Option.some.injEq, Prod.mk.injEq] at h
      obtain ⟨_, _, _, _, h2⟩ := h
      exact h2.symm
  | on j want v hg hb hk hx h h1 =>
    rw [siteAt_some hg] at hl
    rw [quiet_ok hl (keepsL_touch hk)] at h
    simp only [Option.bind_eq_some_iff, Option.some.injEq, Prod.mk.injEq] at h
    obtain ⟨_, _, _, _, h2⟩ := h
    exact h2.symm
  | off j want b hg hb hne hx hH h1 => exact hH

/-- One operation where other ones have been done, or have not. -/
theorem step_any (hcn : CNat cf) (hck : CallKOK E cf) (h : TextStep E cf sites rid ops i o r) (ho : ops[i]? = some o) {sa : St} {C : Ctx} {lam : Nat → Nat} {a : Act} {Q : Exit → Act → World → Prop} {K : Act → World → Prop} {G1 : Heap} (hr : HR E C) (hf : FrameR C lam sa a)
    (ha : ∀ t ∈ looks ops o, sa.get t = r.st.get t) (hv : ∀ s w, touchOf r.st (siteAt sites rid i o) o = some (s, w) → sa.var s = r.st.var s ∧ sa.L.has s = r.st.L.has s)
    (hH : (isLoud E (siteAt sites rid i o) o = true ∧ C.H = r.H ∧ G1 = r.H1) ∨
      (isLoud E (siteAt sites rid i o) o = false ∧ G1 = C.H ∧ ((reads o = false ∨ heapy r.st o = false) ∨ (acts ops r.st o = true → sameAt E o r C.H = true ∨ C.H = r.H)))) :
    ∃ st1 sa1, r.st1 = stPut st1 o.dst r.x ∧ Eff2 o (siteAt sites rid i o) r.st st1 sa sa1 ∧ ((∀ a' w', Post E C (stPut sa1 o.dst r.x) G1 a' w' → K a' w') → wpOp E.P ops Q i K a C.w) := by
  have hops : ∀ t, Operand.tmp t ∈ o.op.operands.toList → sa.get t = r.st.get t := fun t ht => ha t (by
    unfold looks
    exact List.mem_append_left _ (List.mem_filterMap.2 ⟨_, ht, rfl⟩))
  have hguard : ∀ j w, o.guard = some (j, w) → guardOf ops sa j w = guardOf ops r.st j w := fun j w hg => by
    unfold guardOf
    cases hd : (ops[j]?).bind (·.dst) with
    | none => rfl
    | some t =>
      dsimp only
      rw [ha t (by unfold looks; rw [hg]; dsimp only; rw [hd]; exact List.mem_append_right _ (by simp))]
  have hK : ∀ {sa1 : St} {site : Option Nat}, opK E cf site o sa C.H (fun x s G => some (x, s, G)) = some (r.x, sa1, G1) → Region.wanted o (yielded ops a.tmps) = true → (∀ a' w', Post E C (stPut sa1 o.dst r.x) G1 a' w' → K a' w') → wpOp E.P ops Q i K a C.w := fun h1 hw hk => by
    unfold wpOp
    rw [ho]
    dsimp only
    rw [if_pos hw]
    exact .inl (Oper.wp_mono hk (op_sound hcn hck hr hf h1))
  cases h with
  | plain st1 hg h h1 =>
    rw [siteAt_none hg] at hv hH ⊢
    have hw : Region.wanted o (yielded ops a.tmps) = true := wanted_none hg
    refine ⟨st1, ?_⟩
    rcases touch_dec r.st (siteOf sites rid i) o with ⟨s, ht⟩ | ht
    · obtain ⟨cs, e1, e2, h3⟩ := write_ok ht h
      obtain ⟨v1, v2⟩ := hv s true ht
      have h4 := h3 sa C.H hops v1 v2
      have hG : G1 = C.H := by
        rcases hH with ⟨_, h5, h6⟩ | ⟨_, h5, _⟩
        · rw [h6, e2, h5]
        · exact h5
      subst hG
      exact ⟨sa.setVar s cs, h1, .set s cs ht e1 rfl, hK h4 hw⟩
    · have hv' : ∀ s, touchOf r.st (siteOf sites rid i) o = some (s, false) → sa.var s = r.st.var s := fun s e => (hv s false e).1
      rcases hH with ⟨hl, hC, rfl⟩ | ⟨hl, rfl, hG⟩
      · obtain ⟨e1, h2⟩ := loud_move hcn ht h hops hv'
        rw [← hC] at h2
        exact ⟨sa, h1, .none e1 rfl, hK h2 hw⟩
      · obtain ⟨e1, _, h2⟩ := quiet_move (G := C.H) hcn hl ht h (by
          rcases hG with hG | hG
          · exact .inl hG
          · refine .inr ?_
            rcases hG (by unfold acts; rw [hg]) with h3 | h3
            · exact .inl h3
            · exact .inr h3) hops hv'
        exact ⟨sa, h1, .none e1 rfl, hK h2 hw⟩
  | on j want v hg hb hk hx h h1 =>
    rw [siteAt_some hg] at hv hH ⊢
    have hw : Region.wanted o (yielded ops a.tmps) = true := by
      rw [wanted_some hf hg (by rw [hguard j want hg]; exact hb)]
      simp
    have ht := keepsL_touch hk
    have hv' : ∀ s, touchOf r.st none o = some (s, false) → sa.var s = r.st.var s := fun s e => (hv s false e).1
    refine ⟨r.st, sa, h1, .none rfl rfl, ?_⟩
    rcases hH with ⟨hl, hC, rfl⟩ | ⟨hl, rfl, hG⟩
    · obtain ⟨_, h2⟩ := loud_move hcn ht h hops hv'
      rw [← hC] at h2
      exact hK h2 hw
    · obtain ⟨_, _, h2⟩ := quiet_move (G := C.H) hcn hl ht h (by
        rcases hG with hG | hG
        · exact .inl hG
        · refine .inr ?_
          rcases hG (by unfold acts; rw [hg]; dsimp only; rw [hb]; simp) with h3 | h3
          · exact .inl (by
              unfold sameAt at h3 ⊢
              exact h3)
          · exact .inr h3) hops hv'
      exact hK h2 hw
  | off j want b hg hb hne hx hHH h1 =>
    rw [siteAt_some hg] at hv hH ⊢
    have hw : Region.wanted o (yielded ops a.tmps) = false := by
      rw [wanted_some hf hg (by rw [hguard j want hg]; exact hb)]
      exact hne
    have hG : G1 = C.H := by
      rcases hH with ⟨_, h5, h6⟩ | ⟨_, h5, _⟩
      · rw [h6, hHH, h5]
      · exact h5
    subst hG
    refine ⟨r.st, sa, h1, .none rfl rfl, fun hk => ?_⟩
    unfold wpOp
    rw [ho]
    dsimp only
    rw [if_neg (by rw [hw]; simp)]
    refine hk _ _ ⟨C, lam, rfl, rfl, hr, Ev.refl C, ?_⟩
    rw [hx]
    exact hf.put (x := .val (.tup [])) (.tup _ [] #[] (.nil _))

end
end Go.Den
