/- Texts put together: DenU, DenX, DenV, DenW, DenY, DenZ, DenZa, DenZb, DenZc, DenZd, DenZe, DenZf, DenZg, DenZh, DenZi. -/
import Derived.Test.YtleikacgncpfbaaDoorMb
import Derived.Scope
import Derived.LoopN
import Derived.Orders
import Derived.ProofKit
import Derived.OpenShut
import Derived.ChangeArms
import Derived.ChangeOld
import Derived.WalkKit

/- DEN, part U: control. -/
namespace Go.Den
open Go.RowKit

def AExit.to : AExit → Exit
  | .normal => .normal
  | .exit id => .exit id
  | .ret => .ret

/-- What stands of regions whose order is open. -/
def DrawOK (E : Env) (cf : CallFn) (fa : FAnn) (ok : Nat → Array Oper → DInfo → Bool) : Prop :=
  ∀ (rid : Nat) (ops : Array Oper) (d : DInfo) (st : St) (C : Ctx) (lam : Nat → Nat) (a : Act) (st' : St) (H' : Heap) (Q : Exit → Act → World → Prop), ok rid ops d = true →
    opsD E cf fa.sites d rid ops C.H ops.toList 0 [] st C.H (fun s G => some (s, G)) = some (st', H') → HR E C → FrameR C lam st a → (∀ a' w', Post E C st' H' a' w' → Q .normal a' w') →
      ∀ ro, (Code.region rid ops true).wpIn (FW ro) 0 E.P Q a C.w

section scope
variable {P : Program} {b : Frame} {a : Act} {k : List Item} {cs : List Frame} {w : World} {F : Fence} {n : Nat} {Q : Exit → Act → World → Prop}
theorem stepR_scope {c : Code} : step P (lone (b.atR a (.code (.scope c) :: k)) cs w) = .next (lone (b.atR a (.code c :: .inScope c :: k)) cs w) :=
  step_lone_go (by simp [stepG, stepG.exec, Frame.atR])
theorem stepR_inScope {c : Code} : step P (lone (b.atR a (.inScope c :: k)) cs w) = .next (lone (b.atR a k) cs w) :=
  step_lone_go (by simp [stepG, stepG.exec, Frame.atR])
theorem wpIn_scope_straight {c : Code} (h : c.wpIn F n P (Exit.noGoto Q) a w) : (Code.scope c).wpIn F n P Q a w := by
  intro b k cs hro hb hr
  have h0 : (lone (b.atR a (.code (.scope c) :: k)) cs w).fenced P F := fenced_calm hb hr rfl
  obtain ⟨e, a₁, w₁, hq, harr⟩ := h b (.inScope c :: k) cs hro hb hr
  cases e with
  | normal => exact ⟨.normal, a₁, w₁, hq, .head h0 stepR_scope (StepsIn.trans harr (.one (fenced_calm hb hr rfl) stepR_inScope))⟩
  | exit id' =>
    have hx : exitTo id' (.inScope c :: k) = exitTo id' k := by simp [exitTo]
    exact ⟨.exit id', a₁, w₁, hq, fun k' hk => .head h0 stepR_scope (harr.1 k' (by rw [hx]; exact hk)),
      fun hr' hk => let ⟨k₁, h1, h2⟩ := harr.2 hr' (by rw [hx]; exact hk); ⟨k₁, h1, .head h0 stepR_scope h2⟩⟩
  | goto l => exact hq.elim
  | ret => exact ⟨_, a₁, w₁, hq, .of_steps (.one h0 stepR_scope) harr⟩
  | panic ch => exact ⟨_, a₁, w₁, hq, .of_steps (.one h0 stepR_scope) harr⟩
  | outgrown => exact ⟨_, a₁, w₁, hq, .of_steps (.one h0 stepR_scope) harr⟩
end scope

section
variable {E : Env} {cf : CallFn} {C C' : Ctx} {lam : Nat → Nat} {st : St} {a : Act} {Q : Exit → Act → World → Prop} {st' : St} {H' : Heap}

theorem zipVars_mem {cs : List (List AV)} : ∀ {is : List Nat} {j i : Nat} {x : Option (List AV)}, (i, x) ∈ zipVars cs is j → ∃ m, is[m]? = some i ∧ x = some (cs.getD (j + m) [])
  | [], _, _, _, h => by cases h
  | a :: is, j, i, x, h => by
    unfold zipVars at h
    rcases List.mem_cons.1 h with e | h
    · injection e with e1 e2
      exact ⟨0, by rw [e1]; rfl, e2⟩
    · obtain ⟨m, h1, h2⟩ := zipVars_mem h
      exact ⟨m + 1, by simpa using h1, by rw [h2, show j + 1 + m = j + (m + 1) by omega]⟩
theorem zipVals_mem {vs : List AV} : ∀ {is : List Nat} {j i : Nat} {x : SV}, (i, x) ∈ zipVals vs is j → ∃ m, is[m]? = some i ∧ x = .val (vs.getD (j + m) .undef)
  | [], _, _, _, h => by cases h
  | a :: is, j, i, x, h => by
    unfold zipVals at h
    rcases List.mem_cons.1 h with e | h
    · injection e with e1 e2
      exact ⟨0, by rw [e1]; rfl, e2⟩
    · obtain ⟨m, h1, h2⟩ := zipVals_mem h
      exact ⟨m + 1, by simpa using h1, by rw [h2, show j + 1 + m = j + (m + 1) by omega]⟩
theorem varsOf_get {st : St} : ∀ {is : List Nat} {cs : List (List AV)}, varsOf st is = some cs → ∀ {m i : Nat}, is[m]? = some i → st.var i = some (cs.getD m [])
  | [], _, _, m, i, hi => by simp at hi
  | a :: is, cs, h, m, i, hi => by
    unfold varsOf at h
    split at h
    · rename_i c hc
      split at h
      · rename_i l hl
        injection h with h
        subst h
        cases m with
        | zero =>
          simp only [List.length_cons, Nat.zero_lt_succ, List.getElem?_cons_zero, Option.some.injEq] at hi
          subst hi
          exact hc
        | succ m =>
          simp only [List.getElem?_cons_succ] at hi
          have := varsOf_get hl hi
          simpa using this
      · cases h
    · cases h
theorem lpsOk_get {st : St} : ∀ {l : List (Nat × Nat × Nat)}, lpsOk st l = true → ∀ {t s o : Nat}, (t, s, o) ∈ l → st.get t = .lp s o
  | [], _, _, _, _, h => by cases h
  | (t0, s0, o0) :: l, h, t, s, o, hm => by
    unfold lpsOk at h
    simp only [Bool.and_eq_true] at h
    rcases List.mem_cons.1 hm with e | hm
    · injection e with e1 e2
      injection e2 with e2 e3
      subst e1 e2 e3
      have := h.1
      split at this
      · rename_i s' o' hg
        simp only [Bool.and_eq_true] at this
        rw [hg, Nat.eq_of_beq_eq_true this.1, Nat.eq_of_beq_eq_true this.2]
      · cases this
    · exact lpsOk_get h.2 hm

theorem live_ok (hf : FrameR C lam st a) {k : LK} {l : Live} (h : st.live k = some l) : FrameR C lam (St.ofLive k st.N l) a := by
  unfold St.live at h
  have hlp : lpsOk st k.lps = true := by
    cases hb : lpsOk st k.lps
    · rw [hb] at h; cases h
    · rfl
  rw [hlp] at h
  simp only [cond_true] at h
  split at h
  · rename_i cs hcs
    injection h with h
    subst h
    have hvar : ∀ s c, (St.ofLive k st.N ⟨k.vals.map fun i => valOf (st.get i), cs⟩).var s = some c → st.var s = some c := fun s c hs => by
      have h' : Tr.get none (Tr.mk none k.d (zipVars cs k.vars 0)) s = some c := hs
      rcases Tr.get_mk (z := (none : Option (List AV))) (d := k.d) (zipVars cs k.vars 0) s with h1 | h1
      · rw [h1] at h'; cases h'
      · obtain ⟨m, h2, h3⟩ := zipVars_mem h1
        rw [h3] at h'
        rw [← h', varsOf_get hcs h2, Nat.zero_add]
    refine ⟨hf.size, hf.defers, fun t => ?_, fun s c hs => hf.vars s c (hvar s c hs)⟩
    have hg : (St.ofLive k st.N ⟨k.vals.map fun i => valOf (st.get i), cs⟩).get t = Tr.get .no (Tr.mk .no k.d (zipVals (k.vals.map fun i => valOf (st.get i)) k.vals 0 ++ k.lps.map fun p => (p.1, (SV.lp p.2.1 p.2.2).kept (k.L ⟨k.vals.map fun i => valOf (st.get i), cs⟩)))) t := rfl
    unfold SlotOk
    rcases Tr.get_mk (z := SV.no) (d := k.d) (zipVals (k.vals.map fun i => valOf (st.get i)) k.vals 0 ++ k.lps.map fun p => (p.1, (SV.lp p.2.1 p.2.2).kept (k.L ⟨k.vals.map fun i => valOf (st.get i), cs⟩))) t with h1 | h1
    · rw [hg, h1]
      trivial
    · rcases List.mem_append.1 h1 with h2 | h2
      · obtain ⟨m, h3, h4⟩ := zipVals_mem h2
        rw [hg, h4]
        dsimp only
        rw [Nat.zero_add, List.getD_eq_getElem?_getD, List.getElem?_map, h3]
        simp only [Option.map_some, Option.getD_some]
        have ht := hf.slots t
        unfold SlotOk at ht
        cases hx : st.get t with
        | val v => rw [hx] at ht; exact ht
        | lp _ _ => exact .undef _
        | no => exact .undef _
      · obtain ⟨⟨t0, s0, o0⟩, h3, h4⟩ := List.mem_map.1 h2
        injection h4 with h4 h5
        subst h4
        rw [hg, ← h5]
        have ht := hf.slots t0
        unfold SlotOk at ht
        rw [lpsOk_get hlp h3] at ht
        dsimp only at ht
        unfold SV.kept
        dsimp only
        cases hv : (k.L ⟨k.vals.map fun i => valOf (st.get i), cs⟩).get none s0 with
        | none => trivial
        | some c =>
          refine ⟨ht.1, ?_⟩
          show (k.L ⟨k.vals.map fun i => valOf (st.get i), cs⟩).get none s0 ≠ none
          rw [hv]
          simp
  · cases h

theorem AExit.is_eq {e x : AExit} (h : e.is x = true) : e = x := by
  cases e <;> cases x <;> first | rfl | (cases h; done) | skip
  rw [Nat.eq_of_beq_eq_true h]

theorem pickK_idx {R : Type} {k : AExit → Option R} {e : AExit} {i : Nat} : ∀ {outs : List AExit} {j : Nat}, idxOf e outs j = some i → j ≤ i ∧ pickK k i outs j = k e
  | [], _, h => by cases h
  | x :: r, j, h => by
    unfold idxOf at h
    cases hx : e.is x
    · rw [hx] at h
      simp only [cond_false] at h
      obtain ⟨h1, h2⟩ := pickK_idx (k := k) h
      refine ⟨by omega, ?_⟩
      unfold pickK
      have : Nat.beq i j = false := by
        cases hb : Nat.beq i j
        · rfl
        · have := Nat.eq_of_beq_eq_true hb
          omega
      rw [this]
      exact h2
    · rw [hx] at h
      simp only [cond_true, Option.some.injEq] at h
      subst h
      refine ⟨Nat.le_refl _, ?_⟩
      unfold pickK
      rw [show Nat.beq j j = true from Nat.beq_refl j, AExit.is_eq hx]
      rfl

/-- Behind a piece with a barrier. -/
theorem bar_some {F : (S : Type) → (AExit → St → Heap → Option S) → Option S} (hF : FNat F) {an : Ann} {N : Nat} {e : AExit} (h : bar an N F (fun e s G => some (e, s, G)) = some (e, st', H')) :
    ∃ s, F _ (fun e s G => some (e, s, G)) = some (e, s, H') ∧ ∀ C lam a, N = s.N → FrameR C lam s a → FrameR C lam st' a := by
  unfold bar at h
  split at h
  · rename_i kp outs x
    rw [hF (k := pairL kp outs) (g := fun e s G => some (e, s, G)) (h := fun p => pairL kp outs p.1 p.2.1 p.2.2) (fun _ _ _ => rfl)] at h
    cases hx : F _ (fun e s G => some (e, s, G)) with
    | none => rw [hx] at h; cases h
    | some p =>
      obtain ⟨e1, s1, G1⟩ := p
      rw [hx] at h
      simp only [Option.bind_some] at h
      unfold pairL at h
      cases hi : idxOf e1 outs 0 with
      | none => simp only [hi] at h; cases h
      | some i =>
        cases hl : s1.live kp with
        | none => simp only [hi, hl] at h; cases h
        | some l =>
          simp only [hi, hl, bindX] at h
          rw [(pickK_idx hi).2] at h
          simp only [Option.some.injEq, Prod.mk.injEq] at h
          obtain ⟨rfl, rfl, rfl⟩ := h
          exact ⟨s1, rfl, fun C lam a hN hf => by rw [hN]; exact live_ok hf hl⟩
  · exact ⟨st', h, fun C lam a _ hf => hf⟩

theorem Post.keep {s : St} {G : Heap} {a1 : Act} {w1 : World} (hk : ∀ C lam a, FrameR C lam s a → FrameR C lam st' a) (h : Post E C s G a1 w1) : Post E C st' G a1 w1 := by
  obtain ⟨C2, lam2, h1, h2, h3, h4, h5⟩ := h
  exact ⟨C2, lam2, h1, h2, h3, h4, hk _ _ _ h5⟩

/-- What goes on is told apart from what was done. -/
theorem exec_nat (hcn : CNat cf) {R : Type} (n : Nat) (fa : FAnn) (c : Code) (an : Ann) (st : St) (H : Heap) (k : AExit → St → Heap → Option R) :
    exec E cf n fa c an R st H k = (exec E cf n fa c an _ st H fun e s G => some (e, s, G)).bind fun p => k p.1 p.2.1 p.2.2 :=
  exec_to hcn n fa c an _ _ st H fun _ _ _ => rfl

theorem exec_split (hcn : CNat cf) {R : Type} {n : Nat} {fa : FAnn} {c : Code} {an : Ann} {st : St} {H : Heap} {k : AExit → St → Heap → Option R} {r : R} (h : exec E cf n fa c an R st H k = some r) :
    ∃ e s G, exec E cf n fa c an _ st H (fun e s G => some (e, s, G)) = some (e, s, G) ∧ k e s G = some r := by
  rw [exec_nat hcn] at h
  simp only [Option.bind_eq_some_iff] at h
  obtain ⟨⟨e, s, G⟩, h1, h2⟩ := h
  exact ⟨e, s, G, h1, h2⟩

theorem op_N (hcn : CNat cf) {o : Oper} {site : Option Nat} {x : SV} {H : Heap} (h : opK E cf site o st H (fun x s G => some (x, s, G)) = some (x, st', H')) : st'.N = st.N := by
  have fin : ∀ {y : SV} {s : St} {G : Heap}, s.N = st.N → (some (y, s, G) : Option (SV × St × Heap)) = some (x, st', H') → st'.N = st.N := fun hs h => by
    simp only [Option.some.injEq, Prod.mk.injEq] at h
    rw [← h.2.1]
    exact hs
  have wfin : ∀ {v : Option AV} {G : Heap}, withV v (fun v => some (SV.val v, st, G)) = some (x, st', H') → st'.N = st.N := fun h => by
    obtain ⟨v, _, h⟩ := withV_some h
    exact fin rfl h
  have lfin : ∀ {s : Nat} {cs : List AV} {G : Heap}, layK s cs st G (fun x s G => some (x, s, G)) = some (x, st', H') → st'.N = st.N := fun h => by
    unfold layK at h
    split at h
    · split at h
      · refine fin ?_ h
        rfl
      · cases h
    · cases h
  by_cases hk : ∀ s, touchOf st site o ≠ some (s, true)
  · rw [op_keeps' hcn hk h]
  · have hk : ∃ s, touchOf st site o = some (s, true) := by
      rcases Classical.em (∃ s, touchOf st site o = some (s, true)) with h1 | h1
      · exact h1
      · exact absurd (fun s e => h1 ⟨s, e⟩) hk
    obtain ⟨s, hs⟩ := hk
    unfold opK at h
    unfold touchOf at hs
    cases ho : o.op <;> simp only [ho] at h hs
    case alloc t =>
      cases site with
      | none => cases hs
      | some s =>
        split at h
        · exact lfin (bif_some h)
        · cases h
    case box t y =>
      cases site with
      | none => cases hs
      | some s =>
        split at h
        · exact lfin (bif_some h)
        · cases h
    case store t y z =>
      split at h
      · cases y with
        | tmp q =>
          dsimp only at h hs
          split at h
          · split at h
            · refine fin ?_ (bif_some h)
              rfl
            · cases h
          · split at h
            · exact fin rfl h
            · cases h
          · cases h
        | _ => cases h
      · cases h
    case load t y =>
      cases y with
      | tmp q =>
        dsimp only at hs
        split at hs
        · cases hs
        · cases hs
      | _ => cases hs
    all_goals cases hs

theorem stPut_N {st : St} {d : Option Tmp} {x : SV} : (stPut st d x).N = st.N := by
  cases d with
  | none => rfl
  | some t =>
    show (if t < st.N then st.put t x else st).N = st.N
    split <;> rfl

theorem opsK_N (hcn : CNat cf) (sites : List (Nat × Nat × Nat)) (rid : Nat) (ops : Array Oper) : ∀ (l : List Oper) (i : Nat) (st : St) (H : Heap),
    opsK E cf sites rid ops l i st H (fun s G => some (s, G)) = some (st', H') → st'.N = st.N := by
  intro l
  induction l with
  | nil =>
    intro i st H h
    simp only [opsK, Option.some.injEq, Prod.mk.injEq] at h
    rw [h.1]
  | cons o l ih =>
    intro i st H h
    unfold opsK at h
    split at h
    · rw [opK_nat hcn] at h
      simp only [Option.bind_eq_some_iff] at h
      obtain ⟨⟨x, st1, H1⟩, h1, h2⟩ := h
      rw [ih _ _ _ h2, stPut_N, op_N hcn h1]
    · split at h
      · split at h
        · rw [ih _ _ _ h, stPut_N]
        · cases h
      · cases h

theorem opsD_N (hcn : CNat cf) (sites : List (Nat × Nat × Nat)) (d : DInfo) (rid : Nat) (ops : Array Oper) (H0 : Heap) : ∀ (l : List Oper) (i : Nat) (tr : List Rec) (st : St) (H : Heap),
    opsD E cf sites d rid ops H0 l i tr st H (fun s G => some (s, G)) = some (st', H') → st'.N = st.N := by
  intro l
  induction l with
  | nil =>
    intro i tr st H h
    have h := bif_some h
    simp only [Option.some.injEq, Prod.mk.injEq] at h
    rw [h.1]
  | cons o l ih =>
    intro i tr st H h
    unfold opsD at h
    split at h
    · rw [opK_nat hcn] at h
      simp only [Option.bind_eq_some_iff] at h
      obtain ⟨⟨x, st1, H1⟩, h1, h2⟩ := h
      rw [ih _ _ _ _ h2, stPut_N, op_N hcn h1]
    · split at h
      · split at h
        · rw [ih _ _ _ _ h, stPut_N]
        · cases h
      · cases h

/-- A piece leaves as many slots. -/
def FN (N : Nat) (F : (S : Type) → (AExit → St → Heap → Option S) → Option S) : Prop :=
  ∀ e s G, F _ (fun e s G => some (e, s, G)) = some (e, s, G) → s.N = N

theorem pickK_N {kp : LK} {N : Nat} {l : Live} {G : Heap} {i : Nat} {e : AExit} : ∀ {outs : List AExit} {j : Nat}, pickK (fun e => some (e, St.ofLive kp N l, G)) i outs j = some (e, st', H') → st'.N = N
  | [], _, h => by cases h
  | x :: r, j, h => by
    unfold pickK at h
    cases hb : Nat.beq i j
    · rw [hb] at h
      exact pickK_N h
    · rw [hb] at h
      simp only [cond_true, Option.some.injEq, Prod.mk.injEq] at h
      rw [← h.2.1]
      rfl

theorem bar_N {F : (S : Type) → (AExit → St → Heap → Option S) → Option S} {N : Nat} (hF : FN N F) {an : Ann} {e : AExit} (h : bar an N F (fun e s G => some (e, s, G)) = some (e, st', H')) : st'.N = N := by
  unfold bar at h
  split at h
  · unfold bindX at h
    split at h
    · exact pickK_N h
    · cases h
  · exact hF _ _ _ h

theorem loopK_some {kp : LK} {rec : Live → Heap → Option (AExit × St × Heap)} {e e' : AExit} {s : St} {G : Heap} (h : loopK kp rec (fun e s G => some (e, s, G)) e s G = some (e', st', H')) :
    (e = .normal ∧ ∃ l, s.live kp = some l ∧ rec l G = some (e', st', H')) ∨ (e ≠ .normal ∧ e' = e ∧ st' = s ∧ H' = G) := by
  cases e with
  | normal =>
    unfold loopK at h
    dsimp only at h
    split at h
    · rename_i l hl
      exact .inl ⟨rfl, l, hl, h⟩
    · cases h
  | exit j =>
    injection h with h
    simp only [Prod.mk.injEq] at h
    exact .inr ⟨by simp, h.1.symm, h.2.1.symm, h.2.2.symm⟩
  | ret =>
    injection h with h
    simp only [Prod.mk.injEq] at h
    exact .inr ⟨by simp, h.1.symm, h.2.1.symm, h.2.2.symm⟩

theorem loopS_some {rec : St → Heap → Option (AExit × St × Heap)} {e e' : AExit} {s : St} {G : Heap} (h : loopS rec (fun e s G => some (e, s, G)) e s G = some (e', st', H')) :
    (e = .normal ∧ rec s G = some (e', st', H')) ∨ (e ≠ .normal ∧ e' = e ∧ st' = s ∧ H' = G) := by
  cases e with
  | normal => exact .inl ⟨rfl, h⟩
  | exit j =>
    injection h with h
    simp only [Prod.mk.injEq] at h
    exact .inr ⟨by simp, h.1.symm, h.2.1.symm, h.2.2.symm⟩
  | ret =>
    injection h with h
    simp only [Prod.mk.injEq] at h
    exact .inr ⟨by simp, h.1.symm, h.2.1.symm, h.2.2.symm⟩

theorem seqK_some {next : St → Heap → Option (AExit × St × Heap)} {e e' : AExit} {s : St} {G : Heap} (h : seqK next (fun e s G => some (e, s, G)) e s G = some (e', st', H')) :
    (e = .normal ∧ next s G = some (e', st', H')) ∨ (e ≠ .normal ∧ e' = e ∧ st' = s ∧ H' = G) := loopS_some h

def AExit.leave (id : Nat) : AExit → AExit
  | .normal => .normal
  | .exit j => if j = id then .normal else .exit j
  | .ret => .ret

theorem blockK_some {id : Nat} {e e' : AExit} {s : St} {G : Heap} (h : blockK id (fun e s G => some (e, s, G)) e s G = some (e', st', H')) :
    st' = s ∧ H' = G ∧ e' = e.leave id := by
  cases e with
  | normal =>
    injection h with h
    simp only [Prod.mk.injEq] at h
    exact ⟨h.2.1.symm, h.2.2.symm, h.1.symm⟩
  | exit j =>
    unfold blockK at h
    dsimp only at h
    cases hj : Nat.beq j id
    · rw [hj] at h
      simp only [cond_false, Option.some.injEq, Prod.mk.injEq] at h
      refine ⟨h.2.1.symm, h.2.2.symm, ?_⟩
      unfold AExit.leave
      dsimp only
      rw [if_neg (by intro e; subst e; simp at hj)]
      exact h.1.symm
    · rw [hj] at h
      simp only [cond_true, Option.some.injEq, Prod.mk.injEq] at h
      refine ⟨h.2.1.symm, h.2.2.symm, ?_⟩
      unfold AExit.leave
      dsimp only
      rw [if_pos (Nat.eq_of_beq_eq_true hj)]
      exact h.1.symm
  | ret =>
    injection h with h
    simp only [Prod.mk.injEq] at h
    exact ⟨h.2.1.symm, h.2.2.symm, h.1.symm⟩

theorem exec_N (hcn : CNat cf) (n : Nat) (fa : FAnn) : ∀ (c : Code) (an : Ann) (st : St) (H : Heap) (e : AExit) (st' : St) (H' : Heap),
    exec E cf n fa c an _ st H (fun e s G => some (e, s, G)) = some (e, st', H') → st'.N = st.N := by
  intro c
  induction c with
  | skip => intro an st H e st' H' h; injection h with h; simp only [Prod.mk.injEq] at h; rw [← h.2.1]
  | label _ => intro an st H e st' H' h; injection h with h; simp only [Prod.mk.injEq] at h; rw [← h.2.1]
  | exit _ => intro an st H e st' H' h; injection h with h; simp only [Prod.mk.injEq] at h; rw [← h.2.1]
  | ret => intro an st H e st' H' h; injection h with h; simp only [Prod.mk.injEq] at h; rw [← h.2.1]
  | region rid ops draw =>
    intro an st H e st' H' h
    unfold exec at h
    cases draw
    · simp only [cond_false] at h
      rw [opsK_to hcn _ _ _ _ _ _ _ (k := fun s G => some (AExit.normal, s, G)) (g := fun s G => some (s, G)) (h := fun p => some (AExit.normal, p.1, p.2)) (fun _ _ => rfl)] at h
      simp only [Option.bind_eq_some_iff] at h
      obtain ⟨⟨s1, H1⟩, h1, h2⟩ := h
      injection h2 with h2
      simp only [Prod.mk.injEq] at h2
      rw [← h2.2.1]
      exact opsK_N hcn _ _ _ _ _ _ _ h1
    · simp only [cond_true] at h
      split at h
      · rw [opsD_to hcn _ _ _ _ _ _ _ _ _ _ (k := fun s G => some (AExit.normal, s, G)) (g := fun s G => some (s, G)) (h := fun p => some (AExit.normal, p.1, p.2)) (fun _ _ => rfl)] at h
        simp only [Option.bind_eq_some_iff] at h
        obtain ⟨⟨s1, H1⟩, h1, h2⟩ := h
        injection h2 with h2
        simp only [Prod.mk.injEq] at h2
        rw [← h2.2.1]
        exact opsD_N hcn _ _ _ _ _ _ _ _ _ _ h1
      · cases h
  | seq a b iha ihb =>
    intro an st H e st' H' h
    unfold exec at h
    refine bar_N (fun e s G h => ?_) h
    obtain ⟨e1, s1, H1, h1, h2⟩ := exec_split hcn h
    have hN := iha _ _ _ _ _ _ h1
    rcases seqK_some h2 with ⟨_, h3⟩ | ⟨_, _, h3, _⟩
    · rw [ihb _ _ _ _ _ _ h3, hN]
    · rw [h3, hN]
  | cond c x y ihx ihy =>
    intro an st H e st' H' h
    unfold exec at h
    split at h
    · rename_i v hv
      refine bar_N (fun e s G h0 => ?_) h
      unfold A.test at h0
      cases v with
      | bool b =>
        cases b
        · exact ihy _ _ _ _ _ _ h0
        · exact ihx _ _ _ _ _ _ h0
      | _ => cases h0
    · cases h
  | block id c ih =>
    intro an st H e st' H' h
    unfold exec at h
    refine bar_N (fun e s G h => ?_) h
    obtain ⟨e1, s1, H1, h1, h2⟩ := exec_split hcn h
    rw [(blockK_some h2).1, ih _ _ _ _ _ _ h1]
  | loop c ih =>
    intro an st H e st' H' h
    unfold exec at h
    split at h
    · rename_i kp x hx
      split at h
      · refine bar_N (fun e s G h0 => ?_) h
        have key : ∀ (m : Nat) (l : Live) (H : Heap), iter (fun l H rec => exec E cf n fa c x _ (St.ofLive kp st.N l) H (loopK kp rec fun e s G => some (e, s, G))) m l H = some (e, s, G) → s.N = st.N := by
          intro m
          induction m with
          | zero => intro l H h1; cases h1
          | succ m ihm =>
            intro l H h1
            unfold iter at h1
            obtain ⟨e1, s1, H1, h2, h3⟩ := exec_split hcn h1
            rcases loopK_some h3 with ⟨_, l1, _, h4⟩ | ⟨_, _, h4, _⟩
            · exact ihm _ _ h4
            · rw [h4]
              have hx := ih _ _ _ _ _ _ h2
              exact hx
        exact key _ _ _ h0
      · cases h
    · refine bar_N (fun e s G h0 => ?_) h
      have key : ∀ (m : Nat) (s0 : St) (H : Heap), s0.N = st.N → iter (fun st H rec => exec E cf n fa c an.strip.fst _ st H (loopS rec fun e s G => some (e, s, G))) m s0 H = some (e, s, G) → s.N = st.N := by
        intro m
        induction m with
        | zero => intro l H _ h1; cases h1
        | succ m ihm =>
          intro s0 H hs0 h1
          unfold iter at h1
          obtain ⟨e1, s1, H1, h2, h3⟩ := exec_split hcn h1
          have hN := ih _ _ _ _ _ _ h2
          rcases loopS_some h3 with ⟨_, h4⟩ | ⟨_, _, h4, _⟩
          · exact ihm _ _ (hN.trans hs0) h4
          · rw [h4, hN, hs0]
      exact key _ _ _ rfl h0
  | scope c ih =>
    intro an st H e st' H' h
    unfold exec at h
    refine bar_N (fun e s G h => ?_) h
    exact ih _ _ _ _ _ _ h
  | rangeFunc g ps assign body _ _ =>
    intro an st H e st' H' h
    unfold exec at h
    have fin : ∀ {e1 : AExit} {G : Heap}, (some (e1, st, G) : Option (AExit × St × Heap)) = some (e, st', H') → st'.N = st.N := fun h => by
      simp only [Option.some.injEq, Prod.mk.injEq] at h
      rw [h.2.1]
    cases hnr : (noRF assign && noRF body)
    · rw [hnr] at h; cases h
    · rw [hnr] at h
      simp only [cond_true] at h
      split at h
      · rename_i f cap hg
        cases hb : hasBody E f
        · rw [hb] at h; cases h
        · rw [hb] at h
          simp only [Bool.not_true, cond_false] at h
          generalize hk : (fun (_ : AV) (H1 : Heap) => match H1[H.length]? with
            | some (.loop L) => bif Nat.beq L.state 1 then (none : Option (AExit × St × Heap)) else match L.pending with
              | none => some (.normal, st, H1.set H.length .dead)
              | some e => some (e, st, H1.set H.length .dead)
            | _ => none) = kk at h
          rw [callK_nat hcn _ _ _ (k := kk) (g := fun v G => some (v, G)) (h := fun p => kk p.1 p.2) (fun _ _ => rfl)] at h
          simp only [Option.bind_eq_some_iff] at h
          obtain ⟨⟨v, G⟩, _, hcont⟩ := h
          subst hk
          dsimp only at hcont
          split at hcont
          · rename_i L hL
            cases hst : Nat.beq L.state 1
            · rw [hst] at hcont
              simp only [cond_false] at hcont
              cases hpe : L.pending with
              | none => rw [hpe] at hcont; exact fin hcont
              | some e4 => rw [hpe] at hcont; exact fin hcont
            · rw [hst] at hcont; cases hcont
          · cases hcont
      · cases h
  | goto _ => intro an st H e st' H' h; cases h
  | refuse _ => intro an st H e st' H' h; cases h

theorem rf_l {ro : Option Nat} {x y : Bool} (h : ro = none ∨ (x && y) = true) : ro = none ∨ x = true := h.imp id fun h => by
  simp only [Bool.and_eq_true] at h
  exact h.1
theorem rf_r {ro : Option Nat} {x y : Bool} (h : ro = none ∨ (x && y) = true) : ro = none ∨ y = true := h.imp id fun h => by
  simp only [Bool.and_eq_true] at h
  exact h.2

theorem snap_get (st : St) (t : Nat) : st.snap.get t = (st.get t).own := by
  show Tr.get .no (st.slots.map SV.own) t = (Tr.get .no st.slots t).own
  generalize st.slots = T
  induction T generalizing t with
  | lf => rfl
  | nd l v r ihl ihr =>
    simp only [Tr.map, Tr.get]
    cases Nat.beq t 0
    · simp only [cond_false]
      cases Nat.beq (t % 2) 1
      · simp only [cond_false]; exact ihr _
      · simp only [cond_true]; exact ihl _
    · rfl

theorem callFunc_enter (hnm : ∀ (f : FuncId) (fn : Func) (c : Code), E.P.funcs[f]? = some fn → fn.body = some c → fn.name ≠ "runtime.NumGoroutine") {f : FuncId} (hb : hasBody E f = true) {us : Array Value} {w : World} : (callFunc f us).run E.P w = .ok (.enter f us) w := by
  unfold hasBody at hb
  split at hb
  · rename_i fn hfn
    obtain ⟨c, hc⟩ := Option.isSome_iff_exists.1 hb
    have hpr : program.run E.P w = .ok E.P w := rfl
    have := hnm f fn c hfn hc
    unfold callFunc
    simp only [Sem.run_bind, hpr, Result.andThen_ok, hfn]
    rw [if_neg (by simpa using this), if_neg (by simp [hc])]
    rfl
  · cases hb

theorem exec_sound (hcn : CNat cf) (hck : CallKOK E cf) (hnm : ∀ (f : FuncId) (fn : Func) (c : Code), E.P.funcs[f]? = some fn → fn.body = some c → fn.name ≠ "runtime.NumGoroutine") (n : Nat) (fa : FAnn) (hD : DrawOK E cf fa (staticOk E fa.sites)) {ro : Option Nat} :
    ∀ (c : Code) (an : Ann) (st : St) (C : Ctx) (lam : Nat → Nat) (a : Act) (Q : Exit → Act → World → Prop) (e : AExit) (st' : St) (H' : Heap), (ro = none ∨ noRF c = true) → codeOk fa.draws (staticOk E fa.sites) c = true →
      exec E cf n fa c an _ st C.H (fun e s G => some (e, s, G)) = some (e, st', H') → HR E C → FrameR C lam st a → (∀ a' w', Post E C st' H' a' w' → Q e.to a' w') → c.wpIn (FW ro) 0 E.P Q a C.w := by
  intro c
  induction c with
  | skip =>
    intro an st C lam a Q e st' H' hrf hok h hr hf hq
    injection h with h
    simp only [Prod.mk.injEq] at h
    obtain ⟨rfl, rfl, rfl⟩ := h
    exact wpIn_skip (hq _ _ ⟨C, lam, rfl, rfl, hr, Ev.refl C, hf⟩)
  | label l =>
    intro an st C lam a Q e st' H' hrf hok h hr hf hq
    injection h with h
    simp only [Prod.mk.injEq] at h
    obtain ⟨rfl, rfl, rfl⟩ := h
    exact wpIn_label (hq _ _ ⟨C, lam, rfl, rfl, hr, Ev.refl C, hf⟩)
  | exit id =>
    intro an st C lam a Q e st' H' hrf hok h hr hf hq
    injection h with h
    simp only [Prod.mk.injEq] at h
    obtain ⟨rfl, rfl, rfl⟩ := h
    exact wpIn_exit (hq _ _ ⟨C, lam, rfl, rfl, hr, Ev.refl C, hf⟩)
  | ret =>
    intro an st C lam a Q e st' H' hrf hok h hr hf hq
    injection h with h
    simp only [Prod.mk.injEq] at h
    obtain ⟨rfl, rfl, rfl⟩ := h
    exact wpIn_ret (hq _ _ ⟨C, lam, rfl, rfl, hr, Ev.refl C, hf⟩)
  | region rid ops draw =>
    intro an st C lam a Q e st' H' hrf hok h hr hf hq
    unfold exec at h
    cases draw
    · simp only [cond_false] at h
      rw [opsK_to hcn _ _ _ _ _ _ _ (k := fun s G => some (AExit.normal, s, G)) (g := fun s G => some (s, G)) (h := fun p => some (AExit.normal, p.1, p.2)) (fun _ _ => rfl)] at h
      simp only [Option.bind_eq_some_iff] at h
      obtain ⟨⟨s1, H1⟩, h1, h2⟩ := h
      injection h2 with h2
      simp only [Prod.mk.injEq] at h2
      obtain ⟨rfl, rfl, rfl⟩ := h2
      exact wpIn_region_list (opsK_sound hcn hck _ _ _ _ _ _ C lam a h1 hr hf fun a' w' hp => hq a' w' hp)
    · simp only [cond_true] at h
      unfold codeOk at hok
      simp only [cond_true] at hok
      split at h
      · rename_i d hd
        rw [hd] at hok
        rw [opsD_to hcn _ _ _ _ _ _ _ _ _ _ (k := fun s G => some (AExit.normal, s, G)) (g := fun s G => some (s, G)) (h := fun p => some (AExit.normal, p.1, p.2)) (fun _ _ => rfl)] at h
        simp only [Option.bind_eq_some_iff] at h
        obtain ⟨⟨s1, H1⟩, h1, h2⟩ := h
        injection h2 with h2
        simp only [Prod.mk.injEq] at h2
        obtain ⟨rfl, rfl, rfl⟩ := h2
        exact hD rid ops d st C lam a _ _ Q hok h1 hr hf (fun a' w' hp => hq a' w' hp) ro
      · cases h
  | seq x y ihx ihy =>
    intro an st C lam a Q e st' H' hrf hok h hr hf hq
    unfold exec at h
    unfold codeOk at hok
    simp only [Bool.and_eq_true] at hok
    obtain ⟨s, h, hk⟩ := bar_some (fun hk => exec_to hcn n fa x _ _ _ st C.H fun e s G => seqK_to (fun s G => exec_to hcn n fa y _ _ _ s G hk) hk e s G) h
    obtain ⟨e1, s1, H1, h1, h2⟩ := exec_split hcn h
    have hN1 := exec_N hcn n fa _ _ _ _ _ _ _ h1
    refine wpIn_seq (ihx _ _ C lam a _ e1 s1 H1 (rf_l hrf) hok.1 h1 hr hf fun a' w' hp => ?_)
    rcases seqK_some h2 with ⟨he, h3⟩ | ⟨he, h3, h4, h5⟩
    · subst he
      have hN2 := exec_N hcn n fa _ _ _ _ _ _ _ h3
      obtain ⟨C1, lam1, rfl, rfl, g3, g4, g5⟩ := hp
      exact ihy _ _ C1 lam1 a' Q _ _ _ (rf_r hrf) hok.2 h3 g3 g5 fun a2 w2 hp2 => hq a2 w2 ((hp2.keep fun C lam a hf => hk C lam a (by rw [hN2, hN1]) hf).trans g4)
    · subst h3 h4 h5
      have hp' := hp.keep fun C lam a hf => hk C lam a hN1.symm hf
      cases e with
      | normal => exact absurd rfl he
      | exit id => exact hq a' w' hp'
      | ret => exact hq a' w' hp'
  | cond c x y ihx ihy =>
    intro an st C lam a Q e st' H' hrf hok h hr hf hq
    unfold exec at h
    unfold codeOk at hok
    simp only [Bool.and_eq_true] at hok
    split at h
    · rename_i v hv
      obtain ⟨s, h0, hk⟩ := bar_some (fun hk => test_to (exec_to hcn n fa x _ _ _ st C.H hk) (exec_to hcn n fa y _ _ _ st C.H hk)) h
      unfold A.test at h0
      cases v with
      | bool b =>
        have hb := (eval_ok hr hf hv).bool_inv
        refine wpIn_cond hb ?_
        cases b
        · simp only [cond_false] at h0
          have hN := exec_N hcn n fa _ _ _ _ _ _ _ h0
          exact ihy _ _ C lam a Q _ _ _ (rf_r hrf) hok.2 h0 hr hf fun a2 w2 hp2 => hq a2 w2 (hp2.keep fun C lam a hf => hk C lam a hN.symm hf)
        · simp only [cond_true] at h0
          have hN := exec_N hcn n fa _ _ _ _ _ _ _ h0
          exact ihx _ _ C lam a Q _ _ _ (rf_l hrf) hok.1 h0 hr hf fun a2 w2 hp2 => hq a2 w2 (hp2.keep fun C lam a hf => hk C lam a hN.symm hf)
      | _ => cases h0
    · cases h
  | block id c ih =>
    intro an st C lam a Q e st' H' hrf hok h hr hf hq
    unfold exec at h
    unfold codeOk at hok
    obtain ⟨s, h, hk⟩ := bar_some (fun hk => exec_to hcn n fa c _ _ _ st C.H fun e s G => blockK_to hk e s G) h
    obtain ⟨e1, s1, H1, h1, h2⟩ := exec_split hcn h
    have hN := exec_N hcn n fa _ _ _ _ _ _ _ h1
    obtain ⟨rfl, rfl, he⟩ := blockK_some h2
    refine wpIn_block (ih _ _ C lam a _ e1 _ _ hrf hok h1 hr hf fun a' w' hp => ?_)
    have hp' := hp.keep fun C lam a hf => hk C lam a hN.symm hf
    cases e1 with
    | normal =>
      subst he
      exact hq a' w' hp'
    | exit j =>
      unfold AExit.leave at he
      dsimp only at he
      show (if j = id then _ else _)
      split
      · rw [if_pos (by assumption)] at he
        subst he
        exact hq a' w' hp'
      · rw [if_neg (by assumption)] at he
        subst he
        exact hq a' w' hp'
    | ret =>
      subst he
      exact hq a' w' hp'
  | loop c ih =>
    intro an st C lam a Q e st' H' hrf hok h hr hf hq
    unfold exec at h
    unfold codeOk at hok
    split at h
    · rename_i kp x hx
      split at h
      · rename_i l0 hl0
        obtain ⟨s, h, hk⟩ := bar_some (F := fun S k => iter (fun l H rec => exec E cf n fa c x S (St.ofLive kp st.N l) H (loopK kp rec k)) n l0 C.H)
          (fun hk => by
            refine iter_to ?_ _ _ _
            intro l H r r' hr
            exact exec_to hcn n fa c x _ _ _ H (fun e s G => loopK_to hr hk e s G)) h
        have key : ∀ (m : Nat) (l : Live) (C : Ctx) (lam : Nat → Nat) (a : Act),
            iter (fun l H rec => exec E cf n fa c x _ (St.ofLive kp st.N l) H (loopK kp rec fun e s G => some (e, s, G))) m l C.H = some (e, s, H') → HR E C → FrameR C lam (St.ofLive kp st.N l) a → (∀ a' w', Post E C st' H' a' w' → Q e.to a' w') → Code.roundsIn (FW ro) 0 E.P c Q m a C.w := by
          intro m
          induction m with
          | zero => intro l C lam a h; cases h
          | succ m ihm =>
            intro l C lam a h hr hf hq
            unfold iter at h
            obtain ⟨e1, s1, H1, h1, h2⟩ := exec_split hcn h
            have hN := exec_N hcn n fa _ _ _ _ _ _ _ h1
            change s1.N = st.N at hN
            refine ih x _ C lam a _ e1 s1 H1 hrf hok h1 hr hf fun a' w' hp => ?_
            rcases loopK_some h2 with ⟨he, l1, hl1, h3⟩ | ⟨he, h3, h4, h5⟩
            · subst he
              obtain ⟨C1, lam1, rfl, rfl, g3, g4, g5⟩ := hp
              have g6 := live_ok g5 hl1
              rw [hN] at g6
              exact ihm _ C1 lam1 a' h3 g3 g6 fun a2 w2 hp2 => hq a2 w2 (hp2.trans g4)
            · subst h3 h4 h5
              have hp' := hp.keep fun C lam a hf => hk C lam a hN.symm hf
              cases e with
              | normal => exact absurd rfl he
              | exit id => exact hq a' w' hp'
              | ret => exact hq a' w' hp'
        exact wpIn_loop_rounds n (key n _ C lam a h hr (live_ok hf hl0) hq)
      · cases h
    · obtain ⟨s, h, hk⟩ := bar_some (F := fun S k => iter (fun st H rec => exec E cf n fa c an.strip.fst S st H (loopS rec k)) n st C.H)
          (fun hk => by
          refine iter_to ?_ _ _ _
          intro l H r r' hr
          exact exec_to hcn n fa c _ _ _ l H (fun e s G => loopS_to hr hk e s G)) h
      have key : ∀ (m : Nat) (st0 : St) (C : Ctx) (lam : Nat → Nat) (a : Act), st0.N = st.N →
          iter (fun st H rec => exec E cf n fa c an.strip.fst _ st H (loopS rec fun e s G => some (e, s, G))) m st0 C.H = some (e, s, H') → HR E C → FrameR C lam st0 a → (∀ a' w', Post E C st' H' a' w' → Q e.to a' w') → Code.roundsIn (FW ro) 0 E.P c Q m a C.w := by
        intro m
        induction m with
        | zero => intro l C lam a _ h; cases h
        | succ m ihm =>
          intro st0 C lam a hN0 h hr hf hq
          unfold iter at h
          obtain ⟨e1, s1, H1, h1, h2⟩ := exec_split hcn h
          have hN : s1.N = st.N := (exec_N hcn n fa _ _ _ _ _ _ _ h1).trans hN0
          refine ih _ _ C lam a _ e1 s1 H1 hrf hok h1 hr hf fun a' w' hp => ?_
          rcases loopS_some h2 with ⟨he, h3⟩ | ⟨he, h3, h4, h5⟩
          · subst he
            obtain ⟨C1, lam1, rfl, rfl, g3, g4, g5⟩ := hp
            exact ihm _ C1 lam1 a' hN h3 g3 g5 fun a2 w2 hp2 => hq a2 w2 (hp2.trans g4)
          · subst h3 h4 h5
            have hp' := hp.keep fun C lam a hf => hk C lam a hN.symm hf
            cases e with
            | normal => exact absurd rfl he
            | exit id => exact hq a' w' hp'
            | ret => exact hq a' w' hp'
      exact wpIn_loop_rounds n (key n _ C lam a rfl h hr hf hq)
  | scope c ih =>
    intro an st C lam a Q e st' H' hrf hok h hr hf hq
    unfold exec at h
    unfold codeOk at hok
    obtain ⟨s, h, hk⟩ := bar_some (fun hk => exec_to hcn n fa c _ _ _ st C.H hk) h
    have hN := exec_N hcn n fa _ _ _ _ _ _ _ h
    refine wpIn_scope_straight (ih _ _ C lam a _ _ s _ hrf hok h hr hf fun a' w' hp => ?_)
    have hp' := hp.keep fun C lam a hf => hk C lam a hN.symm hf
    cases e <;> exact hq a' w' hp'
  | rangeFunc g ps assign body _ _ =>
    intro an st C lam a Q e st' H' hrf hok h hr hf hq
    unfold exec at h
    unfold codeOk at hok
    simp only [Bool.and_eq_true] at hok
    have hro : ro = none := by
      rcases hrf with h | h
      · exact h
      · cases h
    subst hro
    cases hnr : (noRF assign && noRF body)
    · rw [hnr] at h; cases h
    · rw [hnr] at h
      simp only [cond_true] at h
      simp only [Bool.and_eq_true] at hnr
      split at h
      · rename_i f cap hg
        cases hbd : hasBody E f
        case false => rw [hbd] at h; cases h
        rw [hbd] at h
        simp only [Bool.not_true, cond_false] at h
        generalize hk : (fun (_ : AV) (H1 : Heap) => match H1[C.H.length]? with
          | some (.loop L) => bif Nat.beq L.state 1 then (none : Option (AExit × St × Heap)) else match L.pending with
            | none => some (.normal, st, H1.set C.H.length .dead)
            | some e => some (e, st, H1.set C.H.length .dead)
          | _ => none) = kk at h
        rw [callK_nat hcn _ _ _ (k := kk) (g := fun v G => some (v, G)) (h := fun p => kk p.1 p.2) (fun _ _ => rfl)] at h
        simp only [Option.bind_eq_some_iff] at h
        obtain ⟨⟨v, G⟩, hcall, hcont⟩ := h
        subst hk
        dsimp only at hcont
        have hgu := eval_ok hr hf hg
        generalize hgv : a.eval g = gv at hgu
        cases hgu with
        | fn _ _ _ _ as bs hfirst hcap =>
          have has : as = #[] := by
            generalize hl : as.toList = l at hfirst
            cases hfirst
            exact Array.toList_inj.1 hl
          subst has
          refine wpIn_rangeFunc fun fn _ => ?_
          let L : LoopD := ⟨st.snap, fa, ps.toList, assign, body, an.strip, 0, none⟩
          let rcd : Loop := { state := .ready, pending := none, fn, tmps := a.tmps, params := ps, assign, body, defers := C.w.heap.size }
          let w1 := C.w.alloc (.deferred (some []))
          let w2 := w1.alloc (.loop rcd)
          obtain ⟨ev1, hr1⟩ := lay_ok (s := 0) (w' := w1) (b := .deferred (some [])) hr ⟨rfl, rfl, rfl⟩ rfl
          let C1 := C.lay 0 w1
          have hf1 : FrameR C1 lam st a := hf.ev ev1
          have ev2 : EvL C1 (C1.grow w2 (.loop L)) := grow_ev (o := .loop L) (w' := w2) (b := .loop rcd) hr1 ⟨rfl, rfl, rfl⟩ rfl
          have hLV : LoopV E C1 L rcd := by
            refine ⟨rfl, rfl, rfl, rfl, rfl, hf.size, fun t => ?_, fun s => rfl, hok.1, hok.2, hnr.1, hnr.2⟩
            have ht := hf1.slots t
            unfold SlotOk at ht
            unfold SlotV
            show match st.snap.get t with | .val v => _ | .lp _ _ => _ | .no => _
            rw [snap_get]
            cases hx : st.get t with
            | val v => rw [hx] at ht; exact ht
            | lp s o => trivial
            | no => trivial
          have hr2 : HR E (C1.grow w2 (.loop L)) := grow_hr hr1 ⟨rfl, rfl, rfl⟩ rfl (fun _ _ _ _ e => by cases e) (fun _ => ⟨rcd, rfl, hLV.evV ev2.ev.toV⟩)
          let C2 := C1.grow w2 (.loop L)
          have hf2 : FrameR C2 lam st a := hf1.ev ev2
          have hplace : C2.ρ C.H.length = (w1.heap.size, 0) := grow_place (C := C1)
          have hsz : w1.heap.size = C.w.heap.size + 1 := by simp [w1]
          have hargs : Vs C2 false (.yl C.H.length :: cap) (#[.func (.yield (C.w.heap.size + 1)) #[] #[]] ++ bs : Array Value).toList := by
            rw [Array.toList_append]
            refine .cons _ _ _ _ _ (.yl _ _ rfl ⟨by show _ < (C.H ++ [_]).length; simp, fun L' _ => by rw [hplace, hsz]⟩) ?_
            exact (hcap.ev ev1.ev).ev ev2.ev
          have hland := hck.call f _ C2 _ v G hcall hr2 hargs
          have fin : ∀ (e' : Ending) (w3 : World), (∃ u, e' = .returned u ∧ GivesL E C2 v G u w3) → rangePost (FW none) 0 E.P (C.w.heap.size + 1) Q { a with defers := [{ target := .collected C.w.heap.size, args := #[] }] ++ a.defers } e' w3 := fun e' w3 h3 => by
            obtain ⟨u, rfl, C3, rfl, rfl, _, hr3, ev3⟩ := h3
            split at hcont
            · rename_i L3 hL3
              cases hst : Nat.beq L3.state 1
              case true => rw [hst] at hcont; cases hcont
              rw [hst] at hcont
              simp only [cond_false] at hcont
              obtain ⟨_, rec3, hrec3, hLV3⟩ := hr3.oth _ _ rfl hL3
              have hρ3 : C3.ρ C.H.length = C2.ρ C.H.length := (ev3.ev.oths C.H.length (by show _ < (C.H ++ [_]).length; simp) _ rfl hL3).2
              rw [hρ3, hplace, hsz] at hrec3
              have hnb : rec3.state ≠ .busy := by
                rw [hLV3.state]
                intro hb
                cases hs : L3.state with
                | zero => rw [hs] at hb; cases hb
                | succ k => cases k with
                  | zero => rw [hs] at hst; cases hst
                  | succ k => rw [hs] at hb; cases hb
              obtain ⟨hr4, ev4⟩ := oth_write (o' := .dead) (ob' := .loop { rec3 with state := .exhausted }) (w' := C3.w.putObj (C.w.heap.size + 1) (.loop { rec3 with state := .exhausted })) hr3 rfl hL3 (by simp [HObj.kd]) ⟨rfl, rfl, rfl⟩ (by rw [hρ3, hplace, hsz]; rfl) (fun _ _ _ e => by cases e) (fun e => by cases e)
              have evA : EvL C { C3 with w := C3.w.putObj (C.w.heap.size + 1) (.loop { rec3 with state := .exhausted }), H := C3.H.set C.H.length .dead } := ((ev1.trans ev2).trans ev3).trans ev4
              have hmark : C1.κ C.w.heap.size = .loc 0 := by simp [C1, Ctx.lay]
              have evM : EvL C1 { C3 with w := C3.w.putObj (C.w.heap.size + 1) (.loop { rec3 with state := .exhausted }), H := C3.H.set C.H.length .dead } := (ev2.trans ev3).trans ev4
              have hf4 : FrameR { C3 with w := C3.w.putObj (C.w.heap.size + 1) (.loop { rec3 with state := .exhausted }), H := C3.H.set C.H.length .dead } lam st { a with defers := [{ target := .collected C.w.heap.size, args := #[] }] ++ a.defers } := by
                have h4 := hf.ev evA
                refine ⟨h4.size, ⟨⟨C.w.heap.size, 0, rfl, ?_, ?_, ?_⟩, ?_, h4.defers⟩, h4.slots, h4.vars⟩
                · have h5 : w1.heap.size ≤ _ := evM.ev.size
                  rw [hsz] at h5
                  omega
                · exact (evM.loc C.w.heap.size (by show _ < w1.heap.size; rw [hsz]; omega) 0 hmark).2
                · rw [(evM.loc C.w.heap.size (by show _ < w1.heap.size; rw [hsz]; omega) 0 hmark).1]
                  show (C.w.heap.push _)[_]? = _
                  simp
                · intro hm
                  exact marks_lt hf.defers hm
              generalize hw4 : C3.w.putObj (C.w.heap.size + 1) (.loop { rec3 with state := .exhausted }) = w4 at hr4 evA hf4
              refine ⟨rec3.pending, w4, by rw [← hw4]; exact run_endLoop hrec3 hnb, ?_⟩
              rw [hLV3.pending]
              cases hpe : L3.pending with
              | none =>
                rw [hpe] at hcont
                simp only [Option.some.injEq, Prod.mk.injEq] at hcont
                obtain ⟨rfl, rfl, rfl⟩ := hcont
                exact hq _ _ ⟨_, lam, rfl, rfl, hr4, evA.ev, hf4⟩
              | some e4 =>
                rw [hpe] at hcont
                simp only [Option.some.injEq, Prod.mk.injEq] at hcont
                obtain ⟨rfl, rfl, rfl⟩ := hcont
                have hqq := hq _ _ ⟨_, lam, rfl, rfl, hr4, evA.ev, hf4⟩
                cases e4 with
                | normal => exact wpIn_skip hqq
                | exit id => exact wpIn_exit hqq
                | ret => exact wpIn_ret hqq
            · cases hcont
          refine ⟨C.w.heap.size + 1, [{ target := .collected C.w.heap.size, args := #[] }], w2, { target := .fn (.func f) bs, args := #[.func (.yield (C.w.heap.size + 1)) #[] #[]] }, w2, f,
            #[.func (.yield (C.w.heap.size + 1)) #[] #[]] ++ bs, w2, run_enterLoop_outer _ _ _ _ _, ?_, fun _ _ => trivial, ?_, fun e => by simp [FW] at e, ?_⟩
          · simp only [resolve, hgv]
            simp [go_sem]
          · rcases hland with ⟨h1, _⟩ | ⟨u, w', h1, _⟩
            · simp only [invoke]
              exact h1
            · rw [callFunc_enter hnm hbd] at h1
              cases h1
          · rcases hland with ⟨_, h2⟩ | ⟨u, w', h1, _⟩
            · exact callsIn_FW (Calls.mono h2 fin)
            · rw [callFunc_enter hnm hbd] at h1
              cases h1
      · cases h
  | goto _ => intro an st C lam a Q e st' H' hrf hok h; cases h
  | refuse _ => intro an st C lam a Q e st' H' hrf hok h; cases h

end
end Go.Den

/- DEN, part X: a function's call. -/
namespace Go.Den
open Go.RowKit

section
variable {E : Env} {cf : CallFn} {C C' : Ctx} {lam : Nat → Nat} {st : St} {a : Act} {Q : Exit → Act → World → Prop} {st' : St} {H' : Heap}

theorem loadAt_asAddr {P : Program} {t : TypeId} {u0 u : Value} {w w' : World} (h : (Instr.loadAt t u0).run P w = .ok u w') : (do loadVar t (← asAddr u0) : Sem Value).run P w = .ok u w' := by
  unfold Instr.loadAt Instr.sureAddr at h
  split at h
  · exact h
  all_goals simp [Sem.run_bind] at h

theorem resultVar_ok (hr : HR E C) (hf : FrameR C lam st a) {r : ResultVar} {v : AV} (h : resultVar E st C.H r = some v) :
    ∃ u, ((match r with
      | .tmp t => pure (a.tmps.getD t undef)
      | .cell x t => do loadVar t (← asAddr (a.tmps.getD x undef))) : Sem Value).run E.P C.w = .ok u C.w ∧ V C false v u := by
  cases r with
  | tmp t =>
    unfold resultVar at h
    dsimp only at h
    split at h
    · rename_i w hw
      simp only [Option.some.injEq] at h
      subst h
      exact ⟨_, rfl, slot_val hf hw⟩
    · cases h
  | cell x t =>
    unfold resultVar at h
    dsimp only at h
    split at h
    · rename_i ag sz hag hsz
      split at h
      · rename_i s off hw
        split at h
        · rename_i cs hcs
          obtain ⟨u, g1, g2⟩ := loc_load hf hcs hag hsz h
          have h1 : a.tmps.getD x undef = _ := (slot_lp hf hw).1
          refine ⟨u, ?_, g2⟩
          simp only [h1]
          exact g1
        · cases h
      · rename_i p hw
        obtain ⟨u, g1, g2⟩ := loadH_ok hr hag hsz h (slot_val hf hw)
        exact ⟨u, loadAt_asAddr g1, g2⟩
      · cases h
    · cases h

theorem resultVars_ok (hr : HR E C) (hf : FrameR C lam st a) {R : Type} {k : List AV → Option R} {x : R} : ∀ (rs : List ResultVar) (acc : List AV), resultVars E st C.H rs acc k = some x →
    ∃ ws us, k (acc.reverse ++ ws) = some x ∧ Vs C false ws us ∧ (rs.mapM fun
      | .tmp t => pure (a.tmps.getD t undef)
      | .cell x t => do loadVar t (← asAddr (a.tmps.getD x undef)) : Sem (List Value)).run E.P C.w = .ok us C.w
  | [], acc, h => ⟨[], [], by simpa [resultVars] using h, .nil _, rfl⟩
  | r :: rs, acc, h => by
    unfold resultVars at h
    split at h
    · rename_i v hv
      obtain ⟨u, g1, g2⟩ := resultVar_ok hr hf hv
      obtain ⟨ws, us, k1, k2, k3⟩ := resultVars_ok hr hf rs _ h
      refine ⟨v :: ws, u :: us, by simpa using k1, .cons _ _ _ _ _ g2 k2, ?_⟩
      rw [List.mapM_cons, Sem.run_bind, g1]
      simp only [Result.andThen_ok, Sem.run_bind, k3, Sem.run_pure]
    · cases h

theorem one_or_tup {ws : List AV} {us : List Value} (h : Vs C false ws us) : V C false (oneOrTup ws) (if h : us.toArray.size = 1 then us.toArray[0] else .tuple us.toArray) := by
  cases h with
  | nil => exact .tup _ _ _ (.nil _)
  | cons _ v u vs us h1 h2 =>
    cases h2 with
    | nil => exact h1
    | cons _ v2 u2 vs2 us2 h3 h4 =>
      rw [dif_neg (by simp)]
      exact .tup _ _ _ (.cons _ _ _ _ _ h1 (.cons _ _ _ _ _ h3 h4))

theorem start_slots {d : Nat} : ∀ (vs : List AV) (i : Nat) (T : Tr SV) (t : Nat), Tr.get .no (startSlots d vs i T) t = Tr.get .no T t ∨ Tr.get .no (startSlots d vs i T) t = .no ∨ ∃ v, vs[t - i]? = some v ∧ i ≤ t ∧ Tr.get .no (startSlots d vs i T) t = .val v
  | [], i, T, t => .inl rfl
  | v :: vs, i, T, t => by
    unfold startSlots
    rcases start_slots vs (i + 1) (T.set i (.val v)) t with h | h | ⟨w, h1, h2, h3⟩
    · by_cases e : i = t
      · subst e
        rcases Tr.get_set_self (z := SV.no) (t := T) (i := i) (x := .val v) with g | g
        · exact .inr (.inr ⟨v, by simp, Nat.le_refl _, h.trans g⟩)
        · exact .inr (.inl (h.trans g.1))
      · exact .inl (h.trans (Tr.get_set_ne e))
    · exact .inr (.inl h)
    · refine .inr (.inr ⟨w, ?_, by omega, h3⟩)
      rw [show t - i = (t - (i + 1)) + 1 by omega]
      simpa using h1

theorem start_ok {d N : Nat} {args : List AV} {us : Array Value} (hv : Vs C false args us.toList) (hle : args.length ≤ N) : FrameR C lam (St.start d N args) { tmps := us ++ Array.replicate (N - us.size) undef, defers := [] } := by
  have hl : us.size = args.length := by rw [← Array.length_toList]; exact hv.length
  refine ⟨by simp [St.start]; omega, trivial, fun t => ?_, fun s cs hs => ?_⟩
  · unfold SlotOk
    have : (St.start d N args).get t = Tr.get .no (startSlots d args 0 (Tr.full .no d)) t := rfl
    rcases start_slots (d := d) args 0 (Tr.full .no d) t with h | h | ⟨v, h1, _, h3⟩
    · rw [this, h, Tr.get_full]
      trivial
    · rw [this, h]
      trivial
    · rw [this, h3]
      dsimp only
      obtain ⟨u, g1, g2⟩ := hv.get h1
      have : (us ++ Array.replicate (N - us.size) undef).getD t undef = u := by
        rw [Array.getD_eq_getD_getElem?]
        rw [Array.getElem?_toList] at g1
        simp only [Nat.sub_zero] at g1
        rw [Array.getElem?_append_left (Array.getElem?_eq_some_iff.1 g1).1, g1]
        rfl
      rw [this]
      exact g2
  · have : (St.start d N args).var s = Tr.get none (Tr.full none d) s := rfl
    rw [this, Tr.get_full] at hs
    cases hs

/-- What must stand of the program and what is said of it. -/
structure EnvOK (E : Env) : Prop where
  codes : ∀ (f : FuncId) (fn : Func) (c : Code), E.P.funcs[f]? = some fn → fn.body = some c → codeOk (E.ann f).draws (staticOk E (E.ann f).sites) c = true
  names : ∀ (f : FuncId) (fn : Func) (c : Code), E.P.funcs[f]? = some fn → fn.body = some c → fn.name ≠ "runtime.NumGoroutine"

/-- What yield lays into a round's frame. -/
theorem put_args {N : Nat} : ∀ {ps : List Nat} {args : List AV} {us : List Value} {st : St} {tmps : Array Value}, tmps.size = st.N → (∀ t, SlotV C st tmps t) → (∀ s, st.var s = none) → Vs C false args us →
    (((ps.zip us).foldl (fun t p => t.setIfInBounds p.1 p.2) tmps).size = (putArgs st ps args).N) ∧ (∀ t, SlotV C (putArgs st ps args) ((ps.zip us).foldl (fun t p => t.setIfInBounds p.1 p.2) tmps) t) ∧ ∀ s, (putArgs st ps args).var s = none
  | [], _, _, _, _, h1, h2, h3, _ => ⟨by simpa [putArgs] using h1, by simpa [putArgs] using h2, by simpa [putArgs] using h3⟩
  | t :: ts, [], us, st, tmps, h1, h2, h3, hv => by
    cases hv
    exact ⟨by simpa [putArgs] using h1, by simpa [putArgs] using h2, by simpa [putArgs] using h3⟩
  | t :: ts, v :: vs, us, st, tmps, h1, h2, h3, hv => by
    cases hv with
    | cons _ _ u _ us g1 g2 =>
      simp only [List.zip_cons_cons, List.foldl_cons, putArgs]
      refine put_args (N := N) ?_ ?_ ?_ g2
      · rw [Array.size_setIfInBounds, h1]
        cases Nat.blt t st.N <;> rfl
      · intro i
        have hi := h2 i
        cases hb : Nat.blt t st.N
        · simp only [cond_false]
          have : tmps.setIfInBounds t u = tmps := by
            have : ¬ t < st.N := by
              intro hlt
              have : Nat.blt t st.N = true := Nat.ble_eq_true_of_le hlt
              rw [hb] at this
              cases this
            simp [Array.setIfInBounds, h1, this]
          rw [this]
          exact hi
        · simp only [cond_true]
          have hlt : t < st.N := Nat.le_of_ble_eq_true hb
          unfold SlotV at hi ⊢
          by_cases e : t = i
          · subst e
            have hg : (tmps.setIfInBounds t u).getD t undef = u := getD_set_self (by rw [h1]; exact hlt)
            rcases St.get_put_self (st := st) (i := t) (x := .val v) with k | k
            · rw [k]
              dsimp only
              rw [hg]
              exact g1
            · rw [k]
              trivial
          · rw [St.get_put_ne e, getD_set_ne e]
            exact hi
      · intro s
        cases Nat.blt t st.N
        · exact h3 s
        · exact h3 s

theorem post_strip (hn : C.noLoc) (g3 : HR E C') (g4 : Ev C C') : HR E C'.strip ∧ Ev C C'.strip ∧ C'.strip.noLoc :=
  ⟨strip_hr g3, ⟨g4.os, g4.tape, g4.output, g4.size, fun b hb hk => by
    obtain ⟨m1, m2⟩ := g4.keep b hb hk
    exact ⟨m1, (strip_of rfl (fun s e => by rw [m2] at e; rcases hk with hk | hk <;> rw [hk] at e <;> cases e)).trans m2⟩, g4.hlen, g4.rows, g4.oths⟩, strip_noLoc⟩

/-- A round. -/
theorem round_ok (hE : EnvOK E) (hcn : CNat cf) (hck : CallKOK E cf) (hD : ∀ fa, DrawOK E cf fa (staticOk E fa.sites)) (n id : Nat) {args : List AV} {us : Array Value} {v : AV} (h : runRound E cf n id args C.H (fun v G => some (v, G)) = some (v, H')) (hr : HR E C) (hn : C.noLoc) (hv : Vs C false args us.toList) :
    YLands E C id us (Gives E C v H') := by
  unfold runRound at h
  split at h
  · rename_i L hL
    cases hln : Nat.beq args.length L.ps.length
    · rw [hln] at h; cases h
    · rw [hln] at h
      simp only [cond_true] at h
      have hlen := Nat.eq_of_beq_eq_true hln
      obtain ⟨_, rcd, hrcd, hLV⟩ := hr.oth id _ rfl hL
      have hul : us.size = rcd.params.size := by
        rw [← Array.length_toList, hv.length, hlen, ← hLV.params, Array.length_toList]
      refine ⟨⟨L, hL⟩, rcd.fn, _, rcd.assign, rcd.body, run_yield hrcd hul, roundIn_of_wpIn trivial ?_⟩
      have hfr : FrameR C (fun _ => 0) (putArgs L.st L.ps args) { tmps := (rcd.params.zip us).foldl (fun tmps (t, a) => tmps.setIfInBounds t a) rcd.tmps, defers := [] } := by
        obtain ⟨k1, k2, k3⟩ := put_args (N := 0) (ps := L.ps) hLV.size hLV.slots hLV.novar hv
        have e : (rcd.params.zip us).foldl (fun tmps (t, a) => tmps.setIfInBounds t a) rcd.tmps = (L.ps.zip us.toList).foldl (fun t p => t.setIfInBounds p.1 p.2) rcd.tmps := by
          rw [← hLV.params, ← Array.foldl_toList, Array.toList_zip]
        refine ⟨by rw [e]; exact k1, trivial, fun t => ?_, fun s cs hs => by rw [k3 s] at hs; cases hs⟩
        have := k2 t
        unfold SlotV at this
        unfold SlotOk
        rw [e]
        split at this
        · exact this
        · exact this.elim
        · trivial
      obtain ⟨e1, s1, H1, h1, h2⟩ := exec_split hcn h
      rw [hLV.assign, hLV.body]
      refine exec_sound (ro := some (C.ρ id).1) hcn hck hE.names n L.fa (hD L.fa) L.assign _ _ C (fun _ => 0) _ _ e1 s1 H1 (.inr hLV.rf1) hLV.ok1 h1 hr hfr fun a1 w1 hp => ?_
      cases e1 with
      | exit _ => cases h2
      | ret => cases h2
      | normal =>
        dsimp only at h2
        obtain ⟨C1, lam1, rfl, rfl, g3, g4, g5⟩ := hp
        split at h2
        · rename_i L1 hL1
          cases hs0 : Nat.beq L1.state 0
          · rw [hs0] at h2; cases h2
          · rw [hs0] at h2
            simp only [cond_true] at h2
            have hst1 := Nat.eq_of_beq_eq_true hs0
            obtain ⟨_, rcd1, hrcd1, hLV1⟩ := g3.oth id _ rfl hL1
            have hidl : id < C.H.length := (List.getElem?_eq_some_iff.1 hL).1
            have hρ1 : C1.ρ id = C.ρ id := (g4.oths id hidl _ rfl hL1).2
            have hready : rcd1.state = .ready := by rw [hLV1.state, hst1]; rfl
            obtain ⟨k3, k4⟩ := oth_write (o' := .loop { L1 with state := 1 }) (ob' := .loop { rcd1 with state := .busy }) (w' := C1.w.putObj (C1.ρ id).1 (.loop { rcd1 with state := .busy })) g3 rfl hL1 (by simp [HObj.kd]) ⟨rfl, rfl, rfl⟩ rfl (fun _ _ _ e => by cases e)
              (fun _ => ⟨rfl, fun C' ev => ⟨_, rfl, ⟨rfl, hLV1.pending, hLV1.params, hLV1.assign, hLV1.body, hLV1.size, fun t => (hLV1.slots t).evV ev, hLV1.novar, hLV1.ok1, hLV1.ok2, hLV1.rf1, hLV1.rf2⟩⟩⟩)
            refine ⟨C1.w.putObj (C1.ρ id).1 (.loop { rcd1 with state := .busy }), by rw [← hρ1]; exact run_beginRound hrcd1 hready, ?_⟩
            obtain ⟨e2, s2, H2, m1, m2⟩ := exec_split hcn h2
            refine exec_sound (ro := some (C.ρ id).1) hcn hck hE.names n L.fa (hD L.fa) L.body _ _ { C1 with w := C1.w.putObj (C1.ρ id).1 (.loop { rcd1 with state := .busy }), H := C1.H.set id (.loop { L1 with state := 1 }) } lam1 _ _ e2 s2 H2 (.inr hLV.rf2) hLV.ok2 m1 k3 (g5.ev k4) fun a2 w2 hp2 => ?_
            obtain ⟨C2, lam2, rfl, rfl, p3, p4, p5⟩ := hp2
            unfold roundK at m2
            split at m2
            · rename_i L2 hL2
              cases hs1 : Nat.beq L2.state 1
              · rw [hs1] at m2; cases m2
              · rw [hs1] at m2
                simp only [cond_true] at m2
                obtain ⟨_, rcd2, hrcd2, hLV2⟩ := p3.oth id _ rfl hL2
                have hidl1 : id < (C1.H.set id (.loop { L1 with state := 1 })).length := by
                  have := g4.hlen
                  rw [List.length_set]
                  omega
                have hρ2 : C2.ρ id = C1.ρ id := (p4.oths id hidl1 _ rfl hL2).2
                have fin : ∀ (jump : Option AExit), v = .bool jump.isNone → H' = C2.H.set id (.loop { L2 with state := if jump.isNone then 0 else 2, pending := jump }) →
                    ∃ v' w', (Instr.endRound (C.ρ id).1 (jump.map AExit.code)).run E.P C2.w = .ok v' w' ∧ ∃ u, Ending.returned v' = .returned u ∧ Gives E C v H' u w' := fun jump hvj hHj => by
                  obtain ⟨q3, q4⟩ := oth_write (o' := .loop { L2 with state := if jump.isNone then 0 else 2, pending := jump }) (ob' := .loop { rcd2 with state := if (jump.map AExit.code).isNone then .ready else .done, pending := jump.map AExit.code })
                    (w' := C2.w.putObj (C2.ρ id).1 (.loop { rcd2 with state := if (jump.map AExit.code).isNone then .ready else .done, pending := jump.map AExit.code })) p3 rfl hL2 (by simp [HObj.kd]) ⟨rfl, rfl, rfl⟩ rfl (fun _ _ _ e => by cases e)
                    (fun _ => ⟨rfl, fun C' ev => ⟨_, rfl, ⟨by cases jump <;> rfl, rfl, hLV2.params, hLV2.assign, hLV2.body, hLV2.size, fun t => (hLV2.slots t).evV ev, hLV2.novar, hLV2.ok1, hLV2.ok2, hLV2.rf1, hLV2.rf2⟩⟩⟩)
                  refine ⟨_, _, by rw [← hρ1, ← hρ2]; exact run_endRound (jump.map AExit.code) hrcd2, _, rfl, ?_⟩
                  have evA := ((g4.trans k4.ev).trans p4).trans q4.ev
                  obtain ⟨z1, z2, z3⟩ := post_strip hn q3 evA
                  subst hvj hHj
                  refine ⟨_, rfl, rfl, ?_, z1, z2, z3⟩
                  have : (Option.map AExit.code jump).isNone = jump.isNone := by cases jump <;> rfl
                  rw [this]
                  exact .bool _ _
                cases e2 with
                | normal =>
                  simp only [Option.some.injEq, Prod.mk.injEq] at m2
                  obtain ⟨rfl, rfl⟩ := m2
                  exact fin none rfl rfl
                | exit i =>
                  simp only [Option.some.injEq, Prod.mk.injEq] at m2
                  obtain ⟨rfl, rfl⟩ := m2
                  exact fin (some (.exit i)) rfl rfl
                | ret =>
                  simp only [Option.some.injEq, Prod.mk.injEq] at m2
                  obtain ⟨rfl, rfl⟩ := m2
                  exact fin (some .ret) rfl rfl
            · cases m2
        · cases h2
  · cases h

/-- The marks are come to, where a function leaves. -/
theorem leaves_marks {P : Program} (hP : E.P = P) {fn : Func} {tmps : Array Value} {R : Ending → World → Prop} : ∀ {ds : List Deferred} {C : Ctx}, Marks C ds → HR E C →
    (∀ C' : Ctx, C'.H = C.H → C'.κ = C.κ → Ev C C' → EvV C C' → HR E C' → (∀ b, (∀ s, C.κ b ≠ .loc s) → C'.w.heap[b]? = C.w.heap[b]?) → (∀ (b : Nat) cells t fr, C.w.heap[b]? = some (.cells cells t fr) → C'.w.heap[b]? = some (.cells cells t fr)) → LeavesIn (FW none) 0 P fn tmps R [] .returning C'.w) →
    LeavesInM (FW none) 0 P fn tmps R ds .returning C.w := by
  intro ds
  induction ds with
  | nil =>
    intro C hm hr h
    exact h C rfl rfl (Ev.refl C) (Ev.refl C).toV hr (fun _ _ => rfl) (fun _ _ _ _ h => h)
  | cons d ds ih =>
    intro C hm hr h
    obtain ⟨⟨D, s, rfl, hD1, hD2, hD3⟩, hnm, hms⟩ := hm
    refine ⟨(fun e => by cases e), Or.inl ⟨D, C.w.putObj D (.deferred none), rfl, run_takeDeferred hD3, ?_⟩⟩
    have hsz : (C.w.putObj D (.deferred none)).heap.size = C.w.heap.size := World.putObj_size
    have hot : ∀ b, b ≠ D → (C.w.putObj D (.deferred none)).heap[b]? = C.w.heap[b]? := fun b hb => World.putObj_heap_other hb
    have hobj : ∀ b i, C.κ b = .obj i → b ≠ D := fun b i hb e => by rw [e, hD2] at hb; cases hb
    have hcell : ∀ (b : Nat) cells t fr, C.w.heap[b]? = some (.cells cells t fr) → b ≠ D := fun b cells t fr hb e => by
      rw [e, hD3] at hb
      injection hb with hb
      cases hb
    have ev : Ev C { C with w := C.w.putObj D (.deferred none) } := by
      refine ⟨rfl, rfl, rfl, Nat.le_of_eq hsz.symm, fun b hb hk => ⟨hot b fun e => ?_, rfl⟩, Nat.le_refl _, ?_, fun i hi o _ h => ⟨⟨o, h, rfl⟩, rfl⟩⟩
      · rw [e, hD2] at hk
        rcases hk with hk | hk <;> cases hk
      · intro i hi v sz ty es h
        refine ⟨v, es, h, Nat.le_refl _, fun _ => ⟨rfl, fun cells t f hc => ⟨cells, t, f, ?_, rfl⟩⟩⟩
        rw [← hot _ (hobj _ i (hr.row i v sz ty es h).2.2.1)]
        exact hc
    have hr' : HR E { C with w := C.w.putObj D (.deferred none) } := by
      refine hr.step ev ?_ ?_ ?_
      · intro i v sz ty es h
        exact .inl ⟨h, rfl, (hr.row i v sz ty es h).2.2.1, hot _ (hobj _ i (hr.row i v sz ty es h).2.2.1)⟩
      · intro i o ho h
        exact .inl ⟨h, rfl, (hr.oth i o ho h).1, hot _ (hobj _ i (hr.oth i o ho h).1)⟩
      · intro b hb
        exact hr.new b (by rw [← hsz]; exact hb)
    have hms' : Marks { C with w := C.w.putObj D (.deferred none) } ds := by
      clear ih h
      induction ds with
      | nil => trivial
      | cons d' ds ih2 =>
        obtain ⟨⟨D', s', rfl, k1, k2, k3⟩, k4, k5⟩ := hms
        have hne : D' ≠ D := fun e => hnm (by rw [e]; exact List.mem_cons_self)
        exact ⟨⟨D', s', rfl, by show _ < _; rw [hsz]; exact k1, k2, (hot D' hne).trans k3⟩, k4, ih2 (fun hm => hnm (List.mem_cons_of_mem _ hm)) k5⟩
    refine ih hms' hr' fun C' h1 h2 h3 h4 h5 h6 h7 => h C' h1 h2 (ev.trans h3) (ev.trans h3).toV h5 (fun b hb => (h6 b hb).trans (hot b fun e => hb s (by rw [e]; exact hD2))) (fun b cells t fr hb => h7 b cells t fr ((hot b (hcell b cells t fr hb)).trans hb))

theorem FrameR.late {C C' : Ctx} (hf : FrameR C lam st a) (hκ : C'.κ = C.κ) (ev : EvV C C') (hc : ∀ (b : Nat) cells t fr, C.w.heap[b]? = some (.cells cells t fr) → C'.w.heap[b]? = some (.cells cells t fr)) : FrameR C' lam st { a with defers := [] } := by
  refine ⟨hf.size, trivial, fun t => ?_, fun s cs hs => ?_⟩
  · have ht := hf.slots t
    unfold SlotOk at ht ⊢
    split at ht
    · exact ht.evV ev
    · exact ht
    · trivial
  · obtain ⟨h1, h2, cur, ty, fr, h3, h4, h5, h6⟩ := hf.vars s cs hs
    exact ⟨by rw [hκ]; exact h1, Nat.lt_of_lt_of_le h2 ev.size, cur, ty, fr, hc _ _ _ _ h3, h4, h5.evV ev, h6⟩

theorem callF_step (hE : EnvOK E) (n : Nat) (hck : CallKOK E (callF E n)) (hD : ∀ fa, DrawOK E (callF E n) fa (staticOk E fa.sites)) : CallOK E (callF E (n + 1)) := by
  refine ⟨?_, ?_⟩
  · intro f args C us v H' hlt h hr hn hv
    unfold callF at h
    rw [hlt] at h
    simp only [Bool.not_true, cond_false] at h
    split at h
    · rename_i fn hfn
      split at h
      · rename_i c hc
        split at h
        · rename_i hle
          have hrun : (callFunc f us).run E.P C.w = .ok (.enter f us) C.w := callFunc_enter hE.names (by unfold hasBody; rw [hfn]; simp [hc])
          refine .inl ⟨hrun, callsIn_wide.1 (callsIn_of_wp_marks (F := FW none) (n := 0) hfn hc trivial ?_)⟩
          obtain ⟨e, s1, H1, h1, h2⟩ := exec_split (callF_nat n) h
          refine exec_sound (ro := none) (callF_nat n) hck hE.names n (E.ann f) (hD (E.ann f)) c _ _ C (fun _ => 0) _ _ e s1 H1 (.inl rfl) (hE.codes f fn c hfn hc) h1 hr (start_ok hv hle) fun a' w' hp => ?_
          obtain ⟨C1, lam1, rfl, rfl, g3, g4, g5⟩ := hp
          have fin : resultVars E s1 C1.H fn.results.toList [] (fun vs => some (oneOrTup vs, C1.H)) = some (v, H') → LeavesInM (FW none) 0 E.P fn a'.tmps (fun e w' => ∃ u, e = .returned u ∧ Gives E C v H' u w') a'.defers .returning C1.w := fun h2 => by
            refine leaves_marks rfl g5.defers g3 fun C2 q1 q2 q3 q4 q5 q6 q7 => ?_
            have g6 : FrameR C2 lam1 s1 { a' with defers := [] } := g5.late q2 q4 q7
            have h2 := h2
            rw [← q1] at h2
            obtain ⟨ws, us', k1, k2, k3⟩ := resultVars_ok q5 g6 _ _ h2
            simp only [List.reverse_nil, List.nil_append, Option.some.injEq, Prod.mk.injEq] at k1
            obtain ⟨rfl, rfl⟩ := k1
            obtain ⟨z1, z2, z3⟩ := post_strip hn q5 (g4.trans q3)
            refine ⟨_, ?_, _, rfl, C2.strip, rfl, rfl, (one_or_tup k2).evV strip_evV, z1, z2, z3⟩
            unfold results
            rw [Array.mapM_eq_mapM_toList]
            simp only [Sem.run_bind, Sem.run_map, Sem.run_pure]
            exact (congrArg (fun r => Result.andThen (Result.andThen r fun a w' => Result.ok a.toArray w') fun a w' => Result.ok (if h : a.size = 1 then a[0] else Value.tuple a) w') k3)
          cases e with
          | normal => exact fin h2
          | exit id => cases h2
          | ret => exact fin h2
        · cases h
      · cases h
    · cases h
  · intro id args C us v H' h hr hn hv
    unfold callF at h
    have hb : Nat.blt (yBase + id) yBase = false := by
      cases hb : Nat.blt (yBase + id) yBase
      · rfl
      · have : yBase + id < yBase := Nat.le_of_ble_eq_true hb
        omega
    rw [hb] at h
    simp only [Bool.not_false, cond_true, Nat.add_sub_cancel_left] at h
    exact round_ok hE (callF_nat n) hck hD n id h hr hn hv

end
end Go.Den

/- DEN, part V: what an operation's result hangs on. -/
namespace Go.Den
open Go.RowKit

/-! ### slots that there are -/
namespace Tr
variable {α β : Type} {z : α}
def has : Tr α → Nat → Bool
  | .lf, _ => false
  | .nd l _ r, n => bif Nat.beq n 0 then true else bif Nat.beq (n % 2) 1 then has l (n / 2) else has r (n / 2 - 1)
theorem has_set : ∀ {t : Tr α} {i j : Nat} {x : α}, has (set t i x) j = has t j
  | .lf, _, _, _ => rfl
  | .nd l v r, i, j, x => by
    unfold set
    cases hi : Nat.beq i 0
    · simp only [cond_false]
      cases hm : Nat.beq (i % 2) 1
      · simp only [cond_false, has, has_set]
      · simp only [cond_true, has, has_set]
    · simp only [cond_true, has]
theorem get_set_has : ∀ {t : Tr α} {i : Nat} {x : α}, get z (set t i x) i = bif has t i then x else z
  | .lf, _, _ => rfl
  | .nd l v r, i, x => by
    unfold set
    cases hi : Nat.beq i 0
    · simp only [cond_false]
      cases hm : Nat.beq (i % 2) 1
      · simp only [cond_false, get, has, hi, hm]
        exact get_set_has
      · simp only [cond_true, get, has, hi, hm, cond_false]
        exact get_set_has
    · simp only [cond_true, get, has, hi]
end Tr

section
variable {E : Env} {cf : CallFn} {st st2 : St} {o : Oper} {site : Option Nat} {R : Type} {x : SV} {st' : St} {H' : Heap}

theorem eval_eq {y : Operand} (h : ∀ t, y = .tmp t → st2.get t = st.get t) : st2.eval E y = st.eval E y := by
  cases y with
  | tmp t => simp only [St.eval, h t rfl]
  | _ => rfl

theorem evals_eq : ∀ {ys : List Operand}, (∀ t, Operand.tmp t ∈ ys → st2.get t = st.get t) → evals E st2 ys = evals E st ys
  | [], _ => rfl
  | y :: ys, h => by
    unfold evals
    rw [eval_eq (fun t e => h t (by rw [← e]; exact List.mem_cons_self)), evals_eq (fun t ht => h t (List.mem_cons_of_mem _ ht))]

theorem parts_eq {pl : Nat → Option (Nat × Nat)} : ∀ {ps : List (Nat × Operand)}, (∀ t, Operand.tmp t ∈ ps.map (·.2) → st2.get t = st.get t) → parts E st2 pl ps = parts E st pl ps
  | [], _ => rfl
  | (i, y) :: ps, h => by
    unfold parts
    rw [eval_eq (fun t e => h t (by rw [← e]; exact List.mem_cons_self)), parts_eq (fun t ht => h t (List.mem_cons_of_mem _ ht))]

/-- The operation's result hangs on the slots that it looks at. -/
theorem opK_eq {H : Heap} {k k2 : SV → St → Heap → Option R} (ha : ∀ t, Operand.tmp t ∈ o.op.operands.toList → st2.get t = st.get t) (hv : ∀ s w, touchOf st site o = some (s, w) → w = false ∧ st2.var s = st.var s)
    (hk : ∀ x G, k2 x st2 G = k x st G) : opK E cf site o st2 H k2 = opK E cf site o st H k := by
  unfold opK
  unfold touchOf at hv
  cases ho : o.op <;> simp only [ho, Op.operands] at ha hv ⊢
  case move y => cases y <;> simp_all [St.eval]
  case assign y => cases y <;> simp_all [St.eval]
  case pick c a b =>
    rw [eval_eq (y := c) (fun t e => ha t (by simp [e])), eval_eq (y := a) (fun t e => ha t (by simp [e])), eval_eq (y := b) (fun t e => ha t (by simp [e]))]
    simp only [hk]
  case alloc t =>
    cases site with
    | none => simp only [hk]
    | some s => exact absurd (hv s true rfl).1 (by simp)
  case box t y =>
    rw [eval_eq (y := y) (fun t e => ha t (by simp [e]))]
    cases site with
    | none => simp only [hk]
    | some s => exact absurd (hv s true rfl).1 (by simp)
  case build t ps =>
    simp only [parts_eq (ps := ps.toList) (fun t ht => ha t (by simpa using ht)), hk]
  case buildSlice t n ps =>
    simp only [parts_eq (ps := ps.toList) (fun t ht => ha t (by simpa using ht)), hk]
  case load t y =>
    cases y with
    | tmp q =>
      simp only [ha q (by simp)]
      cases hq : st.get q with
      | val v => simp only [hk]
      | no => rfl
      | lp s off =>
        simp only [hq] at hv
        simp only [(hv s false rfl).2, hk]
    | _ => simp only [St.eval, hk]
  case store t y z =>
    rw [eval_eq (y := z) (fun t e => ha t (by simp [e]))]
    cases y with
    | tmp q =>
      simp only [ha q (by simp)]
      cases hq : st.get q with
      | val v => simp only [hk]
      | no => rfl
      | lp s off =>
        simp only [hq] at hv
        exact absurd (hv s true rfl).1 (by simp)
    | _ => rfl
  case nilCheck y =>
    cases y with
    | tmp q => simp only [ha q (by simp), hk]
    | _ => rfl
  case binOp op t y z s =>
    rw [eval_eq (y := y) (fun t e => ha t (by simp [e])), eval_eq (y := z) (fun t e => ha t (by simp [e]))]
    simp only [hk]
  case unOp op t y =>
    rw [eval_eq (y := y) (fun t e => ha t (by simp [e]))]
    simp only [hk]
  case lookup t y z ok =>
    rw [eval_eq (y := y) (fun t e => ha t (by simp [e])), eval_eq (y := z) (fun t e => ha t (by simp [e]))]
    simp only [hk]
  case mapUpdate t m y z =>
    rw [eval_eq (y := m) (fun t e => ha t (by simp [e])), eval_eq (y := y) (fun t e => ha t (by simp [e])), eval_eq (y := z) (fun t e => ha t (by simp [e]))]
    simp only [hk]
  case insert t m y z =>
    rw [eval_eq (y := m) (fun t e => ha t (by simp [e])), eval_eq (y := y) (fun t e => ha t (by simp [e])), eval_eq (y := z) (fun t e => ha t (by simp [e]))]
    simp only [hk]
  case makeMap t r =>
    cases r with
    | none => simp only [hk]
    | some y =>
      dsimp only
      rw [eval_eq (y := y) (fun t e => ha t (by simp [e]))]
      simp only [hk]
  case convert s d y =>
    rw [eval_eq (y := y) (fun t e => ha t (by simp [e]))]
    simp only [hk]
  case makeInterface t y =>
    rw [eval_eq (y := y) (fun t e => ha t (by simp [e]))]
    simp only [hk]
  case makeFunc f ys zs =>
    rw [evals_eq (ys := ys.toList) (fun t ht => ha t (by simp at ht ⊢; exact .inl ht)), evals_eq (ys := zs.toList) (fun t ht => ha t (by simp at ht ⊢; exact .inr ht))]
    simp only [hk]
  case makeSlice t y z =>
    rw [eval_eq (y := y) (fun t e => ha t (by simp [e])), eval_eq (y := z) (fun t e => ha t (by simp [e]))]
    simp only [hk]
  case slice t y lo hi mx =>
    rw [eval_eq (y := y) (fun t e => ha t (by simp [e])), evals_eq (ys := lo.toList) (fun t ht => ha t (by simp at ht ⊢; simp [ht])), evals_eq (ys := hi.toList) (fun t ht => ha t (by simp at ht ⊢; simp [ht])),
      evals_eq (ys := mx.toList) (fun t ht => ha t (by simp at ht ⊢; simp [ht]))]
    simp only [hk]
  case fieldAddr s y i =>
    cases y with
    | tmp q => simp only [ha q (by simp), hk]
    | _ => simp only [St.eval, hk]
  case field t y i =>
    rw [eval_eq (y := y) (fun t e => ha t (by simp [e]))]
    simp only [hk]
  case indexAddr t y z =>
    rw [eval_eq (y := z) (fun t e => ha t (by simp [e])), eval_eq (y := y) (fun t e => ha t (by simp [e]))]
    cases st.eval E z with
    | none => rfl
    | some i =>
      dsimp only
      cases E.P.underlying t with
      | none => rfl
      | some d =>
        cases d <;> dsimp only
        case slice e => simp only [hk]
        case array n e =>
          cases E.size e with
          | none => rfl
          | some sz =>
            cases y with
            | tmp q => dsimp only; rw [ha q (by simp)]; simp only [hk]
            | _ => simp only [St.eval, hk]
  case index t y z =>
    rw [eval_eq (y := y) (fun t e => ha t (by simp [e])), eval_eq (y := z) (fun t e => ha t (by simp [e]))]
    simp only [hk]
  case range t y =>
    rw [eval_eq (y := y) (fun t e => ha t (by simp [e]))]
    simp only [hk]
  case next y b =>
    cases b
    · rfl
    · dsimp only
      rw [eval_eq (y := y) (fun t e => ha t (by simp [e]))]
      simp only [hk]
  case typeAssert y xt t ok =>
    rw [eval_eq (y := y) (fun t e => ha t (by simp [e]))]
    simp only [hk]
  case extract y i =>
    rw [eval_eq (y := y) (fun t e => ha t (by simp [e]))]
    simp only [hk]
  case call c =>
    unfold Call.operands at ha
    rw [evals_eq (ys := c.args.toList) (fun t ht => ha t (by
      cases hc : c.callee <;> simp only [hc] <;> simp at ht ⊢ <;> simp [ht]))]
    cases evals E st c.args.toList with
    | none => rfl
    | some args =>
    dsimp only
    cases hc : c.callee with
    | value f =>
      simp only [hc] at ha
      dsimp only
      rw [eval_eq (y := f) (fun t e => ha t (by simp [e]))]
      simp only [hk]
    | builtin b => simp only [hk]
    | invoke r m =>
      simp only [hc] at ha
      dsimp only
      rw [eval_eq (y := r) (fun t e => ha t (by simp [e]))]
      simp only [hk]

theorem var_setVar {s : Nat} {cs : List AV} : (st.setVar s cs).var s = bif st.L.has s then some cs else none := Tr.get_set_has

theorem lay_some {s : Nat} {cs : List AV} {H : Heap} (h : layK s cs st H (fun x s G => some (x, s, G)) = some (x, st', H')) :
    st' = st.setVar s cs ∧ H' = H ∧ ∀ (st2 : St) (G : Heap), st2.var s = st.var s → st2.L.has s = st.L.has s → layK s cs st2 G (fun x s G => some (x, s, G)) = some (x, st2.setVar s cs, G) := by
  unfold layK at h
  split at h
  · rename_i hn
    split at h
    · rename_i ds hds
      simp only [Option.some.injEq, Prod.mk.injEq] at h
      obtain ⟨rfl, rfl, rfl⟩ := h
      refine ⟨rfl, rfl, fun st2 G h1 h2 => ?_⟩
      unfold layK
      have : (st2.setVar s cs).var s = some ds := by rw [var_setVar, h2, ← var_setVar]; exact hds
      rw [h1, hn, this]
    · cases h
  · cases h

/-- A variable of the frame's own is laid or written. -/
theorem write_ok {H : Heap} {s : Nat} (ht : touchOf st site o = some (s, true)) (h : opK E cf site o st H (fun x s G => some (x, s, G)) = some (x, st', H')) :
    ∃ cs, st' = st.setVar s cs ∧ H' = H ∧ ∀ (st2 : St) (G : Heap), (∀ t, Operand.tmp t ∈ o.op.operands.toList → st2.get t = st.get t) → st2.var s = st.var s → st2.L.has s = st.L.has s →
      opK E cf site o st2 G (fun x s G => some (x, s, G)) = some (x, st2.setVar s cs, G) := by
  unfold opK at h
  unfold touchOf at ht
  cases ho : o.op <;> simp only [ho, Op.operands] at ht h ⊢
  case alloc t =>
    cases site with
    | none => cases ht
    | some s1 =>
      simp only [Option.map_some, Option.some.injEq, Prod.mk.injEq, and_true] at ht
      subst ht
      split at h
      · rename_i z sz hz hsz
        obtain ⟨g1, g2, g3⟩ := lay_some (bif_some h)
        refine ⟨_, g1, g2, fun st2 G _ h1 h2 => ?_⟩
        unfold opK
        simp only [ho, hz, hsz]
        rw [g3 st2 G h1 h2]
        cases hb : (z.cells.length == sz && decide (0 < sz))
        · simp only [hb, cond_false] at h
          cases h
        · rfl
      · cases h
  case box t y =>
    cases site with
    | none => cases ht
    | some s1 =>
      simp only [Option.map_some, Option.some.injEq, Prod.mk.injEq, and_true] at ht
      subst ht
      split at h
      · rename_i z sz hz hsz
        obtain ⟨g1, g2, g3⟩ := lay_some (bif_some h)
        refine ⟨_, g1, g2, fun st2 G ha h1 h2 => ?_⟩
        unfold opK
        simp only [ho, hsz]
        rw [eval_eq (y := y) (st := st) (fun t e => ha t (by simp [e])), hz]
        dsimp only
        rw [g3 st2 G h1 h2]
        cases hb : (z.cells.length == sz && z.isDef && decide (0 < sz))
        · simp only [hb, cond_false] at h
          cases h
        · rfl
      · cases h
  case store t y z =>
    cases y with
    | tmp q =>
      dsimp only at ht h
      split at h
      · rename_i v sz hv hsz
        cases hq : st.get q with
        | val w => simp [hq] at ht
        | no => simp [hq] at ht
        | lp s1 off =>
          simp only [hq, Option.some.injEq, Prod.mk.injEq, and_true] at ht h
          subst ht
          split at h
          · rename_i cs hcs
            have hb : (A.fits sz v && decide (off + v.cells.length ≤ cs.length)) = true := by
              cases hb : (A.fits sz v && decide (off + v.cells.length ≤ cs.length))
              · rw [hb] at h; cases h
              · rfl
            rw [hb] at h
            simp only [cond_true, Option.some.injEq, Prod.mk.injEq] at h
            obtain ⟨rfl, rfl, rfl⟩ := h
            refine ⟨_, rfl, rfl, fun st2 G ha h1 h2 => ?_⟩
            unfold opK
            simp only [ho, hsz]
            rw [eval_eq (y := z) (st := st) (fun t e => ha t (by simp [e])), hv]
            simp only [ha q (by simp), hq, h1, hcs, hb, cond_true]
          · cases h
      · cases h
    | _ => cases ht
  case load t y =>
    cases y with
    | tmp q =>
      dsimp only at ht
      cases hq : st.get q <;> simp [hq] at ht
    | _ => cases ht
  all_goals cases ht

/-- Nothing but the small heap's reading. -/
def quietK (E : Env) (site : Option Nat) (o : Oper) (st : St) (H : Heap) : Option SV := opK E noCalls site o st H fun x _ _ => some x

theorem quietV {R : Type} {v : Option AV} {f : AV → SV} {k : SV → Option R} : withV v (fun v => k (f v)) = (withV v fun v => some (f v)).bind k := by
  cases v <;> rfl

theorem callQ_quiet {f : FuncId} {args : List AV} {H : Heap} {k : AV → Heap → Option R} : callQ E f args H k = (callQ E f args H fun w _ => some w).bind fun w => k w H := by
  unfold callQ
  split
  · cases args.all AV.imm
    · rfl
    · simp only [cond_true]
      split <;> rfl
  · rfl

/-- An operation that is not loud and writes nothing only reads. -/
theorem quiet_ok {H : Heap} {k : SV → St → Heap → Option R} (hl : isLoud E site o = false) (ht : ∀ s, touchOf st site o ≠ some (s, true)) : opK E cf site o st H k = (quietK E site o st H).bind fun x => k x st H := by
  unfold quietK opK
  unfold isLoud at hl
  unfold touchOf at ht
  cases ho : o.op <;> simp only [ho] at hl ht ⊢
  case alloc t =>
    cases site with
    | none => cases hl
    | some s => exact absurd rfl (ht s)
  case box t y =>
    cases site with
    | none => cases hl
    | some s => exact absurd rfl (ht s)
  case call c =>
    cases hc : c.callee with
    | value f =>
      rw [hc] at hl
      cases site with
      | none => cases hl
      | some s =>
        cases evals E st c.args.toList with
        | none => rfl
        | some args =>
          cases f with
          | func g =>
            dsimp only
            rw [callQ_quiet, callQ_quiet (k := fun w _ => some (SV.val w))]
            cases callQ E g args H fun w _ => some w <;> rfl
          | _ => rfl
    | invoke r m => rw [hc] at hl; cases hl
    | builtin b =>
      rw [hc] at hl
      cases evals E st c.args.toList with
      | none => rfl
      | some args =>
        dsimp only
        unfold builtinK
        split
        · split
          · exact withV_to fun v => rfl
          · exact withV_to fun v => rfl
          · exact withV_to fun v => rfl
          · rfl
        · exact withV_to fun v => rfl
        · exact withV_to fun v => rfl
        · cases hl
        · cases hl
        · cases hl
        · cases hl
        · cases hl
        · cases hl
        · rfl
  case convert s d y =>
    cases st.eval E y with
    | none => rfl
    | some v =>
      have e : ∀ K : Heap, convN E s d v K = none := fun K => by
        unfold convN
        split at hl <;> first | (cases hl; done) | simp only [*]
      dsimp only
      unfold convertK
      split
      · rfl
      · split
        · rfl
        · simp only [e]
          rfl
  case store => cases hl
  case buildSlice => cases hl
  case makeSlice => cases hl
  case range => cases hl
  case next => cases hl
  case mapUpdate => cases hl
  case insert => cases hl
  case makeMap => cases hl
  case typeAssert y xt t ok =>
    split
    · split
      · rfl
      · cases ok
        · simp only [cond_false]
          split <;> rfl
        · simp only [cond_true]
          split
          · rfl
          · split <;> rfl
    · rfl
  all_goals repeat' (first | split | (with_reducible exact (Option.bind_none _).symm) | (with_reducible apply bif_to) | (with_reducible exact withV_to fun v => rfl) | rfl)

section still
variable {v w : AV} {H G : Heap}
theorem load_still {ag : Bool} {sz : Nat} (h : v.heapy = false) : A.load ag sz v H = A.load ag sz v G := by cases v <;> first | rfl | cases h
theorem nilCheck_still (h : v.heapy = false) : A.nilCheck v H = A.nilCheck v G := by
  cases v
  case fn f a b => cases f <;> rfl
  all_goals first | rfl | cases h
theorem fa_still {off : Nat} (h : v.heapy = false) : A.fa off v H = A.fa off v G := by cases v <;> first | rfl | cases h
theorem idx_still {sz : Nat} (h : v.heapy = false) : A.idx sz v w H = A.idx sz v w G := by
  cases v
  case sh z es => cases w <;> rfl
  all_goals first | rfl | cases h
theorem idxArr_still {sz n : Nat} (h : v.heapy = false) : A.idxArr sz n v w H = A.idxArr sz n v w G := by
  unfold A.idxArr
  cases w <;> dsimp only
  rw [fa_still h]
theorem slice_still {sz : Nat} {lo hi mx : Option AV} (h : v.heapy = false) : A.slice sz v lo hi mx H = A.slice sz v lo hi mx G := by cases v <;> first | rfl | cases h
theorem len_still (h : v.heapy = false) : A.len v H = A.len v G := by cases v <;> first | rfl | cases h
theorem lenMap_still (h : v.heapy = false) : A.lenMap v H = A.lenMap v G := by cases v <;> first | rfl | cases h
theorem entries_still (h : v.heapy = false) : A.entries v H = A.entries v G := by cases v <;> first | rfl | cases h
theorem eqNilH_still {d : Option TypeDesc} (h : v.heapy = false) : A.eqNilH d v w H = A.eqNilH d v w G := by
  unfold A.eqNilH
  split
  all_goals try (cases v <;> first | rfl | cases h)
theorem eqPtr_still {P : Program} {d : Option TypeDesc} (h : v.heapy = false) : A.eqPtr P d v w H = A.eqPtr P d v w G := by
  unfold A.eqPtr
  split
  all_goals try (cases v <;> first | rfl | cases h)
theorem bin_still {P : Program} {op : BinOp} {t : TypeId} {yc : Bool} (h : v.heapy = false) : A.bin P op t v w yc H = A.bin P op t v w yc G := by
  unfold A.bin
  split
  · rfl
  · rfl
  · rfl
  · rfl
  · rw [eqNilH_still (G := G) h, eqPtr_still (G := G) h]
end still

theorem mapM_mem {α β : Type} {f : α → Option β} : ∀ {l : List α} {m : List β}, l.mapM f = some m → ∀ {y : β}, y ∈ m → ∃ x ∈ l, f x = some y
  | [], m, h, y, hy => by
    simp only [List.mapM_nil, Option.pure_def, Option.some.injEq] at h
    subst h
    cases hy
  | x :: l, m, h, y, hy => by
    rw [List.mapM_cons] at h
    simp only [Option.pure_def, Option.bind_eq_bind, Option.bind_eq_some_iff, Option.some.injEq] at h
    obtain ⟨z, h1, r, h2, rfl⟩ := h
    rcases List.mem_cons.1 hy with rfl | hy
    · exact ⟨x, List.mem_cons_self, h1⟩
    · obtain ⟨w, g1, g2⟩ := mapM_mem h2 hy
      exact ⟨w, List.mem_cons_of_mem _ g1, g2⟩
theorem ofConst_leaf {n : Nat} {u : Value} {v : AV} (h : ofConst n u = some v) (ho : v.one = true) : v.leaf = true := by
  cases n with
  | zero => cases h
  | succ n =>
    unfold ofConst at h
    split at h
    all_goals first
      | (simp only [Option.some.injEq] at h; subst h; rfl)
      | skip
    · split at h
      · rename_i vs _
        cases hb : vs.all AV.one
        · rw [hb] at h; cases h
        · rw [hb] at h
          simp only [cond_true, Option.some.injEq] at h
          subst h
          cases ho
      · cases h
    · cases h
theorem ofConst_heapy {n : Nat} {u : Value} {v : AV} (h : ofConst n u = some v) : v.heapy = false := by
  cases n with
  | zero => cases h
  | succ n =>
    unfold ofConst at h
    split at h
    all_goals first
      | (simp only [Option.some.injEq] at h; subst h; rfl)
      | skip
    · split at h
      · rename_i vs hm
        cases hb : vs.all AV.one
        · rw [hb] at h; cases h
        · rw [hb] at h
          simp only [cond_true, Option.some.injEq] at h
          subst h
          have : vs.all AV.leaf = true := List.all_eq_true.2 fun y hy => by
            obtain ⟨x, _, hx⟩ := mapM_mem hm hy
            exact ofConst_leaf hx (List.all_eq_true.1 hb y hy)
          show (!(vs.all AV.leaf)) = false
          rw [this]
          rfl
      · cases h
    · cases h

theorem evals_mem : ∀ {ys : List Operand} {vs : List AV}, evals E st ys = some vs → ∀ {v : AV}, v ∈ vs → ∃ y ∈ ys, st.eval E y = some v
  | [], vs, h, v, hv => by
    simp only [evals, Option.some.injEq] at h
    subst h
    cases hv
  | y :: ys, vs, h, v, hv => by
    unfold evals at h
    split at h
    · rename_i w hw
      split at h
      · rename_i ws hws
        simp only [Option.some.injEq] at h
        subst h
        rcases List.mem_cons.1 hv with rfl | hv
        · exact ⟨y, List.mem_cons_self, hw⟩
        · obtain ⟨y', h1, h2⟩ := evals_mem hws hv
          exact ⟨y', List.mem_cons_of_mem _ h1, h2⟩
      · cases h
    · cases h

theorem eval_heapy (hh : heapy st o = false) {y : Operand} (hy : y ∈ o.op.operands.toList) {v : AV} (h : st.eval E y = some v) : v.heapy = false := by
  cases y with
  | tmp t =>
    unfold heapy at hh
    have := List.any_eq_false.1 hh _ hy
    dsimp only at this
    unfold St.eval at h
    dsimp only at h
    split at h
    · rename_i w hw
      rw [hw] at this
      simp only [Option.some.injEq] at h
      subst h
      simpa using this
    · cases h
  | const u => exact ofConst_heapy h
  | func f => simp only [St.eval, Option.some.injEq] at h; subst h; rfl
  | global g =>
    simp only [St.eval, Option.map_eq_some_iff] at h
    obtain ⟨cs, _, rfl⟩ := h
    rfl

/-- What reads the small heap lays nothing. -/
theorem site_reads {H : Heap} {k : SV → St → Heap → Option R} (hr : reads o = true) : opK E cf site o st H k = opK E cf none o st H k := by
  unfold reads at hr
  unfold opK
  cases ho : o.op <;> simp only [ho] at hr ⊢
  all_goals first | (cases hr; done) | skip
  case call c =>
    cases hc : c.callee with
    | builtin b => rfl
    | value f => rw [hc] at hr; cases hr
    | invoke r m => rfl

theorem quiet_still {H G : Heap} (hl : isLoud E site o = false) (ht : ∀ s, touchOf st site o ≠ some (s, true)) (hh : reads o = false ∨ heapy st o = false) : quietK E site o st G = quietK E site o st H := by
  have hev : ∀ {y : Operand}, y ∈ o.op.operands.toList → reads o = true → ∀ {v : AV}, st.eval E y = some v → v.heapy = false := fun hy hr v hv => by
    rcases hh with hh | hh
    · rw [hr] at hh; cases hh
    · exact eval_heapy hh hy hv
  unfold quietK opK
  unfold isLoud at hl
  unfold touchOf at ht
  unfold reads at hev
  cases ho : o.op <;> simp only [ho, Op.operands] at hl ht hev ⊢
  case alloc t =>
    cases site with
    | none => cases hl
    | some s => exact absurd rfl (ht s)
  case box t y =>
    cases site with
    | none => cases hl
    | some s => exact absurd rfl (ht s)
  case store => cases hl
  case buildSlice => cases hl
  case makeSlice => cases hl
  case range => cases hl
  case next => cases hl
  case mapUpdate => cases hl
  case insert => cases hl
  case makeMap => cases hl
  case lookup t y z ok =>
    split
    · rename_i v w hv hw
      rw [entries_still (G := H) (hev (by simp) trivial hv)]
    · rfl
  case load t y =>
    cases y with
    | tmp q =>
      dsimp only
      cases hq : st.get q with
      | val v => 
        have := hev (y := .tmp q) (by simp) trivial (v := v) (by simp [St.eval, hq])
        simp only [load_still (G := H) (H := G) this]
      | no => rfl
      | lp s off => rfl
    | _ =>
      dsimp only
      split
      · split
        · rename_i v hv
          rw [load_still (G := H) (hev (by simp) trivial hv)]
        · rfl
      · rfl
  case nilCheck y =>
    cases y with
    | tmp q =>
      dsimp only
      cases hq : st.get q with
      | val v => 
        have := hev (y := .tmp q) (by simp) trivial (v := v) (by simp [St.eval, hq])
        simp only [nilCheck_still (G := H) (H := G) this]
      | no => rfl
      | lp s off => rfl
    | _ => rfl
  case binOp op t y z s =>
    split
    · rename_i v w hv hw
      rw [bin_still (G := H) (hev (by simp) trivial hv)]
    · rfl
  case fieldAddr s y i =>
    split
    · cases y with
      | tmp q =>
        dsimp only
        cases hq : st.get q with
        | val v => 
          have := hev (y := .tmp q) (by simp) trivial (v := v) (by simp [St.eval, hq])
          simp only [fa_still (G := H) (H := G) this]
        | no => rfl
        | lp s off => rfl
      | _ =>
        dsimp only
        split
        · rename_i v hv
          rw [fa_still (G := H) (hev (by simp) trivial hv)]
        · rfl
    · rfl
  case indexAddr t y z =>
    split
    · split
      · split
        · rename_i v hsz hv
          rw [idx_still (G := H) (hev (by simp) trivial hv)]
        · rfl
      · split
        · rename_i q hsz
          cases hq : st.get q with
          | val v => 
            have := hev (y := .tmp q) (by simp) trivial (v := v) (by simp [St.eval, hq])
            simp only [idxArr_still (G := H) (H := G) this]
          | no => rfl
          | lp s off => rfl
        · split
          · rename_i v hv
            rw [idxArr_still (G := H) (hev (by simp) trivial hv)]
          · rfl
        · rfl
      · rfl
    · rfl
  case slice t y lo hi mx =>
    split
    · rename_i v l h m hv _ _ _
      split
      · rfl
      · split
        · rw [slice_still (G := H) (hev (by simp) trivial hv)]
        · rfl
      · rfl
    · rfl
  case call c =>
    cases hc : c.callee with
    | value f =>
      rw [hc] at hl
      cases site with
      | none => cases hl
      | some s =>
        cases evals E st c.args.toList with
        | none => rfl
        | some args =>
          cases f with
          | func g =>
            simp only [callQ]
          | _ => rfl
    | invoke r m => rw [hc] at hl; cases hl
    | builtin b =>
      rw [hc] at hl
      cases hargs : evals E st c.args.toList with
      | none => rfl
      | some args =>
        dsimp only
        unfold builtinK
        split
        · rename_i x hts
          split
          · rfl
          · obtain ⟨y, hy, hyv⟩ := evals_mem hargs (v := x) (by simp)
            rw [len_still (G := H) (hev (y := y) (by unfold Call.operands; simp only [Array.toList_append]; exact List.mem_append_right _ hy) (by rw [hc]) hyv)]
          · obtain ⟨y, hy, hyv⟩ := evals_mem hargs (v := x) (by simp)
            rw [lenMap_still (G := H) (hev (y := y) (by unfold Call.operands; simp only [Array.toList_append]; exact List.mem_append_right _ hy) (by rw [hc]) hyv)]
          · rfl
        · rfl
        · rfl
        · cases hl
        · cases hl
        · cases hl
        · cases hl
        · cases hl
        · cases hl
        · rfl
  case convert s d y =>
    cases st.eval E y with
    | none => rfl
    | some v =>
      have e : ∀ K : Heap, convH E s d v K = none := fun K => by
        unfold convH
        split at hl <;> first | (cases hl; done) | simp only [*]
      have e2 : ∀ K : Heap, convN E s d v K = none := fun K => by
        unfold convN
        split at hl <;> first | (cases hl; done) | simp only [*]
      dsimp only
      unfold convertK
      simp only [e, e2]
  all_goals rfl

end
end Go.Den

/- DEN, part W: regions whose order is open. -/
namespace Go.Den
open Go.RowKit

mutual
theorem AV.beq_eq : ∀ (a b : AV), AV.beq a b = true → a = b
  | .undef, b, h | .nilp, b, h | .nils, b, h | .nilf, b, h | .nili, b, h | .nilm, b, h => by cases b <;> first | rfl | cases h
  | .bool x, b, h => by cases b <;> first | (cases h; done) | (simp only [AV.beq, beq_iff_eq] at h; rw [h])
  | .int k x, b, h => by cases b <;> first | (cases h; done) | (simp only [AV.beq, Bool.and_eq_true, decide_eq_true_eq] at h; rw [h.1, h.2])
  | .str x, b, h => by cases b <;> first | (cases h; done) | (simp only [AV.beq, decide_eq_true_eq] at h; rw [h])
  | .ptr x y z w, b, h => by cases b <;> first | (cases h; done) | (simp only [AV.beq, Bool.and_eq_true, decide_eq_true_eq] at h; obtain ⟨⟨⟨rfl, rfl⟩, rfl⟩, rfl⟩ := h; rfl)
  | .sl x y z w v, b, h => by cases b <;> first | (cases h; done) | (simp only [AV.beq, Bool.and_eq_true, decide_eq_true_eq] at h; obtain ⟨⟨⟨⟨rfl, rfl⟩, rfl⟩, rfl⟩, rfl⟩ := h; rfl)
  | .rop x, b, h => by cases b <;> first | (cases h; done) | (rw [AV.beqs_eq x _ h])
  | .sh z x, b, h => by cases b <;> first | (cases h; done) | (simp only [AV.beq, Bool.and_eq_true, decide_eq_true_eq] at h; rw [h.1, AV.beqs_eq x _ h.2])
  | .agg x, b, h => by cases b <;> first | (cases h; done) | (rw [AV.beqs_eq x _ h])
  | .tup x, b, h => by cases b <;> first | (cases h; done) | (rw [AV.beqs_eq x _ h])
  | .fn f x y, b, h => by cases b <;> first | (cases h; done) | (simp only [AV.beq, Bool.and_eq_true, decide_eq_true_eq] at h; rw [h.1.1, AV.beqs_eq x _ h.1.2, AV.beqs_eq y _ h.2])
  | .iface t x, b, h => by cases b <;> first | (cases h; done) | (simp only [AV.beq, Bool.and_eq_true, decide_eq_true_eq] at h; rw [h.1, AV.beq_eq x _ h.2])
  | .mp x, b, h => by cases b <;> first | (cases h; done) | (simp only [AV.beq, decide_eq_true_eq] at h; rw [h])
  | .it x, b, h => by cases b <;> first | (cases h; done) | (simp only [AV.beq, decide_eq_true_eq] at h; rw [h])
  | .yl x, b, h => by cases b <;> first | (cases h; done) | (simp only [AV.beq, decide_eq_true_eq] at h; rw [h])
theorem AV.beqs_eq : ∀ (a b : List AV), AV.beqs a b = true → a = b
  | [], b, h => by cases b <;> first | rfl | cases h
  | x :: xs, b, h => by
    cases b with
    | nil => cases h
    | cons y ys =>
      simp only [AV.beqs, Bool.and_eq_true] at h
      rw [AV.beq_eq x y h.1, AV.beqs_eq xs ys h.2]
end

section
variable {E : Env} {cf : CallFn} {C C' : Ctx} {lam : Nat → Nat} {st st2 : St} {o : Oper} {site : Option Nat} {x : SV} {st' : St} {H H' G : Heap}

/-- The same result, in another frame and another version of the small heap. -/
theorem quiet_move (hcn : CNat cf) (hl : isLoud E site o = false) (ht : ∀ s, touchOf st site o ≠ some (s, true)) (h : opK E cf site o st H (fun x s G => some (x, s, G)) = some (x, st', H'))
    (hG : (reads o = false ∨ heapy st o = false) ∨ sameAt E o ⟨st, H, x, st', H'⟩ G = true ∨ G = H)
    (ha : ∀ t, Operand.tmp t ∈ o.op.operands.toList → st2.get t = st.get t) (hv : ∀ s, touchOf st site o = some (s, false) → st2.var s = st.var s) :
    st' = st ∧ H' = H ∧ opK E cf site o st2 G (fun x s G => some (x, s, G)) = some (x, st2, G) := by
  have h0 := h
  rw [quiet_ok hl ht] at h
  simp only [Option.bind_eq_some_iff, Option.some.injEq, Prod.mk.injEq] at h
  obtain ⟨x0, hq, rfl, rfl, rfl⟩ := h
  refine ⟨rfl, rfl, ?_⟩
  have hqG : quietK E site o st G = some x0 := by
    rcases hG with hG | hG | rfl
    · rw [quiet_still (G := G) (H := H) hl ht hG]; exact hq
    · cases hrd : reads o
      · rw [quiet_still (G := G) (H := H) hl ht (.inl hrd)]; exact hq
      unfold sameAt at hG
      dsimp only at hG
      rw [← site_reads (site := site) hrd, show opK E noCalls site o st G (fun x _ _ => some x) = quietK E site o st G from rfl] at hG
      split at hG
      · rename_i w hw
        split at hG
        · rename_i v
          rw [hw, AV.beq_eq _ _ hG]
        · cases hG
      · cases hG
    · exact hq
  have key : opK E cf site o st2 G (fun x s G => some (x, s, G)) = opK E cf site o st G (fun x _ G => some (x, st2, G)) := opK_eq ha (fun s w e => by
    cases w with
    | true => exact absurd e (ht s)
    | false => exact ⟨rfl, hv s e⟩) (fun _ _ => rfl)
  rw [key, quiet_ok hl ht, hqG]
  rfl

theorem loud_move (hcn : CNat cf) (ht : ∀ s, touchOf st site o ≠ some (s, true)) (h : opK E cf site o st H (fun x s G => some (x, s, G)) = some (x, st', H'))
    (ha : ∀ t, Operand.tmp t ∈ o.op.operands.toList → st2.get t = st.get t) (hv : ∀ s, touchOf st site o = some (s, false) → st2.var s = st.var s) :
    st' = st ∧ opK E cf site o st2 H (fun x s G => some (x, s, G)) = some (x, st2, H') := by
  have h1 := op_keeps' hcn ht h
  subst h1
  refine ⟨rfl, ?_⟩
  have key : opK E cf site o st2 H (fun x s G => some (x, s, G)) = opK E cf site o st' H (fun x _ G => some (x, st2, G)) := opK_eq ha (fun s w e => by
    cases w with
    | true => exact absurd e (ht s)
    | false => exact ⟨rfl, hv s e⟩) (fun _ _ => rfl)
  rw [key, opK_nat hcn, h]
  rfl

end
end Go.Den

/- DEN, part Y: regions whose order is open: every order comes to the same. -/
namespace Go.Den
open Go.RowKit

/-- What the text's order does at an operation. -/
inductive TextStep (E : Env) (cf : CallFn) (sites : List (Nat × Nat × Nat)) (rid : Nat) (ops : Array Oper) (i : Nat) (o : Oper) (r : Rec) : Prop
  | plain (st' : St) (hg : o.guard = none) (h : opK E cf (siteOf sites rid i) o r.st r.H (fun x s G => some (x, s, G)) = some (r.x, st', r.H1)) (h1 : r.st1 = stPut st' o.dst r.x)
  | on (j : Nat) (want : Bool) (v : AV) (hg : o.guard = some (j, want)) (hb : guardOf ops r.st j want = some want) (hk : keepsL r.st o = true) (hx : r.x = .val v)
      (h : opK E cf none o r.st r.H (fun x s G => some (x, s, G)) = some (r.x, r.st, r.H1)) (h1 : r.st1 = stPut r.st o.dst r.x)
  | off (j : Nat) (want b : Bool) (hg : o.guard = some (j, want)) (hb : guardOf ops r.st j want = some b) (hne : (b == want) = false) (hx : r.x = .val (.tup [])) (hH : r.H1 = r.H) (h1 : r.st1 = stPut r.st o.dst r.x)

inductive Run (E : Env) (cf : CallFn) (sites : List (Nat × Nat × Nat)) (rid : Nat) (ops : Array Oper) : Nat → List Oper → St → Heap → List Rec → St → Heap → Prop
  | nil (i : Nat) (st : St) (H : Heap) : Run E cf sites rid ops i [] st H [] st H
  | cons (i : Nat) (o : Oper) (os : List Oper) (r : Rec) (rs : List Rec) (st' : St) (H' : Heap) : TextStep E cf sites rid ops i o r → Run E cf sites rid ops (i + 1) os r.st1 r.H1 rs st' H' →
      Run E cf sites rid ops i (o :: os) r.st r.H (r :: rs) st' H'

section
variable {E : Env} {cf : CallFn} {sites : List (Nat × Nat × Nat)} {rid : Nat} {ops : Array Oper} {d : DInfo} {st' : St} {H' : Heap}

theorem keepsL_touch {st : St} {o : Oper} (hk : keepsL st o = true) (s : Nat) : touchOf st none o ≠ some (s, true) := fun e => by
  unfold touchOf at e
  unfold keepsL at hk
  cases ho : o.op <;> simp only [ho] at e hk
  case store t y z =>
    cases y with
    | tmp q =>
      dsimp only at e hk
      cases hq : st.get q <;> simp only [hq] at e hk <;> first | (cases hk; done) | (cases e; done)
    | _ => cases e
  case load t y =>
    cases y with
    | tmp q =>
      dsimp only at e
      cases hq : st.get q <;> simp [hq] at e
    | _ => cases e
  all_goals cases e

theorem opsD_run (hcn : CNat cf) (H0 : Heap) : ∀ (l : List Oper) (i : Nat) (tr : List Rec) (st : St) (H : Heap), opsD E cf sites d rid ops H0 l i tr st H (fun s G => some (s, G)) = some (st', H') →
    ∃ rs, Run E cf sites rid ops i l st H rs st' H' ∧ drawOk E sites d rid ops H0 (tr.reverse ++ rs) = true
  | [], i, tr, st, H, h => by
    unfold opsD at h
    cases hd : drawOk E sites d rid ops H0 tr.reverse
    · rw [hd] at h; cases h
    · rw [hd] at h
      simp only [cond_true, Option.some.injEq, Prod.mk.injEq] at h
      obtain ⟨rfl, rfl⟩ := h
      exact ⟨[], .nil _ _ _, by rw [List.append_nil]; exact hd⟩
  | o :: l, i, tr, st, H, h => by
    unfold opsD at h
    split at h
    · rename_i hg
      rw [opK_nat hcn] at h
      simp only [Option.bind_eq_some_iff] at h
      obtain ⟨⟨x, st1, H1⟩, h1, h2⟩ := h
      obtain ⟨rs, k1, k2⟩ := opsD_run hcn H0 l _ _ _ _ h2
      refine ⟨⟨st, H, x, stPut st1 o.dst x, H1⟩ :: rs, .cons i o l ⟨st, H, x, stPut st1 o.dst x, H1⟩ rs _ _ (.plain st1 hg h1 rfl) k1, ?_⟩
      simpa using k2
    · rename_i j want hg
      split at h
      · rename_i b hb
        split at h
        · rename_i p hp
          unfold guarded at hp
          obtain ⟨rs, k1, k2⟩ := opsD_run hcn H0 l _ _ _ _ h
          refine ⟨⟨st, H, .val p.1, stPut st o.dst (.val p.1), p.2⟩ :: rs, .cons i o l ⟨st, H, .val p.1, stPut st o.dst (.val p.1), p.2⟩ rs _ _ ?_ k1, by simpa using k2⟩
          cases hbw : (b == want)
          · rw [hbw] at hp
            simp only [cond_false, Option.some.injEq] at hp
            subst hp
            exact .off j want b hg hb hbw rfl rfl rfl
          · rw [hbw] at hp
            simp only [cond_true] at hp
            have hbe : b = want := by simpa using hbw
            subst hbe
            refine .on j b p.1 hg hb ?_ rfl (guarded_ok hcn hp) rfl
            unfold guardedK at hp
            cases hk : keepsL st o
            · rw [hk] at hp; cases hp
            · rfl
        · cases h
      · cases h

/-- The frame ahead of the k-th operation. -/
def frameAt (rs : List Rec) (st' : St) (k : Nat) : St := match rs[k]? with | some r => r.st | none => st'
def heapAt (rs : List Rec) (H' : Heap) (k : Nat) : Heap := match rs[k]? with | some r => r.H | none => H'
def valAt (rs : List Rec) (k : Nat) : SV := match rs[k]? with | some r => r.x | none => .no

theorem run_start {i : Nat} {l : List Oper} {st : St} {H : Heap} {rs : List Rec} (h : Run E cf sites rid ops i l st H rs st' H') : frameAt rs st' 0 = st ∧ heapAt rs H' 0 = H ∧ rs.length = l.length := by
  induction h with
  | nil => exact ⟨rfl, rfl, rfl⟩
  | cons i o os r rs st' H' h1 h2 ih => exact ⟨rfl, rfl, by simp [ih.2.2]⟩

theorem run_at {i : Nat} {l : List Oper} {st : St} {H : Heap} {rs : List Rec} (h : Run E cf sites rid ops i l st H rs st' H') : ∀ {k : Nat} {o : Oper}, l[k]? = some o →
    rs[k]? = some ⟨frameAt rs st' k, heapAt rs H' k, valAt rs k, frameAt rs st' (k + 1), heapAt rs H' (k + 1)⟩ ∧ TextStep E cf sites rid ops (i + k) o ⟨frameAt rs st' k, heapAt rs H' k, valAt rs k, frameAt rs st' (k + 1), heapAt rs H' (k + 1)⟩ := by
  induction h with
  | nil => intro k o hk; simp at hk
  | cons i o os r rs st' H' h1 h2 ih =>
    intro k q hk
    cases k with
    | zero =>
      obtain ⟨e1, e2, _⟩ := run_start h2
      simp only [List.getElem?_cons_zero, Option.some.injEq] at hk
      subst hk
      have hr : (⟨frameAt (r :: rs) st' 0, heapAt (r :: rs) H' 0, valAt (r :: rs) 0, frameAt (r :: rs) st' 1, heapAt (r :: rs) H' 1⟩ : Rec) = r := by
        have a1 : frameAt (r :: rs) st' 1 = r.st1 := e1
        have a2 : heapAt (r :: rs) H' 1 = r.H1 := e2
        rw [a1, a2]
        rfl
      rw [hr]
      exact ⟨rfl, h1⟩
    | succ k =>
      have := ih (k := k) (o := q) (by simpa using hk)
      have e : (i + 1 + k) = i + (k + 1) := by omega
      rw [e] at this
      exact this

end
end Go.Den

/- DEN, part Z: regions whose order is open (on): what their text says, and the walk in any order. -/
namespace Go.Den
open Go.RowKit

section
variable {E : Env} {cf : CallFn} {sites : List (Nat × Nat × Nat)} {rid : Nat} {ops : Array Oper} {d : DInfo} {st' : St} {H' : Heap}

def loudAt (E : Env) (sites : List (Nat × Nat × Nat)) (rid : Nat) (ops : Array Oper) (j : Nat) : Bool :=
  match ops[j]? with
  | some o => isLoud E (siteAt sites rid j o) o
  | none => false

/-- What the check of the text tells. -/
structure TextOK (E : Env) (sites : List (Nat × Nat × Nat)) (rid : Nat) (ops : Array Oper) (d : DInfo) : Prop where
  edge : ∀ (i j : Nat) (o q : Oper), ops[i]? = some o → ops[j]? = some q → bef d i j = true → ∃ e ∈ o.after.toList, Region.binds .any e = true ∧ e.on < i ∧ (e.on = j ∨ bef d e.on j = true)
  back : ∀ (i : Nat) (o : Oper), ops[i]? = some o → ∀ e ∈ o.after.toList, Region.binds .any e = true → e.on < i
  loud : ∀ (i j : Nat) (o q : Oper), ops[i]? = some o → ops[j]? = some q → j < i → loudAt E sites rid ops i = true → loudAt E sites rid ops j = true → bef d i j = true
  slots : ∀ (i j : Nat) (o q : Oper) (t : Tmp), ops[i]? = some o → ops[j]? = some q → i ≠ j → q.dst = some t → t ∈ looks ops o → bef d i j = true ∨ bef d j i = true
  dsts : ∀ (i j : Nat) (o q : Oper) (t : Tmp), ops[i]? = some o → ops[j]? = some q → i ≠ j → o.dst = some t → q.dst ≠ some t
  wins : ∀ (i : Nat) (o : Oper), ops[i]? = some o → loudAt E sites rid ops i = false → reads o = true →
    (countLoud E sites rid ops fun j => !bef d j i) ≤ (countLoud E sites rid ops fun j => bef d i j) ∨
      ∃ l h, winOf i d.wins = some (l, h) ∧ l ≤ (countLoud E sites rid ops fun j => bef d i j) ∧ (countLoud E sites rid ops fun j => !bef d j i) ≤ h

theorem textOK (h : staticOk E sites rid ops d = true) : TextOK E sites rid ops d := by
  have hop : ∀ (i : Nat) (o : Oper), ops[i]? = some o → opOk E sites rid ops d i = true := fun i o ho => by
    unfold staticOk at h
    exact List.all_eq_true.1 h i (List.mem_range.2 (Array.getElem?_eq_some_iff.1 ho).1)
  have hpair : ∀ (i j : Nat) (o q : Oper), ops[i]? = some o → ops[j]? = some q → pairOk E sites rid ops d i o j = true := fun i j o q hi hj => by
    have := hop i o hi
    unfold opOk at this
    rw [hi] at this
    simp only [Bool.and_eq_true] at this
    exact List.all_eq_true.1 this.1.1 j (List.mem_range.2 (Array.getElem?_eq_some_iff.1 hj).1)
  have hl : ∀ (i : Nat) (o : Oper), ops[i]? = some o → loudAt E sites rid ops i = isLoud E (siteAt sites rid i o) o := fun i o ho => by
    unfold loudAt; rw [ho]
  refine ⟨?_, ?_, ?_, ?_, ?_, ?_⟩
  · intro i j o q hi hj hb
    have := hpair i j o q hi hj
    unfold pairOk at this
    rw [hj] at this
    simp only [Bool.and_eq_true, hb, Bool.not_true, Bool.false_or] at this
    obtain ⟨e, he, h1⟩ := Array.any_eq_true'.1 this.1.1.1
    simp only [Bool.and_eq_true, decide_eq_true_eq, Bool.or_eq_true] at h1
    exact ⟨e, by simpa using he, h1.1.1, h1.1.2, h1.2.imp (fun h => Nat.eq_of_beq_eq_true h) id⟩
  · intro i o hi e he hb
    have := hop i o hi
    unfold opOk at this
    rw [hi] at this
    simp only [Bool.and_eq_true] at this
    have := Array.all_eq_true'.1 this.1.2 e (by simpa using he)
    simpa [hb] using this
  · intro i j o q hi hj hlt h1 h2
    have := hpair i j o q hi hj
    rw [hl i o hi] at h1
    rw [hl j q hj] at h2
    unfold pairOk at this
    rw [hj] at this
    simp only [Bool.and_eq_true] at this
    simpa [hlt, h1, h2] using this.1.1.2
  · intro i j o q t hi hj hne hd ht
    have := hpair i j o q hi hj
    unfold pairOk at this
    rw [hj] at this
    simp only [Bool.and_eq_true] at this
    have h1 := this.1.2
    have hs : slotsApart o q ops = false := by
      unfold slotsApart
      rw [hd]
      simpa using ht
    have hb : Nat.beq i j = false := by
      cases hb : Nat.beq i j
      · rfl
      · exact absurd (Nat.eq_of_beq_eq_true hb) hne
    rw [hs, hb] at h1
    simpa using h1
  · intro i j o q t hi hj hne hd
    have := hpair i j o q hi hj
    unfold pairOk at this
    rw [hj] at this
    simp only [Bool.and_eq_true] at this
    have h1 := this.2
    have hb : Nat.beq i j = false := by
      cases hb : Nat.beq i j
      · rfl
      · exact absurd (Nat.eq_of_beq_eq_true hb) hne
    rw [hb, hd] at h1
    intro e
    rw [e] at h1
    simp at h1
  · intro i o hi h1 h2
    have := hop i o hi
    rw [hl i o hi] at h1
    unfold opOk at this
    rw [hi] at this
    simp only [Bool.and_eq_true, h1, h2, Bool.false_or, Bool.not_true, Bool.or_eq_true, Nat.ble_eq] at this
    rcases this.2 with h3 | h3
    · exact .inl h3
    · split at h3
      · rename_i l h hw
        simp only [Bool.and_eq_true, Nat.ble_eq] at h3
        exact .inr ⟨l, h, hw, h3.1, h3.2⟩
      · cases h3

theorem TextOK.lt (hT : TextOK E sites rid ops d) : ∀ (i j : Nat) (o q : Oper), ops[i]? = some o → ops[j]? = some q → bef d i j = true → j < i := by
  intro i
  induction i using Nat.strongRecOn with
  | _ i ih =>
    intro j o q hi hj hb
    obtain ⟨e, he, h1, h2, h3⟩ := hT.edge i j o q hi hj hb
    rcases h3 with rfl | h3
    · exact h2
    · have hlt := (Array.getElem?_eq_some_iff.1 hi).1
      have := ih e.on h2 j _ q (Array.getElem?_eq_getElem (by omega)) hj h3
      omega

/-- A set of operations that holds, with each one, what it waits for. -/
def Closed (ops : Array Oper) (M : Nat → Prop) : Prop := ∀ (i : Nat) (o : Oper), ops[i]? = some o → M i → ∀ e ∈ o.after.toList, Region.binds .any e = true → M e.on

theorem Closed.bef (hT : TextOK E sites rid ops d) {M : Nat → Prop} (hc : Closed ops M) : ∀ (i j : Nat) (o q : Oper), ops[i]? = some o → ops[j]? = some q → bef d i j = true → (∀ e ∈ o.after.toList, Region.binds .any e = true → M e.on) → M j := by
  intro i
  induction i using Nat.strongRecOn with
  | _ i ih =>
    intro j o q hi hj hb hr
    obtain ⟨e, he, h1, h2, h3⟩ := hT.edge i j o q hi hj hb
    rcases h3 with rfl | h3
    · exact hr e he h1
    · have hlt := (Array.getElem?_eq_some_iff.1 hi).1
      have hg : ops[e.on]? = some _ := Array.getElem?_eq_getElem (show e.on < ops.size by omega)
      exact ih e.on h2 j _ q hg hj h3 (hc e.on _ hg (hr e he h1))

/-! ### what the text's order touched, and the versions of the small heap -/

theorem touchOk_mem {j s : Nat} {w : Bool} : ∀ {l : List (Nat × Nat × Bool)}, touchOk d j s w l = true → ∀ {i : Nat} {w' : Bool}, (i, s, w') ∈ l → (w || w') = true → bef d i j = true
  | [], _, i, w', hm, _ => by cases hm
  | (i0, s0, w0) :: l, h, i, w', hm, hw => by
    unfold touchOk at h
    simp only [Bool.and_eq_true] at h
    rcases List.mem_cons.1 hm with e | hm
    · injection e with e1 e2
      injection e2 with e2 e3
      subst e1 e2 e3
      have h1 := h.1
      rw [hw] at h1
      simpa using h1
    · exact touchOk_mem h.2 hm hw

theorem touches_mem : ∀ {l : List Oper} {i : Nat} {rs : List Rec} {k : Nat} {o : Oper} {r : Rec} {s : Nat} {w : Bool}, l[k]? = some o → rs[k]? = some r → touchOf r.st (siteAt sites rid (i + k) o) o = some (s, w) → (i + k, s, w) ∈ touches sites rid l i rs
  | [], _, _, _, _, _, _, _, h, _, _ => by simp at h
  | _ :: _, _, [], _, _, _, _, _, _, h, _ => by simp at h
  | o0 :: l, i, r0 :: rs, 0, o, r, s, w, h1, h2, h3 => by
    simp only [List.getElem?_cons_zero, Option.some.injEq] at h1 h2
    subst h1 h2
    unfold touches
    rw [show i + 0 = i from rfl] at h3
    rw [h3]
    exact List.mem_cons_self
  | o0 :: l, i, r0 :: rs, k + 1, o, r, s, w, h1, h2, h3 => by
    have := touches_mem (i := i + 1) (k := k) (l := l) (rs := rs) (by simpa using h1) (by simpa using h2) (by rw [show i + 1 + k = i + (k + 1) by omega]; exact h3)
    rw [show i + 1 + k = i + (k + 1) by omega] at this
    unfold touches
    split
    · exact List.mem_cons_of_mem _ this
    · exact this

theorem touches_ok : ∀ (l : List Oper) (i : Nat) (rs : List Rec), touchesOk d (touches sites rid l i rs) = true → ∀ (k k' : Nat) (o o' : Oper) (r r' : Rec) (s : Nat) (w w' : Bool), k < k' → l[k]? = some o → l[k']? = some o' → rs[k]? = some r → rs[k']? = some r' →
    touchOf r.st (siteAt sites rid (i + k) o) o = some (s, w) → touchOf r'.st (siteAt sites rid (i + k') o') o' = some (s, w') → (w || w') = true → bef d (i + k') (i + k) = true := by
  intro l
  induction l with
  | nil => intro i rs _ k k' o o' r r' s w w' _ h; simp at h
  | cons o0 l ih =>
    intro i rs h k k' o o' r r' s w w' hlt h1 h2 h3 h4 h5 h6 hw
    cases rs with
    | nil => simp at h3
    | cons r0 rs =>
      obtain ⟨k', rfl⟩ : ∃ n, k' = n + 1 := ⟨k' - 1, by omega⟩
      have e' : i + 1 + k' = i + (k' + 1) := by omega
      rw [← e'] at h6 ⊢
      cases k with
      | zero =>
        simp only [List.getElem?_cons_zero, Option.some.injEq] at h1 h3
        subst h1 h3
        unfold touches at h
        rw [show i + 0 = i from rfl] at h5
        rw [h5] at h
        unfold touchesOk at h
        simp only [Bool.and_eq_true] at h
        have hm := touches_mem (sites := sites) (rid := rid) (i := i + 1) (k := k') (l := l) (rs := rs) (o := o') (r := r') (s := s) (w := w') (by simpa using h2) (by simpa using h4) h6
        exact touchOk_mem h.1 hm hw
      | succ k =>
        have e : i + 1 + k = i + (k + 1) := by omega
        rw [← e] at h5 ⊢
        have h' : touchesOk d (touches sites rid l (i + 1) rs) = true := by
          unfold touches at h
          split at h
          · unfold touchesOk at h
            simp only [Bool.and_eq_true] at h
            exact h.2
          · exact h
        exact ih (i + 1) rs h' k k' o o' r r' s w w' (by omega) (by simpa using h1) (by simpa using h2) (by simpa using h3) (by simpa using h4) h5 h6 hw

theorem dropK_eq {α : Type} : ∀ (n : Nat) (l : List α), dropK n l = l.drop n
  | 0, l => rfl
  | n + 1, [] => rfl
  | n + 1, _ :: l => dropK_eq n l

theorem allOk_get {ok : Heap → Bool} : ∀ {n : Nat} {l : List Heap}, allOk ok n l = true → ∀ {m : Nat} {G : Heap}, m < n → l[m]? = some G → ok G = true
  | 0, _, _, _, _, h, _ => by omega
  | n + 1, [], _, _, _, _, h => by simp at h
  | n + 1, G0 :: l, h, m, G, hm, hg => by
    unfold allOk at h
    simp only [Bool.and_eq_true] at h
    cases m with
    | zero =>
      simp only [List.getElem?_cons_zero, Option.some.injEq] at hg
      subst hg
      exact h.1
    | succ m => exact allOk_get h.2 (show m < n by omega) (by simpa using hg)

theorem winsOk_get {wins : List (Nat × Nat × Nat)} {vers : List Heap} : ∀ (l : List Oper) (i : Nat) (rs : List Rec), winsOk E sites wins rid ops vers l i rs = true → ∀ (k : Nat) (o : Oper) (r : Rec) (lo hi m : Nat) (G : Heap), l[k]? = some o → rs[k]? = some r → winOf (i + k) wins = some (lo, hi) →
    isLoud E (siteAt sites rid (i + k) o) o = false → reads o = true → acts ops r.st o = true → heapy r.st o = true → lo ≤ m → m ≤ hi → vers[m]? = some G → sameAt E o r G = true := by
  intro l
  induction l with
  | nil => intro i rs _ k o r lo hi m G h; simp at h
  | cons o0 l ih =>
    intro i rs h k o r lo hi m G h1 h2 h3 h4 h5 h6 h7 h8 h9 hG
    cases rs with
    | nil => simp at h2
    | cons r0 rs =>
      unfold winsOk at h
      simp only [Bool.and_eq_true] at h
      cases k with
      | zero =>
        simp only [List.getElem?_cons_zero, Option.some.injEq] at h1 h2
        subst h1 h2
        have := h.1
        rw [show i + 0 = i from rfl] at h3 h4
        rw [h3] at this
        simp only [h4, h5, h6, h7, Bool.not_false, Bool.and_self, cond_true] at this
        refine allOk_get this (m := m - lo) (by omega) ?_
        rw [dropK_eq, List.getElem?_drop, show lo + (m - lo) = m by omega]
        exact hG
      | succ k =>
        have e : i + 1 + k = i + (k + 1) := by omega
        rw [← e] at h3 h4
        exact ih (i + 1) rs h.2 k o r lo hi m G (by simpa using h1) (by simpa using h2) h3 h4 h5 h6 h7 h8 h9 hG

/-- How many of the first k are loud. -/
def louds (E : Env) (sites : List (Nat × Nat × Nat)) (rid : Nat) (ops : Array Oper) (k : Nat) : Nat := ((List.range k).filter fun j => loudAt E sites rid ops j).length

theorem louds_succ {k : Nat} : louds E sites rid ops (k + 1) = louds E sites rid ops k + (if loudAt E sites rid ops k = true then 1 else 0) := by
  unfold louds
  rw [List.range_succ, List.filter_append, List.length_append]
  congr 1
  cases h : loudAt E sites rid ops k <;> simp [h]

end
end Go.Den

/- DEN, part Za: regions whose order is open (on): one operation, in whatever order. -/
namespace Go.Den
open Go.RowKit

section
variable {E : Env} {cf : CallFn} {sites : List (Nat × Nat × Nat)} {rid : Nat} {ops : Array Oper} {d : DInfo} {st' : St} {H' : Heap} {i : Nat} {o : Oper} {r : Rec}

theorem siteAt_none (hg : o.guard = none) : siteAt sites rid i o = siteOf sites rid i := by unfold siteAt; rw [hg]
theorem siteAt_some {j : Nat} {w : Bool} (hg : o.guard = some (j, w)) : siteAt sites rid i o = none := by unfold siteAt; rw [hg]

/-- The frame behind an operation, in the text's order and in another one. -/
inductive Eff2 (o : Oper) (site : Option Nat) (st0 st1 sa sa1 : St) : Prop
  | none (e : st1 = st0) (e2 : sa1 = sa)
  | set (s : Nat) (cs : List AV) (h : touchOf st0 site o = some (s, true)) (e : st1 = st0.setVar s cs) (e2 : sa1 = sa.setVar s cs)

theorem touch_dec (st : St) (site : Option Nat) (o : Oper) : (∃ s, touchOf st site o = some (s, true)) ∨ ∀ s, touchOf st site o ≠ some (s, true) := by
  cases h : touchOf st site o with
  | none => exact .inr (fun s e => by cases e)
  | some p =>
    obtain ⟨s, w⟩ := p
    cases w
    · exact .inr (fun s' e => by cases e)
    · exact .inl ⟨s, rfl⟩

theorem step_quiet (hcn : CNat cf) (h : TextStep E cf sites rid ops i o r) (hl : isLoud E (siteAt sites rid i o) o = false) : r.H1 = r.H := by
  cases h with
  | plain st1 hg h h1 =>
    rw [siteAt_none hg] at hl
    rcases touch_dec r.st (siteOf sites rid i) o with ⟨s, ht⟩ | ht
    · obtain ⟨cs, _, h2, _⟩ := write_ok ht h
      exact h2
    · rw [quiet_ok hl ht] at h
      simp only [Option.bind_eq_some_iff, Option.some.injEq, Prod.mk.injEq] at h
      obtain ⟨_, _, _, _, h2⟩ := h
      exact h2.symm
  | on j want v hg hb hk hx h h1 =>
    rw [siteAt_some hg] at hl
    rw [quiet_ok hl (keepsL_touch hk)] at h
    simp only [Option.bind_eq_some_iff, Option.some.injEq, Prod.mk.injEq] at h
    obtain ⟨_, _, _, _, h2⟩ := h
    exact h2.symm
  | off j want b hg hb hne hx hH h1 => exact hH

/-- One operation where other ones have been done, or have not. -/
theorem step_any (hcn : CNat cf) (hck : CallKOK E cf) (h : TextStep E cf sites rid ops i o r) (ho : ops[i]? = some o) {sa : St} {C : Ctx} {lam : Nat → Nat} {a : Act} {Q : Exit → Act → World → Prop} {ro : Option Nat} {K : Act → World → Prop} {G1 : Heap} (hr : HR E C) (hf : FrameR C lam sa a)
    (ha : ∀ t ∈ looks ops o, sa.get t = r.st.get t) (hv : ∀ s w, touchOf r.st (siteAt sites rid i o) o = some (s, w) → sa.var s = r.st.var s ∧ sa.L.has s = r.st.L.has s)
    (hH : (isLoud E (siteAt sites rid i o) o = true ∧ C.H = r.H ∧ G1 = r.H1) ∨
      (isLoud E (siteAt sites rid i o) o = false ∧ G1 = C.H ∧ ((reads o = false ∨ heapy r.st o = false) ∨ (acts ops r.st o = true → sameAt E o r C.H = true ∨ C.H = r.H)))) :
    ∃ st1 sa1, r.st1 = stPut st1 o.dst r.x ∧ Eff2 o (siteAt sites rid i o) r.st st1 sa sa1 ∧ ((∀ a' w', Post E C (stPut sa1 o.dst r.x) G1 a' w' → K a' w') → wpOpIn (FW ro) 0 E.P ops Q i K a C.w) := by
  have hops : ∀ t, Operand.tmp t ∈ o.op.operands.toList → sa.get t = r.st.get t := fun t ht => ha t (by
    unfold looks
    exact List.mem_append_left _ (List.mem_filterMap.2 ⟨_, ht, rfl⟩))
  have hguard : ∀ j w, o.guard = some (j, w) → guardOf ops sa j w = guardOf ops r.st j w := fun j w hg => by
    unfold guardOf
    cases hd : (ops[j]?).bind (·.dst) with
    | none => rfl
    | some t =>
      dsimp only
      rw [ha t (by unfold looks; rw [hg]; dsimp only; rw [hd]; exact List.mem_append_right _ (by simp))]
  have hK : ∀ {sa1 : St} {site : Option Nat}, opK E cf site o sa C.H (fun x s G => some (x, s, G)) = some (r.x, sa1, G1) → Region.wanted o (yielded ops a.tmps) = true → (∀ a' w', Post E C (stPut sa1 o.dst r.x) G1 a' w' → K a' w') → wpOpIn (FW ro) 0 E.P ops Q i K a C.w := fun h1 hw hk => by
    unfold wpOpIn
    rw [ho]
    dsimp only
    rw [if_pos hw]
    exact (Oper.wpIn_mono hk (op_sound hcn hck hr hf h1))
  cases h with
  | plain st1 hg h h1 =>
    rw [siteAt_none hg] at hv hH ⊢
    have hw : Region.wanted o (yielded ops a.tmps) = true := wanted_none hg
    refine ⟨st1, ?_⟩
    rcases touch_dec r.st (siteOf sites rid i) o with ⟨s, ht⟩ | ht
    · obtain ⟨cs, e1, e2, h3⟩ := write_ok ht h
      obtain ⟨v1, v2⟩ := hv s true ht
      have h4 := h3 sa C.H hops v1 v2
      have hG : G1 = C.H := by
        rcases hH with ⟨_, h5, h6⟩ | ⟨_, h5, _⟩
        · rw [h6, e2, h5]
        · exact h5
      subst hG
      exact ⟨sa.setVar s cs, h1, .set s cs ht e1 rfl, hK h4 hw⟩
    · have hv' : ∀ s, touchOf r.st (siteOf sites rid i) o = some (s, false) → sa.var s = r.st.var s := fun s e => (hv s false e).1
      rcases hH with ⟨hl, hC, rfl⟩ | ⟨hl, rfl, hG⟩
      · obtain ⟨e1, h2⟩ := loud_move hcn ht h hops hv'
        rw [← hC] at h2
        exact ⟨sa, h1, .none e1 rfl, hK h2 hw⟩
      · obtain ⟨e1, _, h2⟩ := quiet_move (G := C.H) hcn hl ht h (by
          rcases hG with hG | hG
          · exact .inl hG
          · refine .inr ?_
            rcases hG (by unfold acts; rw [hg]) with h3 | h3
            · exact .inl h3
            · exact .inr h3) hops hv'
        exact ⟨sa, h1, .none e1 rfl, hK h2 hw⟩
  | on j want v hg hb hk hx h h1 =>
    rw [siteAt_some hg] at hv hH ⊢
    have hw : Region.wanted o (yielded ops a.tmps) = true := by
      rw [wanted_some hf hg (by rw [hguard j want hg]; exact hb)]
      simp
    have ht := keepsL_touch hk
    have hv' : ∀ s, touchOf r.st none o = some (s, false) → sa.var s = r.st.var s := fun s e => (hv s false e).1
    refine ⟨r.st, sa, h1, .none rfl rfl, ?_⟩
    rcases hH with ⟨hl, hC, rfl⟩ | ⟨hl, rfl, hG⟩
    · obtain ⟨_, h2⟩ := loud_move hcn ht h hops hv'
      rw [← hC] at h2
      exact hK h2 hw
    · obtain ⟨_, _, h2⟩ := quiet_move (G := C.H) hcn hl ht h (by
        rcases hG with hG | hG
        · exact .inl hG
        · refine .inr ?_
          rcases hG (by unfold acts; rw [hg]; dsimp only; rw [hb]; simp) with h3 | h3
          · exact .inl (by
              unfold sameAt at h3 ⊢
              exact h3)
          · exact .inr h3) hops hv'
      exact hK h2 hw
  | off j want b hg hb hne hx hHH h1 =>
    rw [siteAt_some hg] at hv hH ⊢
    have hw : Region.wanted o (yielded ops a.tmps) = false := by
      rw [wanted_some hf hg (by rw [hguard j want hg]; exact hb)]
      exact hne
    have hG : G1 = C.H := by
      rcases hH with ⟨_, h5, h6⟩ | ⟨_, h5, _⟩
      · rw [h6, hHH, h5]
      · exact h5
    subst hG
    refine ⟨r.st, sa, h1, .none rfl rfl, fun hk => ?_⟩
    unfold wpOpIn
    rw [ho]
    dsimp only
    rw [if_neg (by rw [hw]; simp)]
    refine ⟨fun _ _ => trivial, hk _ _ ⟨C, lam, rfl, rfl, hr, Ev.refl C, ?_⟩⟩
    rw [hx]
    exact hf.put (x := .val (.tup [])) (.tup _ [] #[] (.nil _))

end
end Go.Den

/- DEN, part Zb: regions whose order is open (on): how many loud ones were done, and which version of the small heap that is. -/
namespace Go.Den
open Go.RowKit

section
variable {E : Env} {cf : CallFn} {sites : List (Nat × Nat × Nat)} {rid : Nat} {ops : Array Oper} {d : DInfo} {st' : St} {H' : Heap}

theorem countLoud_eq (p : Nat → Bool) : countLoud E sites rid ops p = (List.range ops.size).countP fun j => loudAt E sites rid ops j && p j := by
  rw [List.countP_eq_length_filter]
  rfl

theorem countLoud_mono {p q : Nat → Bool} (h : ∀ j, j < ops.size → p j = true → q j = true) : countLoud E sites rid ops p ≤ countLoud E sites rid ops q := by
  rw [countLoud_eq, countLoud_eq]
  refine List.countP_mono_left fun j hj hp => ?_
  simp only [Bool.and_eq_true] at hp ⊢
  exact ⟨hp.1, h j (List.mem_range.1 hj) hp.2⟩

theorem countP_add (f g : Nat → Bool) (i : Nat) (h : ∀ j, j ≠ i → f j = g j) (hf : g i = false) : ∀ n, (List.range n).countP f = (List.range n).countP g + (if i < n ∧ f i = true then 1 else 0)
  | 0 => by simp
  | n + 1 => by
    rw [List.range_succ, List.countP_append, List.countP_append, countP_add f g i h hf n]
    by_cases e : n = i
    · subst e
      cases hfi : f n <;> simp [hfi, hf]
    · rw [show List.countP f [n] = List.countP g [n] by simp [h n e]]
      by_cases hi : i < n
      · simp [hi, show i < n + 1 by omega]; omega
      · have : ¬ i < n + 1 := by omega
        simp [hi, this]

/-- One more. -/
theorem countLoud_add {p q : Nat → Bool} {i : Nat} (hi : i < ops.size) (h : ∀ j, j ≠ i → q j = p j) (hp : p i = false) (hq : q i = true) :
    countLoud E sites rid ops q = countLoud E sites rid ops p + (if loudAt E sites rid ops i = true then 1 else 0) := by
  rw [countLoud_eq, countLoud_eq, countP_add _ (fun j => loudAt E sites rid ops j && p j) i (fun j hj => by rw [h j hj]) (by simp [hp])]
  congr 1
  simp [hi, hq]

theorem countP_lt (f : Nat → Bool) (i : Nat) : ∀ n, i ≤ n → (List.range n).countP (fun j => f j && decide (j < i)) = (List.range i).countP f := by
  intro n hn
  induction n with
  | zero =>
    have : i = 0 := by omega
    subst this
    rfl
  | succ n ih =>
    by_cases e : i = n + 1
    · subst e
      refine List.countP_congr fun j hj => ?_
      simp [List.mem_range.1 hj]
    · rw [List.range_succ, List.countP_append, ih (by omega)]
      have : ¬ n < i := by omega
      simp [this]

/-- Just the first ones. -/
theorem countLoud_first {p : Nat → Bool} {i : Nat} (hi : i ≤ ops.size) (h : ∀ j, j < ops.size → loudAt E sites rid ops j = true → (p j = decide (j < i))) : countLoud E sites rid ops p = louds E sites rid ops i := by
  rw [countLoud_eq]
  unfold louds
  rw [← List.countP_eq_length_filter, ← countP_lt _ i ops.size hi]
  refine List.countP_congr fun j hj => ?_
  cases hl : loudAt E sites rid ops j
  · simp
  · simp [h j (List.mem_range.1 hj) hl]

/-- Of a list, from its i-th place on: how many of the first k are loud. -/
def cntL (E : Env) (sites : List (Nat × Nat × Nat)) (rid : Nat) : List Oper → Nat → Nat → Nat
  | o :: os, i, k + 1 => (if isLoud E (siteAt sites rid i o) o = true then 1 else 0) + cntL E sites rid os (i + 1) k
  | _, _, _ => 0

theorem cntL_succ : ∀ {l : List Oper} {i k : Nat} {o : Oper}, l[k]? = some o → cntL E sites rid l i (k + 1) = cntL E sites rid l i k + (if isLoud E (siteAt sites rid (i + k) o) o = true then 1 else 0)
  | [], _, _, _, h => by simp at h
  | o0 :: l, i, 0, o, h => by
    simp only [List.getElem?_cons_zero, Option.some.injEq] at h
    subst h
    cases l <;> simp [cntL]
  | o0 :: l, i, k + 1, o, h => by
    have := cntL_succ (i := i + 1) (k := k) (l := l) (o := o) (by simpa using h)
    rw [show i + 1 + k = i + (k + 1) by omega] at this
    unfold cntL
    rw [this]
    omega

theorem cntL_louds : ∀ {k : Nat}, k ≤ ops.size → cntL E sites rid ops.toList 0 k = louds E sites rid ops k
  | 0, _ => by
    unfold louds
    cases ops.toList <;> rfl
  | k + 1, h => by
    have hk : ops.toList[k]? = some (ops[k]'(by omega)) := by
      rw [Array.getElem?_toList, Array.getElem?_eq_getElem]
    rw [cntL_succ hk, cntL_louds (by omega), louds_succ]
    congr 1
    unfold loudAt
    rw [Array.getElem?_toList] at hk
    rw [hk, show 0 + k = k by omega]

theorem vers_at (hcn : CNat cf) {i : Nat} {l : List Oper} {st : St} {H : Heap} {rs : List Rec} (h : Run E cf sites rid ops i l st H rs st' H') : ∀ k, k ≤ l.length → (H :: versOf E sites rid l i rs)[cntL E sites rid l i k]? = some (heapAt rs H' k) := by
  induction h with
  | nil i st H =>
    intro k hk
    have : k = 0 := by simpa using hk
    subst this
    rfl
  | cons i o os r rs st' H' h1 h2 ih =>
    intro k hk
    cases k with
    | zero => rfl
    | succ k =>
      have := ih k (by simpa using hk)
      have hh : heapAt (r :: rs) H' (k + 1) = heapAt rs H' k := rfl
      have e1 : cntL E sites rid (o :: os) i (k + 1) = (if isLoud E (siteAt sites rid i o) o = true then 1 else 0) + cntL E sites rid os (i + 1) k := rfl
      have e2 : versOf E sites rid (o :: os) i (r :: rs) = bif isLoud E (siteAt sites rid i o) o then r.H1 :: versOf E sites rid os (i + 1) rs else versOf E sites rid os (i + 1) rs := rfl
      rw [hh, ← this, e1, e2]
      cases hl : isLoud E (siteAt sites rid i o) o
      · rw [step_quiet hcn h1 hl]
        simp
      · simp only [if_true, cond_true]
        rw [Nat.add_comm 1]
        rfl

/-- The version ahead of the k-th operation. -/
theorem vers_louds (hcn : CNat cf) {st : St} {H : Heap} {rs : List Rec} (h : Run E cf sites rid ops 0 ops.toList st H rs st' H') {k : Nat} (hk : k ≤ ops.size) :
    (H :: versOf E sites rid ops.toList 0 rs)[louds E sites rid ops k]? = some (heapAt rs H' k) := by
  rw [← cntL_louds hk]
  exact vers_at hcn h k (by simpa using hk)

end
end Go.Den

/- DEN, part Zc: regions whose order is open (on): the walk. -/
namespace Go.Den
open Go.RowKit

section
variable {E : Env} {cf : CallFn} {sites : List (Nat × Nat × Nat)} {rid : Nat} {ops : Array Oper} {d : DInfo} {st' : St} {H' : Heap}

theorem get_stPut_ne {st : St} {dst : Option Tmp} {x : SV} {t : Tmp} (h : dst ≠ some t) : (stPut st dst x).get t = st.get t := by
  cases dst with
  | none => rfl
  | some u =>
    show (if u < st.N then st.put u x else st).get t = st.get t
    split
    · exact St.get_put_ne (fun e => h (by rw [e]))
    · rfl

theorem get_stPut_self {st : St} {t : Tmp} {x : SV} : (stPut st (some t) x).get t = if t < st.N then (bif st.slots.has t then x else .no) else st.get t := by
  show (if t < st.N then st.put t x else st).get t = _
  split
  · exact Tr.get_set_has
  · rfl

structure Shape (st sa : St) : Prop where
  N : sa.N = st.N
  slots : ∀ t, sa.slots.has t = st.slots.has t
  L : ∀ s, sa.L.has s = st.L.has s

theorem Shape.refl (st : St) : Shape st st := ⟨rfl, fun _ => rfl, fun _ => rfl⟩
theorem Shape.put {st sa : St} (h : Shape st sa) (dst : Option Tmp) (x : SV) : Shape st (stPut sa dst x) := by
  cases dst with
  | none => exact h
  | some u =>
    show Shape st (if u < sa.N then sa.put u x else sa)
    split
    · exact ⟨h.N, fun t => Tr.has_set.trans (h.slots t), h.L⟩
    · exact h
theorem Shape.setVar {st sa : St} (h : Shape st sa) (s : Nat) (cs : List AV) : Shape st (sa.setVar s cs) := ⟨h.N, h.slots, fun s => Tr.has_set.trans (h.L s)⟩

/-- What the text's order leaves, place by place. -/
structure TextRun (E : Env) (cf : CallFn) (sites : List (Nat × Nat × Nat)) (rid : Nat) (ops : Array Oper) (S : Nat → St) (Hh : Nat → Heap) (X : Nat → SV) : Prop where
  step : ∀ (i : Nat) (o : Oper), ops[i]? = some o → TextStep E cf sites rid ops i o ⟨S i, Hh i, X i, S (i + 1), Hh (i + 1)⟩

variable {S : Nat → St} {Hh : Nat → Heap} {X : Nat → SV}

/-- Does it write the variable? -/
def Wr (sites : List (Nat × Nat × Nat)) (rid : Nat) (ops : Array Oper) (S : Nat → St) (s j : Nat) : Prop := ∃ o, ops[j]? = some o ∧ touchOf (S j) (siteAt sites rid j o) o = some (s, true)

theorem step_form (hcn : CNat cf) {i : Nat} {o : Oper} {r : Rec} (h : TextStep E cf sites rid ops i o r) : ∃ st1, r.st1 = stPut st1 o.dst r.x ∧ (st1 = r.st ∨ ∃ s cs, touchOf r.st (siteAt sites rid i o) o = some (s, true) ∧ st1 = r.st.setVar s cs) := by
  cases h with
  | plain st1 hg h h1 =>
    rw [siteAt_none hg]
    refine ⟨st1, h1, ?_⟩
    rcases touch_dec r.st (siteOf sites rid i) o with ⟨s, ht⟩ | ht
    · obtain ⟨cs, e1, _, _⟩ := write_ok ht h
      exact .inr ⟨s, cs, ht, e1⟩
    · exact .inl (op_keeps' hcn ht h)
  | on j want v hg hb hk hx h h1 => exact ⟨r.st, h1, .inl rfl⟩
  | off j want b hg hb hne hx hH h1 => exact ⟨r.st, h1, .inl rfl⟩

theorem TextRun.shape (hcn : CNat cf) (hT : TextRun E cf sites rid ops S Hh X) : ∀ k, k ≤ ops.size → Shape (S 0) (S k)
  | 0, _ => Shape.refl _
  | k + 1, h => by
    obtain ⟨st1, e1, e2⟩ := step_form hcn (hT.step k _ (Array.getElem?_eq_getElem (by omega)))
    dsimp only at e1
    rw [e1]
    refine Shape.put ?_ _ _
    rcases e2 with e2 | ⟨s, cs, _, e2⟩
    · rw [e2]; exact hT.shape hcn k (by omega)
    · rw [e2]; exact (hT.shape hcn k (by omega)).setVar s cs

theorem TextRun.get_step (hcn : CNat cf) (hT : TextRun E cf sites rid ops S Hh X) {i : Nat} {o : Oper} (ho : ops[i]? = some o) {t : Tmp} (h : o.dst ≠ some t) : (S (i + 1)).get t = (S i).get t := by
  obtain ⟨st1, e1, e2⟩ := step_form hcn (hT.step i o ho)
  dsimp only at e1 e2
  rw [e1, get_stPut_ne h]
  rcases e2 with e2 | ⟨s, cs, _, e2⟩
  · rw [e2]
  · rw [e2]; rfl

theorem TextRun.var_step (hcn : CNat cf) (hT : TextRun E cf sites rid ops S Hh X) {i : Nat} {o : Oper} (ho : ops[i]? = some o) {s : Nat} (h : ¬ Wr sites rid ops S s i) : (S (i + 1)).var s = (S i).var s := by
  obtain ⟨st1, e1, e2⟩ := step_form hcn (hT.step i o ho)
  dsimp only at e1 e2
  rw [e1, St.put_var]
  rcases e2 with e2 | ⟨s', cs, ht, e2⟩
  · rw [e2]
  · rw [e2]
    exact var_set_ne (fun e => h ⟨o, ho, by rw [← e]; exact ht⟩)

theorem TextRun.get_first (hcn : CNat cf) (hT : TextRun E cf sites rid ops S Hh X) {t : Tmp} : ∀ k, k ≤ ops.size → (∀ j o, j < k → ops[j]? = some o → o.dst ≠ some t) → (S k).get t = (S 0).get t
  | 0, _, _ => rfl
  | k + 1, hk, h => by
    have ho := Array.getElem?_eq_getElem (show k < ops.size by omega)
    rw [hT.get_step hcn ho (h k _ (by omega) ho)]
    exact hT.get_first hcn k (by omega) fun j o hj hjo => h j o (by omega) hjo

/-- From a place on, nobody writes it. -/
theorem TextRun.get_rest (hcn : CNat cf) (hT : TextRun E cf sites rid ops S Hh X) {t : Tmp} (i : Nat) : ∀ n, i + n ≤ ops.size → (∀ j o, i ≤ j → ops[j]? = some o → o.dst ≠ some t) → (S (i + n)).get t = (S i).get t
  | 0, _, _ => rfl
  | n + 1, hk, h => by
    have ho := Array.getElem?_eq_getElem (show i + n < ops.size by omega)
    rw [show i + (n + 1) = (i + n) + 1 by omega, hT.get_step hcn ho (h (i + n) _ (by omega) ho)]
    exact hT.get_rest hcn i n (by omega) h

theorem TextRun.var_rest (hcn : CNat cf) (hT : TextRun E cf sites rid ops S Hh X) {s : Nat} (i : Nat) : ∀ n, i + n ≤ ops.size → (∀ j, i ≤ j → j < i + n → ¬ Wr sites rid ops S s j) → (S (i + n)).var s = (S i).var s
  | 0, _, _ => rfl
  | n + 1, hk, h => by
    have ho := Array.getElem?_eq_getElem (show i + n < ops.size by omega)
    rw [show i + (n + 1) = (i + n) + 1 by omega, hT.var_step hcn ho (h (i + n) (by omega) (by omega))]
    exact hT.var_rest hcn i n (by omega) fun j h1 h2 => h j h1 (by omega)

/-- The frame after some operations, in some order. -/
structure After (sites : List (Nat × Nat × Nat)) (rid : Nat) (ops : Array Oper) (S : Nat → St) (M : Nat → Bool) (sa : St) : Prop where
  shape : Shape (S 0) sa
  old : ∀ t, (∀ j o, M j = true → ops[j]? = some o → o.dst ≠ some t) → sa.get t = (S 0).get t
  new : ∀ t j o, M j = true → ops[j]? = some o → o.dst = some t → sa.get t = (S ops.size).get t
  var : ∀ s k, k ≤ ops.size → (∀ j, j < ops.size → Wr sites rid ops S s j → (M j = true ↔ j < k)) → sa.var s = (S k).var s

/-- The slots that an operation looks at hold what they hold in the text's order. -/
theorem After.looks (hcn : CNat cf) (hT : TextRun E cf sites rid ops S Hh X) (hK : TextOK E sites rid ops d) {M : Nat → Bool} {sa : St} (hA : After sites rid ops S M sa) {i : Nat} {o : Oper} (ho : ops[i]? = some o) (hi : M i = false)
    (hb : ∀ j q, ops[j]? = some q → bef d i j = true → M j = true) (ha : ∀ j q, ops[j]? = some q → bef d j i = true → M j = false) {t : Tmp} (ht : t ∈ Den.looks ops o ∨ o.dst = some t) : sa.get t = (S i).get t := by
  have hlt := (Array.getElem?_eq_some_iff.1 ho).1
  by_cases hw : ∃ (j : Nat) (q : Oper), ops[j]? = some q ∧ q.dst = some t
  · obtain ⟨j, q, hq, hd⟩ := hw
    have huniq : ∀ j' q', ops[j']? = some q' → q'.dst = some t → j' = j := fun j' q' h1 h2 => by
      rcases Decidable.em (j' = j) with e | e
      · exact e
      · exact absurd h2 (hK.dsts j j' q q' t hq h1 (fun e' => e e'.symm) hd)
    have hjl := (Array.getElem?_eq_some_iff.1 hq).1
    by_cases e : j = i
    · subst e
      rw [hA.old t fun j' q' h1 h2 h3 => by rw [huniq j' q' h2 h3, hi] at h1; cases h1]
      exact (hT.get_first hcn j (by omega) fun j' q' h1 h2 h3 => by
        have := huniq j' q' h2 h3
        omega).symm
    · have hor : bef d i j = true ∨ bef d j i = true := by
        rcases ht with ht | ht
        · exact hK.slots i j o q t ho hq (fun e' => e e'.symm) hd ht
        · exact absurd hd (hK.dsts i j o q t ho hq (fun e' => e e'.symm) ht)
      rcases hor with hor | hor
      · have hji := hK.lt i j o q ho hq hor
        rw [hA.new t j q (hb j q hq hor) hq hd]
        have := hT.get_rest hcn (t := t) i (ops.size - i) (by omega) fun j' q' h1 h2 h3 => by
          have := huniq j' q' h2 h3
          omega
        rw [← this]
        congr 2
        omega
      · have hij := hK.lt j i q o hq ho hor
        rw [hA.old t fun j' q' h1 h2 h3 => by rw [huniq j' q' h2 h3, ha j q hq hor] at h1; cases h1]
        exact (hT.get_first hcn i (by omega) fun j' q' h1 h2 h3 => by
          have := huniq j' q' h2 h3
          omega).symm
  · have hno : ∀ (j : Nat) (q : Oper), ops[j]? = some q → q.dst ≠ some t := fun j q h1 h2 => hw ⟨j, q, h1, h2⟩
    rw [hA.old t fun j q _ h2 => hno j q h2]
    exact (hT.get_first hcn i (by omega) fun j q _ h2 => hno j q h2).symm

/-- A variable that an operation touches holds what it holds in the text's order. -/
theorem After.touch (hK : TextOK E sites rid ops d) {M : Nat → Bool} {sa : St} (hA : After sites rid ops S M sa)
    (hp : ∀ (i j : Nat) (o q : Oper) (s : Nat) (w w' : Bool), i < j → ops[i]? = some o → ops[j]? = some q → touchOf (S i) (siteAt sites rid i o) o = some (s, w) → touchOf (S j) (siteAt sites rid j q) q = some (s, w') → (w || w') = true → bef d j i = true)
    {i : Nat} {o : Oper} (ho : ops[i]? = some o) (hi : M i = false)
    (hb : ∀ j q, ops[j]? = some q → bef d i j = true → M j = true) (ha : ∀ j q, ops[j]? = some q → bef d j i = true → M j = false) {s : Nat} {w : Bool} (ht : touchOf (S i) (siteAt sites rid i o) o = some (s, w)) : sa.var s = (S i).var s := by
  have hlt := (Array.getElem?_eq_some_iff.1 ho).1
  refine hA.var s i (by omega) fun j hj hw => ?_
  obtain ⟨q, hq, hqt⟩ := hw
  rcases Nat.lt_trichotomy j i with h | h | h
  · exact ⟨fun _ => h, fun _ => hb j q hq (hp j i q o s true w h hq ho hqt ht (by simp))⟩
  · subst h
    exact ⟨fun e => (by rw [hi] at e; cases e), fun e => by omega⟩
  · exact ⟨fun e => (by rw [ha j q hq (hp i j o q s w true h ho hq ht hqt (by simp))] at e; cases e), fun e => by omega⟩

def memOf (listed : Array Bool) (j : Nat) : Bool := listed.getD j false

theorem mem_set {listed : Array Bool} {i j : Nat} (hi : i < listed.size) : memOf (listed.setIfInBounds i true) j = if j = i then true else memOf listed j := by
  unfold memOf
  rw [Array.getD_eq_getD_getElem?, Array.getD_eq_getD_getElem?]
  by_cases e : j = i
  · subst e
    rw [Array.getElem?_setIfInBounds_self_of_lt hi]
    simp
  · rw [Array.getElem?_setIfInBounds_ne (fun e' => e e'.symm), if_neg e]

/-- One more operation: what is left. -/
theorem After.next (hcn : CNat cf) (hT : TextRun E cf sites rid ops S Hh X) (hK : TextOK E sites rid ops d) {M M' : Nat → Bool} {sa : St} (hA : After sites rid ops S M sa)
    {i : Nat} {o : Oper} (ho : ops[i]? = some o) (hi : M i = false) (hM' : ∀ j, M' j = if j = i then true else M j)
    (hself : ∀ t, o.dst = some t → sa.get t = (S i).get t) (htouch : ∀ s w, touchOf (S i) (siteAt sites rid i o) o = some (s, w) → sa.var s = (S i).var s)
    (hord : ∀ s, Wr sites rid ops S s i → ∀ j, j < ops.size → Wr sites rid ops S s j → (j < i → M j = true) ∧ (i < j → M j = false))
    {st1 sa1 : St} (h1 : S (i + 1) = stPut st1 o.dst (X i)) (h2 : Eff2 o (siteAt sites rid i o) (S i) st1 sa sa1) : After sites rid ops S M' (stPut sa1 o.dst (X i)) := by
  have hlt := (Array.getElem?_eq_some_iff.1 ho).1
  have hshape : Shape (S 0) sa1 := by
    cases h2 with
    | none e e2 => rw [e2]; exact hA.shape
    | set s cs h e e2 => rw [e2]; exact hA.shape.setVar s cs
  have hSi := hT.shape hcn i (by omega)
  have hgs : ∀ t, sa1.get t = sa.get t := fun t => by
    cases h2 with
    | none e e2 => rw [e2]
    | set s cs h e e2 => rw [e2]; rfl
  have hgt : ∀ t, st1.get t = (S i).get t := fun t => by
    cases h2 with
    | none e e2 => rw [e]
    | set s cs h e e2 => rw [e]; rfl
  have hst1 : Shape (S 0) st1 := by
    cases h2 with
    | none e e2 => rw [e]; exact hSi
    | set s cs h e e2 => rw [e]; exact hSi.setVar s cs
  refine ⟨hshape.put _ _, ?_, ?_, ?_⟩
  · intro t h
    rw [get_stPut_ne (h i o (by rw [hM']; simp) ho), hgs]
    exact hA.old t fun j q hj hq => h j q (by rw [hM', hj]; simp) hq
  · intro t j q hj hq hd
    by_cases e : j = i
    · subst e
      have : q = o := by
        rw [ho] at hq
        injection hq with hq
        exact hq.symm
      subst this
      have hn : (S ops.size).get t = (S (j + 1)).get t := by
        have := hT.get_rest hcn (t := t) (j + 1) (ops.size - (j + 1)) (by omega) fun j' q' h3 h4 h5 => by
          have hne : j' ≠ j := by omega
          exact hK.dsts j j' q q' t ho h4 (fun e => hne e.symm) hd h5
        rw [← this]
        congr 2
        omega
      rw [hn, h1, hd, get_stPut_self, get_stPut_self, hshape.N, hst1.N, hshape.slots, hst1.slots, hgs, hgt, hself t hd]
    · have hj' : M j = true := by
        rw [hM', if_neg e] at hj
        exact hj
      rw [get_stPut_ne (fun e' => hK.dsts i j o q t ho hq (fun e2 => e e2.symm) e' hd), hgs]
      exact hA.new t j q hj' hq hd
  · intro s k hk hp
    rw [St.put_var]
    by_cases hw : Wr sites rid ops S s i
    · have hik : i < k := ((hp i hlt hw).1 (by rw [hM']; simp))
      have hbet : ∀ j, i + 1 ≤ j → j < i + 1 + (k - (i + 1)) → ¬ Wr sites rid ops S s j := fun j h3 h4 h5 => by
        have hj : j < ops.size := by omega
        have h6 := (hp j hj h5).2 (by omega)
        rw [hM', if_neg (by omega), (hord s hw j hj h5).2 (by omega)] at h6
        cases h6
      have hk' := hT.var_rest hcn (s := s) (i + 1) (k - (i + 1)) (by omega) hbet
      rw [show i + 1 + (k - (i + 1)) = k by omega] at hk'
      rw [hk', h1, St.put_var]
      obtain ⟨o', ho', ht'⟩ := hw
      have : o' = o := by
        rw [ho] at ho'
        injection ho' with ho'
        exact ho'.symm
      subst this
      have hv := htouch s true ht'
      cases h2 with
      | none e e2 => rw [e, e2, hv]
      | set s1 cs h e e2 =>
        rw [e, e2]
        by_cases es : s1 = s
        · subst es
          rw [var_setVar, var_setVar, hA.shape.L, hSi.L]
        · rw [var_set_ne es, var_set_ne es, hv]
    · have : sa1.var s = sa.var s := by
        cases h2 with
        | none e e2 => rw [e2]
        | set s1 cs h e e2 =>
          rw [e2]
          exact var_set_ne fun e' => hw ⟨o, ho, by rw [← e']; exact h⟩
      rw [this]
      refine hA.var s k hk fun j hj hwj => ?_
      have hne : j ≠ i := fun e => hw (e ▸ hwj)
      have := hp j hj hwj
      rw [hM', if_neg hne] at this
      exact this

end
end Go.Den

/- DEN, part Zd: regions whose order is open (on): in any order. -/
namespace Go.Den
open Go.RowKit

section
variable {E : Env} {cf : CallFn} {sites : List (Nat × Nat × Nat)} {rid : Nat} {ops : Array Oper} {d : DInfo} {S : Nat → St} {Hh : Nat → Heap} {X : Nat → SV}

theorem FrameR.same {C : Ctx} {lam : Nat → Nat} {st st2 : St} {a : Act} (h : FrameR C lam st a) (hN : st2.N = st.N) (hg : ∀ t, st2.get t = st.get t) (hv : ∀ s, st2.var s = st.var s) : FrameR C lam st2 a := by
  refine ⟨by rw [hN]; exact h.size, h.defers, fun t => ?_, fun s cs hs => h.vars s cs (by rw [← hv]; exact hs)⟩
  have ht := h.slots t
  unfold SlotOk at ht ⊢
  rw [hg]
  cases hx : st.get t with
  | val v => rw [hx] at ht; exact ht
  | no => trivial
  | lp s off =>
    rw [hx] at ht
    exact ⟨ht.1, by rw [hv]; exact ht.2⟩

theorem ready_mem {listed : Array Bool} {i : Nat} (h : i ∈ Region.ready .any ops listed) : ∃ o, ops[i]? = some o ∧ listed.getD i true = false ∧ ∀ e ∈ o.after.toList, Region.binds .any e = true → memOf listed e.on = true := by
  unfold Region.ready at h
  obtain ⟨h1, h2⟩ := List.mem_filter.1 h
  have hlt := List.mem_range.1 h1
  refine ⟨ops[i], Array.getElem?_eq_getElem hlt, ?_⟩
  rw [Array.getElem?_eq_getElem hlt] at h2
  simp only [Bool.and_eq_true, Bool.not_eq_true', Option.map_some, Option.getD_some] at h2
  refine ⟨h2.1, fun e he hb => ?_⟩
  have := Array.all_eq_true'.1 h2.2 e (by simpa using he)
  simpa [hb, memOf] using this

theorem ready_of {listed : Array Bool} {i : Nat} {o : Oper} (ho : ops[i]? = some o) (h1 : listed.getD i true = false) (h2 : ∀ e ∈ o.after.toList, Region.binds .any e = true → memOf listed e.on = true) : i ∈ Region.ready .any ops listed := by
  unfold Region.ready
  refine List.mem_filter.2 ⟨List.mem_range.2 (Array.getElem?_eq_some_iff.1 ho).1, ?_⟩
  rw [ho]
  simp only [Bool.and_eq_true, Bool.not_eq_true', Option.map_some, Option.getD_some]
  refine ⟨h1, Array.all_eq_true'.2 fun e he => ?_⟩
  cases hb : Region.binds .any e
  · rfl
  · exact h2 e (by simpa using he) hb

theorem getD_true {listed : Array Bool} {i : Nat} (hi : i < listed.size) : listed.getD i true = memOf listed i := by
  unfold memOf
  rw [Array.getD_eq_getD_getElem?, Array.getD_eq_getD_getElem?, Array.getElem?_eq_getElem hi]
  rfl

/-- Where something is left, something is ready. -/
theorem none_left (hK : TextOK E sites rid ops d) {listed : Array Bool} (hs : listed.size = ops.size) (hn : Region.ready .any ops listed = []) : ∀ i, i < ops.size → memOf listed i = true := by
  intro i
  induction i using Nat.strongRecOn with
  | _ i ih =>
    intro hi
    cases hm : memOf listed i
    · exfalso
      have ho := Array.getElem?_eq_getElem hi
      have := ready_of (listed := listed) ho (by rw [getD_true (by omega)]; exact hm) fun e he hb => by
        have hlt := hK.back i _ ho e he hb
        exact ih e.on hlt (by omega)
      rw [hn] at this
      cases this
    · rfl

theorem left_dec {M M' : Nat → Bool} {i : Nat} (hi : M i = false) (hM' : ∀ j, M' j = if j = i then true else M j) : ∀ n, (List.range n).countP (fun j => !M j) = (List.range n).countP (fun j => !M' j) + (if i < n then 1 else 0)
  | 0 => by simp
  | n + 1 => by
    rw [List.range_succ, List.countP_append, List.countP_append, left_dec hi hM' n]
    by_cases e : n = i
    · subst e
      simp [hi, hM']
    · rw [show List.countP (fun j => !M' j) [n] = List.countP (fun j => !M j) [n] by simp [hM', e]]
      by_cases h : i < n
      · simp [h, show i < n + 1 by omega]; omega
      · have : ¬ i < n + 1 := by omega
        simp [h, this]

theorem any_walk (hcn : CNat cf) (hck : CallKOK E cf) (hT : TextRun E cf sites rid ops S Hh X) (hK : TextOK E sites rid ops d) {vers : List Heap} {C0 : Ctx} {Q : Exit → Act → World → Prop} {ro : Option Nat}
    (hp : ∀ (i j : Nat) (o q : Oper) (s : Nat) (w w' : Bool), i < j → ops[i]? = some o → ops[j]? = some q → touchOf (S i) (siteAt sites rid i o) o = some (s, w) → touchOf (S j) (siteAt sites rid j q) q = some (s, w') → (w || w') = true → bef d j i = true)
    (hwin : ∀ (i : Nat) (o : Oper), ops[i]? = some o → loudAt E sites rid ops i = false → reads o = true → acts ops (S i) o = true → heapy (S i) o = true → ∀ (lo hi m : Nat) (G : Heap), winOf i d.wins = some (lo, hi) → lo ≤ m → m ≤ hi → vers[m]? = some G →
      sameAt E o ⟨S i, Hh i, X i, S (i + 1), Hh (i + 1)⟩ G = true)
    (hvers : ∀ k, k ≤ ops.size → vers[louds E sites rid ops k]? = some (Hh k))
    (hq : ∀ a' w', Post E C0 (S ops.size) (Hh ops.size) a' w' → Q .normal a' w') :
    ∀ (fuel : Nat) (listed : Array Bool) (a : Act) (C : Ctx) (lam : Nat → Nat) (sa : St), listed.size = ops.size → Closed ops (fun j => memOf listed j = true) → (List.range ops.size).countP (fun j => !memOf listed j) = fuel →
      vers[countLoud E sites rid ops (memOf listed)]? = some C.H → HR E C → Ev C0 C → FrameR C lam sa a → After sites rid ops S (memOf listed) sa → wpAnyIn (FW ro) 0 E.P .any ops Q fuel listed a C.w := by
  have fin : ∀ (listed : Array Bool) (a : Act) (C : Ctx) (lam : Nat → Nat) (sa : St), listed.size = ops.size → vers[countLoud E sites rid ops (memOf listed)]? = some C.H → HR E C → Ev C0 C → FrameR C lam sa a → After sites rid ops S (memOf listed) sa →
      Region.ready .any ops listed = [] → Q .normal a C.w := by
    intro listed a C lam sa hs hv hr ev hf hA hn
    have hall := none_left hK hs hn
    have hcount : countLoud E sites rid ops (memOf listed) = louds E sites rid ops ops.size := countLoud_first (Nat.le_refl _) fun j hj _ => by simp [hall j hj, hj]
    rw [hcount, hvers _ (Nat.le_refl _)] at hv
    injection hv with hv
    refine hq a C.w ⟨C, lam, rfl, hv.symm, hr, ev, hf.same ?_ (fun t => ?_) (fun s => ?_)⟩
    · rw [hA.shape.N, (hT.shape hcn ops.size (Nat.le_refl _)).N]
    · by_cases hw : ∃ (j : Nat) (q : Oper), ops[j]? = some q ∧ q.dst = some t
      · obtain ⟨j, q, h1, h2⟩ := hw
        exact (hA.new t j q (hall j (Array.getElem?_eq_some_iff.1 h1).1) h1 h2).symm
      · rw [hA.old t fun j q _ h2 h3 => hw ⟨j, q, h2, h3⟩]
        exact hT.get_first hcn _ (Nat.le_refl _) fun j q _ h2 h3 => hw ⟨j, q, h2, h3⟩
    · exact (hA.var s ops.size (Nat.le_refl _) fun j hj _ => ⟨fun _ => hj, fun _ => hall j hj⟩).symm
  intro fuel
  induction fuel with
  | zero =>
    intro listed a C lam sa hs hc hl hv hr ev hf hA
    have hn : Region.ready .any ops listed = [] := by
      cases hrd : Region.ready .any ops listed with
      | nil => rfl
      | cons i l =>
        exfalso
        obtain ⟨o, ho, h1, _⟩ := ready_mem (ops := ops) (listed := listed) (i := i) (by rw [hrd]; exact List.mem_cons_self)
        have hlt := (Array.getElem?_eq_some_iff.1 ho).1
        rw [getD_true (by omega)] at h1
        have := List.countP_eq_zero.1 hl i (List.mem_range.2 hlt)
        simp [h1] at this
    exact ⟨hn, fin listed a C lam sa hs hv hr ev hf hA hn⟩
  | succ fuel ih =>
    intro listed a C lam sa hs hc hl hv hr ev hf hA
    refine ⟨fin listed a C lam sa hs hv hr ev hf hA, fun i hi => ?_⟩
    obtain ⟨o, ho, h1, h2⟩ := ready_mem hi
    have hlt := (Array.getElem?_eq_some_iff.1 ho).1
    rw [getD_true (by omega)] at h1
    have hM' : ∀ j, memOf (listed.setIfInBounds i true) j = if j = i then true else memOf listed j := fun j => mem_set (by omega)
    have hb : ∀ j q, ops[j]? = some q → bef d i j = true → memOf listed j = true := fun j q hq' hbf => hc.bef hK i j o q ho hq' hbf h2
    have ha : ∀ j q, ops[j]? = some q → bef d j i = true → memOf listed j = false := fun j q hq' hbf => by
      cases hm : memOf listed j
      · rfl
      · have := hc.bef hK j i q o hq' ho hbf (hc j q hq' hm)
        rw [h1] at this
        cases this
    have hlo : loudAt E sites rid ops i = isLoud E (siteAt sites rid i o) o := by unfold loudAt; rw [ho]
    have hget : ∀ j, j < ops.size → ops[j]? = some (ops[j]!) := fun j hj => by rw [Array.getElem?_eq_getElem hj]; simp [hj]
    have hHcond : (isLoud E (siteAt sites rid i o) o = true ∧ C.H = Hh i) ∨ (isLoud E (siteAt sites rid i o) o = false ∧ ((reads o = false ∨ heapy (S i) o = false) ∨ (acts ops (S i) o = true → sameAt E o ⟨S i, Hh i, X i, S (i + 1), Hh (i + 1)⟩ C.H = true ∨ C.H = Hh i))) := by
      cases hld : isLoud E (siteAt sites rid i o) o
      · refine .inr ⟨rfl, ?_⟩
        cases hrd : reads o
        · exact .inl (.inl rfl)
        · cases hhp : heapy (S i) o
          · exact .inl (.inr rfl)
          · refine .inr fun hac => ?_
            rw [hld] at hlo
            have m1 : countLoud E sites rid ops (fun j => bef d i j) ≤ countLoud E sites rid ops (memOf listed) := countLoud_mono fun j hj hbf => hb j _ (hget j hj) hbf
            have m2 : countLoud E sites rid ops (memOf listed) ≤ countLoud E sites rid ops (fun j => !bef d j i) := countLoud_mono fun j hj hm => by
              cases hbf : bef d j i
              · rfl
              · rw [ha j _ (hget j hj) hbf] at hm; cases hm
            have e1 : countLoud E sites rid ops (fun j => decide (j < i)) = louds E sites rid ops i := countLoud_first (by omega) fun j _ _ => rfl
            have m3 : countLoud E sites rid ops (fun j => bef d i j) ≤ louds E sites rid ops i := by
              rw [← e1]
              exact countLoud_mono fun j hj hbf => by simpa using hK.lt i j o _ ho (hget j hj) hbf
            have m4 : louds E sites rid ops i ≤ countLoud E sites rid ops (fun j => !bef d j i) := by
              rw [← e1]
              refine countLoud_mono fun j hj hji => ?_
              have hji' : j < i := by simpa using hji
              cases hbf : bef d j i
              · rfl
              · have := hK.lt j i _ o (hget j hj) ho hbf
                omega
            rcases hK.wins i o ho hlo hrd with hw | ⟨l, h, hw, hw1, hw2⟩
            · refine .inr ?_
              have : countLoud E sites rid ops (memOf listed) = louds E sites rid ops i := by omega
              rw [this, hvers i (by omega)] at hv
              injection hv with hv
              exact hv.symm
            · exact .inl (hwin i o ho hlo hrd hac hhp l h _ C.H hw (by omega) (by omega) hv)
      · refine .inl ⟨rfl, ?_⟩
        rw [hld] at hlo
        have : countLoud E sites rid ops (memOf listed) = louds E sites rid ops i := countLoud_first (by omega) fun j hj hjl => by
          rcases Nat.lt_trichotomy j i with h | h | h
          · rw [hb j _ (hget j hj) (hK.loud i j o _ ho (hget j hj) h hlo hjl)]
            simp [h]
          · subst h
            rw [h1]
            simp
          · rw [ha j _ (hget j hj) (hK.loud j i _ o (hget j hj) ho h hjl hlo)]
            have : ¬ j < i := by omega
            simp [this]
        rw [this, hvers i (by omega)] at hv
        injection hv with hv
        exact hv.symm
    have htouch : ∀ s w, touchOf (S i) (siteAt sites rid i o) o = some (s, w) → sa.var s = (S i).var s := fun s w ht => hA.touch hK hp ho h1 hb ha ht
    have hSi := hT.shape hcn i (by omega)
    obtain ⟨st1, sa1, e1, e2, e3⟩ := step_any (Q := Q) (K := wpAnyIn (FW ro) 0 E.P .any ops Q fuel (listed.setIfInBounds i true)) (G1 := if isLoud E (siteAt sites rid i o) o = true then Hh (i + 1) else C.H) hcn hck (hT.step i o ho) ho hr hf
      (fun t ht => hA.looks hcn hT hK ho h1 hb ha (.inl ht)) (fun s w ht => ⟨htouch s w ht, by rw [hA.shape.L, hSi.L]⟩) (by
        rcases hHcond with ⟨h3, h4⟩ | ⟨h3, h4⟩
        · exact .inl ⟨h3, h4, by rw [if_pos h3]⟩
        · exact .inr ⟨h3, by rw [if_neg (by rw [h3]; simp)], h4⟩)
    refine e3 fun a' w' hpost => ?_
    obtain ⟨C1, lam1, rfl, g2, g3, g4, g5⟩ := hpost
    have hA' := hA.next hcn hT hK ho h1 hM' (fun t ht => hA.looks hcn hT hK ho h1 hb ha (.inr ht)) htouch (fun s hw j hj hwj => by
      obtain ⟨o', ho', ht'⟩ := hw
      have : o' = o := by
        rw [ho] at ho'
        injection ho' with ho'
        exact ho'.symm
      subst this
      obtain ⟨q, hq', hqt⟩ := hwj
      exact ⟨fun h => hb j q hq' (hp j i q o' s true true h hq' ho hqt ht' rfl), fun h => ha j q hq' (hp i j o' q s true true h ho hq' ht' hqt rfl)⟩) e1 e2
    refine ih _ a' C1 lam1 _ (by simpa using hs) ?_ ?_ ?_ g3 (ev.trans g4) g5 hA'
    · intro j q hq' hm e he hbd
      rw [hM'] at hm
      rw [hM']
      by_cases ej : j = i
      · subst ej
        have : q = o := by
          rw [ho] at hq'
          injection hq' with hq'
          exact hq'.symm
        subst this
        rw [h2 e he hbd]
        simp
      · rw [if_neg ej] at hm
        rw [hc j q hq' hm e he hbd]
        simp
    · have := left_dec (M := memOf listed) (M' := memOf (listed.setIfInBounds i true)) h1 hM' ops.size
      rw [if_pos hlt] at this
      omega
    · rw [countLoud_add (p := memOf listed) (q := memOf (listed.setIfInBounds i true)) hlt (fun j hj => by rw [hM', if_neg hj]) h1 (by rw [hM']; simp), g2, hlo]
      rcases hHcond with ⟨h3, h4⟩ | ⟨h3, h4⟩
      · rw [h3, if_pos rfl, if_pos rfl]
        rw [h3] at hlo
        have h5 := hvers (i + 1) (by omega)
        rw [louds_succ, hlo, if_pos rfl] at h5
        have : countLoud E sites rid ops (memOf listed) = louds E sites rid ops i := countLoud_first (by omega) fun j hj hjl => by
          rcases Nat.lt_trichotomy j i with h | h | h
          · rw [hb j _ (hget j hj) (hK.loud i j o _ ho (hget j hj) h hlo hjl)]
            simp [h]
          · subst h
            rw [h1]
            simp
          · rw [ha j _ (hget j hj) (hK.loud j i _ o (hget j hj) ho h hjl hlo)]
            have : ¬ j < i := by omega
            simp [this]
        rw [this]
        exact h5
      · rw [h3]
        simpa using hv

end
end Go.Den

/- DEN, part Ze: regions whose order is open: done. -/
namespace Go.Den
open Go.RowKit

section
variable {E : Env} {cf : CallFn}

theorem draw_ok (hcn : CNat cf) (hck : CallKOK E cf) (hm : E.P.follows .mixedOrders = true) (fa : FAnn) : DrawOK E cf fa (staticOk E fa.sites) := by
  intro rid ops d st C lam a st' H' Q hok h hr hf hq ro
  obtain ⟨rs, hrun, hd⟩ := opsD_run hcn C.H _ _ _ _ _ h
  rw [List.reverse_nil, List.nil_append] at hd
  have hK := textOK hok
  obtain ⟨s0, s1, s2⟩ := run_start hrun
  have hat : ∀ (k : Nat) (o : Oper), ops[k]? = some o → rs[k]? = some ⟨frameAt rs st' k, heapAt rs H' k, valAt rs k, frameAt rs st' (k + 1), heapAt rs H' (k + 1)⟩ ∧ TextStep E cf fa.sites rid ops k o ⟨frameAt rs st' k, heapAt rs H' k, valAt rs k, frameAt rs st' (k + 1), heapAt rs H' (k + 1)⟩ := fun k o ho => by
    have := run_at hrun (k := k) (o := o) (by rw [Array.getElem?_toList]; exact ho)
    rw [Nat.zero_add] at this
    exact this
  have hT : TextRun E cf fa.sites rid ops (frameAt rs st') (heapAt rs H') (valAt rs) := ⟨fun i o ho => (hat i o ho).2⟩
  unfold drawOk at hd
  simp only [Bool.and_eq_true] at hd
  have hend : frameAt rs st' ops.size = st' ∧ heapAt rs H' ops.size = H' := by
    have : rs[ops.size]? = none := List.getElem?_eq_none (by rw [s2, Array.length_toList]; exact Nat.le_refl _)
    unfold frameAt heapAt
    rw [this]
    exact ⟨rfl, rfl⟩
  refine wpIn_region_any hm ?_
  let C1 : Ctx := { C with w := { C.w with drawn := C.w.drawn + 1 } }
  have ev : EvL C C1 := ⟨⟨rfl, rfl, rfl, Nat.le_refl _, fun _ _ _ => ⟨rfl, rfl⟩, Nat.le_refl _, fun _ _ v' sz' ty' es' h => ⟨v', es', h, Nat.le_refl _, fun _ => ⟨rfl, fun cells t fr h => ⟨cells, t, fr, h, rfl⟩⟩⟩,
    fun _ _ o _ h => ⟨⟨o, h, rfl⟩, rfl⟩⟩, fun _ _ _ h => ⟨rfl, h⟩⟩
  have hr1 : HR E C1 := hr.step ev.ev (fun id v sz ty es h => .inl ⟨h, rfl, (hr.row id v sz ty es h).2.2.1, rfl⟩) (fun id o ho h => .inl ⟨h, rfl, (hr.oth id o ho h).1, rfl⟩) hr.new
  refine any_walk hcn hck hT hK (vers := C.H :: versOf E fa.sites rid ops.toList 0 rs) (C0 := C) (Q := Q) ?_ ?_ (fun k hk => vers_louds hcn hrun hk) ?_ ops.size _ a C1 lam st (by simp) ?_ ?_ ?_ hr1 ev.ev (hf.ev ev) ?_
  · intro i j o q s w w' hij hi hj h1 h2 hw
    have := touches_ok ops.toList 0 rs hd.1 i j o q _ _ s w w' hij (by rw [Array.getElem?_toList]; exact hi) (by rw [Array.getElem?_toList]; exact hj) (hat i o hi).1 (hat j q hj).1 (by rw [Nat.zero_add]; exact h1) (by rw [Nat.zero_add]; exact h2) hw
    simpa using this
  · intro i o ho h1 h2 h3 h4 lo hi m G hw h5 h6 hG
    have hw' := hd.2
    split at hw'
    · rename_i hnil
      rw [hnil] at hw
      cases hw
    · have hl : isLoud E (siteAt fa.sites rid i o) o = false := by
        unfold loudAt at h1
        rw [ho] at h1
        exact h1
      exact winsOk_get ops.toList 0 rs hw' i o _ lo hi m G (by rw [Array.getElem?_toList]; exact ho) (hat i o ho).1 (by rw [Nat.zero_add]; exact hw) (by rw [Nat.zero_add]; exact hl) h2 h3 h4 h5 h6 hG
  · intro a' w' hp
    rw [hend.1, hend.2] at hp
    exact hq a' w' hp
  · intro i o ho hm
    exfalso
    have : memOf (Array.replicate ops.size false) i = false := by
      unfold memOf
      rw [Array.getD_eq_getD_getElem?, Array.getElem?_replicate]
      split <;> rfl
    rw [this] at hm
    cases hm
  · rw [List.countP_eq_length_filter, List.filter_eq_self.2, List.length_range]
    intro i hi
    have : memOf (Array.replicate ops.size false) i = false := by
      unfold memOf
      rw [Array.getD_eq_getD_getElem?, Array.getElem?_replicate]
      split <;> rfl
    rw [this]
    rfl
  · have : countLoud E fa.sites rid ops (memOf (Array.replicate ops.size false)) = louds E fa.sites rid ops 0 := countLoud_first (Nat.zero_le _) fun j hj _ => by
      have : memOf (Array.replicate ops.size false) j = false := by
        unfold memOf
        rw [Array.getD_eq_getD_getElem?, Array.getElem?_replicate]
        split <;> rfl
      rw [this]
      simp
    rw [this]
    rfl
  · have hmem : ∀ j, memOf (Array.replicate ops.size false) j = false := fun j => by
      unfold memOf
      rw [Array.getD_eq_getD_getElem?, Array.getElem?_replicate]
      split <;> rfl
    refine ⟨?_, fun t _ => ?_, fun t j o hj => ?_, fun s k hk hp => ?_⟩
    · rw [s0]; exact Shape.refl _
    · rw [s0]
    · rw [hmem] at hj; cases hj
    · have := hT.var_rest hcn (s := s) 0 k (by omega) fun j _ hj hw => by
        have := (hp j (by omega) hw).2 (by omega)
        rw [hmem] at this
        cases this
      rw [Nat.zero_add, s0] at this
      exact this.symm

end
end Go.Den

/- DEN, part Zf: calls do what is read off the code. -/
namespace Go.Den
open Go.RowKit

section
variable {E : Env} {cf : CallFn}

/-- Functions that are read as they stand. -/
theorem callK_plain {f : FuncId} (hp : E.pol f = .plain) (hcf : CallOK E cf) {args : List AV} {C : Ctx} {us : Array Value} {v : AV} {H' : Heap} (h : callK E cf f args C.H (fun v G => some (v, G)) = some (v, H')) (hr : HR E C) (hv : Vs C false args us.toList) :
    Lands E.P f us C.w (GivesL E C v H') := by
  unfold callK at h
  rw [hp] at h
  dsimp only at h
  cases hlt : Nat.blt f yBase
  · rw [hlt] at h; cases h
  · rw [hlt] at h
    exact (hcf.call f args C.strip us v H' hlt h (strip_hr hr) strip_noLoc (hv.evV strip_evV)).mono fun u w hg => gives_back hr hg

theorem yieldK_ok (hcf : CallOK E cf) : ∀ (id : Nat) (args : List AV) (C : Ctx) (us : Array Value) (v : AV) (H' : Heap), cf (AV × Heap) (yBase + id) args C.H (fun v G => some (v, G)) = some (v, H') → HR E C → Vs C false args us.toList → YLands E C id us (GivesL E C v H') :=
  fun id args C us v H' h hr hv => yield_back hr (hcf.yield id args C.strip us v H' h (strip_hr hr) strip_noLoc (hv.evV strip_evV))

theorem callF_lt {n : Nat} {R : Type} {f : FuncId} {args : List AV} {k : AV → Heap → Option R} {r : R} (h : callF E n R f args [] k = some r) : Nat.blt f yBase = true := by
  cases n with
  | zero => cases h
  | succ n =>
    cases hlt : Nat.blt f yBase
    · unfold callF at h
      rw [hlt] at h
      simp only [Bool.not_false, cond_true] at h
      unfold runRound at h
      simp at h
    · rfl

theorem callF_plain (hE : EnvOK E) (hm : E.P.follows .mixedOrders = true) (hp : ∀ f, E.pol f = .plain) : ∀ n, CallOK E (callF E n)
  | 0 => ⟨fun f args C us v H' _ h => (by cases h), fun id args C us v H' h => (by cases h)⟩
  | n + 1 => by
    have hck : CallKOK E (callF E n) := ⟨fun f args C us v H' h hr hv => callK_plain (hp f) (callF_plain hE hm hp n) h hr hv, yieldK_ok (callF_plain hE hm hp n)⟩
    exact callF_step hE n hck fun fa => draw_ok (callF_nat n) hck hm fa

/-- The moment ahead of a call from outside. -/
def Ctx.outer (w : World) (κ : Nat → Role) : Ctx := ⟨w, κ, fun _ => (0, 0), []⟩

theorem outer_hr {w : World} {κ : Nat → Role} (hκ : ∀ b, w.heap.size ≤ b → κ b = .oth) (hg : ∀ g cs, E.glob g = some cs → V (.outer w κ) true (.rop cs) (.pointer (some ⟨g, 0, none⟩))) : HR E (.outer w κ) :=
  ⟨fun id v sz ty es h => by simp [Ctx.outer] at h, fun id o _ h => by simp [Ctx.outer] at h, hκ, hg, fun id v sz ty es h => by simp [Ctx.outer] at h⟩

/-- A call from outside whose answer is plain. -/
theorem outer_calls {n : Nat} (hcf : CallOK E (callF E n)) {f : FuncId} {args : List AV} {us : Array Value} {v : AV} {w : World} {κ : Nat → Role} (hr : HR E (.outer w κ)) (hn : (Ctx.outer w κ).noLoc) (hv : Vs (.outer w κ) false args us.toList)
    (h : answer E n f args = some v) : Lands E.P f us w fun u w' => ∃ C', C'.w = w' ∧ V C' false v u ∧ Ev (.outer w κ) C' ∧ HR E C' := by
  unfold answer at h
  rw [callF_nat n] at h
  simp only [Option.bind_eq_some_iff] at h
  obtain ⟨⟨x, H'⟩, h1, h2⟩ := h
  simp only [Option.some.injEq] at h2
  subst h2
  refine (hcf.call f args (.outer w κ) us x H' (callF_lt h1) h1 hr hn hv).mono fun u w' hg => ?_
  obtain ⟨C', g1, _, g3, g4, g5, _⟩ := hg
  exact ⟨C', g1, g3, g5, g4⟩

end
end Go.Den

/- DEN, part Zg: what must be asked of a program and its tables, by computation; a law's post-condition. -/
namespace Go.Den
open Go.RowKit

theorem codeOk_nil {ok : Nat → Array Oper → DInfo → Bool} : ∀ c, codeOk [] ok c = true
  | .region _ _ b => by cases b <;> rfl
  | .seq a b => by unfold codeOk; rw [codeOk_nil a, codeOk_nil b]; rfl
  | .cond _ a b => by unfold codeOk; rw [codeOk_nil a, codeOk_nil b]; rfl
  | .block _ c => codeOk_nil c
  | .loop c => codeOk_nil c
  | .scope c => codeOk_nil c
  | .rangeFunc _ _ a b => by unfold codeOk; rw [codeOk_nil a, codeOk_nil b]; rfl
  | .skip | .label _ | .exit _ | .goto _ | .ret | .refuse _ => rfl

/-- The functions whose regions are described. -/
def tableOk (E : Env) : List FuncId → Bool
  | [] => true
  | f :: fs => (match E.P.funcs[f]? with
    | some fn => match fn.body with
      | some c => codeOk (E.ann f).draws (staticOk E (E.ann f).sites) c
      | none => true
    | none => true) && tableOk E fs

def namesOk (P : Program) : Bool := P.funcs.toList.all fun fn => !(fn.name == "runtime.NumGoroutine")

theorem tableOk_mem {E : Env} : ∀ {fs : List FuncId}, tableOk E fs = true → ∀ {f : FuncId}, f ∈ fs → ∀ {fn : Func} {c : Code}, E.P.funcs[f]? = some fn → fn.body = some c → codeOk (E.ann f).draws (staticOk E (E.ann f).sites) c = true
  | [], _, _, hf, _, _, _, _ => by cases hf
  | g :: fs, h, f, hf, fn, c, h1, h2 => by
    unfold tableOk at h
    simp only [Bool.and_eq_true] at h
    rcases List.mem_cons.1 hf with rfl | hf
    · have := h.1
      rw [h1] at this
      dsimp only at this
      rw [h2] at this
      exact this
    · exact tableOk_mem h.2 hf h1 h2

theorem envOK {E : Env} (fs : List FuncId) (h1 : tableOk E fs = true) (h2 : ∀ f, f ∉ fs → (E.ann f).draws = []) (h3 : namesOk E.P = true) : EnvOK E := by
  refine ⟨fun f fn c hf hb => ?_, fun f fn c hf hb => ?_⟩
  · rcases Decidable.em (f ∈ fs) with h | h
    · exact tableOk_mem h1 h hf hb
    · rw [h2 f h]
      exact codeOk_nil c
  · unfold namesOk at h3
    have := List.all_eq_true.1 h3 fn (by
      rw [← Array.getElem?_toList] at hf
      exact List.mem_of_getElem? hf)
    simpa using this

/-- A call from outside leaves what was there. -/
theorem Ev.below {w : World} {κ : Nat → Role} (hκ : ∀ b, κ b = .imm ∨ κ b = .oth) {C' : Ctx} (h : Ev (.outer w κ) C') : Below w.heap.size w C'.w :=
  ⟨h.os, h.tape, h.output, h.size, fun k hk => (h.keep k hk (hκ k)).1⟩

/-- A closed law: the reading says 'true'. -/
theorem closed_calls {E : Env} {n : Nat} (hcf : CallOK E (callF E n)) (hg : ∀ g, E.glob g = none) {f : FuncId} {w : World} (h : answer E n f [] = some (.bool true)) {fn : Func} {c : Code} (hfn : E.P.funcs[f]? = some fn) (hb : fn.body = some c) :
    Calls E.P f #[] w fun e w' => e = .returned (.bool true) ∧ Below w.heap.size w w' := by
  have hr : HR E (.outer w fun _ => .oth) := outer_hr (fun _ _ => rfl) fun g cs hg' => by rw [hg g] at hg'; cases hg'
  have := outer_calls hcf (us := #[]) hr (fun b s e => by cases e) (.nil _) h
  rcases this with ⟨_, h2⟩ | ⟨u, w', h1, _⟩
  · refine Calls.mono h2 fun e w' ⟨u, he, C', hw, hv, ev, _⟩ => ?_
    subst hw
    rw [he, hv.bool_inv]
    exact ⟨rfl, ev.below fun _ => .inr rfl⟩
  · exfalso
    have hpr : program.run E.P w = .ok E.P w := rfl
    unfold callFunc at h1
    simp only [Sem.run_bind, hpr, Result.andThen_ok, hfn] at h1
    split at h1
    · cases h1
    · rw [if_neg (by simp [hb])] at h1
      cases h1

end Go.Den

/- DEN, part Zh: what a call from outside is handed: an argument as the row's reader reads it stands for a value of memory that does not change. -/
namespace Go.Den
open Go.RowKit

/-- A value of a type made of numbers, bools, texts, slices, structs, arrays. -/
def Ty (P : Program) : Nat → TypeId → AV → Prop
  | 0, _, _ => False
  | n + 1, t, v =>
    match P.underlying t with
    | some .bool => ∃ b, v = .bool b
    | some (.int k) => ∃ i, v = .int k i ∧ k.min ≤ i ∧ i ≤ k.max
    | some .string => ∃ l : List UInt8, v = .str l ∧ l.length ≤ maxLen
    | some (.slice e) => v = .nils ∨ ∃ es : List AV, v = .sh (P.cellsOf e) es ∧ es.length ≤ maxLen ∧ ∀ x ∈ es, Ty P n e x
    | some (.struct fs) => ∃ vs : List AV, v = .agg (vs.flatMap AV.cells) ∧ vs.length = fs.size ∧ ∀ (i : Nat) (f : Field) (x : AV), fs[i]? = some f → vs[i]? = some x → Ty P n f.type x ∧ x.cells.length = P.cellsOf f.type
    | some (.array m e) => ∃ vs : List AV, v = .agg (vs.flatMap AV.cells) ∧ vs.length = m ∧ ∀ x ∈ vs, Ty P n e x ∧ x.cells.length = P.cellsOf e
    | _ => False

def contig (P : Program) : Nat → List Field → Option Nat
  | off, [] => some off
  | off, f :: fs => if f.offset = off then contig P (off + P.cellsOf f.type) fs else none

def tyOk (P : Program) (ts : List TypeId) (t : TypeId) : Bool :=
  match P.underlying t with
  | some .bool | some (.int _) | some .string => true
  | some (.slice e) => ts.contains e && decide (0 < P.cellsOf e)
  | some (.struct fs) => fs.toList.all (fun f => ts.contains f.type) && decide (contig P 0 fs.toList = some (P.cellsOf t))
  | some (.array n e) => ts.contains e && decide (n * P.cellsOf e = P.cellsOf t)
  | _ => false

def immK (W : World) : Nat → Role := fun b => if b < W.heap.size then .imm else .oth

section
variable {H : Type} {enc : TypeId × Value → H} {P : Program} {W : World} {sp : Nat → Bool} {hd : Bool}

/-- Is it a struct or an array? -/
def aggTy (P : Program) (t : TypeId) : Bool := match P.underlying t with | some (.struct _) | some (.array _ _) => true | _ => false

theorem Vs.join {C : Ctx} {p : Bool} : ∀ {vs : List AV} {css : List (List Value)}, vs.length = css.length → (∀ (i : Nat) (v : AV) (cs : List Value), vs[i]? = some v → css[i]? = some cs → Vs C p v.cells cs) → Vs C p (vs.flatMap AV.cells) css.flatten
  | [], [], _, _ => .nil _
  | [], _ :: _, h, _ => by simp at h
  | _ :: _, [], h, _ => by simp at h
  | v :: vs, cs :: css, hl, h => by
    simp only [List.flatMap_cons, List.flatten_cons]
    exact (h 0 v cs rfl rfl).append (Vs.join (by simpa using hl) fun i v' cs' h1 h2 => h (i + 1) v' cs' (by simpa using h1) (by simpa using h2))

/-- Of each place something: a list of these. -/
theorem choose_list {α β : Type} {n : Nat} {R : Nat → α → β → Prop} (h : ∀ i, i < n → ∃ a b, R i a b) : ∃ (zs : List α) (bs : List β), zs.length = n ∧ bs.length = n ∧ ∀ (i : Nat) (a : α) (b : β), zs[i]? = some a → bs[i]? = some b → R i a b := by
  induction n with
  | zero => exact ⟨[], [], rfl, rfl, fun i a b h => by simp at h⟩
  | succ n ih =>
    obtain ⟨zs, bs, h1, h2, h3⟩ := ih fun i hi => h i (by omega)
    obtain ⟨a, b, hab⟩ := h n (by omega)
    refine ⟨zs ++ [a], bs ++ [b], by simp [h1], by simp [h2], fun i x y hx hy => ?_⟩
    rcases Nat.lt_trichotomy i n with hi | hi | hi
    · rw [List.getElem?_append_left (by omega)] at hx hy
      exact h3 i x y hx hy
    · subst hi
      rw [List.getElem?_append_right (by omega)] at hx hy
      simp only [h1, h2, Nat.sub_self, List.getElem?_cons_zero, Option.some.injEq] at hx hy
      subst hx hy
      exact hab
    · rw [List.getElem?_append_right (by omega), List.getElem?_eq_none (by simp; omega)] at hx
      cases hx

theorem flatten_pieces {cs : List Value} : ∀ {css : List (List Value)} {n : Nat}, (∀ (i : Nat) (c : List Value), css[i]? = some c → c = (cs.drop (i * n)).take n) → css.length * n = cs.length → css.flatten = cs := by
  intro css n
  induction css generalizing cs with
  | nil =>
    intro _ hl
    cases cs with
    | nil => rfl
    | cons _ _ => simp at hl
  | cons c css ih =>
    intro h hl
    have h0 := h 0 c rfl
    simp only [Nat.zero_mul, List.drop_zero] at h0
    have := ih (cs := cs.drop n) (fun i c' hc => by
      have := h (i + 1) c' (by simpa using hc)
      rw [this, List.drop_drop, Nat.add_mul, Nat.one_mul, Nat.add_comm]) (by
      simp only [List.length_cons, Nat.add_mul, Nat.one_mul] at hl
      simp only [List.length_drop]
      omega)
    rw [List.flatten_cons, this, h0, List.take_append_drop]

theorem contig_flatten {cs : List Value} : ∀ {fs : List Field} {css : List (List Value)} {off tot : Nat}, contig P off fs = some tot → css.length = fs.length →
    (∀ (i : Nat) (f : Field) (c : List Value), fs[i]? = some f → css[i]? = some c → c = (cs.drop f.offset).take (P.cellsOf f.type)) → css.flatten = (cs.drop off).take (tot - off) ∧ off ≤ tot
  | [], [], off, tot, h, _, _ => by
    simp only [contig, Option.some.injEq] at h
    subst h
    simp
  | [], _ :: _, _, _, _, h, _ => by simp at h
  | _ :: _, [], _, _, _, h, _ => by simp at h
  | f :: fs, c :: css, off, tot, h, hl, hp => by
    unfold contig at h
    split at h
    · rename_i ho
      obtain ⟨h1, h2⟩ := contig_flatten (cs := cs) h (by simpa using hl) fun i f' c' hf hc => hp (i + 1) f' c' (by simpa using hf) (by simpa using hc)
      have h0 := hp 0 f c rfl rfl
      rw [List.flatten_cons, h1, h0, ho]
      refine ⟨?_, by omega⟩
      have : tot - off = P.cellsOf f.type + (tot - (off + P.cellsOf f.type)) := by omega
      rw [this, List.take_add, List.drop_drop]
    · cases h

/-- What the reader reads. -/
theorem trod_V {ts : List TypeId} (hts : ∀ t ∈ ts, tyOk P ts t = true) : ∀ (fuel : Nat) (t : TypeId) (cs : List Value) (x : DataW H × List MemPlace), t ∈ ts → DataW.trod enc P W 0 sp hd fuel t cs = some x →
    ∃ v, Ty P fuel t v ∧ (∀ c ∈ v.cells, c.one = true) ∧ Vs (.outer W (immK W)) true v.cells cs ∧ (aggTy P t = true → v = .agg v.cells) ∧ (aggTy P t = false → v.cells = [v]) := by
  intro fuel
  induction fuel with
  | zero => intro t cs x _ h; simp [DataW.trod] at h
  | succ fuel ih =>
    intro t cs x ht h
    have hok := hts t ht
    unfold tyOk at hok
    unfold Ty aggTy
    split at hok
    · rename_i hu
      obtain ⟨b, rfl, _⟩ := DataW.trod_bool hu h
      rw [hu]
      exact ⟨.bool b, ⟨b, rfl⟩, by simp [AV.cells, AV.one], .cons _ _ _ _ _ (.bool _ _) (.nil _), by simp, by simp [AV.cells]⟩
    · rename_i k hu
      obtain ⟨n, rfl, _, hw⟩ := DataW.trod_int hu h
      rw [hu]
      simp only [Lit.wf, Bool.and_eq_true, decide_eq_true_eq] at hw
      exact ⟨.int k n, ⟨n, rfl, hw⟩, by simp [AV.cells, AV.one], .cons _ _ _ _ _ (.int _ _ _) (.nil _), by simp, by simp [AV.cells]⟩
    · rename_i hu
      obtain ⟨s, rfl, _, hs⟩ := DataW.trod_string hu h
      rw [hu]
      exact ⟨.str s.data.toList, ⟨_, rfl, by simpa using hs⟩, by simp [AV.cells, AV.one], .cons _ _ _ _ _ (.str _ _) (.nil _), by simp, by simp [AV.cells]⟩
    · rename_i e hu
      simp only [Bool.and_eq_true, List.contains_iff_mem, decide_eq_true_eq] at hok
      rw [hu]
      dsimp only
      rcases DataW.trod_slice hu h with ⟨rfl, _⟩ | ⟨a, len, cap, elems, rest, n, hn, rfl, _, _, hlc, hcap, hel, hget, _, _⟩
      · exact ⟨.nils, .inl rfl, by simp [AV.cells, AV.one], .cons _ _ _ _ _ (.nils _) (.nil _), by simp, by simp [AV.cells]⟩
      · injection hn with hn
        subst hn
        have hR : ∀ i, i < len → ∃ v cs, W.cells? 0 (a.add (i * P.cellsOf e)) (P.cellsOf e) = some cs ∧ Ty P fuel e v ∧ (∀ c ∈ v.cells, c.one = true) ∧ Vs (.outer W (immK W)) true v.cells cs := fun i hi => by
          have := hget i hi
          rw [List.getElem?_eq_getElem (by omega)] at this
          simp only [Option.bind_eq_some_iff] at this
          obtain ⟨cs, h1, h2⟩ := this
          obtain ⟨v, g1, g2, g3, _⟩ := ih e cs _ hok.1 h2
          exact ⟨v, cs, h1, g1, g2, g3⟩
        obtain ⟨vs, css, hl1, hl2, hall⟩ := choose_list hR
        have hz : ∀ (i : Nat) (v : AV) (cs : List Value), vs[i]? = some v → css[i]? = some cs → cs.length = P.cellsOf e ∧ v.cells.length = P.cellsOf e := fun i v cs h1 h2 => by
          obtain ⟨g1, _, _, g4⟩ := hall i v cs h1 h2
          have := (World.cells?_some g1).2.1
          exact ⟨this, by rw [← g4.length]; exact this⟩
        have pairOf : ∀ (i : Nat) (v : AV), vs[i]? = some v → ∃ cs, css[i]? = some cs := fun i v h1 => by
          obtain ⟨hlt, _⟩ := List.getElem?_eq_some_iff.1 h1
          exact ⟨_, List.getElem?_eq_getElem (by omega)⟩
        have hmem : ∀ v ∈ vs, ∃ (i : Nat) (cs : List Value), vs[i]? = some v ∧ css[i]? = some cs := fun v hv => by
          obtain ⟨i, hi, e⟩ := List.mem_iff_getElem.1 hv
          have h1 : vs[i]? = some v := by rw [List.getElem?_eq_getElem hi, e]
          obtain ⟨cs, h2⟩ := pairOf i v h1
          exact ⟨i, cs, h1, h2⟩
        refine ⟨.sh (P.cellsOf e) vs, .inr ⟨vs, rfl, by omega, fun v hv => ?_⟩, by simp [AV.cells, AV.one], ?_, by simp, by simp [AV.cells]⟩
        · obtain ⟨i, cs, h1, h2⟩ := hmem v hv
          exact (hall i v cs h1 h2).2.1
        · have hlen : vs.length = len := hl1
          have hj : Vs (.outer W (immK W)) true (vs.flatMap AV.cells) css.flatten := Vs.join (by omega) fun i v cs h1 h2 => (hall i v cs h1 h2).2.2.2
          have hcell : ∀ j u, css.flatten[j]? = some u → W.cell? (a.add j) = some u := by
            intro j u hju
            have hpos := hok.2
            have hq : j / P.cellsOf e < css.length ∧ ∃ c, css[j / P.cellsOf e]? = some c ∧ c[j % P.cellsOf e]? = some u := by
              have gen : ∀ (l : List (List Value)) (j : Nat), (∀ c ∈ l, c.length = P.cellsOf e) → l.flatten[j]? = some u → j / P.cellsOf e < l.length ∧ ∃ c, l[j / P.cellsOf e]? = some c ∧ c[j % P.cellsOf e]? = some u := by
                intro l
                induction l with
                | nil => intro j _ h; simp at h
                | cons c l ihl =>
                  intro j hc h
                  have hcl := hc c List.mem_cons_self
                  rw [List.flatten_cons] at h
                  rcases Nat.lt_or_ge j c.length with hlt | hge
                  · rw [List.getElem?_append_left hlt] at h
                    have e1 : j / P.cellsOf e = 0 := Nat.div_eq_of_lt (by omega)
                    have e2 : j % P.cellsOf e = j := Nat.mod_eq_of_lt (by omega)
                    rw [e1, e2]
                    exact ⟨by simp, c, by simp, h⟩
                  · rw [List.getElem?_append_right hge] at h
                    obtain ⟨g1, c', g2, g3⟩ := ihl (j - c.length) (fun c' hc' => hc c' (List.mem_cons_of_mem _ hc')) h
                    have e1 : j / P.cellsOf e = (j - c.length) / P.cellsOf e + 1 := by
                      rw [hcl, Nat.div_eq_sub_div hpos (by omega)]
                    have e2 : j % P.cellsOf e = (j - c.length) % P.cellsOf e := by
                      rw [hcl, Nat.mod_eq_sub_mod (by omega)]
                    rw [e1, e2]
                    exact ⟨by simpa using g1, c', by simpa using g2, g3⟩
              refine gen css j (fun c hc => ?_) hju
              obtain ⟨i, hi, e⟩ := List.mem_iff_getElem.1 hc
              have h2 : css[i]? = some c := by rw [List.getElem?_eq_getElem hi, e]
              have h1 : vs[i]? = some (vs[i]'(by omega)) := List.getElem?_eq_getElem _
              exact (hz i _ c h1 h2).1
            obtain ⟨hq1, c, hq2, hq3⟩ := hq
            have h1 : vs[j / P.cellsOf e]? = some (vs[j / P.cellsOf e]'(by omega)) := List.getElem?_eq_getElem _
            have h3 := (hall _ _ c h1 hq2).1
            have h4 := (World.cells?_some h3).2.2 (j % P.cellsOf e) (Nat.mod_lt _ hpos)
            rw [hq3] at h4
            rw [add_add, Nat.mul_comm, Nat.div_add_mod] at h4
            exact h4
          have hsh := V.sh (C := .outer W (immK W)) true (P.cellsOf e) vs a cap css.flatten hj (fun v hv => by
            obtain ⟨i, cs, h1, h2⟩ := hmem v hv
            exact ⟨(hz i v cs h1 h2).2, (hall i v cs h1 h2).2.2.1⟩) hcell (fun hne => by
              have hlt : 0 < len := by
                rw [← hlen]
                cases vs with
                | nil => exact absurd rfl hne
                | cons _ _ => simp
              obtain ⟨v, cs, h1, _⟩ := hR 0 hlt
              have hb := World.cells?_block h1 hok.2
              have hab : (a.add (0 * P.cellsOf e)).block = a.block := by unfold Addr.add; split <;> rfl
              rw [hab] at hb
              exact ⟨if_pos hb, hb⟩) (by omega) hcap
          rw [hlen] at hsh
          exact .cons _ _ _ _ _ hsh (.nil _)
    · rename_i fs hu
      simp only [Bool.and_eq_true, List.all_eq_true, List.contains_iff_mem, decide_eq_true_eq] at hok
      rw [hu]
      dsimp only
      obtain ⟨xs, n, hn, _, hcl, hxl, hget⟩ := DataW.trod_struct hu h
      injection hn with hn
      subst hn
      have hR : ∀ i : Nat, i < fs.size → ∃ (v : AV) (c : List Value), ∀ f : Field, fs[i]? = some f → c = (cs.drop f.offset).take (P.cellsOf f.type) ∧ Ty P fuel f.type v ∧ (∀ c ∈ v.cells, c.one = true) ∧ Vs (.outer W (immK W)) true v.cells c := fun i hi => by
        have hf : fs[i]? = some fs[i] := Array.getElem?_eq_getElem hi
        have := hget i _ hf
        rw [List.getElem?_eq_getElem (by omega)] at this
        have hmem : fs[i].type ∈ ts := hok.1 _ (Array.mem_toList_iff.2 (Array.getElem_mem hi))
        obtain ⟨v, g1, g2, g3, _⟩ := ih _ _ _ hmem this
        refine ⟨v, (cs.drop fs[i].offset).take (P.cellsOf fs[i].type), fun f hf' => ?_⟩
        rw [hf] at hf'
        injection hf' with hf'
        subst hf'
        exact ⟨rfl, g1, g2, g3⟩
      obtain ⟨vs, css, hl1, hl2, hall⟩ := choose_list hR
      have hfl : css.flatten = cs := by
        have := (contig_flatten (cs := cs) hok.2 (by simpa using hl2) fun i f c hf hc => by
          have hf' : fs[i]? = some f := by simpa using hf
          obtain ⟨hlt, _⟩ := List.getElem?_eq_some_iff.1 hc
          have h1 : vs[i]? = some (vs[i]'(by omega)) := List.getElem?_eq_getElem _
          exact (hall i _ c h1 hc f hf').1).1
        rw [this, ← hcl]
        simp
      have hfld : ∀ (i : Nat) (v : AV) (c : List Value), vs[i]? = some v → css[i]? = some c → ∃ f, fs[i]? = some f := fun i v c h1 h2 => by
        obtain ⟨hlt, _⟩ := List.getElem?_eq_some_iff.1 h1
        exact ⟨_, Array.getElem?_eq_getElem (by omega)⟩
      have hj : Vs (.outer W (immK W)) true (vs.flatMap AV.cells) css.flatten := Vs.join (by omega) fun i v c h1 h2 => by
        obtain ⟨f, hf⟩ := hfld i v c h1 h2
        exact (hall i v c h1 h2 f hf).2.2.2
      have hone : ∀ c ∈ vs.flatMap AV.cells, c.one = true := fun c hc => by
        obtain ⟨v, hv, hcv⟩ := List.mem_flatMap.1 hc
        obtain ⟨i, hi, e⟩ := List.mem_iff_getElem.1 hv
        have h1 : vs[i]? = some v := by rw [List.getElem?_eq_getElem hi, e]
        have h2 : css[i]? = some (css[i]'(by omega)) := List.getElem?_eq_getElem _
        obtain ⟨f, hf⟩ := hfld i v _ h1 h2
        exact (hall i v _ h1 h2 f hf).2.2.1 c hcv
      rw [hfl] at hj
      refine ⟨.agg (vs.flatMap AV.cells), ⟨vs, rfl, by omega, fun i f x hf hx => ?_⟩, hone, hj, fun _ => rfl, by simp⟩
      have h2 : css[i]? = some (css[i]'(by obtain ⟨hlt, _⟩ := List.getElem?_eq_some_iff.1 hx; omega)) := List.getElem?_eq_getElem _
      obtain ⟨g0, g1, _, g3⟩ := hall i x _ hx h2 f hf
      refine ⟨g1, ?_⟩
      have hxl' := g3.length
      have hq : xs[i]? = some (xs[i]'(by obtain ⟨hlt, _⟩ := List.getElem?_eq_some_iff.1 hx; omega)) := List.getElem?_eq_getElem _
      have hfo : f.offset + P.cellsOf f.type ≤ cs.length := by
        have gen : ∀ (l : List Field) (off tot i : Nat) (f : Field), contig P off l = some tot → l[i]? = some f → f.offset + P.cellsOf f.type ≤ tot := by
          intro l
          induction l with
          | nil => intro off tot i f _ h; simp at h
          | cons a l ihl =>
            intro off tot i f hc hi
            unfold contig at hc
            split at hc
            · rename_i ho
              cases i with
              | zero =>
                simp only [List.getElem?_cons_zero, Option.some.injEq] at hi
                subst hi
                have : ∀ (l : List Field) (off tot : Nat), contig P off l = some tot → off ≤ tot := by
                  intro l
                  induction l with
                  | nil => intro off tot h; simp only [contig, Option.some.injEq] at h; omega
                  | cons b l ihb =>
                    intro off tot h
                    unfold contig at h
                    split at h
                    · have := ihb _ _ h
                      omega
                    · cases h
                have := this _ _ _ hc
                omega
              | succ i => exact ihl _ _ i f hc (by simpa using hi)
            · cases hc
        rw [hcl]
        exact gen _ _ _ i f hok.2 (by simpa using hf)
      rw [← hxl', g0]
      simp
      omega
    · rename_i m e hu
      simp only [Bool.and_eq_true, List.contains_iff_mem, decide_eq_true_eq] at hok
      rw [hu]
      dsimp only
      obtain ⟨xs, n, hn, _, hcl, hxl, hget⟩ := DataW.trod_array hu h
      injection hn with hn
      subst hn
      have hR : ∀ i, i < m → ∃ (v : AV) (c : List Value), c = (cs.drop (i * P.cellsOf e)).take (P.cellsOf e) ∧ Ty P fuel e v ∧ (∀ c ∈ v.cells, c.one = true) ∧ Vs (.outer W (immK W)) true v.cells c := fun i hi => by
        have := hget i hi
        rw [List.getElem?_eq_getElem (by omega)] at this
        obtain ⟨v, g1, g2, g3, _⟩ := ih _ _ _ hok.1 this
        exact ⟨v, _, rfl, g1, g2, g3⟩
      obtain ⟨vs, css, hl1, hl2, hall⟩ := choose_list hR
      have pr : ∀ (i : Nat) (v : AV), vs[i]? = some v → ∃ c, css[i]? = some c := fun i v h1 => by
        obtain ⟨hlt, _⟩ := List.getElem?_eq_some_iff.1 h1
        exact ⟨_, List.getElem?_eq_getElem (by omega)⟩
      have hfl : css.flatten = cs := flatten_pieces (fun i c hc => by
        obtain ⟨hlt, _⟩ := List.getElem?_eq_some_iff.1 hc
        have h1 : vs[i]? = some (vs[i]'(by omega)) := List.getElem?_eq_getElem _
        exact (hall i _ c h1 hc).1) (by rw [hl2, hcl]; exact hok.2)
      have hj : Vs (.outer W (immK W)) true (vs.flatMap AV.cells) css.flatten := Vs.join (by omega) fun i v c h1 h2 => (hall i v c h1 h2).2.2.2
      have hone : ∀ c ∈ vs.flatMap AV.cells, c.one = true := fun c hc => by
        obtain ⟨v, hv, hcv⟩ := List.mem_flatMap.1 hc
        obtain ⟨i, hi, e⟩ := List.mem_iff_getElem.1 hv
        have h1 : vs[i]? = some v := by rw [List.getElem?_eq_getElem hi, e]
        obtain ⟨c', h2⟩ := pr i v h1
        exact (hall i v _ h1 h2).2.2.1 c hcv
      rw [hfl] at hj
      refine ⟨.agg (vs.flatMap AV.cells), ⟨vs, rfl, hl1, fun v hv => ?_⟩, hone, hj, fun _ => rfl, by simp⟩
      obtain ⟨i, hi, e'⟩ := List.mem_iff_getElem.1 hv
      have h1 : vs[i]? = some v := by rw [List.getElem?_eq_getElem hi, e']
      obtain ⟨c, h2⟩ := pr i v h1
      obtain ⟨g0, g1, _, g3⟩ := hall i v c h1 h2
      refine ⟨g1, ?_⟩
      have hxl' := g3.length
      rw [← hxl', g0]
      have him : i < m := by omega
      have : i * P.cellsOf e + P.cellsOf e ≤ cs.length := by
        rw [hcl, ← hok.2]
        have := Nat.mul_le_mul_right (P.cellsOf e) (Nat.succ_le_of_lt him)
        rw [Nat.succ_mul] at this
        exact this
      simp
      omega
    · cases hok

/-- An argument. -/
theorem arg_V {ts : List TypeId} (hts : ∀ t ∈ ts, tyOk P ts t = true) {t : TypeId} (ht : t ∈ ts) {r : Reach} {base : Nat} {u : Value} {d : DataW H} {ps : List MemPlace}
    (h : DataW.Trod enc P W 0 sp hd t u d ps) (hv : Value.okWide P W r base t u) : ∃ n v, Ty P n t v ∧ V (.outer W (immK W)) true v u := by
  obtain ⟨n, hn⟩ := h
  obtain ⟨v, g1, g2, g3, g4, g5⟩ := trod_V hts n t _ _ ht hn
  refine ⟨n, v, g1, ?_⟩
  have hok := hts t ht
  cases ha : aggTy P t with
  | true =>
    have : ∃ cs, u = .agg cs := by
      unfold aggTy at ha
      unfold Value.okWide at hv
      cases hu : P.underlying t with
      | none => rw [hu] at ha; cases ha
      | some d =>
        rw [hu] at ha hv
        cases d <;> first | (cases ha; done) | (obtain ⟨cs, h, _⟩ := hv; exact ⟨cs, h⟩)
    obtain ⟨cs, rfl⟩ := this
    rw [g4 ha]
    exact .agg _ _ _ g2 g3
  | false =>
    rw [g5 ha] at g3
    cases hu : u with
    | agg cs =>
      exfalso
      subst hu
      unfold aggTy at ha
      unfold Value.okWide at hv
      unfold Cell.okWide Cell.ok at hv
      cases hq : P.underlying t with
      | none => rw [hq] at hv; exact hv
      | some d =>
        rw [hq] at ha hv
        cases d <;> first | (cases ha; done) | exact hv
    | _ =>
      subst hu
      simp only [Value.cells] at g3
      cases g3 with
      | cons _ _ _ _ _ h1 _ => exact h1

end
end Go.Den

/- DEN, part Zi: a law with arguments, from what its reading answers. -/
namespace Go.Den
open Go.RowKit Go.ChangeShapes Go.WideShapes Go.ChangeAt

section
variable {H : Type} {enc : TypeId × Value → H} {P : Program} {W : World}

theorem args_V {ts : List TypeId} (hts : ∀ t ∈ ts, tyOk P ts t = true) {r : Reach} {base : Nat} : ∀ (qs : List TypeId) (us : List Value) (ds : List (DataW H)) (ps : List MemPlace), (∀ t ∈ qs, t ∈ ts) →
    DataW.TrodAll enc P W 0 (fun _ => true) true qs us ds ps → (∀ (j : Nat) t v, qs[j]? = some t → us[j]? = some v → Value.okWide P W r base t v) →
    ds.length = qs.length ∧ ∃ vs, Vs (.outer W (immK W)) true vs us ∧ vs.length = qs.length ∧ ∀ (j : Nat) t v, qs[j]? = some t → vs[j]? = some v → ∃ n, Ty P n t v
  | [], [], [], _, _, _, _ => ⟨rfl, [], .nil _, rfl, fun j t v h => by simp at h⟩
  | t :: qs, u :: us, d :: ds, _, hq, h, hv => by
    obtain ⟨p, q, h1, h2, _⟩ := h
    obtain ⟨hl, vs, g1, g2, g3⟩ := args_V hts qs us ds q (fun t ht => hq t (List.mem_cons_of_mem _ ht)) h2 fun j t v h1 h2 => hv (j + 1) t v (by simpa using h1) (by simpa using h2)
    obtain ⟨n, v, k1, k2⟩ := arg_V hts (hq t List.mem_cons_self) h1 (hv 0 t u rfl rfl)
    refine ⟨by simp [hl], v :: vs, .cons _ _ _ _ _ k2 g1, by simp [g2], fun j t' v' hj hj' => ?_⟩
    cases j with
    | zero =>
      simp only [List.getElem?_cons_zero, Option.some.injEq] at hj hj'
      subst hj hj'
      exact ⟨n, k1⟩
    | succ j => exact g3 j t' v' (by simpa using hj) (by simpa using hj')
  | [], _ :: _, _, _, _, h, _ => by cases h
  | [], [], _ :: _, _, _, h, _ => by cases h
  | _ :: _, [], _, _, _, h, _ => by cases h
  | _ :: _, _ :: _, [], _, _, h, _ => by cases h

/-- The arguments read as they did. -/
theorem args_stay (hl : laidOutB P = true) {W' : World} (hb : Below W.heap.size W W') : ∀ (qs : List TypeId) (us : List Value) (ds : List (DataW H)) (ps : List MemPlace), (∀ t ∈ qs, P.readableRec t = true ∧ t < P.types.size) →
    DataW.TrodAll enc P W 0 (fun _ => true) true qs us ds ps → DataW.TrodAll enc P W' 0 (fun b => decide (b < W.heap.size)) true qs us ds ps
  | [], [], [], _, _, h => h
  | t :: qs, u :: us, d :: ds, _, hq, h => by
    obtain ⟨p, q, h1, h2, e⟩ := h
    have hlt : ∀ x ∈ p, x.block < W.heap.size := by
      obtain ⟨n, hn⟩ := h1
      exact DataW.trod_lt n _ _ _ hn
    exact ⟨p, q, Below.trod hl (hq t List.mem_cons_self).1 (hq t List.mem_cons_self).2 h1 hb hlt, args_stay hl hb qs us ds q (fun t ht => hq t (List.mem_cons_of_mem _ ht)) h2, e⟩
  | [], _ :: _, _, _, _, h => by cases h
  | [], [], _ :: _, _, _, h => by cases h
  | _ :: _, [], _, _, _, h => by cases h
  | _ :: _, _ :: _, [], _, _, h => by cases h
end

/-- A law, from outside. -/
theorem law_calls {E : Env} {n : Nat} (hcf : CallOK E (callF E n)) (hg : ∀ g, E.glob g = none) {f : FuncId} {W : World} {vs : List AV} {us : Array Value} (hv : Vs (.outer W (immK W)) true vs us.toList)
    (h : answer E n f vs = some (.bool true)) {fn : Func} {c : Code} (hfn : E.P.funcs[f]? = some fn) (hb : fn.body = some c) :
    Calls E.P f us W fun e w' => e = .returned (.bool true) ∧ Below W.heap.size W w' := by
  have hk : ∀ b, immK W b = .imm ∨ immK W b = .oth := fun b => by
    unfold immK
    split
    · exact .inl rfl
    · exact .inr rfl
  have hr : HR E (.outer W (immK W)) := outer_hr (fun b hb => by unfold immK; rw [if_neg (by omega)]) fun g cs hg' => by rw [hg g] at hg'; cases hg'
  have := outer_calls hcf (us := us) hr (fun b s e => by rcases hk b with h | h <;> (have e' : immK W b = .loc s := e; rw [h] at e'; cases e')) hv.weaken h
  rcases this with ⟨_, h2⟩ | ⟨u, w', h1, _⟩
  · refine Calls.mono h2 fun e w' ⟨u, he, C', hw, hv, ev, _⟩ => ?_
    subst hw
    rw [he, hv.bool_inv]
    exact ⟨rfl, ev.below hk⟩
  · exfalso
    have hpr : program.run E.P W = .ok E.P W := rfl
    unfold callFunc at h1
    simp only [Sem.run_bind, hpr, Result.andThen_ok, hfn] at h1
    split at h1
    · cases h1
    · rw [if_neg (by simp [hb])] at h1
      cases h1

theorem law_lifted {E : Env} {C : Checked} {os : Os} {f : FuncId} {fn : Func} {c : Code} {s : ChangeSpec} {conds : List PathCond} {H : Type} {enc : TypeId × Value → H} {tb : TypeId}
    (hP : E.P = C.prog) (hg : ∀ g, E.glob g = none) (hcf : ∀ n, CallOK E (callF E n))
    (own : ownKnob C.prog.godebug = none) (started : os.Started) (noInit : C.prog.inits.idxOf? f = none) (hfn : C.prog.funcs[f]? = some fn) (hb : fn.body = some c)
    (witness : ∃ (w : World) (tape : Tape) (i : Input), w.os = os ∧ (w.forCall tape i).Shaped C.prog ∧ i.vars = [] ∧ Input.okWide C.prog (w.forCall tape i) .any w.heap.size f i ∧
      s.pre6 enc C.prog fn conds false (w.forCall tape i).memory i.args ∧ ({} : Assume).holds C.prog (lone (Frame.enter C.prog f i.args .normal) [] (w.forCall tape i)))
    (hl : laidOutB C.prog = true) (hvars : s.vars = []) (hs : ∀ (H : Type) (ds : List (DataW H)), ds.length = fn.params.size → s.fn H ds = { results := [.lit (.bool true)], args := ds })
    (hres : fn.resultTypes = #[tb]) (htb : C.prog.underlying tb = some .bool)
    {ts : List TypeId} (hts : ∀ t ∈ ts, tyOk C.prog ts t = true) (hpar : ∀ t ∈ fn.params.toList, t ∈ ts ∧ C.prog.readableRec t = true ∧ t < C.prog.types.size)
    (law : ∀ vs : List AV, vs.length = fn.params.size → (∀ (j : Nat) t v, fn.params[j]? = some t → vs[j]? = some v → ∃ n, Ty C.prog n t v) → ∃ n, answer E n f vs = some (.bool true)) :
    ReturnsInHanded {} C os f .any (s.pre6 enc C.prog fn conds false) (s.post enc C.prog fn false true false false) := by
  refine returnsInHanded_of_change (C := C) own started noInit hfn witness ?_
  intro W base args ds gs before hval0 hW hcnd _
  have hW' := hW
  obtain ⟨p, q, hA0, hV, hpq, hfz, hnd⟩ := hW
  rw [hvars] at hV
  obtain ⟨rfl, rfl⟩ := trodVars_none hV
  obtain ⟨hlen, vs, h1, h2, h3⟩ := args_V hts fn.params.toList args.toList ds p (fun t ht => (hpar t ht).1) hA0 fun j t v hj hj' => hval0 j t v (by simpa using hj) (by simpa using hj')
  obtain ⟨n, hn⟩ := law vs (by simpa using h2) fun j t v hj hj' => h3 j t v (by simpa using hj) hj'
  have hc := law_calls (hcf n) hg h1 hn (by rw [hP]; exact hfn) hb
  rw [hP] at hc
  refine hc.mono fun e W' ⟨he, hbel⟩ => ?_
  subst he
  refine ⟨_, rfl, ds, [], before, [], p, [], hW', ?_, ?_, ?_, hbel.frame _, fun h => by cases h⟩
  · rw [List.append_nil, hs H ds (by simpa using hlen), hres]
    exact trodAll_cons_mk (shut_bool htb _) trodAll_mk0
  · rw [List.append_nil, hs H ds (by simpa using hlen)]
    exact args_stay hl hbel _ _ _ _ (fun t ht => (hpar t ht).2) hA0
  · rw [hvars, List.append_nil, hs H ds (by simpa using hlen)]
    rfl

end Go.Den
