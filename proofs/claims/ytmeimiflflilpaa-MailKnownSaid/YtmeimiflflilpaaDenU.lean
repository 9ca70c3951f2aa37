/- DEN, part U: control. -/
import Derived.Test.YtmeimiflflilpaaDenS
import Derived.Scope
import Derived.LoopN
namespace Go.Den
open Go.RowKit

def AExit.to : AExit → Exit
  | .normal => .normal
  | .exit id => .exit id
  | .ret => .ret

/-- What stands of regions whose order is open. -/
def DrawOK (E : Env) (cf : CallFn) (fa : FAnn) (ok : Nat → Array Oper → DInfo → Bool) : Prop :=
  ∀ (rid : Nat) (ops : Array Oper) (d : DInfo) (st : St) (C : Ctx) (lam : Nat → Nat) (a : Act) (st' : St) (H' : Heap) (Q : Exit → Act → World → Prop), ok rid ops d = true →
    opsD E cf fa.sites d rid ops C.H ops.toList 0 [] st C.H (fun s G => some (s, G)) = some (st', H') → HR E C → FrameR C lam st a → (∀ a' w', Post E C st' H' a' w' → Q .normal a' w') →
      (Code.region rid ops true).wp E.P Q a C.w

/-- The regions whose order is open, of which something is said, are well described. -/
def codeOk (draws : List (Nat × DInfo)) (ok : Nat → Array Oper → DInfo → Bool) : Code → Bool
  | .region rid ops draw => bif draw then (match drawOf rid draws with | some d => ok rid ops d | none => true) else true
  | .seq a b => codeOk draws ok a && codeOk draws ok b
  | .cond _ a b => codeOk draws ok a && codeOk draws ok b
  | .block _ c => codeOk draws ok c
  | .loop c => codeOk draws ok c
  | .scope c => codeOk draws ok c
  | _ => true

section
variable {E : Env} {cf : CallFn} {C C' : Ctx} {lam : Nat → Nat} {st : St} {a : Act} {Q : Exit → Act → World → Prop} {st' : St} {H' : Heap}

theorem keep_var {d : Nat} {k : Keep} {s : Nat} {cs : List AV} (h : (st.keep d k).var s = some cs) : st.var s = some cs := by
  have h' : Tr.get none (Tr.mk none d (k.sites.map fun i => (i, st.var i))) s = some cs := h
  rcases Tr.get_mk (z := (none : Option (List AV))) (d := d) (k.sites.map fun i => (i, st.var i)) s with h1 | h1
  · rw [h1] at h'; cases h'
  · rw [h'] at h1
    obtain ⟨i, _, e⟩ := List.mem_map.1 h1
    injection e with e1 e2
    subst e1
    exact e2

theorem keep_ok (hf : FrameR C lam st a) (d : Nat) (k : Keep) : FrameR C lam (st.keep d k) a := by
  refine ⟨hf.size, hf.defers, fun t => ?_, fun s cs hs => hf.vars s cs (keep_var hs)⟩
  have ht := hf.slots t
  unfold SlotOk at ht ⊢
  rcases Tr.get_mk (z := SV.no) (d := d) (k.slots.map fun i => (i, (st.get i).kept (st.keepL d k))) t with h1 | h1
  · have : (st.keep d k).get t = .no := h1
    rw [this]
    trivial
  · obtain ⟨i, _, e⟩ := List.mem_map.1 h1
    injection e with e1 e2
    subst e1
    have : (st.keep d k).get i = (st.get i).kept (st.keepL d k) := e2.symm
    rw [this]
    cases hx : st.get i with
    | val v => rw [hx] at ht; exact ht
    | no => trivial
    | lp s off =>
      rw [hx] at ht
      unfold SV.kept
      dsimp only
      cases hv : (st.keepL d k).get none s with
      | none => trivial
      | some cs =>
        refine ⟨ht.1, ?_⟩
        show (st.keepL d k).get none s ≠ none
        rw [hv]
        simp

theorem wrapK_some {an : Ann} {e e' : AExit} {s : St} {G : Heap} (h : wrapK an (fun e s G => some (e, s, G)) e s G = some (e', st', H')) :
    e' = e ∧ H' = G ∧ ∀ C lam a, FrameR C lam s a → FrameR C lam st' a := by
  unfold wrapK at h
  split at h
  · simp only [Option.some.injEq, Prod.mk.injEq] at h
    obtain ⟨rfl, rfl, rfl⟩ := h
    exact ⟨rfl, rfl, fun C lam a hf => keep_ok hf _ _⟩
  · simp only [Option.some.injEq, Prod.mk.injEq] at h
    obtain ⟨rfl, rfl, rfl⟩ := h
    exact ⟨rfl, rfl, fun C lam a hf => hf⟩

theorem Post.keep {s : St} {G : Heap} {a1 : Act} {w1 : World} (hk : ∀ C lam a, FrameR C lam s a → FrameR C lam st' a) (h : Post E C s G a1 w1) : Post E C st' G a1 w1 := by
  obtain ⟨C2, lam2, h1, h2, h3, h4, h5⟩ := h
  exact ⟨C2, lam2, h1, h2, h3, h4, hk _ _ _ h5⟩

/-- What goes on is told apart from what was done. -/
theorem exec_nat (hcn : CNat cf) {R : Type} (n : Nat) (fa : FAnn) (c : Code) (an : Ann) (st : St) (H : Heap) (k : AExit → St → Heap → Option R) :
    exec E cf n fa c an st H k = (exec E cf n fa c an st H fun e s G => some (e, s, G)).bind fun p => k p.1 p.2.1 p.2.2 :=
  exec_to hcn n fa c an st H fun _ _ _ => rfl

theorem exec_split (hcn : CNat cf) {R : Type} {n : Nat} {fa : FAnn} {c : Code} {an : Ann} {st : St} {H : Heap} {k : AExit → St → Heap → Option R} {r : R} (h : exec E cf n fa c an st H k = some r) :
    ∃ e s G, exec E cf n fa c an st H (fun e s G => some (e, s, G)) = some (e, s, G) ∧ k e s G = some r := by
  rw [exec_nat hcn] at h
  simp only [Option.bind_eq_some_iff] at h
  obtain ⟨⟨e, s, G⟩, h1, h2⟩ := h
  exact ⟨e, s, G, h1, h2⟩

theorem exec_sound (hcn : CNat cf) (hck : CallKOK E cf) (n : Nat) (fa : FAnn) {ok : Nat → Array Oper → DInfo → Bool} (hD : DrawOK E cf fa ok) :
    ∀ (c : Code) (an : Ann) (st : St) (C : Ctx) (lam : Nat → Nat) (a : Act) (Q : Exit → Act → World → Prop) (e : AExit) (st' : St) (H' : Heap), codeOk fa.draws ok c = true →
      exec E cf n fa c an st C.H (fun e s G => some (e, s, G)) = some (e, st', H') → HR E C → FrameR C lam st a → (∀ a' w', Post E C st' H' a' w' → Q e.to a' w') → c.wp E.P Q a C.w := by
  intro c
  induction c with
  | skip =>
    intro an st C lam a Q e st' H' hok h hr hf hq
    obtain ⟨rfl, rfl, hk⟩ := wrapK_some h
    exact wp_skip (hq _ _ ⟨C, lam, rfl, rfl, hr, Ev.refl C, hk _ _ _ hf⟩)
  | label l =>
    intro an st C lam a Q e st' H' hok h hr hf hq
    obtain ⟨rfl, rfl, hk⟩ := wrapK_some h
    exact wp_label (hq _ _ ⟨C, lam, rfl, rfl, hr, Ev.refl C, hk _ _ _ hf⟩)
  | exit id =>
    intro an st C lam a Q e st' H' hok h hr hf hq
    obtain ⟨rfl, rfl, hk⟩ := wrapK_some h
    exact wp_exit (hq _ _ ⟨C, lam, rfl, rfl, hr, Ev.refl C, hk _ _ _ hf⟩)
  | ret =>
    intro an st C lam a Q e st' H' hok h hr hf hq
    obtain ⟨rfl, rfl, hk⟩ := wrapK_some h
    exact wp_ret (hq _ _ ⟨C, lam, rfl, rfl, hr, Ev.refl C, hk _ _ _ hf⟩)
  | region rid ops draw =>
    intro an st C lam a Q e st' H' hok h hr hf hq
    unfold exec at h
    cases draw
    · simp only [cond_false] at h
      rw [opsK_to hcn _ _ _ _ _ _ _ (k := wrapK an (fun e s G => some (e, s, G)) .normal) (g := fun s G => some (s, G)) (h := fun p => wrapK an (fun e s G => some (e, s, G)) .normal p.1 p.2) (fun _ _ => rfl)] at h
      simp only [Option.bind_eq_some_iff] at h
      obtain ⟨⟨s1, H1⟩, h1, h2⟩ := h
      obtain ⟨rfl, rfl, hk⟩ := wrapK_some h2
      exact wp_region_list (opsK_sound hcn hck _ _ _ _ _ _ C lam a h1 hr hf fun a' w' hp => hq a' w' (hp.keep hk))
    · simp only [cond_true] at h
      unfold codeOk at hok
      simp only [cond_true] at hok
      split at h
      · rename_i d hd
        rw [hd] at hok
        rw [opsD_to hcn _ _ _ _ _ _ _ _ _ _ (k := wrapK an (fun e s G => some (e, s, G)) .normal) (g := fun s G => some (s, G)) (h := fun p => wrapK an (fun e s G => some (e, s, G)) .normal p.1 p.2) (fun _ _ => rfl)] at h
        simp only [Option.bind_eq_some_iff] at h
        obtain ⟨⟨s1, H1⟩, h1, h2⟩ := h
        obtain ⟨rfl, rfl, hk⟩ := wrapK_some h2
        exact hD rid ops d st C lam a _ _ Q hok h1 hr hf fun a' w' hp => hq a' w' (hp.keep hk)
      · cases h
  | seq x y ihx ihy =>
    intro an st C lam a Q e st' H' hok h hr hf hq
    unfold exec at h
    unfold codeOk at hok
    simp only [Bool.and_eq_true] at hok
    obtain ⟨e1, s1, H1, h1, h2⟩ := exec_split hcn h
    refine wp_seq (ihx _ _ C lam a _ e1 s1 H1 hok.1 h1 hr hf fun a' w' hp => ?_)
    cases e1 with
    | normal =>
      obtain ⟨e2, s2, H2, h3, h4⟩ := exec_split hcn h2
      obtain ⟨rfl, rfl, hk⟩ := wrapK_some h4
      obtain ⟨C1, lam1, rfl, rfl, g3, g4, g5⟩ := hp
      exact ihy _ _ C1 lam1 a' Q _ _ _ hok.2 h3 g3 g5 fun a2 w2 hp2 => hq a2 w2 ((hp2.keep hk).trans g4)
    | exit id =>
      obtain ⟨rfl, rfl, hk⟩ := wrapK_some h2
      exact hq a' w' (hp.keep hk)
    | ret =>
      obtain ⟨rfl, rfl, hk⟩ := wrapK_some h2
      exact hq a' w' (hp.keep hk)
  | cond c x y ihx ihy =>
    intro an st C lam a Q e st' H' hok h hr hf hq
    unfold exec at h
    unfold codeOk at hok
    simp only [Bool.and_eq_true] at hok
    split at h
    · rename_i v hv
      unfold A.test at h
      split at h
      · rename_i b
        have hb := (eval_ok hr hf hv).bool_inv
        refine wp_cond hb ?_
        cases b
        · simp only [cond_false] at h
          obtain ⟨e2, s2, H2, h3, h4⟩ := exec_split hcn h
          obtain ⟨rfl, rfl, hk⟩ := wrapK_some h4
          exact ihy _ _ C lam a Q _ _ _ hok.2 h3 hr hf fun a2 w2 hp2 => hq a2 w2 (hp2.keep hk)
        · simp only [cond_true] at h
          obtain ⟨e2, s2, H2, h3, h4⟩ := exec_split hcn h
          obtain ⟨rfl, rfl, hk⟩ := wrapK_some h4
          exact ihx _ _ C lam a Q _ _ _ hok.1 h3 hr hf fun a2 w2 hp2 => hq a2 w2 (hp2.keep hk)
      · cases h
    · cases h
  | block id c ih =>
    intro an st C lam a Q e st' H' hok h hr hf hq
    unfold exec at h
    unfold codeOk at hok
    obtain ⟨e1, s1, H1, h1, h2⟩ := exec_split hcn h
    refine wp_block (ih _ _ C lam a _ e1 s1 H1 hok h1 hr hf fun a' w' hp => ?_)
    cases e1 with
    | normal =>
      obtain ⟨rfl, rfl, hk⟩ := wrapK_some h2
      exact hq a' w' (hp.keep hk)
    | exit j =>
      dsimp only at h2
      cases hj : Nat.beq j id
      · rw [hj] at h2
        simp only [cond_false] at h2
        obtain ⟨rfl, rfl, hk⟩ := wrapK_some h2
        show (if j = id then _ else _)
        rw [if_neg (by intro e; subst e; simp at hj)]
        exact hq a' w' (hp.keep hk)
      · rw [hj] at h2
        simp only [cond_true] at h2
        obtain ⟨rfl, rfl, hk⟩ := wrapK_some h2
        show (if j = id then _ else _)
        rw [if_pos (Nat.eq_of_beq_eq_true hj)]
        exact hq a' w' (hp.keep hk)
    | ret =>
      obtain ⟨rfl, rfl, hk⟩ := wrapK_some h2
      exact hq a' w' (hp.keep hk)
  | loop c ih =>
    intro an st C lam a Q e st' H' hok h hr hf hq
    unfold exec at h
    unfold codeOk at hok
    have key : ∀ (b : Ann) (kp : St → St), (∀ C lam st a, FrameR C lam st a → FrameR C lam (kp st) a) → ∀ (m : Nat) (st : St) (C : Ctx) (lam : Nat → Nat) (a : Act),
        iter (fun st H rec => exec E cf n fa c b st H fun e st H => match e with
          | .normal => rec (kp st) H
          | .exit j => wrapK an (fun e s G => some (e, s, G)) (.exit j) st H
          | .ret => wrapK an (fun e s G => some (e, s, G)) .ret st H) m st C.H = some (e, st', H') → HR E C → FrameR C lam st a → (∀ a' w', Post E C st' H' a' w' → Q e.to a' w') → Code.rounds E.P c Q m a C.w := by
      intro b kp hkp m
      induction m with
      | zero => intro st C lam a h hr hf hq; cases h
      | succ m ihm =>
        intro st C lam a h hr hf hq
        unfold iter at h
        obtain ⟨e1, s1, H1, h1, h2⟩ := exec_split hcn h
        refine ih b st C lam a _ e1 s1 H1 hok h1 hr hf fun a' w' hp => ?_
        cases e1 with
        | normal =>
          obtain ⟨C1, lam1, rfl, rfl, g3, g4, g5⟩ := hp
          exact ihm _ C1 lam1 a' h2 g3 (hkp _ _ _ _ g5) fun a2 w2 hp2 => hq a2 w2 (hp2.trans g4)
        | exit j =>
          obtain ⟨rfl, rfl, hk⟩ := wrapK_some h2
          exact hq a' w' (hp.keep hk)
        | ret =>
          obtain ⟨rfl, rfl, hk⟩ := wrapK_some h2
          exact hq a' w' (hp.keep hk)
    split at h
    · rename_i d kp b hb
      exact wp_loop_rounds n (key b (fun s => s.keep d kp) (fun _ _ _ _ hf => keep_ok hf _ _) n _ C lam a h hr (keep_ok hf _ _) hq)
    · exact wp_loop_rounds n (key _ (fun s => s) (fun _ _ _ _ hf => hf) n _ C lam a h hr hf hq)
  | scope c ih =>
    intro an st C lam a Q e st' H' hok h hr hf hq
    unfold exec at h
    unfold codeOk at hok
    obtain ⟨e1, s1, H1, h1, h2⟩ := exec_split hcn h
    obtain ⟨rfl, rfl, hk⟩ := wrapK_some h2
    refine wp_scope_straight (ih _ _ C lam a _ _ s1 _ hok h1 hr hf fun a' w' hp => ?_)
    cases e <;> exact hq a' w' (hp.keep hk)
  | rangeFunc _ _ _ _ _ _ => intro an st C lam a Q e st' H' hok h; cases h
  | goto _ => intro an st C lam a Q e st' H' hok h; cases h
  | refuse _ => intro an st C lam a Q e st' H' hok h; cases h

end
end Go.Den
