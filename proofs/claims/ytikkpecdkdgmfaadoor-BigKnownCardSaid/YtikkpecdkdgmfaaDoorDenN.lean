/- DEN, part N: calls and the frame's own variables. -/
import Derived.Test.YtikkpecdkdgmfaaDoorDenM
namespace Go.Den
open Go.RowKit

def Ctx.noLoc (C : Ctx) : Prop := ∀ b s, C.κ b ≠ .loc s

/-- The frame's own variables are put out of sight. -/
def Ctx.strip (C : Ctx) : Ctx := { C with κ := fun b => match C.κ b with | .loc _ => .oth | x => x }
/-- .. and are seen again. -/
def Ctx.back (C C' : Ctx) : Ctx := { C' with κ := fun b => match C.κ b with | .loc s => .loc s | _ => C'.κ b }

section
variable {E : Env} {C C' : Ctx} {b : Nat}

theorem strip_of {b : Nat} {r : Role} (h : C.κ b = r) (hr : ∀ s, r ≠ .loc s) : C.strip.κ b = r := by
  show (match C.κ b with | .loc _ => Role.oth | x => x) = r
  rw [h]
  cases r <;> first | rfl | exact absurd rfl (hr _)
theorem strip_loc {b s : Nat} (h : C.κ b = .loc s) : C.strip.κ b = .oth := by
  show (match C.κ b with | .loc _ => Role.oth | x => x) = .oth
  rw [h]
theorem strip_noLoc : C.strip.noLoc := fun b s => by
  show (match C.κ b with | .loc _ => Role.oth | x => x) ≠ .loc s
  cases C.κ b <;> simp
theorem strip_evV : EvV C C.strip :=
  ⟨Nat.le_refl _, fun b _ h => ⟨rfl, strip_of h (by simp)⟩, Nat.le_refl _, fun id _ v' sz' ty' es' h => ⟨v', es', h, Nat.le_refl _, fun _ => ⟨rfl, fun cells t fr h => ⟨cells, t, fr, h, rfl⟩⟩⟩,
    fun _ _ l pos h => ⟨⟨l, pos, h⟩, rfl⟩, fun _ _ k e es h => ⟨⟨k, e, es, h⟩, rfl⟩⟩

theorem HR.evV (hr : HR E C) (ev : EvV C C') (hH : C'.H = C.H) (hw : C'.w = C.w) (hρ : C'.ρ = C.ρ) (hκ : ∀ b id, C.κ b = .obj id → C'.κ b = .obj id) (hn : ∀ b, C.κ b = .oth → C'.w.heap.size ≤ b → C'.κ b = .oth) : HR E C' := by
  refine ⟨fun id v sz ty es h => ?_, fun id l pos h => ?_, fun b hb => ?_, fun g cs h => (hr.glob g cs h).evV ev, fun id v sz ty es h => by rw [hρ]; exact hr.al id v sz ty es (hH ▸ h)⟩
  · rw [hH] at h
    obtain ⟨g0, g1, g2, cur, fr, us, g3, g4, g5, g6⟩ := hr.row id v sz ty es h
    exact ⟨g0, g1, by rw [hρ]; exact hκ _ _ g2, cur, fr, us, by rw [hρ, hw]; exact g3, g4, g5.evV ev, by rw [hρ]; exact g6⟩
  · rw [hH] at h
    obtain ⟨g0, s, g1, g2⟩ := hr.iter id l pos h
    exact ⟨by rw [hρ]; exact hκ _ _ g0, s, g1, by rw [hρ, hw]; exact g2⟩
  · exact hn b (hr.new b (by rw [← hw]; exact hb)) hb

theorem strip_hr (hr : HR E C) : HR E C.strip :=
  hr.evV strip_evV rfl rfl rfl (fun b id h => strip_of h (by simp)) (fun b h _ => strip_of h (by simp))

theorem back_evV (hr : HR E C) (h : Ev C.strip C') : EvV C' (C.back C') :=
  ⟨Nat.le_refl _, fun b _ hi => ⟨rfl, by
    show (match C.κ b with | .loc s => Role.loc s | _ => C'.κ b) = .imm
    cases hc : C.κ b with
    | loc s =>
      exfalso
      have hb : b < C.w.heap.size := by
        rcases Nat.lt_or_ge b C.w.heap.size with h1 | h1
        · exact h1
        · rw [hr.new b h1] at hc; cases hc
      have := (h.keep b hb (.inr (strip_loc hc))).2
      rw [hi, strip_loc hc] at this
      cases this
    | _ => exact hi⟩, Nat.le_refl _, fun id _ v' sz' ty' es' h => ⟨v', es', h, Nat.le_refl _, fun _ => ⟨rfl, fun cells t fr h => ⟨cells, t, fr, h, rfl⟩⟩⟩,
    fun _ _ l pos h => ⟨⟨l, pos, h⟩, rfl⟩, fun _ _ k e es h => ⟨⟨k, e, es, h⟩, rfl⟩⟩

theorem back_of (h : ∀ s, C.κ b ≠ .loc s) : (C.back C').κ b = C'.κ b := by
  show (match C.κ b with | .loc s => Role.loc s | _ => C'.κ b) = C'.κ b
  cases hc : C.κ b with
  | loc s => exact absurd hc (h s)
  | _ => rfl
theorem back_loc {s : Nat} (h : C.κ b = .loc s) : (C.back C').κ b = .loc s := by
  show (match C.κ b with | .loc s => Role.loc s | _ => C'.κ b) = .loc s
  rw [h]

theorem loc_lt (hr : HR E C) {b s : Nat} (h : C.κ b = .loc s) : b < C.w.heap.size := by
  rcases Nat.lt_or_ge b C.w.heap.size with h1 | h1
  · exact h1
  · rw [hr.new b h1] at h; cases h

theorem back_ok (hr : HR E C) (hr' : HR E C') (h : Ev C.strip C') : EvL C (C.back C') ∧ HR E (C.back C') := by
  have hloc : ∀ b s, C.κ b = .loc s → C'.κ b = .oth ∧ C'.w.heap[b]? = C.w.heap[b]? := fun b s hb => by
    have := h.keep b (loc_lt hr hb) (.inr (strip_loc hb))
    exact ⟨this.2.trans (strip_loc hb), this.1⟩
  have hobj : ∀ b id, C'.κ b = .obj id → ∀ s, C.κ b ≠ .loc s := fun b id h1 s h2 => by
    rw [(hloc b s h2).1] at h1
    cases h1
  refine ⟨⟨⟨h.os, h.tape, h.output, h.size, ?_, h.hlen, h.rows, h.iters, h.maps⟩, ?_⟩, ?_⟩
  · intro b hb hk
    have hn : ∀ s, C.κ b ≠ .loc s := fun s e => by rcases hk with hk | hk <;> rw [hk] at e <;> cases e
    have hs : C.strip.κ b = C.κ b := strip_of rfl hn
    obtain ⟨h1, h2⟩ := h.keep b hb (by rw [hs]; exact hk)
    exact ⟨h1, (back_of hn).trans (h2.trans hs)⟩
  · intro b hb s hs
    exact ⟨(hloc b s hs).2, back_loc hs⟩
  · refine hr'.evV (back_evV hr h) rfl rfl rfl (fun b id hb => (back_of (hobj b id hb)).trans hb) fun b ho hb => ?_
    exact (back_of (fun s e => by
      have := loc_lt hr e
      have h2 : C.w.heap.size ≤ C'.w.heap.size := h.size
      have h3 : (C.back C').w.heap.size = C'.w.heap.size := rfl
      omega)).trans ho

/-- What a function's call comes to. -/
def Lands (P : Program) (f : FuncId) (us : Array Value) (w : World) (R : Value → World → Prop) : Prop :=
  ((callFunc f us).run P w = .ok (.enter f us) w ∧ Calls P f us w fun e w' => ∃ u, e = .returned u ∧ R u w') ∨ ∃ u w', (callFunc f us).run P w = .ok (.value u) w' ∧ R u w'

theorem Lands.mono {P : Program} {f : FuncId} {us : Array Value} {w : World} {R R' : Value → World → Prop} (h : Lands P f us w R) (hr : ∀ u w, R u w → R' u w) : Lands P f us w R' := by
  rcases h with ⟨h1, h2⟩ | ⟨u, w', h1, h2⟩
  · exact .inl ⟨h1, Calls.mono h2 fun e w' ⟨u, h3, h4⟩ => ⟨u, h3, hr _ _ h4⟩⟩
  · exact .inr ⟨u, w', h1, hr _ _ h2⟩

def Gives (E : Env) (C : Ctx) (v : AV) (H' : Heap) (u : Value) (w' : World) : Prop :=
  ∃ C' : Ctx, C'.w = w' ∧ C'.H = H' ∧ V C' false v u ∧ HR E C' ∧ Ev C C' ∧ C'.noLoc

def GivesL (E : Env) (C : Ctx) (v : AV) (H' : Heap) (u : Value) (w' : World) : Prop :=
  ∃ C' : Ctx, C'.w = w' ∧ C'.H = H' ∧ V C' false v u ∧ HR E C' ∧ EvL C C'

/-- Calls do what is said of them. -/
def CallOK (E : Env) (cf : CallFn) : Prop :=
  ∀ (f : FuncId) (args : List AV) (C : Ctx) (us : Array Value) (v : AV) (H' : Heap), cf (AV × Heap) f args C.H (fun v G => some (v, G)) = some (v, H') → HR E C → C.noLoc → Vs C false args us.toList →
    Lands E.P f us C.w (Gives E C v H')

def CallKOK (E : Env) (cf : CallFn) : Prop :=
  ∀ (f : FuncId) (args : List AV) (C : Ctx) (us : Array Value) (v : AV) (H' : Heap), callK E cf f args C.H (fun v G => some (v, G)) = some (v, H') → HR E C → Vs C false args us.toList →
    Lands E.P f us C.w (GivesL E C v H')

theorem gives_back (hr : HR E C) {v : AV} {H' : Heap} {u : Value} {w' : World} (h : Gives E C.strip v H' u w') : GivesL E C v H' u w' := by
  obtain ⟨C', h1, h2, h3, h4, h5, h6⟩ := h
  obtain ⟨g1, g2⟩ := back_ok hr h4 h5
  exact ⟨C.back C', h1, h2, h3.evV (back_evV hr h5), g2, g1⟩

/-- What an operation leaves. -/
def Post (E : Env) (C : Ctx) (st' : St) (H' : Heap) (a' : Act) (w' : World) : Prop :=
  ∃ C' lam', C'.w = w' ∧ C'.H = H' ∧ HR E C' ∧ Ev C C' ∧ FrameR C' lam' st' a'

variable {lam : Nat → Nat} {st : St} {a : Act} {o : Oper} {Q : Exit → Act → World → Prop}

theorem value_wp {u : Value} {v : AV} (hf : FrameR C lam st a) (hrun : (execOp a.eval o).run E.P C.w = .ok (.value u) C'.w) (ev : EvL C C') (hr' : HR E C') (hv : V C' false v u) :
    o.wp E.P a C.w (Post E C (stPut st o.dst (.val v)) C'.H) Q := by
  unfold Oper.wp
  rw [hrun]
  exact ⟨C', lam, rfl, rfl, hr', ev.ev, (hf.ev ev).put hv⟩

theorem skip_wp (hf : FrameR C lam st a) (hrun : (execOp a.eval o).run E.P C.w = .ok .skip C'.w) (ev : EvL C C') (hr' : HR E C') :
    o.wp E.P a C.w (Post E C (stPut st o.dst (.val .undef)) C'.H) Q := by
  unfold Oper.wp
  rw [hrun]
  exact ⟨C', lam, rfl, rfl, hr', ev.ev, (hf.ev ev).put (.undef _)⟩

theorem lp_wp {s off : Nat} (hr : HR E C) (hf : FrameR C lam st a) (hrun : (execOp a.eval o).run E.P C.w = .ok (.value (.pointer (some ⟨lam s, off, none⟩))) C.w) (hs : st.var s ≠ none) :
    o.wp E.P a C.w (Post E C (stPut st o.dst (.lp s off)) C.H) Q := by
  unfold Oper.wp
  rw [hrun]
  exact ⟨C, lam, rfl, rfl, hr, Ev.refl C, hf.put ⟨rfl, hs⟩⟩

theorem lands_wp {f : FuncId} {us : Array Value} {v : AV} {H' : Heap} (hf : FrameR C lam st a) (hrun : (execOp a.eval o).run E.P C.w = (callFunc f us).run E.P C.w) (h : Lands E.P f us C.w (GivesL E C v H')) :
    o.wp E.P a C.w (Post E C (stPut st o.dst (.val v)) H') Q := by
  unfold Oper.wp
  rw [hrun]
  rcases h with ⟨h1, h2⟩ | ⟨u, w', h1, C', rfl, rfl, h4, h5, h6⟩
  · rw [h1]
    refine Calls.mono h2 fun e w' h3 => ?_
    obtain ⟨u, rfl, C', rfl, rfl, h4, h5, h6⟩ := h3
    exact ⟨C', lam, rfl, rfl, h5, h6.ev, (hf.ev h6).put h4⟩
  · rw [h1]
    exact ⟨C', lam, rfl, rfl, h5, h6.ev, (hf.ev h6).put h4⟩

end
end Go.Den
