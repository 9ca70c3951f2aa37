/- DEN, part S: operations, regions in the text's order. -/
import Derived.Test.YtikkpecdkdgmfaaDoorDenR
namespace Go.Den
open Go.RowKit

section
variable {E : Env} {cf : CallFn} {C C' : Ctx} {lam : Nat → Nat} {st : St} {a : Act} {o : Oper} {Q : Exit → Act → World → Prop} {q p : Bool} {site : Option Nat} {x : SV} {st' : St} {H' : Heap}

theorem bif_some {R : Type} {c : Bool} {y : Option R} {r : R} (h : (bif c then y else none) = some r) : y = some r := by
  cases c
  · cases h
  · exact h

theorem op_sound (hcn : CNat cf) (hck : CallKOK E cf) (hr : HR E C) (hf : FrameR C lam st a)
    (h : opK E cf site o st C.H (fun x s G => some (x, s, G)) = some (x, st', H')) : o.wp E.P a C.w (Post E C (stPut st' o.dst x) H') Q := by
  cases ho : o.op with
  | move y =>
    have h' := h
    unfold opK at h'
    simp only [ho] at h'
    exact move_sound hr hf h' (by unfold execOp; simp only [ho]; rfl)
  | assign y =>
    have h' := h
    unfold opK at h'
    simp only [ho] at h'
    exact move_sound hr hf h' (by unfold execOp; simp only [ho]; rfl)
  | pick c y z => exact pick_sound hr hf ho h
  | alloc t => exact alloc_sound hr hf ho h
  | box t y => exact box_sound hr hf ho h
  | build t ps => exact build_sound hr hf ho h
  | buildSlice t n ps => exact buildSlice_sound hr hf ho h
  | load t y => exact load_sound hr hf ho h
  | store t y z => exact store_sound hr hf ho h
  | nilCheck y => exact nilCheck_sound hr hf ho h
  | binOp op t y z s => exact binOp_sound hr hf ho h
  | unOp op t y => exact unOp_sound hr hf ho h
  | convert s d y => exact convert_sound hr hf ho h
  | makeInterface t y => exact makeInterface_sound hr hf ho h
  | makeFunc f ys zs => exact makeFunc_sound hr hf ho h
  | makeSlice t y z => exact makeSlice_sound hr hf ho h
  | slice t y lo hi mx => exact slice_sound hr hf ho h
  | fieldAddr s y i => exact fieldAddr_sound hr hf ho h
  | field t y i => exact field_sound hr hf ho h
  | indexAddr t y z => exact indexAddr_sound hr hf ho h
  | index t y z => exact index_sound hr hf ho h
  | range t y => exact range_sound hr hf ho h
  | next y b => exact next_sound hr hf ho h
  | typeAssert y xt t ok => exact typeAssert_sound hr hf ho h
  | extract y i => exact extract_sound hr hf ho h
  | call c => exact call_sound hcn hck hr hf ho h
  | _ =>
    unfold opK at h
    simp only [ho] at h
    cases h

/-- An operation that touches no variable of the frame's own leaves the frame. -/
theorem op_keeps' (hcn : CNat cf) (hk : ∀ s, touchOf st site o ≠ some (s, true)) {H : Heap} (h : opK E cf site o st H (fun x s G => some (x, s, G)) = some (x, st', H')) : st' = st := by
  have fin : ∀ {y : SV} {G : Heap}, (some (y, st, G) : Option (SV × St × Heap)) = some (x, st', H') → st' = st := fun h => by
    simp only [Option.some.injEq, Prod.mk.injEq] at h
    exact h.2.1.symm
  have wfin : ∀ {v : Option AV} {G : Heap}, withV v (fun v => some (SV.val v, st, G)) = some (x, st', H') → st' = st := fun h => by
    obtain ⟨v, _, h⟩ := withV_some h
    exact fin h
  have bfin : ∀ {y : Option (AV × Heap)}, y.bind (fun p => some (SV.val p.1, st, p.2)) = some (x, st', H') → st' = st := fun h => by
    simp only [Option.bind_eq_some_iff] at h
    obtain ⟨p, _, h⟩ := h
    exact fin h
  unfold opK at h
  unfold touchOf at hk
  cases ho : o.op <;> simp only [ho] at h hk
  case call c =>
    split at h
    · split at h
      · split at h
        case h_2 =>
          split at h
          · rw [callQ_nat _ _ _ (k := fun w H' => some (SV.val w, st, H')) (g := fun v G => some (v, G)) (h := fun p => some (SV.val p.1, st, p.2)) (fun _ _ => rfl)] at h
            exact bfin h
          · cases h
        split at h
        · rw [callV_nat hcn _ _ _ (k := fun w H' => some (SV.val w, st, H')) (g := fun v G => some (v, G)) (h := fun p => some (SV.val p.1, st, p.2)) (fun _ _ => rfl)] at h
          exact bfin h
        · cases h
      · rw [builtinK_nat _ _ _ _ (k := fun w H' => some (SV.val w, st, H')) (g := fun v G => some (v, G)) (h := fun p => some (SV.val p.1, st, p.2)) (fun _ _ => rfl)] at h
        exact bfin h
      · split at h
        · split at h
          · split at h
            · rename_i f ptr hfn hp
              have hh : ∀ {f : FuncId} {l : List AV}, callK E cf f l H (fun w H' => some (SV.val w, st, H')) = some (x, st', H') → st' = st := fun h => by
                rw [callK_nat hcn _ _ _ (k := fun w H' => some (SV.val w, st, H')) (g := fun v G => some (v, G)) (h := fun p => some (SV.val p.1, st, p.2)) (fun _ _ => rfl)] at h
                exact bfin h
              split at h
              · cases ptr
                · cases h
                · exact hh h
              · cases ptr
                · exact hh h
                · cases h
              · cases h
            · cases h
          · cases h
        · cases h
    · cases h
  case convert s d y =>
    split at h
    · unfold convertK at h
      split at h
      · exact fin h
      · split at h
        · exact fin h
        · split at h
          · exact fin h
          · cases h
    · cases h
  case alloc t =>
    cases site with
    | none =>
      split at h
      · exact fin (bif_some h)
      · cases h
    | some s => exact absurd rfl (hk s)
  case box t y =>
    cases site with
    | none =>
      split at h
      · exact fin (bif_some h)
      · cases h
    | some s => exact absurd rfl (hk s)
  case store t y z =>
    split at h
    · cases y with
      | tmp q =>
        dsimp only at h hk
        split at h
        · rename_i s off hw
          simp only [hw] at hk
          exact absurd rfl (hk s)
        · split at h
          · exact fin h
          · cases h
        · cases h
      | _ => cases h
    · cases h
  case next y b =>
    cases b
    · cases h
    · dsimp only at h
      split at h
      · split at h
        · split at h
          · exact fin h
          · exact fin h
        · cases h
      · cases h
  case typeAssert y xt t ok =>
    split at h
    · split at h
      · cases h
      · cases ok
        · simp only [cond_false] at h
          split at h
          · exact fin h
          · cases h
        · simp only [cond_true] at h
          split at h
          · exact fin h
          · split at h
            · exact fin h
            · cases h
    · cases h
  all_goals repeat' (first | (exact fin h) | (exact wfin h) | (cases h; done) | (exact fin (bif_some h)) | (exact wfin (bif_some h)) | (cases bif_some h; done) | (unfold convertK at h; exact wfin h) | split at h)

theorem op_keeps (hcn : CNat cf) (hk : keepsL st o = true) {H : Heap} (h : opK E cf none o st H (fun x s G => some (x, s, G)) = some (x, st', H')) : st' = st := by
  refine op_keeps' hcn (fun s e => ?_) h
  unfold touchOf at e
  unfold keepsL at hk
  cases ho : o.op <;> simp only [ho] at e hk
  case store t y z =>
    cases y with
    | tmp q =>
      dsimp only at e hk
      cases hq : st.get q <;> simp only [hq] at e hk <;> first | (cases hk; done) | (cases e; done)
    | _ => cases e
  case load t y =>
    cases y with
    | tmp q =>
      dsimp only at e
      cases hq : st.get q <;> simp [hq] at e
    | _ => cases e
  all_goals cases e

/-- An operation under a guard. -/
theorem guardOf_ok (hf : FrameR C lam st a) {ops : Array Oper} {j : Nat} {b want : Bool} (h : guardOf ops st j want = some b) : yielded ops a.tmps j = some b ∨ (b = !want ∧ yielded ops a.tmps j = none) := by
  unfold guardOf at h
  unfold yielded
  split at h
  · rename_i d hd
    split at h
    · rename_i v hv
      unfold A.asG at h
      split at h
      · simp only [Option.some.injEq] at h
        subst h
        have := (slot_val hf hv).bool_inv
        have hg : a.tmps.getD d undef = .bool _ := this
        rw [hd]
        simp only [Option.bind_some]
        rw [Array.getD_eq_getD_getElem?] at hg
        cases hx : a.tmps[d]? with
        | none => rw [hx] at hg; cases hg
        | some u =>
          rw [hx] at hg
          simp only [Option.getD_some] at hg
          rw [hg]
          exact .inl rfl
      · simp only [Option.some.injEq] at h
        subst h
        have hv2 : V C false (.tup []) (a.tmps.getD d undef) := slot_val hf hv
        rw [hd]
        simp only [Option.bind_some]
        refine .inr ⟨trivial, ?_⟩
        cases hx : a.tmps[d]? with
        | none => rfl
        | some u =>
          rw [Array.getD_eq_getD_getElem?, hx] at hv2
          simp only [Option.getD_some] at hv2
          cases hv2
          rfl
      · cases h
    · cases h
  · cases h

theorem guarded_ok (hcn : CNat cf) {H : Heap} {v : AV} {H1 : Heap} (h : guardedK E cf o st H = some (v, H1)) : opK E cf none o st H (fun x s G => some (x, s, G)) = some (.val v, st, H1) := by
  unfold guardedK at h
  have h2 := bif_some (c := keepsL st o) (y := _) (r := (v, H1)) h
  have hk : keepsL st o = true := by
    cases hk : keepsL st o
    · rw [hk] at h; cases h
    · rfl
  rw [opK_nat hcn] at h2
  simp only [Option.bind_eq_some_iff] at h2
  obtain ⟨⟨x, s, G⟩, h3, h4⟩ := h2
  have := op_keeps hcn hk h3
  subst this
  cases x with
  | val w =>
    simp only [Option.some.injEq, Prod.mk.injEq] at h4
    obtain ⟨rfl, rfl⟩ := h4
    exact h3
  | _ => cases h4

theorem Post.trans {C1 : Ctx} {st1 : St} {H1 : Heap} {a1 : Act} {w1 : World} (ev : Ev C C1) (h : Post E C1 st1 H1 a1 w1) : Post E C st1 H1 a1 w1 := by
  obtain ⟨C2, lam2, h1, h2, h3, h4, h5⟩ := h
  exact ⟨C2, lam2, h1, h2, h3, ev.trans h4, h5⟩

theorem wanted_none {ops : Array Oper} (hg : o.guard = none) : Region.wanted o (yielded ops a.tmps) = true := by
  simp [Region.wanted, hg]
theorem wanted_some {ops : Array Oper} {j : Nat} {b want : Bool} (hf : FrameR C lam st a) (hg : o.guard = some (j, want)) (h : guardOf ops st j want = some b) : Region.wanted o (yielded ops a.tmps) = (b == want) := by
  rcases guardOf_ok hf h with h1 | ⟨rfl, h1⟩
  · simp [Region.wanted, hg, h1]
  · cases want <;> simp [Region.wanted, hg, h1]

/-- The operations of a region whose order is the text's. -/
theorem opsK_sound (hcn : CNat cf) (hck : CallKOK E cf) (sites : List (Nat × Nat × Nat)) (rid : Nat) (ops : Array Oper) : ∀ (l : List Oper) (i : Nat) (st : St) (C : Ctx) (lam : Nat → Nat) (a : Act),
    opsK E cf sites rid ops l i st C.H (fun s G => some (s, G)) = some (st', H') → HR E C → FrameR C lam st a → (∀ a' w', Post E C st' H' a' w' → Q .normal a' w') → wpList E.P ops Q l a C.w := by
  intro l
  induction l with
  | nil =>
    intro i st C lam a h hr hf hq
    simp only [opsK, Option.some.injEq, Prod.mk.injEq] at h
    obtain ⟨rfl, rfl⟩ := h
    exact hq _ _ ⟨C, lam, rfl, rfl, hr, Ev.refl C, hf⟩
  | cons o l ih =>
    intro i st C lam a h hr hf hq
    unfold opsK at h
    have go : ∀ {x : SV} {st1 : St} {H1 : Heap}, opsK E cf sites rid ops l (i + 1) (stPut st1 o.dst x) H1 (fun s G => some (s, G)) = some (st', H') →
        ∀ a1 w1, Post E C (stPut st1 o.dst x) H1 a1 w1 → wpList E.P ops Q l a1 w1 := fun {x st1 H1} h a1 w1 hp => by
      obtain ⟨C1, lam1, rfl, rfl, h3, h4, h5⟩ := hp
      exact ih _ _ C1 lam1 a1 h h3 h5 fun a' w' hp' => hq a' w' (hp'.trans h4)
    split at h
    · rename_i hg
      rw [opK_nat hcn] at h
      simp only [Option.bind_eq_some_iff] at h
      obtain ⟨⟨x, st1, H1⟩, h1, h2⟩ := h
      unfold wpList
      rw [if_pos (wanted_none hg)]
      exact .inl (Oper.wp_mono (go h2) (op_sound hcn hck hr hf h1))
    · rename_i j want hg
      split at h
      · rename_i b hb
        have hw := wanted_some hf hg hb
        split at h
        · rename_i p hp
          unfold guarded at hp
          unfold wpList
          rw [hw]
          cases hbw : (b == want)
          · rw [hbw] at hp
            simp only [cond_false, Option.some.injEq] at hp
            subst hp
            rw [if_neg (by simp)]
            exact go h _ _ ⟨C, lam, rfl, rfl, hr, Ev.refl C, hf.put (x := .val (.tup [])) (.tup _ [] #[] (.nil _))⟩
          · rw [hbw] at hp
            simp only [cond_true] at hp
            rw [if_pos rfl]
            exact .inl (Oper.wp_mono (go h) (op_sound hcn hck hr hf (guarded_ok hcn hp)))
        · cases h
      · cases h

end
end Go.Den
