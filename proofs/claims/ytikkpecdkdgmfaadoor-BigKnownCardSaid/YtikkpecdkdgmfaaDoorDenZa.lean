/- DEN, part Za: regions whose order is open (on): one operation, in whatever order. -/
import Derived.Test.YtikkpecdkdgmfaaDoorDenZ
namespace Go.Den
open Go.RowKit

section
variable {E : Env} {cf : CallFn} {sites : List (Nat × Nat × Nat)} {rid : Nat} {ops : Array Oper} {d : DInfo} {st' : St} {H' : Heap} {i : Nat} {o : Oper} {r : Rec}

theorem siteAt_none (hg : o.guard = none) : siteAt sites rid i o = siteOf sites rid i := by unfold siteAt; rw [hg]
theorem siteAt_some {j : Nat} {w : Bool} (hg : o.guard = some (j, w)) : siteAt sites rid i o = none := by unfold siteAt; rw [hg]

/-- The frame behind an operation, in the text's order and in another one. -/
inductive Eff2 (o : Oper) (site : Option Nat) (st0 st1 sa sa1 : St) : Prop
  | none (e : st1 = st0) (e2 : sa1 = sa)
  | set (s : Nat) (cs : List AV) (h : touchOf st0 site o = some (s, true)) (e : st1 = st0.setVar s cs) (e2 : sa1 = sa.setVar s cs)

theorem touch_dec (st : St) (site : Option Nat) (o : Oper) : (∃ s, touchOf st site o = some (s, true)) ∨ ∀ s, touchOf st site o ≠ some (s, true) := by
  cases h : touchOf st site o with
  | none => exact .inr (fun s e => by cases e)
  | some p =>
    obtain ⟨s, w⟩ := p
    cases w
    · exact .inr (fun s' e => by cases e)
    · exact .inl ⟨s, rfl⟩

theorem step_quiet (hcn : CNat cf) (h : TextStep E cf sites rid ops i o r) (hl : isLoud E (siteAt sites rid i o) o = false) : r.H1 = r.H := by
  cases h with
  | plain st1 hg h h1 =>
    rw [siteAt_none hg] at hl
    rcases touch_dec r.st (siteOf sites rid i) o with ⟨s, ht⟩ | ht
    · obtain ⟨cs, _, h2, _⟩ := write_ok ht h
      exact h2
    · rw [quiet_ok hl ht] at h
      simp only [Option.bind_eq_some_iff, Option.some.injEq, Prod.mk.injEq] at h
      obtain ⟨_, _, _, _, h2⟩ := h
      exact h2.symm
  | on j want v hg hb hk hx h h1 =>
    rw [siteAt_some hg] at hl
    rw [quiet_ok hl (keepsL_touch hk)] at h
    simp only [Option.bind_eq_some_iff, Option.some.injEq, Prod.mk.injEq] at h
    obtain ⟨_, _, _, _, h2⟩ := h
    exact h2.symm
  | off j want b hg hb hne hx hH h1 => exact hH

/-- One operation where other ones have been done, or have not. -/
theorem step_any (hcn : CNat cf) (hck : CallKOK E cf) (h : TextStep E cf sites rid ops i o r) (ho : ops[i]? = some o) {sa : St} {C : Ctx} {lam : Nat → Nat} {a : Act} {Q : Exit → Act → World → Prop} {K : Act → World → Prop} {G1 : Heap} (hr : HR E C) (hf : FrameR C lam sa a)
    (ha : ∀ t ∈ looks ops o, sa.get t = r.st.get t) (hv : ∀ s w, touchOf r.st (siteAt sites rid i o) o = some (s, w) → sa.var s = r.st.var s ∧ sa.L.has s = r.st.L.has s)
    (hH : (isLoud E (siteAt sites rid i o) o = true ∧ C.H = r.H ∧ G1 = r.H1) ∨
      (isLoud E (siteAt sites rid i o) o = false ∧ G1 = C.H ∧ ((reads o = false ∨ heapy r.st o = false) ∨ (acts ops r.st o = true → sameAt E o r C.H = true ∨ C.H = r.H)))) :
    ∃ st1 sa1, r.st1 = stPut st1 o.dst r.x ∧ Eff2 o (siteAt sites rid i o) r.st st1 sa sa1 ∧ ((∀ a' w', Post E C (stPut sa1 o.dst r.x) G1 a' w' → K a' w') → wpOp E.P ops Q i K a C.w) := by
  have hops : ∀ t, Operand.tmp t ∈ o.op.operands.toList → sa.get t = r.st.get t := fun t ht => ha t (by
    unfold looks
    exact List.mem_append_left _ (List.mem_filterMap.2 ⟨_, ht, rfl⟩))
  have hguard : ∀ j w, o.guard = some (j, w) → guardOf ops sa j w = guardOf ops r.st j w := fun j w hg => by
    unfold guardOf
    cases hd : (ops[j]?).bind (·.dst) with
    | none => rfl
    | some t =>
      dsimp only
      rw [ha t (by unfold looks; rw [hg]; dsimp only; rw [hd]; exact List.mem_append_right _ (by simp))]
  have hK : ∀ {sa1 : St} {site : Option Nat}, opK E cf site o sa C.H (fun x s G => some (x, s, G)) = some (r.x, sa1, G1) → Region.wanted o (yielded ops a.tmps) = true → (∀ a' w', Post E C (stPut sa1 o.dst r.x) G1 a' w' → K a' w') → wpOp E.P ops Q i K a C.w := fun h1 hw hk => by
    unfold wpOp
    rw [ho]
    dsimp only
    rw [if_pos hw]
    exact .inl (Oper.wp_mono hk (op_sound hcn hck hr hf h1))
  cases h with
  | plain st1 hg h h1 =>
    rw [siteAt_none hg] at hv hH ⊢
    have hw : Region.wanted o (yielded ops a.tmps) = true := wanted_none hg
    refine ⟨st1, ?_⟩
    rcases touch_dec r.st (siteOf sites rid i) o with ⟨s, ht⟩ | ht
    · obtain ⟨cs, e1, e2, h3⟩ := write_ok ht h
      obtain ⟨v1, v2⟩ := hv s true ht
      have h4 := h3 sa C.H hops v1 v2
      have hG : G1 = C.H := by
        rcases hH with ⟨_, h5, h6⟩ | ⟨_, h5, _⟩
        · rw [h6, e2, h5]
        · exact h5
      subst hG
      exact ⟨sa.setVar s cs, h1, .set s cs ht e1 rfl, hK h4 hw⟩
    · have hv' : ∀ s, touchOf r.st (siteOf sites rid i) o = some (s, false) → sa.var s = r.st.var s := fun s e => (hv s false e).1
      rcases hH with ⟨hl, hC, rfl⟩ | ⟨hl, rfl, hG⟩
      · obtain ⟨e1, h2⟩ := loud_move hcn ht h hops hv'
        rw [← hC] at h2
        exact ⟨sa, h1, .none e1 rfl, hK h2 hw⟩
      · obtain ⟨e1, _, h2⟩ := quiet_move (G := C.H) hcn hl ht h (by
          rcases hG with hG | hG
          · exact .inl hG
          · refine .inr ?_
            rcases hG (by unfold acts; rw [hg]) with h3 | h3
            · exact .inl h3
            · exact .inr h3) hops hv'
        exact ⟨sa, h1, .none e1 rfl, hK h2 hw⟩
  | on j want v hg hb hk hx h h1 =>
    rw [siteAt_some hg] at hv hH ⊢
    have hw : Region.wanted o (yielded ops a.tmps) = true := by
      rw [wanted_some hf hg (by rw [hguard j want hg]; exact hb)]
      simp
    have ht := keepsL_touch hk
    have hv' : ∀ s, touchOf r.st none o = some (s, false) → sa.var s = r.st.var s := fun s e => (hv s false e).1
    refine ⟨r.st, sa, h1, .none rfl rfl, ?_⟩
    rcases hH with ⟨hl, hC, rfl⟩ | ⟨hl, rfl, hG⟩
    · obtain ⟨_, h2⟩ := loud_move hcn ht h hops hv'
      rw [← hC] at h2
      exact hK h2 hw
    · obtain ⟨_, _, h2⟩ := quiet_move (G := C.H) hcn hl ht h (by
        rcases hG with hG | hG
        · exact .inl hG
        · refine .inr ?_
          rcases hG (by unfold acts; rw [hg]; dsimp only; rw [hb]; simp) with h3 | h3
          · exact .inl (by
              unfold sameAt at h3 ⊢
              exact h3)
          · exact .inr h3) hops hv'
      exact hK h2 hw
  | off j want b hg hb hne hx hHH h1 =>
    rw [siteAt_some hg] at hv hH ⊢
    have hw : Region.wanted o (yielded ops a.tmps) = false := by
      rw [wanted_some hf hg (by rw [hguard j want hg]; exact hb)]
      exact hne
    have hG : G1 = C.H := by
      rcases hH with ⟨_, h5, h6⟩ | ⟨_, h5, _⟩
      · rw [h6, hHH, h5]
      · exact h5
    subst hG
    refine ⟨r.st, sa, h1, .none rfl rfl, fun hk => ?_⟩
    unfold wpOp
    rw [ho]
    dsimp only
    rw [if_neg (by rw [hw]; simp)]
    refine hk _ _ ⟨C, lam, rfl, rfl, hr, Ev.refl C, ?_⟩
    rw [hx]
    exact hf.put (x := .val (.tup [])) (.tup _ [] #[] (.nil _))

end
end Go.Den
