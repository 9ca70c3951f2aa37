/- DEN, part Zk: a law with arguments, where package variables are laid. -/
import Derived.Test.YtikkpecdkdgmfaaDoorDenZi
import Derived.Lay
import Derived.Handed
import Derived.Stop.Joined
namespace Go.Den
open Go.RowKit Go.ChangeShapes Go.WideShapes Go.ChangeAt

/-- What the package variables hold, as Den reads them. -/
def GlobOK (E : Env) (W : World) : Prop := ∀ g cs, E.glob g = some cs → V (.outer W (immK W)) true (.rop cs) (.pointer (some ⟨g, 0, none⟩))

theorem GlobOK.none {E : Env} (hg : ∀ g, E.glob g = none) (W : World) : GlobOK E W := fun g cs h => by rw [hg g] at h; cases h

theorem law_calls_g {E : Env} {n : Nat} (hcf : CallOK E (callF E n)) {f : FuncId} {W : World} (hg : GlobOK E W) {vs : List AV} {us : Array Value} (hv : Vs (.outer W (immK W)) true vs us.toList)
    (h : answer E n f vs = some (.bool true)) {fn : Func} {c : Code} (hfn : E.P.funcs[f]? = some fn) (hb : fn.body = some c) :
    Calls E.P f us W fun e w' => e = .returned (.bool true) ∧ Below W.heap.size W w' := by
  have hk : ∀ b, immK W b = .imm ∨ immK W b = .oth := fun b => by
    unfold immK
    split
    · exact .inl rfl
    · exact .inr rfl
  have hr : HR E (.outer W (immK W)) := outer_hr (fun b hb => by unfold immK; rw [if_neg (by omega)]) hg
  have := outer_calls hcf (us := us) hr (fun b s e => by rcases hk b with h | h <;> (have e' : immK W b = .loc s := e; rw [h] at e'; cases e')) hv.weaken h
  rcases this with ⟨_, h2⟩ | ⟨u, w', h1, _⟩
  · refine Calls.mono h2 fun e w' ⟨u, he, C', hw, hv, ev, _⟩ => ?_
    subst hw
    rw [he, hv.bool_inv]
    exact ⟨rfl, ev.below hk⟩
  · exfalso
    have hpr : program.run E.P W = .ok E.P W := rfl
    unfold callFunc at h1
    simp only [Sem.run_bind, hpr, Result.andThen_ok, hfn] at h1
    split at h1
    · cases h1
    · rw [if_neg (by simp [hb])] at h1
      cases h1

theorem law_lifted_laid {E : Env} {C : Checked} {os : Os} {f : FuncId} {fn : Func} {c : Code} {s : ChangeSpec} {conds : List PathCond} {H : Type} {enc : TypeId × Value → H} {tb : TypeId} {laid : List (String × DataW Unit)}
    (hP : E.P = C.prog) (hg : ∀ W, laidMetH C.prog laid W → GlobOK E W) (hcf : ∀ n, CallOK E (callF E n))
    (own : ownKnob C.prog.godebug = none) (started : os.Started) (noInit : C.prog.inits.idxOf? f = none) (hfn : C.prog.funcs[f]? = some fn) (hb : fn.body = some c)
    (witness : ∃ (w : World) (tape : Tape) (i : Input), w.os = os ∧ (w.forCall tape i).Shaped C.prog ∧ i.vars = [] ∧ Input.okWide C.prog (w.forCall tape i) .any w.heap.size f i ∧
      ((s.pre enc C.prog fn conds false (w.forCall tape i).memory i.args ∧ laidMetH C.prog laid (w.forCall tape i).memory) ∧ sizedMet enc C.prog fn (OpenSpec.ofChange s) false (w.forCall tape i).memory i.args) ∧ ({} : Assume).holds C.prog (lone (Frame.enter C.prog f i.args .normal) [] (w.forCall tape i)))
    (hl : laidOutB C.prog = true) (hvars : s.vars = []) (hs : ∀ (H : Type) (ds : List (DataW H)), ds.length = fn.params.size → s.fn H ds = { results := [.lit (.bool true)], args := ds })
    (hres : fn.resultTypes = #[tb]) (htb : C.prog.underlying tb = some .bool)
    {ts : List TypeId} (hts : ∀ t ∈ ts, tyOk C.prog ts t = true) (hpar : ∀ t ∈ fn.params.toList, t ∈ ts ∧ C.prog.readableRec t = true ∧ t < C.prog.types.size)
    (law : ∀ vs : List AV, vs.length = fn.params.size → (∀ (j : Nat) t v, fn.params[j]? = some t → vs[j]? = some v → ∃ n, Ty C.prog n t v) → ∃ n, answer E n f vs = some (.bool true)) :
    ReturnsInHanded {} C os f .any (fun w args => (s.pre enc C.prog fn conds false w args ∧ laidMetH C.prog laid w) ∧ sizedMet enc C.prog fn (OpenSpec.ofChange s) false w args) (s.post enc C.prog fn false true false false) := by
  refine returnsInHanded_of_change_and (C := C) (X := fun w _ => laidMetH C.prog laid w) (fun _ _ _ hh h => h.of_heap hh) own started noInit hfn witness ?_
  intro W base args ds gs before hval0 hW hcnd _ hL _
  have hW' := hW
  obtain ⟨p, q, hA0, hV, hpq, hfz, hnd⟩ := hW
  rw [hvars] at hV
  obtain ⟨rfl, rfl⟩ := trodVars_none hV
  obtain ⟨hlen, vs, h1, h2, h3⟩ := args_V hts fn.params.toList args.toList ds p (fun t ht => (hpar t ht).1) hA0 fun j t v hj hj' => hval0 j t v (by simpa using hj) (by simpa using hj')
  obtain ⟨n, hn⟩ := law vs (by simpa using h2) fun j t v hj hj' => h3 j t v (by simpa using hj) hj'
  have hc := law_calls_g (hcf n) (hg W hL) h1 hn (by rw [hP]; exact hfn) hb
  rw [hP] at hc
  refine hc.mono fun e W' ⟨he, hbel⟩ => ?_
  subst he
  refine ⟨_, rfl, ds, [], before, [], p, [], hW', ?_, ?_, ?_, hbel.frame _, fun h => by cases h⟩
  · rw [List.append_nil, hs H ds (by simpa using hlen), hres]
    exact trodAll_cons_mk (shut_bool htb _) trodAll_mk0
  · rw [List.append_nil, hs H ds (by simpa using hlen)]
    exact args_stay hl hbel _ _ _ _ (fun t ht => (hpar t ht).2) hA0
  · rw [hvars, List.append_nil, hs H ds (by simpa using hlen)]
    rfl

end Go.Den
