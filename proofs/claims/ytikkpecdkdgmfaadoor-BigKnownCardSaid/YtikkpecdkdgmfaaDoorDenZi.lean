/- DEN, part Zi: a law with arguments, from what its reading answers. -/
import Derived.Test.YtikkpecdkdgmfaaDoorDenZh
import Derived.WalkKit
import Derived.ProofKit
import Derived.OpenShut
namespace Go.Den
open Go.RowKit Go.ChangeShapes Go.WideShapes Go.ChangeAt

section
variable {H : Type} {enc : TypeId × Value → H} {P : Program} {W : World}

theorem args_V {ts : List TypeId} (hts : ∀ t ∈ ts, tyOk P ts t = true) {r : Reach} {base : Nat} : ∀ (qs : List TypeId) (us : List Value) (ds : List (DataW H)) (ps : List MemPlace), (∀ t ∈ qs, t ∈ ts) →
    DataW.TrodAll enc P W 0 (fun _ => true) true qs us ds ps → (∀ (j : Nat) t v, qs[j]? = some t → us[j]? = some v → Value.okWide P W r base t v) →
    ds.length = qs.length ∧ ∃ vs, Vs (.outer W (immK W)) true vs us ∧ vs.length = qs.length ∧ ∀ (j : Nat) t v, qs[j]? = some t → vs[j]? = some v → ∃ n, Ty P n t v
  | [], [], [], _, _, _, _ => ⟨rfl, [], .nil _, rfl, fun j t v h => by simp at h⟩
  | t :: qs, u :: us, d :: ds, _, hq, h, hv => by
    obtain ⟨p, q, h1, h2, _⟩ := h
    obtain ⟨hl, vs, g1, g2, g3⟩ := args_V hts qs us ds q (fun t ht => hq t (List.mem_cons_of_mem _ ht)) h2 fun j t v h1 h2 => hv (j + 1) t v (by simpa using h1) (by simpa using h2)
    obtain ⟨n, v, k1, k2⟩ := arg_V hts (hq t List.mem_cons_self) h1 (hv 0 t u rfl rfl)
    refine ⟨by simp [hl], v :: vs, .cons _ _ _ _ _ k2 g1, by simp [g2], fun j t' v' hj hj' => ?_⟩
    cases j with
    | zero =>
      simp only [List.getElem?_cons_zero, Option.some.injEq] at hj hj'
      subst hj hj'
      exact ⟨n, k1⟩
    | succ j => exact g3 j t' v' (by simpa using hj) (by simpa using hj')
  | [], _ :: _, _, _, _, h, _ => by cases h
  | [], [], _ :: _, _, _, h, _ => by cases h
  | _ :: _, [], _, _, _, h, _ => by cases h
  | _ :: _, _ :: _, [], _, _, h, _ => by cases h

/-- The arguments read as they did. -/
theorem args_stay (hl : laidOutB P = true) {W' : World} (hb : Below W.heap.size W W') : ∀ (qs : List TypeId) (us : List Value) (ds : List (DataW H)) (ps : List MemPlace), (∀ t ∈ qs, P.readableRec t = true ∧ t < P.types.size) →
    DataW.TrodAll enc P W 0 (fun _ => true) true qs us ds ps → DataW.TrodAll enc P W' 0 (fun b => decide (b < W.heap.size)) true qs us ds ps
  | [], [], [], _, _, h => h
  | t :: qs, u :: us, d :: ds, _, hq, h => by
    obtain ⟨p, q, h1, h2, e⟩ := h
    have hlt : ∀ x ∈ p, x.block < W.heap.size := by
      obtain ⟨n, hn⟩ := h1
      exact DataW.trod_lt n _ _ _ hn
    exact ⟨p, q, Below.trod hl (hq t List.mem_cons_self).1 (hq t List.mem_cons_self).2 h1 hb hlt, args_stay hl hb qs us ds q (fun t ht => hq t (List.mem_cons_of_mem _ ht)) h2, e⟩
  | [], _ :: _, _, _, _, h => by cases h
  | [], [], _ :: _, _, _, h => by cases h
  | _ :: _, [], _, _, _, h => by cases h
  | _ :: _, _ :: _, [], _, _, h => by cases h
end

/-- A law, from outside. -/
theorem law_calls {E : Env} {n : Nat} (hcf : CallOK E (callF E n)) (hg : ∀ g, E.glob g = none) {f : FuncId} {W : World} {vs : List AV} {us : Array Value} (hv : Vs (.outer W (immK W)) true vs us.toList)
    (h : answer E n f vs = some (.bool true)) {fn : Func} {c : Code} (hfn : E.P.funcs[f]? = some fn) (hb : fn.body = some c) :
    Calls E.P f us W fun e w' => e = .returned (.bool true) ∧ Below W.heap.size W w' := by
  have hk : ∀ b, immK W b = .imm ∨ immK W b = .oth := fun b => by
    unfold immK
    split
    · exact .inl rfl
    · exact .inr rfl
  have hr : HR E (.outer W (immK W)) := outer_hr (fun b hb => by unfold immK; rw [if_neg (by omega)]) fun g cs hg' => by rw [hg g] at hg'; cases hg'
  have := outer_calls hcf (us := us) hr (fun b s e => by rcases hk b with h | h <;> (have e' : immK W b = .loc s := e; rw [h] at e'; cases e')) hv.weaken h
  rcases this with ⟨_, h2⟩ | ⟨u, w', h1, _⟩
  · refine Calls.mono h2 fun e w' ⟨u, he, C', hw, hv, ev, _⟩ => ?_
    subst hw
    rw [he, hv.bool_inv]
    exact ⟨rfl, ev.below hk⟩
  · exfalso
    have hpr : program.run E.P W = .ok E.P W := rfl
    unfold callFunc at h1
    simp only [Sem.run_bind, hpr, Result.andThen_ok, hfn] at h1
    split at h1
    · cases h1
    · rw [if_neg (by simp [hb])] at h1
      cases h1

theorem law_lifted {E : Env} {C : Checked} {os : Os} {f : FuncId} {fn : Func} {c : Code} {s : ChangeSpec} {conds : List PathCond} {H : Type} {enc : TypeId × Value → H} {tb : TypeId}
    (hP : E.P = C.prog) (hg : ∀ g, E.glob g = none) (hcf : ∀ n, CallOK E (callF E n))
    (own : ownKnob C.prog.godebug = none) (started : os.Started) (noInit : C.prog.inits.idxOf? f = none) (hfn : C.prog.funcs[f]? = some fn) (hb : fn.body = some c)
    (witness : ∃ (w : World) (tape : Tape) (i : Input), w.os = os ∧ (w.forCall tape i).Shaped C.prog ∧ i.vars = [] ∧ Input.okWide C.prog (w.forCall tape i) .any w.heap.size f i ∧
      s.pre6 enc C.prog fn conds false (w.forCall tape i).memory i.args ∧ ({} : Assume).holds C.prog (lone (Frame.enter C.prog f i.args .normal) [] (w.forCall tape i)))
    (hl : laidOutB C.prog = true) (hvars : s.vars = []) (hs : ∀ (H : Type) (ds : List (DataW H)), ds.length = fn.params.size → s.fn H ds = { results := [.lit (.bool true)], args := ds })
    (hres : fn.resultTypes = #[tb]) (htb : C.prog.underlying tb = some .bool)
    {ts : List TypeId} (hts : ∀ t ∈ ts, tyOk C.prog ts t = true) (hpar : ∀ t ∈ fn.params.toList, t ∈ ts ∧ C.prog.readableRec t = true ∧ t < C.prog.types.size)
    (law : ∀ vs : List AV, vs.length = fn.params.size → (∀ (j : Nat) t v, fn.params[j]? = some t → vs[j]? = some v → ∃ n, Ty C.prog n t v) → ∃ n, answer E n f vs = some (.bool true)) :
    ReturnsInHanded {} C os f .any (s.pre6 enc C.prog fn conds false) (s.post enc C.prog fn false true false false) := by
  refine returnsInHanded_of_change (C := C) own started noInit hfn witness ?_
  intro W base args ds gs before hval0 hW hcnd _
  have hW' := hW
  obtain ⟨p, q, hA0, hV, hpq, hfz, hnd⟩ := hW
  rw [hvars] at hV
  obtain ⟨rfl, rfl⟩ := trodVars_none hV
  obtain ⟨hlen, vs, h1, h2, h3⟩ := args_V hts fn.params.toList args.toList ds p (fun t ht => (hpar t ht).1) hA0 fun j t v hj hj' => hval0 j t v (by simpa using hj) (by simpa using hj')
  obtain ⟨n, hn⟩ := law vs (by simpa using h2) fun j t v hj hj' => h3 j t v (by simpa using hj) hj'
  have hc := law_calls (hcf n) hg h1 hn (by rw [hP]; exact hfn) hb
  rw [hP] at hc
  refine hc.mono fun e W' ⟨he, hbel⟩ => ?_
  subst he
  refine ⟨_, rfl, ds, [], before, [], p, [], hW', ?_, ?_, ?_, hbel.frame _, fun h => by cases h⟩
  · rw [List.append_nil, hs H ds (by simpa using hlen), hres]
    exact trodAll_cons_mk (shut_bool htb _) trodAll_mk0
  · rw [List.append_nil, hs H ds (by simpa using hlen)]
    exact args_stay hl hbel _ _ _ _ (fun t ht => (hpar t ht).2) hA0
  · rw [hvars, List.append_nil, hs H ds (by simpa using hlen)]
    rfl

end Go.Den
