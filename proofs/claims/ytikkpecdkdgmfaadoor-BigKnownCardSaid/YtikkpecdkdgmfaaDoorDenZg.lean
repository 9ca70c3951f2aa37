/- DEN, part Zg: what must be asked of a program and its tables, by computation; a law's post-condition. -/
import Derived.Test.YtikkpecdkdgmfaaDoorDenZf
import Derived.ProofKit
import Derived.OpenShut
namespace Go.Den
open Go.RowKit

theorem codeOk_nil {ok : Nat → Array Oper → DInfo → Bool} : ∀ c, codeOk [] ok c = true
  | .region _ _ b => by cases b <;> rfl
  | .seq a b => by unfold codeOk; rw [codeOk_nil a, codeOk_nil b]; rfl
  | .cond _ a b => by unfold codeOk; rw [codeOk_nil a, codeOk_nil b]; rfl
  | .block _ c => codeOk_nil c
  | .loop c => codeOk_nil c
  | .scope c => codeOk_nil c
  | .skip | .label _ | .exit _ | .goto _ | .ret | .rangeFunc .. | .refuse _ => rfl

/-- The functions whose regions are described. -/
def tableOk (E : Env) : List FuncId → Bool
  | [] => true
  | f :: fs => (match E.P.funcs[f]? with
    | some fn => match fn.body with
      | some c => codeOk (E.ann f).draws (staticOk E (E.ann f).sites) c
      | none => true
    | none => true) && tableOk E fs

def namesOk (P : Program) : Bool := P.funcs.toList.all fun fn => !(fn.name == "runtime.NumGoroutine")

theorem tableOk_mem {E : Env} : ∀ {fs : List FuncId}, tableOk E fs = true → ∀ {f : FuncId}, f ∈ fs → ∀ {fn : Func} {c : Code}, E.P.funcs[f]? = some fn → fn.body = some c → codeOk (E.ann f).draws (staticOk E (E.ann f).sites) c = true
  | [], _, _, hf, _, _, _, _ => by cases hf
  | g :: fs, h, f, hf, fn, c, h1, h2 => by
    unfold tableOk at h
    simp only [Bool.and_eq_true] at h
    rcases List.mem_cons.1 hf with rfl | hf
    · have := h.1
      rw [h1] at this
      dsimp only at this
      rw [h2] at this
      exact this
    · exact tableOk_mem h.2 hf h1 h2

theorem envOK {E : Env} (fs : List FuncId) (h1 : tableOk E fs = true) (h2 : ∀ f, f ∉ fs → (E.ann f).draws = []) (h3 : namesOk E.P = true) : EnvOK E := by
  refine ⟨fun f fn c hf hb => ?_, fun f fn c hf hb => ?_⟩
  · rcases Decidable.em (f ∈ fs) with h | h
    · exact tableOk_mem h1 h hf hb
    · rw [h2 f h]
      exact codeOk_nil c
  · unfold namesOk at h3
    have := List.all_eq_true.1 h3 fn (by
      rw [← Array.getElem?_toList] at hf
      exact List.mem_of_getElem? hf)
    simpa using this

/-- A call from outside leaves what was there. -/
theorem Ev.below {w : World} {κ : Nat → Role} (hκ : ∀ b, κ b = .imm ∨ κ b = .oth) {C' : Ctx} (h : Ev (.outer w κ) C') : Below w.heap.size w C'.w :=
  ⟨h.os, h.tape, h.output, h.size, fun k hk => (h.keep k hk (hκ k)).1⟩

/-- A closed law: the reading says 'true'. -/
theorem closed_calls {E : Env} {n : Nat} (hcf : CallOK E (callF E n)) (hg : ∀ g, E.glob g = none) {f : FuncId} {w : World} (h : answer E n f [] = some (.bool true)) {fn : Func} {c : Code} (hfn : E.P.funcs[f]? = some fn) (hb : fn.body = some c) :
    Calls E.P f #[] w fun e w' => e = .returned (.bool true) ∧ Below w.heap.size w w' := by
  have hr : HR E (.outer w fun _ => .oth) := outer_hr (fun _ _ => rfl) fun g cs hg' => by rw [hg g] at hg'; cases hg'
  have := outer_calls hcf (us := #[]) hr (fun b s e => by cases e) (.nil _) h
  rcases this with ⟨_, h2⟩ | ⟨u, w', h1, _⟩
  · refine Calls.mono h2 fun e w' ⟨u, he, C', hw, hv, ev, _⟩ => ?_
    subst hw
    rw [he, hv.bool_inv]
    exact ⟨rfl, ev.below fun _ => .inr rfl⟩
  · exfalso
    have hpr : program.run E.P w = .ok E.P w := rfl
    unfold callFunc at h1
    simp only [Sem.run_bind, hpr, Result.andThen_ok, hfn] at h1
    split at h1
    · cases h1
    · rw [if_neg (by simp [hb])] at h1
      cases h1

end Go.Den
