/- DEN, part Zf: calls do what is read off the code. -/
import Derived.Test.YtikkpecdkdgmfaaDoorDenZe
namespace Go.Den
open Go.RowKit

section
variable {E : Env} {cf : CallFn}

/-- Functions that are read as they stand. -/
theorem callK_plain {f : FuncId} (hp : E.pol f = .plain) (hcf : CallOK E cf) {args : List AV} {C : Ctx} {us : Array Value} {v : AV} {H' : Heap} (h : callK E cf f args C.H (fun v G => some (v, G)) = some (v, H')) (hr : HR E C) (hv : Vs C false args us.toList) :
    Lands E.P f us C.w (GivesL E C v H') := by
  unfold callK at h
  rw [hp] at h
  exact (hcf f args C.strip us v H' h (strip_hr hr) strip_noLoc (hv.evV strip_evV)).mono fun u w hg => gives_back hr hg

theorem callF_plain (hE : EnvOK E) (hm : E.P.follows .mixedOrders = true) (hp : ∀ f, E.pol f = .plain) : ∀ n, CallOK E (callF E n)
  | 0 => fun f args C us v H' h => by cases h
  | n + 1 => by
    have hck : CallKOK E (callF E n) := fun f args C us v H' h hr hv => callK_plain (hp f) (callF_plain hE hm hp n) h hr hv
    exact callF_step hE n hck fun f => draw_ok (callF_nat n) hck hm (E.ann f)

/-- The moment ahead of a call from outside. -/
def Ctx.outer (w : World) (κ : Nat → Role) : Ctx := ⟨w, κ, fun _ => (0, 0), []⟩

theorem outer_hr {w : World} {κ : Nat → Role} (hκ : ∀ b, w.heap.size ≤ b → κ b = .oth) (hg : ∀ g cs, E.glob g = some cs → V (.outer w κ) true (.rop cs) (.pointer (some ⟨g, 0, none⟩))) : HR E (.outer w κ) :=
  ⟨fun id v sz ty es h => by simp [Ctx.outer] at h, fun id l pos h => by simp [Ctx.outer] at h, hκ, hg, fun id v sz ty es h => by simp [Ctx.outer] at h⟩

/-- A call from outside whose answer is plain. -/
theorem outer_calls {n : Nat} (hcf : CallOK E (callF E n)) {f : FuncId} {args : List AV} {us : Array Value} {v : AV} {w : World} {κ : Nat → Role} (hr : HR E (.outer w κ)) (hn : (Ctx.outer w κ).noLoc) (hv : Vs (.outer w κ) false args us.toList)
    (h : answer E n f args = some v) : Lands E.P f us w fun u w' => ∃ C', C'.w = w' ∧ V C' false v u ∧ Ev (.outer w κ) C' ∧ HR E C' := by
  unfold answer at h
  rw [callF_nat n] at h
  simp only [Option.bind_eq_some_iff] at h
  obtain ⟨⟨x, H'⟩, h1, h2⟩ := h
  simp only [Option.some.injEq] at h2
  subst h2
  refine (hcf f args (.outer w κ) us x H' h1 hr hn hv).mono fun u w' hg => ?_
  obtain ⟨C', g1, _, g3, g4, g5, _⟩ := hg
  exact ⟨C', g1, g3, g5, g4⟩

end
end Go.Den
