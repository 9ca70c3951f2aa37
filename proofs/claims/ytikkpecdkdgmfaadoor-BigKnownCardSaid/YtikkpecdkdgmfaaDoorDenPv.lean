/- DEN, part Pv: functions that are proved one by one: each is a table's entry for those that call it. -/
import Derived.Test.YtikkpecdkdgmfaaDoorDenPu
import Derived.Test.YtikkpecdkdgmfaaDoorDenSd
namespace Go.Den
open Go.RowKit

def Env.with (E : Env) (pol : FuncId → Pol) : Env := { E with pol := pol }

/-- A call out of a function's text. -/
def cl (E : Env) (pol : FuncId → Pol) (n : Nat) {R : Type} (f : FuncId) (args : List AV) (H : Heap) (k : AV → Heap → Option R) : Option R :=
  callK (E.with pol) (callF (E.with pol) n) f args H k
/-- .. that asks for nothing of the small heap and leaves it alone. -/
def clQ (E : Env) (pol : FuncId → Pol) {R : Type} (f : FuncId) (args : List AV) (H : Heap) (k : AV → Heap → Option R) : Option R :=
  callQ (E.with pol) f args H k
def clV (E : Env) (pol : FuncId → Pol) (n : Nat) {R : Type} (f : AV) (args : List AV) (H : Heap) (k : AV → Heap → Option R) : Option R :=
  callV (E.with pol) (callF (E.with pol) n) f args H k
def globV (E : Env) (g : Nat) : AV := .rop ((E.glob g).getD [])

def lookT : List (FuncId × Pol) → FuncId → Pol
  | [], _ => .prim fun _ _ => none
  | (g, F) :: r, f => if f = g then F else lookT r f

/-- A call, by how the function is read. -/
def polK {R : Type} (p : Pol) (args : List AV) (H : Heap) (k : AV → Heap → Option R) : Option R :=
  match p with
  | .plain => none
  | .prim F => withP (F args H) k
  | .still F => withP (pureF F args H) k
def polQ {R : Type} (p : Pol) (args : List AV) (H : Heap) (k : AV → Heap → Option R) : Option R :=
  match p with
  | .still F => bif args.all AV.imm then withV (F args) fun v => k v H else none
  | _ => none

theorem lookT_plain : ∀ {T : List (FuncId × Pol)} {f : FuncId}, (∀ p ∈ T, p.2 ≠ .plain) → lookT T f ≠ .plain
  | [], _, _ => by unfold lookT; simp
  | (g, F) :: r, f, h => by
    unfold lookT
    split
    · exact h _ List.mem_cons_self
    · exact lookT_plain fun p hp => h p (List.mem_cons_of_mem _ hp)

/-- A table: no function in it is read as its text stands. -/
def polT (T : List (FuncId × Pol)) (f : FuncId) : Pol :=
  match lookT T f with
  | .plain => .prim fun _ _ => none
  | p => p

@[simp] theorem cl_polT {E : Env} {T : List (FuncId × Pol)} {n : Nat} {R : Type} {f : FuncId} {args : List AV} {H : Heap} {k : AV → Heap → Option R} : cl E (polT T) n f args H k = polK (lookT T f) args H k := by
  unfold cl callK
  show (match polT T f with | .plain => _ | .prim F => _ | .still F => _) = _
  unfold polT
  cases lookT T f <;> rfl
@[simp] theorem clQ_polT {E : Env} {T : List (FuncId × Pol)} {R : Type} {f : FuncId} {args : List AV} {H : Heap} {k : AV → Heap → Option R} : clQ E (polT T) f args H k = polQ (lookT T f) args H k := by
  unfold clQ callQ
  show (match polT T f with | .still F => _ | _ => _) = _
  unfold polT
  cases lookT T f <;> rfl
@[simp] theorem clV_fn {E : Env} {pol : FuncId → Pol} {n : Nat} {R : Type} {f : FuncId} {a b args : List AV} {H : Heap} {k : AV → Heap → Option R} : clV E pol n (.fn (.func f) a b) args H k = cl E pol n f (a ++ args ++ b) H k := id rfl
@[congr] theorem cl_congr {E : Env} {pol : FuncId → Pol} {n : Nat} {R : Type} {f : FuncId} {args args' : List AV} {H H' : Heap} {k : AV → Heap → Option R} (h : args = args') (h2 : H = H') : cl E pol n f args H k = cl E pol n f args' H' k := by rw [h, h2]
@[congr] theorem clV_congr {E : Env} {pol : FuncId → Pol} {n : Nat} {R : Type} {f f' : AV} {args args' : List AV} {H H' : Heap} {k : AV → Heap → Option R} (h0 : f = f') (h : args = args') (h2 : H = H') : clV E pol n f args H k = clV E pol n f' args' H' k := by rw [h0, h, h2]
@[congr] theorem clQ_congr {E : Env} {pol : FuncId → Pol} {R : Type} {f : FuncId} {args args' : List AV} {H H' : Heap} {k : AV → Heap → Option R} (h : args = args') (h2 : H = H') : clQ E pol f args H k = clQ E pol f args' H' k := by rw [h, h2]
@[congr] theorem polK_congr {R : Type} {p p' : Pol} {args : List AV} {H : Heap} {k : AV → Heap → Option R} (h : p = p') : polK p args H k = polK p' args H k := by rw [h]
@[congr] theorem polQ_congr {R : Type} {p p' : Pol} {args : List AV} {H : Heap} {k : AV → Heap → Option R} (h : p = p') : polQ p args H k = polQ p' args H k := by rw [h]
/-- A call on values that do not change. -/
theorem polK_imm {R : Type} {F : List AV → Option AV} {args : List AV} {H : Heap} {k : AV → Heap → Option R} (h : args.all AV.imm = true) : polK (.still F) args H k = withV (F args) fun v => k v H := by
  show withP (pureF F args H) k = _
  rw [pureF_imm h]
  cases F args <;> rfl
theorem polQ_imm {R : Type} {F : List AV → Option AV} {args : List AV} {H : Heap} {k : AV → Heap → Option R} (h : args.all AV.imm = true) : polQ (.still F) args H k = withV (F args) fun v => k v H := by
  show (bif args.all AV.imm then _ else none) = _
  rw [h]
  rfl
@[simp] theorem lookT_cons {g : FuncId} {F : Pol} {r : List (FuncId × Pol)} {f : FuncId} : lookT ((g, F) :: r) f = if f = g then F else lookT r f := id rfl

section
variable {E : Env} {pol : FuncId → Pol}

theorem isLoud_with (s : Option Nat) (o : Oper) : isLoud (E.with pol) s o = isLoud E s o := rfl
theorem countLoud_with (sites : List (Nat × Nat × Nat)) (rid : Nat) (ops : Array Oper) (p : Nat → Bool) : countLoud (E.with pol) sites rid ops p = countLoud E sites rid ops p := rfl
theorem pairOk_with (sites : List (Nat × Nat × Nat)) (rid : Nat) (ops : Array Oper) (d : DInfo) (i : Nat) (o : Oper) (j : Nat) : pairOk (E.with pol) sites rid ops d i o j = pairOk E sites rid ops d i o j := rfl
theorem opOk_with (sites : List (Nat × Nat × Nat)) (rid : Nat) (ops : Array Oper) (d : DInfo) (i : Nat) : opOk (E.with pol) sites rid ops d i = opOk E sites rid ops d i := rfl
theorem staticOk_with (sites : List (Nat × Nat × Nat)) : staticOk (E.with pol) sites = staticOk E sites := by
  funext rid ops d
  unfold staticOk
  congr 1
theorem EnvOK.with (h : EnvOK E) : EnvOK (E.with pol) :=
  ⟨fun f fn c h1 h2 => by
    have := h.codes f fn c h1 h2
    rw [← staticOk_with (pol := pol)] at this
    exact this, h.names⟩
theorem HR.to_with {C : Ctx} (h : HR E C) : HR (E.with pol) C := ⟨h.row, h.iter, h.new, h.glob, h.al⟩
theorem HR.of_with {C : Ctx} (h : HR (E.with pol) C) : HR E C := ⟨h.row, h.iter, h.new, h.glob, h.al⟩
theorem Gives.of_with {C : Ctx} {v : AV} {H' : Heap} {u : Value} {w' : World} (h : Gives (E.with pol) C v H' u w') : Gives E C v H' u w' := by
  obtain ⟨C', h1, h2, h3, h4, h5, h6⟩ := h
  exact ⟨C', h1, h2, h3, h4.of_with, h5, h6⟩
theorem Gives.to_with {C : Ctx} {v : AV} {H' : Heap} {u : Value} {w' : World} (h : Gives E C v H' u w') : Gives (E.with pol) C v H' u w' := by
  obtain ⟨C', h1, h2, h3, h4, h5, h6⟩ := h
  exact ⟨C', h1, h2, h3, h4.to_with, h5, h6⟩
theorem PrimOK.to_with {f : FuncId} {F : List AV → Heap → Option (AV × Heap)} (h : PrimOK E f F) : PrimOK (E.with pol) f F :=
  fun args C us v H' h1 h2 h3 h4 => Lands.mono (h args C us v H' h1 h2.of_with h3 h4) fun _ _ g => g.to_with
theorem PolOK.to_with {f : FuncId} : ∀ {p : Pol}, PolOK E f p → PolOK (E.with pol) f p
  | .plain, _ => trivial
  | .prim F, h => PrimOK.to_with (F := F) h
  | .still F, h => PrimOK.to_with (F := pureF F) h
theorem PolOK.none (f : FuncId) : PolOK E f (.prim fun _ _ => none) := fun _ _ _ _ _ h => by cases h
end

/-- All that a table says is right. -/
def TabOK (E : Env) : List (FuncId × Pol) → Prop
  | [] => True
  | (f, F) :: r => PolOK E f F ∧ TabOK E r

theorem lookT_ok {E : Env} : ∀ {T : List (FuncId × Pol)}, TabOK E T → ∀ f, PolOK E f (lookT T f)
  | [], _, f => .none f
  | (g, F) :: r, h, f => by
    unfold lookT
    split
    · rename_i e; subst e; exact h.1
    · exact lookT_ok h.2 f
theorem polT_ok {E : Env} {T : List (FuncId × Pol)} (h : TabOK E T) (f : FuncId) : PolOK E f (polT T f) := by
  have := lookT_ok h f
  unfold polT
  split
  · exact .none f
  · exact this

theorem calls_polT {E : Env} (hE : EnvOK E) (hm : E.P.follows .mixedOrders = true) {T : List (FuncId × Pol)} (hT : TabOK E T) (n : Nat) : CallOK (E.with (polT T)) (callF (E.with (polT T)) n) :=
  callF_pols (E := E.with (polT T)) hE.with hm (fun f => (polT_ok hT f).to_with) n

/-- What must stand of a program, once. -/
structure BaseOK (E : Env) : Prop where
  env : EnvOK E
  mixed : E.P.follows .mixedOrders = true

/-- A function that leaves the small heap alone, by what its text does. -/
theorem still_of {E : Env} (hb : BaseOK E) (T : List (FuncId × Pol)) (hT : TabOK E T) {f : FuncId} {F : List AV → Option AV}
    (h : ∀ as v, F as = some v → Evs fun n _ => callF (E.with (polT T)) (n + 1) AV f as [] (fun v G => A.freezeB true 64 G v) = some v) : PolOK E f (.still F) :=
  pure_prim (E := E) (E' := E.with (polT T)) rfl rfl (calls_polT hb.env hb.mixed hT) fun as v hv => by
    obtain ⟨N, hN⟩ := h as v hv
    exact ⟨N + 1, hN N N (Nat.le_refl _) (Nat.le_refl _)⟩

/-- A function that reads or writes the small heap, by what its text does. -/
theorem heap_of {E : Env} (hb : BaseOK E) (T : List (FuncId × Pol)) (hT : TabOK E T) {f : FuncId} {F : List AV → Heap → Option (AV × Heap)}
    (h : ∀ as H v H', F as H = some (v, H') → Evs fun n _ => callF (E.with (polT T)) (n + 1) (AV × Heap) f as H (fun v G => some (v, G)) = some (v, H')) : PolOK E f (.prim F) := fun args C us v H' h1 hr hl hv => by
  obtain ⟨N, hN⟩ := h args C.H v H' h1
  exact Lands.mono (calls_polT hb.env hb.mixed hT (N + 1) f args C us v H' (hN N N (Nat.le_refl _) (Nat.le_refl _)) hr.to_with hl hv) fun _ _ g => g.of_with

/-- A law, by what its text does. -/
theorem answer_of {E : Env} {T : List (FuncId × Pol)} {f : FuncId} {as : List AV} {v : AV} (h : Evs fun n _ => callF (E.with (polT T)) (n + 1) AV f as [] (fun v _ => some v) = some v) : ∃ n, answer (E.with (polT T)) n f as = some v := by
  obtain ⟨N, hN⟩ := h
  exact ⟨N + 1, hN N N (Nat.le_refl _) (Nat.le_refl _)⟩

/-- What a call hands back, when it does not change. -/
theorem frz_imm {v : AV} {H : Heap} (h : v.imm = true) : A.freezeB true 64 H v = some v := (imm_frz h 61 H).1

/-! ### codes -/
/-- How plain data stand as values that do not change. -/
structure Cd (α : Type) where
  enc : α → AV
  inj : ∀ a b, enc a = enc b → a = b
  imm : ∀ a, (enc a).imm1 = true

namespace Cd
variable {α β γ δ ε : Type}
noncomputable def dec (c : Cd α) (v : AV) : Option α := open Classical in if h : ∃ a, v = c.enc a then some h.choose else none
theorem dec_enc (c : Cd α) (a : α) : c.dec (c.enc a) = some a := by
  have h : ∃ b, c.enc a = c.enc b := ⟨a, rfl⟩
  unfold dec
  rw [dif_pos h]
  exact congrArg some (c.inj _ _ h.choose_spec).symm
theorem dec_some {c : Cd α} {v : AV} {a : α} (h : c.dec v = some a) : v = c.enc a := by
  unfold dec at h
  split at h
  · rename_i hx
    simp only [Option.some.injEq] at h
    rw [← h]
    exact hx.choose_spec
  · cases h

noncomputable def f0 (r : AV) : List AV → Option AV
  | [] => some r
  | _ => none
end Cd

/-- A function of 1, where a condition holds. -/
noncomputable def p1 {α ρ : Type} (a : Cd α) (r : ρ → AV) (P : α → Prop) (f : α → ρ) : List AV → Option AV
  | [v0] => (a.dec v0).bind fun x0 => (open Classical in if P x0 then some (r (f x0)) else none)
  | _ => none
@[simp] theorem p1_app {α ρ : Type} {a : Cd α} {r : ρ → AV} {P : α → Prop} {f : α → ρ} {v0 : AV} : p1 a r P f [v0] = (a.dec v0).bind fun x0 => (open Classical in if P x0 then some (r (f x0)) else none) := id rfl
theorem still1 {E : Env} (hb : BaseOK E) (T : List (FuncId × Pol)) (hT : TabOK E T) {f : FuncId} {α ρ : Type} {a : Cd α} {r : ρ → AV} {P : α → Prop} {F : α → ρ}
    (h : ∀ x0, P x0 → Evs fun n _ => callF (E.with (polT T)) (n + 1) AV f [a.enc x0] [] (fun v G => A.freezeB true 64 G v) = some (r (F x0))) : PolOK E f (.still (p1 a r P F)) :=
  still_of hb T hT fun ar v hv => by
    unfold p1 at hv
    split at hv
    · simp only [Option.bind_eq_some_iff] at hv
      obtain ⟨x0, h0, hv⟩ := hv
      split at hv
      · rename_i hp
        cases hv
        rw [Cd.dec_some h0]
        exact h x0 hp
      · cases hv
    · cases hv
/-- A function of 2, where a condition holds. -/
noncomputable def p2 {α β ρ : Type} (a : Cd α) (b : Cd β) (r : ρ → AV) (P : α → β → Prop) (f : α → β → ρ) : List AV → Option AV
  | [v0, v1] => (a.dec v0).bind fun x0 => (b.dec v1).bind fun x1 => (open Classical in if P x0 x1 then some (r (f x0 x1)) else none)
  | _ => none
@[simp] theorem p2_app {α β ρ : Type} {a : Cd α} {b : Cd β} {r : ρ → AV} {P : α → β → Prop} {f : α → β → ρ} {v0 v1 : AV} : p2 a b r P f [v0, v1] = (a.dec v0).bind fun x0 => (b.dec v1).bind fun x1 => (open Classical in if P x0 x1 then some (r (f x0 x1)) else none) := id rfl
theorem still2 {E : Env} (hb : BaseOK E) (T : List (FuncId × Pol)) (hT : TabOK E T) {f : FuncId} {α β ρ : Type} {a : Cd α} {b : Cd β} {r : ρ → AV} {P : α → β → Prop} {F : α → β → ρ}
    (h : ∀ x0 x1, P x0 x1 → Evs fun n _ => callF (E.with (polT T)) (n + 1) AV f [a.enc x0, b.enc x1] [] (fun v G => A.freezeB true 64 G v) = some (r (F x0 x1))) : PolOK E f (.still (p2 a b r P F)) :=
  still_of hb T hT fun ar v hv => by
    unfold p2 at hv
    split at hv
    · simp only [Option.bind_eq_some_iff] at hv
      obtain ⟨x0, h0, x1, h1, hv⟩ := hv
      split at hv
      · rename_i hp
        cases hv
        rw [Cd.dec_some h0, Cd.dec_some h1]
        exact h x0 x1 hp
      · cases hv
    · cases hv
/-- A function of 3, where a condition holds. -/
noncomputable def p3 {α β γ ρ : Type} (a : Cd α) (b : Cd β) (c : Cd γ) (r : ρ → AV) (P : α → β → γ → Prop) (f : α → β → γ → ρ) : List AV → Option AV
  | [v0, v1, v2] => (a.dec v0).bind fun x0 => (b.dec v1).bind fun x1 => (c.dec v2).bind fun x2 => (open Classical in if P x0 x1 x2 then some (r (f x0 x1 x2)) else none)
  | _ => none
@[simp] theorem p3_app {α β γ ρ : Type} {a : Cd α} {b : Cd β} {c : Cd γ} {r : ρ → AV} {P : α → β → γ → Prop} {f : α → β → γ → ρ} {v0 v1 v2 : AV} : p3 a b c r P f [v0, v1, v2] = (a.dec v0).bind fun x0 => (b.dec v1).bind fun x1 => (c.dec v2).bind fun x2 => (open Classical in if P x0 x1 x2 then some (r (f x0 x1 x2)) else none) := id rfl
theorem still3 {E : Env} (hb : BaseOK E) (T : List (FuncId × Pol)) (hT : TabOK E T) {f : FuncId} {α β γ ρ : Type} {a : Cd α} {b : Cd β} {c : Cd γ} {r : ρ → AV} {P : α → β → γ → Prop} {F : α → β → γ → ρ}
    (h : ∀ x0 x1 x2, P x0 x1 x2 → Evs fun n _ => callF (E.with (polT T)) (n + 1) AV f [a.enc x0, b.enc x1, c.enc x2] [] (fun v G => A.freezeB true 64 G v) = some (r (F x0 x1 x2))) : PolOK E f (.still (p3 a b c r P F)) :=
  still_of hb T hT fun ar v hv => by
    unfold p3 at hv
    split at hv
    · simp only [Option.bind_eq_some_iff] at hv
      obtain ⟨x0, h0, x1, h1, x2, h2, hv⟩ := hv
      split at hv
      · rename_i hp
        cases hv
        rw [Cd.dec_some h0, Cd.dec_some h1, Cd.dec_some h2]
        exact h x0 x1 x2 hp
      · cases hv
    · cases hv
/-- A function of 4, where a condition holds. -/
noncomputable def p4 {α β γ δ ρ : Type} (a : Cd α) (b : Cd β) (c : Cd γ) (d : Cd δ) (r : ρ → AV) (P : α → β → γ → δ → Prop) (f : α → β → γ → δ → ρ) : List AV → Option AV
  | [v0, v1, v2, v3] => (a.dec v0).bind fun x0 => (b.dec v1).bind fun x1 => (c.dec v2).bind fun x2 => (d.dec v3).bind fun x3 => (open Classical in if P x0 x1 x2 x3 then some (r (f x0 x1 x2 x3)) else none)
  | _ => none
@[simp] theorem p4_app {α β γ δ ρ : Type} {a : Cd α} {b : Cd β} {c : Cd γ} {d : Cd δ} {r : ρ → AV} {P : α → β → γ → δ → Prop} {f : α → β → γ → δ → ρ} {v0 v1 v2 v3 : AV} : p4 a b c d r P f [v0, v1, v2, v3] = (a.dec v0).bind fun x0 => (b.dec v1).bind fun x1 => (c.dec v2).bind fun x2 => (d.dec v3).bind fun x3 => (open Classical in if P x0 x1 x2 x3 then some (r (f x0 x1 x2 x3)) else none) := id rfl
theorem still4 {E : Env} (hb : BaseOK E) (T : List (FuncId × Pol)) (hT : TabOK E T) {f : FuncId} {α β γ δ ρ : Type} {a : Cd α} {b : Cd β} {c : Cd γ} {d : Cd δ} {r : ρ → AV} {P : α → β → γ → δ → Prop} {F : α → β → γ → δ → ρ}
    (h : ∀ x0 x1 x2 x3, P x0 x1 x2 x3 → Evs fun n _ => callF (E.with (polT T)) (n + 1) AV f [a.enc x0, b.enc x1, c.enc x2, d.enc x3] [] (fun v G => A.freezeB true 64 G v) = some (r (F x0 x1 x2 x3))) : PolOK E f (.still (p4 a b c d r P F)) :=
  still_of hb T hT fun ar v hv => by
    unfold p4 at hv
    split at hv
    · simp only [Option.bind_eq_some_iff] at hv
      obtain ⟨x0, h0, x1, h1, x2, h2, x3, h3, hv⟩ := hv
      split at hv
      · rename_i hp
        cases hv
        rw [Cd.dec_some h0, Cd.dec_some h1, Cd.dec_some h2, Cd.dec_some h3]
        exact h x0 x1 x2 x3 hp
      · cases hv
    · cases hv
/-- A function of 5, where a condition holds. -/
noncomputable def p5 {α β γ δ ε ρ : Type} (a : Cd α) (b : Cd β) (c : Cd γ) (d : Cd δ) (e : Cd ε) (r : ρ → AV) (P : α → β → γ → δ → ε → Prop) (f : α → β → γ → δ → ε → ρ) : List AV → Option AV
  | [v0, v1, v2, v3, v4] => (a.dec v0).bind fun x0 => (b.dec v1).bind fun x1 => (c.dec v2).bind fun x2 => (d.dec v3).bind fun x3 => (e.dec v4).bind fun x4 => (open Classical in if P x0 x1 x2 x3 x4 then some (r (f x0 x1 x2 x3 x4)) else none)
  | _ => none
@[simp] theorem p5_app {α β γ δ ε ρ : Type} {a : Cd α} {b : Cd β} {c : Cd γ} {d : Cd δ} {e : Cd ε} {r : ρ → AV} {P : α → β → γ → δ → ε → Prop} {f : α → β → γ → δ → ε → ρ} {v0 v1 v2 v3 v4 : AV} : p5 a b c d e r P f [v0, v1, v2, v3, v4] = (a.dec v0).bind fun x0 => (b.dec v1).bind fun x1 => (c.dec v2).bind fun x2 => (d.dec v3).bind fun x3 => (e.dec v4).bind fun x4 => (open Classical in if P x0 x1 x2 x3 x4 then some (r (f x0 x1 x2 x3 x4)) else none) := id rfl
theorem still5 {E : Env} (hb : BaseOK E) (T : List (FuncId × Pol)) (hT : TabOK E T) {f : FuncId} {α β γ δ ε ρ : Type} {a : Cd α} {b : Cd β} {c : Cd γ} {d : Cd δ} {e : Cd ε} {r : ρ → AV} {P : α → β → γ → δ → ε → Prop} {F : α → β → γ → δ → ε → ρ}
    (h : ∀ x0 x1 x2 x3 x4, P x0 x1 x2 x3 x4 → Evs fun n _ => callF (E.with (polT T)) (n + 1) AV f [a.enc x0, b.enc x1, c.enc x2, d.enc x3, e.enc x4] [] (fun v G => A.freezeB true 64 G v) = some (r (F x0 x1 x2 x3 x4))) : PolOK E f (.still (p5 a b c d e r P F)) :=
  still_of hb T hT fun ar v hv => by
    unfold p5 at hv
    split at hv
    · simp only [Option.bind_eq_some_iff] at hv
      obtain ⟨x0, h0, x1, h1, x2, h2, x3, h3, x4, h4, hv⟩ := hv
      split at hv
      · rename_i hp
        cases hv
        rw [Cd.dec_some h0, Cd.dec_some h1, Cd.dec_some h2, Cd.dec_some h3, Cd.dec_some h4]
        exact h x0 x1 x2 x3 x4 hp
      · cases hv
    · cases hv
/-- A function of 6, where a condition holds. -/
noncomputable def p6 {α β γ δ ε ζ ρ : Type} (a : Cd α) (b : Cd β) (c : Cd γ) (d : Cd δ) (e : Cd ε) (f6 : Cd ζ) (r : ρ → AV) (P : α → β → γ → δ → ε → ζ → Prop) (f : α → β → γ → δ → ε → ζ → ρ) : List AV → Option AV
  | [v0, v1, v2, v3, v4, v5] => (a.dec v0).bind fun x0 => (b.dec v1).bind fun x1 => (c.dec v2).bind fun x2 => (d.dec v3).bind fun x3 => (e.dec v4).bind fun x4 => (f6.dec v5).bind fun x5 => (open Classical in if P x0 x1 x2 x3 x4 x5 then some (r (f x0 x1 x2 x3 x4 x5)) else none)
  | _ => none
@[simp] theorem p6_app {α β γ δ ε ζ ρ : Type} {a : Cd α} {b : Cd β} {c : Cd γ} {d : Cd δ} {e : Cd ε} {f6 : Cd ζ} {r : ρ → AV} {P : α → β → γ → δ → ε → ζ → Prop} {f : α → β → γ → δ → ε → ζ → ρ} {v0 v1 v2 v3 v4 v5 : AV} : p6 a b c d e f6 r P f [v0, v1, v2, v3, v4, v5] = (a.dec v0).bind fun x0 => (b.dec v1).bind fun x1 => (c.dec v2).bind fun x2 => (d.dec v3).bind fun x3 => (e.dec v4).bind fun x4 => (f6.dec v5).bind fun x5 => (open Classical in if P x0 x1 x2 x3 x4 x5 then some (r (f x0 x1 x2 x3 x4 x5)) else none) := id rfl
theorem still6 {E : Env} (hb : BaseOK E) (T : List (FuncId × Pol)) (hT : TabOK E T) {f : FuncId} {α β γ δ ε ζ ρ : Type} {a : Cd α} {b : Cd β} {c : Cd γ} {d : Cd δ} {e : Cd ε} {f6 : Cd ζ} {r : ρ → AV} {P : α → β → γ → δ → ε → ζ → Prop} {F : α → β → γ → δ → ε → ζ → ρ}
    (h : ∀ x0 x1 x2 x3 x4 x5, P x0 x1 x2 x3 x4 x5 → Evs fun n _ => callF (E.with (polT T)) (n + 1) AV f [a.enc x0, b.enc x1, c.enc x2, d.enc x3, e.enc x4, f6.enc x5] [] (fun v G => A.freezeB true 64 G v) = some (r (F x0 x1 x2 x3 x4 x5))) : PolOK E f (.still (p6 a b c d e f6 r P F)) :=
  still_of hb T hT fun ar v hv => by
    unfold p6 at hv
    split at hv
    · simp only [Option.bind_eq_some_iff] at hv
      obtain ⟨x0, h0, x1, h1, x2, h2, x3, h3, x4, h4, x5, h5, hv⟩ := hv
      split at hv
      · rename_i hp
        cases hv
        rw [Cd.dec_some h0, Cd.dec_some h1, Cd.dec_some h2, Cd.dec_some h3, Cd.dec_some h4, Cd.dec_some h5]
        exact h x0 x1 x2 x3 x4 x5 hp
      · cases hv
    · cases hv

/-! ### the codes of plain kinds -/
def cI (k : IntKind) : Cd Int := ⟨.int k, fun _ _ h => by simpa using h, fun _ => rfl⟩
def cU32 : Cd UInt32 := ⟨fun x => .int .u32 x.toNat, fun a b h => by
  have : (a.toNat : Int) = b.toNat := by simpa using h
  exact UInt32.toNat_inj.1 (by omega), fun _ => rfl⟩
def cB : Cd Bool := ⟨.bool, fun _ _ h => by simpa using h, fun _ => rfl⟩
def cS : Cd (List UInt8) := ⟨.str, fun _ _ h => by simpa using h, fun _ => rfl⟩

theorem map_inj {α β : Type} {f : α → β} (hf : ∀ a b, f a = f b → a = b) : ∀ {l m : List α}, l.map f = m.map f → l = m
  | [], [], _ => rfl
  | [], _ :: _, h => by simp at h
  | _ :: _, [], h => by simp at h
  | a :: l, b :: m, h => by
    simp only [List.map_cons, List.cons.injEq] at h
    rw [hf _ _ h.1, map_inj hf h.2]

/-- A slice: nil, or its elements. -/
def eL {α : Type} (sz : Nat) (e : α → AV) : Option (List α) → AV
  | none => .nils
  | some l => .sh sz (l.map e)
def cL {α : Type} (sz : Nat) (c : Cd α) : Cd (Option (List α)) := ⟨eL sz c.enc, fun a b h => by
  cases a <;> cases b <;> simp [eL] at h
  · rfl
  · rw [map_inj c.inj h], fun a => by cases a <;> rfl⟩
abbrev eU (k : IntKind) (n : Nat) : AV := .int k n

section
variable {α : Type} {sz : Nat} {e : α → AV} {H : Heap}
@[simp] theorem leaf_eL {o : Option (List α)} : (eL sz e o).leaf = true := by cases o <;> rfl
@[simp] theorem imm1_eL {o : Option (List α)} : (eL sz e o).imm1 = true := by cases o <;> rfl
@[simp] theorem imm_eL {o : Option (List α)} : (eL sz e o).imm = true := by cases o <;> rfl
@[simp] theorem cells_eL {o : Option (List α)} : (eL sz e o).cells = [eL sz e o] := by cases o <;> rfl
@[simp] theorem isDef_eL {o : Option (List α)} : (eL sz e o).isDef = true := by cases o <;> rfl
@[simp] theorem one_eL {o : Option (List α)} : (eL sz e o).one = true := by cases o <;> rfl
@[simp] theorem len_eL {o : Option (List α)} : A.len (eL sz e o) H = some (.int .i64 (o.getD []).length) := by cases o <;> simp [eL, A.len]
@[simp] theorem read_eL {o : Option (List α)} : A.read sz (eL sz e o) H = some ((o.getD []).map e) := by cases o <;> simp [eL, A.read]
theorem idx_eL {o : Option (List α)} {k : IntKind} {i : Nat} (h : i < (o.getD []).length) : A.idx sz (eL sz e o) (.int k (i : Int)) H = some (.rop (e ((o.getD [])[i])).cells) := by
  cases o with
  | none => simp at h
  | some l =>
    simp only [Option.getD_some] at h ⊢
    have hl : i < (l.map e).length := by simpa using h
    simp only [eL, A.idx]
    rw [if_pos ⟨by omega, by omega, trivial⟩]
    simp [h]
end

@[simp] theorem enc_cI (k : IntKind) (n : Int) : (cI k).enc n = .int k n := id rfl
@[simp] theorem enc_cU32 (x : UInt32) : cU32.enc x = .int .u32 x.toNat := id rfl
@[simp] theorem enc_cB (b : Bool) : cB.enc b = .bool b := id rfl
@[simp] theorem enc_cS (s : List UInt8) : cS.enc s = .str s := id rfl
@[simp] theorem enc_cL {α : Type} (sz : Nat) (c : Cd α) (o : Option (List α)) : (cL sz c).enc o = eL sz c.enc o := id rfl
@[simp] theorem dec_cI (k : IntKind) (n : Int) : (cI k).dec (.int k n) = some n := (cI k).dec_enc n
@[simp] theorem dec_cB (b : Bool) : cB.dec (.bool b) = some b := cB.dec_enc b
@[simp] theorem dec_cS (s : List UInt8) : cS.dec (.str s) = some s := cS.dec_enc s
@[simp] theorem dec_cU32 (x : UInt32) : cU32.dec (.int .u32 x.toNat) = some x := cU32.dec_enc x
@[simp] theorem dec_cL {α : Type} (sz : Nat) (c : Cd α) (o : Option (List α)) : (cL sz c).dec (eL sz c.enc o) = some o := (cL sz c).dec_enc o

end Go.Den
