/- DEN, part Y: regions whose order is open: every order comes to the same. -/
import Derived.Test.YtikkpecdkdgmfaaDoorDenW
namespace Go.Den
open Go.RowKit

/-- What the text's order does at an operation. -/
inductive TextStep (E : Env) (cf : CallFn) (sites : List (Nat × Nat × Nat)) (rid : Nat) (ops : Array Oper) (i : Nat) (o : Oper) (r : Rec) : Prop
  | plain (st' : St) (hg : o.guard = none) (h : opK E cf (siteOf sites rid i) o r.st r.H (fun x s G => some (x, s, G)) = some (r.x, st', r.H1)) (h1 : r.st1 = stPut st' o.dst r.x)
  | on (j : Nat) (want : Bool) (v : AV) (hg : o.guard = some (j, want)) (hb : guardOf ops r.st j want = some want) (hk : keepsL r.st o = true) (hx : r.x = .val v)
      (h : opK E cf none o r.st r.H (fun x s G => some (x, s, G)) = some (r.x, r.st, r.H1)) (h1 : r.st1 = stPut r.st o.dst r.x)
  | off (j : Nat) (want b : Bool) (hg : o.guard = some (j, want)) (hb : guardOf ops r.st j want = some b) (hne : (b == want) = false) (hx : r.x = .val (.tup [])) (hH : r.H1 = r.H) (h1 : r.st1 = stPut r.st o.dst r.x)

inductive Run (E : Env) (cf : CallFn) (sites : List (Nat × Nat × Nat)) (rid : Nat) (ops : Array Oper) : Nat → List Oper → St → Heap → List Rec → St → Heap → Prop
  | nil (i : Nat) (st : St) (H : Heap) : Run E cf sites rid ops i [] st H [] st H
  | cons (i : Nat) (o : Oper) (os : List Oper) (r : Rec) (rs : List Rec) (st' : St) (H' : Heap) : TextStep E cf sites rid ops i o r → Run E cf sites rid ops (i + 1) os r.st1 r.H1 rs st' H' →
      Run E cf sites rid ops i (o :: os) r.st r.H (r :: rs) st' H'

section
variable {E : Env} {cf : CallFn} {sites : List (Nat × Nat × Nat)} {rid : Nat} {ops : Array Oper} {d : DInfo} {st' : St} {H' : Heap}

theorem keepsL_touch {st : St} {o : Oper} (hk : keepsL st o = true) (s : Nat) : touchOf st none o ≠ some (s, true) := fun e => by
  unfold touchOf at e
  unfold keepsL at hk
  cases ho : o.op <;> simp only [ho] at e hk
  case store t y z =>
    cases y with
    | tmp q =>
      dsimp only at e hk
      cases hq : st.get q <;> simp only [hq] at e hk <;> first | (cases hk; done) | (cases e; done)
    | _ => cases e
  case load t y =>
    cases y with
    | tmp q =>
      dsimp only at e
      cases hq : st.get q <;> simp [hq] at e
    | _ => cases e
  all_goals cases e

theorem opsD_run (hcn : CNat cf) (H0 : Heap) : ∀ (l : List Oper) (i : Nat) (tr : List Rec) (st : St) (H : Heap), opsD E cf sites d rid ops H0 l i tr st H (fun s G => some (s, G)) = some (st', H') →
    ∃ rs, Run E cf sites rid ops i l st H rs st' H' ∧ drawOk E sites d rid ops H0 (tr.reverse ++ rs) = true
  | [], i, tr, st, H, h => by
    unfold opsD at h
    cases hd : drawOk E sites d rid ops H0 tr.reverse
    · rw [hd] at h; cases h
    · rw [hd] at h
      simp only [cond_true, Option.some.injEq, Prod.mk.injEq] at h
      obtain ⟨rfl, rfl⟩ := h
      exact ⟨[], .nil _ _ _, by rw [List.append_nil]; exact hd⟩
  | o :: l, i, tr, st, H, h => by
    unfold opsD at h
    split at h
    · rename_i hg
      rw [opK_nat hcn] at h
      simp only [Option.bind_eq_some_iff] at h
      obtain ⟨⟨x, st1, H1⟩, h1, h2⟩ := h
      obtain ⟨rs, k1, k2⟩ := opsD_run hcn H0 l _ _ _ _ h2
      refine ⟨⟨st, H, x, stPut st1 o.dst x, H1⟩ :: rs, .cons i o l ⟨st, H, x, stPut st1 o.dst x, H1⟩ rs _ _ (.plain st1 hg h1 rfl) k1, ?_⟩
      simpa using k2
    · rename_i j want hg
      split at h
      · rename_i b hb
        split at h
        · rename_i p hp
          unfold guarded at hp
          obtain ⟨rs, k1, k2⟩ := opsD_run hcn H0 l _ _ _ _ h
          refine ⟨⟨st, H, .val p.1, stPut st o.dst (.val p.1), p.2⟩ :: rs, .cons i o l ⟨st, H, .val p.1, stPut st o.dst (.val p.1), p.2⟩ rs _ _ ?_ k1, by simpa using k2⟩
          cases hbw : (b == want)
          · rw [hbw] at hp
            simp only [cond_false, Option.some.injEq] at hp
            subst hp
            exact .off j want b hg hb hbw rfl rfl rfl
          · rw [hbw] at hp
            simp only [cond_true] at hp
            have hbe : b = want := by simpa using hbw
            subst hbe
            refine .on j b p.1 hg hb ?_ rfl (guarded_ok hcn hp) rfl
            unfold guardedK at hp
            cases hk : keepsL st o
            · rw [hk] at hp; cases hp
            · rfl
        · cases h
      · cases h

/-- The frame ahead of the k-th operation. -/
def frameAt (rs : List Rec) (st' : St) (k : Nat) : St := match rs[k]? with | some r => r.st | none => st'
def heapAt (rs : List Rec) (H' : Heap) (k : Nat) : Heap := match rs[k]? with | some r => r.H | none => H'
def valAt (rs : List Rec) (k : Nat) : SV := match rs[k]? with | some r => r.x | none => .no

theorem run_start {i : Nat} {l : List Oper} {st : St} {H : Heap} {rs : List Rec} (h : Run E cf sites rid ops i l st H rs st' H') : frameAt rs st' 0 = st ∧ heapAt rs H' 0 = H ∧ rs.length = l.length := by
  induction h with
  | nil => exact ⟨rfl, rfl, rfl⟩
  | cons i o os r rs st' H' h1 h2 ih => exact ⟨rfl, rfl, by simp [ih.2.2]⟩

theorem run_at {i : Nat} {l : List Oper} {st : St} {H : Heap} {rs : List Rec} (h : Run E cf sites rid ops i l st H rs st' H') : ∀ {k : Nat} {o : Oper}, l[k]? = some o →
    rs[k]? = some ⟨frameAt rs st' k, heapAt rs H' k, valAt rs k, frameAt rs st' (k + 1), heapAt rs H' (k + 1)⟩ ∧ TextStep E cf sites rid ops (i + k) o ⟨frameAt rs st' k, heapAt rs H' k, valAt rs k, frameAt rs st' (k + 1), heapAt rs H' (k + 1)⟩ := by
  induction h with
  | nil => intro k o hk; simp at hk
  | cons i o os r rs st' H' h1 h2 ih =>
    intro k q hk
    cases k with
    | zero =>
      obtain ⟨e1, e2, _⟩ := run_start h2
      simp only [List.getElem?_cons_zero, Option.some.injEq] at hk
      subst hk
      have hr : (⟨frameAt (r :: rs) st' 0, heapAt (r :: rs) H' 0, valAt (r :: rs) 0, frameAt (r :: rs) st' 1, heapAt (r :: rs) H' 1⟩ : Rec) = r := by
        have a1 : frameAt (r :: rs) st' 1 = r.st1 := e1
        have a2 : heapAt (r :: rs) H' 1 = r.H1 := e2
        rw [a1, a2]
        rfl
      rw [hr]
      exact ⟨rfl, h1⟩
    | succ k =>
      have := ih (k := k) (o := q) (by simpa using hk)
      have e : (i + 1 + k) = i + (k + 1) := by omega
      rw [e] at this
      exact this

end
end Go.Den
