/- DEN, part W: regions whose order is open. -/
import Derived.Test.YtikkpecdkdgmfaaDoorDenV
import Derived.Orders
namespace Go.Den
open Go.RowKit

mutual
theorem AV.beq_eq : ∀ (a b : AV), AV.beq a b = true → a = b
  | .undef, b, h | .nilp, b, h | .nils, b, h | .nilf, b, h | .nili, b, h | .nilm, b, h => by cases b <;> first | rfl | cases h
  | .bool x, b, h => by cases b <;> first | (cases h; done) | (simp only [AV.beq, beq_iff_eq] at h; rw [h])
  | .int k x, b, h => by cases b <;> first | (cases h; done) | (simp only [AV.beq, Bool.and_eq_true, decide_eq_true_eq] at h; rw [h.1, h.2])
  | .str x, b, h => by cases b <;> first | (cases h; done) | (simp only [AV.beq, decide_eq_true_eq] at h; rw [h])
  | .ptr x y z w, b, h => by cases b <;> first | (cases h; done) | (simp only [AV.beq, Bool.and_eq_true, decide_eq_true_eq] at h; obtain ⟨⟨⟨rfl, rfl⟩, rfl⟩, rfl⟩ := h; rfl)
  | .sl x y z w v, b, h => by cases b <;> first | (cases h; done) | (simp only [AV.beq, Bool.and_eq_true, decide_eq_true_eq] at h; obtain ⟨⟨⟨⟨rfl, rfl⟩, rfl⟩, rfl⟩, rfl⟩ := h; rfl)
  | .rop x, b, h => by cases b <;> first | (cases h; done) | (rw [AV.beqs_eq x _ h])
  | .sh z x, b, h => by cases b <;> first | (cases h; done) | (simp only [AV.beq, Bool.and_eq_true, decide_eq_true_eq] at h; rw [h.1, AV.beqs_eq x _ h.2])
  | .agg x, b, h => by cases b <;> first | (cases h; done) | (rw [AV.beqs_eq x _ h])
  | .tup x, b, h => by cases b <;> first | (cases h; done) | (rw [AV.beqs_eq x _ h])
  | .fn f x y, b, h => by cases b <;> first | (cases h; done) | (simp only [AV.beq, Bool.and_eq_true, decide_eq_true_eq] at h; rw [h.1.1, AV.beqs_eq x _ h.1.2, AV.beqs_eq y _ h.2])
  | .iface t x, b, h => by cases b <;> first | (cases h; done) | (simp only [AV.beq, Bool.and_eq_true, decide_eq_true_eq] at h; rw [h.1, AV.beq_eq x _ h.2])
  | .mp x, b, h => by cases b <;> first | (cases h; done) | (simp only [AV.beq, decide_eq_true_eq] at h; rw [h])
  | .it x, b, h => by cases b <;> first | (cases h; done) | (simp only [AV.beq, decide_eq_true_eq] at h; rw [h])
theorem AV.beqs_eq : ∀ (a b : List AV), AV.beqs a b = true → a = b
  | [], b, h => by cases b <;> first | rfl | cases h
  | x :: xs, b, h => by
    cases b with
    | nil => cases h
    | cons y ys =>
      simp only [AV.beqs, Bool.and_eq_true] at h
      rw [AV.beq_eq x y h.1, AV.beqs_eq xs ys h.2]
end

section
variable {E : Env} {cf : CallFn} {C C' : Ctx} {lam : Nat → Nat} {st st2 : St} {o : Oper} {site : Option Nat} {x : SV} {st' : St} {H H' G : Heap}

/-- The same result, in another frame and another version of the small heap. -/
theorem quiet_move (hcn : CNat cf) (hl : isLoud E site o = false) (ht : ∀ s, touchOf st site o ≠ some (s, true)) (h : opK E cf site o st H (fun x s G => some (x, s, G)) = some (x, st', H'))
    (hG : (reads o = false ∨ heapy st o = false) ∨ sameAt E o ⟨st, H, x, st', H'⟩ G = true ∨ G = H)
    (ha : ∀ t, Operand.tmp t ∈ o.op.operands.toList → st2.get t = st.get t) (hv : ∀ s, touchOf st site o = some (s, false) → st2.var s = st.var s) :
    st' = st ∧ H' = H ∧ opK E cf site o st2 G (fun x s G => some (x, s, G)) = some (x, st2, G) := by
  have h0 := h
  rw [quiet_ok hl ht] at h
  simp only [Option.bind_eq_some_iff, Option.some.injEq, Prod.mk.injEq] at h
  obtain ⟨x0, hq, rfl, rfl, rfl⟩ := h
  refine ⟨rfl, rfl, ?_⟩
  have hqG : quietK E site o st G = some x0 := by
    rcases hG with hG | hG | rfl
    · rw [quiet_still (G := G) (H := H) hl ht hG]; exact hq
    · cases hrd : reads o
      · rw [quiet_still (G := G) (H := H) hl ht (.inl hrd)]; exact hq
      unfold sameAt at hG
      dsimp only at hG
      rw [← site_reads (site := site) hrd, show opK E noCalls site o st G (fun x _ _ => some x) = quietK E site o st G from rfl] at hG
      split at hG
      · rename_i w hw
        split at hG
        · rename_i v
          rw [hw, AV.beq_eq _ _ hG]
        · cases hG
      · cases hG
    · exact hq
  have key : opK E cf site o st2 G (fun x s G => some (x, s, G)) = opK E cf site o st G (fun x _ G => some (x, st2, G)) := opK_eq ha (fun s w e => by
    cases w with
    | true => exact absurd e (ht s)
    | false => exact ⟨rfl, hv s e⟩) (fun _ _ => rfl)
  rw [key, quiet_ok hl ht, hqG]
  rfl

theorem loud_move (hcn : CNat cf) (ht : ∀ s, touchOf st site o ≠ some (s, true)) (h : opK E cf site o st H (fun x s G => some (x, s, G)) = some (x, st', H'))
    (ha : ∀ t, Operand.tmp t ∈ o.op.operands.toList → st2.get t = st.get t) (hv : ∀ s, touchOf st site o = some (s, false) → st2.var s = st.var s) :
    st' = st ∧ opK E cf site o st2 H (fun x s G => some (x, s, G)) = some (x, st2, H') := by
  have h1 := op_keeps' hcn ht h
  subst h1
  refine ⟨rfl, ?_⟩
  have key : opK E cf site o st2 H (fun x s G => some (x, s, G)) = opK E cf site o st' H (fun x _ G => some (x, st2, G)) := opK_eq ha (fun s w e => by
    cases w with
    | true => exact absurd e (ht s)
    | false => exact ⟨rfl, hv s e⟩) (fun _ _ => rfl)
  rw [key, opK_nat hcn, h]
  rfl

end
end Go.Den
