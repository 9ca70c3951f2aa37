/- DEN, part Ze: regions whose order is open: done. -/
import Derived.Test.YtikkpecdkdgmfaaDoorDenZd
namespace Go.Den
open Go.RowKit

section
variable {E : Env} {cf : CallFn}

theorem draw_ok (hcn : CNat cf) (hck : CallKOK E cf) (hm : E.P.follows .mixedOrders = true) (fa : FAnn) : DrawOK E cf fa (staticOk E fa.sites) := by
  intro rid ops d st C lam a st' H' Q hok h hr hf hq
  obtain ⟨rs, hrun, hd⟩ := opsD_run hcn C.H _ _ _ _ _ h
  rw [List.reverse_nil, List.nil_append] at hd
  have hK := textOK hok
  obtain ⟨s0, s1, s2⟩ := run_start hrun
  have hat : ∀ (k : Nat) (o : Oper), ops[k]? = some o → rs[k]? = some ⟨frameAt rs st' k, heapAt rs H' k, valAt rs k, frameAt rs st' (k + 1), heapAt rs H' (k + 1)⟩ ∧ TextStep E cf fa.sites rid ops k o ⟨frameAt rs st' k, heapAt rs H' k, valAt rs k, frameAt rs st' (k + 1), heapAt rs H' (k + 1)⟩ := fun k o ho => by
    have := run_at hrun (k := k) (o := o) (by rw [Array.getElem?_toList]; exact ho)
    rw [Nat.zero_add] at this
    exact this
  have hT : TextRun E cf fa.sites rid ops (frameAt rs st') (heapAt rs H') (valAt rs) := ⟨fun i o ho => (hat i o ho).2⟩
  unfold drawOk at hd
  simp only [Bool.and_eq_true] at hd
  have hend : frameAt rs st' ops.size = st' ∧ heapAt rs H' ops.size = H' := by
    have : rs[ops.size]? = none := List.getElem?_eq_none (by rw [s2, Array.length_toList]; exact Nat.le_refl _)
    unfold frameAt heapAt
    rw [this]
    exact ⟨rfl, rfl⟩
  refine wp_region_any hm ?_
  let C1 : Ctx := { C with w := { C.w with drawn := C.w.drawn + 1 } }
  have ev : EvL C C1 := ⟨⟨rfl, rfl, rfl, Nat.le_refl _, fun _ _ _ => ⟨rfl, rfl⟩, Nat.le_refl _, fun _ _ v' sz' ty' es' h => ⟨v', es', h, Nat.le_refl _, fun _ => ⟨rfl, fun cells t fr h => ⟨cells, t, fr, h, rfl⟩⟩⟩,
    fun _ _ l pos h => ⟨⟨l, pos, h⟩, rfl⟩, fun _ _ k e es h => ⟨⟨k, e, es, h⟩, rfl⟩⟩, fun _ _ _ h => ⟨rfl, h⟩⟩
  have hr1 : HR E C1 := hr.step ev.ev (fun id v sz ty es h => .inl ⟨h, rfl, (hr.row id v sz ty es h).2.2.1, rfl⟩) (fun id l pos h => .inl ⟨h, rfl, (hr.iter id l pos h).1, rfl⟩) hr.new
  refine any_walk hcn hck hT hK (vers := C.H :: versOf E fa.sites rid ops.toList 0 rs) (C0 := C) (Q := Q) ?_ ?_ (fun k hk => vers_louds hcn hrun hk) ?_ ops.size _ a C1 lam st (by simp) ?_ ?_ ?_ hr1 ev.ev (hf.ev ev) ?_
  · intro i j o q s w w' hij hi hj h1 h2 hw
    have := touches_ok ops.toList 0 rs hd.1 i j o q _ _ s w w' hij (by rw [Array.getElem?_toList]; exact hi) (by rw [Array.getElem?_toList]; exact hj) (hat i o hi).1 (hat j q hj).1 (by rw [Nat.zero_add]; exact h1) (by rw [Nat.zero_add]; exact h2) hw
    simpa using this
  · intro i o ho h1 h2 h3 h4 lo hi m G hw h5 h6 hG
    have hw' := hd.2
    split at hw'
    · rename_i hnil
      rw [hnil] at hw
      cases hw
    · have hl : isLoud E (siteAt fa.sites rid i o) o = false := by
        unfold loudAt at h1
        rw [ho] at h1
        exact h1
      exact winsOk_get ops.toList 0 rs hw' i o _ lo hi m G (by rw [Array.getElem?_toList]; exact ho) (hat i o ho).1 (by rw [Nat.zero_add]; exact hw) (by rw [Nat.zero_add]; exact hl) h2 h3 h4 h5 h6 hG
  · intro a' w' hp
    rw [hend.1, hend.2] at hp
    exact hq a' w' hp
  · intro i o ho hm
    exfalso
    have : memOf (Array.replicate ops.size false) i = false := by
      unfold memOf
      rw [Array.getD_eq_getD_getElem?, Array.getElem?_replicate]
      split <;> rfl
    rw [this] at hm
    cases hm
  · rw [List.countP_eq_length_filter, List.filter_eq_self.2, List.length_range]
    intro i hi
    have : memOf (Array.replicate ops.size false) i = false := by
      unfold memOf
      rw [Array.getD_eq_getD_getElem?, Array.getElem?_replicate]
      split <;> rfl
    rw [this]
    rfl
  · have : countLoud E fa.sites rid ops (memOf (Array.replicate ops.size false)) = louds E fa.sites rid ops 0 := countLoud_first (Nat.zero_le _) fun j hj _ => by
      have : memOf (Array.replicate ops.size false) j = false := by
        unfold memOf
        rw [Array.getD_eq_getD_getElem?, Array.getElem?_replicate]
        split <;> rfl
      rw [this]
      simp
    rw [this]
    rfl
  · have hmem : ∀ j, memOf (Array.replicate ops.size false) j = false := fun j => by
      unfold memOf
      rw [Array.getD_eq_getD_getElem?, Array.getElem?_replicate]
      split <;> rfl
    refine ⟨?_, fun t _ => ?_, fun t j o hj => ?_, fun s k hk hp => ?_⟩
    · rw [s0]; exact Shape.refl _
    · rw [s0]
    · rw [hmem] at hj; cases hj
    · have := hT.var_rest hcn (s := s) 0 k (by omega) fun j _ hj hw => by
        have := (hp j (by omega) hw).2 (by omega)
        rw [hmem] at this
        cases this
      rw [Nat.zero_add, s0] at this
      exact this.symm

end
end Go.Den
