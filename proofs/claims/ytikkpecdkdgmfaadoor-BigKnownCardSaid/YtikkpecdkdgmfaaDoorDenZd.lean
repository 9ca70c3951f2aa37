/- DEN, part Zd: regions whose order is open (on): in any order. -/
import Derived.Test.YtikkpecdkdgmfaaDoorDenZc
namespace Go.Den
open Go.RowKit

section
variable {E : Env} {cf : CallFn} {sites : List (Nat × Nat × Nat)} {rid : Nat} {ops : Array Oper} {d : DInfo} {S : Nat → St} {Hh : Nat → Heap} {X : Nat → SV}

theorem FrameR.same {C : Ctx} {lam : Nat → Nat} {st st2 : St} {a : Act} (h : FrameR C lam st a) (hN : st2.N = st.N) (hg : ∀ t, st2.get t = st.get t) (hv : ∀ s, st2.var s = st.var s) : FrameR C lam st2 a := by
  refine ⟨by rw [hN]; exact h.size, h.defers, fun t => ?_, fun s cs hs => h.vars s cs (by rw [← hv]; exact hs)⟩
  have ht := h.slots t
  unfold SlotOk at ht ⊢
  rw [hg]
  cases hx : st.get t with
  | val v => rw [hx] at ht; exact ht
  | no => trivial
  | lp s off =>
    rw [hx] at ht
    exact ⟨ht.1, by rw [hv]; exact ht.2⟩

theorem ready_mem {listed : Array Bool} {i : Nat} (h : i ∈ Region.ready .any ops listed) : ∃ o, ops[i]? = some o ∧ listed.getD i true = false ∧ ∀ e ∈ o.after.toList, Region.binds .any e = true → memOf listed e.on = true := by
  unfold Region.ready at h
  obtain ⟨h1, h2⟩ := List.mem_filter.1 h
  have hlt := List.mem_range.1 h1
  refine ⟨ops[i], Array.getElem?_eq_getElem hlt, ?_⟩
  rw [Array.getElem?_eq_getElem hlt] at h2
  simp only [Bool.and_eq_true, Bool.not_eq_true', Option.map_some, Option.getD_some] at h2
  refine ⟨h2.1, fun e he hb => ?_⟩
  have := Array.all_eq_true'.1 h2.2 e (by simpa using he)
  simpa [hb, memOf] using this

theorem ready_of {listed : Array Bool} {i : Nat} {o : Oper} (ho : ops[i]? = some o) (h1 : listed.getD i true = false) (h2 : ∀ e ∈ o.after.toList, Region.binds .any e = true → memOf listed e.on = true) : i ∈ Region.ready .any ops listed := by
  unfold Region.ready
  refine List.mem_filter.2 ⟨List.mem_range.2 (Array.getElem?_eq_some_iff.1 ho).1, ?_⟩
  rw [ho]
  simp only [Bool.and_eq_true, Bool.not_eq_true', Option.map_some, Option.getD_some]
  refine ⟨h1, Array.all_eq_true'.2 fun e he => ?_⟩
  cases hb : Region.binds .any e
  · rfl
  · exact h2 e (by simpa using he) hb

theorem getD_true {listed : Array Bool} {i : Nat} (hi : i < listed.size) : listed.getD i true = memOf listed i := by
  unfold memOf
  rw [Array.getD_eq_getD_getElem?, Array.getD_eq_getD_getElem?, Array.getElem?_eq_getElem hi]
  rfl

/-- Where something is left, something is ready. -/
theorem none_left (hK : TextOK E sites rid ops d) {listed : Array Bool} (hs : listed.size = ops.size) (hn : Region.ready .any ops listed = []) : ∀ i, i < ops.size → memOf listed i = true := by
  intro i
  induction i using Nat.strongRecOn with
  | _ i ih =>
    intro hi
    cases hm : memOf listed i
    · exfalso
      have ho := Array.getElem?_eq_getElem hi
      have := ready_of (listed := listed) ho (by rw [getD_true (by omega)]; exact hm) fun e he hb => by
        have hlt := hK.back i _ ho e he hb
        exact ih e.on hlt (by omega)
      rw [hn] at this
      cases this
    · rfl

theorem left_dec {M M' : Nat → Bool} {i : Nat} (hi : M i = false) (hM' : ∀ j, M' j = if j = i then true else M j) : ∀ n, (List.range n).countP (fun j => !M j) = (List.range n).countP (fun j => !M' j) + (if i < n then 1 else 0)
  | 0 => by simp
  | n + 1 => by
    rw [List.range_succ, List.countP_append, List.countP_append, left_dec hi hM' n]
    by_cases e : n = i
    · subst e
      simp [hi, hM']
    · rw [show List.countP (fun j => !M' j) [n] = List.countP (fun j => !M j) [n] by simp [hM', e]]
      by_cases h : i < n
      · simp [h, show i < n + 1 by omega]; omega
      · have : ¬ i < n + 1 := by omega
        simp [h, this]

theorem any_walk (hcn : CNat cf) (hck : CallKOK E cf) (hT : TextRun E cf sites rid ops S Hh X) (hK : TextOK E sites rid ops d) {vers : List Heap} {C0 : Ctx} {Q : Exit → Act → World → Prop}
    (hp : ∀ (i j : Nat) (o q : Oper) (s : Nat) (w w' : Bool), i < j → ops[i]? = some o → ops[j]? = some q → touchOf (S i) (siteAt sites rid i o) o = some (s, w) → touchOf (S j) (siteAt sites rid j q) q = some (s, w') → (w || w') = true → bef d j i = true)
    (hwin : ∀ (i : Nat) (o : Oper), ops[i]? = some o → loudAt E sites rid ops i = false → reads o = true → acts ops (S i) o = true → heapy (S i) o = true → ∀ (lo hi m : Nat) (G : Heap), winOf i d.wins = some (lo, hi) → lo ≤ m → m ≤ hi → vers[m]? = some G →
      sameAt E o ⟨S i, Hh i, X i, S (i + 1), Hh (i + 1)⟩ G = true)
    (hvers : ∀ k, k ≤ ops.size → vers[louds E sites rid ops k]? = some (Hh k))
    (hq : ∀ a' w', Post E C0 (S ops.size) (Hh ops.size) a' w' → Q .normal a' w') :
    ∀ (fuel : Nat) (listed : Array Bool) (a : Act) (C : Ctx) (lam : Nat → Nat) (sa : St), listed.size = ops.size → Closed ops (fun j => memOf listed j = true) → (List.range ops.size).countP (fun j => !memOf listed j) = fuel →
      vers[countLoud E sites rid ops (memOf listed)]? = some C.H → HR E C → Ev C0 C → FrameR C lam sa a → After sites rid ops S (memOf listed) sa → wpAny E.P .any ops Q fuel listed a C.w := by
  have fin : ∀ (listed : Array Bool) (a : Act) (C : Ctx) (lam : Nat → Nat) (sa : St), listed.size = ops.size → vers[countLoud E sites rid ops (memOf listed)]? = some C.H → HR E C → Ev C0 C → FrameR C lam sa a → After sites rid ops S (memOf listed) sa →
      Region.ready .any ops listed = [] → Q .normal a C.w := by
    intro listed a C lam sa hs hv hr ev hf hA hn
    have hall := none_left hK hs hn
    have hcount : countLoud E sites rid ops (memOf listed) = louds E sites rid ops ops.size := countLoud_first (Nat.le_refl _) fun j hj _ => by simp [hall j hj, hj]
    rw [hcount, hvers _ (Nat.le_refl _)] at hv
    injection hv with hv
    refine hq a C.w ⟨C, lam, rfl, hv.symm, hr, ev, hf.same ?_ (fun t => ?_) (fun s => ?_)⟩
    · rw [hA.shape.N, (hT.shape hcn ops.size (Nat.le_refl _)).N]
    · by_cases hw : ∃ (j : Nat) (q : Oper), ops[j]? = some q ∧ q.dst = some t
      · obtain ⟨j, q, h1, h2⟩ := hw
        exact (hA.new t j q (hall j (Array.getElem?_eq_some_iff.1 h1).1) h1 h2).symm
      · rw [hA.old t fun j q _ h2 h3 => hw ⟨j, q, h2, h3⟩]
        exact hT.get_first hcn _ (Nat.le_refl _) fun j q _ h2 h3 => hw ⟨j, q, h2, h3⟩
    · exact (hA.var s ops.size (Nat.le_refl _) fun j hj _ => ⟨fun _ => hj, fun _ => hall j hj⟩).symm
  intro fuel
  induction fuel with
  | zero =>
    intro listed a C lam sa hs hc hl hv hr ev hf hA
    have hn : Region.ready .any ops listed = [] := by
      cases hrd : Region.ready .any ops listed with
      | nil => rfl
      | cons i l =>
        exfalso
        obtain ⟨o, ho, h1, _⟩ := ready_mem (ops := ops) (listed := listed) (i := i) (by rw [hrd]; exact List.mem_cons_self)
        have hlt := (Array.getElem?_eq_some_iff.1 ho).1
        rw [getD_true (by omega)] at h1
        have := List.countP_eq_zero.1 hl i (List.mem_range.2 hlt)
        simp [h1] at this
    exact ⟨hn, fin listed a C lam sa hs hv hr ev hf hA hn⟩
  | succ fuel ih =>
    intro listed a C lam sa hs hc hl hv hr ev hf hA
    refine ⟨fin listed a C lam sa hs hv hr ev hf hA, fun i hi => ?_⟩
    obtain ⟨o, ho, h1, h2⟩ := ready_mem hi
    have hlt := (Array.getElem?_eq_some_iff.1 ho).1
    rw [getD_true (by omega)] at h1
    have hM' : ∀ j, memOf (listed.setIfInBounds i true) j = if j = i then true else memOf listed j := fun j => mem_set (by omega)
    have hb : ∀ j q, ops[j]? = some q → bef d i j = true → memOf listed j = true := fun j q hq' hbf => hc.bef hK i j o q ho hq' hbf h2
    have ha : ∀ j q, ops[j]? = some q → bef d j i = true → memOf listed j = false := fun j q hq' hbf => by
      cases hm : memOf listed j
      · rfl
      · have := hc.bef hK j i q o hq' ho hbf (hc j q hq' hm)
        rw [h1] at this
        cases this
    have hlo : loudAt E sites rid ops i = isLoud E (siteAt sites rid i o) o := by unfold loudAt; rw [ho]
    have hget : ∀ j, j < ops.size → ops[j]? = some (ops[j]!) := fun j hj => by rw [Array.getElem?_eq_getElem hj]; simp [hj]
    have hHcond : (isLoud E (siteAt sites rid i o) o = true ∧ C.H = Hh i) ∨ (isLoud E (siteAt sites rid i o) o = false ∧ ((reads o = false ∨ heapy (S i) o = false) ∨ (acts ops (S i) o = true → sameAt E o ⟨S i, Hh i, X i, S (i + 1), Hh (i + 1)⟩ C.H = true ∨ C.H = Hh i))) := by
      cases hld : isLoud E (siteAt sites rid i o) o
      · refine .inr ⟨rfl, ?_⟩
        cases hrd : reads o
        · exact .inl (.inl rfl)
        · cases hhp : heapy (S i) o
          · exact .inl (.inr rfl)
          · refine .inr fun hac => ?_
            rw [hld] at hlo
            have m1 : countLoud E sites rid ops (fun j => bef d i j) ≤ countLoud E sites rid ops (memOf listed) := countLoud_mono fun j hj hbf => hb j _ (hget j hj) hbf
            have m2 : countLoud E sites rid ops (memOf listed) ≤ countLoud E sites rid ops (fun j => !bef d j i) := countLoud_mono fun j hj hm => by
              cases hbf : bef d j i
              · rfl
              · rw [ha j _ (hget j hj) hbf] at hm; cases hm
            have e1 : countLoud E sites rid ops (fun j => decide (j < i)) = louds E sites rid ops i := countLoud_first (by omega) fun j _ _ => rfl
            have m3 : countLoud E sites rid ops (fun j => bef d i j) ≤ louds E sites rid ops i := by
              rw [← e1]
              exact countLoud_mono fun j hj hbf => by simpa using hK.lt i j o _ ho (hget j hj) hbf
            have m4 : louds E sites rid ops i ≤ countLoud E sites rid ops (fun j => !bef d j i) := by
              rw [← e1]
              refine countLoud_mono fun j hj hji => ?_
              have hji' : j < i := by simpa using hji
              cases hbf : bef d j i
              · rfl
              · have := hK.lt j i _ o (hget j hj) ho hbf
                omega
            rcases hK.wins i o ho hlo hrd with hw | ⟨l, h, hw, hw1, hw2⟩
            · refine .inr ?_
              have : countLoud E sites rid ops (memOf listed) = louds E sites rid ops i := by omega
              rw [this, hvers i (by omega)] at hv
              injection hv with hv
              exact hv.symm
            · exact .inl (hwin i o ho hlo hrd hac hhp l h _ C.H hw (by omega) (by omega) hv)
      · refine .inl ⟨rfl, ?_⟩
        rw [hld] at hlo
        have : countLoud E sites rid ops (memOf listed) = louds E sites rid ops i := countLoud_first (by omega) fun j hj hjl => by
          rcases Nat.lt_trichotomy j i with h | h | h
          · rw [hb j _ (hget j hj) (hK.loud i j o _ ho (hget j hj) h hlo hjl)]
            simp [h]
          · subst h
            rw [h1]
            simp
          · rw [ha j _ (hget j hj) (hK.loud j i _ o (hget j hj) ho h hjl hlo)]
            have : ¬ j < i := by omega
            simp [this]
        rw [this, hvers i (by omega)] at hv
        injection hv with hv
        exact hv.symm
    have htouch : ∀ s w, touchOf (S i) (siteAt sites rid i o) o = some (s, w) → sa.var s = (S i).var s := fun s w ht => hA.touch hK hp ho h1 hb ha ht
    have hSi := hT.shape hcn i (by omega)
    obtain ⟨st1, sa1, e1, e2, e3⟩ := step_any (Q := Q) (K := wpAny E.P .any ops Q fuel (listed.setIfInBounds i true)) (G1 := if isLoud E (siteAt sites rid i o) o = true then Hh (i + 1) else C.H) hcn hck (hT.step i o ho) ho hr hf
      (fun t ht => hA.looks hcn hT hK ho h1 hb ha (.inl ht)) (fun s w ht => ⟨htouch s w ht, by rw [hA.shape.L, hSi.L]⟩) (by
        rcases hHcond with ⟨h3, h4⟩ | ⟨h3, h4⟩
        · exact .inl ⟨h3, h4, by rw [if_pos h3]⟩
        · exact .inr ⟨h3, by rw [if_neg (by rw [h3]; simp)], h4⟩)
    refine e3 fun a' w' hpost => ?_
    obtain ⟨C1, lam1, rfl, g2, g3, g4, g5⟩ := hpost
    have hA' := hA.next hcn hT hK ho h1 hM' (fun t ht => hA.looks hcn hT hK ho h1 hb ha (.inr ht)) htouch (fun s hw j hj hwj => by
      obtain ⟨o', ho', ht'⟩ := hw
      have : o' = o := by
        rw [ho] at ho'
        injection ho' with ho'
        exact ho'.symm
      subst this
      obtain ⟨q, hq', hqt⟩ := hwj
      exact ⟨fun h => hb j q hq' (hp j i q o' s true true h hq' ho hqt ht' rfl), fun h => ha j q hq' (hp i j o' q s true true h ho hq' ht' hqt rfl)⟩) e1 e2
    refine ih _ a' C1 lam1 _ (by simpa using hs) ?_ ?_ ?_ g3 (ev.trans g4) g5 hA'
    · intro j q hq' hm e he hbd
      rw [hM'] at hm
      rw [hM']
      by_cases ej : j = i
      · subst ej
        have : q = o := by
          rw [ho] at hq'
          injection hq' with hq'
          exact hq'.symm
        subst this
        rw [h2 e he hbd]
        simp
      · rw [if_neg ej] at hm
        rw [hc j q hq' hm e he hbd]
        simp
    · have := left_dec (M := memOf listed) (M' := memOf (listed.setIfInBounds i true)) h1 hM' ops.size
      rw [if_pos hlt] at this
      omega
    · rw [countLoud_add (p := memOf listed) (q := memOf (listed.setIfInBounds i true)) hlt (fun j hj => by rw [hM', if_neg hj]) h1 (by rw [hM']; simp), g2, hlo]
      rcases hHcond with ⟨h3, h4⟩ | ⟨h3, h4⟩
      · rw [h3, if_pos rfl, if_pos rfl]
        rw [h3] at hlo
        have h5 := hvers (i + 1) (by omega)
        rw [louds_succ, hlo, if_pos rfl] at h5
        have : countLoud E sites rid ops (memOf listed) = louds E sites rid ops i := countLoud_first (by omega) fun j hj hjl => by
          rcases Nat.lt_trichotomy j i with h | h | h
          · rw [hb j _ (hget j hj) (hK.loud i j o _ ho (hget j hj) h hlo hjl)]
            simp [h]
          · subst h
            rw [h1]
            simp
          · rw [ha j _ (hget j hj) (hK.loud j i _ o (hget j hj) ho h hjl hlo)]
            have : ¬ j < i := by omega
            simp [this]
        rw [this]
        exact h5
      · rw [h3]
        simpa using hv

end
end Go.Den
