/- Texts put together: LwR, LwJ. -/
import Derived.Test.YtdkjednjlpcboaaDoorMf

/- The law on which of two texts is less, and on texts turned round: what its function answers. -/
set_option maxRecDepth 100000
set_option maxHeartbeats 8000000
namespace Go.Proofs.YtdkjednjlpcboaaDoor
open Go Go.Den Go.Lib
theorem ty_boolR : base.P.underlying 4 = some .bool := by kernel_rfl
theorem flat_rev : ∀ L : List Nat, (L.reverse.flatMap enc).length = (L.flatMap enc).length
  | [] => rfl
  | r :: L => by
    have := flat_rev L
    rw [List.reverse_cons, List.flatMap_append, List.flatMap_cons, List.flatMap_cons, List.length_append, List.length_append, this]
    simp
    omega
theorem rev_len {s : List UInt8} (h : validD s = true) : (revR s).length = s.length := by
  unfold revR
  rw [if_pos h, flat_rev, ← (valid_flat _ s (Nat.le_refl _) h).1]
theorem rev_count {s : List UInt8} (h : validD s = true) : countR (revR s) = countR s := by
  obtain ⟨h1, h2⟩ := rev_valid h
  unfold countR
  rw [if_pos h1, if_pos h, h2, List.length_reverse]
theorem less_trans {a b c : List UInt8} (ha : validD a = true) (hb : validD b = true) (hc : validD c = true) (h1 : lessR a b ≤ 0) (h2 : lessR b c ≤ 0) : lessR a c ≤ 0 := by
  unfold lessR at h1 h2 ⊢
  rw [if_pos ⟨ha, hb⟩] at h1
  rw [if_pos ⟨hb, hc⟩] at h2
  rw [if_pos ⟨ha, hc⟩]
  exact lex_trans _ _ _ h1 h2
noncomputable abbrev TLo : List (FuncId × Pol) := [(9, pAwakeR), (14, pLess), (15, pRless), (12, pTvalid), (16, pRev), (17, pCount)]
theorem okTLo : TabOK base TLo := ⟨okAwakeR, okLess, okRless, okTvalid, okRev, okCount, trivial⟩
theorem law_order (a b c : List UInt8) : Evs fun n _ => callF (base.with (polT TLo)) (n + 1) AV 4 [.str a, .str b, .str c] [] (fun v _ => some v) = some (.bool true) := by
  have la : A.lenStr (.str a) = some (.int .i64 (a.length : Int)) := len_str
  have lb : A.lenStr (.str b) = some (.int .i64 (b.length : Int)) := len_str
  have lc : A.lenStr (.str c) = some (.int .i64 (c.length : Int)) := len_str
  by_cases ha : (500 : Int) < (a.length : Int)
  · generalize (a.length : Int) = N at *
    exact Evs.of fun n m => by simp [↓test_bool, ↓withV_of, ↓withP_some, ↓withB_some, S4, kAwakeR, la, ha]
  by_cases hb : (500 : Int) < (b.length : Int)
  · generalize (a.length : Int) = N at *
    generalize (b.length : Int) = M at *
    exact Evs.of fun n m => by simp [↓test_bool, ↓withV_of, ↓withP_some, ↓withB_some, S4, kAwakeR, la, ha, lb, hb]
  by_cases hc : (500 : Int) < (c.length : Int)
  · generalize (a.length : Int) = N at *
    generalize (b.length : Int) = M at *
    generalize (c.length : Int) = K at *
    exact Evs.of fun n m => by simp [↓test_bool, ↓withV_of, ↓withP_some, ↓withB_some, S4, kAwakeR, la, ha, lb, hb, lc, hc]
  have na : notlong a := by unfold notlong; omega
  have nb : notlong b := by unfold notlong; omega
  have k1 : ∀ (R : Type) (H : Heap) (k : AV → Heap → Option R), polK pLess [.str a, .str b] H k = k (.int .i64 (lessR a b)) H := fun R H k => kLess
  have k2 : ∀ (R : Type) (H : Heap) (k : AV → Heap → Option R), polK pLess [.str b, .str c] H k = k (.int .i64 (lessR b c)) H := fun R H k => kLess
  have k3 : ∀ (R : Type) (H : Heap) (k : AV → Heap → Option R), polK pLess [.str a, .str c] H k = k (.int .i64 (lessR a c)) H := fun R H k => kLess
  have k4 : ∀ (R : Type) (H : Heap) (k : AV → Heap → Option R), polK pRless [.str a, .str b] H k = k (.int .i64 (lessR a b)) H := fun R H k => kRless ⟨na, nb⟩
  have k5 : ∀ (R : Type) (H : Heap) (k : AV → Heap → Option R), polK pLess [.str b, .str a] H k = k (.int .i64 (-lessR a b)) H := fun R H k => by rw [kLess, less_anti a b]
  have v1 : ∀ (R : Type) (H : Heap) (k : AV → Heap → Option R), polK pTvalid [.str a] H k = k (.bool (validD a)) H := fun R H k => kTvalid
  have v2 : ∀ (R : Type) (H : Heap) (k : AV → Heap → Option R), polK pTvalid [.str b] H k = k (.bool (validD b)) H := fun R H k => kTvalid
  have v3 : ∀ (R : Type) (H : Heap) (k : AV → Heap → Option R), polK pTvalid [.str c] H k = k (.bool (validD c)) H := fun R H k => kTvalid
  have hx := less_range a b
  have hzero := less_zero a b
  have hng : A.un .neg (.int .i64 (lessR a b)) = some (.int .i64 (-lessR a b)) := by
    have : IntKind.wrap .i64 (-lessR a b) = -lessR a b := wrap_i64 (by omega) (by omega)
    simp [A.un, this]
  have heq : ∀ H, A.bin base.P .eql 9 (.str a) (.str b) false H = some (.bool (decide (lessR a b = 0))) := fun H => by
    show A.binStr .eql a b = _
    simp only [A.binStr]
    congr 2
    by_cases e : a = b
    · have h0 : lessR a b = 0 := hzero.2 e
      have e2 : (a == b) = true := by simp [e]
      rw [h0, e2]
      rfl
    · have h0 : ¬ lessR a b = 0 := fun h => e (hzero.1 h)
      have e2 : (a == b) = false := by simp [e]
      rw [e2]
      simp [h0]
  have hbb : ∀ (p : Bool) (H : Heap), A.bin base.P .neq 4 (.bool p) (.bool p) false H = some (.bool false) := fun p H => by simp [A.bin, ty_boolR]
  have htr : validD a = true → validD b = true → validD c = true → lessR a b ≤ 0 → lessR b c ≤ 0 → ¬ 0 < lessR a c := fun h1 h2 h3 h4 h5 => by
    have := less_trans h1 h2 h3 h4 h5
    omega
  have r1 : ∀ (R : Type) (H : Heap) (k : AV → Heap → Option R), polK pRev [.str a] H k = k (.str (revR a)) H := fun R H k => kRev na
  have c2 : ∀ (R : Type) (H : Heap) (k : AV → Heap → Option R), polK pCount [.str a] H k = k (.int .i64 (countR a)) H := fun R H k => kCount na
  have r2 : validD a = true → ∀ (R : Type) (H : Heap) (k : AV → Heap → Option R), polK pRev [.str (revR a)] H k = k (.str a) H := fun hv R H k => by
    rw [kRev (by unfold notlong at na ⊢; rw [rev_len hv]; exact na), rev_rev hv]
  have c1 : validD a = true → ∀ (R : Type) (H : Heap) (k : AV → Heap → Option R), polK pCount [.str (revR a)] H k = k (.int .i64 (countR a)) H := fun hv R H k => by
    rw [kCount (by unfold notlong at na ⊢; rw [rev_len hv]; exact na), rev_count hv]
  have haa : ∀ H, A.bin base.P .eql 9 (.str a) (.str a) false H = some (.bool true) := fun H => by
    show A.binStr .eql a a = _
    simp [A.binStr]
  clear hzero hx
  generalize lessR a b = x at *
  generalize lessR b c = y at *
  generalize lessR a c = z at *
  generalize validD a = va at *
  generalize validD b = vb at *
  generalize validD c = vc at *
  generalize revR a = ra at *
  generalize countR a = ca at *
  generalize (a.length : Int) = N at *
  generalize (b.length : Int) = M at *
  generalize (c.length : Int) = K at *
  cases va
  · exact Evs.of fun n m => by simp [↓test_bool, ↓withV_of, ↓withP_some, ↓withB_some, S4, kAwakeR, la, ha, lb, hb, lc, hc, k1, k2, k3, k4, k5, hng, heq, hbb, v1]
  have r2' := r2 rfl
  have c1' := c1 rfl
  cases vb
  · exact Evs.of fun n m => by simp [↓test_bool, ↓withV_of, ↓withP_some, ↓withB_some, S4, kAwakeR, la, ha, lb, hb, lc, hc, k1, k2, k3, k4, k5, hng, heq, hbb, v1, v2, r1, r2', haa, c1', c2]
  cases vc
  · exact Evs.of fun n m => by simp [↓test_bool, ↓withV_of, ↓withP_some, ↓withB_some, S4, kAwakeR, la, ha, lb, hb, lc, hc, k1, k2, k3, k4, k5, hng, heq, hbb, v1, v2, v3, r1, r2', haa, c1', c2]
  by_cases hx0 : x ≤ 0
  case neg => exact Evs.of fun n m => by simp [↓test_bool, ↓withV_of, ↓withP_some, ↓withB_some, S4, kAwakeR, la, ha, lb, hb, lc, hc, k1, k2, k3, k4, k5, hng, heq, hbb, v1, v2, v3, hx0, r1, r2', haa, c1', c2]
  by_cases hy0 : y ≤ 0
  case neg => exact Evs.of fun n m => by simp [↓test_bool, ↓withV_of, ↓withP_some, ↓withB_some, S4, kAwakeR, la, ha, lb, hb, lc, hc, k1, k2, k3, k4, k5, hng, heq, hbb, v1, v2, v3, hx0, hy0, r1, r2', haa, c1', c2]
  have hz0 := htr rfl rfl rfl hx0 hy0
  exact Evs.of fun n m => by simp [↓test_bool, ↓withV_of, ↓withP_some, ↓withB_some, S4, kAwakeR, la, ha, lb, hb, lc, hc, k1, k2, k3, k4, k5, hng, heq, hbb, v1, v2, v3, hx0, hy0, hz0, r1, r2', haa, c1', c2]
end Go.Proofs.YtdkjednjlpcboaaDoor

/- The law on two texts, one behind the other: what its function answers. -/
set_option maxRecDepth 100000
set_option maxHeartbeats 8000000
namespace Go.Proofs.YtdkjednjlpcboaaDoor
open Go Go.Den Go.Lib
theorem join_flat {a b : List UInt8} (ha : validD a = true) (hb : validD b = true) : validD (a ++ b) = true ∧ rs (a ++ b) = rs a ++ rs b := by
  obtain ⟨fa, sa⟩ := valid_flat _ a (Nat.le_refl _) ha
  obtain ⟨fb, sb⟩ := valid_flat _ b (Nat.le_refl _) hb
  have e : a ++ b = (rs a ++ rs b).flatMap enc := by
    rw [List.flatMap_append, ← fa, ← fb]
  have := flat_valid (rs a ++ rs b) fun r hr => by
    rcases List.mem_append.1 hr with h | h
    · exact sa r h
    · exact sb r h
  rw [← e] at this
  exact ⟨this.2, this.1⟩
theorem join_rev {a b : List UInt8} (ha : validD a = true) (hb : validD b = true) : revR (a ++ b) = revR b ++ revR a := by
  obtain ⟨h1, h2⟩ := join_flat ha hb
  unfold revR
  rw [if_pos h1, if_pos ha, if_pos hb, h2, List.reverse_append, List.flatMap_append]
theorem lex_pre : ∀ (p : List Nat) (y : Nat) (q : List Nat), lexR p (p ++ y :: q) = -1
  | [], y, q => rfl
  | x :: p, y, q => by
    show (if x < x then (-1 : Int) else if x < x then 1 else lexR p (p ++ y :: q)) = -1
    rw [if_neg (by omega), if_neg (by omega), lex_pre p y q]
theorem join_less {a b : List UInt8} (ha : validD a = true) (hb : validD b = true) (hne : b ≠ []) : lessR a (a ++ b) = -1 := by
  obtain ⟨h1, h2⟩ := join_flat ha hb
  unfold lessR
  rw [if_pos ⟨ha, h1⟩, h2, rs_step hne, lex_pre]
noncomputable abbrev TLj : List (FuncId × Pol) := [(9, pAwakeR), (10, pRvalid), (12, pTvalid), (17, pCount), (16, pRev), (14, pLess)]
theorem okTLj : TabOK base TLj := ⟨okAwakeR, okRvalid, okTvalid, okCount, okRev, okLess, trivial⟩
theorem law_joins (a b : List UInt8) : Evs fun n _ => callF (base.with (polT TLj)) (n + 1) AV 5 [.str a, .str b] [] (fun v _ => some v) = some (.bool true) := by
  have la : A.lenStr (.str a) = some (.int .i64 (a.length : Int)) := len_str
  have lb : A.lenStr (.str b) = some (.int .i64 (b.length : Int)) := len_str
  cases ha : validD a
  · exact Evs.of fun n m => by simp [↓test_bool, ↓withV_of, ↓withP_some, ↓withB_some, S5, kAwakeR, kRvalid, ha]
  cases hb : validD b
  · exact Evs.of fun n m => by simp [↓test_bool, ↓withV_of, ↓withP_some, ↓withB_some, S5, kAwakeR, kRvalid, ha, hb]
  by_cases hla : (1000 : Int) < (a.length : Int)
  · generalize (a.length : Int) = N at *
    exact Evs.of fun n m => by simp [↓test_bool, ↓withV_of, ↓withP_some, ↓withB_some, S5, kAwakeR, kRvalid, ha, hb, la, hla]
  by_cases hlb : (1000 : Int) < (b.length : Int)
  · generalize (a.length : Int) = N at *
    generalize (b.length : Int) = M at *
    exact Evs.of fun n m => by simp [↓test_bool, ↓withV_of, ↓withP_some, ↓withB_some, S5, kAwakeR, kRvalid, ha, hb, la, hla, lb, hlb]
  obtain ⟨h1, h2⟩ := join_flat ha hb
  have na : notlong a := by unfold notlong; omega
  have nb : notlong b := by unfold notlong; omega
  have nab : notlong (a ++ b) := by unfold notlong; rw [List.length_append]; omega
  have hadd : ∀ H, A.bin base.P .add 9 (.str a) (.str b) false H = some (.str (a ++ b)) := fun H => by
    show A.binStr .add a b = _
    simp only [A.binStr]
    rw [if_pos (by omega)]
  have lra := rev_len ha
  have lrb := rev_len hb
  have hadd2 : ∀ H, A.bin base.P .add 9 (.str (revR b)) (.str (revR a)) false H = some (.str (revR b ++ revR a)) := fun H => by
    show A.binStr .add (revR b) (revR a) = _
    simp only [A.binStr]
    rw [if_pos (by omega)]
  have e1 : countR (a ++ b) = countR a + countR b := by
    unfold countR
    rw [if_pos h1, if_pos ha, if_pos hb, h2, List.length_append]
    omega
  have ca : 0 ≤ countR a ∧ countR a ≤ 1000 := by
    have := rs_len _ a (Nat.le_refl _)
    unfold countR
    rw [if_pos ha]
    omega
  have cb : 0 ≤ countR b ∧ countR b ≤ 1000 := by
    have := rs_len _ b (Nat.le_refl _)
    unfold countR
    rw [if_pos hb]
    omega
  have wc : IntKind.wrap .i64 (countR a + countR b) = countR a + countR b := wrap_i64 (by omega) (by omega)
  have k1 : ∀ (R : Type) (H : Heap) (k : AV → Heap → Option R), polK pTvalid [.str (a ++ b)] H k = k (.bool true) H := fun R H k => by rw [kTvalid, h1]
  have k2 : ∀ (R : Type) (H : Heap) (k : AV → Heap → Option R), polK pCount [.str (a ++ b)] H k = k (.int .i64 (countR a + countR b)) H := fun R H k => by rw [kCount nab, e1]
  have k3 : ∀ (R : Type) (H : Heap) (k : AV → Heap → Option R), polK pCount [.str a] H k = k (.int .i64 (countR a)) H := fun R H k => kCount na
  have k4 : ∀ (R : Type) (H : Heap) (k : AV → Heap → Option R), polK pCount [.str b] H k = k (.int .i64 (countR b)) H := fun R H k => kCount nb
  have k5 : ∀ (R : Type) (H : Heap) (k : AV → Heap → Option R), polK pRev [.str (a ++ b)] H k = k (.str (revR b ++ revR a)) H := fun R H k => by rw [kRev nab, join_rev ha hb]
  have k6 : ∀ (R : Type) (H : Heap) (k : AV → Heap → Option R), polK pRev [.str a] H k = k (.str (revR a)) H := fun R H k => kRev na
  have k7 : ∀ (R : Type) (H : Heap) (k : AV → Heap → Option R), polK pRev [.str b] H k = k (.str (revR b)) H := fun R H k => kRev nb
  have heq : ∀ (s : List UInt8) (H : Heap), A.bin base.P .eql 9 (.str s) (.str s) false H = some (.bool true) := fun s H => by
    show A.binStr .eql s s = _
    simp [A.binStr]
  have hnil : ∀ H, A.bin base.P .eql 9 (.str b) (.str []) true H = some (.bool (decide (b = []))) := fun H => by
    cases b <;> rfl
  have k8 : ∀ (R : Type) (H : Heap) (k : AV → Heap → Option R), polK pLess [.str (a ++ b), .str (a ++ b)] H k = k (.int .i64 0) H := fun R H k => by rw [kLess, (less_zero _ _).2 rfl]
  have k9 : b ≠ [] → ∀ (R : Type) (H : Heap) (k : AV → Heap → Option R), polK pLess [.str a, .str (a ++ b)] H k = k (.int .i64 (-1)) H := fun hne R H k => by rw [kLess, join_less ha hb hne]
  by_cases hne : b = []
  · have hnil' : ∀ H, A.bin base.P .eql 9 (.str b) (.str []) true H = some (.bool true) := fun H => by rw [hnil, hne]; rfl
    clear hnil hne
    generalize a ++ b = ab at *
    generalize revR b ++ revR a = rr at *
    generalize revR a = ra at *
    generalize revR b = rb at *
    generalize (a.length : Int) = N at *
    generalize (b.length : Int) = M at *
    exact Evs.of fun n m => by simp [↓test_bool, ↓withV_of, ↓withP_some, ↓withB_some, S5, kAwakeR, kRvalid, ha, hb, la, hla, lb, hlb, hadd, hadd2, k1, k2, k3, k4, wc, k5, k6, k7, heq, hnil', k8]
  · have k9' := k9 hne
    have hnil' : ∀ H, A.bin base.P .eql 9 (.str b) (.str []) true H = some (.bool false) := fun H => by rw [hnil]; simp [hne]
    clear hnil
    generalize a ++ b = ab at *
    generalize revR b ++ revR a = rr at *
    generalize revR a = ra at *
    generalize revR b = rb at *
    generalize (a.length : Int) = N at *
    generalize (b.length : Int) = M at *
    exact Evs.of fun n m => by simp [↓test_bool, ↓withV_of, ↓withP_some, ↓withB_some, S5, kAwakeR, kRvalid, ha, hb, la, hla, lb, hlb, hadd, hadd2, k1, k2, k3, k4, wc, k5, k6, k7, heq, hnil', k8, k9']
end Go.Proofs.YtdkjednjlpcboaaDoor
