/- Texts put together: U8, Q1, Q2, Q3, FmtR, Q4, Q5, Q6, Q7, Q8, Q9, Q10, Q11, Q12, Q13. -/
import Derived.Test.YtdkjednjlpcboaaDoorMg
import Derived.Test.YtdkjednjlpcboaaDoorRows

/- Texts: turned round. -/
set_option maxRecDepth 100000
set_option maxHeartbeats 8000000
namespace Go.Proofs.YtdkjednjlpcboaaDoor
open Go Go.Den Go.Lib
def Row0 (cap : Nat) (H : Heap) (L : List Nat) : Prop := ∃ es : List AV, H[0]? = some (.row 0 1 21 es) ∧ es.length = cap ∧ es.take L.length = L.map er ∧ L.length ≤ cap
theorem dec_le {l : List UInt8} (hne : l ≠ []) : (decodeL l).2 ≤ l.length := by
  have h0 : 0 < l.length := List.length_pos_iff.2 hne
  by_cases hg : (decodeL l).1 = 65533 ∧ (decodeL l).2 = 1
  · omega
  · exact (q44 hne hg).2.2.1
theorem qil {pol : FuncId → Pol} {l : List UInt8} (hl : l.length ≤ 1000000) : ∀ (N pos : Nat) (done : List Nat) (H : Heap), l.length - pos ≤ N → done.length ≤ pos → pos ≤ l.length → Row0 l.length H done → H[1]? = some (.iter l pos) →
    ∃ H', LDoes (qhm pol) ⟨[.sl 0 0 0 done.length l.length, .it 1], []⟩ H 0 ⟨[.sl 0 0 0 (done ++ rs (l.drop pos)).length l.length], []⟩ H' ∧ Row0 l.length H' (done ++ rs (l.drop pos)) := by
  intro N
  induction N with
  | zero =>
    intro pos done H hN hd hpl hR hI
    have hp : ¬ pos < l.length := by omega
    have he : l.drop pos = [] := List.drop_of_length_le (by omega)
    rw [he, q31, List.append_nil]
    refine ⟨H, LDoes.step (Evs.of fun n m => ?_), hR⟩
    simp [↓q00, ↓q04, ↓q06, ↓q01, q5l, nextK, hI, hp]
  | succ N ih =>
    intro pos done H hN hd hpl hR hI
    by_cases hp : pos < l.length
    · have hne := q4h hp
      have hw := decodeL_width (l.drop pos)
      have hdd := q3a l pos
      obtain ⟨es, h0, hes, htk, hlc⟩ := hR
      have hwl : (decodeL (l.drop pos)).2 ≤ l.length - pos := by
        have := dec_le hne
        rw [List.length_drop] at this
        exact this
      have h0' : (H.set 1 (.iter l (pos + (decodeL (l.drop pos)).2)))[0]? = some (.row 0 1 21 es) := by rw [List.getElem?_set_ne (by omega)]; exact h0
      have h1l : 1 < H.length := (List.getElem?_eq_some_iff.1 hI).1
      have h1' : (H.set 1 (.iter l (pos + (decodeL (l.drop pos)).2)))[1]? = some (.iter l (pos + (decodeL (l.drop pos)).2)) := List.getElem?_set_self h1l
      have hrs := q1o hne
      rw [List.drop_drop] at hrs
      rw [hrs]
      generalize decodeL (l.drop pos) = d at *
      generalize hH1 : H.set 1 (.iter l (pos + d.2)) = H1 at *
      have hfe : A.fillElems 1 [.int .i32 0] [(0, 1, .int .i32 (d.1 : Int))] = some [.int .i32 (d.1 : Int)] := by simp [A.fillElems]
      have hrd : A.read 1 (.sl H1.length 0 0 1 1) (H1 ++ [HObj.row 0 1 21 [AV.int .i32 (d.1 : Int)]]) = some [.int .i32 (d.1 : Int)] := q3i q0y rfl
      have h02 : (H1 ++ [HObj.row 0 1 21 [AV.int .i32 (d.1 : Int)]])[0]? = some (.row 0 1 21 es) := by rw [List.getElem?_append_left (List.getElem?_eq_some_iff.1 h0').1]; exact h0'
      have h12 : (H1 ++ [HObj.row 0 1 21 [AV.int .i32 (d.1 : Int)]])[1]? = some (.iter l (pos + d.2)) := by rw [List.getElem?_append_left (List.getElem?_eq_some_iff.1 h1').1]; exact h1'
      have happ : A.append 1 4 21 (.sl 0 0 0 done.length l.length) [.int .i32 (d.1 : Int)] (H1 ++ [HObj.row 0 1 21 [AV.int .i32 (d.1 : Int)]]) = some (.sl 0 0 0 (done ++ [d.1]).length l.length, (H1 ++ [HObj.row 0 1 21 [AV.int .i32 (d.1 : Int)]]).set 0 (.row 0 1 21 (A.splice es done.length [.int .i32 (d.1 : Int)]))) := by
        simp only [A.append, h02]
        rw [if_pos ⟨trivial, trivial, trivial, by omega, by omega, by simp; omega, by omega⟩, if_pos (by simp; omega)]
        simp
      have hR' : Row0 l.length ((H1 ++ [HObj.row 0 1 21 [AV.int .i32 (d.1 : Int)]]).set 0 (.row 0 1 21 (A.splice es done.length [.int .i32 (d.1 : Int)]))) (done ++ [d.1]) := by
        refine ⟨_, List.getElem?_set_self (by simp), ?_, ?_, by simp; omega⟩
        · unfold A.splice
          simp
          omega
        · have : A.splice es done.length [.int .i32 (d.1 : Int)] = es.take done.length ++ [.int .i32 (d.1 : Int)] ++ es.drop (done.length + 1) := rfl
          rw [this, htk, List.map_append, List.map_cons, List.map_nil, List.take_append_of_le_length (by simp), List.take_of_length_le (by simp)]
      have hI' : ((H1 ++ [HObj.row 0 1 21 [AV.int .i32 (d.1 : Int)]]).set 0 (.row 0 1 21 (A.splice es done.length [.int .i32 (d.1 : Int)])))[1]? = some (.iter l (pos + d.2)) := by
        rw [List.getElem?_set_ne (by omega)]
        exact h12
      obtain ⟨H', hL, hR2⟩ := ih (pos + d.2) (done ++ [d.1]) _ (by omega) (by simp; omega) (by omega) hR' hI'
      rw [List.append_assoc, List.singleton_append] at hL hR2
      refine ⟨H', LDoes.step (Evs.withL hL (Evs.of fun n m _ h2 => ?_)), hR2⟩
      generalize (done ++ [d.1]).length = nd at *
      simp [↓q00, ↓q04, ↓q06, ↓q01, ↓q0t, ↓q0u, q5l, nextK, hI, hp, hdd, hH1, hfe, q21 q17, hrd, happ, h2]
    · have he : l.drop pos = [] := List.drop_of_length_le (by omega)
      rw [he, q31, List.append_nil]
      refine ⟨H, LDoes.step (Evs.of fun n m => ?_), hR⟩
      simp [↓q00, ↓q04, ↓q06, ↓q01, q5l, nextK, hI, hp]
def halfR (L W : List Nat) (i : Nat) : Prop := ∃ hn : W.length = L.length, ∀ j (hj : j < L.length), W[j]'(hn ▸ hj) = if j < i ∨ L.length - 1 - i < j then L[L.length - 1 - j]'(by omega) else L[j]
theorem qim {pol : FuncId → Pol} {L : List Nat} {cap : Nat} (hl : L.length ≤ 1000000) : ∀ (N i : Nat) (z : Int) (W : List Nat) (H : Heap), L.length - i ≤ N → z = (L.length : Int) - 1 - i → i ≤ L.length → halfR L W i → Row0 cap H W →
    ∃ H' W', LDoes (qhn pol) ⟨[.sl 0 0 0 L.length cap, .int .i64 (i : Int), .int .i64 z], []⟩ H 0 ⟨[.sl 0 0 0 L.length cap], []⟩ H' ∧ Row0 cap H' W' ∧ W' = L.reverse := by
  intro N
  induction N with
  | zero =>
    intro i z W H hN hz hi hW hR
    have hlt : ¬ (i : Int) < z := by omega
    obtain ⟨hn, hW⟩ := hW
    refine ⟨H, W, LDoes.step (Evs.of fun n m => ?_), hR, ?_⟩
    · simp [↓q00, ↓q01, q5m, hlt]
    · refine List.ext_getElem (by simp [hn]) fun j h1 h2 => ?_
      rw [hW j (by omega), List.getElem_reverse, if_pos (by omega)]
  | succ N ih =>
    intro i z W H hN hz hi hW hR
    by_cases hlt : (i : Int) < z
    · obtain ⟨hn, hWj⟩ := hW
      obtain ⟨es, h0, hes, htk, hlc⟩ := hR
      obtain ⟨k, hk⟩ : ∃ k : Nat, z = (k : Int) := ⟨z.toNat, by omega⟩
      subst hk
      have hkl : k < L.length := by omega
      have hil : i < L.length := by omega
      have hkk : k = L.length - 1 - i := by omega
      have hik : i < k := by omega
      have hget : ∀ j (hj : j < W.length), es[j]? = some (er W[j]) := fun j hj => by
        have := congrArg (fun x => x[j]?) htk
        simp only [List.getElem?_take, List.getElem?_map, List.getElem?_eq_getElem hj, Option.map_some] at this
        rw [if_pos (by omega)] at this
        exact this
      have hi0 := hget i (by omega)
      have hk0 := hget k (by omega)
      have x1 : A.idx 1 (.sl 0 0 0 L.length cap) (.int .i64 (k : Int)) H = some (.ptr 0 0 k 0) := by
        have := q7u (cap := cap) (off := 0) (k := .i64) h0 (i := (k : Int)) (n := L.length) (by omega) (by omega)
        simpa using this
      have x2 : A.idx 1 (.sl 0 0 0 L.length cap) (.int .i64 (i : Int)) H = some (.ptr 0 0 i 0) := by
        have := q7u (cap := cap) (off := 0) (k := .i64) h0 (i := (i : Int)) (n := L.length) (by omega) (by omega)
        simpa using this
      have y1 : A.load false 1 (.ptr 0 0 k 0) H = some (er (W[k]'(by omega))) := q6s h0 hk0 rfl
      have y2 : A.load false 1 (.ptr 0 0 i 0) H = some (er (W[i]'(by omega))) := q6s h0 hi0 rfl
      have s1 : A.store 1 (.ptr 0 0 i 0) (er (W[k]'(by omega))) H = some (H.set 0 (.row 0 1 21 (es.set i (er (W[k]'(by omega)))))) := qbc h0 hi0 rfl rfl
      have h0l : 0 < H.length := (List.getElem?_eq_some_iff.1 h0).1
      have h1 : (H.set 0 (.row 0 1 21 (es.set i (er (W[k]'(by omega))))))[0]? = some (.row 0 1 21 (es.set i (er (W[k]'(by omega))))) := List.getElem?_set_self h0l
      have hk1 : (es.set i (er (W[k]'(by omega))))[k]? = some (er (W[k]'(by omega))) := by rw [List.getElem?_set_ne (by omega)]; exact hk0
      have x3 : A.idx 1 (.sl 0 0 0 L.length cap) (.int .i64 (k : Int)) (H.set 0 (.row 0 1 21 (es.set i (er (W[k]'(by omega)))))) = some (.ptr 0 0 k 0) := by
        have := q7u (cap := cap) (off := 0) (k := .i64) h1 (i := (k : Int)) (n := L.length) (by omega) (by omega)
        simpa using this
      have s2 := qbc (v := er (W[i]'(by omega))) h1 hk1 rfl rfl
      rw [List.set_set] at s2
      have hW' : halfR L ((W.set i (W[k]'(by omega))).set k (W[i]'(by omega))) (i + 1) := by
        refine ⟨by simp [hn], fun j hj => ?_⟩
        by_cases e1 : k = j
        · subst e1
          rw [List.getElem_set_self, if_pos (by omega), hWj i hil, if_neg (by omega)]
          congr 1
          omega
        · rw [List.getElem_set_ne e1]
          by_cases e2 : i = j
          · subst e2
            rw [List.getElem_set_self, if_pos (by omega), hWj k hkl, if_neg (by omega)]
            congr 1
          · rw [List.getElem_set_ne e2, hWj j hj]
            by_cases e3 : j < i ∨ L.length - 1 - i < j
            · rw [if_pos e3, if_pos (by omega)]
            · rw [if_neg e3, if_neg (by omega)]
      have hR' : Row0 cap (H.set 0 (.row 0 1 21 ((es.set i (er (W[k]'(by omega)))).set k (er (W[i]'(by omega)))))) ((W.set i (W[k]'(by omega))).set k (W[i]'(by omega))) := by
        refine ⟨_, List.getElem?_set_self h0l, by simp [hes], ?_, by simpa using hlc⟩
        simp only [List.length_set, List.take_set, htk, List.map_set]
      obtain ⟨H', W', hL, hR2, hW2⟩ := ih (i + 1) ((k : Int) - 1) _ _ (by omega) (by omega) (by omega) hW' hR'
      have w1 : IntKind.wrap .i64 ((i : Int) + 1) = (i : Int) + 1 := q0k (by omega) (by omega)
      have w2 : IntKind.wrap .i64 ((k : Int) - 1) = (k : Int) - 1 := q0k (by omega) (by omega)
      simp only [Int.natCast_add, Int.natCast_one] at hL
      refine ⟨H', W', LDoes.step (Evs.withL hL (Evs.of fun n m _ h2 => ?_)), hR2, hW2⟩
      generalize er (W[k]'(by omega)) = vk at *
      generalize er (W[i]'(by omega)) = vi at *
      generalize H.set 0 (.row 0 1 21 ((es.set i vk).set k vi)) = H2 at *
      generalize H.set 0 (.row 0 1 21 (es.set i vk)) = H1 at *
      simp [↓q00, ↓q01, ↓q0c, q5m, hlt, x1, x2, y1, y2, s1, x3, s2, w1, w2, h2]
    · obtain ⟨hn, hW⟩ := hW
      refine ⟨H, W, LDoes.step (Evs.of fun n m => ?_), hR, ?_⟩
      · simp [↓q00, ↓q01, q5m, hlt]
      · refine List.ext_getElem (by simp [hn]) fun j h1 h2 => ?_
        rw [hW j (by omega), List.getElem_reverse]
        by_cases e3 : j < i ∨ L.length - 1 - i < j
        · rw [if_pos e3]
        · rw [if_neg e3]
          congr 1
          omega
theorem q46 : ∀ L : List Nat, A.runes32 (L.map er) = some (L.map Int.ofNat)
  | [] => rfl
  | r :: L => by
    have := q46 L
    simp [A.runes32, this]
theorem q6p : ∀ L : List Nat, (L.map Int.ofNat).flatMap (fun n => (Utf8.encode n).data.toList) = L.flatMap enc
  | [] => rfl
  | r :: L => by
    rw [List.map_cons, List.flatMap_cons, List.flatMap_cons, q6p L, Int.ofNat_eq_natCast]
    congr 1
theorem qfn {R : Type} {H : Heap} {L : List Nat} {cap : Nat} (h : Row0 cap H L) {k : AV → Heap → Option R} : q09 base 54 9 (.sl 0 0 0 L.length cap) H k = k (.str (L.flatMap enc)) H := by
  obtain ⟨es, h0, hes, htk, hlc⟩ := h
  have h1 : Go.Den.convert base 54 9 (.sl 0 0 0 L.length cap) = none := by
    unfold Go.Den.convert
    rw [q4d, q17]
  have hr : A.read 1 (.sl 0 0 0 L.length cap) H = some (L.map er) := by
    rw [← htk]
    simp [A.read, h0]
    omega
  have h2 : convH base 54 9 (.sl 0 0 0 L.length cap) H = some (.str (L.flatMap enc)) := by
    unfold convH
    rw [q4d, q17]
    dsimp only
    rw [qe5]
    dsimp only
    rw [hr]
    dsimp only
    rw [q46]
    rw [Option.map_some, q6p]
  unfold q09
  rw [h1, h2]
noncomputable def pRev : Pol := .still (p1 cS .str q0l revR)
theorem kRev {R : Type} {s : List UInt8} (h : q0l s) {H : Heap} {k : AV → Heap → Option R} : polK pRev [.str s] H k = k (.str (revR s)) H := by
  simp [pRev, q0i, h]
theorem okRev : PolOK base 16 pRev := still1 base_ok [(12, q1n)] ⟨q5a, trivial⟩ fun s hs => by
  unfold q0l at hs
  unfold revR
  cases hv : validD s
  · rw [if_neg (by simp)]
    exact Evs.of fun n m => by
      simp [↓q00, ↓q04, ↓q01, S16, q1u, hv]
  · rw [if_pos rfl]
    have hl : A.lenStr (.str s) = some (.int .i64 (s.length : Int)) := q3f
    have hmk : A.makeSlice 1 4 21 (.int .i32 0) (.int .i64 0) (.int .i64 (s.length : Int)) [] = some (.sl 0 0 0 0 s.length, [.row 0 1 21 (List.replicate s.length (.int .i32 0))]) := by
      simp [A.makeSlice]
      omega
    have hR0 : Row0 s.length [.row 0 1 21 (List.replicate s.length (.int .i32 0)), .iter s 0] [] := ⟨_, rfl, by simp, by simp, by simp⟩
    obtain ⟨H1, hL1, hR1⟩ := qil (pol := polT [(12, q1n)]) hs s.length 0 [] _ (by omega) (by simp) (by omega) hR0 rfl
    rw [List.nil_append, List.drop_zero] at hL1 hR1
    have hrl := q8y _ s (Nat.le_refl _)
    have hW0 : halfR (rs s) (rs s) 0 := ⟨rfl, fun j hj => by rw [if_neg (by omega)]⟩
    obtain ⟨H2, W, hL2, hR2, hW⟩ := qim (pol := polT [(12, q1n)]) (L := rs s) (cap := s.length) (by omega) (rs s).length 0 (((rs s).length : Int) - 1) (rs s) H1 (by omega) (by simp) (by omega) hW0 hR1
    subst hW
    have hcv : ∀ (R : Type) (k : AV → Heap → Option R), q09 base 54 9 (.sl 0 0 0 (rs s).length s.length) H2 k = k (.str ((rs s).reverse.flatMap enc)) H2 := fun R k => by
      have := qfn hR2 (k := k)
      rw [List.length_reverse] at this
      exact this
    obtain ⟨es, h0, -⟩ := hR1
    have hln : A.len (.sl 0 0 0 (rs s).length s.length) H1 = some (.int .i64 ((rs s).length : Int)) := by simp [A.len, A.alive, h0]
    have hw1 : IntKind.wrap .i64 (((rs s).length : Int) - 1) = ((rs s).length : Int) - 1 := q0k (by omega) (by omega)
    have hfz : ∀ (H : Heap) (x : List UInt8), A.freezeB true 64 H (.str x) = some (.str x) := fun H x => rfl
    refine Evs.withL hL1 (Evs.withL hL2 (Evs.of fun n m g1 _ g2 _ => ?_))
    simp only [Int.natCast_zero, List.length_nil] at g1 g2
    generalize (rs s).reverse.flatMap enc = out at *
    generalize ((rs s).length : Int) = N at *
    generalize (s.length : Int) = M at *
    simp [↓q00, ↓q04, ↓q01, ↓q0u, ↓q05, S16, q1u, hv, hl, hmk, rangeK, g1, g2, hln, hw1, hcv, hfz]
end Go.Proofs.YtdkjednjlpcboaaDoor

/- Texts: plain names. -/
set_option maxRecDepth 100000
set_option maxHeartbeats 8000000
namespace Go.Proofs.YtdkjednjlpcboaaDoor
open Go Go.Den Go.Lib
def firstZ (z : Int) : Bool := decide (97 ≤ z) && decide (z ≤ 122)
def goesZ (z : Int) : Bool := firstZ z || (decide (65 ≤ z) && decide (z ≤ 90)) || (decide (48 ≤ z) && decide (z ≤ 57)) || decide (z = 95) || decide (z = 64)
def lowZ (z : Int) : Bool := decide (z < 32) || decide (z = 127)
noncomputable def pFirst : Pol := .still (p1 (cI .i32) .bool (fun _ => True) firstZ)
theorem qgr : PolOK base 48 pFirst := still1 base_ok [] trivial fun z _ => by
  by_cases h1 : (97 : Int) ≤ z <;> by_cases h2 : z ≤ (122 : Int) <;> exact Evs.of fun n m => by simp [↓q01, ↓q03, ↓q02, S48, firstZ, A.asG, guardB, A.pick, h1, h2]
theorem kFirst {R : Type} {z : Int} {H : Heap} {k : AV → Heap → Option R} : polK pFirst [.int .i32 z] H k = k (.bool (firstZ z)) H := by
  simp [pFirst, q0i]
noncomputable def pGoes : Pol := .still (p1 (cI .i32) .bool (fun _ => True) goesZ)
theorem okGoes : PolOK base 49 pGoes := still1 base_ok [(48, pFirst)] ⟨qgr, trivial⟩ fun z _ => by
  rcases (show z < 48 ∨ (48 ≤ z ∧ z ≤ 57) ∨ (58 ≤ z ∧ z ≤ 63) ∨ z = 64 ∨ (65 ≤ z ∧ z ≤ 90) ∨ (91 ≤ z ∧ z ≤ 94) ∨ z = 95 ∨ z = 96 ∨ (97 ≤ z ∧ z ≤ 122) ∨ 122 < z by omega) with h | h | h | h | h | h | h | h | h | h
  · exact Evs.of fun n m => by simp [↓q01, ↓q03, ↓q02, S49, kFirst, firstZ, goesZ, A.asG, guardB, A.pick, (show ¬ (97 : Int) ≤ z by omega), (show z ≤ (122 : Int) by omega), (show ¬ (65 : Int) ≤ z by omega), (show z ≤ (90 : Int) by omega), (show ¬ (48 : Int) ≤ z by omega), (show z ≤ (57 : Int) by omega), (show ¬ z = (95 : Int) by omega), (show ¬ z = (64 : Int) by omega)]
  · exact Evs.of fun n m => by simp [↓q01, ↓q03, ↓q02, S49, kFirst, firstZ, goesZ, A.asG, guardB, A.pick, (show ¬ (97 : Int) ≤ z by omega), (show z ≤ (122 : Int) by omega), (show ¬ (65 : Int) ≤ z by omega), (show z ≤ (90 : Int) by omega), (show (48 : Int) ≤ z by omega), (show z ≤ (57 : Int) by omega), (show ¬ z = (95 : Int) by omega), (show ¬ z = (64 : Int) by omega)]
  · exact Evs.of fun n m => by simp [↓q01, ↓q03, ↓q02, S49, kFirst, firstZ, goesZ, A.asG, guardB, A.pick, (show ¬ (97 : Int) ≤ z by omega), (show z ≤ (122 : Int) by omega), (show ¬ (65 : Int) ≤ z by omega), (show z ≤ (90 : Int) by omega), (show (48 : Int) ≤ z by omega), (show ¬ z ≤ (57 : Int) by omega), (show ¬ z = (95 : Int) by omega), (show ¬ z = (64 : Int) by omega)]
  · exact Evs.of fun n m => by simp [↓q01, ↓q03, ↓q02, S49, kFirst, firstZ, goesZ, A.asG, guardB, A.pick, (show ¬ (97 : Int) ≤ z by omega), (show ¬ (65 : Int) ≤ z by omega), (show ¬ z ≤ (57 : Int) by omega), (show ¬ z = (95 : Int) by omega), (show z = (64 : Int) by omega)]
  · exact Evs.of fun n m => by simp [↓q01, ↓q03, ↓q02, S49, kFirst, firstZ, goesZ, A.asG, guardB, A.pick, (show ¬ (97 : Int) ≤ z by omega), (show z ≤ (122 : Int) by omega), (show (65 : Int) ≤ z by omega), (show z ≤ (90 : Int) by omega), (show (48 : Int) ≤ z by omega), (show ¬ z ≤ (57 : Int) by omega), (show ¬ z = (95 : Int) by omega), (show ¬ z = (64 : Int) by omega)]
  · exact Evs.of fun n m => by simp [↓q01, ↓q03, ↓q02, S49, kFirst, firstZ, goesZ, A.asG, guardB, A.pick, (show ¬ (97 : Int) ≤ z by omega), (show z ≤ (122 : Int) by omega), (show (65 : Int) ≤ z by omega), (show ¬ z ≤ (90 : Int) by omega), (show (48 : Int) ≤ z by omega), (show ¬ z ≤ (57 : Int) by omega), (show ¬ z = (95 : Int) by omega), (show ¬ z = (64 : Int) by omega)]
  · exact Evs.of fun n m => by simp [↓q01, ↓q03, ↓q02, S49, kFirst, firstZ, goesZ, A.asG, guardB, A.pick, (show ¬ (97 : Int) ≤ z by omega), (show ¬ z ≤ (90 : Int) by omega), (show ¬ z ≤ (57 : Int) by omega), (show z = (95 : Int) by omega), (show ¬ z = (64 : Int) by omega)]
  · exact Evs.of fun n m => by simp [↓q01, ↓q03, ↓q02, S49, kFirst, firstZ, goesZ, A.asG, guardB, A.pick, (show ¬ (97 : Int) ≤ z by omega), (show z ≤ (122 : Int) by omega), (show (65 : Int) ≤ z by omega), (show ¬ z ≤ (90 : Int) by omega), (show (48 : Int) ≤ z by omega), (show ¬ z ≤ (57 : Int) by omega), (show ¬ z = (95 : Int) by omega), (show ¬ z = (64 : Int) by omega)]
  · exact Evs.of fun n m => by simp [↓q01, ↓q03, ↓q02, S49, kFirst, firstZ, goesZ, A.asG, guardB, A.pick, (show (97 : Int) ≤ z by omega), (show z ≤ (122 : Int) by omega), (show (65 : Int) ≤ z by omega), (show ¬ z ≤ (90 : Int) by omega), (show (48 : Int) ≤ z by omega), (show ¬ z ≤ (57 : Int) by omega), (show ¬ z = (95 : Int) by omega), (show ¬ z = (64 : Int) by omega)]
  · exact Evs.of fun n m => by simp [↓q01, ↓q03, ↓q02, S49, kFirst, firstZ, goesZ, A.asG, guardB, A.pick, (show (97 : Int) ≤ z by omega), (show ¬ z ≤ (122 : Int) by omega), (show (65 : Int) ≤ z by omega), (show ¬ z ≤ (90 : Int) by omega), (show (48 : Int) ≤ z by omega), (show ¬ z ≤ (57 : Int) by omega), (show ¬ z = (95 : Int) by omega), (show ¬ z = (64 : Int) by omega)]
theorem kGoes {R : Type} {z : Int} {H : Heap} {k : AV → Heap → Option R} : polK pGoes [.int .i32 z] H k = k (.bool (goesZ z)) H := by
  simp [pGoes, q0i]
noncomputable def pLow : Pol := .still (p1 (cI .i32) .bool (fun _ => True) lowZ)
theorem okLow : PolOK base 28 pLow := still1 base_ok [] trivial fun z _ => by
  by_cases h1 : z < (32 : Int) <;> by_cases h2 : z = (127 : Int) <;> exact Evs.of fun n m => by simp [↓q01, ↓q03, ↓q02, S28, lowZ, A.asG, guardB, A.pick, h1, h2]
theorem kLow {R : Type} {z : Int} {H : Heap} {k : AV → Heap → Option R} : polK pLow [.int .i32 z] H k = k (.bool (lowZ z)) H := by
  simp [pLow, q0i]
def plB : Bool → List UInt8 → Nat
  | _, [] => 0
  | f, b :: r => if (bif f then firstZ (b.toNat : Int) else goesZ (b.toNat : Int)) then 1 + plB false r else 0
theorem qh2 : ∀ (f : Bool) (l : List UInt8), plB f l ≤ l.length
  | _, [] => Nat.le_refl _
  | f, b :: r => by
    have := qh2 false r
    unfold plB
    split
    · simp only [List.length_cons]; omega
    · simp
theorem q5w {z : Int} (h : firstZ z = true) : goesZ z = true := by unfold goesZ; rw [h]; rfl
theorem q2i {z : Int} (h : goesZ z = true) : z < 128 := by
  unfold goesZ firstZ at h
  simp only [Bool.or_eq_true, Bool.and_eq_true, decide_eq_true_eq] at h
  omega
theorem q28 {b : UInt8} {r : List UInt8} (h : b.toNat < 128) : decodeL (b :: r) = (b.toNat, 1) := by
  have hs : scal b.toNat := by unfold scal; omega
  have h1 := dec_enc hs r
  have e : enc b.toNat = [b] := by rw [q75 h]; simp
  rw [e] at h1
  exact h1
theorem q9g {b : UInt8} {r : List UInt8} (h : 128 ≤ b.toNat) : 128 ≤ (decodeL (b :: r)).1 := by
  rcases Nat.lt_or_ge (decodeL (b :: r)).1 128 with hc | hc
  · have hg : ¬ ((decodeL (b :: r)).1 = 65533 ∧ (decodeL (b :: r)).2 = 1) := by omega
    obtain ⟨h1, h2, h3, h4⟩ := q44 (by simp) hg
    rw [q75 hc] at h1
    cases hw : (decodeL (b :: r)).2 with
    | zero => rw [hw] at h1; simp at h1
    | succ n =>
      rw [hw, List.take_succ_cons] at h1
      injection h1 with h1 _
      have := congrArg UInt8.toNat h1
      simp at this
      omega
  · exact hc
noncomputable abbrev TPl : List (FuncId × Pol) := [(48, pFirst), (49, pGoes)]
theorem qex {l : List UInt8} {id : Nat} (hl : l.length ≤ 1000000) : ∀ (N pos : Nat) (H : Heap), l.length - pos ≤ N → pos ≤ l.length → H[id]? = some (.iter l pos) →
    ∃ H' i v w, LDoes (qeb (polT TPl)) ⟨[.str l, .int .i64 (pos : Int), .it id], []⟩ H i ⟨[.str l, v, w, .int .i64 ((pos + plB (decide (pos = 0)) (l.drop pos) : Nat) : Int)], []⟩ H' ∧
      ((i = 0 ∧ pos + plB (decide (pos = 0)) (l.drop pos) = l.length) ∨ (i = 1 ∧ v = .int .i64 ((pos + plB (decide (pos = 0)) (l.drop pos) : Nat) : Int) ∧ w = .int .i64 ((pos + plB (decide (pos = 0)) (l.drop pos) : Nat) : Int))) := by
  intro N
  induction N with
  | zero =>
    intro pos H hN hpl hH
    have hp : ¬ pos < l.length := by omega
    have hd : l.drop pos = [] := List.drop_of_length_le (by omega)
    rw [hd]
    refine ⟨H, 0, .undef, .undef, LDoes.step (Evs.of fun n m => ?_), .inl ⟨rfl, by simp [plB]; omega⟩⟩
    simp [↓q00, ↓q01, q2g, nextK, hH, hp, plB]
  | succ N ih =>
    intro pos H hN hpl hH
    by_cases hp : pos < l.length
    · have hid : id < H.length := (List.getElem?_eq_some_iff.1 hH).1
      have hdd := q3a l pos
      have hdr : l.drop pos = l[pos] :: l.drop (pos + 1) := List.drop_eq_getElem_cons hp
      have wp : IntKind.wrap .i64 ((pos : Int) + 1) = ((pos + 1 : Nat) : Int) := by rw [q0k (by omega) (by omega)]; omega
      -- does the sign stand?
      generalize hok : (bif decide (pos = 0) then firstZ (l[pos].toNat : Int) else goesZ (l[pos].toNat : Int)) = ok
      have hpl1 : plB (decide (pos = 0)) (l.drop pos) = if ok = true then 1 + plB false (l.drop (pos + 1)) else 0 := by
        rw [hdr]
        show (if (bif decide (pos = 0) then firstZ (l[pos].toNat : Int) else goesZ (l[pos].toNat : Int)) then _ else _) = _
        rw [hok]
      have hfg : ∀ c : Nat, (bif decide (pos = 0) then firstZ (c : Int) else goesZ (c : Int)) = true → goesZ (c : Int) = true := fun c h => by
        cases hz : decide (pos = 0)
        · rw [hz] at h; exact h
        · rw [hz] at h; exact q5w h
      have hd1 : (bif decide (pos = 0) then firstZ ((decodeL (l.drop pos)).1 : Int) else goesZ ((decodeL (l.drop pos)).1 : Int)) = ok := by
        rcases Nat.lt_or_ge l[pos].toNat 128 with hb | hb
        · rw [hdr, q28 hb]
          exact hok
        · have h1 : 128 ≤ (decodeL (l.drop pos)).1 := by rw [hdr]; exact q9g hb
          have n1 : ∀ c : Nat, 128 ≤ c → (bif decide (pos = 0) then firstZ (c : Int) else goesZ (c : Int)) = false := fun c hc => by
            cases hx : (bif decide (pos = 0) then firstZ (c : Int) else goesZ (c : Int))
            · rfl
            · have := q2i (hfg c hx)
              omega
          rw [n1 _ h1, ← hok, n1 _ hb]
      cases ok with
      | true =>
        have hg := hfg _ hd1
        have hb : l[pos].toNat < 128 := by
          have := q2i (hfg _ hok)
          omega
        have hdw : decodeL (l.drop pos) = (l[pos].toNat, 1) := by rw [hdr, q28 hb]
        obtain ⟨H', i, v, w, hL, hR⟩ := ih (pos + 1) (H.set id (.iter l (pos + 1))) (by omega) (by omega) (List.getElem?_set_self hid)
        have hz1 : decide (pos + 1 = 0) = false := by simp
        rw [hz1] at hL hR
        have hq : pos + plB (decide (pos = 0)) (l.drop pos) = pos + 1 + plB false (l.drop (pos + 1)) := by
          rw [hpl1, if_pos rfl]
          omega
        rw [hq]
        refine ⟨H', i, v, w, LDoes.step (Evs.withL hL (Evs.of fun n m _ h2 => ?_)), hR⟩
        rw [hdw] at hdd hd1 hg
        simp only [] at hd1 hg
        generalize ((pos + 1 + plB false (l.drop (pos + 1)) : Nat) : Int) = Q at *
        by_cases h0 : pos = 0
        · have d0 : decide (pos = 0) = true := by simp [h0]
          rw [d0, cond_true] at hd1
          subst h0
          have h2' : qeb (polT TPl) n m ⟨[.str l, .int .i64 1, .it id], []⟩ (H.set id (.iter l 1)) = some (i, ⟨[.str l, v, w, .int .i64 Q], []⟩, H') := h2
          have w1 : IntKind.wrap .i64 1 = 1 := q0k (by omega) (by omega)
          have hdd' : Utf8.decode ⟨l.toArray⟩ 0 = (l[0].toNat, 1) := hdd
          have hd1' : firstZ (l[0].toNat : Int) = true := hd1
          have hg' : goesZ (l[0].toNat : Int) = true := hg
          have hH' : H[id]? = some (.iter l 0) := hH
          clear hok hpl1 hq hfg hdr hdw hz1 hL ih
          generalize l[0].toNat = zz at *
          simp [↓q00, ↓q01, ↓q03, ↓q02, q2g, nextK, hH', hp, hdd', hd1', hg', w1, kFirst, kGoes, A.asG, guardB, A.pick, h2']
        · have d0 : decide (pos = 0) = false := by simp [h0]
          have hi0 : ¬ ((pos : Int) = 0) := by omega
          simp only [Int.natCast_add, Int.natCast_one] at wp h2
          simp [↓q00, ↓q01, ↓q03, ↓q02, q2g, nextK, hH, hp, hdd, hg, kGoes, A.asG, guardB, A.pick, h0, wp, h2]
      | false =>
        have hq : pos + plB (decide (pos = 0)) (l.drop pos) = pos := by rw [hpl1]; simp
        rw [hq]
        refine ⟨H.set id (.iter l (pos + (decodeL (l.drop pos)).2)), 1, _, _, LDoes.step (Evs.of fun n m => ?_), .inr ⟨rfl, rfl, rfl⟩⟩
        generalize decodeL (l.drop pos) = d at *
        by_cases h0 : pos = 0
        · have d0 : decide (pos = 0) = true := by simp [h0]
          rw [d0, cond_true] at hd1
          subst h0
          simp [↓q00, ↓q01, ↓q03, ↓q02, q2g, nextK, hH, hp, hdd, hd1, kFirst, A.asG, guardB, A.pick]
        · have d0 : decide (pos = 0) = false := by simp [h0]
          rw [d0, cond_false] at hd1
          have hi0 : ¬ ((pos : Int) = 0) := by omega
          simp [↓q00, ↓q01, ↓q03, ↓q02, q2g, nextK, hH, hp, hdd, hd1, kGoes, A.asG, guardB, A.pick, h0]
    · have hd : l.drop pos = [] := List.drop_of_length_le (by omega)
      rw [hd]
      refine ⟨H, 0, .undef, .undef, LDoes.step (Evs.of fun n m => ?_), .inl ⟨rfl, by simp [plB]; omega⟩⟩
      simp [↓q00, ↓q01, q2g, nextK, hH, hp, plB]
def plN (s : List UInt8) : Nat := plB true s
noncomputable def pPln : Pol := .still (p1 cS (fun n : Nat => .tup [.int .i64 (n : Int), .int .i64 (n : Int)]) q0l plN)
theorem okPln : PolOK base 31 pPln := still1 base_ok TPl ⟨qgr, okGoes, trivial⟩ fun s hs => by
  unfold q0l at hs
  obtain ⟨H', i, v, w, hL, hR⟩ := qex (l := s) (id := 0) hs s.length 0 [.iter s 0] (by omega) (Nat.zero_le _) rfl
  have e : 0 + plB (decide (0 = 0)) (s.drop 0) = plN s := by simp [plN]
  rw [e] at hL hR
  refine Evs.withL hL (Evs.of fun n m h1 _ => ?_)
  have h1' : qeb (polT TPl) n n ⟨[.str s, .int .i64 0, .it 0], []⟩ [.iter s 0] = some (i, ⟨[.str s, v, w, .int .i64 (plN s : Int)], []⟩, H') := h1
  rcases hR with ⟨rfl, hq⟩ | ⟨rfl, rfl, rfl⟩
  · have hl : A.lenStr (.str s) = some (.int .i64 (plN s : Int)) := by rw [hq]; rfl
    generalize (plN s : Int) = Q at *
    simp [↓q04, ↓q01, ↓q05, S31, rangeK, h1', hl]
    rfl
  · generalize (plN s : Int) = Q at *
    simp [↓q04, ↓q05, S31, rangeK, h1']
    rfl
theorem kPln {R : Type} {s : List UInt8} (h : q0l s) {H : Heap} {k : AV → Heap → Option R} : polK pPln [.str s] H k = k (.tup [.int .i64 (plN s : Int), .int .i64 (plN s : Int)]) H := by
  simp [pPln, q0i, h]
def isPl (s : List UInt8) : Bool := decide (plN s = s.length) && decide (0 < plN s)
noncomputable def pPlain : Pol := .still (p1 cS .bool q0l isPl)
theorem qgs : PolOK base 13 pPlain := still1 base_ok [(31, pPln)] ⟨okPln, trivial⟩ fun s hs => by
  have k1 : ∀ (R : Type) (H : Heap) (k : AV → Heap → Option R), polK pPln [.str s] H k = k (.tup [.int .i64 (plN s : Int), .int .i64 (plN s : Int)]) H := fun R H k => kPln hs
  have hl : A.lenStr (.str s) = some (.int .i64 (s.length : Int)) := rfl
  have e1 : isPl s = (decide ((plN s : Int) = (s.length : Int)) && decide (0 < (plN s : Int))) := by
    unfold isPl
    congr 1
    · simp only [decide_eq_decide]; omega
    · simp only [decide_eq_decide]; omega
  rw [e1]
  generalize (plN s : Int) = N at *
  generalize (s.length : Int) = M at *
  by_cases h1 : N = M
  · subst h1
    by_cases h2 : 0 < N
    · exact Evs.of fun n m => by simp [↓q01, ↓q03, ↓q02, S13, k1, hl, A.asG, guardB, A.pick, h2]
    · exact Evs.of fun n m => by simp [↓q01, ↓q03, ↓q02, S13, k1, hl, A.asG, guardB, A.pick, h2]
  · exact Evs.of fun n m => by simp [↓q01, ↓q03, ↓q02, S13, k1, hl, A.asG, guardB, A.pick, h1]
theorem kPlain {R : Type} {s : List UInt8} (h : q0l s) {H : Heap} {k : AV → Heap → Option R} : polK pPlain [.str s] H k = k (.bool (isPl s)) H := by
  simp [pPlain, q0i, h]
end Go.Proofs.YtdkjednjlpcboaaDoor

/- Texts: a builder. -/
set_option maxRecDepth 100000
set_option maxHeartbeats 8000000
namespace Go.Proofs.YtdkjednjlpcboaaDoor
open Go Go.Den Go.Lib
/-! ### cells of an object -/
section
variable {H : Heap} {id ver sz j : Nat} {ty : TypeId} {es cs : List AV}
theorem q10 {off : Nat} {v : AV} (h : H[id]? = some (.row ver sz ty es)) (he : es[j]? = some (.agg cs)) (hv : cs[off]? = some v) : A.load false 1 (.ptr id ver j off) H = some v := by
  simp [A.load, A.elemAt, h, he, A.ofList, AV.cells, hv]
theorem q1j {o : Nat} (h : H[id]? = some (.row ver sz ty es)) : A.fa o (.ptr id ver j 0) H = some (.ptr id ver j o) := by
  simp [A.fa, A.alive, h]
theorem q5t {off : Nat} {v w : AV} (h : H[id]? = some (.row ver sz ty es)) (he : es[j]? = some (.agg cs)) (hw : cs[off]? = some w) (hv : v.one = true) : A.store 1 (.ptr id ver j off) v H = some (H.set id (.row ver sz ty (es.set j (.agg (cs.set off v))))) := by
  have hc : v.cells = [v] := by cases v <;> first | rfl | cases hv
  have hl : off < cs.length := (List.getElem?_eq_some_iff.1 hw).1
  have hs : A.splice cs off [v] = cs.set off v := by
    unfold A.splice
    rw [List.set_eq_take_append_cons_drop, if_pos hl]
    simp
  simp [A.store, A.fits, hc, hv, h, he, A.setElem, hs]
  omega
end
/-! ### bytes that are put together -/
abbrev ebq (x : UInt8) : AV := .int .u8 x.toNat
def q3g (o : HObj) : Prop := ∀ w t es, o ≠ .row w 1 t es
theorem q64 {l news : List UInt8} {H : Heap} {v : AV} (h : Out ebq 1 5 H v l) (X : Heap) (hm : l.length + news.length ≤ 100000000000) :
    ∃ (v' : AV) (H' : Heap), A.append 1 1 5 v (news.map ebq) (H ++ X) = some (v', H') ∧ Out ebq 1 5 H' v' (l ++ news) ∧ ∀ (k : Nat) (o : HObj), q3g o → H[k]? = some o → H'[k]? = some o := by
  have fr : ∀ k o, H[k]? = some o → (H ++ X)[k]? = some o := fun k o h => by
    rw [List.getElem?_append_left (List.getElem?_eq_some_iff.1 h).1]
    exact h
  by_cases hn : news = []
  · subst hn
    rw [List.map_nil, List.append_nil]
    rcases h with ⟨rfl, rfl⟩ | ⟨id, ver, h0, rfl, h2⟩
    · exact ⟨.nils, H ++ X, rfl, .nil, fun k o _ h => fr k o h⟩
    · have h3 := q3w h2 X
      refine ⟨_, _, q8a h3 (by simp) (by omega) (by simp; omega), .inr ⟨id, ver, h0, rfl, q4p h3⟩, fun k o hno h => ?_⟩
      rw [List.getElem?_set_ne (fun e => by
        subst e
        rw [h2] at h
        injection h with h
        exact hno _ _ _ h.symm)]
      exact fr k o h
  · have hne : news.map ebq ≠ [] := by simpa using hn
    rcases h with ⟨rfl, rfl⟩ | ⟨id, ver, h0, rfl, h2⟩
    · refine ⟨_, _, nil_append hne (by omega) (by simp; omega), .inr ⟨_, 0, by simpa using hn, by simp, q0y⟩, fun k o _ h => ?_⟩
      rw [List.getElem?_append_left (List.getElem?_eq_some_iff.1 (fr k o h)).1]
      exact fr k o h
    · have h3 := q3w h2 X
      refine ⟨_, _, q2j h3 (by simp) hne (by omega) (by simp; omega), .inr ⟨id, ver + 1, by simp [h0], by simp, ?_⟩, fun k o hno h => ?_⟩
      · rw [q4p h3]
        simp
      · rw [List.getElem?_set_ne (fun e => by
          subst e
          rw [h2] at h
          injection h with h
          exact hno _ _ _ h.symm)]
        exact fr k o h
theorem out_one {H : Heap} {v : AV} {l : List UInt8} (h : Out ebq 1 5 H v l) : v.one = true := by
  rcases h with ⟨-, rfl⟩ | ⟨_, _, _, rfl, _⟩ <;> rfl
theorem qgw {H : Heap} {v : AV} {l : List UInt8} {b w : Nat} {t : TypeId} {es : List AV} {o : HObj} (h : Out ebq 1 5 H v l) (hb : H[b]? = some (.row w 2 t es)) : Out ebq 1 5 (H.set b o) v l := by
  rcases h with h | ⟨id, ver, h0, h1, h2⟩
  · exact .inl h
  · refine .inr ⟨id, ver, h0, h1, ?_⟩
    rw [List.getElem?_set_ne (fun e => by
      subst e
      rw [hb] at h2
      injection h2 with h2
      injection h2 with _ h2
      cases h2)]
    exact h2
def Bd (H : Heap) (b : Nat) (out : List UInt8) : Prop := ∃ a v, H[b]? = some (.row 0 2 37 [.agg [a, v]]) ∧ (a = .nilp ∨ a = .ptr b 0 0 0) ∧ Out ebq 1 5 H v out
def Keep (b : Nat) (H H' : Heap) : Prop := ∀ k o, k ≠ b → q3g o → H[k]? = some o → H'[k]? = some o
theorem Keep.trans {b : Nat} {H H1 H2 : Heap} (h : Keep b H H1) (g : Keep b H1 H2) : Keep b H H2 := fun k o hk hn ho => g k o hk hn (h k o hk hn ho)
/-! ### its own place -/
theorem qif : PolOK base 59 (.prim sameF) := qbg (fn := Tryd.f59) Tryd.func59 (by kernel_rfl) (by kernel_rfl) (by kernel_rfl) (by kernel_rfl)
noncomputable abbrev TCc : List (FuncId × Pol) := [(59, .prim sameF)]
noncomputable def pCc : Pol := .prim (runF base TCc 45)
theorem okCc : PolOK base 45 pCc := q3n base_ok TCc ⟨qif, trivial⟩
theorem kSame59 {R : Type} {v : AV} {H : Heap} {k : AV → Heap → Option R} : polK (.prim sameF) [v] H k = k v H := rfl
theorem conv_up {R : Type} {H : Heap} {b : Nat} {es : List AV} (h : H[b]? = some (.row 0 2 37 es)) (hl : es.length = 1) {k : AV → Heap → Option R} : q09 base 34 80 (.ptr b 0 0 0) H k = k (.ptr b 0 0 0) H := by
  have u1 : base.P.underlying 34 = some (.pointer 37) := by kernel_rfl
  have u2 : base.P.underlying 80 = some .unsafePointer := by kernel_rfl
  have hi : ∃ i, base.P.info? 37 = some i ∧ i.size = 2 := by
    have : (base.P.info? 37).map (·.size) = some 2 := by kernel_rfl
    cases hx : base.P.info? 37 with
    | none => rw [hx] at this; cases this
    | some i => rw [hx] at this; exact ⟨i, rfl, by simpa using this⟩
  obtain ⟨i, hi, hs⟩ := hi
  have h1 : Go.Den.convert base 34 80 (.ptr b 0 0 0) = none := by
    unfold Go.Den.convert
    rw [u1, u2]
  have h2 : convH base 34 80 (.ptr b 0 0 0) H = some (.ptr b 0 0 0) := by
    unfold convH
    rw [u1, u2]
    dsimp only
    rw [h, hi]
    dsimp only
    rw [hl, hs]
    rfl
  unfold q09
  rw [h1, h2]
theorem qfo {R : Type} {H : Heap} {b : Nat} {es : List AV} (h : H[b]? = some (.row 0 2 37 es)) (hl : es.length = 1) {k : AV → Heap → Option R} : q09 base 80 34 (.ptr b 0 0 0) H k = k (.ptr b 0 0 0) H := by
  have u1 : base.P.underlying 34 = some (.pointer 37) := by kernel_rfl
  have u2 : base.P.underlying 80 = some .unsafePointer := by kernel_rfl
  have hi : ∃ i, base.P.info? 37 = some i := by
    have : (base.P.info? 37).map (·.size) = some 2 := by kernel_rfl
    cases hx : base.P.info? 37 with
    | none => rw [hx] at this; cases this
    | some i => exact ⟨i, rfl⟩
  obtain ⟨i, hi⟩ := hi
  have hr : (Nat.beq 2 (base.P.cellsOf 37) && rowAt base.P (fun x => sameLayout base.P base.P.depth x 37) base.P.depth 37 1 0 1) = true := by kernel_rfl
  have h1 : Go.Den.convert base 80 34 (.ptr b 0 0 0) = none := by
    unfold Go.Den.convert
    rw [u1, u2]
  have h2 : convH base 80 34 (.ptr b 0 0 0) H = some (.ptr b 0 0 0) := by
    unfold convH
    rw [u1, u2]
    dsimp only
    rw [h, hi]
    dsimp only
    rw [hl]
    simp only [Bool.and_eq_true] at hr
    rw [hr.1, hr.2]
    rfl
  unfold q09
  rw [h1, h2]
theorem kCc {H : Heap} {b : Nat} {out : List UInt8} (h : Bd H b out) : ∃ H' v, H'[b]? = some (.row 0 2 37 [.agg [.ptr b 0 0 0, v]]) ∧ Out ebq 1 5 H' v out ∧ Keep b H H' ∧ ∀ (R : Type) (k : AV → Heap → Option R), polK pCc [.ptr b 0 0 0] H k = k (.tup []) H' := by
  obtain ⟨a, v, hb, ha, ho⟩ := h
  have up : base.P.underlying 34 = some (.pointer 37) := by kernel_rfl
  have hbl : b < H.length := (List.getElem?_eq_some_iff.1 hb).1
  have n1 : A.nilCheck (.ptr b 0 0 0) H = some (.ptr b 0 0 0) := q0o hb
  have n2 : A.fa 0 (.ptr b 0 0 0) H = some (.ptr b 0 0 0) := q1j hb
  rcases ha with rfl | rfl
  · have n3 : A.load false 1 (.ptr b 0 0 0) H = some .nilp := q10 hb rfl rfl
    have n4 : A.bin base.P .eql 34 .nilp .nilp true H = some (.bool true) := by simp [A.bin, up, A.eqNil]
    have c1 : ∀ (R : Type) (k : AV → Heap → Option R), q09 base 34 80 (.ptr b 0 0 0) H k = k (.ptr b 0 0 0) H := fun R k => conv_up hb rfl
    have c2 : ∀ (R : Type) (k : AV → Heap → Option R), q09 base 80 34 (.ptr b 0 0 0) H k = k (.ptr b 0 0 0) H := fun R k => qfo hb rfl
    have n5 : A.store 1 (.ptr b 0 0 0) (.ptr b 0 0 0) H = some (H.set b (.row 0 2 37 [.agg [.ptr b 0 0 0, v]])) := q5t (j := 0) (off := 0) (cs := [.nilp, v]) (v := .ptr b 0 0 0) (w := .nilp) hb rfl rfl rfl
    have hr : runF base TCc 45 [.ptr b 0 0 0] H = some (.tup [], H.set b (.row 0 2 37 [.agg [.ptr b 0 0 0, v]])) := q0p (Evs.of fun n m => by
      simp [↓q00, ↓q01, ↓q0c, ↓q05, S45, n1, n2, n3, n4, c1, c2, n5, kSame59])
    exact ⟨H.set b (.row 0 2 37 [.agg [.ptr b 0 0 0, v]]), v, List.getElem?_set_self hbl, qgw ho hb, fun k o hk _ h => by rw [List.getElem?_set_ne (fun e => hk e.symm)]; exact h, fun R k => q2v hr⟩
  · have n3 : A.load false 1 (.ptr b 0 0 0) H = some (.ptr b 0 0 0) := q10 hb rfl rfl
    have hi : (base.P.info? 37).isSome = true := by kernel_rfl
    have n4 : A.bin base.P .eql 34 (.ptr b 0 0 0) .nilp true H = some (.bool false) := by simp [A.bin, up, A.eqNil, A.eqNilH, A.alive, hb]
    have n5 : A.bin base.P .neq 34 (.ptr b 0 0 0) (.ptr b 0 0 0) false H = some (.bool false) := by simp [A.bin, up, A.eqNil, A.eqNilH, A.eqPtr, A.alive, hb, hi]
    have hr : runF base TCc 45 [.ptr b 0 0 0] H = some (.tup [], H) := q0p (Evs.of fun n m => by
      simp [↓q00, ↓q01, ↓q05, S45, n1, n2, n3, n4, n5])
    exact ⟨H, v, hb, ho, fun k o _ _ h => h, fun R k => q2v hr⟩
/-! ### a byte, a text -/
noncomputable abbrev TWb : List (FuncId × Pol) := [(45, pCc)]
noncomputable def pWb : Pol := .prim (runF base TWb 25)
theorem okWb : PolOK base 25 pWb := q3n base_ok TWb ⟨okCc, trivial⟩
theorem q98 {H : Heap} {b : Nat} {v v' : AV} {out : List UInt8} (hb : H[b]? = some (.row 0 2 37 [.agg [.ptr b 0 0 0, v]])) (ho : Out ebq 1 5 H v' out) :
    ∃ H' : Heap, A.store 1 (.ptr b 0 0 1) v' H = some H' ∧ Bd H' b out ∧ Keep b H H' ∧ H'[b]? = some (.row 0 2 37 [.agg [.ptr b 0 0 0, v']]) := by
  have hbl : b < H.length := (List.getElem?_eq_some_iff.1 hb).1
  refine ⟨H.set b (.row 0 2 37 [.agg [.ptr b 0 0 0, v']]), q5t (j := 0) (off := 1) (cs := [.ptr b 0 0 0, v]) (v := v') (w := v) hb rfl rfl (out_one ho), ⟨_, v', List.getElem?_set_self hbl, .inr rfl, qgw ho hb⟩, fun k o hk _ h => by rw [List.getElem?_set_ne (fun e => hk e.symm)]; exact h, List.getElem?_set_self hbl⟩
theorem q9x {b : Nat} {es : List AV} {w : Nat} {t : TypeId} : q3g (.row w 2 t es) := fun w t es h => by cases h
theorem kWb {H : Heap} {b : Nat} {out : List UInt8} (h : Bd H b out) (hl : out.length ≤ 10000000) (c : UInt8) : ∃ H' : Heap, Bd H' b (out ++ [c]) ∧ Keep b H H' ∧ ∀ (R : Type) (k : AV → Heap → Option R), polK pWb [.ptr b 0 0 0, .int .u8 (c.toNat : Int)] H k = k .nili H' := by
  obtain ⟨H1, v, hb, ho, hk1, k1⟩ := kCc h
  have hb1 : (H1 ++ [HObj.row 0 1 5 [ebq c]])[b]? = some (.row 0 2 37 [.agg [.ptr b 0 0 0, v]]) := by
    rw [List.getElem?_append_left (List.getElem?_eq_some_iff.1 hb).1]
    exact hb
  obtain ⟨v', H3, ha, ho3, hk3⟩ := q64 (news := [c]) ho [HObj.row 0 1 5 [ebq c]] (by simp; omega)
  have hb3 := hk3 b _ (q9x (b := b)) hb
  obtain ⟨H4, hs, hB, hk4, -⟩ := q98 hb3 ho3
  have n1 : A.nilCheck (.ptr b 0 0 0) H1 = some (.ptr b 0 0 0) := q0o hb
  have n2 : A.fa 1 (.ptr b 0 0 0) H1 = some (.ptr b 0 0 1) := q1j hb
  have n3 : A.load false 1 (.ptr b 0 0 1) H1 = some v := q10 hb rfl rfl
  have n4 : A.fillElems 1 [.int .u8 0] [(0, 1, .int .u8 (c.toNat : Int))] = some [ebq c] := by simp [A.fillElems]
  have n5 : A.read 1 (.sl H1.length 0 0 1 1) (H1 ++ [HObj.row 0 1 5 [ebq c]]) = some [ebq c] := q3i q0y rfl
  have n6 : A.nilCheck (.ptr b 0 0 0) H3 = some (.ptr b 0 0 0) := q0o hb3
  have n7 : A.fa 1 (.ptr b 0 0 0) H3 = some (.ptr b 0 0 1) := q1j hb3
  simp only [List.map_cons, List.map_nil] at ha
  have hr : runF base TWb 25 [.ptr b 0 0 0, .int .u8 (c.toNat : Int)] H = some (.nili, H4) := q0p (Evs.of fun n m => by
    simp [↓q04, ↓q06, ↓q01, ↓q0t, ↓q0c, ↓q0u, S25, k1, n1, n2, n3, n4, q21 q48, n5, ha, n6, n7, hs])
  exact ⟨H4, hB, (hk1.trans fun k o hk hn h => hk3 k o hn h).trans hk4, fun R k => q2v hr⟩
noncomputable def pWs : Pol := .prim (runF base TWb 27)
theorem okWs : PolOK base 27 pWs := q3n base_ok TWb ⟨okCc, trivial⟩
theorem qer {z : AV} {s : List UInt8} {H : Heap} : newsZ base 1 1 z 9 (.str s) H = some (s.map ebq) := by
  unfold newsZ newsOf
  rw [q4d]
  rfl
theorem kWs {H : Heap} {b : Nat} {out : List UInt8} (h : Bd H b out) (s : List UInt8) (hl : out.length + s.length ≤ 10000000) : ∃ H' : Heap, Bd H' b (out ++ s) ∧ Keep b H H' ∧ ∀ (R : Type) (k : AV → Heap → Option R), polK pWs [.ptr b 0 0 0, .str s] H k = k (.tup [.int .i64 (s.length : Int), .nili]) H' := by
  obtain ⟨H1, v, hb, ho, hk1, k1⟩ := kCc h
  obtain ⟨v', H3, ha, ho3, hk3⟩ := q64 (news := s) ho [] (by omega)
  rw [List.append_nil] at ha
  have hb3 := hk3 b _ (q9x (b := b)) hb
  obtain ⟨H4, hs, hB, hk4, -⟩ := q98 hb3 ho3
  have n1 : A.nilCheck (.ptr b 0 0 0) H1 = some (.ptr b 0 0 0) := q0o hb
  have n2 : A.fa 1 (.ptr b 0 0 0) H1 = some (.ptr b 0 0 1) := q1j hb
  have n3 : A.load false 1 (.ptr b 0 0 1) H1 = some v := q10 hb rfl rfl
  have n5 : ∀ z, newsZ base 1 1 z 9 (.str s) H1 = some (s.map ebq) := fun z => qer
  have n6 : A.nilCheck (.ptr b 0 0 0) H3 = some (.ptr b 0 0 0) := q0o hb3
  have n7 : A.fa 1 (.ptr b 0 0 0) H3 = some (.ptr b 0 0 1) := q1j hb3
  have n8 : A.lenStr (.str s) = some (.int .i64 (s.length : Int)) := rfl
  have hr : runF base TWb 27 [.ptr b 0 0 0, .str s] H = some (.tup [.int .i64 (s.length : Int), .nili], H4) := q0p (Evs.of fun n m => by
    generalize (s.length : Int) = L at *
    generalize s.map ebq = es at *
    simp [↓q01, ↓q0t, ↓q0c, ↓q0u, S27, k1, n1, n2, n3, n5, ha, n6, n7, n8, hs])
  exact ⟨H4, hB, (hk1.trans fun k o hk hn h => hk3 k o hn h).trans hk4, fun R k => q2v hr⟩
end Go.Proofs.YtdkjednjlpcboaaDoor

/- Texts: a sign is put behind bytes. -/
set_option maxRecDepth 100000
set_option maxHeartbeats 8000000
namespace Go.Proofs.YtdkjednjlpcboaaDoor
open Go Go.Den Go.Lib
theorem qj3 {n : Nat} : IntKind.wrap .u8 (n : Int) = ((n % 256 : Nat) : Int) := by
  simp [IntKind.wrap, IntKind.bits, IntKind.signed]
theorem qan (n : Nat) : Go.Den.convert base 21 5 (.int .i32 (n : Int)) = some (.int .u8 ((n % 256 : Nat) : Int)) := by
  rw [← qj3]
  exact q2c (x := .int .i32) (by kernel_rfl) (by kernel_rfl)
theorem qd2 {n : Nat} (h : n < 4294967296) : Go.Den.convert base 21 82 (.int .i32 (n : Int)) = some (.int .u32 (n : Int)) := by
  have e : IntKind.wrap .u32 (n : Int) = (n : Int) := by
    simp [IntKind.wrap, IntKind.bits, IntKind.signed]
    omega
  rw [← e]
  have := q2c (E := base) (s := 21) (d := 82) (x := .int .i32) (n := (n : Int)) (j := .i32) (k := .u32) (by kernel_rfl) (by kernel_rfl)
  rw [e] at this ⊢
  exact this
theorem shr_r {P : Program} {t : TypeId} {j : IntKind} {a : Nat} {c : Bool} {H : Heap} : A.bin P .shr t (.int .i32 (a : Int)) (.int j 6) c H = some (.int .i32 ((a / 64 : Nat) : Int)) ∧ A.bin P .shr t (.int .i32 (a : Int)) (.int j 12) c H = some (.int .i32 ((a / 4096 : Nat) : Int)) ∧ A.bin P .shr t (.int .i32 (a : Int)) (.int j 18) c H = some (.int .i32 ((a / 262144 : Nat) : Int)) := by
  have h1 : (a : Int).fdiv 64 = ((a / 64 : Nat) : Int) := by rw [Int.fdiv_eq_ediv_of_nonneg _ (by omega)]; rfl
  have h2 : (a : Int).fdiv 4096 = ((a / 4096 : Nat) : Int) := by rw [Int.fdiv_eq_ediv_of_nonneg _ (by omega)]; rfl
  have h3 : (a : Int).fdiv 262144 = ((a / 262144 : Nat) : Int) := by rw [Int.fdiv_eq_ediv_of_nonneg _ (by omega)]; rfl
  exact ⟨by simp [A.bin, A.binInt, IntKind.bits, h1], by simp [A.bin, A.binInt, IntKind.bits, h2], by simp [A.bin, A.binInt, IntKind.bits, h3]⟩
theorem or_u8 {a b s : Nat} (ha : a % 2 ^ s = 0) (hb : b < 2 ^ s) (h : a + b < 256) : orI .u8 (a : Int) (b : Int) = ((a + b : Nat) : Int) := by
  unfold orI
  rw [show IntKind.bits .u8 = 8 from rfl, BitVec.toNat_or]
  simp
  have e : a ||| b = a + b := by
    have := Nat.two_pow_add_eq_or_of_lt hb (a / 2 ^ s)
    have e2 : 2 ^ s * (a / 2 ^ s) = a := by have := Nat.div_add_mod a (2 ^ s); omega
    rw [e2] at this
    exact this.symm
  rw [Nat.mod_eq_of_lt (by omega), Nat.mod_eq_of_lt (by omega), e]
  have := qe8 h
  simpa using this
theorem q8u {P : Program} {t : TypeId} {a b s : Nat} {c : Bool} {H : Heap} (ha : a % 2 ^ s = 0) (hb : b < 2 ^ s) (h : a + b < 256) : A.bin P .or t (.int .u8 (a : Int)) (.int .u8 (b : Int)) c H = some (.int .u8 ((a + b : Nat) : Int)) := by
  rw [q39, or_u8 ha hb h]
theorem qbp {P : Program} {t : TypeId} {a : Nat} {c : Bool} {H : Heap} (ha : a < 256) : A.bin P .and t (.int .u8 (a : Int)) (.int .u8 63) c H = some (.int .u8 ((a % 64 : Nat) : Int)) := by
  have := q38 (k := 6) ha (by omega)
  rw [q0h]
  exact congrArg (fun x => some (AV.int .u8 x)) this
theorem q4a {n : Nat} (h : n < 256) : ebq (UInt8.ofNat n) = .int .u8 (n : Int) := by
  show AV.int .u8 (((UInt8.ofNat n).toNat : Nat) : Int) = _
  have : (UInt8.ofNat n).toNat = n := by simp; omega
  rw [this]
theorem q50 {out : List UInt8} {H : Heap} {v : AV} (h : Out ebq 1 5 H v out) (hl : out.length ≤ 10000000) (news : List UInt8) (hn : news.length ≤ 8) :
    ∃ (v' : AV) (H' : Heap), A.append 1 1 5 v (news.map ebq) (H ++ [.row 0 1 5 (news.map ebq)]) = some (v', H') ∧ A.read 1 (.sl H.length 0 0 news.length news.length) (H ++ [.row 0 1 5 (news.map ebq)]) = some (news.map ebq) ∧ Out ebq 1 5 H' v' (out ++ news) ∧ ∀ (k : Nat) (o : HObj), q3g o → H[k]? = some o → H'[k]? = some o := by
  obtain ⟨v', H', h1, h2, h3⟩ := q64 (news := news) h [.row 0 1 5 (news.map ebq)] (by omega)
  exact ⟨v', H', h1, q3i q0y (by simp), h2, h3⟩
noncomputable def pArn : Pol := .prim (runF base [] 60)
theorem okArn : PolOK base 60 pArn := q3n base_ok [] trivial
theorem kArn {H : Heap} {v : AV} {out : List UInt8} (h : Out ebq 1 5 H v out) (hl : out.length ≤ 10000000) {r : Nat} (hs : scal r) (h1 : ¬ r < 128) : ∃ (v' : AV) (H' : Heap), Out ebq 1 5 H' v' (out ++ enc r) ∧ (∀ (k : Nat) (o : HObj), q3g o → H[k]? = some o → H'[k]? = some o) ∧ ∀ (R : Type) (k : AV → Heap → Option R), polK pArn [v, .int .i32 (r : Int)] H k = k v' H' := by
  have hsc : r < 55296 ∨ 57344 ≤ r ∧ r < 1114112 := by unfold scal at hs; omega
  have c0 := qd2 (n := r) (by omega)
  have c1 := qan r
  have c2 := qan (r / 64)
  have c3 := qan (r / 4096)
  have c4 := qan (r / 262144)
  have s6 := fun (H : Heap) => (shr_r (P := base.P) (t := 21) (j := .u64) (a := r) (c := true) (H := H)).1
  have s12 := fun (H : Heap) => (shr_r (P := base.P) (t := 21) (j := .u64) (a := r) (c := true) (H := H)).2.1
  have s18 := fun (H : Heap) => (shr_r (P := base.P) (t := 21) (j := .u64) (a := r) (c := true) (H := H)).2.2
  have a1 := fun (H : Heap) => qbp (P := base.P) (t := 5) (a := r % 256) (c := true) (H := H) (by omega)
  have a2 := fun (H : Heap) => qbp (P := base.P) (t := 5) (a := r / 64 % 256) (c := true) (H := H) (by omega)
  have a3 := fun (H : Heap) => qbp (P := base.P) (t := 5) (a := r / 4096 % 256) (c := true) (H := H) (by omega)
  have m1 : r % 256 % 64 = r % 64 := by omega
  have m2 : r / 64 % 256 % 64 = r / 64 % 64 := by omega
  have m3 : r / 4096 % 256 % 64 = r / 4096 % 64 := by omega
  have o1 := fun (H : Heap) => q8u (P := base.P) (t := 5) (a := 128) (b := r % 256 % 64) (s := 7) (c := false) (H := H) (by omega) (by omega) (by omega)
  have o2 := fun (H : Heap) => q8u (P := base.P) (t := 5) (a := 128) (b := r / 64 % 256 % 64) (s := 7) (c := false) (H := H) (by omega) (by omega) (by omega)
  have o3 := fun (H : Heap) => q8u (P := base.P) (t := 5) (a := 128) (b := r / 4096 % 256 % 64) (s := 7) (c := false) (H := H) (by omega) (by omega) (by omega)
  by_cases h2 : r < 2048
  · have he : (enc r).map ebq = [.int .u8 ((192 + r / 64 % 256 : Nat) : Int), .int .u8 ((128 + r % 256 % 64 : Nat) : Int)] := by
      rw [qap h1 h2, List.map_cons, List.map_cons, List.map_nil, q4a (by omega), q4a (by omega), m1, Nat.mod_eq_of_lt (show r / 64 < 256 by omega)]
    obtain ⟨v', H', p1, p2, p3, p4⟩ := q50 h hl (enc r) (by rw [qap h1 h2]; simp)
    have hln : (enc r).length = 2 := by rw [qap h1 h2]; rfl
    have o4 := fun (H : Heap) => q8u (P := base.P) (t := 5) (a := 192) (b := r / 64 % 256) (s := 6) (c := false) (H := H) (by omega) (by omega) (by omega)
    rw [he] at p1 p2
    rw [hln] at p2
    have q1 : (r : Int) ≤ 2047 := by omega
    have hr : runF base [] 60 [v, .int .i32 (r : Int)] H = some (v', H') := q0p (Evs.of fun n m => by
      have e192 : ((192 : Nat) : Int) = 192 := rfl
      have e128 : ((128 : Nat) : Int) = 128 := rfl
      rw [e192] at o4
      rw [e128] at o1
      generalize ((192 + r / 64 % 256 : Nat) : Int) = B0 at *
      generalize ((128 + r % 256 % 64 : Nat) : Int) = B1 at *
      generalize ((r % 256 % 64 : Nat) : Int) = X1 at *
      generalize ((r / 64 % 256 : Nat) : Int) = X2 at *
      generalize ((r % 256 : Nat) : Int) = X3 at *
      generalize ((r / 64 : Nat) : Int) = X4 at *
      generalize (r : Int) = Z at *
      simp [↓q00, ↓q04, ↓q06, ↓q01, ↓q0t, ↓q0u, S60, c0, q1, s6, c2, o4, c1, a1, o1, A.fillElems, q21 q48, p2, p1])
    exact ⟨v', H', p3, p4, fun R k => q2v hr⟩
  by_cases h3 : r < 65536
  · have he : (enc r).map ebq = [.int .u8 ((224 + r / 4096 % 256 : Nat) : Int), .int .u8 ((128 + r / 64 % 256 % 64 : Nat) : Int), .int .u8 ((128 + r % 256 % 64 : Nat) : Int)] := by
      rw [qc1 h2 h3 hs, List.map_cons, List.map_cons, List.map_cons, List.map_nil, q4a (by omega), q4a (by omega), q4a (by omega), m1, m2, Nat.mod_eq_of_lt (show r / 4096 < 256 by omega)]
    obtain ⟨v', H', p1, p2, p3, p4⟩ := q50 h hl (enc r) (by rw [qc1 h2 h3 hs]; simp)
    have hln : (enc r).length = 3 := by rw [qc1 h2 h3 hs]; rfl
    have o4 := fun (H : Heap) => q8u (P := base.P) (t := 5) (a := 224) (b := r / 4096 % 256) (s := 4) (c := false) (H := H) (by omega) (by omega) (by omega)
    rw [he] at p1 p2
    rw [hln] at p2
    have q1 : ¬ (r : Int) ≤ 2047 := by omega
    have q2 : (r : Int) ≤ 65535 := by omega
    have hr : runF base [] 60 [v, .int .i32 (r : Int)] H = some (v', H') := q0p (Evs.of fun n m => by
      have e224 : ((224 : Nat) : Int) = 224 := rfl
      have e128 : ((128 : Nat) : Int) = 128 := rfl
      rw [e224] at o4
      rw [e128] at o1 o2
      by_cases q3 : (r : Int) < 55296
      · generalize ((224 + r / 4096 % 256 : Nat) : Int) = B0 at *
        generalize ((128 + r / 64 % 256 % 64 : Nat) : Int) = B2 at *
        generalize ((128 + r % 256 % 64 : Nat) : Int) = B1 at *
        generalize ((r % 256 % 64 : Nat) : Int) = X1 at *
        generalize ((r / 64 % 256 % 64 : Nat) : Int) = X5 at *
        generalize ((r / 64 % 256 : Nat) : Int) = X2 at *
        generalize ((r / 4096 % 256 : Nat) : Int) = X6 at *
        generalize ((r % 256 : Nat) : Int) = X3 at *
        generalize ((r / 64 : Nat) : Int) = X4 at *
        generalize ((r / 4096 : Nat) : Int) = X7 at *
        generalize (r : Int) = Z at *
        simp [↓q00, ↓q04, ↓q06, ↓q01, ↓q0t, ↓q0u, ↓q05, S60, c0, q1, q3, s6, s12, c1, c2, c3, o4, a1, a2, o1, o2, A.fillElems, q21 q48, p2, p1]
      · have q4 : (57343 : Int) < (r : Int) := by omega
        generalize ((224 + r / 4096 % 256 : Nat) : Int) = B0 at *
        generalize ((128 + r / 64 % 256 % 64 : Nat) : Int) = B2 at *
        generalize ((128 + r % 256 % 64 : Nat) : Int) = B1 at *
        generalize ((r % 256 % 64 : Nat) : Int) = X1 at *
        generalize ((r / 64 % 256 % 64 : Nat) : Int) = X5 at *
        generalize ((r / 64 % 256 : Nat) : Int) = X2 at *
        generalize ((r / 4096 % 256 : Nat) : Int) = X6 at *
        generalize ((r % 256 : Nat) : Int) = X3 at *
        generalize ((r / 64 : Nat) : Int) = X4 at *
        generalize ((r / 4096 : Nat) : Int) = X7 at *
        generalize (r : Int) = Z at *
        simp [↓q00, ↓q04, ↓q06, ↓q01, ↓q03, ↓q0t, ↓q0u, ↓q02, ↓q05, S60, c0, q1, q2, q3, q4, A.asG, guardB, A.pick, s6, s12, c1, c2, c3, o4, a1, a2, o1, o2, A.fillElems, q21 q48, p2, p1])
    exact ⟨v', H', p3, p4, fun R k => q2v hr⟩
  · have he : (enc r).map ebq = [.int .u8 ((240 + r / 262144 % 256 : Nat) : Int), .int .u8 ((128 + r / 4096 % 256 % 64 : Nat) : Int), .int .u8 ((128 + r / 64 % 256 % 64 : Nat) : Int), .int .u8 ((128 + r % 256 % 64 : Nat) : Int)] := by
      rw [qej h3 hs, List.map_cons, List.map_cons, List.map_cons, List.map_cons, List.map_nil, q4a (by omega), q4a (by omega), q4a (by omega), q4a (by omega), m1, m2, m3, Nat.mod_eq_of_lt (show r / 262144 < 256 by omega)]
    obtain ⟨v', H', p1, p2, p3, p4⟩ := q50 h hl (enc r) (by rw [qej h3 hs]; simp)
    have hln : (enc r).length = 4 := by rw [qej h3 hs]; rfl
    have o4 := fun (H : Heap) => q8u (P := base.P) (t := 5) (a := 240) (b := r / 262144 % 256) (s := 4) (c := false) (H := H) (by omega) (by omega) (by omega)
    rw [he] at p1 p2
    rw [hln] at p2
    have q1 : ¬ (r : Int) ≤ 2047 := by omega
    have q2 : ¬ (r : Int) ≤ 65535 := by omega
    have q3 : ¬ (r : Int) < 55296 := by omega
    have q4 : (57343 : Int) < (r : Int) := by omega
    have q5 : (65535 : Int) < (r : Int) := by omega
    have q6 : (r : Int) ≤ 1114111 := by omega
    have hr : runF base [] 60 [v, .int .i32 (r : Int)] H = some (v', H') := q0p (Evs.of fun n m => by
      have e240 : ((240 : Nat) : Int) = 240 := rfl
      have e128 : ((128 : Nat) : Int) = 128 := rfl
      rw [e240] at o4
      rw [e128] at o1 o2 o3
      generalize ((240 + r / 262144 % 256 : Nat) : Int) = B0 at *
      generalize ((128 + r / 4096 % 256 % 64 : Nat) : Int) = B3 at *
      generalize ((128 + r / 64 % 256 % 64 : Nat) : Int) = B2 at *
      generalize ((128 + r % 256 % 64 : Nat) : Int) = B1 at *
      generalize ((r % 256 % 64 : Nat) : Int) = X1 at *
      generalize ((r / 64 % 256 % 64 : Nat) : Int) = X5 at *
      generalize ((r / 4096 % 256 % 64 : Nat) : Int) = X8 at *
      generalize ((r / 64 % 256 : Nat) : Int) = X2 at *
      generalize ((r / 4096 % 256 : Nat) : Int) = X6 at *
      generalize ((r / 262144 % 256 : Nat) : Int) = X9 at *
      generalize ((r % 256 : Nat) : Int) = X3 at *
      generalize ((r / 64 : Nat) : Int) = X4 at *
      generalize ((r / 4096 : Nat) : Int) = X7 at *
      generalize ((r / 262144 : Nat) : Int) = X0 at *
      generalize (r : Int) = Z at *
      simp [↓q00, ↓q04, ↓q06, ↓q01, ↓q03, ↓q0t, ↓q0u, ↓q02, ↓q05, S60, c0, q1, q2, q3, q4, q5, q6, A.asG, guardB, A.pick, s6, s12, s18, c1, c2, c3, c4, o4, a1, a2, a3, o1, o2, o3, A.fillElems, q21 q48, p2, p1])
    exact ⟨v', H', p3, p4, fun R k => q2v hr⟩
noncomputable abbrev TAr : List (FuncId × Pol) := [(60, pArn)]
noncomputable def pAr : Pol := .prim (runF base TAr 46)
theorem okAr : PolOK base 46 pAr := q3n base_ok TAr ⟨okArn, trivial⟩
theorem kAr {H : Heap} {v : AV} {out : List UInt8} (h : Out ebq 1 5 H v out) (hl : out.length ≤ 10000000) {r : Nat} (hs : scal r) : ∃ (v' : AV) (H' : Heap), Out ebq 1 5 H' v' (out ++ enc r) ∧ (∀ (k : Nat) (o : HObj), q3g o → H[k]? = some o → H'[k]? = some o) ∧ ∀ (R : Type) (k : AV → Heap → Option R), polK pAr [v, .int .i32 (r : Int)] H k = k v' H' := by
  have hsc : r < 1114112 := by unfold scal at hs; omega
  have c0 := qd2 (n := r) (by omega)
  by_cases h1 : r < 128
  · have c1 := qan r
    have hm : r % 256 = r := by omega
    rw [hm] at c1
    have he : (enc r).map ebq = [.int .u8 (r : Int)] := by rw [q75 h1, List.map_cons, List.map_nil, q4a (by omega)]
    obtain ⟨v', H', p1, p2, p3, p4⟩ := q50 h hl (enc r) (by rw [q75 h1]; simp)
    have hln : (enc r).length = 1 := by rw [q75 h1]; rfl
    rw [he] at p1 p2
    rw [hln] at p2
    have q1 : (r : Int) ≤ 127 := by omega
    have hr : runF base TAr 46 [v, .int .i32 (r : Int)] H = some (v', H') := q0p (Evs.of fun n m => by
      generalize (r : Int) = Z at *
      simp [↓q00, ↓q04, ↓q06, ↓q01, ↓q0t, ↓q0u, S46, c0, q1, c1, A.fillElems, q21 q48, p2, p1])
    exact ⟨v', H', p3, p4, fun R k => q2v hr⟩
  · obtain ⟨v', H', p3, p4, kk⟩ := kArn h hl hs h1
    have q1 : ¬ (r : Int) ≤ 127 := by omega
    have hr : runF base TAr 46 [v, .int .i32 (r : Int)] H = some (v', H') := q0p (Evs.of fun n m => by
      generalize (r : Int) = Z at *
      simp [↓q00, ↓q01, S46, c0, q1, kk])
    exact ⟨v', H', p3, p4, fun R k => q2v hr⟩
noncomputable abbrev TWr : List (FuncId × Pol) := [(45, pCc), (46, pAr)]
noncomputable def pWr : Pol := .prim (runF base TWr 26)
theorem okWr : PolOK base 26 pWr := q3n base_ok TWr ⟨okCc, okAr, trivial⟩
theorem qgv {H : Heap} {v : AV} {l : List UInt8} (h : Out ebq 1 5 H v l) : A.len v H = some (.int .i64 (l.length : Int)) := by
  rcases h with ⟨rfl, rfl⟩ | ⟨id, ver, h0, rfl, h2⟩
  · rfl
  · simp [A.len, A.alive, h2]
theorem kWr {H : Heap} {b : Nat} {out : List UInt8} (h : Bd H b out) (hl : out.length ≤ 10000000) {r : Nat} (hs : scal r) : ∃ (H' : Heap) (w : AV), Bd H' b (out ++ enc r) ∧ Keep b H H' ∧ ∀ (R : Type) (k : AV → Heap → Option R), polK pWr [.ptr b 0 0 0, .int .i32 (r : Int)] H k = k w H' := by
  obtain ⟨H1, v, hb, ho, hk1, k1⟩ := kCc h
  obtain ⟨v', H3, ho3, hk3, k3⟩ := kAr ho hl hs
  have hb3 := hk3 b _ (q9x (b := b)) hb
  obtain ⟨H4, hst, hB, hk4, hb4⟩ := q98 hb3 ho3
  have n1 : A.nilCheck (.ptr b 0 0 0) H1 = some (.ptr b 0 0 0) := q0o hb
  have n2 : A.fa 1 (.ptr b 0 0 0) H1 = some (.ptr b 0 0 1) := q1j hb
  have n3 : A.load false 1 (.ptr b 0 0 1) H1 = some v := q10 hb rfl rfl
  have n4 := qgv ho
  have n6 : A.nilCheck (.ptr b 0 0 0) H3 = some (.ptr b 0 0 0) := q0o hb3
  have n7 : A.fa 1 (.ptr b 0 0 0) H3 = some (.ptr b 0 0 1) := q1j hb3
  have n8 : A.nilCheck (.ptr b 0 0 0) H4 = some (.ptr b 0 0 0) := q0o hb4
  have n9 : A.fa 1 (.ptr b 0 0 0) H4 = some (.ptr b 0 0 1) := q1j hb4
  have n10 : A.load false 1 (.ptr b 0 0 1) H4 = some v' := q10 hb4 rfl rfl
  have n11 : A.len v' H4 = some (.int .i64 ((out ++ enc r).length : Int)) := by
    obtain ⟨a2, v2, hb2, -, ho4⟩ := hB
    rw [hb4] at hb2
    injection hb2 with hb2
    injection hb2 with _ _ _ hb2
    injection hb2 with hb2 _
    injection hb2 with hb2
    injection hb2 with _ hb2
    injection hb2 with hb2 _
    rw [hb2]
    exact qgv ho4
  have hr : runF base TWr 26 [.ptr b 0 0 0, .int .i32 (r : Int)] H = some (.tup [.int .i64 (IntKind.wrap .i64 (((out ++ enc r).length : Int) - (out.length : Int))), .nili], H4) := q0p (Evs.of fun n m => by
    generalize ((out ++ enc r).length : Int) = L1 at *
    generalize (out.length : Int) = L at *
    generalize (r : Int) = Z at *
    simp [↓q01, ↓q0c, S26, k1, n1, n2, n3, n4, k3, n6, n7, n8, n9, n10, n11, hst])
  exact ⟨H4, _, hB, (hk1.trans fun k o hk hn h => hk3 k o hn h).trans hk4, fun R k => q2v hr⟩
end Go.Proofs.YtdkjednjlpcboaaDoor

/- A sign's number by sixteens: by computation, one by one. -/
set_option maxRecDepth 100000
namespace Go.Proofs.YtdkjednjlpcboaaDoor.fmtr
open Go Go.Den
def q4n : List FuncId := [29, 47, 61, 62, 63, 64, 66, 67, 68, 69, 70, 72, 73]
noncomputable def env0 : Env := { P := Tryd.prog, pol := fun _ => .plain, ann := fun _ => {}, glob := fun g => bif Nat.beq g 0 then flatD (H := Unit) Rows.laid_unicode_utf8_first else bif Nat.beq g 1 then flatD (H := Unit) Rows.laid_unicode_utf8_acceptRanges else bif Nat.beq g 2 then flatD (H := Unit) Rows.laid_internal_strconv_uint64pow10 else bif Nat.beq g 3 then flatD (H := Unit) Rows.laid_math_bits_deBruijn32tab else bif Nat.beq g 4 then flatD (H := Unit) Rows.laid_math_bits_deBruijn64tab else none }
def q3x : List (Nat × List (Nat × Nat × Nat)) := []
def q4v : List (Nat × List (Nat × Nat × Nat)) → Nat → List (Nat × Nat × Nat)
  | [], _ => []
  | (g, l) :: r, f => bif Nat.beq g f then l else q4v r f
def annsIn (f : Nat) : Ann :=  .nil
noncomputable def tab (f : FuncId) : FAnn :=
  match Tryd.prog.funcs[f]? with
  | some fn => { ann := annsIn f, depth := Nat.log2 fn.ntmps + 1, sites := q4v q3x f, draws := qgk env0 (q4v q3x f) fn }
  | none => {}
noncomputable def env : Env := { env0 with ann := fun f => if f ∈ q4n then tab f else {} }
theorem qfz : EnvOK env := envOK q4n (by kernel_rfl) (fun f hf => by show (if f ∈ q4n then tab f else {}).draws = []; rw [if_neg hf]) (by kernel_rfl)
theorem qa3 : ∀ f, env.pol f = .plain ∨ ∃ F, env.pol f = .prim F ∧ PrimOK env f F := fun f => by
  refine .inl ?_
  show ( Pol.plain) = _
  rfl
theorem calls_ok (n : Nat) : CallOK env (callF env n) := q6z qfz (by kernel_rfl) qa3 n
def hexD (d : Nat) : UInt8 := if d < 10 then UInt8.ofNat (48 + d) else UInt8.ofNat (87 + d)
def hexS (c : Nat) : List UInt8 := if c < 16 then [hexD c] else [hexD (c / 16), hexD (c % 16)]
def qcp : Option AV → List UInt8 → Bool
  | some (.str l), m => l == m
  | _, _ => false
theorem qis {x : Option AV} {m : List UInt8} (h : qcp x m = true) : x = some (.str m) := by
  unfold qcp at h
  split at h
  · rename_i l
    have : l = m := by simpa using h
    rw [this]
  · cases h
theorem qg9 : (127 :: List.range 32).all (fun c : Nat => qcp (callF env 60 AV 29 [.int .i64 (c : Int), .int .i64 16] [] (fun v G => A.freezeB true 64 G v)) (hexS c)) = true := by kernel_rfl
theorem known {c : Nat} (h : c < 32 ∨ c = 127) : callF env 60 AV 29 [.int .i64 (c : Int), .int .i64 16] [] (fun v G => A.freezeB true 64 G v) = some (.str (hexS c)) :=
  qis (List.all_eq_true.1 qg9 c (by
    rcases h with h | h
    · exact List.mem_cons_of_mem _ (List.mem_range.2 h)
    · rw [h]; exact List.mem_cons_self))
end Go.Proofs.YtdkjednjlpcboaaDoor.fmtr
namespace Go.Proofs.YtdkjednjlpcboaaDoor
open Go Go.Den
def fFmt : List AV → Option AV
  | [.int .i64 c, .int .i64 b] => if b = 16 ∧ 0 ≤ c ∧ (c < 32 ∨ c = 127) then some (AV.str (fmtr.hexS c.toNat)) else none
  | _ => none
noncomputable def pFmt : Pol := .still fFmt
theorem okFmt : PolOK base 29 pFmt := q7r (E := base) (E' := fmtr.env) rfl rfl fmtr.calls_ok fun xs v h => by
  unfold fFmt at h
  split at h
  · rename_i c b
    split at h
    · rename_i hc
      obtain ⟨rfl, h0, h1⟩ := hc
      cases h
      have e : ((c.toNat : Nat) : Int) = c := by omega
      have := fmtr.known (c := c.toNat) (by omega)
      rw [e] at this
      exact ⟨60, this⟩
    · cases h
  · cases h
theorem kFmt {R : Type} {c : Nat} (h : c < 32 ∨ c = 127) {H : Heap} {k : AV → Heap → Option R} : polK pFmt [.int .i64 (c : Int), .int .i64 16] H k = k (.str (fmtr.hexS c)) H := by
  unfold pFmt
  rw [q0i (by simp)]
  have : fFmt [.int .i64 (c : Int), .int .i64 16] = some (.str (fmtr.hexS c)) := by
    show (if (16 : Int) = 16 ∧ 0 ≤ (c : Int) ∧ ((c : Int) < 32 ∨ (c : Int) = 127) then some (AV.str (fmtr.hexS (c : Int).toNat)) else none) = _
    rw [if_pos ⟨rfl, by omega, by omega⟩]
    rfl
  rw [this]
  rfl
end Go.Proofs.YtdkjednjlpcboaaDoor

/- Texts: a name as it is written. -/
set_option maxRecDepth 100000
set_option maxHeartbeats 8000000
namespace Go.Proofs.YtdkjednjlpcboaaDoor
open Go Go.Den Go.Lib
/-! ### a builder's text -/
theorem q8f : ∀ l : List UInt8, A.bytes8 (l.map ebq) = some l
  | [] => rfl
  | x :: l => by
    have hx := x.toNat_lt
    have e : (x.toNat : Int).toNat.toUInt8 = x := by simp
    rw [List.map_cons]
    show (bif decide ((0 : Int) ≤ (x.toNat : Int)) && decide ((x.toNat : Int) < 256) then (match A.bytes8 (l.map ebq) with | some l => some ((x.toNat : Int).toNat.toUInt8 :: l) | none => none) else none) = _
    rw [q8f l, e]
    have h1 : decide ((0 : Int) ≤ (x.toNat : Int)) = true := by simp
    have h2 : decide ((x.toNat : Int) < 256) = true := by simp; omega
    rw [h1, h2]
    rfl
noncomputable def pStr : Pol := .prim (runF base [] 30)
theorem okStr : PolOK base 30 pStr := q3n base_ok [] trivial
theorem kStr {H : Heap} {b : Nat} {out : List UInt8} (h : Bd H b out) (hne : out ≠ []) (hl : out.length ≤ 100000000) : ∃ H' : Heap, ∀ (R : Type) (k : AV → Heap → Option R), polK pStr [.ptr b 0 0 0] H k = k (.str out) H' := by
  obtain ⟨a, v, hb, ha, ho⟩ := h
  rcases ho with ⟨rfl, -⟩ | ⟨id, ver, -, rfl, h2⟩
  · exact absurd rfl hne
  have hpos : 0 < out.length := List.length_pos_iff.2 hne
  have n1 : A.nilCheck (.ptr b 0 0 0) H = some (.ptr b 0 0 0) := q0o hb
  have n2 : A.fa 1 (.ptr b 0 0 0) H = some (.ptr b 0 0 1) := q1j hb
  have n3 : A.load false 1 (.ptr b 0 0 1) H = some (.sl id ver 0 out.length out.length) := q10 hb rfl rfl
  have b1 : ∀ (R : Type) (k : AV → Heap → Option R), q18 base .unsafeSliceData [35] [.sl id ver 0 out.length out.length] H k = k (.ptr id ver 0 0) H := fun R k => by
    show withV (A.sliceData (.sl id ver 0 out.length out.length) H) (fun v => k v H) = _
    have : A.sliceData (.sl id ver 0 out.length out.length) H = some (.ptr id ver 0 0) := by simp [A.sliceData, A.alive, h2, hpos]
    rw [this]
    rfl
  have n4 : A.len (.sl id ver 0 out.length out.length) H = some (.int .i64 (out.length : Int)) := by simp [A.len, A.alive, h2]
  have b2 : ∀ (R : Type) (k : AV → Heap → Option R), q18 base .unsafeString [73, 3] [.ptr id ver 0 0, .int .i64 (out.length : Int)] H k = k (.str out) (H.set id .dead) := fun R k => by
    have u1 : base.P.underlying 73 = some (.pointer 5) := by kernel_rfl
    have u2 : Nat.beq (base.P.cellsOf 5) 1 = true := by kernel_rfl
    have hu : A.unsafeStr 5 (.ptr id ver 0 0) (.int .i64 (out.length : Int)) H = some (.str out, H.set id .dead) := by
      have e0 : ¬ ((out.length : Int) = 0) := by omega
      have e1 : (0 : Int) < (out.length : Int) := by omega
      have e2 : (out.length : Int) ≤ 9223372036854775807 := by omega
      have e3 : ((out.map ebq).drop 0).take ((out.length : Int).toNat) = out.map ebq := by
        rw [List.drop_zero]
        exact List.take_of_length_le (by simp)
      simp only [A.unsafeStr, h2, e0, decide_false, cond_false, e1, e2, decide_true, e3, q8f]
      simp
    show (match base.P.underlying 73 with
      | some (.pointer e) => bif Nat.beq (base.P.cellsOf e) 1 then match A.unsafeStr e (.ptr id ver 0 0) (.int .i64 (out.length : Int)) H with
        | some (v, H') => k v H'
        | none => none
        else none
      | _ => none) = _
    rw [u1]
    dsimp only
    rw [u2, hu]
    rfl
  have hr : runF base [] 30 [.ptr b 0 0 0] H = some (.str out, H.set id .dead) := q0p (Evs.of fun n m => by
    generalize (out.length : Int) = L at *
    generalize out.length = l at *
    simp [↓q01, ↓q1k, S30, n1, n2, n3, b1, n4, b2])
  exact ⟨_, fun R k => q2v hr⟩
/-! ### sign by sign -/
def escR (c : Nat) : List UInt8 :=
  if c = 39 ∨ c = 92 then 92 :: enc c else if c = 10 then [92, 110] else if c < 32 ∨ c = 127 then [92, 120] ++ fmtr.hexS c ++ [59] else enc c
theorem qfy {r : Nat} (hs : scal r) : (enc r).length ≤ 4 := by
  by_cases h1 : r < 128
  · rw [q75 h1]; simp
  by_cases h2 : r < 2048
  · rw [qap h1 h2]; simp
  by_cases h3 : r < 65536
  · rw [qc1 h2 h3 hs]; simp
  · rw [qej h3 hs]; simp
theorem qc7 (c : Nat) : (fmtr.hexS c).length ≤ 2 := by
  unfold fmtr.hexS
  split <;> simp
theorem q9j {r : Nat} (hs : scal r) : (escR r).length ≤ 5 := by
  have h1 := qfy hs
  have h2 := qc7 r
  unfold escR
  split
  · simp only [List.length_cons]; omega
  split
  · simp
  split
  · simp only [List.length_append, List.length_cons, List.length_nil]; omega
  · omega
noncomputable abbrev TQuo : List (FuncId × Pol) := [(12, q1n), (13, pPlain), (25, pWb), (26, pWr), (27, pWs), (28, pLow), (29, pFmt), (30, pStr)]
theorem cv_r_64 {n : Nat} (h : n < 2147483648) : Go.Den.convert base 21 2 (.int .i32 (n : Int)) = some (.int .i64 (n : Int)) := by
  have e : IntKind.wrap .i64 (n : Int) = (n : Int) := q0k (by omega) (by omega)
  have := q2c (E := base) (s := 21) (d := 2) (x := .int .i32) (n := (n : Int)) (j := .i32) (k := .i64) (by kernel_rfl) (by kernel_rfl)
  rw [e] at this
  exact this
theorem qez {s : List UInt8} {b id : Nat} (hib : id ≠ b) (hsl : s.length ≤ 1000000) : ∀ (N pos : Nat) (H : Heap) (out : List UInt8), s.length - pos ≤ N → pos ≤ s.length → validD (s.drop pos) = true → H[id]? = some (.iter s pos) → Bd H b out → out.length + 5 * (s.length - pos) ≤ 6000000 →
    ∃ H' : Heap, LDoes (qfa (polT TQuo)) ⟨[.ptr b 0 0 0, .it id], []⟩ H 0 ⟨[.ptr b 0 0 0], []⟩ H' ∧ Bd H' b (out ++ (rs (s.drop pos)).flatMap escR) := by
  intro N
  induction N with
  | zero =>
    intro pos H out hN hpl hv hH hB hlen
    have hp : ¬ pos < s.length := by omega
    have hd : s.drop pos = [] := List.drop_of_length_le (by omega)
    rw [hd, q31, List.flatMap_nil, List.append_nil]
    refine ⟨H, LDoes.step (Evs.of fun n m => ?_), hB⟩
    simp [↓q00, ↓q04, ↓q01, q1r, nextK, hH, hp]
  | succ N ih =>
    intro pos H out hN hpl hv hH hB hlen
    by_cases hp : pos < s.length
    · have hne := q4h hp
      have hdd := q3a s pos
      have hid : id < H.length := (List.getElem?_eq_some_iff.1 hH).1
      have hv2 := hv
      rw [validD_step _ hne] at hv2
      by_cases hg : (decodeL (s.drop pos)).1 = 65533 ∧ (decodeL (s.drop pos)).2 = 1
      · rw [if_pos hg] at hv2; cases hv2
      rw [if_neg hg, List.drop_drop] at hv2
      obtain ⟨e1, hs, e3, e4⟩ := q44 hne hg
      rw [List.length_drop] at e3
      have hrs := q1o hne
      rw [List.drop_drop] at hrs
      rw [hrs, List.flatMap_cons, ← List.append_assoc]
      have hle := q9j hs
      clear hg e1 hrs hv
      generalize decodeL (s.drop pos) = d at *
      -- the place goes on
      have hH1 : (H.set id (.iter s (pos + d.2)))[id]? = some (.iter s (pos + d.2)) := List.getElem?_set_self hid
      have hB1 : Bd (H.set id (.iter s (pos + d.2))) b out := by
        obtain ⟨a, v, h1, h2, h3⟩ := hB
        refine ⟨a, v, by rw [List.getElem?_set_ne hib]; exact h1, h2, ?_⟩
        rcases h3 with h3 | ⟨i2, ver, g0, g1, g2⟩
        · exact .inl h3
        · refine .inr ⟨i2, ver, g0, g1, ?_⟩
          rw [List.getElem?_set_ne (fun e => by
            subst e
            rw [hH] at g2
            cases g2)]
          exact g2
      generalize hH2 : H.set id (.iter s (pos + d.2)) = H1 at *
      have nit : q3g (.iter s (pos + d.2)) := fun w t es h => by cases h
      -- what goes on
      have go : ∀ (H2 : Heap), Bd H2 b (out ++ escR d.1) → Keep b H1 H2 → ∃ H' : Heap, LDoes (qfa (polT TQuo)) ⟨[.ptr b 0 0 0, .it id], []⟩ H2 0 ⟨[.ptr b 0 0 0], []⟩ H' ∧ Bd H' b (out ++ escR d.1 ++ (rs (s.drop (pos + d.2))).flatMap escR) := fun H2 h2 hk =>
        ih (pos + d.2) H2 (out ++ escR d.1) (by omega) (by omega) hv2 (hk id _ hib nit hH1) h2 (by rw [List.length_append]; omega)
      have hol : out.length ≤ 6000000 := by omega
      have hnb : ∀ k : Nat, (k : Int) = ((k : Nat) : Int) := fun _ => rfl
      by_cases c1 : d.1 = 39 ∨ d.1 = 92
      · have he : escR d.1 = [92] ++ enc d.1 := by unfold escR; rw [if_pos c1]; rfl
        obtain ⟨H2, hB2, hk2, k2⟩ := kWb hB1 (by omega) 92
        obtain ⟨H3, w, hB3, hk3, k3⟩ := kWr hB2 (by simp; omega) hs
        rw [List.append_assoc, ← he] at hB3
        obtain ⟨H', hL, hB'⟩ := go H3 hB3 (hk2.trans hk3)
        refine ⟨H', LDoes.step (Evs.withL hL (Evs.of fun n m _ h2 => ?_)), hB'⟩
        have k2' : ∀ (R : Type) (k : AV → Heap → Option R), polK pWb [.ptr b 0 0 0, .int .u8 92] H1 k = k .nili H2 := k2
        rcases c1 with c1 | c1
        · have z1 : (d.1 : Int) = 39 := by omega
          rw [z1] at k3
          simp [↓q00, ↓q04, ↓q01, ↓q03, ↓q02, ↓q05, q1r, nextK, hH, hp, hdd, z1, hH2, A.asG, guardB, A.pick, k2', k3, h2]
        · have z1 : (d.1 : Int) = 92 := by omega
          rw [z1] at k3
          simp [↓q00, ↓q04, ↓q01, ↓q03, ↓q02, ↓q05, q1r, nextK, hH, hp, hdd, z1, hH2, A.asG, guardB, A.pick, k2', k3, h2]
      have n39 : ¬ (d.1 : Int) = 39 := by omega
      have n92 : ¬ (d.1 : Int) = 92 := by omega
      by_cases c2 : d.1 = 10
      · have he : escR d.1 = [92, 110] := by unfold escR; rw [if_neg c1, if_pos c2]
        obtain ⟨H2, hB2, hk2, k2⟩ := kWs hB1 [92, 110] (by simp; omega)
        rw [← he] at hB2
        obtain ⟨H', hL, hB'⟩ := go H2 hB2 hk2
        refine ⟨H', LDoes.step (Evs.withL hL (Evs.of fun n m _ h2 => ?_)), hB'⟩
        have n10 : (d.1 : Int) = 10 := by omega
        simp [↓q00, ↓q04, ↓q01, ↓q03, ↓q02, ↓q05, q1r, nextK, hH, hp, hdd, n10, hH2, A.asG, guardB, A.pick, k2, h2]
      have n10 : ¬ (d.1 : Int) = 10 := by omega
      by_cases c3 : d.1 < 32 ∨ d.1 = 127
      · have he : escR d.1 = [92, 120] ++ fmtr.hexS d.1 ++ [59] := by unfold escR; rw [if_neg c1, if_neg c2, if_pos c3]
        have hhx := qc7 d.1
        obtain ⟨H2, hB2, hk2, k2⟩ := kWs hB1 ([92, 120] ++ fmtr.hexS d.1 ++ [59]) (by simp only [List.length_append, List.length_cons, List.length_nil]; omega)
        rw [← he] at hB2
        obtain ⟨H', hL, hB'⟩ := go H2 hB2 hk2
        refine ⟨H', LDoes.step (Evs.withL hL (Evs.of fun n m _ h2 => ?_)), hB'⟩
        have hlow : lowZ (d.1 : Int) = true := by
          unfold lowZ
          simp only [Bool.or_eq_true, decide_eq_true_eq]
          omega
        have hc64 := cv_r_64 (n := d.1) (by omega)
        have kf : ∀ (R : Type) (H : Heap) (k : AV → Heap → Option R), polK pFmt [.int .i64 (d.1 : Int), .int .i64 16] H k = k (.str (fmtr.hexS d.1)) H := fun R H k => kFmt c3
        have s1 : ∀ H, A.bin base.P .add 9 (.str [92, 120]) (.str (fmtr.hexS d.1)) false H = some (.str ([92, 120] ++ fmtr.hexS d.1)) := fun H => by
          simp only [A.bin, A.binStr]
          rw [if_pos (by simp only [List.length_cons, List.length_nil]; omega)]
        have s2 : ∀ H, A.bin base.P .add 9 (.str ([92, 120] ++ fmtr.hexS d.1)) (.str [59]) true H = some (.str ([92, 120] ++ fmtr.hexS d.1 ++ [59])) := fun H => by
          simp only [A.bin, A.binStr]
          rw [if_pos (by simp only [List.length_append, List.length_cons, List.length_nil]; omega)]
        clear he hB2 hL go hB' hlen
        generalize ([92, 120] ++ fmtr.hexS d.1 ++ [59] : List UInt8) = T3 at *
        generalize ([92, 120] ++ fmtr.hexS d.1 : List UInt8) = T2 at *
        generalize fmtr.hexS d.1 = T1 at *
        simp [↓q00, ↓q04, ↓q01, ↓q03, ↓q02, ↓q05, q1r, nextK, hH, hp, hdd, n39, n92, n10, hH2, A.asG, guardB, A.pick, kLow, hlow, hc64, kf, s1, s2, k2, h2]
      · have he : escR d.1 = enc d.1 := by unfold escR; rw [if_neg c1, if_neg c2, if_neg c3]
        obtain ⟨H2, w, hB2, hk2, k2⟩ := kWr hB1 (by omega) hs
        rw [← he] at hB2
        obtain ⟨H', hL, hB'⟩ := go H2 hB2 hk2
        refine ⟨H', LDoes.step (Evs.withL hL (Evs.of fun n m _ h2 => ?_)), hB'⟩
        have hlow : lowZ (d.1 : Int) = false := by
          unfold lowZ
          simp only [Bool.or_eq_false_iff, decide_eq_false_iff_not]
          omega
        simp [↓q00, ↓q04, ↓q01, ↓q03, ↓q02, ↓q05, q1r, nextK, hH, hp, hdd, n39, n92, n10, hH2, A.asG, guardB, A.pick, kLow, hlow, k2, h2]
    · have hd : s.drop pos = [] := List.drop_of_length_le (by omega)
      rw [hd, q31, List.flatMap_nil, List.append_nil]
      refine ⟨H, LDoes.step (Evs.of fun n m => ?_), hB⟩
      simp [↓q00, ↓q04, ↓q01, q1r, nextK, hH, hp]
def quoS (s : List UInt8) : List UInt8 := if validD s = true then (if isPl s = true then s else [39] ++ (rs s).flatMap escR ++ [39]) else []
noncomputable def pQuo : Pol := .still (p1 cS .str q0l quoS)
theorem okQuo : PolOK base 11 pQuo := still1 base_ok TQuo ⟨q5a, qgs, okWb, okWr, okWs, okLow, okFmt, okStr, trivial⟩ fun s hs => by
  have hs' : s.length ≤ 1000000 := hs
  have kp : ∀ (R : Type) (H : Heap) (k : AV → Heap → Option R), polK pPlain [.str s] H k = k (.bool (isPl s)) H := fun R H k => kPlain hs
  unfold quoS
  cases hv : validD s
  · rw [if_neg (by simp)]
    exact Evs.of fun n m => by simp [↓q00, ↓q04, ↓q06, ↓q01, S11, q1u, hv]
  rw [if_pos rfl]
  cases hp : isPl s
  · rw [if_neg (by simp)]
    rw [hp] at kp
    have hB0 : Bd [.row 0 2 37 [.agg [.nilp, .nils]]] 0 [] := ⟨_, _, rfl, .inl rfl, .nil⟩
    obtain ⟨H1, hB1, hk1, k1⟩ := kWb hB0 (by simp) 39
    have hit : (H1 ++ [.iter s 0])[H1.length]? = some (.iter s 0) := by simp
    have hbl : 0 < H1.length := by
      obtain ⟨a, v, h1, -⟩ := hB1
      exact (List.getElem?_eq_some_iff.1 h1).1
    have hB2 : Bd (H1 ++ [.iter s 0]) 0 ([] ++ [39]) := by
      obtain ⟨a, v, h1, h2, h3⟩ := hB1
      exact ⟨a, v, by rw [List.getElem?_append_left hbl]; exact h1, h2, h3.app _⟩
    obtain ⟨H3, hL, hB3⟩ := qez (s := s) (b := 0) (id := H1.length) (by omega) hs' s.length 0 (H1 ++ [.iter s 0]) ([] ++ [39]) (by omega) (Nat.zero_le _) hv hit hB2 (by simp; omega)
    rw [List.drop_zero] at hB3
    have hlen : ((rs s).flatMap escR).length ≤ 5000000 := by
      have h1 := (q37 _ s (Nat.le_refl _) hv).2
      have h2 : ∀ L : List Nat, (∀ r ∈ L, scal r) → (L.flatMap escR).length ≤ 5 * L.length := fun L => by
        induction L with
        | nil => intro _; simp
        | cons r L ih =>
          intro h
          have := ih fun x hx => h x (List.mem_cons_of_mem _ hx)
          have h3 := q9j (h r List.mem_cons_self)
          rw [List.flatMap_cons, List.length_append, List.length_cons]
          omega
      have h3 := h2 _ h1
      have h4 := q8y _ s (Nat.le_refl _)
      omega
    obtain ⟨H4, hB4, hk4, k4⟩ := kWb hB3 (by simp only [List.length_append, List.length_cons, List.length_nil]; omega) 39
    obtain ⟨H5, k5⟩ := kStr hB4 (by simp) (by simp only [List.length_append, List.length_cons, List.length_nil]; omega)
    have e : [] ++ [39] ++ (rs s).flatMap escR ++ [39] = [39] ++ (rs s).flatMap escR ++ [39] := rfl
    rw [e] at k5
    have k1' : ∀ (R : Type) (k : AV → Heap → Option R), polK pWb [.ptr 0 0 0 0, .int .u8 39] [.row 0 2 37 [.agg [.nilp, .nils]]] k = k .nili H1 := k1
    have k4' : ∀ (R : Type) (k : AV → Heap → Option R), polK pWb [.ptr 0 0 0 0, .int .u8 39] H3 k = k .nili H4 := k4
    refine Evs.withL hL (Evs.of fun n m h1 _ => ?_)
    generalize ([39] ++ (rs s).flatMap escR ++ [39] : List UInt8) = T at *
    simp [↓q00, ↓q04, ↓q06, ↓q01, ↓q05, S11, q1u, hv, kp, k1', rangeK, h1, k4', k5]
  · rw [if_pos rfl]
    rw [hp] at kp
    exact Evs.of fun n m => by
      simp [↓q00, ↓q04, ↓q06, ↓q01, S11, q1u, hv, kp]
theorem kQuo {R : Type} {s : List UInt8} (h : q0l s) {H : Heap} {k : AV → Heap → Option R} : polK pQuo [.str s] H k = k (.str (quoS s)) H := by
  simp [pQuo, q0i, h]
end Go.Proofs.YtdkjednjlpcboaaDoor

/- Names as they are written: what is said of them. -/
set_option maxRecDepth 100000
set_option maxHeartbeats 8000000
namespace Go.Proofs.YtdkjednjlpcboaaDoor
open Go Go.Den Go.Lib
def lowC (c : Nat) : Prop := c < 32 ∨ c = 127
def qr (c : Nat) : List Nat :=
  if c = 39 ∨ c = 92 then [92, c] else if c = 10 then [92, 110] else if c < 32 ∨ c = 127 then 92 :: 120 :: ((fmtr.hexS c).map UInt8.toNat ++ [59]) else [c]
end Go.Proofs.YtdkjednjlpcboaaDoor

/- Texts: a reader of signs. -/
set_option maxRecDepth 100000
set_option maxHeartbeats 8000000
namespace Go.Proofs.YtdkjednjlpcboaaDoor
open Go Go.Den Go.Lib
structure Rdr (H : Heap) (b : Nat) (s : List UInt8) (p : Nat) (L : List Nat) : Prop where
  row : H[b]? = some (.row 0 2 58 [.agg [.str s, .int .i64 (p : Int)]])
  le : p ≤ s.length
  val : validD (s.drop p) = true
  sig : rs (s.drop p) = L
  len : s.length ≤ 1000000
theorem Rdr.end {H : Heap} {b : Nat} {s : List UInt8} {p : Nat} {L : List Nat} (h : Rdr H b s p L) : p = s.length - (L.flatMap enc).length := by
  have h1 := (q37 _ _ (Nat.le_refl _) h.val).1
  rw [h.sig] at h1
  have := congrArg List.length h1
  rw [List.length_drop] at this
  have := h.le
  omega
noncomputable abbrev TNx : List (FuncId × Pol) := [(33, pDec)]
noncomputable def pNx : Pol := .prim (runF base TNx 55)
theorem okNx : PolOK base 55 pNx := q3n base_ok TNx ⟨okDec, trivial⟩
def Keep2 (b : Nat) (H H' : Heap) : Prop := ∀ k, k ≠ b → H'[k]? = H[k]?
theorem qcc {H : Heap} {b : Nat} {s : List UInt8} {p : Nat} (h : Rdr H b s p []) : ∀ (R : Type) (k : AV → Heap → Option R), polK pNx [.ptr b 0 0 0] H k = k (.tup [.int .i32 0, .bool false]) H := by
  obtain ⟨hb, hle, hv, hs, hl⟩ := h
  have hd : s.drop p = [] := by
    rcases Nat.lt_or_ge p s.length with hp | hp
    · rw [q1o (q4h hp)] at hs
      cases hs
    · exact List.drop_of_length_le hp
  have hp : p = s.length := by
    have := congrArg List.length hd
    simp at this
    omega
  have n1 : A.nilCheck (.ptr b 0 0 0) H = some (.ptr b 0 0 0) := q0o hb
  have n2 : A.fa 1 (.ptr b 0 0 0) H = some (.ptr b 0 0 1) := q1j hb
  have n3 : A.load false 1 (.ptr b 0 0 1) H = some (.int .i64 (p : Int)) := q10 hb rfl rfl
  have n4 : A.fa 0 (.ptr b 0 0 0) H = some (.ptr b 0 0 0) := q1j hb
  have n5 : A.load false 1 (.ptr b 0 0 0) H = some (.str s) := q10 hb rfl rfl
  have n6 : A.lenStr (.str s) = some (.int .i64 (s.length : Int)) := rfl
  have c1 : (s.length : Int) ≤ (p : Int) := by omega
  have hr : runF base TNx 55 [.ptr b 0 0 0] H = some (.tup [.int .i32 0, .bool false], H) := q0p (Evs.of fun n m => by
    generalize (s.length : Int) = N at *
    generalize (p : Int) = P at *
    simp [↓q00, ↓q01, S55, n1, n2, n3, n4, n5, n6, c1])
  exact fun R k => q2v hr
theorem kNx {H : Heap} {b : Nat} {s : List UInt8} {p c : Nat} {L : List Nat} (h : Rdr H b s p (c :: L)) : ∃ (H' : Heap) (p' : Nat), Rdr H' b s p' L ∧ Keep2 b H H' ∧ scal c ∧ ∀ (R : Type) (k : AV → Heap → Option R), polK pNx [.ptr b 0 0 0] H k = k (.tup [.int .i32 (c : Int), .bool true]) H' := by
  obtain ⟨hb, hle, hv, hs, hl⟩ := h
  have hp : p < s.length := by
    rcases Nat.lt_or_ge p s.length with hp | hp
    · exact hp
    · rw [List.drop_of_length_le hp, q31] at hs
      cases hs
  have hne := q4h hp
  have hbl : b < H.length := (List.getElem?_eq_some_iff.1 hb).1
  have hv2 := hv
  rw [validD_step _ hne] at hv2
  by_cases hg : (decodeL (s.drop p)).1 = 65533 ∧ (decodeL (s.drop p)).2 = 1
  · rw [if_pos hg] at hv2; cases hv2
  rw [if_neg hg, List.drop_drop] at hv2
  obtain ⟨-, hsc, e3, e4⟩ := q44 hne hg
  rw [List.length_drop] at e3
  rw [q1o hne, List.drop_drop] at hs
  injection hs with hc hs
  have hd : decR (s.drop p) = decodeL (s.drop p) := by unfold decR; rw [if_neg hne]
  have kd : ∀ (R : Type) (k : AV → Heap → Option R), polQ pDec [.str (s.drop p)] H k = k (.tup [.int .i32 ((decR (s.drop p)).1 : Int), .int .i64 ((decR (s.drop p)).2 : Int)]) H := fun R k => by
    simp [pDec, qii, hv]
  rw [hd] at kd
  generalize decodeL (s.drop p) = d at *
  subst hc
  have n1 : A.nilCheck (.ptr b 0 0 0) H = some (.ptr b 0 0 0) := q0o hb
  have n2 : A.fa 1 (.ptr b 0 0 0) H = some (.ptr b 0 0 1) := q1j hb
  have n3 : A.load false 1 (.ptr b 0 0 1) H = some (.int .i64 (p : Int)) := q10 hb rfl rfl
  have n4 : A.fa 0 (.ptr b 0 0 0) H = some (.ptr b 0 0 0) := q1j hb
  have n5 : A.load false 1 (.ptr b 0 0 0) H = some (.str s) := q10 hb rfl rfl
  have n6 : A.lenStr (.str s) = some (.int .i64 (s.length : Int)) := rfl
  have n7 : A.sliceStr (.str s) (some (.int .i64 (p : Int))) none = some (.str (s.drop p)) := q11 hle
  have n8 : A.store 1 (.ptr b 0 0 1) (.int .i64 ((p + d.2 : Nat) : Int)) H = some (H.set b (.row 0 2 58 [.agg [.str s, .int .i64 ((p + d.2 : Nat) : Int)]])) := q5t (j := 0) (off := 1) (cs := [.str s, .int .i64 (p : Int)]) (v := .int .i64 ((p + d.2 : Nat) : Int)) (w := .int .i64 (p : Int)) hb rfl rfl rfl
  have n9 : IntKind.wrap .i64 ((p : Int) + (d.2 : Int)) = ((p + d.2 : Nat) : Int) := by rw [q0k (by omega) (by omega)]; omega
  have c1 : ¬ (s.length : Int) ≤ (p : Int) := by omega
  have hr : runF base TNx 55 [.ptr b 0 0 0] H = some (.tup [.int .i32 (d.1 : Int), .bool true], H.set b (.row 0 2 58 [.agg [.str s, .int .i64 ((p + d.2 : Nat) : Int)]])) := q0p (Evs.of fun n m => by
    generalize ((p + d.2 : Nat) : Int) = Q at *
    generalize (s.length : Int) = N at *
    generalize (p : Int) = P at *
    simp [↓q00, ↓q01, ↓q0c, S55, n1, n2, n3, n4, n5, n6, c1, n7, kd, n9, n8])
  exact ⟨_, p + d.2, ⟨List.getElem?_set_self hbl, by omega, hv2, hs, hl⟩, fun k hk => List.getElem?_set_ne (fun e => hk e.symm), hsc, fun R k => q2v hr⟩
/-! ### a number by sixteens -/
def digN (c : Nat) : Int := if 48 ≤ c ∧ c ≤ 57 then (c : Int) - 48 else if 97 ≤ c ∧ c ≤ 102 then (c : Int) - 97 + 10 else if 65 ≤ c ∧ c ≤ 70 then (c : Int) - 65 + 10 else -1
theorem qbz (c : Nat) : -1 ≤ digN c ∧ digN c < 16 := by unfold digN; split <;> (try split) <;> (try split) <;> omega
noncomputable def pDig : Pol := .still (p1 (cI .i32) (.int .i32) (fun z => 0 ≤ z ∧ z < 1114112) fun z => digN z.toNat)
theorem okDig : PolOK base 71 pDig := still1 base_ok [] trivial fun z ⟨z0, z1⟩ => by
  have hw : ∀ x : Int, -100 ≤ x → x ≤ 100 → IntKind.wrap .i32 x = x := fun x h1 h2 => by
    simp [IntKind.wrap, IntKind.bits, IntKind.signed]
    omega
  by_cases h1 : 48 ≤ z ∧ z ≤ 57
  · have e : digN z.toNat = z - 48 := by unfold digN; rw [if_pos (by omega)]; omega
    rw [e]
    have w := hw (z - 48) (by omega) (by omega)
    exact Evs.of fun n m => by simp [↓q00, ↓q01, ↓q03, ↓q02, S71, A.asG, guardB, A.pick, h1.1, h1.2, w]
  by_cases h2 : 97 ≤ z ∧ z ≤ 102
  · have e : digN z.toNat = z - 97 + 10 := by unfold digN; rw [if_neg (by omega), if_pos (by omega)]; omega
    rw [e]
    have w1 := hw (z - 97) (by omega) (by omega)
    have w2 := hw (z - 97 + 10) (by omega) (by omega)
    have n1 : (48 : Int) ≤ z := by omega
    have n2 : ¬ z ≤ 57 := by omega
    exact Evs.of fun n m => by simp [↓q00, ↓q01, ↓q03, ↓q02, S71, A.asG, guardB, A.pick, n1, n2, h2.1, h2.2, w1, w2]
  by_cases h3 : 65 ≤ z ∧ z ≤ 70
  · have e : digN z.toNat = z - 65 + 10 := by unfold digN; rw [if_neg (by omega), if_neg (by omega), if_pos (by omega)]; omega
    rw [e]
    have w1 := hw (z - 65) (by omega) (by omega)
    have w2 := hw (z - 65 + 10) (by omega) (by omega)
    have n1 : (48 : Int) ≤ z := by omega
    have n2 : ¬ z ≤ 57 := by omega
    have n3 : ¬ 97 ≤ z := by omega
    exact Evs.of fun n m => by simp [↓q00, ↓q01, ↓q03, ↓q02, S71, A.asG, guardB, A.pick, n1, n2, n3, h3.1, h3.2, w1, w2]
  · have e : digN z.toNat = -1 := by unfold digN; rw [if_neg (by omega), if_neg (by omega), if_neg (by omega)]
    rw [e]
    rcases (show z < 48 ∨ (57 < z ∧ z < 65) ∨ (70 < z ∧ z < 97) ∨ 102 < z by omega) with c | c | c | c
    · have n1 : ¬ (48 : Int) ≤ z := by omega
      have n2 : ¬ (97 : Int) ≤ z := by omega
      have n3 : ¬ (65 : Int) ≤ z := by omega
      exact Evs.of fun n m => by simp [↓q00, ↓q01, ↓q03, ↓q02, S71, A.asG, guardB, A.pick, n1, n2, n3]
    · have n1 : (48 : Int) ≤ z := by omega
      have n4 : ¬ z ≤ 57 := by omega
      have n2 : ¬ (97 : Int) ≤ z := by omega
      have n3 : ¬ (65 : Int) ≤ z := by omega
      exact Evs.of fun n m => by simp [↓q00, ↓q01, ↓q03, ↓q02, S71, A.asG, guardB, A.pick, n1, n2, n3, n4]
    · have n1 : (48 : Int) ≤ z := by omega
      have n4 : ¬ z ≤ 57 := by omega
      have n2 : ¬ (97 : Int) ≤ z := by omega
      have n3 : (65 : Int) ≤ z := by omega
      have n5 : ¬ z ≤ 70 := by omega
      exact Evs.of fun n m => by simp [↓q00, ↓q01, ↓q03, ↓q02, S71, A.asG, guardB, A.pick, n1, n2, n3, n4, n5]
    · have n1 : (48 : Int) ≤ z := by omega
      have n4 : ¬ z ≤ 57 := by omega
      have n2 : (97 : Int) ≤ z := by omega
      have n6 : ¬ z ≤ 102 := by omega
      have n3 : (65 : Int) ≤ z := by omega
      have n5 : ¬ z ≤ 70 := by omega
      exact Evs.of fun n m => by simp [↓q00, ↓q01, ↓q03, ↓q02, S71, A.asG, guardB, A.pick, n1, n2, n3, n4, n5, n6]
theorem kDig {R : Type} {c : Nat} (h : c < 1114112) {H : Heap} {k : AV → Heap → Option R} : polK pDig [.int .i32 (c : Int)] H k = k (.int .i32 (digN c)) H := by
  have h1 : 0 ≤ (c : Int) ∧ (c : Int) < 1114112 := by omega
  simp [pDig, q0i, h1]
def scalB (n : Nat) : Bool := decide (n < 55296) || (decide (57344 ≤ n) && decide (n ≤ 1114111))
theorem q5g (n : Nat) : scalB n = true ↔ scal n := by unfold scalB scal; simp
noncomputable def pVr : Pol := .still (p1 (cI .i32) .bool (fun z => 0 ≤ z) fun z => scalB z.toNat)
theorem okVr : PolOK base 58 pVr := still1 base_ok [] trivial fun z z0 => by
  have z0 : (0 : Int) ≤ z := z0
  by_cases h1 : z < 55296
  · have e : scalB z.toNat = true := (q5g _).2 (by unfold scal; omega)
    rw [e]
    exact Evs.of fun n m => by simp [↓q00, ↓q01, ↓q03, ↓q02, S58, A.asG, guardB, A.pick, z0, h1]
  by_cases h2 : (57343 : Int) < z
  · by_cases h3 : z ≤ 1114111
    · have e : scalB z.toNat = true := (q5g _).2 (by unfold scal; omega)
      rw [e]
      exact Evs.of fun n m => by simp [↓q00, ↓q01, ↓q03, ↓q02, S58, A.asG, guardB, A.pick, z0, h1, h2, h3]
    · have e : scalB z.toNat = false := by
        cases hx : scalB z.toNat
        · rfl
        · have := (q5g _).1 hx
          unfold scal at this
          omega
      rw [e]
      exact Evs.of fun n m => by simp [↓q00, ↓q01, ↓q03, ↓q02, S58, A.asG, guardB, A.pick, z0, h1, h2, h3]
  · have e : scalB z.toNat = false := by
      cases hx : scalB z.toNat
      · rfl
      · have := (q5g _).1 hx
        unfold scal at this
        omega
    rw [e]
    exact Evs.of fun n m => by simp [↓q00, ↓q01, ↓q03, ↓q02, S58, A.asG, guardB, A.pick, z0, h1, h2]
theorem kVr {R : Type} {c : Nat} {H : Heap} {k : AV → Heap → Option R} : polK pVr [.int .i32 (c : Int)] H k = k (.bool (scalB c)) H := by
  have h1 : 0 ≤ (c : Int) := by omega
  simp [pVr, q0i, h1]
end Go.Proofs.YtdkjednjlpcboaaDoor

/- Texts: a written name is read. -/
set_option maxRecDepth 100000
set_option maxHeartbeats 8000000
namespace Go.Proofs.YtdkjednjlpcboaaDoor
open Go Go.Den Go.Lib
def numR : List Nat → Nat → Nat → Nat × Nat × List Nat
  | [], _, _ => (0, 2, [])
  | c :: L, i, n => if c = 59 ∧ 0 < i ∧ scalB n = true then (n, 0, L) else if digN c < 0 ∨ 6 ≤ i then (0, 4, L) else numR L (i + 1) (16 * n + (digN c).toNat)
def escU : List Nat → Nat × Nat × List Nat
  | [] => (0, 2, [])
  | c :: L => if c = 39 ∨ c = 92 then (c, 0, L) else if c = 110 then (10, 0, L) else if c = 120 then numR L 0 0 else (0, 4, L)
def sgnU (c : Nat) (L : List Nat) : Nat × Nat × List Nat := if c = 92 then escU L else if lowZ (c : Int) = true then (c, 4, L) else (c, 0, L)
def quoF : Nat → List Nat → List Nat → List Nat × Nat × List Nat
  | 0, _, _ => ([], 2, [])
  | _ + 1, _, [] => ([], 2, [])
  | n + 1, out, c :: L => if c = 39 then (out, 0, L) else if (sgnU c L).2.1 ≠ 0 then ([], (sgnU c L).2.1, (sgnU c L).2.2) else if 255 ≤ out.length then ([], 3, (sgnU c L).2.2) else quoF n (out ++ [(sgnU c L).1]) (sgnU c L).2.2
theorem qdp : ∀ (L : List Nat) (i n : Nat), (numR L i n).2.2.length ≤ L.length
  | [], _, _ => Nat.le_refl _
  | c :: L, i, n => by
    unfold numR
    split
    · simp
    split
    · simp
    · have := qdp L (i + 1) (16 * n + (digN c).toNat)
      simp only [List.length_cons]
      omega
theorem qi3 (L : List Nat) : (escU L).2.2.length ≤ L.length := by
  cases L with
  | nil => exact Nat.le_refl _
  | cons c L =>
    rw [escU]
    split
    · simp
    split
    · simp
    split
    · have := qdp L 0 0
      simp only [List.length_cons]
      omega
    · simp
theorem qe2 (c : Nat) (L : List Nat) : (sgnU c L).2.2.length ≤ L.length := by
  unfold sgnU
  split
  · exact qi3 L
  split <;> exact Nat.le_refl _
noncomputable abbrev TNu : List (FuncId × Pol) := [(55, pNx), (71, pDig), (58, pVr)]
theorem qdr {b : Nat} {s : List UInt8} : ∀ (L : List Nat) (i n p : Nat) (H : Heap), Rdr H b s p L → i ≤ 6 → n < 16 ^ i →
    ∃ (H' : Heap) (p' : Nat), LDoes (qff (polT TNu)) ⟨[.ptr b 0 0 0, .int .i32 (n : Int), .int .i64 (i : Int)], []⟩ H 0 ⟨[.int .i32 ((numR L i n).1 : Int), .int .i64 ((numR L i n).2.1 : Int)], []⟩ H' ∧ Rdr H' b s p' (numR L i n).2.2 ∧ Keep2 b H H'
  | [], i, n, p, H, hR, hi, hn => by
    have k1 := qcc hR
    refine ⟨H, p, LDoes.step (Evs.of fun m m2 => ?_), hR, fun k _ => rfl⟩
    unfold numR
    simp [↓q00, ↓q01, q1s, k1]
  | c :: L, i, n, p, H, hR, hi, hn => by
    obtain ⟨H1, p1, hR1, hK1, hs, k1⟩ := kNx hR
    have hc : c < 1114112 := by unfold scal at hs; omega
    have kd : ∀ (R : Type) (H : Heap) (k : AV → Heap → Option R), polK pDig [.int .i32 (c : Int)] H k = k (.int .i32 (digN c)) H := fun R H k => kDig hc
    have hd := qbz c
    unfold numR
    by_cases h1 : c = 59 ∧ 0 < i ∧ scalB n = true
    · rw [if_pos h1]
      refine ⟨H1, p1, LDoes.step (Evs.of fun m m2 => ?_), hR1, hK1⟩
      have z1 : (c : Int) = 59 := by omega
      have z2 : (0 : Int) < (i : Int) := by omega
      generalize (i : Int) = I at *
      simp [↓q00, ↓q01, ↓q03, ↓q02, q1s, k1, z1, z2, kVr, h1.2.2, A.asG, guardB, A.pick]
    rw [if_neg h1]
    have fin : ∀ (hx : ∀ (m k : Nat), True), True := fun _ => trivial
    by_cases h2 : digN c < 0 ∨ 6 ≤ i
    · rw [if_pos h2]
      refine ⟨H1, p1, LDoes.step (Evs.of fun m m2 => ?_), hR1, hK1⟩
      by_cases a1 : c = 59
      · have z1 : (c : Int) = 59 := by omega
        have hdz : digN c = -1 := by rw [a1]; rfl
        rw [hdz, z1] at kd
        rw [z1] at k1
        by_cases a2 : 0 < i
        · have z2 : (0 : Int) < (i : Int) := by omega
          have z3 : scalB n = false := by
            cases hx : scalB n
            · rfl
            · exact absurd ⟨a1, a2, hx⟩ h1
          generalize (i : Int) = I at *
          simp [↓q00, ↓q01, ↓q03, ↓q02, q1s, k1, z2, kVr, z3, kd, A.asG, guardB, A.pick]
        · have z2 : ¬ (0 : Int) < (i : Int) := by omega
          generalize (i : Int) = I at *
          simp [↓q00, ↓q01, ↓q03, ↓q02, q1s, k1, z2, kd, A.asG, guardB, A.pick]
      · have z1 : ¬ (c : Int) = 59 := by omega
        by_cases a2 : digN c < 0
        · simp [↓q00, ↓q01, ↓q03, ↓q02, q1s, k1, z1, kd, a2, A.asG, guardB, A.pick]
        · have z2 : (6 : Int) ≤ (i : Int) := by omega
          generalize (i : Int) = I at *
          simp [↓q00, ↓q01, ↓q03, ↓q02, q1s, k1, z1, kd, a2, z2, A.asG, guardB, A.pick]
    · rw [if_neg h2]
      have a1 : ¬ c = 59 := fun e => h2 (.inl (by rw [e]; decide))
      have z1 : ¬ (c : Int) = 59 := by omega
      have z2 : ¬ digN c < 0 := fun h => h2 (.inl h)
      have z3 : ¬ (6 : Int) ≤ (i : Int) := by omega
      have hi5 : i ≤ 5 := by omega
      have hpow : 16 ^ i ≤ 16 ^ 5 := Nat.pow_le_pow_right (by omega) hi5
      have h165 : (16 : Nat) ^ 5 = 1048576 := by decide
      have hdn : ((digN c).toNat : Int) = digN c := by omega
      have hn2 : 16 * n + (digN c).toNat < 16 ^ (i + 1) := by
        rw [Nat.pow_succ]
        omega
      obtain ⟨H', p', hL, hR', hK'⟩ := qdr L (i + 1) (16 * n + (digN c).toNat) p1 H1 hR1 (by omega) hn2
      refine ⟨H', p', LDoes.step (Evs.withL hL (Evs.of fun m k _ h3 => ?_)), hR', fun k hk => (hK' k hk).trans (hK1 k hk)⟩
      have s1 : ∀ H, A.bin base.P .shl 21 (.int .i32 (n : Int)) (.int .u64 4) true H = some (.int .i32 ((16 * n : Nat) : Int)) := fun H => by
        have := q4r (P := base.P) (t := 21) (j := .u64) (a := n) (s := 4) (c := true) (H := H) (by omega) (by omega)
        have e : n * 2 ^ 4 = 16 * n := by omega
        rw [e] at this
        exact this
      have s2 : ∀ H, A.bin base.P .or 21 (.int .i32 ((16 * n : Nat) : Int)) (.int .i32 (digN c)) false H = some (.int .i32 ((16 * n + (digN c).toNat : Nat) : Int)) := fun H => by
        rw [← hdn, q39, q7n (s := 4) (by omega) (by omega) (by omega)]
        rw [show ((digN c).toNat : Int).toNat = (digN c).toNat by omega]
      have s3 : IntKind.wrap .i64 ((i : Int) + 1) = ((i + 1 : Nat) : Int) := by rw [q0k (by omega) (by omega)]; omega
      generalize ((16 * n + (digN c).toNat : Nat) : Int) = N2 at *
      generalize ((16 * n : Nat) : Int) = N1 at *
      generalize ((i + 1 : Nat) : Int) = I1 at *
      generalize (n : Int) = N at *
      generalize (i : Int) = I at *
      simp [↓q00, ↓q01, ↓q03, ↓q02, q1s, k1, z1, kd, z2, z3, s1, s2, s3, A.asG, guardB, A.pick, h3]
noncomputable def pNum : Pol := .prim (runF base TNu 65)
theorem okNum : PolOK base 65 pNum := q3n base_ok TNu ⟨okNx, okDig, okVr, trivial⟩
theorem kNum {H : Heap} {b : Nat} {s : List UInt8} {p : Nat} {L : List Nat} (h : Rdr H b s p L) : ∃ (H' : Heap) (p' : Nat), Rdr H' b s p' (numR L 0 0).2.2 ∧ Keep2 b H H' ∧ ∀ (R : Type) (k : AV → Heap → Option R), polK pNum [.ptr b 0 0 0] H k = k (.tup [.int .i32 ((numR L 0 0).1 : Int), .int .i64 ((numR L 0 0).2.1 : Int)]) H' := by
  obtain ⟨H', p', hL, hR, hK⟩ := qdr L 0 0 p H h (by omega) (by simp)
  have hr : runF base TNu 65 [.ptr b 0 0 0] H = some (.tup [.int .i32 ((numR L 0 0).1 : Int), .int .i64 ((numR L 0 0).2.1 : Int)], H') := q0p (Evs.withL hL (Evs.of fun n m h1 _ => by
    have h1' : qff (polT TNu) n n ⟨[.ptr b 0 0 0, .int .i32 0, .int .i64 0], []⟩ H = some (0, ⟨[.int .i32 ((numR L 0 0).1 : Int), .int .i64 ((numR L 0 0).2.1 : Int)], []⟩, H') := h1
    generalize ((numR L 0 0).1 : Int) = X at *
    generalize ((numR L 0 0).2.1 : Int) = Y at *
    simp [↓q04, ↓q05, S65, h1']))
  exact ⟨H', p', hR, hK, fun R k => q2v hr⟩
noncomputable abbrev TEs : List (FuncId × Pol) := [(55, pNx), (65, pNum)]
noncomputable def pEsc : Pol := .prim (runF base TEs 56)
theorem okEsc : PolOK base 56 pEsc := q3n base_ok TEs ⟨okNx, okNum, trivial⟩
theorem kEsc {H : Heap} {b : Nat} {s : List UInt8} {p : Nat} {L : List Nat} (h : Rdr H b s p L) : ∃ (H' : Heap) (p' : Nat), Rdr H' b s p' (escU L).2.2 ∧ Keep2 b H H' ∧ ∀ (R : Type) (k : AV → Heap → Option R), polK pEsc [.ptr b 0 0 0] H k = k (.tup [.int .i32 ((escU L).1 : Int), .int .i64 ((escU L).2.1 : Int)]) H' := by
  cases L with
  | nil =>
    have k1 := qcc h
    have hr : runF base TEs 56 [.ptr b 0 0 0] H = some (.tup [.int .i32 ((escU []).1 : Int), .int .i64 ((escU []).2.1 : Int)], H) := q0p (Evs.of fun n m => by
      simp [↓q00, ↓q01, S56, k1, escU])
    exact ⟨H, p, h, fun k _ => rfl, fun R k => q2v hr⟩
  | cons c L =>
    obtain ⟨H1, p1, hR1, hK1, hs, k1⟩ := kNx h
    by_cases h1 : c = 39 ∨ c = 92
    · have he : escU (c :: L) = (c, 0, L) := by rw [escU, if_pos h1]
      rw [he]
      have hr : runF base TEs 56 [.ptr b 0 0 0] H = some (.tup [.int .i32 (c : Int), .int .i64 0], H1) := q0p (Evs.of fun n m => by
        rcases h1 with h1 | h1
        · have z : (c : Int) = 39 := by omega
          rw [z] at k1 ⊢
          simp [↓q00, ↓q01, ↓q03, ↓q02, S56, k1, A.asG, guardB, A.pick]
        · have z : (c : Int) = 92 := by omega
          rw [z] at k1 ⊢
          simp [↓q00, ↓q01, ↓q03, ↓q02, S56, k1, A.asG, guardB, A.pick])
      exact ⟨H1, p1, hR1, hK1, fun R k => q2v hr⟩
    have n39 : ¬ (c : Int) = 39 := by omega
    have n92 : ¬ (c : Int) = 92 := by omega
    by_cases h2 : c = 110
    · have he : escU (c :: L) = (10, 0, L) := by rw [escU, if_neg h1, if_pos h2]
      rw [he]
      have hr : runF base TEs 56 [.ptr b 0 0 0] H = some (.tup [.int .i32 10, .int .i64 0], H1) := q0p (Evs.of fun n m => by
        have z : (c : Int) = 110 := by omega
        rw [z] at k1
        simp [↓q00, ↓q01, ↓q03, ↓q02, S56, k1, A.asG, guardB, A.pick])
      exact ⟨H1, p1, hR1, hK1, fun R k => q2v hr⟩
    have n110 : ¬ (c : Int) = 110 := by omega
    by_cases h3 : c = 120
    · have he : escU (c :: L) = numR L 0 0 := by rw [escU, if_neg h1, if_neg h2, if_pos h3]
      rw [he]
      obtain ⟨H2, p2, hR2, hK2, k2⟩ := kNum hR1
      have hr : runF base TEs 56 [.ptr b 0 0 0] H = some (.tup [.int .i32 ((numR L 0 0).1 : Int), .int .i64 ((numR L 0 0).2.1 : Int)], H2) := q0p (Evs.of fun n m => by
        have z : (c : Int) = 120 := by omega
        rw [z] at k1
        generalize ((numR L 0 0).1 : Int) = X at *
        generalize ((numR L 0 0).2.1 : Int) = Y at *
        simp [↓q00, ↓q01, ↓q03, ↓q02, S56, k1, k2, A.asG, guardB, A.pick])
      exact ⟨H2, p2, hR2, fun k hk => (hK2 k hk).trans (hK1 k hk), fun R k => q2v hr⟩
    · have n120 : ¬ (c : Int) = 120 := by omega
      have he : escU (c :: L) = (0, 4, L) := by rw [escU, if_neg h1, if_neg h2, if_neg h3]
      rw [he]
      have hr : runF base TEs 56 [.ptr b 0 0 0] H = some (.tup [.int .i32 0, .int .i64 4], H1) := q0p (Evs.of fun n m => by
        simp [↓q00, ↓q01, ↓q03, ↓q02, S56, k1, n39, n92, n110, n120, A.asG, guardB, A.pick])
      exact ⟨H1, p1, hR1, hK1, fun R k => q2v hr⟩
end Go.Proofs.YtdkjednjlpcboaaDoor

/- Texts: a written name, sign by sign. -/
set_option maxRecDepth 100000
set_option maxHeartbeats 8000000
namespace Go.Proofs.YtdkjednjlpcboaaDoor
open Go Go.Den Go.Lib
theorem qgy {l : List Nat} {H : Heap} {v : AV} (h : Out er 1 21 H v l) (x : Nat) (hm : l.length ≤ 100000000) :
    ∃ (v' : AV) (H' : Heap), A.append 1 4 21 v [er x] (H ++ [.row 0 1 21 [er x]]) = some (v', H') ∧ Out er 1 21 H' v' (l ++ [x]) ∧ ∀ (k : Nat) (o : HObj), q3g o → H[k]? = some o → H'[k]? = some o := by
  have fr : ∀ k o, H[k]? = some o → (H ++ [HObj.row 0 1 21 [er x]])[k]? = some o := fun k o h => by
    rw [List.getElem?_append_left (List.getElem?_eq_some_iff.1 h).1]
    exact h
  rcases h with ⟨rfl, rfl⟩ | ⟨id, ver, h0, rfl, h2⟩
  · refine ⟨_, _, nil_append (news := [er x]) (by simp) (by omega) (by simp), .inr ⟨_, 0, by simp, by simp, q0y⟩, fun k o _ h => ?_⟩
    rw [List.getElem?_append_left (List.getElem?_eq_some_iff.1 (fr k o h)).1]
    exact fr k o h
  · have h3 := q3w h2 [HObj.row 0 1 21 [er x]]
    refine ⟨_, _, q2j (news := [er x]) h3 (by simp) (by simp) (by omega) (by simp; omega), .inr ⟨id, ver + 1, by simp, by simp, ?_⟩, fun k o hno h => ?_⟩
    · rw [q4p h3]
      simp
    · rw [List.getElem?_set_ne (fun e => by
        subst e
        rw [h2] at h
        injection h with h
        exact hno _ _ _ h.symm)]
      exact fr k o h
theorem qb7 {l : List Nat} {H H' : Heap} {v : AV} {b w : Nat} {t : TypeId} {es : List AV} (h : Out er 1 21 H v l) (hb : H[b]? = some (.row w 2 t es)) (hk : Keep2 b H H') : Out er 1 21 H' v l := by
  rcases h with h | ⟨id, ver, h0, h1, h2⟩
  · exact .inl h
  · refine .inr ⟨id, ver, h0, h1, ?_⟩
    rw [hk id (fun e => by
      subst e
      rw [hb] at h2
      injection h2 with h2
      injection h2 with _ h2
      cases h2)]
    exact h2
theorem qdu {H : Heap} {v : AV} {l : List Nat} (h : Out er 1 21 H v l) : A.len v H = some (.int .i64 (l.length : Int)) := by
  rcases h with ⟨rfl, rfl⟩ | ⟨id, ver, h0, rfl, h2⟩
  · rfl
  · simp [A.len, A.alive, h2]
theorem q5c {R : Type} {H : Heap} {v : AV} {L : List Nat} (h : Out er 1 21 H v L) {k : AV → Heap → Option R} : q09 base 54 9 v H k = k (.str (L.flatMap enc)) H := by
  have h1 : Go.Den.convert base 54 9 v = none := by
    unfold Go.Den.convert
    rw [q4d, q17]
    rcases h with ⟨rfl, rfl⟩ | ⟨id, ver, h0, rfl, h2⟩ <;> rfl
  have hr : A.read 1 v H = some (L.map er) := by
    rcases h with ⟨rfl, rfl⟩ | ⟨id, ver, h0, rfl, h2⟩
    · rfl
    · exact q3i h2 (by simp)
  have h2 : convH base 54 9 v H = some (.str (L.flatMap enc)) := by
    unfold convH
    rw [q4d, q17]
    dsimp only
    rw [qe5]
    dsimp only
    rw [hr]
    dsimp only
    rw [q46]
    rw [Option.map_some, q6p]
  unfold q09
  rw [h1, h2]
noncomputable abbrev TQd : List (FuncId × Pol) := [(55, pNx), (56, pEsc), (28, pLow)]
theorem qgq {es : List AV} {w : Nat} {t : TypeId} : q3g (.row w 2 t es) := fun w t es h => by cases h
theorem qd_loop {b : Nat} {s : List UInt8} : ∀ (N : Nat) (L out : List Nat) (p : Nat) (H : Heap) (v : AV), L.length < N → Rdr H b s p L → Out er 1 21 H v out → out.length ≤ 255 →
    ∃ (H' : Heap) (p' : Nat), LDoes (qec (polT TQd)) ⟨[.ptr b 0 0 0, v], []⟩ H 0 ⟨[.str ((quoF N out L).1.flatMap enc), .int .i64 ((quoF N out L).2.1 : Int)], []⟩ H' ∧ Rdr H' b s p' (quoF N out L).2.2 := by
  intro N
  induction N with
  | zero => intro L out p H v hN; omega
  | succ N ih =>
    intro L out p H v hN hR hO hout
    cases L with
    | nil =>
      have k1 := qcc hR
      refine ⟨H, p, LDoes.step (Evs.of fun n m => ?_), hR⟩
      simp [↓q00, ↓q04, ↓q06, ↓q01, q2y, k1, quoF]
    | cons c L =>
      obtain ⟨H1, p1, hR1, hK1, hs, k1⟩ := kNx hR
      have hO1 := qb7 hO hR.row hK1
      by_cases h1 : c = 39
      · have he : quoF (N + 1) out (c :: L) = (out, 0, L) := by rw [quoF, if_pos h1]
        rw [he]
        have hc : ∀ (R : Type) (k : AV → Heap → Option R), q09 base 54 9 v H1 k = k (.str (out.flatMap enc)) H1 := fun R k => q5c hO1
        refine ⟨H1, p1, LDoes.step (Evs.of fun n m => ?_), hR1⟩
        have z : (c : Int) = 39 := by omega
        rw [z] at k1
        simp [↓q00, ↓q04, ↓q06, ↓q01, q2y, k1, hc]
      have n39 : ¬ (c : Int) = 39 := by omega
      -- the sign, whichever way it is written
      obtain ⟨H2, p2, hR2, hO2, hrun⟩ : ∃ (H2 : Heap) (p2 : Nat), Rdr H2 b s p2 (sgnU c L).2.2 ∧ Out er 1 21 H2 v out ∧ ∀ (n m : Nat) (r : Option (Nat × Live × Heap)),
          (A.test (.bool (!decide (((sgnU c L).2.1 : Int) = 0))) (some (0, ⟨[.str [], .int .i64 ((sgnU c L).2.1 : Int)], []⟩, H2)) (withV (A.len v H2) fun t36 => withV (A.bin base.P .geq 3 t36 (.int .i64 255) true H2) fun t37 => A.test t37 (some (0, ⟨[.str [], .int .i64 3], []⟩, H2))
            (withL (A.fillElems 1 (List.replicate 1 (.int .i32 0)) [(0, 1, .int .i32 ((sgnU c L).1 : Int))]) fun es => bindV (.sl H2.length 0 0 es.length es.length) fun t40 => bindH (H2 ++ [.row 0 1 21 es]) fun H8 => withL (newsZ base 1 4 (.int .i32 0) 54 t40 H8) fun es => withVH (A.append 1 4 21 v es H8) fun t41 H9 => qec (polT TQd) n m ⟨[.ptr b 0 0 0, t41], []⟩ H9))) = r →
          qec (polT TQd) n (m + 1) ⟨[.ptr b 0 0 0, v], []⟩ H = r := by
        by_cases h2 : c = 92
        · have hsg : sgnU c L = escU L := by unfold sgnU; rw [if_pos h2]
          rw [hsg]
          obtain ⟨H2, p2, hR2, hK2, k2⟩ := kEsc hR1
          refine ⟨H2, p2, hR2, qb7 hO1 hR1.row hK2, fun n m r hr => ?_⟩
          rw [← hr]
          have z : (c : Int) = 92 := by omega
          rw [z] at k1
          generalize ((escU L).1 : Int) = X at *
          generalize ((escU L).2.1 : Int) = Y at *
          simp [↓q00, ↓q04, ↓q06, ↓q01, ↓q05, q2y, k1, k2]
        · have n92 : ¬ (c : Int) = 92 := by omega
          cases h3 : lowZ (c : Int)
          · have hsg : sgnU c L = (c, 0, L) := by unfold sgnU; rw [if_neg h2, h3]; rfl
            rw [hsg]
            refine ⟨H1, p1, hR1, hO1, fun n m r hr => ?_⟩
            rw [← hr]
            simp [↓q00, ↓q04, ↓q06, ↓q01, ↓q05, q2y, k1, n39, n92, kLow, h3]
          · have hsg : sgnU c L = (c, 4, L) := by unfold sgnU; rw [if_neg h2, if_pos h3]
            rw [hsg]
            refine ⟨H1, p1, hR1, hO1, fun n m r hr => ?_⟩
            rw [← hr]
            simp [↓q00, ↓q04, ↓q06, ↓q01, ↓q05, q2y, k1, n39, n92, kLow, h3]
      have hln := qdu hO2
      by_cases h2 : (sgnU c L).2.1 ≠ 0
      · have he : quoF (N + 1) out (c :: L) = ([], (sgnU c L).2.1, (sgnU c L).2.2) := by rw [quoF, if_neg h1, if_pos h2]
        rw [he]
        refine ⟨H2, p2, LDoes.step (Evs.of fun n m => hrun n m _ ?_), hR2⟩
        have z : ¬ ((sgnU c L).2.1 : Int) = 0 := by omega
        have hd : decide (((sgnU c L).2.1 : Int) = 0) = false := by simp only [decide_eq_false_iff_not]; exact z
        rw [hd]
        rfl
      have z : ((sgnU c L).2.1 : Int) = 0 := by omega
      have hd : decide (((sgnU c L).2.1 : Int) = 0) = true := by simp only [decide_eq_true_eq]; exact z
      by_cases h3 : 255 ≤ out.length
      · have he : quoF (N + 1) out (c :: L) = ([], 3, (sgnU c L).2.2) := by rw [quoF, if_neg h1, if_neg h2, if_pos h3]
        rw [he]
        refine ⟨H2, p2, LDoes.step (Evs.of fun n m => hrun n m _ ?_), hR2⟩
        have z3 : (255 : Int) ≤ (out.length : Int) := by omega
        rw [hd]
        generalize (out.length : Int) = OL at *
        simp [↓q00, hln, z3]
      · have he : quoF (N + 1) out (c :: L) = quoF N (out ++ [(sgnU c L).1]) (sgnU c L).2.2 := by rw [quoF, if_neg h1, if_neg h2, if_neg h3]
        rw [he]
        obtain ⟨v', H', ha, hO', hk'⟩ := qgy hO2 (sgnU c L).1 (by omega)
        have hR' : Rdr H' b s p2 (sgnU c L).2.2 := ⟨hk' b _ qgq hR2.row, hR2.le, hR2.val, hR2.sig, hR2.len⟩
        have hsl := qe2 c L
        obtain ⟨H9, p9, hL, hR9⟩ := ih _ (out ++ [(sgnU c L).1]) p2 H' v' (by simp only [List.length_cons] at hN; omega) hR' hO' (by simp; omega)
        refine ⟨H9, p9, LDoes.step (Evs.withL hL (Evs.of fun n m _ h9 => hrun n m _ ?_)), hR9⟩
        have z3 : ¬ (255 : Int) ≤ (out.length : Int) := by omega
        have hfe : A.fillElems 1 [.int .i32 0] [(0, 1, .int .i32 ((sgnU c L).1 : Int))] = some [er (sgnU c L).1] := by simp [A.fillElems]
        have hrd : A.read 1 (.sl H2.length 0 0 1 1) (H2 ++ [HObj.row 0 1 21 [er (sgnU c L).1]]) = some [er (sgnU c L).1] := q3i q0y rfl
        rw [hd]
        generalize (out.length : Int) = OL at *
        generalize quoF N (out ++ [(sgnU c L).1]) (sgnU c L).2.2 = Q at *
        simp only [er] at ha hfe hrd
        generalize ((sgnU c L).1 : Int) = X at *
        simp [↓q00, hln, z3, hfe, q21 q17, hrd, ha, h9]
noncomputable def pQd : Pol := .prim (runF base TQd 40)
theorem okQd : PolOK base 40 pQd := q3n base_ok TQd ⟨okNx, okEsc, okLow, trivial⟩
def quoU (L : List Nat) : List Nat × Nat × List Nat := quoF (L.length + 1) [] L
theorem kQd {H : Heap} {b : Nat} {s : List UInt8} {p : Nat} {L : List Nat} (h : Rdr H b s p L) : ∃ (H' : Heap) (p' : Nat), Rdr H' b s p' (quoU L).2.2 ∧ ∀ (R : Type) (k : AV → Heap → Option R), polK pQd [.ptr b 0 0 0] H k = k (.tup [.str ((quoU L).1.flatMap enc), .int .i64 ((quoU L).2.1 : Int)]) H' := by
  obtain ⟨H', p', hL, hR⟩ := qd_loop (L.length + 1) L [] p H .nils (by omega) h .nil (by simp)
  have hr : runF base TQd 40 [.ptr b 0 0 0] H = some (.tup [.str ((quoU L).1.flatMap enc), .int .i64 ((quoU L).2.1 : Int)], H') := q0p (Evs.withL hL (Evs.of fun n m h1 _ => by
    unfold quoU
    generalize (quoF (L.length + 1) [] L).1.flatMap enc = X at *
    generalize ((quoF (L.length + 1) [] L).2.1 : Int) = Y at *
    simp [↓q04, ↓q05, S40, h1]))
  exact ⟨H', p', hR, fun R k => q2v hr⟩
/-! ### a name at a text's beginning -/
noncomputable def pHp0 : Pol := .still (p2 cS cS .bool (fun _ _ => True) fun s t => decide (s.take t.length = t))
theorem okHp0 : PolOK base 54 pHp0 := still2 base_ok [] trivial fun s t _ => by
  have l1 : A.lenStr (.str s) = some (.int .i64 (s.length : Int)) := rfl
  have l2 : A.lenStr (.str t) = some (.int .i64 (t.length : Int)) := rfl
  have e1 : cS.enc s = .str s := rfl
  have e2 : cS.enc t = .str t := rfl
  rw [e1, e2]
  by_cases h : t.length ≤ s.length
  · have z : (t.length : Int) ≤ (s.length : Int) := by omega
    have hsl : A.sliceStr (.str s) none (some (.int .i64 (t.length : Int))) = some (.str (s.take t.length)) := by
      simp [A.sliceStr, A.bound, h]
    have heq : ∀ H, A.bin base.P .eql 9 (.str (s.take t.length)) (.str t) false H = some (.bool (decide (s.take t.length = t))) := fun H => by
      simp only [A.bin, A.binStr]
      congr 2
      by_cases h : s.take t.length = t <;> simp [h]
    generalize decide (s.take t.length = t) = D at *
    generalize s.take t.length = s2 at *
    generalize (t.length : Int) = M at *
    generalize (s.length : Int) = N at *
    exact Evs.of fun n m => by simp [↓q01, ↓q03, ↓q02, S54, l1, l2, z, hsl, heq, A.asG, guardB, A.pick]
  · have z : ¬ (t.length : Int) ≤ (s.length : Int) := by omega
    have hd : decide (s.take t.length = t) = false := by
      simp only [decide_eq_false_iff_not]
      intro e
      have := congrArg List.length e
      rw [List.length_take] at this
      omega
    rw [hd]
    generalize (t.length : Int) = M at *
    generalize (s.length : Int) = N at *
    exact Evs.of fun n m => by simp [↓q01, ↓q03, ↓q02, S54, l1, l2, z, A.asG, guardB, A.pick]
theorem kHp0 {R : Type} {s t : List UInt8} {H : Heap} {k : AV → Heap → Option R} : polK pHp0 [.str s, .str t] H k = k (.bool (decide (s.take t.length = t))) H := by
  simp [pHp0, q0i]
noncomputable def pHp : Pol := .still (p2 cS cS .bool (fun _ _ => True) fun s t => decide (s.take t.length = t))
theorem okHp : PolOK base 39 pHp := still2 base_ok [(54, pHp0)] ⟨okHp0, trivial⟩ fun s t _ => by
  have k1 : ∀ (R : Type) (H : Heap) (k : AV → Heap → Option R), polK pHp0 [.str s, .str t] H k = k (.bool (decide (s.take t.length = t))) H := fun R H k => kHp0
  have e1 : cS.enc s = .str s := rfl
  have e2 : cS.enc t = .str t := rfl
  rw [e1, e2]
  generalize decide (s.take t.length = t) = D at *
  exact Evs.of fun n m => by simp [S39, k1]
theorem kHp {R : Type} {s t : List UInt8} {H : Heap} {k : AV → Heap → Option R} : polK pHp [.str s, .str t] H k = k (.bool (decide (s.take t.length = t))) H := by
  simp [pHp, q0i]
def unqS (s : List UInt8) : List UInt8 × Nat × Nat :=
  if validD s = true then
    if s.take 1 = [39] then (if (quoU (rs (s.drop 1))).2.1 = 0 then ((quoU (rs (s.drop 1))).1.flatMap enc, s.length - ((quoU (rs (s.drop 1))).2.2.flatMap enc).length, 0) else ([], 0, (quoU (rs (s.drop 1))).2.1))
    else if plN s = 0 then ([], 0, 4) else if 255 < plN s then ([], 0, 3) else (s.take (plN s), plN s, 0)
  else ([], 0, 4)
noncomputable abbrev TUn : List (FuncId × Pol) := [(12, q1n), (39, pHp), (40, pQd), (31, pPln)]
noncomputable def pUnq : Pol := .still (p1 cS (fun r : List UInt8 × Nat × Nat => .tup [.str r.1, .int .i64 (r.2.1 : Int), .int .i64 (r.2.2 : Int)]) q0l unqS)
theorem okUnq : PolOK base 19 pUnq := still1 base_ok TUn ⟨q5a, okHp, okQd, okPln, trivial⟩ fun s hs => by
  have hs' : s.length ≤ 1000000 := hs
  have frz : ∀ (x : List UInt8) (a b : Int) (H : Heap), A.freezeB true 64 H (.tup [.str x, .int .i64 a, .int .i64 b]) = some (.tup [.str x, .int .i64 a, .int .i64 b]) := fun _ _ _ _ => rfl
  unfold unqS
  cases hv : validD s
  · rw [if_neg (by simp)]
    exact Evs.of fun n m => by
      simp [↓q00, ↓q04, ↓q06, ↓q01, S19, q1u, hv, frz]
  rw [if_pos rfl]
  have kh : ∀ (R : Type) (H : Heap) (k : AV → Heap → Option R), polK pHp [.str s, .str [39]] H k = k (.bool (decide (s.take 1 = [39]))) H := fun R H k => kHp
  by_cases h1 : s.take 1 = [39]
  · rw [if_pos h1]
    have hd : decide (s.take 1 = [39]) = true := by simp [h1]
    rw [hd] at kh
    have hl1 : 1 ≤ s.length := by
      have := congrArg List.length h1
      rw [List.length_take] at this
      simp at this
      omega
    have hv1 : validD (s.drop 1) = true := by
      have e : s = 39 :: s.drop 1 := by
        have := List.take_append_drop 1 s
        rw [h1] at this
        exact this.symm
      have hv2 := hv
      rw [e, validD_step _ (by simp), q28 (show (39 : UInt8).toNat < 128 by decide), if_neg (by decide)] at hv2
      exact hv2
    have hR0 : Rdr [.row 0 2 58 [.agg [.str s, .int .i64 ((1 : Nat) : Int)]]] 0 s 1 (rs (s.drop 1)) := ⟨rfl, hl1, hv1, rfl, hs'⟩
    obtain ⟨H', p', hR, kq⟩ := kQd hR0
    have hp' := hR.end
    have hfl : (A.fill [(AV.str []), (AV.int .i64 0)] [(0, 1, AV.str s), (1, 1, (AV.int .i64 1))]).map AV.agg = some (AV.agg [.str s, .int .i64 1]) := rfl
    have kq' : ∀ (R : Type) (k : AV → Heap → Option R), polK pQd [.ptr 0 0 0 0] [.row 0 2 58 [.agg [.str s, .int .i64 1]]] k = k (.tup [.str ((quoU (rs (s.drop 1))).1.flatMap enc), .int .i64 ((quoU (rs (s.drop 1))).2.1 : Int)]) H' := kq
    have n1 : A.nilCheck (.ptr 0 0 0 0) H' = some (.ptr 0 0 0 0) := q0o hR.row
    have n2 : A.fa 1 (.ptr 0 0 0 0) H' = some (.ptr 0 0 0 1) := q1j hR.row
    have n3 : A.load false 1 (.ptr 0 0 0 1) H' = some (.int .i64 (p' : Int)) := q10 hR.row rfl rfl
    by_cases h2 : (quoU (rs (s.drop 1))).2.1 = 0
    · rw [if_pos h2, ← hp']
      have z : ((quoU (rs (s.drop 1))).2.1 : Int) = 0 := by omega
      rw [z] at kq'
      generalize (quoU (rs (s.drop 1))).1.flatMap enc = X at *
      generalize (p' : Int) = P at *
      exact Evs.of fun n m => by
        simp [↓q00, ↓q04, ↓q06, ↓q01, ↓q1k, S19, q1u, hv, kh, hfl, kq', n1, n2, n3, frz]
    · rw [if_neg h2]
      have z : ¬ ((quoU (rs (s.drop 1))).2.1 : Int) = 0 := by omega
      generalize (quoU (rs (s.drop 1))).1.flatMap enc = X at *
      generalize ((quoU (rs (s.drop 1))).2.1 : Int) = Y at *
      exact Evs.of fun n m => by
        simp [↓q00, ↓q04, ↓q06, ↓q01, ↓q1k, S19, q1u, hv, kh, hfl, kq', z, frz]
  · rw [if_neg h1]
    have hd : decide (s.take 1 = [39]) = false := by simp only [decide_eq_false_iff_not]; exact h1
    rw [hd] at kh
    have kp : ∀ (R : Type) (H : Heap) (k : AV → Heap → Option R), polK pPln [.str s] H k = k (.tup [.int .i64 (plN s : Int), .int .i64 (plN s : Int)]) H := fun R H k => kPln hs
    by_cases h2 : plN s = 0
    · rw [if_pos h2]
      have z : (plN s : Int) = 0 := by omega
      rw [z] at kp
      exact Evs.of fun n m => by
        simp [↓q00, ↓q04, ↓q06, ↓q01, S19, q1u, hv, kh, kp, frz]
    rw [if_neg h2]
    have z : ¬ (plN s : Int) = 0 := by omega
    by_cases h3 : 255 < plN s
    · rw [if_pos h3]
      have z2 : (255 : Int) < (plN s : Int) := by omega
      generalize (plN s : Int) = P at *
      exact Evs.of fun n m => by
        simp [↓q00, ↓q04, ↓q06, ↓q01, S19, q1u, hv, kh, kp, z, z2, frz]
    · rw [if_neg h3]
      have z2 : ¬ (255 : Int) < (plN s : Int) := by omega
      have hle : plN s ≤ s.length := qh2 true s
      have hsl : A.sliceStr (.str s) none (some (.int .i64 (plN s : Int))) = some (.str (s.take (plN s))) := by
        simp [A.sliceStr, A.bound, hle]
      generalize s.take (plN s) = T at *
      generalize (plN s : Int) = P at *
      exact Evs.of fun n m => by
        simp [↓q00, ↓q04, ↓q06, ↓q01, S19, q1u, hv, kh, kp, z, z2, hsl, frz]
theorem kUnq {R : Type} {s : List UInt8} (h : q0l s) {H : Heap} {k : AV → Heap → Option R} : polK pUnq [.str s] H k = k (.tup [.str (unqS s).1, .int .i64 ((unqS s).2.1 : Int), .int .i64 ((unqS s).2.2 : Int)]) H := by
  simp [pUnq, q0i, h]
end Go.Proofs.YtdkjednjlpcboaaDoor

/- Texts, by the reference: plain names; a name as it is written. -/
set_option maxRecDepth 100000
set_option maxHeartbeats 8000000
namespace Go.Proofs.YtdkjednjlpcboaaDoor
open Go Go.Den Go.Lib
def sgnOk (f : Bool) (z : Int) : Bool := bif f then firstZ z else goesZ z
noncomputable def pRpl : Pol := .still (p2 (cI .i32) cB .bool (fun _ _ => True) fun z f => sgnOk f z)
theorem okRpl : PolOK base 41 pRpl := still2 base_ok [] trivial fun z f _ => by
  unfold sgnOk
  rcases (show z < 48 ∨ (48 ≤ z ∧ z ≤ 57) ∨ (58 ≤ z ∧ z ≤ 63) ∨ z = 64 ∨ (65 ≤ z ∧ z ≤ 90) ∨ (91 ≤ z ∧ z ≤ 94) ∨ z = 95 ∨ z = 96 ∨ (97 ≤ z ∧ z ≤ 122) ∨ 122 < z by omega) with h | h | h | h | h | h | h | h | h | h
  · cases f
    · exact Evs.of fun n m => by simp [↓q00, ↓q01, ↓q03, ↓q02, S41, firstZ, goesZ, A.asG, guardB, A.pick, (show ¬ (97 : Int) ≤ z by omega), (show z ≤ (122 : Int) by omega), (show ¬ (65 : Int) ≤ z by omega), (show z ≤ (90 : Int) by omega), (show ¬ (48 : Int) ≤ z by omega), (show z ≤ (57 : Int) by omega), (show ¬ z = (95 : Int) by omega), (show ¬ z = (64 : Int) by omega)]
    · exact Evs.of fun n m => by simp [↓q00, ↓q01, ↓q03, ↓q02, S41, firstZ, goesZ, A.asG, guardB, A.pick, (show ¬ (97 : Int) ≤ z by omega), (show z ≤ (122 : Int) by omega), (show ¬ (65 : Int) ≤ z by omega), (show z ≤ (90 : Int) by omega), (show ¬ (48 : Int) ≤ z by omega), (show z ≤ (57 : Int) by omega), (show ¬ z = (95 : Int) by omega), (show ¬ z = (64 : Int) by omega)]
  · cases f
    · exact Evs.of fun n m => by simp [↓q00, ↓q01, ↓q03, ↓q02, S41, firstZ, goesZ, A.asG, guardB, A.pick, (show ¬ (97 : Int) ≤ z by omega), (show z ≤ (122 : Int) by omega), (show ¬ (65 : Int) ≤ z by omega), (show z ≤ (90 : Int) by omega), (show (48 : Int) ≤ z by omega), (show z ≤ (57 : Int) by omega), (show ¬ z = (95 : Int) by omega), (show ¬ z = (64 : Int) by omega)]
    · exact Evs.of fun n m => by simp [↓q00, ↓q01, ↓q03, ↓q02, S41, firstZ, goesZ, A.asG, guardB, A.pick, (show ¬ (97 : Int) ≤ z by omega), (show z ≤ (122 : Int) by omega), (show ¬ (65 : Int) ≤ z by omega), (show z ≤ (90 : Int) by omega), (show (48 : Int) ≤ z by omega), (show z ≤ (57 : Int) by omega), (show ¬ z = (95 : Int) by omega), (show ¬ z = (64 : Int) by omega)]
  · cases f
    · exact Evs.of fun n m => by simp [↓q00, ↓q01, ↓q03, ↓q02, S41, firstZ, goesZ, A.asG, guardB, A.pick, (show ¬ (97 : Int) ≤ z by omega), (show z ≤ (122 : Int) by omega), (show ¬ (65 : Int) ≤ z by omega), (show z ≤ (90 : Int) by omega), (show (48 : Int) ≤ z by omega), (show ¬ z ≤ (57 : Int) by omega), (show ¬ z = (95 : Int) by omega), (show ¬ z = (64 : Int) by omega)]
    · exact Evs.of fun n m => by simp [↓q00, ↓q01, ↓q03, ↓q02, S41, firstZ, goesZ, A.asG, guardB, A.pick, (show ¬ (97 : Int) ≤ z by omega), (show z ≤ (122 : Int) by omega), (show ¬ (65 : Int) ≤ z by omega), (show z ≤ (90 : Int) by omega), (show (48 : Int) ≤ z by omega), (show ¬ z ≤ (57 : Int) by omega), (show ¬ z = (95 : Int) by omega), (show ¬ z = (64 : Int) by omega)]
  · cases f
    · exact Evs.of fun n m => by simp [↓q00, ↓q01, ↓q03, ↓q02, S41, firstZ, goesZ, A.asG, guardB, A.pick, (show ¬ (97 : Int) ≤ z by omega), (show ¬ (65 : Int) ≤ z by omega), (show ¬ z ≤ (57 : Int) by omega), (show ¬ z = (95 : Int) by omega), (show z = (64 : Int) by omega)]
    · exact Evs.of fun n m => by simp [↓q00, ↓q01, ↓q03, ↓q02, S41, firstZ, goesZ, A.asG, guardB, A.pick, (show ¬ (97 : Int) ≤ z by omega), (show ¬ (65 : Int) ≤ z by omega), (show ¬ z ≤ (57 : Int) by omega), (show ¬ z = (95 : Int) by omega), (show z = (64 : Int) by omega)]
  · cases f
    · exact Evs.of fun n m => by simp [↓q00, ↓q01, ↓q03, ↓q02, S41, firstZ, goesZ, A.asG, guardB, A.pick, (show ¬ (97 : Int) ≤ z by omega), (show z ≤ (122 : Int) by omega), (show (65 : Int) ≤ z by omega), (show z ≤ (90 : Int) by omega), (show (48 : Int) ≤ z by omega), (show ¬ z ≤ (57 : Int) by omega), (show ¬ z = (95 : Int) by omega), (show ¬ z = (64 : Int) by omega)]
    · exact Evs.of fun n m => by simp [↓q00, ↓q01, ↓q03, ↓q02, S41, firstZ, goesZ, A.asG, guardB, A.pick, (show ¬ (97 : Int) ≤ z by omega), (show z ≤ (122 : Int) by omega), (show (65 : Int) ≤ z by omega), (show z ≤ (90 : Int) by omega), (show (48 : Int) ≤ z by omega), (show ¬ z ≤ (57 : Int) by omega), (show ¬ z = (95 : Int) by omega), (show ¬ z = (64 : Int) by omega)]
  · cases f
    · exact Evs.of fun n m => by simp [↓q00, ↓q01, ↓q03, ↓q02, S41, firstZ, goesZ, A.asG, guardB, A.pick, (show ¬ (97 : Int) ≤ z by omega), (show z ≤ (122 : Int) by omega), (show (65 : Int) ≤ z by omega), (show ¬ z ≤ (90 : Int) by omega), (show (48 : Int) ≤ z by omega), (show ¬ z ≤ (57 : Int) by omega), (show ¬ z = (95 : Int) by omega), (show ¬ z = (64 : Int) by omega)]
    · exact Evs.of fun n m => by simp [↓q00, ↓q01, ↓q03, ↓q02, S41, firstZ, goesZ, A.asG, guardB, A.pick, (show ¬ (97 : Int) ≤ z by omega), (show z ≤ (122 : Int) by omega), (show (65 : Int) ≤ z by omega), (show ¬ z ≤ (90 : Int) by omega), (show (48 : Int) ≤ z by omega), (show ¬ z ≤ (57 : Int) by omega), (show ¬ z = (95 : Int) by omega), (show ¬ z = (64 : Int) by omega)]
  · cases f
    · exact Evs.of fun n m => by simp [↓q00, ↓q01, ↓q03, ↓q02, S41, firstZ, goesZ, A.asG, guardB, A.pick, (show ¬ (97 : Int) ≤ z by omega), (show ¬ z ≤ (90 : Int) by omega), (show ¬ z ≤ (57 : Int) by omega), (show z = (95 : Int) by omega), (show ¬ z = (64 : Int) by omega)]
    · exact Evs.of fun n m => by simp [↓q00, ↓q01, ↓q03, ↓q02, S41, firstZ, goesZ, A.asG, guardB, A.pick, (show ¬ (97 : Int) ≤ z by omega), (show ¬ z ≤ (90 : Int) by omega), (show ¬ z ≤ (57 : Int) by omega), (show z = (95 : Int) by omega), (show ¬ z = (64 : Int) by omega)]
  · cases f
    · exact Evs.of fun n m => by simp [↓q00, ↓q01, ↓q03, ↓q02, S41, firstZ, goesZ, A.asG, guardB, A.pick, (show ¬ (97 : Int) ≤ z by omega), (show z ≤ (122 : Int) by omega), (show (65 : Int) ≤ z by omega), (show ¬ z ≤ (90 : Int) by omega), (show (48 : Int) ≤ z by omega), (show ¬ z ≤ (57 : Int) by omega), (show ¬ z = (95 : Int) by omega), (show ¬ z = (64 : Int) by omega)]
    · exact Evs.of fun n m => by simp [↓q00, ↓q01, ↓q03, ↓q02, S41, firstZ, goesZ, A.asG, guardB, A.pick, (show ¬ (97 : Int) ≤ z by omega), (show z ≤ (122 : Int) by omega), (show (65 : Int) ≤ z by omega), (show ¬ z ≤ (90 : Int) by omega), (show (48 : Int) ≤ z by omega), (show ¬ z ≤ (57 : Int) by omega), (show ¬ z = (95 : Int) by omega), (show ¬ z = (64 : Int) by omega)]
  · cases f
    · exact Evs.of fun n m => by simp [↓q00, ↓q01, ↓q03, ↓q02, S41, firstZ, goesZ, A.asG, guardB, A.pick, (show (97 : Int) ≤ z by omega), (show z ≤ (122 : Int) by omega), (show (65 : Int) ≤ z by omega), (show ¬ z ≤ (90 : Int) by omega), (show (48 : Int) ≤ z by omega), (show ¬ z ≤ (57 : Int) by omega), (show ¬ z = (95 : Int) by omega), (show ¬ z = (64 : Int) by omega)]
    · exact Evs.of fun n m => by simp [↓q00, ↓q01, ↓q03, ↓q02, S41, firstZ, goesZ, A.asG, guardB, A.pick, (show (97 : Int) ≤ z by omega), (show z ≤ (122 : Int) by omega), (show (65 : Int) ≤ z by omega), (show ¬ z ≤ (90 : Int) by omega), (show (48 : Int) ≤ z by omega), (show ¬ z ≤ (57 : Int) by omega), (show ¬ z = (95 : Int) by omega), (show ¬ z = (64 : Int) by omega)]
  · cases f
    · exact Evs.of fun n m => by simp [↓q00, ↓q01, ↓q03, ↓q02, S41, firstZ, goesZ, A.asG, guardB, A.pick, (show (97 : Int) ≤ z by omega), (show ¬ z ≤ (122 : Int) by omega), (show (65 : Int) ≤ z by omega), (show ¬ z ≤ (90 : Int) by omega), (show (48 : Int) ≤ z by omega), (show ¬ z ≤ (57 : Int) by omega), (show ¬ z = (95 : Int) by omega), (show ¬ z = (64 : Int) by omega)]
    · exact Evs.of fun n m => by simp [↓q00, ↓q01, ↓q03, ↓q02, S41, firstZ, goesZ, A.asG, guardB, A.pick, (show (97 : Int) ≤ z by omega), (show ¬ z ≤ (122 : Int) by omega), (show (65 : Int) ≤ z by omega), (show ¬ z ≤ (90 : Int) by omega), (show (48 : Int) ≤ z by omega), (show ¬ z ≤ (57 : Int) by omega), (show ¬ z = (95 : Int) by omega), (show ¬ z = (64 : Int) by omega)]
theorem kRpl {R : Type} {z : Int} {f : Bool} {H : Heap} {k : AV → Heap → Option R} : polK pRpl [.int .i32 z, .bool f] H k = k (.bool (sgnOk f z)) H := by
  simp [pRpl, q0i]
noncomputable abbrev TRp : List (FuncId × Pol) := [(41, pRpl)]
theorem qcm {l : List UInt8} {id : Nat} (hl : l.length ≤ 1000000) : ∀ (N pos : Nat) (H : Heap), l.length - pos ≤ N → pos ≤ l.length → H[id]? = some (.iter l pos) →
    ∃ H' : Heap, LDoes (qhp (polT TRp)) ⟨[.str l, .it id], []⟩ H (bif decide (plB (decide (pos = 0)) (l.drop pos) = l.length - pos) then 0 else 1) ⟨[.str l, bif decide (plB (decide (pos = 0)) (l.drop pos) = l.length - pos) then .undef else .bool false], []⟩ H' := by
  intro N
  induction N with
  | zero =>
    intro pos H hN hpl hH
    have hp : ¬ pos < l.length := by omega
    have hd : l.drop pos = [] := List.drop_of_length_le (by omega)
    have e : decide (plB (decide (pos = 0)) (l.drop pos) = l.length - pos) = true := by
      have e0 : l.length - pos = 0 := by omega
      rw [hd, e0]
      cases decide (pos = 0) <;> rfl
    rw [e]
    refine ⟨H, LDoes.step (Evs.of fun n m => ?_)⟩
    simp [↓q00, ↓q01, q3z, nextK, hH, hp]
  | succ N ih =>
    intro pos H hN hpl hH
    by_cases hp : pos < l.length
    · have hid : id < H.length := (List.getElem?_eq_some_iff.1 hH).1
      have hdd := q3a l pos
      have hdr : l.drop pos = l[pos] :: l.drop (pos + 1) := List.drop_eq_getElem_cons hp
      generalize hok : sgnOk (decide (pos = 0)) (l[pos].toNat : Int) = ok
      have hpl1 : plB (decide (pos = 0)) (l.drop pos) = if ok = true then 1 + plB false (l.drop (pos + 1)) else 0 := by
        rw [hdr]
        show (if (bif decide (pos = 0) then firstZ (l[pos].toNat : Int) else goesZ (l[pos].toNat : Int)) then _ else _) = _
        rw [show (bif decide (pos = 0) then firstZ (l[pos].toNat : Int) else goesZ (l[pos].toNat : Int)) = ok from hok]
      have hfg : ∀ c : Nat, sgnOk (decide (pos = 0)) (c : Int) = true → goesZ (c : Int) = true := fun c h => by
        unfold sgnOk at h
        cases hz : decide (pos = 0)
        · rw [hz] at h; exact h
        · rw [hz] at h; exact q5w h
      have hd1 : sgnOk (decide (pos = 0)) ((decodeL (l.drop pos)).1 : Int) = ok := by
        rcases Nat.lt_or_ge l[pos].toNat 128 with hb | hb
        · rw [hdr, q28 hb]
          exact hok
        · have h1 : 128 ≤ (decodeL (l.drop pos)).1 := by rw [hdr]; exact q9g hb
          have n1 : ∀ c : Nat, 128 ≤ c → sgnOk (decide (pos = 0)) (c : Int) = false := fun c hc => by
            cases hx : sgnOk (decide (pos = 0)) (c : Int)
            · rfl
            · have := q2i (hfg c hx)
              omega
          rw [n1 _ h1, ← hok, n1 _ hb]
      have hde : decide ((pos : Int) = 0) = decide (pos = 0) := by simp only [decide_eq_decide]; omega
      cases ok with
      | true =>
        have hb : l[pos].toNat < 128 := by
          have := q2i (hfg _ hok)
          omega
        have hdw : decodeL (l.drop pos) = (l[pos].toNat, 1) := by rw [hdr, q28 hb]
        obtain ⟨H', hL⟩ := ih (pos + 1) (H.set id (.iter l (pos + 1))) (by omega) (by omega) (List.getElem?_set_self hid)
        have hz1 : decide (pos + 1 = 0) = false := by simp
        rw [hz1] at hL
        have hq : decide (plB (decide (pos = 0)) (l.drop pos) = l.length - pos) = decide (plB false (l.drop (pos + 1)) = l.length - (pos + 1)) := by
          rw [hpl1, if_pos rfl]
          simp only [decide_eq_decide]
          omega
        rw [hq]
        refine ⟨H', LDoes.step (Evs.withL hL (Evs.of fun n m _ h2 => ?_))⟩
        rw [hdw] at hdd hd1
        simp only [] at hd1
        clear hpl1 hq hok hdr hdw hL ih
        generalize decide (plB false (l.drop (pos + 1)) = l.length - (pos + 1)) = D at *
        generalize l[pos].toNat = zz at *
        simp [↓q00, ↓q01, q3z, nextK, hH, hp, hdd, kRpl, hd1, h2]
      | false =>
        have hq : decide (plB (decide (pos = 0)) (l.drop pos) = l.length - pos) = false := by
          rw [hpl1, if_neg (by simp)]
          simp only [decide_eq_false_iff_not]
          omega
        rw [hq]
        refine ⟨H.set id (.iter l (pos + (decodeL (l.drop pos)).2)), LDoes.step (Evs.of fun n m => ?_)⟩
        clear hpl1 hq hok hdr ih
        generalize decodeL (l.drop pos) = d at *
        simp [↓q00, ↓q01, q3z, nextK, hH, hp, hdd, kRpl, hd1]
    · have hd : l.drop pos = [] := List.drop_of_length_le (by omega)
      have e : decide (plB (decide (pos = 0)) (l.drop pos) = l.length - pos) = true := by
        have e0 : l.length - pos = 0 := by omega
        rw [hd, e0]
        cases decide (pos = 0) <;> rfl
      rw [e]
      refine ⟨H, LDoes.step (Evs.of fun n m => ?_)⟩
      simp [↓q00, ↓q01, q3z, nextK, hH, hp]
noncomputable def q4m : Pol := .still (p1 cS .bool q0l isPl)
theorem qds : PolOK base 21 q4m := still1 base_ok TRp ⟨okRpl, trivial⟩ fun s hs => by
  unfold q0l at hs
  obtain ⟨H', hL⟩ := qcm (l := s) (id := 0) hs s.length 0 [.iter s 0] (by omega) (Nat.zero_le _) rfl
  have e : decide (plB (decide (0 = 0)) (s.drop 0) = s.length - 0) = decide (plN s = s.length) := by
    rw [List.drop_zero]
    rfl
  rw [e] at hL
  have hne : ∀ H, A.bin base.P .neq 9 (.str s) (.str []) true H = some (.bool (!decide (s = []))) := fun H => str_ne s
  have hpl : isPl s = (decide (plN s = s.length) && !decide (s = [])) := by
    unfold isPl
    cases s with
    | nil => rfl
    | cons b r =>
      by_cases h : plN (b :: r) = (b :: r).length
      · simp [h]
      · have e1 : decide (plN (b :: r) = (b :: r).length) = false := by simp only [decide_eq_false_iff_not]; exact h
        rw [e1]
        rfl
  rw [hpl]
  refine Evs.withL hL (Evs.of fun n m h1 _ => ?_)
  generalize decide (plN s = s.length) = D at *
  generalize decide (s = []) = E at *
  cases D
  · simp [↓q04, S21, rangeK] at h1 ⊢
    simp [h1]
  · simp [↓q04, S21, rangeK] at h1 ⊢
    simp [h1, hne]
theorem qg8 {R : Type} {s : List UInt8} (h : q0l s) {H : Heap} {k : AV → Heap → Option R} : polK q4m [.str s] H k = k (.bool (isPl s)) H := by
  simp [q4m, q0i, h]
end Go.Proofs.YtdkjednjlpcboaaDoor

/- Texts, by the reference: a name as it is written; turned round. -/
set_option maxRecDepth 100000
set_option maxHeartbeats 8000000
namespace Go.Proofs.YtdkjednjlpcboaaDoor
open Go Go.Den Go.Lib
theorem qd3 : ∀ d : Nat, d < 16 → A.sliceStr (.str [48, 49, 50, 51, 52, 53, 54, 55, 56, 57, 97, 98, 99, 100, 101, 102]) (some (.int .u64 (d : Int))) (some (.int .u64 ((d + 1 : Nat) : Int))) = some (.str [fmtr.hexD d])
  | 0, _ => rfl
  | 1, _ => rfl
  | 2, _ => rfl
  | 3, _ => rfl
  | 4, _ => rfl
  | 5, _ => rfl
  | 6, _ => rfl
  | 7, _ => rfl
  | 8, _ => rfl
  | 9, _ => rfl
  | 10, _ => rfl
  | 11, _ => rfl
  | 12, _ => rfl
  | 13, _ => rfl
  | 14, _ => rfl
  | 15, _ => rfl
  | n + 16, h => by omega
theorem qhj {a : Nat} (h : a < 1000000) : IntKind.wrap .u64 (a : Int) = a := by
  simp [IntKind.wrap, IntKind.bits, IntKind.signed]
  omega
theorem qao {c : Nat} (h : c < 1000) (H : Heap) : A.bin base.P .rem 65 (.int .u64 (c : Int)) (.int .u64 16) false H = some (.int .u64 ((c % 16 : Nat) : Int)) ∧ A.bin base.P .add 65 (.int .u64 ((c % 16 : Nat) : Int)) (.int .u64 1) true H = some (.int .u64 ((c % 16 + 1 : Nat) : Int)) ∧ A.bin base.P .quo 65 (.int .u64 (c : Int)) (.int .u64 16) false H = some (.int .u64 ((c / 16 : Nat) : Int)) := by
  have w3 := qhj (a := c % 16 + 1) (by omega)
  refine ⟨rem_nat (y := 16) (by omega), ?_, quo_nat (y := 16) (by omega) (by omega)⟩
  have e : ((c % 16 : Nat) : Int) + 1 = ((c % 16 + 1 : Nat) : Int) := by omega
  simp only [A.bin, A.binInt]
  rw [e, w3]
  rfl
noncomputable def pRdg : Pol := .still (p2 (cI .u64) (cI .u64) .str (fun c b => b = 16 ∧ 0 ≤ c ∧ (c < 32 ∨ c = 127)) fun c _ => fmtr.hexS c.toNat)
theorem qh4 {c : Nat} (h : c < 16) (acc : List UInt8) (ha : acc.length ≤ 10) (H : Heap) : LDoes (qfe (polT [])) ⟨[.int .u64 (c : Int), .int .u64 16, .str acc], []⟩ H 0 ⟨[.str (fmtr.hexD c :: acc)], []⟩ H := by
  obtain ⟨f1, f2, f3⟩ := qao (c := c) (by omega) H
  have f4 := qd3 (c % 16) (by omega)
  have e1 : c % 16 = c := by omega
  have e2 : c / 16 = 0 := by omega
  rw [e1] at f1 f2 f4
  rw [e2] at f3
  have f5 : A.bin base.P .add 9 (.str [fmtr.hexD c]) (.str acc) false H = some (.str (fmtr.hexD c :: acc)) := by
    simp only [A.bin, A.binStr]
    rw [if_pos (by simp only [List.length_cons, List.length_nil]; omega)]
    rfl
  have z0 : ((0 : Nat) : Int) = 0 := rfl
  rw [z0] at f3
  refine LDoes.step (Evs.of fun n m => ?_)
  generalize ((c + 1 : Nat) : Int) = C1 at *
  generalize (c : Int) = C at *
  generalize [fmtr.hexD c] = hx at *
  simp [↓q00, ↓q01, q8c, f1, f2, f3, f4, f5]
theorem rdg_two {c : Nat} (h : 16 ≤ c) (h2 : c < 256) (acc : List UInt8) (ha : acc.length ≤ 5) (H : Heap) : LDoes (qfe (polT [])) ⟨[.int .u64 (c : Int), .int .u64 16, .str acc], []⟩ H 0 ⟨[.str (fmtr.hexD (c / 16) :: fmtr.hexD (c % 16) :: acc)], []⟩ H := by
  obtain ⟨f1, f2, f3⟩ := qao (c := c) (by omega) H
  have f4 := qd3 (c % 16) (by omega)
  have f5 : A.bin base.P .add 9 (.str [fmtr.hexD (c % 16)]) (.str acc) false H = some (.str (fmtr.hexD (c % 16) :: acc)) := by
    simp only [A.bin, A.binStr]
    rw [if_pos (by simp only [List.length_cons, List.length_nil]; omega)]
    rfl
  have hL := qh4 (c := c / 16) (by omega) (fmtr.hexD (c % 16) :: acc) (by simp only [List.length_cons]; omega) H
  have z : ¬ ((c / 16 : Nat) : Int) = 0 := by omega
  refine LDoes.step (Evs.withL hL (Evs.of fun n m _ h3 => ?_))
  generalize fmtr.hexD (c / 16) :: fmtr.hexD (c % 16) :: acc = T2 at *
  generalize fmtr.hexD (c % 16) :: acc = T1 at *
  generalize ((c % 16 + 1 : Nat) : Int) = C1 at *
  generalize ((c % 16 : Nat) : Int) = C2 at *
  generalize ((c / 16 : Nat) : Int) = C3 at *
  generalize (c : Int) = C at *
  generalize [fmtr.hexD (c % 16)] = hx at *
  simp [↓q00, ↓q01, q8c, f1, f2, f3, f4, f5, z, h3]
theorem okRdg : PolOK base 43 pRdg := still2 base_ok [] trivial fun c b ⟨hb, c0, hc⟩ => by
  subst hb
  have e1 : (cI .u64).enc c = .int .u64 ((c.toNat : Nat) : Int) := by show AV.int .u64 c = _; rw [Int.toNat_of_nonneg c0]
  have e2 : (cI .u64).enc 16 = .int .u64 16 := rfl
  rw [e1, e2]
  have hc' : c.toNat < 32 ∨ c.toNat = 127 := by omega
  generalize c.toNat = d at *
  unfold fmtr.hexS
  by_cases h : d < 16
  · rw [if_pos h]
    refine Evs.withL (qh4 h [] (by simp) []) (Evs.of fun n m h1 _ => ?_)
    generalize (d : Int) = D at *
    simp [↓q04, ↓q05, S43, h1]
  · rw [if_neg h]
    refine Evs.withL (rdg_two (c := d) (by omega) (by omega) [] (by simp) []) (Evs.of fun n m h1 _ => ?_)
    generalize (d : Int) = D at *
    simp [↓q04, ↓q05, S43, h1]
theorem kRdg {R : Type} {c : Nat} (h : c < 32 ∨ c = 127) {H : Heap} {k : AV → Heap → Option R} : polK pRdg [.int .u64 (c : Int), .int .u64 16] H k = k (.str (fmtr.hexS c)) H := by
  have h1 : (c : Int) < 32 ∨ (c : Int) = 127 := by omega
  have h0 : 0 ≤ (c : Int) := by omega
  simp [pRdg, q0i, h1, h0]
/-! ### a name as it is written -/
noncomputable abbrev TRq : List (FuncId × Pol) := [(10, q1w), (21, q4m), (43, pRdg)]
theorem qi2 {n : Nat} (h : n < 2147483648) : Go.Den.convert base 21 65 (.int .i32 (n : Int)) = some (.int .u64 (n : Int)) := by
  have e : IntKind.wrap .u64 (n : Int) = (n : Int) := by
    simp [IntKind.wrap, IntKind.bits, IntKind.signed]
    omega
  have := q2c (E := base) (s := 21) (d := 65) (x := .int .i32) (n := (n : Int)) (j := .i32) (k := .u64) (by kernel_rfl) (by kernel_rfl)
  rw [e] at this
  exact this
theorem q2r {a b : List UInt8} {t : TypeId} {c : Bool} {H : Heap} (h : a.length + b.length ≤ 100000000) : A.bin base.P .add t (.str a) (.str b) c H = some (.str (a ++ b)) := by
  simp only [A.bin, A.binStr]
  rw [if_pos (by omega)]
theorem qhb {R : Type} {c : Nat} {H : Heap} {k : AV → Heap → Option R} : q09 base 54 9 (.sl H.length 0 0 1 1) (H ++ [.row 0 1 21 [er c]]) k = k (.str (enc c)) (H ++ [.row 0 1 21 [er c]]) := by
  have hO : Out er 1 21 (H ++ [.row 0 1 21 [er c]]) (.sl H.length 0 0 1 1) [c] := .inr ⟨H.length, 0, by simp, rfl, q0y⟩
  rw [q5c hO]
  simp
theorem qcn {s : List UInt8} {id : Nat} (hsl : s.length ≤ 1000000) : ∀ (N pos : Nat) (H : Heap) (out : List UInt8), s.length - pos ≤ N → pos ≤ s.length → validD (s.drop pos) = true → H[id]? = some (.iter s pos) → out.length + 5 * (s.length - pos) ≤ 6000000 →
    ∃ H' : Heap, LDoes (qfc (polT TRq)) ⟨[.str out, .it id], []⟩ H 0 ⟨[.str (out ++ (rs (s.drop pos)).flatMap escR)], []⟩ H' := by
  intro N
  induction N with
  | zero =>
    intro pos H out hN hpl hv hH hlen
    have hp : ¬ pos < s.length := by omega
    have hd : s.drop pos = [] := List.drop_of_length_le (by omega)
    rw [hd, q31, List.flatMap_nil, List.append_nil]
    refine ⟨H, LDoes.step (Evs.of fun n m => ?_)⟩
    simp [↓q00, ↓q04, ↓q06, ↓q01, q1e, nextK, hH, hp]
  | succ N ih =>
    intro pos H out hN hpl hv hH hlen
    by_cases hp : pos < s.length
    · have hne := q4h hp
      have hdd := q3a s pos
      have hid : id < H.length := (List.getElem?_eq_some_iff.1 hH).1
      have hv2 := hv
      rw [validD_step _ hne] at hv2
      by_cases hg : (decodeL (s.drop pos)).1 = 65533 ∧ (decodeL (s.drop pos)).2 = 1
      · rw [if_pos hg] at hv2; cases hv2
      rw [if_neg hg, List.drop_drop] at hv2
      obtain ⟨e1, hs, e3, e4⟩ := q44 hne hg
      rw [List.length_drop] at e3
      have hrs := q1o hne
      rw [List.drop_drop] at hrs
      rw [hrs, List.flatMap_cons, ← List.append_assoc]
      have hle := q9j hs
      have hel := qfy hs
      clear hg e1 hrs hv
      generalize decodeL (s.drop pos) = d at *
      have hH1 : (H.set id (.iter s (pos + d.2)))[id]? = some (.iter s (pos + d.2)) := List.getElem?_set_self hid
      generalize hH2 : H.set id (.iter s (pos + d.2)) = H1 at *
      have hH3 : (H1 ++ [HObj.row 0 1 21 [er d.1]])[id]? = some (.iter s (pos + d.2)) := by
        rw [List.getElem?_append_left (List.getElem?_eq_some_iff.1 hH1).1]
        exact hH1
      have go : ∀ (H2 : Heap), H2[id]? = some (.iter s (pos + d.2)) → ∃ H' : Heap, LDoes (qfc (polT TRq)) ⟨[.str (out ++ escR d.1), .it id], []⟩ H2 0 ⟨[.str (out ++ escR d.1 ++ (rs (s.drop (pos + d.2))).flatMap escR)], []⟩ H' := fun H2 h2 =>
        ih (pos + d.2) H2 (out ++ escR d.1) (by omega) (by omega) hv2 h2 (by rw [List.length_append]; omega)
      have hfe : A.fillElems 1 [.int .i32 0] [(0, 1, .int .i32 (d.1 : Int))] = some [er d.1] := by simp [A.fillElems]
      have hst : ∀ (R : Type) (k : AV → Heap → Option R), q09 base 54 9 (.sl H1.length 0 0 1 1) (H1 ++ [HObj.row 0 1 21 [er d.1]]) k = k (.str (enc d.1)) (H1 ++ [HObj.row 0 1 21 [er d.1]]) := fun R k => qhb
      by_cases c1 : d.1 = 39 ∨ d.1 = 92
      · have he : escR d.1 = [92] ++ enc d.1 := by unfold escR; rw [if_pos c1]; rfl
        obtain ⟨H', hL⟩ := go _ hH3
        refine ⟨H', LDoes.step (Evs.withL hL (Evs.of fun n m _ h2 => ?_))⟩
        have a1 : ∀ H, A.bin base.P .add 9 (.str out) (.str [92]) true H = some (.str (out ++ [92])) := fun H => q2r (by simp only [List.length_cons, List.length_nil]; omega)
        have a2 : ∀ H, A.bin base.P .add 9 (.str (out ++ [92])) (.str (enc d.1)) false H = some (.str (out ++ escR d.1)) := fun H => by
          rw [q2r (by simp only [List.length_append, List.length_cons, List.length_nil]; omega), he, List.append_assoc]
        clear he hL go
        generalize out ++ escR d.1 ++ (rs (s.drop (pos + d.2))).flatMap escR = O3 at *
        generalize out ++ escR d.1 = O2 at *
        generalize out ++ [92] = O1 at *
        rcases c1 with c1 | c1
        · have z1 : (d.1 : Int) = 39 := by omega
          simp only [er] at hst hfe
          rw [z1] at hst hfe
          simp only [er] at h2
          rw [z1] at h2
          simp [↓q00, ↓q04, ↓q06, ↓q01, ↓q03, ↓q0t, ↓q02, ↓q05, q1e, nextK, hH, hp, hdd, z1, hH2, A.asG, guardB, A.pick, a1, hfe, hst, a2, h2]
        · have z1 : (d.1 : Int) = 92 := by omega
          simp only [er] at hst hfe
          rw [z1] at hst hfe
          simp only [er] at h2
          rw [z1] at h2
          simp [↓q00, ↓q04, ↓q06, ↓q01, ↓q03, ↓q0t, ↓q02, ↓q05, q1e, nextK, hH, hp, hdd, z1, hH2, A.asG, guardB, A.pick, a1, hfe, hst, a2, h2]
      have n39 : ¬ (d.1 : Int) = 39 := by omega
      have n92 : ¬ (d.1 : Int) = 92 := by omega
      by_cases c2 : d.1 = 10
      · have he : escR d.1 = [92, 110] := by unfold escR; rw [if_neg c1, if_pos c2]
        obtain ⟨H', hL⟩ := go _ hH1
        refine ⟨H', LDoes.step (Evs.withL hL (Evs.of fun n m _ h2 => ?_))⟩
        have n10 : (d.1 : Int) = 10 := by omega
        have a1 : ∀ H, A.bin base.P .add 9 (.str out) (.str [92, 110]) true H = some (.str (out ++ escR d.1)) := fun H => by rw [he]; exact q2r (by simp only [List.length_cons, List.length_nil]; omega)
        clear he hL go
        generalize out ++ escR d.1 ++ (rs (s.drop (pos + d.2))).flatMap escR = O3 at *
        generalize out ++ escR d.1 = O2 at *
        simp [↓q00, ↓q04, ↓q06, ↓q01, ↓q03, ↓q02, ↓q05, q1e, nextK, hH, hp, hdd, n10, hH2, A.asG, guardB, A.pick, a1, h2]
      have n10 : ¬ (d.1 : Int) = 10 := by omega
      by_cases c3 : d.1 < 32 ∨ d.1 = 127
      · have he : escR d.1 = [92, 120] ++ fmtr.hexS d.1 ++ [59] := by unfold escR; rw [if_neg c1, if_neg c2, if_pos c3]
        have hhx := qc7 d.1
        obtain ⟨H', hL⟩ := go _ hH1
        refine ⟨H', LDoes.step (Evs.withL hL (Evs.of fun n m _ h2 => ?_))⟩
        have hc64 := qi2 (n := d.1) (by omega)
        have kd : ∀ (R : Type) (H : Heap) (k : AV → Heap → Option R), polK pRdg [.int .u64 (d.1 : Int), .int .u64 16] H k = k (.str (fmtr.hexS d.1)) H := fun R H k => kRdg c3
        have a1 : ∀ H, A.bin base.P .add 9 (.str out) (.str [92, 120]) true H = some (.str (out ++ [92, 120])) := fun H => q2r (by simp only [List.length_cons, List.length_nil]; omega)
        have a2 : ∀ H, A.bin base.P .add 9 (.str (out ++ [92, 120])) (.str (fmtr.hexS d.1)) false H = some (.str (out ++ [92, 120] ++ fmtr.hexS d.1)) := fun H => q2r (by simp only [List.length_append, List.length_cons, List.length_nil]; omega)
        have a3 : ∀ H, A.bin base.P .add 9 (.str (out ++ [92, 120] ++ fmtr.hexS d.1)) (.str [59]) true H = some (.str (out ++ escR d.1)) := fun H => by
          rw [q2r (by simp only [List.length_append, List.length_cons, List.length_nil]; omega), he]
          simp
        clear he hL go hlen hle
        generalize out ++ escR d.1 ++ (rs (s.drop (pos + d.2))).flatMap escR = O3 at *
        generalize out ++ escR d.1 = O2 at *
        generalize out ++ [92, 120] ++ fmtr.hexS d.1 = O1 at *
        generalize out ++ [92, 120] = O0 at *
        generalize fmtr.hexS d.1 = hx at *
        by_cases c4 : (d.1 : Int) < 32
        · simp [↓q00, ↓q04, ↓q06, ↓q01, ↓q03, ↓q02, ↓q05, q1e, nextK, hH, hp, hdd, n39, n92, n10, hH2, A.asG, guardB, A.pick, c4, hc64, kd, a1, a2, a3, h2]
        · have c5 : (d.1 : Int) = 127 := by omega
          rw [c5] at hc64 kd
          simp [↓q00, ↓q04, ↓q06, ↓q01, ↓q03, ↓q02, ↓q05, q1e, nextK, hH, hp, hdd, c5, hH2, A.asG, guardB, A.pick, hc64, kd, a1, a2, a3, h2]
      · have he : escR d.1 = enc d.1 := by unfold escR; rw [if_neg c1, if_neg c2, if_neg c3]
        obtain ⟨H', hL⟩ := go _ hH3
        refine ⟨H', LDoes.step (Evs.withL hL (Evs.of fun n m _ h2 => ?_))⟩
        have n32 : ¬ (d.1 : Int) < 32 := by omega
        have n127 : ¬ (d.1 : Int) = 127 := by omega
        have a1 : ∀ H, A.bin base.P .add 9 (.str out) (.str (enc d.1)) false H = some (.str (out ++ escR d.1)) := fun H => by rw [he]; exact q2r (by omega)
        clear he hL go
        generalize out ++ escR d.1 ++ (rs (s.drop (pos + d.2))).flatMap escR = O3 at *
        generalize out ++ escR d.1 = O2 at *
        simp [↓q00, ↓q04, ↓q06, ↓q01, ↓q03, ↓q0t, ↓q02, ↓q05, q1e, nextK, hH, hp, hdd, n39, n92, n10, n32, n127, hH2, A.asG, guardB, A.pick, hfe, hst, a1, h2]
    · have hd : s.drop pos = [] := List.drop_of_length_le (by omega)
      rw [hd, q31, List.flatMap_nil, List.append_nil]
      refine ⟨H, LDoes.step (Evs.of fun n m => ?_)⟩
      simp [↓q00, ↓q04, ↓q06, ↓q01, q1e, nextK, hH, hp]
theorem qh3 {s : List UInt8} (hv : validD s = true) : ((rs s).flatMap escR).length ≤ 5 * s.length := by
  have h1 := (q37 _ s (Nat.le_refl _) hv).2
  have h2 : ∀ L : List Nat, (∀ r ∈ L, scal r) → (L.flatMap escR).length ≤ 5 * L.length := fun L => by
    induction L with
    | nil => intro _; simp
    | cons r L ih =>
      intro h
      have := ih fun x hx => h x (List.mem_cons_of_mem _ hx)
      have h3 := q9j (h r List.mem_cons_self)
      rw [List.flatMap_cons, List.length_append, List.length_cons]
      omega
  have h3 := h2 _ h1
  have h4 := q8y _ s (Nat.le_refl _)
  omega
noncomputable def pRquo : Pol := .still (p1 cS .str q0l quoS)
theorem okRquo : PolOK base 22 pRquo := still1 base_ok TRq ⟨q59, qds, okRdg, trivial⟩ fun s hs => by
  have hs' : s.length ≤ 1000000 := hs
  have kp : ∀ (R : Type) (H : Heap) (k : AV → Heap → Option R), polK q4m [.str s] H k = k (.bool (isPl s)) H := fun R H k => qg8 hs
  unfold quoS
  cases hv : validD s
  · rw [if_neg (by simp)]
    exact Evs.of fun n m => by simp [↓q00, ↓q04, ↓q01, S22, q1c, hv]
  rw [if_pos rfl]
  cases hp : isPl s
  · rw [if_neg (by simp)]
    rw [hp] at kp
    obtain ⟨H', hL⟩ := qcn (s := s) (id := 0) hs' s.length 0 [.iter s 0] [39] (by omega) (Nat.zero_le _) hv rfl (by simp only [List.length_cons, List.length_nil]; omega)
    rw [List.drop_zero] at hL
    have hb := qh3 hv
    have a1 : ∀ H, A.bin base.P .add 9 (.str ([39] ++ (rs s).flatMap escR)) (.str [39]) true H = some (.str ([39] ++ (rs s).flatMap escR ++ [39])) := fun H => q2r (by simp only [List.length_append, List.length_cons, List.length_nil]; omega)
    refine Evs.withL hL (Evs.of fun n m h1 _ => ?_)
    generalize [39] ++ (rs s).flatMap escR ++ [39] = T2 at *
    generalize [39] ++ (rs s).flatMap escR = T1 at *
    simp [↓q00, ↓q04, ↓q01, ↓q05, S22, q1c, hv, kp, rangeK, h1, a1]
  · rw [if_pos rfl]
    rw [hp] at kp
    exact Evs.of fun n m => by
      simp [↓q00, ↓q04, ↓q01, S22, q1c, hv, kp]
theorem kRquo {R : Type} {s : List UInt8} (h : q0l s) {H : Heap} {k : AV → Heap → Option R} : polK pRquo [.str s] H k = k (.str (quoS s)) H := by
  simp [pRquo, q0i, h]
end Go.Proofs.YtdkjednjlpcboaaDoor

/- Texts, by the reference: turned round. -/
set_option maxRecDepth 100000
set_option maxHeartbeats 8000000
namespace Go.Proofs.YtdkjednjlpcboaaDoor
open Go Go.Den Go.Lib
theorem qh8 {L : List Nat} {id : Nat} (hl : L.length ≤ 1000000) : ∀ (j : Nat) (z : Int) (H : Heap) (v : AV), z = (j : Int) - 1 → j ≤ L.length → H[id]? = some (.row 0 1 21 (L.map er)) → Out er 1 21 H v ((L.drop j).reverse) → (∀ ver, v ≠ .sl id ver 0 ((L.drop j).reverse).length ((L.drop j).reverse).length) →
    ∃ (H' : Heap) (v' : AV), LDoes (qhq (polT [(10, q1w)])) ⟨[v, .sl id 0 0 L.length L.length, .int .i64 z], []⟩ H 0 ⟨[v'], []⟩ H' ∧ Out er 1 21 H' v' L.reverse := by
  intro j
  induction j with
  | zero =>
    intro z H v hz hj hH hO hne
    have hz' : ¬ (0 : Int) ≤ z := by omega
    rw [List.drop_zero] at hO
    refine ⟨H, v, LDoes.step (Evs.of fun n m => ?_), hO⟩
    simp [↓q00, ↓q01, q8b, hz']
  | succ j ih =>
    intro z H v hz hj hH hO hne
    have hz' : (0 : Int) ≤ z := by omega
    have hzj : z = (j : Int) := by omega
    have hlt : j < L.length := by omega
    have x1 : A.idx 1 (.sl id 0 0 L.length L.length) (.int .i64 z) H = some (.ptr id 0 j 0) := by
      rw [hzj]
      have := q7u (cap := L.length) (off := 0) (k := .i64) hH (i := (j : Int)) (n := L.length) (by omega) (by omega)
      simpa using this
    have x2 : A.load false 1 (.ptr id 0 j 0) H = some (er L[j]) := q6s hH (by simp [hlt]) rfl
    have hfe : A.fillElems 1 [.int .i32 0] [(0, 1, er L[j])] = some [er L[j]] := by simp [A.fillElems]
    have hrd : A.read 1 (.sl H.length 0 0 1 1) (H ++ [HObj.row 0 1 21 [er L[j]]]) = some [er L[j]] := q3i q0y rfl
    have hdr : (L.drop j).reverse = (L.drop (j + 1)).reverse ++ [L[j]] := by rw [List.drop_eq_getElem_cons hlt, List.reverse_cons]
    -- the new row is not the one that is read
    have hw : IntKind.wrap .i64 (z - 1) = z - 1 := q0k (by omega) (by omega)
    have hid : id < H.length := (List.getElem?_eq_some_iff.1 hH).1
    obtain ⟨v', H', ha, hO', hH', hne'⟩ : ∃ (v' : AV) (H' : Heap), A.append 1 4 21 v [er L[j]] (H ++ [HObj.row 0 1 21 [er L[j]]]) = some (v', H') ∧ Out er 1 21 H' v' ((L.drop j).reverse) ∧ H'[id]? = some (.row 0 1 21 (L.map er)) ∧ ∀ ver, v' ≠ .sl id ver 0 ((L.drop j).reverse).length ((L.drop j).reverse).length := by
      rw [hdr]
      have hlen : ((L.drop (j + 1)).reverse).length ≤ 1000000 := by simp; omega
      generalize (L.drop (j + 1)).reverse = D at *
      rcases hO with ⟨rfl, rfl⟩ | ⟨i2, ver, h0, rfl, h2⟩
      · refine ⟨_, _, nil_append (news := [er L[j]]) (by simp) (by omega) (by simp), .inr ⟨_, 0, by simp, by simp, q0y⟩, ?_, fun ver h => ?_⟩
        · rw [List.getElem?_append_left (by simp; omega), List.getElem?_append_left hid]
          exact hH
        · injection h with h
          simp at h
          omega
      · have hi2 : i2 ≠ id := fun e => hne ver (by rw [e])
        have h3 := q3w h2 [HObj.row 0 1 21 [er L[j]]]
        refine ⟨_, _, q2j (news := [er L[j]]) h3 (by simp) (by simp) (by omega) (by simp; omega), .inr ⟨i2, ver + 1, by simp, by simp, ?_⟩, ?_, fun ver2 h => ?_⟩
        · rw [q4p h3]
          simp
        · rw [List.getElem?_set_ne hi2, List.getElem?_append_left hid]
          exact hH
        · injection h with h
          exact hi2 h
    obtain ⟨H2, v2, hL, hO2⟩ := ih (z - 1) H' v' (by omega) (by omega) hH' hO' hne'
    refine ⟨H2, v2, LDoes.step (Evs.withL hL (Evs.of fun n m _ h2 => ?_)), hO2⟩
    generalize er L[j] = x at *
    simp [↓q00, ↓q04, ↓q06, ↓q01, ↓q0t, ↓q0u, q8b, hz', x1, x2, hfe, q21 q17, hrd, ha, hw, h2]
noncomputable def pRrev : Pol := .still (p1 cS .str q0l revR)
theorem okRrev : PolOK base 23 pRrev := still1 base_ok [(10, q1w)] ⟨q59, trivial⟩ fun s hs => by
  have hs' : s.length ≤ 1000000 := hs
  unfold revR
  cases hv : validD s
  · rw [if_neg (by simp)]
    exact Evs.of fun n m => by simp [↓q00, ↓q04, ↓q01, S23, q1c, hv]
  rw [if_pos rfl]
  have hl := q8y _ s (Nat.le_refl _)
  have c1 : ∀ (R : Type) (k : AV → Heap → Option R), q09 base 9 54 (.str s) [] k = k (.sl 0 0 0 (rs s).length (rs s).length) [.row 0 1 21 ((rs s).map er)] := fun R k => q8i (H := []) hs'
  have hln : A.len (.sl 0 0 0 (rs s).length (rs s).length) [HObj.row 0 1 21 ((rs s).map er)] = some (.int .i64 ((rs s).length : Int)) := by simp [A.len, A.alive]
  have hw : IntKind.wrap .i64 (((rs s).length : Int) - 1) = ((rs s).length : Int) - 1 := q0k (by omega) (by omega)
  obtain ⟨H', v', hL, hO⟩ := qh8 (L := rs s) (id := 0) (by omega) (rs s).length (((rs s).length : Int) - 1) [.row 0 1 21 ((rs s).map er)] .nils rfl (Nat.le_refl _) rfl (by rw [List.drop_length]; exact .nil) (fun ver h => by cases h)
  have hc : ∀ (R : Type) (k : AV → Heap → Option R), q09 base 54 9 v' H' k = k (.str ((rs s).reverse.flatMap enc)) H' := fun R k => q5c hO
  refine Evs.withL hL (Evs.of fun n m h1 _ => ?_)
  generalize (rs s).reverse.flatMap enc = T at *
  generalize (rs s).map er = es at *
  generalize (rs s).length = N at *
  simp [↓q00, ↓q04, ↓q01, ↓q05, S23, q1c, hv, c1, hln, hw, h1, hc]
theorem kRrev {R : Type} {s : List UInt8} (h : q0l s) {H : Heap} {k : AV → Heap → Option R} : polK pRrev [.str s] H k = k (.str (revR s)) H := by
  simp [pRrev, q0i, h]
end Go.Proofs.YtdkjednjlpcboaaDoor

/- Texts, by the reference: an escaped sign. -/
set_option maxRecDepth 100000
set_option maxHeartbeats 8000000
namespace Go.Proofs.YtdkjednjlpcboaaDoor
open Go Go.Den Go.Lib
theorem qfs (n : Int) (j : IntKind) : Go.Den.convert base 21 3 (.int j n) = some (.int .i64 (IntKind.wrap .i64 n)) := q2c (x := .int .i32) (by kernel_rfl) (by kernel_rfl)
theorem qj9 (n : Int) (j : IntKind) : Go.Den.convert base 3 21 (.int j n) = some (.int .i32 (IntKind.wrap .i32 n)) := q2c (x := .int .i64) (by kernel_rfl) (by kernel_rfl)
noncomputable def pRhex : Pol := .still (p1 (cI .i32) (.int .i64) (fun z => 0 ≤ z ∧ z < 1114112) fun z => digN z.toNat)
theorem okRhex : PolOK base 57 pRhex := still1 base_ok [] trivial fun z ⟨z0, z1⟩ => by
  have hw : ∀ x : Int, -100 ≤ x → x ≤ 100 → IntKind.wrap .i32 x = x := fun x h1 h2 => qe7 (by omega) (by omega)
  have hv : ∀ x : Int, -100 ≤ x → x ≤ 100 → IntKind.wrap .i64 x = x := fun x h1 h2 => q0k (by omega) (by omega)
  by_cases h1 : 48 ≤ z ∧ z ≤ 57
  · have e : digN z.toNat = z - 48 := by unfold digN; rw [if_pos (by omega)]; omega
    rw [e]
    have w := hw (z - 48) (by omega) (by omega)
    have w2 := hv (z - 48) (by omega) (by omega)
    exact Evs.of fun n m => by simp [↓q00, ↓q01, ↓q03, ↓q02, S57, qfs, A.asG, guardB, A.pick, h1.1, h1.2, w, w2]
  by_cases h2 : 97 ≤ z ∧ z ≤ 102
  · have e : digN z.toNat = z - 97 + 10 := by unfold digN; rw [if_neg (by omega), if_pos (by omega)]; omega
    rw [e]
    have w1 := hw (z - 97) (by omega) (by omega)
    have w2 := hv (z - 97) (by omega) (by omega)
    have w3 := hv (z - 97 + 10) (by omega) (by omega)
    have n1 : (48 : Int) ≤ z := by omega
    have n2 : ¬ z ≤ 57 := by omega
    exact Evs.of fun n m => by simp [↓q00, ↓q01, ↓q03, ↓q02, S57, qfs, A.asG, guardB, A.pick, n1, n2, h2.1, h2.2, w1, w2, w3]
  by_cases h3 : 65 ≤ z ∧ z ≤ 70
  · have e : digN z.toNat = z - 65 + 10 := by unfold digN; rw [if_neg (by omega), if_neg (by omega), if_pos (by omega)]; omega
    rw [e]
    have w1 := hw (z - 65) (by omega) (by omega)
    have w2 := hv (z - 65) (by omega) (by omega)
    have w3 := hv (z - 65 + 10) (by omega) (by omega)
    have n1 : (48 : Int) ≤ z := by omega
    have n2 : ¬ z ≤ 57 := by omega
    have n3 : ¬ 97 ≤ z := by omega
    exact Evs.of fun n m => by simp [↓q00, ↓q01, ↓q03, ↓q02, S57, qfs, A.asG, guardB, A.pick, n1, n2, n3, h3.1, h3.2, w1, w2, w3]
  · have e : digN z.toNat = -1 := by unfold digN; rw [if_neg (by omega), if_neg (by omega), if_neg (by omega)]
    rw [e]
    rcases (show z < 48 ∨ (57 < z ∧ z < 65) ∨ (70 < z ∧ z < 97) ∨ 102 < z by omega) with c | c | c | c
    · have n1 : ¬ (48 : Int) ≤ z := by omega
      have n2 : ¬ (97 : Int) ≤ z := by omega
      have n3 : ¬ (65 : Int) ≤ z := by omega
      exact Evs.of fun n m => by simp [↓q00, ↓q01, ↓q03, ↓q02, S57, A.asG, guardB, A.pick, n1, n2, n3]
    · have n1 : (48 : Int) ≤ z := by omega
      have n4 : ¬ z ≤ 57 := by omega
      have n2 : ¬ (97 : Int) ≤ z := by omega
      have n3 : ¬ (65 : Int) ≤ z := by omega
      exact Evs.of fun n m => by simp [↓q00, ↓q01, ↓q03, ↓q02, S57, A.asG, guardB, A.pick, n1, n2, n3, n4]
    · have n1 : (48 : Int) ≤ z := by omega
      have n4 : ¬ z ≤ 57 := by omega
      have n2 : ¬ (97 : Int) ≤ z := by omega
      have n3 : (65 : Int) ≤ z := by omega
      have n5 : ¬ z ≤ 70 := by omega
      exact Evs.of fun n m => by simp [↓q00, ↓q01, ↓q03, ↓q02, S57, A.asG, guardB, A.pick, n1, n2, n3, n4, n5]
    · have n1 : (48 : Int) ≤ z := by omega
      have n4 : ¬ z ≤ 57 := by omega
      have n2 : (97 : Int) ≤ z := by omega
      have n6 : ¬ z ≤ 102 := by omega
      have n3 : (65 : Int) ≤ z := by omega
      have n5 : ¬ z ≤ 70 := by omega
      exact Evs.of fun n m => by simp [↓q00, ↓q01, ↓q03, ↓q02, S57, A.asG, guardB, A.pick, n1, n2, n3, n4, n5, n6]
theorem kRhex {R : Type} {c : Nat} (h : c < 1114112) {H : Heap} {k : AV → Heap → Option R} : polK pRhex [.int .i32 (c : Int)] H k = k (.int .i64 (digN c)) H := by
  have h1 : 0 ≤ (c : Int) ∧ (c : Int) < 1114112 := by omega
  simp [pRhex, q0i, h1]
structure RR (H : Heap) (id : Nat) (L : List Nat) : Prop where
  row : H[id]? = some (.row 0 1 21 (L.map er))
  len : L.length ≤ 1000000
  ok : ∀ c ∈ L, c < 1114112
theorem RR.idx {H : Heap} {id : Nat} {L : List Nat} (h : RR H id L) {p : Nat} (hp : p < L.length) : A.idx 1 (.sl id 0 0 L.length L.length) (.int .i64 (p : Int)) H = some (.ptr id 0 p 0) ∧ A.load false 1 (.ptr id 0 p 0) H = some (.int .i32 (L[p] : Int)) ∧ L[p] < 1114112 := by
  refine ⟨?_, q6s h.row (by simp [hp]) rfl, h.ok _ (List.getElem_mem hp)⟩
  have := q7u (cap := L.length) (off := 0) (k := .i64) h.row (i := (p : Int)) (n := L.length) (by omega) (by omega)
  simpa using this
theorem RR.ln {H : Heap} {id : Nat} {L : List Nat} (h : RR H id L) : A.len (.sl id 0 0 L.length L.length) H = some (.int .i64 (L.length : Int)) := by
  simp [A.len, A.alive, h.row]
def hexR : List Nat → Nat → Nat → Bool × Nat × Nat × List Nat
  | [], k, n => (false, n, k, [])
  | c :: L, k, n => if 0 ≤ digN c then (if 6 ≤ k then (true, 16 * n + (digN c).toNat, k + 1, c :: L) else hexR L (k + 1) (16 * n + (digN c).toNat)) else (false, n, k, c :: L)
theorem qdc : ∀ (L : List Nat) (k n : Nat), k ≤ 6 → n < 16 ^ k →
    (hexR L k n).2.1 < 268435456 ∧ (hexR L k n).2.2.1 ≤ 7 ∧
    ((hexR L k n).1 = true → (numR L k n).2.1 = 4) ∧
    ((hexR L k n).1 = false → (hexR L k n).2.2.2 = [] → (numR L k n).2.1 = 2) ∧
    (∀ c R, (hexR L k n).1 = false → (hexR L k n).2.2.2 = c :: R → ¬ ((hexR L k n).2.2.1 = 0 ∨ c ≠ 59 ∨ scalB (hexR L k n).2.1 = false) → numR L k n = ((hexR L k n).2.1, 0, R)) ∧
    (∀ c R, (hexR L k n).1 = false → (hexR L k n).2.2.2 = c :: R → ((hexR L k n).2.2.1 = 0 ∨ c ≠ 59 ∨ scalB (hexR L k n).2.1 = false) → (numR L k n).2.1 = 4)
  | [], k, n, hk, hn => by
    have h1 : 16 ^ k ≤ 16 ^ 6 := Nat.pow_le_pow_right (by omega) hk
    have h2 : (16 : Nat) ^ 6 = 16777216 := by decide
    refine ⟨?_, ?_, ?_, ?_, ?_, ?_⟩ <;> (try intro c R) <;> simp [hexR, numR] <;> omega
  | c :: L, k, n, hk, hn => by
    have h1 : 16 ^ k ≤ 16 ^ 6 := Nat.pow_le_pow_right (by omega) hk
    have h2 : (16 : Nat) ^ 6 = 16777216 := by decide
    have hd := qbz c
    by_cases a1 : 0 ≤ digN c
    · have n59 : ¬ (c = 59 ∧ 0 < k ∧ scalB n = true) := fun h => by
        rw [h.1] at a1
        exact absurd a1 (by decide)
      by_cases a2 : 6 ≤ k
      · have e : hexR (c :: L) k n = (true, 16 * n + (digN c).toNat, k + 1, c :: L) := by rw [hexR, if_pos a1, if_pos a2]
        have e2 : numR (c :: L) k n = (0, 4, L) := by rw [numR, if_neg n59, if_pos (.inr a2)]
        rw [e, e2]
        refine ⟨by simp only []; omega, by simp only []; omega, fun _ => rfl, fun h => (nomatch h), fun _ _ h => (nomatch h), fun _ _ h => (nomatch h)⟩
      · have e : hexR (c :: L) k n = hexR L (k + 1) (16 * n + (digN c).toNat) := by rw [hexR, if_pos a1, if_neg a2]
        have e2 : numR (c :: L) k n = numR L (k + 1) (16 * n + (digN c).toNat) := by rw [numR, if_neg n59, if_neg (by omega)]
        rw [e, e2]
        exact qdc L (k + 1) _ (by omega) (by rw [Nat.pow_succ]; omega)
    · have e : hexR (c :: L) k n = (false, n, k, c :: L) := by rw [hexR, if_neg a1]
      rw [e]
      refine ⟨by simp only []; omega, by simp only []; omega, fun h => (nomatch h), fun _ h => (nomatch h), fun d R _ h h3 => ?_, fun d R _ h h3 => ?_⟩
      · injection h with ha hb
        subst ha; subst hb
        simp only [not_or, Decidable.not_not] at h3
        have hs : scalB n = true := by
          cases hx : scalB n
          · exact absurd hx h3.2.2
          · rfl
        rw [numR, if_pos ⟨h3.2.1, by have := h3.1; omega, hs⟩]
      · injection h with ha hb
        subst ha; subst hb
        have hx : ¬ (c = 59 ∧ 0 < k ∧ scalB n = true) := fun g => by
          rcases h3 with h3 | h3 | h3
          · have := g.2.1
            simp only [] at h3
            omega
          · exact h3 g.1
          · simp only [] at h3
            rw [g.2.2] at h3
            cases h3
        rw [numR, if_neg hx, if_pos (.inl (by omega))]
noncomputable abbrev TRe : List (FuncId × Pol) := [(57, pRhex), (58, pVr)]
def hexOut (s p : AV) (N : Nat) (h : Bool × Nat × Nat × List Nat) : Live :=
  bif h.1 then ⟨[s, .int .i64 ((N - h.2.2.2.length : Nat) : Int), .int .i32 0, .int .i64 ((N - h.2.2.2.length : Nat) : Int), .int .i64 4, .int .i64 (h.2.1 : Int), .int .i64 (h.2.2.1 : Int)], []⟩
  else ⟨[s, .int .i64 ((N - h.2.2.2.length : Nat) : Int), .undef, .undef, .undef, .int .i64 (h.2.1 : Int), .int .i64 (h.2.2.1 : Int)], []⟩
theorem qde {L : List Nat} {id : Nat} {H : Heap} (hR : RR H id L) : ∀ (M : List Nat) (p k n : Nat), L.drop p = M → p ≤ L.length → k ≤ 6 → n < 16 ^ k →
    LDoes (qfd (polT TRe)) ⟨[.sl id 0 0 L.length L.length, .int .i64 (p : Int), .int .i64 (n : Int), .int .i64 (k : Int)], []⟩ H (bif (hexR M k n).1 then 1 else 0) (hexOut (.sl id 0 0 L.length L.length) .undef L.length (hexR M k n)) H
  | [], p, k, n, hM, hp, hk, hn => by
    have hpe : p = L.length := by
      have := congrArg List.length hM
      simp at this
      omega
    have hln := hR.ln
    have z : ¬ (p : Int) < (L.length : Int) := by omega
    have e : L.length - 0 = L.length := by omega
    have e2 : hexR [] k n = (false, n, k, []) := rfl
    rw [e2]
    simp only [hexOut, List.length_nil, e, cond_false]
    rw [hpe] at z ⊢
    refine LDoes.step (Evs.of fun g g2 => ?_)
    simp [↓q00, ↓q01, ↓q03, ↓q02, q40, hln, A.asG, guardB, A.pick]
  | c :: M, p, k, n, hM, hp, hk, hn => by
    have h1 : 16 ^ k ≤ 16 ^ 6 := Nat.pow_le_pow_right (by omega) hk
    have h2 : (16 : Nat) ^ 6 = 16777216 := by decide
    have hlt : p < L.length := by
      rcases Nat.lt_or_ge p L.length with h | h
      · exact h
      · rw [List.drop_of_length_le h] at hM
        cases hM
    rw [List.drop_eq_getElem_cons hlt] at hM
    injection hM with hc hM
    obtain ⟨x1, x2, x3⟩ := hR.idx hlt
    rw [hc] at x2 x3
    have hd := qbz c
    have hln := hR.ln
    have hlen := hR.len
    have kd : ∀ (R : Type) (H : Heap) (k : AV → Heap → Option R), polK pRhex [.int .i32 (c : Int)] H k = k (.int .i64 (digN c)) H := fun R H k => kRhex x3
    have z : (p : Int) < (L.length : Int) := by omega
    have hML : L.length - (M.length + 1) = p := by
      have := congrArg List.length hM
      rw [List.length_drop] at this
      omega
    by_cases a1 : 0 ≤ digN c
    · have w1 : IntKind.wrap .i64 (16 * (n : Int)) = ((16 * n : Nat) : Int) := by rw [q0k (by omega) (by omega)]; omega
      have w2 : IntKind.wrap .i64 (((16 * n : Nat) : Int) + digN c) = ((16 * n + (digN c).toNat : Nat) : Int) := by rw [q0k (by omega) (by omega)]; omega
      have w3 : IntKind.wrap .i64 ((k : Int) + 1) = ((k + 1 : Nat) : Int) := by rw [q0k (by omega) (by omega)]; omega
      by_cases a2 : 6 ≤ k
      · have e : hexR (c :: M) k n = (true, 16 * n + (digN c).toNat, k + 1, c :: M) := by rw [hexR, if_pos a1, if_pos a2]
        rw [e]
        simp only [hexOut, List.length_cons, hML, cond_true]
        have z2 : (6 : Int) < ((k + 1 : Nat) : Int) := by omega
        refine LDoes.step (Evs.of fun g g2 => ?_)
        generalize ((16 * n + (digN c).toNat : Nat) : Int) = N2 at *
        generalize ((16 * n : Nat) : Int) = N1 at *
        generalize ((k + 1 : Nat) : Int) = K1 at *
        generalize (n : Int) = NN at *
        generalize (k : Int) = K at *
        generalize (p : Int) = P at *
        generalize (L.length : Int) = LL at *
        simp [↓q00, ↓q01, q40, hln, z, x1, x2, kd, a1, w1, w2, w3, z2, A.asG, guardB, A.pick]
      · have e : hexR (c :: M) k n = hexR M (k + 1) (16 * n + (digN c).toNat) := by rw [hexR, if_pos a1, if_neg a2]
        rw [e]
        have z2 : ¬ (6 : Int) < ((k + 1 : Nat) : Int) := by omega
        have w4 : IntKind.wrap .i64 ((p : Int) + 1) = ((p + 1 : Nat) : Int) := by rw [q0k (by omega) (by omega)]; omega
        have hL := qde hR M (p + 1) (k + 1) (16 * n + (digN c).toNat) hM (by omega) (by omega) (by rw [Nat.pow_succ]; omega)
        refine LDoes.step (Evs.withL hL (Evs.of fun g g2 _ h3 => ?_))
        generalize hexR M (k + 1) (16 * n + (digN c).toNat) = Q at *
        generalize ((16 * n + (digN c).toNat : Nat) : Int) = N2 at *
        generalize ((16 * n : Nat) : Int) = N1 at *
        generalize ((k + 1 : Nat) : Int) = K1 at *
        generalize (n : Int) = NN at *
        generalize (k : Int) = K at *
        generalize ((p + 1 : Nat) : Int) = P1 at *
        generalize (p : Int) = P at *
        generalize hLL : (L.length : Int) = LL at *
        simp [↓q00, ↓q01, q40, hln, z, x1, x2, kd, a1, w1, w2, w3, w4, z2, A.asG, guardB, A.pick, h3]
    · have e : hexR (c :: M) k n = (false, n, k, c :: M) := by rw [hexR, if_neg a1]
      rw [e]
      simp only [hexOut, List.length_cons, hML, cond_false]
      refine LDoes.step (Evs.of fun g g2 => ?_)
      generalize (n : Int) = NN at *
      generalize (k : Int) = K at *
      generalize (p : Int) = P at *
      generalize (L.length : Int) = LL at *
      simp [↓q00, ↓q01, q40, hln, z, x1, x2, kd, a1, A.asG, guardB, A.pick]
end Go.Proofs.YtdkjednjlpcboaaDoor

/- Texts, by the reference: an escaped sign, and a plain name. -/
set_option maxRecDepth 100000
set_option maxHeartbeats 8000000
namespace Go.Proofs.YtdkjednjlpcboaaDoor
open Go Go.Den Go.Lib
/-! ### what is left is the end of what was there -/
theorem qdq : ∀ (L : List Nat) (i n : Nat), (numR L i n).2.2 <:+ L
  | [], _, _ => List.suffix_refl _
  | c :: L, i, n => by
    unfold numR
    split
    · exact List.suffix_cons c L
    split
    · exact List.suffix_cons c L
    · exact (qdq L _ _).trans (List.suffix_cons c L)
theorem qdd : ∀ (L : List Nat) (k n : Nat), (hexR L k n).2.2.2 <:+ L
  | [], _, _ => List.suffix_refl _
  | c :: L, k, n => by
    unfold hexR
    split
    · split
      · exact List.suffix_refl _
      · exact (qdd L _ _).trans (List.suffix_cons c L)
    · exact List.suffix_refl _
theorem qi4 (L : List Nat) : (escU L).2.2 <:+ L := by
  cases L with
  | nil => exact List.suffix_refl _
  | cons c L =>
    rw [escU]
    split
    · exact List.suffix_cons c L
    split
    · exact List.suffix_cons c L
    split
    · exact (qdq L 0 0).trans (List.suffix_cons c L)
    · exact List.suffix_cons c L
theorem qit (c : Nat) (L : List Nat) : (sgnU c L).2.2 <:+ L := by
  unfold sgnU
  split
  · exact qi4 L
  split <;> exact List.suffix_refl _
theorem suf_at {L M R : List Nat} {p : Nat} (hM : L.drop p = M) (hp : p ≤ L.length) (h : R <:+ M) : L.drop (L.length - R.length) = R ∧ L.length - R.length ≤ L.length ∧ p ≤ L.length - R.length := by
  have h2 : R <:+ L := h.trans (by rw [← hM]; exact List.drop_suffix _ _)
  have hl := h.length_le
  have := congrArg List.length hM
  rw [List.length_drop] at this
  exact ⟨(List.suffix_iff_eq_drop.1 h2).symm, by omega, by omega⟩
theorem q9h {L M : List Nat} {p c : Nat} (hM : L.drop p = c :: M) : ∃ h : p < L.length, L[p] = c ∧ L.drop (p + 1) = M := by
  have hlt : p < L.length := by
    rcases Nat.lt_or_ge p L.length with h | h
    · exact h
    · rw [List.drop_of_length_le h] at hM
      cases hM
  rw [List.drop_eq_getElem_cons hlt] at hM
  injection hM with hc hM
  exact ⟨hlt, hc, hM⟩
noncomputable def pResc : Pol := .prim (runF base TRe 42)
theorem okResc : PolOK base 42 pResc := q3n base_ok TRe ⟨okRhex, okVr, trivial⟩
theorem qiq {H : Heap} {id : Nat} {L : List Nat} (hR : RR H id L) {p : Nat} (hp : p ≤ L.length) {M : List Nat} (hM : L.drop p = M) : ∃ r a : Int, ((escU M).2.1 = 0 → r = ((escU M).1 : Int) ∧ a = ((L.length - (escU M).2.2.length : Nat) : Int)) ∧
    runF base TRe 42 [.sl id 0 0 L.length L.length, .int .i64 (p : Int)] H = some (.tup [.int .i32 r, .int .i64 a, .int .i64 ((escU M).2.1 : Int)], H) := by
  have hln := hR.ln
  have hlen := hR.len
  cases M with
  | nil =>
    have hpe : p = L.length := by
      have := congrArg List.length hM
      simp at this
      omega
    refine ⟨0, (p : Int), fun h => by simp [escU] at h, q0p (Evs.of fun g g2 => ?_)⟩
    rw [hpe]
    generalize hLL : (L.length : Int) = LL at *
    simp [↓q00, ↓q01, S42, hln, escU]
  | cons c M =>
    obtain ⟨hlt, hc, hM2⟩ := q9h hM
    obtain ⟨x1, x2, x3⟩ := hR.idx hlt
    rw [hc] at x2 x3
    have z : ¬ (L.length : Int) ≤ (p : Int) := by omega
    have w1 : IntKind.wrap .i64 ((p : Int) + 1) = ((p + 1 : Nat) : Int) := by rw [q0k (by omega) (by omega)]; omega
    have hML : L.length - M.length = p + 1 := by
      have := congrArg List.length hM2
      rw [List.length_drop] at this
      omega
    by_cases h1 : c = 39 ∨ c = 92
    · have he : escU (c :: M) = (c, 0, M) := by rw [escU, if_pos h1]
      rw [he]
      refine ⟨(c : Int), ((p + 1 : Nat) : Int), fun _ => ⟨rfl, by simp only [hML]⟩, q0p (Evs.of fun g g2 => ?_)⟩
      generalize ((p + 1 : Nat) : Int) = P1 at *
      generalize (p : Int) = P at *
      generalize hLL : (L.length : Int) = LL at *
      rcases h1 with h1 | h1
      · have z2 : (c : Int) = 39 := by omega
        rw [z2] at x2 ⊢
        simp [↓q00, ↓q04, ↓q01, ↓q05, S42, hln, z, x1, x2, w1]
      · have z2 : (c : Int) = 92 := by omega
        rw [z2] at x2 ⊢
        simp [↓q00, ↓q04, ↓q01, ↓q05, S42, hln, z, x1, x2, w1]
    have n39 : ¬ (c : Int) = 39 := by omega
    have n92 : ¬ (c : Int) = 92 := by omega
    by_cases h2 : c = 110
    · have he : escU (c :: M) = (10, 0, M) := by rw [escU, if_neg h1, if_pos h2]
      rw [he]
      refine ⟨10, ((p + 1 : Nat) : Int), fun _ => ⟨rfl, by simp only [hML]⟩, q0p (Evs.of fun g g2 => ?_)⟩
      have z2 : (c : Int) = 110 := by omega
      rw [z2] at x2
      generalize ((p + 1 : Nat) : Int) = P1 at *
      generalize (p : Int) = P at *
      generalize hLL : (L.length : Int) = LL at *
      simp [↓q00, ↓q04, ↓q01, ↓q05, S42, hln, z, x1, x2, w1]
    have n110 : ¬ (c : Int) = 110 := by omega
    by_cases h3 : c = 120
    · have he : escU (c :: M) = numR M 0 0 := by rw [escU, if_neg h1, if_neg h2, if_pos h3]
      rw [he]
      have z2 : (c : Int) = 120 := by omega
      rw [z2] at x2
      have hL := qde hR M (p + 1) 0 0 hM2 (by omega) (by omega) (by decide)
      obtain ⟨b1, b2, q1, q2, q3, q4⟩ := qdc M 0 0 (by omega) (by decide)
      have hsf := suf_at hM2 (by omega) (qdd M 0 0)
      have z0 : ((0 : Nat) : Int) = 0 := rfl
      rw [z0] at hL
      cases hb : (hexR M 0 0).1
      · have hL' : LDoes (qfd (polT TRe)) ⟨[.sl id 0 0 L.length L.length, .int .i64 ((p + 1 : Nat) : Int), .int .i64 0, .int .i64 0], []⟩ H 0 ⟨[.sl id 0 0 L.length L.length, .int .i64 ((L.length - (hexR M 0 0).2.2.2.length : Nat) : Int), .undef, .undef, .undef, .int .i64 ((hexR M 0 0).2.1 : Int), .int .i64 ((hexR M 0 0).2.2.1 : Int)], []⟩ H := by
          have := hL
          rw [hb] at this
          simp only [hexOut, hb, cond_false] at this
          exact this
        clear hL
        generalize hq : (L.length - (hexR M 0 0).2.2.2.length : Nat) = q at *
        have w2 : IntKind.wrap .i32 ((hexR M 0 0).2.1 : Int) = ((hexR M 0 0).2.1 : Int) := qe7 (by omega) (by omega)
        cases hr : (hexR M 0 0).2.2.2 with
        | nil =>
          have e2 := q2 hb hr
          have hqe : q = L.length := by
            rw [hr] at hsf
            have := congrArg List.length hsf.1
            simp at this
            omega
          have z5 : (L.length : Int) ≤ (q : Int) := by omega
          rw [e2]
          refine ⟨0, (q : Int), fun h => by simp at h, q0p (Evs.withL hL' (Evs.of fun g g2 h9 _ => ?_))⟩
          generalize ((hexR M 0 0).2.1 : Int) = NN at *
          generalize ((hexR M 0 0).2.2.1 : Int) = KK at *
          generalize ((p + 1 : Nat) : Int) = P1 at *
          generalize (p : Int) = P at *
          generalize (q : Int) = QQ at *
          generalize hLL : (L.length : Int) = LL at *
          simp [↓q00, ↓q01, S42, hln, z, x1, x2, w1, h9, z5]
        | cons d T =>
          rw [hr] at hsf
          obtain ⟨hlt2, hc2, hM3⟩ := q9h hsf.1
          obtain ⟨y1, y2, y3⟩ := hR.idx hlt2
          rw [hc2] at y2
          have z5 : ¬ (L.length : Int) ≤ (q : Int) := by omega
          have w3 : IntKind.wrap .i64 ((q : Int) + 1) = ((q + 1 : Nat) : Int) := by rw [q0k (by omega) (by omega)]; omega
          have kv : ∀ (R : Type) (H : Heap) (k : AV → Heap → Option R), polK pVr [.int .i32 ((hexR M 0 0).2.1 : Int)] H k = k (.bool (scalB (hexR M 0 0).2.1)) H := fun R H k => kVr
          have hTL : L.length - T.length = q + 1 := by
            have := congrArg List.length hM3
            rw [List.length_drop] at this
            omega
          by_cases hx : (hexR M 0 0).2.2.1 = 0 ∨ d ≠ 59 ∨ scalB (hexR M 0 0).2.1 = false
          · have e2 := q4 d T hb hr hx
            rw [e2]
            refine ⟨0, (q : Int), fun h => by simp at h, q0p (Evs.withL hL' (Evs.of fun g g2 h9 _ => ?_))⟩
            have hx2 : ((hexR M 0 0).2.2.1 : Int) = 0 ∨ ¬ (d : Int) = 59 ∨ scalB (hexR M 0 0).2.1 = false := hx.elim (fun h => .inl (by omega)) fun h => h.elim (fun h => .inr (.inl (by omega))) fun h => .inr (.inr h)
            generalize scalB (hexR M 0 0).2.1 = SB at *
            generalize ((hexR M 0 0).2.1 : Int) = NN at *
            generalize ((hexR M 0 0).2.2.1 : Int) = KK at *
            generalize ((p + 1 : Nat) : Int) = P1 at *
            generalize (p : Int) = P at *
            generalize ((q + 1 : Nat) : Int) = Q1 at *
            generalize (q : Int) = QQ at *
            generalize hLL : (L.length : Int) = LL at *
            generalize (d : Int) = D at *
            by_cases g1 : KK = 0
            · simp [↓q00, ↓q01, S42, hln, z, x1, x2, w1, h9, z5, g1, A.asG, guardB, A.pick]
            · by_cases g2 : D = 59
              · have g3 : SB = false := by
                  rcases hx2 with h | h | h
                  · exact absurd h g1
                  · exact absurd g2 h
                  · exact h
                rw [g2] at y2
                rw [g3] at kv
                simp [↓q00, ↓q01, S42, hln, z, x1, x2, w1, h9, z5, g1, y1, y2, qj9, w2, kv, A.asG, guardB, A.pick]
              · simp [↓q00, ↓q01, S42, hln, z, x1, x2, w1, h9, z5, g1, y1, y2, g2, A.asG, guardB, A.pick]
          · have e2 := q3 d T hb hr hx
            rw [e2]
            refine ⟨((hexR M 0 0).2.1 : Int), ((q + 1 : Nat) : Int), fun _ => ⟨rfl, by simp only [hTL]⟩, q0p (Evs.withL hL' (Evs.of fun g g2 h9 _ => ?_))⟩
            simp only [not_or, Decidable.not_not] at hx
            have g1 : ¬ ((hexR M 0 0).2.2.1 : Int) = 0 := by have := hx.1; omega
            have g2 : (d : Int) = 59 := by have := hx.2.1; omega
            have g3 : scalB (hexR M 0 0).2.1 = true := by
              cases hy : scalB (hexR M 0 0).2.1
              · exact absurd hy hx.2.2
              · rfl
            rw [g2] at y2
            rw [g3] at kv
            generalize ((hexR M 0 0).2.1 : Int) = NN at *
            generalize ((hexR M 0 0).2.2.1 : Int) = KK at *
            generalize ((p + 1 : Nat) : Int) = P1 at *
            generalize (p : Int) = P at *
            generalize ((q + 1 : Nat) : Int) = Q1 at *
            generalize (q : Int) = QQ at *
            generalize hLL : (L.length : Int) = LL at *
            simp [↓q00, ↓q01, S42, hln, z, x1, x2, w1, h9, z5, g1, y1, y2, qj9, w2, kv, w3, A.asG, guardB, A.pick]
      · have e2 := q1 hb
        rw [e2]
        rw [hb] at hL
        simp only [hexOut, hb, cond_true] at hL
        refine ⟨0, ((L.length - (hexR M 0 0).2.2.2.length : Nat) : Int), fun h => by simp at h, q0p (Evs.withL hL (Evs.of fun g g2 h9 _ => ?_))⟩
        generalize ((L.length - (hexR M 0 0).2.2.2.length : Nat) : Int) = QQ at *
        generalize ((hexR M 0 0).2.1 : Int) = NN at *
        generalize ((hexR M 0 0).2.2.1 : Int) = KK at *
        generalize ((p + 1 : Nat) : Int) = P1 at *
        generalize (p : Int) = P at *
        generalize hLL : (L.length : Int) = LL at *
        simp [↓q00, ↓q01, S42, hln, z, x1, x2, w1, h9, A.asG, guardB, A.pick]
    · have n120 : ¬ (c : Int) = 120 := by omega
      have he : escU (c :: M) = (0, 4, M) := by rw [escU, if_neg h1, if_neg h2, if_neg h3]
      rw [he]
      refine ⟨0, (p : Int), fun h => by simp at h, q0p (Evs.of fun g g2 => ?_)⟩
      generalize (p : Int) = P at *
      generalize hLL : (L.length : Int) = LL at *
      simp [↓q00, ↓q04, ↓q01, ↓q05, S42, hln, z, x1, x2, n39, n92, n110, n120]
theorem kResc {H : Heap} {id : Nat} {L : List Nat} (hR : RR H id L) {p : Nat} (hp : p ≤ L.length) {M : List Nat} (hM : L.drop p = M) : ∃ r a : Int, ((escU M).2.1 = 0 → r = ((escU M).1 : Int) ∧ a = ((L.length - (escU M).2.2.length : Nat) : Int)) ∧
    ∀ (R : Type) (k : AV → Heap → Option R), polK pResc [.sl id 0 0 L.length L.length, .int .i64 (p : Int)] H k = k (.tup [.int .i32 r, .int .i64 a, .int .i64 ((escU M).2.1 : Int)]) H := by
  obtain ⟨r, a, h1, h2⟩ := qiq hR hp hM
  exact ⟨r, a, h1, fun R k => q2v h2⟩
end Go.Proofs.YtdkjednjlpcboaaDoor
