/- Texts put together: Q14, AwakeR, LwR, LwJ, Rcn, Q15, LwT. -/
import Derived.Test.YtdkjednjlpcboaaDoorMh
import Derived.Test.YtdkjednjlpcboaaDoorRows

/- Texts, by the reference: a name is read. -/
set_option maxRecDepth 100000
set_option maxHeartbeats 8000000
namespace Go.Proofs.YtdkjednjlpcboaaDoor
open Go Go.Den Go.Lib
/-! ### a plain name, sign by sign -/
def plR : Bool → List Nat → Nat
  | _, [] => 0
  | f, c :: L => if sgnOk f (c : Int) = true then 1 + plR false L else 0
theorem qbj {f : Bool} {z : Int} (h : sgnOk f z = true) : z < 128 := by
  unfold sgnOk at h
  cases f
  · exact q2i h
  · exact q2i (q5w h)
theorem pl_rs : ∀ (N : Nat) (s : List UInt8) (f : Bool), s.length ≤ N → plR f (rs s) = plB f s := by
  intro N
  induction N with
  | zero =>
    intro s f h
    have : s = [] := List.eq_nil_of_length_eq_zero (by omega)
    subst this
    cases f <;> rfl
  | succ N ih =>
    intro s f h
    cases s with
    | nil => cases f <;> rfl
    | cons b t =>
      rw [q1o (by simp)]
      have hpl : plB f (b :: t) = if sgnOk f (b.toNat : Int) = true then 1 + plB false t else 0 := rfl
      rw [hpl, plR]
      rcases Nat.lt_or_ge b.toNat 128 with hb | hb
      · rw [q28 hb]
        simp only [List.drop_succ_cons, List.drop_zero]
        rw [ih t false (by simp only [List.length_cons] at h; omega)]
      · have h1 := q9g (r := t) hb
        rw [if_neg (fun h => by have := qbj h; omega), if_neg (fun h => by have := qbj h; omega)]
noncomputable abbrev TRu : List (FuncId × Pol) := [(10, q1w), (41, pRpl), (42, pResc)]
theorem qe0 {L : List Nat} {id : Nat} {H : Heap} {s : List UInt8} (hR : RR H id L) : ∀ (M : List Nat) (p : Nat), L.drop p = M → p ≤ L.length → p ≤ 255 →
    (p + plR (decide (p = 0)) M ≤ 255 → LDoes (qfb (polT TRu)) ⟨[.str s, .sl id 0 0 L.length L.length, .int .i64 (p : Int)], []⟩ H 0 ⟨[.str s, .undef, .undef, .undef, .int .i64 ((p + plR (decide (p = 0)) M : Nat) : Int)], []⟩ H) ∧
    (255 < p + plR (decide (p = 0)) M → LDoes (qfb (polT TRu)) ⟨[.str s, .sl id 0 0 L.length L.length, .int .i64 (p : Int)], []⟩ H 1 ⟨[.str s, .str [], .int .i64 0, .int .i64 3, .int .i64 255], []⟩ H)
  | [], p, hM, hp, h255 => by
    have hpe : p = L.length := by
      have := congrArg List.length hM
      simp at this
      omega
    have hln := hR.ln
    have e : plR (decide (p = 0)) [] = 0 := rfl
    rw [e]
    refine ⟨fun _ => ?_, fun h => by omega⟩
    rw [Nat.add_zero, hpe]
    refine LDoes.step (Evs.of fun g g2 => ?_)
    generalize hLL : (L.length : Int) = LL at *
    simp [↓q00, ↓q01, ↓q03, ↓q02, q2x, hln, A.asG, guardB, A.pick]
  | c :: M, p, hM, hp, h255 => by
    obtain ⟨hlt, hc, hM2⟩ := q9h hM
    obtain ⟨x1, x2, x3⟩ := hR.idx hlt
    rw [hc] at x2 x3
    have hln := hR.ln
    have z : (p : Int) < (L.length : Int) := by omega
    have hde : decide ((p : Int) = 0) = decide (p = 0) := by simp only [decide_eq_decide]; omega
    have kp : ∀ (R : Type) (H : Heap) (k : AV → Heap → Option R), polK pRpl [.int .i32 (c : Int), .bool (decide ((p : Int) = 0))] H k = k (.bool (sgnOk (decide (p = 0)) (c : Int))) H := fun R H k => by rw [hde]; exact kRpl
    rw [plR]
    cases hs : sgnOk (decide (p = 0)) (c : Int)
    · rw [if_neg (by simp), Nat.add_zero]
      rw [hs] at kp
      refine ⟨fun _ => LDoes.step (Evs.of fun g g2 => ?_), fun h => by omega⟩
      generalize (p : Int) = P at *
      generalize hLL : (L.length : Int) = LL at *
      simp [↓q00, ↓q01, ↓q03, ↓q02, q2x, hln, z, x1, x2, kp, A.asG, guardB, A.pick]
    · rw [if_pos rfl]
      rw [hs] at kp
      have w1 : IntKind.wrap .i64 ((p : Int) + 1) = ((p + 1 : Nat) : Int) := by rw [q0k (by omega) (by omega)]; omega
      by_cases h5 : p = 255
      · refine ⟨fun h => by omega, fun _ => ?_⟩
        have z5 : (255 : Int) ≤ (p : Int) := by omega
        have e5 : (p : Int) = 255 := by omega
        refine LDoes.step (Evs.of fun g g2 => ?_)
        generalize (p : Int) = P at *
        generalize hLL : (L.length : Int) = LL at *
        simp [↓q00, ↓q01, ↓q03, ↓q02, q2x, hln, z, x1, x2, kp, z5, A.asG, guardB, A.pick]
        exact e5
      · have z5 : ¬ (255 : Int) ≤ (p : Int) := by omega
        obtain ⟨i1, i2⟩ := qe0 (s := s) hR M (p + 1) hM2 (by omega) (by omega)
        have hz1 : decide (p + 1 = 0) = false := by simp
        rw [hz1] at i1 i2
        have e1 : p + (1 + plR false M) = p + 1 + plR false M := by omega
        rw [e1]
        refine ⟨fun h => LDoes.step (Evs.withL (i1 h) (Evs.of fun g g2 _ h9 => ?_)), fun h => LDoes.step (Evs.withL (i2 h) (Evs.of fun g g2 _ h9 => ?_))⟩
        · generalize ((p + 1 + plR false M : Nat) : Int) = PP at *
          generalize ((p + 1 : Nat) : Int) = P1 at *
          generalize (p : Int) = P at *
          generalize hLL : (L.length : Int) = LL at *
          simp [↓q00, ↓q01, ↓q03, ↓q02, q2x, hln, z, x1, x2, kp, z5, w1, A.asG, guardB, A.pick, h9]
        · generalize ((p + 1 : Nat) : Int) = P1 at *
          generalize (p : Int) = P at *
          generalize hLL : (L.length : Int) = LL at *
          simp [↓q00, ↓q01, ↓q03, ↓q02, q2x, hln, z, x1, x2, kp, z5, w1, A.asG, guardB, A.pick, h9]
/-! ### a name between quotes -/
def OutN (id : Nat) (H : Heap) (v : AV) (l : List Nat) : Prop :=
  (l = [] ∧ v = .nils) ∨ ∃ i2 ver, l ≠ [] ∧ i2 ≠ id ∧ v = .sl i2 ver 0 l.length l.length ∧ H[i2]? = some (.row ver 1 21 (l.map er))
theorem OutN.out {id : Nat} {H : Heap} {v : AV} {l : List Nat} (h : OutN id H v l) : Out er 1 21 H v l := by
  rcases h with h | ⟨i2, ver, h0, -, h1, h2⟩
  · exact .inl h
  · exact .inr ⟨i2, ver, h0, h1, h2⟩
theorem qgx {id : Nat} {L : List Nat} {l : List Nat} {H : Heap} {v : AV} (h : OutN id H v l) (hR : RR H id L) (x : Nat) (hm : l.length ≤ 100000000) :
    ∃ (v' : AV) (H' : Heap), A.append 1 4 21 v [er x] (H ++ [.row 0 1 21 [er x]]) = some (v', H') ∧ OutN id H' v' (l ++ [x]) ∧ RR H' id L := by
  have hid : id < H.length := (List.getElem?_eq_some_iff.1 hR.row).1
  rcases h with ⟨rfl, rfl⟩ | ⟨i2, ver, h0, hi2, rfl, h2⟩
  · refine ⟨_, _, nil_append (news := [er x]) (by simp) (by omega) (by simp), .inr ⟨_, 0, by simp, by simp; omega, by simp, q0y⟩, ⟨?_, hR.len, hR.ok⟩⟩
    rw [List.getElem?_append_left (by simp; omega), List.getElem?_append_left hid]
    exact hR.row
  · have h3 := q3w h2 [HObj.row 0 1 21 [er x]]
    refine ⟨_, _, q2j (news := [er x]) h3 (by simp) (by simp) (by omega) (by simp; omega), .inr ⟨i2, ver + 1, by simp, hi2, by simp, ?_⟩, ⟨?_, hR.len, hR.ok⟩⟩
    · rw [q4p h3]
      simp
    · rw [List.getElem?_set_ne hi2, List.getElem?_append_left hid]
      exact hR.row
def quoEnd (id : Nat) (L : List Nat) (q : List Nat × Nat × List Nat) (i : Nat) (l : Live) (H : Heap) : Prop :=
  (q.2.1 = 0 ∧ i = 0 ∧ ∃ (v : AV) (a : Nat), l = ⟨[.undef, .undef, .undef, .sl id 0 0 L.length L.length, v, .int .i64 (a : Int)], []⟩ ∧ a < L.length ∧ L.drop (a + 1) = q.2.2 ∧ OutN id H v q.1) ∨
  (q.2.1 = 2 ∧ i = 0 ∧ ∃ v : AV, l = ⟨[.undef, .undef, .undef, .sl id 0 0 L.length L.length, v, .int .i64 (L.length : Int)], []⟩) ∨
  (q.2.1 ≠ 0 ∧ i = 1 ∧ ∃ a b c : AV, l = ⟨[.str [], .int .i64 0, .int .i64 (q.2.1 : Int), a, b, c], []⟩)
theorem qir {L : List Nat} {id : Nat} : ∀ (N : Nat) (M out : List Nat) (p : Nat) (H : Heap) (v : AV), M.length < N → L.drop p = M → p ≤ L.length → RR H id L → OutN id H v out → out.length ≤ 255 →
    ∃ (H' : Heap) (i : Nat) (l : Live), LDoes (qea (polT TRu)) ⟨[.sl id 0 0 L.length L.length, v, .int .i64 (p : Int)], []⟩ H i l H' ∧ RR H' id L ∧ quoEnd id L (quoF N out M) i l H' := by
  intro N
  induction N with
  | zero => intro M out p H v hN; omega
  | succ N ih =>
    intro M out p H v hN hM hp hR hO hout
    have hln := hR.ln
    have hlen := hR.len
    cases M with
    | nil =>
      have hpe : p = L.length := by
        have := congrArg List.length hM
        simp at this
        omega
      refine ⟨H, 0, _, LDoes.step (Evs.of fun g g2 => ?_), hR, .inr (.inl ⟨rfl, rfl, v, rfl⟩)⟩
      rw [hpe]
      generalize hLL : (L.length : Int) = LL at *
      simp [↓q00, ↓q04, ↓q06, ↓q01, ↓q03, ↓q02, q2f, hln, A.asG, guardB, A.pick]
    | cons c M =>
      obtain ⟨hlt, hc, hM2⟩ := q9h hM
      obtain ⟨x1, x2, x3⟩ := hR.idx hlt
      rw [hc] at x2 x3
      have z : (p : Int) < (L.length : Int) := by omega
      by_cases h1 : c = 39
      · have he : quoF (N + 1) out (c :: M) = (out, 0, M) := by rw [quoF, if_pos h1]
        rw [he]
        refine ⟨H, 0, _, LDoes.step (Evs.of fun g g2 => ?_), hR, .inl ⟨rfl, rfl, v, p, rfl, hlt, hM2, hO⟩⟩
        have z2 : (c : Int) = 39 := by omega
        rw [z2] at x2
        generalize (p : Int) = P at *
        generalize hLL : (L.length : Int) = LL at *
        simp [↓q00, ↓q04, ↓q06, ↓q01, ↓q03, ↓q02, q2f, hln, z, x1, x2, A.asG, guardB, A.pick]
      have n39 : ¬ (c : Int) = 39 := by omega
      have w1 : IntKind.wrap .i64 ((p : Int) + 1) = ((p + 1 : Nat) : Int) := by rw [q0k (by omega) (by omega)]; omega
      -- the sign, whichever way it is written
      obtain ⟨r, a, hra, hrun⟩ : ∃ r a : Int, ((sgnU c M).2.1 = 0 → r = ((sgnU c M).1 : Int) ∧ a = ((L.length - (sgnU c M).2.2.length : Nat) : Int)) ∧ ∀ (n m : Nat) (res : Option (Nat × Live × Heap)),
          (altN 0 0 (bindV (.sl id 0 0 L.length L.length) fun t5 => bindV v fun t7 => bindV (.int .i64 a) fun t8 => bindV (.int .i32 r) fun t9 => bindV (.int .i64 ((sgnU c M).2.1 : Int)) fun t10 =>
            withV (A.bin base.P .eql 3 t10 (AV.int .i64 0) true H) fun t81 =>
            withB (A.asG true t81) fun b3 => withP (guardB b3 true (some (t7, H)) (some (.tup [], H))) fun t83 H12 =>
            withB (A.asG true t81) fun b4 => withP (guardB b4 true (withV (A.len t83 H12) fun t84 => some (t84, H12)) (some (.tup [], H12))) fun t84 H14 =>
            withB (A.asG true t81) fun b5 => withP (guardB b5 true (withV (A.bin base.P .geq 3 t84 (AV.int .i64 255) true H14) fun t85 => some (t85, H14)) (some (.tup [], H14))) fun t85 H15 =>
            withV (A.pick t81 t85 (AV.bool false)) fun t86 =>
            bindX (A.test t86 (some (0, ⟨[t5, t7, t8, t9, (AV.int .i64 3)], []⟩, H15)) (some (0, ⟨[t5, t7, t8, t9, t10], []⟩, H15))) fun i16 l16 H16 =>
            altN i16 0 (bindV (l16.vs.getD 0 .undef) fun t5 => bindV (l16.vs.getD 1 .undef) fun t7 => bindV (l16.vs.getD 2 .undef) fun t8 => bindV (l16.vs.getD 3 .undef) fun t9 => bindV (l16.vs.getD 4 .undef) fun t10 =>
              withV (A.bin base.P .neq 3 t10 (AV.int .i64 0) true H16) fun t88 =>
              A.test t88 (some (1, ⟨[(AV.str []), (AV.int .i64 0), t10, t5, t7, t8], []⟩, H16))
              (withL (A.fillElems 1 (List.replicate 1 (AV.int .i32 0)) [(0, 1, t9)]) fun es =>
              bindV (.sl H16.length 0 0 es.length es.length) fun t92 => bindH (H16 ++ [.row 0 1 21 es]) fun H17 =>
              withL (newsZ base 1 4 (AV.int .i32 0) 54 t92 H17) fun es =>
              withVH (A.append 1 4 21 t7 es H17) fun t93 H18 =>
              qea (polT TRu) n m ⟨[t5, t93, t8], []⟩ H18)) (none)) (none)) = res →
          qea (polT TRu) n (m + 1) ⟨[.sl id 0 0 L.length L.length, v, .int .i64 (p : Int)], []⟩ H = res := by
        by_cases h2 : c = 92
        · have hsg : sgnU c M = escU M := by unfold sgnU; rw [if_pos h2]
          rw [hsg]
          obtain ⟨r, a, hra, ke⟩ := kResc hR (p := p + 1) (by omega) hM2
          refine ⟨r, a, hra, fun n m res hr => ?_⟩
          rw [← hr]
          have z2 : (c : Int) = 92 := by omega
          rw [z2] at x2
          generalize ((escU M).2.1 : Int) = E at *
          generalize ((p + 1 : Nat) : Int) = P1 at *
          generalize (p : Int) = P at *
          generalize hLL : (L.length : Int) = LL at *
          simp [↓q00, ↓q04, ↓q06, ↓q01, ↓q03, ↓q02, ↓q05, q2f, hln, z, x1, x2, w1, ke, A.asG, guardB, A.pick]
        · have n92 : ¬ (c : Int) = 92 := by omega
          have hML : L.length - M.length = p + 1 := by
            have := congrArg List.length hM2
            rw [List.length_drop] at this
            omega
          by_cases h3 : c < 32 ∨ c = 127
          · have hsg : sgnU c M = (c, 4, M) := by
              unfold sgnU
              rw [if_neg h2, if_pos (by
                unfold lowZ
                simp only [Bool.or_eq_true, decide_eq_true_eq]
                omega)]
            rw [hsg]
            refine ⟨(c : Int), ((p + 1 : Nat) : Int), fun h => by simp at h, fun n m res hr => ?_⟩
            rw [← hr]
            have e4 : ((4 : Nat) : Int) = 4 := rfl
            simp only [e4]
            generalize ((p + 1 : Nat) : Int) = P1 at *
            generalize (p : Int) = P at *
            generalize hLL : (L.length : Int) = LL at *
            rcases h3 with h3 | h3
            · have z3 : (c : Int) < 32 := by omega
              simp [↓q00, ↓q04, ↓q06, ↓q01, ↓q03, ↓q02, ↓q05, q2f, hln, z, x1, x2, w1, n39, n92, z3, A.asG, guardB, A.pick]
            · have z3 : (c : Int) = 127 := by omega
              rw [z3] at x2 ⊢
              simp [↓q00, ↓q04, ↓q06, ↓q01, ↓q03, ↓q02, ↓q05, q2f, hln, z, x1, x2, w1, A.asG, guardB, A.pick]
          · have hsg : sgnU c M = (c, 0, M) := by
              unfold sgnU
              rw [if_neg h2, if_neg (by
                unfold lowZ
                simp only [Bool.or_eq_true, decide_eq_true_eq]
                omega)]
            rw [hsg]
            refine ⟨(c : Int), ((p + 1 : Nat) : Int), fun _ => ⟨rfl, by simp only [hML]⟩, fun n m res hr => ?_⟩
            rw [← hr]
            have z3 : ¬ (c : Int) < 32 := by omega
            have z4 : ¬ (c : Int) = 127 := by omega
            have e4 : ((0 : Nat) : Int) = 0 := rfl
            simp only [e4]
            generalize ((p + 1 : Nat) : Int) = P1 at *
            generalize (p : Int) = P at *
            generalize hLL : (L.length : Int) = LL at *
            simp [↓q00, ↓q04, ↓q06, ↓q01, ↓q03, ↓q02, ↓q05, q2f, hln, z, x1, x2, w1, n39, n92, z3, z4, A.asG, guardB, A.pick]
      have hlo := qdu hO.out
      by_cases h2 : (sgnU c M).2.1 ≠ 0
      · have he : quoF (N + 1) out (c :: M) = ([], (sgnU c M).2.1, (sgnU c M).2.2) := by rw [quoF, if_neg h1, if_pos h2]
        rw [he]
        refine ⟨H, 1, _, LDoes.step (Evs.of fun g g2 => hrun g g2 _ ?_), hR, .inr (.inr ⟨h2, rfl, .sl id 0 0 L.length L.length, v, .int .i64 a, rfl⟩)⟩
        have z2 : ¬ ((sgnU c M).2.1 : Int) = 0 := by omega
        simp only []
        generalize ((sgnU c M).2.1 : Int) = E at *
        simp [z2, A.asG, guardB, A.pick]
      have z2 : ((sgnU c M).2.1 : Int) = 0 := by omega
      obtain ⟨hr1, ha1⟩ := hra (by omega)
      rw [z2] at hrun
      by_cases h3 : 255 ≤ out.length
      · have he : quoF (N + 1) out (c :: M) = ([], 3, (sgnU c M).2.2) := by rw [quoF, if_neg h1, if_neg h2, if_pos h3]
        rw [he]
        refine ⟨H, 1, _, LDoes.step (Evs.of fun g g2 => hrun g g2 _ ?_), hR, .inr (.inr ⟨by simp, rfl, .sl id 0 0 L.length L.length, v, .int .i64 a, rfl⟩)⟩
        have z3 : (255 : Int) ≤ (out.length : Int) := by omega
        generalize (out.length : Int) = OL at *
        simp [hlo, z3, A.asG, guardB, A.pick]
      · have he : quoF (N + 1) out (c :: M) = quoF N (out ++ [(sgnU c M).1]) (sgnU c M).2.2 := by rw [quoF, if_neg h1, if_neg h2, if_neg h3]
        rw [he]
        obtain ⟨v', H', hap, hO', hR'⟩ := qgx hO hR (sgnU c M).1 (by omega)
        obtain ⟨s1, s2, s3⟩ := suf_at hM2 (by omega) (qit c M)
        have hsl := qe2 c M
        obtain ⟨H9, i9, l9, hL, hR9, hE⟩ := ih _ (out ++ [(sgnU c M).1]) (L.length - (sgnU c M).2.2.length) H' v' (by simp only [List.length_cons] at hN; omega) s1 s2 hR' hO' (by simp; omega)
        refine ⟨H9, i9, l9, LDoes.step (Evs.withL hL (Evs.of fun g g2 _ h9 => hrun g g2 _ ?_)), hR9, hE⟩
        have z3 : ¬ (255 : Int) ≤ (out.length : Int) := by omega
        have hfe : A.fillElems 1 [.int .i32 0] [(0, 1, .int .i32 ((sgnU c M).1 : Int))] = some [er (sgnU c M).1] := by simp [A.fillElems]
        have hrd : A.read 1 (.sl H.length 0 0 1 1) (H ++ [HObj.row 0 1 21 [er (sgnU c M).1]]) = some [er (sgnU c M).1] := q3i q0y rfl
        rw [hr1, ha1]
        clear hrun
        generalize (out.length : Int) = OL at *
        generalize ((L.length - (sgnU c M).2.2.length : Nat) : Int) = AA at *
        simp only [er] at hap hfe hrd
        generalize ((sgnU c M).1 : Int) = X at *
        simp [hlo, z3, hfe, q21 q17, hrd, hap, h9, A.asG, guardB, A.pick]
end Go.Proofs.YtdkjednjlpcboaaDoor

/- The seat's first question: by computation. -/
set_option maxRecDepth 100000
namespace Go.Proofs.YtdkjednjlpcboaaDoor.awaker
open Go Go.Den
def q4n : List FuncId := [9, 11, 12, 13, 17, 24, 25, 26, 27, 28, 29, 30, 31, 38, 44, 45, 46, 47, 48, 49, 60, 61, 62, 63, 64, 66, 67, 68, 69, 70, 72, 73]
noncomputable def env0 : Env := { P := Tryd.prog, pol := fun f => bif Nat.beq f 59 then .prim sameF else .plain, ann := fun _ => {}, glob := fun g => bif Nat.beq g 0 then flatD (H := Unit) Rows.laid_unicode_utf8_first else bif Nat.beq g 1 then flatD (H := Unit) Rows.laid_unicode_utf8_acceptRanges else bif Nat.beq g 2 then flatD (H := Unit) Rows.laid_internal_strconv_uint64pow10 else bif Nat.beq g 3 then flatD (H := Unit) Rows.laid_math_bits_deBruijn32tab else bif Nat.beq g 4 then flatD (H := Unit) Rows.laid_math_bits_deBruijn64tab else none }
def q3x : List (Nat × List (Nat × Nat × Nat)) := []
def q4v : List (Nat × List (Nat × Nat × Nat)) → Nat → List (Nat × Nat × Nat)
  | [], _ => []
  | (g, l) :: r, f => bif Nat.beq g f then l else q4v r f
def annsIn (f : Nat) : Ann :=  .nil
noncomputable def tab (f : FuncId) : FAnn :=
  match Tryd.prog.funcs[f]? with
  | some fn => { ann := annsIn f, depth := Nat.log2 fn.ntmps + 1, sites := q4v q3x f, draws := qgk env0 (q4v q3x f) fn }
  | none => {}
noncomputable def env : Env := { env0 with ann := fun f => if f ∈ q4n then tab f else {} }
theorem qfz : EnvOK env := envOK q4n (by kernel_rfl) (fun f hf => by show (if f ∈ q4n then tab f else {}).draws = []; rw [if_neg hf]) (by kernel_rfl)
theorem qa3 : ∀ f, env.pol f = .plain ∨ ∃ F, env.pol f = .prim F ∧ PrimOK env f F := fun f => by
  cases h59 : Nat.beq f 59
  case true =>
    obtain rfl := Nat.eq_of_beq_eq_true h59
    exact .inr ⟨sameF, rfl, qbg (fn := Tryd.f59) Tryd.func59 (by kernel_rfl) (by kernel_rfl) (by kernel_rfl) (by kernel_rfl)⟩
  case false =>
    refine .inl ?_
    show (bif Nat.beq f 59 then Pol.prim sameF else Pol.plain) = _
    simp only [h59, cond_false]
theorem calls_ok (n : Nat) : CallOK env (callF env n) := q6z qfz (by kernel_rfl) qa3 n
def qa4 : Option AV → Bool
  | some (.bool true) => true
  | _ => false
theorem qh9 {x : Option AV} (h : qa4 x = true) : x = some (.bool true) := by
  unfold qa4 at h
  split at h
  · rfl
  · cases h
theorem known : callF env 300 AV 9 [] [] (fun v G => A.freezeB true 64 G v) = some (.bool true) := qh9 (by kernel_rfl)
end Go.Proofs.YtdkjednjlpcboaaDoor.awaker
namespace Go.Proofs.YtdkjednjlpcboaaDoor
open Go Go.Den
noncomputable def q65 : Pol := .still (Cd.f0 (.bool true))
theorem qid : PolOK base 9 q65 := q7r (E := base) (E' := awaker.env) rfl rfl awaker.calls_ok fun xs v h => by
  unfold Cd.f0 at h
  split at h
  · cases h
    exact ⟨300, awaker.known⟩
  · cases h
theorem qg7 {R : Type} {H : Heap} {k : AV → Heap → Option R} : polK q65 [] H k = k (.bool true) H := by
  unfold q65
  rw [q0i (by simp)]
  rfl
end Go.Proofs.YtdkjednjlpcboaaDoor

/- The law on which of two texts is less, and on texts turned round: what its function answers. -/
set_option maxRecDepth 100000
set_option maxHeartbeats 8000000
namespace Go.Proofs.YtdkjednjlpcboaaDoor
open Go Go.Den Go.Lib
noncomputable abbrev TLo : List (FuncId × Pol) := [(9, q65), (14, pLess), (15, pRless), (12, q1n), (16, pRev), (17, pCount)]
end Go.Proofs.YtdkjednjlpcboaaDoor

/- The law on two texts, one behind the other: what its function answers. -/
set_option maxRecDepth 100000
set_option maxHeartbeats 8000000
namespace Go.Proofs.YtdkjednjlpcboaaDoor
open Go Go.Den Go.Lib
noncomputable abbrev TLj : List (FuncId × Pol) := [(9, q65), (10, q1w), (12, q1n), (17, pCount), (16, pRev), (14, pLess)]
end Go.Proofs.YtdkjednjlpcboaaDoor

/- How many signs a text has, by the reference. -/
set_option maxRecDepth 100000
set_option maxHeartbeats 8000000
namespace Go.Proofs.YtdkjednjlpcboaaDoor
open Go Go.Den Go.Lib
theorem qei {pol : FuncId → Pol} {l : List UInt8} {id : Nat} : ∀ (N pos : Nat) (c : Int) (H : Heap), l.length - pos ≤ N → H[id]? = some (.iter l pos) → 0 ≤ c → c + N ≤ 9223372036854775807 →
    ∃ H', LDoes (qho pol) ⟨[.int .i64 c, .it id], []⟩ H 0 ⟨[.int .i64 (c + (rs (l.drop pos)).length)], []⟩ H' := by
  intro N
  induction N with
  | zero =>
    intro pos c H hN hH h0 h1
    have hp : ¬ pos < l.length := by omega
    have hd : l.drop pos = [] := List.drop_of_length_le (by omega)
    rw [hd]
    refine ⟨H, LDoes.step (Evs.of fun n m => ?_)⟩
    simp [↓q00, ↓q01, q5n, nextK, hH, hp, q31]
  | succ N ih =>
    intro pos c H hN hH h0 h1
    by_cases hp : pos < l.length
    · have hne := q4h hp
      have hw := decodeL_width (l.drop pos)
      have hid : id < H.length := (List.getElem?_eq_some_iff.1 hH).1
      obtain ⟨H', hL⟩ := ih (pos + (decodeL (l.drop pos)).2) (c + 1) (H.set id (.iter l (pos + (decodeL (l.drop pos)).2))) (by omega) (List.getElem?_set_self hid) (by omega) (by omega)
      have hc : IntKind.wrap .i64 (c + 1) = c + 1 := q0k (by omega) (by omega)
      have e : c + ((rs (l.drop pos)).length : Int) = c + 1 + ((rs (l.drop (pos + (decodeL (l.drop pos)).2))).length : Int) := by
        rw [q1o hne, List.drop_drop, List.length_cons]
        omega
      rw [e]
      have hdd := q3a l pos
      generalize decodeL (l.drop pos) = d at *
      refine ⟨H', LDoes.step (Evs.withL hL (Evs.of fun n m _ h2 => ?_))⟩
      simp [↓q00, ↓q01, q5n, nextK, hH, hp, hdd, hc, h2]
    · have hd : l.drop pos = [] := List.drop_of_length_le (by omega)
      rw [hd]
      refine ⟨H, LDoes.step (Evs.of fun n m => ?_)⟩
      simp [↓q00, ↓q01, q5n, nextK, hH, hp, q31]
def notbig (s : List UInt8) : Prop := s.length ≤ 9223372036854775807
noncomputable def q7p : Pol := .still (p1 cS (.int .i64) notbig countR)
theorem qie : PolOK base 18 q7p := still1 base_ok [(10, q1w)] ⟨q59, trivial⟩ fun s hs => by
  unfold notbig at hs
  obtain ⟨H', hL⟩ := qei (pol := polT [(10, q1w)]) (l := s) (id := 0) s.length 0 0 [.iter s 0] (by omega) rfl (by omega) (by omega)
  refine Evs.withL hL (Evs.of fun n m h1 _ => ?_)
  simp only [Int.zero_add, List.drop_zero] at h1
  unfold countR
  generalize ((rs s).length : Int) = N at *
  cases h : validD s <;> simp [↓q00, ↓q04, ↓q01, ↓q05, S18, q1c, h, rangeK, h1]
theorem kRcount {R : Type} {s : List UInt8} (h : notbig s) {H : Heap} {k : AV → Heap → Option R} : polK q7p [.str s] H k = k (.int .i64 (countR s)) H := by
  simp [q7p, q0i, h]
end Go.Proofs.YtdkjednjlpcboaaDoor

/- Texts, by the reference: a name is read. The law on texts: what its function answers. -/
set_option maxRecDepth 100000
set_option maxHeartbeats 8000000
namespace Go.Proofs.YtdkjednjlpcboaaDoor
open Go Go.Den Go.Lib
theorem qfp {R : Type} {H : Heap} {id m : Nat} {L : List Nat} (hR : RR H id L) (hm : m ≤ L.length) {k : AV → Heap → Option R} : q09 base 54 9 (.sl id 0 0 m L.length) H k = k (.str ((L.take m).flatMap enc)) H := by
  have h1 : Go.Den.convert base 54 9 (.sl id 0 0 m L.length) = none := by
    unfold Go.Den.convert
    rw [q4d, q17]
  have hr : A.read 1 (.sl id 0 0 m L.length) H = some ((L.take m).map er) := by
    rw [qij hR.row (by simp; omega), List.drop_zero, List.map_take]
  have h2 : convH base 54 9 (.sl id 0 0 m L.length) H = some (.str ((L.take m).flatMap enc)) := by
    unfold convH
    rw [q4d, q17]
    dsimp only
    rw [qe5]
    dsimp only
    rw [hr]
    dsimp only
    rw [q46]
    rw [Option.map_some, q6p]
  unfold q09
  rw [h1, h2]
theorem rs_39 (t : List UInt8) : rs (39 :: t) = 39 :: rs t := by
  rw [q1o (by simp), q28 (show (39 : UInt8).toNat < 128 by decide)]
  rfl
theorem head_39 {s : List UInt8} {c : Nat} {M : List Nat} (h : rs s = c :: M) (hc : c = 39) : s.take 1 = [39] ∧ M = rs (s.drop 1) := by
  cases s with
  | nil => rw [q31] at h; cases h
  | cons b t =>
    have hb : b = 39 := by
      rw [q1o (by simp)] at h
      injection h with h1 h2
      rcases Nat.lt_or_ge b.toNat 128 with g | g
      · rw [q28 g] at h1
        exact UInt8.toNat_inj.1 (by
          have : (39 : UInt8).toNat = 39 := rfl
          rw [this]
          simp only [] at h1
          omega)
      · have := q9g (r := t) g
        omega
    subst hb
    rw [rs_39] at h
    injection h with _ h
    exact ⟨rfl, by rw [← h]; rfl⟩
theorem not_39 {s : List UInt8} (h : s.take 1 = [39]) : rs s = 39 :: rs (s.drop 1) := by
  cases s with
  | nil => cases h
  | cons b t =>
    have hb : b = 39 := by simpa using h
    subst hb
    exact rs_39 t
noncomputable def pRunq : Pol := .still (p1 cS (fun r : List UInt8 × Nat × Nat => .tup [.str r.1, .int .i64 (r.2.1 : Int), .int .i64 (r.2.2 : Int)]) q0l unqS)
theorem okRunq : PolOK base 20 pRunq := still1 base_ok TRu ⟨q59, okRpl, okResc, trivial⟩ fun s hs => by
  have hs' : s.length ≤ 1000000 := hs
  have frz : ∀ (x : List UInt8) (a b : Int) (H : Heap), A.freezeB true 64 H (.tup [.str x, .int .i64 a, .int .i64 b]) = some (.tup [.str x, .int .i64 a, .int .i64 b]) := fun _ _ _ _ => rfl
  unfold unqS
  cases hv : validD s
  · rw [if_neg (by simp)]
    exact Evs.of fun n m => by
      simp [↓q00, ↓q04, ↓q01, S20, q1c, hv, frz]
  rw [if_pos rfl]
  obtain ⟨vf, vs⟩ := q37 _ s (Nat.le_refl _) hv
  have hl := q8y _ s (Nat.le_refl _)
  have c1 : ∀ (R : Type) (k : AV → Heap → Option R), q09 base 9 54 (.str s) [] k = k (.sl 0 0 0 (rs s).length (rs s).length) [.row 0 1 21 ((rs s).map er)] := fun R k => q8i (H := []) hs'
  have hR : RR [.row 0 1 21 ((rs s).map er)] 0 (rs s) := ⟨rfl, by omega, fun c hc => by have := vs c hc; unfold scal at this; omega⟩
  have hln := hR.ln
  have hpl : plR true (rs s) = plN s := pl_rs s.length s true (Nat.le_refl _)
  have hple : plN s ≤ s.length := qh2 true s
  have hsl : A.sliceStr (.str s) none (some (.int .i64 (plN s : Int))) = some (.str (s.take (plN s))) := by
    simp [A.sliceStr, A.bound, hple]
  obtain ⟨i1, i2⟩ := qe0 (s := s) hR (rs s) 0 (List.drop_zero ..) (Nat.zero_le _) (by omega)
  have e0 : decide (0 = 0) = true := rfl
  rw [e0, hpl, Nat.zero_add] at i1 i2
  cases hL : rs s with
  | nil =>
    have hsn : s = [] := by
      cases s with
      | nil => rfl
      | cons b t => rw [q1o (by simp)] at hL; cases hL
    have h39 : ¬ s.take 1 = [39] := by rw [hsn]; simp
    have hp0 : plN s = 0 := by rw [hsn]; rfl
    rw [if_neg h39, if_pos hp0]
    have hN0 : ((rs s).length : Int) = 0 := by rw [hL]; rfl
    rw [hN0] at hln
    rw [hp0] at i1
    refine Evs.withL (i1 (by omega)) (Evs.of fun n m h1 _ => ?_)
    have z0 : ((0 : Nat) : Int) = 0 := rfl
    rw [z0] at h1
    simp [↓q00, ↓q04, ↓q01, ↓q03, ↓q02, ↓q05, S20, q1c, hv, c1, hln, h1, frz, A.asG, guardB, A.pick]
  | cons c M =>
    obtain ⟨x1, x2, -⟩ := hR.idx (p := 0) (by rw [hL]; simp)
    have hc0 : (rs s)[0]'(by rw [hL]; simp) = c := by simp [hL]
    rw [hc0] at x2
    have z0 : ((0 : Nat) : Int) = 0 := rfl
    rw [z0] at x1 i1 i2
    have hN0 : ¬ ((rs s).length : Int) = 0 := by rw [hL]; simp only [List.length_cons]; omega
    by_cases h39 : c = 39
    · obtain ⟨t1, t2⟩ := head_39 hL h39
      rw [if_pos t1]
      have hd1 : (rs s).drop 1 = rs (s.drop 1) := by rw [hL, ← t2]; rfl
      obtain ⟨H', i, l, hlo, hR', hE⟩ := qir ((rs (s.drop 1)).length + 1) (rs (s.drop 1)) [] 1 [.row 0 1 21 ((rs s).map er)] .nils (by omega) hd1 (by rw [hL]; simp) hR (.inl ⟨rfl, rfl⟩) (by simp)
      have z1 : ((1 : Nat) : Int) = 1 := rfl
      rw [z1] at hlo
      have hqu : quoF ((rs (s.drop 1)).length + 1) [] (rs (s.drop 1)) = quoU (rs (s.drop 1)) := rfl
      rw [hqu] at hE
      have zc : (c : Int) = 39 := by omega
      rw [zc] at x2
      have hln' := hR'.ln
      generalize quoU (rs (s.drop 1)) = q at *
      refine Evs.withL hlo (Evs.of fun n m h1 _ => ?_)
      rcases hE with ⟨a1, a2, v, a, a3, a4, a5, a6⟩ | ⟨a1, a2, v, a3⟩ | ⟨a1, a2, x, y, w, a3⟩
      · rw [if_pos a1]
        subst a2; subst a3
        have k1 : ∀ (R : Type) (k : AV → Heap → Option R), q09 base 54 9 v H' k = k (.str (q.1.flatMap enc)) H' := fun R k => q5c a6.out
        have k2 : ∀ (R : Type) (k : AV → Heap → Option R), q09 base 54 9 (.sl 0 0 0 (a + 1) (rs s).length) H' k = k (.str (((rs s).take (a + 1)).flatMap enc)) H' := fun R k => qfp hR' (by omega)
        have w1 : IntKind.wrap .i64 ((a : Int) + 1) = ((a + 1 : Nat) : Int) := by rw [q0k (by omega) (by omega)]; omega
        have k3 : A.slice 1 (.sl 0 0 0 (rs s).length (rs s).length) none (some (.int .i64 ((a + 1 : Nat) : Int))) none H' = some (.sl 0 0 0 (a + 1) (rs s).length) := by
          have := slice_to (sz := 1) (off := 0) (n := (rs s).length) (cap := (rs s).length) (k2 := .i64) hR'.row (hi := ((a + 1 : Nat) : Int)) (by omega) (by omega)
          simpa using this
        have z5 : ¬ ((rs s).length : Int) ≤ (a : Int) := by omega
        have hlen : ((((rs s).take (a + 1)).flatMap enc).length : Int) = ((s.length - (q.2.2.flatMap enc).length : Nat) : Int) := by
          have h2 : s.length = (((rs s).take (a + 1)).flatMap enc).length + (q.2.2.flatMap enc).length := by
            conv => lhs; rw [vf]
            rw [← a5, ← List.length_append, ← List.flatMap_append, List.take_append_drop]
          omega
        have k4 : A.lenStr (.str (((rs s).take (a + 1)).flatMap enc)) = some (.int .i64 ((((rs s).take (a + 1)).flatMap enc).length : Int)) := rfl
        rw [hlen] at k4
        clear hlen
        clear i1 i2 vf vs hL hc0 hqu hd1 hpl t2
        generalize ((s.length - (q.2.2.flatMap enc).length : Nat) : Int) = Z at *
        generalize ((rs s).take (a + 1)).flatMap enc = T at *
        generalize ((a + 1 : Nat) : Int) = A1 at *
        generalize (a : Int) = AA at *
        generalize q.1.flatMap enc = X at *
        generalize ((rs s).length : Int) = LL at *
        simp [↓q00, ↓q04, ↓q01, ↓q03, ↓q02, ↓q05, S20, q1c, hv, c1, hln, hN0, x1, x2, h1, hln', z5, k1, w1, k3, k2, k4, frz, A.asG, guardB, A.pick]
      · rw [if_neg (by omega), a1]
        subst a2; subst a3
        clear i1 i2 vf vs hL hc0 hqu hd1 hpl t2
        generalize ((rs s).length : Int) = LL at *
        simp [↓q00, ↓q04, ↓q01, ↓q03, ↓q02, ↓q05, S20, q1c, hv, c1, hln, hN0, x1, x2, h1, hln', frz, A.asG, guardB, A.pick]
      · rw [if_neg a1]
        subst a2; subst a3
        clear i1 i2 vf vs hL hc0 hqu hd1 hpl t2
        generalize ((rs s).length : Int) = LL at *
        generalize (q.2.1 : Int) = E at *
        simp [↓q00, ↓q04, ↓q01, ↓q03, ↓q02, ↓q05, S20, q1c, hv, c1, hln, hN0, x1, x2, h1, frz, A.asG, guardB, A.pick]
    · have t1 : ¬ s.take 1 = [39] := fun h => by
        have := not_39 h
        rw [hL] at this
        injection this with h1 h2
        exact h39 h1
      rw [if_neg t1]
      have zc : ¬ (c : Int) = 39 := by omega
      rcases Nat.lt_or_ge 255 (plN s) with h5 | h5
      · rw [if_neg (by omega), if_pos h5]
        refine Evs.withL (i2 h5) (Evs.of fun n m h1 _ => ?_)
        clear i1 i2 vf vs hL hc0 hpl
        generalize ((rs s).length : Int) = LL at *
        simp [↓q00, ↓q04, ↓q01, ↓q03, ↓q02, ↓q05, S20, q1c, hv, c1, hln, hN0, x1, x2, zc, h1, frz, A.asG, guardB, A.pick]
      · by_cases h0 : plN s = 0
        · rw [if_pos h0]
          refine Evs.withL (i1 h5) (Evs.of fun n m h1 _ => ?_)
          rw [h0, z0] at h1
          clear i1 i2 vf vs hL hc0 hpl
          generalize ((rs s).length : Int) = LL at *
          simp [↓q00, ↓q04, ↓q01, ↓q03, ↓q02, ↓q05, S20, q1c, hv, c1, hln, hN0, x1, x2, zc, h1, frz, A.asG, guardB, A.pick]
        · rw [if_neg h0, if_neg (by omega)]
          have z6 : ¬ (plN s : Int) = 0 := by omega
          refine Evs.withL (i1 h5) (Evs.of fun n m h1 _ => ?_)
          clear i1 i2 vf vs hL hc0 hpl
          generalize s.take (plN s) = T at *
          generalize (plN s : Int) = PN at *
          generalize ((rs s).length : Int) = LL at *
          simp [↓q00, ↓q04, ↓q01, ↓q03, ↓q02, ↓q05, S20, q1c, hv, c1, hln, hN0, x1, x2, zc, h1, z6, hsl, frz, A.asG, guardB, A.pick]
theorem kRunq {R : Type} {s : List UInt8} (h : q0l s) {H : Heap} {k : AV → Heap → Option R} : polK pRunq [.str s] H k = k (.tup [.str (unqS s).1, .int .i64 ((unqS s).2.1 : Int), .int .i64 ((unqS s).2.2 : Int)]) H := by
  simp [pRunq, q0i, h]
end Go.Proofs.YtdkjednjlpcboaaDoor

/- The law on texts: what its function answers. -/
set_option maxRecDepth 100000
set_option maxHeartbeats 16000000
namespace Go.Proofs.YtdkjednjlpcboaaDoor
open Go Go.Den Go.Lib
noncomputable abbrev TLt : List (FuncId × Pol) := [(9, q65), (19, pUnq), (20, pRunq), (12, q1n), (10, q1w), (17, pCount), (18, q7p), (13, pPlain), (21, q4m), (11, pQuo), (22, pRquo), (16, pRev), (23, pRrev)]
theorem okTLt : TabOK base TLt := ⟨qid, okUnq, okRunq, q5a, q59, okCount, qie, qgs, qds, okQuo, okRquo, okRev, okRrev, trivial⟩
theorem qiz {a : List UInt8} {c : Bool} {H : Heap} : A.bin base.P .eql 9 (.str a) (.str a) c H = some (.bool true) := by
  simp only [A.bin, A.binStr]
  congr 2
  simp
theorem qfj {a c : Bool} {H : Heap} : A.bin base.P .eql 4 (.bool a) (.bool a) c H = some (.bool true) := by
  cases a <;> rfl
theorem qga (s : List UInt8) (hbig : notbig s) : Evs fun n _ => callF (base.with (polT TLt)) (n + 1) AV 7 [.str s] [] (fun v _ => some v) = some (.bool true) := by
  have ls : A.lenStr (.str s) = some (.int .i64 (s.length : Int)) := rfl
  by_cases h2 : (2000 : Int) < (s.length : Int)
  · generalize (s.length : Int) = N at *
    exact Evs.of fun n m => by simp [↓q00, ↓q01, S7, qg7, ls, h2]
  have ns : q0l s := by unfold q0l; omega
  have k1 : ∀ (R : Type) (H : Heap) (k : AV → Heap → Option R), polK pUnq [.str s] H k = k (.tup [.str (unqS s).1, .int .i64 ((unqS s).2.1 : Int), .int .i64 ((unqS s).2.2 : Int)]) H := fun R H k => kUnq ns
  have k2 : ∀ (R : Type) (H : Heap) (k : AV → Heap → Option R), polK pRunq [.str s] H k = k (.tup [.str (unqS s).1, .int .i64 ((unqS s).2.1 : Int), .int .i64 ((unqS s).2.2 : Int)]) H := fun R H k => kRunq ns
  have k3 : ∀ (R : Type) (H : Heap) (k : AV → Heap → Option R), polK pCount [.str s] H k = k (.int .i64 (countR s)) H := fun R H k => kCount ns
  have k4 : ∀ (R : Type) (H : Heap) (k : AV → Heap → Option R), polK q7p [.str s] H k = k (.int .i64 (countR s)) H := fun R H k => kRcount hbig
  have k5 : ∀ (R : Type) (H : Heap) (k : AV → Heap → Option R), polK pPlain [.str s] H k = k (.bool (isPl s)) H := fun R H k => kPlain ns
  have k6 : ∀ (R : Type) (H : Heap) (k : AV → Heap → Option R), polK q4m [.str s] H k = k (.bool (isPl s)) H := fun R H k => qg8 ns
  have k7 : ∀ (R : Type) (H : Heap) (k : AV → Heap → Option R), polK pQuo [.str s] H k = k (.str (quoS s)) H := fun R H k => kQuo ns
  have k8 : ∀ (R : Type) (H : Heap) (k : AV → Heap → Option R), polK pRquo [.str s] H k = k (.str (quoS s)) H := fun R H k => kRquo ns
  have k9 : ∀ (R : Type) (H : Heap) (k : AV → Heap → Option R), polK pRev [.str s] H k = k (.str (revR s)) H := fun R H k => kRev ns
  have k10 : ∀ (R : Type) (H : Heap) (k : AV → Heap → Option R), polK pRrev [.str s] H k = k (.str (revR s)) H := fun R H k => kRrev ns
  have k11 : ∀ (R : Type) (H : Heap) (k : AV → Heap → Option R), polK q1n [.str s] H k = k (.bool (validD s)) H := fun R H k => q1u
  have k12 : ∀ (R : Type) (H : Heap) (k : AV → Heap → Option R), polK q1w [.str s] H k = k (.bool (validD s)) H := fun R H k => q1c
  generalize (unqS s).1 = A1 at *
  generalize ((unqS s).2.1 : Int) = A2 at *
  generalize ((unqS s).2.2 : Int) = A3 at *
  generalize countR s = C at *
  generalize isPl s = P at *
  generalize quoS s = Q at *
  generalize revR s = V at *
  generalize validD s = D at *
  generalize (s.length : Int) = N at *
  exact Evs.of fun n m => by simp [↓q00, ↓q01, ↓q03, ↓q02, S7, qg7, ls, h2, k1, k2, k3, k4, k5, k6, k7, k8, k9, k10, k11, k12, qiz, qfj, A.asG, guardB, A.pick]
end Go.Proofs.YtdkjednjlpcboaaDoor
