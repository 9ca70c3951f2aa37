/- MailOrder: what its loop does, and that it answers true. -/
import Derived.Test.YtmeimiflflilpaaMwA
import Derived.Test.YtmeimiflflilpaaDenZj
set_option maxRecDepth 100000
namespace Go.Proofs.Ytmeimiflflilpaa
open Go Go.Den

theorem ty4 : env.P.underlying 4 = some .bool := by kernel_rfl
abbrev U (n : Int) : AV := .int .u8 n

theorem awake20 : ∃ H', Does env 9 [] [] (.bool true) H' := Does.of_true (n := 60) (by kernel_rfl)

structure InvO (H : Heap) (b : Nat) (n : Int) (il : List Int) (took : Nat) (v : AV) (own own9 : List Nat) : Prop where
  box : MB H b (il.drop took) 0 n own
  sl : Sl H 1 3 v (il.map I) own9
  apart : b ∉ own9 ∧ ∀ i ∈ own9, i ∉ own
  le : took ≤ il.length

theorem and_u8 (x : Int) (H : Heap) : ∃ q, A.bin env.P .and 5 (U x) (U 1) true H = some (U q) ∧ ∀ H', A.bin env.P .and 5 (U x) (U 1) true H' = some (U q) :=
  ⟨_, rfl, fun _ => rfl⟩

theorem loop4 {a1 : AV} {l : List Int} {n : Int} {b : Nat} (ha : Im 1 a1 (l.map U)) (hs : l.length ≤ 100) (hn : n ≤ 1000) : ∀ (k i : Nat) (H : Heap) (il : List Int) (took : Nat) (v : AV) (own own9 : List Nat),
    l.length = i + k → il.length ≤ i → InvO H b n il took v own own9 →
    ∃ (H' : Heap) (il' : List Int) (took' : Nat) (v' : AV) (own' own9' : List Nat), LDoes L4_0 ⟨[a1, I n, .ptr b 0 0 0, I il.length, I took, v, I i], []⟩ H 0 ⟨[.undef, .ptr b 0 0 0, I il'.length, I took', v'], []⟩ H' ∧ InvO H' b n il' took' v' own' own9' ∧ il'.length ≤ 100 := by
  intro k
  induction k with
  | zero =>
    intro i H il took v own own9 hi hil hI
    refine ⟨H, il, took, v, own, own9, LDoes.step (Evs.of fun nn mm => ?_), hI, by omega⟩
    have : ¬ (i : Int) < l.length := by omega
    simp [L4_0_step, ha.len, this]
  | succ k ih =>
    intro i H il took v own own9 hi hil hI
    have hlt : (i : Int) < l.length := by omega
    obtain ⟨hbox, hsl, ⟨hb9, hap⟩, hle⟩ := hI
    have hx : (l.map U)[(i : Int).toNat]? = some (U (l[i]'(by omega))) := by simp
    have g1 := ha.idx (H := H) (k := .i64) (i := i) (by omega) hx
    obtain ⟨q, q1, q2⟩ := and_u8 (l[i]'(by omega)) H
    have hw : IntKind.wrap .i64 ((i : Int) + 1) = (i : Int) + 1 := wrap_i64 (by omega) (by omega)
    have hsub : IntKind.wrap .i64 ((il.length : Int) - took) = (il.length : Int) - took := wrap_i64 (by omega) (by omega)
    have hdl : ((il.drop took).length : Int) = il.length - took := by simp; omega
    by_cases hq : q = 0
    · subst hq
      by_cases hput : ((il.drop took).length : Int) < n
      · obtain ⟨H1, own1, hd, hbox1, hk1, ho1⟩ := put_ok hbox hput (by simp; omega) i
        have hsl1 := hsl.kept hk1 (fun j hj e => by
          rcases List.mem_cons.1 e with e | e
          · exact hb9 (e ▸ hj)
          · exact hap j hj e)
        have k2 : Kept [] H1 (H1 ++ [.row 0 1 3 [I i]]) := .app _ _ _
        have hsl2 := hsl1.kept k2 (by simp)
        have hbox2 := hbox1.kept k2 (by simp) (by simp)
        obtain ⟨v2, H3, own3, ha3, hsl3, hk3, ho3⟩ := hsl2.append (bytes := 8) [I i] (by omega) (by simp; omega)
        have hn9 : ∀ j ∈ own9, j ∉ own1 := fun j hj e => by
          rcases ho1 j e with h | h
          · exact hap j hj h
          · have := hsl.own_lt j hj; omega
        have hbox3 := hbox2.kept hk3 hb9 (fun j hj e => hn9 j e hj)
        have hbl1 : b < H1.length := by
          obtain ⟨s, h1, _⟩ := hbox1
          exact lt_of_get h1
        have hol1 : ∀ j ∈ own1, j < H1.length := by
          obtain ⟨s, _, h2, _⟩ := hbox1
          exact h2.own_lt
        have hI3 : InvO H3 b n (il ++ [(i : Int)]) took v2 own1 own3 := by
          refine ⟨?_, by rw [List.map_append]; exact hsl3, ⟨fun e => ?_, fun j hj e => ?_⟩, by simp; omega⟩
          · rw [List.drop_append_of_le_length hle]
            exact hbox3
          · rcases ho3 b e with h | h
            · exact hb9 h
            · simp at h; omega
          · rcases ho3 j hj with h | h
            · exact hn9 j h e
            · have := hol1 j e
              simp at h; omega
        obtain ⟨H', il', took', v', own', own9', hL, hI', hlen⟩ := ih (i + 1) H3 (il ++ [(i : Int)]) took v2 own1 own3 (by omega) (by simp; omega) hI3
        refine ⟨H', il', took', v', own', own9', LDoes.step (Evs.with hd (Evs.withL hL (Evs.of fun nn mm _ c2 c1 => ?_))), hI', hlen⟩
        have hr : A.read 1 (.sl H1.length 0 0 1 1) (H1 ++ [.row 0 1 3 [I i]]) = some [I i] := (Sl.new (H := H1) (sz := 1) (ty := 3) [I i]).read
        have hlt2 : (il.length : Int) - took < n := by omega
        have hw2 : IntKind.wrap .i64 ((il.length : Int) + 1) = (il.length : Int) + 1 := wrap_i64 (by omega) (by omega)
        simp only [List.length_append, List.length_cons, List.length_nil, Int.natCast_add, Nat.zero_add, Int.natCast_one] at c2
        simp [L4_0_step, ha.len, hlt, g1, q1, c1, hsub, hlt2, A.bin_bne ty4, fillElems_one (I i) (.int .i64 0) rfl rfl, newsOf_sl ty33, hr, ha3, hw2, hw, c2]
      · have hd := put_full hbox (by omega) i
        obtain ⟨H', il', took', v', own', own9', hL, hI', hlen⟩ := ih (i + 1) H il took v own own9 (by omega) (by omega) ⟨hbox, hsl, ⟨hb9, hap⟩, hle⟩
        refine ⟨H', il', took', v', own', own9', LDoes.step (Evs.with hd (Evs.withL hL (Evs.of fun nn mm _ c2 c1 => ?_))), hI', hlen⟩
        have hlt2 : ¬ (il.length : Int) - took < n := by omega
        simp only [Int.natCast_add, Int.natCast_one] at c2
        simp [L4_0_step, ha.len, hlt, g1, q1, c1, hsub, hlt2, A.bin_bne ty4, hw, c2]
    · by_cases hlt3 : took < il.length
      · obtain ⟨x, rest, hcons⟩ : ∃ x rest, il.drop took = x :: rest := by
          cases hdr : il.drop took with
          | nil =>
            have : (il.drop took).length = 0 := by rw [hdr]; rfl
            simp at this
            omega
          | cons x rest => exact ⟨x, rest, rfl⟩
        have hxt : il[took]? = some x := by
          have : (il.drop took)[0]? = some x := by rw [hcons]; rfl
          rwa [List.getElem?_drop, Nat.add_zero] at this
        have hrest : il.drop (took + 1) = rest := by
          rw [← List.drop_drop, hcons]; rfl
        rw [hcons] at hbox
        have hd1 := peek_some hbox (x := x) (by omega) (by simp)
        obtain ⟨H1, hd2, hbox1, hk1⟩ := accept_ok (l1 := []) (l2 := rest) (x := x) hbox (by
          have : (x :: rest).length = (il.drop took).length := by rw [hcons]
          simp at this ⊢; omega)
        have hsl1 := hsl.kept hk1 (fun j hj e => by
          rcases List.mem_cons.1 e with e | e
          · exact hb9 (e ▸ hj)
          · exact hap j hj e)
        obtain ⟨p, p1, p2⟩ := hsl.load1 (k := .i64) (i := took) (e := I x) (by omega) (by simp; omega) (by simp [hxt]) rfl
        obtain ⟨H', il', took', v', own', own9', hL, hI', hlen⟩ := ih (i + 1) H1 il (took + 1) v own own9 (by omega) (by omega) ⟨by rw [hrest]; exact hbox1, hsl1, ⟨hb9, hap⟩, by omega⟩
        refine ⟨H', il', took', v', own', own9', LDoes.step (Evs.with hd1 (Evs.with hd2 (Evs.withL hL (Evs.of fun nn mm _ c2 c3 c1 => ?_)))), hI', hlen⟩
        have hw2 : IntKind.wrap .i64 ((took : Int) + 1) = (took : Int) + 1 := wrap_i64 (by omega) (by omega)
        simp only [Int.natCast_add, Int.natCast_one] at c2
        have hlt4 : (took : Int) < il.length := by omega
        simp [L4_0_step, ha.len, hlt, g1, q1, c1, c3, hq, hlt4, A.bin_bne ty4, p1, p2, hw2, hw, c2]
      · have hnil : il.drop took = [] := List.drop_eq_nil_of_le (by omega)
        have hd1 := peek_none hbox (by rw [hnil]; simp)
        have hd2 := accept_no hbox (by rw [hnil]; simp)
        obtain ⟨H', il', took', v', own', own9', hL, hI', hlen⟩ := ih (i + 1) H il took v own own9 (by omega) (by omega) ⟨hbox, hsl, ⟨hb9, hap⟩, hle⟩
        refine ⟨H', il', took', v', own', own9', LDoes.step (Evs.with hd1 (Evs.with hd2 (Evs.withL hL (Evs.of fun nn mm _ c2 c3 c1 => ?_)))), hI', hlen⟩
        simp only [Int.natCast_add, Int.natCast_one] at c2
        have hlt4 : ¬ (took : Int) < il.length := by omega
        simp [L4_0_step, ha.len, hlt, g1, q1, c1, c3, hq, hlt4, A.bin_bne ty4, hw, c2]


theorem conv53 (x : Int) : Go.Den.convert env 5 3 (U x) = some (.int .i64 (IntKind.wrap .i64 x)) := by kernel_rfl

theorem law4 {a1 : AV} {l : List Int} {x : Int} (ha : Im 1 a1 (l.map U)) (hx : 0 ≤ x ∧ x ≤ 255) : ∃ H', Does env 4 [U x, a1] [] (.bool true) H' := by
  obtain ⟨H1, hd9⟩ := awake20
  have hcv : Go.Den.convert env 5 3 (U x) = some (I x) := by
    rw [conv53, wrap_i64 (by omega) (by omega)]
  by_cases hs : l.length ≤ 100
  · obtain ⟨H2, hd17, hbox, hk⟩ := new_int (x.tmod 20) H1
    have hm : 0 ≤ x.tmod 20 ∧ x.tmod 20 < 20 := ⟨Int.tmod_nonneg _ hx.1, Int.tmod_lt_of_pos _ (by omega)⟩
    rw [show max (x.tmod 20) 0 = x.tmod 20 by omega] at hbox
    obtain ⟨H3, il, took, v, own, own9, hL, ⟨hb3, hs3, ⟨hb9, hap⟩, hle⟩, hlen⟩ := loop4 (b := H1.length) ha hs (by omega) l.length 0 H2 [] 0 .nils [] [] (by omega) (by simp) ⟨hbox, .nil, ⟨by simp, by simp⟩, by simp⟩
    have hd21 := len_ hb3
    obtain ⟨w, H4, own4, hd23, hs4, hk4, ho4⟩ := all_ hb3 (by simp; omega)
    have hs5 := hs3.kept hk4 (by simp)
    obtain ⟨e1, _⟩ := hs3.slice_from (k := .i64) (i := took) (by omega) (by simp; omega)
    obtain ⟨e2, hs6⟩ := hs5.slice_from (k := .i64) (i := took) (by omega) (by simp; omega)
    rw [← List.map_drop, Int.toNat_natCast] at hs6
    rw [Int.toNat_natCast] at e1 e2
    have cell : ∀ l : List Int, ∀ e ∈ l.map I, e.cells = [e] := fun l e he => by
      obtain ⟨n, _, rfl⟩ := List.mem_map.1 he
      rfl
    have hd22 := same_eq (hs4.rd (cell _)) (hs6.rd (cell _)) (by simp; omega)
    have hnn : A.bin env.P .eql 29 (.ptr H1.length 0 0 0) .nilp true H2 = some (.bool false) := by
      obtain ⟨s, h1, _⟩ := hbox
      exact (h1.not_nil ty29).1
    refine ⟨H4, Does.intro (Evs.with hd9 (Evs.with hd17 (Evs.withL hL (Evs.with hd21 (Evs.with hd23 (Evs.with hd22 (Evs.of fun nn mm c22 c23 c21 cL _ c17 c9 => ?_)))))))⟩
    have hle100 : ¬ (l.length : Int) > 100 := by omega
    have hlen2 : ((il.drop took).length : Int) = il.length - took := by simp; omega
    have hsub : IntKind.wrap .i64 ((il.length : Int) - took) = (il.length : Int) - took := wrap_i64 (by omega) (by omega)
    rw [hlen2] at c21
    simp only [List.length_nil, Int.natCast_zero, Int.ofNat_zero] at cL
    simp [S4, c9, hcv, ha.len, hle100, c17, hnn, cL, c21, hsub, c23, e1, e2, c22]
  · refine ⟨H1, Does.intro (Evs.with hd9 (Evs.of fun nn mm c1 => ?_))⟩
    have : (l.length : Int) > 100 := by omega
    simp [S4, c1, hcv, ha.len, this]


theorem lawMailOrder : ∀ vs : List AV, vs.length = Try.f4.params.size → (∀ (j : Nat) t v, Try.f4.params[j]? = some t → vs[j]? = some v → ∃ n, Ty Try.prog n t v) → ∃ n, answer env n 4 vs = some (.bool true) := by
  intro vs hl h
  have hp : Try.f4.params = #[5, 32] := by kernel_rfl
  rw [hp] at hl h
  match vs, hl with
  | [v, w], _ =>
    obtain ⟨n, h1⟩ := h 0 5 v rfl rfl
    obtain ⟨m, h2⟩ := h 1 32 w rfl rfl
    obtain ⟨x, rfl, hx⟩ := h1.int (k := .u8) (by kernel_rfl)
    obtain ⟨l, hl, _⟩ := h2.ints (k := .u8) (e := 5) (by kernel_rfl) (by kernel_rfl) (by kernel_rfl)
    obtain ⟨H', hd⟩ := law4 hl hx
    exact hd.answer

end Go.Proofs.Ytmeimiflflilpaa
