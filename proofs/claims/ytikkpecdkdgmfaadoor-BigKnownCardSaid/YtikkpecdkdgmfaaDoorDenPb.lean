/- DEN, part Pb: texts made of memory, pointers seen as another type. -/
import Derived.Test.YtikkpecdkdgmfaaDoorDenP
import Derived.Lib.Builder
import Derived.Lib.UnsafeStr
import Derived.Laws.BytesString
import Derived.Laws.Cover4
import Derived.Laws.IdiomStrings
namespace Go.Den
open Go.RowKit

/-- Elements of its own type lie side by side in a row. -/
theorem lies_self {P : Program} {e : TypeId} {s cells off n : Nat} (hs : P.cellsOf e = s) (h0 : 0 < s) (ha : off % s = 0) (hn : off + n * s ≤ cells) : liesAt P P.depth e (cells / P.cellsOf e) off e n = true := by
  have hd : P.depth = (2 * (P.types.size + Made.depth) + 1) + 1 := rfl
  have h1 : off / s + n ≤ cells / s := by
    rw [Nat.le_div_iff_mul_le h0, Nat.add_mul, Nat.div_mul_cancel (Nat.dvd_of_mod_eq_zero ha)]
    exact hn
  rw [hd]
  simp only [liesAt, Bool.or_eq_true]
  left
  rw [hd, hs]
  have h2 : s ≠ 0 := by omega
  simp [rowAt, hs, h1, ha, h2, sameLayout]

section
variable {E : Env} {C : Ctx} {p : Bool}

/-- What a slice's elements are in memory. -/
theorem read_cells (hr : HR E C) {sz : Nat} {x : AV} {u0 : Value} {es : List AV} (h : A.read sz x C.H = some es) (hx : V C p x u0) :
    (u0 = .slice none 0 0 ∧ es = []) ∨ ∃ a c us, u0 = .slice (some a) es.length c ∧ Vs C false (es.flatMap AV.cells) us ∧ ∀ j u, us[j]? = some u → C.w.cell? (a.add j) = some u := by
  unfold A.read at h
  split at h
  · cases hx
    simp only [Option.some.injEq] at h
    exact .inl ⟨rfl, h.symm⟩
  · rename_i z es'
    split at h
    · rename_i hz
      simp only [Option.some.injEq] at h
      subst h
      cases hx with
      | sh _ _ _ a c us h1 h2 h3 h4 h5 h6 => exact .inr ⟨a, c, us, rfl, h1.weaken, h3⟩
    · simp at h
  · rename_i id ver off n cap
    split at h
    · rename_i w z ty es' hrow
      split at h
      · rename_i hc
        obtain ⟨rfl, rfl, hle⟩ := hc
        simp only [Option.some.injEq] at h
        subst h
        obtain ⟨hz, hg, hk2, cur, fr, us, hcur, hfz, hus, hcell⟩ := hr.row id w z ty es' hrow
        have hgd : ∀ e ∈ (es'.drop off).take n, Good z e := fun e he => hg e (List.mem_of_mem_drop (List.mem_of_mem_take he))
        have hnl : ((es'.drop off).take n).length = n := by rw [List.length_take, List.length_drop]; omega
        cases hx with
        | sl _ _ _ _ _ _ g0 g1 =>
          obtain ⟨a, c, hu, g2, g3, g4, g5, g6⟩ := (g1.2 w z ty es' hrow).2 rfl
          subst hu
          have hfl : es'.flatMap AV.cells = (es'.take off).flatMap AV.cells ++ (((es'.drop off).take n).flatMap AV.cells ++ ((es'.drop off).drop n).flatMap AV.cells) := by
            rw [← List.flatMap_append, List.take_append_drop, ← List.flatMap_append, List.take_append_drop]
          have hl1 : ((es'.take off).flatMap AV.cells).length = off * z := by
            rw [flat_length (fun x hx => hg x (List.mem_of_mem_take hx)), List.length_take, Nat.min_eq_left (by omega)]
          have hl2 : (((es'.drop off).take n).flatMap AV.cells).length = n * z := by rw [flat_length hgd, hnl]
          have hv := hus
          rw [hfl] at hv
          have hv2 := hv.split.2.split.1
          rw [hl1, hl2] at hv2
          refine .inr ⟨a, c, _, by rw [hnl], hv2, fun j u hju => ?_⟩
          have hpos : 0 < c := by
            rcases Nat.eq_zero_or_pos c with h0 | h0
            · have : n = 0 := by omega
              subst this
              simp at hju
            · exact h0
          have ha := g5 hpos
          subst ha
          rw [List.getElem?_take] at hju
          split at hju
          · rw [List.getElem?_drop] at hju
            have := hcell _ _ hju
            rw [Addr.add_lit]
            simp only [World.cell?, hcur, Option.isSome_none, Bool.false_eq_true, if_false]
            rw [show (C.ρ id).2 + off * z + j = (C.ρ id).2 + (off * z + j) by omega]
            exact this
          · simp at hju
      · simp at h
    · simp at h
  · simp at h

theorem toNat_u8 {n : Int} (h0 : 0 ≤ n) (h1 : n < 256) : ((n.toNat.toUInt8).toNat : Int) = n := by
  have : n.toNat < 256 := by omega
  simp
  omega

theorem bytes8_vs : ∀ {es : List AV} {l : List UInt8} {us : List Value}, A.bytes8 es = some l → Vs C p (es.flatMap AV.cells) us → us = l.map (fun b => Value.int .u8 b.toNat) ∧ l.length = es.length
  | [], _, _, h, hv => by
    simp only [A.bytes8, Option.some.injEq] at h
    subst h
    cases hv
    exact ⟨rfl, rfl⟩
  | e :: es, l, us, h, hv => by
    unfold A.bytes8 at h
    split at h
    · rename_i h0; cases h0
    · rename_i n r h0
      cases h0
      cases hc : (decide (0 ≤ n) && decide (n < 256))
      · rw [hc] at h; cases h
      · rw [hc] at h
        simp only [cond_true] at h
        simp only [Bool.and_eq_true, decide_eq_true_eq] at hc
        split at h
        · rename_i l' hl'
          simp only [Option.some.injEq] at h
          subst h
          rw [List.flatMap_cons] at hv
          change Vs C p (.int .u8 n :: es.flatMap AV.cells) us at hv
          cases hv with
          | cons _ _ u _ us h1 h2 =>
            obtain ⟨g1, g2⟩ := bytes8_vs hl' h2
            rw [h1.int_inv, g1]
            exact ⟨by rw [List.map_cons, toNat_u8 hc.1 hc.2], by simp [g2]⟩
        · cases h
    · cases h

theorem runes32_vs : ∀ {es : List AV} {l : List Int} {us : List Value}, A.runes32 es = some l → Vs C p (es.flatMap AV.cells) us → us = l.map (Value.int .i32) ∧ l.length = es.length
  | [], _, _, h, hv => by
    simp only [A.runes32, Option.some.injEq] at h
    subst h
    cases hv
    exact ⟨rfl, rfl⟩
  | e :: es, l, us, h, hv => by
    unfold A.runes32 at h
    split at h
    · rename_i h0; cases h0
    · rename_i n r h0
      cases h0
      split at h
      · rename_i l' hl'
        simp only [Option.some.injEq] at h
        subst h
        rw [List.flatMap_cons] at hv
        change Vs C p (.int .i32 n :: es.flatMap AV.cells) us at hv
        cases hv with
        | cons _ _ u _ us h1 h2 =>
          obtain ⟨g1, g2⟩ := runes32_vs hl' h2
          rw [h1.int_inv, g1]
          exact ⟨rfl, by simp [g2]⟩
      · cases h
    · cases h

/-- A row's element lies in its block. -/
theorem row_in (hr : HR E C) {id w sz i off : Nat} {ty : TypeId} {es : List AV} (hrow : C.H[id]? = some (.row w sz ty es)) (hi : i < es.length) (ho : off < sz) :
    ∃ cells, C.w.shape? (C.ρ id).1 = some (ty, cells) ∧ (C.ρ id).2 + (i * sz + off) < cells ∧ (C.ρ id).2 + es.length * sz ≤ cells := by
  obtain ⟨hz, hg, hk2, cur, fr, us, hcur, hfz, hus, hcell⟩ := hr.row id w sz ty es hrow
  have hl : us.length = es.length * sz := hus.length.trans (flat_length hg)
  have key : ∀ j, j < es.length * sz → (C.ρ id).2 + j < cur.size := fun j hj => by
    have := hcell j us[j] (List.getElem?_eq_getElem (by omega))
    exact (Array.getElem?_eq_some_iff.1 this).1
  have h1 : i * sz + off < es.length * sz := by
    have := Nat.mul_le_mul_right sz (show i + 1 ≤ es.length from hi)
    rw [Nat.add_mul, Nat.one_mul] at this
    omega
  refine ⟨cur.size, by simp [World.shape?, hcur], key _ h1, ?_⟩
  have := key (es.length * sz - 1) (by omega)
  omega

theorem convH_ok (hr : HR E C) {s d : TypeId} {y v : AV} {u : Value} (h : convH E s d y C.H = some v) (hy : V C p y u) : ∃ u', (Go.convert s d u).run E.P C.w = .ok u' C.w ∧ V C false v u' := by
  unfold convH at h
  split at h
  · rename_i t hs hd
    split at h
    · rename_i id ver i off
      split at h
      · rename_i w sz ty es info hrow hinfo
        cases hc : (Nat.beq w ver && decide (info.size ≠ 0) && decide (i < es.length) && decide (off < sz))
        · rw [hc] at h; cases h
        · rw [hc] at h
          simp only [cond_true, Option.some.injEq] at h
          subst h
          simp only [Bool.and_eq_true, Nat.beq_eq, decide_eq_true_eq] at hc
          obtain ⟨⟨⟨rfl, h2⟩, h3⟩, h4⟩ := hc
          cases hy with
          | ptr _ _ _ _ _ g0 g1 =>
            have e := (g1.2 w sz ty es hrow).2 rfl
            subst e
            obtain ⟨cells, k1, k2, _⟩ := row_in hr hrow h3 h4
            exact ⟨_, Lib.run_to_unsafe C.w _ hs hd hinfo h2 k1 k2, .ptr _ _ _ _ _ g0 g1⟩
      · cases h
    · cases h
  · rename_i t hs hd
    split at h
    · rename_i id ver i
      split at h
      · rename_i w sz ty es info hrow hinfo
        cases hc : (Nat.beq w ver && Nat.beq ty t && decide (i < es.length) && Nat.beq sz (E.P.cellsOf t) && Nat.beq info.size sz)
        · rw [hc] at h; cases h
        · rw [hc] at h
          simp only [cond_true, Option.some.injEq] at h
          subst h
          simp only [Bool.and_eq_true, Nat.beq_eq, decide_eq_true_eq] at hc
          obtain ⟨⟨⟨⟨rfl, rfl⟩, h3⟩, h4⟩, h5⟩ := hc
          cases hy with
          | ptr _ _ _ _ _ g0 g1 =>
            have e := (g1.2 w sz ty es hrow).2 rfl
            subst e
            have hz := (hr.row id w sz ty es hrow).1
            obtain ⟨cells, k1, k2, k3⟩ := row_in hr hrow h3 hz
            have hlt : (i + 1) * sz ≤ es.length * sz := Nat.mul_le_mul_right sz h3
            rw [Nat.add_mul, Nat.one_mul] at hlt
            refine ⟨_, Lib.run_from_unsafe C.w _ hs hd hinfo k1 (lies_self h4.symm hz ?_ ?_), .ptr _ _ _ _ _ g0 g1⟩
            · show ((C.ρ id).2 + (i * sz + 0)) % sz = 0
              rw [Nat.add_zero, Nat.add_mul_mod_self_right]
              exact hr.al id w sz ty es hrow
            · show (C.ρ id).2 + (i * sz + 0) + 1 * sz ≤ cells
              omega
      · cases h
    · cases h
  · rename_i e hs hd
    split at h
    · rename_i he
      split at h
      · rename_i es hes
        rw [Option.map_eq_some_iff] at h
        obtain ⟨l, hl, rfl⟩ := h
        rcases read_cells hr hes hy with ⟨rfl, rfl⟩ | ⟨a, c, us, rfl, h2, h3⟩
        · simp only [A.bytes8, Option.some.injEq] at hl
          subst hl
          refine ⟨.string .empty, ?_, V.str _ .empty⟩
          rw [run_convert_bytes_string C.w s d e none 0 0 hs he hd]
          rfl
        · obtain ⟨g1, g2⟩ := bytes8_vs hl h2
          refine ⟨.string ⟨l.toArray⟩, ?_, ?_⟩
          · rw [run_convert_bytes_string C.w s d e (some a) _ c hs he hd]
            rw [run_bytesToString C.w a es.length c (l.map fun b => (b.toNat : Int)) ?_]
            · congr 2
              have : ∀ (l : List UInt8) (s : ByteArray), (l.map fun b => (b.toNat : Int)).foldl (fun r n => r.push (UInt8.ofNat n.toNat)) s = ⟨s.data ++ l.toArray⟩ := by
                intro l
                induction l with
                | nil => intro s; simp
                | cons b l ih =>
                  intro s
                  rw [List.map_cons, List.foldl_cons, ih]
                  apply ByteArray.ext
                  simp [ByteArray.push]
              rw [this]
              simp
            · rw [← g2]
              rw [run_loadCells C.w a l.length (fun j => .int .u8 ((l.map fun b => (b.toNat : Int)).getD j 0)) (fun j hj => h3 j _ (by rw [g1, List.getElem?_map, List.getElem?_eq_getElem hj]; simp [List.getD, hj]))]
              congr 2
              apply List.ext_getElem
              · simp
              · intro i h1 h2'
                simp at h1
                simp [List.getD, h1]
          · have := V.str (C := C) false ⟨l.toArray⟩
            simpa using this
      · cases h
    · rename_i he
      split at h
      · rename_i es hes
        rw [Option.map_eq_some_iff] at h
        obtain ⟨l, hl, rfl⟩ := h
        rcases read_cells hr hes hy with ⟨rfl, rfl⟩ | ⟨a, c, us, rfl, h2, h3⟩
        · simp only [A.runes32, Option.some.injEq] at hl
          subst hl
          refine ⟨.string .empty, ?_, V.str _ .empty⟩
          rw [run_convert_runes_string C.w s d e none 0 0 hs he hd]
          rfl
        · obtain ⟨g1, g2⟩ := runes32_vs hl h2
          refine ⟨.string (runesBytes l), ?_, ?_⟩
          · have hc : ∀ j, j < l.length → C.w.cell? (a.add j) = some (.int .i32 (l.getD j 0)) := fun j hj => h3 j _ (by rw [g1, List.getElem?_map, List.getElem?_eq_getElem hj]; simp [List.getD, hj])
            have := run_convert_runes C.w s d e a es.length c l (by omega) hs he hd hc
            rw [← g2, List.take_length] at this
            rw [← g2]
            exact this
          · have : ∀ (l : List Int) (s : ByteArray), (l.foldl (fun r n => r ++ Utf8.encode n) s).data.toList = s.data.toList ++ l.flatMap fun n => (Utf8.encode n).data.toList := by
              intro l
              induction l with
              | nil => intro s; simp
              | cons n l ih =>
                intro s
                rw [List.foldl_cons, ih]
                simp
            have e1 : (l.flatMap fun n => (Utf8.encode n).data.toList) = (runesBytes l).data.toList := by
              unfold runesBytes
              rw [this]
              rfl
            rw [e1]
            exact V.str _ _
      · cases h
    · cases h
  · cases h

end
end Go.Den
