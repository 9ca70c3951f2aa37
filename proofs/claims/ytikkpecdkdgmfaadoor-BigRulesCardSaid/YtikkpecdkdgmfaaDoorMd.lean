/- Texts put together: DenPb, DenPc, DenPd, DenQ, DenR, DenS. -/
import Derived.Test.YtikkpecdkdgmfaaDoorMc
import Derived.Lib.Builder
import Derived.Lib.UnsafeStr
import Derived.Laws.BytesString
import Derived.Laws.Cover4
import Derived.Laws.IdiomStrings
import Derived.Lib.ConvBytes

/- DEN, part Pb: texts made of memory, pointers seen as another type. -/
namespace Go.Den
open Go.RowKit

/-- Elements of its own type lie side by side in a row. -/
theorem lies_self {P : Program} {e : TypeId} {s cells off n : Nat} (hs : P.cellsOf e = s) (h0 : 0 < s) (ha : off % s = 0) (hn : off + n * s ≤ cells) : liesAt P P.depth e (cells / P.cellsOf e) off e n = true := by
  have hd : P.depth = (2 * (P.types.size + Made.depth) + 1) + 1 := rfl
  have h1 : off / s + n ≤ cells / s := by
    rw [Nat.le_div_iff_mul_le h0, Nat.add_mul, Nat.div_mul_cancel (Nat.dvd_of_mod_eq_zero ha)]
    exact hn
  rw [hd]
  simp only [liesAt, Bool.or_eq_true]
  left
  rw [hd, hs]
  have h2 : s ≠ 0 := by omega
  simp [rowAt, hs, h1, ha, h2, sameLayout]

section
variable {E : Env} {C : Ctx} {p : Bool}

/-- What a slice's elements are in memory. -/
theorem read_cells (hr : HR E C) {sz : Nat} {x : AV} {u0 : Value} {es : List AV} (h : A.read sz x C.H = some es) (hx : V C p x u0) :
    (u0 = .slice none 0 0 ∧ es = []) ∨ ∃ a c us, u0 = .slice (some a) es.length c ∧ Vs C false (es.flatMap AV.cells) us ∧ ∀ j u, us[j]? = some u → C.w.cell? (a.add j) = some u := by
  unfold A.read at h
  split at h
  · cases hx
    simp only [Option.some.injEq] at h
    exact .inl ⟨rfl, h.symm⟩
  · rename_i z es'
    split at h
    · rename_i hz
      simp only [Option.some.injEq] at h
      subst h
      cases hx with
      | sh _ _ _ a c us h1 h2 h3 h4 h5 h6 => exact .inr ⟨a, c, us, rfl, h1.weaken, h3⟩
    · simp at h
  · rename_i id ver off n cap
    split at h
    · rename_i w z ty es' hrow
      split at h
      · rename_i hc
        obtain ⟨rfl, rfl, hle⟩ := hc
        simp only [Option.some.injEq] at h
        subst h
        obtain ⟨hz, hg, hk2, cur, fr, us, hcur, hfz, hus, hcell⟩ := hr.row id w z ty es' hrow
        have hgd : ∀ e ∈ (es'.drop off).take n, Good z e := fun e he => hg e (List.mem_of_mem_drop (List.mem_of_mem_take he))
        have hnl : ((es'.drop off).take n).length = n := by rw [List.length_take, List.length_drop]; omega
        cases hx with
        | sl _ _ _ _ _ _ g0 g1 =>
          obtain ⟨a, c, hu, g2, g3, g4, g5, g6⟩ := (g1.2 w z ty es' hrow).2 rfl
          subst hu
          have hfl : es'.flatMap AV.cells = (es'.take off).flatMap AV.cells ++ (((es'.drop off).take n).flatMap AV.cells ++ ((es'.drop off).drop n).flatMap AV.cells) := by
            rw [← List.flatMap_append, List.take_append_drop, ← List.flatMap_append, List.take_append_drop]
          have hl1 : ((es'.take off).flatMap AV.cells).length = off * z := by
            rw [flat_length (fun x hx => hg x (List.mem_of_mem_take hx)), List.length_take, Nat.min_eq_left (by omega)]
          have hl2 : (((es'.drop off).take n).flatMap AV.cells).length = n * z := by rw [flat_length hgd, hnl]
          have hv := hus
          rw [hfl] at hv
          have hv2 := hv.split.2.split.1
          rw [hl1, hl2] at hv2
          refine .inr ⟨a, c, _, by rw [hnl], hv2, fun j u hju => ?_⟩
          have hpos : 0 < c := by
            rcases Nat.eq_zero_or_pos c with h0 | h0
            · have : n = 0 := by omega
              subst this
              simp at hju
            · exact h0
          have ha := g5 hpos
          subst ha
          rw [List.getElem?_take] at hju
          split at hju
          · rw [List.getElem?_drop] at hju
            have := hcell _ _ hju
            rw [Addr.add_lit]
            simp only [World.cell?, hcur, Option.isSome_none, Bool.false_eq_true, if_false]
            rw [show (C.ρ id).2 + off * z + j = (C.ρ id).2 + (off * z + j) by omega]
            exact this
          · simp at hju
      · simp at h
    · simp at h
  · simp at h

theorem toNat_u8 {n : Int} (h0 : 0 ≤ n) (h1 : n < 256) : ((n.toNat.toUInt8).toNat : Int) = n := by
  have : n.toNat < 256 := by omega
  simp
  omega

theorem bytes8_vs : ∀ {es : List AV} {l : List UInt8} {us : List Value}, A.bytes8 es = some l → Vs C p (es.flatMap AV.cells) us → us = l.map (fun b => Value.int .u8 b.toNat) ∧ l.length = es.length
  | [], _, _, h, hv => by
    simp only [A.bytes8, Option.some.injEq] at h
    subst h
    cases hv
    exact ⟨rfl, rfl⟩
  | e :: es, l, us, h, hv => by
    unfold A.bytes8 at h
    split at h
    · rename_i h0; cases h0
    · rename_i n r h0
      cases h0
      cases hc : (decide (0 ≤ n) && decide (n < 256))
      · rw [hc] at h; cases h
      · rw [hc] at h
        simp only [cond_true] at h
        simp only [Bool.and_eq_true, decide_eq_true_eq] at hc
        split at h
        · rename_i l' hl'
          simp only [Option.some.injEq] at h
          subst h
          rw [List.flatMap_cons] at hv
          change Vs C p (.int .u8 n :: es.flatMap AV.cells) us at hv
          cases hv with
          | cons _ _ u _ us h1 h2 =>
            obtain ⟨g1, g2⟩ := bytes8_vs hl' h2
            rw [h1.int_inv, g1]
            exact ⟨by rw [List.map_cons, toNat_u8 hc.1 hc.2], by simp [g2]⟩
        · cases h
    · cases h

theorem runes32_vs : ∀ {es : List AV} {l : List Int} {us : List Value}, A.runes32 es = some l → Vs C p (es.flatMap AV.cells) us → us = l.map (Value.int .i32) ∧ l.length = es.length
  | [], _, _, h, hv => by
    simp only [A.runes32, Option.some.injEq] at h
    subst h
    cases hv
    exact ⟨rfl, rfl⟩
  | e :: es, l, us, h, hv => by
    unfold A.runes32 at h
    split at h
    · rename_i h0; cases h0
    · rename_i n r h0
      cases h0
      split at h
      · rename_i l' hl'
        simp only [Option.some.injEq] at h
        subst h
        rw [List.flatMap_cons] at hv
        change Vs C p (.int .i32 n :: es.flatMap AV.cells) us at hv
        cases hv with
        | cons _ _ u _ us h1 h2 =>
          obtain ⟨g1, g2⟩ := runes32_vs hl' h2
          rw [h1.int_inv, g1]
          exact ⟨rfl, by simp [g2]⟩
      · cases h
    · cases h

/-- A row's element lies in its block. -/
theorem row_in (hr : HR E C) {id w sz i off : Nat} {ty : TypeId} {es : List AV} (hrow : C.H[id]? = some (.row w sz ty es)) (hi : i < es.length) (ho : off < sz) :
    ∃ cells, C.w.shape? (C.ρ id).1 = some (ty, cells) ∧ (C.ρ id).2 + (i * sz + off) < cells ∧ (C.ρ id).2 + es.length * sz ≤ cells := by
  obtain ⟨hz, hg, hk2, cur, fr, us, hcur, hfz, hus, hcell⟩ := hr.row id w sz ty es hrow
  have hl : us.length = es.length * sz := hus.length.trans (flat_length hg)
  have key : ∀ j, j < es.length * sz → (C.ρ id).2 + j < cur.size := fun j hj => by
    have := hcell j us[j] (List.getElem?_eq_getElem (by omega))
    exact (Array.getElem?_eq_some_iff.1 this).1
  have h1 : i * sz + off < es.length * sz := by
    have := Nat.mul_le_mul_right sz (show i + 1 ≤ es.length from hi)
    rw [Nat.add_mul, Nat.one_mul] at this
    omega
  refine ⟨cur.size, by simp [World.shape?, hcur], key _ h1, ?_⟩
  have := key (es.length * sz - 1) (by omega)
  omega

theorem convH_ok (hr : HR E C) {s d : TypeId} {y v : AV} {u : Value} (h : convH E s d y C.H = some v) (hy : V C p y u) : ∃ u', (Go.convert s d u).run E.P C.w = .ok u' C.w ∧ V C false v u' := by
  unfold convH at h
  split at h
  · rename_i t hs hd
    split at h
    · rename_i id ver i off
      split at h
      · rename_i w sz ty es info hrow hinfo
        cases hc : (Nat.beq w ver && decide (info.size ≠ 0) && decide (i < es.length) && decide (off < sz))
        · rw [hc] at h; cases h
        · rw [hc] at h
          simp only [cond_true, Option.some.injEq] at h
          subst h
          simp only [Bool.and_eq_true, Nat.beq_eq, decide_eq_true_eq] at hc
          obtain ⟨⟨⟨rfl, h2⟩, h3⟩, h4⟩ := hc
          cases hy with
          | ptr _ _ _ _ _ g0 g1 =>
            have e := (g1.2 w sz ty es hrow).2 rfl
            subst e
            obtain ⟨cells, k1, k2, _⟩ := row_in hr hrow h3 h4
            exact ⟨_, Lib.run_to_unsafe C.w _ hs hd hinfo h2 k1 k2, .ptr _ _ _ _ _ g0 g1⟩
      · cases h
    · cases h
  · rename_i t hs hd
    split at h
    · rename_i id ver i
      split at h
      · rename_i w sz ty es info hrow hinfo
        cases hc : (Nat.beq w ver && Nat.beq ty t && decide (i < es.length) && Nat.beq sz (E.P.cellsOf t) && Nat.beq info.size sz)
        · rw [hc] at h; cases h
        · rw [hc] at h
          simp only [cond_true, Option.some.injEq] at h
          subst h
          simp only [Bool.and_eq_true, Nat.beq_eq, decide_eq_true_eq] at hc
          obtain ⟨⟨⟨⟨rfl, rfl⟩, h3⟩, h4⟩, h5⟩ := hc
          cases hy with
          | ptr _ _ _ _ _ g0 g1 =>
            have e := (g1.2 w sz ty es hrow).2 rfl
            subst e
            have hz := (hr.row id w sz ty es hrow).1
            obtain ⟨cells, k1, k2, k3⟩ := row_in hr hrow h3 hz
            have hlt : (i + 1) * sz ≤ es.length * sz := Nat.mul_le_mul_right sz h3
            rw [Nat.add_mul, Nat.one_mul] at hlt
            refine ⟨_, Lib.run_from_unsafe C.w _ hs hd hinfo k1 (lies_self h4.symm hz ?_ ?_), .ptr _ _ _ _ _ g0 g1⟩
            · show ((C.ρ id).2 + (i * sz + 0)) % sz = 0
              rw [Nat.add_zero, Nat.add_mul_mod_self_right]
              exact hr.al id w sz ty es hrow
            · show (C.ρ id).2 + (i * sz + 0) + 1 * sz ≤ cells
              omega
      · cases h
    · cases h
  · rename_i e hs hd
    split at h
    · rename_i he
      split at h
      · rename_i es hes
        rw [Option.map_eq_some_iff] at h
        obtain ⟨l, hl, rfl⟩ := h
        rcases read_cells hr hes hy with ⟨rfl, rfl⟩ | ⟨a, c, us, rfl, h2, h3⟩
        · simp only [A.bytes8, Option.some.injEq] at hl
          subst hl
          refine ⟨.string .empty, ?_, V.str _ .empty⟩
          rw [run_convert_bytes_string C.w s d e none 0 0 hs he hd]
          rfl
        · obtain ⟨g1, g2⟩ := bytes8_vs hl h2
          refine ⟨.string ⟨l.toArray⟩, ?_, ?_⟩
          · rw [run_convert_bytes_string C.w s d e (some a) _ c hs he hd]
            rw [run_bytesToString C.w a es.length c (l.map fun b => (b.toNat : Int)) ?_]
            · congr 2
              have : ∀ (l : List UInt8) (s : ByteArray), (l.map fun b => (b.toNat : Int)).foldl (fun r n => r.push (UInt8.ofNat n.toNat)) s = ⟨s.data ++ l.toArray⟩ := by
                intro l
                induction l with
                | nil => intro s; simp
                | cons b l ih =>
                  intro s
                  rw [List.map_cons, List.foldl_cons, ih]
                  apply ByteArray.ext
                  simp [ByteArray.push]
              rw [this]
              simp
            · rw [← g2]
              rw [run_loadCells C.w a l.length (fun j => .int .u8 ((l.map fun b => (b.toNat : Int)).getD j 0)) (fun j hj => h3 j _ (by rw [g1, List.getElem?_map, List.getElem?_eq_getElem hj]; simp [List.getD, hj]))]
              congr 2
              apply List.ext_getElem
              · simp
              · intro i h1 h2'
                simp at h1
                simp [List.getD, h1]
          · have := V.str (C := C) false ⟨l.toArray⟩
            simpa using this
      · cases h
    · rename_i he
      split at h
      · rename_i es hes
        rw [Option.map_eq_some_iff] at h
        obtain ⟨l, hl, rfl⟩ := h
        rcases read_cells hr hes hy with ⟨rfl, rfl⟩ | ⟨a, c, us, rfl, h2, h3⟩
        · simp only [A.runes32, Option.some.injEq] at hl
          subst hl
          refine ⟨.string .empty, ?_, V.str _ .empty⟩
          rw [run_convert_runes_string C.w s d e none 0 0 hs he hd]
          rfl
        · obtain ⟨g1, g2⟩ := runes32_vs hl h2
          refine ⟨.string (runesBytes l), ?_, ?_⟩
          · have hc : ∀ j, j < l.length → C.w.cell? (a.add j) = some (.int .i32 (l.getD j 0)) := fun j hj => h3 j _ (by rw [g1, List.getElem?_map, List.getElem?_eq_getElem hj]; simp [List.getD, hj])
            have := run_convert_runes C.w s d e a es.length c l (by omega) hs he hd hc
            rw [← g2, List.take_length] at this
            rw [← g2]
            exact this
          · have : ∀ (l : List Int) (s : ByteArray), (l.foldl (fun r n => r ++ Utf8.encode n) s).data.toList = s.data.toList ++ l.flatMap fun n => (Utf8.encode n).data.toList := by
              intro l
              induction l with
              | nil => intro s; simp
              | cons n l ih =>
                intro s
                rw [List.foldl_cons, ih]
                simp
            have e1 : (l.flatMap fun n => (Utf8.encode n).data.toList) = (runesBytes l).data.toList := by
              unfold runesBytes
              rw [this]
              rfl
            rw [e1]
            exact V.str _ _
      · cases h
    · cases h
  · cases h

end
end Go.Den

/- DEN, part Pc: a text made of a row's bytes, which are written no more. -/
namespace Go.Den
open Go.RowKit

section
variable {E : Env} {C : Ctx} {p q : Bool}

theorem sliceData_ok {ts : Array TypeId} {ty : TypeId} {s v : AV} {u : Value} (h : A.sliceData s C.H = some v) (hs : V C p s u) : ∃ u', (Builtin.unsafeSliceData_ ts ty #[u]).run E.P C.w = .ok u' C.w ∧ V C false v u' := by
  unfold A.sliceData at h
  split at h
  · simp only [Option.some.injEq] at h
    subst h
    cases hs
    exact ⟨_, Lib.run_unsafeSliceData_nil C.w ts ty 0 0, .nilp _⟩
  · rename_i id ver off n cap
    cases hc : (A.alive C.H id ver && decide (0 < n))
    · rw [hc] at h; cases h
    · rw [hc] at h
      simp only [cond_true, Option.some.injEq] at h
      subst h
      simp only [Bool.and_eq_true, decide_eq_true_eq] at hc
      obtain ⟨sz, ty', es, hrow⟩ := alive_row hc.1
      cases hs with
      | sl _ _ _ _ _ _ g0 g1 =>
        obtain ⟨a, c, hu, g2, g3, g4, g5, g6⟩ := (g1.2 ver sz ty' es hrow).2 rfl
        subst hu
        have hpos : 0 < c := by omega
        have ha := g5 hpos
        subst ha
        refine ⟨_, Lib.run_unsafeSliceData_row C.w ts ty _ n c (by omega), .ptr _ _ _ _ _ rfl ⟨g1.1, fun v1 sz1 ty1 es1 h1 => ?_⟩⟩
        rw [hrow] at h1
        cases h1
        exact ⟨Nat.le_refl _, fun _ => by rw [Nat.add_zero]⟩
  · cases h

theorem freeze_frame (w : World) (a : Addr) (n : Nat) : (w.freeze a n).os = w.os ∧ (w.freeze a n).tape = w.tape ∧ (w.freeze a n).output = w.output ∧ (w.freeze a n).heap.size = w.heap.size ∧ ∀ b, b ≠ a.block → (w.freeze a n).heap[b]? = w.heap[b]? := by
  unfold World.freeze
  split
  · exact ⟨rfl, rfl, rfl, rfl, fun _ _ => rfl⟩
  · exact ⟨rfl, rfl, rfl, by simp, fun b hb => by simp only [Array.getElem?_modify]; rw [if_neg (fun e => hb e.symm)]⟩

/-- A row is frozen: no more is known of it. -/
theorem row_freeze (hr : HR E C) {id w sz : Nat} {ty : TypeId} {es : List AV} (hrow : C.H[id]? = some (.row w sz ty es)) (o n : Nat) :
    HR E { C with w := C.w.freeze ⟨(C.ρ id).1, o, none⟩ n, H := C.H.set id .dead } ∧ EvL C { C with w := C.w.freeze ⟨(C.ρ id).1, o, none⟩ n, H := C.H.set id .dead } := by
  obtain ⟨f1, f2, f3, f4, f5⟩ := freeze_frame C.w ⟨(C.ρ id).1, o, none⟩ n
  have hk := (hr.row id w sz ty es hrow).2.2.1
  have hidl : id < C.H.length := (List.getElem?_eq_some_iff.1 hrow).1
  have hne : ∀ b i, C.κ b = .obj i → i ≠ id → b ≠ (C.ρ id).1 := fun b i hb hi e => by
    rw [e, hk] at hb
    injection hb with hb
    exact hi hb.symm
  have hHne : ∀ i, i ≠ id → (C.H.set id HObj.dead)[i]? = C.H[i]? := fun i hi => List.getElem?_set_ne (fun e => hi e.symm)
  have hHself : (C.H.set id HObj.dead)[id]? = some .dead := List.getElem?_set_self hidl
  have ev : EvL C { C with w := C.w.freeze ⟨(C.ρ id).1, o, none⟩ n, H := C.H.set id .dead } := by
    refine ⟨⟨f1, f2, f3, Nat.le_of_eq f4.symm, fun b hb hk' => ⟨f5 b fun e => ?_, rfl⟩, by simp, ?_, ?_, ?_⟩, fun b hb s' hs' => ⟨f5 b fun e => ?_, hs'⟩⟩
    · rw [e, hk] at hk'
      rcases hk' with hk' | hk' <;> cases hk'
    · intro i hil v sz ty es hrow
      by_cases e : i = id
      · subst e
        rw [show ({ C with w := C.w.freeze ⟨(C.ρ i).1, o, none⟩ n, H := C.H.set i .dead } : Ctx).H[i]? = _ from hHself] at hrow
        cases hrow
      · rw [show ({ C with w := C.w.freeze ⟨(C.ρ id).1, o, none⟩ n, H := C.H.set id .dead } : Ctx).H[i]? = _ from hHne i e] at hrow
        refine ⟨v, es, hrow, Nat.le_refl _, fun _ => ⟨rfl, fun cells t f hc => ⟨cells, t, f, ?_, rfl⟩⟩⟩
        rw [← f5 _ (hne _ i (hr.row i v sz ty es hrow).2.2.1 e)]
        exact hc
    · intro i hil l' pos' hit
      by_cases e : i = id
      · subst e
        rw [show ({ C with w := C.w.freeze ⟨(C.ρ i).1, o, none⟩ n, H := C.H.set i .dead } : Ctx).H[i]? = _ from hHself] at hit
        cases hit
      · rw [show ({ C with w := C.w.freeze ⟨(C.ρ id).1, o, none⟩ n, H := C.H.set id .dead } : Ctx).H[i]? = _ from hHne i e] at hit
        exact ⟨⟨l', pos', hit⟩, rfl⟩
    · intro i hil k' e' es' hm
      by_cases e : i = id
      · subst e
        rw [show ({ C with w := C.w.freeze ⟨(C.ρ i).1, o, none⟩ n, H := C.H.set i .dead } : Ctx).H[i]? = _ from hHself] at hm
        cases hm
      · rw [show ({ C with w := C.w.freeze ⟨(C.ρ id).1, o, none⟩ n, H := C.H.set id .dead } : Ctx).H[i]? = _ from hHne i e] at hm
        exact ⟨⟨k', e', es', hm⟩, rfl⟩
    · rw [e, hk] at hs'
      cases hs'
  refine ⟨hr.step ev.ev ?_ ?_ (fun b hb => hr.new b (by rw [← f4]; exact hb)), ev⟩
  · intro i v sz ty es hrow
    by_cases e : i = id
    · subst e
      rw [show ({ C with w := C.w.freeze ⟨(C.ρ i).1, o, none⟩ n, H := C.H.set i .dead } : Ctx).H[i]? = _ from hHself] at hrow
      cases hrow
    · rw [show ({ C with w := C.w.freeze ⟨(C.ρ id).1, o, none⟩ n, H := C.H.set id .dead } : Ctx).H[i]? = _ from hHne i e] at hrow
      have hk1 := (hr.row i v sz ty es hrow).2.2.1
      exact .inl ⟨hrow, rfl, hk1, f5 _ (hne _ i hk1 e)⟩
  · intro i l pos hit
    by_cases e : i = id
    · subst e
      rw [show ({ C with w := C.w.freeze ⟨(C.ρ i).1, o, none⟩ n, H := C.H.set i .dead } : Ctx).H[i]? = _ from hHself] at hit
      cases hit
    · rw [show ({ C with w := C.w.freeze ⟨(C.ρ id).1, o, none⟩ n, H := C.H.set id .dead } : Ctx).H[i]? = _ from hHne i e] at hit
      have hk1 := (hr.iter i l pos hit).1
      exact .inl ⟨hit, rfl, hk1, f5 _ (hne _ i hk1 e)⟩

/-- unsafe.String somewhere in a row of bytes. -/
theorem run_unsafeString_at {P : Program} (w : World) (pt it ty e : TypeId) (hp : P.underlying pt = some (.pointer e)) (hc : P.cellsOf e = 1) (g o cells : Nat) (hsh : w.shape? g = some (e, cells)) (l : List UInt8) (h0 : l ≠ []) (hn : o + l.length ≤ cells) (h63 : l.length ≤ 9223372036854775807)
    (hcell : ∀ j x, l[j]? = some x → w.cell? ((⟨g, o, none⟩ : Addr).add j) = some (.int .u8 x.toNat)) :
    (Builtin.unsafeString_ #[pt, it] ty #[.pointer (some ⟨g, o, none⟩), .int .i64 l.length]).run P w = .ok (.string ⟨l.toArray⟩) (w.freeze ⟨g, o, none⟩ l.length) := by
  have hl : l.length ≠ 0 := by simpa using h0
  have hlb := Lib.run_loadBytes (P := P) w l ⟨g, o, none⟩ .empty hcell
  have hlies := lies_self (P := P) (e := e) (cells := cells) (off := o) (n := l.length) hc (by omega) (by omega) (by omega)
  have h63' : ¬ (9223372036854775807 : Int) < (l.length : Int) := by omega
  have hdef : Builtin.unsafeString_ #[pt, it] ty #[.pointer (some ⟨g, o, none⟩), .int .i64 l.length] =
      (do
        let n ← asInt (.int .i64 l.length)
        if n < 0 then runtimePanic (.error "unsafe.String: len out of range")
        if n > IntKind.i64.max then unsupported (.unsafePointer "String: a length above the largest int")
        if n = 0 then pure (.string .empty)
        else if ← variablesAt ⟨g, o, none⟩ (← elemOf pt) n.toNat then do
          let s ← loadBytes ⟨g, o, none⟩ .empty n.toNat
          freeze ⟨g, o, none⟩ n.toNat
          pure (.string s)
        else unsupported (.unsafePointer "String: not so many bytes at ptr")) := rfl
  rw [hdef]
  have hmax : IntKind.i64.max = 9223372036854775807 := rfl
  have hneg : ¬ (l.length : Int) < 0 := by omega
  simp [asInt, asIntOf, hmax, h63', hneg, hl, variablesAt, hsh, elemOf, run_underlying hp, hlies, hlb]

theorem unsafeStr_ok (hr : HR E C) {pt it ty e : TypeId} {x n v : AV} {u1 u2 : Value} {H' : Heap} (hp : E.P.underlying pt = some (.pointer e)) (hc : E.P.cellsOf e = 1) (h : A.unsafeStr e x n C.H = some (v, H')) (hx : V C p x u1) (hn : V C q n u2) :
    ∃ u C', (Builtin.unsafeString_ #[pt, it] ty #[u1, u2]).run E.P C.w = .ok u C'.w ∧ HR E C' ∧ EvL C C' ∧ C'.H = H' ∧ V C' false v u := by
  unfold A.unsafeStr at h
  split at h
  · rename_i m
    have := hn.int_inv
    subst this
    cases hm : decide (m = 0)
    · rw [hm] at h
      simp only [cond_false] at h
      split at h
      · rename_i id ver i
        split at h
        · rename_i w sz ty' es hrow
          cases hcond : (Nat.beq w ver && Nat.beq sz 1 && Nat.beq ty' e && decide (0 < m) && decide (m ≤ 9223372036854775807) && decide (i + m.toNat ≤ es.length))
          · rw [hcond] at h; cases h
          · rw [hcond] at h
            simp only [cond_true] at h
            simp only [Bool.and_eq_true, Nat.beq_eq, decide_eq_true_eq] at hcond
            obtain ⟨⟨⟨⟨⟨rfl, rfl⟩, rfl⟩, hm0⟩, hm1⟩, hle⟩ := hcond
            split at h
            · rename_i l hl
              simp only [Option.some.injEq, Prod.mk.injEq] at h
              obtain ⟨rfl, rfl⟩ := h
              cases hx with
              | ptr _ _ _ _ _ g0 g1 =>
                have e1 := (g1.2 w 1 _ es hrow).2 rfl
                subst e1
                obtain ⟨hz, hg, hk2, cur, fr, us, hcur, hfz, hus, hcell⟩ := hr.row id w 1 _ es hrow
                have hgd : ∀ e ∈ (es.drop i).take m.toNat, Good 1 e := fun e he => hg e (List.mem_of_mem_drop (List.mem_of_mem_take he))
                have hnl : ((es.drop i).take m.toNat).length = m.toNat := by rw [List.length_take, List.length_drop]; omega
                have hfl : es.flatMap AV.cells = (es.take i).flatMap AV.cells ++ (((es.drop i).take m.toNat).flatMap AV.cells ++ ((es.drop i).drop m.toNat).flatMap AV.cells) := by
                  rw [← List.flatMap_append, List.take_append_drop, ← List.flatMap_append, List.take_append_drop]
                have hl1 : ((es.take i).flatMap AV.cells).length = i := by
                  rw [flat_length (fun x hx => hg x (List.mem_of_mem_take hx)), List.length_take, Nat.min_eq_left (by omega), Nat.mul_one]
                have hl2 : (((es.drop i).take m.toNat).flatMap AV.cells).length = m.toNat := by rw [flat_length hgd, hnl, Nat.mul_one]
                have hv := hus
                rw [hfl] at hv
                have hv2 := hv.split.2.split.1
                rw [hl1, hl2] at hv2
                obtain ⟨k1, k2⟩ := bytes8_vs hl hv2
                have hll : l.length = m.toNat := by rw [k2, hnl]
                have hmm : m = (l.length : Int) := by omega
                have hl0 : l ≠ [] := fun e => by rw [e] at hll; simp at hll; omega
                obtain ⟨cells, s1, s2, s3⟩ := row_in hr hrow (i := i) (off := 0) (by omega) (by omega)
                have hrun := run_unsafeString_at (P := E.P) C.w pt it ty _ hp hc (C.ρ id).1 ((C.ρ id).2 + i) cells s1 l hl0 (by rw [hll]; omega) (by omega) (fun j x hj => by
                  have hjl : j < m.toNat := by rw [← hll]; exact (List.getElem?_eq_some_iff.1 hj).1
                  have h5 : ((us.drop i).take m.toNat)[j]? = some (.int .u8 x.toNat) := by rw [k1, List.getElem?_map, hj]; rfl
                  rw [List.getElem?_take, if_pos hjl, List.getElem?_drop] at h5
                  have := hcell _ _ h5
                  rw [Addr.add_lit]
                  simp only [World.cell?, hcur, Option.isSome_none, Bool.false_eq_true, if_false]
                  rw [show (C.ρ id).2 + i + j = (C.ρ id).2 + (i + j) by omega]
                  exact this)
                obtain ⟨r1, r2⟩ := row_freeze hr hrow ((C.ρ id).2 + i) l.length
                refine ⟨.string ⟨l.toArray⟩, _, ?_, r1, r2, rfl, by simpa using V.str (C := { C with w := C.w.freeze ⟨(C.ρ id).1, (C.ρ id).2 + i, none⟩ l.length, H := C.H.set id .dead }) false ⟨l.toArray⟩⟩
                rw [hmm]
                rw [show (C.ρ id).2 + (i * 1 + 0) = (C.ρ id).2 + i by omega]
                exact hrun
            · cases h
        · cases h
      · cases h
    · rw [hm] at h
      simp only [cond_true] at h
      simp only [decide_eq_true_eq] at hm
      subst hm
      split at h
      · simp only [Option.some.injEq, Prod.mk.injEq] at h
        obtain ⟨rfl, rfl⟩ := h
        cases hx
        exact ⟨.string .empty, C, Lib.run_unsafeString_none C.w pt it ty none, hr, EvL.refl C, rfl, V.str _ .empty⟩
      · cases h
  · cases h

end
end Go.Den

/- DEN, part Pd: a text as a new slice of bytes. -/
namespace Go.Den
open Go.RowKit

section
variable {E : Env} {C : Ctx} {p q : Bool}

theorem bytesWorld_same (w : World) (e : TypeId) (s : ByteArray) : Same w (Lib.bytesWorld w e s) := by
  obtain ⟨f1, f2, f3, _⟩ := freeze_frame (w.drew.alloc (.cells (Lib.bytesCells w e s) e)) ⟨w.heap.size, (Lib.bytesCells w e s).size, none⟩ 1
  exact ⟨f1, f2, f3⟩

theorem bytesWorld_heap (w : World) (e : TypeId) (s : ByteArray) : (Lib.bytesWorld w e s).heap = w.heap.push (.cells (Lib.bytesCells w e s) e ((Lib.bytesCells w e s).size, (Lib.bytesCells w e s).size + 1)) := by
  apply Array.ext_getElem?
  intro i
  rcases Nat.lt_trichotomy i w.heap.size with h | h | h
  · rw [Lib.bytesWorld_at_old w e s i h, Array.getElem?_push, if_neg (by omega)]
  · subst h
    rw [Lib.bytesWorld_at_new, Array.getElem?_push, if_pos rfl]
  · rw [Array.getElem?_eq_none (by rw [Lib.bytesWorld_size]; omega), Array.getElem?_eq_none (by simp; omega)]

theorem convN_ok (hr : HR E C) {s d : TypeId} {y : AV} {q : AV × Heap} {u : Value} (h : convN E s d y C.H = some q) (hy : V C p y u) :
    ∃ u' C', (Go.convert s d u).run E.P C.w = .ok u' C'.w ∧ HR E C' ∧ EvL C C' ∧ C'.H = q.2 ∧ V C' false q.1 u' := by
  unfold convN at h
  split at h
  · rename_i e hs hd
    split at h
    · rename_i he
      split at h
      · rename_i l
        obtain ⟨b, hb, rfl⟩ := hy.str_inv
        subst hb
        cases hc : decide (b.data.toList.length ≤ 140737488355328)
        · rw [hc] at h; cases h
        · rw [hc] at h
          simp only [cond_true, Option.some.injEq] at h
          subst h
          simp only [decide_eq_true_eq] at hc
          have hbl : b.data.toList.length = b.size := by rw [Array.length_toList]; rfl
          have hel : (A.strElems b.data.toList).length = b.size := by unfold A.strElems; rw [List.length_map, hbl]
          have hge := grownCap_ge C.w b.size 0 e
          have hcs : (Lib.bytesCells C.w e b).size = grownCap C.w b.size 0 e := by
            unfold Lib.bytesCells
            have : b.data.size = b.size := rfl
            simp [this]
            omega
          have key := row_new (E := E) (C := C) (ver := 0) (sz := 1) (ty := e) (es := A.strElems b.data.toList) (us := b.data.toList.map fun x => Value.int .u8 x.toNat) (w' := Lib.bytesWorld C.w e b) hr (bytesWorld_same C.w e b) (bytesWorld_heap C.w e b) Nat.one_pos
            (fun x hx => by
              obtain ⟨c, _, rfl⟩ := List.mem_map.1 hx
              exact ⟨rfl, by simp [AV.cells, AV.one]⟩)
            (fun j hj => by dsimp only; omega)
            (by
              unfold A.strElems
              generalize b.data.toList = l
              induction l with
              | nil => exact .nil _
              | cons c l ih => exact .cons _ _ _ _ _ (.int _ _ _) ih)
            (fun j u hu => by
              unfold Lib.bytesCells
              have hj : j < b.data.size := by
                have := (List.getElem?_eq_some_iff.1 hu).1
                simpa using this
              rw [Array.getElem?_append_left (by simpa using hj)]
              rw [List.getElem?_map] at hu
              rw [Array.getElem?_map]
              rw [← Array.getElem?_toList]
              exact hu)
          refine ⟨_, _, Lib.run_convert_string_bytes C.w s d e b hs hd he, key.1, key.2, rfl, ?_⟩
          show V _ false (.sl C.H.length 0 0 (A.strElems b.data.toList).length (A.strElems b.data.toList).length) _
          rw [hel]
          refine .sl _ _ _ _ _ _ rfl ⟨by simp [Ctx.grow], fun v sz' ty' es' hx => ?_⟩
          simp [Ctx.grow] at hx
          obtain ⟨rfl, rfl, rfl, rfl⟩ := hx
          refine ⟨Nat.le_refl _, fun _ => ⟨⟨C.w.heap.size, 0, none⟩, grownCap C.w b.size 0 e, rfl, Nat.le_refl _, hge, grownCap_le_maxLen C.w _ 0 e (by unfold maxLen; omega), fun _ => by simp [Ctx.grow], fun cells t' fr hc => ?_⟩⟩
          rw [grow_place] at hc ⊢
          have hc' := (Lib.bytesWorld_at_new C.w e b).symm.trans hc
          injection hc' with hc'
          injection hc' with hc1 hc2 hc3
          subst hc1
          rw [hcs]
          simp
      · cases h
    · cases h
  · cases h

end
end Go.Den

/- DEN, part Q: each operation does what it is said to do (on). -/
namespace Go.Den
open Go.RowKit

section
variable {E : Env} {cf : CallFn} {C C' : Ctx} {lam : Nat → Nat} {st : St} {a : Act} {o : Oper} {Q : Exit → Act → World → Prop} {q p : Bool} {site : Option Nat} {x : SV} {st' : St} {H' : Heap}

theorem pick_sound (hr : HR E C) (hf : FrameR C lam st a) {c y z : Operand} (ho : o.op = .pick c y z)
    (h : opK E cf site o st C.H (fun x s G => some (x, s, G)) = some (x, st', H')) : o.wp E.P a C.w (Post E C (stPut st' o.dst x) H') Q := by
  unfold opK at h
  simp only [ho] at h
  split at h
  · rename_i vc vy vz hc hy hz
    obtain ⟨v, hv, h⟩ := withV_some h
    unfold A.pick at hv
    split at hv
    · rename_i b
      simp only [Option.some.injEq] at hv
      subst hv
      have hcb := (eval_ok hr hf hc).bool_inv
      have hrun : (execOp a.eval o).run E.P C.w = .ok (.value (if b then a.eval y else a.eval z)) C.w := by
        unfold execOp
        simp only [ho, hcb]
        rfl
      cases b
      · exact pure_wp hr hf h hrun (eval_ok hr hf hz)
      · exact pure_wp hr hf h hrun (eval_ok hr hf hy)
    · cases hv
  · cases h

theorem build_sound (hr : HR E C) (hf : FrameR C lam st a) {t : TypeId} {ps : Array (Nat × Operand)} (ho : o.op = .build t ps)
    (h : opK E cf site o st C.H (fun x s G => some (x, s, G)) = some (x, st', H')) : o.wp E.P a C.w (Post E C (stPut st' o.dst x) H') Q := by
  unfold opK at h
  simp only [ho] at h
  split at h
  · rename_i z pl hz hpl
    split at h
    · rename_i l hl
      obtain ⟨v, hv, h⟩ := withV_some h
      obtain ⟨u, g1, g2⟩ := build_ok hr hf hz hpl hl hv
      exact pure_wp hr hf h (by unfold execOp; simp only [ho]; exact run_v g1) g2
    · cases h
  · cases h

theorem buildSlice_sound (hr : HR E C) (hf : FrameR C lam st a) {t : TypeId} {n : Nat} {ps : Array (Nat × Operand)} (ho : o.op = .buildSlice t n ps)
    (h : opK E cf site o st C.H (fun x s G => some (x, s, G)) = some (x, st', H')) : o.wp E.P a C.w (Post E C (stPut st' o.dst x) H') Q := by
  unfold opK at h
  simp only [ho] at h
  split at h
  · rename_i e he
    have ht : E.P.underlying t = some (.slice e) := by
      unfold Env.elem at he
      split at he
      · rename_i e' h1
        simp only [Option.some.injEq] at he
        rw [h1, he]
      · cases he
    split at h
    · rename_i sz z l hsz hz hp
      cases hc : (decide (n * sz ≤ 16777216) && decide (0 < sz) && decide (z.cells.length = sz))
      · simp only [hc, cond_false] at h
        cases h
      · simp only [hc, cond_true] at h
        simp only [Bool.and_eq_true, decide_eq_true_eq] at hc
        split at h
        · rename_i es hes
          obtain ⟨u, C', g1, g2, g3, g4, g5⟩ := buildSlice_ok hr hf ht hsz hz hc.1.1 hc.1.2 hc.2 hp hes
          exact make_wp hf h (by unfold execOp; simp only [ho]; exact run_v g1) g3 g4 g5 g2
        · cases h
    · cases h
  · cases h

theorem nilCheck_sound (hr : HR E C) (hf : FrameR C lam st a) {y : Operand} (ho : o.op = .nilCheck y)
    (h : opK E cf site o st C.H (fun x s G => some (x, s, G)) = some (x, st', H')) : o.wp E.P a C.w (Post E C (stPut st' o.dst x) H') Q := by
  unfold opK at h
  simp only [ho] at h
  split at h
  · rename_i t
    split at h
    · rename_i w hw
      obtain ⟨v, hv, h⟩ := withV_some h
      obtain ⟨g1, g2⟩ := nilCheck_ok hv (slot_val hf hw)
      exact pure_wp hr hf h (g2 o a _ ho rfl) g1
    · rename_i s off hw
      obtain ⟨h1, h2⟩ := slot_lp hf hw
      exact lpe_wp hr hf h (by unfold execOp; simp only [ho, h1]; rfl) h2
    · cases h
  · cases h

theorem binOp_sound (hr : HR E C) (hf : FrameR C lam st a) {op : BinOp} {t s : TypeId} {y z : Operand} (ho : o.op = .binOp op t y z s)
    (h : opK E cf site o st C.H (fun x s G => some (x, s, G)) = some (x, st', H')) : o.wp E.P a C.w (Post E C (stPut st' o.dst x) H') Q := by
  unfold opK at h
  simp only [ho] at h
  split at h
  · rename_i vy vz hy hz
    obtain ⟨v, hv, h⟩ := withV_some h
    obtain ⟨u, g1, g2⟩ := bin_ok (xo := y) (yo := z) (fun hc => by
      cases z with
      | const c => exact ⟨c, rfl⟩
      | _ => cases hc) hv (eval_ok hr hf hy) (eval_ok hr hf hz)
    exact pure_wp hr hf h (by unfold execOp; simp only [ho]; exact run_v g1) g2
  · cases h

theorem unOp_sound (hr : HR E C) (hf : FrameR C lam st a) {op : UnOp} {t : TypeId} {y : Operand} (ho : o.op = .unOp op t y)
    (h : opK E cf site o st C.H (fun x s G => some (x, s, G)) = some (x, st', H')) : o.wp E.P a C.w (Post E C (stPut st' o.dst x) H') Q := by
  unfold opK at h
  simp only [ho] at h
  split at h
  · rename_i vy hy
    obtain ⟨v, hv, h⟩ := withV_some h
    obtain ⟨u, g1, g2⟩ := un_ok hv (eval_ok hr hf hy)
    exact pure_wp hr hf h (by unfold execOp; simp only [ho]; exact run_v g1) g2
  · cases h

theorem convert_ok {s d : TypeId} {y v : AV} {u : Value} {w : World} (h : convert E s d y = some v) (hy : V C p y u) : ∃ u', (Go.convert s d u).run E.P w = .ok u' w ∧ V C true v u' := by
  unfold convert at h
  split at h
  · rename_i ds k n hs hd
    simp only [Option.some.injEq] at h
    subst h
    have := hy.int_inv
    subst this
    refine ⟨_, ?_, .int _ _ _⟩
    unfold Go.convert
    simp only [Sem.run_bind, run_underlying hs, run_underlying hd, Result.andThen_ok]
    cases ds <;> rfl
  · rename_i ds l hs hd
    simp only [Option.some.injEq] at h
    subst h
    obtain ⟨b, rfl, rfl⟩ := hy.str_inv
    refine ⟨_, ?_, .str _ _⟩
    unfold Go.convert
    simp only [Sem.run_bind, run_underlying hs, run_underlying hd, Result.andThen_ok]
    cases ds <;> rfl
  · rename_i ds k n hs hd
    simp only [Option.some.injEq] at h
    subst h
    have := hy.int_inv
    subst this
    refine ⟨_, ?_, .str _ _⟩
    unfold Go.convert
    simp only [Sem.run_bind, run_underlying hs, run_underlying hd, Result.andThen_ok]
    cases ds <;> rfl
  · cases h

theorem convert_sound (hr : HR E C) (hf : FrameR C lam st a) {s d : TypeId} {y : Operand} (ho : o.op = .convert s d y)
    (h : opK E cf site o st C.H (fun x s G => some (x, s, G)) = some (x, st', H')) : o.wp E.P a C.w (Post E C (stPut st' o.dst x) H') Q := by
  unfold opK at h
  simp only [ho] at h
  split at h
  · rename_i vy hy
    unfold convertK at h
    split at h
    · rename_i v hv
      obtain ⟨u, g1, g2⟩ := convert_ok (w := C.w) hv (eval_ok hr hf hy)
      exact pure_wp hr hf h (by unfold execOp; simp only [ho]; exact run_v g1) g2
    · split at h
      · rename_i v hv
        obtain ⟨u, g1, g2⟩ := convH_ok hr hv (eval_ok hr hf hy)
        exact pure_wp hr hf h (by unfold execOp; simp only [ho]; exact run_v g1) g2
      · split at h
        · rename_i q hq
          obtain ⟨u, C', g1, g2, g3, g4, g5⟩ := convN_ok hr hq (eval_ok hr hf hy)
          exact make_wp hf h (by unfold execOp; simp only [ho]; exact run_v g1) g2 g3 g4 g5
        · cases h
  · cases h

theorem makeInterface_sound (hr : HR E C) (hf : FrameR C lam st a) {t : TypeId} {y : Operand} (ho : o.op = .makeInterface t y)
    (h : opK E cf site o st C.H (fun x s G => some (x, s, G)) = some (x, st', H')) : o.wp E.P a C.w (Post E C (stPut st' o.dst x) H') Q := by
  unfold opK at h
  simp only [ho] at h
  split at h
  · rename_i vy d hy hd
    split at h
    · cases h
    · rename_i hni
      refine pure_wp hr hf h ?_ (.iface _ _ _ _ (eval_ok hr hf hy))
      unfold execOp
      simp only [ho]
      refine run_v ?_
      unfold Instr.makeInterface
      simp only [Sem.run_bind, run_underlying hd, Result.andThen_ok]
      cases d <;> first | rfl | exact absurd rfl (hni _)
  · cases h

theorem makeFunc_sound (hr : HR E C) (hf : FrameR C lam st a) {f : Fn} {ys zs : Array Operand} (ho : o.op = .makeFunc f ys zs)
    (h : opK E cf site o st C.H (fun x s G => some (x, s, G)) = some (x, st', H')) : o.wp E.P a C.w (Post E C (stPut st' o.dst x) H') Q := by
  unfold opK at h
  simp only [ho] at h
  split at h
  · rename_i vy vz hy hz
    refine pure_wp (u := .func f (ys.map a.eval) (zs.map a.eval)) hr hf h ?_ (.fn _ _ _ _ _ _ (by simpa using evals_ok hr hf hy) (by simpa using evals_ok hr hf hz))
    unfold execOp
    simp only [ho]
    exact run_v rfl
  · cases h

theorem elem_slice {t e : TypeId} (he : E.elem t = some e) : E.P.underlying t = some (.slice e) := by
  unfold Env.elem at he
  split at he
  · rename_i e' h1
    simp only [Option.some.injEq] at he
    rw [h1, he]
  · cases he

theorem makeSlice_sound (hr : HR E C) (hf : FrameR C lam st a) {t : TypeId} {y z : Operand} (ho : o.op = .makeSlice t y z)
    (h : opK E cf site o st C.H (fun x s G => some (x, s, G)) = some (x, st', H')) : o.wp E.P a C.w (Post E C (stPut st' o.dst x) H') Q := by
  unfold opK at h
  simp only [ho] at h
  split at h
  · rename_i e he
    split at h
    · rename_i sz by_ zv vl vc hsz hby hz hl hc
      cases hcd : (zv.cells.length == sz && decide (0 < sz))
      · simp only [hcd, cond_false] at h
        cases h
      · simp only [hcd, cond_true] at h
        simp only [Bool.and_eq_true, beq_iff_eq, decide_eq_true_eq] at hcd
        split at h
        · rename_i w H1 hm
          obtain ⟨u, C', g1, g2, g3, g4, g5⟩ := makeSlice_ok hr (elem_slice he) hsz hby hz hcd.1 hcd.2 hm (eval_ok hr hf hl) (eval_ok hr hf hc)
          exact make_wp hf h (by unfold execOp; simp only [ho]; exact run_v g1) g3 g4 g5 g2
        · cases h
    · cases h
  · cases h

theorem slice_sound (hr : HR E C) (hf : FrameR C lam st a) {t : TypeId} {y : Operand} {lo hi mx : Option Operand} (ho : o.op = .slice t y lo hi mx)
    (h : opK E cf site o st C.H (fun x s G => some (x, s, G)) = some (x, st', H')) : o.wp E.P a C.w (Post E C (stPut st' o.dst x) H') Q := by
  unfold opK at h
  simp only [ho] at h
  split at h
  · rename_i v l hh m hv hl hhi hm
    obtain ⟨k1, _⟩ := opt_evals hr hf hl
    obtain ⟨k2, e2⟩ := opt_evals hr hf hhi
    obtain ⟨k3, e3⟩ := opt_evals hr hf hm
    split at h
    · rename_i ht
      split at h
      · obtain ⟨v', hv', h⟩ := withV_some h
        obtain ⟨u, g1, g2⟩ := sliceStr_ok ht k1 k2 hv' (eval_ok hr hf hv)
        have : mx = none := e3.1 rfl
        subst this
        exact pure_wp hr hf h (by unfold execOp; simp only [ho]; exact run_v g1) g2
      · cases h
    · rename_i e ht
      split at h
      · rename_i sz hsz
        cases hc : (m.isEmpty || !hh.isEmpty)
        · simp only [hc, cond_false] at h
          cases h
        · simp only [hc, cond_true] at h
          obtain ⟨v', hv', h⟩ := withV_some h
          obtain ⟨u, g1, g2⟩ := slice_ok ht hsz k1 k2 k3 (by
            cases m with
            | nil => exact .inl rfl
            | cons _ _ => cases hh with
              | nil => simp at hc
              | cons _ _ => exact .inr (by simp)) hv' (eval_ok hr hf hv)
          exact pure_wp hr hf h (by unfold execOp; simp only [ho]; exact run_v g1) g2
      · cases h
    · cases h
  · cases h

theorem fieldAddr_sound (hr : HR E C) (hf : FrameR C lam st a) {s : TypeId} {y : Operand} {i : Nat} (ho : o.op = .fieldAddr s y i)
    (h : opK E cf site o st C.H (fun x s G => some (x, s, G)) = some (x, st', H')) : o.wp E.P a C.w (Post E C (stPut st' o.dst x) H') Q := by
  unfold opK at h
  simp only [ho] at h
  have hrun : ∀ u, (Instr.fieldAt s (a.eval y) i).run E.P C.w = .ok u C.w → (execOp a.eval o).run E.P C.w = .ok (.value u) C.w := fun u hn => by
    unfold execOp
    simp only [ho]
    exact run_v hn
  split at h
  · rename_i fo hfo
    cases y with
    | tmp t =>
      dsimp only at h
      split at h
      · rename_i s1 off hw
        obtain ⟨h1, h2⟩ := slot_lp hf hw
        exact lpe_wp hr hf h (hrun _ (by rw [h1, fieldOff_run hfo, Addr.add_lit])) h2
      · rename_i w hw
        obtain ⟨v, hv, h⟩ := withV_some h
        obtain ⟨u, g1, g2⟩ := fa_ok hfo hv (slot_val hf hw)
        exact pure_wp hr hf h (hrun u g1) g2
      · cases h
    | _ =>
      dsimp only at h
      split at h
      · rename_i w hw
        obtain ⟨v, hv, h⟩ := withV_some h
        obtain ⟨u, g1, g2⟩ := fa_ok hfo hv (eval_ok hr hf hw)
        exact pure_wp hr hf h (hrun u g1) g2
      · cases h
  · cases h

theorem field_sound (hr : HR E C) (hf : FrameR C lam st a) {t : TypeId} {y : Operand} {i : Nat} (ho : o.op = .field t y i)
    (h : opK E cf site o st C.H (fun x s G => some (x, s, G)) = some (x, st', H')) : o.wp E.P a C.w (Post E C (stPut st' o.dst x) H') Q := by
  unfold opK at h
  simp only [ho] at h
  split at h
  · rename_i f hfo
    split at h
    · rename_i ag sz vy hag hsz hy
      obtain ⟨v, hv, h⟩ := withV_some h
      obtain ⟨u, g1, g2⟩ := field_ok hfo hag hsz hv (eval_ok hr hf hy)
      exact pure_wp hr hf h (by unfold execOp; simp only [ho]; exact run_v g1) g2
    · cases h
  · cases h

theorem indexAddr_sound (hr : HR E C) (hf : FrameR C lam st a) {t : TypeId} {y z : Operand} (ho : o.op = .indexAddr t y z)
    (h : opK E cf site o st C.H (fun x s G => some (x, s, G)) = some (x, st', H')) : o.wp E.P a C.w (Post E C (stPut st' o.dst x) H') Q := by
  unfold opK at h
  simp only [ho] at h
  have hrun : ∀ u, (Instr.indexAt t (a.eval y) (a.eval z)).run E.P C.w = .ok u C.w → (execOp a.eval o).run E.P C.w = .ok (.value u) C.w := fun u hn => by
    unfold execOp
    simp only [ho]
    exact run_v hn
  split at h
  · rename_i vi hi
    split at h
    · rename_i e ht
      split at h
      · rename_i sz vy hsz hy
        obtain ⟨v, hv, h⟩ := withV_some h
        obtain ⟨u, g1, g2⟩ := idx_ok ht hsz hv (eval_ok hr hf hy) (eval_ok hr hf hi)
        exact pure_wp hr hf h (hrun u g1) g2
      · cases h
    · rename_i n e ht
      split at h
      · rename_i sz q hsz
        split at h
        · rename_i s1 off hw
          obtain ⟨h1, h2⟩ := slot_lp hf hw
          split at h
          · rename_i k j
            split at h
            · rename_i hj
              have hi' := (eval_ok hr hf hi).int_inv
              refine lpe_wp hr hf h (hrun _ ?_) h2
              rw [h1, hi', idxArr_lp ht hsz hj, Addr.add_lit]
            · cases h
          · cases h
        · rename_i w hw
          obtain ⟨v, hv, h⟩ := withV_some h
          obtain ⟨u, g1, g2⟩ := idxArr_ok ht hsz hv (slot_val hf hw) (eval_ok hr hf hi)
          exact pure_wp hr hf h (hrun u g1) g2
        · cases h
      · rename_i sz hsz _
        split at h
        · rename_i w hw
          obtain ⟨v, hv, h⟩ := withV_some h
          obtain ⟨u, g1, g2⟩ := idxArr_ok ht hsz hv (eval_ok hr hf hw) (eval_ok hr hf hi)
          exact pure_wp hr hf h (hrun u g1) g2
        · cases h
      · cases h
    · cases h
  · cases h

theorem index_sound (hr : HR E C) (hf : FrameR C lam st a) {t : TypeId} {y z : Operand} (ho : o.op = .index t y z)
    (h : opK E cf site o st C.H (fun x s G => some (x, s, G)) = some (x, st', H')) : o.wp E.P a C.w (Post E C (stPut st' o.dst x) H') Q := by
  unfold opK at h
  simp only [ho] at h
  have hrun : ∀ u, (Instr.index t (a.eval y) (a.eval z)).run E.P C.w = .ok u C.w → (execOp a.eval o).run E.P C.w = .ok (.value u) C.w := fun u hn => by
    unfold execOp
    simp only [ho]
    exact run_v hn
  split at h
  · rename_i vy vi hy hi
    split at h
    · rename_i ht
      obtain ⟨v, hv, h⟩ := withV_some h
      obtain ⟨u, g1, g2⟩ := index_ok ht hv (eval_ok hr hf hy) (eval_ok hr hf hi)
      exact pure_wp hr hf h (hrun u g1) g2
    · rename_i n e ht
      split at h
      · rename_i ag sz hag hsz
        obtain ⟨v, hv, h⟩ := withV_some h
        obtain ⟨u, g1, g2⟩ := indexArr_ok ht hag hsz hv (eval_ok hr hf hy) (eval_ok hr hf hi)
        exact pure_wp hr hf h (hrun u g1) g2
      · cases h
    · cases h
  · cases h

theorem extract_sound (hr : HR E C) (hf : FrameR C lam st a) {y : Operand} {i : Nat} (ho : o.op = .extract y i)
    (h : opK E cf site o st C.H (fun x s G => some (x, s, G)) = some (x, st', H')) : o.wp E.P a C.w (Post E C (stPut st' o.dst x) H') Q := by
  unfold opK at h
  simp only [ho] at h
  split at h
  · rename_i vs hy
    obtain ⟨v, hv, h⟩ := withV_some h
    have hu := eval_ok hr hf hy
    generalize hay : a.eval y = uy at hu
    cases hu with
    | tup _ _ us h1 =>
      obtain ⟨u, g1, g2⟩ := h1.get hv
      refine pure_wp hr hf h ?_ g2
      unfold execOp
      simp only [ho, hay]
      refine run_v ?_
      unfold Instr.extract
      rw [Array.getElem?_toList] at g1
      simp only [g1, Sem.run_pure]
  · cases h

theorem typeAssert_sound (hr : HR E C) (hf : FrameR C lam st a) {y : Operand} {xt t : TypeId} {ok : Bool} (ho : o.op = .typeAssert y xt t ok)
    (h : opK E cf site o st C.H (fun x s G => some (x, s, G)) = some (x, st', H')) : o.wp E.P a C.w (Post E C (stPut st' o.dst x) H') Q := by
  unfold opK at h
  simp only [ho] at h
  have hrun : ∀ u, (Instr.typeAssert (a.eval y) xt t ok).run E.P C.w = .ok u C.w → (execOp a.eval o).run E.P C.w = .ok (.value u) C.w := fun u hn => by
    unfold execOp
    simp only [ho]
    exact run_v hn
  split at h
  · rename_i d w u hy ht
    have hu := eval_ok hr hf hy
    generalize hay : a.eval y = uy at hu hrun
    cases hu with
    | iface _ _ _ uw hw =>
      split at h
      · cases h
      · rename_i hni
        cases ok
        · simp only [cond_false] at h
          split at h
          · rename_i hd
            refine pure_wp hr hf h (hrun uw ?_) hw
            unfold Instr.typeAssert
            simp only [Sem.run_bind, run_underlying ht, Result.andThen_ok]
            cases u <;> first | exact absurd rfl (hni _) | (simp only [hd, if_true, Sem.run_pure]; rfl)
          · cases h
        · simp only [cond_true] at h
          split at h
          · rename_i hd
            refine pure_wp hr hf h (hrun (.tuple #[uw, .bool true]) ?_) (.tup _ _ _ (.cons _ _ _ _ _ hw (.cons _ _ _ _ _ (.bool _ _) (.nil _))))
            unfold Instr.typeAssert
            simp only [Sem.run_bind, run_underlying ht, Result.andThen_ok]
            cases u <;> first | exact absurd rfl (hni _) | (simp only [hd, if_true, Sem.run_pure])
          · rename_i hd
            split at h
            · rename_i z hz
              obtain ⟨zv, k1, k2⟩ := zero_run hz C.w
              refine pure_wp hr hf h (hrun (.tuple #[zv, .bool false]) ?_) (.tup _ _ _ (.cons _ _ _ _ _ k2.weaken (.cons _ _ _ _ _ (.bool _ _) (.nil _))))
              unfold Instr.typeAssert
              simp only [Sem.run_bind, run_underlying ht, Result.andThen_ok]
              cases u <;> first | exact absurd rfl (hni _) | (simp only [hd, if_false, if_true, Sem.run_bind, k1, Result.andThen_ok, Sem.run_pure])
            · cases h
  · cases h

end
end Go.Den

/- DEN, part R: texts sign by sign; the builtin functions; calls; each operation. -/
namespace Go.Den
open Go.RowKit

section
variable {E : Env} {cf : CallFn} {C C' : Ctx} {lam : Nat → Nat} {st : St} {a : Act} {o : Oper} {Q : Exit → Act → World → Prop} {q p : Bool} {site : Option Nat} {x : SV} {st' : St} {H' : Heap}

theorem range_sound (hr : HR E C) (hf : FrameR C lam st a) {t : TypeId} {y : Operand} (ho : o.op = .range t y)
    (h : opK E cf site o st C.H (fun x s G => some (x, s, G)) = some (x, st', H')) : o.wp E.P a C.w (Post E C (stPut st' o.dst x) H') Q := by
  unfold opK at h
  simp only [ho] at h
  split at h
  · rename_i l ht hy
    obtain ⟨s, hs, hsv⟩ := (eval_ok hr hf hy).str_inv
    have ev := grow_ev (o := .iter l 0) (w' := C.w.alloc (.stringIter s 0)) hr ⟨rfl, rfl, rfl⟩ rfl
    have hr' : HR E (C.grow (C.w.alloc (.stringIter s 0)) (.iter l 0)) := grow_hr hr ⟨rfl, rfl, rfl⟩ rfl (fun _ _ _ _ e => by cases e) (fun l' pos e => by
      injection e with e1 e2
      subst e1 e2
      refine ⟨by simp [Ctx.grow], s, hs, ?_⟩
      show (C.w.heap.push _)[((C.grow _ _).ρ C.H.length).1]? = _
      rw [grow_place]
      simp)
    refine make_wp (C' := C.grow (C.w.alloc (.stringIter s 0)) (.iter l 0)) hf h (u := .pointer (some ⟨C.w.heap.size, 0, none⟩)) ?_ hr' ev rfl (.it _ _ rfl ⟨by show _ < (C.H ++ [_]).length; simp, fun l' pos e => by rw [grow_place]⟩)
    unfold execOp
    simp only [ho, hsv]
    refine run_v ?_
    unfold Instr.range
    simp only [Sem.run_bind, run_underlying ht, Result.andThen_ok, Sem.run_pure, run_newObj_alloc]
    rfl
  · cases h

theorem next_sound (hr : HR E C) (hf : FrameR C lam st a) {y : Operand} {b : Bool} (ho : o.op = .next y b)
    (h : opK E cf site o st C.H (fun x s G => some (x, s, G)) = some (x, st', H')) : o.wp E.P a C.w (Post E C (stPut st' o.dst x) H') Q := by
  unfold opK at h
  simp only [ho] at h
  cases b
  · cases h
  · dsimp only at h
    split at h
    · rename_i id hy
      split at h
      · rename_i l pos hi
        have hu := eval_ok hr hf hy
        have hp : a.eval y = .pointer (some ⟨(C.ρ id).1, 0, none⟩) := by
          generalize a.eval y = u at hu
          cases hu with
          | it _ _ _ h2 => exact h2.2 l pos hi
        obtain ⟨hk, s, hsl, hheap⟩ := hr.iter id l pos hi
        have hsz : l.length = s.size := by rw [← hsl]; exact Array.length_toList
        have hsa : (⟨l.toArray⟩ : ByteArray) = s := by
          rw [← hsl]
        have hrun : ∀ u w', (Instr.next (.pointer (some ⟨(C.ρ id).1, 0, none⟩)) true o.type).run E.P C.w = .ok u w' → (execOp a.eval o).run E.P C.w = .ok (.value u) w' := fun u w' hn => by
          unfold execOp
          simp only [ho, hp]
          exact run_v hn
        split at h
        · rename_i hlt
          have hlt' : pos < s.size := by omega
          have hne : ∀ b i, C.κ b = .obj i → i ≠ id → b ≠ (C.ρ id).1 := fun b i hb hi e => by
            rw [e, hk] at hb
            injection hb with hb
            exact hi hb.symm
          have hbs : (C.ρ id).1 < C.w.heap.size := (Array.getElem?_eq_some_iff.1 hheap).1
          have hidl : id < C.H.length := (List.getElem?_eq_some_iff.1 hi).1
          generalize hd : Utf8.decode s pos = d
          have hot : ∀ b, b ≠ (C.ρ id).1 → (C.w.heap.setIfInBounds (C.ρ id).1 (.stringIter s (pos + d.2)))[b]? = C.w.heap[b]? := fun b hb => Array.getElem?_setIfInBounds_ne (fun e => hb e.symm)
          have hHne : ∀ i, i ≠ id → ∀ n, (C.H.set id (HObj.iter l (pos + n)))[i]? = C.H[i]? := fun i hi n => List.getElem?_set_ne (fun e => hi e.symm)
          have hHself : ∀ n, (C.H.set id (HObj.iter l (pos + n)))[id]? = some (.iter l (pos + n)) := fun n => List.getElem?_set_self hidl
          let C1 : Ctx := { C with w := { C.w with heap := C.w.heap.setIfInBounds (C.ρ id).1 (.stringIter s (pos + d.2)) }, H := C.H.set id (.iter l (pos + d.2)) }
          have ev : EvL C C1 := by
            refine ⟨⟨rfl, rfl, rfl, by simp [C1], fun b hb hk' => ⟨hot b fun e => ?_, rfl⟩, by simp [C1], ?_, ?_, ?_⟩, fun b hb s' hs' => ⟨hot b fun e => ?_, hs'⟩⟩
            · rw [e, hk] at hk'
              rcases hk' with hk' | hk' <;> cases hk'
            · intro i hil v sz ty es hrow
              by_cases e : i = id
              · subst e
                rw [hHself] at hrow
                cases hrow
              · rw [hHne i e] at hrow
                refine ⟨v, es, hrow, Nat.le_refl _, fun _ => ⟨rfl, fun cells t f hc => ⟨cells, t, f, ?_, rfl⟩⟩⟩
                rw [← hot _ (hne _ i (hr.row i v sz ty es hrow).2.2.1 e)]
                exact hc
            · intro i hil l' pos' hit
              by_cases e : i = id
              · subst e
                exact ⟨⟨l, pos, hi⟩, rfl⟩
              · rw [hHne i e] at hit
                exact ⟨⟨l', pos', hit⟩, rfl⟩
            · intro i hil k' e' es' hm
              by_cases e : i = id
              · subst e
                rw [hHself] at hm
                cases hm
              · rw [hHne i e] at hm
                exact ⟨⟨k', e', es', hm⟩, rfl⟩
            · rw [e, hk] at hs'
              cases hs'
          have hr' : HR E C1 := by
            refine hr.step ev.ev ?_ ?_ ?_
            · intro i v sz ty es hrow
              by_cases e : i = id
              · subst e
                rw [hHself] at hrow
                cases hrow
              · rw [hHne i e] at hrow
                exact .inl ⟨hrow, rfl, (hr.row i v sz ty es hrow).2.2.1, hot _ (hne _ i (hr.row i v sz ty es hrow).2.2.1 e)⟩
            · intro i l' pos' hit
              by_cases e : i = id
              · subst e
                rw [hHself] at hit
                injection hit with hit
                injection hit with h1 h2
                subst h1 h2
                exact .inr ⟨hk, s, hsl, by show (C.w.heap.setIfInBounds _ _)[_]? = _; rw [Array.getElem?_setIfInBounds_self_of_lt hbs]⟩
              · rw [hHne i e] at hit
                exact .inl ⟨hit, rfl, (hr.iter i l' pos' hit).1, hot _ (hne _ i (hr.iter i l' pos' hit).1 e)⟩
            · intro b hb
              exact hr.new b (by simpa [C1] using hb)
          rw [hsa, hd] at h
          refine make_wp (C' := C1) hf h (hrun (.tuple #[.bool true, goInt pos, .int .i32 d.1]) _ ?_) hr' ev rfl (.tup _ _ _ (.cons _ _ _ _ _ (.bool _ _) (.cons _ _ _ _ _ (.int _ _ _) (.cons _ _ _ _ _ (.int _ _ _) (.nil _)))))
          have hget : (getObj (C.ρ id).1).run E.P C.w = .ok (.stringIter s pos) C.w := by simp [getObj, Sem.run, hheap]
          have hset : ∀ n, (setObj (C.ρ id).1 (.stringIter s n)).run E.P C.w = .ok () { C.w with heap := C.w.heap.setIfInBounds (C.ρ id).1 (.stringIter s n) } := fun n => by simp [setObj, Sem.run, hheap]
          unfold Instr.next
          simp only [Sem.run_bind, hget, Result.andThen_ok, hlt', if_true, hd, hset, Sem.run_pure]
          rfl
        · rename_i hlt
          have hlt' : ¬ pos < s.size := by omega
          refine pure_wp (p := false) hr hf h (hrun (.tuple #[.bool false]) _ ?_) (.tup _ _ _ (.cons _ _ _ _ _ (.bool _ _) (.nil _)))
          have hget : (getObj (C.ρ id).1).run E.P C.w = .ok (.stringIter s pos) C.w := by simp [getObj, Sem.run, hheap]
          unfold Instr.next
          simp only [Sem.run_bind, hget, Result.andThen_ok, hlt', if_false, Sem.run_pure]

      · cases h
    · cases h

theorem max_ok {P : Program} {w : World} : ∀ {xs : List AV} {y v : AV} {u : Value} {us : List Value}, xs.foldlM A.maxv y = some v → V C p y u → Vs C p xs us → ∃ u', (us.foldlM Builtin.max2 u).run P w = .ok u' w ∧ V C p v u'
  | [], y, v, u, us, h, hy, hx => by
    cases hx
    simp only [List.foldlM_nil, Option.pure_def, Option.some.injEq] at h
    subst h
    exact ⟨u, rfl, hy⟩
  | z :: xs, y, v, u, us, h, hy, hx => by
    cases hx with
    | cons _ _ u1 _ us h1 h2 =>
      rw [List.foldlM_cons] at h
      simp only [Option.bind_eq_bind, Option.bind_eq_some_iff] at h
      obtain ⟨m, hm, h⟩ := h
      unfold A.maxv at hm
      split at hm
      · rename_i k a k' b
        cases hk : decide (k = k')
        · rw [hk] at hm; cases hm
        · rw [hk] at hm
          simp only [cond_true, Option.some.injEq] at hm
          subst hm
          cases hy
          cases h1
          obtain ⟨u', g1, g2⟩ := max_ok (P := P) (w := w) h (.int p k _) h2
          refine ⟨u', ?_, g2⟩
          rw [List.foldlM_cons, Sem.run_bind]
          exact g1
      · cases hm

theorem min_ok {P : Program} {w : World} : ∀ {xs : List AV} {y v : AV} {u : Value} {us : List Value}, xs.foldlM A.minv y = some v → V C p y u → Vs C p xs us → ∃ u', (us.foldlM Builtin.min2 u).run P w = .ok u' w ∧ V C p v u'
  | [], y, v, u, us, h, hy, hx => by
    cases hx
    simp only [List.foldlM_nil, Option.pure_def, Option.some.injEq] at h
    subst h
    exact ⟨u, rfl, hy⟩
  | z :: xs, y, v, u, us, h, hy, hx => by
    cases hx with
    | cons _ _ u1 _ us h1 h2 =>
      rw [List.foldlM_cons] at h
      simp only [Option.bind_eq_bind, Option.bind_eq_some_iff] at h
      obtain ⟨m, hm, h⟩ := h
      unfold A.minv at hm
      split at hm
      · rename_i k a k' b
        cases hk : decide (k = k')
        · rw [hk] at hm; cases hm
        · rw [hk] at hm
          simp only [cond_true, Option.some.injEq] at hm
          subst hm
          cases hy
          cases h1
          obtain ⟨u', g1, g2⟩ := min_ok (P := P) (w := w) h (.int p k _) h2
          refine ⟨u', ?_, g2⟩
          rw [List.foldlM_cons, Sem.run_bind]
          exact g1
      · cases hm

theorem arr_one {α : Type} {xs : Array α} {x : α} (h : xs.toList = [x]) : xs = #[x] := by
  apply Array.toList_inj.1
  exact h
theorem arr_two {α : Type} {xs : Array α} {x y : α} (h : xs.toList = [x, y]) : xs = #[x, y] := by
  apply Array.toList_inj.1
  exact h

theorem news_ok (hr : HR E C) {sz : Nat} {tx : TypeId} {y : AV} {u : Value} {news : List AV} (h : newsOf E sz tx y C.H = some news) (hy : V C p y u) :
    ∃ ws, Src E.P sz tx u news.length ws C.w ∧ Vs C false (news.flatMap AV.cells) ws ∧ ∀ e ∈ news, Good sz e := by
  unfold newsOf at h
  split at h
  · rename_i ht
    split at h
    · rename_i l
      cases hd : decide (sz = 1)
      · rw [hd] at h; cases h
      · rw [hd] at h
        simp only [cond_true, Option.some.injEq] at h
        simp only [decide_eq_true_eq] at hd
        subst hd h
        obtain ⟨s, rfl, rfl⟩ := hy.str_inv
        exact strElems_ok ht
    · cases h
  · rename_i e ht
    exact read_ok hr ht h hy
  · cases h

theorem isSl_ok {d : AV} {u : Value} {p : Bool} (h : A.isSl d C.H = true) (hd : V C p d u) : ∃ a n c, u = .slice a n c := by
  unfold A.isSl at h
  split at h
  · cases hd
    exact ⟨_, _, _, rfl⟩
  · rename_i id ver off n cap
    obtain ⟨sz, ty, es, hrow⟩ := alive_row h
    cases hd with
    | sl _ _ _ _ _ _ g0 g1 =>
      obtain ⟨a, c, hu, _⟩ := (g1.2 ver sz ty es hrow).2 rfl
      exact ⟨_, _, _, hu⟩
  · cases h

theorem copy_none {t tx ty e : TypeId} {sz : Nat} {x : Value} (he : E.P.underlying t = some (.slice e)) (hsz : E.size e = some sz) (hs : Src E.P sz tx x 0 [] C.w) (a : Option Addr) (n c : Nat) :
    (Builtin.copy_ #[t, tx] ty #[.slice a n c, x]).run E.P C.w = .ok (.int .i64 0) C.w := by
  have hl := hs.len C.w
  have hc := hs.cells
  have hz := size_run (E := E) (w := C.w) hsz
  have e1 : Builtin.copy_ #[t, tx] ty #[.slice a n c, x] = (do
      let .slice elem ← underlying t | stuck "copy: slice type expected"
      let n := Nat.min (← Builtin.lenOf x) n
      let cells ← Builtin.firstCells (← sizeOf elem) n x
      if let some a := a then storeCells a cells.toList
      pure (goInt n)) := rfl
  rw [e1]
  simp only [Sem.run_bind, run_underlying he, Result.andThen_ok, hl, hz]
  have : Nat.min 0 n = 0 := Nat.zero_min n
  simp only [this, hc, Result.andThen_ok]
  cases a <;> simp [storeCells, goInt]

/-- The builtin functions. -/
theorem builtin_sound (hr : HR E C) {b : Builtin} {ts : Array TypeId} {ty : TypeId} {cs : Array Bool} {args : List AV} {us : Array Value} {v : AV} (hv : Vs C false args us.toList)
    (h : builtinK E b ts.toList args C.H (fun v G => some (v, G)) = some (v, H')) :
    ∃ u C', (builtin b ts ty cs us).run E.P C.w = .ok (.value u) C'.w ∧ HR E C' ∧ EvL C C' ∧ C'.H = H' ∧ V C' false v u := by
  have one : ∀ {y : AV} {p : Bool}, Vs C p [y] us.toList → ∃ u, us = #[u] ∧ V C p y u := fun {y p} hv => by
    generalize hul : us.toList = ul at hv
    cases hv with
    | cons _ _ u _ us' h1 h2 =>
      cases h2
      exact ⟨u, arr_one hul, h1⟩
  have two : ∀ {y z : AV} {p : Bool}, Vs C p [y, z] us.toList → ∃ u1 u2, us = #[u1, u2] ∧ V C p y u1 ∧ V C p z u2 := fun {y z p} hv => by
    generalize hul : us.toList = ul at hv
    cases hv with
    | cons _ _ u _ us' h1 h2 =>
      cases h2 with
      | cons _ _ u2 _ us2 h3 h4 =>
        cases h4
        exact ⟨u, u2, arr_two hul, h1, h3⟩
  have same : ∀ {y : AV} {G : Heap}, (some (y, G) : Option (AV × Heap)) = some (v, H') → y = v ∧ G = H' := fun h => by
    simp only [Option.some.injEq, Prod.mk.injEq] at h
    exact h
  unfold builtinK at h
  split at h
  · rename_i t x hts
    obtain ⟨u, rfl, h1⟩ := one hv
    have := arr_one hts
    subst this
    split at h
    · rename_i ht
      obtain ⟨v', hv', h⟩ := withV_some h
      obtain ⟨rfl, rfl⟩ := same h
      obtain ⟨u', g1, g2⟩ := lenStr_ok (ty := ty) ht hv' h1
      exact ⟨u', C, run_v g1, hr, EvL.refl C, rfl, g2.weaken⟩
    · rename_i e ht
      obtain ⟨v', hv', h⟩ := withV_some h
      obtain ⟨rfl, rfl⟩ := same h
      obtain ⟨u', g1, g2⟩ := len_ok (ty := ty) ht hv' h1
      exact ⟨u', C, run_v g1, hr, EvL.refl C, rfl, g2.weaken⟩
    · cases h
  · rename_i x xs
    obtain ⟨v', hv', h⟩ := withV_some h
    obtain ⟨rfl, rfl⟩ := same h
    generalize hul : us.toList = ul at hv
    cases hv with
    | cons _ _ u _ us' h1 h2 =>
      obtain ⟨u', g1, g2⟩ := max_ok (P := E.P) (w := C.w) hv' h1 h2
      exact ⟨u', C, run_v (by unfold Builtin.max_; rw [hul]; exact g1), hr, EvL.refl C, rfl, g2⟩
  · rename_i x xs
    obtain ⟨v', hv', h⟩ := withV_some h
    obtain ⟨rfl, rfl⟩ := same h
    generalize hul : us.toList = ul at hv
    cases hv with
    | cons _ _ u _ us' h1 h2 =>
      obtain ⟨u', g1, g2⟩ := min_ok (P := E.P) (w := C.w) hv' h1 h2
      exact ⟨u', C, run_v (by unfold Builtin.min_; rw [hul]; exact g1), hr, EvL.refl C, rfl, g2⟩
  · rename_i t tx s x hts
    obtain ⟨u1, u2, rfl, h1, h2⟩ := two hv
    have := arr_two hts
    subst this
    split at h
    · rename_i e he
      split at h
      · rename_i sz by_ z hsz hby hz
        cases hc : (decide (z.cells.length = sz) && decide (0 < sz))
        · simp only [hc, cond_false] at h
          cases h
        · simp only [hc, cond_true] at h
          simp only [Bool.and_eq_true, decide_eq_true_eq] at hc
          split at h
          · rename_i news hnews
            split at h
            · rename_i v1 H1 ha
              obtain ⟨rfl, rfl⟩ := same h
              obtain ⟨ws, k1, k2, k3⟩ := news_ok hr hnews h2
              obtain ⟨u, C', g1, g2, g3, g4, g5⟩ := append_ok (ty := ty) hr (elem_slice he) hsz hby hz hc.1 hc.2 k1 k2 k3 ha h1
              exact ⟨u, C', run_v g1, g3, g4, g5, g2⟩
            · cases h
          · cases h
      · cases h
    · cases h
  · rename_i t d hts
    obtain ⟨u1, rfl, h1⟩ := one hv
    have := arr_one hts
    subst this
    split at h
    · rename_i e he
      split at h
      · rename_i sz z hsz hz
        cases hc : decide (z.cells.length = sz)
        · simp only [hc, cond_false] at h
          cases h
        · simp only [hc, cond_true] at h
          simp only [decide_eq_true_eq] at hc
          split at h
          · rename_i v1 H1 ha
            obtain ⟨rfl, rfl⟩ := same h
            obtain ⟨u, C', g1, g2, g3, g4, g5⟩ := clear_ok (ty := ty) hr (elem_slice he) hsz hz hc ha h1
            exact ⟨u, C', run_v g1, g3, g4, g5, g2⟩
          · cases h
      · cases h
    · cases h
  · rename_i t tx d x hts
    obtain ⟨u1, u2, rfl, h1, h2⟩ := two hv
    have := arr_two hts
    subst this
    split at h
    · rename_i e he
      split at h
      · rename_i sz hsz
        split at h
        · rename_i hnews
          cases hi : A.isSl d C.H
          · rw [hi] at h
            cases h
          · rw [hi] at h
            simp only [cond_true] at h
            obtain ⟨rfl, rfl⟩ := same h
            obtain ⟨ws, k1, k2, k3⟩ := news_ok hr hnews h2
            obtain ⟨a, n, c, hu⟩ := isSl_ok hi h1
            subst hu
            have hw : ws = [] := by
              have := k1.newsLen
              simpa using this
            subst hw
            refine ⟨.int .i64 0, C, run_v ?_, hr, EvL.refl C, rfl, .int _ _ _⟩
            exact copy_none (elem_slice he) hsz k1 a n c
        · cases h
      · cases h
    · cases h
  · rename_i t hts
    obtain ⟨u1, rfl, h1⟩ := one hv
    have := arr_one hts
    subst this
    split at h
    · rename_i e he
      obtain ⟨rfl, rfl⟩ := same h
      cases h1
      exact ⟨.int .i64 0, C, run_v (by simp [Builtin.cap_, run_underlying he, goInt]), hr, EvL.refl C, rfl, .int _ _ _⟩
    · cases h
  · rename_i t s hts
    obtain ⟨u1, rfl, h1⟩ := one hv
    have := arr_one hts
    subst this
    obtain ⟨v', hv', h⟩ := withV_some h
    obtain ⟨rfl, rfl⟩ := same h
    obtain ⟨u, g1, g2⟩ := sliceData_ok (ts := #[t]) (ty := ty) hv' h1
    exact ⟨u, C, run_v g1, hr, EvL.refl C, rfl, g2⟩
  · rename_i pt it x n hts
    obtain ⟨u1, u2, rfl, h1, h2⟩ := two hv
    have := arr_two hts
    subst this
    split at h
    · rename_i e he
      cases hc : Nat.beq (E.P.cellsOf e) 1
      · rw [hc] at h
        cases h
      · rw [hc] at h
        simp only [cond_true] at h
        split at h
        · rename_i v1 H1 ha
          obtain ⟨rfl, rfl⟩ := same h
          obtain ⟨u, C', g1, g2, g3, g4, g5⟩ := unsafeStr_ok (it := it) (ty := ty) hr he (Nat.eq_of_beq_eq_true hc) ha h1 h2
          exact ⟨u, C', run_v g1, g2, g3, g4, g5⟩
        · cases h
    · cases h
  · cases h

theorem callV_sound (hck : CallKOK E cf) (hr : HR E C) {f : AV} {uf : Value} {args : List AV} {us : Array Value} {v : AV} (hfv : V C false f uf) (hv : Vs C false args us.toList)
    (h : callV E cf f args C.H (fun v G => some (v, G)) = some (v, H')) : ∃ g fs cs, uf = .func (.func g) fs cs ∧ Lands E.P g (fs ++ us ++ cs) C.w (GivesL E C v H') := by
  unfold callV at h
  split at h
  · rename_i g first captured
    cases hfv with
    | fn _ _ _ _ fs cs h1 h2 =>
      refine ⟨g, fs, cs, rfl, hck _ _ C _ _ _ h hr ?_⟩
      rw [Array.toList_append, Array.toList_append]
      exact (h1.append hv).append h2
  · cases h

/-- What is given goes on. -/
theorem gives_wp {v : AV} {x : SV} {H1 : Heap} {g : FuncId} {us : Array Value} (hf : FrameR C lam st a) (hrun : (execOp a.eval o).run E.P C.w = (callFunc g us).run E.P C.w) (hl : Lands E.P g us C.w (GivesL E C v H1))
    (h : (some (SV.val v, st, H1) : Option (SV × St × Heap)) = some (x, st', H')) : o.wp E.P a C.w (Post E C (stPut st' o.dst x) H') Q := by
  simp only [Option.some.injEq, Prod.mk.injEq] at h
  obtain ⟨rfl, rfl, rfl⟩ := h
  exact lands_wp hf hrun hl

theorem method_run {t : TypeId} {v : Value} {m : String} {mt : Method} {f : FuncId} {ptr : Bool} {w : World} {d : TypeDesc} (hm : (E.P.info? t).bind (fun i => i.methods.find? (·.name == m)) = some mt) (hfn : mt.func = some (f, ptr)) (hp : mt.path.toList = [])
    (hd : E.P.underlying t = some d) (hk : (∃ e, d = .pointer e ∧ ptr = true) ∨ ((∀ e, d ≠ .pointer e) ∧ ptr = false)) (n : Nat) : (method (n + 1) t v m).run E.P w = .ok (f, v) w := by
  simp only [Option.bind_eq_some_iff] at hm
  obtain ⟨i, hi, hm⟩ := hm
  have hti : (typeInfo t).run E.P w = .ok i w := by simp [typeInfo, Sem.run_bind, hi]
  unfold method
  simp only [Sem.run_bind, hti, Result.andThen_ok, hm, hp, follow, Sem.run_pure, hfn]
  rcases hk with ⟨e, rfl, rfl⟩ | ⟨hne, rfl⟩
  · simp only [receiverAt, Sem.run_bind, run_underlying hd, Result.andThen_ok, Place.get, Sem.run_pure]
  · simp only [receiverAt, Sem.run_bind, run_underlying hd, Result.andThen_ok]
    cases d <;> first | exact absurd rfl (hne _) | simp only [Place.get, Sem.run_pure, Result.andThen_ok]

theorem call_sound (hcn : CNat cf) (hck : CallKOK E cf) (hr : HR E C) (hf : FrameR C lam st a) {c : Call} (ho : o.op = .call c)
    (h : opK E cf site o st C.H (fun x s G => some (x, s, G)) = some (x, st', H')) : o.wp E.P a C.w (Post E C (stPut st' o.dst x) H') Q := by
  unfold opK at h
  simp only [ho] at h
  split at h
  · rename_i args hargs
    have hv : Vs C false args (c.args.map a.eval).toList := by simpa using evals_ok hr hf hargs
    split at h
    · rename_i f hc
      split at h
      case h_2 =>
        split at h
        · rename_i g
          rw [callQ_nat _ _ _ (k := fun w H' => some (SV.val w, st, H')) (g := fun v G => some (v, G)) (h := fun p => some (SV.val p.1, st, p.2)) (fun _ _ => rfl)] at h
          simp only [Option.bind_eq_some_iff] at h
          obtain ⟨⟨v, H1⟩, h1, h⟩ := h
          refine gives_wp hf ?_ (hck _ _ C _ _ _ (callQ_callK h1) hr hv) h
          unfold execOp
          simp only [ho, resolve, hc, Act.eval, Deferred.ofValue, Sem.run_bind, Sem.run_pure, Result.andThen_ok, invoke]
          simp only [Array.empty_append, Array.append_empty]
        · cases h
      split at h
      · rename_i fv hfv
        rw [callV_nat hcn _ _ _ (k := fun w H' => some (SV.val w, st, H')) (g := fun v G => some (v, G)) (h := fun p => some (SV.val p.1, st, p.2)) (fun _ _ => rfl)] at h
        simp only [Option.bind_eq_some_iff] at h
        obtain ⟨⟨v, H1⟩, h1, h⟩ := h
        obtain ⟨g, fs, cs, hu, hl⟩ := callV_sound hck hr (eval_ok hr hf hfv) hv h1
        refine gives_wp hf ?_ hl h
        unfold execOp
        simp only [ho, resolve, hc, hu, Deferred.ofValue, Sem.run_bind, Sem.run_pure, Result.andThen_ok, invoke]
      · cases h
    · rename_i b hc
      rw [builtinK_nat _ _ _ _ (k := fun w H' => some (SV.val w, st, H')) (g := fun v G => some (v, G)) (h := fun p => some (SV.val p.1, st, p.2)) (fun _ _ => rfl)] at h
      simp only [Option.bind_eq_some_iff] at h
      obtain ⟨⟨v, H1⟩, h1, h⟩ := h
      obtain ⟨u, C', g1, g2, g3, g4, g5⟩ := builtin_sound (ty := o.type) (cs := c.args.map fun | .const _ => true | _ => false) hr hv h1
      refine make_wp hf h ?_ g2 g3 g4 g5
      unfold execOp
      simp only [ho, resolve, hc, Sem.run_bind, Sem.run_pure, Result.andThen_ok, invoke]
      exact g1
    · rename_i r m hc
      split at h
      · rename_i t w hw
        have hu := eval_ok hr hf hw
        generalize hru : a.eval r = ur at hu
        cases hu with
        | iface _ _ _ uw huw =>
          split at h
          · rename_i mt hm
            split at h
            · rename_i f ptr hfn hp
              have hargs' : Vs C false (w :: args) (#[uw] ++ c.args.map a.eval).toList := by
                rw [Array.toList_append]
                exact .cons _ _ _ _ _ huw hv
              have fin : ∀ {d : TypeDesc}, E.P.underlying t = some d → ((∃ e, d = .pointer e ∧ ptr = true) ∨ ((∀ e, d ≠ .pointer e) ∧ ptr = false)) →
                  callK E cf f (w :: args) C.H (fun w H' => some (SV.val w, st, H')) = some (x, st', H') → o.wp E.P a C.w (Post E C (stPut st' o.dst x) H') Q := fun {d} hd hk h => by
                rw [callK_nat hcn _ _ _ (k := fun w H' => some (SV.val w, st, H')) (g := fun v G => some (v, G)) (h := fun p => some (SV.val p.1, st, p.2)) (fun _ _ => rfl)] at h
                simp only [Option.bind_eq_some_iff] at h
                obtain ⟨⟨v, H1⟩, h1, h⟩ := h
                refine gives_wp hf ?_ (hck _ _ C _ _ _ h1 hr hargs') h
                unfold execOp
                have hx : (#[Value.iface t uw] ++ c.args.map a.eval)[0]? = some (Value.iface t uw) := by rw [← Array.getElem?_toList, Array.toList_append]; rfl
                have he : (#[Value.iface t uw] ++ c.args.map a.eval).extract 1 (#[Value.iface t uw] ++ c.args.map a.eval).size = c.args.map a.eval := by
                  apply Array.toList_inj.1
                  simp only [Array.toList_extract, Array.toList_append, List.extract_eq_take_drop, List.cons_append, List.nil_append, List.drop_succ_cons, List.drop_zero]
                  exact List.take_of_length_le (by simp)
                simp only [ho, resolve, hc, hru, Sem.run_bind, Sem.run_pure, Result.andThen_ok, invoke, hx, he, callMethod]
                have hpr : program.run E.P C.w = .ok E.P C.w := rfl
                rw [hpr]
                simp only [Result.andThen_ok]
                rw [show E.P.types.size + Made.depth = (E.P.types.size + Made.depth - 1) + 1 from (Nat.sub_add_cancel (by show 1 ≤ E.P.types.size + Made.depth; unfold Made.depth; omega)).symm, method_run hm hfn hp hd hk]
                rfl
              split at h
              · rename_i e ht
                cases ptr
                · cases h
                · exact fin ht (.inl ⟨e, rfl, rfl⟩) h
              · rename_i d hnp ht
                cases ptr
                · exact fin ht (.inr ⟨fun e he => hnp e (by rw [← he]), rfl⟩) h
                · cases h
              · cases h
            · cases h
          · cases h
      · cases h
  · cases h

end
end Go.Den

/- DEN, part S: operations, regions in the text's order. -/
namespace Go.Den
open Go.RowKit

section
variable {E : Env} {cf : CallFn} {C C' : Ctx} {lam : Nat → Nat} {st : St} {a : Act} {o : Oper} {Q : Exit → Act → World → Prop} {q p : Bool} {site : Option Nat} {x : SV} {st' : St} {H' : Heap}

theorem bif_some {R : Type} {c : Bool} {y : Option R} {r : R} (h : (bif c then y else none) = some r) : y = some r := by
  cases c
  · cases h
  · exact h

theorem op_sound (hcn : CNat cf) (hck : CallKOK E cf) (hr : HR E C) (hf : FrameR C lam st a)
    (h : opK E cf site o st C.H (fun x s G => some (x, s, G)) = some (x, st', H')) : o.wp E.P a C.w (Post E C (stPut st' o.dst x) H') Q := by
  cases ho : o.op with
  | move y =>
    have h' := h
    unfold opK at h'
    simp only [ho] at h'
    exact move_sound hr hf h' (by unfold execOp; simp only [ho]; rfl)
  | assign y =>
    have h' := h
    unfold opK at h'
    simp only [ho] at h'
    exact move_sound hr hf h' (by unfold execOp; simp only [ho]; rfl)
  | pick c y z => exact pick_sound hr hf ho h
  | alloc t => exact alloc_sound hr hf ho h
  | box t y => exact box_sound hr hf ho h
  | build t ps => exact build_sound hr hf ho h
  | buildSlice t n ps => exact buildSlice_sound hr hf ho h
  | load t y => exact load_sound hr hf ho h
  | store t y z => exact store_sound hr hf ho h
  | nilCheck y => exact nilCheck_sound hr hf ho h
  | binOp op t y z s => exact binOp_sound hr hf ho h
  | unOp op t y => exact unOp_sound hr hf ho h
  | convert s d y => exact convert_sound hr hf ho h
  | makeInterface t y => exact makeInterface_sound hr hf ho h
  | makeFunc f ys zs => exact makeFunc_sound hr hf ho h
  | makeSlice t y z => exact makeSlice_sound hr hf ho h
  | slice t y lo hi mx => exact slice_sound hr hf ho h
  | fieldAddr s y i => exact fieldAddr_sound hr hf ho h
  | field t y i => exact field_sound hr hf ho h
  | indexAddr t y z => exact indexAddr_sound hr hf ho h
  | index t y z => exact index_sound hr hf ho h
  | range t y => exact range_sound hr hf ho h
  | next y b => exact next_sound hr hf ho h
  | typeAssert y xt t ok => exact typeAssert_sound hr hf ho h
  | extract y i => exact extract_sound hr hf ho h
  | call c => exact call_sound hcn hck hr hf ho h
  | _ =>
    unfold opK at h
    simp only [ho] at h
    cases h

/-- An operation that touches no variable of the frame's own leaves the frame. -/
theorem op_keeps' (hcn : CNat cf) (hk : ∀ s, touchOf st site o ≠ some (s, true)) {H : Heap} (h : opK E cf site o st H (fun x s G => some (x, s, G)) = some (x, st', H')) : st' = st := by
  have fin : ∀ {y : SV} {G : Heap}, (some (y, st, G) : Option (SV × St × Heap)) = some (x, st', H') → st' = st := fun h => by
    simp only [Option.some.injEq, Prod.mk.injEq] at h
    exact h.2.1.symm
  have wfin : ∀ {v : Option AV} {G : Heap}, withV v (fun v => some (SV.val v, st, G)) = some (x, st', H') → st' = st := fun h => by
    obtain ⟨v, _, h⟩ := withV_some h
    exact fin h
  have bfin : ∀ {y : Option (AV × Heap)}, y.bind (fun p => some (SV.val p.1, st, p.2)) = some (x, st', H') → st' = st := fun h => by
    simp only [Option.bind_eq_some_iff] at h
    obtain ⟨p, _, h⟩ := h
    exact fin h
  unfold opK at h
  unfold touchOf at hk
  cases ho : o.op <;> simp only [ho] at h hk
  case call c =>
    split at h
    · split at h
      · split at h
        case h_2 =>
          split at h
          · rw [callQ_nat _ _ _ (k := fun w H' => some (SV.val w, st, H')) (g := fun v G => some (v, G)) (h := fun p => some (SV.val p.1, st, p.2)) (fun _ _ => rfl)] at h
            exact bfin h
          · cases h
        split at h
        · rw [callV_nat hcn _ _ _ (k := fun w H' => some (SV.val w, st, H')) (g := fun v G => some (v, G)) (h := fun p => some (SV.val p.1, st, p.2)) (fun _ _ => rfl)] at h
          exact bfin h
        · cases h
      · rw [builtinK_nat _ _ _ _ (k := fun w H' => some (SV.val w, st, H')) (g := fun v G => some (v, G)) (h := fun p => some (SV.val p.1, st, p.2)) (fun _ _ => rfl)] at h
        exact bfin h
      · split at h
        · split at h
          · split at h
            · rename_i f ptr hfn hp
              have hh : ∀ {f : FuncId} {l : List AV}, callK E cf f l H (fun w H' => some (SV.val w, st, H')) = some (x, st', H') → st' = st := fun h => by
                rw [callK_nat hcn _ _ _ (k := fun w H' => some (SV.val w, st, H')) (g := fun v G => some (v, G)) (h := fun p => some (SV.val p.1, st, p.2)) (fun _ _ => rfl)] at h
                exact bfin h
              split at h
              · cases ptr
                · cases h
                · exact hh h
              · cases ptr
                · exact hh h
                · cases h
              · cases h
            · cases h
          · cases h
        · cases h
    · cases h
  case convert s d y =>
    split at h
    · unfold convertK at h
      split at h
      · exact fin h
      · split at h
        · exact fin h
        · split at h
          · exact fin h
          · cases h
    · cases h
  case alloc t =>
    cases site with
    | none =>
      split at h
      · exact fin (bif_some h)
      · cases h
    | some s => exact absurd rfl (hk s)
  case box t y =>
    cases site with
    | none =>
      split at h
      · exact fin (bif_some h)
      · cases h
    | some s => exact absurd rfl (hk s)
  case store t y z =>
    split at h
    · cases y with
      | tmp q =>
        dsimp only at h hk
        split at h
        · rename_i s off hw
          simp only [hw] at hk
          exact absurd rfl (hk s)
        · split at h
          · exact fin h
          · cases h
        · cases h
      | _ => cases h
    · cases h
  case next y b =>
    cases b
    · cases h
    · dsimp only at h
      split at h
      · split at h
        · split at h
          · exact fin h
          · exact fin h
        · cases h
      · cases h
  case typeAssert y xt t ok =>
    split at h
    · split at h
      · cases h
      · cases ok
        · simp only [cond_false] at h
          split at h
          · exact fin h
          · cases h
        · simp only [cond_true] at h
          split at h
          · exact fin h
          · split at h
            · exact fin h
            · cases h
    · cases h
  all_goals repeat' (first | (exact fin h) | (exact wfin h) | (cases h; done) | (exact fin (bif_some h)) | (exact wfin (bif_some h)) | (cases bif_some h; done) | (unfold convertK at h; exact wfin h) | split at h)

theorem op_keeps (hcn : CNat cf) (hk : keepsL st o = true) {H : Heap} (h : opK E cf none o st H (fun x s G => some (x, s, G)) = some (x, st', H')) : st' = st := by
  refine op_keeps' hcn (fun s e => ?_) h
  unfold touchOf at e
  unfold keepsL at hk
  cases ho : o.op <;> simp only [ho] at e hk
  case store t y z =>
    cases y with
    | tmp q =>
      dsimp only at e hk
      cases hq : st.get q <;> simp only [hq] at e hk <;> first | (cases hk; done) | (cases e; done)
    | _ => cases e
  case load t y =>
    cases y with
    | tmp q =>
      dsimp only at e
      cases hq : st.get q <;> simp [hq] at e
    | _ => cases e
  all_goals cases e

/-- An operation under a guard. -/
theorem guardOf_ok (hf : FrameR C lam st a) {ops : Array Oper} {j : Nat} {b want : Bool} (h : guardOf ops st j want = some b) : yielded ops a.tmps j = some b ∨ (b = !want ∧ yielded ops a.tmps j = none) := by
  unfold guardOf at h
  unfold yielded
  split at h
  · rename_i d hd
    split at h
    · rename_i v hv
      unfold A.asG at h
      split at h
      · simp only [Option.some.injEq] at h
        subst h
        have := (slot_val hf hv).bool_inv
        have hg : a.tmps.getD d undef = .bool _ := this
        rw [hd]
        simp only [Option.bind_some]
        rw [Array.getD_eq_getD_getElem?] at hg
        cases hx : a.tmps[d]? with
        | none => rw [hx] at hg; cases hg
        | some u =>
          rw [hx] at hg
          simp only [Option.getD_some] at hg
          rw [hg]
          exact .inl rfl
      · simp only [Option.some.injEq] at h
        subst h
        have hv2 : V C false (.tup []) (a.tmps.getD d undef) := slot_val hf hv
        rw [hd]
        simp only [Option.bind_some]
        refine .inr ⟨trivial, ?_⟩
        cases hx : a.tmps[d]? with
        | none => rfl
        | some u =>
          rw [Array.getD_eq_getD_getElem?, hx] at hv2
          simp only [Option.getD_some] at hv2
          cases hv2
          rfl
      · cases h
    · cases h
  · cases h

theorem guarded_ok (hcn : CNat cf) {H : Heap} {v : AV} {H1 : Heap} (h : guardedK E cf o st H = some (v, H1)) : opK E cf none o st H (fun x s G => some (x, s, G)) = some (.val v, st, H1) := by
  unfold guardedK at h
  have h2 := bif_some (c := keepsL st o) (y := _) (r := (v, H1)) h
  have hk : keepsL st o = true := by
    cases hk : keepsL st o
    · rw [hk] at h; cases h
    · rfl
  rw [opK_nat hcn] at h2
  simp only [Option.bind_eq_some_iff] at h2
  obtain ⟨⟨x, s, G⟩, h3, h4⟩ := h2
  have := op_keeps hcn hk h3
  subst this
  cases x with
  | val w =>
    simp only [Option.some.injEq, Prod.mk.injEq] at h4
    obtain ⟨rfl, rfl⟩ := h4
    exact h3
  | _ => cases h4

theorem Post.trans {C1 : Ctx} {st1 : St} {H1 : Heap} {a1 : Act} {w1 : World} (ev : Ev C C1) (h : Post E C1 st1 H1 a1 w1) : Post E C st1 H1 a1 w1 := by
  obtain ⟨C2, lam2, h1, h2, h3, h4, h5⟩ := h
  exact ⟨C2, lam2, h1, h2, h3, ev.trans h4, h5⟩

theorem wanted_none {ops : Array Oper} (hg : o.guard = none) : Region.wanted o (yielded ops a.tmps) = true := by
  simp [Region.wanted, hg]
theorem wanted_some {ops : Array Oper} {j : Nat} {b want : Bool} (hf : FrameR C lam st a) (hg : o.guard = some (j, want)) (h : guardOf ops st j want = some b) : Region.wanted o (yielded ops a.tmps) = (b == want) := by
  rcases guardOf_ok hf h with h1 | ⟨rfl, h1⟩
  · simp [Region.wanted, hg, h1]
  · cases want <;> simp [Region.wanted, hg, h1]

/-- The operations of a region whose order is the text's. -/
theorem opsK_sound (hcn : CNat cf) (hck : CallKOK E cf) (sites : List (Nat × Nat × Nat)) (rid : Nat) (ops : Array Oper) : ∀ (l : List Oper) (i : Nat) (st : St) (C : Ctx) (lam : Nat → Nat) (a : Act),
    opsK E cf sites rid ops l i st C.H (fun s G => some (s, G)) = some (st', H') → HR E C → FrameR C lam st a → (∀ a' w', Post E C st' H' a' w' → Q .normal a' w') → wpList E.P ops Q l a C.w := by
  intro l
  induction l with
  | nil =>
    intro i st C lam a h hr hf hq
    simp only [opsK, Option.some.injEq, Prod.mk.injEq] at h
    obtain ⟨rfl, rfl⟩ := h
    exact hq _ _ ⟨C, lam, rfl, rfl, hr, Ev.refl C, hf⟩
  | cons o l ih =>
    intro i st C lam a h hr hf hq
    unfold opsK at h
    have go : ∀ {x : SV} {st1 : St} {H1 : Heap}, opsK E cf sites rid ops l (i + 1) (stPut st1 o.dst x) H1 (fun s G => some (s, G)) = some (st', H') →
        ∀ a1 w1, Post E C (stPut st1 o.dst x) H1 a1 w1 → wpList E.P ops Q l a1 w1 := fun {x st1 H1} h a1 w1 hp => by
      obtain ⟨C1, lam1, rfl, rfl, h3, h4, h5⟩ := hp
      exact ih _ _ C1 lam1 a1 h h3 h5 fun a' w' hp' => hq a' w' (hp'.trans h4)
    split at h
    · rename_i hg
      rw [opK_nat hcn] at h
      simp only [Option.bind_eq_some_iff] at h
      obtain ⟨⟨x, st1, H1⟩, h1, h2⟩ := h
      unfold wpList
      rw [if_pos (wanted_none hg)]
      exact .inl (Oper.wp_mono (go h2) (op_sound hcn hck hr hf h1))
    · rename_i j want hg
      split at h
      · rename_i b hb
        have hw := wanted_some hf hg hb
        split at h
        · rename_i p hp
          unfold guarded at hp
          unfold wpList
          rw [hw]
          cases hbw : (b == want)
          · rw [hbw] at hp
            simp only [cond_false, Option.some.injEq] at hp
            subst hp
            rw [if_neg (by simp)]
            exact go h _ _ ⟨C, lam, rfl, rfl, hr, Ev.refl C, hf.put (x := .val (.tup [])) (.tup _ [] #[] (.nil _))⟩
          · rw [hbw] at hp
            simp only [cond_true] at hp
            rw [if_pos rfl]
            exact .inl (Oper.wp_mono (go h) (op_sound hcn hck hr hf (guarded_ok hcn hp)))
        · cases h
      · cases h

end
end Go.Den
