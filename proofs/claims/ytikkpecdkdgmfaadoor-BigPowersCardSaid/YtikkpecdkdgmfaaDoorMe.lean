/- Texts put together: DenZm, DenT, DenZn. -/
import Derived.Test.YtikkpecdkdgmfaaDoorMd
import Derived.Lib.LaidU8
import Derived.Lib.MakeNoZero

/- DEN, part Zm: package variables that are laid. -/
namespace Go.Den
open Go.RowKit
mutual
def flatD {H : Type} : DataW H → Option (List AV)
  | .lit (.bool b) => some [.bool b]
  | .lit (.int k n) => some [.int k n]
  | .lit (.string s) => some [.str s]
  | .agg ds => flatDs ds
  | _ => none
def flatDs {H : Type} : List (DataW H) → Option (List AV)
  | [] => some []
  | d :: r => match flatD d with
    | some a => match flatDs r with
      | some b => some (a ++ b)
      | none => none
    | none => none
end
theorem q6r {H : Type} : ∀ {ds : List (DataW H)} {vs : List AV}, flatDs ds = some vs → ∃ vss : List (List AV), vss.length = ds.length ∧ vs = vss.flatten ∧ ∀ (i : Nat) (d : DataW H) (v : List AV), ds[i]? = some d → vss[i]? = some v → flatD d = some v
  | [], vs, h => by
    simp only [flatDs, Option.some.injEq] at h
    subst h
    exact ⟨[], rfl, rfl, fun i d v h => by simp at h⟩
  | d :: r, vs, h => by
    unfold flatDs at h
    split at h
    · rename_i a ha
      split at h
      · rename_i b hb
        simp only [Option.some.injEq] at h
        subst h
        obtain ⟨vss, h1, h2, h3⟩ := q6r hb
        refine ⟨a :: vss, by simp [h1], by simp [h2], fun i d' v hd hv => ?_⟩
        cases i with
        | zero =>
          simp only [List.getElem?_cons_zero, Option.some.injEq] at hd hv
          subst hd hv
          exact ha
        | succ i => exact h3 i d' v (by simpa using hd) (by simpa using hv)
      · cases h
    · cases h
theorem Vs.joinL {C : Ctx} {p : Bool} : ∀ {vss : List (List AV)} {css : List (List Value)}, vss.length = css.length → (∀ (i : Nat) (v : List AV) (cs : List Value), vss[i]? = some v → css[i]? = some cs → Vs C p v cs) → Vs C p vss.flatten css.flatten
  | [], [], _, _ => .nil _
  | [], _ :: _, h, _ => by simp at h
  | _ :: _, [], h, _ => by simp at h
  | v :: vs, cs :: css, hl, h => by
    simp only [List.flatten_cons]
    exact (h 0 v cs rfl rfl).append (Vs.joinL (by simpa using hl) fun i v' cs' h1 h2 => h (i + 1) v' cs' (by simpa using h1) (by simpa using h2))
section
variable {H : Type} {enc : TypeId × Value → H} {P : Program} {W : World} {sp : Nat → Bool} {hd : Bool}
def flatTy (P : Program) (ts : List TypeId) (t : TypeId) : Bool :=
  match P.underlying t with
  | some .bool | some (.int _) | some .string => true
  | some (.struct fs) => fs.toList.all (fun f => ts.contains f.type) && decide (contig P 0 fs.toList = some (P.cellsOf t))
  | some (.array n e) => ts.contains e && decide (n * P.cellsOf e = P.cellsOf t)
  | _ => false
theorem trod_flat {C : Ctx} {ts : List TypeId} (hts : ∀ t ∈ ts, flatTy P ts t = true) : ∀ (fuel : Nat) (t : TypeId) (cs : List Value) (d : DataW H) (q : List MemPlace) (vs : List AV), t ∈ ts → DataW.trod enc P W 0 sp hd fuel t cs = some (d, q) → flatD d = some vs →
    Vs C true vs cs ∧ ∀ c ∈ vs, c.one = true := by
  intro fuel
  induction fuel with
  | zero => intro t cs d q vs _ h; simp [DataW.trod] at h
  | succ fuel ih =>
    intro t cs d q vs ht h hf
    have hok := hts t ht
    unfold flatTy at hok
    split at hok
    · rename_i hu
      obtain ⟨b, rfl, hx⟩ := DataW.trod_bool hu h
      cases hx
      simp only [flatD, Option.some.injEq] at hf
      subst hf
      exact ⟨.cons _ _ _ _ _ (.bool _ _) (.nil _), by simp [AV.one]⟩
    · rename_i k hu
      obtain ⟨n, rfl, hx, hw⟩ := DataW.trod_int hu h
      cases hx
      simp only [flatD, Option.some.injEq] at hf
      subst hf
      exact ⟨.cons _ _ _ _ _ (.int _ _ _) (.nil _), by simp [AV.one]⟩
    · rename_i hu
      obtain ⟨s, rfl, hx, hs⟩ := DataW.trod_string hu h
      cases hx
      simp only [flatD, Option.some.injEq] at hf
      subst hf
      exact ⟨.cons _ _ _ _ _ (.str _ _) (.nil _), by simp [AV.one]⟩
    · rename_i fs hu
      simp only [Bool.and_eq_true, List.all_eq_true, List.contains_iff_mem, decide_eq_true_eq] at hok
      obtain ⟨xs, n, hn, hx, hcl, hxl, hget⟩ := DataW.trod_struct hu h
      injection hn with hn
      subst hn
      cases hx
      simp only [flatD] at hf
      obtain ⟨vss, h1, h2, h3⟩ := q6r hf
      subst h2
      have hp : ∀ (i : Nat) (f : Field) (v : List AV), fs[i]? = some f → vss[i]? = some v → Vs C true v ((cs.drop f.offset).take (P.cellsOf f.type)) ∧ ∀ c ∈ v, c.one = true := fun i f v hfi hv => by
        have hlt : i < fs.size := (Array.getElem?_eq_some_iff.1 hfi).1
        have hg := hget i f hfi
        rw [List.getElem?_eq_getElem (by omega)] at hg
        have hmem : f.type ∈ ts := hok.1 _ (Array.mem_toList_iff.2 (Array.mem_of_getElem? hfi))
        exact ih _ _ _ _ v hmem (hg.trans (by rfl)) (h3 i _ v (by rw [List.getElem?_map, List.getElem?_eq_getElem (by omega)]; rfl) hv)
      have hl : vss.length = fs.size := by rw [h1, List.length_map, hxl]
      have hfl : ((fs.toList.map fun f => (cs.drop f.offset).take (P.cellsOf f.type)) : List (List Value)).flatten = cs := by
        have := (q3c (cs := cs) (css := fs.toList.map fun f => (cs.drop f.offset).take (P.cellsOf f.type)) hok.2 (by simp) fun i f c hf hc => by
          rw [List.getElem?_map, hf] at hc
          simpa using hc.symm).1
        rw [this, ← hcl]
        simp
      constructor
      · rw [← hfl]
        refine Vs.joinL (by simp [hl]) fun i v c hv hc => ?_
        rw [List.getElem?_map] at hc
        cases hfi : fs.toList[i]? with
        | none => rw [hfi] at hc; cases hc
        | some f =>
          rw [hfi] at hc
          simp only [Option.map_some, Option.some.injEq] at hc
          subst hc
          exact (hp i f v (by simpa using hfi) hv).1
      · intro c hc
        obtain ⟨v, hv, hcv⟩ := List.mem_flatten.1 hc
        obtain ⟨i, hi, e⟩ := List.mem_iff_getElem.1 hv
        exact (hp i (fs[i]'(by omega)) v (Array.getElem?_eq_getElem _) (by rw [List.getElem?_eq_getElem hi, e])).2 c hcv
    · rename_i m e hu
      simp only [Bool.and_eq_true, List.contains_iff_mem, decide_eq_true_eq] at hok
      obtain ⟨xs, n, hn, hx, hcl, hxl, hget⟩ := DataW.trod_array hu h
      injection hn with hn
      subst hn
      cases hx
      simp only [flatD] at hf
      obtain ⟨vss, h1, h2, h3⟩ := q6r hf
      subst h2
      have hl : vss.length = m := by rw [h1, List.length_map, hxl]
      have hp : ∀ (i : Nat) (v : List AV), vss[i]? = some v → Vs C true v ((cs.drop (i * P.cellsOf e)).take (P.cellsOf e)) ∧ ∀ c ∈ v, c.one = true := fun i v hv => by
        have hlt : i < m := by rw [← hl]; exact (List.getElem?_eq_some_iff.1 hv).1
        have hg := hget i hlt
        rw [List.getElem?_eq_getElem (by omega)] at hg
        exact ih _ _ _ _ v hok.1 (hg.trans (by rfl)) (h3 i _ v (by rw [List.getElem?_map, List.getElem?_eq_getElem (by omega)]; rfl) hv)
      have hfl : ((List.range m).map fun i => (cs.drop (i * P.cellsOf e)).take (P.cellsOf e)).flatten = cs := q4y (n := P.cellsOf e) (fun i c hc => by
        rw [List.getElem?_map] at hc
        cases hr : (List.range m)[i]? with
        | none => rw [hr] at hc; cases hc
        | some j =>
          rw [hr] at hc
          obtain ⟨_, hj⟩ := List.getElem?_eq_some_iff.1 hr
          rw [List.getElem_range] at hj
          subst hj
          simpa using hc.symm) (by simp; rw [hcl]; exact hok.2)
      constructor
      · rw [← hfl]
        refine Vs.joinL (by simp [hl]) fun i v c hv hc => ?_
        rw [List.getElem?_map] at hc
        cases hr : (List.range m)[i]? with
        | none => rw [hr] at hc; cases hc
        | some j =>
          rw [hr] at hc
          obtain ⟨_, hj⟩ := List.getElem?_eq_some_iff.1 hr
          rw [List.getElem_range] at hj
          subst hj
          simp only [Option.map_some, Option.some.injEq] at hc
          subst hc
          exact (hp i v hv).1
      · intro c hc
        obtain ⟨v, hv, hcv⟩ := List.mem_flatten.1 hc
        obtain ⟨i, hi, e⟩ := List.mem_iff_getElem.1 hv
        exact (hp i v (by rw [List.getElem?_eq_getElem hi, e])).2 c hcv
    · cases hok
end
theorem q2t {P : Program} {W : World} {n : String} {d : DataW Unit} {ts : List TypeId} (hts : ∀ t ∈ ts, flatTy P ts t = true) (h : Lib.VarReads P W n d) {g : Nat} (hg : P.globalNamed n = some g)
    (ht : ∀ t, (P.globals[g]?).map (·.type) = some t → t ∈ ts) {cs : List AV} (hc : flatD d = some cs) : V (.outer W (immK W)) true (.rop cs) (.pointer (some ⟨g, 0, none⟩)) := by
  obtain ⟨g', t, us, fuel, p, h1, h2, h3, h4⟩ := h
  obtain rfl := Option.some.inj (hg.symm.trans h1)
  obtain ⟨k1, k2⟩ := trod_flat (C := .outer W (immK W)) hts fuel t us.toList d p cs (ht t h2) h4 hc
  have hb : g < W.heap.size := by
    simp only [World.var?, h1, Option.bind_some] at h3
    cases hh : W.heap[g]? with
    | none => simp [hh] at h3
    | some o => exact (Array.getElem?_eq_some_iff.1 hh).1
  exact .rop _ cs ⟨g, 0, none⟩ us.toList k2 k1 (fun j u hj => by
    have := World.var?_cell h1 h3 j
    rw [Array.getElem?_toList] at hj
    rw [Addr.add_lit, Nat.zero_add]
    show W.cell? ⟨g, j, none⟩ = some u
    rw [this]
    exact hj) (if_pos hb) hb
end Go.Den

/- DEN, tables: what exec wants to know of a function's regions, reckoned off its code (to be printed; not trusted). -/
namespace Go.Den
def q2n : Code → List (Nat × Array Oper × Bool)
  | .region id ops d => [(id, ops, d)]
  | .seq a b => q2n a ++ q2n b
  | .cond _ a b => q2n a ++ q2n b
  | .block _ a | .loop a | .scope a => q2n a
  | .rangeFunc _ _ a b => q2n a ++ q2n b
  | _ => []
def dinfo (E : Env) (sites : List (Nat × Nat × Nat)) (rid : Nat) (ops : Array Oper) : DInfo :=
  let b := Region.before ops
  let bf (i j : Nat) : Bool := (b.getD i 0).testBit j
  let wins := (List.range ops.size).filterMap fun i =>
    let o := ops.getD i default
    if reads o && !isLoud E (siteAt sites rid i o) o then
      let lo := q0c E sites rid ops fun j => bf i j
      let hi := q0c E sites rid ops fun j => !bf j i
      if lo < hi then some (i, lo, hi) else none
    else none
  let loud := (List.range ops.size).filter fun i => match ops[i]? with
    | some o => isLoud E (siteAt sites rid i o) o
    | none => false
  let swap := (loud.zip loud.tail).find? fun (i, j) => !bf j i
  { before := b.toList, wins, swap }
def mkDraws (E : Env) (sites : List (Nat × Nat × Nat)) (fn : Func) : List (Nat × DInfo) :=
  match fn.body with
  | some c => (q2n c).filterMap fun (id, ops, d) => if d then some (id, dinfo E sites id ops) else none
  | none => []
end Go.Den

/- DEN, part Zn: more entries of the model: a new row of whatever bytes; where a byte stands. -/
namespace Go.Den
open Go.RowKit
section
variable {E : Env}
def q2q (e : TypeId) (args : List AV) (H : Heap) : Option (AV × Heap) :=
  match args with
  | [.int .i64 n] => bif decide (0 ≤ n) && decide (n ≤ 281474976710656) then some (.sl H.length 0 0 n.toNat n.toNat, H ++ [.row 0 1 e []]) else none
  | _ => none
theorem q59 {f : FuncId} {fn : Func} {ps : Array TypeId} {t e : TypeId} (hf : E.P.funcs[f]? = some fn) (hname : (fn.name == "runtime.NumGoroutine") = false)
    (hb : fn.body.isNone = true) (hn : Extern.findNext fn = none) (he : Extern.find fn = some (Extern.BytealgMakeNoZero.makeNoZero ps #[t])) (ht : E.P.underlying t = some (.slice e)) : PrimOK E f (q2q e) :=
  fun args C us v H' h hr hl hv => by
    unfold q2q at h
    split at h
    · rename_i n
      cases hc : (decide (0 ≤ n) && decide (n ≤ 281474976710656))
      · rw [hc] at h; cases h
      · rw [hc] at h
        simp only [cond_true, Option.some.injEq, Prod.mk.injEq] at h
        obtain ⟨rfl, rfl⟩ := h
        simp only [Bool.and_eq_true, decide_eq_true_eq] at hc
        obtain ⟨us⟩ := us
        cases hv with
        | cons _ _ u1 _ us1 h1 h2 =>
          cases h2
          have := h1.int_inv
          subst this
          obtain ⟨m, rfl⟩ := Int.eq_ofNat_of_zero_le hc.1
          obtain ⟨cs, g1, g2, g3⟩ := Lib.run_makeNoZero (P := E.P) C.w ps t e ht m (by omega)
          have key := q4e (E := E) (C := C) (ver := 0) (sz := 1) (ty := e) (es := []) (us := []) (fr := (0, 0)) (w' := C.w.drew.drew.alloc (.cells cs e)) (cells := cs) hr ⟨rfl, rfl, rfl⟩ rfl Nat.one_pos (fun _ h => by cases h) (.inl rfl) (.nil _) (fun j u h => by simp at h)
          refine .inr ⟨.slice (some ⟨C.w.heap.size, 0, none⟩) m cs.size, (C.grow (C.w.drew.drew.alloc (.cells cs e)) (.row 0 1 e [])).w, ?_, C.grow (C.w.drew.drew.alloc (.cells cs e)) (.row 0 1 e []), rfl, rfl, ?_, key.1, key.2.ev, ?_⟩
          · rw [run_callFunc_extern hf hname hb hn he, g1]
            rfl
          · refine .sl _ _ _ _ _ _ rfl ⟨by simp [Ctx.grow], fun v sz' ty' es' hx => ?_⟩
            simp [Ctx.grow] at hx
            obtain ⟨rfl, rfl, rfl, rfl⟩ := hx
            refine ⟨Nat.le_refl _, fun _ => ⟨⟨C.w.heap.size, 0, none⟩, cs.size, rfl, Nat.le_refl _, g2, g3 (by unfold maxLen; omega), fun _ => by simp [Ctx.grow], fun cells t' fr hc => ?_⟩⟩
            rw [q1h] at hc ⊢
            have hc' := (heap_alloc_new C.w.drew.drew _).symm.trans hc
            injection hc' with hc'
            injection hc' with hc1 hc2 hc3
            subst hc1
            simp
          · intro b s hbs
            have : (if b = C.w.heap.size then Role.obj C.H.length else C.κ b) = .loc s := hbs
            split at this
            · cases this
            · exact hl b s this
    · cases h
theorem qbt {P : Program} {u : Value} {l : List UInt8} {c : Int} {w : World} (h : (Extern.Bytes.bytesOf u).run P w = .ok ⟨l.toArray⟩ w) : (Extern.BytealgIndexByte.indexByte #[u, .int .u8 c]).run P w = .ok (.int .i64 (Lib.indexByte l (byteOf c))) w := by
  have h1 := Lib.run_indexByteString (P := P) ⟨l.toArray⟩ c w
  have e1 : ∀ x : Value, Extern.BytealgIndexByte.indexByte #[x, .int .u8 c] = (do
      let b ← Extern.Bytes.bytesOf x
      let c ← Extern.Bytes.asByte (.int .u8 c)
      match (List.range b.size).find? fun i => b[i]! == c with
      | some i => pure (goInt i)
      | none => pure (goInt (-1))) := fun _ => rfl
  rw [e1] at h1 ⊢
  have hb : (Extern.Bytes.bytesOf (.string ⟨l.toArray⟩)).run P w = .ok ⟨l.toArray⟩ w := rfl
  simp only [Sem.run_bind, hb, Result.andThen_ok] at h1
  simp only [Sem.run_bind, h, Result.andThen_ok]
  exact h1
def q3k (args : List AV) (H : Heap) : Option (AV × Heap) :=
  match args with
  | [x, .int .u8 c] => match q83 x H with
    | some l => some (.int .i64 (Lib.indexByte l (byteOf c)), H)
    | none => none
  | _ => none
theorem q9n {f : FuncId} {fn : Func} (hf : E.P.funcs[f]? = some fn) (hname : (fn.name == "runtime.NumGoroutine") = false)
    (hb : fn.body.isNone = true) (hn : Extern.findNext fn = none) (he : Extern.find fn = some Extern.BytealgIndexByte.indexByte) : PrimOK E f q3k :=
  q8f hf hname hb hn he fun args C us v H' h hr hv => by
    unfold q3k at h
    split at h
    · rename_i x c
      split at h
      · rename_i l hl
        simp only [Option.some.injEq, Prod.mk.injEq] at h
        obtain ⟨rfl, rfl⟩ := h
        obtain ⟨us⟩ := us
        cases hv with
        | cons _ _ u1 _ us1 h1 h2 =>
          cases h2 with
          | cons _ _ u2 _ us2 h3 h4 =>
            cases h4
            have := h3.int_inv
            subst this
            exact ⟨rfl, _, qbt (qen hr hl h1), .int _ _ _⟩
      · cases h
    · cases h
end
end Go.Den
