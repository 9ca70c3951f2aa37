/- DEN, part Zl: functions that are read as a whole ('prim'): entries of the model. -/
import Derived.Test.YtikkpecdkdgmfaaDoorDenZf
import Derived.Lib.BytesEntry
import Derived.Laws.Externs
namespace Go.Den
open Go.RowKit

/-- What a function that is read as a whole must do. -/
def PrimOK (E : Env) (f : FuncId) (F : List AV → Heap → Option (AV × Heap)) : Prop :=
  ∀ (args : List AV) (C : Ctx) (us : Array Value) (v : AV) (H' : Heap), F args C.H = some (v, H') → HR E C → C.noLoc → Vs C false args us.toList → Lands E.P f us C.w (Gives E C v H')

section
variable {E : Env} {cf : CallFn}

theorem callK_prim {f : FuncId} {F : List AV → Heap → Option (AV × Heap)} (hp : E.pol f = .prim F) (hF : PrimOK E f F) {args : List AV} {C : Ctx} {us : Array Value} {v : AV} {H' : Heap} (h : callK E cf f args C.H (fun v G => some (v, G)) = some (v, H')) (hr : HR E C) (hv : Vs C false args us.toList) :
    Lands E.P f us C.w (GivesL E C v H') := by
  unfold callK at h
  rw [hp] at h
  dsimp only at h
  cases hx : F args C.H with
  | none => rw [hx] at h; cases h
  | some p =>
    rw [hx] at h
    simp only [Option.some.injEq, Prod.mk.injEq] at h
    obtain ⟨h1, h2⟩ := h
    exact (hF args C.strip us v H' (hx.trans (by rw [← h1, ← h2])) (strip_hr hr) strip_noLoc (hv.evV strip_evV)).mono fun u w hg => gives_back hr hg

theorem callK_still {f : FuncId} {F : List AV → Option AV} (hp : E.pol f = .still F) (hF : PrimOK E f (pureF F)) {args : List AV} {C : Ctx} {us : Array Value} {v : AV} {H' : Heap} (h : callK E cf f args C.H (fun v G => some (v, G)) = some (v, H')) (hr : HR E C) (hv : Vs C false args us.toList) :
    Lands E.P f us C.w (GivesL E C v H') := by
  unfold callK at h
  rw [hp] at h
  dsimp only at h
  cases hx : pureF F args C.H with
  | none => rw [hx] at h; cases h
  | some p =>
    rw [hx] at h
    simp only [Option.some.injEq, Prod.mk.injEq] at h
    obtain ⟨h1, h2⟩ := h
    exact (hF args C.strip us v H' (hx.trans (by rw [← h1, ← h2])) (strip_hr hr) strip_noLoc (hv.evV strip_evV)).mono fun u w hg => gives_back hr hg

/-- What must stand of how a function is read. -/
def PolOK (E : Env) (f : FuncId) : Pol → Prop
  | .plain => True
  | .prim F => PrimOK E f F
  | .still F => PrimOK E f (pureF F)

theorem callF_pols (hE : EnvOK E) (hm : E.P.follows .mixedOrders = true) (hp : ∀ f, PolOK E f (E.pol f)) : ∀ n, CallOK E (callF E n)
  | 0 => fun f args C us v H' h => by cases h
  | n + 1 => by
    have hck : CallKOK E (callF E n) := fun f args C us v H' h hr hv => by
      have h0 := hp f
      cases h1 : E.pol f with
      | plain => exact callK_plain h1 (callF_pols hE hm hp n) h hr hv
      | prim F => rw [h1] at h0; exact callK_prim h1 h0 h hr hv
      | still F => rw [h1] at h0; exact callK_still h1 h0 h hr hv
    exact callF_step hE n hck fun f => draw_ok (callF_nat n) hck hm (E.ann f)

theorem callF_prims (hE : EnvOK E) (hm : E.P.follows .mixedOrders = true) (hp : ∀ f, E.pol f = .plain ∨ ∃ F, E.pol f = .prim F ∧ PrimOK E f F) (n : Nat) : CallOK E (callF E n) :=
  callF_pols hE hm (fun f => by
    rcases hp f with h1 | ⟨F, h1, h2⟩
    · rw [h1]; trivial
    · rw [h1]; exact h2) n

/-- An entry of the model that changes nothing. -/
theorem extern_prim {f : FuncId} {fn : Func} {e : Array Value → Sem Value} (hf : E.P.funcs[f]? = some fn) (hname : (fn.name == "runtime.NumGoroutine") = false)
    (hb : fn.body.isNone = true) (hn : Extern.findNext fn = none) (he : Extern.find fn = some e) {F : List AV → Heap → Option (AV × Heap)}
    (h : ∀ (args : List AV) (C : Ctx) (us : Array Value) (v : AV) (H' : Heap), F args C.H = some (v, H') → HR E C → Vs C false args us.toList → H' = C.H ∧ ∃ u, (e us).run E.P C.w = .ok u C.w ∧ V C false v u) : PrimOK E f F :=
  fun args C us v H' h1 hr hl hv => by
    obtain ⟨rfl, u, g1, g2⟩ := h args C us v H' h1 hr hv
    exact .inr ⟨u, C.w, by rw [run_callFunc_extern hf hname hb hn he, g1]; rfl, C, rfl, rfl, g2, hr, Ev.refl C, hl⟩

/-! ### bytes -/
def bytesIn : List AV → Option (List Int)
  | [] => some []
  | .int .u8 n :: r => match bytesIn r with
    | some l => some (n :: l)
    | none => none
  | _ :: _ => none

def byteOf (n : Int) : UInt8 := n.toNat.toUInt8

/-- The bytes of a text, of a slice of bytes. -/
def bytesAt (x : AV) (H : Heap) : Option (List UInt8) :=
  match x with
  | .str l => some l
  | _ => match A.read 1 x H with
    | some es => match bytesIn es with
      | some l => some (l.map byteOf)
      | none => none
    | none => none

theorem bytesIn_vs {C : Ctx} {p : Bool} : ∀ {es : List AV} {l : List Int} {us : List Value}, bytesIn es = some l → Vs C p (es.flatMap AV.cells) us → us = l.map fun n => Value.int .u8 n
  | [], _, _, h, hv => by
    simp only [bytesIn, Option.some.injEq] at h
    subst h
    cases hv
    rfl
  | e :: es, l, us, h, hv => by
    unfold bytesIn at h
    split at h
    · rename_i h0; cases h0
    · rename_i n r h0
      cases h0
      split at h
      · rename_i l' hl'
        simp only [Option.some.injEq] at h
        subst h
        rw [List.flatMap_cons] at hv
        change Vs C p (.int .u8 n :: es.flatMap AV.cells) us at hv
        cases hv with
        | cons _ _ u _ us h1 h2 =>
          rw [h1.int_inv, bytesIn_vs hl' h2]
          rfl
      · cases h
    · cases h

theorem bytesOf_map (l : List Int) : Lib.bytesOf l = l.map byteOf := rfl

theorem load_of_cells {P : Program} {w : World} {a : Addr} {es : List AV} {l : List Int} {us : List Value} {C : Ctx} {p : Bool} (hb : bytesIn es = some l) (hv : Vs C p (es.flatMap AV.cells) us) (hc : ∀ j u, us[j]? = some u → w.cell? (a.add j) = some u) :
    (Extern.Bytes.loadBytes a l.length .empty).run P w = .ok ⟨(l.map byteOf).toArray⟩ w := by
  have e := bytesIn_vs hb hv
  subst e
  have := Lib.run_loadBytesX (P := P) w l a .empty fun j x hx => hc j _ (by rw [List.getElem?_map, hx]; rfl)
  rw [this]
  congr 1
  apply ByteArray.ext
  simp [bytesOf_map]

theorem bytesIn_length : ∀ {es : List AV} {l : List Int}, bytesIn es = some l → l.length = es.length
  | [], _, h => by
    simp only [bytesIn, Option.some.injEq] at h
    subst h; rfl
  | e :: es, l, h => by
    unfold bytesIn at h
    split at h
    · rename_i h0; cases h0
    · rename_i n r h0
      cases h0
      split at h
      · rename_i l' hl'
        simp only [Option.some.injEq] at h
        subst h
        simp [bytesIn_length hl']
      · cases h
    · cases h

/-- What the model's entries read of it. -/
theorem bytesAt_run {C : Ctx} (hr : HR E C) {x : AV} {l : List UInt8} {u0 : Value} (h : bytesAt x C.H = some l) (hx : V C false x u0) : (Extern.Bytes.bytesOf u0).run E.P C.w = .ok ⟨l.toArray⟩ C.w := by
  unfold bytesAt at h
  split at h
  · simp only [Option.some.injEq] at h
    subst h
    obtain ⟨s, h1, rfl⟩ := hx.str_inv
    subst h1
    simp [Extern.Bytes.bytesOf]
  · split at h
    · rename_i es hes
      split at h
      · rename_i ns hns
        simp only [Option.some.injEq] at h
        subst h
        have hlen := bytesIn_length hns
        unfold A.read at hes
        split at hes
        · cases hx
          simp only [Option.some.injEq] at hes
          subst hes
          simp only [bytesIn, Option.some.injEq] at hns
          subst hns
          simp [Extern.Bytes.bytesOf]
          rfl
        · rename_i z es' _
          split at hes
          · rename_i hz
            subst hz
            simp only [Option.some.injEq] at hes
            subst hes
            cases hx with
            | sh _ _ _ a c us h1 h2 h3 h4 h5 h6 =>
              have := load_of_cells (P := E.P) hns h1 h3
              rw [hlen] at this
              simpa [Extern.Bytes.bytesOf] using this
          · simp at hes
        · rename_i id ver off n cap _
          split at hes
          · rename_i w z ty es' hrow
            split at hes
            · rename_i hc
              obtain ⟨rfl, rfl, hle⟩ := hc
              simp only [Option.some.injEq] at hes
              obtain ⟨hz, hg, hk2, cur, fr, us, hcur, hfz, hus, hcell⟩ := hr.row id w _ ty es' hrow
              have hgd : ∀ e ∈ (es'.drop off).take n, Good 1 e := fun e he => hg e (List.mem_of_mem_drop (List.mem_of_mem_take he))
              have hnl : ((es'.drop off).take n).length = n := by rw [List.length_take, List.length_drop]; omega
              have hn : es.length = n := by rw [← hes, hnl]
              cases hx with
              | sl _ _ _ _ _ _ g0 g1 =>
                obtain ⟨a, c, hu, g2, g3, g4, g5, g6⟩ := (g1.2 w _ ty es' hrow).2 rfl
                subst hu
                have hfl : es'.flatMap AV.cells = (es'.take off).flatMap AV.cells ++ (((es'.drop off).take n).flatMap AV.cells ++ ((es'.drop off).drop n).flatMap AV.cells) := by
                  rw [← List.flatMap_append, List.take_append_drop, ← List.flatMap_append, List.take_append_drop]
                have hl1 : ((es'.take off).flatMap AV.cells).length = off * 1 := by
                  rw [flat_length (fun x hx => hg x (List.mem_of_mem_take hx)), List.length_take, Nat.min_eq_left (by omega)]
                have hl2 : (((es'.drop off).take n).flatMap AV.cells).length = n * 1 := by rw [flat_length hgd, hnl]
                have hv := hus
                rw [hfl] at hv
                have hv2 := hv.split.2.split.1
                rw [hl1, hl2, hes] at hv2
                have hwl : ((us.drop (off * 1)).take (n * 1)).length = n := by
                  rw [hv2.length, flat_length (fun e he => hgd e (hes ▸ he)), hn, Nat.mul_one]
                have := load_of_cells (P := E.P) (w := C.w) (a := a) hns hv2 (fun j u hju => by
                  have hpos : 0 < c := by
                    rcases Nat.eq_zero_or_pos c with h0 | h0
                    · have : n = 0 := by omega
                      subst this
                      simp at hju
                    · exact h0
                  have ha := g5 hpos
                  subst ha
                  rw [List.getElem?_take] at hju
                  split at hju
                  · rw [List.getElem?_drop] at hju
                    have := hcell _ _ hju
                    rw [Addr.add_lit]
                    simp only [World.cell?, hcur, Option.isSome_none, Bool.false_eq_true, if_false]
                    rw [show (C.ρ id).2 + off * 1 + j = (C.ρ id).2 + (off * 1 + j) by omega]
                    exact this
                  · simp at hju)
                rw [hlen, hn] at this
                simpa [Extern.Bytes.bytesOf] using this
            · simp at hes
          · simp at hes
        · simp at hes
      · cases h
    · cases h

/-- internal/bytealg.Compare. -/
def compareF (args : List AV) (H : Heap) : Option (AV × Heap) :=
  match args with
  | [a, b] => match bytesAt a H with
    | some x => match bytesAt b H with
      | some y => some (.int .i64 (Lib.compareBytes x y), H)
      | none => none
    | none => none
  | _ => none

theorem compare_prim {f : FuncId} {fn : Func} (hf : E.P.funcs[f]? = some fn) (hname : (fn.name == "runtime.NumGoroutine") = false)
    (hb : fn.body.isNone = true) (hn : Extern.findNext fn = none) (he : Extern.find fn = some Extern.BytealgCompare.compare) : PrimOK E f compareF :=
  extern_prim hf hname hb hn he fun args C us v H' h hr hv => by
    unfold compareF at h
    split at h
    · rename_i a b
      split at h
      · rename_i x hx
        split at h
        · rename_i y hy
          simp only [Option.some.injEq, Prod.mk.injEq] at h
          obtain ⟨rfl, rfl⟩ := h
          obtain ⟨us⟩ := us
          cases hv with
          | cons _ _ u1 _ us1 h1 h2 =>
            cases h2 with
            | cons _ _ u2 _ us2 h3 h4 =>
              cases h4
              refine ⟨rfl, _, ?_, .int _ _ _⟩
              change Sem.run E.P (do pure (goInt (Extern.BytealgCompare.cmp (← Extern.Bytes.bytesOf u1) (← Extern.Bytes.bytesOf u2)))) C.w = _
              simp only [Sem.run_bind, bytesAt_run hr hx h1, bytesAt_run hr hy h3, Result.andThen_ok, Lib.cmp_eq]
              rfl
        · cases h
      · cases h
    · cases h

/-- internal/abi.NoEscape. -/
def sameF (args : List AV) (H : Heap) : Option (AV × Heap) :=
  match args with
  | [a] => some (a, H)
  | _ => none

theorem same_prim {f : FuncId} {fn : Func} (hf : E.P.funcs[f]? = some fn) (hname : (fn.name == "runtime.NumGoroutine") = false)
    (hb : fn.body.isNone = true) (hn : Extern.findNext fn = none) (he : Extern.find fn = some Extern.AbiNoEscape.same) : PrimOK E f sameF :=
  extern_prim hf hname hb hn he fun args C us v H' h hr hv => by
    unfold sameF at h
    split at h
    · simp only [Option.some.injEq, Prod.mk.injEq] at h
      obtain ⟨rfl, rfl⟩ := h
      obtain ⟨us⟩ := us
      cases hv with
      | cons _ _ u1 _ us1 h1 h2 =>
        cases h2
        exact ⟨rfl, u1, rfl, h1⟩
    · cases h

end
end Go.Den
