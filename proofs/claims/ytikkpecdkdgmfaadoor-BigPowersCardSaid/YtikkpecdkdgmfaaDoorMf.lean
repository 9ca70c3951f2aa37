/- Texts put together: DenSa, DenSc, DenMa, DenSd, DenPv, DenSe, DenPw, DenNum, DenDiv, DenDiv2, DenDec, DenDed, DenZr, DenZj. -/
import Derived.Test.YtikkpecdkdgmfaaDoorMe

/- DEN, part Sa: words in which a function's reading is written down: each is, by unfolding alone, what the reading does. -/
namespace Go.Den
section
variable {R : Type}
def bindH (h : Heap) (k : Heap → R) : R := k h
def bindV (v : AV) (k : AV → R) : R := k v
def bindC (c : List AV) (k : List AV → R) : R := k c
def withL (x : Option (List AV)) (k : List AV → Option R) : Option R :=
  match x with
  | some es => k es
  | none => none
def withH (x : Option Heap) (k : Heap → Option R) : Option R :=
  match x with
  | some H => k H
  | none => none
def withVH (x : Option (AV × Heap)) (k : AV → Heap → Option R) : Option R :=
  match x with
  | some (v, H) => k v H
  | none => none
def withP (x : Option (AV × Heap)) (k : AV → Heap → Option R) : Option R :=
  match x with
  | some p => k p.1 p.2
  | none => none
def withB (x : Option Bool) (k : Bool → Option R) : Option R :=
  match x with
  | some b => k b
  | none => none
def q0l (x : AV) (i : Nat) (k : AV → Option R) : Option R :=
  match x with
  | .tup vs => withV vs[i]? k
  | _ => none
def rangeK (x : AV) (H : Heap) (k : AV → Heap → Option R) : Option R :=
  match x with
  | .str l => k (.it H.length) (H ++ [.iter l 0])
  | _ => none
def nextK (x : AV) (H : Heap) (k : AV → Heap → Option R) : Option R :=
  match x with
  | .it id => match H[id]? with
    | some (.iter l pos) =>
      if pos < l.length then
        let d := Utf8.decode ⟨l.toArray⟩ pos
        k (.tup [.bool true, .int .i64 pos, .int .i32 d.1]) (H.set id (.iter l (pos + d.2)))
      else k (.tup [.bool false]) H
    | _ => none
  | _ => none
def assertK (x : AV) (t : TypeId) (z : Option AV) (k : AV → Option R) : Option R :=
  match x with
  | .iface d w => if d = t then k (.tup [w, .bool true]) else match z with
    | some z => k (.tup [z, .bool false])
    | none => none
  | _ => none
def assertOneK (x : AV) (t : TypeId) (k : AV → Option R) : Option R :=
  match x with
  | .iface d w => if d = t then k w else none
  | _ => none
def lpIdxK (i : AV) (n : Int) (k : Int → Option R) : Option R :=
  match i with
  | .int _ j => if 0 ≤ j ∧ j < n then k j else none
  | _ => none
def guardB {α : Type} (b want : Bool) (x y : α) : α := bif b == want then x else y
def altN (i j : Nat) (x y : Option R) : Option R := bif Nat.beq i j then x else y
def chkD (c : Bool) (x : Option R) : Option R := bif c then x else none
def sameV (x : Option SV) (v : AV) : Bool :=
  match x with
  | some (.val w) => AV.beq v w
  | _ => false
def actsB (x : Option Bool) (want : Bool) : Bool :=
  match x with
  | some b => b == want
  | none => true
end
def qc0 : List (Nat × FAnn) → FuncId → FAnn
  | [], _ => {}
  | (g, a) :: r, f => bif Nat.beq f g then a else qc0 r f
theorem q7i {f : FuncId} : ∀ {l : List (Nat × FAnn)}, f ∉ l.map (·.1) → (qc0 l f).draws = []
  | [], _ => rfl
  | (g, a) :: r, h => by
    simp only [List.map_cons, List.mem_cons, not_or] at h
    unfold qc0
    have : Nat.beq f g = false := by
      cases hb : Nat.beq f g
      · rfl
      · exact absurd (Nat.eq_of_beq_eq_true hb) h.1
    rw [this]
    exact q7i h.2
def codeAt : Code → List Nat → Code
  | c, [] => c
  | .seq a b, i :: p => match i with
    | 0 => codeAt a p
    | _ => codeAt b p
  | .cond _ a b, i :: p => match i with
    | 0 => codeAt a p
    | _ => codeAt b p
  | .block _ c, _ :: p => codeAt c p
  | .loop c, _ :: p => codeAt c p
  | .scope c, _ :: p => codeAt c p
  | c, _ => c
def bodyAt (P : Program) (f : FuncId) (p : List Nat) : Code :=
  match P.funcs[f]? with
  | some fn => match fn.body with
    | some c => codeAt c p
    | none => .skip
  | none => .skip
def loopL (E : Env) (cf : CallFn) (n : Nat) (f : FuncId) (p : List Nat) (a : Ann) (kh kx : LK) (outs : List AExit) (N : Nat) : Nat → Live → Heap → Option (Nat × Live × Heap) :=
  iter fun l H rec => exec E cf n (E.ann f) (bodyAt E.P f p) a _ (St.ofLive kh N l) H (loopK kh rec (pairL kx outs))
end Go.Den

/- DEN, part Sc: how one reckons with functions written down in Den's words: 'from some number of steps on'; calls; loops; what the words come to. -/
namespace Go.Den
def Evs (P : Nat → Nat → Prop) : Prop := ∃ N, ∀ n m, N ≤ n → N ≤ m → P n m
theorem Evs.of {P : Nat → Nat → Prop} (h : ∀ n m, P n m) : Evs P := ⟨0, fun n m _ _ => h n m⟩
theorem Evs.and {P Q : Nat → Nat → Prop} (h : Evs P) (g : Evs Q) : Evs fun n m => P n m ∧ Q n m := by
  obtain ⟨N, h⟩ := h
  obtain ⟨M, g⟩ := g
  exact ⟨max N M, fun n m h1 h2 => ⟨h n m (by omega) (by omega), g n m (by omega) (by omega)⟩⟩
theorem Evs.mono {P Q : Nat → Nat → Prop} (h : Evs P) (g : ∀ n m, P n m → Q n m) : Evs Q := by
  obtain ⟨N, h⟩ := h
  exact ⟨N, fun n m h1 h2 => g n m (h n m h1 h2)⟩
def Does (E : Env) (f : FuncId) (args : List AV) (H : Heap) (v : AV) (H' : Heap) : Prop :=
  ∃ N, ∀ n, N ≤ n → ∀ (R : Type) (k : AV → Heap → Option R), callF E n R f args H k = k v H'
theorem Does.intro {E : Env} {f : FuncId} {args : List AV} {H : Heap} {v : AV} {H' : Heap} (h : Evs fun n _ => callF E (n + 1) (AV × Heap) f args H (fun v H => some (v, H)) = some (v, H')) : Does E f args H v H' := by
  obtain ⟨N, h⟩ := h
  refine ⟨N + 1, fun n hn R k => ?_⟩
  obtain ⟨n, rfl⟩ : ∃ m, n = m + 1 := ⟨n - 1, by omega⟩
  rw [q1z (E := E) (n + 1) R f args H k, h n N (by omega) (Nat.le_refl _)]
  rfl
theorem Evs.call {E : Env} {R : Type} {g : FuncId} {args : List AV} {H : Heap} {v : AV} {H' : Heap} {k : Nat → Nat → AV → Heap → Option R} {r : Option R} (hg : Does E g args H v H') (h : Evs fun n m => k n m v H' = r) :
    Evs fun n m => callF E n R g args H (k n m) = r := by
  obtain ⟨N, hg⟩ := hg
  obtain ⟨M, h⟩ := h
  exact ⟨max N M, fun n m h1 h2 => (hg n (by omega) R (k n m)).trans (h n m (by omega) (by omega))⟩
theorem Evs.with {E : Env} {g : FuncId} {args : List AV} {H : Heap} {v : AV} {H' : Heap} {P : Nat → Nat → Prop} (hg : Does E g args H v H') (h : Evs fun n m => (∀ (R : Type) (k : AV → Heap → Option R), callF E n R g args H k = k v H') → P n m) : Evs P := by
  obtain ⟨N, hg⟩ := hg
  obtain ⟨M, h⟩ := h
  exact ⟨max N M, fun n m h1 h2 => h n m (by omega) (by omega) (hg n (by omega))⟩
def LDoes (L : Nat → Nat → Live → Heap → Option (Nat × Live × Heap)) (l : Live) (H : Heap) (i : Nat) (l' : Live) (H' : Heap) : Prop :=
  ∃ N, ∀ n m, N ≤ n → N ≤ m → L n m l H = some (i, l', H')
theorem LDoes.step {L : Nat → Nat → Live → Heap → Option (Nat × Live × Heap)} {l : Live} {H : Heap} {i : Nat} {l' : Live} {H' : Heap} (h : Evs fun n m => L n (m + 1) l H = some (i, l', H')) : LDoes L l H i l' H' := by
  obtain ⟨N, h⟩ := h
  refine ⟨N + 1, fun n m h1 h2 => ?_⟩
  obtain ⟨m, rfl⟩ : ∃ k, m = k + 1 := ⟨m - 1, by omega⟩
  exact h n m (by omega) (by omega)
theorem Evs.rec {L : Nat → Nat → Live → Heap → Option (Nat × Live × Heap)} {l : Live} {H : Heap} {i : Nat} {l' : Live} {H' : Heap} (h : LDoes L l H i l' H') : Evs fun n m => L n m l H = some (i, l', H') := h
theorem Evs.loop {L : Nat → Nat → Live → Heap → Option (Nat × Live × Heap)} {R : Type} {l : Live} {H : Heap} {i : Nat} {l' : Live} {H' : Heap} {k : Nat → Nat → Nat → Live → Heap → Option R} {r : Option R}
    (hl : LDoes L l H i l' H') (h : Evs fun n m => k n m i l' H' = r) : Evs fun n m => bindX (L n n l H) (k n m) = r := by
  obtain ⟨N, hl⟩ := hl
  obtain ⟨M, h⟩ := h
  exact ⟨max N M, fun n m h1 h2 => (congrArg (fun x => bindX x (k n m)) (hl n n (by omega) (by omega))).trans (h n m (by omega) (by omega))⟩
theorem Evs.withL {L : Nat → Nat → Live → Heap → Option (Nat × Live × Heap)} {l : Live} {H : Heap} {i : Nat} {l' : Live} {H' : Heap} {P : Nat → Nat → Prop} (hl : LDoes L l H i l' H') (h : Evs fun n m => L n n l H = some (i, l', H') → L n m l H = some (i, l', H') → P n m) : Evs P := by
  obtain ⟨N, hl⟩ := hl
  obtain ⟨M, h⟩ := h
  exact ⟨max N M, fun n m h1 h2 => h n m (by omega) (by omega) (hl n n (by omega) (by omega)) (hl n m (by omega) (by omega))⟩
section
variable {R : Type}
@[simp] theorem q01 (v : AV) (k : AV → Option R) : withV (some v) k = k v := id rfl
@[congr] theorem withV_congr {x y : Option AV} {k : AV → Option R} (h : x = y) : withV x k = withV y k := by rw [h]
@[simp] theorem q0w (v : List AV) (k : List AV → Option R) : withL (some v) k = k v := id rfl
@[congr] theorem withL_congr {x y : Option (List AV)} {k : List AV → Option R} (h : x = y) : withL x k = withL y k := by rw [h]
@[simp] theorem q0e (v : Heap) (k : Heap → Option R) : withH (some v) k = k v := id rfl
@[congr] theorem withH_congr {x y : Option Heap} {k : Heap → Option R} (h : x = y) : withH x k = withH y k := by rw [h]
@[simp] theorem q0k (v : AV) (H : Heap) (k : AV → Heap → Option R) : withVH (some (v, H)) k = k v H := id rfl
@[congr] theorem withVH_congr {x y : Option (AV × Heap)} {k : AV → Heap → Option R} (h : x = y) : withVH x k = withVH y k := by rw [h]
@[simp] theorem q04 (v : AV) (H : Heap) (k : AV → Heap → Option R) : withP (some (v, H)) k = k v H := id rfl
@[congr] theorem withP_congr {x y : Option (AV × Heap)} {k : AV → Heap → Option R} (h : x = y) : withP x k = withP y k := by rw [h]
@[simp] theorem q05 (v : Bool) (k : Bool → Option R) : withB (some v) k = k v := id rfl
@[congr] theorem withB_congr {x y : Option Bool} {k : Bool → Option R} (h : x = y) : withB x k = withB y k := by rw [h]
@[simp] theorem q02 (i : Nat) (l : Live) (H : Heap) (k : Nat → Live → Heap → Option R) : bindX (some (i, l, H)) k = k i l H := id rfl
@[congr] theorem bindX_congr {x y : Option (Nat × Live × Heap)} {k : Nat → Live → Heap → Option R} (h : x = y) : bindX x k = bindX y k := by rw [h]
@[simp] theorem q03 (v : AV) (k : AV → R) : bindV v k = k v := id rfl
@[simp] theorem q0f (v : Heap) (k : Heap → R) : bindH v k = k v := id rfl
@[simp] theorem q07 (v : List AV) (k : List AV → R) : bindC v k = k v := id rfl
@[congr] theorem bindV_congr {x y : AV} {k : AV → R} (h : x = y) : bindV x k = bindV y k := by rw [h]
@[congr] theorem bindH_congr {x y : Heap} {k : Heap → R} (h : x = y) : bindH x k = bindH y k := by rw [h]
@[congr] theorem bindC_congr {x y : List AV} {k : List AV → R} (h : x = y) : bindC x k = bindC y k := by rw [h]
@[congr] theorem callF_congr {E : Env} {n : Nat} {g : FuncId} {a b : List AV} {H G : Heap} {k : AV → Heap → Option R} (h : a = b) (h2 : H = G) : callF E n R g a H k = callF E n R g b G k := by rw [h, h2]
@[simp] theorem q00 (b : Bool) (x y : Option R) : A.test (.bool b) x y = if b = true then x else y := by cases b <;> rfl
@[simp] theorem asG_bool (w b : Bool) : A.asG w (.bool b) = some b := id rfl
@[simp] theorem asG_skip (w : Bool) : A.asG w (.tup []) = some (!w) := id rfl
@[simp] theorem guardB_tt {α : Type} (x y : α) : guardB true true x y = x := id rfl
@[simp] theorem guardB_ff {α : Type} (x y : α) : guardB false false x y = x := id rfl
@[simp] theorem guardB_tf {α : Type} (x y : α) : guardB true false x y = y := id rfl
@[simp] theorem guardB_ft {α : Type} (x y : α) : guardB false true x y = y := id rfl
@[congr] theorem guardB_congr {α : Type} {b c w : Bool} {x y : α} (h : b = c) : guardB b w x y = guardB c w x y := by rw [h]
@[simp] theorem altN_same (i : Nat) (x y : Option R) : altN i i x y = x := by simp [altN]
@[simp] theorem altN_01 (x y : Option R) : altN 0 1 x y = y := id rfl
@[simp] theorem altN_10 (x y : Option R) : altN 1 0 x y = y := id rfl
@[simp] theorem altN_20 (x y : Option R) : altN 2 0 x y = y := id rfl
@[simp] theorem altN_21 (x y : Option R) : altN 2 1 x y = y := id rfl
@[simp] theorem altN_30 (x y : Option R) : altN 3 0 x y = y := id rfl
@[simp] theorem altN_31 (x y : Option R) : altN 3 1 x y = y := id rfl
@[simp] theorem altN_32 (x y : Option R) : altN 3 2 x y = y := id rfl
@[congr] theorem altN_congr {i j k : Nat} {x y : Option R} (h : i = k) : altN i j x y = altN k j x y := by rw [h]
@[simp] theorem q06 (x : Option R) : chkD true x = x := id rfl
@[congr] theorem chkD_congr {b c : Bool} {x : Option R} (h : b = c) : chkD b x = chkD c x := by rw [h]
@[congr] theorem test_congr {v w : AV} {x y : Option R} (h : v = w) : A.test v x y = A.test w x y := by rw [h]
@[simp] theorem cond_dec (p : Prop) [Decidable p] (x y : R) : (bif decide p then x else y) = if p then x else y := by
  by_cases h : p <;> simp [h]
@[simp] theorem asB_bool (b : Bool) : A.asB (.bool b) = some b := id rfl
@[simp] theorem extractK_tup (vs : List AV) (i : Nat) (k : AV → Option R) : q0l (.tup vs) i k = withV vs[i]? k := id rfl
@[congr] theorem extractK_congr {v w : AV} {i : Nat} {k : AV → Option R} (h : v = w) : q0l v i k = q0l w i k := by rw [h]
end
namespace A
variable {P : Program} {t : TypeId} {c : Bool} {H : Heap} {k : IntKind} {a b : Int}
@[simp] theorem bin_add : A.bin P .add t (.int k a) (.int k b) c H = some (.int k (k.wrap (a + b))) := by simp [A.bin, A.binInt]
@[simp] theorem bin_sub : A.bin P .sub t (.int k a) (.int k b) c H = some (.int k (k.wrap (a - b))) := by simp [A.bin, A.binInt]
@[simp] theorem bin_mul : A.bin P .mul t (.int k a) (.int k b) c H = some (.int k (k.wrap (a * b))) := by simp [A.bin, A.binInt]
@[simp] theorem bin_quo : A.bin P .quo t (.int k a) (.int k b) c H = if b = 0 then none else some (.int k (k.wrap (a.tdiv b))) := by simp [A.bin, A.binInt]
@[simp] theorem bin_rem : A.bin P .rem t (.int k a) (.int k b) c H = if b = 0 then none else some (.int k (a.tmod b)) := by simp [A.bin, A.binInt]
@[simp] theorem bin_eql : A.bin P .eql t (.int k a) (.int k b) c H = some (.bool (decide (a = b))) := by
  simp only [A.bin, A.binInt]
  by_cases h : a = b <;> simp [h]
@[simp] theorem bin_neq : A.bin P .neq t (.int k a) (.int k b) c H = some (.bool (decide (a ≠ b))) := by
  simp only [A.bin, A.binInt]
  by_cases h : a = b <;> simp [h]
@[simp] theorem bin_lss : A.bin P .lss t (.int k a) (.int k b) c H = some (.bool (decide (a < b))) := by simp [A.bin, A.binInt]
@[simp] theorem bin_leq : A.bin P .leq t (.int k a) (.int k b) c H = some (.bool (decide (a ≤ b))) := by simp [A.bin, A.binInt]
@[simp] theorem bin_gtr : A.bin P .gtr t (.int k a) (.int k b) c H = some (.bool (decide (a > b))) := by simp [A.bin, A.binInt]
@[simp] theorem bin_geq : A.bin P .geq t (.int k a) (.int k b) c H = some (.bool (decide (a ≥ b))) := by simp [A.bin, A.binInt]
theorem bin_beq (ht : P.underlying t = some .bool) (x y : Bool) : A.bin P .eql t (.bool x) (.bool y) c H = some (.bool (x == y)) := by simp [A.bin, ht]
theorem bin_bne (ht : P.underlying t = some .bool) (x y : Bool) : A.bin P .neq t (.bool x) (.bool y) c H = some (.bool !(x == y)) := by simp [A.bin, ht]
@[simp] theorem un_not (x : Bool) : A.un .not (.bool x) = some (.bool !x) := id rfl
@[simp] theorem pick_bool (x : Bool) (v w : AV) : A.pick (.bool x) v w = some (bif x then v else w) := id rfl
@[simp] theorem maxv_int : A.maxv (.int k a) (.int k b) = some (.int k (if b > a then b else a)) := by simp [A.maxv]
@[simp] theorem minv_int : A.minv (.int k a) (.int k b) = some (.int k (if b < a then b else a)) := by simp [A.minv]
end A
theorem qcq {k : IntKind} {x : Int} (h1 : k.min ≤ x) (h2 : x ≤ k.max) : k.wrap x = x := by
  cases k <;> simp [IntKind.wrap, IntKind.bits, IntKind.signed, IntKind.min, IntKind.max] at h1 h2 ⊢ <;> omega
theorem q08 {x : Int} (h1 : -9223372036854775808 ≤ x) (h2 : x ≤ 9223372036854775807) : IntKind.wrap .i64 x = x := qcq h1 h2
theorem wrap_u8 {x : Int} (h1 : 0 ≤ x) (h2 : x ≤ 255) : IntKind.wrap .u8 x = x := qcq h1 h2
theorem q7x {x : Int} (h1 : 0 ≤ x) (h2 : x ≤ 4294967295) : IntKind.wrap .u32 x = x := qcq h1 h2
theorem q0g {x : Int} (h1 : 0 ≤ x) (h2 : x ≤ 18446744073709551615) : IntKind.wrap .u64 x = x := qcq h1 h2
section
variable {H : Heap}
@[simp] theorem A.load_rop (ag : Bool) (sz : Nat) (cs : List AV) : A.load ag sz (.rop cs) H = A.ofList ag sz cs 0 := id rfl
@[simp] theorem A.ofList_one (sz : Nat) (cs : List AV) (off : Nat) : A.ofList false sz cs off = cs[off]? := id rfl
@[simp] theorem A.fa_rop (off : Nat) (cs : List AV) : A.fa off (.rop cs) H = some (.rop (cs.drop off)) := id rfl
@[simp] theorem nilC_rop {P : Program} (cs : List AV) : nilC P (.rop cs) H = some (.rop cs) := id rfl
@[simp] theorem nilC_ptr {P : Program} (id ver i o : Nat) : nilC P (.ptr id ver i o) H = A.nilCheck (.ptr id ver i o) H := _root_.id rfl
@[simp] theorem nilC_fn {P : Program} (f : FuncId) (a b : List AV) : nilC P (.fn (.func f) a b) H = some (.fn (.func f) a b) := id rfl
@[simp] theorem A.nilCheck_rop (cs : List AV) : A.nilCheck (.rop cs) H = some (.rop cs) := id rfl
@[simp] theorem A.field_agg (ag : Bool) (sz off : Nat) (cs : List AV) : A.field ag sz off (.agg cs) = A.ofList ag sz cs off := id rfl
@[simp] theorem AV.cells_int (k : IntKind) (n : Int) : (AV.int k n).cells = [.int k n] := id rfl
@[simp] theorem AV.cells_bool (b : Bool) : (AV.bool b).cells = [.bool b] := id rfl
@[simp] theorem AV.cells_str (s : List UInt8) : (AV.str s).cells = [.str s] := id rfl
@[simp] theorem AV.cells_agg (cs : List AV) : (AV.agg cs).cells = cs := id rfl
@[simp] theorem AV.cells_sh (z : Nat) (cs : List AV) : (AV.sh z cs).cells = [.sh z cs] := id rfl
@[simp] theorem AV.cells_lit (z : Nat) (cs : List AV) : (AV.lit z cs).cells = [.lit z cs] := id rfl
@[simp] theorem AV.cells_nils : AV.nils.cells = [.nils] := id rfl
@[simp] theorem AV.isDef_int (k : IntKind) (n : Int) : (AV.int k n).isDef = true := id rfl
@[simp] theorem AV.isDef_bool (b : Bool) : (AV.bool b).isDef = true := id rfl
@[simp] theorem AV.isDef_str (s : List UInt8) : (AV.str s).isDef = true := id rfl
@[simp] theorem AV.isDef_agg (cs : List AV) : (AV.agg cs).isDef = true := id rfl
@[simp] theorem AV.isDef_sh (z : Nat) (cs : List AV) : (AV.sh z cs).isDef = true := id rfl
@[simp] theorem AV.isDef_lit (z : Nat) (cs : List AV) : (AV.lit z cs).isDef = true := id rfl
@[simp] theorem AV.isDef_nils : AV.nils.isDef = true := id rfl
@[simp] theorem AV.heapy_int (k : IntKind) (n : Int) : (AV.int k n).heapy = false := id rfl
@[simp] theorem AV.heapy_bool (b : Bool) : (AV.bool b).heapy = false := id rfl
@[simp] theorem AV.heapy_str (s : List UInt8) : (AV.str s).heapy = false := id rfl
@[simp] theorem AV.heapy_agg (cs : List AV) : (AV.agg cs).heapy = !(cs.all AV.leaf) := id rfl
@[simp] theorem AV.heapy_sh (z : Nat) (cs : List AV) : (AV.sh z cs).heapy = false := id rfl
@[simp] theorem AV.heapy_lit (z : Nat) (cs : List AV) : (AV.lit z cs).heapy = false := id rfl
@[simp] theorem AV.heapy_rop (cs : List AV) : (AV.rop cs).heapy = false := id rfl
@[simp] theorem AV.heapy_nils : AV.nils.heapy = false := id rfl
@[simp] theorem AV.heapy_ptr (a b c d : Nat) : (AV.ptr a b c d).heapy = true := id rfl
@[simp] theorem AV.heapy_sl (a b c d e : Nat) : (AV.sl a b c d e).heapy = true := id rfl
@[simp] theorem AV.leaf_int {k : IntKind} {n : Int} : (AV.int k n).leaf = true := id rfl
@[simp] theorem AV.leaf_bool {b : Bool} : (AV.bool b).leaf = true := id rfl
@[simp] theorem AV.leaf_str {s : List UInt8} : (AV.str s).leaf = true := id rfl
@[simp] theorem AV.leaf_nilp : (AV.nilp).leaf = true := id rfl
@[simp] theorem AV.leaf_nils : (AV.nils).leaf = true := id rfl
@[simp] theorem AV.leaf_nilf : (AV.nilf).leaf = true := id rfl
@[simp] theorem AV.leaf_nili : (AV.nili).leaf = true := id rfl
@[simp] theorem AV.leaf_nilm : (AV.nilm).leaf = true := id rfl
@[simp] theorem AV.leaf_rop {cs : List AV} : (AV.rop cs).leaf = true := id rfl
@[simp] theorem AV.leaf_sh {z : Nat} {cs : List AV} : (AV.sh z cs).leaf = true := id rfl
@[simp] theorem AV.leaf_lit {z : Nat} {cs : List AV} : (AV.lit z cs).leaf = true := id rfl
@[simp] theorem AV.leaf_ptr {a b c d : Nat} : (AV.ptr a b c d).leaf = false := id rfl
@[simp] theorem AV.leaf_sl {a b c d e : Nat} : (AV.sl a b c d e).leaf = false := id rfl
@[simp] theorem AV.leaf_agg {cs : List AV} : (AV.agg cs).leaf = false := id rfl
@[simp] theorem AV.leaf_tup {cs : List AV} : (AV.tup cs).leaf = false := id rfl
@[simp] theorem AV.imm_int {k : IntKind} {n : Int} : (AV.int k n).imm = true := id rfl
@[simp] theorem AV.imm_bool {b : Bool} : (AV.bool b).imm = true := id rfl
@[simp] theorem AV.imm_str {s : List UInt8} : (AV.str s).imm = true := id rfl
@[simp] theorem AV.imm_nilp : (AV.nilp).imm = true := id rfl
@[simp] theorem AV.imm_nils : (AV.nils).imm = true := id rfl
@[simp] theorem AV.imm_nilf : (AV.nilf).imm = true := id rfl
@[simp] theorem AV.imm_nili : (AV.nili).imm = true := id rfl
@[simp] theorem AV.imm_nilm : (AV.nilm).imm = true := id rfl
@[simp] theorem AV.imm_rop {cs : List AV} : (AV.rop cs).imm = true := id rfl
@[simp] theorem AV.imm_sh {z : Nat} {cs : List AV} : (AV.sh z cs).imm = true := id rfl
@[simp] theorem AV.imm_lit {z : Nat} {cs : List AV} : (AV.lit z cs).imm = true := id rfl
@[simp] theorem AV.imm_ptr {a b c d : Nat} : (AV.ptr a b c d).imm = false := id rfl
@[simp] theorem AV.imm_sl {a b c d e : Nat} : (AV.sl a b c d e).imm = false := id rfl
@[simp] theorem AV.imm_agg {cs : List AV} : (AV.agg cs).imm = cs.all AV.leaf := id rfl
@[simp] theorem AV.imm_tup {cs : List AV} : (AV.tup cs).imm = cs.all AV.imm1 := id rfl
@[simp] theorem AV.imm1_int {k : IntKind} {n : Int} : (AV.int k n).imm1 = true := id rfl
@[simp] theorem AV.imm1_bool {b : Bool} : (AV.bool b).imm1 = true := id rfl
@[simp] theorem AV.imm1_str {s : List UInt8} : (AV.str s).imm1 = true := id rfl
@[simp] theorem AV.imm1_nilp : (AV.nilp).imm1 = true := id rfl
@[simp] theorem AV.imm1_nils : (AV.nils).imm1 = true := id rfl
@[simp] theorem AV.imm1_nilf : (AV.nilf).imm1 = true := id rfl
@[simp] theorem AV.imm1_nili : (AV.nili).imm1 = true := id rfl
@[simp] theorem AV.imm1_nilm : (AV.nilm).imm1 = true := id rfl
@[simp] theorem AV.imm1_rop {cs : List AV} : (AV.rop cs).imm1 = true := id rfl
@[simp] theorem AV.imm1_sh {z : Nat} {cs : List AV} : (AV.sh z cs).imm1 = true := id rfl
@[simp] theorem AV.imm1_lit {z : Nat} {cs : List AV} : (AV.lit z cs).imm1 = true := id rfl
@[simp] theorem AV.imm1_ptr {a b c d : Nat} : (AV.ptr a b c d).imm1 = false := id rfl
@[simp] theorem AV.imm1_sl {a b c d e : Nat} : (AV.sl a b c d e).imm1 = false := id rfl
@[simp] theorem AV.imm1_agg {cs : List AV} : (AV.agg cs).imm1 = cs.all AV.leaf := id rfl
@[simp] theorem AV.imm1_tup {cs : List AV} : (AV.tup cs).imm1 = cs.all AV.leaf := id rfl
@[simp] theorem sameV_some (v w : AV) : sameV (some (.val w)) v = AV.beq v w := id rfl
@[simp] theorem actsB_some (b want : Bool) : actsB (some b) want = (b == want) := id rfl
mutual
theorem AV.beq_refl : ∀ v : AV, AV.beq v v = true
  | .undef | .nilp | .nils | .nilf | .nili | .nilm => rfl
  | .bool b => by simp [AV.beq]
  | .int k n => by simp [AV.beq]
  | .str s => by simp [AV.beq]
  | .ptr a b c d => by simp [AV.beq]
  | .sl a b c d e => by simp [AV.beq]
  | .rop cs => by simp [AV.beq, AV.beqs_refl cs]
  | .sh z cs => by simp [AV.beq, AV.beqs_refl cs]
  | .lit z cs => by simp [AV.beq, AV.beqs_refl cs]
  | .agg cs => by simp [AV.beq, AV.beqs_refl cs]
  | .tup cs => by simp [AV.beq, AV.beqs_refl cs]
  | .fn f a b => by simp [AV.beq, AV.beqs_refl a, AV.beqs_refl b]
  | .iface t v => by simp [AV.beq, AV.beq_refl v]
  | .mp a => by simp [AV.beq]
  | .it a => by simp [AV.beq]
  | .yl a => by simp [AV.beq]
theorem AV.beqs_refl : ∀ vs : List AV, AV.beqs vs vs = true
  | [] => rfl
  | v :: vs => by simp [AV.beqs, AV.beq_refl v, AV.beqs_refl vs]
end
attribute [simp] AV.beq_refl
end
theorem q2l {H : Heap} {b : Nat} {x y : HObj} (h : H[b]? = some y) : (H.set b x)[b]? = some x := by
  obtain ⟨hb, _⟩ := List.getElem?_eq_some_iff.1 h
  simp [hb]
theorem get_set_ne {H : Heap} {b c : Nat} {x : HObj} (h : b ≠ c) : (H.set b x)[c]? = H[c]? := by
  rw [List.getElem?_set_ne h]
theorem qf3 {H : Heap} {x : HObj} : (H ++ [x])[H.length]? = some x := by simp
theorem qds {H : Heap} {b : Nat} {y : HObj} (h : H[b]? = some y) : b < H.length := (List.getElem?_eq_some_iff.1 h).1
end Go.Den

/- DEN, part Ma: more steps change no answer. -/
namespace Go.Den
def Le {R : Type} (x y : Option R) : Prop := ∀ r, x = some r → y = some r
theorem Le.refl {R : Type} (x : Option R) : Le x x := fun _ h => h
theorem Le.none {R : Type} {y : Option R} : Le Option.none y := fun _ h => by cases h
def CLe (cf cg : CallFn) : Prop :=
  ∀ (R : Type) (f : FuncId) (args : List AV) (H : Heap) (k g : AV → Heap → Option R), (∀ v G, Le (k v G) (g v G)) → Le (cf R f args H k) (cg R f args H g)
section
variable {E : Env} {cf cg : CallFn} {R : Type}
def FLe (F F' : (S : Type) → (AExit → St → Heap → Option S) → Option S) : Prop :=
  ∀ {R : Type} {k g : AExit → St → Heap → Option R}, (∀ e s G, Le (k e s G) (g e s G)) → Le (F R k) (F' R g)
def qcd : Option (AV × Heap) → Bool
  | some (.bool true, _) => true
  | _ => false
theorem Does.answer {f : FuncId} {args : List AV} {v : AV} {H' : Heap} (h : Does E f args [] v H') : ∃ n, answer E n f args = some v := by
  obtain ⟨N, h⟩ := h
  exact ⟨N, h N (Nat.le_refl _) _ _⟩
end
end Go.Den

/- DEN, part Sd: slices in the small heap. -/
namespace Go.Den
structure Kept (own : List Nat) (H H' : Heap) : Prop where
  len : H.length ≤ H'.length
  same : ∀ i, i < H.length → i ∉ own → H'[i]? = H[i]?
theorem Kept.refl (own : List Nat) (H : Heap) : Kept own H H := ⟨Nat.le_refl _, fun _ _ _ => rfl⟩
theorem Kept.trans {own : List Nat} {A B C : Heap} (h : Kept own A B) (g : Kept own B C) : Kept own A C :=
  ⟨Nat.le_trans h.len g.len, fun i hi ho => (g.same i (Nat.lt_of_lt_of_le hi h.len) ho).trans (h.same i hi ho)⟩
theorem Kept.mono {own own' : List Nat} {A B : Heap} (h : Kept own A B) (hs : ∀ i ∈ own, i < A.length → i ∈ own') : Kept own' A B :=
  ⟨h.len, fun i hi ho => h.same i hi fun e => ho (hs i e hi)⟩
theorem Kept.then {own own' : List Nat} {A B C : Heap} (h : Kept own A B) (g : Kept own' B C) (hs : ∀ i ∈ own', i < A.length → i ∈ own) : Kept own A C :=
  ⟨Nat.le_trans h.len g.len, fun i hi ho => (g.same i (Nat.lt_of_lt_of_le hi h.len) fun e => ho (hs i e hi)).trans (h.same i hi ho)⟩
theorem Kept.get {own : List Nat} {H H' : Heap} (h : Kept own H H') {i : Nat} {x : HObj} (hx : H[i]? = some x) (ho : i ∉ own) : H'[i]? = some x :=
  (h.same i (qds hx) ho).trans hx
theorem Kept.app (own : List Nat) (H l : Heap) : Kept own H (H ++ l) :=
  ⟨by simp, fun i hi _ => by rw [List.getElem?_append_left hi]⟩
theorem Kept.set {own : List Nat} {H : Heap} {b : Nat} {x : HObj} (hb : b ∈ own) : Kept own H (H.set b x) :=
  ⟨by simp, fun i _ ho => get_set_ne fun e => ho (e ▸ hb)⟩
inductive Sl (H : Heap) (sz : Nat) (ty : TypeId) : AV → List AV → List Nat → Prop
  | nil : Sl H sz ty .nils [] []
  | mk (id ver off cap : Nat) (row es : List AV) : H[id]? = some (.row ver sz ty row) → off + cap ≤ row.length → es.length ≤ cap → (row.drop off).take es.length = es → Sl H sz ty (.sl id ver off es.length cap) es [id]
section
variable {H H' : Heap} {sz : Nat} {ty : TypeId} {v : AV} {es : List AV} {own : List Nat}
theorem Sl.kept (h : Sl H sz ty v es own) {o : List Nat} (hk : Kept o H H') (ho : ∀ i ∈ own, i ∉ o) : Sl H' sz ty v es own := by
  cases h with
  | nil => exact .nil
  | mk id ver off cap row es h1 h2 h3 h4 => exact .mk id ver off cap row es (hk.get h1 (ho id (by simp))) h2 h3 h4
theorem Sl.nils (h : Sl H sz ty .nils es own) : es = [] ∧ own = [] := by
  cases h
  exact ⟨rfl, rfl⟩
theorem Sl.def (h : Sl H sz ty v es own) : v.cells = [v] ∧ v.isDef = true ∧ v.one = true := by
  cases h <;> exact ⟨rfl, rfl, rfl⟩
theorem Sl.len (h : Sl H sz ty v es own) : A.len v H = some (.int .i64 es.length) := by
  cases h with
  | nil => rfl
  | mk id ver off cap row es h1 h2 h3 h4 => simp [A.len, A.alive, h1]
theorem Sl.read (h : Sl H sz ty v es own) : A.read sz v H = some es := by
  cases h with
  | nil => rfl
  | mk id ver off cap row es h1 h2 h3 h4 =>
    simp only [A.read, h1]
    rw [if_pos ⟨trivial, trivial, by omega⟩, h4]
theorem Sl.idx (h : Sl H sz ty v es own) {k : IntKind} {i : Int} (h0 : 0 ≤ i) (h1 : i < es.length) : ∃ p, A.idx sz v (.int k i) H = some p ∧
    ∀ ag size, A.load ag size p H = (es[i.toNat]?).bind fun e => A.ofList ag size e.cells 0 := by
  cases h with
  | nil => simp at h1; omega
  | mk id ver off cap row es g1 g2 g3 g4 =>
    refine ⟨.ptr id ver (off + i.toNat) 0, ?_, fun ag size => ?_⟩
    · simp [A.idx, A.aliveZ, g1, h0, h1]
    · simp only [A.load, A.elemAt, g1, beq_self_eq_true, cond_true]
      congr 1
      conv => rhs; rw [← g4]
      rw [List.getElem?_take_of_lt (by omega), List.getElem?_drop]
theorem Sl.append (h : Sl H sz ty v es own) {bytes : Nat} (news : List AV) (hb : 0 < bytes) (hn : (es.length + news.length) * bytes ≤ 140737488355328) :
    ∃ v' H' own', A.append sz bytes ty v news H = some (v', H') ∧ Sl H' sz ty v' (es ++ news) own' ∧ Kept own H H' ∧ (∀ i ∈ own', i ∈ own ∨ H.length ≤ i) := by
  cases h with
  | nil =>
    cases news with
    | nil => exact ⟨.nils, H, [], rfl, .nil, .refl _ _, by simp⟩
    | cons x news =>
      refine ⟨.sl H.length 0 0 (x :: news).length (x :: news).length, H ++ [.row 0 sz ty (x :: news)], [H.length], ?_, ?_, .app _ _ _, by simp⟩
      · unfold A.append
        dsimp only
        rw [if_pos ⟨by simpa using hn, hb⟩]
        rfl
      · exact .mk H.length 0 0 _ (x :: news) (x :: news) qf3 (by simp) (Nat.le_refl _) (by simp)
  | mk id ver off cap row es h1 h2 h3 h4 =>
    by_cases hc : es.length + news.length ≤ cap
    · refine ⟨.sl id ver off (es ++ news).length cap, H.set id (.row ver sz ty (A.splice row (off + es.length) news)), [id], ?_, ?_, .set (by simp), by simp⟩
      · simp only [A.append, h1]
        rw [if_pos ⟨trivial, trivial, trivial, by omega, h3, hn, hb⟩, if_pos hc, List.length_append]
      · refine .mk id ver off cap _ (es ++ news) (q2l h1) ?_ (by simpa using hc) ?_
        · simp [A.splice]
          omega
        · have e1 : (row.take (off + es.length)).length = off + es.length := by simp; omega
          have e2 : (A.splice row (off + es.length) news).drop off = es ++ news ++ row.drop (off + es.length + news.length) := by
            unfold A.splice
            rw [List.append_assoc, List.drop_append_of_le_length (by omega), List.drop_take, Nat.add_sub_cancel_left, h4, List.append_assoc]
          rw [e2, List.take_left]
    · refine ⟨.sl id (ver + 1) 0 (es ++ news).length (es ++ news).length, H.set id (.row (ver + 1) sz ty (es ++ news)), [id], ?_, ?_, .set (by simp), by simp⟩
      · simp only [A.append, h1]
        rw [if_pos ⟨trivial, trivial, trivial, by omega, h3, hn, hb⟩, if_neg hc, h4, List.length_append]
      · exact .mk id (ver + 1) 0 _ _ _ (q2l h1) (by simp) (Nat.le_refl _) (by rw [List.drop_zero, List.take_length])
theorem Sl.load1 (h : Sl H sz ty v es own) {k : IntKind} {i : Int} (h0 : 0 ≤ i) (h1 : i < es.length) {e : AV} (he : es[i.toNat]? = some e) (hc : e.cells = [e]) : ∃ p, A.idx sz v (.int k i) H = some p ∧ A.load false 1 p H = some e := by
  obtain ⟨p, g1, g2⟩ := h.idx (k := k) h0 h1
  refine ⟨p, g1, ?_⟩
  rw [g2, he]
  simp [A.ofList, hc]
end
section
variable {H : Heap} {sz : Nat} {ty : TypeId} {v : AV} {es : List AV} {own : List Nat}
theorem Sl.of {id ver off n cap : Nat} {P Q : List AV} (h : H[id]? = some (.row ver sz ty (P ++ (es ++ Q)))) (ho : off = P.length) (hn : n = es.length) (hc : es.length ≤ cap) (hq : cap ≤ es.length + Q.length) : Sl H sz ty (.sl id ver off n cap) es [id] := by
  subst ho hn
  exact .mk id ver _ cap _ es h (by simp; omega) hc (by simp)
end
def cutFrom (v : AV) (i : Nat) : AV :=
  match v with
  | .sl id ver off n cap => .sl id ver (off + i) (n - i) (cap - i)
  | v => v
def cutTo (v : AV) (i : Nat) : AV :=
  match v with
  | .sl id ver off _ cap => .sl id ver off i cap
  | v => v
inductive Im (sz : Nat) : AV → List AV → Prop
  | nil : Im sz .nils []
  | sh (es : List AV) : Im sz (.sh sz es) es
section
variable {H : Heap} {sz : Nat} {v : AV} {es : List AV}
theorem Im.len (h : Im sz v es) : A.len v H = some (.int .i64 es.length) := by
  cases h <;> rfl
theorem Im.read (h : Im sz v es) : A.read sz v H = some es := by
  cases h <;> simp [A.read]
theorem Im.idx (h : Im sz v es) {k : IntKind} {i : Int} (h0 : 0 ≤ i) {e : AV} (he : es[i.toNat]? = some e) : A.idx sz v (.int k i) H = some (.rop e.cells) := by
  have hl := (List.getElem?_eq_some_iff.1 he).1
  cases h with
  | nil => simp at hl
  | sh es =>
    simp only [A.idx]
    rw [if_pos ⟨h0, by omega, trivial⟩, he]
    rfl
end
structure Rd (H : Heap) (v : AV) (es : List AV) : Prop where
  len : A.len v H = some (.int .i64 es.length)
  at_ : ∀ (k : IntKind) (i : Int) (e : AV), 0 ≤ i → es[i.toNat]? = some e → ∃ p, A.idx 1 v (.int k i) H = some p ∧ A.load false 1 p H = some e
theorem Sl.rd {H : Heap} {ty : TypeId} {v : AV} {es : List AV} {own : List Nat} (h : Sl H 1 ty v es own) (hc : ∀ e ∈ es, e.cells = [e]) : Rd H v es :=
  ⟨h.len, fun k i e h0 he => h.load1 h0 (by have := (List.getElem?_eq_some_iff.1 he).1; omega) he (hc e (List.mem_of_getElem? he))⟩
theorem Im.rd {H : Heap} {v : AV} {es : List AV} (h : Im 1 v es) (hc : ∀ e ∈ es, e.cells = [e]) : Rd H v es :=
  ⟨h.len, fun k i e h0 he => ⟨_, h.idx h0 he, by simp [A.load, A.ofList, hc e (List.mem_of_getElem? he)]⟩⟩
def Box (H : Heap) (b sz : Nat) (ty : TypeId) (cs : List AV) : Prop := H[b]? = some (.row 0 sz ty [.agg cs])
section
variable {H H' : Heap} {b sz : Nat} {ty : TypeId} {cs : List AV}
theorem Box.kept (h : Box H b sz ty cs) {o : List Nat} (hk : Kept o H H') (ho : b ∉ o) : Box H' b sz ty cs := hk.get h ho
theorem Box.nilCheck (h : Box H b sz ty cs) {o : Nat} : A.nilCheck (.ptr b 0 0 o) H = some (.ptr b 0 0 o) := by
  simp only [Box] at h
  simp [A.nilCheck, A.alive, h]
theorem Box.fa (h : Box H b sz ty cs) {o : Nat} : A.fa o (.ptr b 0 0 0) H = some (.ptr b 0 0 o) := by
  simp only [Box] at h
  simp [A.fa, A.alive, h]
theorem Box.load (h : Box H b sz ty cs) {o : Nat} : A.load false 1 (.ptr b 0 0 o) H = cs[o]? := by
  simp only [Box] at h
  simp [A.load, A.elemAt, h, A.ofList, AV.cells]
theorem Box.store (h : Box H b sz ty cs) {o : Nat} {v : AV} (ho : o < cs.length) (hc : v.cells = [v]) (h1 : v.one = true) (hd : v.isDef = true) : A.store 1 (.ptr b 0 0 o) v H = some (H.set b (.row 0 sz ty [.agg (cs.set o v)])) := by
  simp only [Box] at h
  have : A.fits 1 v = true := by simp [A.fits, hc, h1]
  have hs : A.splice cs o [v] = cs.set o v := by
    rw [List.set_eq_take_append_cons_drop, if_pos ho]
    simp [A.splice]
  have hle : o + v.cells.length ≤ cs.length := by rw [hc]; simp; omega
  simp only [A.store, this, cond_true, h, beq_self_eq_true, A.setElem]
  simp only [List.getElem?_cons_zero, Option.bind_some]
  rw [if_pos hle, hc, hs]
  rfl
theorem Box.stored (h : Box H b sz ty cs) {o : Nat} {v : AV} : Box (H.set b (.row 0 sz ty [.agg (cs.set o v)])) b sz ty (cs.set o v) := q2l h
end
theorem q2s (e z : AV) (hc : e.cells.length = 1) (hd : e.isDef = true) : A.fillElems 1 [z] [(0, 1, e)] = some [e] := by
  simp [A.fillElems, hc, hd]
theorem newsOf_sl {E : Env} {sz : Nat} {tx e : TypeId} {x : AV} {H : Heap} (ht : E.P.underlying tx = some (.slice e)) : newsOf E sz tx x H = A.read sz x H := by
  unfold newsOf
  rw [ht]
theorem q20 {E : Env} {sz by_ : Nat} {z : AV} {tx e : TypeId} {x : AV} {H : Heap} (ht : E.P.underlying tx = some (.slice e)) : newsZ E sz by_ z tx x H = A.read sz x H := by
  unfold newsZ
  rw [newsOf_sl ht, ht]
  cases A.read sz x H <;> rfl
theorem Sl.new {H : Heap} {sz : Nat} {ty : TypeId} (es : List AV) : Sl (H ++ [.row 0 sz ty es]) sz ty (.sl H.length 0 0 es.length es.length) es [H.length] :=
  .mk _ _ _ _ es es qf3 (by simp) (Nat.le_refl _) (by simp)
end Go.Den

/- DEN, part Pv: functions that are proved one by one: each is a table's entry for those that call it. -/
namespace Go.Den
open Go.RowKit
def Env.with (E : Env) (pol : FuncId → Pol) : Env := { E with pol := pol }
def cl (E : Env) (pol : FuncId → Pol) (n : Nat) {R : Type} (f : FuncId) (args : List AV) (H : Heap) (k : AV → Heap → Option R) : Option R :=
  callK (E.with pol) (callF (E.with pol) n) f args H k
def clQ (E : Env) (pol : FuncId → Pol) {R : Type} (f : FuncId) (args : List AV) (H : Heap) (k : AV → Heap → Option R) : Option R :=
  callQ (E.with pol) f args H k
def clV (E : Env) (pol : FuncId → Pol) (n : Nat) {R : Type} (f : AV) (args : List AV) (H : Heap) (k : AV → Heap → Option R) : Option R :=
  callV (E.with pol) (callF (E.with pol) n) f args H k
def globV (E : Env) (g : Nat) : AV := .rop ((E.glob g).getD [])
def lookT : List (FuncId × Pol) → FuncId → Pol
  | [], _ => .prim fun _ _ => none
  | (g, F) :: r, f => if f = g then F else lookT r f
def polK {R : Type} (p : Pol) (args : List AV) (H : Heap) (k : AV → Heap → Option R) : Option R :=
  match p with
  | .plain => none
  | .prim F => withP (F args H) k
  | .still F => withP (pureF F args H) k
def polQ {R : Type} (p : Pol) (args : List AV) (H : Heap) (k : AV → Heap → Option R) : Option R :=
  match p with
  | .still F => bif args.all AV.imm then withV (F args) fun v => k v H else none
  | _ => none
def polT (T : List (FuncId × Pol)) (f : FuncId) : Pol :=
  match lookT T f with
  | .plain => .prim fun _ _ => none
  | p => p
@[simp] theorem cl_polT {E : Env} {T : List (FuncId × Pol)} {n : Nat} {R : Type} {f : FuncId} {args : List AV} {H : Heap} {k : AV → Heap → Option R} : cl E (polT T) n f args H k = polK (lookT T f) args H k := by
  unfold cl callK
  show (match polT T f with | .plain => _ | .prim F => _ | .still F => _) = _
  unfold polT
  cases lookT T f <;> rfl
@[simp] theorem clQ_polT {E : Env} {T : List (FuncId × Pol)} {R : Type} {f : FuncId} {args : List AV} {H : Heap} {k : AV → Heap → Option R} : clQ E (polT T) f args H k = polQ (lookT T f) args H k := by
  unfold clQ callQ
  show (match polT T f with | .still F => _ | _ => _) = _
  unfold polT
  cases lookT T f <;> rfl
@[simp] theorem clV_fn {E : Env} {pol : FuncId → Pol} {n : Nat} {R : Type} {f : FuncId} {a b args : List AV} {H : Heap} {k : AV → Heap → Option R} : clV E pol n (.fn (.func f) a b) args H k = cl E pol n f (a ++ args ++ b) H k := id rfl
@[congr] theorem cl_congr {E : Env} {pol : FuncId → Pol} {n : Nat} {R : Type} {f : FuncId} {args args' : List AV} {H H' : Heap} {k : AV → Heap → Option R} (h : args = args') (h2 : H = H') : cl E pol n f args H k = cl E pol n f args' H' k := by rw [h, h2]
@[congr] theorem clV_congr {E : Env} {pol : FuncId → Pol} {n : Nat} {R : Type} {f f' : AV} {args args' : List AV} {H H' : Heap} {k : AV → Heap → Option R} (h0 : f = f') (h : args = args') (h2 : H = H') : clV E pol n f args H k = clV E pol n f' args' H' k := by rw [h0, h, h2]
@[congr] theorem clQ_congr {E : Env} {pol : FuncId → Pol} {R : Type} {f : FuncId} {args args' : List AV} {H H' : Heap} {k : AV → Heap → Option R} (h : args = args') (h2 : H = H') : clQ E pol f args H k = clQ E pol f args' H' k := by rw [h, h2]
@[congr] theorem polK_congr {R : Type} {p p' : Pol} {args : List AV} {H : Heap} {k : AV → Heap → Option R} (h : p = p') : polK p args H k = polK p' args H k := by rw [h]
@[congr] theorem polQ_congr {R : Type} {p p' : Pol} {args : List AV} {H : Heap} {k : AV → Heap → Option R} (h : p = p') : polQ p args H k = polQ p' args H k := by rw [h]
theorem q0h {R : Type} {F : List AV → Option AV} {args : List AV} {H : Heap} {k : AV → Heap → Option R} (h : args.all AV.imm = true) : polK (.still F) args H k = withV (F args) fun v => k v H := by
  show withP (pureF F args H) k = _
  rw [qe0 h]
  cases F args <;> rfl
theorem q1e {R : Type} {F : List AV → Option AV} {args : List AV} {H : Heap} {k : AV → Heap → Option R} (h : args.all AV.imm = true) : polQ (.still F) args H k = withV (F args) fun v => k v H := by
  show (bif args.all AV.imm then _ else none) = _
  rw [h]
  rfl
@[simp] theorem lookT_cons {g : FuncId} {F : Pol} {r : List (FuncId × Pol)} {f : FuncId} : lookT ((g, F) :: r) f = if f = g then F else lookT r f := id rfl
section
variable {E : Env} {pol : FuncId → Pol}
theorem q23 (sites : List (Nat × Nat × Nat)) : q1f (E.with pol) sites = q1f E sites := by
  funext rid ops d
  rfl
theorem EnvOK.with (h : EnvOK E) : EnvOK (E.with pol) :=
  ⟨fun f fn c h1 h2 => by
    have := h.codes f fn c h1 h2
    rw [← q23 (pol := pol)] at this
    exact this, h.names⟩
theorem OthV.to_with {C : Ctx} {ob : Option Obj} {o : HObj} (h : OthV E C ob o) : OthV (E.with pol) C ob o := by
  cases o with
  | iter l pos => exact h
  | map k e es => exact h
  | loop L =>
    obtain ⟨rcd, h1, h2⟩ := h
    exact ⟨rcd, h1, h2.state, h2.pending, h2.params, h2.assign, h2.body, h2.size, h2.slots, h2.novar, by rw [q23]; exact h2.ok1, by rw [q23]; exact h2.ok2, h2.rf1, h2.rf2⟩
  | _ => trivial
theorem OthV.of_with {C : Ctx} {ob : Option Obj} {o : HObj} (h : OthV (E.with pol) C ob o) : OthV E C ob o := by
  cases o with
  | iter l pos => exact h
  | map k e es => exact h
  | loop L =>
    obtain ⟨rcd, h1, h2⟩ := h
    exact ⟨rcd, h1, h2.state, h2.pending, h2.params, h2.assign, h2.body, h2.size, h2.slots, h2.novar, by rw [← q23 (pol := pol)]; exact h2.ok1, by rw [← q23 (pol := pol)]; exact h2.ok2, h2.rf1, h2.rf2⟩
  | _ => trivial
theorem HR.to_with {C : Ctx} (h : HR E C) : HR (E.with pol) C := ⟨h.row, fun id o ho hh => ⟨(h.oth id o ho hh).1, (h.oth id o ho hh).2.to_with⟩, h.new, h.glob, h.al⟩
theorem HR.of_with {C : Ctx} (h : HR (E.with pol) C) : HR E C := ⟨h.row, fun id o ho hh => ⟨(h.oth id o ho hh).1, (h.oth id o ho hh).2.of_with⟩, h.new, h.glob, h.al⟩
theorem Gives.of_with {C : Ctx} {v : AV} {H' : Heap} {u : Value} {w' : World} (h : Gives (E.with pol) C v H' u w') : Gives E C v H' u w' := by
  obtain ⟨C', h1, h2, h3, h4, h5, h6⟩ := h
  exact ⟨C', h1, h2, h3, h4.of_with, h5, h6⟩
theorem Gives.to_with {C : Ctx} {v : AV} {H' : Heap} {u : Value} {w' : World} (h : Gives E C v H' u w') : Gives (E.with pol) C v H' u w' := by
  obtain ⟨C', h1, h2, h3, h4, h5, h6⟩ := h
  exact ⟨C', h1, h2, h3, h4.to_with, h5, h6⟩
theorem PrimOK.to_with {f : FuncId} {F : List AV → Heap → Option (AV × Heap)} (h : PrimOK E f F) : PrimOK (E.with pol) f F :=
  fun args C us v H' h1 h2 h3 h4 => Lands.mono (h args C us v H' h1 h2.of_with h3 h4) fun _ _ g => g.to_with
theorem PolOK.to_with {f : FuncId} : ∀ {p : Pol}, PolOK E f p → PolOK (E.with pol) f p
  | .plain, _ => trivial
  | .prim F, h => PrimOK.to_with (F := F) h
  | .still F, h => PrimOK.to_with (F := pureF F) h
theorem PolOK.none (f : FuncId) : PolOK E f (.prim fun _ _ => none) := fun _ _ _ _ _ h => by cases h
end
def TabOK (E : Env) : List (FuncId × Pol) → Prop
  | [] => True
  | (f, F) :: r => PolOK E f F ∧ TabOK E r
theorem qgg {E : Env} : ∀ {T : List (FuncId × Pol)}, TabOK E T → ∀ f, PolOK E f (lookT T f)
  | [], _, f => .none f
  | (g, F) :: r, h, f => by
    unfold lookT
    split
    · rename_i e; subst e; exact h.1
    · exact qgg h.2 f
theorem polT_ok {E : Env} {T : List (FuncId × Pol)} (h : TabOK E T) (f : FuncId) : PolOK E f (polT T f) := by
  have := qgg h f
  unfold polT
  split
  · exact .none f
  · exact this
theorem q4n {E : Env} (hE : EnvOK E) (hm : E.P.follows .mixedOrders = true) {T : List (FuncId × Pol)} (hT : TabOK E T) (n : Nat) : CallOK (E.with (polT T)) (callF (E.with (polT T)) n) :=
  q4m (E := E.with (polT T)) hE.with hm (fun f => (polT_ok hT f).to_with) n
structure BaseOK (E : Env) : Prop where
  env : EnvOK E
  mixed : E.P.follows .mixedOrders = true
theorem qch {E : Env} (hb : BaseOK E) (T : List (FuncId × Pol)) (hT : TabOK E T) {f : FuncId} {F : List AV → Option AV}
    (h : ∀ zs v, F zs = some v → Evs fun n _ => callF (E.with (polT T)) (n + 1) AV f zs [] (fun v G => A.freezeB true 64 G v) = some v) : PolOK E f (.still F) :=
  q90 (E := E) (E' := E.with (polT T)) rfl rfl (q4n hb.env hb.mixed hT) fun zs v hv => by
    obtain ⟨N, hN⟩ := h zs v hv
    exact ⟨N + 1, hN N N (Nat.le_refl _) (Nat.le_refl _)⟩
theorem heap_of {E : Env} (hb : BaseOK E) (T : List (FuncId × Pol)) (hT : TabOK E T) {f : FuncId} {F : List AV → Heap → Option (AV × Heap)}
    (h : ∀ zs H v H', F zs H = some (v, H') → Evs fun n _ => callF (E.with (polT T)) (n + 1) (AV × Heap) f zs H (fun v G => some (v, G)) = some (v, H')) (hlt : Nat.blt f yBase = true := by rfl) : PolOK E f (.prim F) := fun args C us v H' h1 hr hl hv => by
  obtain ⟨N, hN⟩ := h args C.H v H' h1
  exact Lands.mono ((q4n hb.env hb.mixed hT (N + 1)).call f args C us v H' hlt (hN N N (Nat.le_refl _) (Nat.le_refl _)) hr.to_with hl hv) fun _ _ g => g.of_with
theorem qcw {E : Env} {T : List (FuncId × Pol)} {f : FuncId} {zs : List AV} {v : AV} (h : Evs fun n _ => callF (E.with (polT T)) (n + 1) AV f zs [] (fun v _ => some v) = some v) : ∃ n, answer (E.with (polT T)) n f zs = some v := by
  obtain ⟨N, hN⟩ := h
  exact ⟨N + 1, hN N N (Nat.le_refl _) (Nat.le_refl _)⟩
theorem q54 {v : AV} {H : Heap} (h : v.imm = true) : A.freezeB true 64 H v = some v := (qf5 h 61 H).1
/-! ### codes -/
structure Cd (α : Type) where
  enc : α → AV
  inj : ∀ a b, enc a = enc b → a = b
  imm : ∀ a, (enc a).imm1 = true
namespace Cd
variable {α β γ δ ε : Type}
noncomputable def dec (c : Cd α) (v : AV) : Option α := open Classical in if h : ∃ a, v = c.enc a then some h.choose else none
theorem dec_enc (c : Cd α) (a : α) : c.dec (c.enc a) = some a := by
  have h : ∃ b, c.enc a = c.enc b := ⟨a, rfl⟩
  unfold dec
  rw [dif_pos h]
  exact congrArg some (c.inj _ _ h.choose_spec).symm
theorem dec_some {c : Cd α} {v : AV} {a : α} (h : c.dec v = some a) : v = c.enc a := by
  unfold dec at h
  split at h
  · rename_i hx
    simp only [Option.some.injEq] at h
    rw [← h]
    exact hx.choose_spec
  · cases h
noncomputable def f0 (r : AV) : List AV → Option AV
  | [] => some r
  | _ => none
end Cd
noncomputable def p1 {α ρ : Type} (a : Cd α) (r : ρ → AV) (P : α → Prop) (f : α → ρ) : List AV → Option AV
  | [v0] => (a.dec v0).bind fun x0 => (open Classical in if P x0 then some (r (f x0)) else none)
  | _ => none
@[simp] theorem p1_app {α ρ : Type} {a : Cd α} {r : ρ → AV} {P : α → Prop} {f : α → ρ} {v0 : AV} : p1 a r P f [v0] = (a.dec v0).bind fun x0 => (open Classical in if P x0 then some (r (f x0)) else none) := id rfl
theorem still1 {E : Env} (hb : BaseOK E) (T : List (FuncId × Pol)) (hT : TabOK E T) {f : FuncId} {α ρ : Type} {a : Cd α} {r : ρ → AV} {P : α → Prop} {F : α → ρ}
    (h : ∀ x0, P x0 → Evs fun n _ => callF (E.with (polT T)) (n + 1) AV f [a.enc x0] [] (fun v G => A.freezeB true 64 G v) = some (r (F x0))) : PolOK E f (.still (p1 a r P F)) :=
  qch hb T hT fun ar v hv => by
    unfold p1 at hv
    split at hv
    · simp only [Option.bind_eq_some_iff] at hv
      obtain ⟨x0, h0, hv⟩ := hv
      split at hv
      · rename_i hp
        cases hv
        rw [Cd.dec_some h0]
        exact h x0 hp
      · cases hv
    · cases hv
noncomputable def p2 {α β ρ : Type} (a : Cd α) (b : Cd β) (r : ρ → AV) (P : α → β → Prop) (f : α → β → ρ) : List AV → Option AV
  | [v0, v1] => (a.dec v0).bind fun x0 => (b.dec v1).bind fun x1 => (open Classical in if P x0 x1 then some (r (f x0 x1)) else none)
  | _ => none
@[simp] theorem p2_app {α β ρ : Type} {a : Cd α} {b : Cd β} {r : ρ → AV} {P : α → β → Prop} {f : α → β → ρ} {v0 v1 : AV} : p2 a b r P f [v0, v1] = (a.dec v0).bind fun x0 => (b.dec v1).bind fun x1 => (open Classical in if P x0 x1 then some (r (f x0 x1)) else none) := id rfl
theorem still2 {E : Env} (hb : BaseOK E) (T : List (FuncId × Pol)) (hT : TabOK E T) {f : FuncId} {α β ρ : Type} {a : Cd α} {b : Cd β} {r : ρ → AV} {P : α → β → Prop} {F : α → β → ρ}
    (h : ∀ x0 x1, P x0 x1 → Evs fun n _ => callF (E.with (polT T)) (n + 1) AV f [a.enc x0, b.enc x1] [] (fun v G => A.freezeB true 64 G v) = some (r (F x0 x1))) : PolOK E f (.still (p2 a b r P F)) :=
  qch hb T hT fun ar v hv => by
    unfold p2 at hv
    split at hv
    · simp only [Option.bind_eq_some_iff] at hv
      obtain ⟨x0, h0, x1, h1, hv⟩ := hv
      split at hv
      · rename_i hp
        cases hv
        rw [Cd.dec_some h0, Cd.dec_some h1]
        exact h x0 x1 hp
      · cases hv
    · cases hv
noncomputable def p3 {α β γ ρ : Type} (a : Cd α) (b : Cd β) (c : Cd γ) (r : ρ → AV) (P : α → β → γ → Prop) (f : α → β → γ → ρ) : List AV → Option AV
  | [v0, v1, v2] => (a.dec v0).bind fun x0 => (b.dec v1).bind fun x1 => (c.dec v2).bind fun x2 => (open Classical in if P x0 x1 x2 then some (r (f x0 x1 x2)) else none)
  | _ => none
@[simp] theorem p3_app {α β γ ρ : Type} {a : Cd α} {b : Cd β} {c : Cd γ} {r : ρ → AV} {P : α → β → γ → Prop} {f : α → β → γ → ρ} {v0 v1 v2 : AV} : p3 a b c r P f [v0, v1, v2] = (a.dec v0).bind fun x0 => (b.dec v1).bind fun x1 => (c.dec v2).bind fun x2 => (open Classical in if P x0 x1 x2 then some (r (f x0 x1 x2)) else none) := id rfl
theorem still3 {E : Env} (hb : BaseOK E) (T : List (FuncId × Pol)) (hT : TabOK E T) {f : FuncId} {α β γ ρ : Type} {a : Cd α} {b : Cd β} {c : Cd γ} {r : ρ → AV} {P : α → β → γ → Prop} {F : α → β → γ → ρ}
    (h : ∀ x0 x1 x2, P x0 x1 x2 → Evs fun n _ => callF (E.with (polT T)) (n + 1) AV f [a.enc x0, b.enc x1, c.enc x2] [] (fun v G => A.freezeB true 64 G v) = some (r (F x0 x1 x2))) : PolOK E f (.still (p3 a b c r P F)) :=
  qch hb T hT fun ar v hv => by
    unfold p3 at hv
    split at hv
    · simp only [Option.bind_eq_some_iff] at hv
      obtain ⟨x0, h0, x1, h1, x2, h2, hv⟩ := hv
      split at hv
      · rename_i hp
        cases hv
        rw [Cd.dec_some h0, Cd.dec_some h1, Cd.dec_some h2]
        exact h x0 x1 x2 hp
      · cases hv
    · cases hv
noncomputable def p4 {α β γ δ ρ : Type} (a : Cd α) (b : Cd β) (c : Cd γ) (d : Cd δ) (r : ρ → AV) (P : α → β → γ → δ → Prop) (f : α → β → γ → δ → ρ) : List AV → Option AV
  | [v0, v1, v2, v3] => (a.dec v0).bind fun x0 => (b.dec v1).bind fun x1 => (c.dec v2).bind fun x2 => (d.dec v3).bind fun x3 => (open Classical in if P x0 x1 x2 x3 then some (r (f x0 x1 x2 x3)) else none)
  | _ => none
@[simp] theorem p4_app {α β γ δ ρ : Type} {a : Cd α} {b : Cd β} {c : Cd γ} {d : Cd δ} {r : ρ → AV} {P : α → β → γ → δ → Prop} {f : α → β → γ → δ → ρ} {v0 v1 v2 v3 : AV} : p4 a b c d r P f [v0, v1, v2, v3] = (a.dec v0).bind fun x0 => (b.dec v1).bind fun x1 => (c.dec v2).bind fun x2 => (d.dec v3).bind fun x3 => (open Classical in if P x0 x1 x2 x3 then some (r (f x0 x1 x2 x3)) else none) := id rfl
noncomputable def p5 {α β γ δ ε ρ : Type} (a : Cd α) (b : Cd β) (c : Cd γ) (d : Cd δ) (e : Cd ε) (r : ρ → AV) (P : α → β → γ → δ → ε → Prop) (f : α → β → γ → δ → ε → ρ) : List AV → Option AV
  | [v0, v1, v2, v3, v4] => (a.dec v0).bind fun x0 => (b.dec v1).bind fun x1 => (c.dec v2).bind fun x2 => (d.dec v3).bind fun x3 => (e.dec v4).bind fun x4 => (open Classical in if P x0 x1 x2 x3 x4 then some (r (f x0 x1 x2 x3 x4)) else none)
  | _ => none
@[simp] theorem p5_app {α β γ δ ε ρ : Type} {a : Cd α} {b : Cd β} {c : Cd γ} {d : Cd δ} {e : Cd ε} {r : ρ → AV} {P : α → β → γ → δ → ε → Prop} {f : α → β → γ → δ → ε → ρ} {v0 v1 v2 v3 v4 : AV} : p5 a b c d e r P f [v0, v1, v2, v3, v4] = (a.dec v0).bind fun x0 => (b.dec v1).bind fun x1 => (c.dec v2).bind fun x2 => (d.dec v3).bind fun x3 => (e.dec v4).bind fun x4 => (open Classical in if P x0 x1 x2 x3 x4 then some (r (f x0 x1 x2 x3 x4)) else none) := id rfl
noncomputable def p6 {α β γ δ ε ζ ρ : Type} (a : Cd α) (b : Cd β) (c : Cd γ) (d : Cd δ) (e : Cd ε) (f6 : Cd ζ) (r : ρ → AV) (P : α → β → γ → δ → ε → ζ → Prop) (f : α → β → γ → δ → ε → ζ → ρ) : List AV → Option AV
  | [v0, v1, v2, v3, v4, v5] => (a.dec v0).bind fun x0 => (b.dec v1).bind fun x1 => (c.dec v2).bind fun x2 => (d.dec v3).bind fun x3 => (e.dec v4).bind fun x4 => (f6.dec v5).bind fun x5 => (open Classical in if P x0 x1 x2 x3 x4 x5 then some (r (f x0 x1 x2 x3 x4 x5)) else none)
  | _ => none
@[simp] theorem p6_app {α β γ δ ε ζ ρ : Type} {a : Cd α} {b : Cd β} {c : Cd γ} {d : Cd δ} {e : Cd ε} {f6 : Cd ζ} {r : ρ → AV} {P : α → β → γ → δ → ε → ζ → Prop} {f : α → β → γ → δ → ε → ζ → ρ} {v0 v1 v2 v3 v4 v5 : AV} : p6 a b c d e f6 r P f [v0, v1, v2, v3, v4, v5] = (a.dec v0).bind fun x0 => (b.dec v1).bind fun x1 => (c.dec v2).bind fun x2 => (d.dec v3).bind fun x3 => (e.dec v4).bind fun x4 => (f6.dec v5).bind fun x5 => (open Classical in if P x0 x1 x2 x3 x4 x5 then some (r (f x0 x1 x2 x3 x4 x5)) else none) := id rfl
def cI (k : IntKind) : Cd Int := ⟨.int k, fun _ _ h => by simpa using h, fun _ => rfl⟩
def cU32 : Cd UInt32 := ⟨fun x => .int .u32 x.toNat, fun a b h => by
  have : (a.toNat : Int) = b.toNat := by simpa using h
  exact UInt32.toNat_inj.1 (by omega), fun _ => rfl⟩
def cB : Cd Bool := ⟨.bool, fun _ _ h => by simpa using h, fun _ => rfl⟩
def cS : Cd (List UInt8) := ⟨.str, fun _ _ h => by simpa using h, fun _ => rfl⟩
theorem qfc {α β : Type} {f : α → β} (hf : ∀ a b, f a = f b → a = b) : ∀ {l m : List α}, l.map f = m.map f → l = m
  | [], [], _ => rfl
  | [], _ :: _, h => by simp at h
  | _ :: _, [], h => by simp at h
  | a :: l, b :: m, h => by
    simp only [List.map_cons, List.cons.injEq] at h
    rw [hf _ _ h.1, qfc hf h.2]
def eL {α : Type} (sz : Nat) (e : α → AV) : Option (List α) → AV
  | none => .nils
  | some l => .sh sz (l.map e)
def cL {α : Type} (sz : Nat) (c : Cd α) : Cd (Option (List α)) := ⟨eL sz c.enc, fun a b h => by
  cases a <;> cases b <;> simp [eL] at h
  · rfl
  · rw [qfc c.inj h], fun a => by cases a <;> rfl⟩
abbrev eU (k : IntKind) (n : Nat) : AV := .int k n
section
variable {α : Type} {sz : Nat} {e : α → AV} {H : Heap}
@[simp] theorem leaf_eL {o : Option (List α)} : (eL sz e o).leaf = true := by cases o <;> rfl
@[simp] theorem imm1_eL {o : Option (List α)} : (eL sz e o).imm1 = true := by cases o <;> rfl
@[simp] theorem imm_eL {o : Option (List α)} : (eL sz e o).imm = true := by cases o <;> rfl
@[simp] theorem cells_eL {o : Option (List α)} : (eL sz e o).cells = [eL sz e o] := by cases o <;> rfl
@[simp] theorem isDef_eL {o : Option (List α)} : (eL sz e o).isDef = true := by cases o <;> rfl
@[simp] theorem one_eL {o : Option (List α)} : (eL sz e o).one = true := by cases o <;> rfl
@[simp] theorem q19 {o : Option (List α)} : A.len (eL sz e o) H = some (.int .i64 (o.getD []).length) := by cases o <;> simp [eL, A.len]
@[simp] theorem read_eL {o : Option (List α)} : A.read sz (eL sz e o) H = some ((o.getD []).map e) := by cases o <;> simp [eL, A.read]
theorem idx_eL {o : Option (List α)} {k : IntKind} {i : Nat} (h : i < (o.getD []).length) : A.idx sz (eL sz e o) (.int k (i : Int)) H = some (.rop (e ((o.getD [])[i])).cells) := by
  cases o with
  | none => simp at h
  | some l =>
    simp only [Option.getD_some] at h ⊢
    have hl : i < (l.map e).length := by simpa using h
    simp only [eL, A.idx]
    rw [if_pos ⟨by omega, by omega, trivial⟩]
    simp [h]
end
@[simp] theorem enc_cI (k : IntKind) (n : Int) : (cI k).enc n = .int k n := id rfl
@[simp] theorem enc_cU32 (x : UInt32) : cU32.enc x = .int .u32 x.toNat := id rfl
@[simp] theorem enc_cB (b : Bool) : cB.enc b = .bool b := id rfl
@[simp] theorem enc_cS (s : List UInt8) : cS.enc s = .str s := id rfl
@[simp] theorem enc_cL {α : Type} (sz : Nat) (c : Cd α) (o : Option (List α)) : (cL sz c).enc o = eL sz c.enc o := id rfl
@[simp] theorem dec_cI (k : IntKind) (n : Int) : (cI k).dec (.int k n) = some n := (cI k).dec_enc n
@[simp] theorem dec_cB (b : Bool) : cB.dec (.bool b) = some b := cB.dec_enc b
@[simp] theorem dec_cS (s : List UInt8) : cS.dec (.str s) = some s := cS.dec_enc s
@[simp] theorem dec_cU32 (x : UInt32) : cU32.dec (.int .u32 x.toNat) = some x := cU32.dec_enc x
@[simp] theorem dec_cL {α : Type} (sz : Nat) (c : Cd α) (o : Option (List α)) : (cL sz c).dec (eL sz c.enc o) = some o := (cL sz c).dec_enc o
end Go.Den

/- DEN, part Se: what the generated equations of a range over a function are written in. -/
namespace Go.Den
def rfK (E : Env) (n : Nat) {R : Type} (g : AV) (L : LoopD) (H : Heap) (k : AExit → Heap → Option R) : Option R :=
  match g with
  | .fn (.func f) [] cap =>
    bif !q55 E f then none else callK E (callF E n) f (.yl H.length :: cap) (H ++ [.loop L]) fun _ H1 =>
      match H1[H.length]? with
      | some (.loop L1) => bif Nat.beq L1.state 1 then none else match L1.pending with
        | none => k .normal (H1.set H.length .dead)
        | some e => k e (H1.set H.length .dead)
      | _ => none
  | _ => none
def exitK {R : Type} (e : AExit) (a : Option R) (b : Nat → Option R) (c : Option R) : Option R :=
  match e with
  | .normal => a
  | .exit j => b j
  | .ret => c
def loopGet {R : Type} (H : Heap) (id : Nat) (f : LoopD → Option R) : Option R :=
  match H[id]? with
  | some (.loop L) => f L
  | _ => none
def stSet (d N : Nat) (l : List (Nat × AV)) : St := { slots := l.foldl (fun T p => Tr.set T p.1 (.val p.2)) (Tr.full .no d), L := .lf, N := N }
def q92 : Code → Code × Code
  | .rangeFunc _ _ a b => (a, b)
  | .seq a b => match q92 a with
    | (.skip, .skip) => q92 b
    | r => r
  | .cond _ a b => match q92 a with
    | (.skip, .skip) => q92 b
    | r => r
  | .block _ a | .loop a | .scope a => q92 a
  | _ => (.skip, .skip)
def bodyOf (E : Env) (f : FuncId) : Code :=
  match E.P.funcs[f]? with
  | some fn => fn.body.getD .skip
  | none => .skip
end Go.Den

/- DEN, part Pw: rows that a function makes for itself, and slices that are whole rows; what is handed back of them. -/
namespace Go.Den
abbrev eu (x : UInt32) : AV := .int .u32 x.toNat
section
variable {H : Heap} {id ver sz : Nat} {ty : TypeId} {es : List AV} {off n cap : Nat} {k : IntKind} {i : Int} {b : Bool}
theorem q96 (h : H[id]? = some (.row ver sz ty es)) (l : Heap) : (H ++ l)[id]? = some (.row ver sz ty es) := by
  rw [List.getElem?_append_left (qds h)]
  exact h
theorem q1o {x y : HObj} (h : H[id]? = some y) : (H.set id x)[id]? = some x := q2l h
theorem q2e : (H ++ [.row ver sz ty es])[H.length]? = some (.row ver sz ty es) := qf3
theorem q4d (h : H[id]? = some (.row ver sz ty es)) (h0 : 0 ≤ i) (h1 : i < n) : A.idx sz (.sl id ver off n cap) (.int k i) H = some (.ptr id ver (off + i.toNat) 0) := by
  simp only [A.idx, A.aliveZ, h]
  rw [if_pos ⟨h0, h1, by simp⟩]
theorem q3x {e : AV} {j : Nat} (h : H[id]? = some (.row ver sz ty es)) (he : es[j]? = some e) (hc : e.cells = [e]) : A.load false 1 (.ptr id ver j 0) H = some e := by
  simp [A.load, A.elemAt, h, he, A.ofList, hc]
theorem q63 {e v : AV} {j : Nat} (h : H[id]? = some (.row ver sz ty es)) (he : es[j]? = some e) (ho : e.one = true) (hv : v.one = true) : A.store 1 (.ptr id ver j 0) v H = some (H.set id (.row ver sz ty (es.set j v))) := by
  have hc : v.cells = [v] := by cases v <;> first | rfl | cases hv
  simp only [A.store, A.fits, hc, h, he]
  cases e <;> first | (cases ho; done) | (cases v <;> first | (cases hv; done) | simp [AV.one, A.setElem])
theorem q1c {j o : Nat} (h : H[id]? = some (.row ver sz ty es)) : A.nilCheck (.ptr id ver j o) H = some (.ptr id ver j o) := by
  simp [A.nilCheck, A.alive, h]
theorem q72 {bytes : Nat} {news : List AV} (h : H[id]? = some (.row ver sz ty es)) (hn : n = es.length) (hne : news ≠ []) (hb : 0 < bytes) (hm : (es.length + news.length) * bytes ≤ 140737488355328) :
    A.append sz bytes ty (.sl id ver 0 n n) news H = some (.sl id (ver + 1) 0 (es ++ news).length (es ++ news).length, H.set id (.row (ver + 1) sz ty (es ++ news))) := by
  subst hn
  have hl : 0 < news.length := List.length_pos_iff.2 hne
  simp only [A.append, h]
  rw [if_pos ⟨trivial, trivial, trivial, by omega, Nat.le_refl _, hm, hb⟩, if_neg (by omega)]
  simp
theorem q9s {bytes : Nat} (h : H[id]? = some (.row ver sz ty es)) (hn : n = es.length) (hb : 0 < bytes) (hm : es.length * bytes ≤ 140737488355328) :
    A.append sz bytes ty (.sl id ver 0 n n) [] H = some (.sl id ver 0 n n, H.set id (.row ver sz ty es)) := by
  subst hn
  simp only [A.append, h]
  rw [if_pos ⟨trivial, trivial, trivial, by omega, Nat.le_refl _, by simpa using hm, hb⟩, if_pos (by simp)]
  simp [A.splice]
theorem nil_append {bytes : Nat} {news : List AV} (hne : news ≠ []) (hb : 0 < bytes) (hm : news.length * bytes ≤ 140737488355328) :
    A.append sz bytes ty .nils news H = some (.sl H.length 0 0 news.length news.length, H ++ [.row 0 sz ty news]) := by
  cases news with
  | nil => exact absurd rfl hne
  | cons x news =>
    simp only [A.append]
    rw [if_pos ⟨hm, hb⟩]
    rfl
theorem q7v (h : H[id]? = some (.row ver sz ty es)) (hn : n = es.length) : A.read sz (.sl id ver 0 n cap) H = some es := by
  subst hn
  simp [A.read, h]
theorem q3y {bytes : Nat} {z : AV} {l : Int} (h0 : 0 ≤ l) (hb : 0 < bytes) (hm : bytes * l ≤ 281474976710656) :
    A.makeSlice sz bytes ty z (.int .i64 l) (.int .i64 l) H = some (.sl H.length 0 0 l.toNat l.toNat, H ++ [.row 0 sz ty (List.replicate l.toNat z)]) := by
  simp only [A.makeSlice]
  rw [if_pos ⟨h0, Int.le_refl _, hm, hb⟩]
end
theorem qdf {b : Bool} {n : Nat} {H : Heap} {e : AV} (h : e.flat0 = true) (hd : e.isDef = true) : qbm b (n + 1) H e = some e := by
  cases e <;> first | rfl | (cases h; done) | (cases hd; done)
theorem q4r {b : Bool} {m : Nat} {H : Heap} {id ver sz n cap : Nat} {ty : TypeId} {es : List AV} (h : H[id]? = some (.row ver sz ty es)) (hn : n = es.length) (hf : ∀ e ∈ es, e.flat0 = true ∧ e.isDef = true) :
    A.freezeB b (m + 2) H (.sl id ver 0 n cap) = some (.sh sz es) := by
  subst hn
  rw [qdh, h]
  dsimp only
  rw [if_pos ⟨rfl, by omega⟩]
  simp only [List.drop_zero, List.take_length]
  rw [q33 fun x hx => qdf (hf x hx).1 (hf x hx).2]
  rfl
@[simp] theorem freeze_int {b : Bool} {H : Heap} {k : IntKind} {n : Int} : A.freezeB b 64 H (.int k n) = some (.int k n) := id rfl
@[simp] theorem freeze_bool {b : Bool} {H : Heap} {x : Bool} : A.freezeB b 64 H (.bool x) = some (.bool x) := id rfl
@[simp] theorem freeze_str {b : Bool} {H : Heap} {x : List UInt8} : A.freezeB b 64 H (.str x) = some (.str x) := id rfl
@[simp] theorem freeze_nils {b : Bool} {H : Heap} : A.freezeB b 64 H .nils = some .nils := id rfl
theorem qdg {b : Bool} {H : Heap} {cs : List AV} : A.freezeB b 64 H (.agg cs) = (cs.mapM (A.freezeB b 63 H)).map .agg := rfl
theorem q7f {b : Bool} {H : Heap} {cs : List AV} : A.freezeB b 64 H (.tup cs) = (cs.mapM (A.freezeB b 63 H)).map .tup := rfl
theorem q0m {H : Heap} {v x : AV} {vs r : List AV} (h : A.freezeB true 64 H v = some x) (g : q0r H vs = some r) : q0r H (v :: vs) = some (x :: r) := by
  unfold q0r
  rw [h, g]
@[simp] theorem frz_eD {H : Heap} {α : Type} {sz : Nat} {e : α → AV} {o : Option (List α)} : A.freezeB true 64 H (eL sz e o) = some (eL sz e o) := q54 (by simp)
@[simp high] theorem load_rop1 {H : Heap} {sz : Nat} {x : AV} : A.load false sz (.rop [x]) H = some x := id rfl
@[simp] theorem AV.one_int {k : IntKind} {n : Int} : (AV.int k n).one = true := id rfl
@[simp] theorem AV.one_bool {b : Bool} : (AV.bool b).one = true := id rfl
@[simp] theorem AV.one_str {s : List UInt8} : (AV.str s).one = true := id rfl
@[simp] theorem AV.one_nils : (AV.nils).one = true := id rfl
@[simp] theorem AV.one_nilp : (AV.nilp).one = true := id rfl
@[simp] theorem AV.one_sh {z : Nat} {cs : List AV} : (AV.sh z cs).one = true := id rfl
@[simp] theorem AV.one_lit {z : Nat} {cs : List AV} : (AV.lit z cs).one = true := id rfl
@[simp] theorem AV.one_sl {a b c d e : Nat} : (AV.sl a b c d e).one = true := id rfl
@[simp] theorem AV.one_ptr {a b c d : Nat} : (AV.ptr a b c d).one = true := id rfl
@[simp] theorem get_zero {α : Type} {a : α} {l : List α} : (a :: l)[0]? = some a := id rfl
theorem q2d {R : Type} {F : List AV → Option AV} {args xs : List AV} {H : Heap} {k : AV → Heap → Option R} (h : q0r H args = some xs) : polK (.still F) args H k = withV (F xs) fun v => k v (bif v.flat then H else kill (args.flatMap (reach 64 H)) H) := by
  show withP (pureF F args H) k = _
  unfold pureF
  rw [h]
  dsimp only
  cases F xs <;> rfl
/-! ### a slice that grows, one by one -/
section
variable {α : Type} {e : α → AV} {sz : Nat} {ty : TypeId} {H : Heap} {v : AV} {l : List α} {bytes : Nat}
def Out (e : α → AV) (sz : Nat) (ty : TypeId) (H : Heap) (v : AV) (l : List α) : Prop :=
  (l = [] ∧ v = .nils) ∨ ∃ id ver, l ≠ [] ∧ v = .sl id ver 0 l.length l.length ∧ H[id]? = some (.row ver sz ty (l.map e))
theorem Out.nil : Out e sz ty H .nils [] := .inl ⟨rfl, rfl⟩
theorem Out.app (h : Out e sz ty H v l) (x : Heap) : Out e sz ty (H ++ x) v l := by
  rcases h with h | ⟨id, ver, h0, h1, h2⟩
  · exact .inl h
  · exact .inr ⟨id, ver, h0, h1, q96 h2 x⟩
theorem Out.push (h : Out e sz ty H v l) (x : α) (hb : 0 < bytes) (hm : (l.length + 1) * bytes ≤ 140737488355328) :
    ∃ v' H', A.append sz bytes ty v [e x] (H ++ [.row 0 sz ty [e x]]) = some (v', H') ∧ Out e sz ty H' v' (l ++ [x]) := by
  rcases h with ⟨rfl, rfl⟩ | ⟨id, ver, h0, rfl, h2⟩
  · refine ⟨_, _, nil_append (news := [e x]) (by simp) hb (by simpa using hm), .inr ⟨_, 0, by simp, rfl, ?_⟩⟩
    exact q2e
  · have h3 := q96 h2 [.row 0 sz ty [e x]]
    refine ⟨_, _, q72 (news := [e x]) h3 (by simp) (by simp) hb (by simpa using hm), .inr ⟨id, ver + 1, by simp, by simp, ?_⟩⟩
    rw [q1o h3]
    simp
theorem qcm {x : AV} : A.read sz (.sl H.length 0 0 1 1) (H ++ [.row 0 sz ty [x]]) = some [x] := q7v q2e rfl
def nz (l : List α) : Option (List α) := if l = [] then none else some l
theorem q2m (l : List α) : (nz l).getD [] = l := by
  unfold nz
  split
  · rename_i h; rw [h]; rfl
  · rfl
theorem Out.frz (h : Out e sz ty H v l) (hf : ∀ x, (e x).flat0 = true ∧ (e x).isDef = true) : A.freezeB true 64 H v = some (eL sz e (nz l)) := by
  rcases h with ⟨rfl, rfl⟩ | ⟨id, ver, h0, rfl, h2⟩
  · rfl
  · have := q4r (b := true) (m := 62) (n := l.length) (cap := l.length) h2 (by simp) (fun y hy => by
      obtain ⟨x, _, rfl⟩ := List.mem_map.1 hy
      exact hf x)
    rw [this]
    unfold nz
    cases l with
    | nil => exact absurd rfl h0
    | cons x l => rfl
end
theorem lrow {H : Heap} {id ver n : Nat} {ty : TypeId} {o : List UInt32} {j : Nat} {k : IntKind} {i : Int} (h : H[id]? = some (.row ver 1 ty (o.map eu))) (hn : n = o.length) (hj : j < o.length) (hi : i = j) :
    A.idx 1 (.sl id ver 0 n n) (.int k i) H = some (.ptr id ver j 0) ∧ A.load false 1 (.ptr id ver j 0) H = some (eu o[j]) ∧ ∀ d : UInt32, A.store 1 (.ptr id ver j 0) (eu d) H = some (H.set id (.row ver 1 ty ((o.set j d).map eu))) := by
  subst hi hn
  have he : (o.map eu)[j]? = some (eu o[j]) := by simp [hj]
  refine ⟨?_, q3x h he rfl, fun d => ?_⟩
  · have := q4d (k := k) (off := 0) (n := o.length) (cap := o.length) h (i := (j : Int)) (by omega) (by omega)
    simpa using this
  · rw [q63 h he rfl rfl, List.map_set]
theorem q1p {H : Heap} {id ver n cap : Nat} {ty : TypeId} {l : List UInt32} (h : H[id]? = some (.row ver 1 ty (l.map eu))) (hn : n = l.length) (m : Nat) : A.freezeB true (m + 2) H (.sl id ver 0 n cap) = some (eL 1 eu (some l)) :=
  q4r h (by simp [hn]) fun e he => by
    obtain ⟨x, _, rfl⟩ := List.mem_map.1 he
    exact ⟨rfl, rfl⟩
theorem qbn {H : Heap} {id ver n cap : Nat} {ty : TypeId} {l : List UInt32} {b : Bool} (h : H[id]? = some (.row ver 1 ty (l.map eu))) (hn : n = l.length) : A.freezeB true 64 H (.agg [.bool b, .sl id ver 0 n cap]) = some (.agg [.bool b, eL 1 eu (some l)]) := by
  have h1 : A.freezeB true 63 H (.sl id ver 0 n cap) = _ := q1p h hn 61
  have h2 : A.freezeB true 63 H (.bool b) = some (.bool b) := rfl
  rw [qdg, List.mapM_cons, h2, List.mapM_cons, h1]
  rfl
theorem q2b {H : Heap} {b : Bool} {xs r : List AV} (h : q0r H xs = some r) : q0r H (.bool b :: xs) = some (.bool b :: r) := q0m rfl h
@[simp] theorem AV.cells_sl {a b c d e : Nat} : (AV.sl a b c d e).cells = [.sl a b c d e] := id rfl
@[simp] theorem AV.isDef_sl {a b c d e : Nat} : (AV.sl a b c d e).isDef = true := id rfl
@[simp] theorem AV.cells_ptr {a b c d : Nat} : (AV.ptr a b c d).cells = [.ptr a b c d] := id rfl
@[simp] theorem AV.isDef_ptr {a b c d : Nat} : (AV.ptr a b c d).isDef = true := id rfl
/-! ### boxes -/
section
variable {H : Heap} {b sz : Nat} {ty : TypeId} {cs : List AV}
theorem qb9 (h : Box H b sz ty cs) (hl : sz = cs.length) : A.load true sz (.ptr b 0 0 0) H = some (.agg cs) := by
  subst hl
  simp only [Box] at h
  simp [A.load, A.elemAt, h, A.ofList, AV.cells]
theorem q80 {ds : List AV} (h : Box H b sz ty cs) (hc : cs.length = sz) (hd : ds.length = sz) (ho : ds.all AV.one = true) : A.store sz (.ptr b 0 0 0) (.agg ds) H = some (H.set b (.row 0 sz ty [.agg ds])) := by
  simp only [Box] at h
  have hf : A.fits sz (.agg ds) = true := by simp [A.fits, AV.cells, hd, ho]
  simp only [A.store, hf, cond_true, h, beq_self_eq_true, A.setElem, List.getElem?_cons_zero, Option.bind_some]
  rw [if_pos (by simp [AV.cells, hd, hc])]
  simp [AV.cells, A.splice, hd, ← hc]
end
/-! ### numbers -/
theorem q38 {E : Env} {s d : TypeId} {x : TypeDesc} {k j : IntKind} {n : Int} (hs : E.P.underlying s = some x) (hd : E.P.underlying d = some (.int k)) : convert E s d (.int j n) = some (.int k (k.wrap n)) := by
  simp [convert, hs, hd]
@[simp] theorem wrap64_limb (x : UInt32) : IntKind.wrap .u64 (x.toNat : Int) = x.toNat := q0g (by omega) (by have := x.toNat_lt; omega)
@[simp] theorem wrap32_limb (x : UInt32) : IntKind.wrap .u32 (x.toNat : Int) = x.toNat := q7x (by omega) (by have := x.toNat_lt; omega)
theorem q0n (n : Nat) : IntKind.wrap .u32 (n : Int) = ((UInt32.ofNat n).toNat : Nat) := by
  simp [IntKind.wrap, IntKind.bits, IntKind.signed]
theorem q2r {P : Program} {t : TypeId} {c : Bool} {H : Heap} {a s : Nat} {j : IntKind} (h : s ≤ 64) : A.bin P .shr t (.int .u64 (a : Int)) (.int j (s : Int)) c H = some (.int .u64 ((a / 2 ^ s : Nat) : Int)) := by
  simp only [A.bin, A.binInt]
  rw [if_neg (by omega)]
  have : min (s : Int).toNat (IntKind.bits .u64) = s := by simp [IntKind.bits]; omega
  have e : (2 : Int) ^ s = ((2 ^ s : Nat) : Int) := by push_cast; rfl
  rw [this, e, Int.fdiv_eq_ediv_of_nonneg _ (Int.natCast_nonneg _)]
  rfl
theorem shl_u64 {P : Program} {t : TypeId} {c : Bool} {H : Heap} {a s : Nat} {j : IntKind} (h : s ≤ 64) (hl : a * 2 ^ s < 18446744073709551616) : A.bin P .shl t (.int .u64 (a : Int)) (.int j (s : Int)) c H = some (.int .u64 ((a * 2 ^ s : Nat) : Int)) := by
  simp only [A.bin, A.binInt]
  rw [if_neg (by omega)]
  have : min (s : Int).toNat (IntKind.bits .u64) = s := by simp [IntKind.bits]; omega
  rw [this]
  have e : (a : Int) * 2 ^ s = ((a * 2 ^ s : Nat) : Int) := by push_cast; rfl
  rw [e, q0g (by omega) (by omega)]
theorem qca {P : Program} {t : TypeId} {c : Bool} {H : Heap} {x y : Nat} (hy : y ≠ 0) (hx : x < 18446744073709551616) : A.bin P .quo t (.int .u64 (x : Int)) (.int .u64 (y : Int)) c H = some (.int .u64 ((x / y : Nat) : Int)) := by
  have hd : x / y ≤ x := Nat.div_le_self _ _
  have e : (x : Int).tdiv y = ((x / y : Nat) : Int) := by
    rw [Int.tdiv_eq_ediv_of_nonneg (by omega)]; rfl
  have hw : IntKind.wrap .u64 ((x / y : Nat) : Int) = ((x / y : Nat) : Int) := by
    generalize x / y = q at hd
    exact q0g (by omega) (by omega)
  rw [A.bin_quo, if_neg (by omega), e, hw]
theorem qcb {P : Program} {t : TypeId} {c : Bool} {H : Heap} {x y : Nat} (hy : y ≠ 0) : A.bin P .rem t (.int .u64 (x : Int)) (.int .u64 (y : Int)) c H = some (.int .u64 ((x % y : Nat) : Int)) := by
  have e : (x : Int).tmod y = ((x % y : Nat) : Int) := by
    rw [Int.tmod_eq_emod_of_nonneg (by omega)]; rfl
  rw [A.bin_rem, if_neg (by omega), e]
theorem q74 {P : Program} {t : TypeId} {c : Bool} {H : Heap} {a s : Nat} {j : IntKind} (h : s ≤ 64) (hl : 2 ^ s * a < 18446744073709551616) : A.bin P .shl t (.int .u64 (a : Int)) (.int j (s : Int)) c H = some (.int .u64 ((2 ^ s * a : Nat) : Int)) := by
  rw [Nat.mul_comm] at hl ⊢
  exact shl_u64 h hl
theorem qdx {x y s : Nat} (hx : x < 2 ^ s) (h : x + 2 ^ s * y < 18446744073709551616) {P : Program} {t : TypeId} {c : Bool} {H : Heap} :
    A.bin P .or t (.int .u64 (x : Int)) (.int .u64 ((2 ^ s * y : Nat) : Int)) c H = some (.int .u64 ((x + 2 ^ s * y : Nat) : Int)) ∧ A.bin P .or t (.int .u64 ((2 ^ s * y : Nat) : Int)) (.int .u64 (x : Int)) c H = some (.int .u64 ((x + 2 ^ s * y : Nat) : Int)) := by
  have e : x ||| 2 ^ s * y = x + 2 ^ s * y := by rw [Nat.or_comm, ← Nat.two_pow_add_eq_or_of_lt hx, Nat.add_comm]
  have e2 : 2 ^ s * y ||| x = x + 2 ^ s * y := by rw [Nat.or_comm, e]
  have hw : ∀ n : Nat, n < 18446744073709551616 → IntKind.wrap .u64 (n : Int) = n := fun n hn => q0g (by omega) (by omega)
  have key : ∀ p q : Nat, p < 18446744073709551616 → q < 18446744073709551616 → (BitVec.ofInt 64 (p : Int) ||| BitVec.ofInt 64 (q : Int)).toNat = p ||| q := fun p q hp hq => by
    rw [BitVec.toNat_or]
    simp [BitVec.toNat_ofInt]
    rw [Nat.mod_eq_of_lt hp, Nat.mod_eq_of_lt hq]
  constructor
  · simp only [A.bin, decide_true, cond_true, A.binInt, A.bits, Option.map_some]
    rw [show IntKind.bits .u64 = 64 from rfl, key _ _ (by omega) (by omega), e, hw _ h]
  · simp only [A.bin, decide_true, cond_true, A.binInt, A.bits, Option.map_some]
    rw [show IntKind.bits .u64 = 64 from rfl, key _ _ (by omega) (by omega), e2, hw _ h]
theorem cells_int {k : IntKind} {n : Int} : (AV.int k n).cells = [.int k n] := rfl
/-! ### plain functions on rows of limbs -/
abbrev eD : Option (List UInt32) → AV := eL 1 eu
def cD : Cd (Option (List UInt32)) := cL 1 cU32
@[simp] theorem enc_cD (d : Option (List UInt32)) : cD.enc d = eD d := id rfl
@[simp] theorem qd7 (d : Option (List UInt32)) : cD.dec (eD d) = some d := cD.dec_enc d
def few (d : Option (List UInt32)) : Prop := (d.getD []).length ≤ 1000000
theorem qhs (l : List UInt32) : ∀ e ∈ l.map eu, e.flat0 = true ∧ e.isDef = true := fun e he => by
  obtain ⟨x, _, rfl⟩ := List.mem_map.1 he
  exact ⟨rfl, rfl⟩
theorem q1w {d : Option (List UInt32)} {H : Heap} {k : IntKind} {i : Nat} (h : i < (d.getD []).length) : A.idx 1 (eD d) (.int k (i : Int)) H = some (.rop [eu ((d.getD [])[i])]) := idx_eL h
abbrev Nm := Bool × Option (List UInt32)
abbrev eN (a : Nm) : AV := .agg [.bool a.1, eD a.2]
def cN : Cd Nm := ⟨eN, fun a b h => by
  simp only [eN, AV.agg.injEq, List.cons.injEq, AV.bool.injEq, and_true] at h
  exact Prod.ext h.1 (cD.inj _ _ h.2), fun a => by simp [eN]⟩
@[simp] theorem frz_eN {H : Heap} {b : Bool} {d : Option (List UInt32)} : A.freezeB true 64 H (.agg [.bool b, eD d]) = some (.agg [.bool b, eD d]) := q54 (by simp)
@[simp] theorem frz_ib {H : Heap} {k : IntKind} {n : Int} {b : Bool} : A.freezeB true 64 H (.tup [.int k n, .bool b]) = some (.tup [.int k n, .bool b]) := q54 (by simp)
@[simp] theorem qaj {H : Heap} {p b : Bool} {d : Option (List UInt32)} : A.freezeB true 64 H (.tup [.agg [.bool p, eD d], .bool b]) = some (.tup [.agg [.bool p, eD d], .bool b]) := q54 (by simp)
@[simp] theorem frz_nnb {H : Heap} {p q b : Bool} {d e : Option (List UInt32)} : A.freezeB true 64 H (.tup [.agg [.bool p, eD d], .agg [.bool q, eD e], .bool b]) = some (.tup [.agg [.bool p, eD d], .agg [.bool q, eD e], .bool b]) := q54 (by simp)
@[simp] theorem enc_cN (a : Nm) : cN.enc a = eN a := id rfl
@[simp] theorem dec_cN (b : Bool) (d : Option (List UInt32)) : cN.dec (.agg [.bool b, eD d]) = some (b, d) := cN.dec_enc (b, d)
end Go.Den

/- Rows of limbs and the numbers that they are: plain laws. -/
namespace Go.Den
def val : List UInt32 → Nat
  | [] => 0
  | x :: l => x.toNat + 4294967296 * val l
def digs : Nat → Nat → List UInt32
  | 0, _ => []
  | k + 1, n => UInt32.ofNat n :: digs k (n / 4294967296)
def lim (n : Nat) : List UInt32 := if h : n = 0 then [] else UInt32.ofNat n :: lim (n / 4294967296)
termination_by n
decreasing_by omega
theorem q14 (x : UInt32) : x.toNat < 4294967296 := x.toNat_lt
theorem q0v (n : Nat) : (UInt32.ofNat n).toNat = n % 4294967296 := by simp
theorem qbw {x : UInt32} {n : Nat} (h : n % 4294967296 = x.toNat) : UInt32.ofNat n = x := UInt32.toNat_inj.1 (by rw [q0v, h])
theorem q0o : lim 0 = [] := by unfold lim; simp
theorem q6s {n : Nat} (h : n ≠ 0) : lim n = UInt32.ofNat n :: lim (n / 4294967296) := by
  rw [lim, dif_neg h]
theorem q0q (n : Nat) : val (lim n) = n := by
  induction n using Nat.strongRecOn with
  | _ n ih =>
    by_cases h : n = 0
    · subst h; rw [q0o]; rfl
    · rw [q6s h, val, ih _ (by omega), q0v]
      omega
theorem lim_nil {n : Nat} : lim n = [] ↔ n = 0 := by
  constructor
  · intro h
    rw [← q0q n, h]; rfl
  · intro h; subst h; exact q0o
theorem lim_inj {a b : Nat} (h : lim a = lim b) : a = b := by rw [← q0q a, h, q0q]
theorem q1n (l : List UInt32) : val l < 4294967296 ^ l.length := by
  induction l with
  | nil => simp [val]
  | cons x l ih =>
    have := q14 x
    rw [val, List.length_cons, Nat.pow_succ]
    omega
theorem q3q (a b : List UInt32) : val (a ++ b) = val a + 4294967296 ^ a.length * val b := by
  induction a with
  | nil => simp [val]
  | cons x a ih =>
    rw [List.cons_append, val, val, ih, List.length_cons, Nat.pow_succ]
    grind
theorem q0a (k n : Nat) : (digs k n).length = k := by
  induction k generalizing n with
  | zero => rfl
  | succ k ih => simp [digs, ih]
theorem qcp (k n : Nat) : val (digs k n) = n % 4294967296 ^ k := by
  induction k generalizing n with
  | zero => simp [digs, val, Nat.mod_one]
  | succ k ih =>
    rw [digs, val, ih, q0v, Nat.pow_succ, Nat.mul_comm (4294967296 ^ k) 4294967296, Nat.mod_mul]
theorem q11 {k n : Nat} (h : n < 4294967296 ^ k) : val (digs k n) = n := by rw [qcp, Nat.mod_eq_of_lt h]
theorem qbf (l : List UInt32) : digs l.length (val l) = l := by
  induction l with
  | nil => rfl
  | cons x l ih =>
    have h1 := q14 x
    rw [List.length_cons, digs, val, qbw (x := x) (by omega), show (x.toNat + 4294967296 * val l) / 4294967296 = val l by omega, ih]
theorem q6o {l : List UInt32} {k n : Nat} (h : l.length = k) (v : val l = n) : l = digs k n := by
  subst h v
  exact (qbf l).symm
theorem val_inj {a b : List UInt32} (hl : a.length = b.length) (hv : val a = val b) : a = b := by
  rw [← qbf a, ← qbf b, hl, hv]
theorem q9j (k : Nat) : val (List.replicate k 0) = 0 := by
  induction k with
  | zero => rfl
  | succ k ih => rw [List.replicate_succ, val, ih]; simp
theorem qdn {l : List UInt32} (h : ∀ x, l.getLast? = some x → x ≠ 0) : lim (val l) = l := by
  induction l with
  | nil => exact q0o
  | cons x l ih =>
    have hx := q14 x
    have hih : lim (val l) = l := ih fun y hy => h y (by
      cases l with
      | nil => simp at hy
      | cons z l => rw [List.getLast?_cons_cons]; exact hy)
    have hne : val (x :: l) ≠ 0 := by
      intro e
      rw [val] at e
      have h1 : val l = 0 := by omega
      have h2 : x.toNat = 0 := by omega
      rw [h1, q0o] at hih
      subst hih
      exact h x rfl (UInt32.toNat_inj.1 (by simpa using h2))
    rw [q6s hne, val, qbw (x := x) (by omega), show (x.toNat + 4294967296 * val l) / 4294967296 = val l by omega, hih]
theorem q0z {l : List UInt32} {n : Nat} (h : n < l.length) : val (l.take (n + 1)) = val (l.take n) + 4294967296 ^ n * (l[n]).toNat := by
  rw [List.take_succ_eq_append_getElem h, q3q, List.length_take, Nat.min_eq_left (by omega), val, val]
  simp
theorem q1q {l : List UInt32} {n : Nat} (h : n ≤ l.length) : val l = val (l.take n) + 4294967296 ^ n * val (l.drop n) := by
  conv => lhs; rw [← List.take_append_drop n l]
  rw [q3q, List.length_take, Nat.min_eq_left h]
theorem q77 {l : List UInt32} {i : Nat} (h : i < l.length) (d : UInt32) : val (l.set i d) + 4294967296 ^ i * (l[i]).toNat = val l + 4294967296 ^ i * d.toNat := by
  induction l generalizing i with
  | nil => simp at h
  | cons x l ih =>
    cases i with
    | zero => simp [val]; omega
    | succ i =>
      have := ih (i := i) (by simpa using h)
      simp only [List.set_cons_succ, val, List.getElem_cons_succ, Nat.pow_succ]
      grind
theorem q7s {l : List UInt32} {n : Nat} (h : n < l.length) : lim (val (l.take (n + 1))) = if l[n] = 0 then lim (val (l.take n)) else l.take (n + 1) := by
  split
  · rename_i e
    rw [q0z h, e]
    simp
  · rename_i e
    refine qdn fun x hx => ?_
    rw [List.take_succ_eq_append_getElem h, List.getLast?_append, List.getLast?_singleton, Option.some_or, Option.some.injEq] at hx
    rw [← hx]
    exact e
theorem q2w (l : List UInt32) : (lim (val l)).length ≤ l.length := by
  induction l with
  | nil => simp [val, q0o]
  | cons x l ih =>
    by_cases h : val (x :: l) = 0
    · rw [h, q0o]; simp
    · have hx := q14 x
      rw [q6s h, val, show (x.toNat + 4294967296 * val l) / 4294967296 = val l by omega]
      simpa using ih
theorem qh6 (l : List UInt32) : l.take (lim (val l)).length = lim (val l) := by
  induction l with
  | nil => simp [val, q0o]
  | cons x l ih =>
    by_cases h : val (x :: l) = 0
    · rw [h, q0o]; rfl
    · have hx := q14 x
      rw [q6s h, val, show (x.toNat + 4294967296 * val l) / 4294967296 = val l by omega, qbw (x := x) (by omega)]
      simp [ih]
theorem lim_le {n k : Nat} : (lim n).length ≤ k ↔ n < 4294967296 ^ k := by
  constructor
  · intro h
    have h1 := q1n (lim n)
    rw [q0q] at h1
    exact Nat.lt_of_lt_of_le h1 (Nat.pow_le_pow_right (by omega) h)
  · intro h
    have h1 := q2w (digs k n)
    rw [q11 h, q0a] at h1
    exact h1
theorem lim_last {n : Nat} (h : n ≠ 0) : ∃ x, (lim n).getLast? = some x ∧ x ≠ 0 := by
  induction n using Nat.strongRecOn with
  | _ n ih =>
    rw [q6s h]
    by_cases h2 : n / 4294967296 = 0
    · rw [h2, q0o]
      refine ⟨UInt32.ofNat n, rfl, fun e => ?_⟩
      have := congrArg UInt32.toNat e
      rw [q0v] at this
      simp at this
      omega
    · obtain ⟨x, hx, h0⟩ := ih (n / 4294967296) (by omega) h2
      refine ⟨x, ?_, h0⟩
      cases hl : lim (n / 4294967296) with
      | nil => exact absurd (lim_nil.1 hl) h2
      | cons y l => rw [hl] at hx; rw [List.getLast?_cons_cons]; exact hx
theorem q70 {n : Nat} (h : n ≠ 0) : 4294967296 ^ ((lim n).length - 1) ≤ n := by
  rcases Nat.lt_or_ge n (4294967296 ^ ((lim n).length - 1)) with h1 | h1
  · have := lim_le.2 h1
    have hp : lim n ≠ [] := fun e => h (lim_nil.1 e)
    have := List.length_pos_iff.2 hp
    omega
  · exact h1
theorem q2z (i n : Nat) : digs (i + 1) n = digs i n ++ [UInt32.ofNat (n / 4294967296 ^ i)] := by
  induction i generalizing n with
  | zero => simp [digs]
  | succ i ih =>
    rw [digs, ih (n / 4294967296)]
    simp only [digs, List.cons_append]
    rw [Nat.div_div_eq_div_mul, Nat.pow_succ, Nat.mul_comm]
theorem digs_add (i n m : Nat) : digs i (n + 4294967296 ^ i * m) = digs i n := by
  refine val_inj (by rw [q0a, q0a]) ?_
  rw [qcp, qcp, Nat.add_mul_mod_self_left]
theorem qdo {l : List UInt32} {i j : Nat} (hv : val l < 4294967296 ^ i) (hj : i ≤ j) (hl : j < l.length) : l[j] = 0 := by
  have h1 := q1q (l := l) (n := j) (by omega)
  have h2 : 4294967296 ^ i ≤ 4294967296 ^ j := Nat.pow_le_pow_right (by omega) hj
  have h3 : val (l.drop j) = 0 := by
    rcases Nat.eq_zero_or_pos (val (l.drop j)) with h | h
    · exact h
    · have : 4294967296 ^ j * 1 ≤ 4294967296 ^ j * val (l.drop j) := Nat.mul_le_mul_left _ h
      omega
  rw [List.drop_eq_getElem_cons hl, val] at h3
  exact UInt32.toNat_inj.1 (by simp; omega)
theorem q15 (l : List UInt32) (i : Nat) : val (l.take i) < 4294967296 ^ i := by
  have h1 := q1n (l.take i)
  have h2 : 4294967296 ^ (l.take i).length ≤ 4294967296 ^ i := Nat.pow_le_pow_right (by omega) (by rw [List.length_take]; omega)
  omega
def cmpI (a b : Int) : Int := if a < b then -1 else if b < a then 1 else 0
def cmpN (a b : Nat) : Int := cmpI a b
theorem cmpI_eq {a b : Int} : cmpI a b = 0 ↔ a = b := by unfold cmpI; split <;> (try split) <;> omega
theorem qd3 (a : Int) : cmpI a a = 0 := cmpI_eq.2 rfl
theorem qiy {a b : List UInt32} {n : Nat} (ha : n < a.length) (hb : n < b.length) : cmpN (val (a.take (n + 1))) (val (b.take (n + 1))) = if a[n] = b[n] then cmpN (val (a.take n)) (val (b.take n)) else cmpI (a[n]).toNat (b[n]).toNat := by
  rw [q0z ha, q0z hb]
  have h1 := q1n (a.take n)
  have h2 := q1n (b.take n)
  rw [List.length_take, Nat.min_eq_left (by omega)] at h1 h2
  split
  · rename_i e
    rw [e]
    unfold cmpN cmpI
    split <;> split <;> (try split) <;> (try split) <;> first | rfl | omega
  · rename_i e
    have hne : (a[n]).toNat ≠ (b[n]).toNat := fun e2 => e (UInt32.toNat_inj.1 e2)
    generalize (a[n]).toNat = x at hne ⊢
    generalize (b[n]).toNat = y at hne ⊢
    generalize 4294967296 ^ n = p at h1 h2 ⊢
    rcases Nat.lt_or_gt_of_ne hne with h | h
    · have : p * (x + 1) ≤ p * y := Nat.mul_le_mul_left p h
      rw [Nat.mul_add] at this
      have e1 : cmpN (val (a.take n) + p * x) (val (b.take n) + p * y) = -1 := by unfold cmpN cmpI; rw [if_pos (by omega)]
      have e2 : cmpI (x : Int) (y : Int) = -1 := by unfold cmpI; rw [if_pos (by omega)]
      rw [e1, e2]
    · have : p * (y + 1) ≤ p * x := Nat.mul_le_mul_left p h
      rw [Nat.mul_add] at this
      have e1 : cmpN (val (a.take n) + p * x) (val (b.take n) + p * y) = 1 := by unfold cmpN cmpI; rw [if_neg (by omega), if_pos (by omega)]
      have e2 : cmpI (x : Int) (y : Int) = 1 := by unfold cmpI; rw [if_neg (by omega), if_pos (by omega)]
      rw [e1, e2]
theorem cmp_len {a b : Nat} (h : (lim a).length ≠ (lim b).length) : cmpN a b = cmpI (lim a).length (lim b).length := by
  have key : ∀ {a b : Nat}, (lim a).length < (lim b).length → a < b := fun {a b} h => by
    have h1 := (lim_le (n := a) (k := (lim a).length)).1 (Nat.le_refl _)
    have hb : b ≠ 0 := by rintro rfl; rw [q0o] at h; simp at h
    have h2 := q70 hb
    have h3 : 4294967296 ^ (lim a).length ≤ 4294967296 ^ ((lim b).length - 1) := Nat.pow_le_pow_right (by omega) (by omega)
    omega
  rcases Nat.lt_or_gt_of_ne h with h | h
  · have := key h
    unfold cmpN cmpI
    rw [if_pos (by omega), if_pos (by omega)]
  · have := key h
    unfold cmpN cmpI
    rw [if_neg (by omega), if_pos (by omega), if_neg (by omega), if_pos (by omega)]
end Go.Den

/- Long division: plain laws on numbers. -/
namespace Go.Den
def guessG (v1 v2 u2 : Nat) : Nat → Nat → Nat → Nat
  | 0, q, _ => q
  | f + 1, q, r => if 4294967296 ≤ q ∨ 4294967296 * r + u2 < q * v2 then (if 4294967296 ≤ r + v1 then q - 1 else guessG v1 v2 u2 f (q - 1) (r + v1)) else q
section
variable {v1 v2 v3 u0 u1 u2 u3 P Q : Nat}
theorem guess_low {q r : Nat} (hW : Q * (P * (4294967296 * v1 + v2) + v3) ≤ P * (4294967296 * (4294967296 * u0 + u1) + u2) + u3) (h3 : u3 < P) (hT : q * v1 + r = 4294967296 * u0 + u1) (hQB : Q < 4294967296) (hq : Q ≤ q) (hc : 4294967296 ≤ q ∨ 4294967296 * r + u2 < q * v2) : Q ≤ q - 1 ∧ 1 ≤ q := by
  rcases Nat.lt_or_ge Q q with h | h
  · omega
  · exfalso
    have e : Q = q := by omega
    subst e
    rcases hc with hc | hc
    · omega
    · have h1 : Q * (P * (4294967296 * v1 + v2)) ≤ Q * (P * (4294967296 * v1 + v2) + v3) := Nat.mul_le_mul_left _ (by omega)
      have h2 : P * (Q * (4294967296 * v1 + v2)) = Q * (P * (4294967296 * v1 + v2)) := by grind
      have h3' : P * (Q * (4294967296 * v1 + v2)) < P * (4294967296 * (4294967296 * u0 + u1) + u2 + 1) := by
        have : P * (4294967296 * (4294967296 * u0 + u1) + u2 + 1) = P * (4294967296 * (4294967296 * u0 + u1) + u2) + P := by grind
        omega
      have h4 : Q * (4294967296 * v1 + v2) < 4294967296 * (4294967296 * u0 + u1) + u2 + 1 := Nat.lt_of_mul_lt_mul_left h3'
      have h5 : Q * (4294967296 * v1 + v2) = 4294967296 * (Q * v1) + Q * v2 := by grind
      omega
theorem guess_ok (hP : 0 < P) (h3 : u3 < P) (hu1 : u1 < 4294967296) (hu2 : u2 < 4294967296) (hv1 : v1 < 4294967296) (hv1b : 2147483648 ≤ v1) (hv2 : v2 < 4294967296) (hv3 : v3 < P) (hu0 : u0 ≤ v1)
    (hW : Q * (P * (4294967296 * v1 + v2) + v3) ≤ P * (4294967296 * (4294967296 * u0 + u1) + u2) + u3) (hW2 : P * (4294967296 * (4294967296 * u0 + u1) + u2) + u3 < (Q + 1) * (P * (4294967296 * v1 + v2) + v3)) (hQB : Q < 4294967296) :
    ∀ (f q r : Nat), q * v1 + r = 4294967296 * u0 + u1 → Q ≤ q → r < 4294967296 → 4294967296 ≤ r + f * v1 → Q ≤ guessG v1 v2 u2 f q r ∧ guessG v1 v2 u2 f q r ≤ Q + 1 ∧ guessG v1 v2 u2 f q r < 4294967296 := by
  -- what stands where the guess is good
  have fin : ∀ q r : Nat, q * v1 + r = 4294967296 * u0 + u1 → q < 4294967296 → q * v2 ≤ 4294967296 * r + u2 → q ≤ Q + 1 := by
    intro q r hT hqB hc
    rcases Nat.lt_or_ge q (Q + 2) with h | h
    · omega
    · exfalso
      have e1 : q * (4294967296 * v1 + v2) ≤ 4294967296 * (4294967296 * u0 + u1) + u2 := by
        have : q * (4294967296 * v1 + v2) = 4294967296 * (q * v1) + q * v2 := by grind
        omega
      have e2 : P * (q * (4294967296 * v1 + v2)) ≤ P * (4294967296 * (4294967296 * u0 + u1) + u2) := Nat.mul_le_mul_left _ e1
      have e3 : (Q + 1) * (P * (4294967296 * v1 + v2) + v3) ≤ (q - 1) * (P * (4294967296 * v1 + v2) + v3) := Nat.mul_le_mul_right _ (by omega)
      obtain ⟨p, rfl⟩ : ∃ p, q = p + 1 := ⟨q - 1, by omega⟩
      rw [Nat.add_sub_cancel] at e3
      have e4 : p * (P * (4294967296 * v1 + v2) + v3) + P * (4294967296 * v1 + v2) = P * ((p + 1) * (4294967296 * v1 + v2)) + p * v3 := by grind
      have e5 : p * v3 ≤ P * (4294967296 * v1) := by
        have a1 : p * v3 ≤ 4294967296 * P := Nat.mul_le_mul (by omega) (by omega)
        have a2 : P * (4294967296 * 1) ≤ P * (4294967296 * v1) := Nat.mul_le_mul_left _ (Nat.mul_le_mul_left _ (by omega))
        omega
      have e6 : P * (4294967296 * v1 + v2) = P * (4294967296 * v1) + P * v2 := by grind
      omega
  intro f
  induction f with
  | zero => intro q r _ _ h1 h2; omega
  | succ f ih =>
    intro q r hT hq hr hf
    unfold guessG
    by_cases hc : 4294967296 ≤ q ∨ 4294967296 * r + u2 < q * v2
    · rw [if_pos hc]
      obtain ⟨l1, l2⟩ := guess_low hW h3 hT hQB hq hc
      obtain ⟨p, rfl⟩ : ∃ p, q = p + 1 := ⟨q - 1, by omega⟩
      rw [Nat.add_sub_cancel] at l1 ⊢
      have hT' : p * v1 + (r + v1) = 4294967296 * u0 + u1 := by
        have : (p + 1) * v1 = p * v1 + v1 := by grind
        omega
      by_cases hb : 4294967296 ≤ r + v1
      · rw [if_pos hb]
        have hpB : p < 4294967296 := by
          have a1 : p * v1 < 4294967296 * v1 := by omega
          exact Nat.lt_of_mul_lt_mul_right a1
        refine ⟨l1, fin p (r + v1) hT' hpB ?_, hpB⟩
        have a1 : p * v2 ≤ 4294967296 * 4294967296 := Nat.mul_le_mul (by omega) (by omega)
        omega
      · rw [if_neg hb]
        refine ih p (r + v1) hT' l1 (by omega) ?_
        have : (f + 1) * v1 = f * v1 + v1 := by grind
        omega
    · rw [if_neg hc]
      exact ⟨hq, fin q r hT (by omega) (by omega), by omega⟩
end
end Go.Den

/- DEN: limb by limb: what is taken away, what is given back; heap functions as table entries. -/
namespace Go.Den
open Go.RowKit
def takeS (q : Nat) : List UInt32 → List UInt32 → Nat → Nat → List UInt32 × Nat
  | [], _, _, b => ([], b)
  | r :: rs, v, c, b =>
    if r.toNat < (c + q * (v.headD 0).toNat) % 4294967296 + b then
      (UInt32.ofNat (r.toNat + 4294967296 - ((c + q * (v.headD 0).toNat) % 4294967296 + b)) :: (takeS q rs v.tail ((c + q * (v.headD 0).toNat) / 4294967296) 1).1, (takeS q rs v.tail ((c + q * (v.headD 0).toNat) / 4294967296) 1).2)
    else
      (UInt32.ofNat (r.toNat - ((c + q * (v.headD 0).toNat) % 4294967296 + b)) :: (takeS q rs v.tail ((c + q * (v.headD 0).toNat) / 4294967296) 0).1, (takeS q rs v.tail ((c + q * (v.headD 0).toNat) / 4294967296) 0).2)
def giveS : List UInt32 → List UInt32 → Nat → List UInt32
  | [], _, _ => []
  | r :: rs, v, c => UInt32.ofNat (c + r.toNat + (v.headD 0).toNat) :: giveS rs v.tail ((c + r.toNat + (v.headD 0).toNat) / 4294967296)
theorem qh8 (v : List UInt32) : val v = (v.headD 0).toNat + 4294967296 * val v.tail := by
  cases v with
  | nil => rfl
  | cons x v => rfl
theorem take_t {q c x : Nat} (hq : q ≤ 4294967296) (hc : c < 4294967296) (hx : x < 4294967296) : c + q * x < 18446744073709551616 := by
  have h1 : q * x ≤ 4294967296 * x := Nat.mul_le_mul_right x hq
  omega
theorem q9e (q : Nat) : ∀ (rs v : List UInt32) (c b : Nat), (takeS q rs v c b).1.length = rs.length
  | [], _, _, _ => rfl
  | r :: rs, v, c, b => by
    unfold takeS
    split <;> simp [q9e q rs]
theorem qdi : ∀ (rs v : List UInt32) (c : Nat), (giveS rs v c).length = rs.length
  | [], _, _ => rfl
  | r :: rs, v, c => by simp [giveS, qdi rs]
theorem q9f {q : Nat} (hq : q ≤ 4294967296) : ∀ (rs v : List UInt32) (c b : Nat), v.length ≤ rs.length → c < 4294967296 → b ≤ 1 → q * val v + c < 4294967296 ^ rs.length →
    val (takeS q rs v c b).1 + q * val v + c + b = val rs + (takeS q rs v c b).2 * 4294967296 ^ rs.length ∧ (takeS q rs v c b).2 ≤ 1
  | [], v, c, b, hl, hc, hb, h => by
    cases v with
    | nil =>
      simp [val] at h
      subst h
      simp [takeS, val]
      exact hb
    | cons x v => simp at hl
  | r :: rs, v, c, b, hl, hc, hb, h => by
    have hx := q14 (v.headD 0)
    have hr := q14 r
    have ht := take_t hq hc hx
    have hvt : v.tail.length ≤ rs.length := by simp at hl ⊢; omega
    have hv := qh8 v
    have hsplit : q * val v = q * (v.headD 0).toNat + 4294967296 * (q * val v.tail) := by rw [hv, Nat.mul_add]; grind
    have hdm := Nat.mod_add_div (c + q * (v.headD 0).toNat) 4294967296
    have hm := Nat.mod_lt (c + q * (v.headD 0).toNat) (show 0 < 4294967296 by omega)
    have hcar : (c + q * (v.headD 0).toNat) / 4294967296 < 4294967296 := by omega
    rw [List.length_cons, Nat.pow_succ] at h
    have hrest : q * val v.tail + (c + q * (v.headD 0).toNat) / 4294967296 < 4294967296 ^ rs.length := by
      generalize 4294967296 ^ rs.length = w at *
      omega
    have ih1 := q9f hq rs v.tail ((c + q * (v.headD 0).toNat) / 4294967296) 1 hvt hcar (by omega) hrest
    have ih0 := q9f hq rs v.tail ((c + q * (v.headD 0).toNat) / 4294967296) 0 hvt hcar (by omega) hrest
    unfold takeS
    rw [List.length_cons, Nat.pow_succ]
    split
    · rename_i hlt
      obtain ⟨e, hb'⟩ := ih1
      refine ⟨?_, hb'⟩
      dsimp only
      have hd : (r.toNat + 4294967296 - ((c + q * (v.headD 0).toNat) % 4294967296 + b)) < 4294967296 := by omega
      rw [val, val, q0v, Nat.mod_eq_of_lt hd, hsplit]
      generalize (takeS q rs v.tail ((c + q * (v.headD 0).toNat) / 4294967296) 1).2 = bb at *
      generalize val (takeS q rs v.tail ((c + q * (v.headD 0).toNat) / 4294967296) 1).1 = o at *
      generalize q * val v.tail = m at *
      generalize q * (v.headD 0).toNat = p at *
      generalize 4294967296 ^ rs.length = w at *
      have e2 : bb * (w * 4294967296) = 4294967296 * (bb * w) := by grind
      rw [e2]
      generalize bb * w = bw at *
      omega
    · rename_i hlt
      obtain ⟨e, hb'⟩ := ih0
      refine ⟨?_, hb'⟩
      dsimp only
      have hd : (r.toNat - ((c + q * (v.headD 0).toNat) % 4294967296 + b)) < 4294967296 := by omega
      rw [val, val, q0v, Nat.mod_eq_of_lt hd, hsplit]
      generalize (takeS q rs v.tail ((c + q * (v.headD 0).toNat) / 4294967296) 0).2 = bb at *
      generalize val (takeS q rs v.tail ((c + q * (v.headD 0).toNat) / 4294967296) 0).1 = o at *
      generalize q * val v.tail = m at *
      generalize q * (v.headD 0).toNat = p at *
      generalize 4294967296 ^ rs.length = w at *
      have e2 : bb * (w * 4294967296) = 4294967296 * (bb * w) := by grind
      rw [e2]
      generalize bb * w = bw at *
      omega
theorem qdj : ∀ (rs v : List UInt32) (c : Nat), v.length ≤ rs.length → val (giveS rs v c) = (val rs + val v + c) % 4294967296 ^ rs.length
  | [], v, c, hl => by
    simp [giveS, val, Nat.mod_one]
  | r :: rs, v, c, hl => by
    have hvt : v.tail.length ≤ rs.length := by simp at hl ⊢; omega
    have hv := qh8 v
    have ih := qdj rs v.tail ((c + r.toNat + (v.headD 0).toNat) / 4294967296) hvt
    have hdm := Nat.mod_add_div (c + r.toNat + (v.headD 0).toNat) 4294967296
    rw [giveS, val, q0v, ih, List.length_cons, Nat.pow_succ, Nat.mul_comm _ 4294967296]
    have e : val (r :: rs) + val v + c = (c + r.toNat + (v.headD 0).toNat) % 4294967296 + 4294967296 * (val rs + val v.tail + (c + r.toNat + (v.headD 0).toNat) / 4294967296) := by
      rw [val, hv]
      omega
    rw [e]
    generalize (c + r.toNat + (v.headD 0).toNat) / 4294967296 = cc at *
    generalize val rs + val v.tail + cc = X at *
    have hmm := Nat.mod_lt (c + r.toNat + (v.headD 0).toNat) (show 0 < 4294967296 by omega)
    generalize (c + r.toNat + (v.headD 0).toNat) % 4294967296 = y at *
    rw [Nat.mod_mul, Nat.add_mul_mod_self_left, Nat.mod_eq_of_lt hmm, Nat.add_mul_div_left _ _ (by omega : 0 < 4294967296), Nat.div_eq_of_lt hmm, Nat.zero_add]
/-! ### functions on the small heap as entries of tables -/
noncomputable def hp {α : Type} (enc : α → List AV) (P : α → Heap → Prop) (F : α → Heap → AV × Heap) (args : List AV) (H : Heap) : Option (AV × Heap) :=
  open Classical in if h : ∃ x, args = enc x ∧ P x H then some (F h.choose H) else none
theorem qfj {R : Type} {α : Type} {enc : α → List AV} {P : α → Heap → Prop} {F : α → Heap → AV × Heap} (det : ∀ x y H, enc x = enc y → P x H → P y H → F x H = F y H) {x : α} {H : Heap} (hP : P x H) {k : AV → Heap → Option R} :
    polK (.prim (hp enc P F)) (enc x) H k = k (F x H).1 (F x H).2 := by
  have h : ∃ y, enc x = enc y ∧ P y H := ⟨x, rfl, hP⟩
  show withP (hp enc P F (enc x) H) k = _
  unfold hp
  rw [dif_pos h, det x h.choose H h.choose_spec.1 hP h.choose_spec.2]
  rfl
theorem qf4 {E : Env} (hb : BaseOK E) (T : List (FuncId × Pol)) (hT : TabOK E T) {f : FuncId} {α : Type} {enc : α → List AV} {P : α → Heap → Prop} {F : α → Heap → AV × Heap}
    (h : ∀ x H, P x H → Evs fun n _ => callF (E.with (polT T)) (n + 1) (AV × Heap) f (enc x) H (fun v G => some (v, G)) = some (F x H)) (hlt : Nat.blt f yBase = true := by rfl) : PolOK E f (.prim (hp enc P F)) :=
  heap_of hb T hT (hlt := hlt) fun zs H v H' hv => by
    unfold hp at hv
    split at hv
    · rename_i hx
      have := h _ _ hx.choose_spec.2
      rw [← hx.choose_spec.1] at this
      simp only [Option.some.injEq] at hv
      rw [hv] at this
      exact this
    · cases hv
theorem qh1 {H : Heap} {id : Nat} {x : HObj} (h : H[id]? = some x) : H.set id x = H := by
  apply List.ext_getElem?
  intro j
  by_cases hj : id = j
  · subst hj
    rw [q2l h, h]
  · rw [get_set_ne hj]
end Go.Den

/- Whole numbers and their digits. -/
namespace Go.Den
def dg (d : Nat) : UInt8 := UInt8.ofNat (48 + d % 10)
theorem q3r (d : Nat) : (dg d).toNat = 48 + d % 10 := by
  unfold dg
  rw [UInt8.toNat_ofNat']
  omega
def decE (n : Nat) : List UInt8 := if _ : n = 0 then [] else decE (n / 10) ++ [dg n]
termination_by n
decreasing_by omega
theorem q18 : decE 0 = [] := by unfold decE; simp
theorem q1k {n : Nat} (h : n ≠ 0) : decE n = decE (n / 10) ++ [dg n] := by
  rw [decE]
  simp [h]
def txt (n : Nat) : List UInt8 := if n = 0 then [48] else decE n
def dgs : Nat → Nat → List UInt8
  | 0, _ => []
  | k + 1, n => dgs k (n / 10) ++ [dg n]
theorem q4p : ∀ (k n : Nat), (dgs k n).length = k
  | 0, _ => rfl
  | k + 1, n => by rw [dgs, List.length_append, q4p k]; rfl
theorem qj7 (n : Nat) : dg (n % 10) = dg n := by
  unfold dg
  rw [Nat.mod_mod]
theorem qho (n k : Nat) : dg (n % (10 * k)) = dg n := by
  rw [← qj7, Nat.mod_mul_right_mod, qj7]
theorem qev : ∀ (k n : Nat), dgs k (n % 10 ^ k) = dgs k n
  | 0, _ => rfl
  | k + 1, n => by
    rw [dgs, dgs, Nat.pow_succ, Nat.mul_comm, qho, ← qev k (n / 10)]
    congr 2
    rw [Nat.mod_mul_right_div_self]
theorem qj8 : ∀ (j k n : Nat), dgs (j + k) n = dgs j (n / 10 ^ k) ++ dgs k (n % 10 ^ k)
  | j, 0, n => by simp [dgs]
  | j, k + 1, n => by
    have e : j + (k + 1) = (j + k) + 1 := by omega
    rw [e, dgs, qj8 j k (n / 10), qev (k + 1) n, dgs, List.append_assoc, Nat.div_div_eq_div_mul, qev]
    congr 3
    rw [Nat.pow_succ, Nat.mul_comm]
def noZ (s : List UInt8) : List UInt8 := s.dropWhile (· == 48)
theorem qi3 {a b : List UInt8} : noZ (a ++ b) = if noZ a = [] then noZ b else noZ a ++ b := by
  unfold noZ
  induction a with
  | nil => simp
  | cons x a ih =>
    simp only [List.cons_append, List.dropWhile_cons]
    by_cases h : (x == 48) = true
    · rw [if_pos h, if_pos h]
      exact ih
    · rw [if_neg h, if_neg h, if_neg (by simp)]
      rfl
theorem noZ_dgs : ∀ (k n : Nat), n < 10 ^ k → noZ (dgs k n) = decE n
  | 0, n, h => by
    have : n = 0 := by simpa using h
    subst this
    rw [q18]
    rfl
  | k + 1, n, h => by
    rw [dgs, qi3, noZ_dgs k (n / 10) (by rw [Nat.pow_succ] at h; omega)]
    by_cases h0 : n = 0
    · subst h0
      have e : decE (0 / 10) = [] := q18
      rw [e, if_pos rfl]
      rfl
    · rw [q1k h0]
      by_cases h1 : n / 10 = 0
      · rw [h1, q18, if_pos rfl, List.nil_append]
        have : dg n ≠ 48 := fun e => by
          have := congrArg UInt8.toNat e
          rw [q3r] at this
          have e2 : (48 : UInt8).toNat = 48 := rfl
          omega
        unfold noZ
        rw [List.dropWhile_cons_of_neg (by simpa using this)]
      · rw [if_neg (by rw [q1k h1]; simp)]
def dparts (n : Nat) : List (List UInt8) := if h : n = 0 then [] else dgs 9 (n % 1000000000) :: dparts (n / 1000000000)
termination_by n
decreasing_by omega
theorem q30 : dparts 0 = [] := by unfold dparts; simp
theorem q3h {n : Nat} (h : n ≠ 0) : dparts n = dgs 9 (n % 1000000000) :: dparts (n / 1000000000) := by
  rw [dparts]
  simp [h]
theorem q8d (n : Nat) : (dparts n).reverse.flatten = dgs (9 * (dparts n).length) n ∧ n < 10 ^ (9 * (dparts n).length) := by
  induction n using Nat.strongRecOn with
  | _ n ih =>
    by_cases h : n = 0
    · subst h
      rw [q30]
      exact ⟨rfl, by decide⟩
    · obtain ⟨h1, h2⟩ := ih (n / 1000000000) (by omega)
      rw [q3h h, List.reverse_cons, List.flatten_append, h1, List.length_cons]
      have e : 9 * ((dparts (n / 1000000000)).length + 1) = 9 * (dparts (n / 1000000000)).length + 9 := by omega
      rw [e, qj8]
      have e9 : 10 ^ 9 = 1000000000 := by decide
      refine ⟨by simp [e9], ?_⟩
      rw [Nat.pow_add, e9]
      omega
theorem qex (n : Nat) : noZ (dparts n).reverse.flatten = decE n := by
  obtain ⟨h1, h2⟩ := q8d n
  rw [h1, noZ_dgs _ _ h2]
def dvF (a : Nat) (s : List UInt8) : Nat := s.foldl (fun a b => 10 * a + (b.toNat - 48)) a
def dv (s : List UInt8) : Nat := dvF 0 s
theorem qey (s : List UInt8) (b : UInt8) : dv (s ++ [b]) = 10 * dv s + (b.toNat - 48) := by
  unfold dv dvF
  rw [List.foldl_append]
  rfl
theorem dv_decE (n : Nat) : dv (decE n) = n := by
  induction n using Nat.strongRecOn with
  | _ n ih =>
    by_cases h : n = 0
    · subst h
      rw [q18]
      rfl
    · rw [q1k h, qey, ih (n / 10) (by omega), q3r]
      omega
def isDig (b : UInt8) : Prop := 48 ≤ b.toNat ∧ b.toNat ≤ 57
instance (b : UInt8) : Decidable (isDig b) := inferInstanceAs (Decidable (_ ∧ _))
theorem dg_dig (n : Nat) : isDig (dg n) := by unfold isDig; rw [q3r]; omega
theorem decE_dig (n : Nat) : ∀ b ∈ decE n, isDig b := by
  induction n using Nat.strongRecOn with
  | _ n ih =>
    intro b hb
    by_cases h : n = 0
    · subst h
      rw [q18] at hb
      cases hb
    · rw [q1k h, List.mem_append, List.mem_singleton] at hb
      rcases hb with hb | rfl
      · exact ih (n / 10) (by omega) b hb
      · exact dg_dig n
theorem qj5 (n : Nat) : ∀ b t, decE n = b :: t → b ≠ 48 := by
  induction n using Nat.strongRecOn with
  | _ n ih =>
    intro b t hb
    by_cases h : n = 0
    · subst h
      rw [q18] at hb
      cases hb
    · rw [q1k h] at hb
      by_cases h1 : n / 10 = 0
      · rw [h1, q18, List.nil_append] at hb
        injection hb with hb _
        intro e
        rw [e] at hb
        have := congrArg UInt8.toNat hb
        rw [q3r] at this
        have e2 : (48 : UInt8).toNat = 48 := rfl
        omega
      · cases hd : decE (n / 10) with
        | nil =>
          rw [q1k h1] at hd
          simp at hd
        | cons c u =>
          rw [hd, List.cons_append] at hb
          injection hb with hb _
          rw [← hb]
          exact ih (n / 10) (by omega) c u hd
theorem qeu {n : Nat} (h : n ≠ 0) : decE n ≠ [] := by rw [q1k h]; simp
theorem decE_len {k n : Nat} : (decE n).length ≤ k ↔ n < 10 ^ k := by
  induction k generalizing n with
  | zero =>
    by_cases h : n = 0
    · subst h
      simp [q18]
    · rw [q1k h]
      simp [h]
  | succ k ih =>
    by_cases h : n = 0
    · subst h
      simp [q18, Nat.pow_pos]
    · rw [q1k h, List.length_append, List.length_singleton, Nat.add_le_add_iff_right, ih, Nat.pow_succ]
      omega
theorem qj4 : ∀ (k : Nat) (s : List UInt8), s.length = k → (∀ b ∈ s, isDig b) → (∀ b t, s = b :: t → b ≠ 48) → decE (dv s) = s
  | 0, s, hk, _, _ => by
    have : s = [] := List.eq_nil_of_length_eq_zero hk
    subst this
    exact q18
  | k + 1, s, hk, hd, hh => by
    rcases List.eq_nil_or_concat s with rfl | ⟨t, b, rfl⟩
    · cases hk
    · rw [List.concat_eq_append] at *
      have hb := hd b (by simp)
      unfold isDig at hb
      have ht := qj4 k t (by simpa using hk) (fun x hx => hd x (by simp [hx])) (fun x u hu => hh x (u ++ [b]) (by rw [hu]; rfl))
      have hdg : dg (10 * dv t + (b.toNat - 48)) = b := by
        apply UInt8.toNat_inj.1
        rw [q3r]
        omega
      have hdiv : (10 * dv t + (b.toNat - 48)) / 10 = dv t := by omega
      have hne : 10 * dv t + (b.toNat - 48) ≠ 0 := fun e => by
        have e1 : dv t = 0 := by omega
        rw [e1, q18] at ht
        subst ht
        have := hh b [] rfl
        apply this
        apply UInt8.toNat_inj.1
        have e2 : (48 : UInt8).toNat = 48 := rfl
        omega
      rw [qey, q1k hne, hdiv, ht, hdg]
theorem dvF_lt : ∀ (s : List UInt8) (a : Nat), (∀ b ∈ s, isDig b) → dvF a s < (a + 1) * 10 ^ s.length
  | [], a, _ => by
    show a < _
    simp
  | b :: s, a, hd => by
    have hb := hd b List.mem_cons_self
    unfold isDig at hb
    have h1 := dvF_lt s (10 * a + (b.toNat - 48)) fun x hx => hd x (List.mem_cons_of_mem _ hx)
    have h2 : (10 * a + (b.toNat - 48) + 1) * 10 ^ s.length ≤ (10 * (a + 1)) * 10 ^ s.length := Nat.mul_le_mul_right _ (by omega)
    have h3 : (10 * (a + 1)) * 10 ^ s.length = (a + 1) * 10 ^ (b :: s).length := by
      rw [List.length_cons, Nat.pow_succ, Nat.mul_comm 10, Nat.mul_assoc, Nat.mul_comm 10]
    rw [← h3]
    exact Nat.lt_of_lt_of_le h1 h2
theorem dv_lt (s : List UInt8) (hd : ∀ b ∈ s, isDig b) : dv s < 10 ^ s.length := by
  have := dvF_lt s 0 hd
  rw [Nat.zero_add, Nat.one_mul] at this
  exact this
/-! ### a number by ten, and a digit -/
theorem q7k (v i : Nat) : val ((lim v).take i) = v % 4294967296 ^ i := by
  have h := q0q v
  rcases Nat.lt_or_ge i (lim v).length with hi | hi
  · rw [q1q (n := i) (by omega)] at h
    have h2 := q15 (lim v) i
    conv => rhs; rw [← h]
    rw [Nat.add_mul_mod_self_left, Nat.mod_eq_of_lt h2]
  · rw [List.take_of_length_le hi, h, Nat.mod_eq_of_lt (lim_le.1 hi)]
def carT (v c i : Nat) : Nat := (10 * (v % 4294967296 ^ i) + c) / 4294967296 ^ i
theorem qd1 (v c : Nat) : carT v c 0 = c := by simp [carT, Nat.mod_one]
theorem qet {v c i : Nat} (hc : c ≤ 9) : carT v c i ≤ 9 := by
  unfold carT
  have h1 := Nat.mod_lt v (Nat.pow_pos (n := i) (show 0 < 4294967296 by omega))
  have : (10 * (v % 4294967296 ^ i) + c) / 4294967296 ^ i < 10 := Nat.div_lt_of_lt_mul (by omega)
  omega
theorem qix {v c i : Nat} (hi : i < (lim v).length) : carT v c (i + 1) = (carT v c i + 10 * ((lim v)[i]).toNat) / 4294967296 ∧
    UInt32.ofNat (carT v c i + 10 * ((lim v)[i]).toNat) = UInt32.ofNat ((10 * v + c) / 4294967296 ^ i) := by
  have hp : 0 < 4294967296 ^ i := Nat.pow_pos (by omega)
  have h1 : v % 4294967296 ^ (i + 1) = v % 4294967296 ^ i + 4294967296 ^ i * ((lim v)[i]).toNat := by
    rw [← q7k, ← q7k, q0z hi]
  have h2 : (10 * (v % 4294967296 ^ (i + 1)) + c) / 4294967296 ^ i = carT v c i + 10 * ((lim v)[i]).toNat := by
    unfold carT
    rw [h1]
    have e : 10 * (v % 4294967296 ^ i + 4294967296 ^ i * ((lim v)[i]).toNat) + c = 10 * (v % 4294967296 ^ i) + c + 4294967296 ^ i * (10 * ((lim v)[i]).toNat) := by grind
    rw [e, Nat.add_mul_div_left _ _ hp]
  refine ⟨?_, ?_⟩
  · rw [← h2, Nat.div_div_eq_div_mul, ← Nat.pow_succ]
    rfl
  · rw [← h2]
    apply UInt32.toNat_inj.1
    rw [q0v, q0v]
    have h3 : 10 * v + c = 10 * (v % 4294967296 ^ (i + 1)) + c + 4294967296 ^ i * (4294967296 * (10 * (v / 4294967296 ^ (i + 1)))) := by
      have := Nat.mod_add_div v (4294967296 ^ (i + 1))
      have e : 4294967296 ^ (i + 1) = 4294967296 ^ i * 4294967296 := Nat.pow_succ ..
      conv => lhs; rw [← this]
      rw [e]
      grind
    rw [h3, Nat.add_mul_div_left _ _ hp, Nat.add_mul_mod_self_left]
theorem qg2 {v c : Nat} : carT v c (lim v).length = (10 * v + c) / 4294967296 ^ (lim v).length := by
  unfold carT
  rw [Nat.mod_eq_of_lt (lim_le.1 (Nat.le_refl _))]
theorem q8s {n m : Nat} (h1 : n < 4294967296 ^ m) (h2 : m = 0 ∨ 4294967296 ^ (m - 1) ≤ n) : lim n = digs m n := by
  have h3 : (lim n).length ≤ m := lim_le.2 h1
  have h4 : (lim n).length = m := by
    rcases h2 with h2 | h2
    · omega
    · rcases Nat.lt_or_ge (lim n).length m with h5 | h5
      · have := lim_le.1 (show (lim n).length ≤ m - 1 by omega)
        omega
      · omega
  exact q6o h4 (q0q n)
theorem lim_same {v c : Nat} (hc : carT v c (lim v).length = 0) : lim (10 * v + c) = digs (lim v).length (10 * v + c) := by
  rw [qg2] at hc
  have hp : 0 < 4294967296 ^ (lim v).length := Nat.pow_pos (by omega)
  refine q8s ?_ ?_
  · rcases Nat.lt_or_ge (10 * v + c) (4294967296 ^ (lim v).length) with h | h
    · exact h
    · have := Nat.div_pos h hp
      omega
  · by_cases h0 : v = 0
    · subst h0
      left
      rw [q0o]
      rfl
    · right
      have := q70 h0
      omega
theorem lim_more {v c : Nat} (h9 : c ≤ 9) (hc : carT v c (lim v).length ≠ 0) : lim (10 * v + c) = digs (lim v).length (10 * v + c) ++ [UInt32.ofNat (carT v c (lim v).length)] := by
  have hle := qet (v := v) (i := (lim v).length) h9
  rw [qg2] at hc hle ⊢
  have hp : 0 < 4294967296 ^ (lim v).length := Nat.pow_pos (by omega)
  rw [← q2z]
  refine q8s ?_ (.inr ?_)
  · rw [Nat.pow_succ]
    have := Nat.lt_mul_div_succ (10 * v + c) hp
    have h2 : 4294967296 ^ (lim v).length * ((10 * v + c) / 4294967296 ^ (lim v).length + 1) ≤ 4294967296 ^ (lim v).length * 4294967296 := Nat.mul_le_mul_left _ (by omega)
    omega
  · have h1 : (lim v).length + 1 - 1 = (lim v).length := by omega
    rw [h1]
    rcases Nat.lt_or_ge (10 * v + c) (4294967296 ^ (lim v).length) with h | h
    · exact absurd (Nat.div_eq_of_lt h) hc
    · exact h
end Go.Den

/- Numbers' texts: which texts are numbers, and what they say. -/
namespace Go.Den
def cutP (s t : List UInt8) : List UInt8 × Bool := if s.take t.length = t then (s.drop t.length, true) else (s, false)
theorem q8c (s : List UInt8) : (∃ t, s = 45 :: t ∧ cutP s [45] = (t, true)) ∨ ((∀ t, s ≠ 45 :: t) ∧ cutP s [45] = (s, false)) := by
  unfold cutP
  cases s with
  | nil => exact .inr ⟨(fun t h => nomatch h), rfl⟩
  | cons b s =>
    by_cases h : b = 45
    · subst h
      exact .inl ⟨s, rfl, rfl⟩
    · refine .inr ⟨fun t e => h (by injection e), ?_⟩
      rw [if_neg]
      intro e
      have e2 : [b] = [45] := e
      injection e2 with e2
      exact h e2
def bodyS (s : List UInt8) : List UInt8 := (cutP s [45]).1
def negS (s : List UInt8) : Bool := (cutP s [45]).2
def wrS (s : List UInt8) : Bool := decide (bodyS s ≠ [] ∧ ¬ ((bodyS s).head? = some 48 ∧ (1 < (bodyS s).length ∨ negS s = true)) ∧ ∀ b ∈ bodyS s, isDig b)
def sgnT (neg : Bool) (n : Nat) : List UInt8 := if neg = true ∧ n ≠ 0 then 45 :: txt n else txt n
theorem txt_dig (n : Nat) : ∀ b ∈ txt n, isDig b := by
  intro b hb
  unfold txt at hb
  split at hb
  · rw [List.mem_singleton] at hb
    subst hb
    decide
  · exact decE_dig n b hb
theorem txt_ne (n : Nat) : txt n ≠ [] := by
  unfold txt
  split
  · simp
  · rename_i h
    exact qeu h
theorem txt_head {n : Nat} (h : (txt n).head? = some 48) : n = 0 := by
  unfold txt at h
  split at h
  · assumption
  · rename_i h0
    cases hd : decE n with
    | nil => exact absurd hd (qeu h0)
    | cons b t =>
      rw [hd] at h
      have := qj5 n b t hd
      simp at h
      exact absurd h this
theorem dv_txt (n : Nat) : dv (txt n) = n := by
  unfold txt
  split
  · rename_i h
    subst h
    rfl
  · exact dv_decE n
theorem txt_minus (n : Nat) : ∀ t, txt n ≠ 45 :: t := fun t e => by
  have := txt_dig n 45 (by rw [e]; simp)
  exact absurd this (by decide)
theorem qh2 (neg : Bool) (n : Nat) : cutP (sgnT neg n) [45] = (txt n, neg && decide (n ≠ 0)) := by
  unfold sgnT
  by_cases h : neg = true ∧ n ≠ 0
  · rw [if_pos h]
    obtain ⟨h1, h2⟩ := h
    subst h1
    have : decide (n ≠ 0) = true := by simpa using h2
    rw [this]
    rfl
  · rw [if_neg h]
    rcases q8c (txt n) with ⟨t, e, _⟩ | ⟨_, e⟩
    · exact absurd e (txt_minus n t)
    · rw [e]
      congr 1
      symm
      by_cases h0 : n = 0
      · subst h0; simp
      · cases neg
        · rfl
        · exact absurd ⟨rfl, h0⟩ h
theorem qea (neg : Bool) (n : Nat) : bodyS (sgnT neg n) = txt n := by unfold bodyS; rw [qh2]
theorem qh3 (neg : Bool) (n : Nat) : negS (sgnT neg n) = (neg && decide (n ≠ 0)) := by unfold negS; rw [qh2]
theorem sgnT_wr (neg : Bool) (n : Nat) : wrS (sgnT neg n) = true := by
  unfold wrS
  rw [qea, qh3]
  simp only [decide_eq_true_eq]
  refine ⟨txt_ne n, fun h => ?_, txt_dig n⟩
  have h0 := txt_head h.1
  subst h0
  rcases h.2 with h | h
  · exact absurd h (by decide)
  · simp at h
theorem wr_txt {s : List UInt8} (h : wrS s = true) : txt (dv (bodyS s)) = bodyS s ∧ (negS s = true → dv (bodyS s) ≠ 0) := by
  unfold wrS at h
  simp only [decide_eq_true_eq] at h
  obtain ⟨h1, h2, h3⟩ := h
  cases hb : bodyS s with
  | nil => exact absurd hb h1
  | cons b t =>
    rw [hb] at h2 h3
    by_cases h48 : b = 48
    · subst h48
      have ht : t = [] := by
        cases t with
        | nil => rfl
        | cons c u => exact absurd ⟨rfl, .inl (by simp)⟩ h2
      subst ht
      exact ⟨rfl, fun hn => absurd ⟨rfl, .inr hn⟩ h2⟩
    · have hd := qj4 _ (b :: t) rfl h3 (fun x u e => by
        injection e with e _
        rw [← e]
        exact h48)
      have hne : dv (b :: t) ≠ 0 := fun e => by
        rw [e, q18] at hd
        cases hd
      refine ⟨?_, fun _ => hne⟩
      unfold txt
      rw [if_neg hne, hd]
theorem qg3 (s : List UInt8) : s = (if negS s = true then [45] else []) ++ bodyS s := by
  unfold negS bodyS
  rcases q8c s with ⟨t, e, h⟩ | ⟨_, h⟩
  · rw [h, e]; rfl
  · rw [h]; rfl
theorem sgnT_of {s : List UInt8} (h : wrS s = true) : sgnT (negS s) (dv (bodyS s)) = s := by
  obtain ⟨h1, h2⟩ := wr_txt h
  unfold sgnT
  rw [h1]
  conv => rhs; rw [qg3 s]
  by_cases hn : negS s = true
  · rw [if_pos ⟨hn, h2 hn⟩, if_pos hn]
    rfl
  · rw [if_neg (fun e => hn e.1), if_neg hn]
    rfl
theorem wr_dig {s : List UInt8} (h : wrS s = true) : ∀ b ∈ bodyS s, isDig b := by
  unfold wrS at h
  simp only [decide_eq_true_eq] at h
  exact h.2.2
theorem qii {x y m : Nat} (h : x ≤ y) (g : m < x * 4294967296) : m < y * 100000000000 := Nat.lt_of_lt_of_le g (Nat.mul_le_mul h (by decide))
theorem txt_len {n : Nat} (h : n < 4294967296 ^ 64) : (txt n).length ≤ 620 := by
  unfold txt
  split
  · simp
  · obtain ⟨A, hA⟩ : ∃ A, A = 21 := ⟨_, rfl⟩
    have e : 4294967296 ^ 64 = (4294967296 ^ 3) ^ A * 4294967296 := by rw [← Nat.pow_mul, ← Nat.pow_succ, hA]
    have h3 : 4294967296 ^ 3 ≤ 10 ^ 29 := by decide
    have h4 : (4294967296 ^ 3) ^ A ≤ (10 ^ 29) ^ A := Nat.pow_le_pow_left h3 A
    have e11 : 10 ^ 11 = 100000000000 := by decide
    have h5 : (decE n).length ≤ 29 * A + 11 := by
      rw [decE_len, Nat.pow_add, Nat.pow_mul, e11]
      rw [e] at h
      exact qii h4 h
    exact Nat.le_trans h5 (Nat.le_of_eq (by rw [hA]))
end Go.Den

/- DEN, part Zr: a function's entry in a table that is its own reading; slices that grow while an object stays. -/
namespace Go.Den
open Go.RowKit
noncomputable def runF (E : Env) (T : List (FuncId × Pol)) (f : FuncId) (xs : List AV) (H : Heap) : Option (AV × Heap) :=
  open Classical in if h : ∃ p, Evs fun n _ => callF (E.with (polT T)) (n + 1) (AV × Heap) f xs H (fun v G => some (v, G)) = some p then some h.choose else none
theorem q3z {E : Env} {T : List (FuncId × Pol)} {f : FuncId} {xs : List AV} {H : Heap} {p : AV × Heap} (h : Evs fun n _ => callF (E.with (polT T)) (n + 1) (AV × Heap) f xs H (fun v G => some (v, G)) = some p) : runF E T f xs H = some p := by
  have hx : ∃ p, Evs fun n _ => callF (E.with (polT T)) (n + 1) (AV × Heap) f xs H (fun v G => some (v, G)) = some p := ⟨p, h⟩
  unfold runF
  rw [dif_pos hx]
  obtain ⟨N, hN⟩ := h
  obtain ⟨M, hM⟩ := hx.choose_spec
  have h1 := hN (max N M) (max N M) (by omega) (by omega)
  have h2 := hM (max N M) (max N M) (by omega) (by omega)
  exact h2.symm.trans h1
theorem q8v {E : Env} (hb : BaseOK E) (T : List (FuncId × Pol)) (hT : TabOK E T) {f : FuncId} (hlt : Nat.blt f yBase = true := by rfl) : PolOK E f (.prim (runF E T f)) :=
  heap_of hb T hT (fun xs H v H' h => by
    unfold runF at h
    split at h
    · rename_i hx
      injection h with h
      rw [← h]
      exact hx.choose_spec
    · cases h) hlt
theorem qbu {E : Env} {T : List (FuncId × Pol)} {f : FuncId} {xs : List AV} {H : Heap} {p : AV × Heap} (h : runF E T f xs H = some p) {R : Type} {k : AV → Heap → Option R} : polK (.prim (runF E T f)) xs H k = k p.1 p.2 := by
  show withP (runF E T f xs H) k = _
  rw [h]
  rfl
section
variable {α : Type} {e : α → AV} {sz : Nat} {ty : TypeId} {H : Heap} {v : AV} {l : List α} {bytes : Nat} {j : Nat} {ob : HObj}
def OutJ (j : Nat) (ob : HObj) (e : α → AV) (sz : Nat) (ty : TypeId) (H : Heap) (v : AV) (l : List α) : Prop :=
  H[j]? = some ob ∧ ((l = [] ∧ v = .nils) ∨ ∃ id ver, l ≠ [] ∧ v = .sl id ver 0 l.length l.length ∧ H[id]? = some (.row ver sz ty (l.map e)) ∧ id ≠ j)
theorem OutJ.nil (h : H[j]? = some ob) : OutJ j ob e sz ty H .nils [] := ⟨h, .inl ⟨rfl, rfl⟩⟩
theorem OutJ.push (h : OutJ j ob e sz ty H v l) (x : α) (hb : 0 < bytes) (hm : (l.length + 1) * bytes ≤ 140737488355328) :
    ∃ v' H', A.append sz bytes ty v [e x] (H ++ [.row 0 sz ty [e x]]) = some (v', H') ∧ OutJ j ob e sz ty H' v' (l ++ [x]) := by
  obtain ⟨hj, h⟩ := h
  have hjl : j < H.length := (List.getElem?_eq_some_iff.1 hj).1
  rcases h with ⟨rfl, rfl⟩ | ⟨id, ver, h0, rfl, h2, hne⟩
  · refine ⟨_, _, nil_append (news := [e x]) (by simp) hb (by simpa using hm), ?_, .inr ⟨_, 0, by simp, rfl, q2e, ?_⟩⟩
    · rw [List.getElem?_append_left (by simp; omega), List.getElem?_append_left hjl]
      exact hj
    · simp
      omega
  · have h3 := q96 h2 [.row 0 sz ty [e x]]
    refine ⟨_, _, q72 (news := [e x]) h3 (by simp) (by simp) hb (by simpa using hm), ?_, .inr ⟨id, ver + 1, by simp, by simp, ?_, hne⟩⟩
    · rw [List.getElem?_set_ne hne, List.getElem?_append_left hjl]
      exact hj
    · rw [q1o h3]
      simp
end
end Go.Den

/- DEN, part Zj: what the values of a type are. -/
namespace Go.Den
section
variable {P : Program} {n : Nat} {t e : TypeId} {v : AV} {k : IntKind}
theorem Ty.int (h : Ty P n t v) (ht : P.underlying t = some (.int k)) : ∃ i, v = .int k i ∧ k.min ≤ i ∧ i ≤ k.max := by
  cases n with
  | zero => cases h
  | succ n =>
    unfold Ty at h
    rw [ht] at h
    exact h
theorem Ty.bool (h : Ty P n t v) (ht : P.underlying t = some .bool) : ∃ b, v = .bool b := by
  cases n with
  | zero => cases h
  | succ n =>
    unfold Ty at h
    rw [ht] at h
    exact h
theorem Ty.str (h : Ty P n t v) (ht : P.underlying t = some .string) : ∃ l : List UInt8, v = .str l ∧ l.length ≤ maxLen := by
  cases n with
  | zero => cases h
  | succ n =>
    unfold Ty at h
    rw [ht] at h
    exact h
theorem Ty.slice (h : Ty P n t v) (ht : P.underlying t = some (.slice e)) : ∃ (m : Nat) (es : List AV), n = m + 1 ∧ Im (P.cellsOf e) v es ∧ es.length ≤ maxLen ∧ ∀ x ∈ es, Ty P m e x := by
  cases n with
  | zero => cases h
  | succ n =>
    unfold Ty at h
    rw [ht] at h
    rcases h with rfl | ⟨es, rfl, h1, h2⟩
    · exact ⟨n, [], rfl, .nil, by simp, by simp⟩
    · exact ⟨n, es, rfl, .sh es, h1, h2⟩
theorem Ty.struct (h : Ty P n t v) {fs : Array Field} (ht : P.underlying t = some (.struct fs)) : ∃ (m : Nat) (vs : List AV), n = m + 1 ∧ v = .agg (vs.flatMap AV.cells) ∧ vs.length = fs.size ∧
    ∀ (i : Nat) (f : Field) (x : AV), fs[i]? = some f → vs[i]? = some x → Ty P m f.type x ∧ x.cells.length = P.cellsOf f.type := by
  cases n with
  | zero => cases h
  | succ n =>
    unfold Ty at h
    rw [ht] at h
    obtain ⟨vs, h1, h2, h3⟩ := h
    exact ⟨n, vs, rfl, h1, h2, h3⟩
theorem qap {α : Type} {f : α → AV} {p : α → Prop} : ∀ {es : List AV}, (∀ x ∈ es, ∃ a, x = f a ∧ p a) → ∃ l : List α, es = l.map f ∧ ∀ a ∈ l, p a
  | [], _ => ⟨[], rfl, by simp⟩
  | x :: es, h => by
    obtain ⟨a, rfl, ha⟩ := h x List.mem_cons_self
    obtain ⟨l, rfl, hl⟩ := qap (f := f) (p := p) (es := es) fun y hy => h y (List.mem_cons_of_mem _ hy)
    exact ⟨a :: l, rfl, by simp only [List.mem_cons, forall_eq_or_imp]; exact ⟨ha, hl⟩⟩
theorem Ty.ints (h : Ty P n t v) (ht : P.underlying t = some (.slice e)) (he : P.underlying e = some (.int k)) (hc : P.cellsOf e = 1) : ∃ l : List Int, Im 1 v (l.map (AV.int k)) ∧ (∀ x ∈ l, k.min ≤ x ∧ x ≤ k.max) ∧ l.length ≤ maxLen := by
  obtain ⟨m, es, rfl, h1, h2, h3⟩ := h.slice ht
  obtain ⟨l, rfl, hl⟩ := qap (f := AV.int k) (p := fun x => k.min ≤ x ∧ x ≤ k.max) fun x hx => (h3 x hx).int he
  rw [hc] at h1
  exact ⟨l, h1, hl, by simpa using h2⟩
end
end Go.Den
