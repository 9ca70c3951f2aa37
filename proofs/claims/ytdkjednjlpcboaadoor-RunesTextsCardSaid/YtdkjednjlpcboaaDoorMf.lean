/- Texts put together: DenSa, DenSc, DenMa, DenSd, DenPv, DenSe, DenPw, DenTm, DenZr, DenZj. -/
import Derived.Test.YtdkjednjlpcboaaDoorMe

/- DEN, part Sa: words in which a function's reading is written down: each is, by unfolding alone, what the reading does. -/
namespace Go.Den
section
variable {R : Type}
def bindH (h : Heap) (k : Heap → R) : R := k h
def bindV (v : AV) (k : AV → R) : R := k v
def bindC (c : List AV) (k : List AV → R) : R := k c
def withL (x : Option (List AV)) (k : List AV → Option R) : Option R :=
  match x with
  | some es => k es
  | none => none
def withH (x : Option Heap) (k : Heap → Option R) : Option R :=
  match x with
  | some H => k H
  | none => none
def withVH (x : Option (AV × Heap)) (k : AV → Heap → Option R) : Option R :=
  match x with
  | some (v, H) => k v H
  | none => none
def withP (x : Option (AV × Heap)) (k : AV → Heap → Option R) : Option R :=
  match x with
  | some p => k p.1 p.2
  | none => none
def withB (x : Option Bool) (k : Bool → Option R) : Option R :=
  match x with
  | some b => k b
  | none => none
def q07 (x : AV) (i : Nat) (k : AV → Option R) : Option R :=
  match x with
  | .tup vs => withV vs[i]? k
  | _ => none
def rangeK (x : AV) (H : Heap) (k : AV → Heap → Option R) : Option R :=
  match x with
  | .str l => k (.it H.length) (H ++ [.iter l 0])
  | _ => none
def nextK (x : AV) (H : Heap) (k : AV → Heap → Option R) : Option R :=
  match x with
  | .it id => match H[id]? with
    | some (.iter l pos) =>
      if pos < l.length then
        let d := Utf8.decode ⟨l.toArray⟩ pos
        k (.tup [.bool true, .int .i64 pos, .int .i32 d.1]) (H.set id (.iter l (pos + d.2)))
      else k (.tup [.bool false]) H
    | _ => none
  | _ => none
def assertK (x : AV) (t : TypeId) (z : Option AV) (k : AV → Option R) : Option R :=
  match x with
  | .iface d w => if d = t then k (.tup [w, .bool true]) else match z with
    | some z => k (.tup [z, .bool false])
    | none => none
  | _ => none
def assertOneK (x : AV) (t : TypeId) (k : AV → Option R) : Option R :=
  match x with
  | .iface d w => if d = t then k w else none
  | _ => none
def lpIdxK (i : AV) (n : Int) (k : Int → Option R) : Option R :=
  match i with
  | .int _ j => if 0 ≤ j ∧ j < n then k j else none
  | _ => none
def guardB {α : Type} (b want : Bool) (x y : α) : α := bif b == want then x else y
def altN (i j : Nat) (x y : Option R) : Option R := bif Nat.beq i j then x else y
def chkD (c : Bool) (x : Option R) : Option R := bif c then x else none
def sameV (x : Option SV) (v : AV) : Bool :=
  match x with
  | some (.val w) => AV.beq v w
  | _ => false
def actsB (x : Option Bool) (want : Bool) : Bool :=
  match x with
  | some b => b == want
  | none => true
end
def q9u : List (Nat × FAnn) → FuncId → FAnn
  | [], _ => {}
  | (g, a) :: r, f => bif Nat.beq f g then a else q9u r f
theorem q6j {f : FuncId} : ∀ {l : List (Nat × FAnn)}, f ∉ l.map (·.1) → (q9u l f).draws = []
  | [], _ => rfl
  | (g, a) :: r, h => by
    simp only [List.map_cons, List.mem_cons, not_or] at h
    unfold q9u
    have : Nat.beq f g = false := by
      cases hb : Nat.beq f g
      · rfl
      · exact absurd (Nat.eq_of_beq_eq_true hb) h.1
    rw [this]
    exact q6j h.2
def codeAt : Code → List Nat → Code
  | c, [] => c
  | .seq a b, i :: p => match i with
    | 0 => codeAt a p
    | _ => codeAt b p
  | .cond _ a b, i :: p => match i with
    | 0 => codeAt a p
    | _ => codeAt b p
  | .block _ c, _ :: p => codeAt c p
  | .loop c, _ :: p => codeAt c p
  | .scope c, _ :: p => codeAt c p
  | c, _ => c
def bodyAt (P : Program) (f : FuncId) (p : List Nat) : Code :=
  match P.funcs[f]? with
  | some fn => match fn.body with
    | some c => codeAt c p
    | none => .skip
  | none => .skip
def loopL (E : Env) (cf : CallFn) (n : Nat) (f : FuncId) (p : List Nat) (a : Ann) (kh kx : LK) (outs : List AExit) (N : Nat) : Nat → Live → Heap → Option (Nat × Live × Heap) :=
  iter fun l H rec => exec E cf n (E.ann f) (bodyAt E.P f p) a _ (St.ofLive kh N l) H (loopK kh rec (pairL kx outs))
end Go.Den

/- DEN, part Sc: how one reckons with functions written down in Den's words: 'from some number of steps on'; calls; loops; what the words come to. -/
namespace Go.Den
def Evs (P : Nat → Nat → Prop) : Prop := ∃ N, ∀ n m, N ≤ n → N ≤ m → P n m
theorem Evs.of {P : Nat → Nat → Prop} (h : ∀ n m, P n m) : Evs P := ⟨0, fun n m _ _ => h n m⟩
theorem Evs.and {P Q : Nat → Nat → Prop} (h : Evs P) (g : Evs Q) : Evs fun n m => P n m ∧ Q n m := by
  obtain ⟨N, h⟩ := h
  obtain ⟨M, g⟩ := g
  exact ⟨max N M, fun n m h1 h2 => ⟨h n m (by omega) (by omega), g n m (by omega) (by omega)⟩⟩
theorem Evs.mono {P Q : Nat → Nat → Prop} (h : Evs P) (g : ∀ n m, P n m → Q n m) : Evs Q := by
  obtain ⟨N, h⟩ := h
  exact ⟨N, fun n m h1 h2 => g n m (h n m h1 h2)⟩
def Does (E : Env) (f : FuncId) (args : List AV) (H : Heap) (v : AV) (H' : Heap) : Prop :=
  ∃ N, ∀ n, N ≤ n → ∀ (R : Type) (k : AV → Heap → Option R), callF E n R f args H k = k v H'
theorem Does.intro {E : Env} {f : FuncId} {args : List AV} {H : Heap} {v : AV} {H' : Heap} (h : Evs fun n _ => callF E (n + 1) (AV × Heap) f args H (fun v H => some (v, H)) = some (v, H')) : Does E f args H v H' := by
  obtain ⟨N, h⟩ := h
  refine ⟨N + 1, fun n hn R k => ?_⟩
  obtain ⟨n, rfl⟩ : ∃ m, n = m + 1 := ⟨n - 1, by omega⟩
  rw [q1i (E := E) (n + 1) R f args H k, h n N (by omega) (Nat.le_refl _)]
  rfl
theorem Evs.call {E : Env} {R : Type} {g : FuncId} {args : List AV} {H : Heap} {v : AV} {H' : Heap} {k : Nat → Nat → AV → Heap → Option R} {r : Option R} (hg : Does E g args H v H') (h : Evs fun n m => k n m v H' = r) :
    Evs fun n m => callF E n R g args H (k n m) = r := by
  obtain ⟨N, hg⟩ := hg
  obtain ⟨M, h⟩ := h
  exact ⟨max N M, fun n m h1 h2 => (hg n (by omega) R (k n m)).trans (h n m (by omega) (by omega))⟩
theorem Evs.with {E : Env} {g : FuncId} {args : List AV} {H : Heap} {v : AV} {H' : Heap} {P : Nat → Nat → Prop} (hg : Does E g args H v H') (h : Evs fun n m => (∀ (R : Type) (k : AV → Heap → Option R), callF E n R g args H k = k v H') → P n m) : Evs P := by
  obtain ⟨N, hg⟩ := hg
  obtain ⟨M, h⟩ := h
  exact ⟨max N M, fun n m h1 h2 => h n m (by omega) (by omega) (hg n (by omega))⟩
def LDoes (L : Nat → Nat → Live → Heap → Option (Nat × Live × Heap)) (l : Live) (H : Heap) (i : Nat) (l' : Live) (H' : Heap) : Prop :=
  ∃ N, ∀ n m, N ≤ n → N ≤ m → L n m l H = some (i, l', H')
theorem LDoes.step {L : Nat → Nat → Live → Heap → Option (Nat × Live × Heap)} {l : Live} {H : Heap} {i : Nat} {l' : Live} {H' : Heap} (h : Evs fun n m => L n (m + 1) l H = some (i, l', H')) : LDoes L l H i l' H' := by
  obtain ⟨N, h⟩ := h
  refine ⟨N + 1, fun n m h1 h2 => ?_⟩
  obtain ⟨m, rfl⟩ : ∃ k, m = k + 1 := ⟨m - 1, by omega⟩
  exact h n m (by omega) (by omega)
theorem Evs.rec {L : Nat → Nat → Live → Heap → Option (Nat × Live × Heap)} {l : Live} {H : Heap} {i : Nat} {l' : Live} {H' : Heap} (h : LDoes L l H i l' H') : Evs fun n m => L n m l H = some (i, l', H') := h
theorem Evs.loop {L : Nat → Nat → Live → Heap → Option (Nat × Live × Heap)} {R : Type} {l : Live} {H : Heap} {i : Nat} {l' : Live} {H' : Heap} {k : Nat → Nat → Nat → Live → Heap → Option R} {r : Option R}
    (hl : LDoes L l H i l' H') (h : Evs fun n m => k n m i l' H' = r) : Evs fun n m => bindX (L n n l H) (k n m) = r := by
  obtain ⟨N, hl⟩ := hl
  obtain ⟨M, h⟩ := h
  exact ⟨max N M, fun n m h1 h2 => (congrArg (fun x => bindX x (k n m)) (hl n n (by omega) (by omega))).trans (h n m (by omega) (by omega))⟩
theorem Evs.withL {L : Nat → Nat → Live → Heap → Option (Nat × Live × Heap)} {l : Live} {H : Heap} {i : Nat} {l' : Live} {H' : Heap} {P : Nat → Nat → Prop} (hl : LDoes L l H i l' H') (h : Evs fun n m => L n n l H = some (i, l', H') → L n m l H = some (i, l', H') → P n m) : Evs P := by
  obtain ⟨N, hl⟩ := hl
  obtain ⟨M, h⟩ := h
  exact ⟨max N M, fun n m h1 h2 => h n m (by omega) (by omega) (hl n n (by omega) (by omega)) (hl n m (by omega) (by omega))⟩
section
variable {R : Type}
@[simp] theorem q01 (v : AV) (k : AV → Option R) : withV (some v) k = k v := id rfl
@[congr] theorem withV_congr {x y : Option AV} {k : AV → Option R} (h : x = y) : withV x k = withV y k := by rw [h]
@[simp] theorem q0t (v : List AV) (k : List AV → Option R) : withL (some v) k = k v := id rfl
@[congr] theorem withL_congr {x y : Option (List AV)} {k : List AV → Option R} (h : x = y) : withL x k = withL y k := by rw [h]
@[simp] theorem q0c (v : Heap) (k : Heap → Option R) : withH (some v) k = k v := id rfl
@[congr] theorem withH_congr {x y : Option Heap} {k : Heap → Option R} (h : x = y) : withH x k = withH y k := by rw [h]
@[simp] theorem q0u (v : AV) (H : Heap) (k : AV → Heap → Option R) : withVH (some (v, H)) k = k v H := id rfl
@[congr] theorem withVH_congr {x y : Option (AV × Heap)} {k : AV → Heap → Option R} (h : x = y) : withVH x k = withVH y k := by rw [h]
@[simp] theorem q03 (v : AV) (H : Heap) (k : AV → Heap → Option R) : withP (some (v, H)) k = k v H := id rfl
@[congr] theorem withP_congr {x y : Option (AV × Heap)} {k : AV → Heap → Option R} (h : x = y) : withP x k = withP y k := by rw [h]
@[simp] theorem q02 (v : Bool) (k : Bool → Option R) : withB (some v) k = k v := id rfl
@[congr] theorem withB_congr {x y : Option Bool} {k : Bool → Option R} (h : x = y) : withB x k = withB y k := by rw [h]
@[simp] theorem q05 (i : Nat) (l : Live) (H : Heap) (k : Nat → Live → Heap → Option R) : bindX (some (i, l, H)) k = k i l H := id rfl
@[congr] theorem bindX_congr {x y : Option (Nat × Live × Heap)} {k : Nat → Live → Heap → Option R} (h : x = y) : bindX x k = bindX y k := by rw [h]
@[simp] theorem q04 (v : AV) (k : AV → R) : bindV v k = k v := id rfl
@[simp] theorem q06 (v : Heap) (k : Heap → R) : bindH v k = k v := id rfl
@[simp] theorem bindC_eq (v : List AV) (k : List AV → R) : bindC v k = k v := id rfl
@[congr] theorem bindV_congr {x y : AV} {k : AV → R} (h : x = y) : bindV x k = bindV y k := by rw [h]
@[congr] theorem bindH_congr {x y : Heap} {k : Heap → R} (h : x = y) : bindH x k = bindH y k := by rw [h]
@[congr] theorem bindC_congr {x y : List AV} {k : List AV → R} (h : x = y) : bindC x k = bindC y k := by rw [h]
@[congr] theorem callF_congr {E : Env} {n : Nat} {g : FuncId} {a b : List AV} {H G : Heap} {k : AV → Heap → Option R} (h : a = b) (h2 : H = G) : callF E n R g a H k = callF E n R g b G k := by rw [h, h2]
@[simp] theorem q00 (b : Bool) (x y : Option R) : A.test (.bool b) x y = if b = true then x else y := by cases b <;> rfl
@[simp] theorem asG_bool (w b : Bool) : A.asG w (.bool b) = some b := id rfl
@[simp] theorem asG_skip (w : Bool) : A.asG w (.tup []) = some (!w) := id rfl
@[simp] theorem guardB_tt {α : Type} (x y : α) : guardB true true x y = x := id rfl
@[simp] theorem guardB_ff {α : Type} (x y : α) : guardB false false x y = x := id rfl
@[simp] theorem guardB_tf {α : Type} (x y : α) : guardB true false x y = y := id rfl
@[simp] theorem guardB_ft {α : Type} (x y : α) : guardB false true x y = y := id rfl
@[congr] theorem qjc {α : Type} {b c w : Bool} {x y : α} (h : b = c) : guardB b w x y = guardB c w x y := by rw [h]
@[simp] theorem altN_same (i : Nat) (x y : Option R) : altN i i x y = x := by simp [altN]
@[simp] theorem altN_01 (x y : Option R) : altN 0 1 x y = y := id rfl
@[simp] theorem altN_10 (x y : Option R) : altN 1 0 x y = y := id rfl
@[simp] theorem altN_20 (x y : Option R) : altN 2 0 x y = y := id rfl
@[simp] theorem altN_21 (x y : Option R) : altN 2 1 x y = y := id rfl
@[simp] theorem altN_30 (x y : Option R) : altN 3 0 x y = y := id rfl
@[simp] theorem altN_31 (x y : Option R) : altN 3 1 x y = y := id rfl
@[simp] theorem altN_32 (x y : Option R) : altN 3 2 x y = y := id rfl
@[congr] theorem altN_congr {i j k : Nat} {x y : Option R} (h : i = k) : altN i j x y = altN k j x y := by rw [h]
@[simp] theorem q1k (x : Option R) : chkD true x = x := id rfl
@[congr] theorem chkD_congr {b c : Bool} {x : Option R} (h : b = c) : chkD b x = chkD c x := by rw [h]
@[congr] theorem test_congr {v w : AV} {x y : Option R} (h : v = w) : A.test v x y = A.test w x y := by rw [h]
@[simp] theorem cond_dec (p : Prop) [Decidable p] (x y : R) : (bif decide p then x else y) = if p then x else y := by
  by_cases h : p <;> simp [h]
@[simp] theorem asB_bool (b : Bool) : A.asB (.bool b) = some b := id rfl
@[simp] theorem qjb (vs : List AV) (i : Nat) (k : AV → Option R) : q07 (.tup vs) i k = withV vs[i]? k := id rfl
@[congr] theorem qhl {v w : AV} {i : Nat} {k : AV → Option R} (h : v = w) : q07 v i k = q07 w i k := by rw [h]
end
namespace A
variable {P : Program} {t : TypeId} {c : Bool} {H : Heap} {k : IntKind} {a b : Int}
@[simp] theorem bin_add : A.bin P .add t (.int k a) (.int k b) c H = some (.int k (k.wrap (a + b))) := by simp [A.bin, A.binInt]
@[simp] theorem bin_sub : A.bin P .sub t (.int k a) (.int k b) c H = some (.int k (k.wrap (a - b))) := by simp [A.bin, A.binInt]
@[simp] theorem bin_mul : A.bin P .mul t (.int k a) (.int k b) c H = some (.int k (k.wrap (a * b))) := by simp [A.bin, A.binInt]
@[simp] theorem bin_quo : A.bin P .quo t (.int k a) (.int k b) c H = if b = 0 then none else some (.int k (k.wrap (a.tdiv b))) := by simp [A.bin, A.binInt]
@[simp] theorem bin_rem : A.bin P .rem t (.int k a) (.int k b) c H = if b = 0 then none else some (.int k (a.tmod b)) := by simp [A.bin, A.binInt]
@[simp] theorem bin_eql : A.bin P .eql t (.int k a) (.int k b) c H = some (.bool (decide (a = b))) := by
  simp only [A.bin, A.binInt]
  by_cases h : a = b <;> simp [h]
@[simp] theorem bin_neq : A.bin P .neq t (.int k a) (.int k b) c H = some (.bool (decide (a ≠ b))) := by
  simp only [A.bin, A.binInt]
  by_cases h : a = b <;> simp [h]
@[simp] theorem bin_lss : A.bin P .lss t (.int k a) (.int k b) c H = some (.bool (decide (a < b))) := by simp [A.bin, A.binInt]
@[simp] theorem bin_leq : A.bin P .leq t (.int k a) (.int k b) c H = some (.bool (decide (a ≤ b))) := by simp [A.bin, A.binInt]
@[simp] theorem bin_gtr : A.bin P .gtr t (.int k a) (.int k b) c H = some (.bool (decide (a > b))) := by simp [A.bin, A.binInt]
@[simp] theorem bin_geq : A.bin P .geq t (.int k a) (.int k b) c H = some (.bool (decide (a ≥ b))) := by simp [A.bin, A.binInt]
theorem bin_beq (ht : P.underlying t = some .bool) (x y : Bool) : A.bin P .eql t (.bool x) (.bool y) c H = some (.bool (x == y)) := by simp [A.bin, ht]
@[simp] theorem un_not (x : Bool) : A.un .not (.bool x) = some (.bool !x) := id rfl
@[simp] theorem pick_bool (x : Bool) (v w : AV) : A.pick (.bool x) v w = some (bif x then v else w) := id rfl
@[simp] theorem maxv_int : A.maxv (.int k a) (.int k b) = some (.int k (if b > a then b else a)) := by simp [A.maxv]
@[simp] theorem minv_int : A.minv (.int k a) (.int k b) = some (.int k (if b < a then b else a)) := by simp [A.minv]
end A
theorem qac {k : IntKind} {x : Int} (h1 : k.min ≤ x) (h2 : x ≤ k.max) : k.wrap x = x := by
  cases k <;> simp [IntKind.wrap, IntKind.bits, IntKind.signed, IntKind.min, IntKind.max] at h1 h2 ⊢ <;> omega
theorem q0k {x : Int} (h1 : -9223372036854775808 ≤ x) (h2 : x ≤ 9223372036854775807) : IntKind.wrap .i64 x = x := qac h1 h2
theorem qe7 {x : Int} (h1 : -2147483648 ≤ x) (h2 : x ≤ 2147483647) : IntKind.wrap .i32 x = x := qac h1 h2
theorem qj2 {x : Int} (h1 : 0 ≤ x) (h2 : x ≤ 4294967295) : IntKind.wrap .u32 x = x := qac h1 h2
theorem q3l {x : Int} (h1 : 0 ≤ x) (h2 : x ≤ 18446744073709551615) : IntKind.wrap .u64 x = x := qac h1 h2
section
variable {H : Heap}
@[simp] theorem A.load_rop (ag : Bool) (sz : Nat) (cs : List AV) : A.load ag sz (.rop cs) H = A.ofList ag sz cs 0 := id rfl
@[simp] theorem A.ofList_one (sz : Nat) (cs : List AV) (off : Nat) : A.ofList false sz cs off = cs[off]? := id rfl
@[simp] theorem A.fa_rop (off : Nat) (cs : List AV) : A.fa off (.rop cs) H = some (.rop (cs.drop off)) := id rfl
@[simp] theorem nilC_rop {P : Program} (cs : List AV) : nilC P (.rop cs) H = some (.rop cs) := id rfl
@[simp] theorem nilC_ptr {P : Program} (id ver i o : Nat) : nilC P (.ptr id ver i o) H = A.nilCheck (.ptr id ver i o) H := _root_.id rfl
@[simp] theorem nilC_fn {P : Program} (f : FuncId) (a b : List AV) : nilC P (.fn (.func f) a b) H = some (.fn (.func f) a b) := id rfl
@[simp] theorem A.nilCheck_rop (cs : List AV) : A.nilCheck (.rop cs) H = some (.rop cs) := id rfl
@[simp] theorem A.field_agg (ag : Bool) (sz off : Nat) (cs : List AV) : A.field ag sz off (.agg cs) = A.ofList ag sz cs off := id rfl
@[simp] theorem AV.cells_int (k : IntKind) (n : Int) : (AV.int k n).cells = [.int k n] := id rfl
@[simp] theorem AV.cells_bool (b : Bool) : (AV.bool b).cells = [.bool b] := id rfl
@[simp] theorem AV.cells_str (s : List UInt8) : (AV.str s).cells = [.str s] := id rfl
@[simp] theorem AV.cells_agg (cs : List AV) : (AV.agg cs).cells = cs := id rfl
@[simp] theorem AV.cells_sh (z : Nat) (cs : List AV) : (AV.sh z cs).cells = [.sh z cs] := id rfl
@[simp] theorem AV.cells_lit (z : Nat) (cs : List AV) : (AV.lit z cs).cells = [.lit z cs] := id rfl
@[simp] theorem AV.cells_nils : AV.nils.cells = [.nils] := id rfl
@[simp] theorem AV.isDef_int (k : IntKind) (n : Int) : (AV.int k n).isDef = true := id rfl
@[simp] theorem AV.isDef_bool (b : Bool) : (AV.bool b).isDef = true := id rfl
@[simp] theorem AV.isDef_str (s : List UInt8) : (AV.str s).isDef = true := id rfl
@[simp] theorem AV.isDef_agg (cs : List AV) : (AV.agg cs).isDef = true := id rfl
@[simp] theorem AV.isDef_sh (z : Nat) (cs : List AV) : (AV.sh z cs).isDef = true := id rfl
@[simp] theorem AV.isDef_lit (z : Nat) (cs : List AV) : (AV.lit z cs).isDef = true := id rfl
@[simp] theorem AV.isDef_nils : AV.nils.isDef = true := id rfl
@[simp] theorem AV.heapy_int (k : IntKind) (n : Int) : (AV.int k n).heapy = false := id rfl
@[simp] theorem AV.heapy_bool (b : Bool) : (AV.bool b).heapy = false := id rfl
@[simp] theorem AV.heapy_str (s : List UInt8) : (AV.str s).heapy = false := id rfl
@[simp] theorem AV.heapy_agg (cs : List AV) : (AV.agg cs).heapy = !(cs.all AV.leaf) := id rfl
@[simp] theorem AV.heapy_sh (z : Nat) (cs : List AV) : (AV.sh z cs).heapy = false := id rfl
@[simp] theorem AV.heapy_lit (z : Nat) (cs : List AV) : (AV.lit z cs).heapy = false := id rfl
@[simp] theorem AV.heapy_rop (cs : List AV) : (AV.rop cs).heapy = false := id rfl
@[simp] theorem AV.heapy_nils : AV.nils.heapy = false := id rfl
@[simp] theorem AV.heapy_ptr (a b c d : Nat) : (AV.ptr a b c d).heapy = true := id rfl
@[simp] theorem AV.heapy_sl (a b c d e : Nat) : (AV.sl a b c d e).heapy = true := id rfl
@[simp] theorem AV.leaf_int {k : IntKind} {n : Int} : (AV.int k n).leaf = true := id rfl
@[simp] theorem AV.leaf_bool {b : Bool} : (AV.bool b).leaf = true := id rfl
@[simp] theorem AV.leaf_str {s : List UInt8} : (AV.str s).leaf = true := id rfl
@[simp] theorem AV.leaf_nilp : (AV.nilp).leaf = true := id rfl
@[simp] theorem AV.leaf_nils : (AV.nils).leaf = true := id rfl
@[simp] theorem AV.leaf_nilf : (AV.nilf).leaf = true := id rfl
@[simp] theorem AV.leaf_nili : (AV.nili).leaf = true := id rfl
@[simp] theorem AV.leaf_nilm : (AV.nilm).leaf = true := id rfl
@[simp] theorem AV.leaf_rop {cs : List AV} : (AV.rop cs).leaf = true := id rfl
@[simp] theorem AV.leaf_sh {z : Nat} {cs : List AV} : (AV.sh z cs).leaf = true := id rfl
@[simp] theorem AV.leaf_lit {z : Nat} {cs : List AV} : (AV.lit z cs).leaf = true := id rfl
@[simp] theorem AV.leaf_ptr {a b c d : Nat} : (AV.ptr a b c d).leaf = false := id rfl
@[simp] theorem AV.leaf_sl {a b c d e : Nat} : (AV.sl a b c d e).leaf = false := id rfl
@[simp] theorem AV.leaf_agg {cs : List AV} : (AV.agg cs).leaf = false := id rfl
@[simp] theorem AV.leaf_tup {cs : List AV} : (AV.tup cs).leaf = false := id rfl
@[simp] theorem AV.imm_int {k : IntKind} {n : Int} : (AV.int k n).imm = true := id rfl
@[simp] theorem AV.imm_bool {b : Bool} : (AV.bool b).imm = true := id rfl
@[simp] theorem AV.imm_str {s : List UInt8} : (AV.str s).imm = true := id rfl
@[simp] theorem AV.imm_nilp : (AV.nilp).imm = true := id rfl
@[simp] theorem AV.imm_nils : (AV.nils).imm = true := id rfl
@[simp] theorem AV.imm_nilf : (AV.nilf).imm = true := id rfl
@[simp] theorem AV.imm_nili : (AV.nili).imm = true := id rfl
@[simp] theorem AV.imm_nilm : (AV.nilm).imm = true := id rfl
@[simp] theorem AV.imm_rop {cs : List AV} : (AV.rop cs).imm = true := id rfl
@[simp] theorem AV.imm_sh {z : Nat} {cs : List AV} : (AV.sh z cs).imm = true := id rfl
@[simp] theorem AV.imm_lit {z : Nat} {cs : List AV} : (AV.lit z cs).imm = true := id rfl
@[simp] theorem AV.imm_ptr {a b c d : Nat} : (AV.ptr a b c d).imm = false := id rfl
@[simp] theorem AV.imm_sl {a b c d e : Nat} : (AV.sl a b c d e).imm = false := id rfl
@[simp] theorem AV.imm_agg {cs : List AV} : (AV.agg cs).imm = cs.all AV.leaf := id rfl
@[simp] theorem AV.imm_tup {cs : List AV} : (AV.tup cs).imm = cs.all AV.imm1 := id rfl
@[simp] theorem AV.imm1_int {k : IntKind} {n : Int} : (AV.int k n).imm1 = true := id rfl
@[simp] theorem AV.imm1_bool {b : Bool} : (AV.bool b).imm1 = true := id rfl
@[simp] theorem AV.imm1_str {s : List UInt8} : (AV.str s).imm1 = true := id rfl
@[simp] theorem AV.imm1_nilp : (AV.nilp).imm1 = true := id rfl
@[simp] theorem AV.imm1_nils : (AV.nils).imm1 = true := id rfl
@[simp] theorem AV.imm1_nilf : (AV.nilf).imm1 = true := id rfl
@[simp] theorem AV.imm1_nili : (AV.nili).imm1 = true := id rfl
@[simp] theorem AV.imm1_nilm : (AV.nilm).imm1 = true := id rfl
@[simp] theorem AV.imm1_rop {cs : List AV} : (AV.rop cs).imm1 = true := id rfl
@[simp] theorem AV.imm1_sh {z : Nat} {cs : List AV} : (AV.sh z cs).imm1 = true := id rfl
@[simp] theorem AV.imm1_lit {z : Nat} {cs : List AV} : (AV.lit z cs).imm1 = true := id rfl
@[simp] theorem AV.imm1_ptr {a b c d : Nat} : (AV.ptr a b c d).imm1 = false := id rfl
@[simp] theorem AV.imm1_sl {a b c d e : Nat} : (AV.sl a b c d e).imm1 = false := id rfl
@[simp] theorem AV.imm1_agg {cs : List AV} : (AV.agg cs).imm1 = cs.all AV.leaf := id rfl
@[simp] theorem AV.imm1_tup {cs : List AV} : (AV.tup cs).imm1 = cs.all AV.leaf := id rfl
@[simp] theorem sameV_some (v w : AV) : sameV (some (.val w)) v = AV.beq v w := id rfl
@[simp] theorem actsB_some (b want : Bool) : actsB (some b) want = (b == want) := id rfl
mutual
theorem AV.beq_refl : ∀ v : AV, AV.beq v v = true
  | .undef | .nilp | .nils | .nilf | .nili | .nilm => rfl
  | .bool b => by simp [AV.beq]
  | .int k n => by simp [AV.beq]
  | .str s => by simp [AV.beq]
  | .ptr a b c d => by simp [AV.beq]
  | .sl a b c d e => by simp [AV.beq]
  | .rop cs => by simp [AV.beq, AV.beqs_refl cs]
  | .sh z cs => by simp [AV.beq, AV.beqs_refl cs]
  | .lit z cs => by simp [AV.beq, AV.beqs_refl cs]
  | .agg cs => by simp [AV.beq, AV.beqs_refl cs]
  | .tup cs => by simp [AV.beq, AV.beqs_refl cs]
  | .fn f a b => by simp [AV.beq, AV.beqs_refl a, AV.beqs_refl b]
  | .iface t v => by simp [AV.beq, AV.beq_refl v]
  | .mp a => by simp [AV.beq]
  | .it a => by simp [AV.beq]
  | .yl a => by simp [AV.beq]
theorem AV.beqs_refl : ∀ vs : List AV, AV.beqs vs vs = true
  | [] => rfl
  | v :: vs => by simp [AV.beqs, AV.beq_refl v, AV.beqs_refl vs]
end
attribute [simp] AV.beq_refl
end
theorem q2s {H : Heap} {b : Nat} {x y : HObj} (h : H[b]? = some y) : (H.set b x)[b]? = some x := by
  obtain ⟨hb, _⟩ := List.getElem?_eq_some_iff.1 h
  simp [hb]
theorem get_set_ne {H : Heap} {b c : Nat} {x : HObj} (h : b ≠ c) : (H.set b x)[c]? = H[c]? := by
  rw [List.getElem?_set_ne h]
theorem qc6 {H : Heap} {x : HObj} : (H ++ [x])[H.length]? = some x := by simp
theorem qb4 {H : Heap} {b : Nat} {y : HObj} (h : H[b]? = some y) : b < H.length := (List.getElem?_eq_some_iff.1 h).1
end Go.Den

/- DEN, part Ma: more steps change no answer. -/
namespace Go.Den
def Le {R : Type} (x y : Option R) : Prop := ∀ r, x = some r → y = some r
theorem Le.refl {R : Type} (x : Option R) : Le x x := fun _ h => h
theorem Le.none {R : Type} {y : Option R} : Le Option.none y := fun _ h => by cases h
def CLe (cf cg : CallFn) : Prop :=
  ∀ (R : Type) (f : FuncId) (args : List AV) (H : Heap) (k g : AV → Heap → Option R), (∀ v G, Le (k v G) (g v G)) → Le (cf R f args H k) (cg R f args H g)
section
variable {E : Env} {cf cg : CallFn} {R : Type}
def FLe (F F' : (S : Type) → (AExit → St → Heap → Option S) → Option S) : Prop :=
  ∀ {R : Type} {k g : AExit → St → Heap → Option R}, (∀ e s G, Le (k e s G) (g e s G)) → Le (F R k) (F' R g)
def qa4 : Option (AV × Heap) → Bool
  | some (.bool true, _) => true
  | _ => false
theorem Does.answer {f : FuncId} {args : List AV} {v : AV} {H' : Heap} (h : Does E f args [] v H') : ∃ n, answer E n f args = some v := by
  obtain ⟨N, h⟩ := h
  exact ⟨N, h N (Nat.le_refl _) _ _⟩
end
end Go.Den

/- DEN, part Sd: slices in the small heap. -/
namespace Go.Den
structure Kept (own : List Nat) (H H' : Heap) : Prop where
  len : H.length ≤ H'.length
  same : ∀ i, i < H.length → i ∉ own → H'[i]? = H[i]?
theorem Kept.refl (own : List Nat) (H : Heap) : Kept own H H := ⟨Nat.le_refl _, fun _ _ _ => rfl⟩
theorem Kept.trans {own : List Nat} {A B C : Heap} (h : Kept own A B) (g : Kept own B C) : Kept own A C :=
  ⟨Nat.le_trans h.len g.len, fun i hi ho => (g.same i (Nat.lt_of_lt_of_le hi h.len) ho).trans (h.same i hi ho)⟩
theorem Kept.mono {own own' : List Nat} {A B : Heap} (h : Kept own A B) (hs : ∀ i ∈ own, i < A.length → i ∈ own') : Kept own' A B :=
  ⟨h.len, fun i hi ho => h.same i hi fun e => ho (hs i e hi)⟩
theorem Kept.then {own own' : List Nat} {A B C : Heap} (h : Kept own A B) (g : Kept own' B C) (hs : ∀ i ∈ own', i < A.length → i ∈ own) : Kept own A C :=
  ⟨Nat.le_trans h.len g.len, fun i hi ho => (g.same i (Nat.lt_of_lt_of_le hi h.len) fun e => ho (hs i e hi)).trans (h.same i hi ho)⟩
theorem Kept.get {own : List Nat} {H H' : Heap} (h : Kept own H H') {i : Nat} {x : HObj} (hx : H[i]? = some x) (ho : i ∉ own) : H'[i]? = some x :=
  (h.same i (qb4 hx) ho).trans hx
theorem Kept.app (own : List Nat) (H l : Heap) : Kept own H (H ++ l) :=
  ⟨by simp, fun i hi _ => by rw [List.getElem?_append_left hi]⟩
theorem Kept.set {own : List Nat} {H : Heap} {b : Nat} {x : HObj} (hb : b ∈ own) : Kept own H (H.set b x) :=
  ⟨by simp, fun i _ ho => get_set_ne fun e => ho (e ▸ hb)⟩
inductive Sl (H : Heap) (sz : Nat) (ty : TypeId) : AV → List AV → List Nat → Prop
  | nil : Sl H sz ty .nils [] []
  | mk (id ver off cap : Nat) (row es : List AV) : H[id]? = some (.row ver sz ty row) → off + cap ≤ row.length → es.length ≤ cap → (row.drop off).take es.length = es → Sl H sz ty (.sl id ver off es.length cap) es [id]
section
variable {H H' : Heap} {sz : Nat} {ty : TypeId} {v : AV} {es : List AV} {own : List Nat}
theorem Sl.kept (h : Sl H sz ty v es own) {o : List Nat} (hk : Kept o H H') (ho : ∀ i ∈ own, i ∉ o) : Sl H' sz ty v es own := by
  cases h with
  | nil => exact .nil
  | mk id ver off cap row es h1 h2 h3 h4 => exact .mk id ver off cap row es (hk.get h1 (ho id (by simp))) h2 h3 h4
theorem Sl.nils (h : Sl H sz ty .nils es own) : es = [] ∧ own = [] := by
  cases h
  exact ⟨rfl, rfl⟩
theorem Sl.def (h : Sl H sz ty v es own) : v.cells = [v] ∧ v.isDef = true ∧ v.one = true := by
  cases h <;> exact ⟨rfl, rfl, rfl⟩
theorem Sl.len (h : Sl H sz ty v es own) : A.len v H = some (.int .i64 es.length) := by
  cases h with
  | nil => rfl
  | mk id ver off cap row es h1 h2 h3 h4 => simp [A.len, A.alive, h1]
theorem Sl.read (h : Sl H sz ty v es own) : A.read sz v H = some es := by
  cases h with
  | nil => rfl
  | mk id ver off cap row es h1 h2 h3 h4 =>
    simp only [A.read, h1]
    rw [if_pos ⟨trivial, trivial, by omega⟩, h4]
theorem Sl.idx (h : Sl H sz ty v es own) {k : IntKind} {i : Int} (h0 : 0 ≤ i) (h1 : i < es.length) : ∃ p, A.idx sz v (.int k i) H = some p ∧
    ∀ ag size, A.load ag size p H = (es[i.toNat]?).bind fun e => A.ofList ag size e.cells 0 := by
  cases h with
  | nil => simp at h1; omega
  | mk id ver off cap row es g1 g2 g3 g4 =>
    refine ⟨.ptr id ver (off + i.toNat) 0, ?_, fun ag size => ?_⟩
    · simp [A.idx, A.aliveZ, g1, h0, h1]
    · simp only [A.load, A.elemAt, g1, beq_self_eq_true, cond_true]
      congr 1
      conv => rhs; rw [← g4]
      rw [List.getElem?_take_of_lt (by omega), List.getElem?_drop]
theorem Sl.append (h : Sl H sz ty v es own) {bytes : Nat} (news : List AV) (hb : 0 < bytes) (hn : (es.length + news.length) * bytes ≤ 140737488355328) :
    ∃ v' H' own', A.append sz bytes ty v news H = some (v', H') ∧ Sl H' sz ty v' (es ++ news) own' ∧ Kept own H H' ∧ (∀ i ∈ own', i ∈ own ∨ H.length ≤ i) := by
  cases h with
  | nil =>
    cases news with
    | nil => exact ⟨.nils, H, [], rfl, .nil, .refl _ _, by simp⟩
    | cons x news =>
      refine ⟨.sl H.length 0 0 (x :: news).length (x :: news).length, H ++ [.row 0 sz ty (x :: news)], [H.length], ?_, ?_, .app _ _ _, by simp⟩
      · unfold A.append
        dsimp only
        rw [if_pos ⟨by simpa using hn, hb⟩]
        rfl
      · exact .mk H.length 0 0 _ (x :: news) (x :: news) qc6 (by simp) (Nat.le_refl _) (by simp)
  | mk id ver off cap row es h1 h2 h3 h4 =>
    by_cases hc : es.length + news.length ≤ cap
    · refine ⟨.sl id ver off (es ++ news).length cap, H.set id (.row ver sz ty (A.splice row (off + es.length) news)), [id], ?_, ?_, .set (by simp), by simp⟩
      · simp only [A.append, h1]
        rw [if_pos ⟨trivial, trivial, trivial, by omega, h3, hn, hb⟩, if_pos hc, List.length_append]
      · refine .mk id ver off cap _ (es ++ news) (q2s h1) ?_ (by simpa using hc) ?_
        · simp [A.splice]
          omega
        · have e1 : (row.take (off + es.length)).length = off + es.length := by simp; omega
          have e2 : (A.splice row (off + es.length) news).drop off = es ++ news ++ row.drop (off + es.length + news.length) := by
            unfold A.splice
            rw [List.append_assoc, List.drop_append_of_le_length (by omega), List.drop_take, Nat.add_sub_cancel_left, h4, List.append_assoc]
          rw [e2, List.take_left]
    · refine ⟨.sl id (ver + 1) 0 (es ++ news).length (es ++ news).length, H.set id (.row (ver + 1) sz ty (es ++ news)), [id], ?_, ?_, .set (by simp), by simp⟩
      · simp only [A.append, h1]
        rw [if_pos ⟨trivial, trivial, trivial, by omega, h3, hn, hb⟩, if_neg hc, h4, List.length_append]
      · exact .mk id (ver + 1) 0 _ _ _ (q2s h1) (by simp) (Nat.le_refl _) (by rw [List.drop_zero, List.take_length])
end
section
variable {H : Heap} {sz : Nat} {ty : TypeId} {v : AV} {es : List AV} {own : List Nat}
theorem Sl.of {id ver off n cap : Nat} {P Q : List AV} (h : H[id]? = some (.row ver sz ty (P ++ (es ++ Q)))) (ho : off = P.length) (hn : n = es.length) (hc : es.length ≤ cap) (hq : cap ≤ es.length + Q.length) : Sl H sz ty (.sl id ver off n cap) es [id] := by
  subst ho hn
  exact .mk id ver _ cap _ es h (by simp; omega) hc (by simp)
theorem slice_to {id ver off n cap : Nat} {row : List AV} {k2 : IntKind} {hi : Int} (h : H[id]? = some (.row ver sz ty row)) (h1 : 0 ≤ hi) (h2 : hi ≤ cap) :
    A.slice sz (.sl id ver off n cap) none (some (.int k2 hi)) none H = some (.sl id ver off hi.toNat cap) := by
  simp only [A.slice, A.bound, h1, if_true, Option.bind_some]
  rw [if_pos ⟨by omega, by omega, Nat.le_refl _, by simp [A.aliveZ, h]⟩]
  simp
theorem qij {id ver off n cap : Nat} {row : List AV} (h : H[id]? = some (.row ver sz ty row)) (hl : off + n ≤ row.length) : A.read sz (.sl id ver off n cap) H = some ((row.drop off).take n) := by
  simp only [A.read, h]
  rw [if_pos ⟨trivial, trivial, hl⟩]
end
def cutFrom (v : AV) (i : Nat) : AV :=
  match v with
  | .sl id ver off n cap => .sl id ver (off + i) (n - i) (cap - i)
  | v => v
def cutTo (v : AV) (i : Nat) : AV :=
  match v with
  | .sl id ver off _ cap => .sl id ver off i cap
  | v => v
theorem Sl.slice_to {H : Heap} {sz : Nat} {ty : TypeId} {v : AV} {es : List AV} {own : List Nat} (h : Sl H sz ty v es own) {k : IntKind} {i : Int} (h0 : 0 ≤ i) (h1 : i ≤ es.length) :
    A.slice sz v none (some (.int k i)) none H = some (cutTo v i.toNat) ∧ Sl H sz ty (cutTo v i.toNat) (es.take i.toNat) own := by
  cases h with
  | nil =>
    have : i = 0 := by simp at h1; omega
    subst this
    exact ⟨rfl, .nil⟩
  | mk id ver off cap row es g1 g2 g3 g4 =>
    refine ⟨Go.Den.slice_to g1 h0 (by omega), ?_⟩
    have hl : (es.take i.toNat).length = i.toNat := by simp; omega
    have := Sl.mk (H := H) (sz := sz) (ty := ty) id ver off cap row (es.take i.toNat) g1 g2 (by omega) (by
      rw [hl]
      conv => rhs; rw [← g4]
      rw [List.take_take, Nat.min_eq_left (by omega)])
    rw [hl] at this
    exact this
inductive Im (sz : Nat) : AV → List AV → Prop
  | nil : Im sz .nils []
  | sh (es : List AV) : Im sz (.sh sz es) es
section
variable {H : Heap} {sz : Nat} {v : AV} {es : List AV}
theorem Im.len (h : Im sz v es) : A.len v H = some (.int .i64 es.length) := by
  cases h <;> rfl
theorem Im.read (h : Im sz v es) : A.read sz v H = some es := by
  cases h <;> simp [A.read]
theorem Im.idx (h : Im sz v es) {k : IntKind} {i : Int} (h0 : 0 ≤ i) {e : AV} (he : es[i.toNat]? = some e) : A.idx sz v (.int k i) H = some (.rop e.cells) := by
  have hl := (List.getElem?_eq_some_iff.1 he).1
  cases h with
  | nil => simp at hl
  | sh es =>
    simp only [A.idx]
    rw [if_pos ⟨h0, by omega, trivial⟩, he]
    rfl
end
structure Rd (H : Heap) (v : AV) (es : List AV) : Prop where
  len : A.len v H = some (.int .i64 es.length)
  at_ : ∀ (k : IntKind) (i : Int) (e : AV), 0 ≤ i → es[i.toNat]? = some e → ∃ p, A.idx 1 v (.int k i) H = some p ∧ A.load false 1 p H = some e
def Box (H : Heap) (b sz : Nat) (ty : TypeId) (cs : List AV) : Prop := H[b]? = some (.row 0 sz ty [.agg cs])
section
variable {H H' : Heap} {b sz : Nat} {ty : TypeId} {cs : List AV}
theorem Box.kept (h : Box H b sz ty cs) {o : List Nat} (hk : Kept o H H') (ho : b ∉ o) : Box H' b sz ty cs := hk.get h ho
theorem Box.nilCheck (h : Box H b sz ty cs) {o : Nat} : A.nilCheck (.ptr b 0 0 o) H = some (.ptr b 0 0 o) := by
  simp only [Box] at h
  simp [A.nilCheck, A.alive, h]
theorem Box.fa (h : Box H b sz ty cs) {o : Nat} : A.fa o (.ptr b 0 0 0) H = some (.ptr b 0 0 o) := by
  simp only [Box] at h
  simp [A.fa, A.alive, h]
theorem Box.load (h : Box H b sz ty cs) {o : Nat} : A.load false 1 (.ptr b 0 0 o) H = cs[o]? := by
  simp only [Box] at h
  simp [A.load, A.elemAt, h, A.ofList, AV.cells]
theorem Box.store (h : Box H b sz ty cs) {o : Nat} {v : AV} (ho : o < cs.length) (hc : v.cells = [v]) (h1 : v.one = true) (hd : v.isDef = true) : A.store 1 (.ptr b 0 0 o) v H = some (H.set b (.row 0 sz ty [.agg (cs.set o v)])) := by
  simp only [Box] at h
  have : A.fits 1 v = true := by simp [A.fits, hc, h1]
  have hs : A.splice cs o [v] = cs.set o v := by
    rw [List.set_eq_take_append_cons_drop, if_pos ho]
    simp [A.splice]
  have hle : o + v.cells.length ≤ cs.length := by rw [hc]; simp; omega
  simp only [A.store, this, cond_true, h, beq_self_eq_true, A.setElem]
  simp only [List.getElem?_cons_zero, Option.bind_some]
  rw [if_pos hle, hc, hs]
  rfl
theorem Box.stored (h : Box H b sz ty cs) {o : Nat} {v : AV} : Box (H.set b (.row 0 sz ty [.agg (cs.set o v)])) b sz ty (cs.set o v) := q2s h
end
theorem qgn {E : Env} {sz : Nat} {tx e : TypeId} {x : AV} {H : Heap} (ht : E.P.underlying tx = some (.slice e)) : newsOf E sz tx x H = A.read sz x H := by
  unfold newsOf
  rw [ht]
theorem q21 {E : Env} {sz by_ : Nat} {z : AV} {tx e : TypeId} {x : AV} {H : Heap} (ht : E.P.underlying tx = some (.slice e)) : newsZ E sz by_ z tx x H = A.read sz x H := by
  unfold newsZ
  rw [qgn ht, ht]
  cases A.read sz x H <;> rfl
theorem Sl.new {H : Heap} {sz : Nat} {ty : TypeId} (es : List AV) : Sl (H ++ [.row 0 sz ty es]) sz ty (.sl H.length 0 0 es.length es.length) es [H.length] :=
  .mk _ _ _ _ es es qc6 (by simp) (Nat.le_refl _) (by simp)
end Go.Den

/- DEN, part Pv: functions that are proved one by one: each is a table's entry for those that call it. -/
namespace Go.Den
open Go.RowKit
def Env.with (E : Env) (pol : FuncId → Pol) : Env := { E with pol := pol }
def cl (E : Env) (pol : FuncId → Pol) (n : Nat) {R : Type} (f : FuncId) (args : List AV) (H : Heap) (k : AV → Heap → Option R) : Option R :=
  callK (E.with pol) (callF (E.with pol) n) f args H k
def clQ (E : Env) (pol : FuncId → Pol) {R : Type} (f : FuncId) (args : List AV) (H : Heap) (k : AV → Heap → Option R) : Option R :=
  callQ (E.with pol) f args H k
def clV (E : Env) (pol : FuncId → Pol) (n : Nat) {R : Type} (f : AV) (args : List AV) (H : Heap) (k : AV → Heap → Option R) : Option R :=
  callV (E.with pol) (callF (E.with pol) n) f args H k
def globV (E : Env) (g : Nat) : AV := .rop ((E.glob g).getD [])
def lookT : List (FuncId × Pol) → FuncId → Pol
  | [], _ => .prim fun _ _ => none
  | (g, F) :: r, f => if f = g then F else lookT r f
def polK {R : Type} (p : Pol) (args : List AV) (H : Heap) (k : AV → Heap → Option R) : Option R :=
  match p with
  | .plain => none
  | .prim F => withP (F args H) k
  | .still F => withP (pureF F args H) k
def polQ {R : Type} (p : Pol) (args : List AV) (H : Heap) (k : AV → Heap → Option R) : Option R :=
  match p with
  | .still F => bif args.all AV.imm then withV (F args) fun v => k v H else none
  | _ => none
def polT (T : List (FuncId × Pol)) (f : FuncId) : Pol :=
  match lookT T f with
  | .plain => .prim fun _ _ => none
  | p => p
@[simp] theorem cl_polT {E : Env} {T : List (FuncId × Pol)} {n : Nat} {R : Type} {f : FuncId} {args : List AV} {H : Heap} {k : AV → Heap → Option R} : cl E (polT T) n f args H k = polK (lookT T f) args H k := by
  unfold cl callK
  show (match polT T f with | .plain => _ | .prim F => _ | .still F => _) = _
  unfold polT
  cases lookT T f <;> rfl
@[simp] theorem clQ_polT {E : Env} {T : List (FuncId × Pol)} {R : Type} {f : FuncId} {args : List AV} {H : Heap} {k : AV → Heap → Option R} : clQ E (polT T) f args H k = polQ (lookT T f) args H k := by
  unfold clQ callQ
  show (match polT T f with | .still F => _ | _ => _) = _
  unfold polT
  cases lookT T f <;> rfl
@[simp] theorem clV_fn {E : Env} {pol : FuncId → Pol} {n : Nat} {R : Type} {f : FuncId} {a b args : List AV} {H : Heap} {k : AV → Heap → Option R} : clV E pol n (.fn (.func f) a b) args H k = cl E pol n f (a ++ args ++ b) H k := id rfl
@[congr] theorem cl_congr {E : Env} {pol : FuncId → Pol} {n : Nat} {R : Type} {f : FuncId} {args args' : List AV} {H H' : Heap} {k : AV → Heap → Option R} (h : args = args') (h2 : H = H') : cl E pol n f args H k = cl E pol n f args' H' k := by rw [h, h2]
@[congr] theorem clV_congr {E : Env} {pol : FuncId → Pol} {n : Nat} {R : Type} {f f' : AV} {args args' : List AV} {H H' : Heap} {k : AV → Heap → Option R} (h0 : f = f') (h : args = args') (h2 : H = H') : clV E pol n f args H k = clV E pol n f' args' H' k := by rw [h0, h, h2]
@[congr] theorem clQ_congr {E : Env} {pol : FuncId → Pol} {R : Type} {f : FuncId} {args args' : List AV} {H H' : Heap} {k : AV → Heap → Option R} (h : args = args') (h2 : H = H') : clQ E pol f args H k = clQ E pol f args' H' k := by rw [h, h2]
@[congr] theorem polK_congr {R : Type} {p p' : Pol} {args : List AV} {H : Heap} {k : AV → Heap → Option R} (h : p = p') : polK p args H k = polK p' args H k := by rw [h]
@[congr] theorem polQ_congr {R : Type} {p p' : Pol} {args : List AV} {H : Heap} {k : AV → Heap → Option R} (h : p = p') : polQ p args H k = polQ p' args H k := by rw [h]
theorem q0i {R : Type} {F : List AV → Option AV} {args : List AV} {H : Heap} {k : AV → Heap → Option R} (h : args.all AV.imm = true) : polK (.still F) args H k = withV (F args) fun v => k v H := by
  show withP (pureF F args H) k = _
  rw [qb9 h]
  cases F args <;> rfl
theorem qii {R : Type} {F : List AV → Option AV} {args : List AV} {H : Heap} {k : AV → Heap → Option R} (h : args.all AV.imm = true) : polQ (.still F) args H k = withV (F args) fun v => k v H := by
  show (bif args.all AV.imm then _ else none) = _
  rw [h]
  rfl
@[simp] theorem lookT_cons {g : FuncId} {F : Pol} {r : List (FuncId × Pol)} {f : FuncId} : lookT ((g, F) :: r) f = if f = g then F else lookT r f := id rfl
section
variable {E : Env} {pol : FuncId → Pol}
theorem q1q (sites : List (Nat × Nat × Nat)) : q0z (E.with pol) sites = q0z E sites := by
  funext rid ops d
  rfl
theorem EnvOK.with (h : EnvOK E) : EnvOK (E.with pol) :=
  ⟨fun f fn c h1 h2 => by
    have := h.codes f fn c h1 h2
    rw [← q1q (pol := pol)] at this
    exact this, h.names⟩
theorem OthV.to_with {C : Ctx} {ob : Option Obj} {o : HObj} (h : OthV E C ob o) : OthV (E.with pol) C ob o := by
  cases o with
  | iter l pos => exact h
  | map k e es => exact h
  | loop L =>
    obtain ⟨rcd, h1, h2⟩ := h
    exact ⟨rcd, h1, h2.state, h2.pending, h2.params, h2.assign, h2.body, h2.size, h2.slots, h2.novar, by rw [q1q]; exact h2.ok1, by rw [q1q]; exact h2.ok2, h2.rf1, h2.rf2⟩
  | _ => trivial
theorem OthV.of_with {C : Ctx} {ob : Option Obj} {o : HObj} (h : OthV (E.with pol) C ob o) : OthV E C ob o := by
  cases o with
  | iter l pos => exact h
  | map k e es => exact h
  | loop L =>
    obtain ⟨rcd, h1, h2⟩ := h
    exact ⟨rcd, h1, h2.state, h2.pending, h2.params, h2.assign, h2.body, h2.size, h2.slots, h2.novar, by rw [← q1q (pol := pol)]; exact h2.ok1, by rw [← q1q (pol := pol)]; exact h2.ok2, h2.rf1, h2.rf2⟩
  | _ => trivial
theorem HR.to_with {C : Ctx} (h : HR E C) : HR (E.with pol) C := ⟨h.row, fun id o ho hh => ⟨(h.oth id o ho hh).1, (h.oth id o ho hh).2.to_with⟩, h.new, h.glob, h.al⟩
theorem HR.of_with {C : Ctx} (h : HR (E.with pol) C) : HR E C := ⟨h.row, fun id o ho hh => ⟨(h.oth id o ho hh).1, (h.oth id o ho hh).2.of_with⟩, h.new, h.glob, h.al⟩
theorem Gives.of_with {C : Ctx} {v : AV} {H' : Heap} {u : Value} {w' : World} (h : Gives (E.with pol) C v H' u w') : Gives E C v H' u w' := by
  obtain ⟨C', h1, h2, h3, h4, h5, h6⟩ := h
  exact ⟨C', h1, h2, h3, h4.of_with, h5, h6⟩
theorem Gives.to_with {C : Ctx} {v : AV} {H' : Heap} {u : Value} {w' : World} (h : Gives E C v H' u w') : Gives (E.with pol) C v H' u w' := by
  obtain ⟨C', h1, h2, h3, h4, h5, h6⟩ := h
  exact ⟨C', h1, h2, h3, h4.to_with, h5, h6⟩
theorem PrimOK.to_with {f : FuncId} {F : List AV → Heap → Option (AV × Heap)} (h : PrimOK E f F) : PrimOK (E.with pol) f F :=
  fun args C us v H' h1 h2 h3 h4 => Lands.mono (h args C us v H' h1 h2.of_with h3 h4) fun _ _ g => g.to_with
theorem PolOK.to_with {f : FuncId} : ∀ {p : Pol}, PolOK E f p → PolOK (E.with pol) f p
  | .plain, _ => trivial
  | .prim F, h => PrimOK.to_with (F := F) h
  | .still F, h => PrimOK.to_with (F := pureF F) h
theorem PolOK.none (f : FuncId) : PolOK E f (.prim fun _ _ => none) := fun _ _ _ _ _ h => by cases h
end
def TabOK (E : Env) : List (FuncId × Pol) → Prop
  | [] => True
  | (f, F) :: r => PolOK E f F ∧ TabOK E r
theorem qdj {E : Env} : ∀ {T : List (FuncId × Pol)}, TabOK E T → ∀ f, PolOK E f (lookT T f)
  | [], _, f => .none f
  | (g, F) :: r, h, f => by
    unfold lookT
    split
    · rename_i e; subst e; exact h.1
    · exact qdj h.2 f
theorem polT_ok {E : Env} {T : List (FuncId × Pol)} (h : TabOK E T) (f : FuncId) : PolOK E f (polT T f) := by
  have := qdj h f
  unfold polT
  split
  · exact .none f
  · exact this
theorem q5r {E : Env} (hE : EnvOK E) (hm : E.P.follows .mixedOrders = true) {T : List (FuncId × Pol)} (hT : TabOK E T) (n : Nat) : CallOK (E.with (polT T)) (callF (E.with (polT T)) n) :=
  q43 (E := E.with (polT T)) hE.with hm (fun f => (polT_ok hT f).to_with) n
structure BaseOK (E : Env) : Prop where
  env : EnvOK E
  mixed : E.P.follows .mixedOrders = true
theorem qe3 {E : Env} (hb : BaseOK E) (T : List (FuncId × Pol)) (hT : TabOK E T) {f : FuncId} {F : List AV → Option AV}
    (h : ∀ zs v, F zs = some v → Evs fun n _ => callF (E.with (polT T)) (n + 1) AV f zs [] (fun v G => A.freezeB true 64 G v) = some v) : PolOK E f (.still F) :=
  q7r (E := E) (E' := E.with (polT T)) rfl rfl (q5r hb.env hb.mixed hT) fun zs v hv => by
    obtain ⟨N, hN⟩ := h zs v hv
    exact ⟨N + 1, hN N N (Nat.le_refl _) (Nat.le_refl _)⟩
theorem heap_of {E : Env} (hb : BaseOK E) (T : List (FuncId × Pol)) (hT : TabOK E T) {f : FuncId} {F : List AV → Heap → Option (AV × Heap)}
    (h : ∀ zs H v H', F zs H = some (v, H') → Evs fun n _ => callF (E.with (polT T)) (n + 1) (AV × Heap) f zs H (fun v G => some (v, G)) = some (v, H')) (hlt : Nat.blt f yBase = true := by rfl) : PolOK E f (.prim F) := fun args C us v H' h1 hr hl hv => by
  obtain ⟨N, hN⟩ := h args C.H v H' h1
  exact Lands.mono ((q5r hb.env hb.mixed hT (N + 1)).call f args C us v H' hlt (hN N N (Nat.le_refl _) (Nat.le_refl _)) hr.to_with hl hv) fun _ _ g => g.of_with
theorem qfg {E : Env} {T : List (FuncId × Pol)} {f : FuncId} {zs : List AV} {v : AV} (h : Evs fun n _ => callF (E.with (polT T)) (n + 1) AV f zs [] (fun v _ => some v) = some v) : ∃ n, answer (E.with (polT T)) n f zs = some v := by
  obtain ⟨N, hN⟩ := h
  exact ⟨N + 1, hN N N (Nat.le_refl _) (Nat.le_refl _)⟩
theorem q7d {v : AV} {H : Heap} (h : v.imm = true) : A.freezeB true 64 H v = some v := (qg6 h 61 H).1
/-! ### codes -/
structure Cd (α : Type) where
  enc : α → AV
  inj : ∀ a b, enc a = enc b → a = b
  imm : ∀ a, (enc a).imm1 = true
namespace Cd
variable {α β γ δ ε : Type}
noncomputable def dec (c : Cd α) (v : AV) : Option α := open Classical in if h : ∃ a, v = c.enc a then some h.choose else none
theorem dec_enc (c : Cd α) (a : α) : c.dec (c.enc a) = some a := by
  have h : ∃ b, c.enc a = c.enc b := ⟨a, rfl⟩
  unfold dec
  rw [dif_pos h]
  exact congrArg some (c.inj _ _ h.choose_spec).symm
theorem dec_some {c : Cd α} {v : AV} {a : α} (h : c.dec v = some a) : v = c.enc a := by
  unfold dec at h
  split at h
  · rename_i hx
    simp only [Option.some.injEq] at h
    rw [← h]
    exact hx.choose_spec
  · cases h
noncomputable def f0 (r : AV) : List AV → Option AV
  | [] => some r
  | _ => none
end Cd
noncomputable def p1 {α ρ : Type} (a : Cd α) (r : ρ → AV) (P : α → Prop) (f : α → ρ) : List AV → Option AV
  | [v0] => (a.dec v0).bind fun x0 => (open Classical in if P x0 then some (r (f x0)) else none)
  | _ => none
@[simp] theorem p1_app {α ρ : Type} {a : Cd α} {r : ρ → AV} {P : α → Prop} {f : α → ρ} {v0 : AV} : p1 a r P f [v0] = (a.dec v0).bind fun x0 => (open Classical in if P x0 then some (r (f x0)) else none) := id rfl
theorem still1 {E : Env} (hb : BaseOK E) (T : List (FuncId × Pol)) (hT : TabOK E T) {f : FuncId} {α ρ : Type} {a : Cd α} {r : ρ → AV} {P : α → Prop} {F : α → ρ}
    (h : ∀ x0, P x0 → Evs fun n _ => callF (E.with (polT T)) (n + 1) AV f [a.enc x0] [] (fun v G => A.freezeB true 64 G v) = some (r (F x0))) : PolOK E f (.still (p1 a r P F)) :=
  qe3 hb T hT fun ar v hv => by
    unfold p1 at hv
    split at hv
    · simp only [Option.bind_eq_some_iff] at hv
      obtain ⟨x0, h0, hv⟩ := hv
      split at hv
      · rename_i hp
        cases hv
        rw [Cd.dec_some h0]
        exact h x0 hp
      · cases hv
    · cases hv
noncomputable def p2 {α β ρ : Type} (a : Cd α) (b : Cd β) (r : ρ → AV) (P : α → β → Prop) (f : α → β → ρ) : List AV → Option AV
  | [v0, v1] => (a.dec v0).bind fun x0 => (b.dec v1).bind fun x1 => (open Classical in if P x0 x1 then some (r (f x0 x1)) else none)
  | _ => none
@[simp] theorem p2_app {α β ρ : Type} {a : Cd α} {b : Cd β} {r : ρ → AV} {P : α → β → Prop} {f : α → β → ρ} {v0 v1 : AV} : p2 a b r P f [v0, v1] = (a.dec v0).bind fun x0 => (b.dec v1).bind fun x1 => (open Classical in if P x0 x1 then some (r (f x0 x1)) else none) := id rfl
theorem still2 {E : Env} (hb : BaseOK E) (T : List (FuncId × Pol)) (hT : TabOK E T) {f : FuncId} {α β ρ : Type} {a : Cd α} {b : Cd β} {r : ρ → AV} {P : α → β → Prop} {F : α → β → ρ}
    (h : ∀ x0 x1, P x0 x1 → Evs fun n _ => callF (E.with (polT T)) (n + 1) AV f [a.enc x0, b.enc x1] [] (fun v G => A.freezeB true 64 G v) = some (r (F x0 x1))) : PolOK E f (.still (p2 a b r P F)) :=
  qe3 hb T hT fun ar v hv => by
    unfold p2 at hv
    split at hv
    · simp only [Option.bind_eq_some_iff] at hv
      obtain ⟨x0, h0, x1, h1, hv⟩ := hv
      split at hv
      · rename_i hp
        cases hv
        rw [Cd.dec_some h0, Cd.dec_some h1]
        exact h x0 x1 hp
      · cases hv
    · cases hv
noncomputable def p3 {α β γ ρ : Type} (a : Cd α) (b : Cd β) (c : Cd γ) (r : ρ → AV) (P : α → β → γ → Prop) (f : α → β → γ → ρ) : List AV → Option AV
  | [v0, v1, v2] => (a.dec v0).bind fun x0 => (b.dec v1).bind fun x1 => (c.dec v2).bind fun x2 => (open Classical in if P x0 x1 x2 then some (r (f x0 x1 x2)) else none)
  | _ => none
@[simp] theorem p3_app {α β γ ρ : Type} {a : Cd α} {b : Cd β} {c : Cd γ} {r : ρ → AV} {P : α → β → γ → Prop} {f : α → β → γ → ρ} {v0 v1 v2 : AV} : p3 a b c r P f [v0, v1, v2] = (a.dec v0).bind fun x0 => (b.dec v1).bind fun x1 => (c.dec v2).bind fun x2 => (open Classical in if P x0 x1 x2 then some (r (f x0 x1 x2)) else none) := id rfl
noncomputable def p4 {α β γ δ ρ : Type} (a : Cd α) (b : Cd β) (c : Cd γ) (d : Cd δ) (r : ρ → AV) (P : α → β → γ → δ → Prop) (f : α → β → γ → δ → ρ) : List AV → Option AV
  | [v0, v1, v2, v3] => (a.dec v0).bind fun x0 => (b.dec v1).bind fun x1 => (c.dec v2).bind fun x2 => (d.dec v3).bind fun x3 => (open Classical in if P x0 x1 x2 x3 then some (r (f x0 x1 x2 x3)) else none)
  | _ => none
@[simp] theorem p4_app {α β γ δ ρ : Type} {a : Cd α} {b : Cd β} {c : Cd γ} {d : Cd δ} {r : ρ → AV} {P : α → β → γ → δ → Prop} {f : α → β → γ → δ → ρ} {v0 v1 v2 v3 : AV} : p4 a b c d r P f [v0, v1, v2, v3] = (a.dec v0).bind fun x0 => (b.dec v1).bind fun x1 => (c.dec v2).bind fun x2 => (d.dec v3).bind fun x3 => (open Classical in if P x0 x1 x2 x3 then some (r (f x0 x1 x2 x3)) else none) := id rfl
noncomputable def p5 {α β γ δ ε ρ : Type} (a : Cd α) (b : Cd β) (c : Cd γ) (d : Cd δ) (e : Cd ε) (r : ρ → AV) (P : α → β → γ → δ → ε → Prop) (f : α → β → γ → δ → ε → ρ) : List AV → Option AV
  | [v0, v1, v2, v3, v4] => (a.dec v0).bind fun x0 => (b.dec v1).bind fun x1 => (c.dec v2).bind fun x2 => (d.dec v3).bind fun x3 => (e.dec v4).bind fun x4 => (open Classical in if P x0 x1 x2 x3 x4 then some (r (f x0 x1 x2 x3 x4)) else none)
  | _ => none
@[simp] theorem p5_app {α β γ δ ε ρ : Type} {a : Cd α} {b : Cd β} {c : Cd γ} {d : Cd δ} {e : Cd ε} {r : ρ → AV} {P : α → β → γ → δ → ε → Prop} {f : α → β → γ → δ → ε → ρ} {v0 v1 v2 v3 v4 : AV} : p5 a b c d e r P f [v0, v1, v2, v3, v4] = (a.dec v0).bind fun x0 => (b.dec v1).bind fun x1 => (c.dec v2).bind fun x2 => (d.dec v3).bind fun x3 => (e.dec v4).bind fun x4 => (open Classical in if P x0 x1 x2 x3 x4 then some (r (f x0 x1 x2 x3 x4)) else none) := id rfl
noncomputable def p6 {α β γ δ ε ζ ρ : Type} (a : Cd α) (b : Cd β) (c : Cd γ) (d : Cd δ) (e : Cd ε) (f6 : Cd ζ) (r : ρ → AV) (P : α → β → γ → δ → ε → ζ → Prop) (f : α → β → γ → δ → ε → ζ → ρ) : List AV → Option AV
  | [v0, v1, v2, v3, v4, v5] => (a.dec v0).bind fun x0 => (b.dec v1).bind fun x1 => (c.dec v2).bind fun x2 => (d.dec v3).bind fun x3 => (e.dec v4).bind fun x4 => (f6.dec v5).bind fun x5 => (open Classical in if P x0 x1 x2 x3 x4 x5 then some (r (f x0 x1 x2 x3 x4 x5)) else none)
  | _ => none
@[simp] theorem p6_app {α β γ δ ε ζ ρ : Type} {a : Cd α} {b : Cd β} {c : Cd γ} {d : Cd δ} {e : Cd ε} {f6 : Cd ζ} {r : ρ → AV} {P : α → β → γ → δ → ε → ζ → Prop} {f : α → β → γ → δ → ε → ζ → ρ} {v0 v1 v2 v3 v4 v5 : AV} : p6 a b c d e f6 r P f [v0, v1, v2, v3, v4, v5] = (a.dec v0).bind fun x0 => (b.dec v1).bind fun x1 => (c.dec v2).bind fun x2 => (d.dec v3).bind fun x3 => (e.dec v4).bind fun x4 => (f6.dec v5).bind fun x5 => (open Classical in if P x0 x1 x2 x3 x4 x5 then some (r (f x0 x1 x2 x3 x4 x5)) else none) := id rfl
def cI (k : IntKind) : Cd Int := ⟨.int k, fun _ _ h => by simpa using h, fun _ => rfl⟩
def cU32 : Cd UInt32 := ⟨fun x => .int .u32 x.toNat, fun a b h => by
  have : (a.toNat : Int) = b.toNat := by simpa using h
  exact UInt32.toNat_inj.1 (by omega), fun _ => rfl⟩
def cB : Cd Bool := ⟨.bool, fun _ _ h => by simpa using h, fun _ => rfl⟩
def cS : Cd (List UInt8) := ⟨.str, fun _ _ h => by simpa using h, fun _ => rfl⟩
theorem qgj {α β : Type} {f : α → β} (hf : ∀ a b, f a = f b → a = b) : ∀ {l m : List α}, l.map f = m.map f → l = m
  | [], [], _ => rfl
  | [], _ :: _, h => by simp at h
  | _ :: _, [], h => by simp at h
  | a :: l, b :: m, h => by
    simp only [List.map_cons, List.cons.injEq] at h
    rw [hf _ _ h.1, qgj hf h.2]
def eL {α : Type} (sz : Nat) (e : α → AV) : Option (List α) → AV
  | none => .nils
  | some l => .sh sz (l.map e)
def cL {α : Type} (sz : Nat) (c : Cd α) : Cd (Option (List α)) := ⟨eL sz c.enc, fun a b h => by
  cases a <;> cases b <;> simp [eL] at h
  · rfl
  · rw [qgj c.inj h], fun a => by cases a <;> rfl⟩
abbrev eU (k : IntKind) (n : Nat) : AV := .int k n
section
variable {α : Type} {sz : Nat} {e : α → AV} {H : Heap}
@[simp] theorem leaf_eL {o : Option (List α)} : (eL sz e o).leaf = true := by cases o <;> rfl
@[simp] theorem imm1_eL {o : Option (List α)} : (eL sz e o).imm1 = true := by cases o <;> rfl
@[simp] theorem imm_eL {o : Option (List α)} : (eL sz e o).imm = true := by cases o <;> rfl
@[simp] theorem cells_eL {o : Option (List α)} : (eL sz e o).cells = [eL sz e o] := by cases o <;> rfl
@[simp] theorem isDef_eL {o : Option (List α)} : (eL sz e o).isDef = true := by cases o <;> rfl
@[simp] theorem one_eL {o : Option (List α)} : (eL sz e o).one = true := by cases o <;> rfl
@[simp] theorem len_eL {o : Option (List α)} : A.len (eL sz e o) H = some (.int .i64 (o.getD []).length) := by cases o <;> simp [eL, A.len]
@[simp] theorem read_eL {o : Option (List α)} : A.read sz (eL sz e o) H = some ((o.getD []).map e) := by cases o <;> simp [eL, A.read]
theorem idx_eL {o : Option (List α)} {k : IntKind} {i : Nat} (h : i < (o.getD []).length) : A.idx sz (eL sz e o) (.int k (i : Int)) H = some (.rop (e ((o.getD [])[i])).cells) := by
  cases o with
  | none => simp at h
  | some l =>
    simp only [Option.getD_some] at h ⊢
    have hl : i < (l.map e).length := by simpa using h
    simp only [eL, A.idx]
    rw [if_pos ⟨by omega, by omega, trivial⟩]
    simp [h]
end
@[simp] theorem enc_cI (k : IntKind) (n : Int) : (cI k).enc n = .int k n := id rfl
@[simp] theorem enc_cU32 (x : UInt32) : cU32.enc x = .int .u32 x.toNat := id rfl
@[simp] theorem enc_cB (b : Bool) : cB.enc b = .bool b := id rfl
@[simp] theorem enc_cS (s : List UInt8) : cS.enc s = .str s := id rfl
@[simp] theorem enc_cL {α : Type} (sz : Nat) (c : Cd α) (o : Option (List α)) : (cL sz c).enc o = eL sz c.enc o := id rfl
@[simp] theorem dec_cI (k : IntKind) (n : Int) : (cI k).dec (.int k n) = some n := (cI k).dec_enc n
@[simp] theorem dec_cB (b : Bool) : cB.dec (.bool b) = some b := cB.dec_enc b
@[simp] theorem dec_cS (s : List UInt8) : cS.dec (.str s) = some s := cS.dec_enc s
@[simp] theorem dec_cU32 (x : UInt32) : cU32.dec (.int .u32 x.toNat) = some x := cU32.dec_enc x
@[simp] theorem dec_cL {α : Type} (sz : Nat) (c : Cd α) (o : Option (List α)) : (cL sz c).dec (eL sz c.enc o) = some o := (cL sz c).dec_enc o
end Go.Den

/- DEN, part Se: what the generated equations of a range over a function are written in. -/
namespace Go.Den
def rfK (E : Env) (n : Nat) {R : Type} (g : AV) (L : LoopD) (H : Heap) (k : AExit → Heap → Option R) : Option R :=
  match g with
  | .fn (.func f) [] cap =>
    bif !q4j E f then none else callK E (callF E n) f (.yl H.length :: cap) (H ++ [.loop L]) fun _ H1 =>
      match H1[H.length]? with
      | some (.loop L1) => bif Nat.beq L1.state 1 then none else match L1.pending with
        | none => k .normal (H1.set H.length .dead)
        | some e => k e (H1.set H.length .dead)
      | _ => none
  | _ => none
def exitK {R : Type} (e : AExit) (a : Option R) (b : Nat → Option R) (c : Option R) : Option R :=
  match e with
  | .normal => a
  | .exit j => b j
  | .ret => c
def loopGet {R : Type} (H : Heap) (id : Nat) (f : LoopD → Option R) : Option R :=
  match H[id]? with
  | some (.loop L) => f L
  | _ => none
def stSet (d N : Nat) (l : List (Nat × AV)) : St := { slots := l.foldl (fun T p => Tr.set T p.1 (.val p.2)) (Tr.full .no d), L := .lf, N := N }
def q7t : Code → Code × Code
  | .rangeFunc _ _ a b => (a, b)
  | .seq a b => match q7t a with
    | (.skip, .skip) => q7t b
    | r => r
  | .cond _ a b => match q7t a with
    | (.skip, .skip) => q7t b
    | r => r
  | .block _ a | .loop a | .scope a => q7t a
  | _ => (.skip, .skip)
def bodyOf (E : Env) (f : FuncId) : Code :=
  match E.P.funcs[f]? with
  | some fn => fn.body.getD .skip
  | none => .skip
end Go.Den

/- DEN, part Pw: rows that a function makes for itself, and slices that are whole rows; what is handed back of them. -/
namespace Go.Den
abbrev eu (x : UInt32) : AV := .int .u32 x.toNat
section
variable {H : Heap} {id ver sz : Nat} {ty : TypeId} {es : List AV} {off n cap : Nat} {k : IntKind} {i : Int} {b : Bool}
theorem q3w (h : H[id]? = some (.row ver sz ty es)) (l : Heap) : (H ++ l)[id]? = some (.row ver sz ty es) := by
  rw [List.getElem?_append_left (qb4 h)]
  exact h
theorem q4p {x y : HObj} (h : H[id]? = some y) : (H.set id x)[id]? = some x := q2s h
theorem q0y : (H ++ [.row ver sz ty es])[H.length]? = some (.row ver sz ty es) := qc6
theorem q7u (h : H[id]? = some (.row ver sz ty es)) (h0 : 0 ≤ i) (h1 : i < n) : A.idx sz (.sl id ver off n cap) (.int k i) H = some (.ptr id ver (off + i.toNat) 0) := by
  simp only [A.idx, A.aliveZ, h]
  rw [if_pos ⟨h0, h1, by simp⟩]
theorem q6s {e : AV} {j : Nat} (h : H[id]? = some (.row ver sz ty es)) (he : es[j]? = some e) (hc : e.cells = [e]) : A.load false 1 (.ptr id ver j 0) H = some e := by
  simp [A.load, A.elemAt, h, he, A.ofList, hc]
theorem qbc {e v : AV} {j : Nat} (h : H[id]? = some (.row ver sz ty es)) (he : es[j]? = some e) (ho : e.one = true) (hv : v.one = true) : A.store 1 (.ptr id ver j 0) v H = some (H.set id (.row ver sz ty (es.set j v))) := by
  have hc : v.cells = [v] := by cases v <;> first | rfl | cases hv
  simp only [A.store, A.fits, hc, h, he]
  cases e <;> first | (cases ho; done) | (cases v <;> first | (cases hv; done) | simp [AV.one, A.setElem])
theorem q0o {j o : Nat} (h : H[id]? = some (.row ver sz ty es)) : A.nilCheck (.ptr id ver j o) H = some (.ptr id ver j o) := by
  simp [A.nilCheck, A.alive, h]
theorem q2j {bytes : Nat} {news : List AV} (h : H[id]? = some (.row ver sz ty es)) (hn : n = es.length) (hne : news ≠ []) (hb : 0 < bytes) (hm : (es.length + news.length) * bytes ≤ 140737488355328) :
    A.append sz bytes ty (.sl id ver 0 n n) news H = some (.sl id (ver + 1) 0 (es ++ news).length (es ++ news).length, H.set id (.row (ver + 1) sz ty (es ++ news))) := by
  subst hn
  have hl : 0 < news.length := List.length_pos_iff.2 hne
  simp only [A.append, h]
  rw [if_pos ⟨trivial, trivial, trivial, by omega, Nat.le_refl _, hm, hb⟩, if_neg (by omega)]
  simp
theorem q8a {bytes : Nat} (h : H[id]? = some (.row ver sz ty es)) (hn : n = es.length) (hb : 0 < bytes) (hm : es.length * bytes ≤ 140737488355328) :
    A.append sz bytes ty (.sl id ver 0 n n) [] H = some (.sl id ver 0 n n, H.set id (.row ver sz ty es)) := by
  subst hn
  simp only [A.append, h]
  rw [if_pos ⟨trivial, trivial, trivial, by omega, Nat.le_refl _, by simpa using hm, hb⟩, if_pos (by simp)]
  simp [A.splice]
theorem nil_append {bytes : Nat} {news : List AV} (hne : news ≠ []) (hb : 0 < bytes) (hm : news.length * bytes ≤ 140737488355328) :
    A.append sz bytes ty .nils news H = some (.sl H.length 0 0 news.length news.length, H ++ [.row 0 sz ty news]) := by
  cases news with
  | nil => exact absurd rfl hne
  | cons x news =>
    simp only [A.append]
    rw [if_pos ⟨hm, hb⟩]
    rfl
theorem q3i (h : H[id]? = some (.row ver sz ty es)) (hn : n = es.length) : A.read sz (.sl id ver 0 n cap) H = some es := by
  subst hn
  simp [A.read, h]
end
theorem qaw {b : Bool} {n : Nat} {H : Heap} {e : AV} (h : e.flat0 = true) (hd : e.isDef = true) : q9m b (n + 1) H e = some e := by
  cases e <;> first | rfl | (cases h; done) | (cases hd; done)
theorem qen {b : Bool} {m : Nat} {H : Heap} {id ver sz n cap : Nat} {ty : TypeId} {es : List AV} (h : H[id]? = some (.row ver sz ty es)) (hn : n = es.length) (hf : ∀ e ∈ es, e.flat0 = true ∧ e.isDef = true) :
    A.freezeB b (m + 2) H (.sl id ver 0 n cap) = some (.sh sz es) := by
  subst hn
  rw [qax, h]
  dsimp only
  rw [if_pos ⟨rfl, by omega⟩]
  simp only [List.drop_zero, List.take_length]
  rw [q2o fun x hx => qaw (hf x hx).1 (hf x hx).2]
  rfl
@[simp] theorem freeze_int {b : Bool} {H : Heap} {k : IntKind} {n : Int} : A.freezeB b 64 H (.int k n) = some (.int k n) := id rfl
@[simp] theorem freeze_bool {b : Bool} {H : Heap} {x : Bool} : A.freezeB b 64 H (.bool x) = some (.bool x) := id rfl
@[simp] theorem freeze_str {b : Bool} {H : Heap} {x : List UInt8} : A.freezeB b 64 H (.str x) = some (.str x) := id rfl
@[simp] theorem freeze_nils {b : Bool} {H : Heap} : A.freezeB b 64 H .nils = some .nils := id rfl
@[simp] theorem frz_eD {H : Heap} {α : Type} {sz : Nat} {e : α → AV} {o : Option (List α)} : A.freezeB true 64 H (eL sz e o) = some (eL sz e o) := q7d (by simp)
@[simp high] theorem load_rop1 {H : Heap} {sz : Nat} {x : AV} : A.load false sz (.rop [x]) H = some x := id rfl
@[simp] theorem AV.one_int {k : IntKind} {n : Int} : (AV.int k n).one = true := id rfl
@[simp] theorem AV.one_bool {b : Bool} : (AV.bool b).one = true := id rfl
@[simp] theorem AV.one_str {s : List UInt8} : (AV.str s).one = true := id rfl
@[simp] theorem AV.one_nils : (AV.nils).one = true := id rfl
@[simp] theorem AV.one_nilp : (AV.nilp).one = true := id rfl
@[simp] theorem AV.one_sh {z : Nat} {cs : List AV} : (AV.sh z cs).one = true := id rfl
@[simp] theorem AV.one_lit {z : Nat} {cs : List AV} : (AV.lit z cs).one = true := id rfl
@[simp] theorem AV.one_sl {a b c d e : Nat} : (AV.sl a b c d e).one = true := id rfl
@[simp] theorem AV.one_ptr {a b c d : Nat} : (AV.ptr a b c d).one = true := id rfl
@[simp] theorem get_zero {α : Type} {a : α} {l : List α} : (a :: l)[0]? = some a := id rfl
section
variable {α : Type} {e : α → AV} {sz : Nat} {ty : TypeId} {H : Heap} {v : AV} {l : List α} {bytes : Nat}
def Out (e : α → AV) (sz : Nat) (ty : TypeId) (H : Heap) (v : AV) (l : List α) : Prop :=
  (l = [] ∧ v = .nils) ∨ ∃ id ver, l ≠ [] ∧ v = .sl id ver 0 l.length l.length ∧ H[id]? = some (.row ver sz ty (l.map e))
theorem Out.nil : Out e sz ty H .nils [] := .inl ⟨rfl, rfl⟩
theorem Out.app (h : Out e sz ty H v l) (x : Heap) : Out e sz ty (H ++ x) v l := by
  rcases h with h | ⟨id, ver, h0, h1, h2⟩
  · exact .inl h
  · exact .inr ⟨id, ver, h0, h1, q3w h2 x⟩
theorem Out.push (h : Out e sz ty H v l) (x : α) (hb : 0 < bytes) (hm : (l.length + 1) * bytes ≤ 140737488355328) :
    ∃ v' H', A.append sz bytes ty v [e x] (H ++ [.row 0 sz ty [e x]]) = some (v', H') ∧ Out e sz ty H' v' (l ++ [x]) := by
  rcases h with ⟨rfl, rfl⟩ | ⟨id, ver, h0, rfl, h2⟩
  · refine ⟨_, _, nil_append (news := [e x]) (by simp) hb (by simpa using hm), .inr ⟨_, 0, by simp, rfl, ?_⟩⟩
    exact q0y
  · have h3 := q3w h2 [.row 0 sz ty [e x]]
    refine ⟨_, _, q2j (news := [e x]) h3 (by simp) (by simp) hb (by simpa using hm), .inr ⟨id, ver + 1, by simp, by simp, ?_⟩⟩
    rw [q4p h3]
    simp
def nz (l : List α) : Option (List α) := if l = [] then none else some l
theorem Out.frz (h : Out e sz ty H v l) (hf : ∀ x, (e x).flat0 = true ∧ (e x).isDef = true) : A.freezeB true 64 H v = some (eL sz e (nz l)) := by
  rcases h with ⟨rfl, rfl⟩ | ⟨id, ver, h0, rfl, h2⟩
  · rfl
  · have := qen (b := true) (m := 62) (n := l.length) (cap := l.length) h2 (by simp) (fun y hy => by
      obtain ⟨x, _, rfl⟩ := List.mem_map.1 hy
      exact hf x)
    rw [this]
    unfold nz
    cases l with
    | nil => exact absurd rfl h0
    | cons x l => rfl
end
@[simp] theorem AV.cells_sl {a b c d e : Nat} : (AV.sl a b c d e).cells = [.sl a b c d e] := id rfl
@[simp] theorem AV.isDef_sl {a b c d e : Nat} : (AV.sl a b c d e).isDef = true := id rfl
@[simp] theorem AV.cells_ptr {a b c d : Nat} : (AV.ptr a b c d).cells = [.ptr a b c d] := id rfl
@[simp] theorem AV.isDef_ptr {a b c d : Nat} : (AV.ptr a b c d).isDef = true := id rfl
/-! ### boxes -/
section
variable {H : Heap} {b sz : Nat} {ty : TypeId} {cs : List AV}
theorem qaj {ds : List AV} (h : Box H b sz ty cs) (hc : cs.length = sz) (hd : ds.length = sz) (ho : ds.all AV.one = true) : A.store sz (.ptr b 0 0 0) (.agg ds) H = some (H.set b (.row 0 sz ty [.agg ds])) := by
  simp only [Box] at h
  have hf : A.fits sz (.agg ds) = true := by simp [A.fits, AV.cells, hd, ho]
  simp only [A.store, hf, cond_true, h, beq_self_eq_true, A.setElem, List.getElem?_cons_zero, Option.bind_some]
  rw [if_pos (by simp [AV.cells, hd, hc])]
  simp [AV.cells, A.splice, hd, ← hc]
end
/-! ### numbers -/
theorem q2c {E : Env} {s d : TypeId} {x : TypeDesc} {k j : IntKind} {n : Int} (hs : E.P.underlying s = some x) (hd : E.P.underlying d = some (.int k)) : convert E s d (.int j n) = some (.int k (k.wrap n)) := by
  simp [convert, hs, hd]
@[simp] theorem wrap64_limb (x : UInt32) : IntKind.wrap .u64 (x.toNat : Int) = x.toNat := q3l (by omega) (by have := x.toNat_lt; omega)
@[simp] theorem wrap32_limb (x : UInt32) : IntKind.wrap .u32 (x.toNat : Int) = x.toNat := qj2 (by omega) (by have := x.toNat_lt; omega)
theorem shl_u64 {P : Program} {t : TypeId} {c : Bool} {H : Heap} {a s : Nat} {j : IntKind} (h : s ≤ 64) (hl : a * 2 ^ s < 18446744073709551616) : A.bin P .shl t (.int .u64 (a : Int)) (.int j (s : Int)) c H = some (.int .u64 ((a * 2 ^ s : Nat) : Int)) := by
  simp only [A.bin, A.binInt]
  rw [if_neg (by omega)]
  have : min (s : Int).toNat (IntKind.bits .u64) = s := by simp [IntKind.bits]; omega
  rw [this]
  have e : (a : Int) * 2 ^ s = ((a * 2 ^ s : Nat) : Int) := by push_cast; rfl
  rw [e, q3l (by omega) (by omega)]
theorem quo_nat {P : Program} {t : TypeId} {c : Bool} {H : Heap} {x y : Nat} (hy : y ≠ 0) (hx : x < 18446744073709551616) : A.bin P .quo t (.int .u64 (x : Int)) (.int .u64 (y : Int)) c H = some (.int .u64 ((x / y : Nat) : Int)) := by
  have hd : x / y ≤ x := Nat.div_le_self _ _
  have e : (x : Int).tdiv y = ((x / y : Nat) : Int) := by
    rw [Int.tdiv_eq_ediv_of_nonneg (by omega)]; rfl
  have hw : IntKind.wrap .u64 ((x / y : Nat) : Int) = ((x / y : Nat) : Int) := by
    generalize x / y = q at hd
    exact q3l (by omega) (by omega)
  rw [A.bin_quo, if_neg (by omega), e, hw]
theorem rem_nat {P : Program} {t : TypeId} {c : Bool} {H : Heap} {x y : Nat} (hy : y ≠ 0) : A.bin P .rem t (.int .u64 (x : Int)) (.int .u64 (y : Int)) c H = some (.int .u64 ((x % y : Nat) : Int)) := by
  have e : (x : Int).tmod y = ((x % y : Nat) : Int) := by
    rw [Int.tmod_eq_emod_of_nonneg (by omega)]; rfl
  rw [A.bin_rem, if_neg (by omega), e]
theorem q4s {P : Program} {t : TypeId} {c : Bool} {H : Heap} {a s : Nat} {j : IntKind} (h : s ≤ 64) (hl : 2 ^ s * a < 18446744073709551616) : A.bin P .shl t (.int .u64 (a : Int)) (.int j (s : Int)) c H = some (.int .u64 ((2 ^ s * a : Nat) : Int)) := by
  rw [Nat.mul_comm] at hl ⊢
  exact shl_u64 h hl
theorem q7o {x y s : Nat} (hx : x < 2 ^ s) (h : x + 2 ^ s * y < 18446744073709551616) {P : Program} {t : TypeId} {c : Bool} {H : Heap} :
    A.bin P .or t (.int .u64 (x : Int)) (.int .u64 ((2 ^ s * y : Nat) : Int)) c H = some (.int .u64 ((x + 2 ^ s * y : Nat) : Int)) ∧ A.bin P .or t (.int .u64 ((2 ^ s * y : Nat) : Int)) (.int .u64 (x : Int)) c H = some (.int .u64 ((x + 2 ^ s * y : Nat) : Int)) := by
  have e : x ||| 2 ^ s * y = x + 2 ^ s * y := by rw [Nat.or_comm, ← Nat.two_pow_add_eq_or_of_lt hx, Nat.add_comm]
  have e2 : 2 ^ s * y ||| x = x + 2 ^ s * y := by rw [Nat.or_comm, e]
  have hw : ∀ n : Nat, n < 18446744073709551616 → IntKind.wrap .u64 (n : Int) = n := fun n hn => q3l (by omega) (by omega)
  have key : ∀ p q : Nat, p < 18446744073709551616 → q < 18446744073709551616 → (BitVec.ofInt 64 (p : Int) ||| BitVec.ofInt 64 (q : Int)).toNat = p ||| q := fun p q hp hq => by
    rw [BitVec.toNat_or]
    simp [BitVec.toNat_ofInt]
    rw [Nat.mod_eq_of_lt hp, Nat.mod_eq_of_lt hq]
  constructor
  · simp only [A.bin, decide_true, cond_true, A.binInt, A.bits, Option.map_some]
    rw [show IntKind.bits .u64 = 64 from rfl, key _ _ (by omega) (by omega), e, hw _ h]
  · simp only [A.bin, decide_true, cond_true, A.binInt, A.bits, Option.map_some]
    rw [show IntKind.bits .u64 = 64 from rfl, key _ _ (by omega) (by omega), e2, hw _ h]
theorem cells_int {k : IntKind} {n : Int} : (AV.int k n).cells = [.int k n] := rfl
/-! ### plain functions on rows of limbs -/
abbrev eD : Option (List UInt32) → AV := eL 1 eu
def cD : Cd (Option (List UInt32)) := cL 1 cU32
@[simp] theorem enc_cD (d : Option (List UInt32)) : cD.enc d = eD d := id rfl
@[simp] theorem dec_cD (d : Option (List UInt32)) : cD.dec (eD d) = some d := cD.dec_enc d
def few (d : Option (List UInt32)) : Prop := (d.getD []).length ≤ 1000000
abbrev Nm := Bool × Option (List UInt32)
abbrev eN (a : Nm) : AV := .agg [.bool a.1, eD a.2]
def cN : Cd Nm := ⟨eN, fun a b h => by
  simp only [eN, AV.agg.injEq, List.cons.injEq, AV.bool.injEq, and_true] at h
  exact Prod.ext h.1 (cD.inj _ _ h.2), fun a => by simp [eN]⟩
@[simp] theorem frz_eN {H : Heap} {b : Bool} {d : Option (List UInt32)} : A.freezeB true 64 H (.agg [.bool b, eD d]) = some (.agg [.bool b, eD d]) := q7d (by simp)
@[simp] theorem frz_ib {H : Heap} {k : IntKind} {n : Int} {b : Bool} : A.freezeB true 64 H (.tup [.int k n, .bool b]) = some (.tup [.int k n, .bool b]) := q7d (by simp)
@[simp] theorem frz_nb {H : Heap} {p b : Bool} {d : Option (List UInt32)} : A.freezeB true 64 H (.tup [.agg [.bool p, eD d], .bool b]) = some (.tup [.agg [.bool p, eD d], .bool b]) := q7d (by simp)
@[simp] theorem frz_nnb {H : Heap} {p q b : Bool} {d e : Option (List UInt32)} : A.freezeB true 64 H (.tup [.agg [.bool p, eD d], .agg [.bool q, eD e], .bool b]) = some (.tup [.agg [.bool p, eD d], .agg [.bool q, eD e], .bool b]) := q7d (by simp)
@[simp] theorem enc_cN (a : Nm) : cN.enc a = eN a := id rfl
@[simp] theorem dec_cN (b : Bool) (d : Option (List UInt32)) : cN.dec (.agg [.bool b, eD d]) = some (b, d) := cN.dec_enc (b, d)
end Go.Den

/- DEN, terms: a term as plain data, and as a value that does not change. -/
namespace Go.Den
inductive Tm where
  | mk (kind : Int) (neg : Bool) (d : Option (List UInt32)) (name : List UInt8) (n : Int) (l : Option (List Tm)) (b : Option (List UInt8))
namespace Tm
def kind : Tm → Int | .mk k _ _ _ _ _ _ => k
def neg : Tm → Bool | .mk _ x _ _ _ _ _ => x
def d : Tm → Option (List UInt32) | .mk _ _ x _ _ _ _ => x
def name : Tm → List UInt8 | .mk _ _ _ x _ _ _ => x
def n : Tm → Int | .mk _ _ _ _ x _ _ => x
def l : Tm → Option (List Tm) | .mk _ _ _ _ _ x _ => x
def b : Tm → Option (List UInt8) | .mk _ _ _ _ _ _ x => x
def kids (t : Tm) : List Tm := t.l.getD []
end Tm
abbrev eb (x : UInt8) : AV := .int .u8 x.toNat
mutual
def eT : Tm → AV
  | .mk k neg d s n l b => .agg [.int .i64 k, .bool neg, eD d, .str s, .int .i64 n, eTo l, eL 1 eb b]
def eTo : Option (List Tm) → AV
  | none => .nils
  | some l => .sh 7 (eTs l)
def eTs : List Tm → List AV
  | [] => []
  | t :: l => eT t :: eTs l
end
theorem qfx : ∀ l : List Tm, eTs l = l.map eT
  | [] => by simp [eTs]
  | t :: l => by rw [eTs, qfx l]; rfl
theorem eTo_eL (o : Option (List Tm)) : eTo o = eL 7 eT o := by
  cases o with
  | none => rw [eTo]; rfl
  | some l => rw [eTo, qfx]; rfl
theorem qfu (t : Tm) : eT t = .agg [.int .i64 t.kind, .bool t.neg, eD t.d, .str t.name, .int .i64 t.n, eL 7 eT t.l, eL 1 eb t.b] := by
  cases t
  rw [eT, eTo_eL]
  rfl
theorem qja {a b : UInt8} (h : eb a = eb b) : a = b := by
  unfold eb at h
  injection h with _ h
  exact UInt8.toNat_inj.1 (by omega)
theorem qc0 {α : Type} {sz : Nat} {e : α → AV} {x y : Option (List α)} (hi : ∀ (l m : List α), x = some l → y = some m → l.map e = m.map e → l = m) (h : eL sz e x = eL sz e y) : x = y := by
  cases x with
  | none =>
    cases y with
    | none => rfl
    | some m => cases h
  | some l =>
    cases y with
    | none => cases h
    | some m =>
      have h' : AV.sh sz (l.map e) = AV.sh sz (m.map e) := h
      injection h' with _ h'
      rw [hi l m rfl rfl h']
theorem q6q {α : Type} {e : α → AV} (he : ∀ a b, e a = e b → a = b) : ∀ {l m : List α}, l.map e = m.map e → l = m
  | [], [], _ => rfl
  | [], _ :: _, h => by cases h
  | _ :: _, [], h => by cases h
  | a :: l, b :: m, h => by
    simp only [List.map_cons, List.cons.injEq] at h
    rw [he a b h.1, q6q he h.2]
mutual
theorem qfv : ∀ a b : Tm, eT a = eT b → a = b
  | .mk k x d s n l b, .mk k' x' d' s' n' l' b', h => by
    rw [eT, eT] at h
    injection h with h
    simp only [List.cons.injEq, AV.int.injEq, AV.bool.injEq, AV.str.injEq, true_and, and_true] at h
    obtain ⟨h1, h2, h3, h4, h5, h6, h7⟩ := h
    have e3 : d = d' := cD.inj _ _ h3
    have e6 : l = l' := eTo_inj l l' h6
    have e7 : b = b' := qc0 (fun l m _ _ hm => q6q (fun a b => qja) hm) h7
    rw [h1, h2, e3, h4, h5, e6, e7]
theorem eTo_inj : ∀ a b : Option (List Tm), eTo a = eTo b → a = b
  | none, none, _ => rfl
  | none, some l, h => by rw [eTo, eTo] at h; cases h
  | some l, none, h => by rw [eTo, eTo] at h; cases h
  | some l, some m, h => by
    rw [eTo, eTo] at h
    injection h with _ h
    rw [qfw l m h]
theorem qfw : ∀ a b : List Tm, eTs a = eTs b → a = b
  | [], [], _ => rfl
  | [], t :: l, h => by rw [eTs, eTs] at h; cases h
  | t :: l, [], h => by rw [eTs, eTs] at h; cases h
  | t :: l, u :: m, h => by
    rw [eTs, eTs] at h
    simp only [List.cons.injEq] at h
    rw [qfv t u h.1, qfw l m h.2]
end
def cT : Cd Tm := ⟨eT, qfv, fun a => by rw [qfu]; simp⟩
def cTs : Cd (Option (List Tm)) := ⟨eL 7 eT, fun a b h => qc0 (fun l m _ _ hm => q6q qfv hm) h, fun a => by cases a <;> rfl⟩
@[simp] theorem enc_cT {a : Tm} : cT.enc a = eT a := id rfl
@[simp] theorem enc_cTs {a : Option (List Tm)} : cTs.enc a = eL 7 eT a := id rfl
@[simp] theorem dec_cT {a : Tm} : cT.dec (eT a) = some a := cT.dec_enc a
@[simp] theorem dec_cTs {a : Option (List Tm)} : cTs.dec (eL 7 eT a) = some a := cTs.dec_enc a
@[simp] theorem imm_eT {t : Tm} : (eT t).imm = true := by rw [qfu]; simp
@[simp] theorem cells_eT {t : Tm} : (eT t).cells = [.int .i64 t.kind, .bool t.neg, eD t.d, .str t.name, .int .i64 t.n, eL 7 eT t.l, eL 1 eb t.b] := by rw [qfu]; rfl
@[simp] theorem isDef_eT {t : Tm} : (eT t).isDef = true := by rw [qfu]; rfl
@[simp] theorem flat_eT {t : Tm} : (eT t).one = false := by rw [qfu]; rfl
/-! ### how great a term is -/
mutual
def Tm.size : Tm → Nat
  | .mk _ _ _ _ _ l _ => 1 + Tm.sizeO l
def Tm.sizeO : Option (List Tm) → Nat
  | none => 0
  | some l => Tm.sizes l
def Tm.sizes : List Tm → Nat
  | [] => 0
  | t :: l => t.size + Tm.sizes l
end
mutual
def Tm.thin (w : Nat) : Tm → Prop
  | .mk _ _ _ _ _ l _ => Tm.thinO w l
def Tm.thinO (w : Nat) : Option (List Tm) → Prop
  | none => True
  | some l => l.length ≤ w ∧ Tm.thins w l
def Tm.thins (w : Nat) : List Tm → Prop
  | [] => True
  | t :: l => t.thin w ∧ Tm.thins w l
end
mutual
def Tm.fewd : Tm → Prop
  | .mk _ _ d _ _ l _ => (d.getD []).length ≤ 1000000 ∧ Tm.fewdO l
def Tm.fewdO : Option (List Tm) → Prop
  | none => True
  | some l => Tm.fewds l
def Tm.fewds : List Tm → Prop
  | [] => True
  | t :: l => t.fewd ∧ Tm.fewds l
end
end Go.Den

/- DEN, part Zr: a function's entry in a table that is its own reading; slices that grow while an object stays. -/
namespace Go.Den
open Go.RowKit
noncomputable def runF (E : Env) (T : List (FuncId × Pol)) (f : FuncId) (xs : List AV) (H : Heap) : Option (AV × Heap) :=
  open Classical in if h : ∃ p, Evs fun n _ => callF (E.with (polT T)) (n + 1) (AV × Heap) f xs H (fun v G => some (v, G)) = some p then some h.choose else none
theorem q0p {E : Env} {T : List (FuncId × Pol)} {f : FuncId} {xs : List AV} {H : Heap} {p : AV × Heap} (h : Evs fun n _ => callF (E.with (polT T)) (n + 1) (AV × Heap) f xs H (fun v G => some (v, G)) = some p) : runF E T f xs H = some p := by
  have hx : ∃ p, Evs fun n _ => callF (E.with (polT T)) (n + 1) (AV × Heap) f xs H (fun v G => some (v, G)) = some p := ⟨p, h⟩
  unfold runF
  rw [dif_pos hx]
  obtain ⟨N, hN⟩ := h
  obtain ⟨M, hM⟩ := hx.choose_spec
  have h1 := hN (max N M) (max N M) (by omega) (by omega)
  have h2 := hM (max N M) (max N M) (by omega) (by omega)
  exact h2.symm.trans h1
theorem q3n {E : Env} (hb : BaseOK E) (T : List (FuncId × Pol)) (hT : TabOK E T) {f : FuncId} (hlt : Nat.blt f yBase = true := by rfl) : PolOK E f (.prim (runF E T f)) :=
  heap_of hb T hT (fun xs H v H' h => by
    unfold runF at h
    split at h
    · rename_i hx
      injection h with h
      rw [← h]
      exact hx.choose_spec
    · cases h) hlt
theorem q2v {E : Env} {T : List (FuncId × Pol)} {f : FuncId} {xs : List AV} {H : Heap} {p : AV × Heap} (h : runF E T f xs H = some p) {R : Type} {k : AV → Heap → Option R} : polK (.prim (runF E T f)) xs H k = k p.1 p.2 := by
  show withP (runF E T f xs H) k = _
  rw [h]
  rfl
section
variable {α : Type} {e : α → AV} {sz : Nat} {ty : TypeId} {H : Heap} {v : AV} {l : List α} {bytes : Nat} {j : Nat} {ob : HObj}
def OutJ (j : Nat) (ob : HObj) (e : α → AV) (sz : Nat) (ty : TypeId) (H : Heap) (v : AV) (l : List α) : Prop :=
  H[j]? = some ob ∧ ((l = [] ∧ v = .nils) ∨ ∃ id ver, l ≠ [] ∧ v = .sl id ver 0 l.length l.length ∧ H[id]? = some (.row ver sz ty (l.map e)) ∧ id ≠ j)
theorem OutJ.nil (h : H[j]? = some ob) : OutJ j ob e sz ty H .nils [] := ⟨h, .inl ⟨rfl, rfl⟩⟩
theorem OutJ.push (h : OutJ j ob e sz ty H v l) (x : α) (hb : 0 < bytes) (hm : (l.length + 1) * bytes ≤ 140737488355328) :
    ∃ v' H', A.append sz bytes ty v [e x] (H ++ [.row 0 sz ty [e x]]) = some (v', H') ∧ OutJ j ob e sz ty H' v' (l ++ [x]) := by
  obtain ⟨hj, h⟩ := h
  have hjl : j < H.length := (List.getElem?_eq_some_iff.1 hj).1
  rcases h with ⟨rfl, rfl⟩ | ⟨id, ver, h0, rfl, h2, hne⟩
  · refine ⟨_, _, nil_append (news := [e x]) (by simp) hb (by simpa using hm), ?_, .inr ⟨_, 0, by simp, rfl, q0y, ?_⟩⟩
    · rw [List.getElem?_append_left (by simp; omega), List.getElem?_append_left hjl]
      exact hj
    · simp
      omega
  · have h3 := q3w h2 [.row 0 sz ty [e x]]
    refine ⟨_, _, q2j (news := [e x]) h3 (by simp) (by simp) hb (by simpa using hm), ?_, .inr ⟨id, ver + 1, by simp, by simp, ?_, hne⟩⟩
    · rw [List.getElem?_set_ne hne, List.getElem?_append_left hjl]
      exact hj
    · rw [q4p h3]
      simp
end
end Go.Den

/- DEN, part Zj: what the values of a type are. -/
namespace Go.Den
section
variable {P : Program} {n : Nat} {t e : TypeId} {v : AV} {k : IntKind}
theorem Ty.int (h : Ty P n t v) (ht : P.underlying t = some (.int k)) : ∃ i, v = .int k i ∧ k.min ≤ i ∧ i ≤ k.max := by
  cases n with
  | zero => cases h
  | succ n =>
    unfold Ty at h
    rw [ht] at h
    exact h
theorem Ty.bool (h : Ty P n t v) (ht : P.underlying t = some .bool) : ∃ b, v = .bool b := by
  cases n with
  | zero => cases h
  | succ n =>
    unfold Ty at h
    rw [ht] at h
    exact h
theorem Ty.str (h : Ty P n t v) (ht : P.underlying t = some .string) : ∃ l : List UInt8, v = .str l ∧ l.length ≤ maxLen := by
  cases n with
  | zero => cases h
  | succ n =>
    unfold Ty at h
    rw [ht] at h
    exact h
theorem Ty.slice (h : Ty P n t v) (ht : P.underlying t = some (.slice e)) : ∃ (m : Nat) (es : List AV), n = m + 1 ∧ Im (P.cellsOf e) v es ∧ es.length ≤ maxLen ∧ ∀ x ∈ es, Ty P m e x := by
  cases n with
  | zero => cases h
  | succ n =>
    unfold Ty at h
    rw [ht] at h
    rcases h with rfl | ⟨es, rfl, h1, h2⟩
    · exact ⟨n, [], rfl, .nil, by simp, by simp⟩
    · exact ⟨n, es, rfl, .sh es, h1, h2⟩
theorem Ty.struct (h : Ty P n t v) {fs : Array Field} (ht : P.underlying t = some (.struct fs)) : ∃ (m : Nat) (vs : List AV), n = m + 1 ∧ v = .agg (vs.flatMap AV.cells) ∧ vs.length = fs.size ∧
    ∀ (i : Nat) (f : Field) (x : AV), fs[i]? = some f → vs[i]? = some x → Ty P m f.type x ∧ x.cells.length = P.cellsOf f.type := by
  cases n with
  | zero => cases h
  | succ n =>
    unfold Ty at h
    rw [ht] at h
    obtain ⟨vs, h1, h2, h3⟩ := h
    exact ⟨n, vs, rfl, h1, h2, h3⟩
end
end Go.Den
