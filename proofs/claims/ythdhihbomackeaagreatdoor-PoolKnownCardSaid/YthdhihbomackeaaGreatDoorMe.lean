/- Texts put together: DenSa, DenSc, DenMa, DenSd, DenPv, DenZq. -/
import Derived.Test.YthdhihbomackeaaGreatDoorMd

/- DEN, part Sa: words in which a function's reading is written down: each is, by unfolding alone, what the reading does. -/
namespace Go.Den

section
variable {R : Type}

def bindH (h : Heap) (k : Heap → R) : R := k h
def bindV (v : AV) (k : AV → R) : R := k v
def bindC (c : List AV) (k : List AV → R) : R := k c

def withL (x : Option (List AV)) (k : List AV → Option R) : Option R :=
  match x with
  | some es => k es
  | none => none
def withH (x : Option Heap) (k : Heap → Option R) : Option R :=
  match x with
  | some H => k H
  | none => none
def withVH (x : Option (AV × Heap)) (k : AV → Heap → Option R) : Option R :=
  match x with
  | some (v, H) => k v H
  | none => none
def withP (x : Option (AV × Heap)) (k : AV → Heap → Option R) : Option R :=
  match x with
  | some p => k p.1 p.2
  | none => none
def withB (x : Option Bool) (k : Bool → Option R) : Option R :=
  match x with
  | some b => k b
  | none => none
def extractK (x : AV) (i : Nat) (k : AV → Option R) : Option R :=
  match x with
  | .tup vs => withV vs[i]? k
  | _ => none
def rangeK (x : AV) (H : Heap) (k : AV → Heap → Option R) : Option R :=
  match x with
  | .str l => k (.it H.length) (H ++ [.iter l 0])
  | _ => none
def nextK (x : AV) (H : Heap) (k : AV → Heap → Option R) : Option R :=
  match x with
  | .it id => match H[id]? with
    | some (.iter l pos) =>
      if pos < l.length then
        let d := Utf8.decode ⟨l.toArray⟩ pos
        k (.tup [.bool true, .int .i64 pos, .int .i32 d.1]) (H.set id (.iter l (pos + d.2)))
      else k (.tup [.bool false]) H
    | _ => none
  | _ => none
def assertK (x : AV) (t : TypeId) (z : Option AV) (k : AV → Option R) : Option R :=
  match x with
  | .iface d w => if d = t then k (.tup [w, .bool true]) else match z with
    | some z => k (.tup [z, .bool false])
    | none => none
  | _ => none
def assertOneK (x : AV) (t : TypeId) (k : AV → Option R) : Option R :=
  match x with
  | .iface d w => if d = t then k w else none
  | _ => none
/-- Where a pointer's element of an array of the frame's own lies. -/
def lpIdxK (i : AV) (n : Int) (k : Int → Option R) : Option R :=
  match i with
  | .int _ j => if 0 ≤ j ∧ j < n then k j else none
  | _ => none

/-- A guarded operation. -/
def guardB {α : Type} (b want : Bool) (x y : α) : α := bif b == want then x else y
/-- One of the ways in which a piece is left. -/
def altN (i j : Nat) (x y : Option R) : Option R := bif Nat.beq i j then x else y
/-- Only if. -/
def chkD (c : Bool) (x : Option R) : Option R := bif c then x else none

def sameV (x : Option SV) (v : AV) : Bool :=
  match x with
  | some (.val w) => AV.beq v w
  | _ => false
def actsB (x : Option Bool) (want : Bool) : Bool :=
  match x with
  | some b => b == want
  | none => true
end

def lookAnn : List (Nat × FAnn) → FuncId → FAnn
  | [], _ => {}
  | (g, a) :: r, f => bif Nat.beq f g then a else lookAnn r f

theorem lookAnn_none {f : FuncId} : ∀ {l : List (Nat × FAnn)}, f ∉ l.map (·.1) → (lookAnn l f).draws = []
  | [], _ => rfl
  | (g, a) :: r, h => by
    simp only [List.map_cons, List.mem_cons, not_or] at h
    unfold lookAnn
    have : Nat.beq f g = false := by
      cases hb : Nat.beq f g
      · rfl
      · exact absurd (Nat.eq_of_beq_eq_true hb) h.1
    rw [this]
    exact lookAnn_none h.2

/-- A piece of a piece. -/
def codeAt : Code → List Nat → Code
  | c, [] => c
  | .seq a b, i :: p => match i with
    | 0 => codeAt a p
    | _ => codeAt b p
  | .cond _ a b, i :: p => match i with
    | 0 => codeAt a p
    | _ => codeAt b p
  | .block _ c, _ :: p => codeAt c p
  | .loop c, _ :: p => codeAt c p
  | .scope c, _ :: p => codeAt c p
  | c, _ => c

def bodyAt (P : Program) (f : FuncId) (p : List Nat) : Code :=
  match P.funcs[f]? with
  | some fn => match fn.body with
    | some c => codeAt c p
    | none => .skip
  | none => .skip

/-- A loop, by its rounds. -/
def loopL (E : Env) (cf : CallFn) (n : Nat) (f : FuncId) (p : List Nat) (a : Ann) (kh kx : LK) (outs : List AExit) (N : Nat) : Nat → Live → Heap → Option (Nat × Live × Heap) :=
  iter fun l H rec => exec E cf n (E.ann f) (bodyAt E.P f p) a _ (St.ofLive kh N l) H (loopK kh rec (pairL kx outs))

end Go.Den

/- DEN, part Sc: how one reckons with functions written down in Den's words: 'from some number of steps on'; calls; loops; what the words come to. -/
namespace Go.Den

/-- From some number of steps on. -/
def Evs (P : Nat → Nat → Prop) : Prop := ∃ N, ∀ n m, N ≤ n → N ≤ m → P n m

theorem Evs.of {P : Nat → Nat → Prop} (h : ∀ n m, P n m) : Evs P := ⟨0, fun n m _ _ => h n m⟩
theorem Evs.and {P Q : Nat → Nat → Prop} (h : Evs P) (g : Evs Q) : Evs fun n m => P n m ∧ Q n m := by
  obtain ⟨N, h⟩ := h
  obtain ⟨M, g⟩ := g
  exact ⟨max N M, fun n m h1 h2 => ⟨h n m (by omega) (by omega), g n m (by omega) (by omega)⟩⟩
theorem Evs.mono {P Q : Nat → Nat → Prop} (h : Evs P) (g : ∀ n m, P n m → Q n m) : Evs Q := by
  obtain ⟨N, h⟩ := h
  exact ⟨N, fun n m h1 h2 => g n m (h n m h1 h2)⟩

/-- The call returns that value and leaves that small heap. -/
def Does (E : Env) (f : FuncId) (args : List AV) (H : Heap) (v : AV) (H' : Heap) : Prop :=
  ∃ N, ∀ n, N ≤ n → ∀ (R : Type) (k : AV → Heap → Option R), callF E n R f args H k = k v H'

theorem Does.intro {E : Env} {f : FuncId} {args : List AV} {H : Heap} {v : AV} {H' : Heap} (h : Evs fun n _ => callF E (n + 1) (AV × Heap) f args H (fun v H => some (v, H)) = some (v, H')) : Does E f args H v H' := by
  obtain ⟨N, h⟩ := h
  refine ⟨N + 1, fun n hn R k => ?_⟩
  obtain ⟨n, rfl⟩ : ∃ m, n = m + 1 := ⟨n - 1, by omega⟩
  rw [callF_nat (E := E) (n + 1) R f args H k, h n N (by omega) (Nat.le_refl _)]
  rfl

theorem Evs.call {E : Env} {R : Type} {g : FuncId} {args : List AV} {H : Heap} {v : AV} {H' : Heap} {k : Nat → Nat → AV → Heap → Option R} {r : Option R} (hg : Does E g args H v H') (h : Evs fun n m => k n m v H' = r) :
    Evs fun n m => callF E n R g args H (k n m) = r := by
  obtain ⟨N, hg⟩ := hg
  obtain ⟨M, h⟩ := h
  exact ⟨max N M, fun n m h1 h2 => (hg n (by omega) R (k n m)).trans (h n m (by omega) (by omega))⟩

/-- What a call does is at hand. -/
theorem Evs.with {E : Env} {g : FuncId} {args : List AV} {H : Heap} {v : AV} {H' : Heap} {P : Nat → Nat → Prop} (hg : Does E g args H v H') (h : Evs fun n m => (∀ (R : Type) (k : AV → Heap → Option R), callF E n R g args H k = k v H') → P n m) : Evs P := by
  obtain ⟨N, hg⟩ := hg
  obtain ⟨M, h⟩ := h
  exact ⟨max N M, fun n m h1 h2 => h n m (by omega) (by omega) (hg n (by omega))⟩

/-- A loop ends so. -/
def LDoes (L : Nat → Nat → Live → Heap → Option (Nat × Live × Heap)) (l : Live) (H : Heap) (i : Nat) (l' : Live) (H' : Heap) : Prop :=
  ∃ N, ∀ n m, N ≤ n → N ≤ m → L n m l H = some (i, l', H')

theorem LDoes.step {L : Nat → Nat → Live → Heap → Option (Nat × Live × Heap)} {l : Live} {H : Heap} {i : Nat} {l' : Live} {H' : Heap} (h : Evs fun n m => L n (m + 1) l H = some (i, l', H')) : LDoes L l H i l' H' := by
  obtain ⟨N, h⟩ := h
  refine ⟨N + 1, fun n m h1 h2 => ?_⟩
  obtain ⟨m, rfl⟩ : ∃ k, m = k + 1 := ⟨m - 1, by omega⟩
  exact h n m (by omega) (by omega)

theorem Evs.rec {L : Nat → Nat → Live → Heap → Option (Nat × Live × Heap)} {l : Live} {H : Heap} {i : Nat} {l' : Live} {H' : Heap} (h : LDoes L l H i l' H') : Evs fun n m => L n m l H = some (i, l', H') := h

theorem Evs.loop {L : Nat → Nat → Live → Heap → Option (Nat × Live × Heap)} {R : Type} {l : Live} {H : Heap} {i : Nat} {l' : Live} {H' : Heap} {k : Nat → Nat → Nat → Live → Heap → Option R} {r : Option R}
    (hl : LDoes L l H i l' H') (h : Evs fun n m => k n m i l' H' = r) : Evs fun n m => bindX (L n n l H) (k n m) = r := by
  obtain ⟨N, hl⟩ := hl
  obtain ⟨M, h⟩ := h
  exact ⟨max N M, fun n m h1 h2 => (congrArg (fun x => bindX x (k n m)) (hl n n (by omega) (by omega))).trans (h n m (by omega) (by omega))⟩

/-- What a loop does is at hand. -/
theorem Evs.withL {L : Nat → Nat → Live → Heap → Option (Nat × Live × Heap)} {l : Live} {H : Heap} {i : Nat} {l' : Live} {H' : Heap} {P : Nat → Nat → Prop} (hl : LDoes L l H i l' H') (h : Evs fun n m => L n n l H = some (i, l', H') → L n m l H = some (i, l', H') → P n m) : Evs P := by
  obtain ⟨N, hl⟩ := hl
  obtain ⟨M, h⟩ := h
  exact ⟨max N M, fun n m h1 h2 => h n m (by omega) (by omega) (hl n n (by omega) (by omega)) (hl n m (by omega) (by omega))⟩

section
variable {R : Type}
@[simp] theorem withV_of (v : AV) (k : AV → Option R) : withV (some v) k = k v := id rfl
@[congr] theorem withV_congr {x y : Option AV} {k : AV → Option R} (h : x = y) : withV x k = withV y k := by rw [h]
@[simp] theorem withL_some (v : List AV) (k : List AV → Option R) : withL (some v) k = k v := id rfl
@[congr] theorem withL_congr {x y : Option (List AV)} {k : List AV → Option R} (h : x = y) : withL x k = withL y k := by rw [h]
@[simp] theorem withH_some (v : Heap) (k : Heap → Option R) : withH (some v) k = k v := id rfl
@[congr] theorem withH_congr {x y : Option Heap} {k : Heap → Option R} (h : x = y) : withH x k = withH y k := by rw [h]
@[simp] theorem withVH_some (v : AV) (H : Heap) (k : AV → Heap → Option R) : withVH (some (v, H)) k = k v H := id rfl
@[congr] theorem withVH_congr {x y : Option (AV × Heap)} {k : AV → Heap → Option R} (h : x = y) : withVH x k = withVH y k := by rw [h]
@[simp] theorem withP_some (v : AV) (H : Heap) (k : AV → Heap → Option R) : withP (some (v, H)) k = k v H := id rfl
@[congr] theorem withP_congr {x y : Option (AV × Heap)} {k : AV → Heap → Option R} (h : x = y) : withP x k = withP y k := by rw [h]
@[simp] theorem withB_some (v : Bool) (k : Bool → Option R) : withB (some v) k = k v := id rfl
@[congr] theorem withB_congr {x y : Option Bool} {k : Bool → Option R} (h : x = y) : withB x k = withB y k := by rw [h]
@[simp] theorem bindX_some (i : Nat) (l : Live) (H : Heap) (k : Nat → Live → Heap → Option R) : bindX (some (i, l, H)) k = k i l H := id rfl
@[congr] theorem bindX_congr {x y : Option (Nat × Live × Heap)} {k : Nat → Live → Heap → Option R} (h : x = y) : bindX x k = bindX y k := by rw [h]
@[simp] theorem bindV_eq (v : AV) (k : AV → R) : bindV v k = k v := id rfl
@[simp] theorem bindH_eq (v : Heap) (k : Heap → R) : bindH v k = k v := id rfl
@[simp] theorem bindC_eq (v : List AV) (k : List AV → R) : bindC v k = k v := id rfl
@[congr] theorem bindV_congr {x y : AV} {k : AV → R} (h : x = y) : bindV x k = bindV y k := by rw [h]
@[congr] theorem bindH_congr {x y : Heap} {k : Heap → R} (h : x = y) : bindH x k = bindH y k := by rw [h]
@[congr] theorem bindC_congr {x y : List AV} {k : List AV → R} (h : x = y) : bindC x k = bindC y k := by rw [h]
@[congr] theorem callF_congr {E : Env} {n : Nat} {g : FuncId} {a b : List AV} {H G : Heap} {k : AV → Heap → Option R} (h : a = b) (h2 : H = G) : callF E n R g a H k = callF E n R g b G k := by rw [h, h2]
@[simp] theorem test_bool (b : Bool) (x y : Option R) : A.test (.bool b) x y = if b = true then x else y := by cases b <;> rfl
@[simp] theorem asG_bool (w b : Bool) : A.asG w (.bool b) = some b := id rfl
@[simp] theorem asG_skip (w : Bool) : A.asG w (.tup []) = some (!w) := id rfl
@[simp] theorem guardB_tt {α : Type} (x y : α) : guardB true true x y = x := id rfl
@[simp] theorem guardB_ff {α : Type} (x y : α) : guardB false false x y = x := id rfl
@[simp] theorem guardB_tf {α : Type} (x y : α) : guardB true false x y = y := id rfl
@[simp] theorem guardB_ft {α : Type} (x y : α) : guardB false true x y = y := id rfl
@[congr] theorem guardB_congr {α : Type} {b c w : Bool} {x y : α} (h : b = c) : guardB b w x y = guardB c w x y := by rw [h]
@[simp] theorem altN_same (i : Nat) (x y : Option R) : altN i i x y = x := by simp [altN]
@[simp] theorem altN_01 (x y : Option R) : altN 0 1 x y = y := id rfl
@[simp] theorem altN_10 (x y : Option R) : altN 1 0 x y = y := id rfl
@[simp] theorem altN_20 (x y : Option R) : altN 2 0 x y = y := id rfl
@[simp] theorem altN_21 (x y : Option R) : altN 2 1 x y = y := id rfl
@[simp] theorem altN_30 (x y : Option R) : altN 3 0 x y = y := id rfl
@[simp] theorem altN_31 (x y : Option R) : altN 3 1 x y = y := id rfl
@[simp] theorem altN_32 (x y : Option R) : altN 3 2 x y = y := id rfl
@[congr] theorem altN_congr {i j k : Nat} {x y : Option R} (h : i = k) : altN i j x y = altN k j x y := by rw [h]
@[simp] theorem chkD_true (x : Option R) : chkD true x = x := id rfl
@[congr] theorem chkD_congr {b c : Bool} {x : Option R} (h : b = c) : chkD b x = chkD c x := by rw [h]
@[congr] theorem test_congr {v w : AV} {x y : Option R} (h : v = w) : A.test v x y = A.test w x y := by rw [h]
@[simp] theorem cond_dec (p : Prop) [Decidable p] (x y : R) : (bif decide p then x else y) = if p then x else y := by
  by_cases h : p <;> simp [h]
@[simp] theorem asB_bool (b : Bool) : A.asB (.bool b) = some b := id rfl
@[simp] theorem extractK_tup (vs : List AV) (i : Nat) (k : AV → Option R) : extractK (.tup vs) i k = withV vs[i]? k := id rfl
@[congr] theorem extractK_congr {v w : AV} {i : Nat} {k : AV → Option R} (h : v = w) : extractK v i k = extractK w i k := by rw [h]
end

namespace A
variable {P : Program} {t : TypeId} {c : Bool} {H : Heap} {k : IntKind} {a b : Int}
@[simp] theorem bin_add : A.bin P .add t (.int k a) (.int k b) c H = some (.int k (k.wrap (a + b))) := by simp [A.bin, A.binInt]
@[simp] theorem bin_sub : A.bin P .sub t (.int k a) (.int k b) c H = some (.int k (k.wrap (a - b))) := by simp [A.bin, A.binInt]
@[simp] theorem bin_mul : A.bin P .mul t (.int k a) (.int k b) c H = some (.int k (k.wrap (a * b))) := by simp [A.bin, A.binInt]
@[simp] theorem bin_quo : A.bin P .quo t (.int k a) (.int k b) c H = if b = 0 then none else some (.int k (k.wrap (a.tdiv b))) := by simp [A.bin, A.binInt]
@[simp] theorem bin_rem : A.bin P .rem t (.int k a) (.int k b) c H = if b = 0 then none else some (.int k (a.tmod b)) := by simp [A.bin, A.binInt]
@[simp] theorem bin_eql : A.bin P .eql t (.int k a) (.int k b) c H = some (.bool (decide (a = b))) := by
  simp only [A.bin, A.binInt]
  by_cases h : a = b <;> simp [h]
@[simp] theorem bin_neq : A.bin P .neq t (.int k a) (.int k b) c H = some (.bool (decide (a ≠ b))) := by
  simp only [A.bin, A.binInt]
  by_cases h : a = b <;> simp [h]
@[simp] theorem bin_lss : A.bin P .lss t (.int k a) (.int k b) c H = some (.bool (decide (a < b))) := by simp [A.bin, A.binInt]
@[simp] theorem bin_leq : A.bin P .leq t (.int k a) (.int k b) c H = some (.bool (decide (a ≤ b))) := by simp [A.bin, A.binInt]
@[simp] theorem bin_gtr : A.bin P .gtr t (.int k a) (.int k b) c H = some (.bool (decide (a > b))) := by simp [A.bin, A.binInt]
@[simp] theorem bin_geq : A.bin P .geq t (.int k a) (.int k b) c H = some (.bool (decide (a ≥ b))) := by simp [A.bin, A.binInt]
theorem bin_beq (ht : P.underlying t = some .bool) (x y : Bool) : A.bin P .eql t (.bool x) (.bool y) c H = some (.bool (x == y)) := by simp [A.bin, ht]
theorem bin_bne (ht : P.underlying t = some .bool) (x y : Bool) : A.bin P .neq t (.bool x) (.bool y) c H = some (.bool !(x == y)) := by simp [A.bin, ht]
@[simp] theorem un_not (x : Bool) : A.un .not (.bool x) = some (.bool !x) := id rfl
@[simp] theorem pick_bool (x : Bool) (v w : AV) : A.pick (.bool x) v w = some (bif x then v else w) := id rfl
@[simp] theorem maxv_int : A.maxv (.int k a) (.int k b) = some (.int k (if b > a then b else a)) := by simp [A.maxv]
@[simp] theorem minv_int : A.minv (.int k a) (.int k b) = some (.int k (if b < a then b else a)) := by simp [A.minv]
end A

theorem wrap_id {k : IntKind} {x : Int} (h1 : k.min ≤ x) (h2 : x ≤ k.max) : k.wrap x = x := by
  cases k <;> simp [IntKind.wrap, IntKind.bits, IntKind.signed, IntKind.min, IntKind.max] at h1 h2 ⊢ <;> omega
theorem wrap_i64 {x : Int} (h1 : -9223372036854775808 ≤ x) (h2 : x ≤ 9223372036854775807) : IntKind.wrap .i64 x = x := wrap_id h1 h2
theorem wrap_i32 {x : Int} (h1 : -2147483648 ≤ x) (h2 : x ≤ 2147483647) : IntKind.wrap .i32 x = x := wrap_id h1 h2
theorem wrap_u8 {x : Int} (h1 : 0 ≤ x) (h2 : x ≤ 255) : IntKind.wrap .u8 x = x := wrap_id h1 h2
theorem wrap_u16 {x : Int} (h1 : 0 ≤ x) (h2 : x ≤ 65535) : IntKind.wrap .u16 x = x := wrap_id h1 h2
theorem wrap_u32 {x : Int} (h1 : 0 ≤ x) (h2 : x ≤ 4294967295) : IntKind.wrap .u32 x = x := wrap_id h1 h2
theorem wrap_u64 {x : Int} (h1 : 0 ≤ x) (h2 : x ≤ 18446744073709551615) : IntKind.wrap .u64 x = x := wrap_id h1 h2

section
variable {H : Heap}
@[simp] theorem A.load_rop (ag : Bool) (sz : Nat) (cs : List AV) : A.load ag sz (.rop cs) H = A.ofList ag sz cs 0 := id rfl
@[simp] theorem A.ofList_one (sz : Nat) (cs : List AV) (off : Nat) : A.ofList false sz cs off = cs[off]? := id rfl
theorem A.ofList_agg {sz : Nat} {cs : List AV} {off : Nat} (h : off + sz ≤ cs.length) : A.ofList true sz cs off = some (.agg ((cs.drop off).take sz)) := by
  simp [A.ofList, h]
@[simp] theorem A.fa_rop (off : Nat) (cs : List AV) : A.fa off (.rop cs) H = some (.rop (cs.drop off)) := id rfl
@[simp] theorem nilC_rop {P : Program} (cs : List AV) : nilC P (.rop cs) H = some (.rop cs) := id rfl
@[simp] theorem nilC_ptr {P : Program} (id ver i o : Nat) : nilC P (.ptr id ver i o) H = A.nilCheck (.ptr id ver i o) H := _root_.id rfl
@[simp] theorem nilC_fn {P : Program} (f : FuncId) (a b : List AV) : nilC P (.fn (.func f) a b) H = some (.fn (.func f) a b) := id rfl
@[simp] theorem A.nilCheck_rop (cs : List AV) : A.nilCheck (.rop cs) H = some (.rop cs) := id rfl
@[simp] theorem A.field_agg (ag : Bool) (sz off : Nat) (cs : List AV) : A.field ag sz off (.agg cs) = A.ofList ag sz cs off := id rfl
@[simp] theorem AV.cells_int (k : IntKind) (n : Int) : (AV.int k n).cells = [.int k n] := id rfl
@[simp] theorem AV.cells_bool (b : Bool) : (AV.bool b).cells = [.bool b] := id rfl
@[simp] theorem AV.cells_str (s : List UInt8) : (AV.str s).cells = [.str s] := id rfl
@[simp] theorem AV.cells_agg (cs : List AV) : (AV.agg cs).cells = cs := id rfl
@[simp] theorem AV.cells_sh (z : Nat) (cs : List AV) : (AV.sh z cs).cells = [.sh z cs] := id rfl
@[simp] theorem AV.cells_nils : AV.nils.cells = [.nils] := id rfl
@[simp] theorem AV.isDef_int (k : IntKind) (n : Int) : (AV.int k n).isDef = true := id rfl
@[simp] theorem AV.isDef_bool (b : Bool) : (AV.bool b).isDef = true := id rfl
@[simp] theorem AV.isDef_str (s : List UInt8) : (AV.str s).isDef = true := id rfl
@[simp] theorem AV.isDef_agg (cs : List AV) : (AV.agg cs).isDef = true := id rfl
@[simp] theorem AV.isDef_sh (z : Nat) (cs : List AV) : (AV.sh z cs).isDef = true := id rfl
@[simp] theorem AV.isDef_nils : AV.nils.isDef = true := id rfl
@[simp] theorem AV.heapy_int (k : IntKind) (n : Int) : (AV.int k n).heapy = false := id rfl
@[simp] theorem AV.heapy_bool (b : Bool) : (AV.bool b).heapy = false := id rfl
@[simp] theorem AV.heapy_str (s : List UInt8) : (AV.str s).heapy = false := id rfl
@[simp] theorem AV.heapy_agg (cs : List AV) : (AV.agg cs).heapy = !(cs.all AV.leaf) := id rfl
@[simp] theorem AV.heapy_sh (z : Nat) (cs : List AV) : (AV.sh z cs).heapy = false := id rfl
@[simp] theorem AV.heapy_rop (cs : List AV) : (AV.rop cs).heapy = false := id rfl
@[simp] theorem AV.heapy_nils : AV.nils.heapy = false := id rfl
@[simp] theorem AV.heapy_ptr (a b c d : Nat) : (AV.ptr a b c d).heapy = true := id rfl
@[simp] theorem AV.heapy_sl (a b c d e : Nat) : (AV.sl a b c d e).heapy = true := id rfl
@[simp] theorem AV.leaf_int {k : IntKind} {n : Int} : (AV.int k n).leaf = true := id rfl
@[simp] theorem AV.leaf_bool {b : Bool} : (AV.bool b).leaf = true := id rfl
@[simp] theorem AV.leaf_str {s : List UInt8} : (AV.str s).leaf = true := id rfl
@[simp] theorem AV.leaf_nilp : (AV.nilp).leaf = true := id rfl
@[simp] theorem AV.leaf_nils : (AV.nils).leaf = true := id rfl
@[simp] theorem AV.leaf_nilf : (AV.nilf).leaf = true := id rfl
@[simp] theorem AV.leaf_nili : (AV.nili).leaf = true := id rfl
@[simp] theorem AV.leaf_nilm : (AV.nilm).leaf = true := id rfl
@[simp] theorem AV.leaf_rop {cs : List AV} : (AV.rop cs).leaf = true := id rfl
@[simp] theorem AV.leaf_sh {z : Nat} {cs : List AV} : (AV.sh z cs).leaf = true := id rfl
@[simp] theorem AV.leaf_ptr {a b c d : Nat} : (AV.ptr a b c d).leaf = false := id rfl
@[simp] theorem AV.leaf_sl {a b c d e : Nat} : (AV.sl a b c d e).leaf = false := id rfl
@[simp] theorem AV.leaf_agg {cs : List AV} : (AV.agg cs).leaf = false := id rfl
@[simp] theorem AV.leaf_tup {cs : List AV} : (AV.tup cs).leaf = false := id rfl
@[simp] theorem AV.imm_int {k : IntKind} {n : Int} : (AV.int k n).imm = true := id rfl
@[simp] theorem AV.imm_bool {b : Bool} : (AV.bool b).imm = true := id rfl
@[simp] theorem AV.imm_str {s : List UInt8} : (AV.str s).imm = true := id rfl
@[simp] theorem AV.imm_nilp : (AV.nilp).imm = true := id rfl
@[simp] theorem AV.imm_nils : (AV.nils).imm = true := id rfl
@[simp] theorem AV.imm_nilf : (AV.nilf).imm = true := id rfl
@[simp] theorem AV.imm_nili : (AV.nili).imm = true := id rfl
@[simp] theorem AV.imm_nilm : (AV.nilm).imm = true := id rfl
@[simp] theorem AV.imm_rop {cs : List AV} : (AV.rop cs).imm = true := id rfl
@[simp] theorem AV.imm_sh {z : Nat} {cs : List AV} : (AV.sh z cs).imm = true := id rfl
@[simp] theorem AV.imm_ptr {a b c d : Nat} : (AV.ptr a b c d).imm = false := id rfl
@[simp] theorem AV.imm_sl {a b c d e : Nat} : (AV.sl a b c d e).imm = false := id rfl
@[simp] theorem AV.imm_agg {cs : List AV} : (AV.agg cs).imm = cs.all AV.leaf := id rfl
@[simp] theorem AV.imm_tup {cs : List AV} : (AV.tup cs).imm = cs.all AV.imm1 := id rfl
@[simp] theorem AV.imm1_int {k : IntKind} {n : Int} : (AV.int k n).imm1 = true := id rfl
@[simp] theorem AV.imm1_bool {b : Bool} : (AV.bool b).imm1 = true := id rfl
@[simp] theorem AV.imm1_str {s : List UInt8} : (AV.str s).imm1 = true := id rfl
@[simp] theorem AV.imm1_nilp : (AV.nilp).imm1 = true := id rfl
@[simp] theorem AV.imm1_nils : (AV.nils).imm1 = true := id rfl
@[simp] theorem AV.imm1_nilf : (AV.nilf).imm1 = true := id rfl
@[simp] theorem AV.imm1_nili : (AV.nili).imm1 = true := id rfl
@[simp] theorem AV.imm1_nilm : (AV.nilm).imm1 = true := id rfl
@[simp] theorem AV.imm1_rop {cs : List AV} : (AV.rop cs).imm1 = true := id rfl
@[simp] theorem AV.imm1_sh {z : Nat} {cs : List AV} : (AV.sh z cs).imm1 = true := id rfl
@[simp] theorem AV.imm1_ptr {a b c d : Nat} : (AV.ptr a b c d).imm1 = false := id rfl
@[simp] theorem AV.imm1_sl {a b c d e : Nat} : (AV.sl a b c d e).imm1 = false := id rfl
@[simp] theorem AV.imm1_agg {cs : List AV} : (AV.agg cs).imm1 = cs.all AV.leaf := id rfl
@[simp] theorem AV.imm1_tup {cs : List AV} : (AV.tup cs).imm1 = cs.all AV.leaf := id rfl
@[simp] theorem sameV_some (v w : AV) : sameV (some (.val w)) v = AV.beq v w := id rfl
@[simp] theorem actsB_some (b want : Bool) : actsB (some b) want = (b == want) := id rfl

mutual
theorem AV.beq_refl : ∀ v : AV, AV.beq v v = true
  | .undef | .nilp | .nils | .nilf | .nili | .nilm => rfl
  | .bool b => by simp [AV.beq]
  | .int k n => by simp [AV.beq]
  | .str s => by simp [AV.beq]
  | .ptr a b c d => by simp [AV.beq]
  | .sl a b c d e => by simp [AV.beq]
  | .rop cs => by simp [AV.beq, AV.beqs_refl cs]
  | .sh z cs => by simp [AV.beq, AV.beqs_refl cs]
  | .agg cs => by simp [AV.beq, AV.beqs_refl cs]
  | .tup cs => by simp [AV.beq, AV.beqs_refl cs]
  | .fn f a b => by simp [AV.beq, AV.beqs_refl a, AV.beqs_refl b]
  | .iface t v => by simp [AV.beq, AV.beq_refl v]
  | .mp a => by simp [AV.beq]
  | .it a => by simp [AV.beq]
  | .yl a => by simp [AV.beq]
theorem AV.beqs_refl : ∀ vs : List AV, AV.beqs vs vs = true
  | [] => rfl
  | v :: vs => by simp [AV.beqs, AV.beq_refl v, AV.beqs_refl vs]
end
attribute [simp] AV.beq_refl
end

/-- What stands at a place of the small heap, behind a step. -/
theorem get_set_same {H : Heap} {b : Nat} {x y : HObj} (h : H[b]? = some y) : (H.set b x)[b]? = some x := by
  obtain ⟨hb, _⟩ := List.getElem?_eq_some_iff.1 h
  simp [hb]
theorem get_set_ne {H : Heap} {b c : Nat} {x : HObj} (h : b ≠ c) : (H.set b x)[c]? = H[c]? := by
  rw [List.getElem?_set_ne h]
theorem get_app {H : Heap} {c : Nat} {y : HObj} {l : Heap} (h : H[c]? = some y) : (H ++ l)[c]? = some y := by
  obtain ⟨hb, _⟩ := List.getElem?_eq_some_iff.1 h
  rw [List.getElem?_append_left hb, h]
theorem get_new {H : Heap} {x : HObj} : (H ++ [x])[H.length]? = some x := by simp
theorem lt_of_get {H : Heap} {b : Nat} {y : HObj} (h : H[b]? = some y) : b < H.length := (List.getElem?_eq_some_iff.1 h).1

end Go.Den

/- DEN, part Ma: more steps change no answer. -/
namespace Go.Den

def Le {R : Type} (x y : Option R) : Prop := ∀ r, x = some r → y = some r

theorem Le.refl {R : Type} (x : Option R) : Le x x := fun _ h => h
theorem Le.none {R : Type} {y : Option R} : Le Option.none y := fun _ h => by cases h

/-- The second calls answer where the first do. -/
def CLe (cf cg : CallFn) : Prop :=
  ∀ (R : Type) (f : FuncId) (args : List AV) (H : Heap) (k g : AV → Heap → Option R), (∀ v G, Le (k v G) (g v G)) → Le (cf R f args H k) (cg R f args H g)

section
variable {E : Env} {cf cg : CallFn} {R : Type}

theorem withV_le {x : Option AV} {k g : AV → Option R} (h : ∀ v, Le (k v) (g v)) : Le (withV x k) (withV x g) := by
  cases x
  · exact Le.none
  · exact h _
theorem bif_le {c : Bool} {a b a' b' : Option R} (h1 : Le a a') (h2 : Le b b') : Le (bif c then a else b) (bif c then a' else b') := by
  cases c
  · exact h2
  · exact h1

theorem callK_le (hc : CLe cf cg) (f : FuncId) (args : List AV) (H : Heap) {k g : AV → Heap → Option R} (hk : ∀ v G, Le (k v G) (g v G)) : Le (callK E cf f args H k) (callK E cg f args H g) := by
  unfold callK
  split
  · exact bif_le (hc _ _ _ _ _ _ hk) Le.none
  · split
    · exact hk _ _
    · exact Le.refl _
  · split
    · exact hk _ _
    · exact Le.refl _

theorem callQ_le (f : FuncId) (args : List AV) (H : Heap) {k g : AV → Heap → Option R} (hk : ∀ v G, Le (k v G) (g v G)) : Le (callQ E f args H k) (callQ E f args H g) := by
  unfold callQ
  split
  · refine bif_le ?_ Le.none
    split
    · exact hk _ _
    · exact Le.none
  · exact Le.none

theorem callV_le (hc : CLe cf cg) (f : AV) (args : List AV) (H : Heap) {k g : AV → Heap → Option R} (hk : ∀ v G, Le (k v G) (g v G)) : Le (callV E cf f args H k) (callV E cg f args H g) := by
  unfold callV
  split
  · exact callK_le hc _ _ _ hk
  · exact hc _ _ _ _ _ _ hk
  · exact Le.none

theorem builtinK_le (b : Builtin) (ts : List TypeId) (args : List AV) (H : Heap) {k g : AV → Heap → Option R} (hk : ∀ v G, Le (k v G) (g v G)) : Le (builtinK E b ts args H k) (builtinK E b ts args H g) := by
  unfold builtinK
  repeat' (first | exact Le.none | exact hk _ _ | exact withV_le fun v => hk _ _ | apply bif_le | split)

theorem convertK_le (src dst : TypeId) (x : AV) (H : Heap) {k g : AV → Heap → Option R} (hk : ∀ v G, Le (k v G) (g v G)) : Le (convertK E src dst x H k) (convertK E src dst x H g) := by
  unfold convertK
  split
  · exact hk _ _
  · split
    · exact hk _ _
    · split
      · exact hk _ _
      · exact Le.none

theorem layK_le (s : Nat) (cs : List AV) (st : St) (H : Heap) {k g : SV → St → Heap → Option R} (hk : ∀ v s G, Le (k v s G) (g v s G)) : Le (layK s cs st H k) (layK s cs st H g) := by
  unfold layK
  repeat' (first | exact Le.none | exact hk _ _ _ | split)

theorem opK_le (hc : CLe cf cg) (site : Option Nat) (o : Oper) (st : St) (H : Heap) {k g : SV → St → Heap → Option R} (hk : ∀ v s G, Le (k v s G) (g v s G)) : Le (opK E cf site o st H k) (opK E cg site o st H g) := by
  unfold opK
  generalize ho : o.op = op
  cases op <;> dsimp only
  all_goals repeat' (first | (exfalso; contradiction) | split | (with_reducible exact hk _ _ _) | (with_reducible exact Le.none) | (with_reducible apply bif_le) | (with_reducible exact withV_le fun v => hk _ _ _) | (with_reducible refine layK_le _ _ _ _ hk) | (with_reducible refine convertK_le _ _ _ _ ?_; intro v G; exact hk _ _ _))
  case h_1 => exact callV_le hc _ _ _ fun v G => hk _ _ _
  case h_2 => exact builtinK_le _ _ _ _ fun v G => hk _ _ _
  all_goals first | exact callK_le hc _ _ _ fun v G => hk _ _ _ | exact callQ_le _ _ _ fun v G => hk _ _ _

theorem guardedK_le (hc : CLe cf cg) (o : Oper) (st : St) (H : Heap) : Le (guardedK E cf o st H) (guardedK E cg o st H) := by
  unfold guardedK
  exact bif_le (opK_le hc _ _ _ _ fun v s G => Le.refl _) Le.none

theorem guarded_le {b want : Bool} {H : Heap} {x y : Option (AV × Heap)} (h : Le x y) : Le (guarded b want H x) (guarded b want H y) := by
  unfold guarded
  exact bif_le h (Le.refl _)

theorem opsK_le (hc : CLe cf cg) (sites : List (Nat × Nat × Nat)) (rid : Nat) (ops : Array Oper) : ∀ (l : List Oper) (i : Nat) (st : St) (H : Heap) {k g : St → Heap → Option R} (_ : ∀ s G, Le (k s G) (g s G)),
    Le (opsK E cf sites rid ops l i st H k) (opsK E cg sites rid ops l i st H g) := by
  intro l
  induction l with
  | nil => intro i st H k g hk; exact hk _ _
  | cons o l ih =>
    intro i st H k g hk
    unfold opsK
    split
    · exact opK_le hc _ _ _ _ fun x s G => ih _ _ _ hk
    · split
      · rename_i j want hg b hb
        intro r h
        split at h
        · rename_i p hp
          rw [guarded_le (guardedK_le hc o st H) p hp]
          exact ih _ _ _ hk r h
        · cases h
      · exact Le.none

theorem opsD_le (hc : CLe cf cg) (sites : List (Nat × Nat × Nat)) (d : DInfo) (rid : Nat) (ops : Array Oper) (H0 : Heap) : ∀ (l : List Oper) (i : Nat) (tr : List Rec) (st : St) (H : Heap) {k g : St → Heap → Option R} (_ : ∀ s G, Le (k s G) (g s G)),
    Le (opsD E cf sites d rid ops H0 l i tr st H k) (opsD E cg sites d rid ops H0 l i tr st H g) := by
  intro l
  induction l with
  | nil => intro i tr st H k g hk; exact bif_le (hk _ _) Le.none
  | cons o l ih =>
    intro i tr st H k g hk
    unfold opsD
    split
    · exact opK_le hc _ _ _ _ fun x s G => ih _ _ _ _ hk
    · split
      · rename_i j want hg b hb
        intro r h
        split at h
        · rename_i p hp
          rw [guarded_le (guardedK_le hc o st H) p hp]
          exact ih _ _ _ _ hk r h
        · cases h
      · exact Le.none

theorem test_le {v : AV} {a b a' b' : Option R} (h1 : Le a a') (h2 : Le b b') : Le (A.test v a b) (A.test v a' b') := by
  unfold A.test
  split
  · exact bif_le h1 h2
  · exact Le.none

theorem iter_le {σ : Type} {G G' : σ → Heap → (σ → Heap → Option R) → Option R} (hg : ∀ st H r r', (∀ s H, Le (r s H) (r' s H)) → Le (G st H r) (G' st H r')) : ∀ (m m' : Nat), m ≤ m' → ∀ (st : σ) (H : Heap), Le (iter G m st H) (iter G' m' st H)
  | 0, _, _, _, _ => Le.none
  | m + 1, 0, h, _, _ => by omega
  | m + 1, m' + 1, h, st, H => hg st H _ _ (iter_le hg m m' (by omega))

def FLe (F F' : (S : Type) → (AExit → St → Heap → Option S) → Option S) : Prop :=
  ∀ {R : Type} {k g : AExit → St → Heap → Option R}, (∀ e s G, Le (k e s G) (g e s G)) → Le (F R k) (F' R g)

theorem pickK_le {k g : AExit → Option R} (hk : ∀ e, Le (k e) (g e)) (i : Nat) : ∀ (outs : List AExit) (j : Nat), Le (pickK k i outs j) (pickK g i outs j)
  | [], _ => Le.none
  | x :: r, j => bif_le (hk x) (pickK_le hk i r (j + 1))

theorem bar_le {F F' : (S : Type) → (AExit → St → Heap → Option S) → Option S} (hF : FLe F F') {an : Ann} {N : Nat} {k g : AExit → St → Heap → Option R} (hk : ∀ e s G, Le (k e s G) (g e s G)) : Le (bar an N F k) (bar an N F' g) := by
  unfold bar
  split
  · rename_i kp outs a
    have := hF (k := pairL kp outs) (g := pairL kp outs) fun e s G => Le.refl _
    intro r h
    unfold bindX at h
    split at h
    · rename_i i l H hx
      rw [this _ hx]
      exact pickK_le (fun e => hk _ _ _) _ _ _ r h
    · cases h
  · exact hF hk

theorem loopK_le {kh : LK} {r r' : Live → Heap → Option R} (hr : ∀ s G, Le (r s G) (r' s G)) {k g : AExit → St → Heap → Option R} (hk : ∀ e s G, Le (k e s G) (g e s G)) (e : AExit) (s : St) (G : Heap) : Le (loopK kh r k e s G) (loopK kh r' g e s G) := by
  unfold loopK
  cases e with
  | normal =>
    dsimp only
    split
    · exact hr _ _
    · exact Le.none
  | exit _ => exact hk _ _ _
  | ret => exact hk _ _ _
theorem loopS_le {r r' : St → Heap → Option R} (hr : ∀ s G, Le (r s G) (r' s G)) {k g : AExit → St → Heap → Option R} (hk : ∀ e s G, Le (k e s G) (g e s G)) (e : AExit) (s : St) (G : Heap) : Le (loopS r k e s G) (loopS r' g e s G) := by
  cases e with
  | normal => exact hr _ _
  | exit _ => exact hk _ _ _
  | ret => exact hk _ _ _
theorem seqK_le {r r' : St → Heap → Option R} (hr : ∀ s G, Le (r s G) (r' s G)) {k g : AExit → St → Heap → Option R} (hk : ∀ e s G, Le (k e s G) (g e s G)) (e : AExit) (s : St) (G : Heap) : Le (seqK r k e s G) (seqK r' g e s G) := by
  cases e with
  | normal => exact hr _ _
  | exit _ => exact hk _ _ _
  | ret => exact hk _ _ _
theorem blockK_le {id : Nat} {k g : AExit → St → Heap → Option R} (hk : ∀ e s G, Le (k e s G) (g e s G)) (e : AExit) (s : St) (G : Heap) : Le (blockK id k e s G) (blockK id g e s G) := by
  cases e with
  | normal => exact hk _ _ _
  | exit _ => exact bif_le (hk _ _ _) (hk _ _ _)
  | ret => exact hk _ _ _

theorem exec_le (hc : CLe cf cg) {n n' : Nat} (hn : n ≤ n') (fa : FAnn) : ∀ (c : Code) (an : Ann) (R : Type) (st : St) (H : Heap) {k g : AExit → St → Heap → Option R} (_ : ∀ e s G, Le (k e s G) (g e s G)),
    Le (exec E cf n fa c an R st H k) (exec E cg n' fa c an R st H g) := by
  intro c
  induction c with
  | skip => intro an R st H k g hk; exact hk _ _ _
  | label _ => intro an R st H k g hk; exact hk _ _ _
  | exit _ => intro an R st H k g hk; exact hk _ _ _
  | ret => intro an R st H k g hk; exact hk _ _ _
  | region rid ops draw =>
    intro an R st H k g hk
    unfold exec
    refine bif_le ?_ ?_
    · split
      · exact opsD_le hc _ _ _ _ _ _ _ _ _ _ fun s G => hk _ _ _
      · exact Le.none
    · exact opsK_le hc _ _ _ _ _ _ _ fun s G => hk _ _ _
  | seq a b iha ihb =>
    intro an R st H k g hk
    unfold exec
    refine bar_le (fun hk => ?_) hk
    exact iha _ _ _ _ fun e s G => seqK_le (fun s G => ihb _ _ _ _ hk) hk _ _ _
  | cond c x y ihx ihy =>
    intro an R st H k g hk
    unfold exec
    split
    · refine bar_le (fun hk => ?_) hk
      exact test_le (ihx _ _ _ _ hk) (ihy _ _ _ _ hk)
    · exact Le.none
  | block id c ih =>
    intro an R st H k g hk
    unfold exec
    refine bar_le (fun hk => ?_) hk
    exact ih _ _ _ _ fun e s G => blockK_le hk _ _ _
  | loop c ih =>
    intro an R st H k g hk
    unfold exec
    split
    · split
      · refine bar_le (fun hk => ?_) hk
        refine iter_le ?_ _ _ hn _ _
        intro l H r r' hr
        exact ih _ _ _ _ fun e s G => loopK_le hr hk e s G
      · exact Le.none
    · refine bar_le (fun hk => ?_) hk
      refine iter_le ?_ _ _ hn _ _
      intro l H r r' hr
      exact ih _ _ _ _ fun e s G => loopS_le hr hk e s G
  | scope c ih =>
    intro an R st H k g hk
    unfold exec
    refine bar_le (fun hk => ?_) hk
    exact ih _ _ _ _ hk
  | rangeFunc gf ps assign body _ _ =>
    intro an R st H k g hk
    unfold exec
    refine bif_le ?_ Le.none
    split
    · refine bif_le Le.none ?_
      refine callK_le hc _ _ _ fun v G => ?_
      split
      · refine bif_le Le.none ?_
        split
        · exact hk _ _ _
        · exact hk _ _ _
      · exact Le.none
    · exact Le.none
  | goto _ => intro an R st H k g hk; exact Le.none
  | refuse _ => intro an R st H k g hk; exact Le.none

theorem resultVars_le {st : St} {H : Heap} : ∀ (rs : List ResultVar) (acc : List AV) {k g : List AV → Option R} (_ : ∀ vs, Le (k vs) (g vs)), Le (resultVars E st H rs acc k) (resultVars E st H rs acc g)
  | [], _, _, _, hk => hk _
  | r :: rs, acc, k, g, hk => by
    unfold resultVars
    split
    · exact resultVars_le rs _ hk
    · exact Le.none

theorem roundK_le {id : Nat} {k g : AV → Heap → Option R} (hk : ∀ v G, Le (k v G) (g v G)) (e : AExit) (H : Heap) : Le (roundK id k e H) (roundK id g e H) := by
  unfold roundK
  split
  · refine bif_le ?_ Le.none
    split
    · exact hk _ _
    · exact hk _ _
  · exact Le.none

theorem runRound_le (hc : CLe cf cg) {n n' : Nat} (hn : n ≤ n') (id : Nat) (args : List AV) (H : Heap) {k g : AV → Heap → Option R} (hk : ∀ v G, Le (k v G) (g v G)) : Le (runRound E cf n id args H k) (runRound E cg n' id args H g) := by
  unfold runRound
  split
  · refine bif_le ?_ Le.none
    refine exec_le hc hn _ _ _ _ _ _ fun e s G => ?_
    split
    · split
      · refine bif_le ?_ Le.none
        exact exec_le hc hn _ _ _ _ _ _ fun e s G => roundK_le hk e G
      · exact Le.none
    · exact Le.none
  · exact Le.none

theorem callF_le : ∀ {n n' : Nat}, n ≤ n' → CLe (callF E n) (callF E n')
  | 0, _, _ => fun _ _ _ _ _ _ _ => Le.none
  | n + 1, 0, h => by omega
  | n + 1, n' + 1, h => fun R f args H k g hk => by
    unfold callF
    refine bif_le (runRound_le (callF_le (by omega)) (by omega) _ _ _ hk) ?_
    split
    · split
      · split
        · refine exec_le (callF_le (by omega)) (by omega) _ _ _ _ _ _ fun e s G => ?_
          cases e with
          | normal => exact resultVars_le _ _ fun vs => hk _ _
          | exit _ => exact Le.none
          | ret => exact resultVars_le _ _ fun vs => hk _ _
        · exact Le.none
      · exact Le.none
    · exact Le.none

/-- What was reckoned once. -/
theorem Does.of_some {f : FuncId} {args : List AV} {H : Heap} {v : AV} {H' : Heap} {n : Nat} (h : callF E n (AV × Heap) f args H (fun v H => some (v, H)) = some (v, H')) : Does E f args H v H' := by
  refine ⟨n, fun m hm R k => ?_⟩
  rw [callF_nat (E := E) m R f args H k, callF_le hm _ _ _ _ _ _ (fun v G => Le.refl _) _ h]
  rfl

def saysTrue : Option (AV × Heap) → Bool
  | some (.bool true, _) => true
  | _ => false

theorem Does.of_true {f : FuncId} {args : List AV} {H : Heap} {n : Nat} (h : saysTrue (callF E n (AV × Heap) f args H (fun v H => some (v, H))) = true) : ∃ H', Does E f args H (.bool true) H' := by
  unfold saysTrue at h
  split at h
  · rename_i H' hx
    exact ⟨H', Does.of_some hx⟩
  · cases h

/-- The answer from outside. -/
theorem Does.answer {f : FuncId} {args : List AV} {v : AV} {H' : Heap} (h : Does E f args [] v H') : ∃ n, answer E n f args = some v := by
  obtain ⟨N, h⟩ := h
  exact ⟨N, h N (Nat.le_refl _) _ _⟩

end
end Go.Den

/- DEN, part Sd: slices in the small heap. -/
namespace Go.Den

/-- What stood stands, but for these places. -/
structure Kept (own : List Nat) (H H' : Heap) : Prop where
  len : H.length ≤ H'.length
  same : ∀ i, i < H.length → i ∉ own → H'[i]? = H[i]?

theorem Kept.refl (own : List Nat) (H : Heap) : Kept own H H := ⟨Nat.le_refl _, fun _ _ _ => rfl⟩
theorem Kept.trans {own : List Nat} {A B C : Heap} (h : Kept own A B) (g : Kept own B C) : Kept own A C :=
  ⟨Nat.le_trans h.len g.len, fun i hi ho => (g.same i (Nat.lt_of_lt_of_le hi h.len) ho).trans (h.same i hi ho)⟩
theorem Kept.mono {own own' : List Nat} {A B : Heap} (h : Kept own A B) (hs : ∀ i ∈ own, i < A.length → i ∈ own') : Kept own' A B :=
  ⟨h.len, fun i hi ho => h.same i hi fun e => ho (hs i e hi)⟩
theorem Kept.then {own own' : List Nat} {A B C : Heap} (h : Kept own A B) (g : Kept own' B C) (hs : ∀ i ∈ own', i < A.length → i ∈ own) : Kept own A C :=
  ⟨Nat.le_trans h.len g.len, fun i hi ho => (g.same i (Nat.lt_of_lt_of_le hi h.len) fun e => ho (hs i e hi)).trans (h.same i hi ho)⟩
theorem Kept.get {own : List Nat} {H H' : Heap} (h : Kept own H H') {i : Nat} {x : HObj} (hx : H[i]? = some x) (ho : i ∉ own) : H'[i]? = some x :=
  (h.same i (lt_of_get hx) ho).trans hx
theorem Kept.app (own : List Nat) (H l : Heap) : Kept own H (H ++ l) :=
  ⟨by simp, fun i hi _ => by rw [List.getElem?_append_left hi]⟩
theorem Kept.set {own : List Nat} {H : Heap} {b : Nat} {x : HObj} (hb : b ∈ own) : Kept own H (H.set b x) :=
  ⟨by simp, fun i _ ho => get_set_ne fun e => ho (e ▸ hb)⟩

/-- A slice of elements: nil, or a piece of a row. -/
inductive Sl (H : Heap) (sz : Nat) (ty : TypeId) : AV → List AV → List Nat → Prop
  | nil : Sl H sz ty .nils [] []
  | mk (id ver off cap : Nat) (row es : List AV) : H[id]? = some (.row ver sz ty row) → off + cap ≤ row.length → es.length ≤ cap → (row.drop off).take es.length = es → Sl H sz ty (.sl id ver off es.length cap) es [id]

section
variable {H H' : Heap} {sz : Nat} {ty : TypeId} {v : AV} {es : List AV} {own : List Nat}

theorem Sl.kept (h : Sl H sz ty v es own) {o : List Nat} (hk : Kept o H H') (ho : ∀ i ∈ own, i ∉ o) : Sl H' sz ty v es own := by
  cases h with
  | nil => exact .nil
  | mk id ver off cap row es h1 h2 h3 h4 => exact .mk id ver off cap row es (hk.get h1 (ho id (by simp))) h2 h3 h4

theorem Sl.own_lt (h : Sl H sz ty v es own) : ∀ i ∈ own, i < H.length := by
  cases h with
  | nil => intro i hi; cases hi
  | mk id ver off cap row es h1 h2 h3 h4 =>
    intro i hi
    simp only [List.mem_singleton] at hi
    subst hi
    exact lt_of_get h1

theorem Sl.nils (h : Sl H sz ty .nils es own) : es = [] ∧ own = [] := by
  cases h
  exact ⟨rfl, rfl⟩

theorem Sl.not_nil (h : Sl H sz ty v es own) (hv : v ≠ .nils) {P : Program} {t e : TypeId} {c : Bool} (ht : P.underlying t = some (.slice e)) : A.bin P .eql t v .nils c H = some (.bool false) ∧ A.bin P .neq t v .nils c H = some (.bool true) := by
  cases h with
  | nil => exact absurd rfl hv
  | mk id ver off cap row es g1 g2 g3 g4 => constructor <;> simp [A.bin, ht, A.eqNil, A.eqNilH, A.alive, g1]

theorem Sl.def (h : Sl H sz ty v es own) : v.cells = [v] ∧ v.isDef = true ∧ v.one = true := by
  cases h <;> exact ⟨rfl, rfl, rfl⟩

theorem Sl.len (h : Sl H sz ty v es own) : A.len v H = some (.int .i64 es.length) := by
  cases h with
  | nil => rfl
  | mk id ver off cap row es h1 h2 h3 h4 => simp [A.len, A.alive, h1]

theorem Sl.read (h : Sl H sz ty v es own) : A.read sz v H = some es := by
  cases h with
  | nil => rfl
  | mk id ver off cap row es h1 h2 h3 h4 =>
    simp only [A.read, h1]
    rw [if_pos ⟨trivial, trivial, by omega⟩, h4]

/-- An element. -/
theorem Sl.idx (h : Sl H sz ty v es own) {k : IntKind} {i : Int} (h0 : 0 ≤ i) (h1 : i < es.length) : ∃ p, A.idx sz v (.int k i) H = some p ∧
    ∀ ag size, A.load ag size p H = (es[i.toNat]?).bind fun e => A.ofList ag size e.cells 0 := by
  cases h with
  | nil => simp at h1; omega
  | mk id ver off cap row es g1 g2 g3 g4 =>
    refine ⟨.ptr id ver (off + i.toNat) 0, ?_, fun ag size => ?_⟩
    · simp [A.idx, A.aliveZ, g1, h0, h1]
    · simp only [A.load, A.elemAt, g1, beq_self_eq_true, cond_true]
      congr 1
      conv => rhs; rw [← g4]
      rw [List.getElem?_take_of_lt (by omega), List.getElem?_drop]

theorem Sl.append (h : Sl H sz ty v es own) {bytes : Nat} (news : List AV) (hb : 0 < bytes) (hn : (es.length + news.length) * bytes ≤ 140737488355328) :
    ∃ v' H' own', A.append sz bytes ty v news H = some (v', H') ∧ Sl H' sz ty v' (es ++ news) own' ∧ Kept own H H' ∧ (∀ i ∈ own', i ∈ own ∨ H.length ≤ i) := by
  cases h with
  | nil =>
    cases news with
    | nil => exact ⟨.nils, H, [], rfl, .nil, .refl _ _, by simp⟩
    | cons x news =>
      refine ⟨.sl H.length 0 0 (x :: news).length (x :: news).length, H ++ [.row 0 sz ty (x :: news)], [H.length], ?_, ?_, .app _ _ _, by simp⟩
      · unfold A.append
        dsimp only
        rw [if_pos ⟨by simpa using hn, hb⟩]
        rfl
      · exact .mk H.length 0 0 _ (x :: news) (x :: news) get_new (by simp) (Nat.le_refl _) (by simp)
  | mk id ver off cap row es h1 h2 h3 h4 =>
    by_cases hc : es.length + news.length ≤ cap
    · refine ⟨.sl id ver off (es ++ news).length cap, H.set id (.row ver sz ty (A.splice row (off + es.length) news)), [id], ?_, ?_, .set (by simp), by simp⟩
      · simp only [A.append, h1]
        rw [if_pos ⟨trivial, trivial, trivial, by omega, h3, hn, hb⟩, if_pos hc, List.length_append]
      · refine .mk id ver off cap _ (es ++ news) (get_set_same h1) ?_ (by simpa using hc) ?_
        · simp [A.splice]
          omega
        · have e1 : (row.take (off + es.length)).length = off + es.length := by simp; omega
          have e2 : (A.splice row (off + es.length) news).drop off = es ++ news ++ row.drop (off + es.length + news.length) := by
            unfold A.splice
            rw [List.append_assoc, List.drop_append_of_le_length (by omega), List.drop_take, Nat.add_sub_cancel_left, h4, List.append_assoc]
          rw [e2, List.take_left]
    · refine ⟨.sl id (ver + 1) 0 (es ++ news).length (es ++ news).length, H.set id (.row (ver + 1) sz ty (es ++ news)), [id], ?_, ?_, .set (by simp), by simp⟩
      · simp only [A.append, h1]
        rw [if_pos ⟨trivial, trivial, trivial, by omega, h3, hn, hb⟩, if_neg hc, h4, List.length_append]
      · exact .mk id (ver + 1) 0 _ _ _ (get_set_same h1) (by simp) (Nat.le_refl _) (by rw [List.drop_zero, List.take_length])

/-- One element of a slice, read off a struct or a number. -/
theorem Sl.load1 (h : Sl H sz ty v es own) {k : IntKind} {i : Int} (h0 : 0 ≤ i) (h1 : i < es.length) {e : AV} (he : es[i.toNat]? = some e) (hc : e.cells = [e]) : ∃ p, A.idx sz v (.int k i) H = some p ∧ A.load false 1 p H = some e := by
  obtain ⟨p, g1, g2⟩ := h.idx (k := k) h0 h1
  refine ⟨p, g1, ?_⟩
  rw [g2, he]
  simp [A.ofList, hc]

end

section
variable {H : Heap} {sz : Nat} {ty : TypeId} {v : AV} {es : List AV} {own : List Nat}

/-- Nil, or a row: what is ahead of the slice, the slice, what is behind. -/
theorem Sl.inv (h : Sl H sz ty v es own) : (v = .nils ∧ es = [] ∧ own = []) ∨ ∃ id ver cap P Q, v = .sl id ver P.length es.length cap ∧ own = [id] ∧ H[id]? = some (.row ver sz ty (P ++ (es ++ Q))) ∧ es.length ≤ cap ∧ cap ≤ es.length + Q.length := by
  cases h with
  | nil => exact .inl ⟨rfl, rfl, rfl⟩
  | mk id ver off cap row es h1 h2 h3 h4 =>
    have hl : (row.take off).length = off := by simp; omega
    refine .inr ⟨id, ver, cap, row.take off, row.drop (off + es.length), by rw [hl], rfl, ?_, h3, by simp; omega⟩
    rw [h1]
    congr 2
    conv => lhs; rw [← List.take_append_drop off row]
    congr 1
    conv => lhs; rw [← List.take_append_drop es.length (row.drop off)]
    rw [h4, List.drop_drop]

theorem Sl.of {id ver off n cap : Nat} {P Q : List AV} (h : H[id]? = some (.row ver sz ty (P ++ (es ++ Q)))) (ho : off = P.length) (hn : n = es.length) (hc : es.length ≤ cap) (hq : cap ≤ es.length + Q.length) : Sl H sz ty (.sl id ver off n cap) es [id] := by
  subst ho hn
  exact .mk id ver _ cap _ es h (by simp; omega) hc (by simp)

theorem splice_at {P X Y news : List AV} : A.splice (P ++ (X ++ Y)) (P.length + X.length) news = P ++ (X ++ (news ++ Y.drop news.length)) := by
  unfold A.splice
  have e1 : P ++ (X ++ Y) = (P ++ X) ++ Y := by simp
  rw [e1, ← List.length_append, List.take_left, ← List.drop_drop, List.drop_left]
  simp

/-- What is cut off a slice. -/
theorem slice_row {id ver off n cap : Nat} {row : List AV} {k1 k2 : IntKind} {lo hi : Int} (h : H[id]? = some (.row ver sz ty row)) (h0 : 0 ≤ lo) (h1 : lo ≤ hi) (h2 : hi ≤ cap) :
    A.slice sz (.sl id ver off n cap) (some (.int k1 lo)) (some (.int k2 hi)) none H = some (.sl id ver (off + lo.toNat) (hi.toNat - lo.toNat) (cap - lo.toNat)) := by
  have e1 : (0 : Int) ≤ hi := by omega
  simp only [A.slice, A.bound, h0, e1, if_true, Option.bind_some]
  rw [if_pos ⟨by omega, by omega, Nat.le_refl _, by simp [A.aliveZ, h]⟩]
theorem slice_to {id ver off n cap : Nat} {row : List AV} {k2 : IntKind} {hi : Int} (h : H[id]? = some (.row ver sz ty row)) (h1 : 0 ≤ hi) (h2 : hi ≤ cap) :
    A.slice sz (.sl id ver off n cap) none (some (.int k2 hi)) none H = some (.sl id ver off hi.toNat cap) := by
  simp only [A.slice, A.bound, h1, if_true, Option.bind_some]
  rw [if_pos ⟨by omega, by omega, Nat.le_refl _, by simp [A.aliveZ, h]⟩]
  simp
theorem slice_from {id ver off n cap : Nat} {row : List AV} {k1 : IntKind} {lo : Int} (h : H[id]? = some (.row ver sz ty row)) (h0 : 0 ≤ lo) (h1 : lo ≤ n) (h2 : n ≤ cap) :
    A.slice sz (.sl id ver off n cap) (some (.int k1 lo)) none none H = some (.sl id ver (off + lo.toNat) (n - lo.toNat) (cap - lo.toNat)) := by
  simp only [A.slice, A.bound, h0, if_true, Option.bind_some]
  rw [if_pos ⟨by omega, by omega, Nat.le_refl _, by simp [A.aliveZ, h]⟩]
theorem slice_three {id ver off n cap : Nat} {row : List AV} {k1 k2 k3 : IntKind} {lo hi mx : Int} (h : H[id]? = some (.row ver sz ty row)) (h0 : 0 ≤ lo) (h1 : lo ≤ hi) (h2 : hi ≤ mx) (h3 : mx ≤ cap) :
    A.slice sz (.sl id ver off n cap) (some (.int k1 lo)) (some (.int k2 hi)) (some (.int k3 mx)) H = some (.sl id ver (off + lo.toNat) (hi.toNat - lo.toNat) (mx.toNat - lo.toNat)) := by
  have e1 : (0 : Int) ≤ hi := by omega
  have e2 : (0 : Int) ≤ mx := by omega
  simp only [A.slice, A.bound, h0, e1, e2, if_true, Option.bind_some]
  rw [if_pos ⟨by omega, by omega, by omega, by simp [A.aliveZ, h]⟩]
theorem len_row {id ver off n cap : Nat} {row : List AV} (h : H[id]? = some (.row ver sz ty row)) : A.len (.sl id ver off n cap) H = some (.int .i64 n) := by
  simp [A.len, A.alive, h]
theorem read_row {id ver off n cap : Nat} {row : List AV} (h : H[id]? = some (.row ver sz ty row)) (hl : off + n ≤ row.length) : A.read sz (.sl id ver off n cap) H = some ((row.drop off).take n) := by
  simp only [A.read, h]
  rw [if_pos ⟨trivial, trivial, hl⟩]
theorem append_row {id ver off n cap bytes : Nat} {row news : List AV} (h : H[id]? = some (.row ver sz ty row)) (hl : off + cap ≤ row.length) (hc : n + news.length ≤ cap) (hb : 0 < bytes) (hn : (n + news.length) * bytes ≤ 140737488355328) :
    A.append sz bytes ty (.sl id ver off n cap) news H = some (.sl id ver off (n + news.length) cap, H.set id (.row ver sz ty (A.splice row (off + n) news))) := by
  simp only [A.append, h]
  rw [if_pos ⟨trivial, trivial, trivial, by omega, by omega, hn, hb⟩, if_pos hc]
theorem clear_row {id ver off n cap : Nat} {row : List AV} {z : AV} (h : H[id]? = some (.row ver sz ty row)) (hl : off + n ≤ row.length) (hn : n ≠ 0) :
    A.clear sz z (.sl id ver off n cap) H = some (.tup [], H.set id (.row ver sz ty (A.splice row off (List.replicate n z)))) := by
  simp only [A.clear, h]
  rw [if_neg hn, if_pos ⟨trivial, trivial, hl⟩]
end

/-- What is left of a slice from a place on. -/
def cutFrom (v : AV) (i : Nat) : AV :=
  match v with
  | .sl id ver off n cap => .sl id ver (off + i) (n - i) (cap - i)
  | v => v

theorem Sl.slice_from {H : Heap} {sz : Nat} {ty : TypeId} {v : AV} {es : List AV} {own : List Nat} (h : Sl H sz ty v es own) {k : IntKind} {i : Int} (h0 : 0 ≤ i) (h1 : i ≤ es.length) :
    A.slice sz v (some (.int k i)) none none H = some (cutFrom v i.toNat) ∧ Sl H sz ty (cutFrom v i.toNat) (es.drop i.toNat) own := by
  cases h with
  | nil =>
    have : i = 0 := by simp at h1; omega
    subst this
    exact ⟨rfl, .nil⟩
  | mk id ver off cap row es g1 g2 g3 g4 =>
    refine ⟨Go.Den.slice_from g1 h0 h1 g3, ?_⟩
    have hl : (es.drop i.toNat).length = es.length - i.toNat := by simp
    have := Sl.mk (H := H) (sz := sz) (ty := ty) id ver (off + i.toNat) (cap - i.toNat) row (es.drop i.toNat) g1 (by omega) (by omega) (by
      rw [hl, ← List.drop_drop]
      conv => rhs; rw [← g4]
      rw [List.drop_take])
    rw [hl] at this
    exact this

/-- What a slice is up to a place. -/
def cutTo (v : AV) (i : Nat) : AV :=
  match v with
  | .sl id ver off _ cap => .sl id ver off i cap
  | v => v

theorem Sl.slice_to {H : Heap} {sz : Nat} {ty : TypeId} {v : AV} {es : List AV} {own : List Nat} (h : Sl H sz ty v es own) {k : IntKind} {i : Int} (h0 : 0 ≤ i) (h1 : i ≤ es.length) :
    A.slice sz v none (some (.int k i)) none H = some (cutTo v i.toNat) ∧ Sl H sz ty (cutTo v i.toNat) (es.take i.toNat) own := by
  cases h with
  | nil =>
    have : i = 0 := by simp at h1; omega
    subst this
    exact ⟨rfl, .nil⟩
  | mk id ver off cap row es g1 g2 g3 g4 =>
    refine ⟨Go.Den.slice_to g1 h0 (by omega), ?_⟩
    have hl : (es.take i.toNat).length = i.toNat := by simp; omega
    have := Sl.mk (H := H) (sz := sz) (ty := ty) id ver off cap row (es.take i.toNat) g1 g2 (by omega) (by
      rw [hl]
      conv => rhs; rw [← g4]
      rw [List.take_take, Nat.min_eq_left (by omega)])
    rw [hl] at this
    exact this

/-- A slice of memory that does not change. -/
inductive Im (sz : Nat) : AV → List AV → Prop
  | nil : Im sz .nils []
  | sh (es : List AV) : Im sz (.sh sz es) es

section
variable {H : Heap} {sz : Nat} {v : AV} {es : List AV}
theorem Im.len (h : Im sz v es) : A.len v H = some (.int .i64 es.length) := by
  cases h <;> rfl
theorem Im.read (h : Im sz v es) : A.read sz v H = some es := by
  cases h <;> simp [A.read]
theorem Im.idx (h : Im sz v es) {k : IntKind} {i : Int} (h0 : 0 ≤ i) {e : AV} (he : es[i.toNat]? = some e) : A.idx sz v (.int k i) H = some (.rop e.cells) := by
  have hl := (List.getElem?_eq_some_iff.1 he).1
  cases h with
  | nil => simp at hl
  | sh es =>
    simp only [A.idx]
    rw [if_pos ⟨h0, by omega, trivial⟩, he]
    rfl
end

/-- Whatever a slice is: its length, its elements, one cell each. -/
structure Rd (H : Heap) (v : AV) (es : List AV) : Prop where
  len : A.len v H = some (.int .i64 es.length)
  at_ : ∀ (k : IntKind) (i : Int) (e : AV), 0 ≤ i → es[i.toNat]? = some e → ∃ p, A.idx 1 v (.int k i) H = some p ∧ A.load false 1 p H = some e

theorem Sl.rd {H : Heap} {ty : TypeId} {v : AV} {es : List AV} {own : List Nat} (h : Sl H 1 ty v es own) (hc : ∀ e ∈ es, e.cells = [e]) : Rd H v es :=
  ⟨h.len, fun k i e h0 he => h.load1 h0 (by have := (List.getElem?_eq_some_iff.1 he).1; omega) he (hc e (List.mem_of_getElem? he))⟩
theorem Im.rd {H : Heap} {v : AV} {es : List AV} (h : Im 1 v es) (hc : ∀ e ∈ es, e.cells = [e]) : Rd H v es :=
  ⟨h.len, fun k i e h0 he => ⟨_, h.idx h0 he, by simp [A.load, A.ofList, hc e (List.mem_of_getElem? he)]⟩⟩

/-- A struct behind a pointer. -/
def Box (H : Heap) (b sz : Nat) (ty : TypeId) (cs : List AV) : Prop := H[b]? = some (.row 0 sz ty [.agg cs])

section
variable {H H' : Heap} {b sz : Nat} {ty : TypeId} {cs : List AV}

theorem Box.kept (h : Box H b sz ty cs) {o : List Nat} (hk : Kept o H H') (ho : b ∉ o) : Box H' b sz ty cs := hk.get h ho
theorem Box.nilCheck (h : Box H b sz ty cs) {o : Nat} : A.nilCheck (.ptr b 0 0 o) H = some (.ptr b 0 0 o) := by
  simp only [Box] at h
  simp [A.nilCheck, A.alive, h]
theorem Box.fa (h : Box H b sz ty cs) {o : Nat} : A.fa o (.ptr b 0 0 0) H = some (.ptr b 0 0 o) := by
  simp only [Box] at h
  simp [A.fa, A.alive, h]
theorem Box.load (h : Box H b sz ty cs) {o : Nat} : A.load false 1 (.ptr b 0 0 o) H = cs[o]? := by
  simp only [Box] at h
  simp [A.load, A.elemAt, h, A.ofList, AV.cells]
theorem Box.store (h : Box H b sz ty cs) {o : Nat} {v : AV} (ho : o < cs.length) (hc : v.cells = [v]) (h1 : v.one = true) (hd : v.isDef = true) : A.store 1 (.ptr b 0 0 o) v H = some (H.set b (.row 0 sz ty [.agg (cs.set o v)])) := by
  simp only [Box] at h
  have : A.fits 1 v = true := by simp [A.fits, hc, h1]
  have hs : A.splice cs o [v] = cs.set o v := by
    rw [List.set_eq_take_append_cons_drop, if_pos ho]
    simp [A.splice]
  have hle : o + v.cells.length ≤ cs.length := by rw [hc]; simp; omega
  simp only [A.store, this, cond_true, h, beq_self_eq_true, A.setElem]
  simp only [List.getElem?_cons_zero, Option.bind_some]
  rw [if_pos hle, hc, hs]
  rfl
theorem Box.stored (h : Box H b sz ty cs) {o : Nat} {v : AV} : Box (H.set b (.row 0 sz ty [.agg (cs.set o v)])) b sz ty (cs.set o v) := get_set_same h
theorem Box.not_nil (h : Box H b sz ty cs) {P : Program} {t e : TypeId} {c : Bool} (ht : P.underlying t = some (.pointer e)) : A.bin P .eql t (.ptr b 0 0 0) .nilp c H = some (.bool false) ∧ A.bin P .neq t (.ptr b 0 0 0) .nilp c H = some (.bool true) := by
  simp only [Box] at h
  constructor <;> simp [A.bin, ht, A.eqNil, A.eqNilH, A.alive, h]
end

theorem fillElems_one (e z : AV) (hc : e.cells.length = 1) (hd : e.isDef = true) : A.fillElems 1 [z] [(0, 1, e)] = some [e] := by
  simp [A.fillElems, hc, hd]

theorem newsOf_sl {E : Env} {sz : Nat} {tx e : TypeId} {x : AV} {H : Heap} (ht : E.P.underlying tx = some (.slice e)) : newsOf E sz tx x H = A.read sz x H := by
  unfold newsOf
  rw [ht]

theorem newsZ_sl {E : Env} {sz by_ : Nat} {z : AV} {tx e : TypeId} {x : AV} {H : Heap} (ht : E.P.underlying tx = some (.slice e)) : newsZ E sz by_ z tx x H = A.read sz x H := by
  unfold newsZ
  rw [newsOf_sl ht, ht]
  cases A.read sz x H <;> rfl

theorem Sl.new {H : Heap} {sz : Nat} {ty : TypeId} (es : List AV) : Sl (H ++ [.row 0 sz ty es]) sz ty (.sl H.length 0 0 es.length es.length) es [H.length] :=
  .mk _ _ _ _ es es get_new (by simp) (Nat.le_refl _) (by simp)

end Go.Den

/- DEN, part Pv: functions that are proved one by one: each is a table's entry for those that call it. -/
namespace Go.Den
open Go.RowKit

def Env.with (E : Env) (pol : FuncId → Pol) : Env := { E with pol := pol }

/-- A call out of a function's text. -/
def cl (E : Env) (pol : FuncId → Pol) (n : Nat) {R : Type} (f : FuncId) (args : List AV) (H : Heap) (k : AV → Heap → Option R) : Option R :=
  callK (E.with pol) (callF (E.with pol) n) f args H k
/-- .. that asks for nothing of the small heap and leaves it alone. -/
def clQ (E : Env) (pol : FuncId → Pol) {R : Type} (f : FuncId) (args : List AV) (H : Heap) (k : AV → Heap → Option R) : Option R :=
  callQ (E.with pol) f args H k
def clV (E : Env) (pol : FuncId → Pol) (n : Nat) {R : Type} (f : AV) (args : List AV) (H : Heap) (k : AV → Heap → Option R) : Option R :=
  callV (E.with pol) (callF (E.with pol) n) f args H k
def globV (E : Env) (g : Nat) : AV := .rop ((E.glob g).getD [])

def lookT : List (FuncId × Pol) → FuncId → Pol
  | [], _ => .prim fun _ _ => none
  | (g, F) :: r, f => if f = g then F else lookT r f

/-- A call, by how the function is read. -/
def polK {R : Type} (p : Pol) (args : List AV) (H : Heap) (k : AV → Heap → Option R) : Option R :=
  match p with
  | .plain => none
  | .prim F => withP (F args H) k
  | .still F => withP (pureF F args H) k
def polQ {R : Type} (p : Pol) (args : List AV) (H : Heap) (k : AV → Heap → Option R) : Option R :=
  match p with
  | .still F => bif args.all AV.imm then withV (F args) fun v => k v H else none
  | _ => none

theorem lookT_plain : ∀ {T : List (FuncId × Pol)} {f : FuncId}, (∀ p ∈ T, p.2 ≠ .plain) → lookT T f ≠ .plain
  | [], _, _ => by unfold lookT; simp
  | (g, F) :: r, f, h => by
    unfold lookT
    split
    · exact h _ List.mem_cons_self
    · exact lookT_plain fun p hp => h p (List.mem_cons_of_mem _ hp)

/-- A table: no function in it is read as its text stands. -/
def polT (T : List (FuncId × Pol)) (f : FuncId) : Pol :=
  match lookT T f with
  | .plain => .prim fun _ _ => none
  | p => p

@[simp] theorem cl_polT {E : Env} {T : List (FuncId × Pol)} {n : Nat} {R : Type} {f : FuncId} {args : List AV} {H : Heap} {k : AV → Heap → Option R} : cl E (polT T) n f args H k = polK (lookT T f) args H k := by
  unfold cl callK
  show (match polT T f with | .plain => _ | .prim F => _ | .still F => _) = _
  unfold polT
  cases lookT T f <;> rfl
@[simp] theorem clQ_polT {E : Env} {T : List (FuncId × Pol)} {R : Type} {f : FuncId} {args : List AV} {H : Heap} {k : AV → Heap → Option R} : clQ E (polT T) f args H k = polQ (lookT T f) args H k := by
  unfold clQ callQ
  show (match polT T f with | .still F => _ | _ => _) = _
  unfold polT
  cases lookT T f <;> rfl
@[simp] theorem clV_fn {E : Env} {pol : FuncId → Pol} {n : Nat} {R : Type} {f : FuncId} {a b args : List AV} {H : Heap} {k : AV → Heap → Option R} : clV E pol n (.fn (.func f) a b) args H k = cl E pol n f (a ++ args ++ b) H k := id rfl
@[congr] theorem cl_congr {E : Env} {pol : FuncId → Pol} {n : Nat} {R : Type} {f : FuncId} {args args' : List AV} {H H' : Heap} {k : AV → Heap → Option R} (h : args = args') (h2 : H = H') : cl E pol n f args H k = cl E pol n f args' H' k := by rw [h, h2]
@[congr] theorem clV_congr {E : Env} {pol : FuncId → Pol} {n : Nat} {R : Type} {f f' : AV} {args args' : List AV} {H H' : Heap} {k : AV → Heap → Option R} (h0 : f = f') (h : args = args') (h2 : H = H') : clV E pol n f args H k = clV E pol n f' args' H' k := by rw [h0, h, h2]
@[congr] theorem clQ_congr {E : Env} {pol : FuncId → Pol} {R : Type} {f : FuncId} {args args' : List AV} {H H' : Heap} {k : AV → Heap → Option R} (h : args = args') (h2 : H = H') : clQ E pol f args H k = clQ E pol f args' H' k := by rw [h, h2]
@[congr] theorem polK_congr {R : Type} {p p' : Pol} {args : List AV} {H : Heap} {k : AV → Heap → Option R} (h : p = p') : polK p args H k = polK p' args H k := by rw [h]
@[congr] theorem polQ_congr {R : Type} {p p' : Pol} {args : List AV} {H : Heap} {k : AV → Heap → Option R} (h : p = p') : polQ p args H k = polQ p' args H k := by rw [h]
/-- A call on values that do not change. -/
theorem polK_imm {R : Type} {F : List AV → Option AV} {args : List AV} {H : Heap} {k : AV → Heap → Option R} (h : args.all AV.imm = true) : polK (.still F) args H k = withV (F args) fun v => k v H := by
  show withP (pureF F args H) k = _
  rw [pureF_imm h]
  cases F args <;> rfl
theorem polQ_imm {R : Type} {F : List AV → Option AV} {args : List AV} {H : Heap} {k : AV → Heap → Option R} (h : args.all AV.imm = true) : polQ (.still F) args H k = withV (F args) fun v => k v H := by
  show (bif args.all AV.imm then _ else none) = _
  rw [h]
  rfl
@[simp] theorem lookT_cons {g : FuncId} {F : Pol} {r : List (FuncId × Pol)} {f : FuncId} : lookT ((g, F) :: r) f = if f = g then F else lookT r f := id rfl

section
variable {E : Env} {pol : FuncId → Pol}

theorem isLoud_with (s : Option Nat) (o : Oper) : isLoud (E.with pol) s o = isLoud E s o := rfl
theorem countLoud_with (sites : List (Nat × Nat × Nat)) (rid : Nat) (ops : Array Oper) (p : Nat → Bool) : countLoud (E.with pol) sites rid ops p = countLoud E sites rid ops p := rfl
theorem pairOk_with (sites : List (Nat × Nat × Nat)) (rid : Nat) (ops : Array Oper) (d : DInfo) (i : Nat) (o : Oper) (j : Nat) : pairOk (E.with pol) sites rid ops d i o j = pairOk E sites rid ops d i o j := rfl
theorem opOk_with (sites : List (Nat × Nat × Nat)) (rid : Nat) (ops : Array Oper) (d : DInfo) (i : Nat) : opOk (E.with pol) sites rid ops d i = opOk E sites rid ops d i := rfl
theorem staticOk_with (sites : List (Nat × Nat × Nat)) : staticOk (E.with pol) sites = staticOk E sites := by
  funext rid ops d
  rfl
theorem EnvOK.with (h : EnvOK E) : EnvOK (E.with pol) :=
  ⟨fun f fn c h1 h2 => by
    have := h.codes f fn c h1 h2
    rw [← staticOk_with (pol := pol)] at this
    exact this, h.names⟩
theorem OthV.to_with {C : Ctx} {ob : Option Obj} {o : HObj} (h : OthV E C ob o) : OthV (E.with pol) C ob o := by
  cases o with
  | iter l pos => exact h
  | map k e es => exact h
  | loop L =>
    obtain ⟨rcd, h1, h2⟩ := h
    exact ⟨rcd, h1, h2.state, h2.pending, h2.params, h2.assign, h2.body, h2.size, h2.slots, h2.novar, by rw [staticOk_with]; exact h2.ok1, by rw [staticOk_with]; exact h2.ok2, h2.rf1, h2.rf2⟩
  | _ => trivial
theorem OthV.of_with {C : Ctx} {ob : Option Obj} {o : HObj} (h : OthV (E.with pol) C ob o) : OthV E C ob o := by
  cases o with
  | iter l pos => exact h
  | map k e es => exact h
  | loop L =>
    obtain ⟨rcd, h1, h2⟩ := h
    exact ⟨rcd, h1, h2.state, h2.pending, h2.params, h2.assign, h2.body, h2.size, h2.slots, h2.novar, by rw [← staticOk_with (pol := pol)]; exact h2.ok1, by rw [← staticOk_with (pol := pol)]; exact h2.ok2, h2.rf1, h2.rf2⟩
  | _ => trivial
theorem HR.to_with {C : Ctx} (h : HR E C) : HR (E.with pol) C := ⟨h.row, fun id o ho hh => ⟨(h.oth id o ho hh).1, (h.oth id o ho hh).2.to_with⟩, h.new, h.glob, h.al⟩
theorem HR.of_with {C : Ctx} (h : HR (E.with pol) C) : HR E C := ⟨h.row, fun id o ho hh => ⟨(h.oth id o ho hh).1, (h.oth id o ho hh).2.of_with⟩, h.new, h.glob, h.al⟩
theorem Gives.of_with {C : Ctx} {v : AV} {H' : Heap} {u : Value} {w' : World} (h : Gives (E.with pol) C v H' u w') : Gives E C v H' u w' := by
  obtain ⟨C', h1, h2, h3, h4, h5, h6⟩ := h
  exact ⟨C', h1, h2, h3, h4.of_with, h5, h6⟩
theorem Gives.to_with {C : Ctx} {v : AV} {H' : Heap} {u : Value} {w' : World} (h : Gives E C v H' u w') : Gives (E.with pol) C v H' u w' := by
  obtain ⟨C', h1, h2, h3, h4, h5, h6⟩ := h
  exact ⟨C', h1, h2, h3, h4.to_with, h5, h6⟩
theorem PrimOK.to_with {f : FuncId} {F : List AV → Heap → Option (AV × Heap)} (h : PrimOK E f F) : PrimOK (E.with pol) f F :=
  fun args C us v H' h1 h2 h3 h4 => Lands.mono (h args C us v H' h1 h2.of_with h3 h4) fun _ _ g => g.to_with
theorem PolOK.to_with {f : FuncId} : ∀ {p : Pol}, PolOK E f p → PolOK (E.with pol) f p
  | .plain, _ => trivial
  | .prim F, h => PrimOK.to_with (F := F) h
  | .still F, h => PrimOK.to_with (F := pureF F) h
theorem PolOK.none (f : FuncId) : PolOK E f (.prim fun _ _ => none) := fun _ _ _ _ _ h => by cases h
end

/-- All that a table says is right. -/
def TabOK (E : Env) : List (FuncId × Pol) → Prop
  | [] => True
  | (f, F) :: r => PolOK E f F ∧ TabOK E r

theorem lookT_ok {E : Env} : ∀ {T : List (FuncId × Pol)}, TabOK E T → ∀ f, PolOK E f (lookT T f)
  | [], _, f => .none f
  | (g, F) :: r, h, f => by
    unfold lookT
    split
    · rename_i e; subst e; exact h.1
    · exact lookT_ok h.2 f
theorem polT_ok {E : Env} {T : List (FuncId × Pol)} (h : TabOK E T) (f : FuncId) : PolOK E f (polT T f) := by
  have := lookT_ok h f
  unfold polT
  split
  · exact .none f
  · exact this

theorem calls_polT {E : Env} (hE : EnvOK E) (hm : E.P.follows .mixedOrders = true) {T : List (FuncId × Pol)} (hT : TabOK E T) (n : Nat) : CallOK (E.with (polT T)) (callF (E.with (polT T)) n) :=
  callF_pols (E := E.with (polT T)) hE.with hm (fun f => (polT_ok hT f).to_with) n

/-- What must stand of a program, once. -/
structure BaseOK (E : Env) : Prop where
  env : EnvOK E
  mixed : E.P.follows .mixedOrders = true

/-- A function that leaves the small heap alone, by what its text does. -/
theorem still_of {E : Env} (hb : BaseOK E) (T : List (FuncId × Pol)) (hT : TabOK E T) {f : FuncId} {F : List AV → Option AV}
    (h : ∀ zs v, F zs = some v → Evs fun n _ => callF (E.with (polT T)) (n + 1) AV f zs [] (fun v G => A.freezeB true 64 G v) = some v) : PolOK E f (.still F) :=
  pure_prim (E := E) (E' := E.with (polT T)) rfl rfl (calls_polT hb.env hb.mixed hT) fun zs v hv => by
    obtain ⟨N, hN⟩ := h zs v hv
    exact ⟨N + 1, hN N N (Nat.le_refl _) (Nat.le_refl _)⟩

/-- A function that reads or writes the small heap, by what its text does. -/
theorem heap_of {E : Env} (hb : BaseOK E) (T : List (FuncId × Pol)) (hT : TabOK E T) {f : FuncId} {F : List AV → Heap → Option (AV × Heap)}
    (h : ∀ zs H v H', F zs H = some (v, H') → Evs fun n _ => callF (E.with (polT T)) (n + 1) (AV × Heap) f zs H (fun v G => some (v, G)) = some (v, H')) (hlt : Nat.blt f yBase = true := by rfl) : PolOK E f (.prim F) := fun args C us v H' h1 hr hl hv => by
  obtain ⟨N, hN⟩ := h args C.H v H' h1
  exact Lands.mono ((calls_polT hb.env hb.mixed hT (N + 1)).call f args C us v H' hlt (hN N N (Nat.le_refl _) (Nat.le_refl _)) hr.to_with hl hv) fun _ _ g => g.of_with

/-- A law, by what its text does. -/
theorem answer_of {E : Env} {T : List (FuncId × Pol)} {f : FuncId} {zs : List AV} {v : AV} (h : Evs fun n _ => callF (E.with (polT T)) (n + 1) AV f zs [] (fun v _ => some v) = some v) : ∃ n, answer (E.with (polT T)) n f zs = some v := by
  obtain ⟨N, hN⟩ := h
  exact ⟨N + 1, hN N N (Nat.le_refl _) (Nat.le_refl _)⟩

/-- What a call hands back, when it does not change. -/
theorem frz_imm {v : AV} {H : Heap} (h : v.imm = true) : A.freezeB true 64 H v = some v := (imm_frz h 61 H).1

/-! ### codes -/
/-- How plain data stand as values that do not change. -/
structure Cd (α : Type) where
  enc : α → AV
  inj : ∀ a b, enc a = enc b → a = b
  imm : ∀ a, (enc a).imm1 = true

namespace Cd
variable {α β γ δ ε : Type}
noncomputable def dec (c : Cd α) (v : AV) : Option α := open Classical in if h : ∃ a, v = c.enc a then some h.choose else none
theorem dec_enc (c : Cd α) (a : α) : c.dec (c.enc a) = some a := by
  have h : ∃ b, c.enc a = c.enc b := ⟨a, rfl⟩
  unfold dec
  rw [dif_pos h]
  exact congrArg some (c.inj _ _ h.choose_spec).symm
theorem dec_some {c : Cd α} {v : AV} {a : α} (h : c.dec v = some a) : v = c.enc a := by
  unfold dec at h
  split at h
  · rename_i hx
    simp only [Option.some.injEq] at h
    rw [← h]
    exact hx.choose_spec
  · cases h

noncomputable def f0 (r : AV) : List AV → Option AV
  | [] => some r
  | _ => none
end Cd

/-- A function of 1, where a condition holds. -/
noncomputable def p1 {α ρ : Type} (a : Cd α) (r : ρ → AV) (P : α → Prop) (f : α → ρ) : List AV → Option AV
  | [v0] => (a.dec v0).bind fun x0 => (open Classical in if P x0 then some (r (f x0)) else none)
  | _ => none
@[simp] theorem p1_app {α ρ : Type} {a : Cd α} {r : ρ → AV} {P : α → Prop} {f : α → ρ} {v0 : AV} : p1 a r P f [v0] = (a.dec v0).bind fun x0 => (open Classical in if P x0 then some (r (f x0)) else none) := id rfl
theorem still1 {E : Env} (hb : BaseOK E) (T : List (FuncId × Pol)) (hT : TabOK E T) {f : FuncId} {α ρ : Type} {a : Cd α} {r : ρ → AV} {P : α → Prop} {F : α → ρ}
    (h : ∀ x0, P x0 → Evs fun n _ => callF (E.with (polT T)) (n + 1) AV f [a.enc x0] [] (fun v G => A.freezeB true 64 G v) = some (r (F x0))) : PolOK E f (.still (p1 a r P F)) :=
  still_of hb T hT fun ar v hv => by
    unfold p1 at hv
    split at hv
    · simp only [Option.bind_eq_some_iff] at hv
      obtain ⟨x0, h0, hv⟩ := hv
      split at hv
      · rename_i hp
        cases hv
        rw [Cd.dec_some h0]
        exact h x0 hp
      · cases hv
    · cases hv
/-- A function of 2, where a condition holds. -/
noncomputable def p2 {α β ρ : Type} (a : Cd α) (b : Cd β) (r : ρ → AV) (P : α → β → Prop) (f : α → β → ρ) : List AV → Option AV
  | [v0, v1] => (a.dec v0).bind fun x0 => (b.dec v1).bind fun x1 => (open Classical in if P x0 x1 then some (r (f x0 x1)) else none)
  | _ => none
@[simp] theorem p2_app {α β ρ : Type} {a : Cd α} {b : Cd β} {r : ρ → AV} {P : α → β → Prop} {f : α → β → ρ} {v0 v1 : AV} : p2 a b r P f [v0, v1] = (a.dec v0).bind fun x0 => (b.dec v1).bind fun x1 => (open Classical in if P x0 x1 then some (r (f x0 x1)) else none) := id rfl
theorem still2 {E : Env} (hb : BaseOK E) (T : List (FuncId × Pol)) (hT : TabOK E T) {f : FuncId} {α β ρ : Type} {a : Cd α} {b : Cd β} {r : ρ → AV} {P : α → β → Prop} {F : α → β → ρ}
    (h : ∀ x0 x1, P x0 x1 → Evs fun n _ => callF (E.with (polT T)) (n + 1) AV f [a.enc x0, b.enc x1] [] (fun v G => A.freezeB true 64 G v) = some (r (F x0 x1))) : PolOK E f (.still (p2 a b r P F)) :=
  still_of hb T hT fun ar v hv => by
    unfold p2 at hv
    split at hv
    · simp only [Option.bind_eq_some_iff] at hv
      obtain ⟨x0, h0, x1, h1, hv⟩ := hv
      split at hv
      · rename_i hp
        cases hv
        rw [Cd.dec_some h0, Cd.dec_some h1]
        exact h x0 x1 hp
      · cases hv
    · cases hv
/-- A function of 3, where a condition holds. -/
noncomputable def p3 {α β γ ρ : Type} (a : Cd α) (b : Cd β) (c : Cd γ) (r : ρ → AV) (P : α → β → γ → Prop) (f : α → β → γ → ρ) : List AV → Option AV
  | [v0, v1, v2] => (a.dec v0).bind fun x0 => (b.dec v1).bind fun x1 => (c.dec v2).bind fun x2 => (open Classical in if P x0 x1 x2 then some (r (f x0 x1 x2)) else none)
  | _ => none
@[simp] theorem p3_app {α β γ ρ : Type} {a : Cd α} {b : Cd β} {c : Cd γ} {r : ρ → AV} {P : α → β → γ → Prop} {f : α → β → γ → ρ} {v0 v1 v2 : AV} : p3 a b c r P f [v0, v1, v2] = (a.dec v0).bind fun x0 => (b.dec v1).bind fun x1 => (c.dec v2).bind fun x2 => (open Classical in if P x0 x1 x2 then some (r (f x0 x1 x2)) else none) := id rfl
theorem still3 {E : Env} (hb : BaseOK E) (T : List (FuncId × Pol)) (hT : TabOK E T) {f : FuncId} {α β γ ρ : Type} {a : Cd α} {b : Cd β} {c : Cd γ} {r : ρ → AV} {P : α → β → γ → Prop} {F : α → β → γ → ρ}
    (h : ∀ x0 x1 x2, P x0 x1 x2 → Evs fun n _ => callF (E.with (polT T)) (n + 1) AV f [a.enc x0, b.enc x1, c.enc x2] [] (fun v G => A.freezeB true 64 G v) = some (r (F x0 x1 x2))) : PolOK E f (.still (p3 a b c r P F)) :=
  still_of hb T hT fun ar v hv => by
    unfold p3 at hv
    split at hv
    · simp only [Option.bind_eq_some_iff] at hv
      obtain ⟨x0, h0, x1, h1, x2, h2, hv⟩ := hv
      split at hv
      · rename_i hp
        cases hv
        rw [Cd.dec_some h0, Cd.dec_some h1, Cd.dec_some h2]
        exact h x0 x1 x2 hp
      · cases hv
    · cases hv
/-- A function of 4, where a condition holds. -/
noncomputable def p4 {α β γ δ ρ : Type} (a : Cd α) (b : Cd β) (c : Cd γ) (d : Cd δ) (r : ρ → AV) (P : α → β → γ → δ → Prop) (f : α → β → γ → δ → ρ) : List AV → Option AV
  | [v0, v1, v2, v3] => (a.dec v0).bind fun x0 => (b.dec v1).bind fun x1 => (c.dec v2).bind fun x2 => (d.dec v3).bind fun x3 => (open Classical in if P x0 x1 x2 x3 then some (r (f x0 x1 x2 x3)) else none)
  | _ => none
@[simp] theorem p4_app {α β γ δ ρ : Type} {a : Cd α} {b : Cd β} {c : Cd γ} {d : Cd δ} {r : ρ → AV} {P : α → β → γ → δ → Prop} {f : α → β → γ → δ → ρ} {v0 v1 v2 v3 : AV} : p4 a b c d r P f [v0, v1, v2, v3] = (a.dec v0).bind fun x0 => (b.dec v1).bind fun x1 => (c.dec v2).bind fun x2 => (d.dec v3).bind fun x3 => (open Classical in if P x0 x1 x2 x3 then some (r (f x0 x1 x2 x3)) else none) := id rfl
theorem still4 {E : Env} (hb : BaseOK E) (T : List (FuncId × Pol)) (hT : TabOK E T) {f : FuncId} {α β γ δ ρ : Type} {a : Cd α} {b : Cd β} {c : Cd γ} {d : Cd δ} {r : ρ → AV} {P : α → β → γ → δ → Prop} {F : α → β → γ → δ → ρ}
    (h : ∀ x0 x1 x2 x3, P x0 x1 x2 x3 → Evs fun n _ => callF (E.with (polT T)) (n + 1) AV f [a.enc x0, b.enc x1, c.enc x2, d.enc x3] [] (fun v G => A.freezeB true 64 G v) = some (r (F x0 x1 x2 x3))) : PolOK E f (.still (p4 a b c d r P F)) :=
  still_of hb T hT fun ar v hv => by
    unfold p4 at hv
    split at hv
    · simp only [Option.bind_eq_some_iff] at hv
      obtain ⟨x0, h0, x1, h1, x2, h2, x3, h3, hv⟩ := hv
      split at hv
      · rename_i hp
        cases hv
        rw [Cd.dec_some h0, Cd.dec_some h1, Cd.dec_some h2, Cd.dec_some h3]
        exact h x0 x1 x2 x3 hp
      · cases hv
    · cases hv
/-- A function of 5, where a condition holds. -/
noncomputable def p5 {α β γ δ ε ρ : Type} (a : Cd α) (b : Cd β) (c : Cd γ) (d : Cd δ) (e : Cd ε) (r : ρ → AV) (P : α → β → γ → δ → ε → Prop) (f : α → β → γ → δ → ε → ρ) : List AV → Option AV
  | [v0, v1, v2, v3, v4] => (a.dec v0).bind fun x0 => (b.dec v1).bind fun x1 => (c.dec v2).bind fun x2 => (d.dec v3).bind fun x3 => (e.dec v4).bind fun x4 => (open Classical in if P x0 x1 x2 x3 x4 then some (r (f x0 x1 x2 x3 x4)) else none)
  | _ => none
@[simp] theorem p5_app {α β γ δ ε ρ : Type} {a : Cd α} {b : Cd β} {c : Cd γ} {d : Cd δ} {e : Cd ε} {r : ρ → AV} {P : α → β → γ → δ → ε → Prop} {f : α → β → γ → δ → ε → ρ} {v0 v1 v2 v3 v4 : AV} : p5 a b c d e r P f [v0, v1, v2, v3, v4] = (a.dec v0).bind fun x0 => (b.dec v1).bind fun x1 => (c.dec v2).bind fun x2 => (d.dec v3).bind fun x3 => (e.dec v4).bind fun x4 => (open Classical in if P x0 x1 x2 x3 x4 then some (r (f x0 x1 x2 x3 x4)) else none) := id rfl
theorem still5 {E : Env} (hb : BaseOK E) (T : List (FuncId × Pol)) (hT : TabOK E T) {f : FuncId} {α β γ δ ε ρ : Type} {a : Cd α} {b : Cd β} {c : Cd γ} {d : Cd δ} {e : Cd ε} {r : ρ → AV} {P : α → β → γ → δ → ε → Prop} {F : α → β → γ → δ → ε → ρ}
    (h : ∀ x0 x1 x2 x3 x4, P x0 x1 x2 x3 x4 → Evs fun n _ => callF (E.with (polT T)) (n + 1) AV f [a.enc x0, b.enc x1, c.enc x2, d.enc x3, e.enc x4] [] (fun v G => A.freezeB true 64 G v) = some (r (F x0 x1 x2 x3 x4))) : PolOK E f (.still (p5 a b c d e r P F)) :=
  still_of hb T hT fun ar v hv => by
    unfold p5 at hv
    split at hv
    · simp only [Option.bind_eq_some_iff] at hv
      obtain ⟨x0, h0, x1, h1, x2, h2, x3, h3, x4, h4, hv⟩ := hv
      split at hv
      · rename_i hp
        cases hv
        rw [Cd.dec_some h0, Cd.dec_some h1, Cd.dec_some h2, Cd.dec_some h3, Cd.dec_some h4]
        exact h x0 x1 x2 x3 x4 hp
      · cases hv
    · cases hv
/-- A function of 6, where a condition holds. -/
noncomputable def p6 {α β γ δ ε ζ ρ : Type} (a : Cd α) (b : Cd β) (c : Cd γ) (d : Cd δ) (e : Cd ε) (f6 : Cd ζ) (r : ρ → AV) (P : α → β → γ → δ → ε → ζ → Prop) (f : α → β → γ → δ → ε → ζ → ρ) : List AV → Option AV
  | [v0, v1, v2, v3, v4, v5] => (a.dec v0).bind fun x0 => (b.dec v1).bind fun x1 => (c.dec v2).bind fun x2 => (d.dec v3).bind fun x3 => (e.dec v4).bind fun x4 => (f6.dec v5).bind fun x5 => (open Classical in if P x0 x1 x2 x3 x4 x5 then some (r (f x0 x1 x2 x3 x4 x5)) else none)
  | _ => none
@[simp] theorem p6_app {α β γ δ ε ζ ρ : Type} {a : Cd α} {b : Cd β} {c : Cd γ} {d : Cd δ} {e : Cd ε} {f6 : Cd ζ} {r : ρ → AV} {P : α → β → γ → δ → ε → ζ → Prop} {f : α → β → γ → δ → ε → ζ → ρ} {v0 v1 v2 v3 v4 v5 : AV} : p6 a b c d e f6 r P f [v0, v1, v2, v3, v4, v5] = (a.dec v0).bind fun x0 => (b.dec v1).bind fun x1 => (c.dec v2).bind fun x2 => (d.dec v3).bind fun x3 => (e.dec v4).bind fun x4 => (f6.dec v5).bind fun x5 => (open Classical in if P x0 x1 x2 x3 x4 x5 then some (r (f x0 x1 x2 x3 x4 x5)) else none) := id rfl
theorem still6 {E : Env} (hb : BaseOK E) (T : List (FuncId × Pol)) (hT : TabOK E T) {f : FuncId} {α β γ δ ε ζ ρ : Type} {a : Cd α} {b : Cd β} {c : Cd γ} {d : Cd δ} {e : Cd ε} {f6 : Cd ζ} {r : ρ → AV} {P : α → β → γ → δ → ε → ζ → Prop} {F : α → β → γ → δ → ε → ζ → ρ}
    (h : ∀ x0 x1 x2 x3 x4 x5, P x0 x1 x2 x3 x4 x5 → Evs fun n _ => callF (E.with (polT T)) (n + 1) AV f [a.enc x0, b.enc x1, c.enc x2, d.enc x3, e.enc x4, f6.enc x5] [] (fun v G => A.freezeB true 64 G v) = some (r (F x0 x1 x2 x3 x4 x5))) : PolOK E f (.still (p6 a b c d e f6 r P F)) :=
  still_of hb T hT fun ar v hv => by
    unfold p6 at hv
    split at hv
    · simp only [Option.bind_eq_some_iff] at hv
      obtain ⟨x0, h0, x1, h1, x2, h2, x3, h3, x4, h4, x5, h5, hv⟩ := hv
      split at hv
      · rename_i hp
        cases hv
        rw [Cd.dec_some h0, Cd.dec_some h1, Cd.dec_some h2, Cd.dec_some h3, Cd.dec_some h4, Cd.dec_some h5]
        exact h x0 x1 x2 x3 x4 x5 hp
      · cases hv
    · cases hv

/-! ### the codes of plain kinds -/
def cI (k : IntKind) : Cd Int := ⟨.int k, fun _ _ h => by simpa using h, fun _ => rfl⟩
def cU32 : Cd UInt32 := ⟨fun x => .int .u32 x.toNat, fun a b h => by
  have : (a.toNat : Int) = b.toNat := by simpa using h
  exact UInt32.toNat_inj.1 (by omega), fun _ => rfl⟩
def cB : Cd Bool := ⟨.bool, fun _ _ h => by simpa using h, fun _ => rfl⟩
def cS : Cd (List UInt8) := ⟨.str, fun _ _ h => by simpa using h, fun _ => rfl⟩

theorem map_inj {α β : Type} {f : α → β} (hf : ∀ a b, f a = f b → a = b) : ∀ {l m : List α}, l.map f = m.map f → l = m
  | [], [], _ => rfl
  | [], _ :: _, h => by simp at h
  | _ :: _, [], h => by simp at h
  | a :: l, b :: m, h => by
    simp only [List.map_cons, List.cons.injEq] at h
    rw [hf _ _ h.1, map_inj hf h.2]

/-- A slice: nil, or its elements. -/
def eL {α : Type} (sz : Nat) (e : α → AV) : Option (List α) → AV
  | none => .nils
  | some l => .sh sz (l.map e)
def cL {α : Type} (sz : Nat) (c : Cd α) : Cd (Option (List α)) := ⟨eL sz c.enc, fun a b h => by
  cases a <;> cases b <;> simp [eL] at h
  · rfl
  · rw [map_inj c.inj h], fun a => by cases a <;> rfl⟩
abbrev eU (k : IntKind) (n : Nat) : AV := .int k n

section
variable {α : Type} {sz : Nat} {e : α → AV} {H : Heap}
@[simp] theorem leaf_eL {o : Option (List α)} : (eL sz e o).leaf = true := by cases o <;> rfl
@[simp] theorem imm1_eL {o : Option (List α)} : (eL sz e o).imm1 = true := by cases o <;> rfl
@[simp] theorem imm_eL {o : Option (List α)} : (eL sz e o).imm = true := by cases o <;> rfl
@[simp] theorem cells_eL {o : Option (List α)} : (eL sz e o).cells = [eL sz e o] := by cases o <;> rfl
@[simp] theorem isDef_eL {o : Option (List α)} : (eL sz e o).isDef = true := by cases o <;> rfl
@[simp] theorem one_eL {o : Option (List α)} : (eL sz e o).one = true := by cases o <;> rfl
@[simp] theorem len_eL {o : Option (List α)} : A.len (eL sz e o) H = some (.int .i64 (o.getD []).length) := by cases o <;> simp [eL, A.len]
@[simp] theorem read_eL {o : Option (List α)} : A.read sz (eL sz e o) H = some ((o.getD []).map e) := by cases o <;> simp [eL, A.read]
theorem idx_eL {o : Option (List α)} {k : IntKind} {i : Nat} (h : i < (o.getD []).length) : A.idx sz (eL sz e o) (.int k (i : Int)) H = some (.rop (e ((o.getD [])[i])).cells) := by
  cases o with
  | none => simp at h
  | some l =>
    simp only [Option.getD_some] at h ⊢
    have hl : i < (l.map e).length := by simpa using h
    simp only [eL, A.idx]
    rw [if_pos ⟨by omega, by omega, trivial⟩]
    simp [h]
end

@[simp] theorem enc_cI (k : IntKind) (n : Int) : (cI k).enc n = .int k n := id rfl
@[simp] theorem enc_cU32 (x : UInt32) : cU32.enc x = .int .u32 x.toNat := id rfl
@[simp] theorem enc_cB (b : Bool) : cB.enc b = .bool b := id rfl
@[simp] theorem enc_cS (s : List UInt8) : cS.enc s = .str s := id rfl
@[simp] theorem enc_cL {α : Type} (sz : Nat) (c : Cd α) (o : Option (List α)) : (cL sz c).enc o = eL sz c.enc o := id rfl
@[simp] theorem dec_cI (k : IntKind) (n : Int) : (cI k).dec (.int k n) = some n := (cI k).dec_enc n
@[simp] theorem dec_cB (b : Bool) : cB.dec (.bool b) = some b := cB.dec_enc b
@[simp] theorem dec_cS (s : List UInt8) : cS.dec (.str s) = some s := cS.dec_enc s
@[simp] theorem dec_cU32 (x : UInt32) : cU32.dec (.int .u32 x.toNat) = some x := cU32.dec_enc x
@[simp] theorem dec_cL {α : Type} (sz : Nat) (c : Cd α) (o : Option (List α)) : (cL sz c).dec (eL sz c.enc o) = some o := (cL sz c).dec_enc o

end Go.Den

/- DEN, part Zq: calls whose answers were reckoned before, one by one. -/
namespace Go.Den
open Go.RowKit

/-- Given arguments and what is answered. -/
def knownF : List (List AV × AV) → List AV → Option AV
  | [], _ => none
  | (a, v) :: r, xs => bif AV.beqs a xs then some v else knownF r xs

def lookK : List (FuncId × List (List AV × AV)) → FuncId → Option (List (List AV × AV))
  | [], _ => none
  | (g, l) :: r, f => bif Nat.beq g f then some l else lookK r f

def knownPol (K : List (FuncId × List (List AV × AV))) (p : FuncId → Pol) (f : FuncId) : Pol :=
  match lookK K f with
  | some l => .still (knownF l)
  | none => p f

def Env.knows (E : Env) (K : List (FuncId × List (List AV × AV))) : Env := E.with (knownPol K E.pol)

/-- A call's answer, out of an empty small heap, as a value that does not change. -/
def reck (E : Env) (n : Nat) (f : FuncId) (a : List AV) : Option AV := callF E n AV f a [] fun v G => A.freezeB true 64 G v

def says (x : Option AV) (v : AV) : Bool :=
  match x with
  | some w => AV.beq w v
  | none => false

theorem says_eq {x : Option AV} {v : AV} (h : says x v = true) : x = some v := by
  unfold says at h
  split at h
  · rw [AV.beq_eq _ _ h]
  · cases h

def KnownAt (E : Env) (f : FuncId) : List (List AV × AV) → Prop
  | [] => True
  | (a, v) :: r => (∃ n, reck E n f a = some v) ∧ KnownAt E f r

def KnownAll (E : Env) : List (FuncId × List (List AV × AV)) → Prop
  | [] => True
  | (f, l) :: r => KnownAt E f l ∧ KnownAll E r

theorem knownAt_get {E : Env} {f : FuncId} : ∀ {l : List (List AV × AV)}, KnownAt E f l → ∀ {zs : List AV} {v : AV}, knownF l zs = some v → ∃ n, reck E n f zs = some v
  | [], _, _, _, h => by cases h
  | (a, w) :: r, hk, zs, v, h => by
    unfold knownF at h
    cases hb : AV.beqs a zs
    · rw [hb] at h
      exact knownAt_get hk.2 h
    · rw [hb] at h
      simp only [cond_true, Option.some.injEq] at h
      rw [← AV.beqs_eq _ _ hb, ← h]
      exact hk.1

theorem knownAll_get {E : Env} {f : FuncId} : ∀ {K : List (FuncId × List (List AV × AV))}, KnownAll E K → ∀ {l}, lookK K f = some l → KnownAt E f l
  | [], _, _, h => by cases h
  | (g, l') :: r, hk, l, h => by
    unfold lookK at h
    cases hb : Nat.beq g f
    · rw [hb] at h
      exact knownAll_get hk.2 h
    · rw [hb] at h
      simp only [cond_true, Option.some.injEq] at h
      rw [← Nat.eq_of_beq_eq_true hb, ← h]
      exact hk.1

theorem prims_pols {E : Env} (hp : ∀ f, E.pol f = .plain ∨ ∃ F, E.pol f = .prim F ∧ PrimOK E f F) (f : FuncId) : PolOK E f (E.pol f) := by
  rcases hp f with h | ⟨F, h, h2⟩
  · rw [h]; trivial
  · rw [h]; exact h2

theorem known_pols {E : Env} (hp : ∀ f, PolOK E f (E.pol f)) (hcf : ∀ n, CallOK E (callF E n)) {K : List (FuncId × List (List AV × AV))} (hK : KnownAll E K) (f : FuncId) : PolOK (E.knows K) f ((E.knows K).pol f) := by
  show PolOK (E.with (knownPol K E.pol)) f (knownPol K E.pol f)
  refine PolOK.to_with (E := E) ?_
  unfold knownPol
  split
  · rename_i l hl
    exact pure_prim (E := E) (E' := E) rfl rfl hcf fun zs v h => knownAt_get (knownAll_get hK hl) h
  · exact hp f

theorem known_calls {E : Env} (hE : EnvOK E) (hm : E.P.follows .mixedOrders = true) (hp : ∀ f, PolOK E f (E.pol f)) (hcf : ∀ n, CallOK E (callF E n)) {K : List (FuncId × List (List AV × AV))} (hK : KnownAll E K) (n : Nat) : CallOK (E.knows K) (callF (E.knows K) n) :=
  callF_pols (E := E.knows K) hE.with hm (known_pols hp hcf hK) n

end Go.Den
