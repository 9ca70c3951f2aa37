/- DEN, part Sc: how one reckons with functions written down in Den's words: 'from some number of steps on'; calls; loops; what the words come to. -/
import Derived.Test.YtikkpecdkdgmfaaDoorDenSa
import Derived.Test.YtikkpecdkdgmfaaDoorDenM
namespace Go.Den

/-- From some number of steps on. -/
def Evs (P : Nat → Nat → Prop) : Prop := ∃ N, ∀ n m, N ≤ n → N ≤ m → P n m

theorem Evs.of {P : Nat → Nat → Prop} (h : ∀ n m, P n m) : Evs P := ⟨0, fun n m _ _ => h n m⟩
theorem Evs.and {P Q : Nat → Nat → Prop} (h : Evs P) (g : Evs Q) : Evs fun n m => P n m ∧ Q n m := by
  obtain ⟨N, h⟩ := h
  obtain ⟨M, g⟩ := g
  exact ⟨max N M, fun n m h1 h2 => ⟨h n m (by omega) (by omega), g n m (by omega) (by omega)⟩⟩
theorem Evs.mono {P Q : Nat → Nat → Prop} (h : Evs P) (g : ∀ n m, P n m → Q n m) : Evs Q := by
  obtain ⟨N, h⟩ := h
  exact ⟨N, fun n m h1 h2 => g n m (h n m h1 h2)⟩

/-- The call returns that value and leaves that small heap. -/
def Does (E : Env) (f : FuncId) (args : List AV) (H : Heap) (v : AV) (H' : Heap) : Prop :=
  ∃ N, ∀ n, N ≤ n → ∀ (R : Type) (k : AV → Heap → Option R), callF E n R f args H k = k v H'

theorem Does.intro {E : Env} {f : FuncId} {args : List AV} {H : Heap} {v : AV} {H' : Heap} (h : Evs fun n _ => callF E (n + 1) (AV × Heap) f args H (fun v H => some (v, H)) = some (v, H')) : Does E f args H v H' := by
  obtain ⟨N, h⟩ := h
  refine ⟨N + 1, fun n hn R k => ?_⟩
  obtain ⟨n, rfl⟩ : ∃ m, n = m + 1 := ⟨n - 1, by omega⟩
  rw [callF_nat (E := E) (n + 1) R f args H k, h n N (by omega) (Nat.le_refl _)]
  rfl

theorem Evs.call {E : Env} {R : Type} {g : FuncId} {args : List AV} {H : Heap} {v : AV} {H' : Heap} {k : Nat → Nat → AV → Heap → Option R} {r : Option R} (hg : Does E g args H v H') (h : Evs fun n m => k n m v H' = r) :
    Evs fun n m => callF E n R g args H (k n m) = r := by
  obtain ⟨N, hg⟩ := hg
  obtain ⟨M, h⟩ := h
  exact ⟨max N M, fun n m h1 h2 => (hg n (by omega) R (k n m)).trans (h n m (by omega) (by omega))⟩

/-- What a call does is at hand. -/
theorem Evs.with {E : Env} {g : FuncId} {args : List AV} {H : Heap} {v : AV} {H' : Heap} {P : Nat → Nat → Prop} (hg : Does E g args H v H') (h : Evs fun n m => (∀ (R : Type) (k : AV → Heap → Option R), callF E n R g args H k = k v H') → P n m) : Evs P := by
  obtain ⟨N, hg⟩ := hg
  obtain ⟨M, h⟩ := h
  exact ⟨max N M, fun n m h1 h2 => h n m (by omega) (by omega) (hg n (by omega))⟩

/-- A loop ends so. -/
def LDoes (L : Nat → Nat → Live → Heap → Option (Nat × Live × Heap)) (l : Live) (H : Heap) (i : Nat) (l' : Live) (H' : Heap) : Prop :=
  ∃ N, ∀ n m, N ≤ n → N ≤ m → L n m l H = some (i, l', H')

theorem LDoes.step {L : Nat → Nat → Live → Heap → Option (Nat × Live × Heap)} {l : Live} {H : Heap} {i : Nat} {l' : Live} {H' : Heap} (h : Evs fun n m => L n (m + 1) l H = some (i, l', H')) : LDoes L l H i l' H' := by
  obtain ⟨N, h⟩ := h
  refine ⟨N + 1, fun n m h1 h2 => ?_⟩
  obtain ⟨m, rfl⟩ : ∃ k, m = k + 1 := ⟨m - 1, by omega⟩
  exact h n m (by omega) (by omega)

theorem Evs.rec {L : Nat → Nat → Live → Heap → Option (Nat × Live × Heap)} {l : Live} {H : Heap} {i : Nat} {l' : Live} {H' : Heap} (h : LDoes L l H i l' H') : Evs fun n m => L n m l H = some (i, l', H') := h

theorem Evs.loop {L : Nat → Nat → Live → Heap → Option (Nat × Live × Heap)} {R : Type} {l : Live} {H : Heap} {i : Nat} {l' : Live} {H' : Heap} {k : Nat → Nat → Nat → Live → Heap → Option R} {r : Option R}
    (hl : LDoes L l H i l' H') (h : Evs fun n m => k n m i l' H' = r) : Evs fun n m => bindX (L n n l H) (k n m) = r := by
  obtain ⟨N, hl⟩ := hl
  obtain ⟨M, h⟩ := h
  exact ⟨max N M, fun n m h1 h2 => (congrArg (fun x => bindX x (k n m)) (hl n n (by omega) (by omega))).trans (h n m (by omega) (by omega))⟩

/-- What a loop does is at hand. -/
theorem Evs.withL {L : Nat → Nat → Live → Heap → Option (Nat × Live × Heap)} {l : Live} {H : Heap} {i : Nat} {l' : Live} {H' : Heap} {P : Nat → Nat → Prop} (hl : LDoes L l H i l' H') (h : Evs fun n m => L n n l H = some (i, l', H') → L n m l H = some (i, l', H') → P n m) : Evs P := by
  obtain ⟨N, hl⟩ := hl
  obtain ⟨M, h⟩ := h
  exact ⟨max N M, fun n m h1 h2 => h n m (by omega) (by omega) (hl n n (by omega) (by omega)) (hl n m (by omega) (by omega))⟩

section
variable {R : Type}
@[simp] theorem withV_of (v : AV) (k : AV → Option R) : withV (some v) k = k v := id rfl
@[congr] theorem withV_congr {x y : Option AV} {k : AV → Option R} (h : x = y) : withV x k = withV y k := by rw [h]
@[simp] theorem withL_some (v : List AV) (k : List AV → Option R) : withL (some v) k = k v := id rfl
@[congr] theorem withL_congr {x y : Option (List AV)} {k : List AV → Option R} (h : x = y) : withL x k = withL y k := by rw [h]
@[simp] theorem withH_some (v : Heap) (k : Heap → Option R) : withH (some v) k = k v := id rfl
@[congr] theorem withH_congr {x y : Option Heap} {k : Heap → Option R} (h : x = y) : withH x k = withH y k := by rw [h]
@[simp] theorem withVH_some (v : AV) (H : Heap) (k : AV → Heap → Option R) : withVH (some (v, H)) k = k v H := id rfl
@[congr] theorem withVH_congr {x y : Option (AV × Heap)} {k : AV → Heap → Option R} (h : x = y) : withVH x k = withVH y k := by rw [h]
@[simp] theorem withP_some (v : AV) (H : Heap) (k : AV → Heap → Option R) : withP (some (v, H)) k = k v H := id rfl
@[congr] theorem withP_congr {x y : Option (AV × Heap)} {k : AV → Heap → Option R} (h : x = y) : withP x k = withP y k := by rw [h]
@[simp] theorem withB_some (v : Bool) (k : Bool → Option R) : withB (some v) k = k v := id rfl
@[congr] theorem withB_congr {x y : Option Bool} {k : Bool → Option R} (h : x = y) : withB x k = withB y k := by rw [h]
@[simp] theorem bindX_some (i : Nat) (l : Live) (H : Heap) (k : Nat → Live → Heap → Option R) : bindX (some (i, l, H)) k = k i l H := id rfl
@[congr] theorem bindX_congr {x y : Option (Nat × Live × Heap)} {k : Nat → Live → Heap → Option R} (h : x = y) : bindX x k = bindX y k := by rw [h]
@[simp] theorem bindV_eq (v : AV) (k : AV → R) : bindV v k = k v := id rfl
@[simp] theorem bindH_eq (v : Heap) (k : Heap → R) : bindH v k = k v := id rfl
@[simp] theorem bindC_eq (v : List AV) (k : List AV → R) : bindC v k = k v := id rfl
@[congr] theorem bindV_congr {x y : AV} {k : AV → R} (h : x = y) : bindV x k = bindV y k := by rw [h]
@[congr] theorem bindH_congr {x y : Heap} {k : Heap → R} (h : x = y) : bindH x k = bindH y k := by rw [h]
@[congr] theorem bindC_congr {x y : List AV} {k : List AV → R} (h : x = y) : bindC x k = bindC y k := by rw [h]
@[congr] theorem callF_congr {E : Env} {n : Nat} {g : FuncId} {a b : List AV} {H G : Heap} {k : AV → Heap → Option R} (h : a = b) (h2 : H = G) : callF E n R g a H k = callF E n R g b G k := by rw [h, h2]
@[simp] theorem test_bool (b : Bool) (x y : Option R) : A.test (.bool b) x y = if b = true then x else y := by cases b <;> rfl
@[simp] theorem asG_bool (w b : Bool) : A.asG w (.bool b) = some b := id rfl
@[simp] theorem asG_skip (w : Bool) : A.asG w (.tup []) = some (!w) := id rfl
@[simp] theorem guardB_tt {α : Type} (x y : α) : guardB true true x y = x := id rfl
@[simp] theorem guardB_ff {α : Type} (x y : α) : guardB false false x y = x := id rfl
@[simp] theorem guardB_tf {α : Type} (x y : α) : guardB true false x y = y := id rfl
@[simp] theorem guardB_ft {α : Type} (x y : α) : guardB false true x y = y := id rfl
@[congr] theorem guardB_congr {α : Type} {b c w : Bool} {x y : α} (h : b = c) : guardB b w x y = guardB c w x y := by rw [h]
@[simp] theorem altN_same (i : Nat) (x y : Option R) : altN i i x y = x := by simp [altN]
@[simp] theorem altN_01 (x y : Option R) : altN 0 1 x y = y := id rfl
@[simp] theorem altN_10 (x y : Option R) : altN 1 0 x y = y := id rfl
@[simp] theorem altN_20 (x y : Option R) : altN 2 0 x y = y := id rfl
@[simp] theorem altN_21 (x y : Option R) : altN 2 1 x y = y := id rfl
@[simp] theorem altN_30 (x y : Option R) : altN 3 0 x y = y := id rfl
@[simp] theorem altN_31 (x y : Option R) : altN 3 1 x y = y := id rfl
@[simp] theorem altN_32 (x y : Option R) : altN 3 2 x y = y := id rfl
@[congr] theorem altN_congr {i j k : Nat} {x y : Option R} (h : i = k) : altN i j x y = altN k j x y := by rw [h]
@[simp] theorem chkD_true (x : Option R) : chkD true x = x := id rfl
@[congr] theorem chkD_congr {b c : Bool} {x : Option R} (h : b = c) : chkD b x = chkD c x := by rw [h]
@[congr] theorem test_congr {v w : AV} {x y : Option R} (h : v = w) : A.test v x y = A.test w x y := by rw [h]
@[simp] theorem cond_dec (p : Prop) [Decidable p] (x y : R) : (bif decide p then x else y) = if p then x else y := by
  by_cases h : p <;> simp [h]
@[simp] theorem asB_bool (b : Bool) : A.asB (.bool b) = some b := id rfl
@[simp] theorem extractK_tup (vs : List AV) (i : Nat) (k : AV → Option R) : extractK (.tup vs) i k = withV vs[i]? k := id rfl
@[congr] theorem extractK_congr {v w : AV} {i : Nat} {k : AV → Option R} (h : v = w) : extractK v i k = extractK w i k := by rw [h]
end

namespace A
variable {P : Program} {t : TypeId} {c : Bool} {H : Heap} {k : IntKind} {a b : Int}
@[simp] theorem bin_add : A.bin P .add t (.int k a) (.int k b) c H = some (.int k (k.wrap (a + b))) := by simp [A.bin, A.binInt]
@[simp] theorem bin_sub : A.bin P .sub t (.int k a) (.int k b) c H = some (.int k (k.wrap (a - b))) := by simp [A.bin, A.binInt]
@[simp] theorem bin_mul : A.bin P .mul t (.int k a) (.int k b) c H = some (.int k (k.wrap (a * b))) := by simp [A.bin, A.binInt]
@[simp] theorem bin_quo : A.bin P .quo t (.int k a) (.int k b) c H = if b = 0 then none else some (.int k (k.wrap (a.tdiv b))) := by simp [A.bin, A.binInt]
@[simp] theorem bin_rem : A.bin P .rem t (.int k a) (.int k b) c H = if b = 0 then none else some (.int k (a.tmod b)) := by simp [A.bin, A.binInt]
@[simp] theorem bin_eql : A.bin P .eql t (.int k a) (.int k b) c H = some (.bool (decide (a = b))) := by
  simp only [A.bin, A.binInt]
  by_cases h : a = b <;> simp [h]
@[simp] theorem bin_neq : A.bin P .neq t (.int k a) (.int k b) c H = some (.bool (decide (a ≠ b))) := by
  simp only [A.bin, A.binInt]
  by_cases h : a = b <;> simp [h]
@[simp] theorem bin_lss : A.bin P .lss t (.int k a) (.int k b) c H = some (.bool (decide (a < b))) := by simp [A.bin, A.binInt]
@[simp] theorem bin_leq : A.bin P .leq t (.int k a) (.int k b) c H = some (.bool (decide (a ≤ b))) := by simp [A.bin, A.binInt]
@[simp] theorem bin_gtr : A.bin P .gtr t (.int k a) (.int k b) c H = some (.bool (decide (a > b))) := by simp [A.bin, A.binInt]
@[simp] theorem bin_geq : A.bin P .geq t (.int k a) (.int k b) c H = some (.bool (decide (a ≥ b))) := by simp [A.bin, A.binInt]
theorem bin_beq (ht : P.underlying t = some .bool) (x y : Bool) : A.bin P .eql t (.bool x) (.bool y) c H = some (.bool (x == y)) := by simp [A.bin, ht]
theorem bin_bne (ht : P.underlying t = some .bool) (x y : Bool) : A.bin P .neq t (.bool x) (.bool y) c H = some (.bool !(x == y)) := by simp [A.bin, ht]
@[simp] theorem un_not (x : Bool) : A.un .not (.bool x) = some (.bool !x) := id rfl
@[simp] theorem pick_bool (x : Bool) (v w : AV) : A.pick (.bool x) v w = some (bif x then v else w) := id rfl
@[simp] theorem maxv_int : A.maxv (.int k a) (.int k b) = some (.int k (if b > a then b else a)) := by simp [A.maxv]
@[simp] theorem minv_int : A.minv (.int k a) (.int k b) = some (.int k (if b < a then b else a)) := by simp [A.minv]
end A

theorem wrap_id {k : IntKind} {x : Int} (h1 : k.min ≤ x) (h2 : x ≤ k.max) : k.wrap x = x := by
  cases k <;> simp [IntKind.wrap, IntKind.bits, IntKind.signed, IntKind.min, IntKind.max] at h1 h2 ⊢ <;> omega
theorem wrap_i64 {x : Int} (h1 : -9223372036854775808 ≤ x) (h2 : x ≤ 9223372036854775807) : IntKind.wrap .i64 x = x := wrap_id h1 h2
theorem wrap_i32 {x : Int} (h1 : -2147483648 ≤ x) (h2 : x ≤ 2147483647) : IntKind.wrap .i32 x = x := wrap_id h1 h2
theorem wrap_u8 {x : Int} (h1 : 0 ≤ x) (h2 : x ≤ 255) : IntKind.wrap .u8 x = x := wrap_id h1 h2
theorem wrap_u16 {x : Int} (h1 : 0 ≤ x) (h2 : x ≤ 65535) : IntKind.wrap .u16 x = x := wrap_id h1 h2
theorem wrap_u32 {x : Int} (h1 : 0 ≤ x) (h2 : x ≤ 4294967295) : IntKind.wrap .u32 x = x := wrap_id h1 h2
theorem wrap_u64 {x : Int} (h1 : 0 ≤ x) (h2 : x ≤ 18446744073709551615) : IntKind.wrap .u64 x = x := wrap_id h1 h2

section
variable {H : Heap}
@[simp] theorem A.load_rop (ag : Bool) (sz : Nat) (cs : List AV) : A.load ag sz (.rop cs) H = A.ofList ag sz cs 0 := id rfl
@[simp] theorem A.ofList_one (sz : Nat) (cs : List AV) (off : Nat) : A.ofList false sz cs off = cs[off]? := id rfl
theorem A.ofList_agg {sz : Nat} {cs : List AV} {off : Nat} (h : off + sz ≤ cs.length) : A.ofList true sz cs off = some (.agg ((cs.drop off).take sz)) := by
  simp [A.ofList, h]
@[simp] theorem A.fa_rop (off : Nat) (cs : List AV) : A.fa off (.rop cs) H = some (.rop (cs.drop off)) := id rfl
@[simp] theorem A.nilCheck_rop (cs : List AV) : A.nilCheck (.rop cs) H = some (.rop cs) := id rfl
@[simp] theorem A.field_agg (ag : Bool) (sz off : Nat) (cs : List AV) : A.field ag sz off (.agg cs) = A.ofList ag sz cs off := id rfl
@[simp] theorem AV.cells_int (k : IntKind) (n : Int) : (AV.int k n).cells = [.int k n] := id rfl
@[simp] theorem AV.cells_bool (b : Bool) : (AV.bool b).cells = [.bool b] := id rfl
@[simp] theorem AV.cells_str (s : List UInt8) : (AV.str s).cells = [.str s] := id rfl
@[simp] theorem AV.cells_agg (cs : List AV) : (AV.agg cs).cells = cs := id rfl
@[simp] theorem AV.cells_sh (z : Nat) (cs : List AV) : (AV.sh z cs).cells = [.sh z cs] := id rfl
@[simp] theorem AV.cells_nils : AV.nils.cells = [.nils] := id rfl
@[simp] theorem AV.isDef_int (k : IntKind) (n : Int) : (AV.int k n).isDef = true := id rfl
@[simp] theorem AV.isDef_bool (b : Bool) : (AV.bool b).isDef = true := id rfl
@[simp] theorem AV.isDef_str (s : List UInt8) : (AV.str s).isDef = true := id rfl
@[simp] theorem AV.isDef_agg (cs : List AV) : (AV.agg cs).isDef = true := id rfl
@[simp] theorem AV.isDef_sh (z : Nat) (cs : List AV) : (AV.sh z cs).isDef = true := id rfl
@[simp] theorem AV.isDef_nils : AV.nils.isDef = true := id rfl
@[simp] theorem AV.heapy_int (k : IntKind) (n : Int) : (AV.int k n).heapy = false := id rfl
@[simp] theorem AV.heapy_bool (b : Bool) : (AV.bool b).heapy = false := id rfl
@[simp] theorem AV.heapy_str (s : List UInt8) : (AV.str s).heapy = false := id rfl
@[simp] theorem AV.heapy_agg (cs : List AV) : (AV.agg cs).heapy = !(cs.all AV.leaf) := id rfl
@[simp] theorem AV.heapy_sh (z : Nat) (cs : List AV) : (AV.sh z cs).heapy = false := id rfl
@[simp] theorem AV.heapy_rop (cs : List AV) : (AV.rop cs).heapy = false := id rfl
@[simp] theorem AV.heapy_nils : AV.nils.heapy = false := id rfl
@[simp] theorem AV.heapy_ptr (a b c d : Nat) : (AV.ptr a b c d).heapy = true := id rfl
@[simp] theorem AV.heapy_sl (a b c d e : Nat) : (AV.sl a b c d e).heapy = true := id rfl
@[simp] theorem AV.leaf_int {k : IntKind} {n : Int} : (AV.int k n).leaf = true := id rfl
@[simp] theorem AV.leaf_bool {b : Bool} : (AV.bool b).leaf = true := id rfl
@[simp] theorem AV.leaf_str {s : List UInt8} : (AV.str s).leaf = true := id rfl
@[simp] theorem AV.leaf_nilp : (AV.nilp).leaf = true := id rfl
@[simp] theorem AV.leaf_nils : (AV.nils).leaf = true := id rfl
@[simp] theorem AV.leaf_nilf : (AV.nilf).leaf = true := id rfl
@[simp] theorem AV.leaf_nili : (AV.nili).leaf = true := id rfl
@[simp] theorem AV.leaf_nilm : (AV.nilm).leaf = true := id rfl
@[simp] theorem AV.leaf_rop {cs : List AV} : (AV.rop cs).leaf = true := id rfl
@[simp] theorem AV.leaf_sh {z : Nat} {cs : List AV} : (AV.sh z cs).leaf = true := id rfl
@[simp] theorem AV.leaf_ptr {a b c d : Nat} : (AV.ptr a b c d).leaf = false := id rfl
@[simp] theorem AV.leaf_sl {a b c d e : Nat} : (AV.sl a b c d e).leaf = false := id rfl
@[simp] theorem AV.leaf_agg {cs : List AV} : (AV.agg cs).leaf = false := id rfl
@[simp] theorem AV.leaf_tup {cs : List AV} : (AV.tup cs).leaf = false := id rfl
@[simp] theorem AV.imm_int {k : IntKind} {n : Int} : (AV.int k n).imm = true := id rfl
@[simp] theorem AV.imm_bool {b : Bool} : (AV.bool b).imm = true := id rfl
@[simp] theorem AV.imm_str {s : List UInt8} : (AV.str s).imm = true := id rfl
@[simp] theorem AV.imm_nilp : (AV.nilp).imm = true := id rfl
@[simp] theorem AV.imm_nils : (AV.nils).imm = true := id rfl
@[simp] theorem AV.imm_nilf : (AV.nilf).imm = true := id rfl
@[simp] theorem AV.imm_nili : (AV.nili).imm = true := id rfl
@[simp] theorem AV.imm_nilm : (AV.nilm).imm = true := id rfl
@[simp] theorem AV.imm_rop {cs : List AV} : (AV.rop cs).imm = true := id rfl
@[simp] theorem AV.imm_sh {z : Nat} {cs : List AV} : (AV.sh z cs).imm = true := id rfl
@[simp] theorem AV.imm_ptr {a b c d : Nat} : (AV.ptr a b c d).imm = false := id rfl
@[simp] theorem AV.imm_sl {a b c d e : Nat} : (AV.sl a b c d e).imm = false := id rfl
@[simp] theorem AV.imm_agg {cs : List AV} : (AV.agg cs).imm = cs.all AV.leaf := id rfl
@[simp] theorem AV.imm_tup {cs : List AV} : (AV.tup cs).imm = cs.all AV.imm1 := id rfl
@[simp] theorem AV.imm1_int {k : IntKind} {n : Int} : (AV.int k n).imm1 = true := id rfl
@[simp] theorem AV.imm1_bool {b : Bool} : (AV.bool b).imm1 = true := id rfl
@[simp] theorem AV.imm1_str {s : List UInt8} : (AV.str s).imm1 = true := id rfl
@[simp] theorem AV.imm1_nilp : (AV.nilp).imm1 = true := id rfl
@[simp] theorem AV.imm1_nils : (AV.nils).imm1 = true := id rfl
@[simp] theorem AV.imm1_nilf : (AV.nilf).imm1 = true := id rfl
@[simp] theorem AV.imm1_nili : (AV.nili).imm1 = true := id rfl
@[simp] theorem AV.imm1_nilm : (AV.nilm).imm1 = true := id rfl
@[simp] theorem AV.imm1_rop {cs : List AV} : (AV.rop cs).imm1 = true := id rfl
@[simp] theorem AV.imm1_sh {z : Nat} {cs : List AV} : (AV.sh z cs).imm1 = true := id rfl
@[simp] theorem AV.imm1_ptr {a b c d : Nat} : (AV.ptr a b c d).imm1 = false := id rfl
@[simp] theorem AV.imm1_sl {a b c d e : Nat} : (AV.sl a b c d e).imm1 = false := id rfl
@[simp] theorem AV.imm1_agg {cs : List AV} : (AV.agg cs).imm1 = cs.all AV.leaf := id rfl
@[simp] theorem AV.imm1_tup {cs : List AV} : (AV.tup cs).imm1 = cs.all AV.leaf := id rfl
@[simp] theorem sameV_some (v w : AV) : sameV (some (.val w)) v = AV.beq v w := id rfl
@[simp] theorem actsB_some (b want : Bool) : actsB (some b) want = (b == want) := id rfl

mutual
theorem AV.beq_refl : ∀ v : AV, AV.beq v v = true
  | .undef | .nilp | .nils | .nilf | .nili | .nilm => rfl
  | .bool b => by simp [AV.beq]
  | .int k n => by simp [AV.beq]
  | .str s => by simp [AV.beq]
  | .ptr a b c d => by simp [AV.beq]
  | .sl a b c d e => by simp [AV.beq]
  | .rop cs => by simp [AV.beq, AV.beqs_refl cs]
  | .sh z cs => by simp [AV.beq, AV.beqs_refl cs]
  | .agg cs => by simp [AV.beq, AV.beqs_refl cs]
  | .tup cs => by simp [AV.beq, AV.beqs_refl cs]
  | .fn f a b => by simp [AV.beq, AV.beqs_refl a, AV.beqs_refl b]
  | .iface t v => by simp [AV.beq, AV.beq_refl v]
  | .mp a => by simp [AV.beq]
  | .it a => by simp [AV.beq]
theorem AV.beqs_refl : ∀ vs : List AV, AV.beqs vs vs = true
  | [] => rfl
  | v :: vs => by simp [AV.beqs, AV.beq_refl v, AV.beqs_refl vs]
end
attribute [simp] AV.beq_refl
end

/-- What stands at a place of the small heap, behind a step. -/
theorem get_set_same {H : Heap} {b : Nat} {x y : HObj} (h : H[b]? = some y) : (H.set b x)[b]? = some x := by
  obtain ⟨hb, _⟩ := List.getElem?_eq_some_iff.1 h
  simp [hb]
theorem get_set_ne {H : Heap} {b c : Nat} {x : HObj} (h : b ≠ c) : (H.set b x)[c]? = H[c]? := by
  rw [List.getElem?_set_ne h]
theorem get_app {H : Heap} {c : Nat} {y : HObj} {l : Heap} (h : H[c]? = some y) : (H ++ l)[c]? = some y := by
  obtain ⟨hb, _⟩ := List.getElem?_eq_some_iff.1 h
  rw [List.getElem?_append_left hb, h]
theorem get_new {H : Heap} {x : HObj} : (H ++ [x])[H.length]? = some x := by simp
theorem lt_of_get {H : Heap} {b : Nat} {y : HObj} (h : H[b]? = some y) : b < H.length := (List.getElem?_eq_some_iff.1 h).1

end Go.Den
