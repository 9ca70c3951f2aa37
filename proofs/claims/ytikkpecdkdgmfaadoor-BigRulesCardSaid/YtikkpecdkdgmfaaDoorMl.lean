/- Texts put together: Sb7, Sb8, Sb9, Sb10, Sb, BgO, Big1, Big2. -/
import Derived.Test.YtikkpecdkdgmfaaDoorMk

/- What each function does, in Den's words. -/
set_option maxRecDepth 100000
namespace Go.Proofs.YtikkpecdkdgmfaaDoor
open Go Go.Den

theorem L46_0_step (pol : FuncId → Pol) (n m : Nat) (t0 t1 t5 t6 t7 : AV) (H : Heap) : L46_0 pol n (m + 1) ⟨[t0, t1, t5, t6, t7], []⟩ H =
  (withV (A.len t0 H) fun t10 =>
  withV (A.len t1 H) fun t12 =>
  withV (List.foldlM A.maxv t10 [t12]) fun t13 =>
  withV (A.bin base.P .lss 3 t7 t13 false H) fun t14 =>
  withB (A.asG false t14) fun b8 => withP (guardB b8 false (
   some (t6, H))
   (some (.tup [], H))) fun t16 H4 =>
  withB (A.asG false t14) fun b9 => withP (guardB b9 false (
   withV (A.bin base.P .gtr 63 t16 (AV.int .u64 0) true H4) fun t17 =>
   some (t17, H4))
   (some (.tup [], H4))) fun t17 H5 =>
  withV (A.pick t14 (AV.bool true) t17) fun t18 =>
  A.test t18 (
  withV (A.len t0 H5) fun t23 =>
  withV (A.bin base.P .lss 3 t7 t23 false H5) fun t24 =>
  bindX (A.test t24 (
   withV (A.idx 1 t0 t7 H5) fun t28 =>
    withV (A.load false 1 t28 H5) fun t29 =>
    withV (Go.Den.convert base 64 63 t29) fun t30 =>
    withV (A.bin base.P .add 63 t6 t30 false H5) fun t31 =>
    some (0, ⟨[t0, t1, t5, t31, t7], []⟩, H5))
   (
   some (0, ⟨[t0, t1, t5, t6, t7], []⟩, H5))) fun i7 l7 H7 =>
  altN i7 0 (
  bindV (l7.vs.getD 0 .undef) fun t0 => bindV (l7.vs.getD 1 .undef) fun t1 => bindV (l7.vs.getD 2 .undef) fun t5 => bindV (l7.vs.getD 3 .undef) fun t6 => bindV (l7.vs.getD 4 .undef) fun t7 => 
  withV (A.len t1 H7) fun t34 =>
  withV (A.bin base.P .lss 3 t7 t34 false H7) fun t35 =>
  bindX (A.test t35 (
   withV (A.idx 1 t1 t7 H7) fun t39 =>
    withV (A.load false 1 t39 H7) fun t40 =>
    withV (Go.Den.convert base 64 63 t40) fun t41 =>
    withV (A.bin base.P .add 63 t6 t41 false H7) fun t42 =>
    some (0, ⟨[t0, t1, t5, t42, t7], []⟩, H7))
   (
   some (0, ⟨[t0, t1, t5, t6, t7], []⟩, H7))) fun i9 l9 H9 =>
  altN i9 0 (
  bindV (l9.vs.getD 0 .undef) fun t0 => bindV (l9.vs.getD 1 .undef) fun t1 => bindV (l9.vs.getD 2 .undef) fun t5 => bindV (l9.vs.getD 3 .undef) fun t6 => bindV (l9.vs.getD 4 .undef) fun t7 => 
  withV (Go.Den.convert base 63 64 t6) fun t45 =>
  withL (A.fillElems 1 (List.replicate 1 (AV.int .u32 0)) [(0, 1, t45)]) fun es =>
  bindV (.sl H9.length 0 0 es.length es.length) fun t46 => bindH (H9 ++ [.row 0 1 64 es]) fun H10 =>
  withL (newsOf base 1 22 t46 H10) fun es =>
  withVH (A.append 1 4 64 t5 es H10) fun t47 H11 =>
  withV (A.bin base.P .shr 63 t6 (AV.int .u64 32) true H11) fun t49 =>
  withV (A.bin base.P .add 3 t7 (AV.int .i64 1) true H11) fun t20 =>
  L46_0 pol n m ⟨[t0, t1, t47, t49, t20], []⟩ H11)
  (none))
  (none))
  (
  some (0, ⟨[t5], []⟩, H5))) := by kernel_rfl
/-- tenement/big.plus -/
theorem S46 (pol : FuncId → Pol) (n : Nat) (R : Type) (k : AV → Heap → Option R) (a0 a1 : AV) (H : Heap) : callF (base.with pol) (n + 1) R 46 [a0, a1] H k =
  (bindX (L46_0 pol n n ⟨[a0, a1, AV.nils, (AV.int .u64 0), (AV.int .i64 0)], []⟩ H) fun i1 l1 H1 =>
  altN i1 0 (
  bindV (l1.vs.getD 0 .undef) fun t5 => 
  k t5 H1)
  (none)) := by kernel_rfl
theorem L47_0_step (pol : FuncId → Pol) (n m : Nat) (t1 t5 t6 t13 t14 : AV) (H : Heap) : L47_0 pol n (m + 1) ⟨[t1, t5, t6, t13, t14], []⟩ H =
  (withV (A.bin base.P .lss 3 t14 t13 false H) fun t15 =>
  A.test t15 (
  withV (A.len t1 H) fun t20 =>
  withV (A.bin base.P .lss 3 t14 t20 false H) fun t21 =>
  bindX (A.test t21 (
   withV (A.idx 1 t1 t14 H) fun t25 =>
    withV (A.load false 1 t25 H) fun t26 =>
    withV (Go.Den.convert base 64 63 t26) fun t27 =>
    withV (A.bin base.P .add 63 t6 t27 false H) fun t28 =>
    some (0, ⟨[t1, t5, t14, t28, t13, t14], []⟩, H))
   (
   some (0, ⟨[t1, t5, t14, t6, t13, t14], []⟩, H))) fun i2 l2 H2 =>
  altN i2 0 (
  bindV (l2.vs.getD 0 .undef) fun t1 => bindV (l2.vs.getD 1 .undef) fun t5 => bindV (l2.vs.getD 2 .undef) fun t7 => bindV (l2.vs.getD 3 .undef) fun t8 => bindV (l2.vs.getD 4 .undef) fun t13 => bindV (l2.vs.getD 5 .undef) fun t14 => 
  withV (A.idx 1 t5 t7 H2) fun t31 =>
  withV (A.load false 1 t31 H2) fun t32 =>
  withV (Go.Den.convert base 64 63 t32) fun t33 =>
  withV (A.bin base.P .lss 63 t33 t8 false H2) fun t36 =>
  bindX (A.test t36 (
   withV (A.bin base.P .add 63 t33 (AV.int .u64 4294967296) true H2) fun t38 =>
    some (0, ⟨[t1, t5, (AV.int .u64 1), t7, t8, t38, t13, t14], []⟩, H2))
   (
   some (0, ⟨[t1, t5, (AV.int .u64 0), t7, t8, t33, t13, t14], []⟩, H2))) fun i3 l3 H3 =>
  altN i3 0 (
  bindV (l3.vs.getD 0 .undef) fun t1 => bindV (l3.vs.getD 1 .undef) fun t5 => bindV (l3.vs.getD 2 .undef) fun t6 => bindV (l3.vs.getD 3 .undef) fun t7 => bindV (l3.vs.getD 4 .undef) fun t8 => bindV (l3.vs.getD 5 .undef) fun t9 => bindV (l3.vs.getD 6 .undef) fun t13 => bindV (l3.vs.getD 7 .undef) fun t14 => 
  withV (A.bin base.P .sub 63 t9 t8 false H3) fun t43 =>
  withV (Go.Den.convert base 63 64 t43) fun t44 =>
  withV (A.idx 1 t5 t7 H3) fun t45 =>
  withH (A.store 1 t45 t44 H3) fun H4 =>
  withV (A.bin base.P .add 3 t14 (AV.int .i64 1) true H4) fun t46 =>
  L47_0 pol n m ⟨[t1, t5, t6, t13, t46], []⟩ H4)
  (none))
  (none))
  (
  some (0, ⟨[t5], []⟩, H))) := by kernel_rfl
/-- tenement/big.less -/
theorem S47 (pol : FuncId → Pol) (n : Nat) (R : Type) (k : AV → Heap → Option R) (a0 a1 : AV) (H : Heap) : callF (base.with pol) (n + 1) R 47 [a0, a1] H k =
  (cl base pol n 54 [a0] H fun t11 H1 =>
  withV (A.len t11 H1) fun t13 =>
  bindX (L47_0 pol n n ⟨[a1, t11, (AV.int .u64 0), t13, (AV.int .i64 0)], []⟩ H1) fun i3 l3 H3 =>
  altN i3 0 (
  bindV (l3.vs.getD 0 .undef) fun t5 => 
  k t5 H3)
  (none)) := by kernel_rfl
theorem L48_0_step (pol : FuncId → Pol) (n m : Nat) (t0 t1 t5 t6 t7 : AV) (H : Heap) : L48_0 pol n (m + 1) ⟨[t0, t1, t5, t6, t7], []⟩ H =
  (withV (A.len t0 H) fun t11 =>
  withV (A.bin base.P .lss 3 t7 t11 false H) fun t12 =>
  withB (A.asG false t12) fun b5 => withP (guardB b5 false (
   some (t7, H))
   (some (.tup [], H))) fun t14 H2 =>
  withB (A.asG false t12) fun b6 => withP (guardB b6 false (
   some (t1, H2))
   (some (.tup [], H2))) fun t15 H3 =>
  withB (A.asG false t12) fun b7 => withP (guardB b7 false (
   withV (A.len t15 H3) fun t16 =>
   some (t16, H3))
   (some (.tup [], H3))) fun t16 H5 =>
  withB (A.asG false t12) fun b8 => withP (guardB b8 false (
   withV (A.bin base.P .lss 3 t14 t16 false H5) fun t17 =>
   some (t17, H5))
   (some (.tup [], H5))) fun t17 H6 =>
  withV (A.pick t12 (AV.bool true) t17) fun t18 =>
  A.test t18 (
  cl base pol n 69 [t0, t7] H6 fun t23 H7 =>
  cl base pol n 69 [t1, t7] H7 fun t26 H8 =>
  withV (A.bin base.P .add 63 t23 t26 false H8) fun t27 =>
  withV (A.bin base.P .add 63 t27 t6 false H8) fun t29 =>
  withV (Go.Den.convert base 63 64 t29) fun t32 =>
  withL (A.fillElems 1 (List.replicate 1 (AV.int .u32 0)) [(0, 1, t32)]) fun es =>
  bindV (.sl H8.length 0 0 es.length es.length) fun t33 => bindH (H8 ++ [.row 0 1 64 es]) fun H9 =>
  withL (newsOf base 1 22 t33 H9) fun es =>
  withVH (A.append 1 4 64 t5 es H9) fun t34 H10 =>
  withV (A.bin base.P .shr 63 t29 (AV.int .u64 32) true H10) fun t36 =>
  withV (A.bin base.P .add 3 t7 (AV.int .i64 1) true H10) fun t20 =>
  L48_0 pol n m ⟨[t0, t1, t34, t36, t20], []⟩ H10)
  (
  some (0, ⟨[t5, t6], []⟩, H6))) := by kernel_rfl
/-- tenement/tenementref1.plus -/
theorem S48 (pol : FuncId → Pol) (n : Nat) (R : Type) (k : AV → Heap → Option R) (a0 a1 : AV) (H : Heap) : callF (base.with pol) (n + 1) R 48 [a0, a1] H k =
  (bindX (L48_0 pol n n ⟨[a0, a1, AV.nils, (AV.int .u64 0), (AV.int .i64 0)], []⟩ H) fun i1 l1 H1 =>
  altN i1 0 (
  bindV (l1.vs.getD 0 .undef) fun t5 => bindV (l1.vs.getD 1 .undef) fun t6 => 
  withV (Go.Den.convert base 63 64 t6) fun t39 =>
  withL (A.fillElems 1 (List.replicate 1 (AV.int .u32 0)) [(0, 1, t39)]) fun es =>
  bindV (.sl H1.length 0 0 es.length es.length) fun t40 => bindH (H1 ++ [.row 0 1 64 es]) fun H2 =>
  withL (newsOf base 1 22 t40 H2) fun es =>
  withVH (A.append 1 4 64 t5 es H2) fun t41 H3 =>
  k t41 H3)
  (none)) := by kernel_rfl
theorem L49_0_step (pol : FuncId → Pol) (n m : Nat) (t0 t1 t5 : AV) (H : Heap) : L49_0 pol n (m + 1) ⟨[t0, t1, t5], []⟩ H =
  (withV (A.bin base.P .geq 3 t5 (AV.int .i64 0) true H) fun t20 =>
  A.test t20 (
  withV (A.idx 1 t0 t5 H) fun t25 =>
  withV (A.load false 1 t25 H) fun t26 =>
  withV (A.idx 1 t1 t5 H) fun t29 =>
  withV (A.load false 1 t29 H) fun t30 =>
  withV (A.bin base.P .neq 64 t26 t30 false H) fun t31 =>
  A.test t31 (
  withV (A.idx 1 t0 t5 H) fun t34 =>
   withV (A.load false 1 t34 H) fun t35 =>
   withV (Go.Den.convert base 64 2 t35) fun t36 =>
   withV (A.idx 1 t1 t5 H) fun t39 =>
   withV (A.load false 1 t39 H) fun t40 =>
   withV (Go.Den.convert base 64 2 t40) fun t41 =>
   clQ base pol 70 [t36, t41] H fun t42 H1 =>
   some (1, ⟨[t42], []⟩, H1))
  (
  withV (A.bin base.P .sub 3 t5 (AV.int .i64 1) true H) fun t22 =>
  L49_0 pol n m ⟨[t0, t1, t22], []⟩ H))
  (
  some (0, ⟨[.undef], []⟩, H))) := by kernel_rfl
/-- tenement/tenementref1.mags -/
theorem S49 (pol : FuncId → Pol) (n : Nat) (R : Type) (k : AV → Heap → Option R) (a0 a1 : AV) (H : Heap) : callF (base.with pol) (n + 1) R 49 [a0, a1] H k =
  (withV (A.len a0 H) fun t7 =>
  withV (A.len a1 H) fun t9 =>
  withV (A.bin base.P .neq 3 t7 t9 false H) fun t10 =>
  A.test t10 (
  withV (A.len a0 H) fun t12 =>
   withV (A.len a1 H) fun t14 =>
   cl base pol n 70 [t12, t14] H fun t15 H5 =>
   k t15 H5)
  (
  withV (A.len a0 H) fun t17 =>
  withV (A.bin base.P .sub 3 t17 (AV.int .i64 1) true H) fun t18 =>
  bindX (L49_0 pol n n ⟨[a0, a1, t18], []⟩ H) fun i7 l7 H7 =>
  altN i7 0 (
  bindV (l7.vs.getD 0 .undef) fun t4 => 
  k (AV.int .i64 0) H7)
  (altN i7 1 (
  bindV (l7.vs.getD 0 .undef) fun t4 => 
  k t4 H7)
  (none)))) := by kernel_rfl
theorem L50_0_step (pol : FuncId → Pol) (n m : Nat) (t0 t1 t5 t6 t7 : AV) (H : Heap) : L50_0 pol n (m + 1) ⟨[t0, t1, t5, t6, t7], []⟩ H =
  (withV (A.len t0 H) fun t11 =>
  withV (A.bin base.P .lss 3 t7 t11 false H) fun t12 =>
  A.test t12 (
  withV (A.idx 1 t0 t7 H) fun t17 =>
  withV (A.load false 1 t17 H) fun t18 =>
  withV (Go.Den.convert base 64 63 t18) fun t19 =>
  clQ base pol 69 [t1, t7] H fun t22 H2 =>
  withV (A.bin base.P .sub 63 t19 t22 false H2) fun t23 =>
  withV (A.bin base.P .sub 63 t23 t6 false H2) fun t25 =>
  withV (Go.Den.convert base 63 64 t25) fun t28 =>
  withL (A.fillElems 1 (List.replicate 1 (AV.int .u32 0)) [(0, 1, t28)]) fun es =>
  bindV (.sl H2.length 0 0 es.length es.length) fun t29 => bindH (H2 ++ [.row 0 1 64 es]) fun H3 =>
  withL (newsOf base 1 22 t29 H3) fun es =>
  withVH (A.append 1 4 64 t5 es H3) fun t30 H4 =>
  withV (A.bin base.P .shr 63 t25 (AV.int .u64 63) true H4) fun t32 =>
  withV (A.bin base.P .add 3 t7 (AV.int .i64 1) true H4) fun t14 =>
  L50_0 pol n m ⟨[t0, t1, t30, t32, t14], []⟩ H4)
  (
  some (0, ⟨[t5], []⟩, H))) := by kernel_rfl
/-- tenement/tenementref1.minus -/
theorem S50 (pol : FuncId → Pol) (n : Nat) (R : Type) (k : AV → Heap → Option R) (a0 a1 : AV) (H : Heap) : callF (base.with pol) (n + 1) R 50 [a0, a1] H k =
  (bindX (L50_0 pol n n ⟨[a0, a1, AV.nils, (AV.int .u64 0), (AV.int .i64 0)], []⟩ H) fun i1 l1 H1 =>
  altN i1 0 (
  bindV (l1.vs.getD 0 .undef) fun t5 => 
  k t5 H1)
  (none)) := by kernel_rfl
/-- tenement/word.Fits -/
theorem S51 (pol : FuncId → Pol) (n : Nat) (R : Type) (k : AV → Heap → Option R) (a0 : AV) (H : Heap) : callF (base.with pol) (n + 1) R 51 [a0] H k =
  (withV (A.bin base.P .geq 2 a0 (AV.int .i64 (-576460752303423488)) true H) fun t4 =>
  withB (A.asG true t4) fun b3 => withP (guardB b3 true (
   some (a0, H))
   (some (.tup [], H))) fun t6 H1 =>
  withB (A.asG true t4) fun b4 => withP (guardB b4 true (
   withV (A.bin base.P .leq 2 t6 (AV.int .i64 576460752303423487) true H1) fun t7 =>
   some (t7, H1))
   (some (.tup [], H1))) fun t7 H2 =>
  withV (A.pick t4 t7 (AV.bool false)) fun t8 =>
  k t8 H2) := by kernel_rfl
/-- internal/stringslite.CutPrefix -/
theorem S52 (pol : FuncId → Pol) (n : Nat) (R : Type) (k : AV → Heap → Option R) (a0 a1 : AV) (H : Heap) : callF (base.with pol) (n + 1) R 52 [a0, a1] H k =
  (cl base pol n 71 [a0, a1] H fun t8 H1 =>
  withV (A.un .not t8) fun t9 =>
  A.test t9 (
  k (.tup [a0, (AV.bool false)]) H1)
  (
  withV (A.lenStr a1) fun t13 =>
  withV (A.sliceStr a0 (some t13) none) fun t14 =>
  k (.tup [t14, (AV.bool true)]) H1)) := by kernel_rfl
theorem L53_0_step (pol : FuncId → Pol) (n m : Nat) (t7 t8 t9 : AV) (H : Heap) : L53_0 pol n (m + 1) ⟨[t7, t8, t9], []⟩ H =
  (cl base pol n 74 [t9] H fun t111 H1 =>
  withV (A.bin base.P .lss 3 t111 t7 false H1) fun t113 =>
  A.test t113 (
  cl base pol n 74 [t9] H1 fun t115 H2 =>
  withV (A.bin base.P .sub 3 t7 t115 false H2) fun t116 =>
  cl base pol n 74 [t9] H2 fun t117 H3 =>
  withV (List.foldlM A.minv t116 [t117, t8]) fun t119 =>
  cl base pol n 61 [t9] H3 fun t120 H5 =>
  withV (A.sliceStr t120 none (some t119)) fun t122 =>
  cl base pol n 60 [t9, t122] H5 fun t123 H6 =>
  L53_0 pol n m ⟨[t7, t8, t9], []⟩ H6)
  (
  some (0, ⟨[t9], []⟩, H1))) := by kernel_rfl
/-- strings.Repeat -/
theorem S53 (pol : FuncId → Pol) (n : Nat) (R : Type) (k : AV → Heap → Option R) (a0 a1 : AV) (H : Heap) : callF (base.with pol) (n + 1) R 53 [a0, a1] H k =
  (withV (A.bin base.P .eql 3 a1 (AV.int .i64 0) true H) fun t13 =>
  A.test t13 (
  k (AV.str []) H)
  (
  withV (A.bin base.P .eql 3 a1 (AV.int .i64 1) true H) fun t15 =>
   A.test t15 (
   k a0 H)
   (
   withV (A.bin base.P .lss 3 a1 (AV.int .i64 0) true H) fun t18 =>
  bindX (A.test t18 (
   bindV (.iface 9 (AV.str [115, 116, 114, 105, 110, 103, 115, 58, 32, 110, 101, 103, 97, 116, 105, 118, 101, 32, 82, 101, 112, 101, 97, 116, 32, 99, 111, 117, 110, 116])) fun t19 =>
    none)
   (
   some (0, ⟨[a0, a1], []⟩, H))) fun i1 l1 H1 =>
  altN i1 0 (
  bindV (l1.vs.getD 0 .undef) fun t0 => bindV (l1.vs.getD 1 .undef) fun t1 => 
  withV (A.lenStr t0) fun t22 =>
  withV (Go.Den.convert base 3 65 t22) fun t23 =>
  withV (Go.Den.convert base 3 65 t1) fun t25 =>
  cl base pol n 72 [t23, t25] H1 fun t26 H3 =>
  extractK t26 0 fun t27 =>
  extractK t26 1 fun t28 =>
  withV (A.bin base.P .gtr 65 t27 (AV.int .u64 0) true H3) fun t30 =>
  withB (A.asG false t30) fun b3 => withP (guardB b3 false (
   some (t28, H3))
   (some (.tup [], H3))) fun t32 H4 =>
  withB (A.asG false t30) fun b4 => withP (guardB b4 false (
   withV (A.bin base.P .gtr 65 t32 (AV.int .u64 9223372036854775807) true H4) fun t33 =>
   some (t33, H4))
   (some (.tup [], H4))) fun t33 H5 =>
  withV (A.pick t30 (AV.bool true) t33) fun t34 =>
  bindX (A.test t34 (
   bindV (.iface 9 (AV.str [115, 116, 114, 105, 110, 103, 115, 58, 32, 82, 101, 112, 101, 97, 116, 32, 111, 117, 116, 112, 117, 116, 32, 108, 101, 110, 103, 116, 104, 32, 111, 118, 101, 114, 102, 108, 111, 119])) fun t35 =>
    none)
   (
   some (0, ⟨[t0, t28], []⟩, H5))) fun i6 l6 H6 =>
  altN i6 0 (
  bindV (l6.vs.getD 0 .undef) fun t0 => bindV (l6.vs.getD 1 .undef) fun t6 => 
  withV (Go.Den.convert base 65 3 t6) fun t37 =>
  withV (A.lenStr t0) fun t39 =>
  withV (A.bin base.P .eql 3 t39 (AV.int .i64 0) true H6) fun t40 =>
  A.test t40 (
  k (AV.str []) H6)
  (
  withV (A.index t0 (AV.int .i64 0)) fun t42 =>
  withV (A.bin base.P .eql 5 t42 (AV.int .u8 32) true H6) fun t44 =>
  bindX (A.test t44 (
   some (0, ⟨[t0, t37, t44], []⟩, H6))
   (
   withV (A.bin base.P .eql 5 t42 (AV.int .u8 45) true H6) fun t45 =>
    bindX (A.test t45 (
     some (0, ⟨[t0, t37, t45], []⟩, H6))
     (
     withV (A.bin base.P .eql 5 t42 (AV.int .u8 48) true H6) fun t46 =>
      bindX (A.test t46 (
       some (0, ⟨[t0, t37, t46], []⟩, H6))
       (
       withV (A.bin base.P .eql 5 t42 (AV.int .u8 61) true H6) fun t47 =>
        bindX (A.test t47 (
         some (0, ⟨[t0, t37, t47], []⟩, H6))
         (
         withV (A.bin base.P .eql 5 t42 (AV.int .u8 9) true H6) fun t48 =>
          some (0, ⟨[t0, t37, t48], []⟩, H6))) fun i8 l8 H8 =>
        altN i8 0 (
        bindV (l8.vs.getD 0 .undef) fun t0 => bindV (l8.vs.getD 1 .undef) fun t7 => bindV (l8.vs.getD 2 .undef) fun t43 => 
        some (0, ⟨[t0, t7, t43], []⟩, H8))
        (none))) fun i9 l9 H9 =>
      altN i9 0 (
      bindV (l9.vs.getD 0 .undef) fun t0 => bindV (l9.vs.getD 1 .undef) fun t7 => bindV (l9.vs.getD 2 .undef) fun t43 => 
      some (0, ⟨[t0, t7, t43], []⟩, H9))
      (none))) fun i10 l10 H10 =>
    altN i10 0 (
    bindV (l10.vs.getD 0 .undef) fun t0 => bindV (l10.vs.getD 1 .undef) fun t7 => bindV (l10.vs.getD 2 .undef) fun t43 => 
    some (0, ⟨[t0, t7, t43], []⟩, H10))
    (none))) fun i11 l11 H11 =>
  altN i11 0 (
  bindV (l11.vs.getD 0 .undef) fun t0 => bindV (l11.vs.getD 1 .undef) fun t7 => bindV (l11.vs.getD 2 .undef) fun t43 => 
  bindX (A.test t43 (
   withV (A.bin base.P .leq 3 t7 (AV.int .i64 128) true H11) fun t51 =>
    withB (A.asG true t51) fun b3 => withP (guardB b3 true (
     some (t0, H11))
     (some (.tup [], H11))) fun t53 H12 =>
    withB (A.asG true t51) fun b4 => withP (guardB b4 true (
     cl base pol n 73 [(AV.str [32, 32, 32, 32, 32, 32, 32, 32, 32, 32, 32, 32, 32, 32, 32, 32, 32, 32, 32, 32, 32, 32, 32, 32, 32, 32, 32, 32, 32, 32, 32, 32, 32, 32, 32, 32, 32, 32, 32, 32, 32, 32, 32, 32, 32, 32, 32, 32, 32, 32, 32, 32, 32, 32, 32, 32, 32, 32, 32, 32, 32, 32, 32, 32, 32, 32, 32, 32, 32, 32, 32, 32, 32, 32, 32, 32, 32, 32, 32, 32, 32, 32, 32, 32, 32, 32, 32, 32, 32, 32, 32, 32, 32, 32, 32, 32, 32, 32, 32, 32, 32, 32, 32, 32, 32, 32, 32, 32, 32, 32, 32, 32, 32, 32, 32, 32, 32, 32, 32, 32, 32, 32, 32, 32, 32, 32, 32, 32]), t53] H12 fun t54 H13 =>
     some (t54, H13))
     (some (.tup [], H12))) fun t54 H14 =>
    withV (A.pick t51 t54 (AV.bool false)) fun t55 =>
    A.test t55 (
    withV (A.sliceStr (AV.str [32, 32, 32, 32, 32, 32, 32, 32, 32, 32, 32, 32, 32, 32, 32, 32, 32, 32, 32, 32, 32, 32, 32, 32, 32, 32, 32, 32, 32, 32, 32, 32, 32, 32, 32, 32, 32, 32, 32, 32, 32, 32, 32, 32, 32, 32, 32, 32, 32, 32, 32, 32, 32, 32, 32, 32, 32, 32, 32, 32, 32, 32, 32, 32, 32, 32, 32, 32, 32, 32, 32, 32, 32, 32, 32, 32, 32, 32, 32, 32, 32, 32, 32, 32, 32, 32, 32, 32, 32, 32, 32, 32, 32, 32, 32, 32, 32, 32, 32, 32, 32, 32, 32, 32, 32, 32, 32, 32, 32, 32, 32, 32, 32, 32, 32, 32, 32, 32, 32, 32, 32, 32, 32, 32, 32, 32, 32, 32]) none (some t7)) fun t57 =>
     some (1, ⟨[t0, t57, t7], []⟩, H14))
    (
    withV (A.bin base.P .leq 3 t7 (AV.int .i64 128) true H14) fun t60 =>
     withB (A.asG true t60) fun b3 => withP (guardB b3 true (
      some (t0, H14))
      (some (.tup [], H14))) fun t62 H15 =>
     withB (A.asG true t60) fun b4 => withP (guardB b4 true (
      cl base pol n 73 [(AV.str [45, 45, 45, 45, 45, 45, 45, 45, 45, 45, 45, 45, 45, 45, 45, 45, 45, 45, 45, 45, 45, 45, 45, 45, 45, 45, 45, 45, 45, 45, 45, 45, 45, 45, 45, 45, 45, 45, 45, 45, 45, 45, 45, 45, 45, 45, 45, 45, 45, 45, 45, 45, 45, 45, 45, 45, 45, 45, 45, 45, 45, 45, 45, 45, 45, 45, 45, 45, 45, 45, 45, 45, 45, 45, 45, 45, 45, 45, 45, 45, 45, 45, 45, 45, 45, 45, 45, 45, 45, 45, 45, 45, 45, 45, 45, 45, 45, 45, 45, 45, 45, 45, 45, 45, 45, 45, 45, 45, 45, 45, 45, 45, 45, 45, 45, 45, 45, 45, 45, 45, 45, 45, 45, 45, 45, 45, 45, 45]), t62] H15 fun t63 H16 =>
      some (t63, H16))
      (some (.tup [], H15))) fun t63 H17 =>
     withV (A.pick t60 t63 (AV.bool false)) fun t64 =>
     A.test t64 (
     withV (A.sliceStr (AV.str [45, 45, 45, 45, 45, 45, 45, 45, 45, 45, 45, 45, 45, 45, 45, 45, 45, 45, 45, 45, 45, 45, 45, 45, 45, 45, 45, 45, 45, 45, 45, 45, 45, 45, 45, 45, 45, 45, 45, 45, 45, 45, 45, 45, 45, 45, 45, 45, 45, 45, 45, 45, 45, 45, 45, 45, 45, 45, 45, 45, 45, 45, 45, 45, 45, 45, 45, 45, 45, 45, 45, 45, 45, 45, 45, 45, 45, 45, 45, 45, 45, 45, 45, 45, 45, 45, 45, 45, 45, 45, 45, 45, 45, 45, 45, 45, 45, 45, 45, 45, 45, 45, 45, 45, 45, 45, 45, 45, 45, 45, 45, 45, 45, 45, 45, 45, 45, 45, 45, 45, 45, 45, 45, 45, 45, 45, 45, 45]) none (some t7)) fun t66 =>
      some (1, ⟨[t0, t66, t7], []⟩, H17))
     (
     withV (A.bin base.P .leq 3 t7 (AV.int .i64 64) true H17) fun t69 =>
      withB (A.asG true t69) fun b3 => withP (guardB b3 true (
       some (t0, H17))
       (some (.tup [], H17))) fun t71 H18 =>
      withB (A.asG true t69) fun b4 => withP (guardB b4 true (
       cl base pol n 73 [(AV.str [48, 48, 48, 48, 48, 48, 48, 48, 48, 48, 48, 48, 48, 48, 48, 48, 48, 48, 48, 48, 48, 48, 48, 48, 48, 48, 48, 48, 48, 48, 48, 48, 48, 48, 48, 48, 48, 48, 48, 48, 48, 48, 48, 48, 48, 48, 48, 48, 48, 48, 48, 48, 48, 48, 48, 48, 48, 48, 48, 48, 48, 48, 48, 48]), t71] H18 fun t72 H19 =>
       some (t72, H19))
       (some (.tup [], H18))) fun t72 H20 =>
      withV (A.pick t69 t72 (AV.bool false)) fun t73 =>
      A.test t73 (
      withV (A.sliceStr (AV.str [48, 48, 48, 48, 48, 48, 48, 48, 48, 48, 48, 48, 48, 48, 48, 48, 48, 48, 48, 48, 48, 48, 48, 48, 48, 48, 48, 48, 48, 48, 48, 48, 48, 48, 48, 48, 48, 48, 48, 48, 48, 48, 48, 48, 48, 48, 48, 48, 48, 48, 48, 48, 48, 48, 48, 48, 48, 48, 48, 48, 48, 48, 48, 48]) none (some t7)) fun t75 =>
       some (1, ⟨[t0, t75, t7], []⟩, H20))
      (
      withV (A.bin base.P .leq 3 t7 (AV.int .i64 128) true H20) fun t78 =>
       withB (A.asG true t78) fun b3 => withP (guardB b3 true (
        some (t0, H20))
        (some (.tup [], H20))) fun t80 H21 =>
       withB (A.asG true t78) fun b4 => withP (guardB b4 true (
        cl base pol n 73 [(AV.str [61, 61, 61, 61, 61, 61, 61, 61, 61, 61, 61, 61, 61, 61, 61, 61, 61, 61, 61, 61, 61, 61, 61, 61, 61, 61, 61, 61, 61, 61, 61, 61, 61, 61, 61, 61, 61, 61, 61, 61, 61, 61, 61, 61, 61, 61, 61, 61, 61, 61, 61, 61, 61, 61, 61, 61, 61, 61, 61, 61, 61, 61, 61, 61, 61, 61, 61, 61, 61, 61, 61, 61, 61, 61, 61, 61, 61, 61, 61, 61, 61, 61, 61, 61, 61, 61, 61, 61, 61, 61, 61, 61, 61, 61, 61, 61, 61, 61, 61, 61, 61, 61, 61, 61, 61, 61, 61, 61, 61, 61, 61, 61, 61, 61, 61, 61, 61, 61, 61, 61, 61, 61, 61, 61, 61, 61, 61, 61]), t80] H21 fun t81 H22 =>
        some (t81, H22))
        (some (.tup [], H21))) fun t81 H23 =>
       withV (A.pick t78 t81 (AV.bool false)) fun t82 =>
       A.test t82 (
       withV (A.sliceStr (AV.str [61, 61, 61, 61, 61, 61, 61, 61, 61, 61, 61, 61, 61, 61, 61, 61, 61, 61, 61, 61, 61, 61, 61, 61, 61, 61, 61, 61, 61, 61, 61, 61, 61, 61, 61, 61, 61, 61, 61, 61, 61, 61, 61, 61, 61, 61, 61, 61, 61, 61, 61, 61, 61, 61, 61, 61, 61, 61, 61, 61, 61, 61, 61, 61, 61, 61, 61, 61, 61, 61, 61, 61, 61, 61, 61, 61, 61, 61, 61, 61, 61, 61, 61, 61, 61, 61, 61, 61, 61, 61, 61, 61, 61, 61, 61, 61, 61, 61, 61, 61, 61, 61, 61, 61, 61, 61, 61, 61, 61, 61, 61, 61, 61, 61, 61, 61, 61, 61, 61, 61, 61, 61, 61, 61, 61, 61, 61, 61]) none (some t7)) fun t84 =>
        some (1, ⟨[t0, t84, t7], []⟩, H23))
       (
       withV (A.bin base.P .leq 3 t7 (AV.int .i64 64) true H23) fun t87 =>
        withB (A.asG true t87) fun b3 => withP (guardB b3 true (
         some (t0, H23))
         (some (.tup [], H23))) fun t89 H24 =>
        withB (A.asG true t87) fun b4 => withP (guardB b4 true (
         cl base pol n 73 [(AV.str [9, 9, 9, 9, 9, 9, 9, 9, 9, 9, 9, 9, 9, 9, 9, 9, 9, 9, 9, 9, 9, 9, 9, 9, 9, 9, 9, 9, 9, 9, 9, 9, 9, 9, 9, 9, 9, 9, 9, 9, 9, 9, 9, 9, 9, 9, 9, 9, 9, 9, 9, 9, 9, 9, 9, 9, 9, 9, 9, 9, 9, 9, 9, 9]), t89] H24 fun t90 H25 =>
         some (t90, H25))
         (some (.tup [], H24))) fun t90 H26 =>
        withV (A.pick t87 t90 (AV.bool false)) fun t91 =>
        A.test t91 (
        withV (A.sliceStr (AV.str [9, 9, 9, 9, 9, 9, 9, 9, 9, 9, 9, 9, 9, 9, 9, 9, 9, 9, 9, 9, 9, 9, 9, 9, 9, 9, 9, 9, 9, 9, 9, 9, 9, 9, 9, 9, 9, 9, 9, 9, 9, 9, 9, 9, 9, 9, 9, 9, 9, 9, 9, 9, 9, 9, 9, 9, 9, 9, 9, 9, 9, 9, 9, 9]) none (some t7)) fun t93 =>
         some (1, ⟨[t0, t93, t7], []⟩, H26))
        (
        some (0, ⟨[t0, .undef, t7], []⟩, H26)))))))
   (
   some (0, ⟨[t0, .undef, t7], []⟩, H11))) fun i27 l27 H27 =>
  altN i27 0 (
  bindV (l27.vs.getD 0 .undef) fun t0 => bindV (l27.vs.getD 1 .undef) fun t4 => bindV (l27.vs.getD 2 .undef) fun t7 => 
  withV (A.bin base.P .gtr 3 t7 (AV.int .i64 8192) true H27) fun t96 =>
  bindX (A.test t96 (
   withV (A.lenStr t0) fun t98 =>
    withV (A.bin base.P .quo 3 (AV.int .i64 8192) t98 false H27) fun t99 =>
    withV (A.lenStr t0) fun t101 =>
    withV (A.bin base.P .mul 3 t99 t101 false H27) fun t102 =>
    withV (A.bin base.P .eql 3 t102 (AV.int .i64 0) true H27) fun t104 =>
    bindX (A.test t104 (
     withV (A.lenStr t0) fun t106 =>
      some (0, ⟨[t0, t7, t106], []⟩, H27))
     (
     some (0, ⟨[t0, t7, t102], []⟩, H27))) fun i31 l31 H31 =>
    altN i31 0 (
    bindV (l31.vs.getD 0 .undef) fun t0 => bindV (l31.vs.getD 1 .undef) fun t7 => bindV (l31.vs.getD 2 .undef) fun t8 => 
    some (0, ⟨[t0, t7, t8], []⟩, H31))
    (none))
   (
   some (0, ⟨[t0, t7, t7], []⟩, H27))) fun i32 l32 H32 =>
  altN i32 0 (
  bindV (l32.vs.getD 0 .undef) fun t0 => bindV (l32.vs.getD 1 .undef) fun t7 => bindV (l32.vs.getD 2 .undef) fun t8 => 
  bindV (.ptr H32.length 0 0 0) fun t9 => bindH (H32 ++ [.row 0 2 94 [(AV.agg [AV.nilp, AV.nils])]]) fun H33 =>
  cl base pol n 59 [t9, t7] H33 fun t108 H34 =>
  cl base pol n 60 [t9, t0] H34 fun t110 H35 =>
  bindX (L53_0 pol n n ⟨[t7, t8, t9], []⟩ H35) fun i36 l36 H36 =>
  altN i36 0 (
  bindV (l36.vs.getD 0 .undef) fun t9 => 
  cl base pol n 61 [t9] H36 fun t124 H37 =>
  k t124 H37)
  (none))
  (none))
  (altN i27 1 (
  bindV (l27.vs.getD 0 .undef) fun t0 => bindV (l27.vs.getD 1 .undef) fun t4 => bindV (l27.vs.getD 2 .undef) fun t7 => 
  k t4 H27)
  (none)))
  (none)))
  (none))
  (none)))) := by kernel_rfl
/-- slices.Clone[[]uint32,uint32] -/
theorem S54 (pol : FuncId → Pol) (n : Nat) (R : Type) (k : AV → Heap → Option R) (a0 : AV) (H : Heap) : callF (base.with pol) (n + 1) R 54 [a0] H k =
  (withV (A.bin base.P .eql 22 a0 AV.nils true H) fun t4 =>
  A.test t4 (
  k AV.nils H)
  (
  withL (A.fillElems 1 (List.replicate 0 (AV.int .u32 0)) []) fun es =>
  bindV (.sl H.length 0 0 es.length es.length) fun t5 => bindH (H ++ [.row 0 1 64 es]) fun H1 =>
  withL (newsOf base 1 22 a0 H1) fun es =>
  withVH (A.append 1 4 64 t5 es H1) fun t7 H2 =>
  k t7 H2)) := by kernel_rfl
theorem L55_0_step (pol : FuncId → Pol) (n m : Nat) (t0 t1 : AV) (H : Heap) : L55_0 pol n (m + 1) ⟨[t0, t1], []⟩ H =
  (withV (A.lenStr t0) fun t6 =>
  withV (A.bin base.P .gtr 3 t6 (AV.int .i64 0) true H) fun t7 =>
  withB (A.asG true t7) fun b4 => withP (guardB b4 true (
   some (t0, H))
   (some (.tup [], H))) fun t9 H2 =>
  withB (A.asG true t7) fun b5 => withP (guardB b5 true (
   withV (A.index t9 (AV.int .i64 0)) fun t10 =>
   some (t10, H2))
   (some (.tup [], H2))) fun t10 H3 =>
  withB (A.asG true t7) fun b6 => withP (guardB b6 true (
   some (t1, H3))
   (some (.tup [], H3))) fun t11 H4 =>
  withB (A.asG true t7) fun b7 => withP (guardB b7 true (
   withV (A.bin base.P .eql 5 t10 t11 false H4) fun t12 =>
   some (t12, H4))
   (some (.tup [], H4))) fun t12 H5 =>
  withV (A.pick t7 t12 (AV.bool false)) fun t13 =>
  A.test t13 (
  withV (A.sliceStr t0 (some (AV.int .i64 1)) none) fun t15 =>
  L55_0 pol n m ⟨[t15, t1], []⟩ H5)
  (
  some (0, ⟨[t0], []⟩, H5))) := by kernel_rfl
/-- strings.trimLeftByte -/
theorem S55 (pol : FuncId → Pol) (n : Nat) (R : Type) (k : AV → Heap → Option R) (a0 a1 : AV) (H : Heap) : callF (base.with pol) (n + 1) R 55 [a0, a1] H k =
  (bindX (L55_0 pol n n ⟨[a0, a1], []⟩ H) fun i1 l1 H1 =>
  altN i1 0 (
  bindV (l1.vs.getD 0 .undef) fun t0 => 
  k t0 H1)
  (none)) := by kernel_rfl
theorem L56_0_step (pol : FuncId → Pol) (n m : Nat) (t0 t4 : AV) (c0 : List AV) (H : Heap) : L56_0 pol n (m + 1) ⟨[t0, t4], [c0]⟩ H =
  (withV (A.lenStr t0) fun t8 =>
  withV (A.bin base.P .lss 3 t4 t8 false H) fun t9 =>
  A.test t9 (
  withV (A.index t0 t4) fun t14 =>
  withV (A.bin base.P .geq 5 t14 (AV.int .u8 128) true H) fun t16 =>
  A.test t16 (
  withV (A.ofList true 256 c0 0) fun t17 =>
   chkD (A.fits 256 t17 && decide (0 + (t17).cells.length ≤ c0.length)) (bindC (A.splice c0 0 (t17).cells) fun c0 =>
   some (1, ⟨[(AV.bool false)], [c0]⟩, H)))
  (
  lpIdxK t14 256 fun jt19 =>
  chkD (A.fits 1 (AV.bool true) && decide ((0 + jt19.toNat * 1) + ((AV.bool true)).cells.length ≤ c0.length)) (bindC (A.splice c0 (0 + jt19.toNat * 1) ((AV.bool true)).cells) fun c0 =>
  withV (A.bin base.P .add 3 t4 (AV.int .i64 1) true H) fun t11 =>
  L56_0 pol n m ⟨[t0, t11], [c0]⟩ H)))
  (
  some (0, ⟨[.undef], [c0]⟩, H))) := by kernel_rfl
/-- strings.makeASCIISet -/
theorem S56 (pol : FuncId → Pol) (n : Nat) (R : Type) (k : AV → Heap → Option R) (a0 : AV) (H : Heap) : callF (base.with pol) (n + 1) R 56 [a0] H k =
  (bindC [(AV.bool false), (AV.bool false), (AV.bool false), (AV.bool false), (AV.bool false), (AV.bool false), (AV.bool false), (AV.bool false), (AV.bool false), (AV.bool false), (AV.bool false), (AV.bool false), (AV.bool false), (AV.bool false), (AV.bool false), (AV.bool false), (AV.bool false), (AV.bool false), (AV.bool false), (AV.bool false), (AV.bool false), (AV.bool false), (AV.bool false), (AV.bool false), (AV.bool false), (AV.bool false), (AV.bool false), (AV.bool false), (AV.bool false), (AV.bool false), (AV.bool false), (AV.bool false), (AV.bool false), (AV.bool false), (AV.bool false), (AV.bool false), (AV.bool false), (AV.bool false), (AV.bool false), (AV.bool false), (AV.bool false), (AV.bool false), (AV.bool false), (AV.bool false), (AV.bool false), (AV.bool false), (AV.bool false), (AV.bool false), (AV.bool false), (AV.bool false), (AV.bool false), (AV.bool false), (AV.bool false), (AV.bool false), (AV.bool false), (AV.bool false), (AV.bool false), (AV.bool false), (AV.bool false), (AV.bool false), (AV.bool false), (AV.bool false), (AV.bool false), (AV.bool false), (AV.bool false), (AV.bool false), (AV.bool false), (AV.bool false), (AV.bool false), (AV.bool false), (AV.bool false), (AV.bool false), (AV.bool false), (AV.bool false), (AV.bool false), (AV.bool false), (AV.bool false), (AV.bool false), (AV.bool false), (AV.bool false), (AV.bool false), (AV.bool false), (AV.bool false), (AV.bool false), (AV.bool false), (AV.bool false), (AV.bool false), (AV.bool false), (AV.bool false), (AV.bool false), (AV.bool false), (AV.bool false), (AV.bool false), (AV.bool false), (AV.bool false), (AV.bool false), (AV.bool false), (AV.bool false), (AV.bool false), (AV.bool false), (AV.bool false), (AV.bool false), (AV.bool false), (AV.bool false), (AV.bool false), (AV.bool false), (AV.bool false), (AV.bool false), (AV.bool false), (AV.bool false), (AV.bool false), (AV.bool false), (AV.bool false), (AV.bool false), (AV.bool false), (AV.bool false), (AV.bool false), (AV.bool false), (AV.bool false), (AV.bool false), (AV.bool false), (AV.bool false), (AV.bool false), (AV.bool false), (AV.bool false), (AV.bool false), (AV.bool false), (AV.bool false), (AV.bool false), (AV.bool false), (AV.bool false), (AV.bool false), (AV.bool false), (AV.bool false), (AV.bool false), (AV.bool false), (AV.bool false), (AV.bool false), (AV.bool false), (AV.bool false), (AV.bool false), (AV.bool false), (AV.bool false), (AV.bool false), (AV.bool false), (AV.bool false), (AV.bool false), (AV.bool false), (AV.bool false), (AV.bool false), (AV.bool false), (AV.bool false), (AV.bool false), (AV.bool false), (AV.bool false), (AV.bool false), (AV.bool false), (AV.bool false), (AV.bool false), (AV.bool false), (AV.bool false), (AV.bool false), (AV.bool false), (AV.bool false), (AV.bool false), (AV.bool false), (AV.bool false), (AV.bool false), (AV.bool false), (AV.bool false), (AV.bool false), (AV.bool false), (AV.bool false), (AV.bool false), (AV.bool false), (AV.bool false), (AV.bool false), (AV.bool false), (AV.bool false), (AV.bool false), (AV.bool false), (AV.bool false), (AV.bool false), (AV.bool false), (AV.bool false), (AV.bool false), (AV.bool false), (AV.bool false), (AV.bool false), (AV.bool false), (AV.bool false), (AV.bool false), (AV.bool false), (AV.bool false), (AV.bool false), (AV.bool false), (AV.bool false), (AV.bool false), (AV.bool false), (AV.bool false), (AV.bool false), (AV.bool false), (AV.bool false), (AV.bool false), (AV.bool false), (AV.bool false), (AV.bool false), (AV.bool false), (AV.bool false), (AV.bool false), (AV.bool false), (AV.bool false), (AV.bool false), (AV.bool false), (AV.bool false), (AV.bool false), (AV.bool false), (AV.bool false), (AV.bool false), (AV.bool false), (AV.bool false), (AV.bool false), (AV.bool false), (AV.bool false), (AV.bool false), (AV.bool false), (AV.bool false), (AV.bool false), (AV.bool false), (AV.bool false), (AV.bool false), (AV.bool false), (AV.bool false), (AV.bool false), (AV.bool false), (AV.bool false), (AV.bool false), (AV.bool false), (AV.bool false), (AV.bool false), (AV.bool false), (AV.bool false), (AV.bool false), (AV.bool false), (AV.bool false), (AV.bool false), (AV.bool false), (AV.bool false), (AV.bool false), (AV.bool false), (AV.bool false), (AV.bool false), (AV.bool false), (AV.bool false), (AV.bool false), (AV.bool false)] fun c0 =>
  bindX (L56_0 pol n n ⟨[a0, (AV.int .i64 0)], [c0]⟩ H) fun i1 l1 H1 =>
  altN i1 0 (
  bindV (l1.vs.getD 0 .undef) fun t3 => bindC (l1.cs.getD 0 []) fun c0 => 
  withV (A.ofList true 256 c0 0) fun t20 =>
  chkD (A.fits 256 t20 && decide (0 + (t20).cells.length ≤ c0.length)) (bindC (A.splice c0 0 (t20).cells) fun c0 =>
  withV (A.ofList true 256 c0 0) fun r2 => k (.tup [r2, (AV.bool true)]) H1))
  (altN i1 1 (
  bindV (l1.vs.getD 0 .undef) fun t3 => bindC (l1.cs.getD 0 []) fun c0 => 
  withV (A.ofList true 256 c0 0) fun r2 => k (.tup [r2, t3]) H1)
  (none))) := by kernel_rfl
theorem L57_0_step (pol : FuncId → Pol) (n m : Nat) (t0 t1 : AV) (H : Heap) : L57_0 pol n (m + 1) ⟨[t0, t1], []⟩ H =
  (withV (A.lenStr t0) fun t6 =>
  withV (A.bin base.P .gtr 3 t6 (AV.int .i64 0) true H) fun t7 =>
  A.test t7 (
  withV (A.index t0 (AV.int .i64 0)) fun t10 =>
  cl base pol n 75 [t1, t10] H fun t11 H2 =>
  withV (A.un .not t11) fun t12 =>
  A.test t12 (
  some (0, ⟨[t0], []⟩, H2))
  (
  withV (A.sliceStr t0 (some (AV.int .i64 1)) none) fun t14 =>
  L57_0 pol n m ⟨[t14, t1], []⟩ H2))
  (
  some (0, ⟨[t0], []⟩, H))) := by kernel_rfl
/-- strings.trimLeftASCII -/
theorem S57 (pol : FuncId → Pol) (n : Nat) (R : Type) (k : AV → Heap → Option R) (a0 a1 : AV) (H : Heap) : callF (base.with pol) (n + 1) R 57 [a0, a1] H k =
  (bindX (L57_0 pol n n ⟨[a0, a1], []⟩ H) fun i1 l1 H1 =>
  altN i1 0 (
  bindV (l1.vs.getD 0 .undef) fun t0 => 
  k t0 H1)
  (none)) := by kernel_rfl
end Go.Proofs.YtikkpecdkdgmfaaDoor

/- What each function does, in Den's words. -/
set_option maxRecDepth 100000
namespace Go.Proofs.YtikkpecdkdgmfaaDoor
open Go Go.Den

theorem L58_0_step (pol : FuncId → Pol) (n m : Nat) (t0 t1 : AV) (H : Heap) : L58_0 pol n (m + 1) ⟨[t0, t1], []⟩ H =
  (withV (A.lenStr t0) fun t8 =>
  withV (A.bin base.P .gtr 3 t8 (AV.int .i64 0) true H) fun t9 =>
  A.test t9 (
  cl base pol n 76 [t0] H fun t12 H2 =>
  extractK t12 0 fun t13 =>
  extractK t12 1 fun t14 =>
  cl base pol n 77 [t1, t13] H2 fun t17 H3 =>
  withV (A.un .not t17) fun t18 =>
  A.test t18 (
  some (0, ⟨[t0], []⟩, H3))
  (
  withV (A.sliceStr t0 (some t14) none) fun t21 =>
  L58_0 pol n m ⟨[t21, t1], []⟩ H3))
  (
  some (0, ⟨[t0], []⟩, H))) := by kernel_rfl
/-- strings.trimLeftUnicode -/
theorem S58 (pol : FuncId → Pol) (n : Nat) (R : Type) (k : AV → Heap → Option R) (a0 a1 : AV) (H : Heap) : callF (base.with pol) (n + 1) R 58 [a0, a1] H k =
  (bindX (L58_0 pol n n ⟨[a0, a1], []⟩ H) fun i1 l1 H1 =>
  altN i1 0 (
  bindV (l1.vs.getD 0 .undef) fun t0 => 
  k t0 H1)
  (none)) := by kernel_rfl
/-- (*strings.Builder).WriteString -/
theorem S60 (pol : FuncId → Pol) (n : Nat) (R : Type) (k : AV → Heap → Option R) (a0 a1 : AV) (H : Heap) : callF (base.with pol) (n + 1) R 60 [a0, a1] H k =
  (cl base pol n 78 [a0] H fun t7 H1 =>
  withV (A.nilCheck a0 H1) fun t10 =>
  withV (A.fa 1 t10 H1) fun t11 =>
  withV (A.load false 1 t11 H1) fun t12 =>
  withL (newsOf base 1 9 a1 H1) fun es =>
  withVH (A.append 1 1 5 t12 es H1) fun t14 H2 =>
  withV (A.nilCheck a0 H2) fun t15 =>
  withV (A.fa 1 t15 H2) fun t16 =>
  withH (A.store 1 t16 t14 H2) fun H3 =>
  withV (A.lenStr a1) fun t18 =>
  k (.tup [t18, AV.nili]) H3) := by kernel_rfl
/-- cmp.Compare[int] -/
theorem S62 (pol : FuncId → Pol) (n : Nat) (R : Type) (k : AV → Heap → Option R) (a0 a1 : AV) (H : Heap) : callF (base.with pol) (n + 1) R 62 [a0, a1] H k =
  (cl base pol n 80 [a0] H fun t8 H1 =>
  cl base pol n 80 [a1] H1 fun t10 H2 =>
  A.test t8 (
  A.test t10 (
   k (AV.int .i64 0) H2)
   (
   k (AV.int .i64 (-1)) H2))
  (
  A.test t10 (
  k (AV.int .i64 1) H2)
  (
  withV (A.bin base.P .lss 3 a0 a1 false H2) fun t16 =>
  A.test t16 (
  k (AV.int .i64 (-1)) H2)
  (
  withV (A.bin base.P .gtr 3 a0 a1 false H2) fun t19 =>
  A.test t19 (
  k (AV.int .i64 1) H2)
  (
  k (AV.int .i64 0) H2))))) := by kernel_rfl
/-- cmp.Compare[uint32] -/
theorem S63 (pol : FuncId → Pol) (n : Nat) (R : Type) (k : AV → Heap → Option R) (a0 a1 : AV) (H : Heap) : callF (base.with pol) (n + 1) R 63 [a0, a1] H k =
  (cl base pol n 81 [a0] H fun t8 H1 =>
  cl base pol n 81 [a1] H1 fun t10 H2 =>
  A.test t8 (
  A.test t10 (
   k (AV.int .i64 0) H2)
   (
   k (AV.int .i64 (-1)) H2))
  (
  A.test t10 (
  k (AV.int .i64 1) H2)
  (
  withV (A.bin base.P .lss 64 a0 a1 false H2) fun t16 =>
  A.test t16 (
  k (AV.int .i64 (-1)) H2)
  (
  withV (A.bin base.P .gtr 64 a0 a1 false H2) fun t19 =>
  A.test t19 (
  k (AV.int .i64 1) H2)
  (
  k (AV.int .i64 0) H2))))) := by kernel_rfl
theorem L64_0_step (pol : FuncId → Pol) (n m : Nat) (t1 t5 t13 t14 t15 : AV) (H : Heap) : L64_0 pol n (m + 1) ⟨[t1, t5, t13, t14, t15], []⟩ H =
  (withV (A.bin base.P .lss 3 t15 t14 false H) fun t16 =>
  A.test t16 (
  withV (A.idx 1 t13 t15 H) fun t18 =>
  withV (A.load false 1 t18 H) fun t19 =>
  withV (Go.Den.convert base 64 63 t19) fun t21 =>
  withV (A.bin base.P .shl 63 t21 t1 false H) fun t23 =>
  withV (A.idx 1 t5 t15 H) fun t26 =>
  withV (A.load false 1 t26 H) fun t27 =>
  withV (Go.Den.convert base 63 64 t23) fun t29 =>
  withV (A.bin base.P .or 64 t27 t29 false H) fun t30 =>
  withV (A.idx 1 t5 t15 H) fun t31 =>
  withH (A.store 1 t31 t30 H) fun H1 =>
  withV (A.bin base.P .add 3 t15 (AV.int .i64 1) true H1) fun t34 =>
  withV (A.bin base.P .shr 63 t23 (AV.int .u64 32) true H1) fun t36 =>
  withV (Go.Den.convert base 63 64 t36) fun t37 =>
  withV (A.idx 1 t5 t34 H1) fun t38 =>
  withH (A.store 1 t38 t37 H1) fun H2 =>
  withV (A.bin base.P .add 3 t15 (AV.int .i64 1) true H2) fun t39 =>
  L64_0 pol n m ⟨[t1, t5, t13, t14, t39], []⟩ H2)
  (
  some (0, ⟨[t5], []⟩, H))) := by kernel_rfl
/-- tenement/big.shifted -/
theorem S64 (pol : FuncId → Pol) (n : Nat) (R : Type) (k : AV → Heap → Option R) (a0 a1 : AV) (H : Heap) : callF (base.with pol) (n + 1) R 64 [a0, a1] H k =
  (withV (A.len a0 H) fun t10 =>
  withV (A.bin base.P .add 3 t10 (AV.int .i64 1) true H) fun t11 =>
  withVH (A.makeSlice 1 4 64 (AV.int .u32 0) t11 t11 H) fun t12 H2 =>
  withV (A.len a0 H2) fun t14 =>
  bindX (L64_0 pol n n ⟨[a1, t12, a0, t14, (AV.int .i64 0)], []⟩ H2) fun i4 l4 H4 =>
  altN i4 0 (
  bindV (l4.vs.getD 0 .undef) fun t5 => 
  k t5 H4)
  (none)) := by kernel_rfl
theorem L65_0_step (pol : FuncId → Pol) (n m : Nat) (t0 t1 t2 t7 t9 t10 : AV) (H : Heap) : L65_0 pol n (m + 1) ⟨[t0, t1, t2, t7, t9, t10], []⟩ H =
  (withV (A.bin base.P .geq 63 t9 (AV.int .u64 4294967296) true H) fun t47 =>
  withB (A.asG false t47) fun b3 => withP (guardB b3 false (
   some (t9, H))
   (some (.tup [], H))) fun t49 H1 =>
  withB (A.asG false t47) fun b4 => withP (guardB b4 false (
   some (t1, H1))
   (some (.tup [], H1))) fun t50 H2 =>
  withB (A.asG false t47) fun b5 => withP (guardB b5 false (
   some (t7, H2))
   (some (.tup [], H2))) fun t51 H3 =>
  withB (A.asG false t47) fun b6 => withP (guardB b6 false (
   withV (A.bin base.P .sub 3 t51 (AV.int .i64 2) true H3) fun t52 =>
   some (t52, H3))
   (some (.tup [], H3))) fun t52 H4 =>
  withB (A.asG false t47) fun b7 => withP (guardB b7 false (
   withV (A.idx 1 t50 t52 H4) fun t53 =>
   some (t53, H4))
   (some (.tup [], H4))) fun t53 H5 =>
  withB (A.asG false t47) fun b8 => withP (guardB b8 false (
   withV (A.load false 1 t53 H5) fun t54 =>
   some (t54, H5))
   (some (.tup [], H5))) fun t54 H6 =>
  withB (A.asG false t47) fun b9 => withP (guardB b9 false (
   withV (Go.Den.convert base 64 63 t54) fun t55 =>
   some (t55, H6))
   (some (.tup [], H6))) fun t55 H7 =>
  withB (A.asG false t47) fun b10 => withP (guardB b10 false (
   withV (A.bin base.P .mul 63 t49 t55 false H7) fun t56 =>
   some (t56, H7))
   (some (.tup [], H7))) fun t56 H8 =>
  withB (A.asG false t47) fun b11 => withP (guardB b11 false (
   some (t10, H8))
   (some (.tup [], H8))) fun t57 H9 =>
  withB (A.asG false t47) fun b12 => withP (guardB b12 false (
   withV (A.bin base.P .shl 63 t57 (AV.int .u64 32) true H9) fun t58 =>
   some (t58, H9))
   (some (.tup [], H9))) fun t58 H10 =>
  withB (A.asG false t47) fun b13 => withP (guardB b13 false (
   some (t0, H10))
   (some (.tup [], H10))) fun t59 H11 =>
  withB (A.asG false t47) fun b14 => withP (guardB b14 false (
   some (t2, H11))
   (some (.tup [], H11))) fun t60 H12 =>
  withB (A.asG false t47) fun b15 => withP (guardB b15 false (
   some (t7, H12))
   (some (.tup [], H12))) fun t61 H13 =>
  withB (A.asG false t47) fun b16 => withP (guardB b16 false (
   withV (A.bin base.P .add 3 t60 t61 false H13) fun t62 =>
   some (t62, H13))
   (some (.tup [], H13))) fun t62 H14 =>
  withB (A.asG false t47) fun b17 => withP (guardB b17 false (
   withV (A.bin base.P .sub 3 t62 (AV.int .i64 2) true H14) fun t63 =>
   some (t63, H14))
   (some (.tup [], H14))) fun t63 H15 =>
  withB (A.asG false t47) fun b18 => withP (guardB b18 false (
   withV (A.idx 1 t59 t63 H15) fun t64 =>
   some (t64, H15))
   (some (.tup [], H15))) fun t64 H16 =>
  withB (A.asG false t47) fun b19 => withP (guardB b19 false (
   withV (A.load false 1 t64 H16) fun t65 =>
   some (t65, H16))
   (some (.tup [], H16))) fun t65 H17 =>
  withB (A.asG false t47) fun b20 => withP (guardB b20 false (
   withV (Go.Den.convert base 64 63 t65) fun t66 =>
   some (t66, H17))
   (some (.tup [], H17))) fun t66 H18 =>
  withB (A.asG false t47) fun b21 => withP (guardB b21 false (
   withV (A.bin base.P .or 63 t58 t66 false H18) fun t67 =>
   some (t67, H18))
   (some (.tup [], H18))) fun t67 H19 =>
  withB (A.asG false t47) fun b22 => withP (guardB b22 false (
   withV (A.bin base.P .gtr 63 t56 t67 false H19) fun t68 =>
   some (t68, H19))
   (some (.tup [], H19))) fun t68 H20 =>
  withV (A.pick t47 (AV.bool true) t68) fun t69 =>
  A.test t69 (
  withV (A.bin base.P .sub 63 t9 (AV.int .u64 1) true H20) fun t71 =>
  withV (A.bin base.P .sub 3 t7 (AV.int .i64 1) true H20) fun t75 =>
  withV (A.idx 1 t1 t75 H20) fun t76 =>
  withV (A.load false 1 t76 H20) fun t77 =>
  withV (Go.Den.convert base 64 63 t77) fun t78 =>
  withV (A.bin base.P .add 63 t10 t78 false H20) fun t79 =>
  withV (A.bin base.P .geq 63 t79 (AV.int .u64 4294967296) true H20) fun t81 =>
  A.test t81 (
  some (0, ⟨[t71], []⟩, H20))
  (
  L65_0 pol n m ⟨[t0, t1, t2, t7, t71, t79], []⟩ H20))
  (
  some (0, ⟨[t9], []⟩, H20))) := by kernel_rfl
/-- tenement/big.guess -/
theorem S65 (pol : FuncId → Pol) (n : Nat) (R : Type) (k : AV → Heap → Option R) (a0 a1 a2 : AV) (H : Heap) : callF (base.with pol) (n + 1) R 65 [a0, a1, a2] H k =
  (withV (A.len a1 H) fun t12 =>
  withV (A.bin base.P .add 3 a2 t12 false H) fun t16 =>
  withV (A.idx 1 a0 t16 H) fun t17 =>
  withV (A.load false 1 t17 H) fun t18 =>
  withV (Go.Den.convert base 64 63 t18) fun t19 =>
  withV (A.bin base.P .shl 63 t19 (AV.int .u64 32) true H) fun t20 =>
  withV (A.bin base.P .add 3 a2 t12 false H) fun t24 =>
  withV (A.bin base.P .sub 3 t24 (AV.int .i64 1) true H) fun t25 =>
  withV (A.idx 1 a0 t25 H) fun t26 =>
  withV (A.load false 1 t26 H) fun t27 =>
  withV (Go.Den.convert base 64 63 t27) fun t28 =>
  withV (A.bin base.P .or 63 t20 t28 false H) fun t29 =>
  withV (A.bin base.P .sub 3 t12 (AV.int .i64 1) true H) fun t33 =>
  withV (A.idx 1 a1 t33 H) fun t34 =>
  withV (A.load false 1 t34 H) fun t35 =>
  withV (Go.Den.convert base 64 63 t35) fun t36 =>
  withV (A.bin base.P .quo 63 t29 t36 false H) fun t37 =>
  withV (A.bin base.P .sub 3 t12 (AV.int .i64 1) true H) fun t41 =>
  withV (A.idx 1 a1 t41 H) fun t42 =>
  withV (A.load false 1 t42 H) fun t43 =>
  withV (Go.Den.convert base 64 63 t43) fun t44 =>
  withV (A.bin base.P .rem 63 t29 t44 false H) fun t45 =>
  bindX (L65_0 pol n n ⟨[a0, a1, a2, t12, t37, t45], []⟩ H) fun i2 l2 H2 =>
  altN i2 0 (
  bindV (l2.vs.getD 0 .undef) fun t9 => 
  k t9 H2)
  (none)) := by kernel_rfl
theorem L66_0_step (pol : FuncId → Pol) (n m : Nat) (t0 t1 t2 t3 t9 t10 t17 t18 : AV) (H : Heap) : L66_0 pol n (m + 1) ⟨[t0, t1, t2, t3, t9, t10, t17, t18], []⟩ H =
  (withV (A.bin base.P .lss 3 t18 t17 false H) fun t19 =>
  A.test t19 (
  withV (A.len t1 H) fun t23 =>
  withV (A.bin base.P .lss 3 t18 t23 false H) fun t24 =>
  bindX (A.test t24 (
   withV (A.idx 1 t1 t18 H) fun t27 =>
    withV (A.load false 1 t27 H) fun t28 =>
    withV (Go.Den.convert base 64 63 t28) fun t29 =>
    some (0, ⟨[t0, t1, t2, t3, t9, t10, t18, t29, t17, t18], []⟩, H))
   (
   some (0, ⟨[t0, t1, t2, t3, t9, t10, t18, (AV.int .u64 0), t17, t18], []⟩, H))) fun i2 l2 H2 =>
  altN i2 0 (
  bindV (l2.vs.getD 0 .undef) fun t0 => bindV (l2.vs.getD 1 .undef) fun t1 => bindV (l2.vs.getD 2 .undef) fun t2 => bindV (l2.vs.getD 3 .undef) fun t3 => bindV (l2.vs.getD 4 .undef) fun t9 => bindV (l2.vs.getD 5 .undef) fun t10 => bindV (l2.vs.getD 6 .undef) fun t11 => bindV (l2.vs.getD 7 .undef) fun t12 => bindV (l2.vs.getD 8 .undef) fun t17 => bindV (l2.vs.getD 9 .undef) fun t18 => 
  withV (A.bin base.P .mul 63 t3 t12 false H2) fun t33 =>
  withV (A.bin base.P .add 63 t9 t33 false H2) fun t34 =>
  withV (A.bin base.P .and 63 t34 (AV.int .u64 4294967295) true H2) fun t36 =>
  withV (A.bin base.P .add 63 t36 t10 false H2) fun t38 =>
  withV (A.bin base.P .shr 63 t34 (AV.int .u64 32) true H2) fun t40 =>
  withV (A.bin base.P .add 3 t2 t11 false H2) fun t44 =>
  withV (A.idx 1 t0 t44 H2) fun t45 =>
  withV (A.load false 1 t45 H2) fun t46 =>
  withV (Go.Den.convert base 64 63 t46) fun t47 =>
  withV (A.bin base.P .lss 63 t47 t38 false H2) fun t50 =>
  bindX (A.test t50 (
   withV (A.bin base.P .add 63 t47 (AV.int .u64 4294967296) true H2) fun t52 =>
    some (0, ⟨[t0, t1, t2, t3, t40, (AV.int .u64 1), t11, t38, t52, t17, t18], []⟩, H2))
   (
   some (0, ⟨[t0, t1, t2, t3, t40, (AV.int .u64 0), t11, t38, t47, t17, t18], []⟩, H2))) fun i3 l3 H3 =>
  altN i3 0 (
  bindV (l3.vs.getD 0 .undef) fun t0 => bindV (l3.vs.getD 1 .undef) fun t1 => bindV (l3.vs.getD 2 .undef) fun t2 => bindV (l3.vs.getD 3 .undef) fun t3 => bindV (l3.vs.getD 4 .undef) fun t9 => bindV (l3.vs.getD 5 .undef) fun t10 => bindV (l3.vs.getD 6 .undef) fun t11 => bindV (l3.vs.getD 7 .undef) fun t13 => bindV (l3.vs.getD 8 .undef) fun t14 => bindV (l3.vs.getD 9 .undef) fun t17 => bindV (l3.vs.getD 10 .undef) fun t18 => 
  withV (A.bin base.P .add 3 t2 t11 false H3) fun t56 =>
  withV (A.bin base.P .sub 63 t14 t13 false H3) fun t59 =>
  withV (Go.Den.convert base 63 64 t59) fun t60 =>
  withV (A.idx 1 t0 t56 H3) fun t61 =>
  withH (A.store 1 t61 t60 H3) fun H4 =>
  withV (A.bin base.P .add 3 t18 (AV.int .i64 1) true H4) fun t62 =>
  L66_0 pol n m ⟨[t0, t1, t2, t3, t9, t10, t17, t62], []⟩ H4)
  (none))
  (none))
  (
  some (0, ⟨[t10], []⟩, H))) := by kernel_rfl
/-- tenement/big.take -/
theorem S66 (pol : FuncId → Pol) (n : Nat) (R : Type) (k : AV → Heap → Option R) (a0 a1 a2 a3 : AV) (H : Heap) : callF (base.with pol) (n + 1) R 66 [a0, a1, a2, a3] H k =
  (withV (A.len a1 H) fun t16 =>
  withV (A.bin base.P .add 3 t16 (AV.int .i64 1) true H) fun t17 =>
  bindX (L66_0 pol n n ⟨[a0, a1, a2, a3, (AV.int .u64 0), (AV.int .u64 0), t17, (AV.int .i64 0)], []⟩ H) fun i2 l2 H2 =>
  altN i2 0 (
  bindV (l2.vs.getD 0 .undef) fun t10 => 
  withV (A.bin base.P .eql 63 t10 (AV.int .u64 1) true H2) fun t64 =>
  k t64 H2)
  (none)) := by kernel_rfl
theorem L67_0_step (pol : FuncId → Pol) (n m : Nat) (t0 t1 t2 t6 t10 t11 : AV) (H : Heap) : L67_0 pol n (m + 1) ⟨[t0, t1, t2, t6, t10, t11], []⟩ H =
  (withV (A.bin base.P .lss 3 t11 t10 false H) fun t12 =>
  A.test t12 (
  withV (A.bin base.P .add 3 t2 t11 false H) fun t18 =>
  withV (A.idx 1 t0 t18 H) fun t19 =>
  withV (A.load false 1 t19 H) fun t20 =>
  withV (Go.Den.convert base 64 63 t20) fun t21 =>
  withV (A.bin base.P .add 63 t6 t21 false H) fun t22 =>
  withV (A.len t1 H) fun t25 =>
  withV (A.bin base.P .lss 3 t11 t25 false H) fun t26 =>
  bindX (A.test t26 (
   withV (A.idx 1 t1 t11 H) fun t30 =>
    withV (A.load false 1 t30 H) fun t31 =>
    withV (Go.Den.convert base 64 63 t31) fun t32 =>
    withV (A.bin base.P .add 63 t22 t32 false H) fun t33 =>
    some (0, ⟨[t0, t1, t2, t33, t11, t10, t11], []⟩, H))
   (
   some (0, ⟨[t0, t1, t2, t22, t11, t10, t11], []⟩, H))) fun i2 l2 H2 =>
  altN i2 0 (
  bindV (l2.vs.getD 0 .undef) fun t0 => bindV (l2.vs.getD 1 .undef) fun t1 => bindV (l2.vs.getD 2 .undef) fun t2 => bindV (l2.vs.getD 3 .undef) fun t6 => bindV (l2.vs.getD 4 .undef) fun t7 => bindV (l2.vs.getD 5 .undef) fun t10 => bindV (l2.vs.getD 6 .undef) fun t11 => 
  withV (A.bin base.P .add 3 t2 t7 false H2) fun t37 =>
  withV (Go.Den.convert base 63 64 t6) fun t39 =>
  withV (A.idx 1 t0 t37 H2) fun t40 =>
  withH (A.store 1 t40 t39 H2) fun H3 =>
  withV (A.bin base.P .shr 63 t6 (AV.int .u64 32) true H3) fun t42 =>
  withV (A.bin base.P .add 3 t11 (AV.int .i64 1) true H3) fun t43 =>
  L67_0 pol n m ⟨[t0, t1, t2, t42, t10, t43], []⟩ H3)
  (none))
  (
  some (0, ⟨[], []⟩, H))) := by kernel_rfl
/-- tenement/big.give -/
theorem S67 (pol : FuncId → Pol) (n : Nat) (R : Type) (k : AV → Heap → Option R) (a0 a1 a2 : AV) (H : Heap) : callF (base.with pol) (n + 1) R 67 [a0, a1, a2] H k =
  (withV (A.len a1 H) fun t9 =>
  withV (A.bin base.P .add 3 t9 (AV.int .i64 1) true H) fun t10 =>
  bindX (L67_0 pol n n ⟨[a0, a1, a2, (AV.int .u64 0), t10, (AV.int .i64 0)], []⟩ H) fun i2 l2 H2 =>
  altN i2 0 (
  k (.tup []) H2)
  (none)) := by kernel_rfl
theorem L68_0_step (pol : FuncId → Pol) (n m : Nat) (t0 t1 t5 t12 t13 t14 : AV) (H : Heap) : L68_0 pol n (m + 1) ⟨[t0, t1, t5, t12, t13, t14], []⟩ H =
  (withV (A.bin base.P .lss 3 t14 t13 false H) fun t15 =>
  A.test t15 (
  withV (A.idx 1 t12 t14 H) fun t17 =>
  withV (A.load false 1 t17 H) fun t18 =>
  withV (Go.Den.convert base 64 63 t18) fun t20 =>
  withV (A.bin base.P .add 3 t14 (AV.int .i64 1) true H) fun t22 =>
  withV (A.len t0 H) fun t24 =>
  withV (A.bin base.P .lss 3 t22 t24 false H) fun t25 =>
  bindX (A.test t25 (
   withV (A.bin base.P .add 3 t14 (AV.int .i64 1) true H) fun t29 =>
    withV (A.idx 1 t0 t29 H) fun t30 =>
    withV (A.load false 1 t30 H) fun t31 =>
    withV (Go.Den.convert base 64 63 t31) fun t32 =>
    withV (A.bin base.P .shl 63 t32 (AV.int .u64 32) true H) fun t33 =>
    withV (A.bin base.P .or 63 t20 t33 false H) fun t34 =>
    some (0, ⟨[t0, t1, t5, t14, t34, t12, t13, t14], []⟩, H))
   (
   some (0, ⟨[t0, t1, t5, t14, t20, t12, t13, t14], []⟩, H))) fun i2 l2 H2 =>
  altN i2 0 (
  bindV (l2.vs.getD 0 .undef) fun t0 => bindV (l2.vs.getD 1 .undef) fun t1 => bindV (l2.vs.getD 2 .undef) fun t5 => bindV (l2.vs.getD 3 .undef) fun t6 => bindV (l2.vs.getD 4 .undef) fun t8 => bindV (l2.vs.getD 5 .undef) fun t12 => bindV (l2.vs.getD 6 .undef) fun t13 => bindV (l2.vs.getD 7 .undef) fun t14 => 
  withV (A.bin base.P .shr 63 t8 t1 false H2) fun t39 =>
  withV (Go.Den.convert base 63 64 t39) fun t40 =>
  withV (A.idx 1 t5 t6 H2) fun t41 =>
  withH (A.store 1 t41 t40 H2) fun H3 =>
  withV (A.bin base.P .add 3 t14 (AV.int .i64 1) true H3) fun t42 =>
  L68_0 pol n m ⟨[t0, t1, t5, t12, t13, t42], []⟩ H3)
  (none))
  (
  some (0, ⟨[t5], []⟩, H))) := by kernel_rfl
/-- tenement/big.back -/
theorem S68 (pol : FuncId → Pol) (n : Nat) (R : Type) (k : AV → Heap → Option R) (a0 a1 : AV) (H : Heap) : callF (base.with pol) (n + 1) R 68 [a0, a1] H k =
  (withV (A.len a0 H) fun t10 =>
  withVH (A.makeSlice 1 4 64 (AV.int .u32 0) t10 t10 H) fun t11 H2 =>
  withV (A.len a0 H2) fun t13 =>
  bindX (L68_0 pol n n ⟨[a0, a1, t11, a0, t13, (AV.int .i64 0)], []⟩ H2) fun i4 l4 H4 =>
  altN i4 0 (
  bindV (l4.vs.getD 0 .undef) fun t5 => 
  k t5 H4)
  (none)) := by kernel_rfl
/-- tenement/tenementref1.limb -/
theorem S69 (pol : FuncId → Pol) (n : Nat) (R : Type) (k : AV → Heap → Option R) (a0 a1 : AV) (H : Heap) : callF (base.with pol) (n + 1) R 69 [a0, a1] H k =
  (withV (A.len a0 H) fun t7 =>
  withV (A.bin base.P .lss 3 a1 t7 false H) fun t8 =>
  A.test t8 (
  withV (A.idx 1 a0 a1 H) fun t11 =>
   withV (A.load false 1 t11 H) fun t12 =>
   withV (Go.Den.convert base 64 63 t12) fun t13 =>
   k t13 H)
  (
  k (AV.int .u64 0) H)) := by kernel_rfl
/-- tenement/tenementref1.order -/
theorem S70 (pol : FuncId → Pol) (n : Nat) (R : Type) (k : AV → Heap → Option R) (a0 a1 : AV) (H : Heap) : callF (base.with pol) (n + 1) R 70 [a0, a1] H k =
  (withV (A.bin base.P .lss 2 a0 a1 false H) fun t8 =>
  A.test t8 (
  k (AV.int .i64 (-1)) H)
  (
  withV (A.bin base.P .gtr 2 a0 a1 false H) fun t12 =>
   A.test t12 (
   k (AV.int .i64 1) H)
   (
   k (AV.int .i64 0) H))) := by kernel_rfl
/-- internal/stringslite.HasPrefix -/
theorem S71 (pol : FuncId → Pol) (n : Nat) (R : Type) (k : AV → Heap → Option R) (a0 a1 : AV) (H : Heap) : callF (base.with pol) (n + 1) R 71 [a0, a1] H k =
  (withV (A.lenStr a0) fun t6 =>
  withV (A.lenStr a1) fun t8 =>
  withV (A.bin base.P .geq 3 t6 t8 false H) fun t9 =>
  withB (A.asG true t9) fun b6 => withP (guardB b6 true (
   some (a0, H))
   (some (.tup [], H))) fun t11 H3 =>
  withB (A.asG true t9) fun b7 => withP (guardB b7 true (
   some (a1, H3))
   (some (.tup [], H3))) fun t12 H4 =>
  withB (A.asG true t9) fun b8 => withP (guardB b8 true (
   withV (A.lenStr t12) fun t13 =>
   some (t13, H4))
   (some (.tup [], H4))) fun t13 H6 =>
  withB (A.asG true t9) fun b9 => withP (guardB b9 true (
   withV (A.sliceStr t11 none (some t13)) fun t14 =>
   some (t14, H6))
   (some (.tup [], H6))) fun t14 H7 =>
  withB (A.asG true t9) fun b10 => withP (guardB b10 true (
   some (a1, H7))
   (some (.tup [], H7))) fun t15 H8 =>
  withB (A.asG true t9) fun b11 => withP (guardB b11 true (
   withV (A.bin base.P .eql 9 t14 t15 false H8) fun t16 =>
   some (t16, H8))
   (some (.tup [], H8))) fun t16 H9 =>
  withV (A.pick t9 t16 (AV.bool false)) fun t17 =>
  k t17 H9) := by kernel_rfl
end Go.Proofs.YtikkpecdkdgmfaaDoor

/- What each function does, in Den's words. -/
set_option maxRecDepth 100000
namespace Go.Proofs.YtikkpecdkdgmfaaDoor
open Go Go.Den

/-- math/bits.Mul -/
theorem S72 (pol : FuncId → Pol) (n : Nat) (R : Type) (k : AV → Heap → Option R) (a0 a1 : AV) (H : Heap) : callF (base.with pol) (n + 1) R 72 [a0, a1] H k =
  (A.test (AV.bool false) (
  withV (Go.Den.convert base 65 64 a0) fun t12 =>
   withV (Go.Den.convert base 65 64 a1) fun t14 =>
   cl base pol n 82 [t12, t14] H fun t15 H1 =>
   extractK t15 0 fun t16 =>
   extractK t15 1 fun t17 =>
   withV (Go.Den.convert base 64 65 t16) fun t19 =>
   withV (Go.Den.convert base 64 65 t17) fun t21 =>
   k (.tup [t19, t21]) H1)
  (
  cl base pol n 83 [a0, a1] H fun t25 H2 =>
  extractK t25 0 fun t26 =>
  extractK t25 1 fun t27 =>
  k (.tup [t26, t27]) H2)) := by kernel_rfl
/-- strings.HasPrefix -/
theorem S73 (pol : FuncId → Pol) (n : Nat) (R : Type) (k : AV → Heap → Option R) (a0 a1 : AV) (H : Heap) : callF (base.with pol) (n + 1) R 73 [a0, a1] H k =
  (cl base pol n 71 [a0, a1] H fun t7 H1 =>
  k t7 H1) := by kernel_rfl
/-- (*strings.Builder).Len -/
theorem S74 (pol : FuncId → Pol) (n : Nat) (R : Type) (k : AV → Heap → Option R) (a0 : AV) (H : Heap) : callF (base.with pol) (n + 1) R 74 [a0] H k =
  (withV (A.nilCheck a0 H) fun t4 =>
  withV (A.fa 1 t4 H) fun t5 =>
  withV (A.load false 1 t5 H) fun t6 =>
  withV (A.len t6 H) fun t7 =>
  k t7 H) := by kernel_rfl
/-- (*strings.asciiSet).contains -/
theorem S75 (pol : FuncId → Pol) (n : Nat) (R : Type) (k : AV → Heap → Option R) (a0 a1 : AV) (H : Heap) : callF (base.with pol) (n + 1) R 75 [a0, a1] H k =
  (withV (A.nilCheck a0 H) fun t7 =>
  withV (A.idxArr 1 256 t7 a1 H) fun t8 =>
  withV (A.load false 1 t8 H) fun t9 =>
  k t9 H) := by kernel_rfl
/-- unicode/utf8.DecodeRuneInString -/
theorem S76 (pol : FuncId → Pol) (n : Nat) (R : Type) (k : AV → Heap → Option R) (a0 : AV) (H : Heap) : callF (base.with pol) (n + 1) R 76 [a0] H k =
  (withV (A.bin base.P .neq 9 a0 (AV.str []) true H) fun t5 =>
  withB (A.asG true t5) fun b3 => withP (guardB b3 true (
   some (a0, H))
   (some (.tup [], H))) fun t7 H1 =>
  withB (A.asG true t5) fun b4 => withP (guardB b4 true (
   withV (A.index t7 (AV.int .i64 0)) fun t8 =>
   some (t8, H1))
   (some (.tup [], H1))) fun t8 H2 =>
  withB (A.asG true t5) fun b5 => withP (guardB b5 true (
   withV (A.bin base.P .lss 5 t8 (AV.int .u8 128) true H2) fun t9 =>
   some (t9, H2))
   (some (.tup [], H2))) fun t9 H3 =>
  withV (A.pick t5 t9 (AV.bool false)) fun t10 =>
  A.test t10 (
  withV (A.index a0 (AV.int .i64 0)) fun t12 =>
   withV (Go.Den.convert base 5 21 t12) fun t13 =>
   k (.tup [t13, (AV.int .i64 1)]) H3)
  (
  cl base pol n 84 [a0] H3 fun t16 H4 =>
   extractK t16 0 fun t17 =>
   extractK t16 1 fun t18 =>
   k (.tup [t17, t18]) H4)) := by kernel_rfl
/-- strings.ContainsRune -/
theorem S77 (pol : FuncId → Pol) (n : Nat) (R : Type) (k : AV → Heap → Option R) (a0 a1 : AV) (H : Heap) : callF (base.with pol) (n + 1) R 77 [a0, a1] H k =
  (cl base pol n 85 [a0, a1] H fun t7 H1 =>
  withV (A.bin base.P .geq 3 t7 (AV.int .i64 0) true H1) fun t8 =>
  k t8 H1) := by kernel_rfl
/-- (*strings.Builder).copyCheck -/
theorem S78 (pol : FuncId → Pol) (n : Nat) (R : Type) (k : AV → Heap → Option R) (a0 : AV) (H : Heap) : callF (base.with pol) (n + 1) R 78 [a0] H k =
  (withV (A.nilCheck a0 H) fun t3 =>
  withV (A.fa 0 t3 H) fun t4 =>
  withV (A.load false 1 t4 H) fun t5 =>
  withV (A.bin base.P .eql 92 t5 AV.nilp true H) fun t6 =>
  bindX (A.test t6 (
   convertK base 92 125 a0 H fun t9 H1 =>
    cl base pol n 86 [t9] H1 fun t10 H2 =>
    convertK base 125 92 t10 H2 fun t11 H3 =>
    withV (A.nilCheck a0 H3) fun t12 =>
    withV (A.fa 0 t12 H3) fun t13 =>
    withH (A.store 1 t13 t11 H3) fun H4 =>
    some (0, ⟨[], []⟩, H4))
   (
   withV (A.nilCheck a0 H) fun t15 =>
    withV (A.fa 0 t15 H) fun t16 =>
    withV (A.load false 1 t16 H) fun t17 =>
    withV (A.bin base.P .neq 92 t17 a0 false H) fun t19 =>
    A.test t19 (
    none)
    (
    some (0, ⟨[], []⟩, H)))) fun i5 l5 H5 =>
  altN i5 0 (
  k (.tup []) H5)
  (none)) := by kernel_rfl
/-- cmp.isNaN[int] -/
theorem S80 (pol : FuncId → Pol) (n : Nat) (R : Type) (k : AV → Heap → Option R) (a0 : AV) (H : Heap) : callF (base.with pol) (n + 1) R 80 [a0] H k =
  (withV (A.bin base.P .neq 3 a0 a0 false H) fun t5 =>
  k t5 H) := by kernel_rfl
/-- cmp.isNaN[uint32] -/
theorem S81 (pol : FuncId → Pol) (n : Nat) (R : Type) (k : AV → Heap → Option R) (a0 : AV) (H : Heap) : callF (base.with pol) (n + 1) R 81 [a0] H k =
  (withV (A.bin base.P .neq 64 a0 a0 false H) fun t5 =>
  k t5 H) := by kernel_rfl
/-- math/bits.Mul32 -/
theorem S82 (pol : FuncId → Pol) (n : Nat) (R : Type) (k : AV → Heap → Option R) (a0 a1 : AV) (H : Heap) : callF (base.with pol) (n + 1) R 82 [a0, a1] H k =
  (withV (Go.Den.convert base 64 63 a0) fun t8 =>
  withV (Go.Den.convert base 64 63 a1) fun t10 =>
  withV (A.bin base.P .mul 63 t8 t10 false H) fun t11 =>
  withV (A.bin base.P .shr 63 t11 (AV.int .u64 32) true H) fun t13 =>
  withV (Go.Den.convert base 63 64 t13) fun t14 =>
  withV (Go.Den.convert base 63 64 t11) fun t16 =>
  k (.tup [t14, t16]) H) := by kernel_rfl
/-- math/bits.Mul64 -/
theorem S83 (pol : FuncId → Pol) (n : Nat) (R : Type) (k : AV → Heap → Option R) (a0 a1 : AV) (H : Heap) : callF (base.with pol) (n + 1) R 83 [a0, a1] H k =
  (withV (A.bin base.P .and 63 a0 (AV.int .u64 4294967295) true H) fun t15 =>
  withV (A.bin base.P .shr 63 a0 (AV.int .u64 32) true H) fun t17 =>
  withV (A.bin base.P .and 63 a1 (AV.int .u64 4294967295) true H) fun t19 =>
  withV (A.bin base.P .shr 63 a1 (AV.int .u64 32) true H) fun t21 =>
  withV (A.bin base.P .mul 63 t15 t19 false H) fun t24 =>
  withV (A.bin base.P .mul 63 t17 t19 false H) fun t27 =>
  withV (A.bin base.P .shr 63 t24 (AV.int .u64 32) true H) fun t29 =>
  withV (A.bin base.P .add 63 t27 t29 false H) fun t30 =>
  withV (A.bin base.P .and 63 t30 (AV.int .u64 4294967295) true H) fun t32 =>
  withV (A.bin base.P .shr 63 t30 (AV.int .u64 32) true H) fun t34 =>
  withV (A.bin base.P .mul 63 t15 t21 false H) fun t38 =>
  withV (A.bin base.P .add 63 t32 t38 false H) fun t39 =>
  withV (A.bin base.P .mul 63 t17 t21 false H) fun t42 =>
  withV (A.bin base.P .add 63 t42 t34 false H) fun t44 =>
  withV (A.bin base.P .shr 63 t39 (AV.int .u64 32) true H) fun t46 =>
  withV (A.bin base.P .add 63 t44 t46 false H) fun t47 =>
  withV (A.bin base.P .mul 63 a0 a1 false H) fun t50 =>
  k (.tup [t47, t50]) H) := by kernel_rfl
/-- unicode/utf8.decodeRuneInStringSlow -/
theorem S84 (pol : FuncId → Pol) (n : Nat) (R : Type) (k : AV → Heap → Option R) (a0 : AV) (H : Heap) : callF (base.with pol) (n + 1) R 84 [a0] H k =
  (withV (A.lenStr a0) fun t14 =>
  withV (A.bin base.P .lss 3 t14 (AV.int .i64 1) true H) fun t16 =>
  A.test t16 (
  k (.tup [(AV.int .i32 65533), (AV.int .i64 0)]) H)
  (
  withV (A.index a0 (AV.int .i64 0)) fun t18 =>
  withV (A.idxArr 1 256 (globV base 0) t18 H) fun t20 =>
  withV (A.load false 1 t20 H) fun t21 =>
  withV (A.bin base.P .geq 5 t21 (AV.int .u8 240) true H) fun t23 =>
  A.test t23 (
  withV (Go.Den.convert base 5 21 t21) fun t25 =>
   withV (A.bin base.P .shl 21 t25 (AV.int .u64 31) true H) fun t26 =>
   withV (A.bin base.P .shr 21 t26 (AV.int .u64 31) true H) fun t27 =>
   withV (A.index a0 (AV.int .i64 0)) fun t29 =>
   withV (Go.Den.convert base 5 21 t29) fun t30 =>
   withV (A.bin base.P .andNot 21 t30 t27 false H) fun t32 =>
   withV (A.bin base.P .and 21 (AV.int .i32 65533) t27 false H) fun t34 =>
   withV (A.bin base.P .or 21 t32 t34 false H) fun t35 =>
   k (.tup [t35, (AV.int .i64 1)]) H)
  (
  withV (A.bin base.P .and 5 t21 (AV.int .u8 7) true H) fun t37 =>
  withV (Go.Den.convert base 5 3 t37) fun t38 =>
  withV (A.bin base.P .shr 5 t21 (AV.int .u64 4) true H) fun t40 =>
  withV (A.idxArr 2 16 (globV base 1) t40 H) fun t41 =>
  withV (A.load true 2 t41 H) fun t42 =>
  bindV (.ptr H.length 0 0 0) fun t9 => bindH (H ++ [.row 0 2 130 [(AV.agg [(AV.int .u8 0), (AV.int .u8 0)])]]) fun H2 =>
  withH (A.store 2 t9 t42 H2) fun H3 =>
  withV (A.bin base.P .lss 3 t14 t38 false H3) fun t45 =>
  A.test t45 (
  k (.tup [(AV.int .i32 65533), (AV.int .i64 1)]) H3)
  (
  withV (A.index a0 (AV.int .i64 1)) fun t47 =>
  withV (A.fa 0 t9 H3) fun t49 =>
  withV (A.load false 1 t49 H3) fun t50 =>
  withV (A.bin base.P .lss 5 t47 t50 false H3) fun t51 =>
  withB (A.asG false t51) fun b5 => withP (guardB b5 false (
   withV (A.fa 1 t9 H3) fun t53 =>
   some (t53, H3))
   (some (.tup [], H3))) fun t53 H4 =>
  withB (A.asG false t51) fun b6 => withP (guardB b6 false (
   withV (A.load false 1 t53 H4) fun t54 =>
   some (t54, H4))
   (some (.tup [], H4))) fun t54 H5 =>
  withB (A.asG false t51) fun b7 => withP (guardB b7 false (
   some (t47, H5))
   (some (.tup [], H5))) fun t55 H6 =>
  withB (A.asG false t51) fun b8 => withP (guardB b8 false (
   withV (A.bin base.P .lss 5 t54 t55 false H6) fun t56 =>
   some (t56, H6))
   (some (.tup [], H6))) fun t56 H7 =>
  withV (A.pick t51 (AV.bool true) t56) fun t57 =>
  A.test t57 (
  k (.tup [(AV.int .i32 65533), (AV.int .i64 1)]) H7)
  (
  withV (A.bin base.P .leq 3 t38 (AV.int .i64 2) true H7) fun t59 =>
  A.test t59 (
  withV (A.bin base.P .and 5 t18 (AV.int .u8 31) true H7) fun t61 =>
   withV (Go.Den.convert base 5 21 t61) fun t62 =>
   withV (A.bin base.P .shl 21 t62 (AV.int .u64 6) true H7) fun t63 =>
   withV (A.bin base.P .and 5 t47 (AV.int .u8 63) true H7) fun t65 =>
   withV (Go.Den.convert base 5 21 t65) fun t66 =>
   withV (A.bin base.P .or 21 t63 t66 false H7) fun t67 =>
   k (.tup [t67, (AV.int .i64 2)]) H7)
  (
  withV (A.index a0 (AV.int .i64 2)) fun t69 =>
  withV (A.bin base.P .lss 5 t69 (AV.int .u8 128) true H7) fun t71 =>
  withB (A.asG false t71) fun b3 => withP (guardB b3 false (
   some (t69, H7))
   (some (.tup [], H7))) fun t73 H8 =>
  withB (A.asG false t71) fun b4 => withP (guardB b4 false (
   withV (A.bin base.P .lss 5 (AV.int .u8 191) t73 false H8) fun t74 =>
   some (t74, H8))
   (some (.tup [], H8))) fun t74 H9 =>
  withV (A.pick t71 (AV.bool true) t74) fun t75 =>
  A.test t75 (
  k (.tup [(AV.int .i32 65533), (AV.int .i64 1)]) H9)
  (
  withV (A.bin base.P .leq 3 t38 (AV.int .i64 3) true H9) fun t77 =>
  A.test t77 (
  withV (A.bin base.P .and 5 t18 (AV.int .u8 15) true H9) fun t79 =>
   withV (Go.Den.convert base 5 21 t79) fun t80 =>
   withV (A.bin base.P .shl 21 t80 (AV.int .u64 12) true H9) fun t81 =>
   withV (A.bin base.P .and 5 t47 (AV.int .u8 63) true H9) fun t83 =>
   withV (Go.Den.convert base 5 21 t83) fun t84 =>
   withV (A.bin base.P .shl 21 t84 (AV.int .u64 6) true H9) fun t85 =>
   withV (A.bin base.P .or 21 t81 t85 false H9) fun t86 =>
   withV (A.bin base.P .and 5 t69 (AV.int .u8 63) true H9) fun t88 =>
   withV (Go.Den.convert base 5 21 t88) fun t89 =>
   withV (A.bin base.P .or 21 t86 t89 false H9) fun t90 =>
   k (.tup [t90, (AV.int .i64 3)]) H9)
  (
  withV (A.index a0 (AV.int .i64 3)) fun t92 =>
  withV (A.bin base.P .lss 5 t92 (AV.int .u8 128) true H9) fun t94 =>
  withB (A.asG false t94) fun b3 => withP (guardB b3 false (
   some (t92, H9))
   (some (.tup [], H9))) fun t96 H10 =>
  withB (A.asG false t94) fun b4 => withP (guardB b4 false (
   withV (A.bin base.P .lss 5 (AV.int .u8 191) t96 false H10) fun t97 =>
   some (t97, H10))
   (some (.tup [], H10))) fun t97 H11 =>
  withV (A.pick t94 (AV.bool true) t97) fun t98 =>
  A.test t98 (
  k (.tup [(AV.int .i32 65533), (AV.int .i64 1)]) H11)
  (
  withV (A.bin base.P .and 5 t18 (AV.int .u8 7) true H11) fun t100 =>
  withV (Go.Den.convert base 5 21 t100) fun t101 =>
  withV (A.bin base.P .shl 21 t101 (AV.int .u64 18) true H11) fun t102 =>
  withV (A.bin base.P .and 5 t47 (AV.int .u8 63) true H11) fun t104 =>
  withV (Go.Den.convert base 5 21 t104) fun t105 =>
  withV (A.bin base.P .shl 21 t105 (AV.int .u64 12) true H11) fun t106 =>
  withV (A.bin base.P .or 21 t102 t106 false H11) fun t107 =>
  withV (A.bin base.P .and 5 t69 (AV.int .u8 63) true H11) fun t109 =>
  withV (Go.Den.convert base 5 21 t109) fun t110 =>
  withV (A.bin base.P .shl 21 t110 (AV.int .u64 6) true H11) fun t111 =>
  withV (A.bin base.P .or 21 t107 t111 false H11) fun t112 =>
  withV (A.bin base.P .and 5 t92 (AV.int .u8 63) true H11) fun t114 =>
  withV (Go.Den.convert base 5 21 t114) fun t115 =>
  withV (A.bin base.P .or 21 t112 t115 false H11) fun t116 =>
  k (.tup [t116, (AV.int .i64 4)]) H11))))))))) := by kernel_rfl
end Go.Proofs.YtikkpecdkdgmfaaDoor

/- What each function does, in Den's words. -/
set_option maxRecDepth 100000
namespace Go.Proofs.YtikkpecdkdgmfaaDoor
open Go Go.Den

/-- strings.IndexByte -/
theorem S88 (pol : FuncId → Pol) (n : Nat) (R : Type) (k : AV → Heap → Option R) (a0 a1 : AV) (H : Heap) : callF (base.with pol) (n + 1) R 88 [a0, a1] H k =
  (cl base pol n 92 [a0, a1] H fun t7 H1 =>
  k t7 H1) := by kernel_rfl
/-- unicode/utf8.ValidRune -/
theorem S89 (pol : FuncId → Pol) (n : Nat) (R : Type) (k : AV → Heap → Option R) (a0 : AV) (H : Heap) : callF (base.with pol) (n + 1) R 89 [a0] H k =
  (withV (A.bin base.P .leq 21 (AV.int .i32 0) a0 false H) fun t5 =>
  withB (A.asG true t5) fun b3 => withP (guardB b3 true (
   some (a0, H))
   (some (.tup [], H))) fun t7 H1 =>
  withB (A.asG true t5) fun b4 => withP (guardB b4 true (
   withV (A.bin base.P .lss 21 t7 (AV.int .i32 55296) true H1) fun t8 =>
   some (t8, H1))
   (some (.tup [], H1))) fun t8 H2 =>
  withV (A.pick t5 t8 (AV.bool false)) fun t9 =>
  A.test t9 (
  k (AV.bool true) H2)
  (
  withV (A.bin base.P .lss 21 (AV.int .i32 57343) a0 false H2) fun t12 =>
   withB (A.asG true t12) fun b3 => withP (guardB b3 true (
    some (a0, H2))
    (some (.tup [], H2))) fun t14 H3 =>
   withB (A.asG true t12) fun b4 => withP (guardB b4 true (
    withV (A.bin base.P .leq 21 t14 (AV.int .i32 1114111) true H3) fun t15 =>
    some (t15, H3))
    (some (.tup [], H3))) fun t15 H4 =>
   withV (A.pick t12 t15 (AV.bool false)) fun t16 =>
   A.test t16 (
   k (AV.bool true) H4)
   (
   k (AV.bool false) H4))) := by kernel_rfl
/-- internal/bytealg.Cutover -/
theorem S90 (pol : FuncId → Pol) (n : Nat) (R : Type) (k : AV → Heap → Option R) (a0 : AV) (H : Heap) : callF (base.with pol) (n + 1) R 90 [a0] H k =
  (withV (A.bin base.P .add 3 a0 (AV.int .i64 16) true H) fun t4 =>
  withV (A.bin base.P .quo 3 t4 (AV.int .i64 8) true H) fun t5 =>
  k t5 H) := by kernel_rfl
/-- internal/stringslite.IndexByte -/
theorem S92 (pol : FuncId → Pol) (n : Nat) (R : Type) (k : AV → Heap → Option R) (a0 a1 : AV) (H : Heap) : callF (base.with pol) (n + 1) R 92 [a0, a1] H k =
  (cl base pol n 93 [a0, a1] H fun t7 H1 =>
  k t7 H1) := by kernel_rfl
end Go.Proofs.YtikkpecdkdgmfaaDoor

/- What each function does, in Den's words. -/

/- The base of all that is proved of the seat's functions. -/
set_option maxRecDepth 100000
namespace Go.Proofs.YtikkpecdkdgmfaaDoor
open Go Go.Den

theorem base_ok : BaseOK base := ⟨envOK described (by kernel_rfl) (fun f hf => lookAnn_none hf) (by kernel_rfl), by kernel_rfl⟩
end Go.Proofs.YtikkpecdkdgmfaaDoor

/- Numbers of any size: copies, cuts, which is less. -/
set_option maxRecDepth 100000
namespace Go.Proofs.YtikkpecdkdgmfaaDoor
open Go Go.Den

theorem ty_limbs : base.P.underlying 22 = some (.slice 64) := by kernel_rfl
theorem ty_bool : base.P.underlying 4 = some .bool := by kernel_rfl
theorem ty_u32 : base.P.underlying 64 = some (.int .u32) := by kernel_rfl
theorem ty_u64 : base.P.underlying 63 = some (.int .u64) := by kernel_rfl
theorem cv_32_64 (n : Int) (j : IntKind) : Go.Den.convert base 64 63 (.int j n) = some (.int .u64 (IntKind.wrap .u64 n)) := conv_int ty_u32 ty_u64
theorem cv_64_32 (n : Int) (j : IntKind) : Go.Den.convert base 63 64 (.int j n) = some (.int .u32 (IntKind.wrap .u32 n)) := conv_int ty_u64 ty_u32

/-- A copy. -/
noncomputable def pClone : Pol := .still (p1 cD eD few id)
theorem kClone {R : Type} {d : Option (List UInt32)} (hf : few d) {H : Heap} {k : AV → Heap → Option R} : polK pClone [eD d] H k = k (eD d) H := by
  simp [pClone, polK_imm, hf]
theorem qClone {R : Type} {d : Option (List UInt32)} (hf : few d) {H : Heap} {k : AV → Heap → Option R} : polQ pClone [eD d] H k = k (eD d) H := by
  simp [pClone, polQ_imm, hf]
theorem okClone : PolOK base 54 pClone := still1 base_ok [] trivial fun d hf => by
  unfold few at hf
  refine Evs.of fun n _ => ?_
  cases d with
  | none => simp [↓test_bool, ↓bindV_eq, ↓bindH_eq, ↓withV_of, S54, eL, A.bin, ty_limbs, A.eqNil]
  | some l =>
    simp only [Option.getD_some] at hf
    cases l with
    | nil =>
      have h1 := row_append_nil (H := [.row 0 1 64 []]) (id := 0) (ver := 0) (sz := 1) (ty := 64) (es := []) (n := 0) (bytes := 4) rfl rfl (by omega) (by simp)
      simp [↓test_bool, ↓bindV_eq, ↓bindH_eq, ↓withV_of, ↓withL_some, ↓withVH_some, S54, eL, A.bin, ty_limbs, A.eqNil, A.fillElems, newsOf_sl ty_limbs, A.read, h1]
      exact freeze_row (b := true) (m := 62) (es := []) rfl rfl (by simp)
    | cons x l =>
      have h1 := row_append (H := [.row 0 1 64 []]) (id := 0) (ver := 0) (sz := 1) (ty := 64) (es := []) (n := 0) (bytes := 4) (news := (x :: l).map eu) rfl rfl (by simp) (by omega) (by simp at hf ⊢; omega)
      simp only [List.nil_append] at h1
      simp [↓test_bool, ↓bindV_eq, ↓bindH_eq, ↓withV_of, ↓withL_some, S54, eL, A.bin, ty_limbs, A.eqNil, A.fillElems, newsOf_sl ty_limbs, A.read]
      simp at h1
      simp [h1]
      exact freeze_row (b := true) (m := 62) (es := (x :: l).map eu) rfl (by simp) (flat_limbs _)

/-- Noughts at the end are taken off. -/
def cutS (d : Option (List UInt32)) : Option (List UInt32) := d.map fun l => lim (val l)
noncomputable def pCut : Pol := .still (p1 cD eD few cutS)
theorem cut_loop {pol : FuncId → Pol} {d : Option (List UInt32)} {l : List UInt32} (hd : d.getD [] = l) (hf : l.length ≤ 1000000) (H : Heap) : ∀ i, i ≤ l.length → LDoes (L38_0 pol) ⟨[eD d, .int .i64 i], []⟩ H 0 ⟨[eD d, .int .i64 (lim (val (l.take i))).length], []⟩ H := by
  intro i
  induction i with
  | zero =>
    intro _
    refine LDoes.step (Evs.of fun n m => ?_)
    simp [↓test_bool, ↓withV_of, ↓withP_some, ↓withB_some, L38_0_step, val, lim_zero]
  | succ i ih =>
    intro hi
    have hl : i < (d.getD []).length := by rw [hd]; omega
    have hx := idx_eD (H := H) (k := .i64) hl
    by_cases h0 : l[i] = 0
    · have hL := ih (by omega)
      refine LDoes.step (Evs.withL hL (Evs.of fun n m h1 h2 => ?_))
      have h0' : ((d.getD [])[i]).toNat = 0 := by simp only [hd, h0]; rfl
      have hp : (0 : Int) < (i : Int) + 1 := by omega
      rw [lim_take (by omega), if_pos h0]
      simp (disch := omega) [↓test_bool, ↓withV_of, ↓withP_some, ↓withB_some, L38_0_step, hp, wrap_i64, hx, h0', h2]
    · refine LDoes.step (Evs.of fun n m => ?_)
      have h0' : ¬ ((d.getD [])[i]).toNat = 0 := by
        simp only [hd]
        exact fun e => h0 (UInt32.toNat_inj.1 (by simpa using e))
      have hp : (0 : Int) < (i : Int) + 1 := by omega
      rw [lim_take (by omega), if_neg h0]
      simp (disch := omega) [↓test_bool, ↓withV_of, ↓withP_some, ↓withB_some, L38_0_step, hp, wrap_i64, hx, h0']
theorem okCut : PolOK base 38 pCut := still1 base_ok [(54, pClone)] ⟨okClone, trivial⟩ fun d hf => by
  unfold few at hf
  have hL := cut_loop (pol := polT [(54, pClone)]) (d := d) rfl hf [] _ (Nat.le_refl _)
  refine Evs.withL hL (Evs.of fun n m h1 _ => ?_)
  have hs : ∀ k : Nat, k ≤ (d.getD []).length → A.slice 1 (eD d) none (some (.int .i64 k)) none [] = some (eD (d.map fun l => l.take k)) := fun k hk => by
    cases d with
    | none => simp at hk; subst hk; rfl
    | some l =>
      simp at hk
      simp [eL, A.slice, A.bound, hk]
  have hle := lim_len_le (d.getD [])
  have e : (d.map fun l => l.take (lim (val (d.getD []))).length) = cutS d := by
    cases d with
    | none => rfl
    | some l => simp [cutS, take_lim]
  have hk := hs _ hle
  rw [e] at hk
  have hf2 : few (cutS d) := by
    rw [← e]
    unfold few
    cases d with
    | none => simp
    | some l => simp at hf ⊢; omega
  rw [List.take_length] at h1
  simp [↓bindV_eq, ↓withV_of, ↓bindX_some, S38, h1, hk, kClone hf2]
theorem kCut {R : Type} {d : Option (List UInt32)} (hf : few d) {H : Heap} {k : AV → Heap → Option R} : polK pCut [eD d] H k = k (eD (cutS d)) H := by
  simp [pCut, polK_imm, hf]
theorem qCut {R : Type} {d : Option (List UInt32)} (hf : few d) {H : Heap} {k : AV → Heap → Option R} : polQ pCut [eD d] H k = k (eD (cutS d)) H := by
  simp [pCut, polQ_imm, hf]
theorem few_cut {d : Option (List UInt32)} (h : few d) : few (cutS d) := by
  unfold few at h ⊢
  cases d with
  | none => simp [cutS]
  | some l =>
    have := lim_len_le l
    simp [cutS] at h ⊢
    omega

/-- A number of a sign and limbs. -/
def madeS (b : Bool) (d : Option (List UInt32)) : Nm := (b && decide (0 < ((cutS d).getD []).length), cutS d)
noncomputable def pMade : Pol := .still (p2 cB cD eN (fun _ d => few d) madeS)
theorem okMade : PolOK base 34 pMade := still2 base_ok [(38, pCut)] ⟨okCut, trivial⟩ fun b d hf => by
  refine Evs.of fun n m => ?_
  cases b <;> simp [↓bindC_eq, ↓withV_of, ↓withP_some, ↓withB_some, ↓chkD_true, S34, kCut hf, madeS, A.fill, A.splice, A.fits, A.ofList]
theorem kMade {R : Type} {b : Bool} {d : Option (List UInt32)} (hf : few d) {H : Heap} {k : AV → Heap → Option R} : polK pMade [.bool b, eD d] H k = k (eN (madeS b d)) H := by
  simp [pMade, polK_imm, hf]
theorem qMade {R : Type} {b : Bool} {d : Option (List UInt32)} (hf : few d) {H : Heap} {k : AV → Heap → Option R} : polQ pMade [.bool b, eD d] H k = k (eN (madeS b d)) H := by
  simp [pMade, polQ_imm, hf]

/-- A number without noughts at its end. -/
def normS (a : Nm) : Nm := madeS a.1 a.2
noncomputable def pNorm : Pol := .still (p1 cN eN (fun a => few a.2) normS)
theorem okNorm : PolOK base 19 pNorm := still1 base_ok [(34, pMade)] ⟨okMade, trivial⟩ fun a hf => by
  refine Evs.of fun n m => ?_
  simp [↓bindC_eq, ↓withV_of, ↓chkD_true, S19, kMade hf, normS, A.splice, A.fits, A.ofList]
theorem kNorm {R : Type} {a : Nm} (hf : few a.2) {H : Heap} {k : AV → Heap → Option R} : polK pNorm [eN a] H k = k (eN (normS a)) H := by
  simp [pNorm, polK_imm, hf]
theorem qNorm {R : Type} {a : Nm} (hf : few a.2) {H : Heap} {k : AV → Heap → Option R} : polQ pNorm [eN a] H k = k (eN (normS a)) H := by
  simp [pNorm, polQ_imm, hf]

/-! ### which is less -/
noncomputable def pNan : Pol := .still (p1 (cI .i64) .bool (fun _ => True) fun _ => false)
theorem okNan : PolOK base 80 pNan := still1 base_ok [] trivial fun a _ => Evs.of fun n m => by simp [↓withV_of, S80]
noncomputable def pNan32 : Pol := .still (p1 cU32 .bool (fun _ => True) fun _ => false)
theorem okNan32 : PolOK base 81 pNan32 := still1 base_ok [] trivial fun a _ => Evs.of fun n m => by simp [↓withV_of, S81]
noncomputable def pCmp : Pol := .still (p2 (cI .i64) (cI .i64) (.int .i64) (fun _ _ => True) cmpI)
theorem okCmp : PolOK base 62 pCmp := still2 base_ok [(80, pNan)] ⟨okNan, trivial⟩ fun a b _ => Evs.of fun n m => by
  have h : ∀ (R : Type) (x : Int) (H : Heap) (k : AV → Heap → Option R), polK pNan [.int .i64 x] H k = k (.bool false) H := fun R x H k => by simp [pNan, polK_imm]
  simp [↓test_bool, ↓withV_of, S62, h, cmpI]
  split <;> (try split) <;> simp
theorem kCmp {R : Type} {a b : Int} {H : Heap} {k : AV → Heap → Option R} : polK pCmp [.int .i64 a, .int .i64 b] H k = k (.int .i64 (cmpI a b)) H := by
  simp [pCmp, polK_imm]
theorem qCmp {R : Type} {a b : Int} {H : Heap} {k : AV → Heap → Option R} : polQ pCmp [.int .i64 a, .int .i64 b] H k = k (.int .i64 (cmpI a b)) H := by
  simp [pCmp, polQ_imm]
noncomputable def pCmp32 : Pol := .still (p2 cU32 cU32 (.int .i64) (fun _ _ => True) fun x y => cmpI x.toNat y.toNat)
theorem okCmp32 : PolOK base 63 pCmp32 := still2 base_ok [(81, pNan32)] ⟨okNan32, trivial⟩ fun a b _ => Evs.of fun n m => by
  have h : ∀ (R : Type) (x : UInt32) (H : Heap) (k : AV → Heap → Option R), polK pNan32 [eu x] H k = k (.bool false) H := fun R x H k => by simp [pNan32, polK_imm]
  simp [↓test_bool, ↓withV_of, S63, h, cmpI]
  split <;> (try split) <;> simp
theorem kCmp32 {R : Type} {a b : UInt32} {H : Heap} {k : AV → Heap → Option R} : polK pCmp32 [eu a, eu b] H k = k (.int .i64 (cmpI a.toNat b.toNat)) H := by
  simp [pCmp32, polK_imm]
theorem qCmp32 {R : Type} {a b : UInt32} {H : Heap} {k : AV → Heap → Option R} : polQ pCmp32 [eu a, eu b] H k = k (.int .i64 (cmpI a.toNat b.toNat)) H := by
  simp [pCmp32, polQ_imm]

def sizeS (a b : Option (List UInt32)) : Int := if (a.getD []).length ≠ (b.getD []).length then cmpI (a.getD []).length (b.getD []).length else cmpN (val (a.getD [])) (val (b.getD []))
noncomputable def pSize : Pol := .still (p2 cD cD (.int .i64) (fun a b => few a ∧ few b) sizeS)
noncomputable abbrev TSize : List (FuncId × Pol) := [(62, pCmp), (63, pCmp32)]
theorem size_loop {a b : Option (List UInt32)} (hab : (a.getD []).length = (b.getD []).length) (hf : (a.getD []).length ≤ 1000000) (H : Heap) : ∀ i, i ≤ (a.getD []).length →
    LDoes (L44_0 (polT TSize)) ⟨[eD a, eD b, .int .i64 ((i : Int) - 1)], []⟩ H (if cmpN (val ((a.getD []).take i)) (val ((b.getD []).take i)) = 0 then 0 else 1) ⟨[if cmpN (val ((a.getD []).take i)) (val ((b.getD []).take i)) = 0 then .undef else .int .i64 (cmpN (val ((a.getD []).take i)) (val ((b.getD []).take i)))], []⟩ H := by
  intro i
  induction i with
  | zero =>
    intro _
    refine LDoes.step (Evs.of fun n m => ?_)
    have : cmpN (val []) (val []) = 0 := cmpI_self _
    simp [↓test_bool, ↓withV_of, L44_0_step, this]
  | succ i ih =>
    intro hi
    have hx := idx_eD (d := a) (H := H) (k := .i64) (i := i) (by omega)
    have hy := idx_eD (d := b) (H := H) (k := .i64) (i := i) (by omega)
    rw [cmp_top (by omega) (by omega)]
    have e : ((i + 1 : Nat) : Int) - 1 = i := by omega
    rw [e]
    have hp : (0 : Int) ≤ i := by omega
    by_cases h0 : (a.getD [])[i] = (b.getD [])[i]
    · rw [if_pos h0]
      refine LDoes.step (Evs.withL (ih (by omega)) (Evs.of fun n m h1 h2 => ?_))
      simp (disch := omega) [↓test_bool, ↓withV_of, L44_0_step, hx, hy, h0, hp, wrap_i64, h2]
    · rw [if_neg h0]
      have h0' : ¬ (((a.getD [])[i]).toNat : Int) = ((b.getD [])[i]).toNat := fun e => h0 (UInt32.toNat_inj.1 (by omega))
      have h1 : ¬ cmpI ((a.getD [])[i]).toNat ((b.getD [])[i]).toNat = 0 := fun e => h0' (cmpI_eq.1 e)
      refine LDoes.step (Evs.of fun n m => ?_)
      simp (disch := omega) [↓test_bool, ↓withV_of, L44_0_step, hx, hy, h0', hp, qCmp32, h1]
theorem okSize : PolOK base 44 pSize := still2 base_ok TSize ⟨okCmp, okCmp32, trivial⟩ fun a b ⟨ha, hb⟩ => by
  unfold few at ha hb
  by_cases hl : (a.getD []).length = (b.getD []).length
  · refine Evs.withL (size_loop hl ha [] _ (Nat.le_refl _)) (Evs.of fun n m h1 _ => ?_)
    rw [List.take_length, hl, List.take_length] at h1
    have e : sizeS a b = cmpN (val (a.getD [])) (val (b.getD [])) := by unfold sizeS; rw [if_neg (by simp [hl])]
    rw [e]
    by_cases h0 : cmpN (val (a.getD [])) (val (b.getD [])) = 0
    · simp only [h0, if_true] at h1
      simp (disch := omega) [↓test_bool, ↓bindV_eq, ↓withV_of, ↓bindX_some, S44, hl, wrap_i64, h1, h0]
    · simp only [h0, if_false] at h1
      simp (disch := omega) [↓test_bool, ↓bindV_eq, ↓withV_of, ↓bindX_some, S44, hl, wrap_i64, h1]
  · refine Evs.of fun n m => ?_
    have hl' : ¬ ((a.getD []).length : Int) = (b.getD []).length := by omega
    simp [↓test_bool, ↓withV_of, S44, sizeS, hl, hl', kCmp]
theorem kSize {R : Type} {a b : Option (List UInt32)} (ha : few a) (hb : few b) {H : Heap} {k : AV → Heap → Option R} : polK pSize [eD a, eD b] H k = k (.int .i64 (sizeS a b)) H := by
  simp [pSize, polK_imm, ha, hb]
theorem qSize {R : Type} {a b : Option (List UInt32)} (ha : few a) (hb : few b) {H : Heap} {k : AV → Heap → Option R} : polQ pSize [eD a, eD b] H k = k (.int .i64 (sizeS a b)) H := by
  simp [pSize, polQ_imm, ha, hb]

def compareS (a b : Nm) : Int :=
  let a := normS a
  let b := normS b
  if a.1 ≠ b.1 then (if a.1 then -1 else 1) else if a.1 then sizeS b.2 a.2 else sizeS a.2 b.2
noncomputable def pCompare : Pol := .still (p2 cN cN (.int .i64) (fun a b => few a.2 ∧ few b.2) compareS)
theorem okCompare : PolOK base 22 pCompare := still2 base_ok [(19, pNorm), (44, pSize)] ⟨okNorm, okSize, trivial⟩ fun a b ⟨ha, hb⟩ => by
  refine Evs.of fun n m => ?_
  have h1 : Go.Den.Box [.row 0 2 26 [eN a]] 0 2 26 [.bool a.1, eD a.2] := rfl
  have h2 : Go.Den.Box [.row 0 2 26 [eN (normS a)]] 0 2 26 [.bool (normS a).1, eD (normS a).2] := rfl
  have hs := box_store (ds := [.bool (normS a).1, eD (normS a).2]) h1 rfl rfl (by simp)
  have fa : few (normS a).2 := few_cut ha
  have fb : few (normS b).2 := few_cut hb
  unfold compareS
  generalize hna : normS a = x at *
  generalize hnb : normS b = y at *
  obtain ⟨p, d⟩ := x
  obtain ⟨q, e⟩ := y
  simp only [List.set_cons_zero] at hs
  cases p <;> cases q <;> simp [↓test_bool, ↓bindV_eq, ↓bindC_eq, ↓bindH_eq, ↓withV_of, ↓withP_some, ↓withH_some, ↓withB_some, ↓chkD_true, S22, box_load h1, qNorm ha, qNorm hb, hna, hnb, hs, A.ofList, A.fits, h2.fa, h2.load, A.splice, A.bin_bne ty_bool, kSize fa fb, kSize fb fa]
theorem kCompare {R : Type} {a b : Nm} (ha : few a.2) (hb : few b.2) {H : Heap} {k : AV → Heap → Option R} : polK pCompare [eN a, eN b] H k = k (.int .i64 (compareS a b)) H := by
  simp [pCompare, polK_imm, ha, hb]
theorem qCompare {R : Type} {a b : Nm} (ha : few a.2) (hb : few b.2) {H : Heap} {k : AV → Heap → Option R} : polQ pCompare [eN a, eN b] H k = k (.int .i64 (compareS a b)) H := by
  simp [pCompare, polQ_imm, ha, hb]
end Go.Proofs.YtikkpecdkdgmfaaDoor

/- Numbers of any size: sums, differences, products. -/
set_option maxRecDepth 100000
namespace Go.Proofs.YtikkpecdkdgmfaaDoor
open Go Go.Den

/-! ### sums -/
def plusN (a b : Option (List UInt32)) : Nat := val (a.getD []) + val (b.getD [])
def plusM (a b : Option (List UInt32)) : Nat := max (a.getD []).length (b.getD []).length
def plusK (a b : Option (List UInt32)) : Nat := if plusN a b < 4294967296 ^ plusM a b then plusM a b else plusM a b + 1
def plusS (a b : Option (List UInt32)) : Option (List UInt32) := nz (digs (plusK a b) (plusN a b))
/-- What stands at a place. -/
def at_ (l : List UInt32) (i : Nat) : Nat := if h : i < l.length then (l[i]).toNat else 0
theorem at_lt (l : List UInt32) (i : Nat) : at_ l i < 4294967296 := by
  unfold at_
  split
  · exact limb_lt _
  · omega
theorem val_at (l : List UInt32) (i : Nat) : val (l.take (i + 1)) = val (l.take i) + 4294967296 ^ i * at_ l i := by
  unfold at_
  split
  · rename_i h; exact val_take_succ h
  · rename_i h
    rw [List.take_of_length_le (by omega), List.take_of_length_le (by omega)]
    simp
def plusT (a b : Option (List UInt32)) (i : Nat) : Nat := val ((a.getD []).take i) + val ((b.getD []).take i)
theorem plusT_succ (a b : Option (List UInt32)) (i : Nat) : plusT a b (i + 1) / 4294967296 ^ i = plusT a b i / 4294967296 ^ i + at_ (a.getD []) i + at_ (b.getD []) i := by
  unfold plusT
  rw [val_at, val_at]
  have e : val ((a.getD []).take i) + 4294967296 ^ i * at_ (a.getD []) i + (val ((b.getD []).take i) + 4294967296 ^ i * at_ (b.getD []) i) = val ((a.getD []).take i) + val ((b.getD []).take i) + 4294967296 ^ i * (at_ (a.getD []) i + at_ (b.getD []) i) := by grind
  rw [e, Nat.add_mul_div_left _ _ (Nat.pow_pos (by omega))]
  omega
theorem plusT_digs (a b : Option (List UInt32)) (i : Nat) : digs (i + 1) (plusT a b (i + 1)) = digs i (plusT a b i) ++ [UInt32.ofNat (plusT a b i / 4294967296 ^ i + at_ (a.getD []) i + at_ (b.getD []) i)] := by
  rw [digs_append, plusT_succ]
  congr 1
  unfold plusT
  rw [val_at, val_at]
  have e : val ((a.getD []).take i) + 4294967296 ^ i * at_ (a.getD []) i + (val ((b.getD []).take i) + 4294967296 ^ i * at_ (b.getD []) i) = val ((a.getD []).take i) + val ((b.getD []).take i) + 4294967296 ^ i * (at_ (a.getD []) i + at_ (b.getD []) i) := by grind
  rw [e, digs_add]
theorem plusT_carry (a b : Option (List UInt32)) (i : Nat) : plusT a b i / 4294967296 ^ i ≤ 1 := by
  have h1 := val_take_lt (a.getD []) i
  have h2 := val_take_lt (b.getD []) i
  have : plusT a b i / 4294967296 ^ i < 2 := Nat.div_lt_of_lt_mul (by unfold plusT; omega)
  omega
theorem plusT_end {a b : Option (List UInt32)} {i : Nat} (h : plusM a b ≤ i) : plusT a b i = plusN a b := by
  unfold plusT plusN
  unfold plusM at h
  rw [List.take_of_length_le (by omega), List.take_of_length_le (by omega)]
theorem plus_goes {a b : Option (List UInt32)} {i : Nat} (h : i < plusK a b) : i < plusM a b ∨ 0 < plusT a b i / 4294967296 ^ i := by
  unfold plusK at h
  split at h
  · exact .inl h
  · rename_i h2
    rcases Nat.lt_or_ge i (plusM a b) with h3 | h3
    · exact .inl h3
    · right
      have : i = plusM a b := by omega
      subst this
      rw [plusT_end (Nat.le_refl _)]
      exact Nat.div_pos (by omega) (Nat.pow_pos (by omega))
theorem plus_ends {a b : Option (List UInt32)} : ¬ (plusK a b < plusM a b) ∧ plusT a b (plusK a b) / 4294967296 ^ plusK a b = 0 := by
  unfold plusK
  split
  · rename_i h
    rw [plusT_end (Nat.le_refl _)]
    exact ⟨by omega, Nat.div_eq_of_lt h⟩
  · rw [plusT_end (by omega)]
    refine ⟨by omega, Nat.div_eq_of_lt ?_⟩
    have h1 := val_take_lt (a.getD []) (plusM a b)
    have h2 := val_take_lt (b.getD []) (plusM a b)
    rw [List.take_of_length_le (by unfold plusM; omega)] at h1 h2
    have e : plusN a b = val (a.getD []) + val (b.getD []) := rfl
    rw [e, Nat.pow_succ]
    omega

theorem at_idx {d : Option (List UInt32)} {i : Nat} (h : i < (d.getD []).length) (H : Heap) : A.idx 1 (eD d) (.int .i64 (i : Int)) H = some (.rop [.int .u32 (at_ (d.getD []) i : Nat)]) := by
  rw [idx_eD h]
  simp [at_, h]
theorem at_out {l : List UInt32} {i : Nat} (h : ¬ i < l.length) : at_ l i = 0 := by unfold at_; rw [dif_neg h]

theorem plus_loop {pol : FuncId → Pol} {a b : Option (List UInt32)} (ha : few a) (hb : few b) : ∀ (k i : Nat) (H : Heap) (out : AV), k + i = plusK a b → Out eu 1 64 H out (digs i (plusT a b i)) →
    ∃ H' out', LDoes (L46_0 pol) ⟨[eD a, eD b, out, .int .u64 ((plusT a b i / 4294967296 ^ i : Nat) : Int), .int .i64 i], []⟩ H 0 ⟨[out'], []⟩ H' ∧ Out eu 1 64 H' out' (digs (plusK a b) (plusN a b)) := by
  unfold few at ha hb
  have hM : plusM a b ≤ 1000000 := by unfold plusM; omega
  intro k
  induction k with
  | zero =>
    intro i H out hi ho
    have : i = plusK a b := by omega
    subst this
    obtain ⟨e1, e2⟩ := plus_ends (a := a) (b := b)
    have e3 : plusT a b (plusK a b) = plusN a b := plusT_end (by omega)
    refine ⟨H, out, LDoes.step (Evs.of fun n m => ?_), e3 ▸ ho⟩
    rw [e2]
    have hA : ¬ plusK a b < (a.getD []).length := by unfold plusM at e1; omega
    have hB : ¬ plusK a b < (b.getD []).length := by unfold plusM at e1; omega
    generalize plusK a b = K at *
    by_cases hc : (a.getD []).length < (b.getD []).length <;> simp [↓test_bool, ↓withV_of, ↓withP_some, ↓withB_some, L46_0_step, hc, hA, hB]
  | succ k ih =>
    intro i H out hi ho
    have hg := plus_goes (a := a) (b := b) (i := i) (by omega)
    have hK : plusK a b ≤ 1000001 := by unfold plusK; split <;> omega
    have hc := plusT_carry a b i
    have hx := at_lt (a.getD []) i
    have hy := at_lt (b.getD []) i
    generalize hC : plusT a b i / 4294967296 ^ i = C at *
    have hdig := plusT_digs a b i
    have hsuc := plusT_succ a b i
    rw [hC] at hdig hsuc
    have hcar : plusT a b (i + 1) / 4294967296 ^ (i + 1) = (C + at_ (a.getD []) i + at_ (b.getD []) i) / 4294967296 := by
      rw [Nat.pow_succ, ← Nat.div_div_eq_div_mul, hsuc]
    obtain ⟨v', H1, hap, hO⟩ := ho.push (x := UInt32.ofNat (C + at_ (a.getD []) i + at_ (b.getD []) i)) (bytes := 4) (by omega) (by rw [digs_length]; omega)
    rw [← hdig] at hO
    have hnum : ((C : Int) + at_ (a.getD []) i + at_ (b.getD []) i) = ((C + at_ (a.getD []) i + at_ (b.getD []) i : Nat) : Int) := by push_cast; rfl
    have hw : IntKind.wrap .u32 ((C : Int) + at_ (a.getD []) i + at_ (b.getD []) i) = ((UInt32.ofNat (C + at_ (a.getD []) i + at_ (b.getD []) i)).toNat : Nat) := by
      rw [← wrap_nat32]; push_cast; rfl
    generalize UInt32.ofNat (C + at_ (a.getD []) i + at_ (b.getD []) i) = dig at hap hw
    obtain ⟨H', out', hL, hO'⟩ := ih (i + 1) H1 v' (by omega) hO
    refine ⟨H', out', LDoes.step (Evs.withL hL (Evs.of fun n m _ h2 => ?_)), hO'⟩
    rw [hcar] at h2
    have hdiv : (((C + at_ (a.getD []) i + at_ (b.getD []) i) / 4294967296 : Nat) : Int) = ((C : Int) + at_ (a.getD []) i + at_ (b.getD []) i) / 4294967296 := by omega
    simp only [hdiv, Int.natCast_add, Int.natCast_one] at h2
    have hs : ∀ H, A.bin base.P .shr 63 (.int .u64 ((C : Int) + at_ (a.getD []) i + at_ (b.getD []) i)) (.int .u64 32) true H = some (.int .u64 (((C + at_ (a.getD []) i + at_ (b.getD []) i) / 4294967296 : Nat) : Int)) := fun H => by
      have := shr_u64 (P := base.P) (t := 63) (c := true) (H := H) (a := C + at_ (a.getD []) i + at_ (b.getD []) i) (s := 32) (j := .u64) (by omega)
      rw [hnum]
      exact this
    have hone := fillElems_one (eu dig) (.int .u32 0) rfl rfl
    have hread := tmp_read (H := H) (sz := 1) (ty := 64) (x := eu dig)
    have hi1 : IntKind.wrap .i64 ((i : Int) + 1) = (i : Int) + 1 := wrap_i64 (by omega) (by omega)
    by_cases hA : i < (a.getD []).length
    · have hax := at_idx (d := a) hA H
      have hlt : (i : Int) < (if (a.getD []).length < (b.getD []).length then ((b.getD []).length : Int) else (a.getD []).length) := by split <;> omega
      by_cases hB : i < (b.getD []).length
      · have hbx := at_idx (d := b) hB H
        simp (disch := omega) [↓test_bool, ↓bindV_eq, ↓bindH_eq, ↓withV_of, ↓withP_some, ↓withL_some, ↓withVH_some, ↓withB_some, ↓bindX_some, L46_0_step, hlt, hA, hB, hax, hbx, cv_32_64, cv_64_32, wrap_u64, hw, hs, hone, newsOf_sl ty_limbs, hread, hap, hi1, h2]
      · simp only [at_out hB, Int.natCast_zero, Int.add_zero, Nat.add_zero] at hw hs h2 hap hone hread
        simp (disch := omega) [↓test_bool, ↓bindV_eq, ↓bindH_eq, ↓withV_of, ↓withP_some, ↓withL_some, ↓withVH_some, ↓withB_some, ↓bindX_some, L46_0_step, hlt, hA, hB, hax, cv_32_64, cv_64_32, wrap_u64, hw, hs, hone, newsOf_sl ty_limbs, hread, hap, hi1, h2]
    · simp only [at_out hA, Int.natCast_zero, Int.add_zero, Nat.add_zero] at hw hs h2 hap hone hread
      by_cases hB : i < (b.getD []).length
      · have hbx := at_idx (d := b) hB H
        have hlt : (i : Int) < (if (a.getD []).length < (b.getD []).length then ((b.getD []).length : Int) else (a.getD []).length) := by split <;> omega
        simp (disch := omega) [↓test_bool, ↓bindV_eq, ↓bindH_eq, ↓withV_of, ↓withP_some, ↓withL_some, ↓withVH_some, ↓withB_some, ↓bindX_some, L46_0_step, hlt, hA, hB, hbx, cv_32_64, cv_64_32, wrap_u64, hw, hs, hone, newsOf_sl ty_limbs, hread, hap, hi1, h2]
      · simp only [at_out hB, Int.natCast_zero, Int.add_zero, Nat.add_zero] at hw hs h2 hap hone hread
        have hlt : ¬ (i : Int) < (if (a.getD []).length < (b.getD []).length then ((b.getD []).length : Int) else (a.getD []).length) := by split <;> omega
        have hp : 0 < C := by
          rcases hg with h | h
          · unfold plusM at h; omega
          · omega
        simp (disch := omega) [↓test_bool, ↓bindV_eq, ↓bindH_eq, ↓withV_of, ↓withP_some, ↓withL_some, ↓withVH_some, ↓withB_some, ↓bindX_some, L46_0_step, hlt, hA, hB, hp, cv_64_32, hw, hs, hone, newsOf_sl ty_limbs, hread, hap, hi1, h2]
noncomputable def pPlus : Pol := .still (p2 cD cD eD (fun a b => few a ∧ few b) plusS)
theorem flat_eu (x : UInt32) : (eu x).flat0 = true ∧ (eu x).isDef = true := ⟨rfl, rfl⟩
theorem okPlus : PolOK base 46 pPlus := still2 base_ok [] trivial fun a b ⟨ha, hb⟩ => by
  obtain ⟨H', out', hL, hO⟩ := plus_loop (pol := polT []) ha hb (plusK a b) 0 [] .nils (by omega) .nil
  refine Evs.withL hL (Evs.of fun n m h1 _ => ?_)
  have e0 : plusT a b 0 / 4294967296 ^ 0 = 0 := by simp [plusT, val]
  rw [e0] at h1
  simp only [Int.natCast_zero] at h1
  simp [↓bindV_eq, ↓bindX_some, S46, h1, hO.frz flat_eu, plusS]
theorem kPlus {R : Type} {a b : Option (List UInt32)} (ha : few a) (hb : few b) {H : Heap} {k : AV → Heap → Option R} : polK pPlus [eD a, eD b] H k = k (eD (plusS a b)) H := by
  simp [pPlus, polK_imm, ha, hb]
theorem qPlus {R : Type} {a b : Option (List UInt32)} (ha : few a) (hb : few b) {H : Heap} {k : AV → Heap → Option R} : polQ pPlus [eD a, eD b] H k = k (eD (plusS a b)) H := by
  simp [pPlus, polQ_imm, ha, hb]
theorem plusS_len {a b : Option (List UInt32)} : ((plusS a b).getD []).length ≤ plusM a b + 1 := by
  unfold plusS
  rw [nz_get, digs_length]
  unfold plusK
  split <;> omega
theorem plusS_val {a b : Option (List UInt32)} : val ((plusS a b).getD []) = val (a.getD []) + val (b.getD []) := by
  unfold plusS
  rw [nz_get, val_digs_lt]
  · rfl
  have h := (plus_ends (a := a) (b := b)).2
  rw [plusT_end (by have := (plus_ends (a := a) (b := b)).1; omega)] at h
  exact (Nat.div_eq_zero_iff.1 h).resolve_left (by have : 0 < 4294967296 ^ plusK a b := Nat.pow_pos (by omega); omega)

/-! ### differences -/
/-- A copy that may be written. -/
def cloneRow (l : List UInt32) (H : Heap) : AV × Heap := match l with
  | [] => (.sl H.length 0 0 0 0, H ++ [.row 0 1 64 []])
  | x :: l => (.sl H.length 1 0 (x :: l).length (x :: l).length, H ++ [.row 1 1 64 ((x :: l).map eu)])
noncomputable def pCloneH : Pol := .prim fun xs H => match xs with
  | [v] => (cD.dec v).bind fun d => open Classical in if few d then (match d with | none => some (.nils, H) | some l => some (cloneRow l H)) else none
  | _ => none
theorem okCloneH : PolOK base 54 pCloneH := heap_of base_ok [] trivial fun xs H v H' h => by
  split at h
  · rename_i w
    simp only [Option.bind_eq_some_iff] at h
    obtain ⟨d, h1, h⟩ := h
    rw [Cd.dec_some h1]
    split at h
    · rename_i hf
      unfold few at hf
      refine Evs.of fun n _ => ?_
      cases d with
      | none =>
        cases h
        simp [↓test_bool, ↓bindV_eq, ↓bindH_eq, ↓withV_of, S54, eL, A.bin, ty_limbs, A.eqNil]
      | some l =>
        simp only [Option.getD_some] at hf
        simp only [Option.some.injEq] at h
        have hr : (H ++ [.row 0 1 64 ([] : List AV)])[H.length]? = some (.row 0 1 64 []) := row_push
        cases l with
        | nil =>
          have h2 := row_append_nil (n := 0) (bytes := 4) hr rfl (by omega) (by simp)
          simp [cloneRow] at h
          obtain ⟨rfl, rfl⟩ := h
          simp [↓test_bool, ↓bindV_eq, ↓bindH_eq, ↓withV_of, ↓withL_some, ↓withVH_some, S54, eL, A.bin, ty_limbs, A.eqNil, A.fillElems, newsOf_sl ty_limbs, A.read, h2]
        | cons x l =>
          have h2 := row_append (n := 0) (bytes := 4) (news := (x :: l).map eu) hr rfl (by simp) (by omega) (by simp at hf ⊢; omega)
          simp [cloneRow] at h
          obtain ⟨rfl, rfl⟩ := h
          simp at h2
          simp [↓test_bool, ↓bindV_eq, ↓bindH_eq, ↓withV_of, ↓withL_some, ↓withVH_some, S54, eL, A.bin, ty_limbs, A.eqNil, A.fillElems, newsOf_sl ty_limbs, A.read, h2]
    · cases h
  · cases h
theorem kCloneH {R : Type} {d : Option (List UInt32)} {H : Heap} {k : AV → Heap → Option R} (hf : few d) : polK pCloneH [eD d] H k = (match d with | none => k .nils H | some l => k (cloneRow l H).1 (cloneRow l H).2) := by
  show withP _ k = _
  simp only [dec_cD, Option.bind_some]
  rw [if_pos hf]
  cases d <;> rfl
theorem kCloneH0 {R : Type} {H : Heap} {k : AV → Heap → Option R} : polK pCloneH [.nils] H k = k .nils H := kCloneH (d := none) (by simp [few])
theorem at_set {o : List UInt32} {i : Nat} (h : i < o.length) (d : UInt32) : at_ (o.set i d) i = d.toNat := by simp [at_, h]
end Go.Proofs.YtikkpecdkdgmfaaDoor
