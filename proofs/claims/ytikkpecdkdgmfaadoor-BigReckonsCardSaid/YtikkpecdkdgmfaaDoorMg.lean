/- Texts put together: Sb7, Sb8, Sb9, Sb10, Sb, BgO, Big1, Big2, Big3, Big4, Big5, Big6, Big7, Big8, Big9, Big10. -/
import Derived.Test.YtikkpecdkdgmfaaDoorMf

/- What each function does, in Den's words. -/
set_option maxRecDepth 100000
namespace Go.Proofs.YtikkpecdkdgmfaaDoor
open Go Go.Den
theorem L46_0_step (pol : FuncId → Pol) (n m : Nat) (t0 t1 t5 t6 t7 : AV) (H : Heap) : L46_0 pol n (m + 1) ⟨[t0, t1, t5, t6, t7], []⟩ H =
  (withV (A.len t0 H) fun t10 =>
  withV (A.len t1 H) fun t12 =>
  withV (List.foldlM A.maxv t10 [t12]) fun t13 =>
  withV (A.bin base.P .lss 3 t7 t13 false H) fun t14 =>
  withB (A.asG false t14) fun b8 => withP (guardB b8 false (
   some (t6, H))
   (some (.tup [], H))) fun t16 H4 =>
  withB (A.asG false t14) fun b9 => withP (guardB b9 false (
   withV (A.bin base.P .gtr 63 t16 (AV.int .u64 0) true H4) fun t17 =>
   some (t17, H4))
   (some (.tup [], H4))) fun t17 H5 =>
  withV (A.pick t14 (AV.bool true) t17) fun t18 =>
  A.test t18 (
  withV (A.len t0 H5) fun t23 =>
  withV (A.bin base.P .lss 3 t7 t23 false H5) fun t24 =>
  bindX (A.test t24 (
   withV (A.idx 1 t0 t7 H5) fun t28 =>
    withV (A.load false 1 t28 H5) fun t29 =>
    withV (Go.Den.convert base 64 63 t29) fun t30 =>
    withV (A.bin base.P .add 63 t6 t30 false H5) fun t31 =>
    some (0, ⟨[t0, t1, t5, t31, t7], []⟩, H5))
   (
   some (0, ⟨[t0, t1, t5, t6, t7], []⟩, H5))) fun i7 l7 H7 =>
  altN i7 0 (
  bindV (l7.vs.getD 0 .undef) fun t0 => bindV (l7.vs.getD 1 .undef) fun t1 => bindV (l7.vs.getD 2 .undef) fun t5 => bindV (l7.vs.getD 3 .undef) fun t6 => bindV (l7.vs.getD 4 .undef) fun t7 => 
  withV (A.len t1 H7) fun t34 =>
  withV (A.bin base.P .lss 3 t7 t34 false H7) fun t35 =>
  bindX (A.test t35 (
   withV (A.idx 1 t1 t7 H7) fun t39 =>
    withV (A.load false 1 t39 H7) fun t40 =>
    withV (Go.Den.convert base 64 63 t40) fun t41 =>
    withV (A.bin base.P .add 63 t6 t41 false H7) fun t42 =>
    some (0, ⟨[t0, t1, t5, t42, t7], []⟩, H7))
   (
   some (0, ⟨[t0, t1, t5, t6, t7], []⟩, H7))) fun i9 l9 H9 =>
  altN i9 0 (
  bindV (l9.vs.getD 0 .undef) fun t0 => bindV (l9.vs.getD 1 .undef) fun t1 => bindV (l9.vs.getD 2 .undef) fun t5 => bindV (l9.vs.getD 3 .undef) fun t6 => bindV (l9.vs.getD 4 .undef) fun t7 => 
  withV (Go.Den.convert base 63 64 t6) fun t45 =>
  withL (A.fillElems 1 (List.replicate 1 (AV.int .u32 0)) [(0, 1, t45)]) fun es =>
  bindV (.sl H9.length 0 0 es.length es.length) fun t46 => bindH (H9 ++ [.row 0 1 64 es]) fun H10 =>
  withL (newsZ base 1 4 (AV.int .u32 0) 22 t46 H10) fun es =>
  withVH (A.append 1 4 64 t5 es H10) fun t47 H11 =>
  withV (A.bin base.P .shr 63 t6 (AV.int .u64 32) true H11) fun t49 =>
  withV (A.bin base.P .add 3 t7 (AV.int .i64 1) true H11) fun t20 =>
  L46_0 pol n m ⟨[t0, t1, t47, t49, t20], []⟩ H11)
  (none))
  (none))
  (
  some (0, ⟨[t5], []⟩, H5))) := by kernel_rfl
theorem S46 (pol : FuncId → Pol) (n : Nat) (R : Type) (k : AV → Heap → Option R) (a0 a1 : AV) (H : Heap) : callF (base.with pol) (n + 1) R 46 [a0, a1] H k =
  (bindX (L46_0 pol n n ⟨[a0, a1, AV.nils, (AV.int .u64 0), (AV.int .i64 0)], []⟩ H) fun i1 l1 H1 =>
  altN i1 0 (
  bindV (l1.vs.getD 0 .undef) fun t5 => 
  k t5 H1)
  (none)) := by kernel_rfl
theorem L47_0_step (pol : FuncId → Pol) (n m : Nat) (t1 t5 t6 t13 t14 : AV) (H : Heap) : L47_0 pol n (m + 1) ⟨[t1, t5, t6, t13, t14], []⟩ H =
  (withV (A.bin base.P .lss 3 t14 t13 false H) fun t15 =>
  A.test t15 (
  withV (A.len t1 H) fun t20 =>
  withV (A.bin base.P .lss 3 t14 t20 false H) fun t21 =>
  bindX (A.test t21 (
   withV (A.idx 1 t1 t14 H) fun t25 =>
    withV (A.load false 1 t25 H) fun t26 =>
    withV (Go.Den.convert base 64 63 t26) fun t27 =>
    withV (A.bin base.P .add 63 t6 t27 false H) fun t28 =>
    some (0, ⟨[t1, t5, t14, t28, t13, t14], []⟩, H))
   (
   some (0, ⟨[t1, t5, t14, t6, t13, t14], []⟩, H))) fun i2 l2 H2 =>
  altN i2 0 (
  bindV (l2.vs.getD 0 .undef) fun t1 => bindV (l2.vs.getD 1 .undef) fun t5 => bindV (l2.vs.getD 2 .undef) fun t7 => bindV (l2.vs.getD 3 .undef) fun t8 => bindV (l2.vs.getD 4 .undef) fun t13 => bindV (l2.vs.getD 5 .undef) fun t14 => 
  withV (A.idx 1 t5 t7 H2) fun t31 =>
  withV (A.load false 1 t31 H2) fun t32 =>
  withV (Go.Den.convert base 64 63 t32) fun t33 =>
  withV (A.bin base.P .lss 63 t33 t8 false H2) fun t36 =>
  bindX (A.test t36 (
   withV (A.bin base.P .add 63 t33 (AV.int .u64 4294967296) true H2) fun t38 =>
    some (0, ⟨[t1, t5, (AV.int .u64 1), t7, t8, t38, t13, t14], []⟩, H2))
   (
   some (0, ⟨[t1, t5, (AV.int .u64 0), t7, t8, t33, t13, t14], []⟩, H2))) fun i3 l3 H3 =>
  altN i3 0 (
  bindV (l3.vs.getD 0 .undef) fun t1 => bindV (l3.vs.getD 1 .undef) fun t5 => bindV (l3.vs.getD 2 .undef) fun t6 => bindV (l3.vs.getD 3 .undef) fun t7 => bindV (l3.vs.getD 4 .undef) fun t8 => bindV (l3.vs.getD 5 .undef) fun t9 => bindV (l3.vs.getD 6 .undef) fun t13 => bindV (l3.vs.getD 7 .undef) fun t14 => 
  withV (A.bin base.P .sub 63 t9 t8 false H3) fun t43 =>
  withV (Go.Den.convert base 63 64 t43) fun t44 =>
  withV (A.idx 1 t5 t7 H3) fun t45 =>
  withH (A.store 1 t45 t44 H3) fun H4 =>
  withV (A.bin base.P .add 3 t14 (AV.int .i64 1) true H4) fun t46 =>
  L47_0 pol n m ⟨[t1, t5, t6, t13, t46], []⟩ H4)
  (none))
  (none))
  (
  some (0, ⟨[t5], []⟩, H))) := by kernel_rfl
theorem S47 (pol : FuncId → Pol) (n : Nat) (R : Type) (k : AV → Heap → Option R) (a0 a1 : AV) (H : Heap) : callF (base.with pol) (n + 1) R 47 [a0, a1] H k =
  (cl base pol n 54 [a0] H fun t11 H1 =>
  withV (A.len t11 H1) fun t13 =>
  bindX (L47_0 pol n n ⟨[a1, t11, (AV.int .u64 0), t13, (AV.int .i64 0)], []⟩ H1) fun i3 l3 H3 =>
  altN i3 0 (
  bindV (l3.vs.getD 0 .undef) fun t5 => 
  k t5 H3)
  (none)) := by kernel_rfl
theorem L48_0_step (pol : FuncId → Pol) (n m : Nat) (t0 t1 t5 t6 t7 : AV) (H : Heap) : L48_0 pol n (m + 1) ⟨[t0, t1, t5, t6, t7], []⟩ H =
  (withV (A.len t0 H) fun t11 =>
  withV (A.bin base.P .lss 3 t7 t11 false H) fun t12 =>
  withB (A.asG false t12) fun b5 => withP (guardB b5 false (
   some (t7, H))
   (some (.tup [], H))) fun t14 H2 =>
  withB (A.asG false t12) fun b6 => withP (guardB b6 false (
   some (t1, H2))
   (some (.tup [], H2))) fun t15 H3 =>
  withB (A.asG false t12) fun b7 => withP (guardB b7 false (
   withV (A.len t15 H3) fun t16 =>
   some (t16, H3))
   (some (.tup [], H3))) fun t16 H5 =>
  withB (A.asG false t12) fun b8 => withP (guardB b8 false (
   withV (A.bin base.P .lss 3 t14 t16 false H5) fun t17 =>
   some (t17, H5))
   (some (.tup [], H5))) fun t17 H6 =>
  withV (A.pick t12 (AV.bool true) t17) fun t18 =>
  A.test t18 (
  cl base pol n 69 [t0, t7] H6 fun t23 H7 =>
  cl base pol n 69 [t1, t7] H7 fun t26 H8 =>
  withV (A.bin base.P .add 63 t23 t26 false H8) fun t27 =>
  withV (A.bin base.P .add 63 t27 t6 false H8) fun t29 =>
  withV (Go.Den.convert base 63 64 t29) fun t32 =>
  withL (A.fillElems 1 (List.replicate 1 (AV.int .u32 0)) [(0, 1, t32)]) fun es =>
  bindV (.sl H8.length 0 0 es.length es.length) fun t33 => bindH (H8 ++ [.row 0 1 64 es]) fun H9 =>
  withL (newsZ base 1 4 (AV.int .u32 0) 22 t33 H9) fun es =>
  withVH (A.append 1 4 64 t5 es H9) fun t34 H10 =>
  withV (A.bin base.P .shr 63 t29 (AV.int .u64 32) true H10) fun t36 =>
  withV (A.bin base.P .add 3 t7 (AV.int .i64 1) true H10) fun t20 =>
  L48_0 pol n m ⟨[t0, t1, t34, t36, t20], []⟩ H10)
  (
  some (0, ⟨[t5, t6], []⟩, H6))) := by kernel_rfl
theorem S48 (pol : FuncId → Pol) (n : Nat) (R : Type) (k : AV → Heap → Option R) (a0 a1 : AV) (H : Heap) : callF (base.with pol) (n + 1) R 48 [a0, a1] H k =
  (bindX (L48_0 pol n n ⟨[a0, a1, AV.nils, (AV.int .u64 0), (AV.int .i64 0)], []⟩ H) fun i1 l1 H1 =>
  altN i1 0 (
  bindV (l1.vs.getD 0 .undef) fun t5 => bindV (l1.vs.getD 1 .undef) fun t6 => 
  withV (Go.Den.convert base 63 64 t6) fun t39 =>
  withL (A.fillElems 1 (List.replicate 1 (AV.int .u32 0)) [(0, 1, t39)]) fun es =>
  bindV (.sl H1.length 0 0 es.length es.length) fun t40 => bindH (H1 ++ [.row 0 1 64 es]) fun H2 =>
  withL (newsZ base 1 4 (AV.int .u32 0) 22 t40 H2) fun es =>
  withVH (A.append 1 4 64 t5 es H2) fun t41 H3 =>
  k t41 H3)
  (none)) := by kernel_rfl
theorem L49_0_step (pol : FuncId → Pol) (n m : Nat) (t0 t1 t5 : AV) (H : Heap) : L49_0 pol n (m + 1) ⟨[t0, t1, t5], []⟩ H =
  (withV (A.bin base.P .geq 3 t5 (AV.int .i64 0) true H) fun t20 =>
  A.test t20 (
  withV (A.idx 1 t0 t5 H) fun t25 =>
  withV (A.load false 1 t25 H) fun t26 =>
  withV (A.idx 1 t1 t5 H) fun t29 =>
  withV (A.load false 1 t29 H) fun t30 =>
  withV (A.bin base.P .neq 64 t26 t30 false H) fun t31 =>
  A.test t31 (
  withV (A.idx 1 t0 t5 H) fun t34 =>
   withV (A.load false 1 t34 H) fun t35 =>
   withV (Go.Den.convert base 64 2 t35) fun t36 =>
   withV (A.idx 1 t1 t5 H) fun t39 =>
   withV (A.load false 1 t39 H) fun t40 =>
   withV (Go.Den.convert base 64 2 t40) fun t41 =>
   clQ base pol 70 [t36, t41] H fun t42 H1 =>
   some (1, ⟨[t42], []⟩, H1))
  (
  withV (A.bin base.P .sub 3 t5 (AV.int .i64 1) true H) fun t22 =>
  L49_0 pol n m ⟨[t0, t1, t22], []⟩ H))
  (
  some (0, ⟨[.undef], []⟩, H))) := by kernel_rfl
theorem S49 (pol : FuncId → Pol) (n : Nat) (R : Type) (k : AV → Heap → Option R) (a0 a1 : AV) (H : Heap) : callF (base.with pol) (n + 1) R 49 [a0, a1] H k =
  (withV (A.len a0 H) fun t7 =>
  withV (A.len a1 H) fun t9 =>
  withV (A.bin base.P .neq 3 t7 t9 false H) fun t10 =>
  A.test t10 (
  withV (A.len a0 H) fun t12 =>
   withV (A.len a1 H) fun t14 =>
   cl base pol n 70 [t12, t14] H fun t15 H5 =>
   k t15 H5)
  (
  withV (A.len a0 H) fun t17 =>
  withV (A.bin base.P .sub 3 t17 (AV.int .i64 1) true H) fun t18 =>
  bindX (L49_0 pol n n ⟨[a0, a1, t18], []⟩ H) fun i7 l7 H7 =>
  altN i7 0 (
  bindV (l7.vs.getD 0 .undef) fun t4 => 
  k (AV.int .i64 0) H7)
  (altN i7 1 (
  bindV (l7.vs.getD 0 .undef) fun t4 => 
  k t4 H7)
  (none)))) := by kernel_rfl
theorem L50_0_step (pol : FuncId → Pol) (n m : Nat) (t0 t1 t5 t6 t7 : AV) (H : Heap) : L50_0 pol n (m + 1) ⟨[t0, t1, t5, t6, t7], []⟩ H =
  (withV (A.len t0 H) fun t11 =>
  withV (A.bin base.P .lss 3 t7 t11 false H) fun t12 =>
  A.test t12 (
  withV (A.idx 1 t0 t7 H) fun t17 =>
  withV (A.load false 1 t17 H) fun t18 =>
  withV (Go.Den.convert base 64 63 t18) fun t19 =>
  clQ base pol 69 [t1, t7] H fun t22 H2 =>
  withV (A.bin base.P .sub 63 t19 t22 false H2) fun t23 =>
  withV (A.bin base.P .sub 63 t23 t6 false H2) fun t25 =>
  withV (Go.Den.convert base 63 64 t25) fun t28 =>
  withL (A.fillElems 1 (List.replicate 1 (AV.int .u32 0)) [(0, 1, t28)]) fun es =>
  bindV (.sl H2.length 0 0 es.length es.length) fun t29 => bindH (H2 ++ [.row 0 1 64 es]) fun H3 =>
  withL (newsZ base 1 4 (AV.int .u32 0) 22 t29 H3) fun es =>
  withVH (A.append 1 4 64 t5 es H3) fun t30 H4 =>
  withV (A.bin base.P .shr 63 t25 (AV.int .u64 63) true H4) fun t32 =>
  withV (A.bin base.P .add 3 t7 (AV.int .i64 1) true H4) fun t14 =>
  L50_0 pol n m ⟨[t0, t1, t30, t32, t14], []⟩ H4)
  (
  some (0, ⟨[t5], []⟩, H))) := by kernel_rfl
theorem S50 (pol : FuncId → Pol) (n : Nat) (R : Type) (k : AV → Heap → Option R) (a0 a1 : AV) (H : Heap) : callF (base.with pol) (n + 1) R 50 [a0, a1] H k =
  (bindX (L50_0 pol n n ⟨[a0, a1, AV.nils, (AV.int .u64 0), (AV.int .i64 0)], []⟩ H) fun i1 l1 H1 =>
  altN i1 0 (
  bindV (l1.vs.getD 0 .undef) fun t5 => 
  k t5 H1)
  (none)) := by kernel_rfl
theorem S51 (pol : FuncId → Pol) (n : Nat) (R : Type) (k : AV → Heap → Option R) (a0 : AV) (H : Heap) : callF (base.with pol) (n + 1) R 51 [a0] H k =
  (withV (A.bin base.P .geq 2 a0 (AV.int .i64 (-576460752303423488)) true H) fun t4 =>
  withB (A.asG true t4) fun b3 => withP (guardB b3 true (
   some (a0, H))
   (some (.tup [], H))) fun t6 H1 =>
  withB (A.asG true t4) fun b4 => withP (guardB b4 true (
   withV (A.bin base.P .leq 2 t6 (AV.int .i64 576460752303423487) true H1) fun t7 =>
   some (t7, H1))
   (some (.tup [], H1))) fun t7 H2 =>
  withV (A.pick t4 t7 (AV.bool false)) fun t8 =>
  k t8 H2) := by kernel_rfl
theorem S52 (pol : FuncId → Pol) (n : Nat) (R : Type) (k : AV → Heap → Option R) (a0 a1 : AV) (H : Heap) : callF (base.with pol) (n + 1) R 52 [a0, a1] H k =
  (cl base pol n 71 [a0, a1] H fun t8 H1 =>
  withV (A.un .not t8) fun t9 =>
  A.test t9 (
  k (.tup [a0, (AV.bool false)]) H1)
  (
  withV (A.lenStr a1) fun t13 =>
  withV (A.sliceStr a0 (some t13) none) fun t14 =>
  k (.tup [t14, (AV.bool true)]) H1)) := by kernel_rfl
theorem L53_0_step (pol : FuncId → Pol) (n m : Nat) (t7 t8 t9 : AV) (H : Heap) : L53_0 pol n (m + 1) ⟨[t7, t8, t9], []⟩ H =
  (cl base pol n 74 [t9] H fun t111 H1 =>
  withV (A.bin base.P .lss 3 t111 t7 false H1) fun t113 =>
  A.test t113 (
  cl base pol n 74 [t9] H1 fun t115 H2 =>
  withV (A.bin base.P .sub 3 t7 t115 false H2) fun t116 =>
  cl base pol n 74 [t9] H2 fun t117 H3 =>
  withV (List.foldlM A.minv t116 [t117, t8]) fun t119 =>
  cl base pol n 61 [t9] H3 fun t120 H5 =>
  withV (A.sliceStr t120 none (some t119)) fun t122 =>
  cl base pol n 60 [t9, t122] H5 fun t123 H6 =>
  L53_0 pol n m ⟨[t7, t8, t9], []⟩ H6)
  (
  some (0, ⟨[t9], []⟩, H1))) := by kernel_rfl
theorem S53 (pol : FuncId → Pol) (n : Nat) (R : Type) (k : AV → Heap → Option R) (a0 a1 : AV) (H : Heap) : callF (base.with pol) (n + 1) R 53 [a0, a1] H k =
  (withV (A.bin base.P .eql 3 a1 (AV.int .i64 0) true H) fun t13 =>
  A.test t13 (
  k (AV.str []) H)
  (
  withV (A.bin base.P .eql 3 a1 (AV.int .i64 1) true H) fun t15 =>
   A.test t15 (
   k a0 H)
   (
   withV (A.bin base.P .lss 3 a1 (AV.int .i64 0) true H) fun t18 =>
  bindX (A.test t18 (
   bindV (.iface 9 (AV.str [115, 116, 114, 105, 110, 103, 115, 58, 32, 110, 101, 103, 97, 116, 105, 118, 101, 32, 82, 101, 112, 101, 97, 116, 32, 99, 111, 117, 110, 116])) fun t19 =>
    none)
   (
   some (0, ⟨[a0, a1], []⟩, H))) fun i1 l1 H1 =>
  altN i1 0 (
  bindV (l1.vs.getD 0 .undef) fun t0 => bindV (l1.vs.getD 1 .undef) fun t1 => 
  withV (A.lenStr t0) fun t22 =>
  withV (Go.Den.convert base 3 65 t22) fun t23 =>
  withV (Go.Den.convert base 3 65 t1) fun t25 =>
  cl base pol n 72 [t23, t25] H1 fun t26 H3 =>
  extractK t26 0 fun t27 =>
  extractK t26 1 fun t28 =>
  withV (A.bin base.P .gtr 65 t27 (AV.int .u64 0) true H3) fun t30 =>
  withB (A.asG false t30) fun b3 => withP (guardB b3 false (
   some (t28, H3))
   (some (.tup [], H3))) fun t32 H4 =>
  withB (A.asG false t30) fun b4 => withP (guardB b4 false (
   withV (A.bin base.P .gtr 65 t32 (AV.int .u64 9223372036854775807) true H4) fun t33 =>
   some (t33, H4))
   (some (.tup [], H4))) fun t33 H5 =>
  withV (A.pick t30 (AV.bool true) t33) fun t34 =>
  bindX (A.test t34 (
   bindV (.iface 9 (AV.str [115, 116, 114, 105, 110, 103, 115, 58, 32, 82, 101, 112, 101, 97, 116, 32, 111, 117, 116, 112, 117, 116, 32, 108, 101, 110, 103, 116, 104, 32, 111, 118, 101, 114, 102, 108, 111, 119])) fun t35 =>
    none)
   (
   some (0, ⟨[t0, t28], []⟩, H5))) fun i6 l6 H6 =>
  altN i6 0 (
  bindV (l6.vs.getD 0 .undef) fun t0 => bindV (l6.vs.getD 1 .undef) fun t6 => 
  withV (Go.Den.convert base 65 3 t6) fun t37 =>
  withV (A.lenStr t0) fun t39 =>
  withV (A.bin base.P .eql 3 t39 (AV.int .i64 0) true H6) fun t40 =>
  A.test t40 (
  k (AV.str []) H6)
  (
  withV (A.index t0 (AV.int .i64 0)) fun t42 =>
  withV (A.bin base.P .eql 5 t42 (AV.int .u8 32) true H6) fun t44 =>
  bindX (A.test t44 (
   some (0, ⟨[t0, t37, t44], []⟩, H6))
   (
   withV (A.bin base.P .eql 5 t42 (AV.int .u8 45) true H6) fun t45 =>
    bindX (A.test t45 (
     some (0, ⟨[t0, t37, t45], []⟩, H6))
     (
     withV (A.bin base.P .eql 5 t42 (AV.int .u8 48) true H6) fun t46 =>
      bindX (A.test t46 (
       some (0, ⟨[t0, t37, t46], []⟩, H6))
       (
       withV (A.bin base.P .eql 5 t42 (AV.int .u8 61) true H6) fun t47 =>
        bindX (A.test t47 (
         some (0, ⟨[t0, t37, t47], []⟩, H6))
         (
         withV (A.bin base.P .eql 5 t42 (AV.int .u8 9) true H6) fun t48 =>
          some (0, ⟨[t0, t37, t48], []⟩, H6))) fun i8 l8 H8 =>
        altN i8 0 (
        bindV (l8.vs.getD 0 .undef) fun t0 => bindV (l8.vs.getD 1 .undef) fun t7 => bindV (l8.vs.getD 2 .undef) fun t43 => 
        some (0, ⟨[t0, t7, t43], []⟩, H8))
        (none))) fun i9 l9 H9 =>
      altN i9 0 (
      bindV (l9.vs.getD 0 .undef) fun t0 => bindV (l9.vs.getD 1 .undef) fun t7 => bindV (l9.vs.getD 2 .undef) fun t43 => 
      some (0, ⟨[t0, t7, t43], []⟩, H9))
      (none))) fun i10 l10 H10 =>
    altN i10 0 (
    bindV (l10.vs.getD 0 .undef) fun t0 => bindV (l10.vs.getD 1 .undef) fun t7 => bindV (l10.vs.getD 2 .undef) fun t43 => 
    some (0, ⟨[t0, t7, t43], []⟩, H10))
    (none))) fun i11 l11 H11 =>
  altN i11 0 (
  bindV (l11.vs.getD 0 .undef) fun t0 => bindV (l11.vs.getD 1 .undef) fun t7 => bindV (l11.vs.getD 2 .undef) fun t43 => 
  bindX (A.test t43 (
   withV (A.bin base.P .leq 3 t7 (AV.int .i64 128) true H11) fun t51 =>
    withB (A.asG true t51) fun b3 => withP (guardB b3 true (
     some (t0, H11))
     (some (.tup [], H11))) fun t53 H12 =>
    withB (A.asG true t51) fun b4 => withP (guardB b4 true (
     cl base pol n 73 [(AV.str [32, 32, 32, 32, 32, 32, 32, 32, 32, 32, 32, 32, 32, 32, 32, 32, 32, 32, 32, 32, 32, 32, 32, 32, 32, 32, 32, 32, 32, 32, 32, 32, 32, 32, 32, 32, 32, 32, 32, 32, 32, 32, 32, 32, 32, 32, 32, 32, 32, 32, 32, 32, 32, 32, 32, 32, 32, 32, 32, 32, 32, 32, 32, 32, 32, 32, 32, 32, 32, 32, 32, 32, 32, 32, 32, 32, 32, 32, 32, 32, 32, 32, 32, 32, 32, 32, 32, 32, 32, 32, 32, 32, 32, 32, 32, 32, 32, 32, 32, 32, 32, 32, 32, 32, 32, 32, 32, 32, 32, 32, 32, 32, 32, 32, 32, 32, 32, 32, 32, 32, 32, 32, 32, 32, 32, 32, 32, 32]), t53] H12 fun t54 H13 =>
     some (t54, H13))
     (some (.tup [], H12))) fun t54 H14 =>
    withV (A.pick t51 t54 (AV.bool false)) fun t55 =>
    A.test t55 (
    withV (A.sliceStr (AV.str [32, 32, 32, 32, 32, 32, 32, 32, 32, 32, 32, 32, 32, 32, 32, 32, 32, 32, 32, 32, 32, 32, 32, 32, 32, 32, 32, 32, 32, 32, 32, 32, 32, 32, 32, 32, 32, 32, 32, 32, 32, 32, 32, 32, 32, 32, 32, 32, 32, 32, 32, 32, 32, 32, 32, 32, 32, 32, 32, 32, 32, 32, 32, 32, 32, 32, 32, 32, 32, 32, 32, 32, 32, 32, 32, 32, 32, 32, 32, 32, 32, 32, 32, 32, 32, 32, 32, 32, 32, 32, 32, 32, 32, 32, 32, 32, 32, 32, 32, 32, 32, 32, 32, 32, 32, 32, 32, 32, 32, 32, 32, 32, 32, 32, 32, 32, 32, 32, 32, 32, 32, 32, 32, 32, 32, 32, 32, 32]) none (some t7)) fun t57 =>
     some (1, ⟨[t0, t57, t7], []⟩, H14))
    (
    withV (A.bin base.P .leq 3 t7 (AV.int .i64 128) true H14) fun t60 =>
     withB (A.asG true t60) fun b3 => withP (guardB b3 true (
      some (t0, H14))
      (some (.tup [], H14))) fun t62 H15 =>
     withB (A.asG true t60) fun b4 => withP (guardB b4 true (
      cl base pol n 73 [(AV.str [45, 45, 45, 45, 45, 45, 45, 45, 45, 45, 45, 45, 45, 45, 45, 45, 45, 45, 45, 45, 45, 45, 45, 45, 45, 45, 45, 45, 45, 45, 45, 45, 45, 45, 45, 45, 45, 45, 45, 45, 45, 45, 45, 45, 45, 45, 45, 45, 45, 45, 45, 45, 45, 45, 45, 45, 45, 45, 45, 45, 45, 45, 45, 45, 45, 45, 45, 45, 45, 45, 45, 45, 45, 45, 45, 45, 45, 45, 45, 45, 45, 45, 45, 45, 45, 45, 45, 45, 45, 45, 45, 45, 45, 45, 45, 45, 45, 45, 45, 45, 45, 45, 45, 45, 45, 45, 45, 45, 45, 45, 45, 45, 45, 45, 45, 45, 45, 45, 45, 45, 45, 45, 45, 45, 45, 45, 45, 45]), t62] H15 fun t63 H16 =>
      some (t63, H16))
      (some (.tup [], H15))) fun t63 H17 =>
     withV (A.pick t60 t63 (AV.bool false)) fun t64 =>
     A.test t64 (
     withV (A.sliceStr (AV.str [45, 45, 45, 45, 45, 45, 45, 45, 45, 45, 45, 45, 45, 45, 45, 45, 45, 45, 45, 45, 45, 45, 45, 45, 45, 45, 45, 45, 45, 45, 45, 45, 45, 45, 45, 45, 45, 45, 45, 45, 45, 45, 45, 45, 45, 45, 45, 45, 45, 45, 45, 45, 45, 45, 45, 45, 45, 45, 45, 45, 45, 45, 45, 45, 45, 45, 45, 45, 45, 45, 45, 45, 45, 45, 45, 45, 45, 45, 45, 45, 45, 45, 45, 45, 45, 45, 45, 45, 45, 45, 45, 45, 45, 45, 45, 45, 45, 45, 45, 45, 45, 45, 45, 45, 45, 45, 45, 45, 45, 45, 45, 45, 45, 45, 45, 45, 45, 45, 45, 45, 45, 45, 45, 45, 45, 45, 45, 45]) none (some t7)) fun t66 =>
      some (1, ⟨[t0, t66, t7], []⟩, H17))
     (
     withV (A.bin base.P .leq 3 t7 (AV.int .i64 64) true H17) fun t69 =>
      withB (A.asG true t69) fun b3 => withP (guardB b3 true (
       some (t0, H17))
       (some (.tup [], H17))) fun t71 H18 =>
      withB (A.asG true t69) fun b4 => withP (guardB b4 true (
       cl base pol n 73 [(AV.str [48, 48, 48, 48, 48, 48, 48, 48, 48, 48, 48, 48, 48, 48, 48, 48, 48, 48, 48, 48, 48, 48, 48, 48, 48, 48, 48, 48, 48, 48, 48, 48, 48, 48, 48, 48, 48, 48, 48, 48, 48, 48, 48, 48, 48, 48, 48, 48, 48, 48, 48, 48, 48, 48, 48, 48, 48, 48, 48, 48, 48, 48, 48, 48]), t71] H18 fun t72 H19 =>
       some (t72, H19))
       (some (.tup [], H18))) fun t72 H20 =>
      withV (A.pick t69 t72 (AV.bool false)) fun t73 =>
      A.test t73 (
      withV (A.sliceStr (AV.str [48, 48, 48, 48, 48, 48, 48, 48, 48, 48, 48, 48, 48, 48, 48, 48, 48, 48, 48, 48, 48, 48, 48, 48, 48, 48, 48, 48, 48, 48, 48, 48, 48, 48, 48, 48, 48, 48, 48, 48, 48, 48, 48, 48, 48, 48, 48, 48, 48, 48, 48, 48, 48, 48, 48, 48, 48, 48, 48, 48, 48, 48, 48, 48]) none (some t7)) fun t75 =>
       some (1, ⟨[t0, t75, t7], []⟩, H20))
      (
      withV (A.bin base.P .leq 3 t7 (AV.int .i64 128) true H20) fun t78 =>
       withB (A.asG true t78) fun b3 => withP (guardB b3 true (
        some (t0, H20))
        (some (.tup [], H20))) fun t80 H21 =>
       withB (A.asG true t78) fun b4 => withP (guardB b4 true (
        cl base pol n 73 [(AV.str [61, 61, 61, 61, 61, 61, 61, 61, 61, 61, 61, 61, 61, 61, 61, 61, 61, 61, 61, 61, 61, 61, 61, 61, 61, 61, 61, 61, 61, 61, 61, 61, 61, 61, 61, 61, 61, 61, 61, 61, 61, 61, 61, 61, 61, 61, 61, 61, 61, 61, 61, 61, 61, 61, 61, 61, 61, 61, 61, 61, 61, 61, 61, 61, 61, 61, 61, 61, 61, 61, 61, 61, 61, 61, 61, 61, 61, 61, 61, 61, 61, 61, 61, 61, 61, 61, 61, 61, 61, 61, 61, 61, 61, 61, 61, 61, 61, 61, 61, 61, 61, 61, 61, 61, 61, 61, 61, 61, 61, 61, 61, 61, 61, 61, 61, 61, 61, 61, 61, 61, 61, 61, 61, 61, 61, 61, 61, 61]), t80] H21 fun t81 H22 =>
        some (t81, H22))
        (some (.tup [], H21))) fun t81 H23 =>
       withV (A.pick t78 t81 (AV.bool false)) fun t82 =>
       A.test t82 (
       withV (A.sliceStr (AV.str [61, 61, 61, 61, 61, 61, 61, 61, 61, 61, 61, 61, 61, 61, 61, 61, 61, 61, 61, 61, 61, 61, 61, 61, 61, 61, 61, 61, 61, 61, 61, 61, 61, 61, 61, 61, 61, 61, 61, 61, 61, 61, 61, 61, 61, 61, 61, 61, 61, 61, 61, 61, 61, 61, 61, 61, 61, 61, 61, 61, 61, 61, 61, 61, 61, 61, 61, 61, 61, 61, 61, 61, 61, 61, 61, 61, 61, 61, 61, 61, 61, 61, 61, 61, 61, 61, 61, 61, 61, 61, 61, 61, 61, 61, 61, 61, 61, 61, 61, 61, 61, 61, 61, 61, 61, 61, 61, 61, 61, 61, 61, 61, 61, 61, 61, 61, 61, 61, 61, 61, 61, 61, 61, 61, 61, 61, 61, 61]) none (some t7)) fun t84 =>
        some (1, ⟨[t0, t84, t7], []⟩, H23))
       (
       withV (A.bin base.P .leq 3 t7 (AV.int .i64 64) true H23) fun t87 =>
        withB (A.asG true t87) fun b3 => withP (guardB b3 true (
         some (t0, H23))
         (some (.tup [], H23))) fun t89 H24 =>
        withB (A.asG true t87) fun b4 => withP (guardB b4 true (
         cl base pol n 73 [(AV.str [9, 9, 9, 9, 9, 9, 9, 9, 9, 9, 9, 9, 9, 9, 9, 9, 9, 9, 9, 9, 9, 9, 9, 9, 9, 9, 9, 9, 9, 9, 9, 9, 9, 9, 9, 9, 9, 9, 9, 9, 9, 9, 9, 9, 9, 9, 9, 9, 9, 9, 9, 9, 9, 9, 9, 9, 9, 9, 9, 9, 9, 9, 9, 9]), t89] H24 fun t90 H25 =>
         some (t90, H25))
         (some (.tup [], H24))) fun t90 H26 =>
        withV (A.pick t87 t90 (AV.bool false)) fun t91 =>
        A.test t91 (
        withV (A.sliceStr (AV.str [9, 9, 9, 9, 9, 9, 9, 9, 9, 9, 9, 9, 9, 9, 9, 9, 9, 9, 9, 9, 9, 9, 9, 9, 9, 9, 9, 9, 9, 9, 9, 9, 9, 9, 9, 9, 9, 9, 9, 9, 9, 9, 9, 9, 9, 9, 9, 9, 9, 9, 9, 9, 9, 9, 9, 9, 9, 9, 9, 9, 9, 9, 9, 9]) none (some t7)) fun t93 =>
         some (1, ⟨[t0, t93, t7], []⟩, H26))
        (
        some (0, ⟨[t0, .undef, t7], []⟩, H26)))))))
   (
   some (0, ⟨[t0, .undef, t7], []⟩, H11))) fun i27 l27 H27 =>
  altN i27 0 (
  bindV (l27.vs.getD 0 .undef) fun t0 => bindV (l27.vs.getD 1 .undef) fun t4 => bindV (l27.vs.getD 2 .undef) fun t7 => 
  withV (A.bin base.P .gtr 3 t7 (AV.int .i64 8192) true H27) fun t96 =>
  bindX (A.test t96 (
   withV (A.lenStr t0) fun t98 =>
    withV (A.bin base.P .quo 3 (AV.int .i64 8192) t98 false H27) fun t99 =>
    withV (A.lenStr t0) fun t101 =>
    withV (A.bin base.P .mul 3 t99 t101 false H27) fun t102 =>
    withV (A.bin base.P .eql 3 t102 (AV.int .i64 0) true H27) fun t104 =>
    bindX (A.test t104 (
     withV (A.lenStr t0) fun t106 =>
      some (0, ⟨[t0, t7, t106], []⟩, H27))
     (
     some (0, ⟨[t0, t7, t102], []⟩, H27))) fun i31 l31 H31 =>
    altN i31 0 (
    bindV (l31.vs.getD 0 .undef) fun t0 => bindV (l31.vs.getD 1 .undef) fun t7 => bindV (l31.vs.getD 2 .undef) fun t8 => 
    some (0, ⟨[t0, t7, t8], []⟩, H31))
    (none))
   (
   some (0, ⟨[t0, t7, t7], []⟩, H27))) fun i32 l32 H32 =>
  altN i32 0 (
  bindV (l32.vs.getD 0 .undef) fun t0 => bindV (l32.vs.getD 1 .undef) fun t7 => bindV (l32.vs.getD 2 .undef) fun t8 => 
  bindV (.ptr H32.length 0 0 0) fun t9 => bindH (H32 ++ [.row 0 2 94 [(AV.agg [AV.nilp, AV.nils])]]) fun H33 =>
  cl base pol n 59 [t9, t7] H33 fun t108 H34 =>
  cl base pol n 60 [t9, t0] H34 fun t110 H35 =>
  bindX (L53_0 pol n n ⟨[t7, t8, t9], []⟩ H35) fun i36 l36 H36 =>
  altN i36 0 (
  bindV (l36.vs.getD 0 .undef) fun t9 => 
  cl base pol n 61 [t9] H36 fun t124 H37 =>
  k t124 H37)
  (none))
  (none))
  (altN i27 1 (
  bindV (l27.vs.getD 0 .undef) fun t0 => bindV (l27.vs.getD 1 .undef) fun t4 => bindV (l27.vs.getD 2 .undef) fun t7 => 
  k t4 H27)
  (none)))
  (none)))
  (none))
  (none)))) := by kernel_rfl
theorem S54 (pol : FuncId → Pol) (n : Nat) (R : Type) (k : AV → Heap → Option R) (a0 : AV) (H : Heap) : callF (base.with pol) (n + 1) R 54 [a0] H k =
  (withV (A.bin base.P .eql 22 a0 AV.nils true H) fun t4 =>
  A.test t4 (
  k AV.nils H)
  (
  withL (A.fillElems 1 (List.replicate 0 (AV.int .u32 0)) []) fun es =>
  bindV (.sl H.length 0 0 es.length es.length) fun t5 => bindH (H ++ [.row 0 1 64 es]) fun H1 =>
  withL (newsZ base 1 4 (AV.int .u32 0) 22 a0 H1) fun es =>
  withVH (A.append 1 4 64 t5 es H1) fun t7 H2 =>
  k t7 H2)) := by kernel_rfl
theorem L55_0_step (pol : FuncId → Pol) (n m : Nat) (t0 t1 : AV) (H : Heap) : L55_0 pol n (m + 1) ⟨[t0, t1], []⟩ H =
  (withV (A.lenStr t0) fun t6 =>
  withV (A.bin base.P .gtr 3 t6 (AV.int .i64 0) true H) fun t7 =>
  withB (A.asG true t7) fun b4 => withP (guardB b4 true (
   some (t0, H))
   (some (.tup [], H))) fun t9 H2 =>
  withB (A.asG true t7) fun b5 => withP (guardB b5 true (
   withV (A.index t9 (AV.int .i64 0)) fun t10 =>
   some (t10, H2))
   (some (.tup [], H2))) fun t10 H3 =>
  withB (A.asG true t7) fun b6 => withP (guardB b6 true (
   some (t1, H3))
   (some (.tup [], H3))) fun t11 H4 =>
  withB (A.asG true t7) fun b7 => withP (guardB b7 true (
   withV (A.bin base.P .eql 5 t10 t11 false H4) fun t12 =>
   some (t12, H4))
   (some (.tup [], H4))) fun t12 H5 =>
  withV (A.pick t7 t12 (AV.bool false)) fun t13 =>
  A.test t13 (
  withV (A.sliceStr t0 (some (AV.int .i64 1)) none) fun t15 =>
  L55_0 pol n m ⟨[t15, t1], []⟩ H5)
  (
  some (0, ⟨[t0], []⟩, H5))) := by kernel_rfl
theorem S55 (pol : FuncId → Pol) (n : Nat) (R : Type) (k : AV → Heap → Option R) (a0 a1 : AV) (H : Heap) : callF (base.with pol) (n + 1) R 55 [a0, a1] H k =
  (bindX (L55_0 pol n n ⟨[a0, a1], []⟩ H) fun i1 l1 H1 =>
  altN i1 0 (
  bindV (l1.vs.getD 0 .undef) fun t0 => 
  k t0 H1)
  (none)) := by kernel_rfl
theorem L56_0_step (pol : FuncId → Pol) (n m : Nat) (t0 t4 : AV) (c0 : List AV) (H : Heap) : L56_0 pol n (m + 1) ⟨[t0, t4], [c0]⟩ H =
  (withV (A.lenStr t0) fun t8 =>
  withV (A.bin base.P .lss 3 t4 t8 false H) fun t9 =>
  A.test t9 (
  withV (A.index t0 t4) fun t14 =>
  withV (A.bin base.P .geq 5 t14 (AV.int .u8 128) true H) fun t16 =>
  A.test t16 (
  withV (A.ofList true 256 c0 0) fun t17 =>
   chkD (A.fits 256 t17 && decide (0 + (t17).cells.length ≤ c0.length)) (bindC (A.splice c0 0 (t17).cells) fun c0 =>
   some (1, ⟨[(AV.bool false)], [c0]⟩, H)))
  (
  lpIdxK t14 256 fun jt19 =>
  chkD (A.fits 1 (AV.bool true) && decide ((0 + jt19.toNat * 1) + ((AV.bool true)).cells.length ≤ c0.length)) (bindC (A.splice c0 (0 + jt19.toNat * 1) ((AV.bool true)).cells) fun c0 =>
  withV (A.bin base.P .add 3 t4 (AV.int .i64 1) true H) fun t11 =>
  L56_0 pol n m ⟨[t0, t11], [c0]⟩ H)))
  (
  some (0, ⟨[.undef], [c0]⟩, H))) := by kernel_rfl
theorem S56 (pol : FuncId → Pol) (n : Nat) (R : Type) (k : AV → Heap → Option R) (a0 : AV) (H : Heap) : callF (base.with pol) (n + 1) R 56 [a0] H k =
  (bindC [(AV.bool false), (AV.bool false), (AV.bool false), (AV.bool false), (AV.bool false), (AV.bool false), (AV.bool false), (AV.bool false), (AV.bool false), (AV.bool false), (AV.bool false), (AV.bool false), (AV.bool false), (AV.bool false), (AV.bool false), (AV.bool false), (AV.bool false), (AV.bool false), (AV.bool false), (AV.bool false), (AV.bool false), (AV.bool false), (AV.bool false), (AV.bool false), (AV.bool false), (AV.bool false), (AV.bool false), (AV.bool false), (AV.bool false), (AV.bool false), (AV.bool false), (AV.bool false), (AV.bool false), (AV.bool false), (AV.bool false), (AV.bool false), (AV.bool false), (AV.bool false), (AV.bool false), (AV.bool false), (AV.bool false), (AV.bool false), (AV.bool false), (AV.bool false), (AV.bool false), (AV.bool false), (AV.bool false), (AV.bool false), (AV.bool false), (AV.bool false), (AV.bool false), (AV.bool false), (AV.bool false), (AV.bool false), (AV.bool false), (AV.bool false), (AV.bool false), (AV.bool false), (AV.bool false), (AV.bool false), (AV.bool false), (AV.bool false), (AV.bool false), (AV.bool false), (AV.bool false), (AV.bool false), (AV.bool false), (AV.bool false), (AV.bool false), (AV.bool false), (AV.bool false), (AV.bool false), (AV.bool false), (AV.bool false), (AV.bool false), (AV.bool false), (AV.bool false), (AV.bool false), (AV.bool false), (AV.bool false), (AV.bool false), (AV.bool false), (AV.bool false), (AV.bool false), (AV.bool false), (AV.bool false), (AV.bool false), (AV.bool false), (AV.bool false), (AV.bool false), (AV.bool false), (AV.bool false), (AV.bool false), (AV.bool false), (AV.bool false), (AV.bool false), (AV.bool false), (AV.bool false), (AV.bool false), (AV.bool false), (AV.bool false), (AV.bool false), (AV.bool false), (AV.bool false), (AV.bool false), (AV.bool false), (AV.bool false), (AV.bool false), (AV.bool false), (AV.bool false), (AV.bool false), (AV.bool false), (AV.bool false), (AV.bool false), (AV.bool false), (AV.bool false), (AV.bool false), (AV.bool false), (AV.bool false), (AV.bool false), (AV.bool false), (AV.bool false), (AV.bool false), (AV.bool false), (AV.bool false), (AV.bool false), (AV.bool false), (AV.bool false), (AV.bool false), (AV.bool false), (AV.bool false), (AV.bool false), (AV.bool false), (AV.bool false), (AV.bool false), (AV.bool false), (AV.bool false), (AV.bool false), (AV.bool false), (AV.bool false), (AV.bool false), (AV.bool false), (AV.bool false), (AV.bool false), (AV.bool false), (AV.bool false), (AV.bool false), (AV.bool false), (AV.bool false), (AV.bool false), (AV.bool false), (AV.bool false), (AV.bool false), (AV.bool false), (AV.bool false), (AV.bool false), (AV.bool false), (AV.bool false), (AV.bool false), (AV.bool false), (AV.bool false), (AV.bool false), (AV.bool false), (AV.bool false), (AV.bool false), (AV.bool false), (AV.bool false), (AV.bool false), (AV.bool false), (AV.bool false), (AV.bool false), (AV.bool false), (AV.bool false), (AV.bool false), (AV.bool false), (AV.bool false), (AV.bool false), (AV.bool false), (AV.bool false), (AV.bool false), (AV.bool false), (AV.bool false), (AV.bool false), (AV.bool false), (AV.bool false), (AV.bool false), (AV.bool false), (AV.bool false), (AV.bool false), (AV.bool false), (AV.bool false), (AV.bool false), (AV.bool false), (AV.bool false), (AV.bool false), (AV.bool false), (AV.bool false), (AV.bool false), (AV.bool false), (AV.bool false), (AV.bool false), (AV.bool false), (AV.bool false), (AV.bool false), (AV.bool false), (AV.bool false), (AV.bool false), (AV.bool false), (AV.bool false), (AV.bool false), (AV.bool false), (AV.bool false), (AV.bool false), (AV.bool false), (AV.bool false), (AV.bool false), (AV.bool false), (AV.bool false), (AV.bool false), (AV.bool false), (AV.bool false), (AV.bool false), (AV.bool false), (AV.bool false), (AV.bool false), (AV.bool false), (AV.bool false), (AV.bool false), (AV.bool false), (AV.bool false), (AV.bool false), (AV.bool false), (AV.bool false), (AV.bool false), (AV.bool false), (AV.bool false), (AV.bool false), (AV.bool false), (AV.bool false), (AV.bool false), (AV.bool false), (AV.bool false), (AV.bool false), (AV.bool false), (AV.bool false), (AV.bool false), (AV.bool false), (AV.bool false), (AV.bool false), (AV.bool false), (AV.bool false), (AV.bool false), (AV.bool false), (AV.bool false), (AV.bool false), (AV.bool false)] fun c0 =>
  bindX (L56_0 pol n n ⟨[a0, (AV.int .i64 0)], [c0]⟩ H) fun i1 l1 H1 =>
  altN i1 0 (
  bindV (l1.vs.getD 0 .undef) fun t3 => bindC (l1.cs.getD 0 []) fun c0 => 
  withV (A.ofList true 256 c0 0) fun t20 =>
  chkD (A.fits 256 t20 && decide (0 + (t20).cells.length ≤ c0.length)) (bindC (A.splice c0 0 (t20).cells) fun c0 =>
  withV (A.ofList true 256 c0 0) fun r2 => k (.tup [r2, (AV.bool true)]) H1))
  (altN i1 1 (
  bindV (l1.vs.getD 0 .undef) fun t3 => bindC (l1.cs.getD 0 []) fun c0 => 
  withV (A.ofList true 256 c0 0) fun r2 => k (.tup [r2, t3]) H1)
  (none))) := by kernel_rfl
theorem L57_0_step (pol : FuncId → Pol) (n m : Nat) (t0 t1 : AV) (H : Heap) : L57_0 pol n (m + 1) ⟨[t0, t1], []⟩ H =
  (withV (A.lenStr t0) fun t6 =>
  withV (A.bin base.P .gtr 3 t6 (AV.int .i64 0) true H) fun t7 =>
  A.test t7 (
  withV (A.index t0 (AV.int .i64 0)) fun t10 =>
  cl base pol n 75 [t1, t10] H fun t11 H2 =>
  withV (A.un .not t11) fun t12 =>
  A.test t12 (
  some (0, ⟨[t0], []⟩, H2))
  (
  withV (A.sliceStr t0 (some (AV.int .i64 1)) none) fun t14 =>
  L57_0 pol n m ⟨[t14, t1], []⟩ H2))
  (
  some (0, ⟨[t0], []⟩, H))) := by kernel_rfl
theorem S57 (pol : FuncId → Pol) (n : Nat) (R : Type) (k : AV → Heap → Option R) (a0 a1 : AV) (H : Heap) : callF (base.with pol) (n + 1) R 57 [a0, a1] H k =
  (bindX (L57_0 pol n n ⟨[a0, a1], []⟩ H) fun i1 l1 H1 =>
  altN i1 0 (
  bindV (l1.vs.getD 0 .undef) fun t0 => 
  k t0 H1)
  (none)) := by kernel_rfl
end Go.Proofs.YtikkpecdkdgmfaaDoor

/- What each function does, in Den's words. -/
set_option maxRecDepth 100000
namespace Go.Proofs.YtikkpecdkdgmfaaDoor
open Go Go.Den
theorem L58_0_step (pol : FuncId → Pol) (n m : Nat) (t0 t1 : AV) (H : Heap) : L58_0 pol n (m + 1) ⟨[t0, t1], []⟩ H =
  (withV (A.lenStr t0) fun t8 =>
  withV (A.bin base.P .gtr 3 t8 (AV.int .i64 0) true H) fun t9 =>
  A.test t9 (
  cl base pol n 76 [t0] H fun t12 H2 =>
  extractK t12 0 fun t13 =>
  extractK t12 1 fun t14 =>
  cl base pol n 77 [t1, t13] H2 fun t17 H3 =>
  withV (A.un .not t17) fun t18 =>
  A.test t18 (
  some (0, ⟨[t0], []⟩, H3))
  (
  withV (A.sliceStr t0 (some t14) none) fun t21 =>
  L58_0 pol n m ⟨[t21, t1], []⟩ H3))
  (
  some (0, ⟨[t0], []⟩, H))) := by kernel_rfl
theorem S58 (pol : FuncId → Pol) (n : Nat) (R : Type) (k : AV → Heap → Option R) (a0 a1 : AV) (H : Heap) : callF (base.with pol) (n + 1) R 58 [a0, a1] H k =
  (bindX (L58_0 pol n n ⟨[a0, a1], []⟩ H) fun i1 l1 H1 =>
  altN i1 0 (
  bindV (l1.vs.getD 0 .undef) fun t0 => 
  k t0 H1)
  (none)) := by kernel_rfl
theorem S60 (pol : FuncId → Pol) (n : Nat) (R : Type) (k : AV → Heap → Option R) (a0 a1 : AV) (H : Heap) : callF (base.with pol) (n + 1) R 60 [a0, a1] H k =
  (cl base pol n 78 [a0] H fun t7 H1 =>
  withV (nilC base.P a0 H1) fun t10 =>
  withV (A.fa 1 t10 H1) fun t11 =>
  withV (A.load false 1 t11 H1) fun t12 =>
  withL (newsZ base 1 1 (AV.int .u8 0) 9 a1 H1) fun es =>
  withVH (A.append 1 1 5 t12 es H1) fun t14 H2 =>
  withV (nilC base.P a0 H2) fun t15 =>
  withV (A.fa 1 t15 H2) fun t16 =>
  withH (A.store 1 t16 t14 H2) fun H3 =>
  withV (A.lenStr a1) fun t18 =>
  k (.tup [t18, AV.nili]) H3) := by kernel_rfl
theorem S62 (pol : FuncId → Pol) (n : Nat) (R : Type) (k : AV → Heap → Option R) (a0 a1 : AV) (H : Heap) : callF (base.with pol) (n + 1) R 62 [a0, a1] H k =
  (cl base pol n 80 [a0] H fun t8 H1 =>
  cl base pol n 80 [a1] H1 fun t10 H2 =>
  A.test t8 (
  A.test t10 (
   k (AV.int .i64 0) H2)
   (
   k (AV.int .i64 (-1)) H2))
  (
  A.test t10 (
  k (AV.int .i64 1) H2)
  (
  withV (A.bin base.P .lss 3 a0 a1 false H2) fun t16 =>
  A.test t16 (
  k (AV.int .i64 (-1)) H2)
  (
  withV (A.bin base.P .gtr 3 a0 a1 false H2) fun t19 =>
  A.test t19 (
  k (AV.int .i64 1) H2)
  (
  k (AV.int .i64 0) H2))))) := by kernel_rfl
theorem S63 (pol : FuncId → Pol) (n : Nat) (R : Type) (k : AV → Heap → Option R) (a0 a1 : AV) (H : Heap) : callF (base.with pol) (n + 1) R 63 [a0, a1] H k =
  (cl base pol n 81 [a0] H fun t8 H1 =>
  cl base pol n 81 [a1] H1 fun t10 H2 =>
  A.test t8 (
  A.test t10 (
   k (AV.int .i64 0) H2)
   (
   k (AV.int .i64 (-1)) H2))
  (
  A.test t10 (
  k (AV.int .i64 1) H2)
  (
  withV (A.bin base.P .lss 64 a0 a1 false H2) fun t16 =>
  A.test t16 (
  k (AV.int .i64 (-1)) H2)
  (
  withV (A.bin base.P .gtr 64 a0 a1 false H2) fun t19 =>
  A.test t19 (
  k (AV.int .i64 1) H2)
  (
  k (AV.int .i64 0) H2))))) := by kernel_rfl
theorem L64_0_step (pol : FuncId → Pol) (n m : Nat) (t1 t5 t13 t14 t15 : AV) (H : Heap) : L64_0 pol n (m + 1) ⟨[t1, t5, t13, t14, t15], []⟩ H =
  (withV (A.bin base.P .lss 3 t15 t14 false H) fun t16 =>
  A.test t16 (
  withV (A.idx 1 t13 t15 H) fun t18 =>
  withV (A.load false 1 t18 H) fun t19 =>
  withV (Go.Den.convert base 64 63 t19) fun t21 =>
  withV (A.bin base.P .shl 63 t21 t1 false H) fun t23 =>
  withV (A.idx 1 t5 t15 H) fun t26 =>
  withV (A.load false 1 t26 H) fun t27 =>
  withV (Go.Den.convert base 63 64 t23) fun t29 =>
  withV (A.bin base.P .or 64 t27 t29 false H) fun t30 =>
  withV (A.idx 1 t5 t15 H) fun t31 =>
  withH (A.store 1 t31 t30 H) fun H1 =>
  withV (A.bin base.P .add 3 t15 (AV.int .i64 1) true H1) fun t34 =>
  withV (A.bin base.P .shr 63 t23 (AV.int .u64 32) true H1) fun t36 =>
  withV (Go.Den.convert base 63 64 t36) fun t37 =>
  withV (A.idx 1 t5 t34 H1) fun t38 =>
  withH (A.store 1 t38 t37 H1) fun H2 =>
  withV (A.bin base.P .add 3 t15 (AV.int .i64 1) true H2) fun t39 =>
  L64_0 pol n m ⟨[t1, t5, t13, t14, t39], []⟩ H2)
  (
  some (0, ⟨[t5], []⟩, H))) := by kernel_rfl
theorem S64 (pol : FuncId → Pol) (n : Nat) (R : Type) (k : AV → Heap → Option R) (a0 a1 : AV) (H : Heap) : callF (base.with pol) (n + 1) R 64 [a0, a1] H k =
  (withV (A.len a0 H) fun t10 =>
  withV (A.bin base.P .add 3 t10 (AV.int .i64 1) true H) fun t11 =>
  withVH (A.makeSlice 1 4 64 (AV.int .u32 0) t11 t11 H) fun t12 H2 =>
  withV (A.len a0 H2) fun t14 =>
  bindX (L64_0 pol n n ⟨[a1, t12, a0, t14, (AV.int .i64 0)], []⟩ H2) fun i4 l4 H4 =>
  altN i4 0 (
  bindV (l4.vs.getD 0 .undef) fun t5 => 
  k t5 H4)
  (none)) := by kernel_rfl
theorem L65_0_step (pol : FuncId → Pol) (n m : Nat) (t0 t1 t2 t7 t9 t10 : AV) (H : Heap) : L65_0 pol n (m + 1) ⟨[t0, t1, t2, t7, t9, t10], []⟩ H =
  (withV (A.bin base.P .geq 63 t9 (AV.int .u64 4294967296) true H) fun t47 =>
  withB (A.asG false t47) fun b3 => withP (guardB b3 false (
   some (t9, H))
   (some (.tup [], H))) fun t49 H1 =>
  withB (A.asG false t47) fun b4 => withP (guardB b4 false (
   some (t1, H1))
   (some (.tup [], H1))) fun t50 H2 =>
  withB (A.asG false t47) fun b5 => withP (guardB b5 false (
   some (t7, H2))
   (some (.tup [], H2))) fun t51 H3 =>
  withB (A.asG false t47) fun b6 => withP (guardB b6 false (
   withV (A.bin base.P .sub 3 t51 (AV.int .i64 2) true H3) fun t52 =>
   some (t52, H3))
   (some (.tup [], H3))) fun t52 H4 =>
  withB (A.asG false t47) fun b7 => withP (guardB b7 false (
   withV (A.idx 1 t50 t52 H4) fun t53 =>
   some (t53, H4))
   (some (.tup [], H4))) fun t53 H5 =>
  withB (A.asG false t47) fun b8 => withP (guardB b8 false (
   withV (A.load false 1 t53 H5) fun t54 =>
   some (t54, H5))
   (some (.tup [], H5))) fun t54 H6 =>
  withB (A.asG false t47) fun b9 => withP (guardB b9 false (
   withV (Go.Den.convert base 64 63 t54) fun t55 =>
   some (t55, H6))
   (some (.tup [], H6))) fun t55 H7 =>
  withB (A.asG false t47) fun b10 => withP (guardB b10 false (
   withV (A.bin base.P .mul 63 t49 t55 false H7) fun t56 =>
   some (t56, H7))
   (some (.tup [], H7))) fun t56 H8 =>
  withB (A.asG false t47) fun b11 => withP (guardB b11 false (
   some (t10, H8))
   (some (.tup [], H8))) fun t57 H9 =>
  withB (A.asG false t47) fun b12 => withP (guardB b12 false (
   withV (A.bin base.P .shl 63 t57 (AV.int .u64 32) true H9) fun t58 =>
   some (t58, H9))
   (some (.tup [], H9))) fun t58 H10 =>
  withB (A.asG false t47) fun b13 => withP (guardB b13 false (
   some (t0, H10))
   (some (.tup [], H10))) fun t59 H11 =>
  withB (A.asG false t47) fun b14 => withP (guardB b14 false (
   some (t2, H11))
   (some (.tup [], H11))) fun t60 H12 =>
  withB (A.asG false t47) fun b15 => withP (guardB b15 false (
   some (t7, H12))
   (some (.tup [], H12))) fun t61 H13 =>
  withB (A.asG false t47) fun b16 => withP (guardB b16 false (
   withV (A.bin base.P .add 3 t60 t61 false H13) fun t62 =>
   some (t62, H13))
   (some (.tup [], H13))) fun t62 H14 =>
  withB (A.asG false t47) fun b17 => withP (guardB b17 false (
   withV (A.bin base.P .sub 3 t62 (AV.int .i64 2) true H14) fun t63 =>
   some (t63, H14))
   (some (.tup [], H14))) fun t63 H15 =>
  withB (A.asG false t47) fun b18 => withP (guardB b18 false (
   withV (A.idx 1 t59 t63 H15) fun t64 =>
   some (t64, H15))
   (some (.tup [], H15))) fun t64 H16 =>
  withB (A.asG false t47) fun b19 => withP (guardB b19 false (
   withV (A.load false 1 t64 H16) fun t65 =>
   some (t65, H16))
   (some (.tup [], H16))) fun t65 H17 =>
  withB (A.asG false t47) fun b20 => withP (guardB b20 false (
   withV (Go.Den.convert base 64 63 t65) fun t66 =>
   some (t66, H17))
   (some (.tup [], H17))) fun t66 H18 =>
  withB (A.asG false t47) fun b21 => withP (guardB b21 false (
   withV (A.bin base.P .or 63 t58 t66 false H18) fun t67 =>
   some (t67, H18))
   (some (.tup [], H18))) fun t67 H19 =>
  withB (A.asG false t47) fun b22 => withP (guardB b22 false (
   withV (A.bin base.P .gtr 63 t56 t67 false H19) fun t68 =>
   some (t68, H19))
   (some (.tup [], H19))) fun t68 H20 =>
  withV (A.pick t47 (AV.bool true) t68) fun t69 =>
  A.test t69 (
  withV (A.bin base.P .sub 63 t9 (AV.int .u64 1) true H20) fun t71 =>
  withV (A.bin base.P .sub 3 t7 (AV.int .i64 1) true H20) fun t75 =>
  withV (A.idx 1 t1 t75 H20) fun t76 =>
  withV (A.load false 1 t76 H20) fun t77 =>
  withV (Go.Den.convert base 64 63 t77) fun t78 =>
  withV (A.bin base.P .add 63 t10 t78 false H20) fun t79 =>
  withV (A.bin base.P .geq 63 t79 (AV.int .u64 4294967296) true H20) fun t81 =>
  A.test t81 (
  some (0, ⟨[t71], []⟩, H20))
  (
  L65_0 pol n m ⟨[t0, t1, t2, t7, t71, t79], []⟩ H20))
  (
  some (0, ⟨[t9], []⟩, H20))) := by kernel_rfl
theorem S65 (pol : FuncId → Pol) (n : Nat) (R : Type) (k : AV → Heap → Option R) (a0 a1 a2 : AV) (H : Heap) : callF (base.with pol) (n + 1) R 65 [a0, a1, a2] H k =
  (withV (A.len a1 H) fun t12 =>
  withV (A.bin base.P .add 3 a2 t12 false H) fun t16 =>
  withV (A.idx 1 a0 t16 H) fun t17 =>
  withV (A.load false 1 t17 H) fun t18 =>
  withV (Go.Den.convert base 64 63 t18) fun t19 =>
  withV (A.bin base.P .shl 63 t19 (AV.int .u64 32) true H) fun t20 =>
  withV (A.bin base.P .add 3 a2 t12 false H) fun t24 =>
  withV (A.bin base.P .sub 3 t24 (AV.int .i64 1) true H) fun t25 =>
  withV (A.idx 1 a0 t25 H) fun t26 =>
  withV (A.load false 1 t26 H) fun t27 =>
  withV (Go.Den.convert base 64 63 t27) fun t28 =>
  withV (A.bin base.P .or 63 t20 t28 false H) fun t29 =>
  withV (A.bin base.P .sub 3 t12 (AV.int .i64 1) true H) fun t33 =>
  withV (A.idx 1 a1 t33 H) fun t34 =>
  withV (A.load false 1 t34 H) fun t35 =>
  withV (Go.Den.convert base 64 63 t35) fun t36 =>
  withV (A.bin base.P .quo 63 t29 t36 false H) fun t37 =>
  withV (A.bin base.P .sub 3 t12 (AV.int .i64 1) true H) fun t41 =>
  withV (A.idx 1 a1 t41 H) fun t42 =>
  withV (A.load false 1 t42 H) fun t43 =>
  withV (Go.Den.convert base 64 63 t43) fun t44 =>
  withV (A.bin base.P .rem 63 t29 t44 false H) fun t45 =>
  bindX (L65_0 pol n n ⟨[a0, a1, a2, t12, t37, t45], []⟩ H) fun i2 l2 H2 =>
  altN i2 0 (
  bindV (l2.vs.getD 0 .undef) fun t9 => 
  k t9 H2)
  (none)) := by kernel_rfl
theorem L66_0_step (pol : FuncId → Pol) (n m : Nat) (t0 t1 t2 t3 t9 t10 t17 t18 : AV) (H : Heap) : L66_0 pol n (m + 1) ⟨[t0, t1, t2, t3, t9, t10, t17, t18], []⟩ H =
  (withV (A.bin base.P .lss 3 t18 t17 false H) fun t19 =>
  A.test t19 (
  withV (A.len t1 H) fun t23 =>
  withV (A.bin base.P .lss 3 t18 t23 false H) fun t24 =>
  bindX (A.test t24 (
   withV (A.idx 1 t1 t18 H) fun t27 =>
    withV (A.load false 1 t27 H) fun t28 =>
    withV (Go.Den.convert base 64 63 t28) fun t29 =>
    some (0, ⟨[t0, t1, t2, t3, t9, t10, t18, t29, t17, t18], []⟩, H))
   (
   some (0, ⟨[t0, t1, t2, t3, t9, t10, t18, (AV.int .u64 0), t17, t18], []⟩, H))) fun i2 l2 H2 =>
  altN i2 0 (
  bindV (l2.vs.getD 0 .undef) fun t0 => bindV (l2.vs.getD 1 .undef) fun t1 => bindV (l2.vs.getD 2 .undef) fun t2 => bindV (l2.vs.getD 3 .undef) fun t3 => bindV (l2.vs.getD 4 .undef) fun t9 => bindV (l2.vs.getD 5 .undef) fun t10 => bindV (l2.vs.getD 6 .undef) fun t11 => bindV (l2.vs.getD 7 .undef) fun t12 => bindV (l2.vs.getD 8 .undef) fun t17 => bindV (l2.vs.getD 9 .undef) fun t18 => 
  withV (A.bin base.P .mul 63 t3 t12 false H2) fun t33 =>
  withV (A.bin base.P .add 63 t9 t33 false H2) fun t34 =>
  withV (A.bin base.P .and 63 t34 (AV.int .u64 4294967295) true H2) fun t36 =>
  withV (A.bin base.P .add 63 t36 t10 false H2) fun t38 =>
  withV (A.bin base.P .shr 63 t34 (AV.int .u64 32) true H2) fun t40 =>
  withV (A.bin base.P .add 3 t2 t11 false H2) fun t44 =>
  withV (A.idx 1 t0 t44 H2) fun t45 =>
  withV (A.load false 1 t45 H2) fun t46 =>
  withV (Go.Den.convert base 64 63 t46) fun t47 =>
  withV (A.bin base.P .lss 63 t47 t38 false H2) fun t50 =>
  bindX (A.test t50 (
   withV (A.bin base.P .add 63 t47 (AV.int .u64 4294967296) true H2) fun t52 =>
    some (0, ⟨[t0, t1, t2, t3, t40, (AV.int .u64 1), t11, t38, t52, t17, t18], []⟩, H2))
   (
   some (0, ⟨[t0, t1, t2, t3, t40, (AV.int .u64 0), t11, t38, t47, t17, t18], []⟩, H2))) fun i3 l3 H3 =>
  altN i3 0 (
  bindV (l3.vs.getD 0 .undef) fun t0 => bindV (l3.vs.getD 1 .undef) fun t1 => bindV (l3.vs.getD 2 .undef) fun t2 => bindV (l3.vs.getD 3 .undef) fun t3 => bindV (l3.vs.getD 4 .undef) fun t9 => bindV (l3.vs.getD 5 .undef) fun t10 => bindV (l3.vs.getD 6 .undef) fun t11 => bindV (l3.vs.getD 7 .undef) fun t13 => bindV (l3.vs.getD 8 .undef) fun t14 => bindV (l3.vs.getD 9 .undef) fun t17 => bindV (l3.vs.getD 10 .undef) fun t18 => 
  withV (A.bin base.P .add 3 t2 t11 false H3) fun t56 =>
  withV (A.bin base.P .sub 63 t14 t13 false H3) fun t59 =>
  withV (Go.Den.convert base 63 64 t59) fun t60 =>
  withV (A.idx 1 t0 t56 H3) fun t61 =>
  withH (A.store 1 t61 t60 H3) fun H4 =>
  withV (A.bin base.P .add 3 t18 (AV.int .i64 1) true H4) fun t62 =>
  L66_0 pol n m ⟨[t0, t1, t2, t3, t9, t10, t17, t62], []⟩ H4)
  (none))
  (none))
  (
  some (0, ⟨[t10], []⟩, H))) := by kernel_rfl
theorem S66 (pol : FuncId → Pol) (n : Nat) (R : Type) (k : AV → Heap → Option R) (a0 a1 a2 a3 : AV) (H : Heap) : callF (base.with pol) (n + 1) R 66 [a0, a1, a2, a3] H k =
  (withV (A.len a1 H) fun t16 =>
  withV (A.bin base.P .add 3 t16 (AV.int .i64 1) true H) fun t17 =>
  bindX (L66_0 pol n n ⟨[a0, a1, a2, a3, (AV.int .u64 0), (AV.int .u64 0), t17, (AV.int .i64 0)], []⟩ H) fun i2 l2 H2 =>
  altN i2 0 (
  bindV (l2.vs.getD 0 .undef) fun t10 => 
  withV (A.bin base.P .eql 63 t10 (AV.int .u64 1) true H2) fun t64 =>
  k t64 H2)
  (none)) := by kernel_rfl
theorem L67_0_step (pol : FuncId → Pol) (n m : Nat) (t0 t1 t2 t6 t10 t11 : AV) (H : Heap) : L67_0 pol n (m + 1) ⟨[t0, t1, t2, t6, t10, t11], []⟩ H =
  (withV (A.bin base.P .lss 3 t11 t10 false H) fun t12 =>
  A.test t12 (
  withV (A.bin base.P .add 3 t2 t11 false H) fun t18 =>
  withV (A.idx 1 t0 t18 H) fun t19 =>
  withV (A.load false 1 t19 H) fun t20 =>
  withV (Go.Den.convert base 64 63 t20) fun t21 =>
  withV (A.bin base.P .add 63 t6 t21 false H) fun t22 =>
  withV (A.len t1 H) fun t25 =>
  withV (A.bin base.P .lss 3 t11 t25 false H) fun t26 =>
  bindX (A.test t26 (
   withV (A.idx 1 t1 t11 H) fun t30 =>
    withV (A.load false 1 t30 H) fun t31 =>
    withV (Go.Den.convert base 64 63 t31) fun t32 =>
    withV (A.bin base.P .add 63 t22 t32 false H) fun t33 =>
    some (0, ⟨[t0, t1, t2, t33, t11, t10, t11], []⟩, H))
   (
   some (0, ⟨[t0, t1, t2, t22, t11, t10, t11], []⟩, H))) fun i2 l2 H2 =>
  altN i2 0 (
  bindV (l2.vs.getD 0 .undef) fun t0 => bindV (l2.vs.getD 1 .undef) fun t1 => bindV (l2.vs.getD 2 .undef) fun t2 => bindV (l2.vs.getD 3 .undef) fun t6 => bindV (l2.vs.getD 4 .undef) fun t7 => bindV (l2.vs.getD 5 .undef) fun t10 => bindV (l2.vs.getD 6 .undef) fun t11 => 
  withV (A.bin base.P .add 3 t2 t7 false H2) fun t37 =>
  withV (Go.Den.convert base 63 64 t6) fun t39 =>
  withV (A.idx 1 t0 t37 H2) fun t40 =>
  withH (A.store 1 t40 t39 H2) fun H3 =>
  withV (A.bin base.P .shr 63 t6 (AV.int .u64 32) true H3) fun t42 =>
  withV (A.bin base.P .add 3 t11 (AV.int .i64 1) true H3) fun t43 =>
  L67_0 pol n m ⟨[t0, t1, t2, t42, t10, t43], []⟩ H3)
  (none))
  (
  some (0, ⟨[], []⟩, H))) := by kernel_rfl
theorem S67 (pol : FuncId → Pol) (n : Nat) (R : Type) (k : AV → Heap → Option R) (a0 a1 a2 : AV) (H : Heap) : callF (base.with pol) (n + 1) R 67 [a0, a1, a2] H k =
  (withV (A.len a1 H) fun t9 =>
  withV (A.bin base.P .add 3 t9 (AV.int .i64 1) true H) fun t10 =>
  bindX (L67_0 pol n n ⟨[a0, a1, a2, (AV.int .u64 0), t10, (AV.int .i64 0)], []⟩ H) fun i2 l2 H2 =>
  altN i2 0 (
  k (.tup []) H2)
  (none)) := by kernel_rfl
theorem L68_0_step (pol : FuncId → Pol) (n m : Nat) (t0 t1 t5 t12 t13 t14 : AV) (H : Heap) : L68_0 pol n (m + 1) ⟨[t0, t1, t5, t12, t13, t14], []⟩ H =
  (withV (A.bin base.P .lss 3 t14 t13 false H) fun t15 =>
  A.test t15 (
  withV (A.idx 1 t12 t14 H) fun t17 =>
  withV (A.load false 1 t17 H) fun t18 =>
  withV (Go.Den.convert base 64 63 t18) fun t20 =>
  withV (A.bin base.P .add 3 t14 (AV.int .i64 1) true H) fun t22 =>
  withV (A.len t0 H) fun t24 =>
  withV (A.bin base.P .lss 3 t22 t24 false H) fun t25 =>
  bindX (A.test t25 (
   withV (A.bin base.P .add 3 t14 (AV.int .i64 1) true H) fun t29 =>
    withV (A.idx 1 t0 t29 H) fun t30 =>
    withV (A.load false 1 t30 H) fun t31 =>
    withV (Go.Den.convert base 64 63 t31) fun t32 =>
    withV (A.bin base.P .shl 63 t32 (AV.int .u64 32) true H) fun t33 =>
    withV (A.bin base.P .or 63 t20 t33 false H) fun t34 =>
    some (0, ⟨[t0, t1, t5, t14, t34, t12, t13, t14], []⟩, H))
   (
   some (0, ⟨[t0, t1, t5, t14, t20, t12, t13, t14], []⟩, H))) fun i2 l2 H2 =>
  altN i2 0 (
  bindV (l2.vs.getD 0 .undef) fun t0 => bindV (l2.vs.getD 1 .undef) fun t1 => bindV (l2.vs.getD 2 .undef) fun t5 => bindV (l2.vs.getD 3 .undef) fun t6 => bindV (l2.vs.getD 4 .undef) fun t8 => bindV (l2.vs.getD 5 .undef) fun t12 => bindV (l2.vs.getD 6 .undef) fun t13 => bindV (l2.vs.getD 7 .undef) fun t14 => 
  withV (A.bin base.P .shr 63 t8 t1 false H2) fun t39 =>
  withV (Go.Den.convert base 63 64 t39) fun t40 =>
  withV (A.idx 1 t5 t6 H2) fun t41 =>
  withH (A.store 1 t41 t40 H2) fun H3 =>
  withV (A.bin base.P .add 3 t14 (AV.int .i64 1) true H3) fun t42 =>
  L68_0 pol n m ⟨[t0, t1, t5, t12, t13, t42], []⟩ H3)
  (none))
  (
  some (0, ⟨[t5], []⟩, H))) := by kernel_rfl
theorem S68 (pol : FuncId → Pol) (n : Nat) (R : Type) (k : AV → Heap → Option R) (a0 a1 : AV) (H : Heap) : callF (base.with pol) (n + 1) R 68 [a0, a1] H k =
  (withV (A.len a0 H) fun t10 =>
  withVH (A.makeSlice 1 4 64 (AV.int .u32 0) t10 t10 H) fun t11 H2 =>
  withV (A.len a0 H2) fun t13 =>
  bindX (L68_0 pol n n ⟨[a0, a1, t11, a0, t13, (AV.int .i64 0)], []⟩ H2) fun i4 l4 H4 =>
  altN i4 0 (
  bindV (l4.vs.getD 0 .undef) fun t5 => 
  k t5 H4)
  (none)) := by kernel_rfl
theorem S69 (pol : FuncId → Pol) (n : Nat) (R : Type) (k : AV → Heap → Option R) (a0 a1 : AV) (H : Heap) : callF (base.with pol) (n + 1) R 69 [a0, a1] H k =
  (withV (A.len a0 H) fun t7 =>
  withV (A.bin base.P .lss 3 a1 t7 false H) fun t8 =>
  A.test t8 (
  withV (A.idx 1 a0 a1 H) fun t11 =>
   withV (A.load false 1 t11 H) fun t12 =>
   withV (Go.Den.convert base 64 63 t12) fun t13 =>
   k t13 H)
  (
  k (AV.int .u64 0) H)) := by kernel_rfl
theorem S70 (pol : FuncId → Pol) (n : Nat) (R : Type) (k : AV → Heap → Option R) (a0 a1 : AV) (H : Heap) : callF (base.with pol) (n + 1) R 70 [a0, a1] H k =
  (withV (A.bin base.P .lss 2 a0 a1 false H) fun t8 =>
  A.test t8 (
  k (AV.int .i64 (-1)) H)
  (
  withV (A.bin base.P .gtr 2 a0 a1 false H) fun t12 =>
   A.test t12 (
   k (AV.int .i64 1) H)
   (
   k (AV.int .i64 0) H))) := by kernel_rfl
theorem S71 (pol : FuncId → Pol) (n : Nat) (R : Type) (k : AV → Heap → Option R) (a0 a1 : AV) (H : Heap) : callF (base.with pol) (n + 1) R 71 [a0, a1] H k =
  (withV (A.lenStr a0) fun t6 =>
  withV (A.lenStr a1) fun t8 =>
  withV (A.bin base.P .geq 3 t6 t8 false H) fun t9 =>
  withB (A.asG true t9) fun b6 => withP (guardB b6 true (
   some (a0, H))
   (some (.tup [], H))) fun t11 H3 =>
  withB (A.asG true t9) fun b7 => withP (guardB b7 true (
   some (a1, H3))
   (some (.tup [], H3))) fun t12 H4 =>
  withB (A.asG true t9) fun b8 => withP (guardB b8 true (
   withV (A.lenStr t12) fun t13 =>
   some (t13, H4))
   (some (.tup [], H4))) fun t13 H6 =>
  withB (A.asG true t9) fun b9 => withP (guardB b9 true (
   withV (A.sliceStr t11 none (some t13)) fun t14 =>
   some (t14, H6))
   (some (.tup [], H6))) fun t14 H7 =>
  withB (A.asG true t9) fun b10 => withP (guardB b10 true (
   some (a1, H7))
   (some (.tup [], H7))) fun t15 H8 =>
  withB (A.asG true t9) fun b11 => withP (guardB b11 true (
   withV (A.bin base.P .eql 9 t14 t15 false H8) fun t16 =>
   some (t16, H8))
   (some (.tup [], H8))) fun t16 H9 =>
  withV (A.pick t9 t16 (AV.bool false)) fun t17 =>
  k t17 H9) := by kernel_rfl
end Go.Proofs.YtikkpecdkdgmfaaDoor

/- What each function does, in Den's words. -/
set_option maxRecDepth 100000
namespace Go.Proofs.YtikkpecdkdgmfaaDoor
open Go Go.Den
theorem S72 (pol : FuncId → Pol) (n : Nat) (R : Type) (k : AV → Heap → Option R) (a0 a1 : AV) (H : Heap) : callF (base.with pol) (n + 1) R 72 [a0, a1] H k =
  (A.test (AV.bool false) (
  withV (Go.Den.convert base 65 64 a0) fun t12 =>
   withV (Go.Den.convert base 65 64 a1) fun t14 =>
   cl base pol n 82 [t12, t14] H fun t15 H1 =>
   extractK t15 0 fun t16 =>
   extractK t15 1 fun t17 =>
   withV (Go.Den.convert base 64 65 t16) fun t19 =>
   withV (Go.Den.convert base 64 65 t17) fun t21 =>
   k (.tup [t19, t21]) H1)
  (
  cl base pol n 83 [a0, a1] H fun t25 H2 =>
  extractK t25 0 fun t26 =>
  extractK t25 1 fun t27 =>
  k (.tup [t26, t27]) H2)) := by kernel_rfl
theorem S73 (pol : FuncId → Pol) (n : Nat) (R : Type) (k : AV → Heap → Option R) (a0 a1 : AV) (H : Heap) : callF (base.with pol) (n + 1) R 73 [a0, a1] H k =
  (cl base pol n 71 [a0, a1] H fun t7 H1 =>
  k t7 H1) := by kernel_rfl
theorem S74 (pol : FuncId → Pol) (n : Nat) (R : Type) (k : AV → Heap → Option R) (a0 : AV) (H : Heap) : callF (base.with pol) (n + 1) R 74 [a0] H k =
  (withV (nilC base.P a0 H) fun t4 =>
  withV (A.fa 1 t4 H) fun t5 =>
  withV (A.load false 1 t5 H) fun t6 =>
  withV (A.len t6 H) fun t7 =>
  k t7 H) := by kernel_rfl
theorem S75 (pol : FuncId → Pol) (n : Nat) (R : Type) (k : AV → Heap → Option R) (a0 a1 : AV) (H : Heap) : callF (base.with pol) (n + 1) R 75 [a0, a1] H k =
  (withV (nilC base.P a0 H) fun t7 =>
  withV (A.idxArr 1 256 t7 a1 H) fun t8 =>
  withV (A.load false 1 t8 H) fun t9 =>
  k t9 H) := by kernel_rfl
theorem S76 (pol : FuncId → Pol) (n : Nat) (R : Type) (k : AV → Heap → Option R) (a0 : AV) (H : Heap) : callF (base.with pol) (n + 1) R 76 [a0] H k =
  (withV (A.bin base.P .neq 9 a0 (AV.str []) true H) fun t5 =>
  withB (A.asG true t5) fun b3 => withP (guardB b3 true (
   some (a0, H))
   (some (.tup [], H))) fun t7 H1 =>
  withB (A.asG true t5) fun b4 => withP (guardB b4 true (
   withV (A.index t7 (AV.int .i64 0)) fun t8 =>
   some (t8, H1))
   (some (.tup [], H1))) fun t8 H2 =>
  withB (A.asG true t5) fun b5 => withP (guardB b5 true (
   withV (A.bin base.P .lss 5 t8 (AV.int .u8 128) true H2) fun t9 =>
   some (t9, H2))
   (some (.tup [], H2))) fun t9 H3 =>
  withV (A.pick t5 t9 (AV.bool false)) fun t10 =>
  A.test t10 (
  withV (A.index a0 (AV.int .i64 0)) fun t12 =>
   withV (Go.Den.convert base 5 21 t12) fun t13 =>
   k (.tup [t13, (AV.int .i64 1)]) H3)
  (
  cl base pol n 84 [a0] H3 fun t16 H4 =>
   extractK t16 0 fun t17 =>
   extractK t16 1 fun t18 =>
   k (.tup [t17, t18]) H4)) := by kernel_rfl
theorem S77 (pol : FuncId → Pol) (n : Nat) (R : Type) (k : AV → Heap → Option R) (a0 a1 : AV) (H : Heap) : callF (base.with pol) (n + 1) R 77 [a0, a1] H k =
  (cl base pol n 85 [a0, a1] H fun t7 H1 =>
  withV (A.bin base.P .geq 3 t7 (AV.int .i64 0) true H1) fun t8 =>
  k t8 H1) := by kernel_rfl
theorem S78 (pol : FuncId → Pol) (n : Nat) (R : Type) (k : AV → Heap → Option R) (a0 : AV) (H : Heap) : callF (base.with pol) (n + 1) R 78 [a0] H k =
  (withV (nilC base.P a0 H) fun t3 =>
  withV (A.fa 0 t3 H) fun t4 =>
  withV (A.load false 1 t4 H) fun t5 =>
  withV (A.bin base.P .eql 92 t5 AV.nilp true H) fun t6 =>
  bindX (A.test t6 (
   convertK base 92 125 a0 H fun t9 H1 =>
    cl base pol n 86 [t9] H1 fun t10 H2 =>
    convertK base 125 92 t10 H2 fun t11 H3 =>
    withV (nilC base.P a0 H3) fun t12 =>
    withV (A.fa 0 t12 H3) fun t13 =>
    withH (A.store 1 t13 t11 H3) fun H4 =>
    some (0, ⟨[], []⟩, H4))
   (
   withV (nilC base.P a0 H) fun t15 =>
    withV (A.fa 0 t15 H) fun t16 =>
    withV (A.load false 1 t16 H) fun t17 =>
    withV (A.bin base.P .neq 92 t17 a0 false H) fun t19 =>
    A.test t19 (
    none)
    (
    some (0, ⟨[], []⟩, H)))) fun i5 l5 H5 =>
  altN i5 0 (
  k (.tup []) H5)
  (none)) := by kernel_rfl
theorem S80 (pol : FuncId → Pol) (n : Nat) (R : Type) (k : AV → Heap → Option R) (a0 : AV) (H : Heap) : callF (base.with pol) (n + 1) R 80 [a0] H k =
  (withV (A.bin base.P .neq 3 a0 a0 false H) fun t5 =>
  k t5 H) := by kernel_rfl
theorem S81 (pol : FuncId → Pol) (n : Nat) (R : Type) (k : AV → Heap → Option R) (a0 : AV) (H : Heap) : callF (base.with pol) (n + 1) R 81 [a0] H k =
  (withV (A.bin base.P .neq 64 a0 a0 false H) fun t5 =>
  k t5 H) := by kernel_rfl
theorem S82 (pol : FuncId → Pol) (n : Nat) (R : Type) (k : AV → Heap → Option R) (a0 a1 : AV) (H : Heap) : callF (base.with pol) (n + 1) R 82 [a0, a1] H k =
  (withV (Go.Den.convert base 64 63 a0) fun t8 =>
  withV (Go.Den.convert base 64 63 a1) fun t10 =>
  withV (A.bin base.P .mul 63 t8 t10 false H) fun t11 =>
  withV (A.bin base.P .shr 63 t11 (AV.int .u64 32) true H) fun t13 =>
  withV (Go.Den.convert base 63 64 t13) fun t14 =>
  withV (Go.Den.convert base 63 64 t11) fun t16 =>
  k (.tup [t14, t16]) H) := by kernel_rfl
theorem S83 (pol : FuncId → Pol) (n : Nat) (R : Type) (k : AV → Heap → Option R) (a0 a1 : AV) (H : Heap) : callF (base.with pol) (n + 1) R 83 [a0, a1] H k =
  (withV (A.bin base.P .and 63 a0 (AV.int .u64 4294967295) true H) fun t15 =>
  withV (A.bin base.P .shr 63 a0 (AV.int .u64 32) true H) fun t17 =>
  withV (A.bin base.P .and 63 a1 (AV.int .u64 4294967295) true H) fun t19 =>
  withV (A.bin base.P .shr 63 a1 (AV.int .u64 32) true H) fun t21 =>
  withV (A.bin base.P .mul 63 t15 t19 false H) fun t24 =>
  withV (A.bin base.P .mul 63 t17 t19 false H) fun t27 =>
  withV (A.bin base.P .shr 63 t24 (AV.int .u64 32) true H) fun t29 =>
  withV (A.bin base.P .add 63 t27 t29 false H) fun t30 =>
  withV (A.bin base.P .and 63 t30 (AV.int .u64 4294967295) true H) fun t32 =>
  withV (A.bin base.P .shr 63 t30 (AV.int .u64 32) true H) fun t34 =>
  withV (A.bin base.P .mul 63 t15 t21 false H) fun t38 =>
  withV (A.bin base.P .add 63 t32 t38 false H) fun t39 =>
  withV (A.bin base.P .mul 63 t17 t21 false H) fun t42 =>
  withV (A.bin base.P .add 63 t42 t34 false H) fun t44 =>
  withV (A.bin base.P .shr 63 t39 (AV.int .u64 32) true H) fun t46 =>
  withV (A.bin base.P .add 63 t44 t46 false H) fun t47 =>
  withV (A.bin base.P .mul 63 a0 a1 false H) fun t50 =>
  k (.tup [t47, t50]) H) := by kernel_rfl
theorem S84 (pol : FuncId → Pol) (n : Nat) (R : Type) (k : AV → Heap → Option R) (a0 : AV) (H : Heap) : callF (base.with pol) (n + 1) R 84 [a0] H k =
  (withV (A.lenStr a0) fun t14 =>
  withV (A.bin base.P .lss 3 t14 (AV.int .i64 1) true H) fun t16 =>
  A.test t16 (
  k (.tup [(AV.int .i32 65533), (AV.int .i64 0)]) H)
  (
  withV (A.index a0 (AV.int .i64 0)) fun t18 =>
  withV (A.idxArr 1 256 (globV base 0) t18 H) fun t20 =>
  withV (A.load false 1 t20 H) fun t21 =>
  withV (A.bin base.P .geq 5 t21 (AV.int .u8 240) true H) fun t23 =>
  A.test t23 (
  withV (Go.Den.convert base 5 21 t21) fun t25 =>
   withV (A.bin base.P .shl 21 t25 (AV.int .u64 31) true H) fun t26 =>
   withV (A.bin base.P .shr 21 t26 (AV.int .u64 31) true H) fun t27 =>
   withV (A.index a0 (AV.int .i64 0)) fun t29 =>
   withV (Go.Den.convert base 5 21 t29) fun t30 =>
   withV (A.bin base.P .andNot 21 t30 t27 false H) fun t32 =>
   withV (A.bin base.P .and 21 (AV.int .i32 65533) t27 false H) fun t34 =>
   withV (A.bin base.P .or 21 t32 t34 false H) fun t35 =>
   k (.tup [t35, (AV.int .i64 1)]) H)
  (
  withV (A.bin base.P .and 5 t21 (AV.int .u8 7) true H) fun t37 =>
  withV (Go.Den.convert base 5 3 t37) fun t38 =>
  withV (A.bin base.P .shr 5 t21 (AV.int .u64 4) true H) fun t40 =>
  withV (A.idxArr 2 16 (globV base 1) t40 H) fun t41 =>
  withV (A.load true 2 t41 H) fun t42 =>
  bindV (.ptr H.length 0 0 0) fun t9 => bindH (H ++ [.row 0 2 130 [(AV.agg [(AV.int .u8 0), (AV.int .u8 0)])]]) fun H2 =>
  withH (A.store 2 t9 t42 H2) fun H3 =>
  withV (A.bin base.P .lss 3 t14 t38 false H3) fun t45 =>
  A.test t45 (
  k (.tup [(AV.int .i32 65533), (AV.int .i64 1)]) H3)
  (
  withV (A.index a0 (AV.int .i64 1)) fun t47 =>
  withV (A.fa 0 t9 H3) fun t49 =>
  withV (A.load false 1 t49 H3) fun t50 =>
  withV (A.bin base.P .lss 5 t47 t50 false H3) fun t51 =>
  withB (A.asG false t51) fun b5 => withP (guardB b5 false (
   withV (A.fa 1 t9 H3) fun t53 =>
   some (t53, H3))
   (some (.tup [], H3))) fun t53 H4 =>
  withB (A.asG false t51) fun b6 => withP (guardB b6 false (
   withV (A.load false 1 t53 H4) fun t54 =>
   some (t54, H4))
   (some (.tup [], H4))) fun t54 H5 =>
  withB (A.asG false t51) fun b7 => withP (guardB b7 false (
   some (t47, H5))
   (some (.tup [], H5))) fun t55 H6 =>
  withB (A.asG false t51) fun b8 => withP (guardB b8 false (
   withV (A.bin base.P .lss 5 t54 t55 false H6) fun t56 =>
   some (t56, H6))
   (some (.tup [], H6))) fun t56 H7 =>
  withV (A.pick t51 (AV.bool true) t56) fun t57 =>
  A.test t57 (
  k (.tup [(AV.int .i32 65533), (AV.int .i64 1)]) H7)
  (
  withV (A.bin base.P .leq 3 t38 (AV.int .i64 2) true H7) fun t59 =>
  A.test t59 (
  withV (A.bin base.P .and 5 t18 (AV.int .u8 31) true H7) fun t61 =>
   withV (Go.Den.convert base 5 21 t61) fun t62 =>
   withV (A.bin base.P .shl 21 t62 (AV.int .u64 6) true H7) fun t63 =>
   withV (A.bin base.P .and 5 t47 (AV.int .u8 63) true H7) fun t65 =>
   withV (Go.Den.convert base 5 21 t65) fun t66 =>
   withV (A.bin base.P .or 21 t63 t66 false H7) fun t67 =>
   k (.tup [t67, (AV.int .i64 2)]) H7)
  (
  withV (A.index a0 (AV.int .i64 2)) fun t69 =>
  withV (A.bin base.P .lss 5 t69 (AV.int .u8 128) true H7) fun t71 =>
  withB (A.asG false t71) fun b3 => withP (guardB b3 false (
   some (t69, H7))
   (some (.tup [], H7))) fun t73 H8 =>
  withB (A.asG false t71) fun b4 => withP (guardB b4 false (
   withV (A.bin base.P .lss 5 (AV.int .u8 191) t73 false H8) fun t74 =>
   some (t74, H8))
   (some (.tup [], H8))) fun t74 H9 =>
  withV (A.pick t71 (AV.bool true) t74) fun t75 =>
  A.test t75 (
  k (.tup [(AV.int .i32 65533), (AV.int .i64 1)]) H9)
  (
  withV (A.bin base.P .leq 3 t38 (AV.int .i64 3) true H9) fun t77 =>
  A.test t77 (
  withV (A.bin base.P .and 5 t18 (AV.int .u8 15) true H9) fun t79 =>
   withV (Go.Den.convert base 5 21 t79) fun t80 =>
   withV (A.bin base.P .shl 21 t80 (AV.int .u64 12) true H9) fun t81 =>
   withV (A.bin base.P .and 5 t47 (AV.int .u8 63) true H9) fun t83 =>
   withV (Go.Den.convert base 5 21 t83) fun t84 =>
   withV (A.bin base.P .shl 21 t84 (AV.int .u64 6) true H9) fun t85 =>
   withV (A.bin base.P .or 21 t81 t85 false H9) fun t86 =>
   withV (A.bin base.P .and 5 t69 (AV.int .u8 63) true H9) fun t88 =>
   withV (Go.Den.convert base 5 21 t88) fun t89 =>
   withV (A.bin base.P .or 21 t86 t89 false H9) fun t90 =>
   k (.tup [t90, (AV.int .i64 3)]) H9)
  (
  withV (A.index a0 (AV.int .i64 3)) fun t92 =>
  withV (A.bin base.P .lss 5 t92 (AV.int .u8 128) true H9) fun t94 =>
  withB (A.asG false t94) fun b3 => withP (guardB b3 false (
   some (t92, H9))
   (some (.tup [], H9))) fun t96 H10 =>
  withB (A.asG false t94) fun b4 => withP (guardB b4 false (
   withV (A.bin base.P .lss 5 (AV.int .u8 191) t96 false H10) fun t97 =>
   some (t97, H10))
   (some (.tup [], H10))) fun t97 H11 =>
  withV (A.pick t94 (AV.bool true) t97) fun t98 =>
  A.test t98 (
  k (.tup [(AV.int .i32 65533), (AV.int .i64 1)]) H11)
  (
  withV (A.bin base.P .and 5 t18 (AV.int .u8 7) true H11) fun t100 =>
  withV (Go.Den.convert base 5 21 t100) fun t101 =>
  withV (A.bin base.P .shl 21 t101 (AV.int .u64 18) true H11) fun t102 =>
  withV (A.bin base.P .and 5 t47 (AV.int .u8 63) true H11) fun t104 =>
  withV (Go.Den.convert base 5 21 t104) fun t105 =>
  withV (A.bin base.P .shl 21 t105 (AV.int .u64 12) true H11) fun t106 =>
  withV (A.bin base.P .or 21 t102 t106 false H11) fun t107 =>
  withV (A.bin base.P .and 5 t69 (AV.int .u8 63) true H11) fun t109 =>
  withV (Go.Den.convert base 5 21 t109) fun t110 =>
  withV (A.bin base.P .shl 21 t110 (AV.int .u64 6) true H11) fun t111 =>
  withV (A.bin base.P .or 21 t107 t111 false H11) fun t112 =>
  withV (A.bin base.P .and 5 t92 (AV.int .u8 63) true H11) fun t114 =>
  withV (Go.Den.convert base 5 21 t114) fun t115 =>
  withV (A.bin base.P .or 21 t112 t115 false H11) fun t116 =>
  k (.tup [t116, (AV.int .i64 4)]) H11))))))))) := by kernel_rfl
end Go.Proofs.YtikkpecdkdgmfaaDoor

/- What each function does, in Den's words. -/
set_option maxRecDepth 100000
namespace Go.Proofs.YtikkpecdkdgmfaaDoor
open Go Go.Den
theorem S88 (pol : FuncId → Pol) (n : Nat) (R : Type) (k : AV → Heap → Option R) (a0 a1 : AV) (H : Heap) : callF (base.with pol) (n + 1) R 88 [a0, a1] H k =
  (cl base pol n 92 [a0, a1] H fun t7 H1 =>
  k t7 H1) := by kernel_rfl
theorem S89 (pol : FuncId → Pol) (n : Nat) (R : Type) (k : AV → Heap → Option R) (a0 : AV) (H : Heap) : callF (base.with pol) (n + 1) R 89 [a0] H k =
  (withV (A.bin base.P .leq 21 (AV.int .i32 0) a0 false H) fun t5 =>
  withB (A.asG true t5) fun b3 => withP (guardB b3 true (
   some (a0, H))
   (some (.tup [], H))) fun t7 H1 =>
  withB (A.asG true t5) fun b4 => withP (guardB b4 true (
   withV (A.bin base.P .lss 21 t7 (AV.int .i32 55296) true H1) fun t8 =>
   some (t8, H1))
   (some (.tup [], H1))) fun t8 H2 =>
  withV (A.pick t5 t8 (AV.bool false)) fun t9 =>
  A.test t9 (
  k (AV.bool true) H2)
  (
  withV (A.bin base.P .lss 21 (AV.int .i32 57343) a0 false H2) fun t12 =>
   withB (A.asG true t12) fun b3 => withP (guardB b3 true (
    some (a0, H2))
    (some (.tup [], H2))) fun t14 H3 =>
   withB (A.asG true t12) fun b4 => withP (guardB b4 true (
    withV (A.bin base.P .leq 21 t14 (AV.int .i32 1114111) true H3) fun t15 =>
    some (t15, H3))
    (some (.tup [], H3))) fun t15 H4 =>
   withV (A.pick t12 t15 (AV.bool false)) fun t16 =>
   A.test t16 (
   k (AV.bool true) H4)
   (
   k (AV.bool false) H4))) := by kernel_rfl
theorem S90 (pol : FuncId → Pol) (n : Nat) (R : Type) (k : AV → Heap → Option R) (a0 : AV) (H : Heap) : callF (base.with pol) (n + 1) R 90 [a0] H k =
  (withV (A.bin base.P .add 3 a0 (AV.int .i64 16) true H) fun t4 =>
  withV (A.bin base.P .quo 3 t4 (AV.int .i64 8) true H) fun t5 =>
  k t5 H) := by kernel_rfl
theorem S92 (pol : FuncId → Pol) (n : Nat) (R : Type) (k : AV → Heap → Option R) (a0 a1 : AV) (H : Heap) : callF (base.with pol) (n + 1) R 92 [a0, a1] H k =
  (cl base pol n 93 [a0, a1] H fun t7 H1 =>
  k t7 H1) := by kernel_rfl
end Go.Proofs.YtikkpecdkdgmfaaDoor

/- What each function does, in Den's words. -/

/- The base of all that is proved of the seat's functions. -/
set_option maxRecDepth 100000
namespace Go.Proofs.YtikkpecdkdgmfaaDoor
open Go Go.Den
theorem base_ok : BaseOK base := ⟨envOK described (by kernel_rfl) (fun f hf => lookAnn_none hf) (by kernel_rfl), by kernel_rfl⟩
end Go.Proofs.YtikkpecdkdgmfaaDoor

/- Numbers of any size: copies, cuts, which is less. -/
set_option maxRecDepth 100000
namespace Go.Proofs.YtikkpecdkdgmfaaDoor
open Go Go.Den
theorem ty_limbs : base.P.underlying 22 = some (.slice 64) := by kernel_rfl
theorem ty_bool : base.P.underlying 4 = some .bool := by kernel_rfl
theorem ty_u32 : base.P.underlying 64 = some (.int .u32) := by kernel_rfl
theorem ty_u64 : base.P.underlying 63 = some (.int .u64) := by kernel_rfl
theorem cv_32_64 (n : Int) (j : IntKind) : Go.Den.convert base 64 63 (.int j n) = some (.int .u64 (IntKind.wrap .u64 n)) := conv_int ty_u32 ty_u64
theorem cv_64_32 (n : Int) (j : IntKind) : Go.Den.convert base 63 64 (.int j n) = some (.int .u32 (IntKind.wrap .u32 n)) := conv_int ty_u64 ty_u32
noncomputable def pClone : Pol := .still (p1 cD eD few id)
theorem kClone {R : Type} {d : Option (List UInt32)} (hf : few d) {H : Heap} {k : AV → Heap → Option R} : polK pClone [eD d] H k = k (eD d) H := by
  simp [pClone, polK_imm, hf]
theorem qClone {R : Type} {d : Option (List UInt32)} (hf : few d) {H : Heap} {k : AV → Heap → Option R} : polQ pClone [eD d] H k = k (eD d) H := by
  simp [pClone, polQ_imm, hf]
theorem okClone : PolOK base 54 pClone := still1 base_ok [] trivial fun d hf => by
  unfold few at hf
  refine Evs.of fun n _ => ?_
  cases d with
  | none => simp [↓test_bool, ↓bindV_eq, ↓bindH_eq, ↓withV_of, S54, eL, A.bin, ty_limbs, A.eqNil]
  | some l =>
    simp only [Option.getD_some] at hf
    cases l with
    | nil =>
      have h1 := row_append_nil (H := [.row 0 1 64 []]) (id := 0) (ver := 0) (sz := 1) (ty := 64) (es := []) (n := 0) (bytes := 4) rfl rfl (by omega) (by simp)
      simp [↓test_bool, ↓bindV_eq, ↓bindH_eq, ↓withV_of, ↓withL_some, ↓withVH_some, S54, eL, A.bin, ty_limbs, A.eqNil, A.fillElems, newsZ_sl ty_limbs, A.read, h1]
      exact freeze_row (b := true) (m := 62) (es := []) rfl rfl (by simp)
    | cons x l =>
      have h1 := row_append (H := [.row 0 1 64 []]) (id := 0) (ver := 0) (sz := 1) (ty := 64) (es := []) (n := 0) (bytes := 4) (news := (x :: l).map eu) rfl rfl (by simp) (by omega) (by simp at hf ⊢; omega)
      simp only [List.nil_append] at h1
      simp [↓test_bool, ↓bindV_eq, ↓bindH_eq, ↓withV_of, ↓withL_some, S54, eL, A.bin, ty_limbs, A.eqNil, A.fillElems, newsZ_sl ty_limbs, A.read]
      simp at h1
      simp [h1]
      exact freeze_row (b := true) (m := 62) (es := (x :: l).map eu) rfl (by simp) (flat_limbs _)
def cutS (d : Option (List UInt32)) : Option (List UInt32) := d.map fun l => lim (val l)
noncomputable def pCut : Pol := .still (p1 cD eD few cutS)
theorem cut_loop {pol : FuncId → Pol} {d : Option (List UInt32)} {l : List UInt32} (hd : d.getD [] = l) (hf : l.length ≤ 1000000) (H : Heap) : ∀ i, i ≤ l.length → LDoes (L38_0 pol) ⟨[eD d, .int .i64 i], []⟩ H 0 ⟨[eD d, .int .i64 (lim (val (l.take i))).length], []⟩ H := by
  intro i
  induction i with
  | zero =>
    intro _
    refine LDoes.step (Evs.of fun n m => ?_)
    simp [↓test_bool, ↓withV_of, ↓withP_some, ↓withB_some, L38_0_step, val, lim_zero]
  | succ i ih =>
    intro hi
    have hl : i < (d.getD []).length := by rw [hd]; omega
    have hx := idx_eD (H := H) (k := .i64) hl
    by_cases h0 : l[i] = 0
    · have hL := ih (by omega)
      refine LDoes.step (Evs.withL hL (Evs.of fun n m h1 h2 => ?_))
      have h0' : ((d.getD [])[i]).toNat = 0 := by simp only [hd, h0]; rfl
      have hp : (0 : Int) < (i : Int) + 1 := by omega
      rw [lim_take (by omega), if_pos h0]
      simp (disch := omega) [↓test_bool, ↓withV_of, ↓withP_some, ↓withB_some, L38_0_step, hp, wrap_i64, hx, h0', h2]
    · refine LDoes.step (Evs.of fun n m => ?_)
      have h0' : ¬ ((d.getD [])[i]).toNat = 0 := by
        simp only [hd]
        exact fun e => h0 (UInt32.toNat_inj.1 (by simpa using e))
      have hp : (0 : Int) < (i : Int) + 1 := by omega
      rw [lim_take (by omega), if_neg h0]
      simp (disch := omega) [↓test_bool, ↓withV_of, ↓withP_some, ↓withB_some, L38_0_step, hp, wrap_i64, hx, h0']
theorem okCut : PolOK base 38 pCut := still1 base_ok [(54, pClone)] ⟨okClone, trivial⟩ fun d hf => by
  unfold few at hf
  have hL := cut_loop (pol := polT [(54, pClone)]) (d := d) rfl hf [] _ (Nat.le_refl _)
  refine Evs.withL hL (Evs.of fun n m h1 _ => ?_)
  have hs : ∀ k : Nat, k ≤ (d.getD []).length → A.slice 1 (eD d) none (some (.int .i64 k)) none [] = some (eD (d.map fun l => l.take k)) := fun k hk => by
    cases d with
    | none => simp at hk; subst hk; rfl
    | some l =>
      simp at hk
      simp [eL, A.slice, A.bound, hk]
  have hle := lim_len_le (d.getD [])
  have e : (d.map fun l => l.take (lim (val (d.getD []))).length) = cutS d := by
    cases d with
    | none => rfl
    | some l => simp [cutS, take_lim]
  have hk := hs _ hle
  rw [e] at hk
  have hf2 : few (cutS d) := by
    rw [← e]
    unfold few
    cases d with
    | none => simp
    | some l => simp at hf ⊢; omega
  rw [List.take_length] at h1
  simp [↓bindV_eq, ↓withV_of, ↓bindX_some, S38, h1, hk, kClone hf2]
theorem kCut {R : Type} {d : Option (List UInt32)} (hf : few d) {H : Heap} {k : AV → Heap → Option R} : polK pCut [eD d] H k = k (eD (cutS d)) H := by
  simp [pCut, polK_imm, hf]
theorem qCut {R : Type} {d : Option (List UInt32)} (hf : few d) {H : Heap} {k : AV → Heap → Option R} : polQ pCut [eD d] H k = k (eD (cutS d)) H := by
  simp [pCut, polQ_imm, hf]
theorem few_cut {d : Option (List UInt32)} (h : few d) : few (cutS d) := by
  unfold few at h ⊢
  cases d with
  | none => simp [cutS]
  | some l =>
    have := lim_len_le l
    simp [cutS] at h ⊢
    omega
def madeS (b : Bool) (d : Option (List UInt32)) : Nm := (b && decide (0 < ((cutS d).getD []).length), cutS d)
noncomputable def pMade : Pol := .still (p2 cB cD eN (fun _ d => few d) madeS)
theorem okMade : PolOK base 34 pMade := still2 base_ok [(38, pCut)] ⟨okCut, trivial⟩ fun b d hf => by
  refine Evs.of fun n m => ?_
  cases b <;> simp [↓bindC_eq, ↓withV_of, ↓withP_some, ↓withB_some, ↓chkD_true, S34, kCut hf, madeS, A.fill, A.splice, A.fits, A.ofList]
theorem kMade {R : Type} {b : Bool} {d : Option (List UInt32)} (hf : few d) {H : Heap} {k : AV → Heap → Option R} : polK pMade [.bool b, eD d] H k = k (eN (madeS b d)) H := by
  simp [pMade, polK_imm, hf]
theorem qMade {R : Type} {b : Bool} {d : Option (List UInt32)} (hf : few d) {H : Heap} {k : AV → Heap → Option R} : polQ pMade [.bool b, eD d] H k = k (eN (madeS b d)) H := by
  simp [pMade, polQ_imm, hf]
def normS (a : Nm) : Nm := madeS a.1 a.2
noncomputable def pNorm : Pol := .still (p1 cN eN (fun a => few a.2) normS)
theorem okNorm : PolOK base 19 pNorm := still1 base_ok [(34, pMade)] ⟨okMade, trivial⟩ fun a hf => by
  refine Evs.of fun n m => ?_
  simp [↓bindC_eq, ↓withV_of, ↓chkD_true, S19, kMade hf, normS, A.splice, A.fits, A.ofList]
theorem kNorm {R : Type} {a : Nm} (hf : few a.2) {H : Heap} {k : AV → Heap → Option R} : polK pNorm [eN a] H k = k (eN (normS a)) H := by
  simp [pNorm, polK_imm, hf]
theorem qNorm {R : Type} {a : Nm} (hf : few a.2) {H : Heap} {k : AV → Heap → Option R} : polQ pNorm [eN a] H k = k (eN (normS a)) H := by
  simp [pNorm, polQ_imm, hf]
/-! ### which is less -/
noncomputable def pNan : Pol := .still (p1 (cI .i64) .bool (fun _ => True) fun _ => false)
theorem okNan : PolOK base 80 pNan := still1 base_ok [] trivial fun a _ => Evs.of fun n m => by simp [↓withV_of, S80]
noncomputable def pNan32 : Pol := .still (p1 cU32 .bool (fun _ => True) fun _ => false)
theorem okNan32 : PolOK base 81 pNan32 := still1 base_ok [] trivial fun a _ => Evs.of fun n m => by simp [↓withV_of, S81]
noncomputable def pCmp : Pol := .still (p2 (cI .i64) (cI .i64) (.int .i64) (fun _ _ => True) cmpI)
theorem okCmp : PolOK base 62 pCmp := still2 base_ok [(80, pNan)] ⟨okNan, trivial⟩ fun a b _ => Evs.of fun n m => by
  have h : ∀ (R : Type) (x : Int) (H : Heap) (k : AV → Heap → Option R), polK pNan [.int .i64 x] H k = k (.bool false) H := fun R x H k => by simp [pNan, polK_imm]
  simp [↓test_bool, ↓withV_of, S62, h, cmpI]
  split <;> (try split) <;> simp
theorem kCmp {R : Type} {a b : Int} {H : Heap} {k : AV → Heap → Option R} : polK pCmp [.int .i64 a, .int .i64 b] H k = k (.int .i64 (cmpI a b)) H := by
  simp [pCmp, polK_imm]
theorem qCmp {R : Type} {a b : Int} {H : Heap} {k : AV → Heap → Option R} : polQ pCmp [.int .i64 a, .int .i64 b] H k = k (.int .i64 (cmpI a b)) H := by
  simp [pCmp, polQ_imm]
noncomputable def pCmp32 : Pol := .still (p2 cU32 cU32 (.int .i64) (fun _ _ => True) fun x y => cmpI x.toNat y.toNat)
theorem okCmp32 : PolOK base 63 pCmp32 := still2 base_ok [(81, pNan32)] ⟨okNan32, trivial⟩ fun a b _ => Evs.of fun n m => by
  have h : ∀ (R : Type) (x : UInt32) (H : Heap) (k : AV → Heap → Option R), polK pNan32 [eu x] H k = k (.bool false) H := fun R x H k => by simp [pNan32, polK_imm]
  simp [↓test_bool, ↓withV_of, S63, h, cmpI]
  split <;> (try split) <;> simp
theorem kCmp32 {R : Type} {a b : UInt32} {H : Heap} {k : AV → Heap → Option R} : polK pCmp32 [eu a, eu b] H k = k (.int .i64 (cmpI a.toNat b.toNat)) H := by
  simp [pCmp32, polK_imm]
theorem qCmp32 {R : Type} {a b : UInt32} {H : Heap} {k : AV → Heap → Option R} : polQ pCmp32 [eu a, eu b] H k = k (.int .i64 (cmpI a.toNat b.toNat)) H := by
  simp [pCmp32, polQ_imm]
def sizeS (a b : Option (List UInt32)) : Int := if (a.getD []).length ≠ (b.getD []).length then cmpI (a.getD []).length (b.getD []).length else cmpN (val (a.getD [])) (val (b.getD []))
noncomputable def pSize : Pol := .still (p2 cD cD (.int .i64) (fun a b => few a ∧ few b) sizeS)
noncomputable abbrev TSize : List (FuncId × Pol) := [(62, pCmp), (63, pCmp32)]
theorem size_loop {a b : Option (List UInt32)} (hab : (a.getD []).length = (b.getD []).length) (hf : (a.getD []).length ≤ 1000000) (H : Heap) : ∀ i, i ≤ (a.getD []).length →
    LDoes (L44_0 (polT TSize)) ⟨[eD a, eD b, .int .i64 ((i : Int) - 1)], []⟩ H (if cmpN (val ((a.getD []).take i)) (val ((b.getD []).take i)) = 0 then 0 else 1) ⟨[if cmpN (val ((a.getD []).take i)) (val ((b.getD []).take i)) = 0 then .undef else .int .i64 (cmpN (val ((a.getD []).take i)) (val ((b.getD []).take i)))], []⟩ H := by
  intro i
  induction i with
  | zero =>
    intro _
    refine LDoes.step (Evs.of fun n m => ?_)
    have : cmpN (val []) (val []) = 0 := cmpI_self _
    simp [↓test_bool, ↓withV_of, L44_0_step, this]
  | succ i ih =>
    intro hi
    have hx := idx_eD (d := a) (H := H) (k := .i64) (i := i) (by omega)
    have hy := idx_eD (d := b) (H := H) (k := .i64) (i := i) (by omega)
    rw [cmp_top (by omega) (by omega)]
    have e : ((i + 1 : Nat) : Int) - 1 = i := by omega
    rw [e]
    have hp : (0 : Int) ≤ i := by omega
    by_cases h0 : (a.getD [])[i] = (b.getD [])[i]
    · rw [if_pos h0]
      refine LDoes.step (Evs.withL (ih (by omega)) (Evs.of fun n m h1 h2 => ?_))
      simp (disch := omega) [↓test_bool, ↓withV_of, L44_0_step, hx, hy, h0, hp, wrap_i64, h2]
    · rw [if_neg h0]
      have h0' : ¬ (((a.getD [])[i]).toNat : Int) = ((b.getD [])[i]).toNat := fun e => h0 (UInt32.toNat_inj.1 (by omega))
      have h1 : ¬ cmpI ((a.getD [])[i]).toNat ((b.getD [])[i]).toNat = 0 := fun e => h0' (cmpI_eq.1 e)
      refine LDoes.step (Evs.of fun n m => ?_)
      simp (disch := omega) [↓test_bool, ↓withV_of, L44_0_step, hx, hy, h0', hp, qCmp32, h1]
theorem okSize : PolOK base 44 pSize := still2 base_ok TSize ⟨okCmp, okCmp32, trivial⟩ fun a b ⟨ha, hb⟩ => by
  unfold few at ha hb
  by_cases hl : (a.getD []).length = (b.getD []).length
  · refine Evs.withL (size_loop hl ha [] _ (Nat.le_refl _)) (Evs.of fun n m h1 _ => ?_)
    rw [List.take_length, hl, List.take_length] at h1
    have e : sizeS a b = cmpN (val (a.getD [])) (val (b.getD [])) := by unfold sizeS; rw [if_neg (by simp [hl])]
    rw [e]
    by_cases h0 : cmpN (val (a.getD [])) (val (b.getD [])) = 0
    · simp only [h0, if_true] at h1
      simp (disch := omega) [↓test_bool, ↓bindV_eq, ↓withV_of, ↓bindX_some, S44, hl, wrap_i64, h1, h0]
    · simp only [h0, if_false] at h1
      simp (disch := omega) [↓test_bool, ↓bindV_eq, ↓withV_of, ↓bindX_some, S44, hl, wrap_i64, h1]
  · refine Evs.of fun n m => ?_
    have hl' : ¬ ((a.getD []).length : Int) = (b.getD []).length := by omega
    simp [↓test_bool, ↓withV_of, S44, sizeS, hl, hl', kCmp]
theorem kSize {R : Type} {a b : Option (List UInt32)} (ha : few a) (hb : few b) {H : Heap} {k : AV → Heap → Option R} : polK pSize [eD a, eD b] H k = k (.int .i64 (sizeS a b)) H := by
  simp [pSize, polK_imm, ha, hb]
theorem qSize {R : Type} {a b : Option (List UInt32)} (ha : few a) (hb : few b) {H : Heap} {k : AV → Heap → Option R} : polQ pSize [eD a, eD b] H k = k (.int .i64 (sizeS a b)) H := by
  simp [pSize, polQ_imm, ha, hb]
def compareS (a b : Nm) : Int :=
  let a := normS a
  let b := normS b
  if a.1 ≠ b.1 then (if a.1 then -1 else 1) else if a.1 then sizeS b.2 a.2 else sizeS a.2 b.2
noncomputable def pCompare : Pol := .still (p2 cN cN (.int .i64) (fun a b => few a.2 ∧ few b.2) compareS)
theorem okCompare : PolOK base 22 pCompare := still2 base_ok [(19, pNorm), (44, pSize)] ⟨okNorm, okSize, trivial⟩ fun a b ⟨ha, hb⟩ => by
  refine Evs.of fun n m => ?_
  have h1 : Go.Den.Box [.row 0 2 26 [eN a]] 0 2 26 [.bool a.1, eD a.2] := rfl
  have h2 : Go.Den.Box [.row 0 2 26 [eN (normS a)]] 0 2 26 [.bool (normS a).1, eD (normS a).2] := rfl
  have hs := box_store (ds := [.bool (normS a).1, eD (normS a).2]) h1 rfl rfl (by simp)
  have fa : few (normS a).2 := few_cut ha
  have fb : few (normS b).2 := few_cut hb
  unfold compareS
  generalize hna : normS a = x at *
  generalize hnb : normS b = y at *
  obtain ⟨p, d⟩ := x
  obtain ⟨q, e⟩ := y
  simp only [List.set_cons_zero] at hs
  cases p <;> cases q <;> simp [↓test_bool, ↓bindV_eq, ↓bindC_eq, ↓bindH_eq, ↓withV_of, ↓withP_some, ↓withH_some, ↓withB_some, ↓chkD_true, S22, box_load h1, qNorm ha, qNorm hb, hna, hnb, hs, A.ofList, A.fits, h2.fa, h2.load, A.splice, A.bin_bne ty_bool, kSize fa fb, kSize fb fa]
theorem kCompare {R : Type} {a b : Nm} (ha : few a.2) (hb : few b.2) {H : Heap} {k : AV → Heap → Option R} : polK pCompare [eN a, eN b] H k = k (.int .i64 (compareS a b)) H := by
  simp [pCompare, polK_imm, ha, hb]
theorem qCompare {R : Type} {a b : Nm} (ha : few a.2) (hb : few b.2) {H : Heap} {k : AV → Heap → Option R} : polQ pCompare [eN a, eN b] H k = k (.int .i64 (compareS a b)) H := by
  simp [pCompare, polQ_imm, ha, hb]
end Go.Proofs.YtikkpecdkdgmfaaDoor

/- Numbers of any size: sums, differences, products. -/
set_option maxRecDepth 100000
namespace Go.Proofs.YtikkpecdkdgmfaaDoor
open Go Go.Den
/-! ### sums -/
def plusN (a b : Option (List UInt32)) : Nat := val (a.getD []) + val (b.getD [])
def plusM (a b : Option (List UInt32)) : Nat := max (a.getD []).length (b.getD []).length
def plusK (a b : Option (List UInt32)) : Nat := if plusN a b < 4294967296 ^ plusM a b then plusM a b else plusM a b + 1
def plusS (a b : Option (List UInt32)) : Option (List UInt32) := nz (digs (plusK a b) (plusN a b))
def at_ (l : List UInt32) (i : Nat) : Nat := if h : i < l.length then (l[i]).toNat else 0
theorem at_lt (l : List UInt32) (i : Nat) : at_ l i < 4294967296 := by
  unfold at_
  split
  · exact limb_lt _
  · omega
theorem val_at (l : List UInt32) (i : Nat) : val (l.take (i + 1)) = val (l.take i) + 4294967296 ^ i * at_ l i := by
  unfold at_
  split
  · rename_i h; exact val_take_succ h
  · rename_i h
    rw [List.take_of_length_le (by omega), List.take_of_length_le (by omega)]
    simp
def plusT (a b : Option (List UInt32)) (i : Nat) : Nat := val ((a.getD []).take i) + val ((b.getD []).take i)
theorem plusT_succ (a b : Option (List UInt32)) (i : Nat) : plusT a b (i + 1) / 4294967296 ^ i = plusT a b i / 4294967296 ^ i + at_ (a.getD []) i + at_ (b.getD []) i := by
  unfold plusT
  rw [val_at, val_at]
  have e : val ((a.getD []).take i) + 4294967296 ^ i * at_ (a.getD []) i + (val ((b.getD []).take i) + 4294967296 ^ i * at_ (b.getD []) i) = val ((a.getD []).take i) + val ((b.getD []).take i) + 4294967296 ^ i * (at_ (a.getD []) i + at_ (b.getD []) i) := by grind
  rw [e, Nat.add_mul_div_left _ _ (Nat.pow_pos (by omega))]
  omega
theorem plusT_digs (a b : Option (List UInt32)) (i : Nat) : digs (i + 1) (plusT a b (i + 1)) = digs i (plusT a b i) ++ [UInt32.ofNat (plusT a b i / 4294967296 ^ i + at_ (a.getD []) i + at_ (b.getD []) i)] := by
  rw [digs_append, plusT_succ]
  congr 1
  unfold plusT
  rw [val_at, val_at]
  have e : val ((a.getD []).take i) + 4294967296 ^ i * at_ (a.getD []) i + (val ((b.getD []).take i) + 4294967296 ^ i * at_ (b.getD []) i) = val ((a.getD []).take i) + val ((b.getD []).take i) + 4294967296 ^ i * (at_ (a.getD []) i + at_ (b.getD []) i) := by grind
  rw [e, digs_add]
theorem plusT_carry (a b : Option (List UInt32)) (i : Nat) : plusT a b i / 4294967296 ^ i ≤ 1 := by
  have h1 := val_take_lt (a.getD []) i
  have h2 := val_take_lt (b.getD []) i
  have : plusT a b i / 4294967296 ^ i < 2 := Nat.div_lt_of_lt_mul (by unfold plusT; omega)
  omega
theorem plusT_end {a b : Option (List UInt32)} {i : Nat} (h : plusM a b ≤ i) : plusT a b i = plusN a b := by
  unfold plusT plusN
  unfold plusM at h
  rw [List.take_of_length_le (by omega), List.take_of_length_le (by omega)]
theorem plus_goes {a b : Option (List UInt32)} {i : Nat} (h : i < plusK a b) : i < plusM a b ∨ 0 < plusT a b i / 4294967296 ^ i := by
  unfold plusK at h
  split at h
  · exact .inl h
  · rename_i h2
    rcases Nat.lt_or_ge i (plusM a b) with h3 | h3
    · exact .inl h3
    · right
      have : i = plusM a b := by omega
      subst this
      rw [plusT_end (Nat.le_refl _)]
      exact Nat.div_pos (by omega) (Nat.pow_pos (by omega))
theorem plus_ends {a b : Option (List UInt32)} : ¬ (plusK a b < plusM a b) ∧ plusT a b (plusK a b) / 4294967296 ^ plusK a b = 0 := by
  unfold plusK
  split
  · rename_i h
    rw [plusT_end (Nat.le_refl _)]
    exact ⟨by omega, Nat.div_eq_of_lt h⟩
  · rw [plusT_end (by omega)]
    refine ⟨by omega, Nat.div_eq_of_lt ?_⟩
    have h1 := val_take_lt (a.getD []) (plusM a b)
    have h2 := val_take_lt (b.getD []) (plusM a b)
    rw [List.take_of_length_le (by unfold plusM; omega)] at h1 h2
    have e : plusN a b = val (a.getD []) + val (b.getD []) := rfl
    rw [e, Nat.pow_succ]
    omega
theorem at_idx {d : Option (List UInt32)} {i : Nat} (h : i < (d.getD []).length) (H : Heap) : A.idx 1 (eD d) (.int .i64 (i : Int)) H = some (.rop [.int .u32 (at_ (d.getD []) i : Nat)]) := by
  rw [idx_eD h]
  simp [at_, h]
theorem at_out {l : List UInt32} {i : Nat} (h : ¬ i < l.length) : at_ l i = 0 := by unfold at_; rw [dif_neg h]
theorem plus_loop {pol : FuncId → Pol} {a b : Option (List UInt32)} (ha : few a) (hb : few b) : ∀ (k i : Nat) (H : Heap) (out : AV), k + i = plusK a b → Out eu 1 64 H out (digs i (plusT a b i)) →
    ∃ H' out', LDoes (L46_0 pol) ⟨[eD a, eD b, out, .int .u64 ((plusT a b i / 4294967296 ^ i : Nat) : Int), .int .i64 i], []⟩ H 0 ⟨[out'], []⟩ H' ∧ Out eu 1 64 H' out' (digs (plusK a b) (plusN a b)) := by
  unfold few at ha hb
  have hM : plusM a b ≤ 1000000 := by unfold plusM; omega
  intro k
  induction k with
  | zero =>
    intro i H out hi ho
    have : i = plusK a b := by omega
    subst this
    obtain ⟨e1, e2⟩ := plus_ends (a := a) (b := b)
    have e3 : plusT a b (plusK a b) = plusN a b := plusT_end (by omega)
    refine ⟨H, out, LDoes.step (Evs.of fun n m => ?_), e3 ▸ ho⟩
    rw [e2]
    have hA : ¬ plusK a b < (a.getD []).length := by unfold plusM at e1; omega
    have hB : ¬ plusK a b < (b.getD []).length := by unfold plusM at e1; omega
    generalize plusK a b = K at *
    by_cases hc : (a.getD []).length < (b.getD []).length <;> simp [↓test_bool, ↓withV_of, ↓withP_some, ↓withB_some, L46_0_step, hc, hA, hB]
  | succ k ih =>
    intro i H out hi ho
    have hg := plus_goes (a := a) (b := b) (i := i) (by omega)
    have hK : plusK a b ≤ 1000001 := by unfold plusK; split <;> omega
    have hc := plusT_carry a b i
    have hx := at_lt (a.getD []) i
    have hy := at_lt (b.getD []) i
    generalize hC : plusT a b i / 4294967296 ^ i = C at *
    have hdig := plusT_digs a b i
    have hsuc := plusT_succ a b i
    rw [hC] at hdig hsuc
    have hcar : plusT a b (i + 1) / 4294967296 ^ (i + 1) = (C + at_ (a.getD []) i + at_ (b.getD []) i) / 4294967296 := by
      rw [Nat.pow_succ, ← Nat.div_div_eq_div_mul, hsuc]
    obtain ⟨v', H1, hap, hO⟩ := ho.push (x := UInt32.ofNat (C + at_ (a.getD []) i + at_ (b.getD []) i)) (bytes := 4) (by omega) (by rw [digs_length]; omega)
    rw [← hdig] at hO
    have hnum : ((C : Int) + at_ (a.getD []) i + at_ (b.getD []) i) = ((C + at_ (a.getD []) i + at_ (b.getD []) i : Nat) : Int) := by push_cast; rfl
    have hw : IntKind.wrap .u32 ((C : Int) + at_ (a.getD []) i + at_ (b.getD []) i) = ((UInt32.ofNat (C + at_ (a.getD []) i + at_ (b.getD []) i)).toNat : Nat) := by
      rw [← wrap_nat32]; push_cast; rfl
    generalize UInt32.ofNat (C + at_ (a.getD []) i + at_ (b.getD []) i) = dig at hap hw
    obtain ⟨H', out', hL, hO'⟩ := ih (i + 1) H1 v' (by omega) hO
    refine ⟨H', out', LDoes.step (Evs.withL hL (Evs.of fun n m _ h2 => ?_)), hO'⟩
    rw [hcar] at h2
    have hdiv : (((C + at_ (a.getD []) i + at_ (b.getD []) i) / 4294967296 : Nat) : Int) = ((C : Int) + at_ (a.getD []) i + at_ (b.getD []) i) / 4294967296 := by omega
    simp only [hdiv, Int.natCast_add, Int.natCast_one] at h2
    have hs : ∀ H, A.bin base.P .shr 63 (.int .u64 ((C : Int) + at_ (a.getD []) i + at_ (b.getD []) i)) (.int .u64 32) true H = some (.int .u64 (((C + at_ (a.getD []) i + at_ (b.getD []) i) / 4294967296 : Nat) : Int)) := fun H => by
      have := shr_u64 (P := base.P) (t := 63) (c := true) (H := H) (a := C + at_ (a.getD []) i + at_ (b.getD []) i) (s := 32) (j := .u64) (by omega)
      rw [hnum]
      exact this
    have hone := fillElems_one (eu dig) (.int .u32 0) rfl rfl
    have hread := tmp_read (H := H) (sz := 1) (ty := 64) (x := eu dig)
    have hi1 : IntKind.wrap .i64 ((i : Int) + 1) = (i : Int) + 1 := wrap_i64 (by omega) (by omega)
    by_cases hA : i < (a.getD []).length
    · have hax := at_idx (d := a) hA H
      have hlt : (i : Int) < (if (a.getD []).length < (b.getD []).length then ((b.getD []).length : Int) else (a.getD []).length) := by split <;> omega
      by_cases hB : i < (b.getD []).length
      · have hbx := at_idx (d := b) hB H
        simp (disch := omega) [↓test_bool, ↓bindV_eq, ↓bindH_eq, ↓withV_of, ↓withP_some, ↓withL_some, ↓withVH_some, ↓withB_some, ↓bindX_some, L46_0_step, hlt, hA, hB, hax, hbx, cv_32_64, cv_64_32, wrap_u64, hw, hs, hone, newsZ_sl ty_limbs, hread, hap, hi1, h2]
      · simp only [at_out hB, Int.natCast_zero, Int.add_zero, Nat.add_zero] at hw hs h2 hap hone hread
        simp (disch := omega) [↓test_bool, ↓bindV_eq, ↓bindH_eq, ↓withV_of, ↓withP_some, ↓withL_some, ↓withVH_some, ↓withB_some, ↓bindX_some, L46_0_step, hlt, hA, hB, hax, cv_32_64, cv_64_32, wrap_u64, hw, hs, hone, newsZ_sl ty_limbs, hread, hap, hi1, h2]
    · simp only [at_out hA, Int.natCast_zero, Int.add_zero, Nat.add_zero] at hw hs h2 hap hone hread
      by_cases hB : i < (b.getD []).length
      · have hbx := at_idx (d := b) hB H
        have hlt : (i : Int) < (if (a.getD []).length < (b.getD []).length then ((b.getD []).length : Int) else (a.getD []).length) := by split <;> omega
        simp (disch := omega) [↓test_bool, ↓bindV_eq, ↓bindH_eq, ↓withV_of, ↓withP_some, ↓withL_some, ↓withVH_some, ↓withB_some, ↓bindX_some, L46_0_step, hlt, hA, hB, hbx, cv_32_64, cv_64_32, wrap_u64, hw, hs, hone, newsZ_sl ty_limbs, hread, hap, hi1, h2]
      · simp only [at_out hB, Int.natCast_zero, Int.add_zero, Nat.add_zero] at hw hs h2 hap hone hread
        have hlt : ¬ (i : Int) < (if (a.getD []).length < (b.getD []).length then ((b.getD []).length : Int) else (a.getD []).length) := by split <;> omega
        have hp : 0 < C := by
          rcases hg with h | h
          · unfold plusM at h; omega
          · omega
        simp (disch := omega) [↓test_bool, ↓bindV_eq, ↓bindH_eq, ↓withV_of, ↓withP_some, ↓withL_some, ↓withVH_some, ↓withB_some, ↓bindX_some, L46_0_step, hlt, hA, hB, hp, cv_64_32, hw, hs, hone, newsZ_sl ty_limbs, hread, hap, hi1, h2]
noncomputable def pPlus : Pol := .still (p2 cD cD eD (fun a b => few a ∧ few b) plusS)
theorem flat_eu (x : UInt32) : (eu x).flat0 = true ∧ (eu x).isDef = true := ⟨rfl, rfl⟩
theorem okPlus : PolOK base 46 pPlus := still2 base_ok [] trivial fun a b ⟨ha, hb⟩ => by
  obtain ⟨H', out', hL, hO⟩ := plus_loop (pol := polT []) ha hb (plusK a b) 0 [] .nils (by omega) .nil
  refine Evs.withL hL (Evs.of fun n m h1 _ => ?_)
  have e0 : plusT a b 0 / 4294967296 ^ 0 = 0 := by simp [plusT, val]
  rw [e0] at h1
  simp only [Int.natCast_zero] at h1
  simp [↓bindV_eq, ↓bindX_some, S46, h1, hO.frz flat_eu, plusS]
theorem kPlus {R : Type} {a b : Option (List UInt32)} (ha : few a) (hb : few b) {H : Heap} {k : AV → Heap → Option R} : polK pPlus [eD a, eD b] H k = k (eD (plusS a b)) H := by
  simp [pPlus, polK_imm, ha, hb]
theorem qPlus {R : Type} {a b : Option (List UInt32)} (ha : few a) (hb : few b) {H : Heap} {k : AV → Heap → Option R} : polQ pPlus [eD a, eD b] H k = k (eD (plusS a b)) H := by
  simp [pPlus, polQ_imm, ha, hb]
theorem plusS_len {a b : Option (List UInt32)} : ((plusS a b).getD []).length ≤ plusM a b + 1 := by
  unfold plusS
  rw [nz_get, digs_length]
  unfold plusK
  split <;> omega
theorem plusS_val {a b : Option (List UInt32)} : val ((plusS a b).getD []) = val (a.getD []) + val (b.getD []) := by
  unfold plusS
  rw [nz_get, val_digs_lt]
  · rfl
  have h := (plus_ends (a := a) (b := b)).2
  rw [plusT_end (by have := (plus_ends (a := a) (b := b)).1; omega)] at h
  exact (Nat.div_eq_zero_iff.1 h).resolve_left (by have : 0 < 4294967296 ^ plusK a b := Nat.pow_pos (by omega); omega)
/-! ### differences -/
def cloneRow (l : List UInt32) (H : Heap) : AV × Heap := match l with
  | [] => (.sl H.length 0 0 0 0, H ++ [.row 0 1 64 []])
  | x :: l => (.sl H.length 1 0 (x :: l).length (x :: l).length, H ++ [.row 1 1 64 ((x :: l).map eu)])
noncomputable def pCloneH : Pol := .prim fun xs H => match xs with
  | [v] => (cD.dec v).bind fun d => open Classical in if few d then (match d with | none => some (.nils, H) | some l => some (cloneRow l H)) else none
  | _ => none
theorem okCloneH : PolOK base 54 pCloneH := heap_of base_ok [] trivial fun xs H v H' h => by
  split at h
  · rename_i w
    simp only [Option.bind_eq_some_iff] at h
    obtain ⟨d, h1, h⟩ := h
    rw [Cd.dec_some h1]
    split at h
    · rename_i hf
      unfold few at hf
      refine Evs.of fun n _ => ?_
      cases d with
      | none =>
        cases h
        simp [↓test_bool, ↓bindV_eq, ↓bindH_eq, ↓withV_of, S54, eL, A.bin, ty_limbs, A.eqNil]
      | some l =>
        simp only [Option.getD_some] at hf
        simp only [Option.some.injEq] at h
        have hr : (H ++ [.row 0 1 64 ([] : List AV)])[H.length]? = some (.row 0 1 64 []) := row_push
        cases l with
        | nil =>
          have h2 := row_append_nil (n := 0) (bytes := 4) hr rfl (by omega) (by simp)
          simp [cloneRow] at h
          obtain ⟨rfl, rfl⟩ := h
          simp [↓test_bool, ↓bindV_eq, ↓bindH_eq, ↓withV_of, ↓withL_some, ↓withVH_some, S54, eL, A.bin, ty_limbs, A.eqNil, A.fillElems, newsZ_sl ty_limbs, A.read, h2]
        | cons x l =>
          have h2 := row_append (n := 0) (bytes := 4) (news := (x :: l).map eu) hr rfl (by simp) (by omega) (by simp at hf ⊢; omega)
          simp [cloneRow] at h
          obtain ⟨rfl, rfl⟩ := h
          simp at h2
          simp [↓test_bool, ↓bindV_eq, ↓bindH_eq, ↓withV_of, ↓withL_some, ↓withVH_some, S54, eL, A.bin, ty_limbs, A.eqNil, A.fillElems, newsZ_sl ty_limbs, A.read, h2]
    · cases h
  · cases h
theorem kCloneH {R : Type} {d : Option (List UInt32)} {H : Heap} {k : AV → Heap → Option R} (hf : few d) : polK pCloneH [eD d] H k = (match d with | none => k .nils H | some l => k (cloneRow l H).1 (cloneRow l H).2) := by
  show withP _ k = _
  simp only [dec_cD, Option.bind_some]
  rw [if_pos hf]
  cases d <;> rfl
theorem kCloneH0 {R : Type} {H : Heap} {k : AV → Heap → Option R} : polK pCloneH [.nils] H k = k .nils H := kCloneH (d := none) (by simp [few])
theorem at_set {o : List UInt32} {i : Nat} (h : i < o.length) (d : UInt32) : at_ (o.set i d) i = d.toNat := by simp [at_, h]
end Go.Proofs.YtikkpecdkdgmfaaDoor

/- Numbers of any size: differences, sums with signs, whole numbers. -/
set_option maxRecDepth 100000
namespace Go.Proofs.YtikkpecdkdgmfaaDoor
open Go Go.Den
def lessS (a b : Option (List UInt32)) : Option (List UInt32) := a.map fun l => digs l.length (val l - val (b.getD []))
theorem less_step {l o : List UInt32} {b : Option (List UInt32)} {i br : Nat} (hi : i < l.length) (ho : o.length = l.length) (hd : o.drop i = l.drop i) (hbr : br ≤ 1)
    (hv : val (o.take i) + val ((b.getD []).take i) = val (l.take i) + br * 4294967296 ^ i) :
    ∃ br' : Nat, ∃ z : Nat, br' = (if (l[i]).toNat < br + at_ (b.getD []) i then 1 else 0) ∧ z = (l[i]).toNat + br' * 4294967296 - (br + at_ (b.getD []) i) ∧ br + at_ (b.getD []) i ≤ (l[i]).toNat + br' * 4294967296 ∧ br' ≤ 1 ∧ z < 4294967296 ∧
      (o.set i (UInt32.ofNat z)).length = l.length ∧ (o.set i (UInt32.ofNat z)).drop (i + 1) = l.drop (i + 1) ∧
      val ((o.set i (UInt32.ofNat z)).take (i + 1)) + val ((b.getD []).take (i + 1)) = val (l.take (i + 1)) + br' * 4294967296 ^ (i + 1) := by
  have h1 := at_lt (b.getD []) i
  have h2 := limb_lt l[i]
  refine ⟨if (l[i]).toNat < br + at_ (b.getD []) i then 1 else 0, _, rfl, rfl, ?_, ?_, ?_, by simp [ho], ?_, ?_⟩
  · split <;> omega
  · split <;> omega
  · split <;> omega
  · rw [List.drop_set_of_lt (by omega)]
    have : o.drop (i + 1) = (o.drop i).drop 1 := by rw [List.drop_drop]
    rw [this, hd, List.drop_drop]
  · have hio : i < o.length := by omega
    rw [val_at, val_at (b.getD []), val_at l]
    have hzl : (l[i]).toNat + (if (l[i]).toNat < br + at_ (b.getD []) i then 1 else 0) * 4294967296 - (br + at_ (b.getD []) i) < 4294967296 := by split <;> omega
    have hze : (l[i]).toNat + (if (l[i]).toNat < br + at_ (b.getD []) i then 1 else 0) * 4294967296 - (br + at_ (b.getD []) i) + (br + at_ (b.getD []) i) = (l[i]).toNat + (if (l[i]).toNat < br + at_ (b.getD []) i then 1 else 0) * 4294967296 := by split <;> omega
    generalize (l[i]).toNat + (if (l[i]).toNat < br + at_ (b.getD []) i then 1 else 0) * 4294967296 - (br + at_ (b.getD []) i) = z at hzl hze ⊢
    generalize (if (l[i]).toNat < br + at_ (b.getD []) i then 1 else 0) = br' at hze ⊢
    have e2 : at_ l i = (l[i]).toNat := by simp [at_, hi]
    rw [List.take_set_of_le (by omega), at_set hio, limb_of, Nat.mod_eq_of_lt hzl, e2, Nat.pow_succ]
    generalize at_ (b.getD []) i = y at *
    generalize (l[i]).toNat = x at *
    generalize val (o.take i) = p at *
    generalize val ((b.getD []).take i) = q at *
    generalize val (l.take i) = r at *
    generalize 4294967296 ^ i = w at *
    clear hzl h1 h2
    generalize 4294967296 = B at *
    grind
theorem less_loop {pol : FuncId → Pol} {b : Option (List UInt32)} {l : List UInt32} {id ver : Nat} (hf : l.length ≤ 1000000) : ∀ (k i br : Nat) (o : List UInt32) (H : Heap), k + i = l.length → o.length = l.length → o.drop i = l.drop i → br ≤ 1 →
    val (o.take i) + val ((b.getD []).take i) = val (l.take i) + br * 4294967296 ^ i → H[id]? = some (.row ver 1 64 (o.map eu)) →
    ∃ H' o' br', LDoes (L47_0 pol) ⟨[eD b, .sl id ver 0 l.length l.length, .int .u64 (br : Nat), .int .i64 (l.length : Nat), .int .i64 (i : Nat)], []⟩ H 0 ⟨[.sl id ver 0 l.length l.length], []⟩ H' ∧ H'[id]? = some (.row ver 1 64 (o'.map eu)) ∧
      o'.length = l.length ∧ br' ≤ 1 ∧ val o' + val ((b.getD []).take l.length) = val l + br' * 4294967296 ^ l.length := by
  intro k
  induction k with
  | zero =>
    intro i br o H hi ho hd hbr hv hH
    have : i = l.length := by omega
    subst this
    rw [List.take_of_length_le (by omega), List.take_length] at hv
    refine ⟨H, o, br, LDoes.step (Evs.of fun n m => ?_), hH, ho, hbr, hv⟩
    simp [↓test_bool, ↓withV_of, L47_0_step]
  | succ k ih =>
    intro i br o H hi ho hd hbr hv hH
    have hil : i < l.length := by omega
    obtain ⟨br', z, hb1, hz, hle, hb2, hzl, s1, s2, s3⟩ := less_step hil ho hd hbr hv
    have hoi : o[i]'(by omega) = l[i] := by
      have h1 := List.drop_eq_getElem_cons (l := o) (i := i) (by omega)
      have h2 := List.drop_eq_getElem_cons hil
      rw [hd, h2] at h1
      exact (List.cons.inj h1).1.symm
    obtain ⟨r1, r2, r3⟩ := lrow (k := .i64) (n := l.length) (j := i) (i := (i : Int)) hH ho.symm (by omega) rfl
    rw [hoi] at r2
    obtain ⟨H', o', br2, hL, q1, q2, q3, q4⟩ := ih (i + 1) br' (o.set i (UInt32.ofNat z)) _ (by omega) s1 s2 hb2 s3 (row_set hH)
    refine ⟨H', o', br2, LDoes.step (Evs.withL hL (Evs.of fun n m _ h2 => ?_)), q1, q2, q3, q4⟩
    simp only [Int.natCast_add, Int.natCast_one, List.map_set] at h2
    have hlt : (i : Int) < (l.length : Nat) := by omega
    have hat := at_lt (b.getD []) i
    have hx := limb_lt l[i]
    have hst := r3 (UInt32.ofNat z)
    have hzz : ((UInt32.ofNat z).toNat : Int) = z := by rw [limb_of, Nat.mod_eq_of_lt hzl]
    simp only [eu, hzz] at hst
    have hi1 : IntKind.wrap .i64 ((i : Int) + 1) = (i : Int) + 1 := wrap_i64 (by omega) (by omega)
    by_cases hc : (l[i]).toNat < br + at_ (b.getD []) i
    · rw [if_pos hc] at hb1
      subst hb1
      simp only [Int.cast_ofNat_Int] at h2
      have hw : IntKind.wrap .u64 (((l[i]).toNat : Int) + 4294967296 - ((br : Int) + at_ (b.getD []) i)) = (z : Nat) := by rw [wrap_u64 (by omega) (by omega)]; omega
      have hw2 : IntKind.wrap .u32 (z : Int) = z := wrap_u32 (by omega) (by omega)
      have hc' : ((l[i]).toNat : Int) < (br : Int) + at_ (b.getD []) i := by omega
      by_cases hB : i < (b.getD []).length
      · have hbx := at_idx (d := b) hB H
        simp (disch := omega) [↓test_bool, ↓bindV_eq, ↓withV_of, ↓withH_some, ↓bindX_some, L47_0_step, hil, hB, hbx, cv_32_64, cv_64_32, wrap_u64, r1, r2, hc', hw, hw2, hst, hi1, h2]
      · simp only [at_out hB, Int.natCast_zero, Int.add_zero] at hw hc'
        simp (disch := omega) [↓test_bool, ↓bindV_eq, ↓withV_of, ↓withH_some, ↓bindX_some, L47_0_step, hil, hB, cv_32_64, cv_64_32, wrap_u64, r1, r2, hc', hw, hw2, hst, hi1, h2]
    · rw [if_neg hc] at hb1
      subst hb1
      simp only [Int.cast_ofNat_Int] at h2
      have hw : IntKind.wrap .u64 (((l[i]).toNat : Int) - ((br : Int) + at_ (b.getD []) i)) = (z : Nat) := by rw [wrap_u64 (by omega) (by omega)]; omega
      have hw2 : IntKind.wrap .u32 (z : Int) = z := wrap_u32 (by omega) (by omega)
      have hc' : ¬ ((l[i]).toNat : Int) < (br : Int) + at_ (b.getD []) i := by omega
      by_cases hB : i < (b.getD []).length
      · have hbx := at_idx (d := b) hB H
        simp (disch := omega) [↓test_bool, ↓bindV_eq, ↓withV_of, ↓withH_some, ↓bindX_some, L47_0_step, hil, hB, hbx, cv_32_64, cv_64_32, wrap_u64, r1, r2, hc', hw, hw2, hst, hi1, h2]
      · simp only [at_out hB, Int.natCast_zero, Int.add_zero] at hw hc'
        simp (disch := omega) [↓test_bool, ↓bindV_eq, ↓withV_of, ↓withH_some, ↓bindX_some, L47_0_step, hil, hB, cv_32_64, cv_64_32, wrap_u64, r1, r2, hc', hw, hw2, hst, hi1, h2]
noncomputable def pLess : Pol := .still (p2 cD cD eD (fun a b => few a ∧ few b ∧ val (b.getD []) ≤ val (a.getD []) ∧ (b.getD []).length ≤ (a.getD []).length) lessS)
theorem okLess : PolOK base 47 pLess := still2 base_ok [(54, pCloneH)] ⟨okCloneH, trivial⟩ fun a b ⟨ha, hb, hv, hl⟩ => by
  have ha' := ha
  unfold few at ha hb
  cases a with
  | none =>
    refine Evs.withL (LDoes.step (L := L47_0 (polT [(54, pCloneH)])) (l := ⟨[eD b, .nils, .int .u64 0, .int .i64 0, .int .i64 0], []⟩) (H := []) (i := 0) (l' := ⟨[.nils], []⟩) (H' := []) (Evs.of fun n m => by simp [↓test_bool, ↓withV_of, L47_0_step])) (Evs.of fun n m h1 _ => ?_)
    have hn : A.len .nils [] = some (.int .i64 0) := rfl
    simp [↓bindV_eq, ↓withV_of, ↓bindX_some, S47, kCloneH0, hn, h1, lessS, eL]
  | some l =>
    simp only [Option.getD_some] at ha hb hv hl
    have fin : ∀ (id ver : Nat) (H : Heap), H[id]? = some (.row ver 1 64 (l.map eu)) → ∃ H', LDoes (L47_0 (polT [(54, pCloneH)])) ⟨[eD b, .sl id ver 0 l.length l.length, .int .u64 0, .int .i64 (l.length : Nat), .int .i64 0], []⟩ H 0 ⟨[.sl id ver 0 l.length l.length], []⟩ H' ∧ H'[id]? = some (.row ver 1 64 ((digs l.length (val l - val (b.getD []))).map eu)) := fun id ver H hH => by
      obtain ⟨H', o', br', hL, q1, q2, q3, q4⟩ := less_loop (pol := polT [(54, pCloneH)]) (b := b) (id := id) (ver := ver) ha l.length 0 0 l H (by omega) rfl rfl (by omega) (by simp [val]) hH
      refine ⟨H', hL, ?_⟩
      rw [List.take_of_length_le hl] at q4
      have h1 := val_lt o'
      rw [q2] at h1
      have : br' = 0 := by
        rcases Nat.eq_zero_or_pos br' with h | h
        · exact h
        · have : br' = 1 := by omega
          subst this
          omega
      subst this
      have : o' = digs l.length (val l - val (b.getD [])) := eq_digs q2 (by omega)
      rw [← this]
      exact q1
    cases l with
    | nil =>
      obtain ⟨H', hL, hr⟩ := fin 0 0 [.row 0 1 64 []] rfl
      refine Evs.withL hL (Evs.of fun n m h1 _ => ?_)
      have hz := freeze_row (b := true) (m := 62) (n := 0) (cap := 0) hr rfl (by simp [digs])
      have hlen : A.len (.sl 0 0 0 0 0) [.row 0 1 64 []] = some (.int .i64 0) := rfl
      simp at h1
      simp [↓bindV_eq, ↓withV_of, ↓bindX_some, S47, kCloneH ha', cloneRow, hlen, h1]
      exact hz
    | cons x l =>
      obtain ⟨H', hL, hr⟩ := fin 0 1 [.row 1 1 64 ((x :: l).map eu)] rfl
      refine Evs.withL hL (Evs.of fun n m h1 _ => ?_)
      have hz := freeze_row (b := true) (m := 62) (n := (x :: l).length) (cap := (x :: l).length) hr (by rw [List.length_map, digs_length]) (flat_limbs _)
      have hlen : A.len (.sl 0 1 0 (x :: l).length (x :: l).length) [.row 1 1 64 ((x :: l).map eu)] = some (.int .i64 (x :: l).length) := rfl
      simp at h1 hlen
      simp [↓bindV_eq, ↓withV_of, ↓bindX_some, S47, kCloneH ha', cloneRow, hlen, h1]
      simp at hz
      rw [hz]
      simp [lessS, eL]
theorem kLess {R : Type} {a b : Option (List UInt32)} (ha : few a) (hb : few b) (hv : val (b.getD []) ≤ val (a.getD [])) (hl : (b.getD []).length ≤ (a.getD []).length) {H : Heap} {k : AV → Heap → Option R} : polK pLess [eD a, eD b] H k = k (eD (lessS a b)) H := by
  simp [pLess, polK_imm, ha, hb, hv, hl]
theorem qLess {R : Type} {a b : Option (List UInt32)} (ha : few a) (hb : few b) (hv : val (b.getD []) ≤ val (a.getD [])) (hl : (b.getD []).length ≤ (a.getD []).length) {H : Heap} {k : AV → Heap → Option R} : polQ pLess [eD a, eD b] H k = k (eD (lessS a b)) H := by
  simp [pLess, polQ_imm, ha, hb, hv, hl]
end Go.Proofs.YtikkpecdkdgmfaaDoor

/- Numbers of any size: sums with signs, whole numbers, numbers that fit into a word. -/
set_option maxRecDepth 100000
namespace Go.Proofs.YtikkpecdkdgmfaaDoor
open Go Go.Den
theorem lessS_len {a b : Option (List UInt32)} : ((lessS a b).getD []).length = (a.getD []).length := by
  unfold lessS
  cases a with
  | none => rfl
  | some l => simp [digs_length]
theorem lessS_val {a b : Option (List UInt32)} : val ((lessS a b).getD []) = val (a.getD []) - val (b.getD []) := by
  unfold lessS
  cases a with
  | none => simp [val]
  | some l =>
    simp only [Option.map_some, Option.getD_some]
    have := val_lt l
    exact val_digs_lt (by omega)
theorem cutS_get {d : Option (List UInt32)} : (cutS d).getD [] = lim (val (d.getD [])) := by
  cases d with
  | none => simp [cutS, val, lim_zero]
  | some l => rfl
theorem normS_get {a : Nm} : (normS a).2.getD [] = lim (val (a.2.getD [])) := cutS_get
theorem sizeS_lim {a b : Option (List UInt32)} {x y : Nat} (ha : a.getD [] = lim x) (hb : b.getD [] = lim y) : sizeS a b = cmpN x y := by
  unfold sizeS
  rw [ha, hb, val_lim, val_lim]
  split
  · rename_i h; exact (cmp_len h).symm
  · rfl
def addS (a b : Nm) : Nm :=
  let a := normS a
  let b := normS b
  if a.1 = b.1 then madeS a.1 (plusS a.2 b.2) else if 0 ≤ sizeS a.2 b.2 then madeS a.1 (lessS a.2 b.2) else madeS b.1 (lessS b.2 a.2)
def lot (d : Option (List UInt32)) : Prop := (d.getD []).length ≤ 900000
theorem lot.few {d : Option (List UInt32)} (h : lot d) : few d := by unfold lot at h; unfold Go.Den.few; omega
theorem lot_cut {d : Option (List UInt32)} (h : lot d) : lot (cutS d) := by
  unfold lot at h ⊢
  have := lim_len_le (d.getD [])
  rw [cutS_get]
  omega
noncomputable def pAdd : Pol := .still (p2 cN cN eN (fun a b => lot a.2 ∧ lot b.2) addS)
noncomputable abbrev TAdd : List (FuncId × Pol) := [(19, pNorm), (44, pSize), (46, pPlus), (47, pLess), (34, pMade)]
theorem okAdd : PolOK base 23 pAdd := still2 base_ok TAdd ⟨okNorm, okSize, okPlus, okLess, okMade, trivial⟩ fun a b ⟨ha, hb⟩ => by
  refine Evs.of fun n m => ?_
  have fa := ha.few
  have fb := hb.few
  have la : lot (normS a).2 := lot_cut ha
  have lb : lot (normS b).2 := lot_cut hb
  have ga : (normS a).2.getD [] = lim (val (a.2.getD [])) := normS_get
  have gb : (normS b).2.getD [] = lim (val (b.2.getD [])) := normS_get
  unfold addS
  generalize hna : normS a = x at *
  generalize hnb : normS b = y at *
  obtain ⟨p, d⟩ := x
  obtain ⟨q, e⟩ := y
  dsimp only at ga gb la lb
  have fp : few (plusS d e) := by
    have := plusS_len (a := d) (b := e)
    unfold lot at la lb
    unfold few plusM at *
    omega
  have fl1 : few (lessS d e) := by unfold few; rw [lessS_len]; unfold lot at la; omega
  have fl2 : few (lessS e d) := by unfold few; rw [lessS_len]; unfold lot at lb; omega
  have hsz := sizeS_lim ga gb
  by_cases hpq : p = q
  · subst hpq
    simp [↓test_bool, ↓bindC_eq, ↓withV_of, ↓chkD_true, S23, qNorm fa, qNorm fb, hna, hnb, A.ofList, A.fits, A.splice, A.bin_beq ty_bool, qPlus la.few lb.few, qMade fp]
  · have hb : (p == q) = false := by simpa using hpq
    by_cases hs : 0 ≤ sizeS d e
    · have hv : val (e.getD []) ≤ val (d.getD []) := by
        rw [hsz] at hs
        rw [ga, gb, val_lim, val_lim]
        unfold cmpN cmpI at hs
        split at hs <;> omega
      have hl : (e.getD []).length ≤ (d.getD []).length := by
        rw [ga, gb, val_lim, val_lim] at hv
        rw [ga, gb]
        exact lim_le.2 (Nat.lt_of_le_of_lt hv (lim_le.1 (Nat.le_refl _)))
      simp [↓test_bool, ↓bindC_eq, ↓withV_of, ↓chkD_true, S23, qNorm fa, qNorm fb, hna, hnb, A.ofList, A.fits, A.splice, A.bin_beq ty_bool, hb, hpq, kSize la.few lb.few, hs, qLess la.few lb.few hv hl, qMade fl1]
    · have hv : val (d.getD []) ≤ val (e.getD []) := by
        rw [hsz] at hs
        rw [ga, gb, val_lim, val_lim]
        unfold cmpN cmpI at hs
        split at hs <;> (try split at hs) <;> omega
      have hl : (d.getD []).length ≤ (e.getD []).length := by
        rw [ga, gb, val_lim, val_lim] at hv
        rw [ga, gb]
        exact lim_le.2 (Nat.lt_of_le_of_lt hv (lim_le.1 (Nat.le_refl _)))
      simp [↓test_bool, ↓bindC_eq, ↓withV_of, ↓chkD_true, S23, qNorm fa, qNorm fb, hna, hnb, A.ofList, A.fits, A.splice, A.bin_beq ty_bool, hb, hpq, kSize la.few lb.few, hs, qLess lb.few la.few hv hl, qMade fl2]
theorem kAdd {R : Type} {a b : Nm} (ha : lot a.2) (hb : lot b.2) {H : Heap} {k : AV → Heap → Option R} : polK pAdd [eN a, eN b] H k = k (eN (addS a b)) H := by
  simp [pAdd, polK_imm, ha, hb]
theorem qAdd {R : Type} {a b : Nm} (ha : lot a.2) (hb : lot b.2) {H : Heap} {k : AV → Heap → Option R} : polQ pAdd [eN a, eN b] H k = k (eN (addS a b)) H := by
  simp [pAdd, polQ_imm, ha, hb]
def subS (a b : Nm) : Nm := addS a (!b.1, b.2)
noncomputable def pSub : Pol := .still (p2 cN cN eN (fun a b => lot a.2 ∧ lot b.2) subS)
theorem okSub : PolOK base 24 pSub := still2 base_ok [(23, pAdd)] ⟨okAdd, trivial⟩ fun a b ⟨ha, hb⟩ => by
  refine Evs.of fun n m => ?_
  have h : ∀ (H : Heap) (k : AV → Heap → Option AV), polK pAdd [.agg [.bool a.1, eD a.2], .agg [.bool (!b.1), eD b.2]] H k = k (eN (addS a (!b.1, b.2))) H := fun H k => kAdd (a := a) (b := (!b.1, b.2)) ha hb
  simp [↓bindC_eq, ↓withV_of, ↓chkD_true, S24, A.ofList, A.fill, A.fits, A.splice, h, subS]
theorem kSub {R : Type} {a b : Nm} (ha : lot a.2) (hb : lot b.2) {H : Heap} {k : AV → Heap → Option R} : polK pSub [eN a, eN b] H k = k (eN (subS a b)) H := by
  simp [pSub, polK_imm, ha, hb]
theorem qSub {R : Type} {a b : Nm} (ha : lot a.2) (hb : lot b.2) {H : Heap} {k : AV → Heap → Option R} : polQ pSub [eN a, eN b] H k = k (eN (subS a b)) H := by
  simp [pSub, polQ_imm, ha, hb]
/-! ### whole numbers -/
def ofS (n : Int) : Nm := madeS (decide (n < 0)) (some (digs 2 n.natAbs))
noncomputable def pOf : Pol := .still (p1 (cI .i64) eN (fun n => -9223372036854775808 ≤ n ∧ n ≤ 9223372036854775807) ofS)
theorem cv_i64_u64 (n : Int) (j : IntKind) : Go.Den.convert base 2 63 (.int j n) = some (.int .u64 (IntKind.wrap .u64 n)) := conv_int (x := .int .i64) (by kernel_rfl) ty_u64
theorem okOf : PolOK base 16 pOf := still1 base_ok [(34, pMade)] ⟨okMade, trivial⟩ fun z ⟨h1, h2⟩ => by
  refine Evs.of fun n m => ?_
  have e1 : ∀ u : Nat, u < 18446744073709551616 → u % 4294967296 = (UInt32.ofNat u).toNat ∧ u / 4294967296 = (UInt32.ofNat (u / 4294967296)).toNat := fun u hu => by
    rw [limb_of, limb_of]; omega
  have hrow : ∀ x y : UInt32, ∀ b : Bool, freezeAll [.row 0 1 64 [eu x, eu y]] [.bool b, .sl 0 0 0 2 2] = some [.bool b, eD (some [x, y])] := fun x y b =>
    freezeAll_bool (freezeAll_cons (frz_limbs (l := [x, y]) rfl rfl 62) rfl)
  have hm : ∀ (x y : UInt32) (b : Bool) (k : AV → Heap → Option AV), polK pMade [.bool b, .sl 0 0 0 2 2] [.row 0 1 64 [eu x, eu y]] k = k (eN (madeS b (some [x, y]))) (bif (eN (madeS b (some [x, y]))).flat then [.row 0 1 64 [eu x, eu y]] else kill ([AV.bool b, .sl 0 0 0 2 2].flatMap (reach 64 [.row 0 1 64 [eu x, eu y]])) [.row 0 1 64 [eu x, eu y]]) := fun x y b k => by
    unfold pMade
    rw [polK_frz (hrow x y b)]
    have hf : few (some [x, y]) := by simp [few]
    simp [hf]
  have hu : ∃ u : Nat, u = z.natAbs ∧ u < 18446744073709551616 := ⟨_, rfl, by omega⟩
  obtain ⟨u, hu1, hu2⟩ := hu
  have hs := shr_u64 (P := base.P) (t := 63) (c := true) (H := []) (a := u) (s := 32) (j := .u64) (by omega)
  have hlo : IntKind.wrap .u32 (u : Int) = (UInt32.ofNat u).toNat := wrap_nat32 u
  have hhi : IntKind.wrap .u32 ((u / 4294967296 : Nat) : Int) = (UInt32.ofNat (u / 4294967296)).toNat := wrap_nat32 _
  have hone : ∀ x y : UInt32, A.fillElems 1 [AV.int .u32 0, .int .u32 0] [(0, 1, eu x), (1, 1, eu y)] = some [eu x, eu y] := fun x y => by simp [A.fillElems]
  have hd : digs 2 z.natAbs = [UInt32.ofNat u, UInt32.ofNat (u / 4294967296)] := by rw [← hu1]; rfl
  have hs' : A.bin base.P .shr 63 (.int .u64 (u : Int)) (.int .u64 32) true [] = some (.int .u64 ((u / 4294967296 : Nat) : Int)) := hs
  unfold ofS
  rw [hd]
  generalize UInt32.ofNat u = lo at *
  generalize UInt32.ofNat (u / 4294967296) = hi at *
  generalize u / 4294967296 = u1 at *
  by_cases hz : z < 0
  · have hw : IntKind.wrap .u64 (-IntKind.wrap .u64 z) = u := by
      simp only [IntKind.wrap, IntKind.bits, IntKind.signed]
      simp
      omega
    simp [↓test_bool, ↓bindV_eq, ↓bindC_eq, ↓bindH_eq, ↓withV_of, ↓withL_some, ↓bindX_some, ↓chkD_true, S16, cv_i64_u64, hz, A.un, hw, cv_64_32, hlo, hs', hhi, hone, hm, A.fits, A.splice, A.ofList]
  · have hw : IntKind.wrap .u64 z = u := by rw [wrap_u64 (by omega) (by omega)]; omega
    simp [↓test_bool, ↓bindV_eq, ↓bindC_eq, ↓bindH_eq, ↓withV_of, ↓withL_some, ↓bindX_some, ↓chkD_true, S16, cv_i64_u64, hz, hw, cv_64_32, hlo, hs', hhi, hone, hm, A.fits, A.splice, A.ofList]
theorem kOf {R : Type} {n : Int} (h1 : -9223372036854775808 ≤ n) (h2 : n ≤ 9223372036854775807) {H : Heap} {k : AV → Heap → Option R} : polK pOf [.int .i64 n] H k = k (eN (ofS n)) H := by
  simp [pOf, polK_imm, h1, h2]
theorem qOf {R : Type} {n : Int} (h1 : -9223372036854775808 ≤ n) (h2 : n ≤ 9223372036854775807) {H : Heap} {k : AV → Heap → Option R} : polQ pOf [.int .i64 n] H k = k (eN (ofS n)) H := by
  simp [pOf, polQ_imm, h1, h2]
end Go.Proofs.YtikkpecdkdgmfaaDoor

/- Numbers of any size: the reference's plain numbers; which are the same; numbers that fit into a word. -/
set_option maxRecDepth 100000
namespace Go.Proofs.YtikkpecdkdgmfaaDoor
open Go Go.Den
/-! ### the reference's numbers without noughts -/
def rnormS (a : Nm) : Nm := (a.1 && decide (0 < (lim (val (a.2.getD []))).length), nz (lim (val (a.2.getD []))))
noncomputable def pRnorm : Pol := .still (p1 cN eN (fun a => few a.2) rnormS)
theorem rnorm_loop {pol : FuncId → Pol} {a : Nm} {cs : List AV} {H : Heap} (hB : Go.Den.Box H 0 2 24 [.bool a.1, eD a.2]) (hf : (a.2.getD []).length ≤ 1000000) : ∀ i, i ≤ (a.2.getD []).length →
    LDoes (L18_0 pol) ⟨[.ptr 0 0 0 0, .int .i64 i], [cs]⟩ H 0 ⟨[.ptr 0 0 0 0, .int .i64 (lim (val ((a.2.getD []).take i))).length], [cs]⟩ H := by
  intro i
  induction i with
  | zero =>
    intro _
    refine LDoes.step (Evs.of fun n m => ?_)
    simp [↓test_bool, ↓withV_of, ↓withP_some, ↓withB_some, L18_0_step, val, lim_zero]
  | succ i ih =>
    intro hi
    have hx := idx_eD (d := a.2) (H := H) (k := .i64) (i := i) (by omega)
    have hp : (0 : Int) < (i : Int) + 1 := by omega
    by_cases h0 : (a.2.getD [])[i] = 0
    · have h0' : ((a.2.getD [])[i]).toNat = 0 := by rw [h0]; rfl
      refine LDoes.step (Evs.withL (ih (by omega)) (Evs.of fun n m h1 h2 => ?_))
      rw [lim_take (by omega), if_pos h0]
      simp (disch := omega) [↓test_bool, ↓withV_of, ↓withP_some, ↓withB_some, L18_0_step, hp, wrap_i64, hB.fa, hB.load, hx, h0', h2]
    · have h0' : ¬ ((a.2.getD [])[i]).toNat = 0 := fun e => h0 (UInt32.toNat_inj.1 (by simpa using e))
      refine LDoes.step (Evs.of fun n m => ?_)
      rw [lim_take (by omega), if_neg h0]
      simp (disch := omega) [↓test_bool, ↓withV_of, ↓withP_some, ↓withB_some, L18_0_step, hp, wrap_i64, hB.fa, hB.load, hx, h0']
theorem okRnorm : PolOK base 18 pRnorm := still1 base_ok [] trivial fun a hf => by
  unfold few at hf
  have hB : Go.Den.Box [.row 0 2 24 [eN a]] 0 2 24 [.bool a.1, eD a.2] := rfl
  have hL := rnorm_loop (pol := polT []) (cs := [.bool false, .nils]) hB hf _ (Nat.le_refl _)
  refine Evs.withL hL (Evs.of fun n m h1 _ => ?_)
  rw [List.take_length] at h1
  have hle := lim_len_le (a.2.getD [])
  have hs : A.slice 1 (eD a.2) none (some (.int .i64 ((lim (val (a.2.getD []))).length : Nat))) none [.row 0 2 24 [eN a]] = some (eD (a.2.map fun _ => lim (val (a.2.getD [])))) := by
    cases h : a.2 with
    | none => simp [val, lim_zero, eL, A.slice, A.bound]
    | some l =>
      rw [h] at hle
      simp only [Option.getD_some] at hle
      simp [eL, A.slice, A.bound, hle]
      rw [← List.map_take, take_lim]
  have hr : ((a.2.map fun _ => lim (val (a.2.getD []))).getD []) = lim (val (a.2.getD [])) := by
    cases a.2 <;> simp [val, lim_zero]
  unfold rnormS
  generalize hl : lim (val (a.2.getD [])) = l at *
  have hap : ∃ v H', A.append 1 4 64 .nils (l.map eu) [.row 0 2 24 [eN a]] = some (v, H') ∧ A.freezeB true 64 H' (.agg [.bool (a.1 && decide (0 < l.length)), v]) = some (eN (a.1 && decide (0 < l.length), nz l)) ∧ v.cells = [v] ∧ v.isDef = true ∧ v.one = true := by
    cases l with
    | nil => exact ⟨.nils, _, rfl, by simp [nz]; exact frz_eN (d := none), rfl, rfl, rfl⟩
    | cons x l =>
      refine ⟨_, _, nil_append (news := (x :: l).map eu) (by simp) (by omega) (by simp only [List.length_map]; omega), ?_, rfl, rfl, rfl⟩
      have := frz_num (H := [.row 0 2 24 [eN a]] ++ [.row 0 1 64 ((x :: l).map eu)]) (id := 1) (ver := 0) (n := (x :: l).length) (cap := (x :: l).length) (ty := 64) (l := x :: l) (b := a.1 && decide (0 < (x :: l).length)) rfl rfl
      simp only [List.length_map]
      exact this
  obtain ⟨v, H', ha1, ha2, ha3, ha4, ha5⟩ := hap
  cases hb : a.1
  · rw [hb] at ha2
    simp only [Bool.false_and] at ha2
    simp [↓bindV_eq, ↓bindC_eq, ↓bindH_eq, ↓withV_of, ↓withP_some, ↓withL_some, ↓withVH_some, ↓withB_some, ↓bindX_some, ↓chkD_true, S18, hB.fa, hB.load, h1, hb, hs, newsZ_sl ty_limbs, hr, ha1, A.fill, A.splice, ha3, ha4, A.fits, ha5, AV.heapy, A.ofList, ha2]
  · rw [hb] at ha2
    simp only [Bool.true_and] at ha2
    simp [↓bindV_eq, ↓bindC_eq, ↓bindH_eq, ↓withV_of, ↓withP_some, ↓withL_some, ↓withVH_some, ↓withB_some, ↓bindX_some, ↓chkD_true, S18, hB.fa, hB.load, h1, hb, hs, newsZ_sl ty_limbs, hr, ha1, A.fill, A.splice, ha3, ha4, A.fits, ha5, AV.heapy, A.ofList, ha2]
theorem kRnorm {R : Type} {a : Nm} (hf : few a.2) {H : Heap} {k : AV → Heap → Option R} : polK pRnorm [eN a] H k = k (eN (rnormS a)) H := by
  simp [pRnorm, polK_imm, hf]
theorem qRnorm {R : Type} {a : Nm} (hf : few a.2) {H : Heap} {k : AV → Heap → Option R} : polQ pRnorm [eN a] H k = k (eN (rnormS a)) H := by
  simp [pRnorm, polQ_imm, hf]
/-! ### which are the same -/
def sameS (a b : Nm) : Bool := decide (a.1 = b.1 ∧ a.2.getD [] = b.2.getD [])
noncomputable def pSame : Pol := .still (p2 cN cN .bool (fun a b => few a.2 ∧ few b.2) sameS)
theorem same_loop {pol : FuncId → Pol} {a b : Nm} {H : Heap} {p q : Nat} (hA : Go.Den.Box H p 2 24 [.bool a.1, eD a.2]) (hB : Go.Den.Box H q 2 24 [.bool b.1, eD b.2]) (hl : (a.2.getD []).length = (b.2.getD []).length) (hf : (a.2.getD []).length ≤ 1000000) : ∀ k i, k + i = (a.2.getD []).length →
    LDoes (L35_0 pol) ⟨[.ptr p 0 0 0, .ptr q 0 0 0, .int .i64 (i : Nat)], []⟩ H (if (a.2.getD []).drop i = (b.2.getD []).drop i then 0 else 1) ⟨[if (a.2.getD []).drop i = (b.2.getD []).drop i then .undef else .bool false], []⟩ H := by
  intro k
  induction k with
  | zero =>
    intro i hi
    have e : (a.2.getD []).drop i = (b.2.getD []).drop i := by rw [List.drop_of_length_le (by omega), List.drop_of_length_le (by omega)]
    rw [if_pos e, if_pos e]
    refine LDoes.step (Evs.of fun n m => ?_)
    have : ¬ i < (a.2.getD []).length := by omega
    simp [↓test_bool, ↓withV_of, L35_0_step, hA.fa, hA.load, this]
  | succ k ih =>
    intro i hi
    have hx := idx_eD (d := a.2) (H := H) (k := .i64) (i := i) (by omega)
    have hy := idx_eD (d := b.2) (H := H) (k := .i64) (i := i) (by omega)
    have hlt : i < (a.2.getD []).length := by omega
    have d1 := List.drop_eq_getElem_cons (l := a.2.getD []) (i := i) (by omega)
    have d2 := List.drop_eq_getElem_cons (l := b.2.getD []) (i := i) (by omega)
    have hih := ih (i + 1) (by omega)
    by_cases h0 : (a.2.getD [])[i] = (b.2.getD [])[i]
    · have e : ((a.2.getD []).drop i = (b.2.getD []).drop i) ↔ ((a.2.getD []).drop (i + 1) = (b.2.getD []).drop (i + 1)) := by
        rw [d1, d2, h0]
        exact ⟨fun h => (List.cons.inj h).2, fun h => by rw [h]⟩
      simp only [e]
      refine LDoes.step (Evs.withL hih (Evs.of fun n m _ h2 => ?_))
      simp only [Int.natCast_add, Int.natCast_one] at h2
      simp (disch := omega) [↓test_bool, ↓withV_of, L35_0_step, hA.fa, hA.load, hB.fa, hB.load, hlt, hx, hy, h0, wrap_i64, h2]
    · have e : ¬ (a.2.getD []).drop i = (b.2.getD []).drop i := by
        rw [d1, d2]
        exact fun h => h0 (List.cons.inj h).1
      rw [if_neg e, if_neg e]
      have h0' : ¬ (((a.2.getD [])[i]).toNat : Int) = ((b.2.getD [])[i]).toNat := fun e => h0 (UInt32.toNat_inj.1 (by omega))
      refine LDoes.step (Evs.of fun n m => ?_)
      simp (disch := omega) [↓test_bool, ↓withV_of, L35_0_step, hA.fa, hA.load, hB.fa, hB.load, hlt, hx, hy, h0']
theorem okSame : PolOK base 35 pSame := still2 base_ok [] trivial fun a b ⟨ha, hb⟩ => by
  unfold few at ha hb
  have hA1 : Go.Den.Box [.row 0 2 24 [eN a]] 0 2 24 [.bool a.1, eD a.2] := rfl
  have hA : Go.Den.Box [.row 0 2 24 [eN a], .row 0 2 24 [eN b]] 0 2 24 [.bool a.1, eD a.2] := rfl
  have hB : Go.Den.Box [.row 0 2 24 [eN a], .row 0 2 24 [eN b]] 1 2 24 [.bool b.1, eD b.2] := rfl
  by_cases hs : a.1 = b.1
  · by_cases hl : (a.2.getD []).length = (b.2.getD []).length
    · refine Evs.withL (same_loop (pol := polT []) hA hB hl ha _ 0 rfl) (Evs.of fun n m h1 _ => ?_)
      simp only [List.drop_zero, Int.cast_ofNat_Int] at h1
      by_cases he : a.2.getD [] = b.2.getD []
      · simp only [he, if_true] at h1
        simp [↓test_bool, ↓bindV_eq, ↓bindH_eq, ↓withV_of, ↓withP_some, ↓withB_some, ↓bindX_some, ↓chkD_true, S35, hA.fa, hA.load, hB.fa, hB.load, A.bin_bne ty_bool, hs, h1, sameS, he]
      · simp only [he, if_false] at h1
        simp [↓test_bool, ↓bindV_eq, ↓bindH_eq, ↓withV_of, ↓withP_some, ↓withB_some, ↓bindX_some, ↓chkD_true, S35, hA.fa, hA.load, hB.fa, hB.load, A.bin_bne ty_bool, hs, hl, h1, sameS, he]
    · refine Evs.of fun n m => ?_
      have hl' : ¬ ((a.2.getD []).length : Int) = (b.2.getD []).length := by omega
      have he : ¬ a.2.getD [] = b.2.getD [] := fun e => hl (by rw [e])
      simp [↓test_bool, ↓bindV_eq, ↓bindH_eq, ↓withV_of, ↓withP_some, ↓withB_some, ↓chkD_true, S35, hA.fa, hA.load, hB.fa, hB.load, A.bin_bne ty_bool, hs, hl', sameS, he]
  · refine Evs.of fun n m => ?_
    have hs' : (a.1 == b.1) = false := by simpa using hs
    simp [↓test_bool, ↓bindV_eq, ↓bindH_eq, ↓withV_of, ↓withP_some, ↓withB_some, ↓chkD_true, S35, hA.fa, hA.load, hB.fa, hB.load, A.bin_bne ty_bool, hs, hs', sameS]
theorem kSame {R : Type} {a b : Nm} (ha : few a.2) (hb : few b.2) {H : Heap} {k : AV → Heap → Option R} : polK pSame [eN a, eN b] H k = k (.bool (sameS a b)) H := by
  simp [pSame, polK_imm, ha, hb]
theorem qSame {R : Type} {a b : Nm} (ha : few a.2) (hb : few b.2) {H : Heap} {k : AV → Heap → Option R} : polQ pSame [eN a, eN b] H k = k (.bool (sameS a b)) H := by
  simp [pSame, polQ_imm, ha, hb]
/-! ### the reference's whole numbers -/
def rofS (n : Int) : Nm := rnormS (decide (n < 0), some (digs 2 n.natAbs))
noncomputable def pRof : Pol := .still (p1 (cI .i64) eN (fun n => -9223372036854775808 ≤ n ∧ n ≤ 9223372036854775807) rofS)
theorem okRof : PolOK base 17 pRof := still1 base_ok [(18, pRnorm)] ⟨okRnorm, trivial⟩ fun z ⟨h1, h2⟩ => by
  refine Evs.of fun n m => ?_
  have hm : ∀ (x y : UInt32) (b : Bool) (k : AV → Heap → Option AV), polK pRnorm [.agg [.bool b, .sl 0 0 0 2 2]] [.row 0 1 64 [eu x, eu y]] k = k (eN (rnormS (b, some [x, y]))) (bif (eN (rnormS (b, some [x, y]))).flat then [.row 0 1 64 [eu x, eu y]] else kill ([AV.agg [.bool b, .sl 0 0 0 2 2]].flatMap (reach 64 [.row 0 1 64 [eu x, eu y]])) [.row 0 1 64 [eu x, eu y]]) := fun x y b k => by
    unfold pRnorm
    have hz : freezeAll [.row 0 1 64 [eu x, eu y]] [.agg [.bool b, .sl 0 0 0 2 2]] = some [.agg [.bool b, eD (some [x, y])]] := freezeAll_cons (frz_num (l := [x, y]) rfl rfl) rfl
    rw [polK_frz hz]
    have hf : few (some [x, y]) := by simp [few]
    simp [hf]
  have hu : ∃ u : Nat, u = z.natAbs ∧ u < 18446744073709551616 := ⟨_, rfl, by omega⟩
  obtain ⟨u, hu1, hu2⟩ := hu
  have hs' : A.bin base.P .shr 63 (.int .u64 (u : Int)) (.int .u64 32) true [] = some (.int .u64 ((u / 4294967296 : Nat) : Int)) := shr_u64 (P := base.P) (t := 63) (c := true) (H := []) (a := u) (s := 32) (j := .u64) (by omega)
  have hlo : IntKind.wrap .u32 (u : Int) = (UInt32.ofNat u).toNat := wrap_nat32 u
  have hhi : IntKind.wrap .u32 ((u / 4294967296 : Nat) : Int) = (UInt32.ofNat (u / 4294967296)).toNat := wrap_nat32 _
  have hone : ∀ x y : UInt32, A.fillElems 1 [AV.int .u32 0, .int .u32 0] [(0, 1, eu x), (1, 1, eu y)] = some [eu x, eu y] := fun x y => by simp [A.fillElems]
  have hd : digs 2 z.natAbs = [UInt32.ofNat u, UInt32.ofNat (u / 4294967296)] := by rw [← hu1]; rfl
  unfold rofS
  rw [hd]
  generalize UInt32.ofNat u = lo at *
  generalize UInt32.ofNat (u / 4294967296) = hi at *
  generalize u / 4294967296 = u1 at *
  by_cases hz : z < 0
  · have hw : IntKind.wrap .u64 (-IntKind.wrap .u64 z) = u := by
      simp only [IntKind.wrap, IntKind.bits, IntKind.signed]
      simp
      omega
    simp [↓test_bool, ↓bindV_eq, ↓bindC_eq, ↓bindH_eq, ↓withV_of, ↓withL_some, ↓bindX_some, ↓chkD_true, S17, cv_i64_u64, hz, A.un, hw, cv_64_32, hlo, hs', hhi, hone, hm, A.fill, A.fits, A.splice, A.ofList]
  · have hw : IntKind.wrap .u64 z = u := by rw [wrap_u64 (by omega) (by omega)]; omega
    simp [↓test_bool, ↓bindV_eq, ↓bindC_eq, ↓bindH_eq, ↓withV_of, ↓withL_some, ↓bindX_some, ↓chkD_true, S17, cv_i64_u64, hz, hw, cv_64_32, hlo, hs', hhi, hone, hm, A.fill, A.fits, A.splice, A.ofList]
theorem kRof {R : Type} {n : Int} (h1 : -9223372036854775808 ≤ n) (h2 : n ≤ 9223372036854775807) {H : Heap} {k : AV → Heap → Option R} : polK pRof [.int .i64 n] H k = k (eN (rofS n)) H := by
  simp [pRof, polK_imm, h1, h2]
theorem qRof {R : Type} {n : Int} (h1 : -9223372036854775808 ≤ n) (h2 : n ≤ 9223372036854775807) {H : Heap} {k : AV → Heap → Option R} : polQ pRof [.int .i64 n] H k = k (eN (rofS n)) H := by
  simp [pRof, polQ_imm, h1, h2]
end Go.Proofs.YtikkpecdkdgmfaaDoor

/- Numbers of any size: numbers that fit into a word; by one limb; products. -/
set_option maxRecDepth 100000
namespace Go.Proofs.YtikkpecdkdgmfaaDoor
open Go Go.Den
/-! ### words -/
def fitsS (n : Int) : Bool := decide (-576460752303423488 ≤ n ∧ n ≤ 576460752303423487)
noncomputable def pFits : Pol := .still (p1 (cI .i64) .bool (fun _ => True) fitsS)
theorem okFits : PolOK base 51 pFits := still1 base_ok [] trivial fun a _ => Evs.of fun n m => by
  by_cases h : -576460752303423488 ≤ a <;> simp [↓withV_of, ↓withP_some, ↓withB_some, S51, h, fitsS]
theorem kFits {R : Type} {n : Int} {H : Heap} {k : AV → Heap → Option R} : polK pFits [.int .i64 n] H k = k (.bool (fitsS n)) H := by
  simp [pFits, polK_imm]
theorem qFits {R : Type} {n : Int} {H : Heap} {k : AV → Heap → Option R} : polQ pFits [.int .i64 n] H k = k (.bool (fitsS n)) H := by
  simp [pFits, polQ_imm]
def smallV (b : Bool) (N : Nat) : Int × Bool := if fitsS (if b then -(N : Int) else N) then ((if b then -(N : Int) else N), true) else (0, false)
def smallS (a : Nm) : Int × Bool := smallV a.1 (val (a.2.getD []))
theorem smallV_big {b : Bool} {N : Nat} (h : 576460752303423488 < N) : smallV b N = (0, false) := by
  unfold smallV
  rw [if_neg]
  unfold fitsS
  cases b <;> simp <;> omega
noncomputable def pSmall : Pol := .still (p1 cN (fun r : Int × Bool => .tup [.int .i64 r.1, .bool r.2]) (fun a => few a.2) smallS)
theorem small_loop {pol : FuncId → Pol} {d : Option (List UInt32)} {cs : List AV} {H : Heap} (hl : (d.getD []).length ≤ 2) : ∀ k i, k + i = (d.getD []).length →
    LDoes (L27_0 pol) ⟨[.int .u64 (val ((d.getD []).take i) : Nat), eD d, .int .i64 ((d.getD []).length : Nat), .int .i64 (i : Nat)], [cs]⟩ H 0 ⟨[.int .u64 (val (d.getD []) : Nat)], [cs]⟩ H := by
  intro k
  induction k with
  | zero =>
    intro i hi
    refine LDoes.step (Evs.of fun n m => ?_)
    have e : i = (d.getD []).length := by omega
    subst e
    rw [List.take_length]
    simp [↓test_bool, ↓withV_of, L27_0_step]
  | succ k ih =>
    intro i hi
    have hlt : i < (d.getD []).length := by omega
    have hx := idx_eD (d := d) (H := H) (k := .i64) (i := i) (by omega)
    have hih := ih (i + 1) (by omega)
    have h1 := val_take_lt (d.getD []) i
    have h2 := limb_lt (d.getD [])[i]
    have hp : (4294967296 : Nat) ^ i = 2 ^ (32 * i) := by rw [Nat.pow_mul]
    rw [hp] at h1
    have hb : 2 ^ (32 * i) * ((d.getD [])[i]).toNat + 2 ^ (32 * i) ≤ 18446744073709551616 := by
      have h01 : i = 0 ∨ i = 1 := by omega
      rcases h01 with rfl | rfl
      · simp; omega
      · simp; omega
    have hsh : A.bin base.P .shl 63 (.int .u64 (((d.getD [])[i]).toNat : Int)) (.int .i64 (32 * (i : Int))) false H = some (.int .u64 ((2 ^ (32 * i) * ((d.getD [])[i]).toNat : Nat) : Int)) := by
      have := shl_nat (P := base.P) (t := 63) (c := false) (H := H) (a := ((d.getD [])[i]).toNat) (s := 32 * i) (j := .i64) (by omega) (by omega)
      rw [show ((32 * i : Nat) : Int) = 32 * (i : Int) by omega] at this
      exact this
    have hor := (or_nat (P := base.P) (t := 63) (c := false) (H := H) h1 (y := ((d.getD [])[i]).toNat) (by omega)).1
    have hv : val ((d.getD []).take i) + 2 ^ (32 * i) * ((d.getD [])[i]).toNat = val ((d.getD []).take (i + 1)) := by rw [val_take_succ hlt, hp]
    rw [hv] at hor
    refine LDoes.step (Evs.withL hih (Evs.of fun n m _ h3 => ?_))
    simp only [Int.natCast_add, Int.natCast_one] at h3
    generalize ((2 ^ (32 * i) * ((d.getD [])[i]).toNat : Nat) : Int) = sh at *
    simp (disch := omega) [↓test_bool, ↓withV_of, L27_0_step, hlt, hx, cv_32_64, wrap_i64, hsh, hor, h3]
theorem okSmall : PolOK base 27 pSmall := still1 base_ok [(38, pCut), (51, pFits)] ⟨okCut, okFits, trivial⟩ fun a hf => by
  have gc : (cutS a.2).getD [] = lim (val (a.2.getD [])) := cutS_get
  unfold smallS
  generalize hN : val (a.2.getD []) = N at *
  by_cases hl : ((cutS a.2).getD []).length ≤ 2
  · refine Evs.withL (small_loop (pol := polT [(38, pCut), (51, pFits)]) (cs := [.bool a.1, eD a.2]) (H := []) hl _ 0 rfl) (Evs.of fun n m h1 _ => ?_)
    have hlt : N < 18446744073709551616 := by
      rw [gc] at hl
      have := lim_le.1 hl
      simpa using this
    rw [gc] at hl
    have hl' : ¬ (2 : Int) < ((lim N).length : Nat) := by omega
    simp only [List.take_zero, val, gc, val_lim, Int.cast_ofNat_Int] at h1
    by_cases hb : 576460752303423488 < N
    · have hb' : (576460752303423488 : Int) < N := by omega
      rw [smallV_big hb]
      simp [↓test_bool, ↓bindV_eq, ↓bindC_eq, ↓withV_of, ↓bindX_some, ↓chkD_true, S27, kCut hf, gc, hl', h1, hb']
    · have hb' : ¬ (576460752303423488 : Int) < N := by omega
      have hc : Go.Den.convert base 63 2 (.int .u64 (N : Int)) = some (.int .i64 N) := by
        rw [conv_int (x := .int .u64) (k := .i64) ty_u64 (by kernel_rfl), wrap_i64 (by omega) (by omega)]
      unfold smallV
      cases h0 : a.1 <;> rw [h0] at h1
      · by_cases hfs : fitsS (N : Int) = true <;> simp (disch := omega) [↓test_bool, ↓bindV_eq, ↓bindC_eq, ↓withV_of, ↓bindX_some, ↓chkD_true, S27, kCut hf, gc, hl', h1, hb', hc, h0, kFits, hfs]
      · have hn : A.un .neg (.int .i64 (N : Int)) = some (.int .i64 (-(N : Int))) := by
          simp only [A.un]
          rw [wrap_i64 (by omega) (by omega)]
          simp
        by_cases hfs : fitsS (-(N : Int)) = true <;> simp (disch := omega) [↓test_bool, ↓bindV_eq, ↓bindC_eq, ↓withV_of, ↓bindX_some, ↓chkD_true, S27, kCut hf, gc, hl', h1, hb', hc, h0, hn, kFits, hfs]
  · rw [gc] at hl
    have hl' : (2 : Int) < ((lim N).length : Nat) := by omega
    refine Evs.of fun n m => ?_
    have hN2 : 576460752303423488 < N := by
      rcases Nat.lt_or_ge N 18446744073709551616 with h | h
      · have := (lim_le (n := N) (k := 2)).2 (by simpa using h)
        omega
      · omega
    rw [smallV_big hN2]
    simp [↓test_bool, ↓bindV_eq, ↓bindC_eq, ↓withV_of, ↓chkD_true, S27, kCut hf, gc, hl']
theorem kSmall {R : Type} {a : Nm} (hf : few a.2) {H : Heap} {k : AV → Heap → Option R} : polK pSmall [eN a] H k = k (.tup [.int .i64 (smallS a).1, .bool (smallS a).2]) H := by
  simp [pSmall, polK_imm, hf]
theorem qSmall {R : Type} {a : Nm} (hf : few a.2) {H : Heap} {k : AV → Heap → Option R} : polQ pSmall [eN a] H k = k (.tup [.int .i64 (smallS a).1, .bool (smallS a).2]) H := by
  simp [pSmall, polQ_imm, hf]
/-! ### by one limb -/
def byOneS (a : Option (List UInt32)) (b : UInt32) : Option (List UInt32) × UInt32 := (some (digs (a.getD []).length (val (a.getD []) / b.toNat)), UInt32.ofNat (val (a.getD []) % b.toNat))
theorem div_step {T b x : Nat} (hb : 0 < b) : (x + 4294967296 * T) / b = 4294967296 * (T / b) + (4294967296 * (T % b) + x) / b ∧ (x + 4294967296 * T) % b = (4294967296 * (T % b) + x) % b := by
  have h := Nat.div_add_mod T b
  have e : x + 4294967296 * T = b * (4294967296 * (T / b)) + (4294967296 * (T % b) + x) := by
    conv => lhs; rw [← h]
    generalize T / b = p
    generalize T % b = q
    grind
  rw [e]
  exact ⟨by rw [Nat.mul_add_div hb], by rw [Nat.mul_add_mod]⟩
theorem byOne_loop {pol : FuncId → Pol} {a : Option (List UInt32)} {b : UInt32} {id : Nat} (hb : b.toNat ≠ 0) (hf : (a.getD []).length ≤ 1000000) : ∀ (j : Nat) (o : List UInt32) (H : Heap), j ≤ (a.getD []).length → o.length = (a.getD []).length → o.drop j = digs ((a.getD []).length - j) (val ((a.getD []).drop j) / b.toNat) →
    H[id]? = some (.row 0 1 64 (o.map eu)) →
    ∃ H', LDoes (L36_0 pol) ⟨[eD a, eu b, .sl id 0 0 (a.getD []).length (a.getD []).length, .int .u64 ((val ((a.getD []).drop j) % b.toNat : Nat) : Int), .int .i64 ((j : Int) - 1)], []⟩ H 0
      ⟨[.sl id 0 0 (a.getD []).length (a.getD []).length, .int .u64 ((val (a.getD []) % b.toNat : Nat) : Int)], []⟩ H' ∧ H'[id]? = some (.row 0 1 64 ((digs (a.getD []).length (val (a.getD []) / b.toNat)).map eu)) := by
  intro j
  induction j with
  | zero =>
    intro o H hj ho hd hH
    simp only [List.drop_zero, Nat.sub_zero] at hd
    rw [hd] at hH
    refine ⟨H, LDoes.step (Evs.of fun n m => ?_), hH⟩
    simp [↓test_bool, ↓withV_of, L36_0_step]
  | succ j ih =>
    intro o H hj ho hd hH
    have hlt : j < (a.getD []).length := by omega
    have hx := idx_eD (d := a) (H := H) (k := .i64) (i := j) (by omega)
    have h2 := limb_lt (a.getD [])[j]
    have hb2 := limb_lt b
    have hdr := List.drop_eq_getElem_cons hlt
    have hv : val ((a.getD []).drop j) = ((a.getD [])[j]).toNat + 4294967296 * val ((a.getD []).drop (j + 1)) := by rw [hdr, val]
    obtain ⟨s1, s2⟩ := div_step (T := val ((a.getD []).drop (j + 1))) (b := b.toNat) (x := ((a.getD [])[j]).toNat) (by omega)
    rw [← hv] at s1 s2
    have hr : val ((a.getD []).drop (j + 1)) % b.toNat < b.toNat := Nat.mod_lt _ (by omega)
    obtain ⟨r1, r2, r3⟩ := lrow (k := .i64) (n := (a.getD []).length) (j := j) (i := (j : Int)) hH ho.symm (by omega) rfl
    generalize hR : val ((a.getD []).drop (j + 1)) % b.toNat = R at *
    have hq : (4294967296 * R + ((a.getD [])[j]).toNat) / b.toNat < 4294967296 := Nat.div_lt_of_lt_mul (by
      have : b.toNat * 4294967296 = 4294967296 * b.toNat := Nat.mul_comm _ _
      omega)
    generalize hQ : (4294967296 * R + ((a.getD [])[j]).toNat) / b.toNat = Q at *
    have hd' : (o.set j (UInt32.ofNat Q)).drop j = digs ((a.getD []).length - j) (val ((a.getD []).drop j) / b.toNat) := by
      rw [show (a.getD []).length - j = ((a.getD []).length - (j + 1)) + 1 by omega, digs, s1, List.drop_eq_getElem_cons (by rw [List.length_set]; omega)]
      rw [List.getElem_set_self, List.drop_set_of_lt (by omega), hd]
      congr 1
      · exact UInt32.toNat_inj.1 (by rw [limb_of, limb_of]; omega)
      · congr 1; omega
    obtain ⟨H', hL, hr'⟩ := ih (o.set j (UInt32.ofNat Q)) _ (by omega) (by rw [List.length_set, ho]) hd' (row_set hH)
    refine ⟨H', LDoes.step (Evs.withL hL (Evs.of fun n m _ h3 => ?_)), hr'⟩
    rw [s2] at h3
    have hsh : A.bin base.P .shl 63 (.int .u64 (R : Int)) (.int .u64 32) true H = some (.int .u64 ((2 ^ 32 * R : Nat) : Int)) := shl_nat (a := R) (s := 32) (j := .u64) (by omega) (by omega)
    have hor := (or_nat (P := base.P) (t := 63) (c := false) (H := H) (x := ((a.getD [])[j]).toNat) (s := 32) (y := R) (by omega) (by omega)).2
    have hnum : ((a.getD [])[j]).toNat + 2 ^ 32 * R = 4294967296 * R + ((a.getD [])[j]).toNat := by omega
    rw [hnum] at hor
    have hquo := quo_nat (P := base.P) (t := 63) (c := false) (H := H) (x := 4294967296 * R + ((a.getD [])[j]).toNat) (y := b.toNat) hb (by omega)
    have hrem := rem_nat (P := base.P) (t := 63) (c := false) (H := H.set id (.row 0 1 64 ((o.set j (UInt32.ofNat Q)).map eu))) (x := 4294967296 * R + ((a.getD [])[j]).toNat) (y := b.toNat) hb
    rw [hQ] at hquo
    have hst := r3 (UInt32.ofNat Q)
    have hw : IntKind.wrap .u32 (Q : Int) = (UInt32.ofNat Q).toNat := wrap_nat32 Q
    have hge : (0 : Int) ≤ (j : Int) + 1 - 1 := by omega
    have hj1 : ((j + 1 : Nat) : Int) - 1 = j := by omega
    rw [hj1]
    have hj0 : (0 : Int) ≤ j := by omega
    generalize UInt32.ofNat Q = dq at *
    generalize ((2 ^ 32 * R : Nat) : Int) = sh at *
    generalize 4294967296 * R + ((a.getD [])[j]).toNat = num at *
    generalize ((num % b.toNat : Nat) : Int) = rm at hrem h3
    simp only [List.map_set] at h3 hrem hst
    simp (disch := omega) [↓test_bool, ↓withV_of, ↓withH_some, L36_0_step, hj0, hx, cv_32_64, cv_64_32, wrap_i64, hsh, hor, hquo, r1, hw, hst, hrem, h3]
noncomputable def pByOne : Pol := .still (p2 cD cU32 (fun r : Option (List UInt32) × UInt32 => .tup [eD r.1, eu r.2]) (fun a b => few a ∧ b.toNat ≠ 0) byOneS)
theorem okByOne : PolOK base 36 pByOne := still2 base_ok [] trivial fun a b ⟨ha, hb⟩ => by
  unfold few at ha
  have hmk := row_make (H := []) (sz := 1) (ty := 64) (bytes := 4) (z := .int .u32 0) (l := ((a.getD []).length : Nat)) (by omega) (by omega) (by omega)
  simp only [List.length_nil, Int.toNat_natCast, List.nil_append] at hmk
  have hz : List.replicate (a.getD []).length (AV.int .u32 0) = (List.replicate (a.getD []).length (0 : UInt32)).map eu := by simp
  rw [hz] at hmk
  obtain ⟨H', hL, hr⟩ := byOne_loop (pol := polT []) (a := a) (b := b) (id := 0) hb ha (a.getD []).length (List.replicate (a.getD []).length 0) [.row 0 1 64 ((List.replicate (a.getD []).length (0 : UInt32)).map eu)] (Nat.le_refl _) (by simp) (by simp [digs]) rfl
  refine Evs.withL hL (Evs.of fun n m h1 _ => ?_)
  rw [List.drop_length] at h1
  simp only [val, Nat.zero_mod, Int.cast_ofNat_Int, List.map_replicate] at h1
  have hlt : val (a.getD []) % b.toNat < 4294967296 := by
    have := Nat.mod_lt (val (a.getD [])) (show 0 < b.toNat by omega)
    have := limb_lt b
    omega
  have hw : IntKind.wrap .u32 ((val (a.getD []) % b.toNat : Nat) : Int) = (UInt32.ofNat (val (a.getD []) % b.toNat)).toNat := wrap_nat32 _
  have hfz : A.freezeB true 63 H' (.sl 0 0 0 (a.getD []).length (a.getD []).length) = some (eD (some (digs (a.getD []).length (val (a.getD []) / b.toNat)))) := frz_limbs hr (by rw [digs_length]) 61
  have hf2 : ∀ x : AV, x.leaf = true → A.freezeB true 64 H' (.tup [.sl 0 0 0 (a.getD []).length (a.getD []).length, x]) = some (.tup [eD (some (digs (a.getD []).length (val (a.getD []) / b.toNat))), x]) := fun x hx => by
    rw [freeze_tup64, List.mapM_cons, hfz, List.mapM_cons, (leaf_frz hx 62 H').1]
    rfl
  unfold byOneS
  generalize UInt32.ofNat (val (a.getD []) % b.toNat) = r at *
  have hf3 := hf2 (eu r) rfl
  generalize ((val (a.getD []) % b.toNat : Nat) : Int) = rz at *
  simp (disch := omega) [↓bindV_eq, ↓withV_of, ↓withVH_some, ↓bindX_some, S36, hmk, wrap_i64, h1, cv_64_32, hw, hf3]
theorem kByOne {R : Type} {a : Option (List UInt32)} {b : UInt32} (ha : few a) (hb : b.toNat ≠ 0) {H : Heap} {k : AV → Heap → Option R} : polK pByOne [eD a, eu b] H k = k (.tup [eD (byOneS a b).1, eu (byOneS a b).2]) H := by
  simp [pByOne, polK_imm, ha, hb]
theorem qByOne {R : Type} {a : Option (List UInt32)} {b : UInt32} (ha : few a) (hb : b.toNat ≠ 0) {H : Heap} {k : AV → Heap → Option R} : polQ pByOne [eD a, eu b] H k = k (.tup [eD (byOneS a b).1, eu (byOneS a b).2]) H := by
  simp [pByOne, polQ_imm, ha, hb]
end Go.Proofs.YtikkpecdkdgmfaaDoor

/- Numbers of any size: products. -/
set_option maxRecDepth 100000
set_option maxHeartbeats 2000000
namespace Go.Proofs.YtikkpecdkdgmfaaDoor
open Go Go.Den
theorem mul_alg {V V0 V1 W P Q B T u y c d r q t : Nat} (hset : V1 + W * d = V + W * r) (hdm : t = r + B * q) (ht : t = c + (u * y + d)) (hinv : V + c * W = V0 + P * (u * T)) (hW : W = P * Q) : V1 + q * (W * B) = V0 + P * (u * (T + Q * y)) := by
  have h1 : V1 + q * (W * B) + W * d = V + W * t := by rw [hdm]; grind
  have h2 : V + W * t = V + W * c + W * (u * y) + W * d := by rw [ht]; grind
  have h3 : V + W * c = V0 + P * (u * T) := by rw [Nat.mul_comm W c]; exact hinv
  have h4 : P * (u * (T + Q * y)) = P * (u * T) + W * (u * y) := by rw [hW]; grind
  omega
theorem mul_bound {u y c d : Nat} (hu : u < 4294967296) (hy : y < 4294967296) (hc : c < 4294967296) (hd : d < 4294967296) : u * y ≤ 18446744065119617025 ∧ c + (u * y + d) < 18446744073709551616 := by
  have h1 : u * y ≤ 4294967295 * 4294967295 := Nat.mul_le_mul (by omega) (by omega)
  omega
theorem mul_inner {pol : FuncId → Pol} {dx dy : Option (List UInt32)} {id : Nat} {u : UInt32} {i : Nat} {o0 : List UInt32} {lx : AV} {c0 c1 c2 : List AV} (hL : i + (dy.getD []).length < o0.length) (hbig : o0.length ≤ 2000000) : ∀ (k j c : Nat) (o : List UInt32) (H : Heap), k + j = (dy.getD []).length → o.length = o0.length → o.drop (i + j) = o0.drop (i + j) → c < 4294967296 →
    val o + c * 4294967296 ^ (i + j) = val o0 + 4294967296 ^ i * (u.toNat * val ((dy.getD []).take j)) → H[id]? = some (.row 0 1 64 (o.map eu)) →
    ∃ H' o' c', LDoes (L20_1 pol) ⟨[eD dy, .sl id 0 0 o0.length o0.length, .int .i64 (i : Nat), eu u, .int .u64 (c : Nat), eD dx, lx, .int .i64 (i : Nat), eD dy, .int .i64 ((dy.getD []).length : Nat), .int .i64 (j : Nat)], [c0, c1, c2]⟩ H 0
      ⟨[eD dy, .sl id 0 0 o0.length o0.length, .int .i64 (i : Nat), .int .u64 (c' : Nat), eD dx, lx, .int .i64 (i : Nat)], [c0, c1, c2]⟩ H' ∧ H'[id]? = some (.row 0 1 64 (o'.map eu)) ∧ o'.length = o0.length ∧ o'.drop (i + (dy.getD []).length) = o0.drop (i + (dy.getD []).length) ∧ c' < 4294967296 ∧
      val o' + c' * 4294967296 ^ (i + (dy.getD []).length) = val o0 + 4294967296 ^ i * (u.toNat * val (dy.getD [])) := by
  intro k
  induction k with
  | zero =>
    intro j c o H hk ho hd hc hv hH
    have : j = (dy.getD []).length := by omega
    subst this
    rw [List.take_length] at hv
    refine ⟨H, o, c, LDoes.step (Evs.of fun n m => ?_), hH, ho, hd, hc, hv⟩
    simp [↓test_bool, ↓withV_of, L20_1_step]
  | succ k ih =>
    intro j c o H hk ho hd hc hv hH
    have hlt : j < (dy.getD []).length := by omega
    have hx := idx_eD (d := dy) (H := H) (k := .i64) (i := j) (by omega)
    have hio : i + j < o.length := by omega
    obtain ⟨r1, r2, r3⟩ := lrow (k := .i64) (n := o0.length) (j := i + j) (i := (i : Int) + (j : Int)) hH ho.symm hio (by omega)
    have hu := limb_lt u
    have hy := limb_lt (dy.getD [])[j]
    have hod := limb_lt o[i + j]
    obtain ⟨hb1, hb2⟩ := mul_bound hu hy hc hod
    have hset := val_set hio (UInt32.ofNat (c + (u.toNat * ((dy.getD [])[j]).toNat + (o[i + j]).toNat)))
    rw [limb_of] at hset
    have hvt := val_take_succ hlt
    have hdm := Nat.div_add_mod (c + (u.toNat * ((dy.getD [])[j]).toNat + (o[i + j]).toNat)) 4294967296
    have hnew := mul_alg (B := 4294967296) (q := (c + (u.toNat * ((dy.getD [])[j]).toNat + (o[i + j]).toNat)) / 4294967296) hset (Nat.mod_add_div _ _).symm rfl hv (Nat.pow_add _ _ _)
    rw [← hvt] at hnew
    have hdrop : (o.set (i + j) (UInt32.ofNat (c + (u.toNat * ((dy.getD [])[j]).toNat + (o[i + j]).toNat)))).drop (i + (j + 1)) = o0.drop (i + (j + 1)) := by
      rw [List.drop_set_of_lt (by omega)]
      have e1 : o.drop (i + (j + 1)) = (o.drop (i + j)).drop 1 := by rw [List.drop_drop]; congr 1
      have e2 : o0.drop (i + (j + 1)) = (o0.drop (i + j)).drop 1 := by rw [List.drop_drop]; congr 1
      rw [e1, e2, hd]
    obtain ⟨H', o', c', hL', q1, q2, q3, q4, q5⟩ := ih (j + 1) ((c + (u.toNat * ((dy.getD [])[j]).toNat + (o[i + j]).toNat)) / 4294967296) (o.set (i + j) (UInt32.ofNat (c + (u.toNat * ((dy.getD [])[j]).toNat + (o[i + j]).toNat)))) _ (by omega) (by rw [List.length_set, ho]) hdrop (by omega) (by rw [show i + (j + 1) = (i + j) + 1 by omega, Nat.pow_succ]; exact hnew) (row_set hH)
    refine ⟨H', o', c', LDoes.step (Evs.withL hL' (Evs.of fun n m _ h3 => ?_)), q1, q2, q3, q4, q5⟩
    have hst := r3 (UInt32.ofNat (c + (u.toNat * ((dy.getD [])[j]).toNat + (o[i + j]).toNat)))
    generalize o[i + j] = ol at *
    generalize (dy.getD [])[j] = yl at *
    have hp0 : (0 : Int) ≤ (u.toNat : Int) * (yl.toNat : Int) := by rw [← Int.natCast_mul]; omega
    have hp1 : (u.toNat : Int) * (yl.toNat : Int) ≤ 18446744065119617025 := by rw [← Int.natCast_mul]; omega
    have hcast : (c : Int) + ((u.toNat : Int) * (yl.toNat : Int) + (ol.toNat : Int)) = ((c + (u.toNat * yl.toNat + ol.toNat) : Nat) : Int) := by simp only [Int.natCast_add, Int.natCast_mul]
    have hb2' : (c : Int) + ((u.toNat : Int) * (yl.toNat : Int) + (ol.toNat : Int)) < 18446744073709551616 := by rw [hcast]; omega
    have hw : IntKind.wrap .u32 ((c : Int) + ((u.toNat : Int) * (yl.toNat : Int) + (ol.toNat : Int))) = (UInt32.ofNat (c + (u.toNat * yl.toNat + ol.toNat))).toNat := by rw [hcast]; exact wrap_nat32 _
    have hsh : ∀ H, A.bin base.P .shr 63 (.int .u64 ((c : Int) + ((u.toNat : Int) * (yl.toNat : Int) + (ol.toNat : Int)))) (.int .u64 32) true H = some (.int .u64 (((c + (u.toNat * yl.toNat + ol.toNat)) / 4294967296 : Nat) : Int)) := fun H => by
      rw [hcast]
      exact shr_u64 (s := 32) (by omega)
    generalize (((c + (u.toNat * yl.toNat + ol.toNat)) / 4294967296 : Nat) : Int) = cq at *
    generalize UInt32.ofNat (c + (u.toNat * yl.toNat + ol.toNat)) = dg at *
    simp only [Int.natCast_add, Int.natCast_one, List.map_set] at h3
    simp (disch := omega) [↓test_bool, ↓withV_of, ↓withH_some, L20_1_step, hlt, hx, cv_32_64, cv_64_32, wrap_u64, wrap_i64, r1, r2, hw, hst, hsh, h3]
theorem mul_outer {pol : FuncId → Pol} {dx dy : Option (List UInt32)} {id : Nat} {c0 c1 c2 : List AV} (hbx : (dx.getD []).length ≤ 128) (hby : (dy.getD []).length ≤ 128) : ∀ (k i : Nat) (o : List UInt32) (H : Heap), k + i = (dx.getD []).length → o.length = (dx.getD []).length + (dy.getD []).length + 1 → val o = val ((dx.getD []).take i) * val (dy.getD []) →
    H[id]? = some (.row 0 1 64 (o.map eu)) →
    ∃ H', LDoes (L20_0 pol) ⟨[eD dy, .sl id 0 0 ((dx.getD []).length + (dy.getD []).length + 1) ((dx.getD []).length + (dy.getD []).length + 1), eD dx, .int .i64 ((dx.getD []).length : Nat), .int .i64 (i : Nat)], [c0, c1, c2]⟩ H 0 ⟨[.sl id 0 0 ((dx.getD []).length + (dy.getD []).length + 1) ((dx.getD []).length + (dy.getD []).length + 1)], [c0, c1, c2]⟩ H' ∧
      H'[id]? = some (.row 0 1 64 ((digs ((dx.getD []).length + (dy.getD []).length + 1) (val (dx.getD []) * val (dy.getD []))).map eu)) := by
  intro k
  induction k with
  | zero =>
    intro i o H hk ho hv hH
    have : i = (dx.getD []).length := by omega
    subst this
    rw [List.take_length] at hv
    have e : o = digs ((dx.getD []).length + (dy.getD []).length + 1) (val (dx.getD []) * val (dy.getD [])) := eq_digs ho hv
    rw [e] at hH
    refine ⟨H, LDoes.step (Evs.of fun n m => ?_), hH⟩
    simp [↓test_bool, ↓withV_of, L20_0_step]
  | succ k ih =>
    intro i o H hk ho hv hH
    have hlt : i < (dx.getD []).length := by omega
    have hx := idx_eD (d := dx) (H := H) (k := .i64) (i := i) (by omega)
    obtain ⟨H1, o1, c1', hI, q1, q2, q3, q4, q5⟩ := mul_inner (pol := pol) (dx := dx) (dy := dy) (id := id) (u := (dx.getD [])[i]) (i := i) (o0 := o) (lx := .int .i64 ((dx.getD []).length : Nat)) (c0 := c0) (c1 := c1) (c2 := c2) (by omega) (by omega) (dy.getD []).length 0 0 o H (by omega) rfl rfl (by omega) (by simp [val]) hH
    have hlim : val o < 4294967296 ^ (i + (dy.getD []).length) := by
      rw [hv, Nat.pow_add]
      have h1 := val_take_lt (dx.getD []) i
      have h2 := val_lt (dy.getD [])
      generalize 4294967296 ^ (dy.getD []).length = p at *
      generalize 4294967296 ^ i = q at *
      rcases Nat.eq_zero_or_pos (val (dy.getD [])) with h | h
      · rw [h, Nat.mul_zero]
        exact Nat.mul_pos (by omega) (by omega)
      · calc val ((dx.getD []).take i) * val (dy.getD []) < q * val (dy.getD []) := Nat.mul_lt_mul_of_pos_right h1 h
          _ ≤ q * p := Nat.mul_le_mul_left _ (by omega)
    have hio : i + (dy.getD []).length < o1.length := by omega
    have hzero : o1[i + (dy.getD []).length] = 0 := by
      have h1 := List.drop_eq_getElem_cons (l := o1) (i := i + (dy.getD []).length) hio
      have h2 := List.drop_eq_getElem_cons (l := o) (i := i + (dy.getD []).length) (by omega)
      rw [q3, h2] at h1
      rw [← (List.cons.inj h1).1]
      exact limb_zero hlim (Nat.le_refl _) (by omega)
    have hset := val_set hio (UInt32.ofNat c1')
    rw [hzero, limb_of, Nat.mod_eq_of_lt q4] at hset
    simp only [UInt32.toNat_zero, Nat.mul_zero, Nat.add_zero] at hset
    have hvn : val (o1.set (i + (dy.getD []).length) (UInt32.ofNat c1')) = val ((dx.getD []).take (i + 1)) * val (dy.getD []) := by
      rw [hset, Nat.mul_comm _ c1', q5, hv, val_take_succ hlt]
      grind
    obtain ⟨r1, r2, r3⟩ := lrow (k := .i64) (n := (dx.getD []).length + (dy.getD []).length + 1) (j := i + (dy.getD []).length) (i := (i : Int) + ((dy.getD []).length : Int)) q1 (by omega) hio (by omega)
    obtain ⟨H', hL', hr⟩ := ih (i + 1) (o1.set (i + (dy.getD []).length) (UInt32.ofNat c1')) _ (by omega) (by rw [List.length_set]; omega) hvn (row_set q1)
    refine ⟨H', LDoes.step (Evs.withL hI (Evs.withL hL' (Evs.of fun n m _ h3 h4 h5 => ?_))), hr⟩
    have hst := r3 (UInt32.ofNat c1')
    have hw : IntKind.wrap .u32 (c1' : Int) = (UInt32.ofNat c1').toNat := wrap_nat32 _
    generalize UInt32.ofNat c1' = dg at *
    rw [ho] at h4
    simp only [Int.natCast_add, List.map_set, Int.cast_ofNat_Int] at h3 h4 hst
    simp (disch := omega) [↓test_bool, ↓bindV_eq, ↓bindC_eq, ↓withV_of, ↓withH_some, ↓bindX_some, L20_0_step, hlt, hx, cv_64_32, wrap_i64, h4, r1, hw, hst, h3]
def mulS (a b : Nm) : Nm × Bool :=
  if 128 < (lim (val (a.2.getD []))).length ∨ 128 < (lim (val (b.2.getD []))).length then ((false, none), false) else
  if 128 < (lim (val (a.2.getD []) * val (b.2.getD []))).length then ((false, none), false) else
  (madeS (a.1 != b.1) (some (digs ((lim (val (a.2.getD []))).length + (lim (val (b.2.getD []))).length + 1) (val (a.2.getD []) * val (b.2.getD [])))), true)
noncomputable def pMul : Pol := .still (p2 cN cN (fun r : Nm × Bool => .tup [eN r.1, .bool r.2]) (fun a b => few a.2 ∧ few b.2) mulS)
noncomputable abbrev TMul : List (FuncId × Pol) := [(38, pCut), (34, pMade)]
theorem okMul : PolOK base 20 pMul := still2 base_ok TMul ⟨okCut, okMade, trivial⟩ fun a b ⟨ha, hb⟩ => by
  have ga : (cutS a.2).getD [] = lim (val (a.2.getD [])) := cutS_get
  have gb : (cutS b.2).getD [] = lim (val (b.2.getD [])) := cutS_get
  unfold mulS
  generalize hx : val (a.2.getD []) = x at *
  generalize hy : val (b.2.getD []) = y at *
  by_cases h1 : 128 < (lim x).length
  · refine Evs.of fun n m => ?_
    have h1' : (128 : Int) < ((lim x).length : Nat) := by omega
    rw [if_pos (.inl h1)]
    simp [↓test_bool, ↓bindV_eq, ↓bindC_eq, ↓withV_of, ↓withP_some, ↓withB_some, ↓chkD_true, S20, qCut ha, qCut hb, A.ofList, ga, h1', A.fill, A.fits, A.splice]
    exact frz_nb (d := none)
  · have h1' : ¬ (128 : Int) < ((lim x).length : Nat) := by omega
    by_cases h2 : 128 < (lim y).length
    · refine Evs.of fun n m => ?_
      have h2' : (128 : Int) < ((lim y).length : Nat) := by omega
      rw [if_pos (.inr h2)]
      simp [↓test_bool, ↓bindV_eq, ↓bindC_eq, ↓withV_of, ↓withP_some, ↓withB_some, ↓chkD_true, S20, qCut ha, qCut hb, A.ofList, ga, gb, h1', h2', A.fill, A.fits, A.splice]
      exact frz_nb (d := none)
    · have h2' : ¬ (128 : Int) < ((lim y).length : Nat) := by omega
      rw [if_neg (by omega)]
      have hmk := row_make (H := []) (sz := 1) (ty := 64) (bytes := 4) (z := .int .u32 0) (l := (((lim x).length + (lim y).length + 1 : Nat) : Int)) (by omega) (by omega) (by omega)
      simp only [List.length_nil, Int.toNat_natCast, List.nil_append] at hmk
      have hz : List.replicate ((lim x).length + (lim y).length + 1) (AV.int .u32 0) = (List.replicate ((lim x).length + (lim y).length + 1) (0 : UInt32)).map eu := by simp
      obtain ⟨H', hL, hr⟩ := mul_outer (pol := polT TMul) (dx := cutS a.2) (dy := cutS b.2) (id := 0) (c0 := [.bool a.1, eD a.2]) (c1 := [.bool b.1, eD b.2]) (c2 := [.bool false, .nils]) (by rw [ga]; omega) (by rw [gb]; omega) (lim x).length 0 (List.replicate ((lim x).length + (lim y).length + 1) 0) [.row 0 1 64 ((List.replicate ((lim x).length + (lim y).length + 1) (0 : UInt32)).map eu)] (by rw [ga]; omega) (by rw [ga, gb]; simp) (by simp [val, val_zeros]) rfl
      rw [ga, gb, val_lim, val_lim] at hr
      rw [hz] at hmk
      have hfz : ∀ p : Bool, freezeAll H' [.bool p, .sl 0 0 0 ((lim x).length + (lim y).length + 1) ((lim x).length + (lim y).length + 1)] = some [.bool p, eD (some (digs ((lim x).length + (lim y).length + 1) (x * y)))] := fun p =>
        freezeAll_bool (freezeAll_cons (frz_limbs hr (by rw [digs_length]) 62) rfl)
      have hfew : few (some (digs ((lim x).length + (lim y).length + 1) (x * y))) := by unfold few; simp only [Option.getD_some, digs_length]; omega
      obtain ⟨p, hp⟩ : ∃ p, (a.1 != b.1) = p := ⟨_, rfl⟩
      have hbin : ∀ H, A.bin base.P .neq 4 (.bool a.1) (.bool b.1) false H = some (.bool p) := fun H => by rw [A.bin_bne ty_bool, ← hp]; rfl
      obtain ⟨G, hm⟩ : ∃ G : Heap, ∀ (k : AV → Heap → Option AV), polK pMade [.bool p, .sl 0 0 0 ((lim x).length + (lim y).length + 1) ((lim x).length + (lim y).length + 1)] H' k = k (eN (madeS p (some (digs ((lim x).length + (lim y).length + 1) (x * y))))) G := ⟨_, fun k => by
        unfold pMade
        rw [polK_frz (hfz p)]
        simp only [p2_app, dec_cB, dec_cD, Option.bind_some]
        rw [if_pos hfew]
        rfl⟩
      have hprod : x * y < 4294967296 ^ ((lim x).length + (lim y).length + 1) := by
        have e1 := lim_le.1 (Nat.le_refl (lim x).length)
        have e2 := lim_le.1 (Nat.le_refl (lim y).length)
        rw [Nat.pow_succ, Nat.pow_add]
        generalize 4294967296 ^ (lim x).length = p at *
        generalize 4294967296 ^ (lim y).length = q at *
        have : x * y ≤ p * q := Nat.mul_le_mul (by omega) (by omega)
        have : 0 < p * q := Nat.mul_pos (by omega) (by omega)
        omega
      have hg : (madeS p (some (digs ((lim x).length + (lim y).length + 1) (x * y)))).2.getD [] = lim (x * y) := by
        unfold madeS
        rw [cutS_get]
        simp only [Option.getD_some]
        rw [val_digs_lt hprod]
      rw [hp]
      generalize madeS p (some (digs ((lim x).length + (lim y).length + 1) (x * y))) = M at *
      obtain ⟨M1, M2⟩ := M
      dsimp only at hg
      refine Evs.withL hL (Evs.of fun n m h3 _ => ?_)
      rw [ga, gb] at h3
      simp only [Int.cast_ofNat_Int, List.map_replicate, Int.natCast_add] at h3 hmk
      generalize (lim x).length + (lim y).length + 1 = L at *
      by_cases h5 : 128 < (lim (x * y)).length
      · have h5' : (128 : Int) < ((lim (x * y)).length : Nat) := by omega
        rw [if_pos h5]
        simp (disch := omega) [↓test_bool, ↓bindV_eq, ↓bindC_eq, ↓withV_of, ↓withP_some, ↓withVH_some, ↓withB_some, ↓bindX_some, ↓chkD_true, S20, qCut ha, qCut hb, A.ofList, ga, gb, h1', h2', hmk, wrap_i64, h3, hbin, hm, hg, h5', A.fill, A.fits, A.splice]
        exact frz_nb (d := none)
      · have h5' : ¬ (128 : Int) < ((lim (x * y)).length : Nat) := by omega
        rw [if_neg h5]
        simp (disch := omega) [↓test_bool, ↓bindV_eq, ↓bindC_eq, ↓withV_of, ↓withP_some, ↓withVH_some, ↓withB_some, ↓bindX_some, ↓chkD_true, S20, qCut ha, qCut hb, A.ofList, ga, gb, h1', h2', hmk, wrap_i64, h3, hbin, hm, hg, h5', A.fill, A.fits, A.splice]
theorem kMul {R : Type} {a b : Nm} (ha : few a.2) (hb : few b.2) {H : Heap} {k : AV → Heap → Option R} : polK pMul [eN a, eN b] H k = k (.tup [eN (mulS a b).1, .bool (mulS a b).2]) H := by
  simp [pMul, polK_imm, ha, hb]
theorem qMul {R : Type} {a b : Nm} (ha : few a.2) (hb : few b.2) {H : Heap} {k : AV → Heap → Option R} : polQ pMul [eN a, eN b] H k = k (.tup [eN (mulS a b).1, .bool (mulS a b).2]) H := by
  simp [pMul, polQ_imm, ha, hb]
end Go.Proofs.YtikkpecdkdgmfaaDoor

/- Numbers of any size: what all this comes to, in whole numbers; quotients by one limb. -/
set_option maxRecDepth 100000
set_option maxHeartbeats 2000000
namespace Go.Proofs.YtikkpecdkdgmfaaDoor
open Go Go.Den
/-! ### in whole numbers -/
def mag (a : Nm) : Nat := val (a.2.getD [])
def sgn (b : Bool) (n : Nat) : Int := if b then -(n : Int) else n
def toI (a : Nm) : Int := sgn a.1 (mag a)
def Rep (a : Nm) (z : Int) : Prop := a.1 = decide (z < 0) ∧ a.2.getD [] = lim z.natAbs
theorem Rep.same {a b : Nm} {z : Int} (h : Rep a z) (g : Rep b z) : sameS a b = true := by
  unfold sameS
  rw [h.1, h.2, g.1, g.2]
  simp
theorem Rep.inj {a b : Nm} {y z : Int} (h : Rep a y) (g : Rep b z) (hs : sameS a b = true) : y = z := by
  unfold sameS at hs
  have hs := of_decide_eq_true hs
  obtain ⟨h1, h2⟩ := hs
  rw [h.2, g.2] at h2
  have := lim_inj h2
  have h3 : (y < 0) = (z < 0) := by
    have e := h.1.symm.trans (h1.trans g.1)
    exact propext ⟨fun hy => of_decide_eq_true (by rw [← e]; exact decide_eq_true hy), fun hz => of_decide_eq_true (by rw [e]; exact decide_eq_true hz)⟩
  have h4 : y < 0 ↔ z < 0 := by rw [h3]
  omega
theorem Rep.toI {a : Nm} {z : Int} (h : Rep a z) : toI a = z := by
  unfold Go.Proofs.YtikkpecdkdgmfaaDoor.toI mag sgn
  rw [h.2, val_lim, h.1]
  by_cases hz : z < 0
  · rw [if_pos (decide_eq_true hz)]; omega
  · rw [if_neg (by simpa using hz)]; omega
theorem rep_made (p : Bool) (d : Option (List UInt32)) : Rep (madeS p d) (sgn p (val (d.getD []))) := by
  have e : 0 < (lim (val (d.getD []))).length ↔ val (d.getD []) ≠ 0 := by
    rw [List.length_pos_iff]
    exact not_congr lim_nil
  unfold madeS Rep sgn
  refine ⟨?_, ?_⟩
  · dsimp only
    rw [cutS_get]
    cases p
    · simp
    · by_cases h : val (d.getD []) = 0
      · simp [h, lim_zero]
      · have h1 : 0 < (lim (val (d.getD []))).length := e.2 h
        have h2 : -(val (d.getD []) : Int) < 0 := by omega
        simp only [Bool.true_and, if_true]
        rw [decide_eq_true h1, decide_eq_true h2]
  · dsimp only
    rw [cutS_get]
    cases p
    · simp
    · simp
theorem rep_norm (a : Nm) : Rep (normS a) (toI a) := rep_made _ _
theorem rep_rnorm (a : Nm) : Rep (rnormS a) (toI a) := by
  have h := rep_made a.1 a.2
  unfold Rep madeS at h
  unfold Rep rnormS
  dsimp only at h ⊢
  rw [cutS_get] at h
  exact ⟨h.1, by rw [nz_get]; exact h.2⟩
theorem val_digs2 {n : Nat} (h : n < 18446744073709551616) : val (digs 2 n) = n := val_digs_lt (by simpa using h)
theorem rep_of {z : Int} (h1 : -9223372036854775808 ≤ z) (h2 : z ≤ 9223372036854775807) : Rep (ofS z) z := by
  have h := rep_made (decide (z < 0)) (some (digs 2 z.natAbs))
  simp only [Option.getD_some] at h
  rw [val_digs2 (by omega)] at h
  have e : sgn (decide (z < 0)) z.natAbs = z := by
    unfold sgn
    by_cases hz : z < 0
    · rw [if_pos (decide_eq_true hz)]; omega
    · rw [if_neg (by simpa using hz)]; omega
  rw [e] at h
  exact h
theorem rep_rof {z : Int} (h1 : -9223372036854775808 ≤ z) (h2 : z ≤ 9223372036854775807) : Rep (rofS z) z := by
  have h := rep_rnorm (decide (z < 0), some (digs 2 z.natAbs))
  have e : toI (decide (z < 0), some (digs 2 z.natAbs)) = z := by
    unfold toI mag sgn
    simp only [Option.getD_some]
    rw [val_digs2 (by omega)]
    by_cases hz : z < 0
    · rw [if_pos (decide_eq_true hz)]; omega
    · rw [if_neg (by simpa using hz)]; omega
  rw [e] at h
  exact h
theorem toI_norm (a : Nm) : toI (normS a) = toI a := (rep_norm a).toI
theorem cmpN_size {a b : Nm} : sizeS (normS a).2 (normS b).2 = cmpN (mag (normS a)) (mag (normS b)) := by
  rw [sizeS_lim (x := mag a) (y := mag b) normS_get normS_get]
  unfold mag
  rw [normS_get, normS_get, val_lim, val_lim]
theorem rep_add (a b : Nm) : Rep (addS a b) (toI a + toI b) := by
  have hsz := cmpN_size (a := a) (b := b)
  rw [← toI_norm a, ← toI_norm b]
  unfold addS
  generalize normS a = x at *
  generalize normS b = y at *
  obtain ⟨p, d⟩ := x
  obtain ⟨q, e⟩ := y
  unfold mag at hsz
  dsimp only at hsz ⊢
  by_cases hpq : p = q
  · subst hpq
    rw [if_pos rfl]
    have h := rep_made p (plusS d e)
    rw [plusS_val] at h
    have : toI (p, d) + toI (p, e) = sgn p (val (d.getD []) + val (e.getD [])) := by
      unfold toI mag sgn
      cases p <;> simp <;> omega
    rw [this]
    exact h
  · rw [if_neg hpq, hsz]
    by_cases hs : 0 ≤ cmpN (val (d.getD [])) (val (e.getD []))
    · rw [if_pos hs]
      have h := rep_made p (lessS d e)
      rw [lessS_val] at h
      have hle : val (e.getD []) ≤ val (d.getD []) := by
        unfold cmpN cmpI at hs
        split at hs <;> omega
      have : toI (p, d) + toI (q, e) = sgn p (val (d.getD []) - val (e.getD [])) := by
        unfold toI mag sgn
        cases p <;> cases q <;> simp at hpq ⊢ <;> omega
      rw [this]
      exact h
    · rw [if_neg hs]
      have h := rep_made q (lessS e d)
      rw [lessS_val] at h
      have hle : val (d.getD []) ≤ val (e.getD []) := by
        unfold cmpN cmpI at hs
        split at hs <;> (try split at hs) <;> omega
      have : toI (p, d) + toI (q, e) = sgn q (val (e.getD []) - val (d.getD [])) := by
        unfold toI mag sgn
        cases p <;> cases q <;> simp at hpq ⊢ <;> omega
      rw [this]
      exact h
theorem rep_sub (a b : Nm) : Rep (subS a b) (toI a - toI b) := by
  have h := rep_add a (!b.1, b.2)
  have e : toI (!b.1, b.2) = -toI b := by
    unfold toI mag sgn
    cases b.1 <;> simp
  rw [e] at h
  exact h
theorem compare_eq (a b : Nm) : compareS a b = cmpI (toI a) (toI b) := by
  have hsz := cmpN_size (a := a) (b := b)
  have hsz2 := cmpN_size (a := b) (b := a)
  have ra := rep_norm a
  have rb := rep_norm b
  rw [← toI_norm a, ← toI_norm b]
  unfold compareS
  unfold Rep at ra rb
  rw [← toI_norm a] at ra
  rw [← toI_norm b] at rb
  generalize normS a = x at *
  generalize normS b = y at *
  obtain ⟨p, d⟩ := x
  obtain ⟨q, e⟩ := y
  unfold mag at hsz hsz2
  unfold toI mag sgn at *
  dsimp only at *
  rw [hsz, hsz2]
  have r1 := ra.1
  have r2 := rb.1
  generalize val (d.getD []) = m at *
  generalize val (e.getD []) = n at *
  cases p <;> cases q <;> simp at r1 r2 ⊢ <;> (try unfold cmpN) <;> unfold cmpI <;> (repeat' split) <;> omega
theorem small_eq (a : Nm) : smallS a = if fitsS (toI a) then (toI a, true) else (0, false) := rfl
/-! ### products and quotients, in whole numbers -/
theorem mul_eq {a b : Nm} (ha : (lim (mag a)).length ≤ 128) (hb : (lim (mag b)).length ≤ 128) (hp : (lim (mag a * mag b)).length ≤ 128) : (mulS a b).2 = true ∧ Rep (mulS a b).1 (toI a * toI b) := by
  unfold mag at ha hb hp
  unfold mulS
  rw [if_neg (by omega), if_neg (by omega)]
  refine ⟨rfl, ?_⟩
  have h := rep_made (a.1 != b.1) (some (digs ((lim (val (a.2.getD []))).length + (lim (val (b.2.getD []))).length + 1) (val (a.2.getD []) * val (b.2.getD []))))
  simp only [Option.getD_some] at h
  have hprod : val (a.2.getD []) * val (b.2.getD []) < 4294967296 ^ ((lim (val (a.2.getD []))).length + (lim (val (b.2.getD []))).length + 1) := by
    generalize val (a.2.getD []) = x
    generalize val (b.2.getD []) = y
    have e1 := lim_le.1 (Nat.le_refl (lim x).length)
    have e2 := lim_le.1 (Nat.le_refl (lim y).length)
    rw [Nat.pow_succ, Nat.pow_add]
    generalize 4294967296 ^ (lim x).length = p at *
    generalize 4294967296 ^ (lim y).length = q at *
    have : x * y ≤ p * q := Nat.mul_le_mul (by omega) (by omega)
    have : 0 < p * q := Nat.mul_pos (by omega) (by omega)
    omega
  rw [val_digs_lt hprod] at h
  have e : toI a * toI b = sgn (a.1 != b.1) (val (a.2.getD []) * val (b.2.getD [])) := by
    unfold toI mag sgn
    cases a.1 <;> cases b.1 <;> simp [Int.mul_neg, Int.neg_mul]
  rw [e]
  exact h
def divS (a b : Nm) : Nm × Nm × Bool :=
  if mag b = 0 then ((false, none), (false, none), false) else
  if mag a < mag b then ((false, none), normS a, true) else
  (madeS (a.1 != b.1) (some (lim (mag a / mag b))), madeS a.1 (some (lim (mag a % mag b))), true)
theorem made_val {p : Bool} {l m : List UInt32} (h : val l = val m) : madeS p (some l) = madeS p (some m) := by
  unfold madeS cutS
  simp only [Option.map_some, h]
theorem rep_zero : Rep (false, none) 0 := ⟨rfl, by simp [lim_zero]⟩
theorem div_eq {a b : Nm} (hb : toI b ≠ 0) : (divS a b).2.2 = true ∧ Rep (divS a b).1 ((toI a).tdiv (toI b)) ∧ Rep (divS a b).2.1 ((toI a).tmod (toI b)) := by
  have hm : mag b ≠ 0 := fun e => hb (by unfold toI sgn; rw [e]; simp)
  unfold divS
  rw [if_neg hm]
  have tq : (toI a).tdiv (toI b) = sgn (a.1 != b.1) (mag a / mag b) := by
    unfold toI sgn
    have e : ((mag a : Int)).tdiv (mag b) = ((mag a / mag b : Nat) : Int) := by rw [Int.tdiv_eq_ediv_of_nonneg (by omega)]; rfl
    cases a.1 <;> cases b.1 <;> simp [e]
  have tr : (toI a).tmod (toI b) = sgn a.1 (mag a % mag b) := by
    unfold toI sgn
    have e : ((mag a : Int)).tmod (mag b) = ((mag a % mag b : Nat) : Int) := by rw [Int.tmod_eq_emod_of_nonneg (by omega)]; rfl
    cases a.1 <;> cases b.1 <;> simp [e]
  rw [tq, tr]
  by_cases hlt : mag a < mag b
  · rw [if_pos hlt, Nat.div_eq_of_lt hlt, Nat.mod_eq_of_lt hlt]
    refine ⟨rfl, ?_, rep_norm a⟩
    have : sgn (a.1 != b.1) 0 = 0 := by unfold sgn; split <;> rfl
    rw [this]
    exact rep_zero
  · rw [if_neg hlt]
    have h1 := rep_made (a.1 != b.1) (some (lim (mag a / mag b)))
    have h2 := rep_made a.1 (some (lim (mag a % mag b)))
    simp only [Option.getD_some, val_lim] at h1 h2
    exact ⟨rfl, h1, h2⟩
end Go.Proofs.YtikkpecdkdgmfaaDoor

/- Numbers of any size: quotients by one limb; the law's own functions. -/
set_option maxRecDepth 100000
set_option maxHeartbeats 2000000
namespace Go.Proofs.YtikkpecdkdgmfaaDoor
open Go Go.Den
abbrev eDiv (r : Nm × Nm × Bool) : AV := .tup [eN r.1, eN r.2.1, .bool r.2.2]
noncomputable def pDiv1 : Pol := .still (p2 cN cN eDiv (fun a b => lot a.2 ∧ lot b.2 ∧ (lim (mag b)).length ≤ 1) divS)
noncomputable abbrev TDiv1 : List (FuncId × Pol) := [(38, pCut), (44, pSize), (19, pNorm), (36, pByOne), (34, pMade)]
theorem okDiv1 : PolOK base 21 pDiv1 := still2 base_ok TDiv1 ⟨okCut, okSize, okNorm, okByOne, okMade, trivial⟩ fun a b ⟨la, lb, h1⟩ => by
  refine Evs.of fun n m => ?_
  have ha := la.few
  have hb := lb.few
  have ga : (cutS a.2).getD [] = lim (mag a) := cutS_get
  have gb : (cutS b.2).getD [] = lim (mag b) := cutS_get
  have fa := few_cut ha
  have fb := few_cut hb
  have hsz : sizeS (cutS a.2) (cutS b.2) = cmpN (mag a) (mag b) := sizeS_lim ga gb
  unfold divS
  by_cases hB : mag b = 0
  · rw [if_pos hB]
    have gb0 : (cutS b.2).getD [] = [] := by rw [gb, hB, lim_zero]
    simp [↓test_bool, ↓bindV_eq, ↓bindC_eq, ↓bindH_eq, ↓withV_of, ↓chkD_true, S21, qCut ha, qCut hb, A.ofList, gb0, A.fill, A.fits, A.splice]
    exact frz_nnb (d := none) (e := none)
  · rw [if_neg hB]
    have hl : (lim (mag b)).length = 1 := by
      have : lim (mag b) ≠ [] := fun e => hB (lim_nil.1 e)
      have := List.length_pos_iff.2 this
      omega
    have hl0 : ¬ ((lim (mag b)).length : Int) = 0 := by omega
    have hl1 : ((lim (mag b)).length : Int) = 1 := by omega
    by_cases hlt : mag a < mag b
    · rw [if_pos hlt]
      have hc : cmpN (mag a) (mag b) < 0 := by unfold cmpN cmpI; rw [if_pos (by omega)]; omega
      simp [↓test_bool, ↓bindV_eq, ↓bindC_eq, ↓bindH_eq, ↓withV_of, ↓chkD_true, S21, qCut ha, qCut hb, A.ofList, gb, hl1, kSize fa fb, hsz, hc, kNorm ha, A.fill, A.fits, A.splice]
      exact frz_nnb (d := none)
    · rw [if_neg hlt]
      have hc : ¬ cmpN (mag a) (mag b) < 0 := by
        unfold cmpN cmpI
        rw [if_neg (by omega)]
        split <;> omega
      have hb32 : mag b < 4294967296 := by
        have := lim_le.1 (Nat.le_of_eq hl)
        simpa using this
      have hy : lim (mag b) = [UInt32.ofNat (mag b)] := by
        rw [lim_pos hB, Nat.div_eq_of_lt hb32, lim_zero]
      have hyn : (UInt32.ofNat (mag b)).toNat = mag b := by rw [limb_of, Nat.mod_eq_of_lt hb32]
      have hx : A.idx 1 (eD (cutS b.2)) (.int .i64 0) [] = some (.rop [eu (UInt32.ofNat (mag b))]) := by
        have h := idx_eD (d := cutS b.2) (H := []) (k := .i64) (i := 0) (by rw [gb, hl]; omega)
        have e : ((cutS b.2).getD [])[0]'(by rw [gb, hl]; omega) = UInt32.ofNat (mag b) := by
          have : (cutS b.2).getD [] = [UInt32.ofNat (mag b)] := by rw [gb, hy]
          simp only [this]
          rfl
        rw [e] at h
        exact h
      have hby : byOneS (cutS a.2) (UInt32.ofNat (mag b)) = (some (digs (lim (mag a)).length (mag a / mag b)), UInt32.ofNat (mag a % mag b)) := by
        unfold byOneS
        rw [ga, val_lim, hyn]
      have hk : ∀ (H : Heap) (k : AV → Heap → Option AV), polK pByOne [eD (cutS a.2), eu (UInt32.ofNat (mag b))] H k = k (.tup [eD (some (digs (lim (mag a)).length (mag a / mag b))), eu (UInt32.ofNat (mag a % mag b))]) H := fun H k => by
        rw [kByOne fa (by rw [hyn]; exact hB), hby]
      obtain ⟨p, hp⟩ : ∃ p, (a.1 != b.1) = p := ⟨_, rfl⟩
      have hbin : ∀ H, A.bin base.P .neq 4 (.bool a.1) (.bool b.1) false H = some (.bool p) := fun H => by rw [A.bin_bne ty_bool, ← hp]; rfl
      have hq : madeS p (some (digs (lim (mag a)).length (mag a / mag b))) = madeS p (some (lim (mag a / mag b))) := made_val (by
        rw [val_lim]
        refine val_digs_lt ?_
        have := lim_le.1 (Nat.le_refl (lim (mag a)).length)
        exact Nat.lt_of_le_of_lt (Nat.div_le_self _ _) this)
      have hrm : mag a % mag b < mag b := Nat.mod_lt _ (by omega)
      have hr : madeS a.1 (some [UInt32.ofNat (mag a % mag b)]) = madeS a.1 (some (lim (mag a % mag b))) := made_val (by
        rw [val_lim, val, val, limb_of, Nat.mod_eq_of_lt (by omega), Nat.mul_zero, Nat.add_zero])
      have fq : few (some (digs (lim (mag a)).length (mag a / mag b))) := by
        unfold few
        simp only [Option.getD_some, digs_length]
        have := lot_cut la
        unfold lot at this
        rw [ga] at this
        omega
      generalize UInt32.ofNat (mag a % mag b) = r at *
      generalize UInt32.ofNat (mag b) = y at *
      generalize digs (lim (mag a)).length (mag a / mag b) = q at *
      have hfz : freezeAll [.row 0 1 64 [eu r]] [.bool a.1, .sl 0 0 0 1 1] = some [.bool a.1, eD (some [r])] := freezeAll_bool (freezeAll_cons (frz_limbs (l := [r]) rfl rfl 62) rfl)
      obtain ⟨G, hm⟩ : ∃ G : Heap, ∀ (k : AV → Heap → Option AV), polK pMade [.bool a.1, .sl 0 0 0 1 1] [.row 0 1 64 [eu r]] k = k (eN (madeS a.1 (some [r]))) G := ⟨_, fun k => by
        unfold pMade
        rw [polK_frz hfz]
        simp only [p2_app, dec_cB, dec_cD, Option.bind_some]
        rw [if_pos (by simp [few])]
        rfl⟩
      rw [hp, ← hq, ← hr]
      have hone := fillElems_one (eu r) (.int .u32 0) rfl rfl
      have hqm : ∀ (H : Heap) (k : AV → Heap → Option AV), polQ pMade [.bool p, eD (some q)] H k = k (eN (madeS p (some q))) H := fun H k => qMade fq
      generalize madeS p (some q) = M at *
      generalize madeS a.1 (some [r]) = N at *
      obtain ⟨M1, M2⟩ := M
      obtain ⟨N1, N2⟩ := N
      simp [↓test_bool, ↓bindV_eq, ↓bindC_eq, ↓bindH_eq, ↓withV_of, ↓withL_some, ↓chkD_true, S21, qCut ha, qCut hb, A.ofList, gb, hl1, kSize fa fb, hsz, hc, hx, hk, hbin, hqm, hone, hm, A.fill, A.fits, A.splice]
theorem kDiv1 {R : Type} {a b : Nm} (la : lot a.2) (lb : lot b.2) (h1 : (lim (mag b)).length ≤ 1) {H : Heap} {k : AV → Heap → Option R} : polK pDiv1 [eN a, eN b] H k = k (eDiv (divS a b)) H := by
  simp [pDiv1, polK_imm, la, lb, h1]
theorem qDiv1 {R : Type} {a b : Nm} (la : lot a.2) (lb : lot b.2) (h1 : (lim (mag b)).length ≤ 1) {H : Heap} {k : AV → Heap → Option R} : polQ pDiv1 [eN a, eN b] H k = k (eDiv (divS a b)) H := by
  simp [pDiv1, polQ_imm, la, lb, h1]
noncomputable def pSame3 : Pol := .still (p2 cN cN .bool (fun a b => few a.2 ∧ few b.2) sameS)
theorem okSame3 : PolOK base 12 pSame3 := still2 base_ok [(35, pSame)] ⟨okSame, trivial⟩ fun a b ⟨ha, hb⟩ => by
  refine Evs.of fun n m => ?_
  simp [↓bindC_eq, ↓withV_of, ↓chkD_true, S12, A.ofList, A.fill, A.splice, kSame ha hb]
theorem kSame3 {R : Type} {a b : Nm} (ha : few a.2) (hb : few b.2) {H : Heap} {k : AV → Heap → Option R} : polK pSame3 [eN a, eN b] H k = k (.bool (sameS a b)) H := by
  simp [pSame3, polK_imm, ha, hb]
theorem qSame3 {R : Type} {a b : Nm} (ha : few a.2) (hb : few b.2) {H : Heap} {k : AV → Heap → Option R} : polQ pSame3 [eN a, eN b] H k = k (.bool (sameS a b)) H := by
  simp [pSame3, polQ_imm, ha, hb]
end Go.Proofs.YtikkpecdkdgmfaaDoor

/- Numbers of any size: shifts by some bits. -/
set_option maxRecDepth 100000
set_option maxHeartbeats 2000000
namespace Go.Proofs.YtikkpecdkdgmfaaDoor
open Go Go.Den
/-! ### so many bits more -/
theorem or_u32 {P : Program} {t : TypeId} {c : Bool} {H : Heap} {x y s : Nat} (hx : x < 2 ^ s) (h : x + 2 ^ s * y < 4294967296) :
    A.bin P .or t (.int .u32 (x : Int)) (.int .u32 ((2 ^ s * y : Nat) : Int)) c H = some (.int .u32 ((x + 2 ^ s * y : Nat) : Int)) := by
  have e : x ||| 2 ^ s * y = x + 2 ^ s * y := by rw [Nat.or_comm, ← Nat.two_pow_add_eq_or_of_lt hx, Nat.add_comm]
  have key : ∀ p q : Nat, p < 4294967296 → q < 4294967296 → (BitVec.ofInt 32 (p : Int) ||| BitVec.ofInt 32 (q : Int)).toNat = p ||| q := fun p q hp hq => by
    rw [BitVec.toNat_or]
    simp
    rw [Nat.mod_eq_of_lt hp, Nat.mod_eq_of_lt hq]
  simp only [A.bin, decide_true, cond_true, A.binInt, A.bits, Option.map_some]
  rw [show IntKind.bits .u32 = 32 from rfl, key _ _ (by omega) (by omega), e, wrap_u32 (by omega) (by omega)]
theorem pow_split {s : Nat} (h : s ≤ 31) : 2 ^ s * 2 ^ (32 - s) = 4294967296 := by
  rw [← Nat.pow_add, Nat.add_sub_cancel' (by omega : s ≤ 32)]
theorem pow_small {s : Nat} (h : s ≤ 31) : 2 ^ s ≤ 2147483648 := by
  have : 2 ^ s ≤ 2 ^ 31 := Nat.pow_le_pow_right (by omega) h
  exact this
theorem shift_low {p p' x : Nat} (h : p * p' = 4294967296) : ∃ z, (p * x) % 4294967296 = p * z ∧ ∀ r, r < p → r + p * z < 4294967296 := by
  refine ⟨x % p', by rw [← h, Nat.mul_mod_mul_left], fun r hr => ?_⟩
  have hp : 0 < p' := by
    rcases Nat.eq_zero_or_pos p' with h0 | h0
    · rw [h0] at h; omega
    · exact h0
  have h2 : x % p' < p' := Nat.mod_lt _ hp
  have h3 : p * (x % p' + 1) ≤ p * p' := Nat.mul_le_mul_left _ h2
  rw [h, Nat.mul_add] at h3
  omega
theorem shift_alg {v V1 V2 od al T w p z hi B : Nat} (hset1 : V1 + w * od = v + w * (od + p * z)) (hset2 : V2 + w * B * 0 = V1 + w * B * hi) (hdm : p * z + B * hi = p * al) (hv : v = p * T) : V2 = p * (T + w * al) := by
  have e2 : V1 = v + w * (p * z) := by
    have : w * (od + p * z) = w * od + w * (p * z) := Nat.mul_add _ _ _
    omega
  have e1 : V2 = V1 + w * B * hi := by rw [Nat.mul_zero] at hset2; exact hset2
  rw [e1, e2, hv, Nat.mul_assoc w B hi, Nat.add_assoc, ← Nat.mul_add w, hdm, Nat.mul_add p, Nat.mul_left_comm w p al]
def shiftedL (l : List UInt32) (s : Nat) : List UInt32 := digs (l.length + 1) (2 ^ s * val l)
theorem shifted_loop {pol : FuncId → Pol} {a : Option (List UInt32)} {s id : Nat} (hs : s ≤ 31) (hf : (a.getD []).length ≤ 1000000) : ∀ (k i : Nat) (o : List UInt32) (H : Heap), k + i = (a.getD []).length → o.length = (a.getD []).length + 1 → val o = 2 ^ s * val ((a.getD []).take i) →
    H[id]? = some (.row 0 1 64 (o.map eu)) →
    ∃ H', LDoes (L64_0 pol) ⟨[.int .i64 (s : Nat), .sl id 0 0 ((a.getD []).length + 1) ((a.getD []).length + 1), eD a, .int .i64 ((a.getD []).length : Nat), .int .i64 (i : Nat)], []⟩ H 0 ⟨[.sl id 0 0 ((a.getD []).length + 1) ((a.getD []).length + 1)], []⟩ H' ∧
      H'[id]? = some (.row 0 1 64 ((shiftedL (a.getD []) s).map eu)) ∧ H'.length = H.length ∧ ∀ j, j ≠ id → H'[j]? = H[j]? := by
  intro k
  induction k with
  | zero =>
    intro i o H hk ho hv hH
    have : i = (a.getD []).length := by omega
    subst this
    rw [List.take_length] at hv
    have e : o = shiftedL (a.getD []) s := eq_digs ho hv
    rw [e] at hH
    refine ⟨H, LDoes.step (Evs.of fun n m => ?_), hH, rfl, fun _ _ => rfl⟩
    simp [↓test_bool, ↓withV_of, L64_0_step]
  | succ k ih =>
    intro i o H hk ho hv hH
    have hlt : i < (a.getD []).length := by omega
    have hx := idx_eD (d := a) (H := H) (k := .i64) (i := i) (by omega)
    have hal := limb_lt (a.getD [])[i]
    have hps : 0 < 2 ^ s := Nat.pow_pos (by omega)
    have hp31 := pow_small hs
    -- what stood there: the carry
    have hcar : val o < 4294967296 ^ i * 2 ^ s := by
      rw [hv, Nat.mul_comm]
      exact Nat.mul_lt_mul_of_pos_right (val_take_lt _ _) hps
    have hio : i < o.length := by omega
    have hio2 : i + 1 < o.length := by omega
    have hdr := val_drop (l := o) (n := i) (by omega)
    have hd1 : o.drop i = o[i] :: o[i + 1] :: o.drop (i + 2) := by rw [List.drop_eq_getElem_cons hio, List.drop_eq_getElem_cons hio2]
    have hsmall : val (o.drop i) < 2 ^ s := by
      have : 4294967296 ^ i * val (o.drop i) < 4294967296 ^ i * 2 ^ s := by omega
      exact Nat.lt_of_mul_lt_mul_left this
    have hoi : (o[i]).toNat < 2 ^ s := by rw [hd1, val] at hsmall; omega
    have hoi2 : (o[i + 1]).toNat = 0 := by
      rw [hd1, val, val] at hsmall
      omega
    have hy : 2 ^ s * ((a.getD [])[i]).toNat < 9223372036854775808 := by
      have : 2 ^ s * ((a.getD [])[i]).toNat ≤ 2147483648 * 4294967295 := Nat.mul_le_mul hp31 (by omega)
      omega
    -- the low bits of what is laid there
    obtain ⟨z, hz, hzf⟩ := shift_low (x := ((a.getD [])[i]).toNat) (pow_split hs)
    have hfit := hzf _ hoi
    have hset1 := val_set hio (UInt32.ofNat ((o[i]).toNat + 2 ^ s * z))
    have hset2 := val_set (l := o.set i (UInt32.ofNat ((o[i]).toNat + 2 ^ s * z))) (i := i + 1) (by rw [List.length_set]; exact hio2) (UInt32.ofNat (2 ^ s * ((a.getD [])[i]).toNat / 4294967296))
    have hne : (o.set i (UInt32.ofNat ((o[i]).toNat + 2 ^ s * z)))[i + 1]'(by rw [List.length_set]; exact hio2) = o[i + 1] := List.getElem_set_ne (by omega) _
    rw [hne, hoi2, limb_of, Nat.mod_eq_of_lt (by omega)] at hset2
    rw [limb_of, Nat.mod_eq_of_lt hfit] at hset1
    have hvn : val ((o.set i (UInt32.ofNat ((o[i]).toNat + 2 ^ s * z))).set (i + 1) (UInt32.ofNat (2 ^ s * ((a.getD [])[i]).toNat / 4294967296))) = 2 ^ s * val ((a.getD []).take (i + 1)) := by
      rw [val_take_succ hlt]
      have hdm := Nat.mod_add_div (2 ^ s * ((a.getD [])[i]).toNat) 4294967296
      rw [hz] at hdm
      rw [Nat.pow_succ] at hset2
      exact shift_alg hset1 hset2 hdm hv
    obtain ⟨r1, r2, r3⟩ := lrow (k := .i64) (n := (a.getD []).length + 1) (j := i) (i := (i : Int)) hH ho.symm hio rfl
    have hH1 := row_set (x := .row 0 1 64 ((o.set i (UInt32.ofNat ((o[i]).toNat + 2 ^ s * z))).map eu)) hH
    obtain ⟨q1, q2, q3⟩ := lrow (k := .i64) (n := (a.getD []).length + 1) (j := i + 1) (i := (i : Int) + 1) hH1 (by rw [List.length_set, ho]) (by rw [List.length_set]; omega) (by omega)
    obtain ⟨H', hL, hr, hlen, hoth⟩ := ih (i + 1) _ _ (by omega) (by rw [List.length_set, List.length_set, ho]) hvn (row_set hH1)
    refine ⟨H', LDoes.step (Evs.withL hL (Evs.of fun n m _ h3 => ?_)), hr, by rw [hlen]; simp, fun j hj => by rw [hoth j hj, get_set_ne (Ne.symm hj), get_set_ne (Ne.symm hj)]⟩
    have hsh : ∀ (t : TypeId) (H : Heap), A.bin base.P .shl t (.int .u64 (((a.getD [])[i]).toNat : Int)) (.int .i64 (s : Int)) false H = some (.int .u64 ((2 ^ s * ((a.getD [])[i]).toNat : Nat) : Int)) := fun t H => shl_nat (by omega) (by omega)
    have hw : IntKind.wrap .u32 ((2 ^ s * ((a.getD [])[i]).toNat : Nat) : Int) = ((2 ^ s * z : Nat) : Int) := by rw [wrap_nat32, limb_of, hz]
    have hor := or_u32 (P := base.P) (t := 64) (c := false) (H := H) hoi hfit
    have hlo : (((o[i]).toNat + 2 ^ s * z : Nat) : Int) = ((UInt32.ofNat ((o[i]).toNat + 2 ^ s * z)).toNat : Nat) := by rw [limb_of, Nat.mod_eq_of_lt hfit]
    rw [hlo] at hor
    have hst := r3 (UInt32.ofNat ((o[i]).toNat + 2 ^ s * z))
    have hsr : ∀ (H : Heap), A.bin base.P .shr 63 (.int .u64 ((2 ^ s * ((a.getD [])[i]).toNat : Nat) : Int)) (.int .u64 32) true H = some (.int .u64 ((2 ^ s * ((a.getD [])[i]).toNat / 4294967296 : Nat) : Int)) := fun H => shr_u64 (s := 32) (by omega)
    have hhi : IntKind.wrap .u32 ((2 ^ s * ((a.getD [])[i]).toNat / 4294967296 : Nat) : Int) = (UInt32.ofNat (2 ^ s * ((a.getD [])[i]).toNat / 4294967296)).toNat := wrap_nat32 _
    have hst2 := q3 (UInt32.ofNat (2 ^ s * ((a.getD [])[i]).toNat / 4294967296))
    generalize UInt32.ofNat (2 ^ s * ((a.getD [])[i]).toNat / 4294967296) = dhi at *
    generalize ((2 ^ s * ((a.getD [])[i]).toNat / 4294967296 : Nat) : Int) = hii at *
    generalize ((2 ^ s * ((a.getD [])[i]).toNat : Nat) : Int) = yy at *
    generalize UInt32.ofNat ((o[i]).toNat + 2 ^ s * z) = dlo at *
    generalize ((2 ^ s * z : Nat) : Int) = zz at *
    simp only [Int.natCast_add, Int.natCast_one, List.map_set, List.set_set] at h3 hst hst2 q1 q2
    simp (disch := omega) [↓test_bool, ↓withV_of, ↓withH_some, L64_0_step, hlt, hx, cv_32_64, cv_64_32, hsh, r1, r2, hw, hor, hst, wrap_i64, hsr, hhi, q1, hst2, h3]
end Go.Proofs.YtikkpecdkdgmfaaDoor
