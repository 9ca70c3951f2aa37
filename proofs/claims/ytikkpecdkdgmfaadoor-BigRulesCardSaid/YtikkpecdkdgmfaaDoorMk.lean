/- Texts put together: Sb4, Sb5, Sb6. -/
import Derived.Test.YtikkpecdkdgmfaaDoorMj

/- What each function does, in Den's words. -/
set_option maxRecDepth 100000
namespace Go.Proofs.YtikkpecdkdgmfaaDoor
open Go Go.Den

theorem L10_1_step (pol : FuncId → Pol) (n m : Nat) (t4 t5 t6 t8 t24 t25 t34 t35 : AV) (c0 : List AV) (H : Heap) : L10_1 pol n (m + 1) ⟨[t4, t5, t6, t8, t24, t25, t34, t35], [c0]⟩ H =
  (withV (A.bin base.P .lss 3 t35 t34 false H) fun t36 =>
  A.test t36 (
  withV (A.idx 1 t6 t35 H) fun t41 =>
  withV (A.load false 1 t41 H) fun t42 =>
  withV (Go.Den.convert base 64 63 t42) fun t43 =>
  withV (A.bin base.P .mul 63 (AV.int .u64 10) t43 false H) fun t44 =>
  withV (A.bin base.P .add 63 t8 t44 false H) fun t45 =>
  withV (Go.Den.convert base 63 64 t45) fun t49 =>
  withV (A.idx 1 t6 t35 H) fun t50 =>
  withH (A.store 1 t50 t49 H) fun H1 =>
  withV (A.bin base.P .shr 63 t45 (AV.int .u64 32) true H1) fun t52 =>
  withV (A.bin base.P .add 3 t35 (AV.int .i64 1) true H1) fun t53 =>
  L10_1 pol n m ⟨[t4, t5, t6, t52, t24, t25, t34, t53], [c0]⟩ H1)
  (
  some (0, ⟨[t4, t5, t6, t8, t24, t25], [c0]⟩, H))) := by kernel_rfl
theorem L10_0_step (pol : FuncId → Pol) (n m : Nat) (t4 t5 t6 t24 t25 : AV) (c0 : List AV) (H : Heap) : L10_0 pol n (m + 1) ⟨[t4, t5, t6, t24, t25], [c0]⟩ H =
  (withV (A.bin base.P .lss 3 t25 t24 false H) fun t26 =>
  A.test t26 (
  withV (A.index t4 t25) fun t30 =>
  withV (A.bin base.P .sub 5 t30 (AV.int .u8 48) true H) fun t31 =>
  withV (Go.Den.convert base 5 63 t31) fun t32 =>
  withV (A.len t6 H) fun t34 =>
  bindX (L10_1 pol n n ⟨[t4, t5, t6, t32, t24, t25, t34, (AV.int .i64 0)], [c0]⟩ H) fun i2 l2 H2 =>
  altN i2 0 (
  bindV (l2.vs.getD 0 .undef) fun t4 => bindV (l2.vs.getD 1 .undef) fun t5 => bindV (l2.vs.getD 2 .undef) fun t6 => bindV (l2.vs.getD 3 .undef) fun t8 => bindV (l2.vs.getD 4 .undef) fun t24 => bindV (l2.vs.getD 5 .undef) fun t25 => bindC (l2.cs.getD 0 []) fun c0 => 
  withV (A.bin base.P .gtr 63 t8 (AV.int .u64 0) true H2) fun t55 =>
  bindX (A.test t55 (
   withV (Go.Den.convert base 63 64 t8) fun t58 =>
    withL (A.fillElems 1 (List.replicate 1 (AV.int .u32 0)) [(0, 1, t58)]) fun es =>
    bindV (.sl H2.length 0 0 es.length es.length) fun t59 => bindH (H2 ++ [.row 0 1 64 es]) fun H3 =>
    withL (newsOf base 1 22 t59 H3) fun es =>
    withVH (A.append 1 4 64 t6 es H3) fun t60 H4 =>
    some (0, ⟨[t4, t5, t60, t24, t25], [c0]⟩, H4))
   (
   some (0, ⟨[t4, t5, t6, t24, t25], [c0]⟩, H2))) fun i5 l5 H5 =>
  altN i5 0 (
  bindV (l5.vs.getD 0 .undef) fun t4 => bindV (l5.vs.getD 1 .undef) fun t5 => bindV (l5.vs.getD 2 .undef) fun t6 => bindV (l5.vs.getD 3 .undef) fun t24 => bindV (l5.vs.getD 4 .undef) fun t25 => bindC (l5.cs.getD 0 []) fun c0 => 
  withV (A.bin base.P .add 3 t25 (AV.int .i64 1) true H5) fun t61 =>
  L10_0 pol n m ⟨[t4, t5, t6, t24, t61], [c0]⟩ H5)
  (none))
  (none))
  (
  some (0, ⟨[t5, t6], [c0]⟩, H))) := by kernel_rfl
/-- tenement/big.Parse -/
theorem S10 (pol : FuncId → Pol) (n : Nat) (R : Type) (k : AV → Heap → Option R) (a0 : AV) (H : Heap) : callF (base.with pol) (n + 1) R 10 [a0] H k =
  (bindC [(AV.bool false), AV.nils] fun c0 =>
  cl base pol n 32 [a0] H fun t11 H1 =>
  withV (A.un .not t11) fun t12 =>
  A.test t12 (
  withV ((A.fill [(AV.bool false), AV.nils] []).map .agg) fun t13 =>
   chkD (A.fits 2 t13 && decide (0 + (t13).cells.length ≤ c0.length)) (bindC (A.splice c0 0 (t13).cells) fun c0 =>
   withV (A.ofList true 2 c0 0) fun r2 => k (.tup [r2, (AV.int .i64 10)]) H1))
  (
  cl base pol n 33 [a0, (AV.str [45])] H1 fun t16 H2 =>
  extractK t16 0 fun t17 =>
  extractK t16 1 fun t18 =>
  withV (A.lenStr t17) fun t20 =>
  withV (A.bin base.P .gtr 3 t20 (AV.int .i64 620) true H2) fun t21 =>
  A.test t21 (
  withV ((A.fill [(AV.bool false), AV.nils] []).map .agg) fun t22 =>
   chkD (A.fits 2 t22 && decide (0 + (t22).cells.length ≤ c0.length)) (bindC (A.splice c0 0 (t22).cells) fun c0 =>
   withV (A.ofList true 2 c0 0) fun r2 => k (.tup [r2, (AV.int .i64 3)]) H2))
  (
  withV (A.lenStr t17) fun t24 =>
  bindX (L10_0 pol n n ⟨[t17, t18, AV.nils, t24, (AV.int .i64 0)], [c0]⟩ H2) fun i5 l5 H5 =>
  altN i5 0 (
  bindV (l5.vs.getD 0 .undef) fun t5 => bindV (l5.vs.getD 1 .undef) fun t6 => bindC (l5.cs.getD 0 []) fun c0 => 
  withV (A.len t6 H5) fun t63 =>
  withV (A.bin base.P .gtr 3 t63 (AV.int .i64 64) true H5) fun t64 =>
  A.test t64 (
  withV ((A.fill [(AV.bool false), AV.nils] []).map .agg) fun t65 =>
   chkD (A.fits 2 t65 && decide (0 + (t65).cells.length ≤ c0.length)) (bindC (A.splice c0 0 (t65).cells) fun c0 =>
   withV (A.ofList true 2 c0 0) fun r2 => k (.tup [r2, (AV.int .i64 3)]) H5))
  (
  cl base pol n 34 [t5, t6] H5 fun t68 H7 =>
  chkD (A.fits 2 t68 && decide (0 + (t68).cells.length ≤ c0.length)) (bindC (A.splice c0 0 (t68).cells) fun c0 =>
  withV (A.ofList true 2 c0 0) fun r2 => k (.tup [r2, (AV.int .i64 0)]) H7)))
  (none)))) := by kernel_rfl
theorem L11_1_step (pol : FuncId → Pol) (n m : Nat) (t0 t4 t7 : AV) (c0 c1 : List AV) (H : Heap) : L11_1 pol n (m + 1) ⟨[t0, t4, t7], [c0, c1]⟩ H =
  (withV (A.lenStr t0) fun t61 =>
  withV (A.bin base.P .lss 3 t7 t61 false H) fun t62 =>
  A.test t62 (
  withV (A.ofList true 2 c1 0) fun t66 =>
  clQ base pol 17 [(AV.int .i64 10)] H fun t67 H2 =>
  clQ base pol 25 [t66, t67] H2 fun t68 H3 =>
  extractK t68 0 fun t69 =>
  extractK t68 1 fun t70 =>
  bindC [(AV.bool false), AV.nils] fun c2 =>
  chkD (A.fits 2 t69 && decide (0 + (t69).cells.length ≤ c2.length)) (bindC (A.splice c2 0 (t69).cells) fun c2 =>
  withV (A.ofList true 2 c2 0) fun t71 =>
  withV (A.index t0 t7) fun t74 =>
  withV (A.bin base.P .sub 5 t74 (AV.int .u8 48) true H3) fun t75 =>
  withV (Go.Den.convert base 5 2 t75) fun t76 =>
  clQ base pol 17 [t76] H3 fun t77 H4 =>
  clQ base pol 29 [t71, t77] H4 fun t78 H5 =>
  chkD (A.fits 2 t78 && decide (0 + (t78).cells.length ≤ c1.length)) (bindC (A.splice c1 0 (t78).cells) fun c1 =>
  withV (A.bin base.P .add 3 t7 (AV.int .i64 1) true H5) fun t64 =>
  L11_1 pol n m ⟨[t0, t4, t64], [c0, c1]⟩ H5)))
  (
  some (0, ⟨[t4], [c0, c1]⟩, H))) := by kernel_rfl
theorem L11_0_step (pol : FuncId → Pol) (n m : Nat) (t0 t4 t5 : AV) (c0 : List AV) (H : Heap) : L11_0 pol n (m + 1) ⟨[t0, t4, t5], [c0]⟩ H =
  (withV (A.lenStr t0) fun t23 =>
  withV (A.bin base.P .lss 3 t5 t23 false H) fun t24 =>
  A.test t24 (
  withV (A.index t0 t5) fun t29 =>
  withV (A.bin base.P .lss 5 t29 (AV.int .u8 48) true H) fun t30 =>
  withB (A.asG false t30) fun b5 => withP (guardB b5 false (
   some (t0, H))
   (some (.tup [], H))) fun t32 H2 =>
  withB (A.asG false t30) fun b6 => withP (guardB b6 false (
   some (t5, H2))
   (some (.tup [], H2))) fun t33 H3 =>
  withB (A.asG false t30) fun b7 => withP (guardB b7 false (
   withV (A.index t32 t33) fun t34 =>
   some (t34, H3))
   (some (.tup [], H3))) fun t34 H4 =>
  withB (A.asG false t30) fun b8 => withP (guardB b8 false (
   withV (A.bin base.P .gtr 5 t34 (AV.int .u8 57) true H4) fun t35 =>
   some (t35, H4))
   (some (.tup [], H4))) fun t35 H5 =>
  withV (A.pick t30 (AV.bool true) t35) fun t36 =>
  A.test t36 (
  withV ((A.fill [(AV.bool false), AV.nils] []).map .agg) fun t37 =>
   chkD (A.fits 2 t37 && decide (0 + (t37).cells.length ≤ c0.length)) (bindC (A.splice c0 0 (t37).cells) fun c0 =>
   some (1, ⟨[t0, (AV.int .i64 10), t4], [c0]⟩, H5)))
  (
  withV (A.bin base.P .add 3 t5 (AV.int .i64 1) true H5) fun t26 =>
  L11_0 pol n m ⟨[t0, t4, t26], [c0]⟩ H5))
  (
  some (0, ⟨[t0, .undef, t4], [c0]⟩, H))) := by kernel_rfl
/-- tenement/tenementref1.ParseNum -/
theorem S11 (pol : FuncId → Pol) (n : Nat) (R : Type) (k : AV → Heap → Option R) (a0 : AV) (H : Heap) : callF (base.with pol) (n + 1) R 11 [a0] H k =
  (bindC [(AV.bool false), AV.nils] fun c0 =>
  withV (A.lenStr a0) fun t11 =>
  withV (A.bin base.P .gtr 3 t11 (AV.int .i64 0) true H) fun t12 =>
  withB (A.asG true t12) fun b4 => withP (guardB b4 true (
   some (a0, H))
   (some (.tup [], H))) fun t14 H2 =>
  withB (A.asG true t12) fun b5 => withP (guardB b5 true (
   withV (A.index t14 (AV.int .i64 0)) fun t15 =>
   some (t15, H2))
   (some (.tup [], H2))) fun t15 H3 =>
  withB (A.asG true t12) fun b6 => withP (guardB b6 true (
   withV (A.bin base.P .eql 5 t15 (AV.int .u8 45) true H3) fun t16 =>
   some (t16, H3))
   (some (.tup [], H3))) fun t16 H4 =>
  withV (A.pick t12 t16 (AV.bool false)) fun t17 =>
  bindX (A.test t17 (
   withV (A.sliceStr a0 (some (AV.int .i64 1)) none) fun t20 =>
    some (0, ⟨[t20, t17], [c0]⟩, H4))
   (
   some (0, ⟨[a0, t17], [c0]⟩, H4))) fun i5 l5 H5 =>
  altN i5 0 (
  bindV (l5.vs.getD 0 .undef) fun t0 => bindV (l5.vs.getD 1 .undef) fun t4 => bindC (l5.cs.getD 0 []) fun c0 => 
  bindX (L11_0 pol n n ⟨[t0, t4, (AV.int .i64 0)], [c0]⟩ H5) fun i6 l6 H6 =>
  altN i6 0 (
  bindV (l6.vs.getD 0 .undef) fun t0 => bindV (l6.vs.getD 1 .undef) fun t3 => bindV (l6.vs.getD 2 .undef) fun t4 => bindC (l6.cs.getD 0 []) fun c0 => 
  withV (A.bin base.P .eql 9 t0 (AV.str []) true H6) fun t39 =>
  withB (A.asG false t39) fun b3 => withP (guardB b3 false (
   some (t0, H6))
   (some (.tup [], H6))) fun t41 H7 =>
  withB (A.asG false t39) fun b4 => withP (guardB b4 false (
   withV (A.index t41 (AV.int .i64 0)) fun t42 =>
   some (t42, H7))
   (some (.tup [], H7))) fun t42 H8 =>
  withB (A.asG false t39) fun b5 => withP (guardB b5 false (
   withV (A.bin base.P .eql 5 t42 (AV.int .u8 48) true H8) fun t43 =>
   some (t43, H8))
   (some (.tup [], H8))) fun t43 H9 =>
  withB (A.asG false t39) fun b6 => withP (guardB b6 false (
   some (t43, H9))
   (some (.tup [], H9))) fun t44 H10 =>
  withB (A.asG true t44) fun b7 => withP (guardB b7 true (
   some (t0, H10))
   (some (.tup [], H10))) fun t45 H11 =>
  withB (A.asG true t44) fun b8 => withP (guardB b8 true (
   withV (A.lenStr t45) fun t46 =>
   some (t46, H11))
   (some (.tup [], H11))) fun t46 H13 =>
  withB (A.asG true t44) fun b9 => withP (guardB b9 true (
   withV (A.bin base.P .gtr 3 t46 (AV.int .i64 1) true H13) fun t47 =>
   some (t47, H13))
   (some (.tup [], H13))) fun t47 H14 =>
  withB (A.asG true t44) fun b10 => withP (guardB b10 true (
   some (t47, H14))
   (some (.tup [], H14))) fun t48 H15 =>
  withB (A.asG false t48) fun b11 => withP (guardB b11 false (
   some (t4, H15))
   (some (.tup [], H15))) fun t49 H16 =>
  withB (A.asG true t44) fun b12 => withP (guardB b12 true (
   withV (A.pick t48 (AV.bool true) t49) fun t50 =>
   some (t50, H16))
   (some (.tup [], H16))) fun t50 H17 =>
  withB (A.asG false t39) fun b13 => withP (guardB b13 false (
   withV (A.pick t44 t50 (AV.bool false)) fun t51 =>
   some (t51, H17))
   (some (.tup [], H17))) fun t51 H18 =>
  withV (A.pick t39 (AV.bool true) t51) fun t52 =>
  A.test t52 (
  withV ((A.fill [(AV.bool false), AV.nils] []).map .agg) fun t53 =>
   chkD (A.fits 2 t53 && decide (0 + (t53).cells.length ≤ c0.length)) (bindC (A.splice c0 0 (t53).cells) fun c0 =>
   withV (A.ofList true 2 c0 0) fun r2 => k (.tup [r2, (AV.int .i64 10)]) H18))
  (
  withV (A.lenStr t0) fun t55 =>
  withV (A.bin base.P .gtr 3 t55 (AV.int .i64 620) true H18) fun t56 =>
  A.test t56 (
  withV ((A.fill [(AV.bool false), AV.nils] []).map .agg) fun t57 =>
   chkD (A.fits 2 t57 && decide (0 + (t57).cells.length ≤ c0.length)) (bindC (A.splice c0 0 (t57).cells) fun c0 =>
   withV (A.ofList true 2 c0 0) fun r2 => k (.tup [r2, (AV.int .i64 3)]) H18))
  (
  withV ((A.fill [(AV.bool false), AV.nils] []).map .agg) fun t58 =>
  bindC [(AV.bool false), AV.nils] fun c1 =>
  chkD (A.fits 2 t58 && decide (0 + (t58).cells.length ≤ c1.length)) (bindC (A.splice c1 0 (t58).cells) fun c1 =>
  bindX (L11_1 pol n n ⟨[t0, t4, (AV.int .i64 0)], [c0, c1]⟩ H18) fun i20 l20 H20 =>
  altN i20 0 (
  bindV (l20.vs.getD 0 .undef) fun t4 => bindC (l20.cs.getD 0 []) fun c0 => bindC (l20.cs.getD 1 []) fun c1 => 
  withV (A.ofList false 1 c1 1) fun t80 =>
  withV (A.len t80 H20) fun t81 =>
  withV (A.bin base.P .gtr 3 t81 (AV.int .i64 64) true H20) fun t82 =>
  A.test t82 (
  withV ((A.fill [(AV.bool false), AV.nils] []).map .agg) fun t83 =>
   chkD (A.fits 2 t83 && decide (0 + (t83).cells.length ≤ c0.length)) (bindC (A.splice c0 0 (t83).cells) fun c0 =>
   withV (A.ofList true 2 c0 0) fun r2 => k (.tup [r2, (AV.int .i64 3)]) H20))
  (
  chkD (A.fits 1 t4 && decide (0 + (t4).cells.length ≤ c1.length)) (bindC (A.splice c1 0 (t4).cells) fun c1 =>
  withV (A.ofList true 2 c1 0) fun t86 =>
  chkD (A.fits 2 t86 && decide (0 + (t86).cells.length ≤ c0.length)) (bindC (A.splice c0 0 (t86).cells) fun c0 =>
  withV (A.ofList true 2 c0 0) fun r2 => k (.tup [r2, (AV.int .i64 0)]) H20))))
  (none)))))
  (altN i6 1 (
  bindV (l6.vs.getD 0 .undef) fun t0 => bindV (l6.vs.getD 1 .undef) fun t3 => bindV (l6.vs.getD 2 .undef) fun t4 => bindC (l6.cs.getD 0 []) fun c0 => 
  withV (A.ofList true 2 c0 0) fun r2 => k (.tup [r2, t3]) H6)
  (none)))
  (none)) := by kernel_rfl
/-- tenement/tenementlaw3.same -/
theorem S12 (pol : FuncId → Pol) (n : Nat) (R : Type) (k : AV → Heap → Option R) (a0 a1 : AV) (H : Heap) : callF (base.with pol) (n + 1) R 12 [a0, a1] H k =
  (chkD ((a0).cells.length == 2 && (a0).isDef && decide (0 < 2)) (bindC (a0).cells fun c0 =>
  chkD ((a1).cells.length == 2 && (a1).isDef && decide (0 < 2)) (bindC (a1).cells fun c1 =>
  withV (A.ofList false 1 c0 0) fun t6 =>
  withV (A.ofList false 1 c0 1) fun t8 =>
  withV ((A.fill [(AV.bool false), AV.nils] [(0, 1, t6), (1, 1, t8)]).map .agg) fun t9 =>
  withV (A.ofList true 2 c1 0) fun t10 =>
  cl base pol n 35 [t9, t10] H fun t11 H1 =>
  k t11 H1))) := by kernel_rfl
theorem L13_0_step (pol : FuncId → Pol) (n m : Nat) (t3 t4 : AV) (c0 : List AV) (H : Heap) : L13_0 pol n (m + 1) ⟨[t3, t4], [c0]⟩ H =
  (withV (A.len t4 H) fun t17 =>
  withV (A.bin base.P .gtr 3 t17 (AV.int .i64 0) true H) fun t18 =>
  A.test t18 (
  cl base pol n 36 [t4, (AV.int .u32 1000000000)] H fun t21 H2 =>
  extractK t21 0 fun t22 =>
  extractK t21 1 fun t23 =>
  cl base pol n 37 [t23] H2 fun t26 H3 =>
  withL (A.fillElems 1 (List.replicate 1 (AV.str [])) [(0, 1, t26)]) fun es =>
  bindV (.sl H3.length 0 0 es.length es.length) fun t27 => bindH (H3 ++ [.row 0 1 9 es]) fun H4 =>
  withL (newsOf base 1 67 t27 H4) fun es =>
  withVH (A.append 1 16 9 t3 es H4) fun t28 H5 =>
  cl base pol n 38 [t22] H5 fun t30 H6 =>
  L13_0 pol n m ⟨[t28, t30], [c0]⟩ H6)
  (
  some (0, ⟨[t3], [c0]⟩, H))) := by kernel_rfl
/-- tenement/big.Text -/
theorem S13 (pol : FuncId → Pol) (n : Nat) (R : Type) (k : AV → Heap → Option R) (a0 : AV) (H : Heap) : callF (base.with pol) (n + 1) R 13 [a0] H k =
  (chkD ((a0).cells.length == 2 && (a0).isDef && decide (0 < 2)) (bindC (a0).cells fun c0 =>
  withV (A.ofList true 2 c0 0) fun t8 =>
  cl base pol n 19 [t8] H fun t9 H1 =>
  chkD (A.fits 2 t9 && decide (0 + (t9).cells.length ≤ c0.length)) (bindC (A.splice c0 0 (t9).cells) fun c0 =>
  withV (A.ofList false 1 c0 1) fun t11 =>
  withV (A.len t11 H1) fun t12 =>
  withV (A.bin base.P .eql 3 t12 (AV.int .i64 0) true H1) fun t13 =>
  A.test t13 (
  k (AV.str [48]) H1)
  (
  withV (A.ofList false 1 c0 1) fun t15 =>
  bindX (L13_0 pol n n ⟨[AV.nils, t15], [c0]⟩ H1) fun i3 l3 H3 =>
  altN i3 0 (
  bindV (l3.vs.getD 0 .undef) fun t3 => bindC (l3.cs.getD 0 []) fun c0 => 
  cl base pol n 39 [t3] H3 fun t32 H4 =>
  cl base pol n 41 [t3, (AV.str [])] H4 fun t34 H5 =>
  cl base pol n 40 [t34, (AV.str [48])] H5 fun t35 H6 =>
  withV (A.ofList false 1 c0 0) fun t37 =>
  bindX (A.test t37 (
   withV (A.bin base.P .add 9 (AV.str [45]) t35 false H6) fun t39 =>
    some (0, ⟨[t39], []⟩, H6))
   (
   some (0, ⟨[t35], []⟩, H6))) fun i7 l7 H7 =>
  altN i7 0 (
  bindV (l7.vs.getD 0 .undef) fun t7 => 
  k t7 H7)
  (none))
  (none))))) := by kernel_rfl
/-- tenement/tenementlaw3.Num -/
theorem S14 (pol : FuncId → Pol) (n : Nat) (R : Type) (k : AV → Heap → Option R) (a0 : AV) (H : Heap) : callF (base.with pol) (n + 1) R 14 [a0] H k =
  (chkD ((a0).cells.length == 2 && (a0).isDef && decide (0 < 2)) (bindC (a0).cells fun c0 =>
  bindC [(AV.bool false), AV.nils] fun c1 =>
  withV (A.ofList false 1 c0 0) fun t4 =>
  withV (A.ofList false 1 c0 1) fun t6 =>
  withV ((A.fill [(AV.bool false), AV.nils] [(0, 1, t4), (1, 1, t6)]).map .agg) fun t7 =>
  chkD (A.fits 2 t7 && decide (0 + (t7).cells.length ≤ c1.length)) (bindC (A.splice c1 0 (t7).cells) fun c1 =>
  withV (A.ofList true 2 c1 0) fun r2 => k r2 H))) := by kernel_rfl
theorem L15_0_step (pol : FuncId → Pol) (n m : Nat) (t3 t4 : AV) (c0 : List AV) (H : Heap) : L15_0 pol n (m + 1) ⟨[t3, t4], [c0]⟩ H =
  (withV (A.len t4 H) fun t11 =>
  withV (A.bin base.P .gtr 3 t11 (AV.int .i64 0) true H) fun t12 =>
  A.test t12 (
  cl base pol n 42 [t4, (AV.int .u64 10)] H fun t15 H2 =>
  extractK t15 0 fun t16 =>
  extractK t15 1 fun t17 =>
  cl base pol n 43 [t17, (AV.int .u64 10)] H2 fun t19 H3 =>
  withV (A.bin base.P .add 9 t19 t3 false H3) fun t21 =>
  L15_0 pol n m ⟨[t21, t16], [c0]⟩ H3)
  (
  some (0, ⟨[t3], [c0]⟩, H))) := by kernel_rfl
/-- tenement/tenementref1.NumText -/
theorem S15 (pol : FuncId → Pol) (n : Nat) (R : Type) (k : AV → Heap → Option R) (a0 : AV) (H : Heap) : callF (base.with pol) (n + 1) R 15 [a0] H k =
  (chkD ((a0).cells.length == 2 && (a0).isDef && decide (0 < 2)) (bindC (a0).cells fun c0 =>
  withV (A.ofList true 2 c0 0) fun t6 =>
  cl base pol n 18 [t6] H fun t7 H1 =>
  chkD (A.fits 2 t7 && decide (0 + (t7).cells.length ≤ c0.length)) (bindC (A.splice c0 0 (t7).cells) fun c0 =>
  withV (A.ofList false 1 c0 1) fun t9 =>
  bindX (L15_0 pol n n ⟨[(AV.str []), t9], [c0]⟩ H1) fun i2 l2 H2 =>
  altN i2 0 (
  bindV (l2.vs.getD 0 .undef) fun t3 => bindC (l2.cs.getD 0 []) fun c0 => 
  withV (A.bin base.P .eql 9 t3 (AV.str []) true H2) fun t23 =>
  bindX (A.test t23 (
   some (0, ⟨[(AV.str [48])], [c0]⟩, H2))
   (
   some (0, ⟨[t3], [c0]⟩, H2))) fun i3 l3 H3 =>
  altN i3 0 (
  bindV (l3.vs.getD 0 .undef) fun t3 => bindC (l3.cs.getD 0 []) fun c0 => 
  withV (A.ofList false 1 c0 0) fun t25 =>
  bindX (A.test t25 (
   withV (A.bin base.P .add 9 (AV.str [45]) t3 false H3) fun t27 =>
    some (0, ⟨[t27], []⟩, H3))
   (
   some (0, ⟨[t3], []⟩, H3))) fun i4 l4 H4 =>
  altN i4 0 (
  bindV (l4.vs.getD 0 .undef) fun t3 => 
  k t3 H4)
  (none))
  (none))
  (none)))) := by kernel_rfl
/-- tenement/big.Of -/
theorem S16 (pol : FuncId → Pol) (n : Nat) (R : Type) (k : AV → Heap → Option R) (a0 : AV) (H : Heap) : callF (base.with pol) (n + 1) R 16 [a0] H k =
  (bindC [(AV.bool false), AV.nils] fun c0 =>
  withV (Go.Den.convert base 2 63 a0) fun t5 =>
  withV (A.bin base.P .lss 2 a0 (AV.int .i64 0) true H) fun t7 =>
  bindX (A.test t7 (
   withV (A.un .neg t5) fun t9 =>
    some (0, ⟨[a0, t9], [c0]⟩, H))
   (
   some (0, ⟨[a0, t5], [c0]⟩, H))) fun i1 l1 H1 =>
  altN i1 0 (
  bindV (l1.vs.getD 0 .undef) fun t0 => bindV (l1.vs.getD 1 .undef) fun t3 => bindC (l1.cs.getD 0 []) fun c0 => 
  withV (A.bin base.P .lss 2 t0 (AV.int .i64 0) true H1) fun t11 =>
  withV (Go.Den.convert base 63 64 t3) fun t13 =>
  withV (A.bin base.P .shr 63 t3 (AV.int .u64 32) true H1) fun t15 =>
  withV (Go.Den.convert base 63 64 t15) fun t16 =>
  withL (A.fillElems 1 (List.replicate 2 (AV.int .u32 0)) [(0, 1, t13), (1, 1, t16)]) fun es =>
  bindV (.sl H1.length 0 0 es.length es.length) fun t17 => bindH (H1 ++ [.row 0 1 64 es]) fun H2 =>
  cl base pol n 34 [t11, t17] H2 fun t18 H3 =>
  chkD (A.fits 2 t18 && decide (0 + (t18).cells.length ≤ c0.length)) (bindC (A.splice c0 0 (t18).cells) fun c0 =>
  withV (A.ofList true 2 c0 0) fun r2 => k r2 H3))
  (none)) := by kernel_rfl
/-- tenement/tenementref1.OfInt -/
theorem S17 (pol : FuncId → Pol) (n : Nat) (R : Type) (k : AV → Heap → Option R) (a0 : AV) (H : Heap) : callF (base.with pol) (n + 1) R 17 [a0] H k =
  (bindC [(AV.bool false), AV.nils] fun c0 =>
  withV (Go.Den.convert base 2 63 a0) fun t5 =>
  withV (A.bin base.P .lss 2 a0 (AV.int .i64 0) true H) fun t7 =>
  bindX (A.test t7 (
   withV (A.un .neg t5) fun t9 =>
    some (0, ⟨[a0, t9], [c0]⟩, H))
   (
   some (0, ⟨[a0, t5], [c0]⟩, H))) fun i1 l1 H1 =>
  altN i1 0 (
  bindV (l1.vs.getD 0 .undef) fun t0 => bindV (l1.vs.getD 1 .undef) fun t3 => bindC (l1.cs.getD 0 []) fun c0 => 
  withV (A.bin base.P .lss 2 t0 (AV.int .i64 0) true H1) fun t11 =>
  withV (Go.Den.convert base 63 64 t3) fun t13 =>
  withV (A.bin base.P .shr 63 t3 (AV.int .u64 32) true H1) fun t15 =>
  withV (Go.Den.convert base 63 64 t15) fun t16 =>
  withL (A.fillElems 1 (List.replicate 2 (AV.int .u32 0)) [(0, 1, t13), (1, 1, t16)]) fun es =>
  bindV (.sl H1.length 0 0 es.length es.length) fun t17 => bindH (H1 ++ [.row 0 1 64 es]) fun H2 =>
  withV ((A.fill [(AV.bool false), AV.nils] [(0, 1, t11), (1, 1, t17)]).map .agg) fun t18 =>
  cl base pol n 18 [t18] H2 fun t19 H3 =>
  chkD (A.fits 2 t19 && decide (0 + (t19).cells.length ≤ c0.length)) (bindC (A.splice c0 0 (t19).cells) fun c0 =>
  withV (A.ofList true 2 c0 0) fun r2 => k r2 H3))
  (none)) := by kernel_rfl
theorem L18_0_step (pol : FuncId → Pol) (n m : Nat) (t1 t3 : AV) (c0 : List AV) (H : Heap) : L18_0 pol n (m + 1) ⟨[t1, t3], [c0]⟩ H =
  (withV (A.bin base.P .gtr 3 t3 (AV.int .i64 0) true H) fun t8 =>
  withB (A.asG true t8) fun b3 => withP (guardB b3 true (
   withV (A.fa 1 t1 H) fun t10 =>
   some (t10, H))
   (some (.tup [], H))) fun t10 H1 =>
  withB (A.asG true t8) fun b4 => withP (guardB b4 true (
   withV (A.load false 1 t10 H1) fun t11 =>
   some (t11, H1))
   (some (.tup [], H1))) fun t11 H2 =>
  withB (A.asG true t8) fun b5 => withP (guardB b5 true (
   some (t3, H2))
   (some (.tup [], H2))) fun t12 H3 =>
  withB (A.asG true t8) fun b6 => withP (guardB b6 true (
   withV (A.bin base.P .sub 3 t12 (AV.int .i64 1) true H3) fun t13 =>
   some (t13, H3))
   (some (.tup [], H3))) fun t13 H4 =>
  withB (A.asG true t8) fun b7 => withP (guardB b7 true (
   withV (A.idx 1 t11 t13 H4) fun t14 =>
   some (t14, H4))
   (some (.tup [], H4))) fun t14 H5 =>
  withB (A.asG true t8) fun b8 => withP (guardB b8 true (
   withV (A.load false 1 t14 H5) fun t15 =>
   some (t15, H5))
   (some (.tup [], H5))) fun t15 H6 =>
  withB (A.asG true t8) fun b9 => withP (guardB b9 true (
   withV (A.bin base.P .eql 64 t15 (AV.int .u32 0) true H6) fun t16 =>
   some (t16, H6))
   (some (.tup [], H6))) fun t16 H7 =>
  withV (A.pick t8 t16 (AV.bool false)) fun t17 =>
  A.test t17 (
  withV (A.bin base.P .sub 3 t3 (AV.int .i64 1) true H7) fun t19 =>
  L18_0 pol n m ⟨[t1, t19], [c0]⟩ H7)
  (
  some (0, ⟨[t1, t3], [c0]⟩, H7))) := by kernel_rfl
/-- tenement/tenementref1.Norm -/
theorem S18 (pol : FuncId → Pol) (n : Nat) (R : Type) (k : AV → Heap → Option R) (a0 : AV) (H : Heap) : callF (base.with pol) (n + 1) R 18 [a0] H k =
  (chkD ((a0).cells.length == 2 && (a0).isDef && decide (0 < 2)) (bindV (.ptr H.length 0 0 0) fun t1 => bindH (H ++ [.row 0 2 24 [a0]]) fun H1 =>
  bindC [(AV.bool false), AV.nils] fun c0 =>
  withV (A.fa 1 t1 H1) fun t4 =>
  withV (A.load false 1 t4 H1) fun t5 =>
  withV (A.len t5 H1) fun t6 =>
  bindX (L18_0 pol n n ⟨[t1, t6], [c0]⟩ H1) fun i3 l3 H3 =>
  altN i3 0 (
  bindV (l3.vs.getD 0 .undef) fun t1 => bindV (l3.vs.getD 1 .undef) fun t3 => bindC (l3.cs.getD 0 []) fun c0 => 
  withV (A.fa 0 t1 H3) fun t20 =>
  withV (A.load false 1 t20 H3) fun t21 =>
  withB (A.asG true t21) fun b3 => withP (guardB b3 true (
   some (t3, H3))
   (some (.tup [], H3))) fun t23 H4 =>
  withB (A.asG true t21) fun b4 => withP (guardB b4 true (
   withV (A.bin base.P .gtr 3 t23 (AV.int .i64 0) true H4) fun t24 =>
   some (t24, H4))
   (some (.tup [], H4))) fun t24 H5 =>
  withV (A.pick t21 t24 (AV.bool false)) fun t25 =>
  withV (A.fa 1 t1 H5) fun t26 =>
  withV (A.load false 1 t26 H5) fun t27 =>
  withV (A.slice 1 t27 none (some t3) none H5) fun t29 =>
  withL (newsOf base 1 22 t29 H5) fun es =>
  withVH (A.append 1 4 64 AV.nils es H5) fun t30 H6 =>
  withV ((A.fill [(AV.bool false), AV.nils] [(0, 1, t25), (1, 1, t30)]).map .agg) fun t31 =>
  chkD (A.fits 2 t31 && decide (0 + (t31).cells.length ≤ c0.length)) (bindC (A.splice c0 0 (t31).cells) fun c0 =>
  chkD ((bif ((t23.heapy || (false || false)) && actsB (A.asG true t21) true) then (sameV (withV (A.bin base.P .gtr 3 t23 (AV.int .i64 0) true H3) fun t24 =>    some (.val t24)) t24 && (sameV (withV (A.bin base.P .gtr 3 t23 (AV.int .i64 0) true H6) fun t24 =>    some (.val t24)) t24 && true)) else true) && true) (
  withV (A.ofList true 2 c0 0) fun r2 => k r2 H6)))
  (none))) := by kernel_rfl
/-- tenement/big.Norm -/
theorem S19 (pol : FuncId → Pol) (n : Nat) (R : Type) (k : AV → Heap → Option R) (a0 : AV) (H : Heap) : callF (base.with pol) (n + 1) R 19 [a0] H k =
  (chkD ((a0).cells.length == 2 && (a0).isDef && decide (0 < 2)) (bindC (a0).cells fun c0 =>
  bindC [(AV.bool false), AV.nils] fun c1 =>
  withV (A.ofList false 1 c0 0) fun t4 =>
  withV (A.ofList false 1 c0 1) fun t6 =>
  cl base pol n 34 [t4, t6] H fun t7 H1 =>
  chkD (A.fits 2 t7 && decide (0 + (t7).cells.length ≤ c1.length)) (bindC (A.splice c1 0 (t7).cells) fun c1 =>
  withV (A.ofList true 2 c1 0) fun r2 => k r2 H1))) := by kernel_rfl
theorem L20_1_step (pol : FuncId → Pol) (n m : Nat) (t7 t8 t9 t10 t11 t37 t38 t39 t44 t45 t46 : AV) (c0 c1 c2 : List AV) (H : Heap) : L20_1 pol n (m + 1) ⟨[t7, t8, t9, t10, t11, t37, t38, t39, t44, t45, t46], [c0, c1, c2]⟩ H =
  (withV (A.bin base.P .lss 3 t46 t45 false H) fun t47 =>
  A.test t47 (
  withV (A.idx 1 t44 t46 H) fun t49 =>
  withV (A.load false 1 t49 H) fun t50 =>
  withV (Go.Den.convert base 64 63 t10) fun t53 =>
  withV (Go.Den.convert base 64 63 t50) fun t55 =>
  withV (A.bin base.P .mul 63 t53 t55 false H) fun t56 =>
  withV (A.bin base.P .add 3 t9 t46 false H) fun t60 =>
  withV (A.idx 1 t8 t60 H) fun t61 =>
  withV (A.load false 1 t61 H) fun t62 =>
  withV (Go.Den.convert base 64 63 t62) fun t63 =>
  withV (A.bin base.P .add 63 t56 t63 false H) fun t64 =>
  withV (A.bin base.P .add 63 t11 t64 false H) fun t65 =>
  withV (A.bin base.P .add 3 t9 t46 false H) fun t69 =>
  withV (Go.Den.convert base 63 64 t65) fun t71 =>
  withV (A.idx 1 t8 t69 H) fun t72 =>
  withH (A.store 1 t72 t71 H) fun H1 =>
  withV (A.bin base.P .shr 63 t65 (AV.int .u64 32) true H1) fun t74 =>
  withV (A.bin base.P .add 3 t46 (AV.int .i64 1) true H1) fun t75 =>
  L20_1 pol n m ⟨[t7, t8, t9, t10, t74, t37, t38, t39, t44, t45, t75], [c0, c1, c2]⟩ H1)
  (
  some (0, ⟨[t7, t8, t9, t11, t37, t38, t39], [c0, c1, c2]⟩, H))) := by kernel_rfl
theorem L20_0_step (pol : FuncId → Pol) (n m : Nat) (t7 t8 t37 t38 t39 : AV) (c0 c1 c2 : List AV) (H : Heap) : L20_0 pol n (m + 1) ⟨[t7, t8, t37, t38, t39], [c0, c1, c2]⟩ H =
  (withV (A.bin base.P .lss 3 t39 t38 false H) fun t40 =>
  A.test t40 (
  withV (A.idx 1 t37 t39 H) fun t42 =>
  withV (A.load false 1 t42 H) fun t43 =>
  withV (A.len t7 H) fun t45 =>
  bindX (L20_1 pol n n ⟨[t7, t8, t39, t43, (AV.int .u64 0), t37, t38, t39, t7, t45, (AV.int .i64 0)], [c0, c1, c2]⟩ H) fun i2 l2 H2 =>
  altN i2 0 (
  bindV (l2.vs.getD 0 .undef) fun t7 => bindV (l2.vs.getD 1 .undef) fun t8 => bindV (l2.vs.getD 2 .undef) fun t9 => bindV (l2.vs.getD 3 .undef) fun t11 => bindV (l2.vs.getD 4 .undef) fun t37 => bindV (l2.vs.getD 5 .undef) fun t38 => bindV (l2.vs.getD 6 .undef) fun t39 => bindC (l2.cs.getD 0 []) fun c0 => bindC (l2.cs.getD 1 []) fun c1 => bindC (l2.cs.getD 2 []) fun c2 => 
  withV (A.len t7 H2) fun t79 =>
  withV (A.bin base.P .add 3 t9 t79 false H2) fun t80 =>
  withV (Go.Den.convert base 63 64 t11) fun t82 =>
  withV (A.idx 1 t8 t80 H2) fun t83 =>
  withH (A.store 1 t83 t82 H2) fun H4 =>
  withV (A.bin base.P .add 3 t39 (AV.int .i64 1) true H4) fun t84 =>
  L20_0 pol n m ⟨[t7, t8, t37, t38, t84], [c0, c1, c2]⟩ H4)
  (none))
  (
  some (0, ⟨[t8], [c0, c1, c2]⟩, H))) := by kernel_rfl
/-- tenement/big.Mul -/
theorem S20 (pol : FuncId → Pol) (n : Nat) (R : Type) (k : AV → Heap → Option R) (a0 a1 : AV) (H : Heap) : callF (base.with pol) (n + 1) R 20 [a0, a1] H k =
  (chkD ((a0).cells.length == 2 && (a0).isDef && decide (0 < 2)) (bindC (a0).cells fun c0 =>
  chkD ((a1).cells.length == 2 && (a1).isDef && decide (0 < 2)) (bindC (a1).cells fun c1 =>
  bindC [(AV.bool false), AV.nils] fun c2 =>
  withV (A.ofList false 1 c0 1) fun t16 =>
  clQ base pol 38 [t16] H fun t17 H1 =>
  withV (A.ofList false 1 c1 1) fun t19 =>
  clQ base pol 38 [t19] H1 fun t20 H2 =>
  withV (A.len t17 H2) fun t22 =>
  withV (A.bin base.P .gtr 3 t22 (AV.int .i64 128) true H2) fun t23 =>
  withB (A.asG false t23) fun b4 => withP (guardB b4 false (
   some (t20, H2))
   (some (.tup [], H2))) fun t25 H4 =>
  withB (A.asG false t23) fun b5 => withP (guardB b5 false (
   withV (A.len t25 H4) fun t26 =>
   some (t26, H4))
   (some (.tup [], H4))) fun t26 H6 =>
  withB (A.asG false t23) fun b6 => withP (guardB b6 false (
   withV (A.bin base.P .gtr 3 t26 (AV.int .i64 128) true H6) fun t27 =>
   some (t27, H6))
   (some (.tup [], H6))) fun t27 H7 =>
  withV (A.pick t23 (AV.bool true) t27) fun t28 =>
  A.test t28 (
  withV ((A.fill [(AV.bool false), AV.nils] []).map .agg) fun t29 =>
   chkD (A.fits 2 t29 && decide (0 + (t29).cells.length ≤ c2.length)) (bindC (A.splice c2 0 (t29).cells) fun c2 =>
   withV (A.ofList true 2 c2 0) fun r4 => k (.tup [r4, (AV.bool false)]) H7))
  (
  withV (A.len t17 H7) fun t31 =>
  withV (A.len t20 H7) fun t33 =>
  withV (A.bin base.P .add 3 t31 t33 false H7) fun t34 =>
  withV (A.bin base.P .add 3 t34 (AV.int .i64 1) true H7) fun t35 =>
  withVH (A.makeSlice 1 4 64 (AV.int .u32 0) t35 t35 H7) fun t36 H10 =>
  withV (A.len t17 H10) fun t38 =>
  bindX (L20_0 pol n n ⟨[t20, t36, t17, t38, (AV.int .i64 0)], [c0, c1, c2]⟩ H10) fun i12 l12 H12 =>
  altN i12 0 (
  bindV (l12.vs.getD 0 .undef) fun t8 => bindC (l12.cs.getD 0 []) fun c0 => bindC (l12.cs.getD 1 []) fun c1 => bindC (l12.cs.getD 2 []) fun c2 => 
  withV (A.ofList false 1 c0 0) fun t86 =>
  withV (A.ofList false 1 c1 0) fun t88 =>
  withV (A.bin base.P .neq 4 t86 t88 false H12) fun t89 =>
  cl base pol n 34 [t89, t8] H12 fun t91 H13 =>
  bindC [(AV.bool false), AV.nils] fun c3 =>
  chkD (A.fits 2 t91 && decide (0 + (t91).cells.length ≤ c3.length)) (bindC (A.splice c3 0 (t91).cells) fun c3 =>
  withV (A.ofList false 1 c3 1) fun t93 =>
  withV (A.len t93 H13) fun t94 =>
  withV (A.bin base.P .gtr 3 t94 (AV.int .i64 128) true H13) fun t95 =>
  A.test t95 (
  withV ((A.fill [(AV.bool false), AV.nils] []).map .agg) fun t96 =>
   chkD (A.fits 2 t96 && decide (0 + (t96).cells.length ≤ c2.length)) (bindC (A.splice c2 0 (t96).cells) fun c2 =>
   withV (A.ofList true 2 c2 0) fun r4 => k (.tup [r4, (AV.bool false)]) H13))
  (
  withV (A.ofList true 2 c3 0) fun t97 =>
  chkD (A.fits 2 t97 && decide (0 + (t97).cells.length ≤ c2.length)) (bindC (A.splice c2 0 (t97).cells) fun c2 =>
  withV (A.ofList true 2 c2 0) fun r4 => k (.tup [r4, (AV.bool true)]) H13))))
  (none))))) := by kernel_rfl
/-- tenement/big.Div -/
theorem S21 (pol : FuncId → Pol) (n : Nat) (R : Type) (k : AV → Heap → Option R) (a0 a1 : AV) (H : Heap) : callF (base.with pol) (n + 1) R 21 [a0, a1] H k =
  (chkD ((a0).cells.length == 2 && (a0).isDef && decide (0 < 2)) (bindC (a0).cells fun c0 =>
  chkD ((a1).cells.length == 2 && (a1).isDef && decide (0 < 2)) (bindC (a1).cells fun c1 =>
  bindC [(AV.bool false), AV.nils] fun c2 =>
  bindC [(AV.bool false), AV.nils] fun c3 =>
  withV (A.ofList false 1 c0 1) fun t14 =>
  clQ base pol 38 [t14] H fun t15 H1 =>
  withV (A.ofList false 1 c1 1) fun t17 =>
  clQ base pol 38 [t17] H1 fun t18 H2 =>
  withV (A.len t18 H2) fun t21 =>
  withV (A.bin base.P .eql 3 t21 (AV.int .i64 0) true H2) fun t22 =>
  A.test t22 (
  withV ((A.fill [(AV.bool false), AV.nils] []).map .agg) fun t23 =>
   withV ((A.fill [(AV.bool false), AV.nils] []).map .agg) fun t24 =>
   chkD (A.fits 2 t23 && decide (0 + (t23).cells.length ≤ c2.length)) (bindC (A.splice c2 0 (t23).cells) fun c2 =>
   chkD (A.fits 2 t24 && decide (0 + (t24).cells.length ≤ c3.length)) (bindC (A.splice c3 0 (t24).cells) fun c3 =>
   withV (A.ofList true 2 c2 0) fun r4 => withV (A.ofList true 2 c3 0) fun r5 => k (.tup [r4, r5, (AV.bool false)]) H2)))
  (
  cl base pol n 44 [t15, t18] H2 fun t28 H4 =>
   withV (A.bin base.P .lss 3 t28 (AV.int .i64 0) true H4) fun t29 =>
   A.test t29 (
   withV ((A.fill [(AV.bool false), AV.nils] []).map .agg) fun t30 =>
    withV (A.ofList true 2 c0 0) fun t31 =>
    cl base pol n 19 [t31] H4 fun t32 H5 =>
    chkD (A.fits 2 t30 && decide (0 + (t30).cells.length ≤ c2.length)) (bindC (A.splice c2 0 (t30).cells) fun c2 =>
    chkD (A.fits 2 t32 && decide (0 + (t32).cells.length ≤ c3.length)) (bindC (A.splice c3 0 (t32).cells) fun c3 =>
    withV (A.ofList true 2 c2 0) fun r4 => withV (A.ofList true 2 c3 0) fun r5 => k (.tup [r4, r5, (AV.bool true)]) H5)))
   (
   withV (A.len t18 H4) fun t35 =>
    withV (A.bin base.P .eql 3 t35 (AV.int .i64 1) true H4) fun t36 =>
    A.test t36 (
    withV (A.idx 1 t18 (AV.int .i64 0) H4) fun t40 =>
     withV (A.load false 1 t40 H4) fun t41 =>
     cl base pol n 36 [t15, t41] H4 fun t42 H7 =>
     extractK t42 0 fun t43 =>
     extractK t42 1 fun t44 =>
     withV (A.ofList false 1 c0 0) fun t46 =>
     withV (A.ofList false 1 c1 0) fun t48 =>
     withV (A.bin base.P .neq 4 t46 t48 false H7) fun t49 =>
     clQ base pol 34 [t49, t43] H7 fun t51 H8 =>
     withV (A.ofList false 1 c0 0) fun t53 =>
     withL (A.fillElems 1 (List.replicate 1 (AV.int .u32 0)) [(0, 1, t44)]) fun es =>
     bindV (.sl H8.length 0 0 es.length es.length) fun t55 => bindH (H8 ++ [.row 0 1 64 es]) fun H9 =>
     cl base pol n 34 [t53, t55] H9 fun t56 H10 =>
     chkD (A.fits 2 t51 && decide (0 + (t51).cells.length ≤ c2.length)) (bindC (A.splice c2 0 (t51).cells) fun c2 =>
     chkD (A.fits 2 t56 && decide (0 + (t56).cells.length ≤ c3.length)) (bindC (A.splice c3 0 (t56).cells) fun c3 =>
     chkD ((bif ((t46.heapy || (t48.heapy || false)) && true) then (sameV (withV (A.bin base.P .neq 4 t46 t48 false H7) fun t49 =>       some (.val t49)) t49 && (sameV (withV (A.bin base.P .neq 4 t46 t48 false H9) fun t49 =>       some (.val t49)) t49 && true)) else true) && true) (
     withV (A.ofList true 2 c2 0) fun r4 => withV (A.ofList true 2 c3 0) fun r5 => k (.tup [r4, r5, (AV.bool true)]) H10))))
    (
    cl base pol n 45 [t15, t18] H4 fun t60 H11 =>
  extractK t60 0 fun t61 =>
  extractK t60 1 fun t62 =>
  withV (A.ofList false 1 c0 0) fun t64 =>
  withV (A.ofList false 1 c1 0) fun t66 =>
  withV (A.bin base.P .neq 4 t64 t66 false H11) fun t67 =>
  clQ base pol 34 [t67, t61] H11 fun t69 H12 =>
  withV (A.ofList false 1 c0 0) fun t71 =>
  clQ base pol 34 [t71, t62] H12 fun t73 H13 =>
  chkD (A.fits 2 t69 && decide (0 + (t69).cells.length ≤ c2.length)) (bindC (A.splice c2 0 (t69).cells) fun c2 =>
  chkD (A.fits 2 t73 && decide (0 + (t73).cells.length ≤ c3.length)) (bindC (A.splice c3 0 (t73).cells) fun c3 =>
  withV (A.ofList true 2 c2 0) fun r4 => withV (A.ofList true 2 c3 0) fun r5 => k (.tup [r4, r5, (AV.bool true)]) H13)))))))) := by kernel_rfl
end Go.Proofs.YtikkpecdkdgmfaaDoor

/- What each function does, in Den's words. -/
set_option maxRecDepth 100000
namespace Go.Proofs.YtikkpecdkdgmfaaDoor
open Go Go.Den

/-- tenement/big.Compare -/
theorem S22 (pol : FuncId → Pol) (n : Nat) (R : Type) (k : AV → Heap → Option R) (a0 a1 : AV) (H : Heap) : callF (base.with pol) (n + 1) R 22 [a0, a1] H k =
  (chkD ((a0).cells.length == 2 && (a0).isDef && decide (0 < 2)) (bindV (.ptr H.length 0 0 0) fun t2 => bindH (H ++ [.row 0 2 26 [a0]]) fun H1 =>
  chkD ((a1).cells.length == 2 && (a1).isDef && decide (0 < 2)) (bindC (a1).cells fun c0 =>
  withV (A.load true 2 t2 H1) fun t5 =>
  clQ base pol 19 [t5] H1 fun t6 H2 =>
  withV (A.ofList true 2 c0 0) fun t7 =>
  clQ base pol 19 [t7] H2 fun t8 H3 =>
  withH (A.store 2 t2 t6 H3) fun H4 =>
  chkD (A.fits 2 t8 && decide (0 + (t8).cells.length ≤ c0.length)) (bindC (A.splice c0 0 (t8).cells) fun c0 =>
  withV (A.fa 0 t2 H4) fun t10 =>
  withV (A.load false 1 t10 H4) fun t11 =>
  withV (A.ofList false 1 c0 0) fun t13 =>
  withV (A.bin base.P .neq 4 t11 t13 false H4) fun t14 =>
  withB (A.asG true t14) fun b6 => withP (guardB b6 true (
   withV (A.fa 0 t2 H4) fun t16 =>
   some (t16, H4))
   (some (.tup [], H4))) fun t16 H5 =>
  withB (A.asG true t14) fun b7 => withP (guardB b7 true (
   withV (A.load false 1 t16 H5) fun t17 =>
   some (t17, H5))
   (some (.tup [], H5))) fun t17 H6 =>
  withV (A.pick t14 t17 (AV.bool false)) fun t18 =>
  A.test t18 (
  k (AV.int .i64 (-1)) H6)
  (
  withV (A.fa 0 t2 H6) fun t20 =>
   withV (A.load false 1 t20 H6) fun t21 =>
   withV (A.ofList false 1 c0 0) fun t23 =>
   withV (A.bin base.P .neq 4 t21 t23 false H6) fun t24 =>
   A.test t24 (
   k (AV.int .i64 1) H6)
   (
   withV (A.fa 0 t2 H6) fun t26 =>
    withV (A.load false 1 t26 H6) fun t27 =>
    A.test t27 (
    withV (A.ofList false 1 c0 1) fun t29 =>
     withV (A.fa 1 t2 H6) fun t30 =>
     withV (A.load false 1 t30 H6) fun t31 =>
     cl base pol n 44 [t29, t31] H6 fun t32 H7 =>
     k t32 H7)
    (
    withV (A.fa 1 t2 H6) fun t33 =>
  withV (A.load false 1 t33 H6) fun t34 =>
  withV (A.ofList false 1 c0 1) fun t36 =>
  cl base pol n 44 [t34, t36] H6 fun t37 H8 =>
  k t37 H8))))))) := by kernel_rfl
/-- tenement/big.Add -/
theorem S23 (pol : FuncId → Pol) (n : Nat) (R : Type) (k : AV → Heap → Option R) (a0 a1 : AV) (H : Heap) : callF (base.with pol) (n + 1) R 23 [a0, a1] H k =
  (chkD ((a0).cells.length == 2 && (a0).isDef && decide (0 < 2)) (bindC (a0).cells fun c0 =>
  chkD ((a1).cells.length == 2 && (a1).isDef && decide (0 < 2)) (bindC (a1).cells fun c1 =>
  bindC [(AV.bool false), AV.nils] fun c2 =>
  withV (A.ofList true 2 c0 0) fun t5 =>
  clQ base pol 19 [t5] H fun t6 H1 =>
  withV (A.ofList true 2 c1 0) fun t7 =>
  clQ base pol 19 [t7] H1 fun t8 H2 =>
  chkD (A.fits 2 t6 && decide (0 + (t6).cells.length ≤ c0.length)) (bindC (A.splice c0 0 (t6).cells) fun c0 =>
  chkD (A.fits 2 t8 && decide (0 + (t8).cells.length ≤ c1.length)) (bindC (A.splice c1 0 (t8).cells) fun c1 =>
  withV (A.ofList false 1 c0 0) fun t11 =>
  withV (A.ofList false 1 c1 0) fun t13 =>
  withV (A.bin base.P .eql 4 t11 t13 false H2) fun t14 =>
  A.test t14 (
  withV (A.ofList false 1 c0 0) fun t16 =>
   withV (A.ofList false 1 c0 1) fun t18 =>
   withV (A.ofList false 1 c1 1) fun t20 =>
   clQ base pol 46 [t18, t20] H2 fun t21 H3 =>
   clQ base pol 34 [t16, t21] H3 fun t22 H4 =>
   chkD (A.fits 2 t22 && decide (0 + (t22).cells.length ≤ c2.length)) (bindC (A.splice c2 0 (t22).cells) fun c2 =>
   withV (A.ofList true 2 c2 0) fun r4 => k r4 H4))
  (
  withV (A.ofList false 1 c0 1) fun t25 =>
   withV (A.ofList false 1 c1 1) fun t27 =>
   cl base pol n 44 [t25, t27] H2 fun t28 H5 =>
   withV (A.bin base.P .geq 3 t28 (AV.int .i64 0) true H5) fun t29 =>
   A.test t29 (
   withV (A.ofList false 1 c0 0) fun t31 =>
    withV (A.ofList false 1 c0 1) fun t33 =>
    withV (A.ofList false 1 c1 1) fun t35 =>
    clQ base pol 47 [t33, t35] H5 fun t36 H6 =>
    clQ base pol 34 [t31, t36] H6 fun t37 H7 =>
    chkD (A.fits 2 t37 && decide (0 + (t37).cells.length ≤ c2.length)) (bindC (A.splice c2 0 (t37).cells) fun c2 =>
    withV (A.ofList true 2 c2 0) fun r4 => k r4 H7))
   (
   withV (A.ofList false 1 c1 0) fun t39 =>
  withV (A.ofList false 1 c1 1) fun t41 =>
  withV (A.ofList false 1 c0 1) fun t43 =>
  clQ base pol 47 [t41, t43] H5 fun t44 H8 =>
  clQ base pol 34 [t39, t44] H8 fun t45 H9 =>
  chkD (A.fits 2 t45 && decide (0 + (t45).cells.length ≤ c2.length)) (bindC (A.splice c2 0 (t45).cells) fun c2 =>
  withV (A.ofList true 2 c2 0) fun r4 => k r4 H9)))))))) := by kernel_rfl
/-- tenement/big.Sub -/
theorem S24 (pol : FuncId → Pol) (n : Nat) (R : Type) (k : AV → Heap → Option R) (a0 a1 : AV) (H : Heap) : callF (base.with pol) (n + 1) R 24 [a0, a1] H k =
  (chkD ((a0).cells.length == 2 && (a0).isDef && decide (0 < 2)) (bindC (a0).cells fun c0 =>
  chkD ((a1).cells.length == 2 && (a1).isDef && decide (0 < 2)) (bindC (a1).cells fun c1 =>
  bindC [(AV.bool false), AV.nils] fun c2 =>
  withV (A.ofList true 2 c0 0) fun t5 =>
  withV (A.ofList false 1 c1 0) fun t7 =>
  withV (A.un .not t7) fun t8 =>
  withV (A.ofList false 1 c1 1) fun t10 =>
  withV ((A.fill [(AV.bool false), AV.nils] [(0, 1, t8), (1, 1, t10)]).map .agg) fun t11 =>
  cl base pol n 23 [t5, t11] H fun t12 H1 =>
  chkD (A.fits 2 t12 && decide (0 + (t12).cells.length ≤ c2.length)) (bindC (A.splice c2 0 (t12).cells) fun c2 =>
  withV (A.ofList true 2 c2 0) fun r4 => k r4 H1)))) := by kernel_rfl
theorem L25_1_step (pol : FuncId → Pol) (n m : Nat) (t3 t6 t7 t8 t9 t10 : AV) (c0 c1 : List AV) (H : Heap) : L25_1 pol n (m + 1) ⟨[t3, t6, t7, t8, t9, t10], [c0, c1]⟩ H =
  (withV (A.fa 1 t3 H) fun t46 =>
  withV (A.load false 1 t46 H) fun t47 =>
  withV (A.len t47 H) fun t48 =>
  withV (A.bin base.P .lss 3 t10 t48 false H) fun t49 =>
  A.test t49 (
  withV (A.ofList false 1 c0 1) fun t53 =>
  withV (A.idx 1 t53 t8 H) fun t55 =>
  withV (A.load false 1 t55 H) fun t56 =>
  withV (Go.Den.convert base 64 63 t56) fun t57 =>
  withV (A.fa 1 t3 H) fun t58 =>
  withV (A.load false 1 t58 H) fun t59 =>
  withV (A.idx 1 t59 t10 H) fun t61 =>
  withV (A.load false 1 t61 H) fun t62 =>
  withV (Go.Den.convert base 64 63 t62) fun t63 =>
  withV (A.bin base.P .mul 63 t57 t63 false H) fun t64 =>
  withV (A.bin base.P .add 3 t8 t10 false H) fun t68 =>
  withV (A.idx 1 t7 t68 H) fun t69 =>
  withV (A.load false 1 t69 H) fun t70 =>
  withV (Go.Den.convert base 64 63 t70) fun t71 =>
  withV (A.bin base.P .add 63 t64 t71 false H) fun t72 =>
  withV (A.bin base.P .add 63 t72 t9 false H) fun t74 =>
  withV (A.bin base.P .add 3 t8 t10 false H) fun t78 =>
  withV (Go.Den.convert base 63 64 t74) fun t80 =>
  withV (A.idx 1 t7 t78 H) fun t81 =>
  withH (A.store 1 t81 t80 H) fun H2 =>
  withV (A.bin base.P .shr 63 t74 (AV.int .u64 32) true H2) fun t83 =>
  withV (A.bin base.P .add 3 t10 (AV.int .i64 1) true H2) fun t51 =>
  L25_1 pol n m ⟨[t3, t6, t7, t8, t83, t51], [c0, c1]⟩ H2)
  (
  some (0, ⟨[t3, t6, t7, t8, t9], [c0, c1]⟩, H))) := by kernel_rfl
theorem L25_0_step (pol : FuncId → Pol) (n m : Nat) (t3 t6 t7 t8 : AV) (c0 c1 : List AV) (H : Heap) : L25_0 pol n (m + 1) ⟨[t3, t6, t7, t8], [c0, c1]⟩ H =
  (withV (A.ofList false 1 c0 1) fun t40 =>
  withV (A.len t40 H) fun t41 =>
  withV (A.bin base.P .lss 3 t8 t41 false H) fun t42 =>
  A.test t42 (
  bindX (L25_1 pol n n ⟨[t3, t6, t7, t8, (AV.int .u64 0), (AV.int .i64 0)], [c0, c1]⟩ H) fun i2 l2 H2 =>
  altN i2 0 (
  bindV (l2.vs.getD 0 .undef) fun t3 => bindV (l2.vs.getD 1 .undef) fun t6 => bindV (l2.vs.getD 2 .undef) fun t7 => bindV (l2.vs.getD 3 .undef) fun t8 => bindV (l2.vs.getD 4 .undef) fun t9 => bindC (l2.cs.getD 0 []) fun c0 => bindC (l2.cs.getD 1 []) fun c1 => 
  withV (A.fa 1 t3 H2) fun t86 =>
  withV (A.load false 1 t86 H2) fun t87 =>
  withV (A.len t87 H2) fun t88 =>
  withV (A.bin base.P .add 3 t8 t88 false H2) fun t89 =>
  withV (Go.Den.convert base 63 64 t9) fun t91 =>
  withV (A.idx 1 t7 t89 H2) fun t92 =>
  withH (A.store 1 t92 t91 H2) fun H4 =>
  withV (A.bin base.P .add 3 t8 (AV.int .i64 1) true H4) fun t44 =>
  L25_0 pol n m ⟨[t3, t6, t7, t44], [c0, c1]⟩ H4)
  (none))
  (
  some (0, ⟨[t3, t6, t7], [c0, c1]⟩, H))) := by kernel_rfl
/-- tenement/tenementref1.Mul -/
theorem S25 (pol : FuncId → Pol) (n : Nat) (R : Type) (k : AV → Heap → Option R) (a0 a1 : AV) (H : Heap) : callF (base.with pol) (n + 1) R 25 [a0, a1] H k =
  (chkD ((a0).cells.length == 2 && (a0).isDef && decide (0 < 2)) (bindC (a0).cells fun c0 =>
  chkD ((a1).cells.length == 2 && (a1).isDef && decide (0 < 2)) (bindV (.ptr H.length 0 0 0) fun t3 => bindH (H ++ [.row 0 2 24 [a1]]) fun H1 =>
  bindC [(AV.bool false), AV.nils] fun c1 =>
  withV (A.ofList true 2 c0 0) fun t13 =>
  clQ base pol 18 [t13] H1 fun t14 H2 =>
  withV (A.load true 2 t3 H2) fun t15 =>
  clQ base pol 18 [t15] H2 fun t16 H3 =>
  chkD (A.fits 2 t14 && decide (0 + (t14).cells.length ≤ c0.length)) (bindC (A.splice c0 0 (t14).cells) fun c0 =>
  withH (A.store 2 t3 t16 H3) fun H4 =>
  withV (A.ofList false 1 c0 1) fun t18 =>
  withV (A.len t18 H4) fun t19 =>
  withV (A.bin base.P .gtr 3 t19 (AV.int .i64 128) false H4) fun t21 =>
  withB (A.asG false t21) fun b6 => withP (guardB b6 false (
   withV (A.fa 1 t3 H4) fun t23 =>
   some (t23, H4))
   (some (.tup [], H4))) fun t23 H6 =>
  withB (A.asG false t21) fun b7 => withP (guardB b7 false (
   withV (A.load false 1 t23 H6) fun t24 =>
   some (t24, H6))
   (some (.tup [], H6))) fun t24 H7 =>
  withB (A.asG false t21) fun b8 => withP (guardB b8 false (
   withV (A.len t24 H7) fun t25 =>
   some (t25, H7))
   (some (.tup [], H7))) fun t25 H9 =>
  withB (A.asG false t21) fun b9 => withP (guardB b9 false (
   some ((AV.int .i64 128), H9))
   (some (.tup [], H9))) fun t26 H10 =>
  withB (A.asG false t21) fun b10 => withP (guardB b10 false (
   withV (A.bin base.P .gtr 3 t25 t26 false H10) fun t27 =>
   some (t27, H10))
   (some (.tup [], H10))) fun t27 H11 =>
  withV (A.pick t21 (AV.bool true) t27) fun t28 =>
  A.test t28 (
  withV ((A.fill [(AV.bool false), AV.nils] []).map .agg) fun t29 =>
   chkD (A.fits 2 t29 && decide (0 + (t29).cells.length ≤ c1.length)) (bindC (A.splice c1 0 (t29).cells) fun c1 =>
   withV (A.ofList true 2 c1 0) fun r4 => k (.tup [r4, (AV.bool false)]) H11))
  (
  withV (A.ofList false 1 c0 1) fun t31 =>
  withV (A.len t31 H11) fun t32 =>
  withV (A.fa 1 t3 H11) fun t33 =>
  withV (A.load false 1 t33 H11) fun t34 =>
  withV (A.len t34 H11) fun t35 =>
  withV (A.bin base.P .add 3 t32 t35 false H11) fun t36 =>
  withVH (A.makeSlice 1 4 64 (AV.int .u32 0) t36 t36 H11) fun t37 H14 =>
  bindX (L25_0 pol n n ⟨[t3, (AV.int .i64 128), t37, (AV.int .i64 0)], [c0, c1]⟩ H14) fun i15 l15 H15 =>
  altN i15 0 (
  bindV (l15.vs.getD 0 .undef) fun t3 => bindV (l15.vs.getD 1 .undef) fun t6 => bindV (l15.vs.getD 2 .undef) fun t7 => bindC (l15.cs.getD 0 []) fun c0 => bindC (l15.cs.getD 1 []) fun c1 => 
  withV (A.ofList false 1 c0 0) fun t94 =>
  withV (A.fa 0 t3 H15) fun t95 =>
  withV (A.load false 1 t95 H15) fun t96 =>
  withV (A.bin base.P .neq 4 t94 t96 false H15) fun t97 =>
  withV ((A.fill [(AV.bool false), AV.nils] [(0, 1, t97), (1, 1, t7)]).map .agg) fun t99 =>
  cl base pol n 18 [t99] H15 fun t100 H16 =>
  bindC [(AV.bool false), AV.nils] fun c2 =>
  chkD (A.fits 2 t100 && decide (0 + (t100).cells.length ≤ c2.length)) (bindC (A.splice c2 0 (t100).cells) fun c2 =>
  withV (A.ofList false 1 c2 1) fun t102 =>
  withV (A.len t102 H16) fun t103 =>
  withV (A.bin base.P .gtr 3 t103 t6 false H16) fun t105 =>
  A.test t105 (
  withV ((A.fill [(AV.bool false), AV.nils] []).map .agg) fun t106 =>
   chkD (A.fits 2 t106 && decide (0 + (t106).cells.length ≤ c1.length)) (bindC (A.splice c1 0 (t106).cells) fun c1 =>
   withV (A.ofList true 2 c1 0) fun r4 => k (.tup [r4, (AV.bool false)]) H16))
  (
  withV (A.ofList true 2 c2 0) fun t107 =>
  chkD (A.fits 2 t107 && decide (0 + (t107).cells.length ≤ c1.length)) (bindC (A.splice c1 0 (t107).cells) fun c1 =>
  withV (A.ofList true 2 c1 0) fun r4 => k (.tup [r4, (AV.bool true)]) H16))))
  (none)))))) := by kernel_rfl
theorem L26_1_step (pol : FuncId → Pol) (n m : Nat) (t7 t9 t10 : AV) (c0 c1 c2 c3 c4 : List AV) (H : Heap) : L26_1 pol n (m + 1) ⟨[t7, t9, t10], [c0, c1, c2, c3, c4]⟩ H =
  (withV (A.bin base.P .geq 3 t10 (AV.int .i64 0) true H) fun t35 =>
  A.test t35 (
  withV (A.ofList false 1 c4 1) fun t39 =>
  withV (A.ofList false 1 c4 1) fun t41 =>
  cl base pol n 48 [t39, t41] H fun t42 H1 =>
  withV ((A.fill [(AV.bool false), AV.nils] [(1, 1, t42)]).map .agg) fun t43 =>
  chkD (A.fits 2 t43 && decide (0 + (t43).cells.length ≤ c4.length)) (bindC (A.splice c4 0 (t43).cells) fun c4 =>
  withV (A.ofList false 1 c0 1) fun t45 =>
  withV (A.idx 1 t45 t9 H1) fun t47 =>
  withV (A.load false 1 t47 H1) fun t48 =>
  withV (Go.Den.convert base 3 65 t10) fun t50 =>
  withV (A.bin base.P .shr 64 t48 t50 false H1) fun t51 =>
  withV (A.bin base.P .and 64 t51 (AV.int .u32 1) true H1) fun t52 =>
  withV (A.bin base.P .eql 64 t52 (AV.int .u32 1) true H1) fun t53 =>
  bindX (A.test t53 (
   withV (A.ofList false 1 c4 1) fun t55 =>
    withV (A.ofList false 1 c4 1) fun t57 =>
    withV (A.idx 1 t57 (AV.int .i64 0) H1) fun t58 =>
    withV (A.load false 1 t58 H1) fun t59 =>
    withV (A.bin base.P .or 64 t59 (AV.int .u32 1) true H1) fun t60 =>
    withV (A.idx 1 t55 (AV.int .i64 0) H1) fun t61 =>
    withH (A.store 1 t61 t60 H1) fun H2 =>
    some (0, ⟨[t7, t9, t10], [c0, c1, c2, c3, c4]⟩, H2))
   (
   some (0, ⟨[t7, t9, t10], [c0, c1, c2, c3, c4]⟩, H1))) fun i3 l3 H3 =>
  altN i3 0 (
  bindV (l3.vs.getD 0 .undef) fun t7 => bindV (l3.vs.getD 1 .undef) fun t9 => bindV (l3.vs.getD 2 .undef) fun t10 => bindC (l3.cs.getD 0 []) fun c0 => bindC (l3.cs.getD 1 []) fun c1 => bindC (l3.cs.getD 2 []) fun c2 => bindC (l3.cs.getD 3 []) fun c3 => bindC (l3.cs.getD 4 []) fun c4 => 
  withV (A.ofList true 2 c4 0) fun t62 =>
  cl base pol n 18 [t62] H3 fun t63 H4 =>
  chkD (A.fits 2 t63 && decide (0 + (t63).cells.length ≤ c4.length)) (bindC (A.splice c4 0 (t63).cells) fun c4 =>
  withV (A.ofList false 1 c4 1) fun t65 =>
  withV (A.ofList false 1 c1 1) fun t67 =>
  cl base pol n 49 [t65, t67] H4 fun t68 H5 =>
  withV (A.bin base.P .geq 3 t68 (AV.int .i64 0) true H5) fun t69 =>
  bindX (A.test t69 (
   withV (A.ofList false 1 c4 1) fun t71 =>
    withV (A.ofList false 1 c1 1) fun t73 =>
    cl base pol n 50 [t71, t73] H5 fun t74 H6 =>
    withV ((A.fill [(AV.bool false), AV.nils] [(1, 1, t74)]).map .agg) fun t75 =>
    cl base pol n 18 [t75] H6 fun t76 H7 =>
    chkD (A.fits 2 t76 && decide (0 + (t76).cells.length ≤ c4.length)) (bindC (A.splice c4 0 (t76).cells) fun c4 =>
    withV (A.idx 1 t7 t9 H7) fun t81 =>
    withV (A.load false 1 t81 H7) fun t82 =>
    withV (Go.Den.convert base 3 65 t10) fun t84 =>
    withV (A.bin base.P .shl 64 (AV.int .u32 1) t84 false H7) fun t85 =>
    withV (A.bin base.P .or 64 t82 t85 false H7) fun t86 =>
    withV (A.idx 1 t7 t9 H7) fun t87 =>
    withH (A.store 1 t87 t86 H7) fun H8 =>
    some (0, ⟨[t7, t9, t10], [c0, c1, c2, c3, c4]⟩, H8)))
   (
   some (0, ⟨[t7, t9, t10], [c0, c1, c2, c3, c4]⟩, H5))) fun i9 l9 H9 =>
  altN i9 0 (
  bindV (l9.vs.getD 0 .undef) fun t7 => bindV (l9.vs.getD 1 .undef) fun t9 => bindV (l9.vs.getD 2 .undef) fun t10 => bindC (l9.cs.getD 0 []) fun c0 => bindC (l9.cs.getD 1 []) fun c1 => bindC (l9.cs.getD 2 []) fun c2 => bindC (l9.cs.getD 3 []) fun c3 => bindC (l9.cs.getD 4 []) fun c4 => 
  withV (A.bin base.P .sub 3 t10 (AV.int .i64 1) true H9) fun t37 =>
  L26_1 pol n m ⟨[t7, t9, t37], [c0, c1, c2, c3, c4]⟩ H9)
  (none)))
  (none)))
  (
  some (0, ⟨[t7, t9], [c0, c1, c2, c3, c4]⟩, H))) := by kernel_rfl
theorem L26_0_step (pol : FuncId → Pol) (n m : Nat) (t7 t9 : AV) (c0 c1 c2 c3 c4 : List AV) (H : Heap) : L26_0 pol n (m + 1) ⟨[t7, t9], [c0, c1, c2, c3, c4]⟩ H =
  (withV (A.bin base.P .geq 3 t9 (AV.int .i64 0) true H) fun t31 =>
  A.test t31 (
  bindX (L26_1 pol n n ⟨[t7, t9, (AV.int .i64 31)], [c0, c1, c2, c3, c4]⟩ H) fun i1 l1 H1 =>
  altN i1 0 (
  bindV (l1.vs.getD 0 .undef) fun t7 => bindV (l1.vs.getD 1 .undef) fun t9 => bindC (l1.cs.getD 0 []) fun c0 => bindC (l1.cs.getD 1 []) fun c1 => bindC (l1.cs.getD 2 []) fun c2 => bindC (l1.cs.getD 3 []) fun c3 => bindC (l1.cs.getD 4 []) fun c4 => 
  withV (A.bin base.P .sub 3 t9 (AV.int .i64 1) true H1) fun t33 =>
  L26_0 pol n m ⟨[t7, t33], [c0, c1, c2, c3, c4]⟩ H1)
  (none))
  (
  some (0, ⟨[t7], [c0, c1, c2, c3, c4]⟩, H))) := by kernel_rfl
/-- tenement/tenementref1.Div -/
theorem S26 (pol : FuncId → Pol) (n : Nat) (R : Type) (k : AV → Heap → Option R) (a0 a1 : AV) (H : Heap) : callF (base.with pol) (n + 1) R 26 [a0, a1] H k =
  (chkD ((a0).cells.length == 2 && (a0).isDef && decide (0 < 2)) (bindC (a0).cells fun c0 =>
  chkD ((a1).cells.length == 2 && (a1).isDef && decide (0 < 2)) (bindC (a1).cells fun c1 =>
  bindC [(AV.bool false), AV.nils] fun c2 =>
  bindC [(AV.bool false), AV.nils] fun c3 =>
  withV (A.ofList true 2 c0 0) fun t11 =>
  clQ base pol 18 [t11] H fun t12 H1 =>
  withV (A.ofList true 2 c1 0) fun t13 =>
  clQ base pol 18 [t13] H1 fun t14 H2 =>
  chkD (A.fits 2 t12 && decide (0 + (t12).cells.length ≤ c0.length)) (bindC (A.splice c0 0 (t12).cells) fun c0 =>
  chkD (A.fits 2 t14 && decide (0 + (t14).cells.length ≤ c1.length)) (bindC (A.splice c1 0 (t14).cells) fun c1 =>
  withV (A.ofList false 1 c1 1) fun t16 =>
  withV (A.len t16 H2) fun t17 =>
  withV (A.bin base.P .eql 3 t17 (AV.int .i64 0) true H2) fun t18 =>
  A.test t18 (
  withV ((A.fill [(AV.bool false), AV.nils] []).map .agg) fun t19 =>
   withV ((A.fill [(AV.bool false), AV.nils] []).map .agg) fun t20 =>
   chkD (A.fits 2 t19 && decide (0 + (t19).cells.length ≤ c2.length)) (bindC (A.splice c2 0 (t19).cells) fun c2 =>
   chkD (A.fits 2 t20 && decide (0 + (t20).cells.length ≤ c3.length)) (bindC (A.splice c3 0 (t20).cells) fun c3 =>
   withV (A.ofList true 2 c2 0) fun r4 => withV (A.ofList true 2 c3 0) fun r5 => k (.tup [r4, r5, (AV.bool false)]) H2)))
  (
  withV (A.ofList false 1 c0 1) fun t22 =>
  withV (A.len t22 H2) fun t23 =>
  withVH (A.makeSlice 1 4 64 (AV.int .u32 0) t23 t23 H2) fun t24 H5 =>
  withV ((A.fill [(AV.bool false), AV.nils] []).map .agg) fun t25 =>
  bindC [(AV.bool false), AV.nils] fun c4 =>
  chkD (A.fits 2 t25 && decide (0 + (t25).cells.length ≤ c4.length)) (bindC (A.splice c4 0 (t25).cells) fun c4 =>
  withV (A.ofList false 1 c0 1) fun t27 =>
  withV (A.len t27 H5) fun t28 =>
  withV (A.bin base.P .sub 3 t28 (AV.int .i64 1) true H5) fun t29 =>
  bindX (L26_0 pol n n ⟨[t24, t29], [c0, c1, c2, c3, c4]⟩ H5) fun i7 l7 H7 =>
  altN i7 0 (
  bindV (l7.vs.getD 0 .undef) fun t7 => bindC (l7.cs.getD 0 []) fun c0 => bindC (l7.cs.getD 1 []) fun c1 => bindC (l7.cs.getD 2 []) fun c2 => bindC (l7.cs.getD 3 []) fun c3 => bindC (l7.cs.getD 4 []) fun c4 => 
  withV (A.ofList false 1 c0 0) fun t89 =>
  chkD (A.fits 1 t89 && decide (0 + (t89).cells.length ≤ c4.length)) (bindC (A.splice c4 0 (t89).cells) fun c4 =>
  withV (A.ofList false 1 c0 0) fun t92 =>
  withV (A.ofList false 1 c1 0) fun t94 =>
  withV (A.bin base.P .neq 4 t92 t94 false H7) fun t95 =>
  withV ((A.fill [(AV.bool false), AV.nils] [(0, 1, t95), (1, 1, t7)]).map .agg) fun t97 =>
  clQ base pol 18 [t97] H7 fun t98 H8 =>
  withV (A.ofList true 2 c4 0) fun t99 =>
  clQ base pol 18 [t99] H8 fun t100 H9 =>
  chkD (A.fits 2 t98 && decide (0 + (t98).cells.length ≤ c2.length)) (bindC (A.splice c2 0 (t98).cells) fun c2 =>
  chkD (A.fits 2 t100 && decide (0 + (t100).cells.length ≤ c3.length)) (bindC (A.splice c3 0 (t100).cells) fun c3 =>
  withV (A.ofList true 2 c2 0) fun r4 => withV (A.ofList true 2 c3 0) fun r5 => k (.tup [r4, r5, (AV.bool true)]) H9))))
  (none)))))))) := by kernel_rfl
theorem L27_0_step (pol : FuncId → Pol) (n m : Nat) (t5 t15 t16 t17 : AV) (c0 : List AV) (H : Heap) : L27_0 pol n (m + 1) ⟨[t5, t15, t16, t17], [c0]⟩ H =
  (withV (A.bin base.P .lss 3 t17 t16 false H) fun t18 =>
  A.test t18 (
  withV (A.idx 1 t15 t17 H) fun t20 =>
  withV (A.load false 1 t20 H) fun t21 =>
  withV (Go.Den.convert base 64 63 t21) fun t24 =>
  withV (A.bin base.P .mul 3 (AV.int .i64 32) t17 false H) fun t26 =>
  withV (A.bin base.P .shl 63 t24 t26 false H) fun t27 =>
  withV (A.bin base.P .or 63 t5 t27 false H) fun t28 =>
  withV (A.bin base.P .add 3 t17 (AV.int .i64 1) true H) fun t29 =>
  L27_0 pol n m ⟨[t28, t15, t16, t29], [c0]⟩ H)
  (
  some (0, ⟨[t5], [c0]⟩, H))) := by kernel_rfl
/-- tenement/big.Small -/
theorem S27 (pol : FuncId → Pol) (n : Nat) (R : Type) (k : AV → Heap → Option R) (a0 : AV) (H : Heap) : callF (base.with pol) (n + 1) R 27 [a0] H k =
  (chkD ((a0).cells.length == 2 && (a0).isDef && decide (0 < 2)) (bindC (a0).cells fun c0 =>
  withV (A.ofList false 1 c0 1) fun t10 =>
  cl base pol n 38 [t10] H fun t11 H1 =>
  withV (A.len t11 H1) fun t13 =>
  withV (A.bin base.P .gtr 3 t13 (AV.int .i64 2) true H1) fun t14 =>
  A.test t14 (
  k (.tup [(AV.int .i64 0), (AV.bool false)]) H1)
  (
  withV (A.len t11 H1) fun t16 =>
  bindX (L27_0 pol n n ⟨[(AV.int .u64 0), t11, t16, (AV.int .i64 0)], [c0]⟩ H1) fun i4 l4 H4 =>
  altN i4 0 (
  bindV (l4.vs.getD 0 .undef) fun t5 => bindC (l4.cs.getD 0 []) fun c0 => 
  withV (A.bin base.P .gtr 63 t5 (AV.int .u64 576460752303423488) true H4) fun t31 =>
  A.test t31 (
  k (.tup [(AV.int .i64 0), (AV.bool false)]) H4)
  (
  withV (Go.Den.convert base 63 2 t5) fun t33 =>
  withV (A.ofList false 1 c0 0) fun t35 =>
  bindX (A.test t35 (
   withV (A.un .neg t33) fun t37 =>
    some (0, ⟨[t37], []⟩, H4))
   (
   some (0, ⟨[t33], []⟩, H4))) fun i5 l5 H5 =>
  altN i5 0 (
  bindV (l5.vs.getD 0 .undef) fun t8 => 
  cl base pol n 51 [t8] H5 fun t39 H6 =>
  withV (A.un .not t39) fun t40 =>
  A.test t40 (
  k (.tup [(AV.int .i64 0), (AV.bool false)]) H6)
  (
  k (.tup [t8, (AV.bool true)]) H6))
  (none)))
  (none)))) := by kernel_rfl
theorem L28_0_step (pol : FuncId → Pol) (n m : Nat) (t1 t4 t5 : AV) (H : Heap) : L28_0 pol n (m + 1) ⟨[t1, t4, t5], []⟩ H =
  (withV (A.bin base.P .geq 3 t5 (AV.int .i64 0) true H) fun t17 =>
  A.test t17 (
  withV (A.bin base.P .shl 63 t4 (AV.int .u64 32) true H) fun t21 =>
  withV (A.fa 1 t1 H) fun t22 =>
  withV (A.load false 1 t22 H) fun t23 =>
  withV (A.idx 1 t23 t5 H) fun t25 =>
  withV (A.load false 1 t25 H) fun t26 =>
  withV (Go.Den.convert base 64 63 t26) fun t27 =>
  withV (A.bin base.P .or 63 t21 t27 false H) fun t28 =>
  withV (A.bin base.P .sub 3 t5 (AV.int .i64 1) true H) fun t19 =>
  L28_0 pol n m ⟨[t1, t28, t19], []⟩ H)
  (
  some (0, ⟨[t1, t4], []⟩, H))) := by kernel_rfl
/-- tenement/tenementref1.SmallOf -/
theorem S28 (pol : FuncId → Pol) (n : Nat) (R : Type) (k : AV → Heap → Option R) (a0 : AV) (H : Heap) : callF (base.with pol) (n + 1) R 28 [a0] H k =
  (chkD ((a0).cells.length == 2 && (a0).isDef && decide (0 < 2)) (bindV (.ptr H.length 0 0 0) fun t1 => bindH (H ++ [.row 0 2 24 [a0]]) fun H1 =>
  withV (A.load true 2 t1 H1) fun t6 =>
  cl base pol n 18 [t6] H1 fun t7 H2 =>
  withH (A.store 2 t1 t7 H2) fun H3 =>
  withV (A.fa 1 t1 H3) fun t8 =>
  withV (A.load false 1 t8 H3) fun t9 =>
  withV (A.len t9 H3) fun t10 =>
  withV (A.bin base.P .gtr 3 t10 (AV.int .i64 2) true H3) fun t11 =>
  A.test t11 (
  k (.tup [(AV.int .i64 0), (AV.bool false)]) H3)
  (
  withV (A.fa 1 t1 H3) fun t12 =>
  withV (A.load false 1 t12 H3) fun t13 =>
  withV (A.len t13 H3) fun t14 =>
  withV (A.bin base.P .sub 3 t14 (AV.int .i64 1) true H3) fun t15 =>
  bindX (L28_0 pol n n ⟨[t1, (AV.int .u64 0), t15], []⟩ H3) fun i6 l6 H6 =>
  altN i6 0 (
  bindV (l6.vs.getD 0 .undef) fun t1 => bindV (l6.vs.getD 1 .undef) fun t4 => 
  withV (A.bin base.P .gtr 63 t4 (AV.int .u64 576460752303423488) true H6) fun t30 =>
  withB (A.asG false t30) fun b3 => withP (guardB b3 false (
   some (t4, H6))
   (some (.tup [], H6))) fun t32 H7 =>
  withB (A.asG false t30) fun b4 => withP (guardB b4 false (
   withV (A.bin base.P .eql 63 t32 (AV.int .u64 576460752303423488) true H7) fun t33 =>
   some (t33, H7))
   (some (.tup [], H7))) fun t33 H8 =>
  withB (A.asG false t30) fun b5 => withP (guardB b5 false (
   some (t33, H8))
   (some (.tup [], H8))) fun t34 H9 =>
  withB (A.asG true t34) fun b6 => withP (guardB b6 true (
   withV (A.fa 0 t1 H9) fun t35 =>
   some (t35, H9))
   (some (.tup [], H9))) fun t35 H10 =>
  withB (A.asG true t34) fun b7 => withP (guardB b7 true (
   withV (A.load false 1 t35 H10) fun t36 =>
   some (t36, H10))
   (some (.tup [], H10))) fun t36 H11 =>
  withB (A.asG true t34) fun b8 => withP (guardB b8 true (
   withV (A.un .not t36) fun t37 =>
   some (t37, H11))
   (some (.tup [], H11))) fun t37 H12 =>
  withB (A.asG false t30) fun b9 => withP (guardB b9 false (
   withV (A.pick t34 t37 (AV.bool false)) fun t38 =>
   some (t38, H12))
   (some (.tup [], H12))) fun t38 H13 =>
  withV (A.pick t30 (AV.bool true) t38) fun t39 =>
  A.test t39 (
  k (.tup [(AV.int .i64 0), (AV.bool false)]) H13)
  (
  withV (A.fa 0 t1 H13) fun t40 =>
  withV (A.load false 1 t40 H13) fun t41 =>
  A.test t41 (
  withV (Go.Den.convert base 63 2 t4) fun t43 =>
   withV (A.un .neg t43) fun t44 =>
   k (.tup [t44, (AV.bool true)]) H13)
  (
  withV (Go.Den.convert base 63 2 t4) fun t46 =>
  k (.tup [t46, (AV.bool true)]) H13)))
  (none)))) := by kernel_rfl
/-- tenement/tenementref1.Add -/
theorem S29 (pol : FuncId → Pol) (n : Nat) (R : Type) (k : AV → Heap → Option R) (a0 a1 : AV) (H : Heap) : callF (base.with pol) (n + 1) R 29 [a0, a1] H k =
  (chkD ((a0).cells.length == 2 && (a0).isDef && decide (0 < 2)) (bindC (a0).cells fun c0 =>
  chkD ((a1).cells.length == 2 && (a1).isDef && decide (0 < 2)) (bindC (a1).cells fun c1 =>
  bindC [(AV.bool false), AV.nils] fun c2 =>
  withV (A.ofList true 2 c0 0) fun t5 =>
  clQ base pol 18 [t5] H fun t6 H1 =>
  withV (A.ofList true 2 c1 0) fun t7 =>
  clQ base pol 18 [t7] H1 fun t8 H2 =>
  chkD (A.fits 2 t6 && decide (0 + (t6).cells.length ≤ c0.length)) (bindC (A.splice c0 0 (t6).cells) fun c0 =>
  chkD (A.fits 2 t8 && decide (0 + (t8).cells.length ≤ c1.length)) (bindC (A.splice c1 0 (t8).cells) fun c1 =>
  withV (A.ofList false 1 c0 0) fun t10 =>
  withV (A.ofList false 1 c1 0) fun t12 =>
  withV (A.bin base.P .eql 4 t10 t12 false H2) fun t13 =>
  A.test t13 (
  withV (A.ofList false 1 c0 0) fun t15 =>
   withV (A.ofList false 1 c0 1) fun t17 =>
   withV (A.ofList false 1 c1 1) fun t19 =>
   clQ base pol 48 [t17, t19] H2 fun t20 H3 =>
   withV ((A.fill [(AV.bool false), AV.nils] [(0, 1, t15), (1, 1, t20)]).map .agg) fun t21 =>
   clQ base pol 18 [t21] H3 fun t22 H4 =>
   chkD (A.fits 2 t22 && decide (0 + (t22).cells.length ≤ c2.length)) (bindC (A.splice c2 0 (t22).cells) fun c2 =>
   withV (A.ofList true 2 c2 0) fun r4 => k r4 H4))
  (
  withV (A.ofList false 1 c0 1) fun t24 =>
  withV (A.ofList false 1 c1 1) fun t26 =>
  cl base pol n 49 [t24, t26] H2 fun t27 H5 =>
  withV (A.bin base.P .geq 3 t27 (AV.int .i64 0) true H5) fun t28 =>
  A.test t28 (
  withV (A.ofList false 1 c0 0) fun t30 =>
   withV (A.ofList false 1 c0 1) fun t32 =>
   withV (A.ofList false 1 c1 1) fun t34 =>
   clQ base pol 50 [t32, t34] H5 fun t35 H6 =>
   withV ((A.fill [(AV.bool false), AV.nils] [(0, 1, t30), (1, 1, t35)]).map .agg) fun t36 =>
   clQ base pol 18 [t36] H6 fun t37 H7 =>
   chkD (A.fits 2 t37 && decide (0 + (t37).cells.length ≤ c2.length)) (bindC (A.splice c2 0 (t37).cells) fun c2 =>
   withV (A.ofList true 2 c2 0) fun r4 => k r4 H7))
  (
  withV (A.ofList false 1 c1 0) fun t39 =>
  withV (A.ofList false 1 c1 1) fun t41 =>
  withV (A.ofList false 1 c0 1) fun t43 =>
  clQ base pol 50 [t41, t43] H5 fun t44 H8 =>
  withV ((A.fill [(AV.bool false), AV.nils] [(0, 1, t39), (1, 1, t44)]).map .agg) fun t45 =>
  clQ base pol 18 [t45] H8 fun t46 H9 =>
  chkD (A.fits 2 t46 && decide (0 + (t46).cells.length ≤ c2.length)) (bindC (A.splice c2 0 (t46).cells) fun c2 =>
  withV (A.ofList true 2 c2 0) fun r4 => k r4 H9)))))))) := by kernel_rfl
/-- tenement/tenementref1.Sub -/
theorem S30 (pol : FuncId → Pol) (n : Nat) (R : Type) (k : AV → Heap → Option R) (a0 a1 : AV) (H : Heap) : callF (base.with pol) (n + 1) R 30 [a0, a1] H k =
  (chkD ((a0).cells.length == 2 && (a0).isDef && decide (0 < 2)) (bindC (a0).cells fun c0 =>
  chkD ((a1).cells.length == 2 && (a1).isDef && decide (0 < 2)) (bindC (a1).cells fun c1 =>
  bindC [(AV.bool false), AV.nils] fun c2 =>
  withV (A.ofList true 2 c1 0) fun t5 =>
  cl base pol n 18 [t5] H fun t6 H1 =>
  chkD (A.fits 2 t6 && decide (0 + (t6).cells.length ≤ c1.length)) (bindC (A.splice c1 0 (t6).cells) fun c1 =>
  withV (A.ofList false 1 c1 0) fun t8 =>
  withV (A.un .not t8) fun t9 =>
  chkD (A.fits 1 t9 && decide (0 + (t9).cells.length ≤ c1.length)) (bindC (A.splice c1 0 (t9).cells) fun c1 =>
  withV (A.ofList true 2 c0 0) fun t11 =>
  withV (A.ofList true 2 c1 0) fun t12 =>
  cl base pol n 29 [t11, t12] H1 fun t13 H2 =>
  chkD (A.fits 2 t13 && decide (0 + (t13).cells.length ≤ c2.length)) (bindC (A.splice c2 0 (t13).cells) fun c2 =>
  withV (A.ofList true 2 c2 0) fun r4 => k r4 H2)))))) := by kernel_rfl
/-- tenement/tenementref1.CompareNum -/
theorem S31 (pol : FuncId → Pol) (n : Nat) (R : Type) (k : AV → Heap → Option R) (a0 a1 : AV) (H : Heap) : callF (base.with pol) (n + 1) R 31 [a0, a1] H k =
  (chkD ((a0).cells.length == 2 && (a0).isDef && decide (0 < 2)) (bindC (a0).cells fun c0 =>
  chkD ((a1).cells.length == 2 && (a1).isDef && decide (0 < 2)) (bindC (a1).cells fun c1 =>
  withV (A.ofList true 2 c0 0) fun t6 =>
  clQ base pol 18 [t6] H fun t7 H1 =>
  withV (A.ofList true 2 c1 0) fun t8 =>
  clQ base pol 18 [t8] H1 fun t9 H2 =>
  chkD (A.fits 2 t7 && decide (0 + (t7).cells.length ≤ c0.length)) (bindC (A.splice c0 0 (t7).cells) fun c0 =>
  chkD (A.fits 2 t9 && decide (0 + (t9).cells.length ≤ c1.length)) (bindC (A.splice c1 0 (t9).cells) fun c1 =>
  withV (A.ofList false 1 c0 0) fun t11 =>
  withV (A.ofList false 1 c1 0) fun t13 =>
  withV (A.bin base.P .neq 4 t11 t13 false H2) fun t14 =>
  A.test t14 (
  withV (A.ofList false 1 c0 0) fun t16 =>
   A.test t16 (
   k (AV.int .i64 (-1)) H2)
   (
   k (AV.int .i64 1) H2))
  (
  withV (A.ofList false 1 c0 1) fun t18 =>
  withV (A.ofList false 1 c1 1) fun t20 =>
  cl base pol n 49 [t18, t20] H2 fun t21 H3 =>
  withV (A.ofList false 1 c0 0) fun t23 =>
  A.test t23 (
  withV (A.un .neg t21) fun t25 =>
   k t25 H3)
  (
  k t21 H3))))))) := by kernel_rfl
theorem L32_0_step (pol : FuncId → Pol) (n m : Nat) (t3 t27 t28 : AV) (H : Heap) : L32_0 pol n (m + 1) ⟨[t3, t27, t28], []⟩ H =
  (withV (A.bin base.P .lss 3 t28 t27 false H) fun t29 =>
  A.test t29 (
  withV (A.index t3 t28) fun t33 =>
  withV (A.bin base.P .lss 5 t33 (AV.int .u8 48) true H) fun t34 =>
  withB (A.asG false t34) fun b5 => withP (guardB b5 false (
   some (t3, H))
   (some (.tup [], H))) fun t36 H1 =>
  withB (A.asG false t34) fun b6 => withP (guardB b6 false (
   some (t28, H1))
   (some (.tup [], H1))) fun t37 H2 =>
  withB (A.asG false t34) fun b7 => withP (guardB b7 false (
   withV (A.index t36 t37) fun t38 =>
   some (t38, H2))
   (some (.tup [], H2))) fun t38 H3 =>
  withB (A.asG false t34) fun b8 => withP (guardB b8 false (
   withV (A.bin base.P .gtr 5 t38 (AV.int .u8 57) true H3) fun t39 =>
   some (t39, H3))
   (some (.tup [], H3))) fun t39 H4 =>
  withV (A.pick t34 (AV.bool true) t39) fun t40 =>
  A.test t40 (
  some (1, ⟨[(AV.bool false)], []⟩, H4))
  (
  withV (A.bin base.P .add 3 t28 (AV.int .i64 1) true H4) fun t41 =>
  L32_0 pol n m ⟨[t3, t27, t41], []⟩ H4))
  (
  some (0, ⟨[.undef], []⟩, H))) := by kernel_rfl
/-- tenement/big.written -/
theorem S32 (pol : FuncId → Pol) (n : Nat) (R : Type) (k : AV → Heap → Option R) (a0 : AV) (H : Heap) : callF (base.with pol) (n + 1) R 32 [a0] H k =
  (cl base pol n 33 [a0, (AV.str [45])] H fun t8 H1 =>
  extractK t8 0 fun t9 =>
  extractK t8 1 fun t10 =>
  withV (A.bin base.P .eql 9 t9 (AV.str []) true H1) fun t12 =>
  withB (A.asG false t12) fun b3 => withP (guardB b3 false (
   some (t9, H1))
   (some (.tup [], H1))) fun t14 H2 =>
  withB (A.asG false t12) fun b4 => withP (guardB b4 false (
   withV (A.index t14 (AV.int .i64 0)) fun t15 =>
   some (t15, H2))
   (some (.tup [], H2))) fun t15 H3 =>
  withB (A.asG false t12) fun b5 => withP (guardB b5 false (
   withV (A.bin base.P .eql 5 t15 (AV.int .u8 48) true H3) fun t16 =>
   some (t16, H3))
   (some (.tup [], H3))) fun t16 H4 =>
  withB (A.asG false t12) fun b6 => withP (guardB b6 false (
   some (t16, H4))
   (some (.tup [], H4))) fun t17 H5 =>
  withB (A.asG true t17) fun b7 => withP (guardB b7 true (
   some (t9, H5))
   (some (.tup [], H5))) fun t18 H6 =>
  withB (A.asG true t17) fun b8 => withP (guardB b8 true (
   withV (A.lenStr t18) fun t19 =>
   some (t19, H6))
   (some (.tup [], H6))) fun t19 H8 =>
  withB (A.asG true t17) fun b9 => withP (guardB b9 true (
   withV (A.bin base.P .gtr 3 t19 (AV.int .i64 1) true H8) fun t20 =>
   some (t20, H8))
   (some (.tup [], H8))) fun t20 H9 =>
  withB (A.asG true t17) fun b10 => withP (guardB b10 true (
   some (t20, H9))
   (some (.tup [], H9))) fun t21 H10 =>
  withB (A.asG false t21) fun b11 => withP (guardB b11 false (
   some (t10, H10))
   (some (.tup [], H10))) fun t22 H11 =>
  withB (A.asG true t17) fun b12 => withP (guardB b12 true (
   withV (A.pick t21 (AV.bool true) t22) fun t23 =>
   some (t23, H11))
   (some (.tup [], H11))) fun t23 H12 =>
  withB (A.asG false t12) fun b13 => withP (guardB b13 false (
   withV (A.pick t17 t23 (AV.bool false)) fun t24 =>
   some (t24, H12))
   (some (.tup [], H12))) fun t24 H13 =>
  withV (A.pick t12 (AV.bool true) t24) fun t25 =>
  A.test t25 (
  k (AV.bool false) H13)
  (
  withV (A.lenStr t9) fun t27 =>
  bindX (L32_0 pol n n ⟨[t9, t27, (AV.int .i64 0)], []⟩ H13) fun i15 l15 H15 =>
  altN i15 0 (
  bindV (l15.vs.getD 0 .undef) fun t2 => 
  k (AV.bool true) H15)
  (altN i15 1 (
  bindV (l15.vs.getD 0 .undef) fun t2 => 
  k t2 H15)
  (none)))) := by kernel_rfl
/-- strings.CutPrefix -/
theorem S33 (pol : FuncId → Pol) (n : Nat) (R : Type) (k : AV → Heap → Option R) (a0 a1 : AV) (H : Heap) : callF (base.with pol) (n + 1) R 33 [a0, a1] H k =
  (cl base pol n 52 [a0, a1] H fun t8 H1 =>
  extractK t8 0 fun t9 =>
  extractK t8 1 fun t10 =>
  k (.tup [t9, t10]) H1) := by kernel_rfl
end Go.Proofs.YtikkpecdkdgmfaaDoor

/- What each function does, in Den's words. -/
set_option maxRecDepth 100000
namespace Go.Proofs.YtikkpecdkdgmfaaDoor
open Go Go.Den

/-- tenement/big.made -/
theorem S34 (pol : FuncId → Pol) (n : Nat) (R : Type) (k : AV → Heap → Option R) (a0 a1 : AV) (H : Heap) : callF (base.with pol) (n + 1) R 34 [a0, a1] H k =
  (bindC [(AV.bool false), AV.nils] fun c0 =>
  cl base pol n 38 [a1] H fun t6 H1 =>
  withB (A.asG true a0) fun b2 => withP (guardB b2 true (
   some (t6, H1))
   (some (.tup [], H1))) fun t9 H2 =>
  withB (A.asG true a0) fun b3 => withP (guardB b3 true (
   withV (A.len t9 H2) fun t10 =>
   some (t10, H2))
   (some (.tup [], H2))) fun t10 H4 =>
  withB (A.asG true a0) fun b4 => withP (guardB b4 true (
   withV (A.bin base.P .gtr 3 t10 (AV.int .i64 0) true H4) fun t11 =>
   some (t11, H4))
   (some (.tup [], H4))) fun t11 H5 =>
  withV (A.pick a0 t11 (AV.bool false)) fun t12 =>
  withV ((A.fill [(AV.bool false), AV.nils] [(0, 1, t12), (1, 1, t6)]).map .agg) fun t14 =>
  chkD (A.fits 2 t14 && decide (0 + (t14).cells.length ≤ c0.length)) (bindC (A.splice c0 0 (t14).cells) fun c0 =>
  withV (A.ofList true 2 c0 0) fun r4 => k r4 H5)) := by kernel_rfl
theorem L35_0_step (pol : FuncId → Pol) (n m : Nat) (t2 t3 t5 : AV) (H : Heap) : L35_0 pol n (m + 1) ⟨[t2, t3, t5], []⟩ H =
  (withV (A.fa 1 t2 H) fun t21 =>
  withV (A.load false 1 t21 H) fun t22 =>
  withV (A.len t22 H) fun t23 =>
  withV (A.bin base.P .lss 3 t5 t23 false H) fun t24 =>
  A.test t24 (
  withV (A.fa 1 t2 H) fun t27 =>
  withV (A.load false 1 t27 H) fun t28 =>
  withV (A.idx 1 t28 t5 H) fun t30 =>
  withV (A.load false 1 t30 H) fun t31 =>
  withV (A.fa 1 t3 H) fun t32 =>
  withV (A.load false 1 t32 H) fun t33 =>
  withV (A.idx 1 t33 t5 H) fun t35 =>
  withV (A.load false 1 t35 H) fun t36 =>
  withV (A.bin base.P .neq 64 t31 t36 false H) fun t37 =>
  A.test t37 (
  some (1, ⟨[(AV.bool false)], []⟩, H))
  (
  withV (A.bin base.P .add 3 t5 (AV.int .i64 1) true H) fun t26 =>
  L35_0 pol n m ⟨[t2, t3, t26], []⟩ H))
  (
  some (0, ⟨[.undef], []⟩, H))) := by kernel_rfl
/-- tenement/tenementref1.SameNum -/
theorem S35 (pol : FuncId → Pol) (n : Nat) (R : Type) (k : AV → Heap → Option R) (a0 a1 : AV) (H : Heap) : callF (base.with pol) (n + 1) R 35 [a0, a1] H k =
  (chkD ((a0).cells.length == 2 && (a0).isDef && decide (0 < 2)) (bindV (.ptr H.length 0 0 0) fun t2 => bindH (H ++ [.row 0 2 24 [a0]]) fun H1 =>
  chkD ((a1).cells.length == 2 && (a1).isDef && decide (0 < 2)) (bindV (.ptr H1.length 0 0 0) fun t3 => bindH (H1 ++ [.row 0 2 24 [a1]]) fun H2 =>
  withV (A.fa 0 t2 H2) fun t6 =>
  withV (A.load false 1 t6 H2) fun t7 =>
  withV (A.fa 0 t3 H2) fun t8 =>
  withV (A.load false 1 t8 H2) fun t9 =>
  withV (A.bin base.P .neq 4 t7 t9 false H2) fun t10 =>
  withB (A.asG false t10) fun b6 => withP (guardB b6 false (
   withV (A.fa 1 t2 H2) fun t12 =>
   some (t12, H2))
   (some (.tup [], H2))) fun t12 H3 =>
  withB (A.asG false t10) fun b7 => withP (guardB b7 false (
   withV (A.load false 1 t12 H3) fun t13 =>
   some (t13, H3))
   (some (.tup [], H3))) fun t13 H4 =>
  withB (A.asG false t10) fun b8 => withP (guardB b8 false (
   withV (A.len t13 H4) fun t14 =>
   some (t14, H4))
   (some (.tup [], H4))) fun t14 H6 =>
  withB (A.asG false t10) fun b9 => withP (guardB b9 false (
   withV (A.fa 1 t3 H6) fun t15 =>
   some (t15, H6))
   (some (.tup [], H6))) fun t15 H7 =>
  withB (A.asG false t10) fun b10 => withP (guardB b10 false (
   withV (A.load false 1 t15 H7) fun t16 =>
   some (t16, H7))
   (some (.tup [], H7))) fun t16 H8 =>
  withB (A.asG false t10) fun b11 => withP (guardB b11 false (
   withV (A.len t16 H8) fun t17 =>
   some (t17, H8))
   (some (.tup [], H8))) fun t17 H10 =>
  withB (A.asG false t10) fun b12 => withP (guardB b12 false (
   withV (A.bin base.P .neq 3 t14 t17 false H10) fun t18 =>
   some (t18, H10))
   (some (.tup [], H10))) fun t18 H11 =>
  withV (A.pick t10 (AV.bool true) t18) fun t19 =>
  A.test t19 (
  k (AV.bool false) H11)
  (
  bindX (L35_0 pol n n ⟨[t2, t3, (AV.int .i64 0)], []⟩ H11) fun i12 l12 H12 =>
  altN i12 0 (
  bindV (l12.vs.getD 0 .undef) fun t4 => 
  k (AV.bool true) H12)
  (altN i12 1 (
  bindV (l12.vs.getD 0 .undef) fun t4 => 
  k t4 H12)
  (none)))))) := by kernel_rfl
theorem L36_0_step (pol : FuncId → Pol) (n m : Nat) (t0 t1 t6 t7 t8 : AV) (H : Heap) : L36_0 pol n (m + 1) ⟨[t0, t1, t6, t7, t8], []⟩ H =
  (withV (A.bin base.P .geq 3 t8 (AV.int .i64 0) true H) fun t16 =>
  A.test t16 (
  withV (A.bin base.P .shl 63 t7 (AV.int .u64 32) true H) fun t20 =>
  withV (A.idx 1 t0 t8 H) fun t23 =>
  withV (A.load false 1 t23 H) fun t24 =>
  withV (Go.Den.convert base 64 63 t24) fun t25 =>
  withV (A.bin base.P .or 63 t20 t25 false H) fun t26 =>
  withV (Go.Den.convert base 64 63 t1) fun t31 =>
  withV (A.bin base.P .quo 63 t26 t31 false H) fun t32 =>
  withV (Go.Den.convert base 63 64 t32) fun t33 =>
  withV (A.idx 1 t6 t8 H) fun t34 =>
  withH (A.store 1 t34 t33 H) fun H1 =>
  withV (Go.Den.convert base 64 63 t1) fun t37 =>
  withV (A.bin base.P .rem 63 t26 t37 false H1) fun t38 =>
  withV (A.bin base.P .sub 3 t8 (AV.int .i64 1) true H1) fun t18 =>
  L36_0 pol n m ⟨[t0, t1, t6, t38, t18], []⟩ H1)
  (
  some (0, ⟨[t6, t7], []⟩, H))) := by kernel_rfl
/-- tenement/big.byOne -/
theorem S36 (pol : FuncId → Pol) (n : Nat) (R : Type) (k : AV → Heap → Option R) (a0 a1 : AV) (H : Heap) : callF (base.with pol) (n + 1) R 36 [a0, a1] H k =
  (withV (A.len a0 H) fun t10 =>
  withVH (A.makeSlice 1 4 64 (AV.int .u32 0) t10 t10 H) fun t11 H2 =>
  withV (A.len a0 H2) fun t13 =>
  withV (A.bin base.P .sub 3 t13 (AV.int .i64 1) true H2) fun t14 =>
  bindX (L36_0 pol n n ⟨[a0, a1, t11, (AV.int .u64 0), t14], []⟩ H2) fun i4 l4 H4 =>
  altN i4 0 (
  bindV (l4.vs.getD 0 .undef) fun t6 => bindV (l4.vs.getD 1 .undef) fun t7 => 
  withV (Go.Den.convert base 63 64 t7) fun t41 =>
  k (.tup [t6, t41]) H4)
  (none)) := by kernel_rfl
theorem L37_0_step (pol : FuncId → Pol) (n m : Nat) (t0 t3 t4 : AV) (H : Heap) : L37_0 pol n (m + 1) ⟨[t0, t3, t4], []⟩ H =
  (withV (A.bin base.P .geq 3 t4 (AV.int .i64 0) true H) fun t8 =>
  A.test t8 (
  withV (A.bin base.P .rem 64 t0 (AV.int .u32 10) true H) fun t14 =>
  withV (A.bin base.P .add 64 (AV.int .u32 48) t14 false H) fun t15 =>
  withV (Go.Den.convert base 64 5 t15) fun t16 =>
  withV (A.idx 1 t3 t4 H) fun t17 =>
  withH (A.store 1 t17 t16 H) fun H1 =>
  withV (A.bin base.P .quo 64 t0 (AV.int .u32 10) true H1) fun t19 =>
  withV (A.bin base.P .sub 3 t4 (AV.int .i64 1) true H1) fun t10 =>
  L37_0 pol n m ⟨[t19, t3, t10], []⟩ H1)
  (
  some (0, ⟨[t3], []⟩, H))) := by kernel_rfl
/-- tenement/big.digits -/
theorem S37 (pol : FuncId → Pol) (n : Nat) (R : Type) (k : AV → Heap → Option R) (a0 : AV) (H : Heap) : callF (base.with pol) (n + 1) R 37 [a0] H k =
  (cl base pol n 53 [(AV.str [48]), (AV.int .i64 9)] H fun t5 H1 =>
  convertK base 9 83 t5 H1 fun t6 H2 =>
  bindX (L37_0 pol n n ⟨[a0, t6, (AV.int .i64 8)], []⟩ H2) fun i3 l3 H3 =>
  altN i3 0 (
  bindV (l3.vs.getD 0 .undef) fun t3 => 
  convertK base 83 9 t3 H3 fun t21 H4 =>
  k t21 H4)
  (none)) := by kernel_rfl
theorem L38_0_step (pol : FuncId → Pol) (n m : Nat) (t0 t3 : AV) (H : Heap) : L38_0 pol n (m + 1) ⟨[t0, t3], []⟩ H =
  (withV (A.bin base.P .gtr 3 t3 (AV.int .i64 0) true H) fun t7 =>
  withB (A.asG true t7) fun b3 => withP (guardB b3 true (
   some (t0, H))
   (some (.tup [], H))) fun t9 H1 =>
  withB (A.asG true t7) fun b4 => withP (guardB b4 true (
   some (t3, H1))
   (some (.tup [], H1))) fun t10 H2 =>
  withB (A.asG true t7) fun b5 => withP (guardB b5 true (
   withV (A.bin base.P .sub 3 t10 (AV.int .i64 1) true H2) fun t11 =>
   some (t11, H2))
   (some (.tup [], H2))) fun t11 H3 =>
  withB (A.asG true t7) fun b6 => withP (guardB b6 true (
   withV (A.idx 1 t9 t11 H3) fun t12 =>
   some (t12, H3))
   (some (.tup [], H3))) fun t12 H4 =>
  withB (A.asG true t7) fun b7 => withP (guardB b7 true (
   withV (A.load false 1 t12 H4) fun t13 =>
   some (t13, H4))
   (some (.tup [], H4))) fun t13 H5 =>
  withB (A.asG true t7) fun b8 => withP (guardB b8 true (
   withV (A.bin base.P .eql 64 t13 (AV.int .u32 0) true H5) fun t14 =>
   some (t14, H5))
   (some (.tup [], H5))) fun t14 H6 =>
  withV (A.pick t7 t14 (AV.bool false)) fun t15 =>
  A.test t15 (
  withV (A.bin base.P .sub 3 t3 (AV.int .i64 1) true H6) fun t17 =>
  L38_0 pol n m ⟨[t0, t17], []⟩ H6)
  (
  some (0, ⟨[t0, t3], []⟩, H6))) := by kernel_rfl
/-- tenement/big.cut -/
theorem S38 (pol : FuncId → Pol) (n : Nat) (R : Type) (k : AV → Heap → Option R) (a0 : AV) (H : Heap) : callF (base.with pol) (n + 1) R 38 [a0] H k =
  (withV (A.len a0 H) fun t5 =>
  bindX (L38_0 pol n n ⟨[a0, t5], []⟩ H) fun i2 l2 H2 =>
  altN i2 0 (
  bindV (l2.vs.getD 0 .undef) fun t0 => bindV (l2.vs.getD 1 .undef) fun t3 => 
  withV (A.slice 1 t0 none (some t3) none H2) fun t20 =>
  cl base pol n 54 [t20] H2 fun t21 H3 =>
  k t21 H3)
  (none)) := by kernel_rfl
theorem L39_0_step (pol : FuncId → Pol) (n m : Nat) (t0 t2 t3 : AV) (H : Heap) : L39_0 pol n (m + 1) ⟨[t0, t2, t3], []⟩ H =
  (withV (A.bin base.P .lss 3 t2 t3 false H) fun t9 =>
  A.test t9 (
  withV (A.idx 1 t0 t3 H) fun t20 =>
  withV (A.load false 1 t20 H) fun t21 =>
  withV (A.idx 1 t0 t2 H) fun t24 =>
  withV (A.load false 1 t24 H) fun t25 =>
  withV (A.idx 1 t0 t2 H) fun t26 =>
  withH (A.store 1 t26 t21 H) fun H1 =>
  withV (A.idx 1 t0 t3 H1) fun t27 =>
  withH (A.store 1 t27 t25 H1) fun H2 =>
  withV (A.bin base.P .add 3 t2 (AV.int .i64 1) true H2) fun t11 =>
  withV (A.bin base.P .sub 3 t3 (AV.int .i64 1) true H2) fun t13 =>
  L39_0 pol n m ⟨[t0, t11, t13], []⟩ H2)
  (
  some (0, ⟨[], []⟩, H))) := by kernel_rfl
/-- slices.Reverse[[]string,string] -/
theorem S39 (pol : FuncId → Pol) (n : Nat) (R : Type) (k : AV → Heap → Option R) (a0 : AV) (H : Heap) : callF (base.with pol) (n + 1) R 39 [a0] H k =
  (withV (A.len a0 H) fun t5 =>
  withV (A.bin base.P .sub 3 t5 (AV.int .i64 1) true H) fun t6 =>
  bindX (L39_0 pol n n ⟨[a0, (AV.int .i64 0), t6], []⟩ H) fun i2 l2 H2 =>
  altN i2 0 (
  k (.tup []) H2)
  (none)) := by kernel_rfl
/-- strings.TrimLeft -/
theorem S40 (pol : FuncId → Pol) (n : Nat) (R : Type) (k : AV → Heap → Option R) (a0 a1 : AV) (H : Heap) : callF (base.with pol) (n + 1) R 40 [a0, a1] H k =
  (withV (A.bin base.P .eql 9 a0 (AV.str []) true H) fun t8 =>
  withB (A.asG false t8) fun b3 => withP (guardB b3 false (
   some (a1, H))
   (some (.tup [], H))) fun t10 H1 =>
  withB (A.asG false t8) fun b4 => withP (guardB b4 false (
   withV (A.bin base.P .eql 9 t10 (AV.str []) true H1) fun t11 =>
   some (t11, H1))
   (some (.tup [], H1))) fun t11 H2 =>
  withV (A.pick t8 (AV.bool true) t11) fun t12 =>
  A.test t12 (
  k a0 H2)
  (
  withV (A.lenStr a1) fun t15 =>
  withV (A.bin base.P .eql 3 t15 (AV.int .i64 1) true H2) fun t16 =>
  withB (A.asG true t16) fun b4 => withP (guardB b4 true (
   some (a1, H2))
   (some (.tup [], H2))) fun t18 H4 =>
  withB (A.asG true t16) fun b5 => withP (guardB b5 true (
   withV (A.index t18 (AV.int .i64 0)) fun t19 =>
   some (t19, H4))
   (some (.tup [], H4))) fun t19 H5 =>
  withB (A.asG true t16) fun b6 => withP (guardB b6 true (
   withV (A.bin base.P .lss 5 t19 (AV.int .u8 128) true H5) fun t20 =>
   some (t20, H5))
   (some (.tup [], H5))) fun t20 H6 =>
  withV (A.pick t16 t20 (AV.bool false)) fun t21 =>
  A.test t21 (
  withV (A.index a1 (AV.int .i64 0)) fun t24 =>
   cl base pol n 55 [a0, t24] H6 fun t25 H7 =>
   k t25 H7)
  (
  cl base pol n 56 [a1] H6 fun t28 H8 =>
  extractK t28 0 fun t29 =>
  extractK t28 1 fun t30 =>
  bindV (.ptr H8.length 0 0 0) fun t5 => bindH (H8 ++ [.row 0 256 87 [(AV.agg [(AV.bool false), (AV.bool false), (AV.bool false), (AV.bool false), (AV.bool false), (AV.bool false), (AV.bool false), (AV.bool false), (AV.bool false), (AV.bool false), (AV.bool false), (AV.bool false), (AV.bool false), (AV.bool false), (AV.bool false), (AV.bool false), (AV.bool false), (AV.bool false), (AV.bool false), (AV.bool false), (AV.bool false), (AV.bool false), (AV.bool false), (AV.bool false), (AV.bool false), (AV.bool false), (AV.bool false), (AV.bool false), (AV.bool false), (AV.bool false), (AV.bool false), (AV.bool false), (AV.bool false), (AV.bool false), (AV.bool false), (AV.bool false), (AV.bool false), (AV.bool false), (AV.bool false), (AV.bool false), (AV.bool false), (AV.bool false), (AV.bool false), (AV.bool false), (AV.bool false), (AV.bool false), (AV.bool false), (AV.bool false), (AV.bool false), (AV.bool false), (AV.bool false), (AV.bool false), (AV.bool false), (AV.bool false), (AV.bool false), (AV.bool false), (AV.bool false), (AV.bool false), (AV.bool false), (AV.bool false), (AV.bool false), (AV.bool false), (AV.bool false), (AV.bool false), (AV.bool false), (AV.bool false), (AV.bool false), (AV.bool false), (AV.bool false), (AV.bool false), (AV.bool false), (AV.bool false), (AV.bool false), (AV.bool false), (AV.bool false), (AV.bool false), (AV.bool false), (AV.bool false), (AV.bool false), (AV.bool false), (AV.bool false), (AV.bool false), (AV.bool false), (AV.bool false), (AV.bool false), (AV.bool false), (AV.bool false), (AV.bool false), (AV.bool false), (AV.bool false), (AV.bool false), (AV.bool false), (AV.bool false), (AV.bool false), (AV.bool false), (AV.bool false), (AV.bool false), (AV.bool false), (AV.bool false), (AV.bool false), (AV.bool false), (AV.bool false), (AV.bool false), (AV.bool false), (AV.bool false), (AV.bool false), (AV.bool false), (AV.bool false), (AV.bool false), (AV.bool false), (AV.bool false), (AV.bool false), (AV.bool false), (AV.bool false), (AV.bool false), (AV.bool false), (AV.bool false), (AV.bool false), (AV.bool false), (AV.bool false), (AV.bool false), (AV.bool false), (AV.bool false), (AV.bool false), (AV.bool false), (AV.bool false), (AV.bool false), (AV.bool false), (AV.bool false), (AV.bool false), (AV.bool false), (AV.bool false), (AV.bool false), (AV.bool false), (AV.bool false), (AV.bool false), (AV.bool false), (AV.bool false), (AV.bool false), (AV.bool false), (AV.bool false), (AV.bool false), (AV.bool false), (AV.bool false), (AV.bool false), (AV.bool false), (AV.bool false), (AV.bool false), (AV.bool false), (AV.bool false), (AV.bool false), (AV.bool false), (AV.bool false), (AV.bool false), (AV.bool false), (AV.bool false), (AV.bool false), (AV.bool false), (AV.bool false), (AV.bool false), (AV.bool false), (AV.bool false), (AV.bool false), (AV.bool false), (AV.bool false), (AV.bool false), (AV.bool false), (AV.bool false), (AV.bool false), (AV.bool false), (AV.bool false), (AV.bool false), (AV.bool false), (AV.bool false), (AV.bool false), (AV.bool false), (AV.bool false), (AV.bool false), (AV.bool false), (AV.bool false), (AV.bool false), (AV.bool false), (AV.bool false), (AV.bool false), (AV.bool false), (AV.bool false), (AV.bool false), (AV.bool false), (AV.bool false), (AV.bool false), (AV.bool false), (AV.bool false), (AV.bool false), (AV.bool false), (AV.bool false), (AV.bool false), (AV.bool false), (AV.bool false), (AV.bool false), (AV.bool false), (AV.bool false), (AV.bool false), (AV.bool false), (AV.bool false), (AV.bool false), (AV.bool false), (AV.bool false), (AV.bool false), (AV.bool false), (AV.bool false), (AV.bool false), (AV.bool false), (AV.bool false), (AV.bool false), (AV.bool false), (AV.bool false), (AV.bool false), (AV.bool false), (AV.bool false), (AV.bool false), (AV.bool false), (AV.bool false), (AV.bool false), (AV.bool false), (AV.bool false), (AV.bool false), (AV.bool false), (AV.bool false), (AV.bool false), (AV.bool false), (AV.bool false), (AV.bool false), (AV.bool false), (AV.bool false), (AV.bool false), (AV.bool false), (AV.bool false), (AV.bool false), (AV.bool false), (AV.bool false), (AV.bool false), (AV.bool false), (AV.bool false), (AV.bool false), (AV.bool false), (AV.bool false), (AV.bool false), (AV.bool false), (AV.bool false), (AV.bool false), (AV.bool false), (AV.bool false), (AV.bool false), (AV.bool false), (AV.bool false), (AV.bool false)])]]) fun H9 =>
  withH (A.store 256 t5 t29 H9) fun H10 =>
  A.test t30 (
  cl base pol n 57 [a0, t5] H10 fun t33 H11 =>
   k t33 H11)
  (
  cl base pol n 58 [a0, a1] H10 fun t36 H12 =>
  k t36 H12)))) := by kernel_rfl
theorem L41_1_step (pol : FuncId → Pol) (n m : Nat) (t1 t8 t63 t64 t65 : AV) (H : Heap) : L41_1 pol n (m + 1) ⟨[t1, t8, t63, t64, t65], []⟩ H =
  (withV (A.bin base.P .lss 3 t65 t64 false H) fun t66 =>
  A.test t66 (
  withV (A.idx 1 t63 t65 H) fun t67 =>
  withV (A.load false 1 t67 H) fun t68 =>
  cl base pol n 60 [t8, t1] H fun t70 H1 =>
  cl base pol n 60 [t8, t68] H1 fun t72 H2 =>
  withV (A.bin base.P .add 3 t65 (AV.int .i64 1) true H2) fun t73 =>
  L41_1 pol n m ⟨[t1, t8, t63, t64, t73], []⟩ H2)
  (
  some (0, ⟨[t8], []⟩, H))) := by kernel_rfl
theorem L41_0_step (pol : FuncId → Pol) (n m : Nat) (t0 t1 t5 t39 t40 t41 : AV) (H : Heap) : L41_0 pol n (m + 1) ⟨[t0, t1, t5, t39, t40, t41], []⟩ H =
  (withV (A.bin base.P .lss 3 t41 t40 false H) fun t42 =>
  A.test t42 (
  withV (A.idx 1 t39 t41 H) fun t43 =>
  withV (A.load false 1 t43 H) fun t44 =>
  withV (A.lenStr t44) fun t46 =>
  withV (A.bin base.P .sub 3 (AV.int .i64 9223372036854775807) t5 false H) fun t48 =>
  withV (A.bin base.P .gtr 3 t46 t48 false H) fun t49 =>
  bindX (A.test t49 (
   bindV (.iface 9 (AV.str [115, 116, 114, 105, 110, 103, 115, 58, 32, 74, 111, 105, 110, 32, 111, 117, 116, 112, 117, 116, 32, 108, 101, 110, 103, 116, 104, 32, 111, 118, 101, 114, 102, 108, 111, 119])) fun t50 =>
    none)
   (
   some (0, ⟨[t0, t1, t5, t44, t39, t40, t41], []⟩, H))) fun i2 l2 H2 =>
  altN i2 0 (
  bindV (l2.vs.getD 0 .undef) fun t0 => bindV (l2.vs.getD 1 .undef) fun t1 => bindV (l2.vs.getD 2 .undef) fun t5 => bindV (l2.vs.getD 3 .undef) fun t7 => bindV (l2.vs.getD 4 .undef) fun t39 => bindV (l2.vs.getD 5 .undef) fun t40 => bindV (l2.vs.getD 6 .undef) fun t41 => 
  withV (A.lenStr t7) fun t53 =>
  withV (A.bin base.P .add 3 t5 t53 false H2) fun t54 =>
  withV (A.bin base.P .add 3 t41 (AV.int .i64 1) true H2) fun t55 =>
  L41_0 pol n m ⟨[t0, t1, t54, t39, t40, t55], []⟩ H2)
  (none))
  (
  some (0, ⟨[t0, t1, t5], []⟩, H))) := by kernel_rfl
/-- strings.Join -/
theorem S41 (pol : FuncId → Pol) (n : Nat) (R : Type) (k : AV → Heap → Option R) (a0 a1 : AV) (H : Heap) : callF (base.with pol) (n + 1) R 41 [a0, a1] H k =
  (withV (A.len a0 H) fun t12 =>
  withV (A.bin base.P .eql 3 t12 (AV.int .i64 0) true H) fun t14 =>
  A.test t14 (
  k (AV.str []) H)
  (
  withV (A.bin base.P .eql 3 t12 (AV.int .i64 1) true H) fun t16 =>
   A.test t16 (
   withV (A.idx 1 a0 (AV.int .i64 0) H) fun t18 =>
    withV (A.load false 1 t18 H) fun t19 =>
    k t19 H)
   (
   withV (A.lenStr a1) fun t21 =>
  withV (A.bin base.P .gtr 3 t21 (AV.int .i64 0) true H) fun t22 =>
  bindX (A.test t22 (
   withV (A.lenStr a1) fun t24 =>
    withV (A.len a0 H) fun t26 =>
    withV (A.bin base.P .sub 3 t26 (AV.int .i64 1) true H) fun t27 =>
    withV (A.bin base.P .quo 3 (AV.int .i64 9223372036854775807) t27 false H) fun t28 =>
    withV (A.bin base.P .geq 3 t24 t28 false H) fun t29 =>
    bindX (A.test t29 (
     bindV (.iface 9 (AV.str [115, 116, 114, 105, 110, 103, 115, 58, 32, 74, 111, 105, 110, 32, 111, 117, 116, 112, 117, 116, 32, 108, 101, 110, 103, 116, 104, 32, 111, 118, 101, 114, 102, 108, 111, 119])) fun t30 =>
      none)
     (
     some (0, ⟨[a0, a1, (AV.int .i64 0)], []⟩, H))) fun i5 l5 H5 =>
    altN i5 0 (
    bindV (l5.vs.getD 0 .undef) fun t0 => bindV (l5.vs.getD 1 .undef) fun t1 => bindV (l5.vs.getD 2 .undef) fun t5 => 
    withV (A.lenStr t1) fun t33 =>
    withV (A.len t0 H5) fun t35 =>
    withV (A.bin base.P .sub 3 t35 (AV.int .i64 1) true H5) fun t36 =>
    withV (A.bin base.P .mul 3 t33 t36 false H5) fun t37 =>
    withV (A.bin base.P .add 3 t5 t37 false H5) fun t38 =>
    some (0, ⟨[t0, t1, t38], []⟩, H5))
    (none))
   (
   some (0, ⟨[a0, a1, (AV.int .i64 0)], []⟩, H))) fun i8 l8 H8 =>
  altN i8 0 (
  bindV (l8.vs.getD 0 .undef) fun t0 => bindV (l8.vs.getD 1 .undef) fun t1 => bindV (l8.vs.getD 2 .undef) fun t5 => 
  withV (A.len t0 H8) fun t40 =>
  bindX (L41_0 pol n n ⟨[t0, t1, t5, t0, t40, (AV.int .i64 0)], []⟩ H8) fun i10 l10 H10 =>
  altN i10 0 (
  bindV (l10.vs.getD 0 .undef) fun t0 => bindV (l10.vs.getD 1 .undef) fun t1 => bindV (l10.vs.getD 2 .undef) fun t5 => 
  bindV (.ptr H10.length 0 0 0) fun t8 => bindH (H10 ++ [.row 0 2 94 [(AV.agg [AV.nilp, AV.nils])]]) fun H11 =>
  cl base pol n 59 [t8, t5] H11 fun t57 H12 =>
  withV (A.idx 1 t0 (AV.int .i64 0) H12) fun t59 =>
  withV (A.load false 1 t59 H12) fun t60 =>
  cl base pol n 60 [t8, t60] H12 fun t61 H13 =>
  withV (A.slice 1 t0 (some (AV.int .i64 1)) none none H13) fun t63 =>
  withV (A.len t63 H13) fun t64 =>
  bindX (L41_1 pol n n ⟨[t1, t8, t63, t64, (AV.int .i64 0)], []⟩ H13) fun i15 l15 H15 =>
  altN i15 0 (
  bindV (l15.vs.getD 0 .undef) fun t8 => 
  cl base pol n 61 [t8] H15 fun t74 H16 =>
  k t74 H16)
  (none))
  (none))
  (none)))) := by kernel_rfl
theorem L42_0_step (pol : FuncId → Pol) (n m : Nat) (t0 t1 t6 t7 t8 : AV) (H : Heap) : L42_0 pol n (m + 1) ⟨[t0, t1, t6, t7, t8], []⟩ H =
  (withV (A.bin base.P .geq 3 t8 (AV.int .i64 0) true H) fun t17 =>
  A.test t17 (
  withV (A.bin base.P .shl 63 t7 (AV.int .u64 32) true H) fun t21 =>
  withV (A.idx 1 t0 t8 H) fun t24 =>
  withV (A.load false 1 t24 H) fun t25 =>
  withV (Go.Den.convert base 64 63 t25) fun t26 =>
  withV (A.bin base.P .or 63 t21 t26 false H) fun t27 =>
  withV (A.bin base.P .quo 63 t27 t1 false H) fun t32 =>
  withV (Go.Den.convert base 63 64 t32) fun t33 =>
  withV (A.idx 1 t6 t8 H) fun t34 =>
  withH (A.store 1 t34 t33 H) fun H1 =>
  withV (A.bin base.P .rem 63 t27 t1 false H1) fun t37 =>
  withV (A.bin base.P .sub 3 t8 (AV.int .i64 1) true H1) fun t19 =>
  L42_0 pol n m ⟨[t0, t1, t6, t37, t19], []⟩ H1)
  (
  some (0, ⟨[t6, t7], []⟩, H))) := by kernel_rfl
/-- tenement/tenementref1.short -/
theorem S42 (pol : FuncId → Pol) (n : Nat) (R : Type) (k : AV → Heap → Option R) (a0 a1 : AV) (H : Heap) : callF (base.with pol) (n + 1) R 42 [a0, a1] H k =
  (withV (A.len a0 H) fun t11 =>
  withVH (A.makeSlice 1 4 64 (AV.int .u32 0) t11 t11 H) fun t12 H2 =>
  withV (A.len a0 H2) fun t14 =>
  withV (A.bin base.P .sub 3 t14 (AV.int .i64 1) true H2) fun t15 =>
  bindX (L42_0 pol n n ⟨[a0, a1, t12, (AV.int .u64 0), t15], []⟩ H2) fun i4 l4 H4 =>
  altN i4 0 (
  bindV (l4.vs.getD 0 .undef) fun t6 => bindV (l4.vs.getD 1 .undef) fun t7 => 
  withV ((A.fill [(AV.bool false), AV.nils] [(1, 1, t6)]).map .agg) fun t39 =>
  cl base pol n 18 [t39] H4 fun t40 H5 =>
  withV (A.field false 1 1 t40) fun t41 =>
  k (.tup [t41, t7]) H5)
  (none)) := by kernel_rfl
theorem L43_0_step (pol : FuncId → Pol) (n m : Nat) (t0 t1 t5 : AV) (H : Heap) : L43_0 pol n (m + 1) ⟨[t0, t1, t5], []⟩ H =
  (withV (A.bin base.P .rem 63 t0 t1 false H) fun t8 =>
  withV (A.bin base.P .rem 63 t0 t1 false H) fun t11 =>
  withV (A.bin base.P .add 63 t11 (AV.int .u64 1) true H) fun t12 =>
  withV (A.sliceStr (AV.str [48, 49, 50, 51, 52, 53, 54, 55, 56, 57, 97, 98, 99, 100, 101, 102]) (some t8) (some t12)) fun t13 =>
  withV (A.bin base.P .add 9 t13 t5 false H) fun t15 =>
  withV (A.bin base.P .quo 63 t0 t1 false H) fun t18 =>
  withV (A.bin base.P .eql 63 t18 (AV.int .u64 0) true H) fun t20 =>
  A.test t20 (
  some (0, ⟨[t15], []⟩, H))
  (
  L43_0 pol n m ⟨[t18, t1, t15], []⟩ H)) := by kernel_rfl
/-- tenement/tenementref1.digits -/
theorem S43 (pol : FuncId → Pol) (n : Nat) (R : Type) (k : AV → Heap → Option R) (a0 a1 : AV) (H : Heap) : callF (base.with pol) (n + 1) R 43 [a0, a1] H k =
  (bindX (L43_0 pol n n ⟨[a0, a1, (AV.str [])], []⟩ H) fun i1 l1 H1 =>
  altN i1 0 (
  bindV (l1.vs.getD 0 .undef) fun t4 => 
  k t4 H1)
  (none)) := by kernel_rfl
theorem L44_0_step (pol : FuncId → Pol) (n m : Nat) (t0 t1 t5 : AV) (H : Heap) : L44_0 pol n (m + 1) ⟨[t0, t1, t5], []⟩ H =
  (withV (A.bin base.P .geq 3 t5 (AV.int .i64 0) true H) fun t20 =>
  A.test t20 (
  withV (A.idx 1 t0 t5 H) fun t25 =>
  withV (A.load false 1 t25 H) fun t26 =>
  withV (A.idx 1 t1 t5 H) fun t29 =>
  withV (A.load false 1 t29 H) fun t30 =>
  withV (A.bin base.P .neq 64 t26 t30 false H) fun t31 =>
  A.test t31 (
  withV (A.idx 1 t0 t5 H) fun t34 =>
   withV (A.load false 1 t34 H) fun t35 =>
   withV (A.idx 1 t1 t5 H) fun t38 =>
   withV (A.load false 1 t38 H) fun t39 =>
   clQ base pol 63 [t35, t39] H fun t40 H1 =>
   some (1, ⟨[t40], []⟩, H1))
  (
  withV (A.bin base.P .sub 3 t5 (AV.int .i64 1) true H) fun t22 =>
  L44_0 pol n m ⟨[t0, t1, t22], []⟩ H))
  (
  some (0, ⟨[.undef], []⟩, H))) := by kernel_rfl
/-- tenement/big.size -/
theorem S44 (pol : FuncId → Pol) (n : Nat) (R : Type) (k : AV → Heap → Option R) (a0 a1 : AV) (H : Heap) : callF (base.with pol) (n + 1) R 44 [a0, a1] H k =
  (withV (A.len a0 H) fun t7 =>
  withV (A.len a1 H) fun t9 =>
  withV (A.bin base.P .neq 3 t7 t9 false H) fun t10 =>
  A.test t10 (
  withV (A.len a0 H) fun t12 =>
   withV (A.len a1 H) fun t14 =>
   cl base pol n 62 [t12, t14] H fun t15 H5 =>
   k t15 H5)
  (
  withV (A.len a0 H) fun t17 =>
  withV (A.bin base.P .sub 3 t17 (AV.int .i64 1) true H) fun t18 =>
  bindX (L44_0 pol n n ⟨[a0, a1, t18], []⟩ H) fun i7 l7 H7 =>
  altN i7 0 (
  bindV (l7.vs.getD 0 .undef) fun t4 => 
  k (AV.int .i64 0) H7)
  (altN i7 1 (
  bindV (l7.vs.getD 0 .undef) fun t4 => 
  k t4 H7)
  (none)))) := by kernel_rfl
theorem L45_1_step (pol : FuncId → Pol) (n m : Nat) (t6 t7 t8 t9 t10 : AV) (H : Heap) : L45_1 pol n (m + 1) ⟨[t6, t7, t8, t9, t10], []⟩ H =
  (withV (A.bin base.P .geq 3 t10 (AV.int .i64 0) true H) fun t44 =>
  A.test t44 (
  cl base pol n 65 [t8, t7, t10] H fun t50 H1 =>
  cl base pol n 66 [t8, t7, t10, t50] H1 fun t55 H2 =>
  bindX (A.test t55 (
   withV (A.bin base.P .sub 63 t50 (AV.int .u64 1) true H2) fun t57 =>
    cl base pol n 67 [t8, t7, t10] H2 fun t61 H3 =>
    some (0, ⟨[t6, t7, t8, t9, t10, t57], []⟩, H3))
   (
   some (0, ⟨[t6, t7, t8, t9, t10, t50], []⟩, H2))) fun i4 l4 H4 =>
  altN i4 0 (
  bindV (l4.vs.getD 0 .undef) fun t6 => bindV (l4.vs.getD 1 .undef) fun t7 => bindV (l4.vs.getD 2 .undef) fun t8 => bindV (l4.vs.getD 3 .undef) fun t9 => bindV (l4.vs.getD 4 .undef) fun t10 => bindV (l4.vs.getD 5 .undef) fun t11 => 
  withV (Go.Den.convert base 63 64 t11) fun t65 =>
  withV (A.idx 1 t9 t10 H4) fun t66 =>
  withH (A.store 1 t66 t65 H4) fun H5 =>
  withV (A.bin base.P .sub 3 t10 (AV.int .i64 1) true H5) fun t46 =>
  L45_1 pol n m ⟨[t6, t7, t8, t9, t46], []⟩ H5)
  (none))
  (
  some (0, ⟨[t6, t8, t9], []⟩, H))) := by kernel_rfl
theorem L45_0_step (pol : FuncId → Pol) (n m : Nat) (t0 t1 t6 : AV) (H : Heap) : L45_0 pol n (m + 1) ⟨[t0, t1, t6], []⟩ H =
  (withV (A.len t1 H) fun t14 =>
  withV (A.bin base.P .sub 3 t14 (AV.int .i64 1) true H) fun t15 =>
  withV (A.idx 1 t1 t15 H) fun t16 =>
  withV (A.load false 1 t16 H) fun t17 =>
  withV (A.bin base.P .shl 64 t17 t6 false H) fun t19 =>
  withV (A.bin base.P .shr 64 t19 (AV.int .u64 31) true H) fun t20 =>
  withV (A.bin base.P .eql 64 t20 (AV.int .u32 0) true H) fun t21 =>
  A.test t21 (
  withV (A.bin base.P .add 3 t6 (AV.int .i64 1) true H) fun t23 =>
  L45_0 pol n m ⟨[t0, t1, t23], []⟩ H)
  (
  some (0, ⟨[t0, t1, t6], []⟩, H))) := by kernel_rfl
/-- tenement/big.divided -/
theorem S45 (pol : FuncId → Pol) (n : Nat) (R : Type) (k : AV → Heap → Option R) (a0 a1 : AV) (H : Heap) : callF (base.with pol) (n + 1) R 45 [a0, a1] H k =
  (bindX (L45_0 pol n n ⟨[a0, a1, (AV.int .i64 0)], []⟩ H) fun i1 l1 H1 =>
  altN i1 0 (
  bindV (l1.vs.getD 0 .undef) fun t0 => bindV (l1.vs.getD 1 .undef) fun t1 => bindV (l1.vs.getD 2 .undef) fun t6 => 
  cl base pol n 64 [t1, t6] H1 fun t26 H2 =>
  cl base pol n 38 [t26] H2 fun t27 H3 =>
  cl base pol n 64 [t0, t6] H3 fun t30 H4 =>
  withV (A.len t0 H4) fun t32 =>
  withV (A.len t1 H4) fun t34 =>
  withV (A.bin base.P .sub 3 t32 t34 false H4) fun t35 =>
  withV (A.bin base.P .add 3 t35 (AV.int .i64 1) true H4) fun t36 =>
  withVH (A.makeSlice 1 4 64 (AV.int .u32 0) t36 t36 H4) fun t37 H7 =>
  withV (A.len t0 H7) fun t39 =>
  withV (A.len t1 H7) fun t41 =>
  withV (A.bin base.P .sub 3 t39 t41 false H7) fun t42 =>
  bindX (L45_1 pol n n ⟨[t6, t27, t30, t37, t42], []⟩ H7) fun i10 l10 H10 =>
  altN i10 0 (
  bindV (l10.vs.getD 0 .undef) fun t6 => bindV (l10.vs.getD 1 .undef) fun t8 => bindV (l10.vs.getD 2 .undef) fun t9 => 
  cl base pol n 68 [t8, t6] H10 fun t70 H11 =>
  k (.tup [t9, t70]) H11)
  (none))
  (none)) := by kernel_rfl
end Go.Proofs.YtikkpecdkdgmfaaDoor
