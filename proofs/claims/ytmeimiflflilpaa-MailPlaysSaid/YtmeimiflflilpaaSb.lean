/- What each function does, in Den's words. -/
import Derived.Test.YtmeimiflflilpaaSa
set_option maxRecDepth 100000
namespace Go.Proofs.Ytmeimiflflilpaa
open Go Go.Den

/-- tenement/tenementlaw20.MailKnown -/
theorem S3 (n : Nat) (R : Type) (k : AV → Heap → Option R) (H : Heap) : callF env (n + 1) R 3 [] H k =
  (callF env n _ 9 [] H fun t10 H1 =>
  withV (A.un .not t10) fun t11 =>
  A.test t11 (
  k (.bool false) H1)
  (
  callF env n _ 10 [(.int .i64 2)] H1 fun t12 H2 =>
  callF env n _ 11 [t12, (.str [97])] H2 fun t14 H3 =>
  callF env n _ 11 [t12, (.str [98])] H3 fun t16 H4 =>
  callF env n _ 11 [t12, (.str [99])] H4 fun t18 H5 =>
  callF env n _ 12 [t12] H5 fun t20 H6 =>
  callF env n _ 13 [t12] H6 fun t23 H7 =>
  extractK t23 0 fun t24 =>
  extractK t23 1 fun t25 =>
  callF env n _ 14 [t12] H7 fun t27 H8 =>
  callF env n _ 13 [t12] H8 fun t30 H9 =>
  extractK t30 0 fun t31 =>
  extractK t30 1 fun t32 =>
  withB (A.asB t14) fun b2 => withP (guardB b2 true (
   some (t16, H9))
   (some (.undef, H9))) fun t35 H10 =>
  withV (A.pick t14 t35 (.bool false)) fun t36 =>
  withB (A.asB t36) fun b5 => withP (guardB b5 true (
   some (t18, H10))
   (some (.undef, H10))) fun t38 H11 =>
  withB (A.asB t36) fun b6 => withP (guardB b6 true (
   withV (A.un .not t38) fun t39 =>
   some (t39, H11))
   (some (.undef, H11))) fun t39 H12 =>
  withV (A.pick t36 t39 (.bool false)) fun t40 =>
  withB (A.asB t40) fun b9 => withP (guardB b9 true (
   some (t25, H12))
   (some (.undef, H12))) fun t42 H13 =>
  withV (A.pick t40 t42 (.bool false)) fun t43 =>
  withB (A.asB t43) fun b12 => withP (guardB b12 true (
   some (t24, H13))
   (some (.undef, H13))) fun t45 H14 =>
  withB (A.asB t43) fun b13 => withP (guardB b13 true (
   withV (A.bin env.P .eql 9 t45 (.str [98]) true H14) fun t46 =>
   some (t46, H14))
   (some (.undef, H14))) fun t46 H15 =>
  withV (A.pick t43 t46 (.bool false)) fun t47 =>
  withB (A.asB t47) fun b16 => withP (guardB b16 true (
   some (t27, H15))
   (some (.undef, H15))) fun t49 H16 =>
  withV (A.pick t47 t49 (.bool false)) fun t50 =>
  withB (A.asB t50) fun b19 => withP (guardB b19 true (
   some (t32, H16))
   (some (.undef, H16))) fun t52 H17 =>
  withV (A.pick t50 t52 (.bool false)) fun t53 =>
  withB (A.asB t53) fun b22 => withP (guardB b22 true (
   some (t31, H17))
   (some (.undef, H17))) fun t55 H18 =>
  withB (A.asB t53) fun b23 => withP (guardB b23 true (
   withV (A.bin env.P .eql 9 t55 (.str [97]) true H18) fun t56 =>
   some (t56, H18))
   (some (.undef, H18))) fun t56 H19 =>
  withV (A.pick t53 t56 (.bool false)) fun t57 =>
  withB (A.asB t57) fun b26 => withP (guardB b26 true (
   some (t12, H19))
   (some (.undef, H19))) fun t59 H20 =>
  withB (A.asB t57) fun b27 => withP (guardB b27 true (
   callF env n _ 15 [t59] H20 fun t60 H21 =>
   some (t60, H21))
   (some (.undef, H20))) fun t60 H22 =>
  withB (A.asB t57) fun b28 => withP (guardB b28 true (
   withV (A.bin env.P .eql 3 t60 (.int .i64 0) true H22) fun t61 =>
   some (t61, H22))
   (some (.undef, H22))) fun t61 H23 =>
  withV (A.pick t57 t61 (.bool false)) fun t62 =>
  withB (A.asB t62) fun b31 => withP (guardB b31 true (
   some (t12, H23))
   (some (.undef, H23))) fun t64 H24 =>
  withB (A.asB t62) fun b32 => withP (guardB b32 true (
   callF env n _ 16 [t64] H24 fun t65 H25 =>
   some (t65, H25))
   (some (.undef, H24))) fun t65 H26 =>
  withV (A.pick t62 t65 (.bool false)) fun t66 =>
  withB (A.asB t66) fun b35 => withP (guardB b35 true (
   callF env n _ 17 [(.int .i64 (-1))] H26 fun t68 H27 =>
   some (t68, H27))
   (some (.undef, H26))) fun t68 H28 =>
  withB (A.asB t66) fun b36 => withP (guardB b36 true (
   callF env n _ 18 [t68, (.int .i64 1)] H28 fun t69 H29 =>
   some (t69, H29))
   (some (.undef, H28))) fun t69 H30 =>
  withB (A.asB t66) fun b37 => withP (guardB b37 true (
   withV (A.un .not t69) fun t70 =>
   some (t70, H30))
   (some (.undef, H30))) fun t70 H31 =>
  withV (A.pick t66 t70 (.bool false)) fun t71 =>
  k t71 H31)) := by kernel_rfl
theorem L4_0_step (n m : Nat) (t1 t5 t6 t7 t8 t9 t10 : AV) (H : Heap) : L4_0 n (m + 1) ⟨[t1, t5, t6, t7, t8, t9, t10], []⟩ H =
  (withV (A.len t1 H) fun t28 =>
  withV (A.bin env.P .lss 3 t10 t28 false H) fun t29 =>
  A.test t29 (
  bindX (withV (A.idx 1 t1 t10 H) fun t34 =>
   withV (A.load false 1 t34 H) fun t35 =>
   withV (A.bin env.P .and 5 t35 (.int .u8 1) true H) fun t36 =>
   withV (A.bin env.P .eql 5 t36 (.int .u8 0) true H) fun t37 =>
   A.test t37 (
   callF env n _ 18 [t6, t10] H fun t40 H2 =>
    withV (A.bin env.P .sub 3 t7 t8 false H2) fun t44 =>
    withV (A.bin env.P .lss 3 t44 t5 false H2) fun t46 =>
    withV (A.bin env.P .neq 4 t40 t46 false H2) fun t47 =>
    A.test t47 (
    some (1, ⟨[t1, (.bool false), t5, t6, t7, t8, t9, t10], []⟩, H2))
    (
    bindX (A.test t40 (
     withL (A.fillElems 1 (List.replicate 1 (.int .i64 0)) [(0, 1, t10)]) fun es =>
      bindV (.sl H2.length 0 0 es.length es.length) fun t51 => bindH (H2 ++ [.row 0 1 3 es]) fun H3 =>
      withL (newsOf env 1 33 t51 H3) fun es =>
      withVH (A.append 1 8 3 t9 es H3) fun t52 H4 =>
      withV (A.bin env.P .add 3 t7 (.int .i64 1) true H4) fun t54 =>
      some (0, ⟨[t1, t5, t6, t54, t8, t52, t10], []⟩, H4))
     (
     some (0, ⟨[t1, t5, t6, t7, t8, t9, t10], []⟩, H2))) fun i5 l5 H5 =>
    altN i5 0 (
    bindV (l5.vs.getD 0 .undef) fun t1 => bindV (l5.vs.getD 1 .undef) fun t5 => bindV (l5.vs.getD 2 .undef) fun t6 => bindV (l5.vs.getD 3 .undef) fun t7 => bindV (l5.vs.getD 4 .undef) fun t8 => bindV (l5.vs.getD 5 .undef) fun t9 => bindV (l5.vs.getD 6 .undef) fun t10 => 
    some (0, ⟨[t1, .undef, t5, t6, t7, t8, t9, t10], []⟩, H5))
    (none)))
   (
   callF env n _ 19 [t6] H fun t57 H6 =>
   extractK t57 0 fun t58 =>
   extractK t57 1 fun t59 =>
   withV (A.bin env.P .gtr 3 t7 t8 false H6) fun t63 =>
   withV (A.bin env.P .neq 4 t59 t63 false H6) fun t64 =>
   withB (A.asB t64) fun b6 => withP (guardB b6 false (
    some (t59, H6))
    (some (.undef, H6))) fun t66 H7 =>
   withB (A.asB t64) fun b7 => withP (guardB b7 false (
    some (t66, H7))
    (some (.undef, H7))) fun t67 H8 =>
   withB (A.asB t67) fun b8 => withP (guardB b8 true (
    some (t58, H8))
    (some (.undef, H8))) fun t68 H9 =>
   withB (A.asB t67) fun b9 => withP (guardB b9 true (
    some (t9, H9))
    (some (.undef, H9))) fun t69 H10 =>
   withB (A.asB t67) fun b10 => withP (guardB b10 true (
    some (t8, H10))
    (some (.undef, H10))) fun t70 H11 =>
   withB (A.asB t67) fun b11 => withP (guardB b11 true (
    withV (A.idx 1 t69 t70 H11) fun t71 =>
    some (t71, H11))
    (some (.undef, H11))) fun t71 H12 =>
   withB (A.asB t67) fun b12 => withP (guardB b12 true (
    withV (A.load false 1 t71 H12) fun t72 =>
    some (t72, H12))
    (some (.undef, H12))) fun t72 H13 =>
   withB (A.asB t67) fun b13 => withP (guardB b13 true (
    withV (A.bin env.P .neq 3 t68 t72 false H13) fun t73 =>
    some (t73, H13))
    (some (.undef, H13))) fun t73 H14 =>
   withB (A.asB t64) fun b14 => withP (guardB b14 false (
    withV (A.pick t67 t73 (.bool false)) fun t74 =>
    some (t74, H14))
    (some (.undef, H14))) fun t74 H15 =>
   withV (A.pick t64 (.bool true) t74) fun t75 =>
   withB (A.asB t75) fun b17 => withP (guardB b17 false (
    some (t6, H15))
    (some (.undef, H15))) fun t77 H16 =>
   withB (A.asB t75) fun b18 => withP (guardB b18 false (
    callF env n _ 20 [t77] H16 fun t78 H17 =>
    some (t78, H17))
    (some (.undef, H16))) fun t78 H18 =>
   withB (A.asB t75) fun b19 => withP (guardB b19 false (
    some (t59, H18))
    (some (.undef, H18))) fun t79 H19 =>
   withB (A.asB t75) fun b20 => withP (guardB b20 false (
    withV (A.bin env.P .neq 4 t78 t79 false H19) fun t80 =>
    some (t80, H19))
    (some (.undef, H19))) fun t80 H20 =>
   withV (A.pick t75 (.bool true) t80) fun t81 =>
   A.test t81 (
   some (1, ⟨[t1, (.bool false), t5, t6, t7, t8, t9, t10], []⟩, H20))
   (
   bindX (A.test t59 (
    withV (A.bin env.P .add 3 t8 (.int .i64 1) true H20) fun t84 =>
     some (0, ⟨[t1, t5, t6, t7, t84, t9, t10], []⟩, H20))
    (
    some (0, ⟨[t1, t5, t6, t7, t8, t9, t10], []⟩, H20))) fun i21 l21 H21 =>
   altN i21 0 (
   bindV (l21.vs.getD 0 .undef) fun t1 => bindV (l21.vs.getD 1 .undef) fun t5 => bindV (l21.vs.getD 2 .undef) fun t6 => bindV (l21.vs.getD 3 .undef) fun t7 => bindV (l21.vs.getD 4 .undef) fun t8 => bindV (l21.vs.getD 5 .undef) fun t9 => bindV (l21.vs.getD 6 .undef) fun t10 => 
   some (0, ⟨[t1, .undef, t5, t6, t7, t8, t9, t10], []⟩, H21))
   (none)))) fun i22 l22 H22 =>
  altN i22 0 (
  bindV (l22.vs.getD 0 .undef) fun t1 => bindV (l22.vs.getD 1 .undef) fun t4 => bindV (l22.vs.getD 2 .undef) fun t5 => bindV (l22.vs.getD 3 .undef) fun t6 => bindV (l22.vs.getD 4 .undef) fun t7 => bindV (l22.vs.getD 5 .undef) fun t8 => bindV (l22.vs.getD 6 .undef) fun t9 => bindV (l22.vs.getD 7 .undef) fun t10 => 
  withV (A.bin env.P .add 3 t10 (.int .i64 1) true H22) fun t31 =>
  L4_0 n m ⟨[t1, t5, t6, t7, t8, t9, t31], []⟩ H22)
  (altN i22 1 (
  bindV (l22.vs.getD 0 .undef) fun t1 => bindV (l22.vs.getD 1 .undef) fun t4 => bindV (l22.vs.getD 2 .undef) fun t5 => bindV (l22.vs.getD 3 .undef) fun t6 => bindV (l22.vs.getD 4 .undef) fun t7 => bindV (l22.vs.getD 5 .undef) fun t8 => bindV (l22.vs.getD 6 .undef) fun t9 => bindV (l22.vs.getD 7 .undef) fun t10 => 
  some (1, ⟨[t4, t6, t7, t8, t9], []⟩, H22))
  (none)))
  (
  some (0, ⟨[.undef, t6, t7, t8, t9], []⟩, H))) := by kernel_rfl
/-- tenement/tenementlaw20.MailOrder -/
theorem S4 (n : Nat) (R : Type) (k : AV → Heap → Option R) (a0 a1 : AV) (H : Heap) : callF env (n + 1) R 4 [a0, a1] H k =
  (callF env n _ 9 [] H fun t14 H1 =>
  withV (A.un .not t14) fun t15 =>
  A.test t15 (
  k (.bool false) H1)
  (
  withV (Go.Den.convert env 5 3 a0) fun t17 =>
  withV (A.bin env.P .rem 3 t17 (.int .i64 20) true H1) fun t18 =>
  withV (A.len a1 H1) fun t20 =>
  withV (A.bin env.P .gtr 3 t20 (.int .i64 100) true H1) fun t21 =>
  A.test t21 (
  k (.bool true) H1)
  (
  callF env n _ 17 [t18] H1 fun t23 H3 =>
  withV (A.bin env.P .eql 29 t23 .nilp true H3) fun t25 =>
  A.test t25 (
  k (.bool false) H3)
  (
  bindX (L4_0 n n ⟨[a1, t18, t23, (.int .i64 0), (.int .i64 0), .nils, (.int .i64 0)], []⟩ H3) fun i4 l4 H4 =>
  altN i4 0 (
  bindV (l4.vs.getD 0 .undef) fun t4 => bindV (l4.vs.getD 1 .undef) fun t6 => bindV (l4.vs.getD 2 .undef) fun t7 => bindV (l4.vs.getD 3 .undef) fun t8 => bindV (l4.vs.getD 4 .undef) fun t9 => 
  callF env n _ 21 [t6] H4 fun t86 H5 =>
  withV (A.bin env.P .sub 3 t7 t8 false H5) fun t89 =>
  withV (A.bin env.P .eql 3 t86 t89 false H5) fun t90 =>
  withB (A.asB t90) fun b7 => withP (guardB b7 true (
   some (t6, H5))
   (some (.undef, H5))) fun t92 H6 =>
  withB (A.asB t90) fun b8 => withP (guardB b8 true (
   callF env n _ 23 [t92] H6 fun t93 H7 =>
   some (t93, H7))
   (some (.undef, H6))) fun t93 H8 =>
  withB (A.asB t90) fun b9 => withP (guardB b9 true (
   some (t9, H8))
   (some (.undef, H8))) fun t94 H9 =>
  withB (A.asB t90) fun b10 => withP (guardB b10 true (
   some (t8, H9))
   (some (.undef, H9))) fun t95 H10 =>
  withB (A.asB t90) fun b11 => withP (guardB b11 true (
   withV (A.slice 1 t94 (some t95) none none H10) fun t96 =>
   some (t96, H10))
   (some (.undef, H10))) fun t96 H11 =>
  withB (A.asB t90) fun b12 => withP (guardB b12 true (
   callF env n _ 22 [t93, t96] H11 fun t97 H12 =>
   some (t97, H12))
   (some (.undef, H11))) fun t97 H13 =>
  withV (A.pick t90 t97 (.bool false)) fun t98 =>
  chkD ((bif (t7.heapy || (t8.heapy || false)) then (sameV (withV (A.bin env.P .sub 3 t7 t8 false H4) fun t89 =>    some (.val t89)) t89 && (sameV (withV (A.bin env.P .sub 3 t7 t8 false H5) fun t89 =>    some (.val t89)) t89 && true)) else true) && ((bif (actsB (A.asB t90) true && (t94.heapy || (t95.heapy || false))) then (sameV (withV (A.slice 1 t94 (some t95) none none H5) fun t96 =>    some (.val t96)) t96 && (sameV (withV (A.slice 1 t94 (some t95) none none H8) fun t96 =>    some (.val t96)) t96 && true)) else true) && true)) (
  k t98 H13))
  (altN i4 1 (
  bindV (l4.vs.getD 0 .undef) fun t4 => bindV (l4.vs.getD 1 .undef) fun t6 => bindV (l4.vs.getD 2 .undef) fun t7 => bindV (l4.vs.getD 3 .undef) fun t8 => bindV (l4.vs.getD 4 .undef) fun t9 => 
  k t4 H4)
  (none)))))) := by kernel_rfl
theorem L5_3_step (n m : Nat) (t1 t5 t6 t8 t9 t10 t11 t12 : AV) (H : Heap) : L5_3 n (m + 1) ⟨[t1, t5, t6, t8, t9, t10, t11, t12], []⟩ H =
  (withB (A.asB t12) fun b2 => withP (guardB b2 true (
   some (t11, H))
   (some (.undef, H))) fun t85 H1 =>
  withB (A.asB t12) fun b3 => withP (guardB b3 true (
   some (t9, H1))
   (some (.undef, H1))) fun t86 H2 =>
  withB (A.asB t12) fun b4 => withP (guardB b4 true (
   withV (A.bin env.P .neq 3 t85 t86 false H2) fun t87 =>
   some (t87, H2))
   (some (.undef, H2))) fun t87 H3 =>
  withV (A.pick t12 t87 (.bool false)) fun t88 =>
  A.test t88 (
  callF env n _ 24 [t5] H3 fun t90 H4 =>
  callF env n _ 19 [t5] H4 fun t93 H5 =>
  extractK t93 0 fun t94 =>
  extractK t93 1 fun t95 =>
  L5_3 n m ⟨[t1, t5, t6, t8, t9, t10, t94, t95], []⟩ H5)
  (
  some (0, ⟨[t1, t5, t6, t8, t10, t12], []⟩, H3))) := by kernel_rfl
theorem L5_2_step (n m : Nat) (t1 t5 t6 t8 t9 t10 : AV) (H : Heap) : L5_2 n (m + 1) ⟨[t1, t5, t6, t8, t9, t10], []⟩ H =
  (withV (A.len t6 H) fun t66 =>
  withV (A.bin env.P .lss 3 t10 t66 false H) fun t67 =>
  withB (A.asB t67) fun b5 => withP (guardB b5 true (
   some (t6, H))
   (some (.undef, H))) fun t69 H2 =>
  withB (A.asB t67) fun b6 => withP (guardB b6 true (
   some (t10, H2))
   (some (.undef, H2))) fun t70 H3 =>
  withB (A.asB t67) fun b7 => withP (guardB b7 true (
   withV (A.idx 1 t69 t70 H3) fun t71 =>
   some (t71, H3))
   (some (.undef, H3))) fun t71 H4 =>
  withB (A.asB t67) fun b8 => withP (guardB b8 true (
   withV (A.load false 1 t71 H4) fun t72 =>
   some (t72, H4))
   (some (.undef, H4))) fun t72 H5 =>
  withB (A.asB t67) fun b9 => withP (guardB b9 true (
   some (t9, H5))
   (some (.undef, H5))) fun t73 H6 =>
  withB (A.asB t67) fun b10 => withP (guardB b10 true (
   withV (A.bin env.P .neq 3 t72 t73 false H6) fun t74 =>
   some (t74, H6))
   (some (.undef, H6))) fun t74 H7 =>
  withV (A.pick t67 t74 (.bool false)) fun t75 =>
  A.test t75 (
  withV (A.bin env.P .add 3 t10 (.int .i64 1) true H7) fun t77 =>
  L5_2 n m ⟨[t1, t5, t6, t8, t9, t77], []⟩ H7)
  (
  some (0, ⟨[t1, t5, t6, t8, t9, t10], []⟩, H7))) := by kernel_rfl
theorem L5_1_step (n m : Nat) (t1 t5 t6 t8 : AV) (H : Heap) : L5_1 n (m + 1) ⟨[t1, t5, t6, t8], []⟩ H =
  (withV (A.len t1 H) fun t54 =>
  withV (A.bin env.P .lss 3 t8 t54 false H) fun t55 =>
  A.test t55 (
  withV (A.idx 1 t1 t8 H) fun t60 =>
  withV (A.load false 1 t60 H) fun t61 =>
  withV (Go.Den.convert env 5 3 t61) fun t62 =>
  withV (A.bin env.P .rem 3 t62 (.int .i64 4) true H) fun t63 =>
  bindX (L5_2 n n ⟨[t1, t5, t6, t8, t63, (.int .i64 0)], []⟩ H) fun i2 l2 H2 =>
  altN i2 0 (
  bindV (l2.vs.getD 0 .undef) fun t1 => bindV (l2.vs.getD 1 .undef) fun t5 => bindV (l2.vs.getD 2 .undef) fun t6 => bindV (l2.vs.getD 3 .undef) fun t8 => bindV (l2.vs.getD 4 .undef) fun t9 => bindV (l2.vs.getD 5 .undef) fun t10 => 
  callF env n _ 19 [t5] H2 fun t80 H3 =>
  extractK t80 0 fun t81 =>
  extractK t80 1 fun t82 =>
  bindX (L5_3 n n ⟨[t1, t5, t6, t8, t9, t10, t81, t82], []⟩ H3) fun i4 l4 H4 =>
  altN i4 0 (
  bindV (l4.vs.getD 0 .undef) fun t1 => bindV (l4.vs.getD 1 .undef) fun t5 => bindV (l4.vs.getD 2 .undef) fun t6 => bindV (l4.vs.getD 3 .undef) fun t8 => bindV (l4.vs.getD 4 .undef) fun t10 => bindV (l4.vs.getD 5 .undef) fun t12 => 
  withV (A.len t6 H4) fun t99 =>
  withV (A.bin env.P .lss 3 t10 t99 false H4) fun t100 =>
  withV (A.bin env.P .neq 4 t12 t100 false H4) fun t101 =>
  A.test t101 (
  some (1, ⟨[(.bool false)], []⟩, H4))
  (
  bindX (A.test t12 (
   withL (A.fillElems 1 (List.replicate 0 (.int .i64 0)) []) fun es =>
    bindV (.sl H4.length 0 0 es.length es.length) fun t103 => bindH (H4 ++ [.row 0 1 3 es]) fun H6 =>
    withV (A.slice 1 t6 none (some t10) none H6) fun t106 =>
    withL (newsOf env 1 33 t106 H6) fun es =>
    withVH (A.append 1 8 3 t103 es H6) fun t107 H7 =>
    withV (A.bin env.P .add 3 t10 (.int .i64 1) true H7) fun t110 =>
    withV (A.slice 1 t6 (some t110) none none H7) fun t111 =>
    withL (newsOf env 1 33 t111 H7) fun es =>
    withVH (A.append 1 8 3 t107 es H7) fun t112 H8 =>
    chkD ((bif (t6.heapy || (t10.heapy || false)) then (sameV (withV (A.slice 1 t6 none (some t10) none H4) fun t106 =>      some (.val t106)) t106 && (sameV (withV (A.slice 1 t6 none (some t10) none H6) fun t106 =>      some (.val t106)) t106 && true)) else true) && ((bif (t10.heapy || (false || false)) then (sameV (withV (A.bin env.P .add 3 t10 (.int .i64 1) true H4) fun t110 =>      some (.val t110)) t110 && (sameV (withV (A.bin env.P .add 3 t10 (.int .i64 1) true H6) fun t110 =>      some (.val t110)) t110 && (sameV (withV (A.bin env.P .add 3 t10 (.int .i64 1) true H7) fun t110 =>      some (.val t110)) t110 && true))) else true) && ((bif (t6.heapy || (t110.heapy || false)) then (sameV (withV (A.slice 1 t6 (some t110) none none H4) fun t111 =>      some (.val t111)) t111 && (sameV (withV (A.slice 1 t6 (some t110) none none H6) fun t111 =>      some (.val t111)) t111 && (sameV (withV (A.slice 1 t6 (some t110) none none H7) fun t111 =>      some (.val t111)) t111 && true))) else true) && true))) (
    callF env n _ 20 [t5] H8 fun t114 H9 =>
    some (0, ⟨[t1, t5, t112, t8], []⟩, H9)))
   (
   callF env n _ 25 [t5] H4 fun t116 H10 =>
    some (0, ⟨[t1, t5, t6, t8], []⟩, H10))) fun i11 l11 H11 =>
  altN i11 0 (
  bindV (l11.vs.getD 0 .undef) fun t1 => bindV (l11.vs.getD 1 .undef) fun t5 => bindV (l11.vs.getD 2 .undef) fun t6 => bindV (l11.vs.getD 3 .undef) fun t8 => 
  callF env n _ 23 [t5] H11 fun t118 H12 =>
  callF env n _ 22 [t118, t6] H12 fun t120 H13 =>
  withV (A.un .not t120) fun t121 =>
  withB (A.asB t121) fun b6 => withP (guardB b6 false (
   some (t5, H13))
   (some (.undef, H13))) fun t123 H14 =>
  withB (A.asB t121) fun b7 => withP (guardB b7 false (
   callF env n _ 26 [t123] H14 fun t124 H15 =>
   some (t124, H15))
   (some (.undef, H14))) fun t124 H16 =>
  withB (A.asB t121) fun b8 => withP (guardB b8 false (
   withV (A.bin env.P .neq 3 t124 (.int .i64 0) true H16) fun t125 =>
   some (t125, H16))
   (some (.undef, H16))) fun t125 H17 =>
  withV (A.pick t121 (.bool true) t125) fun t126 =>
  A.test t126 (
  some (1, ⟨[(.bool false)], []⟩, H17))
  (
  withV (A.bin env.P .add 3 t8 (.int .i64 1) true H17) fun t57 =>
  L5_1 n m ⟨[t1, t5, t6, t57], []⟩ H17))
  (none)))
  (none))
  (none))
  (
  some (0, ⟨[.undef], []⟩, H))) := by kernel_rfl
theorem L5_0_step (n m : Nat) (t0 t1 t5 t6 t7 : AV) (H : Heap) : L5_0 n (m + 1) ⟨[t0, t1, t5, t6, t7], []⟩ H =
  (withV (A.len t0 H) fun t30 =>
  withV (A.bin env.P .lss 3 t7 t30 false H) fun t31 =>
  A.test t31 (
  withV (A.idx 1 t0 t7 H) fun t37 =>
  withV (A.load false 1 t37 H) fun t38 =>
  withV (Go.Den.convert env 5 3 t38) fun t39 =>
  withV (A.bin env.P .rem 3 t39 (.int .i64 4) true H) fun t40 =>
  callF env n _ 18 [t5, t40] H fun t41 H2 =>
  withV (A.un .not t41) fun t42 =>
  A.test t42 (
  some (1, ⟨[t1, (.bool false), t5, t6], []⟩, H2))
  (
  withV (A.idx 1 t0 t7 H2) fun t46 =>
  withV (A.load false 1 t46 H2) fun t47 =>
  withV (Go.Den.convert env 5 3 t47) fun t48 =>
  withV (A.bin env.P .rem 3 t48 (.int .i64 4) true H2) fun t49 =>
  withL (A.fillElems 1 (List.replicate 1 (.int .i64 0)) [(0, 1, t49)]) fun es =>
  bindV (.sl H2.length 0 0 es.length es.length) fun t50 => bindH (H2 ++ [.row 0 1 3 es]) fun H3 =>
  withL (newsOf env 1 33 t50 H3) fun es =>
  withVH (A.append 1 8 3 t6 es H3) fun t51 H4 =>
  withV (A.bin env.P .add 3 t7 (.int .i64 1) true H4) fun t33 =>
  L5_0 n m ⟨[t0, t1, t5, t51, t33], []⟩ H4))
  (
  some (0, ⟨[t1, .undef, t5, t6], []⟩, H))) := by kernel_rfl
/-- tenement/tenementlaw20.MailSelects -/
theorem S5 (n : Nat) (R : Type) (k : AV → Heap → Option R) (a0 a1 : AV) (H : Heap) : callF env (n + 1) R 5 [a0, a1] H k =
  (callF env n _ 9 [] H fun t13 H1 =>
  withV (A.un .not t13) fun t14 =>
  A.test t14 (
  k (.bool false) H1)
  (
  withV (A.len a0 H1) fun t16 =>
  withV (A.bin env.P .gtr 3 t16 (.int .i64 100) true H1) fun t17 =>
  withB (A.asB t17) fun b4 => withP (guardB b4 false (
   some (a1, H1))
   (some (.undef, H1))) fun t19 H3 =>
  withB (A.asB t17) fun b5 => withP (guardB b5 false (
   withV (A.len t19 H3) fun t20 =>
   some (t20, H3))
   (some (.undef, H3))) fun t20 H5 =>
  withB (A.asB t17) fun b6 => withP (guardB b6 false (
   withV (A.bin env.P .gtr 3 t20 (.int .i64 100) true H5) fun t21 =>
   some (t21, H5))
   (some (.undef, H5))) fun t21 H6 =>
  withV (A.pick t17 (.bool true) t21) fun t22 =>
  A.test t22 (
  k (.bool true) H6)
  (
  withV (A.len a0 H6) fun t24 =>
  callF env n _ 17 [t24] H6 fun t25 H8 =>
  withV (A.bin env.P .eql 29 t25 .nilp true H8) fun t27 =>
  A.test t27 (
  k (.bool false) H8)
  (
  bindX (L5_0 n n ⟨[a0, a1, t25, .nils, (.int .i64 0)], []⟩ H8) fun i9 l9 H9 =>
  altN i9 0 (
  bindV (l9.vs.getD 0 .undef) fun t1 => bindV (l9.vs.getD 1 .undef) fun t4 => bindV (l9.vs.getD 2 .undef) fun t5 => bindV (l9.vs.getD 3 .undef) fun t6 => 
  bindX (L5_1 n n ⟨[t1, t5, t6, (.int .i64 0)], []⟩ H9) fun i10 l10 H10 =>
  altN i10 0 (
  bindV (l10.vs.getD 0 .undef) fun t4 => 
  k (.bool true) H10)
  (altN i10 1 (
  bindV (l10.vs.getD 0 .undef) fun t4 => 
  k t4 H10)
  (none)))
  (altN i9 1 (
  bindV (l9.vs.getD 0 .undef) fun t1 => bindV (l9.vs.getD 1 .undef) fun t4 => bindV (l9.vs.getD 2 .undef) fun t5 => bindV (l9.vs.getD 3 .undef) fun t6 => 
  k t4 H9)
  (none)))))) := by kernel_rfl
noncomputable def B6_0 (n : Nat) (t1 : AV) (t5 : AV) (t6 : AV) (t7 : AV) (t141 : AV) (c0 : List AV) (H : Heap) : Option (Nat × Live × Heap) :=
  (A.test t141 (
           callF env n _ 25 [t5] H fun t143 H13 =>
            withV (A.nilCheck t6 H13) fun t145 =>
            withV (A.fa 1 t145 H13) fun t146 =>
            withH (A.store 1 t146 (.int .i64 0) H13) fun H14 =>
            some (0, ⟨[t1, t5, t6, t7, (.bool true)], []⟩, H14))
           (
           withV (A.nilCheck t6 H) fun t41 =>
            withV (A.fa 0 t41 H) fun t42 =>
            withV (A.load false 1 t42 H) fun t43 =>
            withV (A.len t43 H) fun t44 =>
            withV (A.ofList false 1 c0 1) fun t46 =>
            withV (A.bin env.P .rem 3 t46 (.int .i64 3) true H) fun t47 =>
            withV (A.bin env.P .eql 3 t47 (.int .i64 0) true H) fun t48 =>
            bindX (A.test t48 (
             withV (A.bin env.P .add 3 t44 (.int .i64 1) true H) fun t50 =>
              some (0, ⟨[t1, t5, t6, t7, t50], [c0]⟩, H))
             (
             some (0, ⟨[t1, t5, t6, t7, t44], [c0]⟩, H))) fun i16 l16 H16 =>
            altN i16 0 (
            bindV (l16.vs.getD 0 .undef) fun t1 => bindV (l16.vs.getD 1 .undef) fun t5 => bindV (l16.vs.getD 2 .undef) fun t6 => bindV (l16.vs.getD 3 .undef) fun t7 => bindV (l16.vs.getD 4 .undef) fun t14 => bindC (l16.cs.getD 0 []) fun c0 => 
            bindX (L6_1 n n ⟨[t1, t5, t6, t7, t14, .nils, (.int .i64 0)], [c0]⟩ H16) fun i17 l17 H17 =>
            altN i17 0 (
            bindV (l17.vs.getD 0 .undef) fun t1 => bindV (l17.vs.getD 1 .undef) fun t5 => bindV (l17.vs.getD 2 .undef) fun t6 => bindV (l17.vs.getD 3 .undef) fun t7 => bindV (l17.vs.getD 4 .undef) fun t14 => bindV (l17.vs.getD 5 .undef) fun t15 => 
            callF env n _ 31 [t5, t15] H17 fun t65 H18 =>
            withV (A.nilCheck t6 H18) fun t68 =>
            withV (A.fa 0 t68 H18) fun t69 =>
            withV (A.load false 1 t69 H18) fun t70 =>
            withV (A.len t70 H18) fun t71 =>
            withV (A.bin env.P .eql 3 t14 t71 false H18) fun t72 =>
            withV (A.bin env.P .eql 4 t65 t72 false H18) fun t73 =>
            chkD ((bif (t6.heapy || false) then (sameV (withV (A.nilCheck t6 H17) fun t68 =>              some (.val t68)) t68 && (sameV (withV (A.nilCheck t6 H18) fun t68 =>              some (.val t68)) t68 && true)) else true) && ((bif (t68.heapy || false) then (sameV (withV (A.fa 0 t68 H17) fun t69 =>              some (.val t69)) t69 && (sameV (withV (A.fa 0 t68 H18) fun t69 =>              some (.val t69)) t69 && true)) else true) && ((bif (t69.heapy || false) then (sameV (withV (A.load false 1 t69 H17) fun t70 =>              some (.val t70)) t70 && (sameV (withV (A.load false 1 t69 H18) fun t70 =>              some (.val t70)) t70 && true)) else true) && ((bif (t70.heapy || false) then (sameV (withV (A.len t70 H17) fun t71 =>              some (.val t71)) t71 && (sameV (withV (A.len t70 H18) fun t71 =>              some (.val t71)) t71 && true)) else true) && ((bif (t14.heapy || (t71.heapy || false)) then (sameV (withV (A.bin env.P .eql 3 t14 t71 false H17) fun t72 =>              some (.val t72)) t72 && (sameV (withV (A.bin env.P .eql 3 t14 t71 false H18) fun t72 =>              some (.val t72)) t72 && true)) else true) && true))))) (
            withV (A.nilCheck t6 H18) fun t76 =>
            withV (A.fa 0 t76 H18) fun t77 =>
            withV (A.load false 1 t77 H18) fun t78 =>
            withV (A.len t78 H18) fun t79 =>
            withV (A.bin env.P .eql 3 t14 t79 false H18) fun t80 =>
            bindX (A.test t80 (
             withV (A.nilCheck t6 H18) fun t83 =>
              withV (A.fa 0 t83 H18) fun t84 =>
              withH (A.store 1 t84 t15 H18) fun H23 =>
              some (0, ⟨[t1, t5, t6, t7, t73], []⟩, H23))
             (
             some (0, ⟨[t1, t5, t6, t7, t73], []⟩, H18))) fun i24 l24 H24 =>
            altN i24 0 (
            bindV (l24.vs.getD 0 .undef) fun t1 => bindV (l24.vs.getD 1 .undef) fun t5 => bindV (l24.vs.getD 2 .undef) fun t6 => bindV (l24.vs.getD 3 .undef) fun t7 => bindV (l24.vs.getD 4 .undef) fun t9 => 
            some (0, ⟨[t1, t5, t6, t7, t9], []⟩, H24))
            (none)))
            (none))
            (none)))
noncomputable def B6_1 (n : Nat) (t1 : AV) (t5 : AV) (t6 : AV) (t7 : AV) (t132 : AV) (c0 : List AV) (H : Heap) : Option (Nat × Live × Heap) :=
  (A.test t132 (
         callF env n _ 24 [t5] H fun t134 H11 =>
          callF env n _ 30 [t6] H11 fun t136 H12 =>
          withV (A.bin env.P .eql 4 t134 t136 false H12) fun t137 =>
          some (0, ⟨[t1, t5, t6, t7, t137], []⟩, H12))
         (
         withV (A.ofList false 1 c0 0) fun t140 =>
          withV (A.bin env.P .eql 3 t140 (.int .i64 8) true H) fun t141 =>
          bindX (B6_0 n t1 t5 t6 t7 t141 c0 H) fun i25 l25 H25 =>
          altN i25 0 (
          bindV (l25.vs.getD 0 .undef) fun t1 => bindV (l25.vs.getD 1 .undef) fun t5 => bindV (l25.vs.getD 2 .undef) fun t6 => bindV (l25.vs.getD 3 .undef) fun t7 => bindV (l25.vs.getD 4 .undef) fun t9 => 
          some (0, ⟨[t1, t5, t6, t7, t9], []⟩, H25))
          (none)))
noncomputable def B6_2 (n : Nat) (t1 : AV) (t5 : AV) (t6 : AV) (t7 : AV) (t123 : AV) (c0 : List AV) (H : Heap) : Option (Nat × Live × Heap) :=
  (A.test t123 (
       callF env n _ 20 [t5] H fun t125 H9 =>
        callF env n _ 29 [t6] H9 fun t127 H10 =>
        withV (A.bin env.P .eql 4 t125 t127 false H10) fun t128 =>
        some (0, ⟨[t1, t5, t6, t7, t128], []⟩, H10))
       (
       withV (A.ofList false 1 c0 0) fun t131 =>
        withV (A.bin env.P .leq 3 t131 (.int .i64 7) true H) fun t132 =>
        bindX (B6_1 n t1 t5 t6 t7 t132 c0 H) fun i26 l26 H26 =>
        altN i26 0 (
        bindV (l26.vs.getD 0 .undef) fun t1 => bindV (l26.vs.getD 1 .undef) fun t5 => bindV (l26.vs.getD 2 .undef) fun t6 => bindV (l26.vs.getD 3 .undef) fun t7 => bindV (l26.vs.getD 4 .undef) fun t9 => 
        some (0, ⟨[t1, t5, t6, t7, t9], []⟩, H26))
        (none)))
noncomputable def B6_3 (n : Nat) (t1 : AV) (t5 : AV) (t6 : AV) (t7 : AV) (t101 : AV) (c0 : List AV) (H : Heap) : Option (Nat × Live × Heap) :=
  (A.test t101 (
     callF env n _ 19 [t5] H fun t104 H4 =>
      extractK t104 0 fun t105 =>
      extractK t104 1 fun t106 =>
      callF env n _ 28 [t6] H4 fun t109 H5 =>
      extractK t109 0 fun t110 =>
      extractK t109 1 fun t111 =>
      withV (A.bin env.P .eql 3 t105 t110 false H5) fun t114 =>
      withB (A.asB t114) fun b4 => withP (guardB b4 true (
       some (t106, H5))
       (some (.undef, H5))) fun t116 H6 =>
      withB (A.asB t114) fun b5 => withP (guardB b5 true (
       some (t111, H6))
       (some (.undef, H6))) fun t117 H7 =>
      withB (A.asB t114) fun b6 => withP (guardB b6 true (
       withV (A.bin env.P .eql 4 t116 t117 false H7) fun t118 =>
       some (t118, H7))
       (some (.undef, H7))) fun t118 H8 =>
      withV (A.pick t114 t118 (.bool false)) fun t119 =>
      some (0, ⟨[t1, t5, t6, t7, t119], []⟩, H8))
     (
     withV (A.ofList false 1 c0 0) fun t122 =>
      withV (A.bin env.P .eql 3 t122 (.int .i64 5) true H) fun t123 =>
      bindX (B6_2 n t1 t5 t6 t7 t123 c0 H) fun i27 l27 H27 =>
      altN i27 0 (
      bindV (l27.vs.getD 0 .undef) fun t1 => bindV (l27.vs.getD 1 .undef) fun t5 => bindV (l27.vs.getD 2 .undef) fun t6 => bindV (l27.vs.getD 3 .undef) fun t7 => bindV (l27.vs.getD 4 .undef) fun t9 => 
      some (0, ⟨[t1, t5, t6, t7, t9], []⟩, H27))
      (none)))
noncomputable def B6_4 (n : Nat) (t1 : AV) (t5 : AV) (t6 : AV) (t7 : AV) (t88 : AV) (c0 : List AV) (H : Heap) : Option (Nat × Live × Heap) :=
  (A.test t88 (
   withV (A.ofList false 1 c0 1) fun t91 =>
    callF env n _ 18 [t5, t91] H fun t92 H2 =>
    withV (A.ofList false 1 c0 1) fun t95 =>
    callF env n _ 27 [t6, t95] H2 fun t96 H3 =>
    withV (A.bin env.P .eql 4 t92 t96 false H3) fun t97 =>
    some (0, ⟨[t1, t5, t6, t7, t97], []⟩, H3))
   (
   withV (A.ofList false 1 c0 0) fun t100 =>
    withV (A.bin env.P .eql 3 t100 (.int .i64 4) true H) fun t101 =>
    bindX (B6_3 n t1 t5 t6 t7 t101 c0 H) fun i28 l28 H28 =>
    altN i28 0 (
    bindV (l28.vs.getD 0 .undef) fun t1 => bindV (l28.vs.getD 1 .undef) fun t5 => bindV (l28.vs.getD 2 .undef) fun t6 => bindV (l28.vs.getD 3 .undef) fun t7 => bindV (l28.vs.getD 4 .undef) fun t9 => 
    some (0, ⟨[t1, t5, t6, t7, t9], []⟩, H28))
    (none)))
theorem L6_1_step (n m : Nat) (t1 t5 t6 t7 t14 t15 t16 : AV) (c0 : List AV) (H : Heap) : L6_1 n (m + 1) ⟨[t1, t5, t6, t7, t14, t15, t16], [c0]⟩ H =
  (withV (A.bin env.P .lss 3 t16 t14 false H) fun t53 =>
  A.test t53 (
  withV (A.ofList false 1 c0 1) fun t58 =>
  withV (A.bin env.P .add 3 t58 t16 false H) fun t60 =>
  withL (A.fillElems 1 (List.replicate 1 (.int .i64 0)) [(0, 1, t60)]) fun es =>
  bindV (.sl H.length 0 0 es.length es.length) fun t61 => bindH (H ++ [.row 0 1 3 es]) fun H1 =>
  withL (newsOf env 1 33 t61 H1) fun es =>
  withVH (A.append 1 8 3 t15 es H1) fun t62 H2 =>
  withV (A.bin env.P .add 3 t16 (.int .i64 1) true H2) fun t55 =>
  L6_1 n m ⟨[t1, t5, t6, t7, t14, t62, t55], [c0]⟩ H2)
  (
  some (0, ⟨[t1, t5, t6, t7, t14, t15], []⟩, H))) := by kernel_rfl
theorem L6_0_step (n m : Nat) (t1 t5 t6 t7 : AV) (H : Heap) : L6_0 n (m + 1) ⟨[t1, t5, t6, t7], []⟩ H =
  (withV (A.len t1 H) fun t32 =>
  withV (A.bin env.P .lss 3 t7 t32 false H) fun t33 =>
  A.test t33 (
  withV (A.idx 2 t1 t7 H) fun t38 =>
  withV (A.load true 2 t38 H) fun t39 =>
  bindC [(.int .i64 0), (.int .i64 0)] fun c0 =>
  chkD (A.fits 2 t39 && decide (0 + (t39).cells.length ≤ c0.length)) (bindC (A.splice c0 0 (t39).cells) fun c0 =>
  withV (A.ofList false 1 c0 0) fun t87 =>
  withV (A.bin env.P .leq 3 t87 (.int .i64 3) true H) fun t88 =>
  bindX (B6_4 n t1 t5 t6 t7 t88 c0 H) fun i29 l29 H29 =>
  altN i29 0 (
  bindV (l29.vs.getD 0 .undef) fun t1 => bindV (l29.vs.getD 1 .undef) fun t5 => bindV (l29.vs.getD 2 .undef) fun t6 => bindV (l29.vs.getD 3 .undef) fun t7 => bindV (l29.vs.getD 4 .undef) fun t9 => 
  withV (A.un .not t9) fun t148 =>
  withB (A.asB t148) fun b3 => withP (guardB b3 false (
   some (t5, H29))
   (some (.undef, H29))) fun t150 H30 =>
  withB (A.asB t148) fun b4 => withP (guardB b4 false (
   callF env n _ 21 [t150] H30 fun t151 H31 =>
   some (t151, H31))
   (some (.undef, H30))) fun t151 H32 =>
  withB (A.asB t148) fun b5 => withP (guardB b5 false (
   some (t6, H32))
   (some (.undef, H32))) fun t152 H33 =>
  withB (A.asB t148) fun b6 => withP (guardB b6 false (
   withV (A.nilCheck t152 H33) fun t153 =>
   some (t153, H33))
   (some (.undef, H33))) fun t153 H34 =>
  withB (A.asB t148) fun b7 => withP (guardB b7 false (
   withV (A.fa 0 t153 H34) fun t154 =>
   some (t154, H34))
   (some (.undef, H34))) fun t154 H35 =>
  withB (A.asB t148) fun b8 => withP (guardB b8 false (
   withV (A.load false 1 t154 H35) fun t155 =>
   some (t155, H35))
   (some (.undef, H35))) fun t155 H36 =>
  withB (A.asB t148) fun b9 => withP (guardB b9 false (
   withV (A.len t155 H36) fun t156 =>
   some (t156, H36))
   (some (.undef, H36))) fun t156 H38 =>
  withB (A.asB t148) fun b10 => withP (guardB b10 false (
   withV (A.bin env.P .neq 3 t151 t156 false H38) fun t157 =>
   some (t157, H38))
   (some (.undef, H38))) fun t157 H39 =>
  withV (A.pick t148 (.bool true) t157) fun t158 =>
  withB (A.asB t158) fun b13 => withP (guardB b13 false (
   some (t5, H39))
   (some (.undef, H39))) fun t160 H40 =>
  withB (A.asB t158) fun b14 => withP (guardB b14 false (
   callF env n _ 26 [t160] H40 fun t161 H41 =>
   some (t161, H41))
   (some (.undef, H40))) fun t161 H42 =>
  withB (A.asB t158) fun b15 => withP (guardB b15 false (
   some (t6, H42))
   (some (.undef, H42))) fun t162 H43 =>
  withB (A.asB t158) fun b16 => withP (guardB b16 false (
   withV (A.nilCheck t162 H43) fun t163 =>
   some (t163, H43))
   (some (.undef, H43))) fun t163 H44 =>
  withB (A.asB t158) fun b17 => withP (guardB b17 false (
   withV (A.fa 1 t163 H44) fun t164 =>
   some (t164, H44))
   (some (.undef, H44))) fun t164 H45 =>
  withB (A.asB t158) fun b18 => withP (guardB b18 false (
   withV (A.load false 1 t164 H45) fun t165 =>
   some (t165, H45))
   (some (.undef, H45))) fun t165 H46 =>
  withB (A.asB t158) fun b19 => withP (guardB b19 false (
   withV (A.bin env.P .neq 3 t161 t165 false H46) fun t166 =>
   some (t166, H46))
   (some (.undef, H46))) fun t166 H47 =>
  withV (A.pick t158 (.bool true) t166) fun t167 =>
  withB (A.asB t167) fun b22 => withP (guardB b22 false (
   some (t5, H47))
   (some (.undef, H47))) fun t169 H48 =>
  withB (A.asB t167) fun b23 => withP (guardB b23 false (
   callF env n _ 32 [t169] H48 fun t170 H49 =>
   some (t170, H49))
   (some (.undef, H48))) fun t170 H50 =>
  withB (A.asB t167) fun b24 => withP (guardB b24 false (
   some (t6, H50))
   (some (.undef, H50))) fun t171 H51 =>
  withB (A.asB t167) fun b25 => withP (guardB b25 false (
   withV (A.nilCheck t171 H51) fun t172 =>
   some (t172, H51))
   (some (.undef, H51))) fun t172 H52 =>
  withB (A.asB t167) fun b26 => withP (guardB b26 false (
   withV (A.fa 1 t172 H52) fun t173 =>
   some (t173, H52))
   (some (.undef, H52))) fun t173 H53 =>
  withB (A.asB t167) fun b27 => withP (guardB b27 false (
   withV (A.load false 1 t173 H53) fun t174 =>
   some (t174, H53))
   (some (.undef, H53))) fun t174 H54 =>
  withB (A.asB t167) fun b28 => withP (guardB b28 false (
   some (t6, H54))
   (some (.undef, H54))) fun t175 H55 =>
  withB (A.asB t167) fun b29 => withP (guardB b29 false (
   withV (A.nilCheck t175 H55) fun t176 =>
   some (t176, H55))
   (some (.undef, H55))) fun t176 H56 =>
  withB (A.asB t167) fun b30 => withP (guardB b30 false (
   withV (A.fa 0 t176 H56) fun t177 =>
   some (t177, H56))
   (some (.undef, H56))) fun t177 H57 =>
  withB (A.asB t167) fun b31 => withP (guardB b31 false (
   withV (A.load false 1 t177 H57) fun t178 =>
   some (t178, H57))
   (some (.undef, H57))) fun t178 H58 =>
  withB (A.asB t167) fun b32 => withP (guardB b32 false (
   withV (A.len t178 H58) fun t179 =>
   some (t179, H58))
   (some (.undef, H58))) fun t179 H60 =>
  withB (A.asB t167) fun b33 => withP (guardB b33 false (
   withV (A.bin env.P .lss 3 t174 t179 false H60) fun t180 =>
   some (t180, H60))
   (some (.undef, H60))) fun t180 H61 =>
  withB (A.asB t167) fun b34 => withP (guardB b34 false (
   withV (A.bin env.P .neq 4 t170 t180 false H61) fun t181 =>
   some (t181, H61))
   (some (.undef, H61))) fun t181 H62 =>
  withV (A.pick t167 (.bool true) t181) fun t182 =>
  withB (A.asB t182) fun b37 => withP (guardB b37 false (
   some (t5, H62))
   (some (.undef, H62))) fun t184 H63 =>
  withB (A.asB t182) fun b38 => withP (guardB b38 false (
   callF env n _ 23 [t184] H63 fun t185 H64 =>
   some (t185, H64))
   (some (.undef, H63))) fun t185 H65 =>
  withB (A.asB t182) fun b39 => withP (guardB b39 false (
   some (t6, H65))
   (some (.undef, H65))) fun t186 H66 =>
  withB (A.asB t182) fun b40 => withP (guardB b40 false (
   withV (A.nilCheck t186 H66) fun t187 =>
   some (t187, H66))
   (some (.undef, H66))) fun t187 H67 =>
  withB (A.asB t182) fun b41 => withP (guardB b41 false (
   withV (A.fa 0 t187 H67) fun t188 =>
   some (t188, H67))
   (some (.undef, H67))) fun t188 H68 =>
  withB (A.asB t182) fun b42 => withP (guardB b42 false (
   withV (A.load false 1 t188 H68) fun t189 =>
   some (t189, H68))
   (some (.undef, H68))) fun t189 H69 =>
  withB (A.asB t182) fun b43 => withP (guardB b43 false (
   callF env n _ 22 [t185, t189] H69 fun t190 H70 =>
   some (t190, H70))
   (some (.undef, H69))) fun t190 H71 =>
  withB (A.asB t182) fun b44 => withP (guardB b44 false (
   withV (A.un .not t190) fun t191 =>
   some (t191, H71))
   (some (.undef, H71))) fun t191 H72 =>
  withV (A.pick t182 (.bool true) t191) fun t192 =>
  chkD ((bif (actsB (A.asB t148) false && (t152.heapy || false)) then (sameV (withV (A.nilCheck t152 H29) fun t153 =>    some (.val t153)) t153 && (sameV (withV (A.nilCheck t152 H32) fun t153 =>    some (.val t153)) t153 && true)) else true) && ((bif (actsB (A.asB t148) false && (t153.heapy || false)) then (sameV (withV (A.fa 0 t153 H29) fun t154 =>    some (.val t154)) t154 && (sameV (withV (A.fa 0 t153 H32) fun t154 =>    some (.val t154)) t154 && true)) else true) && ((bif (actsB (A.asB t148) false && (t154.heapy || false)) then (sameV (withV (A.load false 1 t154 H29) fun t155 =>    some (.val t155)) t155 && (sameV (withV (A.load false 1 t154 H32) fun t155 =>    some (.val t155)) t155 && true)) else true) && ((bif (actsB (A.asB t148) false && (t155.heapy || false)) then (sameV (withV (A.len t155 H29) fun t156 =>    some (.val t156)) t156 && (sameV (withV (A.len t155 H32) fun t156 =>    some (.val t156)) t156 && true)) else true) && ((bif (actsB (A.asB t158) false && (t162.heapy || false)) then (sameV (withV (A.nilCheck t162 H32) fun t163 =>    some (.val t163)) t163 && (sameV (withV (A.nilCheck t162 H42) fun t163 =>    some (.val t163)) t163 && true)) else true) && ((bif (actsB (A.asB t158) false && (t163.heapy || false)) then (sameV (withV (A.fa 1 t163 H32) fun t164 =>    some (.val t164)) t164 && (sameV (withV (A.fa 1 t163 H42) fun t164 =>    some (.val t164)) t164 && true)) else true) && ((bif (actsB (A.asB t158) false && (t164.heapy || false)) then (sameV (withV (A.load false 1 t164 H32) fun t165 =>    some (.val t165)) t165 && (sameV (withV (A.load false 1 t164 H42) fun t165 =>    some (.val t165)) t165 && true)) else true) && ((bif (actsB (A.asB t167) false && (t171.heapy || false)) then (sameV (withV (A.nilCheck t171 H42) fun t172 =>    some (.val t172)) t172 && (sameV (withV (A.nilCheck t171 H50) fun t172 =>    some (.val t172)) t172 && true)) else true) && ((bif (actsB (A.asB t167) false && (t172.heapy || false)) then (sameV (withV (A.fa 1 t172 H42) fun t173 =>    some (.val t173)) t173 && (sameV (withV (A.fa 1 t172 H50) fun t173 =>    some (.val t173)) t173 && true)) else true) && ((bif (actsB (A.asB t167) false && (t173.heapy || false)) then (sameV (withV (A.load false 1 t173 H42) fun t174 =>    some (.val t174)) t174 && (sameV (withV (A.load false 1 t173 H50) fun t174 =>    some (.val t174)) t174 && true)) else true) && ((bif (actsB (A.asB t167) false && (t175.heapy || false)) then (sameV (withV (A.nilCheck t175 H42) fun t176 =>    some (.val t176)) t176 && (sameV (withV (A.nilCheck t175 H50) fun t176 =>    some (.val t176)) t176 && true)) else true) && ((bif (actsB (A.asB t167) false && (t176.heapy || false)) then (sameV (withV (A.fa 0 t176 H42) fun t177 =>    some (.val t177)) t177 && (sameV (withV (A.fa 0 t176 H50) fun t177 =>    some (.val t177)) t177 && true)) else true) && ((bif (actsB (A.asB t167) false && (t177.heapy || false)) then (sameV (withV (A.load false 1 t177 H42) fun t178 =>    some (.val t178)) t178 && (sameV (withV (A.load false 1 t177 H50) fun t178 =>    some (.val t178)) t178 && true)) else true) && ((bif (actsB (A.asB t167) false && (t178.heapy || false)) then (sameV (withV (A.len t178 H42) fun t179 =>    some (.val t179)) t179 && (sameV (withV (A.len t178 H50) fun t179 =>    some (.val t179)) t179 && true)) else true) && ((bif (actsB (A.asB t167) false && (t174.heapy || (t179.heapy || false))) then (sameV (withV (A.bin env.P .lss 3 t174 t179 false H42) fun t180 =>    some (.val t180)) t180 && (sameV (withV (A.bin env.P .lss 3 t174 t179 false H50) fun t180 =>    some (.val t180)) t180 && true)) else true) && ((bif (actsB (A.asB t182) false && (t186.heapy || false)) then (sameV (withV (A.nilCheck t186 H50) fun t187 =>    some (.val t187)) t187 && (sameV (withV (A.nilCheck t186 H65) fun t187 =>    some (.val t187)) t187 && true)) else true) && ((bif (actsB (A.asB t182) false && (t187.heapy || false)) then (sameV (withV (A.fa 0 t187 H50) fun t188 =>    some (.val t188)) t188 && (sameV (withV (A.fa 0 t187 H65) fun t188 =>    some (.val t188)) t188 && true)) else true) && ((bif (actsB (A.asB t182) false && (t188.heapy || false)) then (sameV (withV (A.load false 1 t188 H50) fun t189 =>    some (.val t189)) t189 && (sameV (withV (A.load false 1 t188 H65) fun t189 =>    some (.val t189)) t189 && true)) else true) && true)))))))))))))))))) (
  A.test t192 (
  some (1, ⟨[(.bool false)], []⟩, H72))
  (
  withV (A.bin env.P .add 3 t7 (.int .i64 1) true H72) fun t35 =>
  L6_0 n m ⟨[t1, t5, t6, t35], []⟩ H72)))
  (none)))
  (
  some (0, ⟨[.undef], []⟩, H))) := by kernel_rfl
/-- tenement/tenementlaw20.MailPlays -/
theorem S6 (n : Nat) (R : Type) (k : AV → Heap → Option R) (a0 a1 : AV) (H : Heap) : callF env (n + 1) R 6 [a0, a1] H k =
  (callF env n _ 9 [] H fun t17 H1 =>
  withV (A.un .not t17) fun t18 =>
  A.test t18 (
  k (.bool false) H1)
  (
  withV (A.len a1 H1) fun t20 =>
  withV (A.bin env.P .gtr 3 t20 (.int .i64 120) true H1) fun t21 =>
  A.test t21 (
  k (.bool true) H1)
  (
  callF env n _ 17 [a0] H1 fun t23 H3 =>
  withV (List.foldlM A.maxv a0 [(.int .i64 0)]) fun t25 =>
  withV ((A.fill [.nils, (.int .i64 0), (.int .i64 0)] [(2, 1, t25)]).map .agg) fun t26 =>
  chkD ((t26).cells.length == 3 && (t26).isDef && decide (0 < 3)) (bindV (.ptr H3.length 0 0 0) fun t27 => bindH (H3 ++ [.row 0 3 43 [t26]]) fun H5 =>
  withV (A.bin env.P .eql 29 t23 .nilp true H5) fun t29 =>
  A.test t29 (
  k (.bool false) H5)
  (
  bindX (L6_0 n n ⟨[a1, t23, t27, (.int .i64 0)], []⟩ H5) fun i6 l6 H6 =>
  altN i6 0 (
  bindV (l6.vs.getD 0 .undef) fun t4 => 
  k (.bool true) H6)
  (altN i6 1 (
  bindV (l6.vs.getD 0 .undef) fun t4 => 
  k t4 H6)
  (none))))))) := by kernel_rfl
theorem L7_2_step (n m : Nat) (t0 t1 t5 t7 t8 t9 t10 t11 : AV) (H : Heap) : L7_2 n (m + 1) ⟨[t0, t1, t5, t7, t8, t9, t10, t11], []⟩ H =
  (withV (A.len t10 H) fun t60 =>
  withV (A.bin env.P .lss 3 t11 t60 false H) fun t61 =>
  A.test t61 (
  withV (A.idx 3 t10 t11 H) fun t66 =>
  withV (A.fa 1 t66 H) fun t67 =>
  withV (A.load false 1 t67 H) fun t68 =>
  withV (A.bin env.P .gtr 3 t68 t9 false H) fun t70 =>
  withB (A.asB t70) fun b8 => withP (guardB b8 false (
   some (t10, H))
   (some (.undef, H))) fun t72 H2 =>
  withB (A.asB t70) fun b9 => withP (guardB b9 false (
   some (t11, H2))
   (some (.undef, H2))) fun t73 H3 =>
  withB (A.asB t70) fun b10 => withP (guardB b10 false (
   withV (A.idx 3 t72 t73 H3) fun t74 =>
   some (t74, H3))
   (some (.undef, H3))) fun t74 H4 =>
  withB (A.asB t70) fun b11 => withP (guardB b11 false (
   withV (A.fa 1 t74 H4) fun t75 =>
   some (t75, H4))
   (some (.undef, H4))) fun t75 H5 =>
  withB (A.asB t70) fun b12 => withP (guardB b12 false (
   withV (A.load false 1 t75 H5) fun t76 =>
   some (t76, H5))
   (some (.undef, H5))) fun t76 H6 =>
  withB (A.asB t70) fun b13 => withP (guardB b13 false (
   some (t8, H6))
   (some (.undef, H6))) fun t77 H7 =>
  withB (A.asB t70) fun b14 => withP (guardB b14 false (
   withV (A.bin env.P .leq 3 t76 t77 false H7) fun t78 =>
   some (t78, H7))
   (some (.undef, H7))) fun t78 H8 =>
  withV (A.pick t70 (.bool true) t78) fun t79 =>
  withB (A.asB t79) fun b17 => withP (guardB b17 false (
   some (t10, H8))
   (some (.undef, H8))) fun t81 H9 =>
  withB (A.asB t79) fun b18 => withP (guardB b18 false (
   some (t11, H9))
   (some (.undef, H9))) fun t82 H10 =>
  withB (A.asB t79) fun b19 => withP (guardB b19 false (
   withV (A.idx 3 t81 t82 H10) fun t83 =>
   some (t83, H10))
   (some (.undef, H10))) fun t83 H11 =>
  withB (A.asB t79) fun b20 => withP (guardB b20 false (
   withV (A.fa 0 t83 H11) fun t84 =>
   some (t84, H11))
   (some (.undef, H11))) fun t84 H12 =>
  withB (A.asB t79) fun b21 => withP (guardB b21 false (
   withV (A.load false 1 t84 H12) fun t85 =>
   some (t85, H12))
   (some (.undef, H12))) fun t85 H13 =>
  withB (A.asB t79) fun b22 => withP (guardB b22 false (
   withV (A.bin env.P .lss 3 t85 (.int .i64 0) true H13) fun t86 =>
   some (t86, H13))
   (some (.undef, H13))) fun t86 H14 =>
  withV (A.pick t79 (.bool true) t86) fun t87 =>
  withB (A.asB t87) fun b25 => withP (guardB b25 false (
   some (t10, H14))
   (some (.undef, H14))) fun t89 H15 =>
  withB (A.asB t87) fun b26 => withP (guardB b26 false (
   some (t11, H15))
   (some (.undef, H15))) fun t90 H16 =>
  withB (A.asB t87) fun b27 => withP (guardB b27 false (
   withV (A.idx 3 t89 t90 H16) fun t91 =>
   some (t91, H16))
   (some (.undef, H16))) fun t91 H17 =>
  withB (A.asB t87) fun b28 => withP (guardB b28 false (
   withV (A.fa 0 t91 H17) fun t92 =>
   some (t92, H17))
   (some (.undef, H17))) fun t92 H18 =>
  withB (A.asB t87) fun b29 => withP (guardB b29 false (
   withV (A.load false 1 t92 H18) fun t93 =>
   some (t93, H18))
   (some (.undef, H18))) fun t93 H19 =>
  withB (A.asB t87) fun b30 => withP (guardB b30 false (
   some (t0, H19))
   (some (.undef, H19))) fun t94 H20 =>
  withB (A.asB t87) fun b31 => withP (guardB b31 false (
   withV (A.len t94 H20) fun t95 =>
   some (t95, H20))
   (some (.undef, H20))) fun t95 H22 =>
  withB (A.asB t87) fun b32 => withP (guardB b32 false (
   withV (A.bin env.P .geq 3 t93 t95 false H22) fun t96 =>
   some (t96, H22))
   (some (.undef, H22))) fun t96 H23 =>
  withV (A.pick t87 (.bool true) t96) fun t97 =>
  withB (A.asB t97) fun b35 => withP (guardB b35 false (
   some (t10, H23))
   (some (.undef, H23))) fun t99 H24 =>
  withB (A.asB t97) fun b36 => withP (guardB b36 false (
   some (t11, H24))
   (some (.undef, H24))) fun t100 H25 =>
  withB (A.asB t97) fun b37 => withP (guardB b37 false (
   withV (A.idx 3 t99 t100 H25) fun t101 =>
   some (t101, H25))
   (some (.undef, H25))) fun t101 H26 =>
  withB (A.asB t97) fun b38 => withP (guardB b38 false (
   withV (A.fa 1 t101 H26) fun t102 =>
   some (t102, H26))
   (some (.undef, H26))) fun t102 H27 =>
  withB (A.asB t97) fun b39 => withP (guardB b39 false (
   withV (A.load false 1 t102 H27) fun t103 =>
   some (t103, H27))
   (some (.undef, H27))) fun t103 H28 =>
  withB (A.asB t97) fun b40 => withP (guardB b40 false (
   some (t0, H28))
   (some (.undef, H28))) fun t104 H29 =>
  withB (A.asB t97) fun b41 => withP (guardB b41 false (
   some (t10, H29))
   (some (.undef, H29))) fun t105 H30 =>
  withB (A.asB t97) fun b42 => withP (guardB b42 false (
   some (t11, H30))
   (some (.undef, H30))) fun t106 H31 =>
  withB (A.asB t97) fun b43 => withP (guardB b43 false (
   withV (A.idx 3 t105 t106 H31) fun t107 =>
   some (t107, H31))
   (some (.undef, H31))) fun t107 H32 =>
  withB (A.asB t97) fun b44 => withP (guardB b44 false (
   withV (A.fa 0 t107 H32) fun t108 =>
   some (t108, H32))
   (some (.undef, H32))) fun t108 H33 =>
  withB (A.asB t97) fun b45 => withP (guardB b45 false (
   withV (A.load false 1 t108 H33) fun t109 =>
   some (t109, H33))
   (some (.undef, H33))) fun t109 H34 =>
  withB (A.asB t97) fun b46 => withP (guardB b46 false (
   withV (A.idx 1 t104 t109 H34) fun t110 =>
   some (t110, H34))
   (some (.undef, H34))) fun t110 H35 =>
  withB (A.asB t97) fun b47 => withP (guardB b47 false (
   withV (A.load false 1 t110 H35) fun t111 =>
   some (t111, H35))
   (some (.undef, H35))) fun t111 H36 =>
  withB (A.asB t97) fun b48 => withP (guardB b48 false (
   withV (Go.Den.convert env 52 3 t111) fun t112 =>
   some (t112, H36))
   (some (.undef, H36))) fun t112 H37 =>
  withB (A.asB t97) fun b49 => withP (guardB b49 false (
   withV (A.bin env.P .rem 3 t112 (.int .i64 500) true H37) fun t113 =>
   some (t113, H37))
   (some (.undef, H37))) fun t113 H38 =>
  withB (A.asB t97) fun b50 => withP (guardB b50 false (
   withV (A.bin env.P .neq 3 t103 t113 false H38) fun t114 =>
   some (t114, H38))
   (some (.undef, H38))) fun t114 H39 =>
  withV (A.pick t97 (.bool true) t114) fun t115 =>
  withB (A.asB t115) fun b53 => withP (guardB b53 false (
   some (t10, H39))
   (some (.undef, H39))) fun t117 H40 =>
  withB (A.asB t115) fun b54 => withP (guardB b54 false (
   some (t11, H40))
   (some (.undef, H40))) fun t118 H41 =>
  withB (A.asB t115) fun b55 => withP (guardB b55 false (
   withV (A.idx 3 t117 t118 H41) fun t119 =>
   some (t119, H41))
   (some (.undef, H41))) fun t119 H42 =>
  withB (A.asB t115) fun b56 => withP (guardB b56 false (
   withV (A.fa 2 t119 H42) fun t120 =>
   some (t120, H42))
   (some (.undef, H42))) fun t120 H43 =>
  withB (A.asB t115) fun b57 => withP (guardB b57 false (
   withV (A.load false 1 t120 H43) fun t121 =>
   some (t121, H43))
   (some (.undef, H43))) fun t121 H44 =>
  withB (A.asB t115) fun b58 => withP (guardB b58 false (
   some (t0, H44))
   (some (.undef, H44))) fun t122 H45 =>
  withB (A.asB t115) fun b59 => withP (guardB b59 false (
   some (t10, H45))
   (some (.undef, H45))) fun t123 H46 =>
  withB (A.asB t115) fun b60 => withP (guardB b60 false (
   some (t11, H46))
   (some (.undef, H46))) fun t124 H47 =>
  withB (A.asB t115) fun b61 => withP (guardB b61 false (
   withV (A.idx 3 t123 t124 H47) fun t125 =>
   some (t125, H47))
   (some (.undef, H47))) fun t125 H48 =>
  withB (A.asB t115) fun b62 => withP (guardB b62 false (
   withV (A.fa 0 t125 H48) fun t126 =>
   some (t126, H48))
   (some (.undef, H48))) fun t126 H49 =>
  withB (A.asB t115) fun b63 => withP (guardB b63 false (
   withV (A.load false 1 t126 H49) fun t127 =>
   some (t127, H49))
   (some (.undef, H49))) fun t127 H50 =>
  withB (A.asB t115) fun b64 => withP (guardB b64 false (
   withV (A.idx 1 t122 t127 H50) fun t128 =>
   some (t128, H50))
   (some (.undef, H50))) fun t128 H51 =>
  withB (A.asB t115) fun b65 => withP (guardB b65 false (
   withV (A.load false 1 t128 H51) fun t129 =>
   some (t129, H51))
   (some (.undef, H51))) fun t129 H52 =>
  withB (A.asB t115) fun b66 => withP (guardB b66 false (
   withV (Go.Den.convert env 52 3 t129) fun t130 =>
   some (t130, H52))
   (some (.undef, H52))) fun t130 H53 =>
  withB (A.asB t115) fun b67 => withP (guardB b67 false (
   withV (A.bin env.P .neq 3 t121 t130 false H53) fun t131 =>
   some (t131, H53))
   (some (.undef, H53))) fun t131 H54 =>
  withV (A.pick t115 (.bool true) t131) fun t132 =>
  withB (A.asB t132) fun b70 => withP (guardB b70 false (
   some (t11, H54))
   (some (.undef, H54))) fun t134 H55 =>
  withB (A.asB t132) fun b71 => withP (guardB b71 false (
   withV (A.bin env.P .gtr 3 t134 (.int .i64 0) true H55) fun t135 =>
   some (t135, H55))
   (some (.undef, H55))) fun t135 H56 =>
  withB (A.asB t132) fun b72 => withP (guardB b72 false (
   some (t135, H56))
   (some (.undef, H56))) fun t136 H57 =>
  withB (A.asB t136) fun b73 => withP (guardB b73 true (
   some (t10, H57))
   (some (.undef, H57))) fun t137 H58 =>
  withB (A.asB t136) fun b74 => withP (guardB b74 true (
   some (t11, H58))
   (some (.undef, H58))) fun t138 H59 =>
  withB (A.asB t136) fun b75 => withP (guardB b75 true (
   withV (A.idx 3 t137 t138 H59) fun t139 =>
   some (t139, H59))
   (some (.undef, H59))) fun t139 H60 =>
  withB (A.asB t136) fun b76 => withP (guardB b76 true (
   withV (A.fa 1 t139 H60) fun t140 =>
   some (t140, H60))
   (some (.undef, H60))) fun t140 H61 =>
  withB (A.asB t136) fun b77 => withP (guardB b77 true (
   withV (A.load false 1 t140 H61) fun t141 =>
   some (t141, H61))
   (some (.undef, H61))) fun t141 H62 =>
  withB (A.asB t136) fun b78 => withP (guardB b78 true (
   some (t10, H62))
   (some (.undef, H62))) fun t142 H63 =>
  withB (A.asB t136) fun b79 => withP (guardB b79 true (
   some (t11, H63))
   (some (.undef, H63))) fun t143 H64 =>
  withB (A.asB t136) fun b80 => withP (guardB b80 true (
   withV (A.bin env.P .sub 3 t143 (.int .i64 1) true H64) fun t144 =>
   some (t144, H64))
   (some (.undef, H64))) fun t144 H65 =>
  withB (A.asB t136) fun b81 => withP (guardB b81 true (
   withV (A.idx 3 t142 t144 H65) fun t145 =>
   some (t145, H65))
   (some (.undef, H65))) fun t145 H66 =>
  withB (A.asB t136) fun b82 => withP (guardB b82 true (
   withV (A.fa 1 t145 H66) fun t146 =>
   some (t146, H66))
   (some (.undef, H66))) fun t146 H67 =>
  withB (A.asB t136) fun b83 => withP (guardB b83 true (
   withV (A.load false 1 t146 H67) fun t147 =>
   some (t147, H67))
   (some (.undef, H67))) fun t147 H68 =>
  withB (A.asB t136) fun b84 => withP (guardB b84 true (
   withV (A.bin env.P .lss 3 t141 t147 false H68) fun t148 =>
   some (t148, H68))
   (some (.undef, H68))) fun t148 H69 =>
  withB (A.asB t136) fun b85 => withP (guardB b85 true (
   some (t148, H69))
   (some (.undef, H69))) fun t149 H70 =>
  withB (A.asB t149) fun b86 => withP (guardB b86 false (
   some (t10, H70))
   (some (.undef, H70))) fun t150 H71 =>
  withB (A.asB t149) fun b87 => withP (guardB b87 false (
   some (t11, H71))
   (some (.undef, H71))) fun t151 H72 =>
  withB (A.asB t149) fun b88 => withP (guardB b88 false (
   withV (A.idx 3 t150 t151 H72) fun t152 =>
   some (t152, H72))
   (some (.undef, H72))) fun t152 H73 =>
  withB (A.asB t149) fun b89 => withP (guardB b89 false (
   withV (A.fa 1 t152 H73) fun t153 =>
   some (t153, H73))
   (some (.undef, H73))) fun t153 H74 =>
  withB (A.asB t149) fun b90 => withP (guardB b90 false (
   withV (A.load false 1 t153 H74) fun t154 =>
   some (t154, H74))
   (some (.undef, H74))) fun t154 H75 =>
  withB (A.asB t149) fun b91 => withP (guardB b91 false (
   some (t10, H75))
   (some (.undef, H75))) fun t155 H76 =>
  withB (A.asB t149) fun b92 => withP (guardB b92 false (
   some (t11, H76))
   (some (.undef, H76))) fun t156 H77 =>
  withB (A.asB t149) fun b93 => withP (guardB b93 false (
   withV (A.bin env.P .sub 3 t156 (.int .i64 1) true H77) fun t157 =>
   some (t157, H77))
   (some (.undef, H77))) fun t157 H78 =>
  withB (A.asB t149) fun b94 => withP (guardB b94 false (
   withV (A.idx 3 t155 t157 H78) fun t158 =>
   some (t158, H78))
   (some (.undef, H78))) fun t158 H79 =>
  withB (A.asB t149) fun b95 => withP (guardB b95 false (
   withV (A.fa 1 t158 H79) fun t159 =>
   some (t159, H79))
   (some (.undef, H79))) fun t159 H80 =>
  withB (A.asB t149) fun b96 => withP (guardB b96 false (
   withV (A.load false 1 t159 H80) fun t160 =>
   some (t160, H80))
   (some (.undef, H80))) fun t160 H81 =>
  withB (A.asB t149) fun b97 => withP (guardB b97 false (
   withV (A.bin env.P .eql 3 t154 t160 false H81) fun t161 =>
   some (t161, H81))
   (some (.undef, H81))) fun t161 H82 =>
  withB (A.asB t149) fun b98 => withP (guardB b98 false (
   some (t161, H82))
   (some (.undef, H82))) fun t162 H83 =>
  withB (A.asB t162) fun b99 => withP (guardB b99 true (
   some (t10, H83))
   (some (.undef, H83))) fun t163 H84 =>
  withB (A.asB t162) fun b100 => withP (guardB b100 true (
   some (t11, H84))
   (some (.undef, H84))) fun t164 H85 =>
  withB (A.asB t162) fun b101 => withP (guardB b101 true (
   withV (A.idx 3 t163 t164 H85) fun t165 =>
   some (t165, H85))
   (some (.undef, H85))) fun t165 H86 =>
  withB (A.asB t162) fun b102 => withP (guardB b102 true (
   withV (A.fa 0 t165 H86) fun t166 =>
   some (t166, H86))
   (some (.undef, H86))) fun t166 H87 =>
  withB (A.asB t162) fun b103 => withP (guardB b103 true (
   withV (A.load false 1 t166 H87) fun t167 =>
   some (t167, H87))
   (some (.undef, H87))) fun t167 H88 =>
  withB (A.asB t162) fun b104 => withP (guardB b104 true (
   some (t10, H88))
   (some (.undef, H88))) fun t168 H89 =>
  withB (A.asB t162) fun b105 => withP (guardB b105 true (
   some (t11, H89))
   (some (.undef, H89))) fun t169 H90 =>
  withB (A.asB t162) fun b106 => withP (guardB b106 true (
   withV (A.bin env.P .sub 3 t169 (.int .i64 1) true H90) fun t170 =>
   some (t170, H90))
   (some (.undef, H90))) fun t170 H91 =>
  withB (A.asB t162) fun b107 => withP (guardB b107 true (
   withV (A.idx 3 t168 t170 H91) fun t171 =>
   some (t171, H91))
   (some (.undef, H91))) fun t171 H92 =>
  withB (A.asB t162) fun b108 => withP (guardB b108 true (
   withV (A.fa 0 t171 H92) fun t172 =>
   some (t172, H92))
   (some (.undef, H92))) fun t172 H93 =>
  withB (A.asB t162) fun b109 => withP (guardB b109 true (
   withV (A.load false 1 t172 H93) fun t173 =>
   some (t173, H93))
   (some (.undef, H93))) fun t173 H94 =>
  withB (A.asB t162) fun b110 => withP (guardB b110 true (
   withV (A.bin env.P .leq 3 t167 t173 false H94) fun t174 =>
   some (t174, H94))
   (some (.undef, H94))) fun t174 H95 =>
  withB (A.asB t149) fun b111 => withP (guardB b111 false (
   withV (A.pick t162 t174 (.bool false)) fun t175 =>
   some (t175, H95))
   (some (.undef, H95))) fun t175 H96 =>
  withB (A.asB t136) fun b112 => withP (guardB b112 true (
   withV (A.pick t149 (.bool true) t175) fun t176 =>
   some (t176, H96))
   (some (.undef, H96))) fun t176 H97 =>
  withB (A.asB t132) fun b113 => withP (guardB b113 false (
   withV (A.pick t136 t176 (.bool false)) fun t177 =>
   some (t177, H97))
   (some (.undef, H97))) fun t177 H98 =>
  withV (A.pick t132 (.bool true) t177) fun t178 =>
  A.test t178 (
  some (1, ⟨[t0, t1, (.bool false), t5, t7, t9], []⟩, H98))
  (
  withV (A.bin env.P .add 3 t7 (.int .i64 1) true H98) fun t180 =>
  withV (A.bin env.P .add 3 t11 (.int .i64 1) true H98) fun t63 =>
  L7_2 n m ⟨[t0, t1, t5, t180, t8, t9, t10, t63], []⟩ H98))
  (
  some (0, ⟨[t0, t1, .undef, t5, t7, t9], []⟩, H))) := by kernel_rfl
theorem L7_1_step (n m : Nat) (t0 t1 t5 t7 t8 t9 : AV) (H : Heap) : L7_1 n (m + 1) ⟨[t0, t1, t5, t7, t8, t9], []⟩ H =
  (withV (Go.Den.convert env 5 3 t1) fun t45 =>
  withV (A.bin env.P .rem 3 t45 (.int .i64 50) true H) fun t46 =>
  withV (A.bin env.P .add 3 (.int .i64 500) t46 false H) fun t47 =>
  withV (A.bin env.P .leq 3 t9 t47 false H) fun t48 =>
  A.test t48 (
  callF env n _ 36 [t5, t9] H fun t57 H1 =>
  bindX (L7_2 n n ⟨[t0, t1, t5, t7, t8, t9, t57, (.int .i64 0)], []⟩ H1) fun i2 l2 H2 =>
  altN i2 0 (
  bindV (l2.vs.getD 0 .undef) fun t0 => bindV (l2.vs.getD 1 .undef) fun t1 => bindV (l2.vs.getD 2 .undef) fun t4 => bindV (l2.vs.getD 3 .undef) fun t5 => bindV (l2.vs.getD 4 .undef) fun t7 => bindV (l2.vs.getD 5 .undef) fun t9 => 
  withV (A.bin env.P .add 3 t9 (.int .i64 1) true H2) fun t50 =>
  withV (Go.Den.convert env 5 3 t1) fun t52 =>
  withV (A.bin env.P .rem 3 t52 (.int .i64 50) true H2) fun t53 =>
  withV (A.bin env.P .add 3 t50 t53 false H2) fun t54 =>
  L7_1 n m ⟨[t0, t1, t5, t7, t9, t54], []⟩ H2)
  (altN i2 1 (
  bindV (l2.vs.getD 0 .undef) fun t0 => bindV (l2.vs.getD 1 .undef) fun t1 => bindV (l2.vs.getD 2 .undef) fun t4 => bindV (l2.vs.getD 3 .undef) fun t5 => bindV (l2.vs.getD 4 .undef) fun t7 => bindV (l2.vs.getD 5 .undef) fun t9 => 
  some (1, ⟨[t0, t4, t5, t7], []⟩, H2))
  (none)))
  (
  some (0, ⟨[t0, .undef, t5, t7], []⟩, H))) := by kernel_rfl
theorem L7_0_step (n m : Nat) (t0 t1 t5 t6 : AV) (H : Heap) : L7_0 n (m + 1) ⟨[t0, t1, t5, t6], []⟩ H =
  (withV (A.len t0 H) fun t24 =>
  withV (A.bin env.P .lss 3 t6 t24 false H) fun t25 =>
  A.test t25 (
  withV (A.idx 1 t0 t6 H) fun t32 =>
  withV (A.load false 1 t32 H) fun t33 =>
  withV (Go.Den.convert env 52 3 t33) fun t34 =>
  withV (A.bin env.P .rem 3 t34 (.int .i64 500) true H) fun t35 =>
  withV (A.idx 1 t0 t6 H) fun t38 =>
  withV (A.load false 1 t38 H) fun t39 =>
  withV (Go.Den.convert env 52 3 t39) fun t40 =>
  callF env n _ 35 [t5, t6, t35, t40] H fun t41 H2 =>
  withV (A.un .not t41) fun t42 =>
  A.test t42 (
  some (1, ⟨[t0, t1, (.bool false), t5], []⟩, H2))
  (
  withV (A.bin env.P .add 3 t6 (.int .i64 1) true H2) fun t27 =>
  L7_0 n m ⟨[t0, t1, t5, t27], []⟩ H2))
  (
  some (0, ⟨[t0, t1, .undef, t5], []⟩, H))) := by kernel_rfl
/-- tenement/tenementlaw23.WheelOrder -/
theorem S7 (n : Nat) (R : Type) (k : AV → Heap → Option R) (a0 a1 : AV) (H : Heap) : callF env (n + 1) R 7 [a0, a1] H k =
  (callF env n _ 33 [] H fun t12 H1 =>
  withV (A.un .not t12) fun t13 =>
  A.test t13 (
  k (.bool false) H1)
  (
  withV (A.len a0 H1) fun t15 =>
  withV (A.bin env.P .gtr 3 t15 (.int .i64 60) true H1) fun t16 =>
  A.test t16 (
  k (.bool true) H1)
  (
  withV (A.len a0 H1) fun t18 =>
  callF env n _ 34 [t18] H1 fun t19 H4 =>
  withV (A.bin env.P .eql 49 t19 .nilp true H4) fun t21 =>
  A.test t21 (
  k (.bool false) H4)
  (
  bindX (L7_0 n n ⟨[a0, a1, t19, (.int .i64 0)], []⟩ H4) fun i5 l5 H5 =>
  altN i5 0 (
  bindV (l5.vs.getD 0 .undef) fun t0 => bindV (l5.vs.getD 1 .undef) fun t1 => bindV (l5.vs.getD 2 .undef) fun t4 => bindV (l5.vs.getD 3 .undef) fun t5 => 
  bindX (L7_1 n n ⟨[t0, t1, t5, (.int .i64 0), (.int .i64 (-1)), (.int .i64 0)], []⟩ H5) fun i6 l6 H6 =>
  altN i6 0 (
  bindV (l6.vs.getD 0 .undef) fun t0 => bindV (l6.vs.getD 1 .undef) fun t4 => bindV (l6.vs.getD 2 .undef) fun t5 => bindV (l6.vs.getD 3 .undef) fun t7 => 
  withV (A.len t0 H6) fun t184 =>
  withV (A.bin env.P .eql 3 t7 t184 false H6) fun t185 =>
  withB (A.asB t185) fun b5 => withP (guardB b5 true (
   some (t5, H6))
   (some (.undef, H6))) fun t187 H8 =>
  withB (A.asB t185) fun b6 => withP (guardB b6 true (
   callF env n _ 37 [t187] H8 fun t188 H9 =>
   some (t188, H9))
   (some (.undef, H8))) fun t188 H10 =>
  withB (A.asB t185) fun b7 => withP (guardB b7 true (
   withV (A.bin env.P .eql 3 t188 (.int .i64 0) true H10) fun t189 =>
   some (t189, H10))
   (some (.undef, H10))) fun t189 H11 =>
  withV (A.pick t185 t189 (.bool false)) fun t190 =>
  k t190 H11)
  (altN i6 1 (
  bindV (l6.vs.getD 0 .undef) fun t0 => bindV (l6.vs.getD 1 .undef) fun t4 => bindV (l6.vs.getD 2 .undef) fun t5 => bindV (l6.vs.getD 3 .undef) fun t7 => 
  k t4 H6)
  (none)))
  (altN i5 1 (
  bindV (l5.vs.getD 0 .undef) fun t0 => bindV (l5.vs.getD 1 .undef) fun t1 => bindV (l5.vs.getD 2 .undef) fun t4 => bindV (l5.vs.getD 3 .undef) fun t5 => 
  k t4 H5)
  (none)))))) := by kernel_rfl
theorem L8_1_step (n m : Nat) (t1 t5 t6 t7 t10 t11 : AV) (c0 : List AV) (H : Heap) : L8_1 n (m + 1) ⟨[t1, t5, t6, t7, t10, t11], [c0]⟩ H =
  (withV (A.nilCheck t6 H) fun t39 =>
  withV (A.fa 0 t39 H) fun t40 =>
  withV (A.load false 1 t40 H) fun t41 =>
  withV (A.len t41 H) fun t42 =>
  withV (A.bin env.P .lss 3 t11 t42 false H) fun t43 =>
  A.test t43 (
  withV (A.ofList false 1 c0 2) fun t48 =>
  withV (A.bin env.P .add 3 t48 t11 false H) fun t50 =>
  withL (A.fillElems 1 (List.replicate 1 (.int .i64 0)) [(0, 1, t50)]) fun es =>
  bindV (.sl H.length 0 0 es.length es.length) fun t51 => bindH (H ++ [.row 0 1 3 es]) fun H2 =>
  withL (newsOf env 1 33 t51 H2) fun es =>
  withVH (A.append 1 8 3 t10 es H2) fun t52 H3 =>
  withV (A.nilCheck t6 H3) fun t54 =>
  withV (A.fa 0 t54 H3) fun t55 =>
  withV (A.load false 1 t55 H3) fun t56 =>
  withV (A.ofList false 1 c0 2) fun t59 =>
  withV (A.bin env.P .add 3 t59 t11 false H3) fun t61 =>
  withV (A.idx 3 t56 t11 H3) fun t62 =>
  withV (A.fa 2 t62 H3) fun t63 =>
  withH (A.store 1 t63 t61 H3) fun H4 =>
  withV (A.bin env.P .add 3 t11 (.int .i64 1) true H4) fun t45 =>
  L8_1 n m ⟨[t1, t5, t6, t7, t52, t45], [c0]⟩ H4)
  (
  some (0, ⟨[t1, t5, t6, t7, t10], []⟩, H))) := by kernel_rfl
theorem L8_0_step (n m : Nat) (t1 t5 t6 t7 : AV) (H : Heap) : L8_0 n (m + 1) ⟨[t1, t5, t6, t7], []⟩ H =
  (withV (A.len t1 H) fun t29 =>
  withV (A.bin env.P .lss 3 t7 t29 false H) fun t30 =>
  A.test t30 (
  withV (A.idx 3 t1 t7 H) fun t35 =>
  withV (A.load true 3 t35 H) fun t36 =>
  bindC [(.int .i64 0), (.int .i64 0), (.int .i64 0)] fun c0 =>
  chkD (A.fits 3 t36 && decide (0 + (t36).cells.length ≤ c0.length)) (bindC (A.splice c0 0 (t36).cells) fun c0 =>
  withV (A.ofList false 1 c0 0) fun t77 =>
  withV (A.bin env.P .leq 3 t77 (.int .i64 4) true H) fun t78 =>
  bindX (A.test t78 (
   withV (A.ofList false 1 c0 1) fun t81 =>
    withV (A.ofList false 1 c0 2) fun t83 =>
    callF env n _ 35 [t5, t81, t83, t7] H fun t85 H2 =>
    withV (A.ofList false 1 c0 1) fun t88 =>
    withV (A.ofList false 1 c0 2) fun t90 =>
    callF env n _ 38 [t6, t88, t90, t7] H2 fun t92 H3 =>
    withV (A.bin env.P .eql 4 t85 t92 false H3) fun t93 =>
    some (0, ⟨[t1, t5, t6, t7, t93], []⟩, H3))
   (
   withV (A.ofList false 1 c0 0) fun t96 =>
    withV (A.bin env.P .eql 3 t96 (.int .i64 5) true H) fun t97 =>
    bindX (A.test t97 (
     withV (A.ofList false 1 c0 1) fun t100 =>
      callF env n _ 39 [t5, t100] H fun t101 H4 =>
      withV (A.ofList false 1 c0 1) fun t104 =>
      callF env n _ 40 [t6, t104] H4 fun t105 H5 =>
      withV (A.bin env.P .eql 4 t101 t105 false H5) fun t106 =>
      some (0, ⟨[t1, t5, t6, t7, t106], []⟩, H5))
     (
     withV (A.ofList false 1 c0 0) fun t109 =>
      withV (A.bin env.P .leq 3 t109 (.int .i64 7) true H) fun t110 =>
      bindX (A.test t110 (
       withV (A.ofList false 1 c0 2) fun t113 =>
        callF env n _ 36 [t5, t113] H fun t114 H6 =>
        callF env n _ 42 [t114] H6 fun t115 H7 =>
        withV (A.ofList false 1 c0 2) fun t118 =>
        callF env n _ 43 [t6, t118] H7 fun t119 H8 =>
        callF env n _ 41 [t115, t119] H8 fun t120 H9 =>
        some (0, ⟨[t1, t5, t6, t7, t120], []⟩, H9))
       (
       bindX (L8_1 n n ⟨[t1, t5, t6, t7, .nils, (.int .i64 0)], [c0]⟩ H) fun i10 l10 H10 =>
        altN i10 0 (
        bindV (l10.vs.getD 0 .undef) fun t1 => bindV (l10.vs.getD 1 .undef) fun t5 => bindV (l10.vs.getD 2 .undef) fun t6 => bindV (l10.vs.getD 3 .undef) fun t7 => bindV (l10.vs.getD 4 .undef) fun t10 => 
        callF env n _ 44 [t5, t10] H10 fun t66 H11 =>
        withB (A.asB t66) fun b4 => withP (guardB b4 true (
         some (t5, H11))
         (some (.undef, H11))) fun t68 H12 =>
        withB (A.asB t66) fun b5 => withP (guardB b5 true (
         some (t10, H12))
         (some (.undef, H12))) fun t69 H13 =>
        withB (A.asB t66) fun b6 => withP (guardB b6 true (
         withL (A.fillElems 1 (List.replicate 1 (.int .i64 0)) [(0, 1, (.int .i64 1))]) fun es =>
         bindV (.sl H13.length 0 0 es.length es.length) fun t70 => bindH (H13 ++ [.row 0 1 3 es]) fun H14 =>
         some (t70, H14))
         (some (.undef, H13))) fun t70 H15 =>
        withB (A.asB t66) fun b7 => withP (guardB b7 true (
         withL (newsOf env 1 33 t70 H15) fun es =>
         withVH (A.append 1 8 3 t69 es H15) fun t71 H16 =>
         some (t71, H16))
         (some (.undef, H15))) fun t71 H17 =>
        withB (A.asB t66) fun b8 => withP (guardB b8 true (
         callF env n _ 44 [t68, t71] H17 fun t72 H18 =>
         some (t72, H18))
         (some (.undef, H17))) fun t72 H19 =>
        withB (A.asB t66) fun b9 => withP (guardB b9 true (
         withV (A.un .not t72) fun t73 =>
         some (t73, H19))
         (some (.undef, H19))) fun t73 H20 =>
        withV (A.pick t66 t73 (.bool false)) fun t74 =>
        some (0, ⟨[t1, t5, t6, t7, t74], []⟩, H20))
        (none))) fun i21 l21 H21 =>
      altN i21 0 (
      bindV (l21.vs.getD 0 .undef) fun t1 => bindV (l21.vs.getD 1 .undef) fun t5 => bindV (l21.vs.getD 2 .undef) fun t6 => bindV (l21.vs.getD 3 .undef) fun t7 => bindV (l21.vs.getD 4 .undef) fun t9 => 
      some (0, ⟨[t1, t5, t6, t7, t9], []⟩, H21))
      (none))) fun i22 l22 H22 =>
    altN i22 0 (
    bindV (l22.vs.getD 0 .undef) fun t1 => bindV (l22.vs.getD 1 .undef) fun t5 => bindV (l22.vs.getD 2 .undef) fun t6 => bindV (l22.vs.getD 3 .undef) fun t7 => bindV (l22.vs.getD 4 .undef) fun t9 => 
    some (0, ⟨[t1, t5, t6, t7, t9], []⟩, H22))
    (none))) fun i23 l23 H23 =>
  altN i23 0 (
  bindV (l23.vs.getD 0 .undef) fun t1 => bindV (l23.vs.getD 1 .undef) fun t5 => bindV (l23.vs.getD 2 .undef) fun t6 => bindV (l23.vs.getD 3 .undef) fun t7 => bindV (l23.vs.getD 4 .undef) fun t9 => 
  callF env n _ 45 [t5] H23 fun t123 H24 =>
  extractK t123 0 fun t124 =>
  extractK t123 1 fun t125 =>
  withV (A.un .not t9) fun t127 =>
  withB (A.asB t127) fun b3 => withP (guardB b3 false (
   some (t5, H24))
   (some (.undef, H24))) fun t129 H25 =>
  withB (A.asB t127) fun b4 => withP (guardB b4 false (
   callF env n _ 37 [t129] H25 fun t130 H26 =>
   some (t130, H26))
   (some (.undef, H25))) fun t130 H27 =>
  withB (A.asB t127) fun b5 => withP (guardB b5 false (
   some (t6, H27))
   (some (.undef, H27))) fun t131 H28 =>
  withB (A.asB t127) fun b6 => withP (guardB b6 false (
   withV (A.nilCheck t131 H28) fun t132 =>
   some (t132, H28))
   (some (.undef, H28))) fun t132 H29 =>
  withB (A.asB t127) fun b7 => withP (guardB b7 false (
   withV (A.fa 0 t132 H29) fun t133 =>
   some (t133, H29))
   (some (.undef, H29))) fun t133 H30 =>
  withB (A.asB t127) fun b8 => withP (guardB b8 false (
   withV (A.load false 1 t133 H30) fun t134 =>
   some (t134, H30))
   (some (.undef, H30))) fun t134 H31 =>
  withB (A.asB t127) fun b9 => withP (guardB b9 false (
   withV (A.len t134 H31) fun t135 =>
   some (t135, H31))
   (some (.undef, H31))) fun t135 H33 =>
  withB (A.asB t127) fun b10 => withP (guardB b10 false (
   withV (A.bin env.P .neq 3 t130 t135 false H33) fun t136 =>
   some (t136, H33))
   (some (.undef, H33))) fun t136 H34 =>
  withV (A.pick t127 (.bool true) t136) fun t137 =>
  withB (A.asB t137) fun b13 => withP (guardB b13 false (
   some (t5, H34))
   (some (.undef, H34))) fun t139 H35 =>
  withB (A.asB t137) fun b14 => withP (guardB b14 false (
   callF env n _ 46 [t139] H35 fun t140 H36 =>
   some (t140, H36))
   (some (.undef, H35))) fun t140 H37 =>
  withB (A.asB t137) fun b15 => withP (guardB b15 false (
   callF env n _ 42 [t140] H37 fun t141 H38 =>
   some (t141, H38))
   (some (.undef, H37))) fun t141 H39 =>
  withB (A.asB t137) fun b16 => withP (guardB b16 false (
   some (t6, H39))
   (some (.undef, H39))) fun t142 H40 =>
  withB (A.asB t137) fun b17 => withP (guardB b17 false (
   withV (A.nilCheck t142 H40) fun t143 =>
   some (t143, H40))
   (some (.undef, H40))) fun t143 H41 =>
  withB (A.asB t137) fun b18 => withP (guardB b18 false (
   withV (A.fa 0 t143 H41) fun t144 =>
   some (t144, H41))
   (some (.undef, H41))) fun t144 H42 =>
  withB (A.asB t137) fun b19 => withP (guardB b19 false (
   withV (A.load false 1 t144 H42) fun t145 =>
   some (t145, H42))
   (some (.undef, H42))) fun t145 H43 =>
  withB (A.asB t137) fun b20 => withP (guardB b20 false (
   callF env n _ 41 [t141, t145] H43 fun t146 H44 =>
   some (t146, H44))
   (some (.undef, H43))) fun t146 H45 =>
  withB (A.asB t137) fun b21 => withP (guardB b21 false (
   withV (A.un .not t146) fun t147 =>
   some (t147, H45))
   (some (.undef, H45))) fun t147 H46 =>
  withV (A.pick t137 (.bool true) t147) fun t148 =>
  withB (A.asB t148) fun b24 => withP (guardB b24 false (
   some (t125, H46))
   (some (.undef, H46))) fun t150 H47 =>
  withB (A.asB t148) fun b25 => withP (guardB b25 false (
   some (t6, H47))
   (some (.undef, H47))) fun t151 H48 =>
  withB (A.asB t148) fun b26 => withP (guardB b26 false (
   withV (A.nilCheck t151 H48) fun t152 =>
   some (t152, H48))
   (some (.undef, H48))) fun t152 H49 =>
  withB (A.asB t148) fun b27 => withP (guardB b27 false (
   withV (A.fa 0 t152 H49) fun t153 =>
   some (t153, H49))
   (some (.undef, H49))) fun t153 H50 =>
  withB (A.asB t148) fun b28 => withP (guardB b28 false (
   withV (A.load false 1 t153 H50) fun t154 =>
   some (t154, H50))
   (some (.undef, H50))) fun t154 H51 =>
  withB (A.asB t148) fun b29 => withP (guardB b29 false (
   withV (A.len t154 H51) fun t155 =>
   some (t155, H51))
   (some (.undef, H51))) fun t155 H53 =>
  withB (A.asB t148) fun b30 => withP (guardB b30 false (
   withV (A.bin env.P .gtr 3 t155 (.int .i64 0) true H53) fun t156 =>
   some (t156, H53))
   (some (.undef, H53))) fun t156 H54 =>
  withB (A.asB t148) fun b31 => withP (guardB b31 false (
   withV (A.bin env.P .neq 4 t150 t156 false H54) fun t157 =>
   some (t157, H54))
   (some (.undef, H54))) fun t157 H55 =>
  withV (A.pick t148 (.bool true) t157) fun t158 =>
  withB (A.asB t158) fun b34 => withP (guardB b34 false (
   some (t125, H55))
   (some (.undef, H55))) fun t160 H56 =>
  withB (A.asB t158) fun b35 => withP (guardB b35 false (
   some (t160, H56))
   (some (.undef, H56))) fun t161 H57 =>
  withB (A.asB t161) fun b36 => withP (guardB b36 true (
   some (t124, H57))
   (some (.undef, H57))) fun t162 H58 =>
  withB (A.asB t161) fun b37 => withP (guardB b37 true (
   some (t6, H58))
   (some (.undef, H58))) fun t163 H59 =>
  withB (A.asB t161) fun b38 => withP (guardB b38 true (
   withV (A.nilCheck t163 H59) fun t164 =>
   some (t164, H59))
   (some (.undef, H59))) fun t164 H60 =>
  withB (A.asB t161) fun b39 => withP (guardB b39 true (
   withV (A.fa 0 t164 H60) fun t165 =>
   some (t165, H60))
   (some (.undef, H60))) fun t165 H61 =>
  withB (A.asB t161) fun b40 => withP (guardB b40 true (
   withV (A.load false 1 t165 H61) fun t166 =>
   some (t166, H61))
   (some (.undef, H61))) fun t166 H62 =>
  withB (A.asB t161) fun b41 => withP (guardB b41 true (
   withV (A.idx 3 t166 (.int .i64 0) H62) fun t167 =>
   some (t167, H62))
   (some (.undef, H62))) fun t167 H63 =>
  withB (A.asB t161) fun b42 => withP (guardB b42 true (
   withV (A.fa 1 t167 H63) fun t168 =>
   some (t168, H63))
   (some (.undef, H63))) fun t168 H64 =>
  withB (A.asB t161) fun b43 => withP (guardB b43 true (
   withV (A.load false 1 t168 H64) fun t169 =>
   some (t169, H64))
   (some (.undef, H64))) fun t169 H65 =>
  withB (A.asB t161) fun b44 => withP (guardB b44 true (
   withV (A.bin env.P .neq 3 t162 t169 false H65) fun t170 =>
   some (t170, H65))
   (some (.undef, H65))) fun t170 H66 =>
  withB (A.asB t158) fun b45 => withP (guardB b45 false (
   withV (A.pick t161 t170 (.bool false)) fun t171 =>
   some (t171, H66))
   (some (.undef, H66))) fun t171 H67 =>
  withV (A.pick t158 (.bool true) t171) fun t172 =>
  chkD ((bif (actsB (A.asB t127) false && (t131.heapy || false)) then (sameV (withV (A.nilCheck t131 H24) fun t132 =>    some (.val t132)) t132 && (sameV (withV (A.nilCheck t131 H27) fun t132 =>    some (.val t132)) t132 && true)) else true) && ((bif (actsB (A.asB t127) false && (t132.heapy || false)) then (sameV (withV (A.fa 0 t132 H24) fun t133 =>    some (.val t133)) t133 && (sameV (withV (A.fa 0 t132 H27) fun t133 =>    some (.val t133)) t133 && true)) else true) && ((bif (actsB (A.asB t127) false && (t133.heapy || false)) then (sameV (withV (A.load false 1 t133 H24) fun t134 =>    some (.val t134)) t134 && (sameV (withV (A.load false 1 t133 H27) fun t134 =>    some (.val t134)) t134 && true)) else true) && ((bif (actsB (A.asB t127) false && (t134.heapy || false)) then (sameV (withV (A.len t134 H24) fun t135 =>    some (.val t135)) t135 && (sameV (withV (A.len t134 H27) fun t135 =>    some (.val t135)) t135 && true)) else true) && ((bif (actsB (A.asB t137) false && (t142.heapy || false)) then (sameV (withV (A.nilCheck t142 H27) fun t143 =>    some (.val t143)) t143 && (sameV (withV (A.nilCheck t142 H37) fun t143 =>    some (.val t143)) t143 && (sameV (withV (A.nilCheck t142 H39) fun t143 =>    some (.val t143)) t143 && true))) else true) && ((bif (actsB (A.asB t137) false && (t143.heapy || false)) then (sameV (withV (A.fa 0 t143 H27) fun t144 =>    some (.val t144)) t144 && (sameV (withV (A.fa 0 t143 H37) fun t144 =>    some (.val t144)) t144 && (sameV (withV (A.fa 0 t143 H39) fun t144 =>    some (.val t144)) t144 && true))) else true) && ((bif (actsB (A.asB t137) false && (t144.heapy || false)) then (sameV (withV (A.load false 1 t144 H27) fun t145 =>    some (.val t145)) t145 && (sameV (withV (A.load false 1 t144 H37) fun t145 =>    some (.val t145)) t145 && (sameV (withV (A.load false 1 t144 H39) fun t145 =>    some (.val t145)) t145 && true))) else true) && true))))))) (
  A.test t172 (
  some (1, ⟨[(.bool false)], []⟩, H67))
  (
  withV (A.bin env.P .add 3 t7 (.int .i64 1) true H67) fun t32 =>
  L8_0 n m ⟨[t1, t5, t6, t32], []⟩ H67)))
  (none)))
  (
  some (0, ⟨[.undef], []⟩, H))) := by kernel_rfl
/-- tenement/tenementlaw23.WheelPlays -/
theorem S8 (n : Nat) (R : Type) (k : AV → Heap → Option R) (a0 a1 : AV) (H : Heap) : callF env (n + 1) R 8 [a0, a1] H k =
  (callF env n _ 33 [] H fun t14 H1 =>
  withV (A.un .not t14) fun t15 =>
  A.test t15 (
  k (.bool false) H1)
  (
  withV (A.len a1 H1) fun t17 =>
  withV (A.bin env.P .gtr 3 t17 (.int .i64 120) true H1) fun t18 =>
  A.test t18 (
  k (.bool true) H1)
  (
  callF env n _ 34 [a0] H1 fun t20 H3 =>
  withV (List.foldlM A.maxv a0 [(.int .i64 0)]) fun t22 =>
  withV ((A.fill [.nils, (.int .i64 0)] [(1, 1, t22)]).map .agg) fun t23 =>
  chkD ((t23).cells.length == 2 && (t23).isDef && decide (0 < 2)) (bindV (.ptr H3.length 0 0 0) fun t24 => bindH (H3 ++ [.row 0 2 62 [t23]]) fun H5 =>
  withV (A.bin env.P .eql 49 t20 .nilp true H5) fun t26 =>
  A.test t26 (
  k (.bool false) H5)
  (
  bindX (L8_0 n n ⟨[a1, t20, t24, (.int .i64 0)], []⟩ H5) fun i6 l6 H6 =>
  altN i6 0 (
  bindV (l6.vs.getD 0 .undef) fun t4 => 
  k (.bool true) H6)
  (altN i6 1 (
  bindV (l6.vs.getD 0 .undef) fun t4 => 
  k t4 H6)
  (none))))))) := by kernel_rfl
/-- tenement/tenementlaw20.awake -/
theorem S9 (n : Nat) (R : Type) (k : AV → Heap → Option R) (H : Heap) : callF env (n + 1) R 9 [] H k =
  (callF env n _ 17 [(.int .i64 2)] H fun t7 H1 =>
  withV (A.bin env.P .eql 29 t7 .nilp true H1) fun t9 =>
  A.test t9 (
  k (.bool false) H1)
  (
  callF env n _ 18 [t7, (.int .i64 5)] H1 fun t11 H2 =>
  callF env n _ 18 [t7, (.int .i64 6)] H2 fun t13 H3 =>
  callF env n _ 24 [t7] H3 fun t15 H4 =>
  callF env n _ 19 [t7] H4 fun t18 H5 =>
  extractK t18 0 fun t19 =>
  extractK t18 1 fun t20 =>
  withB (A.asB t11) fun b2 => withP (guardB b2 true (
   some (t13, H5))
   (some (.undef, H5))) fun t23 H6 =>
  withV (A.pick t11 t23 (.bool false)) fun t24 =>
  withB (A.asB t24) fun b5 => withP (guardB b5 true (
   some (t15, H6))
   (some (.undef, H6))) fun t26 H7 =>
  withV (A.pick t24 t26 (.bool false)) fun t27 =>
  withB (A.asB t27) fun b8 => withP (guardB b8 true (
   some (t20, H7))
   (some (.undef, H7))) fun t29 H8 =>
  withV (A.pick t27 t29 (.bool false)) fun t30 =>
  withB (A.asB t30) fun b11 => withP (guardB b11 true (
   some (t19, H8))
   (some (.undef, H8))) fun t32 H9 =>
  withB (A.asB t30) fun b12 => withP (guardB b12 true (
   withV (A.bin env.P .eql 3 t32 (.int .i64 6) true H9) fun t33 =>
   some (t33, H9))
   (some (.undef, H9))) fun t33 H10 =>
  withV (A.pick t30 t33 (.bool false)) fun t34 =>
  withB (A.asB t34) fun b15 => withP (guardB b15 true (
   some (t7, H10))
   (some (.undef, H10))) fun t36 H11 =>
  withB (A.asB t34) fun b16 => withP (guardB b16 true (
   callF env n _ 20 [t36] H11 fun t37 H12 =>
   some (t37, H12))
   (some (.undef, H11))) fun t37 H13 =>
  withV (A.pick t34 t37 (.bool false)) fun t38 =>
  withB (A.asB t38) fun b19 => withP (guardB b19 true (
   some (t7, H13))
   (some (.undef, H13))) fun t40 H14 =>
  withB (A.asB t38) fun b20 => withP (guardB b20 true (
   callF env n _ 21 [t40] H14 fun t41 H15 =>
   some (t41, H15))
   (some (.undef, H14))) fun t41 H16 =>
  withB (A.asB t38) fun b21 => withP (guardB b21 true (
   withV (A.bin env.P .eql 3 t41 (.int .i64 1) true H16) fun t42 =>
   some (t42, H16))
   (some (.undef, H16))) fun t42 H17 =>
  withV (A.pick t38 t42 (.bool false)) fun t43 =>
  k t43 H17)) := by kernel_rfl
/-- tenement/mail.New[string] -/
theorem S10 (n : Nat) (R : Type) (k : AV → Heap → Option R) (a0 : AV) (H : Heap) : callF env (n + 1) R 10 [a0] H k =
  (withV (List.foldlM A.maxv a0 [(.int .i64 0)]) fun t4 =>
  withV ((A.fill [.nils, (.int .i64 0), (.int .i64 0)] [(2, 1, t4)]).map .agg) fun t5 =>
  chkD ((t5).cells.length == 3 && (t5).isDef && decide (0 < 3)) (bindV (.ptr H.length 0 0 0) fun t6 => bindH (H ++ [.row 0 3 73 [t5]]) fun H2 =>
  k t6 H2)) := by kernel_rfl
/-- (*tenement/mail.Box[string]).Put -/
theorem S11 (n : Nat) (R : Type) (k : AV → Heap → Option R) (a0 a1 : AV) (H : Heap) : callF env (n + 1) R 11 [a0, a1] H k =
  (withV (A.bin env.P .eql 23 a0 .nilp true H) fun t6 =>
  withB (A.asB t6) fun b3 => withP (guardB b3 false (
   some (a0, H))
   (some (.undef, H))) fun t8 H1 =>
  withB (A.asB t6) fun b4 => withP (guardB b4 false (
   withV (A.nilCheck t8 H1) fun t9 =>
   some (t9, H1))
   (some (.undef, H1))) fun t9 H2 =>
  withB (A.asB t6) fun b5 => withP (guardB b5 false (
   withV (A.fa 0 t9 H2) fun t10 =>
   some (t10, H2))
   (some (.undef, H2))) fun t10 H3 =>
  withB (A.asB t6) fun b6 => withP (guardB b6 false (
   withV (A.load false 1 t10 H3) fun t11 =>
   some (t11, H3))
   (some (.undef, H3))) fun t11 H4 =>
  withB (A.asB t6) fun b7 => withP (guardB b7 false (
   withV (A.len t11 H4) fun t12 =>
   some (t12, H4))
   (some (.undef, H4))) fun t12 H6 =>
  withB (A.asB t6) fun b8 => withP (guardB b8 false (
   some (a0, H6))
   (some (.undef, H6))) fun t13 H7 =>
  withB (A.asB t6) fun b9 => withP (guardB b9 false (
   withV (A.nilCheck t13 H7) fun t14 =>
   some (t14, H7))
   (some (.undef, H7))) fun t14 H8 =>
  withB (A.asB t6) fun b10 => withP (guardB b10 false (
   withV (A.fa 2 t14 H8) fun t15 =>
   some (t15, H8))
   (some (.undef, H8))) fun t15 H9 =>
  withB (A.asB t6) fun b11 => withP (guardB b11 false (
   withV (A.load false 1 t15 H9) fun t16 =>
   some (t16, H9))
   (some (.undef, H9))) fun t16 H10 =>
  withB (A.asB t6) fun b12 => withP (guardB b12 false (
   withV (A.bin env.P .geq 3 t12 t16 false H10) fun t17 =>
   some (t17, H10))
   (some (.undef, H10))) fun t17 H11 =>
  withV (A.pick t6 (.bool true) t17) fun t18 =>
  A.test t18 (
  k (.bool false) H11)
  (
  withV (A.nilCheck a0 H11) fun t21 =>
  withV (A.fa 0 t21 H11) fun t22 =>
  withV (A.load false 1 t22 H11) fun t23 =>
  withL (A.fillElems 1 (List.replicate 1 (.str [])) [(0, 1, a1)]) fun es =>
  bindV (.sl H11.length 0 0 es.length es.length) fun t25 => bindH (H11 ++ [.row 0 1 9 es]) fun H12 =>
  withL (newsOf env 1 71 t25 H12) fun es =>
  withVH (A.append 1 16 9 t23 es H12) fun t26 H13 =>
  withV (A.nilCheck a0 H13) fun t27 =>
  withV (A.fa 0 t27 H13) fun t28 =>
  withH (A.store 1 t28 t26 H13) fun H14 =>
  k (.bool true) H14)) := by kernel_rfl
/-- (*tenement/mail.Box[string]).Skip -/
theorem S12 (n : Nat) (R : Type) (k : AV → Heap → Option R) (a0 : AV) (H : Heap) : callF env (n + 1) R 12 [a0] H k =
  (callF env n _ 16 [a0] H fun t4 H1 =>
  withV (A.un .not t4) fun t5 =>
  A.test t5 (
  k (.bool false) H1)
  (
  withV (A.nilCheck a0 H1) fun t7 =>
  withV (A.fa 1 t7 H1) fun t8 =>
  withV (A.load false 1 t8 H1) fun t9 =>
  withV (A.bin env.P .add 3 t9 (.int .i64 1) true H1) fun t10 =>
  withV (A.nilCheck a0 H1) fun t11 =>
  withV (A.fa 1 t11 H1) fun t12 =>
  withH (A.store 1 t12 t10 H1) fun H2 =>
  k (.bool true) H2)) := by kernel_rfl
/-- (*tenement/mail.Box[string]).Peek -/
theorem S13 (n : Nat) (R : Type) (k : AV → Heap → Option R) (a0 : AV) (H : Heap) : callF env (n + 1) R 13 [a0] H k =
  (callF env n _ 16 [a0] H fun t6 H1 =>
  withV (A.un .not t6) fun t7 =>
  A.test t7 (
  k (.tup [(.str []), (.bool false)]) H1)
  (
  withV (A.nilCheck a0 H1) fun t10 =>
  withV (A.fa 0 t10 H1) fun t11 =>
  withV (A.load false 1 t11 H1) fun t12 =>
  withV (A.nilCheck a0 H1) fun t14 =>
  withV (A.fa 1 t14 H1) fun t15 =>
  withV (A.load false 1 t15 H1) fun t16 =>
  withV (A.idx 1 t12 t16 H1) fun t17 =>
  withV (A.load false 1 t17 H1) fun t18 =>
  k (.tup [t18, (.bool true)]) H1)) := by kernel_rfl
/-- (*tenement/mail.Box[string]).Accept -/
theorem S14 (n : Nat) (R : Type) (k : AV → Heap → Option R) (a0 : AV) (H : Heap) : callF env (n + 1) R 14 [a0] H k =
  (callF env n _ 16 [a0] H fun t4 H1 =>
  withV (A.un .not t4) fun t5 =>
  A.test t5 (
  k (.bool false) H1)
  (
  withV (A.nilCheck a0 H1) fun t8 =>
  withV (A.fa 0 t8 H1) fun t9 =>
  withV (A.load false 1 t9 H1) fun t10 =>
  withV (A.nilCheck a0 H1) fun t12 =>
  withV (A.fa 1 t12 H1) fun t13 =>
  withV (A.load false 1 t13 H1) fun t14 =>
  withV (A.nilCheck a0 H1) fun t16 =>
  withV (A.fa 1 t16 H1) fun t17 =>
  withV (A.load false 1 t17 H1) fun t18 =>
  withV (A.bin env.P .add 3 t18 (.int .i64 1) true H1) fun t19 =>
  callF env n _ 47 [t10, t14, t19] H1 fun t20 H2 =>
  withV (A.nilCheck a0 H2) fun t21 =>
  withV (A.fa 0 t21 H2) fun t22 =>
  withH (A.store 1 t22 t20 H2) fun H3 =>
  withV (A.nilCheck a0 H3) fun t24 =>
  withV (A.fa 1 t24 H3) fun t25 =>
  withH (A.store 1 t25 (.int .i64 0) H3) fun H4 =>
  k (.bool true) H4)) := by kernel_rfl
/-- (*tenement/mail.Box[string]).Mark -/
theorem S15 (n : Nat) (R : Type) (k : AV → Heap → Option R) (a0 : AV) (H : Heap) : callF env (n + 1) R 15 [a0] H k =
  (withV (A.bin env.P .eql 23 a0 .nilp true H) fun t4 =>
  A.test t4 (
  k (.int .i64 0) H)
  (
  withV (A.nilCheck a0 H) fun t6 =>
  withV (A.fa 1 t6 H) fun t7 =>
  withV (A.load false 1 t7 H) fun t8 =>
  k t8 H)) := by kernel_rfl
/-- (*tenement/mail.Box[string]).Ahead -/
theorem S16 (n : Nat) (R : Type) (k : AV → Heap → Option R) (a0 : AV) (H : Heap) : callF env (n + 1) R 16 [a0] H k =
  (withV (A.bin env.P .neq 23 a0 .nilp true H) fun t4 =>
  withB (A.asB t4) fun b3 => withP (guardB b3 true (
   some (a0, H))
   (some (.undef, H))) fun t6 H1 =>
  withB (A.asB t4) fun b4 => withP (guardB b4 true (
   withV (A.nilCheck t6 H1) fun t7 =>
   some (t7, H1))
   (some (.undef, H1))) fun t7 H2 =>
  withB (A.asB t4) fun b5 => withP (guardB b5 true (
   withV (A.fa 1 t7 H2) fun t8 =>
   some (t8, H2))
   (some (.undef, H2))) fun t8 H3 =>
  withB (A.asB t4) fun b6 => withP (guardB b6 true (
   withV (A.load false 1 t8 H3) fun t9 =>
   some (t9, H3))
   (some (.undef, H3))) fun t9 H4 =>
  withB (A.asB t4) fun b7 => withP (guardB b7 true (
   some (a0, H4))
   (some (.undef, H4))) fun t10 H5 =>
  withB (A.asB t4) fun b8 => withP (guardB b8 true (
   withV (A.nilCheck t10 H5) fun t11 =>
   some (t11, H5))
   (some (.undef, H5))) fun t11 H6 =>
  withB (A.asB t4) fun b9 => withP (guardB b9 true (
   withV (A.fa 0 t11 H6) fun t12 =>
   some (t12, H6))
   (some (.undef, H6))) fun t12 H7 =>
  withB (A.asB t4) fun b10 => withP (guardB b10 true (
   withV (A.load false 1 t12 H7) fun t13 =>
   some (t13, H7))
   (some (.undef, H7))) fun t13 H8 =>
  withB (A.asB t4) fun b11 => withP (guardB b11 true (
   withV (A.len t13 H8) fun t14 =>
   some (t14, H8))
   (some (.undef, H8))) fun t14 H10 =>
  withB (A.asB t4) fun b12 => withP (guardB b12 true (
   withV (A.bin env.P .lss 3 t9 t14 false H10) fun t15 =>
   some (t15, H10))
   (some (.undef, H10))) fun t15 H11 =>
  withV (A.pick t4 t15 (.bool false)) fun t16 =>
  k t16 H11) := by kernel_rfl
/-- tenement/mail.New[int] -/
theorem S17 (n : Nat) (R : Type) (k : AV → Heap → Option R) (a0 : AV) (H : Heap) : callF env (n + 1) R 17 [a0] H k =
  (withV (List.foldlM A.maxv a0 [(.int .i64 0)]) fun t4 =>
  withV ((A.fill [.nils, (.int .i64 0), (.int .i64 0)] [(2, 1, t4)]).map .agg) fun t5 =>
  chkD ((t5).cells.length == 3 && (t5).isDef && decide (0 < 3)) (bindV (.ptr H.length 0 0 0) fun t6 => bindH (H ++ [.row 0 3 76 [t5]]) fun H2 =>
  k t6 H2)) := by kernel_rfl
/-- (*tenement/mail.Box[int]).Put -/
theorem S18 (n : Nat) (R : Type) (k : AV → Heap → Option R) (a0 a1 : AV) (H : Heap) : callF env (n + 1) R 18 [a0, a1] H k =
  (withV (A.bin env.P .eql 29 a0 .nilp true H) fun t6 =>
  withB (A.asB t6) fun b3 => withP (guardB b3 false (
   some (a0, H))
   (some (.undef, H))) fun t8 H1 =>
  withB (A.asB t6) fun b4 => withP (guardB b4 false (
   withV (A.nilCheck t8 H1) fun t9 =>
   some (t9, H1))
   (some (.undef, H1))) fun t9 H2 =>
  withB (A.asB t6) fun b5 => withP (guardB b5 false (
   withV (A.fa 0 t9 H2) fun t10 =>
   some (t10, H2))
   (some (.undef, H2))) fun t10 H3 =>
  withB (A.asB t6) fun b6 => withP (guardB b6 false (
   withV (A.load false 1 t10 H3) fun t11 =>
   some (t11, H3))
   (some (.undef, H3))) fun t11 H4 =>
  withB (A.asB t6) fun b7 => withP (guardB b7 false (
   withV (A.len t11 H4) fun t12 =>
   some (t12, H4))
   (some (.undef, H4))) fun t12 H6 =>
  withB (A.asB t6) fun b8 => withP (guardB b8 false (
   some (a0, H6))
   (some (.undef, H6))) fun t13 H7 =>
  withB (A.asB t6) fun b9 => withP (guardB b9 false (
   withV (A.nilCheck t13 H7) fun t14 =>
   some (t14, H7))
   (some (.undef, H7))) fun t14 H8 =>
  withB (A.asB t6) fun b10 => withP (guardB b10 false (
   withV (A.fa 2 t14 H8) fun t15 =>
   some (t15, H8))
   (some (.undef, H8))) fun t15 H9 =>
  withB (A.asB t6) fun b11 => withP (guardB b11 false (
   withV (A.load false 1 t15 H9) fun t16 =>
   some (t16, H9))
   (some (.undef, H9))) fun t16 H10 =>
  withB (A.asB t6) fun b12 => withP (guardB b12 false (
   withV (A.bin env.P .geq 3 t12 t16 false H10) fun t17 =>
   some (t17, H10))
   (some (.undef, H10))) fun t17 H11 =>
  withV (A.pick t6 (.bool true) t17) fun t18 =>
  A.test t18 (
  k (.bool false) H11)
  (
  withV (A.nilCheck a0 H11) fun t21 =>
  withV (A.fa 0 t21 H11) fun t22 =>
  withV (A.load false 1 t22 H11) fun t23 =>
  withL (A.fillElems 1 (List.replicate 1 (.int .i64 0)) [(0, 1, a1)]) fun es =>
  bindV (.sl H11.length 0 0 es.length es.length) fun t25 => bindH (H11 ++ [.row 0 1 3 es]) fun H12 =>
  withL (newsOf env 1 33 t25 H12) fun es =>
  withVH (A.append 1 8 3 t23 es H12) fun t26 H13 =>
  withV (A.nilCheck a0 H13) fun t27 =>
  withV (A.fa 0 t27 H13) fun t28 =>
  withH (A.store 1 t28 t26 H13) fun H14 =>
  k (.bool true) H14)) := by kernel_rfl
/-- (*tenement/mail.Box[int]).Peek -/
theorem S19 (n : Nat) (R : Type) (k : AV → Heap → Option R) (a0 : AV) (H : Heap) : callF env (n + 1) R 19 [a0] H k =
  (callF env n _ 32 [a0] H fun t6 H1 =>
  withV (A.un .not t6) fun t7 =>
  A.test t7 (
  k (.tup [(.int .i64 0), (.bool false)]) H1)
  (
  withV (A.nilCheck a0 H1) fun t10 =>
  withV (A.fa 0 t10 H1) fun t11 =>
  withV (A.load false 1 t11 H1) fun t12 =>
  withV (A.nilCheck a0 H1) fun t14 =>
  withV (A.fa 1 t14 H1) fun t15 =>
  withV (A.load false 1 t15 H1) fun t16 =>
  withV (A.idx 1 t12 t16 H1) fun t17 =>
  withV (A.load false 1 t17 H1) fun t18 =>
  k (.tup [t18, (.bool true)]) H1)) := by kernel_rfl
/-- (*tenement/mail.Box[int]).Accept -/
theorem S20 (n : Nat) (R : Type) (k : AV → Heap → Option R) (a0 : AV) (H : Heap) : callF env (n + 1) R 20 [a0] H k =
  (callF env n _ 32 [a0] H fun t4 H1 =>
  withV (A.un .not t4) fun t5 =>
  A.test t5 (
  k (.bool false) H1)
  (
  withV (A.nilCheck a0 H1) fun t8 =>
  withV (A.fa 0 t8 H1) fun t9 =>
  withV (A.load false 1 t9 H1) fun t10 =>
  withV (A.nilCheck a0 H1) fun t12 =>
  withV (A.fa 1 t12 H1) fun t13 =>
  withV (A.load false 1 t13 H1) fun t14 =>
  withV (A.nilCheck a0 H1) fun t16 =>
  withV (A.fa 1 t16 H1) fun t17 =>
  withV (A.load false 1 t17 H1) fun t18 =>
  withV (A.bin env.P .add 3 t18 (.int .i64 1) true H1) fun t19 =>
  callF env n _ 48 [t10, t14, t19] H1 fun t20 H2 =>
  withV (A.nilCheck a0 H2) fun t21 =>
  withV (A.fa 0 t21 H2) fun t22 =>
  withH (A.store 1 t22 t20 H2) fun H3 =>
  withV (A.nilCheck a0 H3) fun t24 =>
  withV (A.fa 1 t24 H3) fun t25 =>
  withH (A.store 1 t25 (.int .i64 0) H3) fun H4 =>
  k (.bool true) H4)) := by kernel_rfl
/-- (*tenement/mail.Box[int]).Len -/
theorem S21 (n : Nat) (R : Type) (k : AV → Heap → Option R) (a0 : AV) (H : Heap) : callF env (n + 1) R 21 [a0] H k =
  (withV (A.bin env.P .eql 29 a0 .nilp true H) fun t4 =>
  A.test t4 (
  k (.int .i64 0) H)
  (
  withV (A.nilCheck a0 H) fun t6 =>
  withV (A.fa 0 t6 H) fun t7 =>
  withV (A.load false 1 t7 H) fun t8 =>
  withV (A.len t8 H) fun t9 =>
  k t9 H)) := by kernel_rfl
theorem L22_0_step (n m : Nat) (t0 t1 t5 : AV) (H : Heap) : L22_0 n (m + 1) ⟨[t0, t1, t5], []⟩ H =
  (withV (A.len t0 H) fun t13 =>
  withV (A.bin env.P .lss 3 t5 t13 false H) fun t14 =>
  A.test t14 (
  withV (A.idx 1 t0 t5 H) fun t19 =>
  withV (A.load false 1 t19 H) fun t20 =>
  withV (A.idx 1 t1 t5 H) fun t23 =>
  withV (A.load false 1 t23 H) fun t24 =>
  withV (A.bin env.P .neq 3 t20 t24 false H) fun t25 =>
  A.test t25 (
  some (1, ⟨[(.bool false)], []⟩, H))
  (
  withV (A.bin env.P .add 3 t5 (.int .i64 1) true H) fun t16 =>
  L22_0 n m ⟨[t0, t1, t16], []⟩ H))
  (
  some (0, ⟨[.undef], []⟩, H))) := by kernel_rfl
/-- tenement/tenementref20.Same -/
theorem S22 (n : Nat) (R : Type) (k : AV → Heap → Option R) (a0 a1 : AV) (H : Heap) : callF env (n + 1) R 22 [a0, a1] H k =
  (withV (A.len a0 H) fun t7 =>
  withV (A.len a1 H) fun t9 =>
  withV (A.bin env.P .neq 3 t7 t9 false H) fun t10 =>
  A.test t10 (
  k (.bool false) H)
  (
  bindX (L22_0 n n ⟨[a0, a1, (.int .i64 0)], []⟩ H) fun i3 l3 H3 =>
  altN i3 0 (
  bindV (l3.vs.getD 0 .undef) fun t4 => 
  k (.bool true) H3)
  (altN i3 1 (
  bindV (l3.vs.getD 0 .undef) fun t4 => 
  k t4 H3)
  (none)))) := by kernel_rfl
/-- (*tenement/mail.Box[int]).All -/
theorem S23 (n : Nat) (R : Type) (k : AV → Heap → Option R) (a0 : AV) (H : Heap) : callF env (n + 1) R 23 [a0] H k =
  (withV (A.bin env.P .eql 29 a0 .nilp true H) fun t4 =>
  A.test t4 (
  k .nils H)
  (
  withV (A.nilCheck a0 H) fun t6 =>
  withV (A.fa 0 t6 H) fun t7 =>
  withV (A.load false 1 t7 H) fun t8 =>
  callF env n _ 49 [t8] H fun t9 H1 =>
  k t9 H1)) := by kernel_rfl
/-- (*tenement/mail.Box[int]).Skip -/
theorem S24 (n : Nat) (R : Type) (k : AV → Heap → Option R) (a0 : AV) (H : Heap) : callF env (n + 1) R 24 [a0] H k =
  (callF env n _ 32 [a0] H fun t4 H1 =>
  withV (A.un .not t4) fun t5 =>
  A.test t5 (
  k (.bool false) H1)
  (
  withV (A.nilCheck a0 H1) fun t7 =>
  withV (A.fa 1 t7 H1) fun t8 =>
  withV (A.load false 1 t8 H1) fun t9 =>
  withV (A.bin env.P .add 3 t9 (.int .i64 1) true H1) fun t10 =>
  withV (A.nilCheck a0 H1) fun t11 =>
  withV (A.fa 1 t11 H1) fun t12 =>
  withH (A.store 1 t12 t10 H1) fun H2 =>
  k (.bool true) H2)) := by kernel_rfl
/-- (*tenement/mail.Box[int]).Reset -/
theorem S25 (n : Nat) (R : Type) (k : AV → Heap → Option R) (a0 : AV) (H : Heap) : callF env (n + 1) R 25 [a0] H k =
  (withV (A.bin env.P .neq 29 a0 .nilp true H) fun t3 =>
  bindX (A.test t3 (
   withV (A.nilCheck a0 H) fun t5 =>
    withV (A.fa 1 t5 H) fun t6 =>
    withH (A.store 1 t6 (.int .i64 0) H) fun H1 =>
    some (0, ⟨[], []⟩, H1))
   (
   some (0, ⟨[], []⟩, H))) fun i2 l2 H2 =>
  altN i2 0 (
  k (.tup []) H2)
  (none)) := by kernel_rfl
/-- (*tenement/mail.Box[int]).Mark -/
theorem S26 (n : Nat) (R : Type) (k : AV → Heap → Option R) (a0 : AV) (H : Heap) : callF env (n + 1) R 26 [a0] H k =
  (withV (A.bin env.P .eql 29 a0 .nilp true H) fun t4 =>
  A.test t4 (
  k (.int .i64 0) H)
  (
  withV (A.nilCheck a0 H) fun t6 =>
  withV (A.fa 1 t6 H) fun t7 =>
  withV (A.load false 1 t7 H) fun t8 =>
  k t8 H)) := by kernel_rfl
/-- (*tenement/tenementref20.Box).Put -/
theorem S27 (n : Nat) (R : Type) (k : AV → Heap → Option R) (a0 a1 : AV) (H : Heap) : callF env (n + 1) R 27 [a0, a1] H k =
  (withV (A.nilCheck a0 H) fun t6 =>
  withV (A.fa 0 t6 H) fun t7 =>
  withV (A.load false 1 t7 H) fun t8 =>
  withV (A.len t8 H) fun t9 =>
  withV (A.nilCheck a0 H) fun t11 =>
  withV (A.fa 2 t11 H) fun t12 =>
  withV (A.load false 1 t12 H) fun t13 =>
  withV (A.bin env.P .geq 3 t9 t13 false H) fun t14 =>
  A.test t14 (
  k (.bool false) H)
  (
  withV (A.nilCheck a0 H) fun t17 =>
  withV (A.fa 0 t17 H) fun t18 =>
  withV (A.load false 1 t18 H) fun t19 =>
  withL (A.fillElems 1 (List.replicate 1 (.int .i64 0)) [(0, 1, a1)]) fun es =>
  bindV (.sl H.length 0 0 es.length es.length) fun t21 => bindH (H ++ [.row 0 1 3 es]) fun H2 =>
  withL (newsOf env 1 33 t21 H2) fun es =>
  withVH (A.append 1 8 3 t19 es H2) fun t22 H3 =>
  withV (A.nilCheck a0 H3) fun t23 =>
  withV (A.fa 0 t23 H3) fun t24 =>
  withH (A.store 1 t24 t22 H3) fun H4 =>
  k (.bool true) H4)) := by kernel_rfl
/-- (*tenement/tenementref20.Box).Peek -/
theorem S28 (n : Nat) (R : Type) (k : AV → Heap → Option R) (a0 : AV) (H : Heap) : callF env (n + 1) R 28 [a0] H k =
  (withV (A.nilCheck a0 H) fun t5 =>
  withV (A.fa 1 t5 H) fun t6 =>
  withV (A.load false 1 t6 H) fun t7 =>
  withV (A.nilCheck a0 H) fun t9 =>
  withV (A.fa 0 t9 H) fun t10 =>
  withV (A.load false 1 t10 H) fun t11 =>
  withV (A.len t11 H) fun t12 =>
  withV (A.bin env.P .geq 3 t7 t12 false H) fun t13 =>
  A.test t13 (
  k (.tup [(.int .i64 0), (.bool false)]) H)
  (
  withV (A.nilCheck a0 H) fun t15 =>
  withV (A.fa 0 t15 H) fun t16 =>
  withV (A.load false 1 t16 H) fun t17 =>
  withV (A.nilCheck a0 H) fun t19 =>
  withV (A.fa 1 t19 H) fun t20 =>
  withV (A.load false 1 t20 H) fun t21 =>
  withV (A.idx 1 t17 t21 H) fun t22 =>
  withV (A.load false 1 t22 H) fun t23 =>
  k (.tup [t23, (.bool true)]) H)) := by kernel_rfl
/-- (*tenement/tenementref20.Box).Accept -/
theorem S29 (n : Nat) (R : Type) (k : AV → Heap → Option R) (a0 : AV) (H : Heap) : callF env (n + 1) R 29 [a0] H k =
  (withV (A.nilCheck a0 H) fun t4 =>
  withV (A.fa 1 t4 H) fun t5 =>
  withV (A.load false 1 t5 H) fun t6 =>
  withV (A.nilCheck a0 H) fun t8 =>
  withV (A.fa 0 t8 H) fun t9 =>
  withV (A.load false 1 t9 H) fun t10 =>
  withV (A.len t10 H) fun t11 =>
  withV (A.bin env.P .geq 3 t6 t11 false H) fun t12 =>
  A.test t12 (
  k (.bool false) H)
  (
  withV (A.nilCheck a0 H) fun t15 =>
  withV (A.fa 0 t15 H) fun t16 =>
  withV (A.load false 1 t16 H) fun t17 =>
  withV (A.nilCheck a0 H) fun t19 =>
  withV (A.fa 1 t19 H) fun t20 =>
  withV (A.load false 1 t20 H) fun t21 =>
  withV (A.slice 1 t17 none (some t21) none H) fun t22 =>
  withL (newsOf env 1 33 t22 H) fun es =>
  withVH (A.append 1 8 3 .nils es H) fun t23 H2 =>
  withV (A.nilCheck a0 H2) fun t25 =>
  withV (A.fa 0 t25 H2) fun t26 =>
  withV (A.load false 1 t26 H2) fun t27 =>
  withV (A.nilCheck a0 H2) fun t29 =>
  withV (A.fa 1 t29 H2) fun t30 =>
  withV (A.load false 1 t30 H2) fun t31 =>
  withV (A.bin env.P .add 3 t31 (.int .i64 1) true H2) fun t32 =>
  withV (A.slice 1 t27 (some t32) none none H2) fun t33 =>
  withL (newsOf env 1 33 t33 H2) fun es =>
  withVH (A.append 1 8 3 t23 es H2) fun t34 H3 =>
  withV (A.nilCheck a0 H3) fun t35 =>
  withV (A.fa 0 t35 H3) fun t36 =>
  withH (A.store 1 t36 t34 H3) fun H4 =>
  chkD ((bif (a0.heapy || false) then (sameV (withV (A.nilCheck a0 H) fun t25 =>    some (.val t25)) t25 && (sameV (withV (A.nilCheck a0 H2) fun t25 =>    some (.val t25)) t25 && true)) else true) && ((bif (t25.heapy || false) then (sameV (withV (A.fa 0 t25 H) fun t26 =>    some (.val t26)) t26 && (sameV (withV (A.fa 0 t25 H2) fun t26 =>    some (.val t26)) t26 && true)) else true) && ((bif (t26.heapy || false) then (sameV (withV (A.load false 1 t26 H) fun t27 =>    some (.val t27)) t27 && (sameV (withV (A.load false 1 t26 H2) fun t27 =>    some (.val t27)) t27 && true)) else true) && ((bif (a0.heapy || false) then (sameV (withV (A.nilCheck a0 H) fun t29 =>    some (.val t29)) t29 && (sameV (withV (A.nilCheck a0 H2) fun t29 =>    some (.val t29)) t29 && true)) else true) && ((bif (t29.heapy || false) then (sameV (withV (A.fa 1 t29 H) fun t30 =>    some (.val t30)) t30 && (sameV (withV (A.fa 1 t29 H2) fun t30 =>    some (.val t30)) t30 && true)) else true) && ((bif (t30.heapy || false) then (sameV (withV (A.load false 1 t30 H) fun t31 =>    some (.val t31)) t31 && (sameV (withV (A.load false 1 t30 H2) fun t31 =>    some (.val t31)) t31 && true)) else true) && ((bif (t31.heapy || (false || false)) then (sameV (withV (A.bin env.P .add 3 t31 (.int .i64 1) true H) fun t32 =>    some (.val t32)) t32 && (sameV (withV (A.bin env.P .add 3 t31 (.int .i64 1) true H2) fun t32 =>    some (.val t32)) t32 && true)) else true) && ((bif (t27.heapy || (t32.heapy || false)) then (sameV (withV (A.slice 1 t27 (some t32) none none H) fun t33 =>    some (.val t33)) t33 && (sameV (withV (A.slice 1 t27 (some t32) none none H2) fun t33 =>    some (.val t33)) t33 && true)) else true) && true)))))))) (
  withV (A.nilCheck a0 H4) fun t38 =>
  withV (A.fa 1 t38 H4) fun t39 =>
  withH (A.store 1 t39 (.int .i64 0) H4) fun H5 =>
  k (.bool true) H5))) := by kernel_rfl
/-- (*tenement/tenementref20.Box).Skip -/
theorem S30 (n : Nat) (R : Type) (k : AV → Heap → Option R) (a0 : AV) (H : Heap) : callF env (n + 1) R 30 [a0] H k =
  (withV (A.nilCheck a0 H) fun t4 =>
  withV (A.fa 1 t4 H) fun t5 =>
  withV (A.load false 1 t5 H) fun t6 =>
  withV (A.nilCheck a0 H) fun t8 =>
  withV (A.fa 0 t8 H) fun t9 =>
  withV (A.load false 1 t9 H) fun t10 =>
  withV (A.len t10 H) fun t11 =>
  withV (A.bin env.P .geq 3 t6 t11 false H) fun t12 =>
  A.test t12 (
  k (.bool false) H)
  (
  withV (A.nilCheck a0 H) fun t14 =>
  withV (A.fa 1 t14 H) fun t15 =>
  withV (A.load false 1 t15 H) fun t16 =>
  withV (A.bin env.P .add 3 t16 (.int .i64 1) true H) fun t17 =>
  withV (A.nilCheck a0 H) fun t18 =>
  withV (A.fa 1 t18 H) fun t19 =>
  withH (A.store 1 t19 t17 H) fun H2 =>
  k (.bool true) H2)) := by kernel_rfl
/-- (*tenement/mail.Box[int]).Set -/
theorem S31 (n : Nat) (R : Type) (k : AV → Heap → Option R) (a0 a1 : AV) (H : Heap) : callF env (n + 1) R 31 [a0, a1] H k =
  (withV (A.bin env.P .eql 29 a0 .nilp true H) fun t6 =>
  withB (A.asB t6) fun b3 => withP (guardB b3 false (
   some (a1, H))
   (some (.undef, H))) fun t8 H1 =>
  withB (A.asB t6) fun b4 => withP (guardB b4 false (
   withV (A.len t8 H1) fun t9 =>
   some (t9, H1))
   (some (.undef, H1))) fun t9 H3 =>
  withB (A.asB t6) fun b5 => withP (guardB b5 false (
   some (a0, H3))
   (some (.undef, H3))) fun t10 H4 =>
  withB (A.asB t6) fun b6 => withP (guardB b6 false (
   withV (A.nilCheck t10 H4) fun t11 =>
   some (t11, H4))
   (some (.undef, H4))) fun t11 H5 =>
  withB (A.asB t6) fun b7 => withP (guardB b7 false (
   withV (A.fa 0 t11 H5) fun t12 =>
   some (t12, H5))
   (some (.undef, H5))) fun t12 H6 =>
  withB (A.asB t6) fun b8 => withP (guardB b8 false (
   withV (A.load false 1 t12 H6) fun t13 =>
   some (t13, H6))
   (some (.undef, H6))) fun t13 H7 =>
  withB (A.asB t6) fun b9 => withP (guardB b9 false (
   withV (A.len t13 H7) fun t14 =>
   some (t14, H7))
   (some (.undef, H7))) fun t14 H9 =>
  withB (A.asB t6) fun b10 => withP (guardB b10 false (
   withV (A.bin env.P .neq 3 t9 t14 false H9) fun t15 =>
   some (t15, H9))
   (some (.undef, H9))) fun t15 H10 =>
  withV (A.pick t6 (.bool true) t15) fun t16 =>
  A.test t16 (
  k (.bool false) H10)
  (
  callF env n _ 49 [a1] H10 fun t19 H11 =>
  withV (A.nilCheck a0 H11) fun t20 =>
  withV (A.fa 0 t20 H11) fun t21 =>
  withH (A.store 1 t21 t19 H11) fun H12 =>
  k (.bool true) H12)) := by kernel_rfl
/-- (*tenement/mail.Box[int]).Ahead -/
theorem S32 (n : Nat) (R : Type) (k : AV → Heap → Option R) (a0 : AV) (H : Heap) : callF env (n + 1) R 32 [a0] H k =
  (withV (A.bin env.P .neq 29 a0 .nilp true H) fun t4 =>
  withB (A.asB t4) fun b3 => withP (guardB b3 true (
   some (a0, H))
   (some (.undef, H))) fun t6 H1 =>
  withB (A.asB t4) fun b4 => withP (guardB b4 true (
   withV (A.nilCheck t6 H1) fun t7 =>
   some (t7, H1))
   (some (.undef, H1))) fun t7 H2 =>
  withB (A.asB t4) fun b5 => withP (guardB b5 true (
   withV (A.fa 1 t7 H2) fun t8 =>
   some (t8, H2))
   (some (.undef, H2))) fun t8 H3 =>
  withB (A.asB t4) fun b6 => withP (guardB b6 true (
   withV (A.load false 1 t8 H3) fun t9 =>
   some (t9, H3))
   (some (.undef, H3))) fun t9 H4 =>
  withB (A.asB t4) fun b7 => withP (guardB b7 true (
   some (a0, H4))
   (some (.undef, H4))) fun t10 H5 =>
  withB (A.asB t4) fun b8 => withP (guardB b8 true (
   withV (A.nilCheck t10 H5) fun t11 =>
   some (t11, H5))
   (some (.undef, H5))) fun t11 H6 =>
  withB (A.asB t4) fun b9 => withP (guardB b9 true (
   withV (A.fa 0 t11 H6) fun t12 =>
   some (t12, H6))
   (some (.undef, H6))) fun t12 H7 =>
  withB (A.asB t4) fun b10 => withP (guardB b10 true (
   withV (A.load false 1 t12 H7) fun t13 =>
   some (t13, H7))
   (some (.undef, H7))) fun t13 H8 =>
  withB (A.asB t4) fun b11 => withP (guardB b11 true (
   withV (A.len t13 H8) fun t14 =>
   some (t14, H8))
   (some (.undef, H8))) fun t14 H10 =>
  withB (A.asB t4) fun b12 => withP (guardB b12 true (
   withV (A.bin env.P .lss 3 t9 t14 false H10) fun t15 =>
   some (t15, H10))
   (some (.undef, H10))) fun t15 H11 =>
  withV (A.pick t4 t15 (.bool false)) fun t16 =>
  k t16 H11) := by kernel_rfl
/-- tenement/tenementlaw23.awake -/
theorem S33 (n : Nat) (R : Type) (k : AV → Heap → Option R) (H : Heap) : callF env (n + 1) R 33 [] H k =
  (callF env n _ 34 [(.int .i64 2)] H fun t6 H1 =>
  withV (A.bin env.P .eql 49 t6 .nilp true H1) fun t8 =>
  A.test t8 (
  k (.bool false) H1)
  (
  callF env n _ 35 [t6, (.int .i64 5), (.int .i64 9), (.int .i64 1)] H1 fun t10 H2 =>
  callF env n _ 35 [t6, (.int .i64 4), (.int .i64 9), (.int .i64 2)] H2 fun t12 H3 =>
  callF env n _ 36 [t6, (.int .i64 8)] H3 fun t14 H4 =>
  callF env n _ 36 [t6, (.int .i64 9)] H4 fun t16 H5 =>
  withB (A.asB t10) fun b2 => withP (guardB b2 true (
   some (t12, H5))
   (some (.undef, H5))) fun t19 H6 =>
  withV (A.pick t10 t19 (.bool false)) fun t20 =>
  withB (A.asB t20) fun b5 => withP (guardB b5 true (
   some (t14, H6))
   (some (.undef, H6))) fun t22 H7 =>
  withB (A.asB t20) fun b6 => withP (guardB b6 true (
   withV (A.len t22 H7) fun t23 =>
   some (t23, H7))
   (some (.undef, H7))) fun t23 H9 =>
  withB (A.asB t20) fun b7 => withP (guardB b7 true (
   withV (A.bin env.P .eql 3 t23 (.int .i64 0) true H9) fun t24 =>
   some (t24, H9))
   (some (.undef, H9))) fun t24 H10 =>
  withV (A.pick t20 t24 (.bool false)) fun t25 =>
  withB (A.asB t25) fun b10 => withP (guardB b10 true (
   some (t16, H10))
   (some (.undef, H10))) fun t27 H11 =>
  withB (A.asB t25) fun b11 => withP (guardB b11 true (
   withV (A.len t27 H11) fun t28 =>
   some (t28, H11))
   (some (.undef, H11))) fun t28 H13 =>
  withB (A.asB t25) fun b12 => withP (guardB b12 true (
   withV (A.bin env.P .eql 3 t28 (.int .i64 2) true H13) fun t29 =>
   some (t29, H13))
   (some (.undef, H13))) fun t29 H14 =>
  withV (A.pick t25 t29 (.bool false)) fun t30 =>
  withB (A.asB t30) fun b15 => withP (guardB b15 true (
   some (t16, H14))
   (some (.undef, H14))) fun t32 H15 =>
  withB (A.asB t30) fun b16 => withP (guardB b16 true (
   withV (A.idx 3 t32 (.int .i64 0) H15) fun t33 =>
   some (t33, H15))
   (some (.undef, H15))) fun t33 H16 =>
  withB (A.asB t30) fun b17 => withP (guardB b17 true (
   withV (A.fa 0 t33 H16) fun t34 =>
   some (t34, H16))
   (some (.undef, H16))) fun t34 H17 =>
  withB (A.asB t30) fun b18 => withP (guardB b18 true (
   withV (A.load false 1 t34 H17) fun t35 =>
   some (t35, H17))
   (some (.undef, H17))) fun t35 H18 =>
  withB (A.asB t30) fun b19 => withP (guardB b19 true (
   withV (A.bin env.P .eql 3 t35 (.int .i64 4) true H18) fun t36 =>
   some (t36, H18))
   (some (.undef, H18))) fun t36 H19 =>
  withV (A.pick t30 t36 (.bool false)) fun t37 =>
  withB (A.asB t37) fun b22 => withP (guardB b22 true (
   some (t6, H19))
   (some (.undef, H19))) fun t39 H20 =>
  withB (A.asB t37) fun b23 => withP (guardB b23 true (
   callF env n _ 37 [t39] H20 fun t40 H21 =>
   some (t40, H21))
   (some (.undef, H20))) fun t40 H22 =>
  withB (A.asB t37) fun b24 => withP (guardB b24 true (
   withV (A.bin env.P .eql 3 t40 (.int .i64 0) true H22) fun t41 =>
   some (t41, H22))
   (some (.undef, H22))) fun t41 H23 =>
  withV (A.pick t37 t41 (.bool false)) fun t42 =>
  k t42 H23)) := by kernel_rfl
/-- tenement/wheel.New[int] -/
theorem S34 (n : Nat) (R : Type) (k : AV → Heap → Option R) (a0 : AV) (H : Heap) : callF env (n + 1) R 34 [a0] H k =
  (withV (List.foldlM A.maxv a0 [(.int .i64 0)]) fun t4 =>
  withV ((A.fill [.nils, (.int .i64 0)] [(1, 1, t4)]).map .agg) fun t5 =>
  chkD ((t5).cells.length == 2 && (t5).isDef && decide (0 < 2)) (bindV (.ptr H.length 0 0 0) fun t6 => bindH (H ++ [.row 0 2 80 [t5]]) fun H2 =>
  k t6 H2)) := by kernel_rfl
/-- (*tenement/wheel.Wheel[int]).Add -/
theorem S35 (n : Nat) (R : Type) (k : AV → Heap → Option R) (a0 a1 a2 a3 : AV) (H : Heap) : callF env (n + 1) R 35 [a0, a1, a2, a3] H k =
  (withV (A.bin env.P .eql 49 a0 .nilp true H) fun t12 =>
  withB (A.asB t12) fun b3 => withP (guardB b3 false (
   some (a0, H))
   (some (.undef, H))) fun t14 H1 =>
  withB (A.asB t12) fun b4 => withP (guardB b4 false (
   withV (A.nilCheck t14 H1) fun t15 =>
   some (t15, H1))
   (some (.undef, H1))) fun t15 H2 =>
  withB (A.asB t12) fun b5 => withP (guardB b5 false (
   withV (A.fa 0 t15 H2) fun t16 =>
   some (t16, H2))
   (some (.undef, H2))) fun t16 H3 =>
  withB (A.asB t12) fun b6 => withP (guardB b6 false (
   withV (A.load false 1 t16 H3) fun t17 =>
   some (t17, H3))
   (some (.undef, H3))) fun t17 H4 =>
  withB (A.asB t12) fun b7 => withP (guardB b7 false (
   withV (A.len t17 H4) fun t18 =>
   some (t18, H4))
   (some (.undef, H4))) fun t18 H6 =>
  withB (A.asB t12) fun b8 => withP (guardB b8 false (
   some (a0, H6))
   (some (.undef, H6))) fun t19 H7 =>
  withB (A.asB t12) fun b9 => withP (guardB b9 false (
   withV (A.nilCheck t19 H7) fun t20 =>
   some (t20, H7))
   (some (.undef, H7))) fun t20 H8 =>
  withB (A.asB t12) fun b10 => withP (guardB b10 false (
   withV (A.fa 1 t20 H8) fun t21 =>
   some (t21, H8))
   (some (.undef, H8))) fun t21 H9 =>
  withB (A.asB t12) fun b11 => withP (guardB b11 false (
   withV (A.load false 1 t21 H9) fun t22 =>
   some (t22, H9))
   (some (.undef, H9))) fun t22 H10 =>
  withB (A.asB t12) fun b12 => withP (guardB b12 false (
   withV (A.bin env.P .geq 3 t18 t22 false H10) fun t23 =>
   some (t23, H10))
   (some (.undef, H10))) fun t23 H11 =>
  withV (A.pick t12 (.bool true) t23) fun t24 =>
  withB (A.asB t24) fun b15 => withP (guardB b15 false (
   some (a0, H11))
   (some (.undef, H11))) fun t26 H12 =>
  withB (A.asB t24) fun b16 => withP (guardB b16 false (
   some (a1, H12))
   (some (.undef, H12))) fun t27 H13 =>
  withB (A.asB t24) fun b17 => withP (guardB b17 false (
   callF env n _ 50 [t26, t27] H13 fun t28 H14 =>
   some (t28, H14))
   (some (.undef, H13))) fun t28 H15 =>
  withB (A.asB t24) fun b18 => withP (guardB b18 false (
   withV (A.bin env.P .geq 3 t28 (.int .i64 0) true H15) fun t29 =>
   some (t29, H15))
   (some (.undef, H15))) fun t29 H16 =>
  withV (A.pick t24 (.bool true) t29) fun t30 =>
  A.test t30 (
  k (.bool false) H16)
  (
  withV (A.nilCheck a0 H16) fun t33 =>
  withV (A.fa 0 t33 H16) fun t34 =>
  withV (A.load false 1 t34 H16) fun t35 =>
  withV ((A.fill [(.int .i64 0), (.int .i64 0), (.int .i64 0)] [(0, 1, a1), (1, 1, a2)]).map .agg) fun t38 =>
  callF env n _ 51 [t35, t38, (.fn (.func 52) [] [])] H16 fun t39 H17 =>
  extractK t39 0 fun t40 =>
  extractK t39 1 fun t41 =>
  withV (A.nilCheck a0 H17) fun t44 =>
  withV (A.fa 0 t44 H17) fun t45 =>
  withV (A.load false 1 t45 H17) fun t46 =>
  withV ((A.fill [(.int .i64 0), (.int .i64 0), (.int .i64 0)] [(0, 1, a1), (1, 1, a2), (2, 1, a3)]).map .agg) fun t51 =>
  withL (A.fillElems 3 (List.replicate 1 (.agg [(.int .i64 0), (.int .i64 0), (.int .i64 0)])) [(0, 1, t51)]) fun es =>
  bindV (.sl H17.length 0 0 es.length es.length) fun t52 => bindH (H17 ++ [.row 0 3 56 es]) fun H18 =>
  callF env n _ 55 [t46, t40, t52] H18 fun t53 H19 =>
  withV (A.nilCheck a0 H19) fun t54 =>
  withV (A.fa 0 t54 H19) fun t55 =>
  withH (A.store 1 t55 t53 H19) fun H20 =>
  k (.bool true) H20)) := by kernel_rfl
theorem L36_0_step (n m : Nat) (t0 t1 t5 : AV) (H : Heap) : L36_0 n (m + 1) ⟨[t0, t1, t5], []⟩ H =
  (withV (A.nilCheck t0 H) fun t11 =>
  withV (A.fa 0 t11 H) fun t12 =>
  withV (A.load false 1 t12 H) fun t13 =>
  withV (A.len t13 H) fun t14 =>
  withV (A.bin env.P .lss 3 t5 t14 false H) fun t15 =>
  withB (A.asB t15) fun b8 => withP (guardB b8 true (
   some (t0, H))
   (some (.undef, H))) fun t17 H2 =>
  withB (A.asB t15) fun b9 => withP (guardB b9 true (
   withV (A.nilCheck t17 H2) fun t18 =>
   some (t18, H2))
   (some (.undef, H2))) fun t18 H3 =>
  withB (A.asB t15) fun b10 => withP (guardB b10 true (
   withV (A.fa 0 t18 H3) fun t19 =>
   some (t19, H3))
   (some (.undef, H3))) fun t19 H4 =>
  withB (A.asB t15) fun b11 => withP (guardB b11 true (
   withV (A.load false 1 t19 H4) fun t20 =>
   some (t20, H4))
   (some (.undef, H4))) fun t20 H5 =>
  withB (A.asB t15) fun b12 => withP (guardB b12 true (
   some (t5, H5))
   (some (.undef, H5))) fun t21 H6 =>
  withB (A.asB t15) fun b13 => withP (guardB b13 true (
   withV (A.idx 3 t20 t21 H6) fun t22 =>
   some (t22, H6))
   (some (.undef, H6))) fun t22 H7 =>
  withB (A.asB t15) fun b14 => withP (guardB b14 true (
   withV (A.fa 1 t22 H7) fun t23 =>
   some (t23, H7))
   (some (.undef, H7))) fun t23 H8 =>
  withB (A.asB t15) fun b15 => withP (guardB b15 true (
   withV (A.load false 1 t23 H8) fun t24 =>
   some (t24, H8))
   (some (.undef, H8))) fun t24 H9 =>
  withB (A.asB t15) fun b16 => withP (guardB b16 true (
   some (t1, H9))
   (some (.undef, H9))) fun t25 H10 =>
  withB (A.asB t15) fun b17 => withP (guardB b17 true (
   withV (A.bin env.P .leq 3 t24 t25 false H10) fun t26 =>
   some (t26, H10))
   (some (.undef, H10))) fun t26 H11 =>
  withV (A.pick t15 t26 (.bool false)) fun t27 =>
  A.test t27 (
  withV (A.bin env.P .add 3 t5 (.int .i64 1) true H11) fun t29 =>
  L36_0 n m ⟨[t0, t1, t29], []⟩ H11)
  (
  some (0, ⟨[t0, t5], []⟩, H11))) := by kernel_rfl
/-- (*tenement/wheel.Wheel[int]).Due -/
theorem S36 (n : Nat) (R : Type) (k : AV → Heap → Option R) (a0 a1 : AV) (H : Heap) : callF env (n + 1) R 36 [a0, a1] H k =
  (withV (A.bin env.P .eql 49 a0 .nilp true H) fun t8 =>
  A.test t8 (
  k .nils H)
  (
  bindX (L36_0 n n ⟨[a0, a1, (.int .i64 0)], []⟩ H) fun i1 l1 H1 =>
  altN i1 0 (
  bindV (l1.vs.getD 0 .undef) fun t0 => bindV (l1.vs.getD 1 .undef) fun t5 => 
  withV (A.nilCheck t0 H1) fun t31 =>
  withV (A.fa 0 t31 H1) fun t32 =>
  withV (A.load false 1 t32 H1) fun t33 =>
  withV (A.slice 3 t33 none (some t5) none H1) fun t35 =>
  callF env n _ 56 [t35] H1 fun t36 H2 =>
  withV (A.nilCheck t0 H2) fun t39 =>
  withV (A.fa 0 t39 H2) fun t40 =>
  withV (A.load false 1 t40 H2) fun t41 =>
  callF env n _ 57 [t41, (.int .i64 0), t5] H2 fun t43 H3 =>
  withV (A.nilCheck t0 H3) fun t44 =>
  withV (A.fa 0 t44 H3) fun t45 =>
  withH (A.store 1 t45 t43 H3) fun H4 =>
  k t36 H4)
  (none))) := by kernel_rfl
/-- (*tenement/wheel.Wheel[int]).Len -/
theorem S37 (n : Nat) (R : Type) (k : AV → Heap → Option R) (a0 : AV) (H : Heap) : callF env (n + 1) R 37 [a0] H k =
  (withV (A.bin env.P .eql 49 a0 .nilp true H) fun t4 =>
  A.test t4 (
  k (.int .i64 0) H)
  (
  withV (A.nilCheck a0 H) fun t6 =>
  withV (A.fa 0 t6 H) fun t7 =>
  withV (A.load false 1 t7 H) fun t8 =>
  withV (A.len t8 H) fun t9 =>
  k t9 H)) := by kernel_rfl
/-- (*tenement/wheel.Wheel[int]).Cancel -/
theorem S39 (n : Nat) (R : Type) (k : AV → Heap → Option R) (a0 a1 : AV) (H : Heap) : callF env (n + 1) R 39 [a0, a1] H k =
  (callF env n _ 50 [a0, a1] H fun t8 H1 =>
  withV (A.bin env.P .lss 3 t8 (.int .i64 0) true H1) fun t10 =>
  A.test t10 (
  k (.bool false) H1)
  (
  withV (A.nilCheck a0 H1) fun t13 =>
  withV (A.fa 0 t13 H1) fun t14 =>
  withV (A.load false 1 t14 H1) fun t15 =>
  withV (A.bin env.P .add 3 t8 (.int .i64 1) true H1) fun t18 =>
  callF env n _ 57 [t15, t8, t18] H1 fun t19 H2 =>
  withV (A.nilCheck a0 H2) fun t20 =>
  withV (A.fa 0 t20 H2) fun t21 =>
  withH (A.store 1 t21 t19 H2) fun H3 =>
  k (.bool true) H3)) := by kernel_rfl
theorem L40_0_step (n m : Nat) (t0 t1 t5 : AV) (H : Heap) : L40_0 n (m + 1) ⟨[t0, t1, t5], []⟩ H =
  (withV (A.nilCheck t0 H) fun t8 =>
  withV (A.fa 0 t8 H) fun t9 =>
  withV (A.load false 1 t9 H) fun t10 =>
  withV (A.len t10 H) fun t11 =>
  withV (A.bin env.P .lss 3 t5 t11 false H) fun t12 =>
  A.test t12 (
  withV (A.nilCheck t0 H) fun t16 =>
  withV (A.fa 0 t16 H) fun t17 =>
  withV (A.load false 1 t17 H) fun t18 =>
  withV (A.idx 3 t18 t5 H) fun t20 =>
  withV (A.fa 0 t20 H) fun t21 =>
  withV (A.load false 1 t21 H) fun t22 =>
  withV (A.bin env.P .eql 3 t22 t1 false H) fun t24 =>
  A.test t24 (
  withV (A.nilCheck t0 H) fun t27 =>
   withV (A.fa 0 t27 H) fun t28 =>
   withV (A.load false 1 t28 H) fun t29 =>
   withV (A.slice 3 t29 none (some t5) none H) fun t31 =>
   withL (newsOf env 3 60 t31 H) fun es =>
   withVH (A.append 3 24 68 .nils es H) fun t32 H2 =>
   withV (A.nilCheck t0 H2) fun t34 =>
   withV (A.fa 0 t34 H2) fun t35 =>
   withV (A.load false 1 t35 H2) fun t36 =>
   withV (A.bin env.P .add 3 t5 (.int .i64 1) true H2) fun t38 =>
   withV (A.slice 3 t36 (some t38) none none H2) fun t39 =>
   withL (newsOf env 3 60 t39 H2) fun es =>
   withVH (A.append 3 24 68 t32 es H2) fun t40 H3 =>
   withV (A.nilCheck t0 H3) fun t41 =>
   withV (A.fa 0 t41 H3) fun t42 =>
   withH (A.store 1 t42 t40 H3) fun H4 =>
   chkD ((bif (t0.heapy || false) then (sameV (withV (A.nilCheck t0 H) fun t34 =>     some (.val t34)) t34 && (sameV (withV (A.nilCheck t0 H2) fun t34 =>     some (.val t34)) t34 && true)) else true) && ((bif (t34.heapy || false) then (sameV (withV (A.fa 0 t34 H) fun t35 =>     some (.val t35)) t35 && (sameV (withV (A.fa 0 t34 H2) fun t35 =>     some (.val t35)) t35 && true)) else true) && ((bif (t35.heapy || false) then (sameV (withV (A.load false 1 t35 H) fun t36 =>     some (.val t36)) t36 && (sameV (withV (A.load false 1 t35 H2) fun t36 =>     some (.val t36)) t36 && true)) else true) && ((bif (t5.heapy || (false || false)) then (sameV (withV (A.bin env.P .add 3 t5 (.int .i64 1) true H) fun t38 =>     some (.val t38)) t38 && (sameV (withV (A.bin env.P .add 3 t5 (.int .i64 1) true H2) fun t38 =>     some (.val t38)) t38 && true)) else true) && ((bif (t36.heapy || (t38.heapy || false)) then (sameV (withV (A.slice 3 t36 (some t38) none none H) fun t39 =>     some (.val t39)) t39 && (sameV (withV (A.slice 3 t36 (some t38) none none H2) fun t39 =>     some (.val t39)) t39 && true)) else true) && true))))) (
   some (1, ⟨[(.bool true)], []⟩, H4)))
  (
  withV (A.bin env.P .add 3 t5 (.int .i64 1) true H) fun t14 =>
  L40_0 n m ⟨[t0, t1, t14], []⟩ H))
  (
  some (0, ⟨[.undef], []⟩, H))) := by kernel_rfl
/-- (*tenement/tenementref20.Wheel).Cancel -/
theorem S40 (n : Nat) (R : Type) (k : AV → Heap → Option R) (a0 a1 : AV) (H : Heap) : callF env (n + 1) R 40 [a0, a1] H k =
  (bindX (L40_0 n n ⟨[a0, a1, (.int .i64 0)], []⟩ H) fun i1 l1 H1 =>
  altN i1 0 (
  bindV (l1.vs.getD 0 .undef) fun t4 => 
  k (.bool false) H1)
  (altN i1 1 (
  bindV (l1.vs.getD 0 .undef) fun t4 => 
  k t4 H1)
  (none))) := by kernel_rfl
theorem L41_0_step (n m : Nat) (t0 t1 t5 : AV) (H : Heap) : L41_0 n (m + 1) ⟨[t0, t1, t5], []⟩ H =
  (withV (A.len t0 H) fun t13 =>
  withV (A.bin env.P .lss 3 t5 t13 false H) fun t14 =>
  A.test t14 (
  withV (A.idx 3 t0 t5 H) fun t19 =>
  withV (A.load true 3 t19 H) fun t20 =>
  withV (A.idx 3 t1 t5 H) fun t23 =>
  withV (A.load true 3 t23 H) fun t24 =>
  withV (A.bin env.P .neq 68 t20 t24 false H) fun t25 =>
  A.test t25 (
  some (1, ⟨[(.bool false)], []⟩, H))
  (
  withV (A.bin env.P .add 3 t5 (.int .i64 1) true H) fun t16 =>
  L41_0 n m ⟨[t0, t1, t16], []⟩ H))
  (
  some (0, ⟨[.undef], []⟩, H))) := by kernel_rfl
/-- tenement/tenementref20.SameTimers -/
theorem S41 (n : Nat) (R : Type) (k : AV → Heap → Option R) (a0 a1 : AV) (H : Heap) : callF env (n + 1) R 41 [a0, a1] H k =
  (withV (A.len a0 H) fun t7 =>
  withV (A.len a1 H) fun t9 =>
  withV (A.bin env.P .neq 3 t7 t9 false H) fun t10 =>
  A.test t10 (
  k (.bool false) H)
  (
  bindX (L41_0 n n ⟨[a0, a1, (.int .i64 0)], []⟩ H) fun i3 l3 H3 =>
  altN i3 0 (
  bindV (l3.vs.getD 0 .undef) fun t4 => 
  k (.bool true) H3)
  (altN i3 1 (
  bindV (l3.vs.getD 0 .undef) fun t4 => 
  k t4 H3)
  (none)))) := by kernel_rfl
theorem L42_0_step (n m : Nat) (t0 t3 t4 : AV) (H : Heap) : L42_0 n (m + 1) ⟨[t0, t3, t4], []⟩ H =
  (withV (A.len t0 H) fun t7 =>
  withV (A.bin env.P .lss 3 t4 t7 false H) fun t8 =>
  A.test t8 (
  withV (A.idx 3 t0 t4 H) fun t14 =>
  withV (A.fa 0 t14 H) fun t15 =>
  withV (A.load false 1 t15 H) fun t16 =>
  withV (A.idx 3 t0 t4 H) fun t19 =>
  withV (A.fa 1 t19 H) fun t20 =>
  withV (A.load false 1 t20 H) fun t21 =>
  withV (A.idx 3 t0 t4 H) fun t24 =>
  withV (A.fa 2 t24 H) fun t25 =>
  withV (A.load false 1 t25 H) fun t26 =>
  withV ((A.fill [(.int .i64 0), (.int .i64 0), (.int .i64 0)] [(0, 1, t16), (1, 1, t21), (2, 1, t26)]).map .agg) fun t27 =>
  withL (A.fillElems 3 (List.replicate 1 (.agg [(.int .i64 0), (.int .i64 0), (.int .i64 0)])) [(0, 1, t27)]) fun es =>
  bindV (.sl H.length 0 0 es.length es.length) fun t28 => bindH (H ++ [.row 0 3 68 es]) fun H2 =>
  withL (newsOf env 3 60 t28 H2) fun es =>
  withVH (A.append 3 24 68 t3 es H2) fun t29 H3 =>
  withV (A.bin env.P .add 3 t4 (.int .i64 1) true H3) fun t10 =>
  L42_0 n m ⟨[t0, t29, t10], []⟩ H3)
  (
  some (0, ⟨[t3], []⟩, H))) := by kernel_rfl
/-- tenement/tenementlaw23.timers -/
theorem S42 (n : Nat) (R : Type) (k : AV → Heap → Option R) (a0 : AV) (H : Heap) : callF env (n + 1) R 42 [a0] H k =
  (bindX (L42_0 n n ⟨[a0, .nils, (.int .i64 0)], []⟩ H) fun i1 l1 H1 =>
  altN i1 0 (
  bindV (l1.vs.getD 0 .undef) fun t3 => 
  k t3 H1)
  (none)) := by kernel_rfl
theorem L43_0_step (n m : Nat) (t0 t1 t5 : AV) (H : Heap) : L43_0 n (m + 1) ⟨[t0, t1, t5], []⟩ H =
  (withV (A.nilCheck t0 H) fun t9 =>
  withV (A.fa 0 t9 H) fun t10 =>
  withV (A.load false 1 t10 H) fun t11 =>
  withV (A.len t11 H) fun t12 =>
  withV (A.bin env.P .lss 3 t5 t12 false H) fun t13 =>
  withB (A.asB t13) fun b8 => withP (guardB b8 true (
   some (t0, H))
   (some (.undef, H))) fun t15 H2 =>
  withB (A.asB t13) fun b9 => withP (guardB b9 true (
   withV (A.nilCheck t15 H2) fun t16 =>
   some (t16, H2))
   (some (.undef, H2))) fun t16 H3 =>
  withB (A.asB t13) fun b10 => withP (guardB b10 true (
   withV (A.fa 0 t16 H3) fun t17 =>
   some (t17, H3))
   (some (.undef, H3))) fun t17 H4 =>
  withB (A.asB t13) fun b11 => withP (guardB b11 true (
   withV (A.load false 1 t17 H4) fun t18 =>
   some (t18, H4))
   (some (.undef, H4))) fun t18 H5 =>
  withB (A.asB t13) fun b12 => withP (guardB b12 true (
   some (t5, H5))
   (some (.undef, H5))) fun t19 H6 =>
  withB (A.asB t13) fun b13 => withP (guardB b13 true (
   withV (A.idx 3 t18 t19 H6) fun t20 =>
   some (t20, H6))
   (some (.undef, H6))) fun t20 H7 =>
  withB (A.asB t13) fun b14 => withP (guardB b14 true (
   withV (A.fa 1 t20 H7) fun t21 =>
   some (t21, H7))
   (some (.undef, H7))) fun t21 H8 =>
  withB (A.asB t13) fun b15 => withP (guardB b15 true (
   withV (A.load false 1 t21 H8) fun t22 =>
   some (t22, H8))
   (some (.undef, H8))) fun t22 H9 =>
  withB (A.asB t13) fun b16 => withP (guardB b16 true (
   some (t1, H9))
   (some (.undef, H9))) fun t23 H10 =>
  withB (A.asB t13) fun b17 => withP (guardB b17 true (
   withV (A.bin env.P .leq 3 t22 t23 false H10) fun t24 =>
   some (t24, H10))
   (some (.undef, H10))) fun t24 H11 =>
  withV (A.pick t13 t24 (.bool false)) fun t25 =>
  A.test t25 (
  withV (A.bin env.P .add 3 t5 (.int .i64 1) true H11) fun t27 =>
  L43_0 n m ⟨[t0, t1, t27], []⟩ H11)
  (
  some (0, ⟨[t0, t5], []⟩, H11))) := by kernel_rfl
/-- (*tenement/tenementref20.Wheel).Due -/
theorem S43 (n : Nat) (R : Type) (k : AV → Heap → Option R) (a0 a1 : AV) (H : Heap) : callF env (n + 1) R 43 [a0, a1] H k =
  (bindX (L43_0 n n ⟨[a0, a1, (.int .i64 0)], []⟩ H) fun i1 l1 H1 =>
  altN i1 0 (
  bindV (l1.vs.getD 0 .undef) fun t0 => bindV (l1.vs.getD 1 .undef) fun t5 => 
  withV (A.nilCheck t0 H1) fun t29 =>
  withV (A.fa 0 t29 H1) fun t30 =>
  withV (A.load false 1 t30 H1) fun t31 =>
  withV (A.slice 3 t31 none (some t5) none H1) fun t33 =>
  withL (newsOf env 3 60 t33 H1) fun es =>
  withVH (A.append 3 24 68 .nils es H1) fun t34 H2 =>
  withV (A.nilCheck t0 H2) fun t37 =>
  withV (A.fa 0 t37 H2) fun t38 =>
  withV (A.load false 1 t38 H2) fun t39 =>
  withV (A.slice 3 t39 (some t5) none none H2) fun t41 =>
  withL (newsOf env 3 60 t41 H2) fun es =>
  withVH (A.append 3 24 68 .nils es H2) fun t42 H3 =>
  withV (A.nilCheck t0 H3) fun t43 =>
  withV (A.fa 0 t43 H3) fun t44 =>
  withH (A.store 1 t44 t42 H3) fun H4 =>
  k t34 H4)
  (none)) := by kernel_rfl
theorem L44_0_step (n m : Nat) (t0 t19 t20 t21 : AV) (H : Heap) : L44_0 n (m + 1) ⟨[t0, t19, t20, t21], []⟩ H =
  (withV (A.bin env.P .lss 3 t21 t20 false H) fun t22 =>
  A.test t22 (
  withV (A.idx 1 t19 t21 H) fun t24 =>
  withV (A.load false 1 t24 H) fun t25 =>
  withV (A.nilCheck t0 H) fun t27 =>
  withV (A.fa 0 t27 H) fun t28 =>
  withV (A.load false 1 t28 H) fun t29 =>
  withV (A.idx 3 t29 t21 H) fun t32 =>
  withV (A.fa 2 t32 H) fun t33 =>
  withH (A.store 1 t33 t25 H) fun H1 =>
  withV (A.bin env.P .add 3 t21 (.int .i64 1) true H1) fun t34 =>
  L44_0 n m ⟨[t0, t19, t20, t34], []⟩ H1)
  (
  some (0, ⟨[], []⟩, H))) := by kernel_rfl
/-- (*tenement/wheel.Wheel[int]).Set -/
theorem S44 (n : Nat) (R : Type) (k : AV → Heap → Option R) (a0 a1 : AV) (H : Heap) : callF env (n + 1) R 44 [a0, a1] H k =
  (withV (A.bin env.P .eql 49 a0 .nilp true H) fun t8 =>
  withB (A.asB t8) fun b3 => withP (guardB b3 false (
   some (a1, H))
   (some (.undef, H))) fun t10 H1 =>
  withB (A.asB t8) fun b4 => withP (guardB b4 false (
   withV (A.len t10 H1) fun t11 =>
   some (t11, H1))
   (some (.undef, H1))) fun t11 H3 =>
  withB (A.asB t8) fun b5 => withP (guardB b5 false (
   some (a0, H3))
   (some (.undef, H3))) fun t12 H4 =>
  withB (A.asB t8) fun b6 => withP (guardB b6 false (
   withV (A.nilCheck t12 H4) fun t13 =>
   some (t13, H4))
   (some (.undef, H4))) fun t13 H5 =>
  withB (A.asB t8) fun b7 => withP (guardB b7 false (
   withV (A.fa 0 t13 H5) fun t14 =>
   some (t14, H5))
   (some (.undef, H5))) fun t14 H6 =>
  withB (A.asB t8) fun b8 => withP (guardB b8 false (
   withV (A.load false 1 t14 H6) fun t15 =>
   some (t15, H6))
   (some (.undef, H6))) fun t15 H7 =>
  withB (A.asB t8) fun b9 => withP (guardB b9 false (
   withV (A.len t15 H7) fun t16 =>
   some (t16, H7))
   (some (.undef, H7))) fun t16 H9 =>
  withB (A.asB t8) fun b10 => withP (guardB b10 false (
   withV (A.bin env.P .neq 3 t11 t16 false H9) fun t17 =>
   some (t17, H9))
   (some (.undef, H9))) fun t17 H10 =>
  withV (A.pick t8 (.bool true) t17) fun t18 =>
  A.test t18 (
  k (.bool false) H10)
  (
  withV (A.len a1 H10) fun t20 =>
  bindX (L44_0 n n ⟨[a0, a1, t20, (.int .i64 0)], []⟩ H10) fun i12 l12 H12 =>
  altN i12 0 (
  k (.bool true) H12)
  (none))) := by kernel_rfl
/-- (*tenement/wheel.Wheel[int]).Next -/
theorem S45 (n : Nat) (R : Type) (k : AV → Heap → Option R) (a0 : AV) (H : Heap) : callF env (n + 1) R 45 [a0] H k =
  (callF env n _ 37 [a0] H fun t5 H1 =>
  withV (A.bin env.P .eql 3 t5 (.int .i64 0) true H1) fun t6 =>
  A.test t6 (
  k (.tup [(.int .i64 0), (.bool false)]) H1)
  (
  withV (A.nilCheck a0 H1) fun t8 =>
  withV (A.fa 0 t8 H1) fun t9 =>
  withV (A.load false 1 t9 H1) fun t10 =>
  withV (A.idx 3 t10 (.int .i64 0) H1) fun t11 =>
  withV (A.fa 1 t11 H1) fun t12 =>
  withV (A.load false 1 t12 H1) fun t13 =>
  k (.tup [t13, (.bool true)]) H1)) := by kernel_rfl
/-- (*tenement/wheel.Wheel[int]).All -/
theorem S46 (n : Nat) (R : Type) (k : AV → Heap → Option R) (a0 : AV) (H : Heap) : callF env (n + 1) R 46 [a0] H k =
  (withV (A.bin env.P .eql 49 a0 .nilp true H) fun t4 =>
  A.test t4 (
  k .nils H)
  (
  withV (A.nilCheck a0 H) fun t6 =>
  withV (A.fa 0 t6 H) fun t7 =>
  withV (A.load false 1 t7 H) fun t8 =>
  callF env n _ 56 [t8] H fun t9 H1 =>
  k t9 H1)) := by kernel_rfl
/-- slices.Delete[[]string,string] -/
theorem S47 (n : Nat) (R : Type) (k : AV → Heap → Option R) (a0 a1 a2 : AV) (H : Heap) : callF env (n + 1) R 47 [a0, a1, a2] H k =
  (withV (A.len a0 H) fun t12 =>
  withV (A.slice 1 a0 (some a1) (some a2) (some t12) H) fun t13 =>
  withV (A.bin env.P .eql 3 a1 a2 false H) fun t16 =>
  A.test t16 (
  k a0 H)
  (
  withV (A.len a0 H) fun t19 =>
  withV (A.slice 1 a0 none (some a1) none H) fun t22 =>
  withV (A.slice 1 a0 (some a2) none none H) fun t25 =>
  withL (newsOf env 1 71 t25 H) fun es =>
  withVH (A.append 1 16 9 t22 es H) fun t26 H3 =>
  withV (A.len t26 H3) fun t29 =>
  withV (A.slice 1 t26 (some t29) (some t19) none H3) fun t31 =>
  withVH (A.clear 1 (.str []) t31 H3) fun _t H5 =>
  k t26 H5)) := by kernel_rfl
/-- slices.Delete[[]int,int] -/
theorem S48 (n : Nat) (R : Type) (k : AV → Heap → Option R) (a0 a1 a2 : AV) (H : Heap) : callF env (n + 1) R 48 [a0, a1, a2] H k =
  (withV (A.len a0 H) fun t12 =>
  withV (A.slice 1 a0 (some a1) (some a2) (some t12) H) fun t13 =>
  withV (A.bin env.P .eql 3 a1 a2 false H) fun t16 =>
  A.test t16 (
  k a0 H)
  (
  withV (A.len a0 H) fun t19 =>
  withV (A.slice 1 a0 none (some a1) none H) fun t22 =>
  withV (A.slice 1 a0 (some a2) none none H) fun t25 =>
  withL (newsOf env 1 33 t25 H) fun es =>
  withVH (A.append 1 8 3 t22 es H) fun t26 H3 =>
  withV (A.len t26 H3) fun t29 =>
  withV (A.slice 1 t26 (some t29) (some t19) none H3) fun t31 =>
  withVH (A.clear 1 (.int .i64 0) t31 H3) fun _t H5 =>
  k t26 H5)) := by kernel_rfl
/-- slices.Clone[[]int,int] -/
theorem S49 (n : Nat) (R : Type) (k : AV → Heap → Option R) (a0 : AV) (H : Heap) : callF env (n + 1) R 49 [a0] H k =
  (withV (A.bin env.P .eql 33 a0 .nils true H) fun t4 =>
  A.test t4 (
  k .nils H)
  (
  withL (A.fillElems 1 (List.replicate 0 (.int .i64 0)) []) fun es =>
  bindV (.sl H.length 0 0 es.length es.length) fun t5 => bindH (H ++ [.row 0 1 3 es]) fun H1 =>
  withL (newsOf env 1 33 a0 H1) fun es =>
  withVH (A.append 1 8 3 t5 es H1) fun t7 H2 =>
  k t7 H2)) := by kernel_rfl
/-- (*tenement/wheel.Wheel[int]).find -/
theorem S50 (n : Nat) (R : Type) (k : AV → Heap → Option R) (a0 a1 : AV) (H : Heap) : callF env (n + 1) R 50 [a0, a1] H k =
  (chkD ((a1).cells.length == 1 && (a1).isDef && decide (0 < 1)) (bindV (.ptr H.length 0 0 0) fun t3 => bindH (H ++ [.row 0 1 3 [a1]]) fun H1 =>
  withV (A.bin env.P .eql 49 a0 .nilp true H1) fun t6 =>
  A.test t6 (
  k (.int .i64 (-1)) H1)
  (
  withV (A.nilCheck a0 H1) fun t8 =>
  withV (A.fa 0 t8 H1) fun t9 =>
  withV (A.load false 1 t9 H1) fun t10 =>
  bindV (.fn (.func 59) [] [t3]) fun t11 =>
  callF env n _ 58 [t10, t11] H1 fun t12 H2 =>
  k t12 H2))) := by kernel_rfl
theorem L51_0_step (n m : Nat) (t0 t2 t8 t9 t10 : AV) (c0 : List AV) (H : Heap) : L51_0 n (m + 1) ⟨[t0, t2, t8, t9, t10], [c0]⟩ H =
  (withV (A.bin env.P .lss 3 t9 t10 false H) fun t17 =>
  A.test t17 (
  withV (A.bin env.P .add 3 t9 t10 false H) fun t20 =>
  withV (Go.Den.convert env 3 91 t20) fun t21 =>
  withV (A.bin env.P .shr 91 t21 (.int .u64 1) true H) fun t22 =>
  withV (Go.Den.convert env 91 3 t22) fun t23 =>
  withV (A.idx 3 t0 t23 H) fun t27 =>
  withV (A.load true 3 t27 H) fun t28 =>
  withV (A.ofList true 3 c0 0) fun t29 =>
  callV env (callF env n) t2 [t28, t29] H fun t30 H1 =>
  withV (A.bin env.P .lss 3 t30 (.int .i64 0) true H1) fun t31 =>
  bindX (A.test t31 (
   withV (A.bin env.P .add 3 t23 (.int .i64 1) true H1) fun t33 =>
    some (0, ⟨[t0, t2, t8, t33, t10], [c0]⟩, H1))
   (
   some (0, ⟨[t0, t2, t8, t9, t23], [c0]⟩, H1))) fun i2 l2 H2 =>
  altN i2 0 (
  bindV (l2.vs.getD 0 .undef) fun t0 => bindV (l2.vs.getD 1 .undef) fun t2 => bindV (l2.vs.getD 2 .undef) fun t8 => bindV (l2.vs.getD 3 .undef) fun t9 => bindV (l2.vs.getD 4 .undef) fun t10 => bindC (l2.cs.getD 0 []) fun c0 => 
  L51_0 n m ⟨[t0, t2, t8, t9, t10], [c0]⟩ H2)
  (none))
  (
  some (0, ⟨[t0, t2, t8, t9], [c0]⟩, H))) := by kernel_rfl
/-- slices.BinarySearchFunc[[]tenement/wheel.Timer[int],tenement/wheel.Timer[int],tenement/wheel.Timer[int]] -/
theorem S51 (n : Nat) (R : Type) (k : AV → Heap → Option R) (a0 a1 a2 : AV) (H : Heap) : callF env (n + 1) R 51 [a0, a1, a2] H k =
  (chkD ((a1).cells.length == 3 && (a1).isDef && decide (0 < 3)) (bindC (a1).cells fun c0 =>
  withV (A.len a0 H) fun t13 =>
  bindX (L51_0 n n ⟨[a0, a2, t13, (.int .i64 0), t13], [c0]⟩ H) fun i2 l2 H2 =>
  altN i2 0 (
  bindV (l2.vs.getD 0 .undef) fun t0 => bindV (l2.vs.getD 1 .undef) fun t2 => bindV (l2.vs.getD 2 .undef) fun t8 => bindV (l2.vs.getD 3 .undef) fun t9 => bindC (l2.cs.getD 0 []) fun c0 => 
  withV (A.bin env.P .lss 3 t9 t8 false H2) fun t38 =>
  withB (A.asB t38) fun b5 => withP (guardB b5 true (
   some (t2, H2))
   (some (.undef, H2))) fun t40 H3 =>
  withB (A.asB t38) fun b6 => withP (guardB b6 true (
   some (t0, H3))
   (some (.undef, H3))) fun t41 H4 =>
  withB (A.asB t38) fun b7 => withP (guardB b7 true (
   some (t9, H4))
   (some (.undef, H4))) fun t42 H5 =>
  withB (A.asB t38) fun b8 => withP (guardB b8 true (
   withV (A.idx 3 t41 t42 H5) fun t43 =>
   some (t43, H5))
   (some (.undef, H5))) fun t43 H6 =>
  withB (A.asB t38) fun b9 => withP (guardB b9 true (
   withV (A.load true 3 t43 H6) fun t44 =>
   some (t44, H6))
   (some (.undef, H6))) fun t44 H7 =>
  withB (A.asB t38) fun b10 => withP (guardB b10 true (
   withV (A.ofList true 3 c0 0) fun t45 =>
   some (t45, H7))
   (some (.undef, H7))) fun t45 H8 =>
  withB (A.asB t38) fun b11 => withP (guardB b11 true (
   callV env (callF env n) t40 [t44, t45] H8 fun t46 H9 =>
   some (t46, H9))
   (some (.undef, H8))) fun t46 H10 =>
  withB (A.asB t38) fun b12 => withP (guardB b12 true (
   withV (A.bin env.P .eql 3 t46 (.int .i64 0) true H10) fun t47 =>
   some (t47, H10))
   (some (.undef, H10))) fun t47 H11 =>
  withV (A.pick t38 t47 (.bool false)) fun t48 =>
  k (.tup [t9, t48]) H11)
  (none))) := by kernel_rfl
/-- (*tenement/wheel.Wheel[int]).Add$1 -/
theorem S52 (n : Nat) (R : Type) (k : AV → Heap → Option R) (a0 a1 : AV) (H : Heap) : callF env (n + 1) R 52 [a0, a1] H k =
  (chkD ((a0).cells.length == 3 && (a0).isDef && decide (0 < 3)) (bindC (a0).cells fun c0 =>
  chkD ((a1).cells.length == 3 && (a1).isDef && decide (0 < 3)) (bindC (a1).cells fun c1 =>
  withV (A.ofList false 1 c0 1) fun t6 =>
  withV (A.ofList false 1 c1 1) fun t8 =>
  callF env n _ 54 [t6, t8] H fun t9 H1 =>
  withV (A.ofList false 1 c0 0) fun t11 =>
  withV (A.ofList false 1 c1 0) fun t13 =>
  callF env n _ 54 [t11, t13] H1 fun t14 H2 =>
  withL (A.fillElems 1 (List.replicate 2 (.int .i64 0)) [(0, 1, t9), (1, 1, t14)]) fun es =>
  bindV (.sl H2.length 0 0 es.length es.length) fun t15 => bindH (H2 ++ [.row 0 1 3 es]) fun H3 =>
  callF env n _ 53 [t15] H3 fun t16 H4 =>
  k t16 H4))) := by kernel_rfl
theorem L53_0_step (n m : Nat) (t3 t6 t7 t8 : AV) (H : Heap) : L53_0 n (m + 1) ⟨[t3, t6, t7, t8], []⟩ H =
  (withV (A.bin env.P .lss 3 t8 t7 false H) fun t9 =>
  A.test t9 (
  withV (A.idx 1 t6 t8 H) fun t10 =>
  withV (A.load false 1 t10 H) fun t11 =>
  withV (A.bin env.P .neq 3 t11 t3 false H) fun t14 =>
  A.test t14 (
  some (1, ⟨[t11, t3], []⟩, H))
  (
  withV (A.bin env.P .add 3 t8 (.int .i64 1) true H) fun t16 =>
  L53_0 n m ⟨[t3, t6, t7, t16], []⟩ H))
  (
  some (0, ⟨[.undef, t3], []⟩, H))) := by kernel_rfl
/-- cmp.Or[int] -/
theorem S53 (n : Nat) (R : Type) (k : AV → Heap → Option R) (a0 : AV) (H : Heap) : callF env (n + 1) R 53 [a0] H k =
  (withV (A.len a0 H) fun t7 =>
  bindX (L53_0 n n ⟨[(.int .i64 0), a0, t7, (.int .i64 0)], []⟩ H) fun i2 l2 H2 =>
  altN i2 0 (
  bindV (l2.vs.getD 0 .undef) fun t2 => bindV (l2.vs.getD 1 .undef) fun t3 => 
  k t3 H2)
  (altN i2 1 (
  bindV (l2.vs.getD 0 .undef) fun t2 => bindV (l2.vs.getD 1 .undef) fun t3 => 
  k t2 H2)
  (none))) := by kernel_rfl
/-- cmp.Compare[int] -/
theorem S54 (n : Nat) (R : Type) (k : AV → Heap → Option R) (a0 a1 : AV) (H : Heap) : callF env (n + 1) R 54 [a0, a1] H k =
  (callF env n _ 60 [a0] H fun t8 H1 =>
  callF env n _ 60 [a1] H1 fun t10 H2 =>
  A.test t8 (
  A.test t10 (
   k (.int .i64 0) H2)
   (
   k (.int .i64 (-1)) H2))
  (
  A.test t10 (
  k (.int .i64 1) H2)
  (
  withV (A.bin env.P .lss 3 a0 a1 false H2) fun t16 =>
  A.test t16 (
  k (.int .i64 (-1)) H2)
  (
  withV (A.bin env.P .gtr 3 a0 a1 false H2) fun t19 =>
  A.test t19 (
  k (.int .i64 1) H2)
  (
  k (.int .i64 0) H2))))) := by kernel_rfl
/-- slices.Clone[[]tenement/wheel.Timer[int],tenement/wheel.Timer[int]] -/
theorem S56 (n : Nat) (R : Type) (k : AV → Heap → Option R) (a0 : AV) (H : Heap) : callF env (n + 1) R 56 [a0] H k =
  (withV (A.bin env.P .eql 53 a0 .nils true H) fun t4 =>
  A.test t4 (
  k .nils H)
  (
  withL (A.fillElems 3 (List.replicate 0 (.agg [(.int .i64 0), (.int .i64 0), (.int .i64 0)])) []) fun es =>
  bindV (.sl H.length 0 0 es.length es.length) fun t5 => bindH (H ++ [.row 0 3 56 es]) fun H1 =>
  withL (newsOf env 3 53 a0 H1) fun es =>
  withVH (A.append 3 24 56 t5 es H1) fun t7 H2 =>
  k t7 H2)) := by kernel_rfl
/-- slices.Delete[[]tenement/wheel.Timer[int],tenement/wheel.Timer[int]] -/
theorem S57 (n : Nat) (R : Type) (k : AV → Heap → Option R) (a0 a1 a2 : AV) (H : Heap) : callF env (n + 1) R 57 [a0, a1, a2] H k =
  (withV (A.len a0 H) fun t12 =>
  withV (A.slice 3 a0 (some a1) (some a2) (some t12) H) fun t13 =>
  withV (A.bin env.P .eql 3 a1 a2 false H) fun t16 =>
  A.test t16 (
  k a0 H)
  (
  withV (A.len a0 H) fun t19 =>
  withV (A.slice 3 a0 none (some a1) none H) fun t22 =>
  withV (A.slice 3 a0 (some a2) none none H) fun t25 =>
  withL (newsOf env 3 53 t25 H) fun es =>
  withVH (A.append 3 24 56 t22 es H) fun t26 H3 =>
  withV (A.len t26 H3) fun t29 =>
  withV (A.slice 3 t26 (some t29) (some t19) none H3) fun t31 =>
  withVH (A.clear 3 (.agg [(.int .i64 0), (.int .i64 0), (.int .i64 0)]) t31 H3) fun _t H5 =>
  k t26 H5)) := by kernel_rfl
theorem L58_0_step (n m : Nat) (t0 t1 t7 t8 : AV) (H : Heap) : L58_0 n (m + 1) ⟨[t0, t1, t7, t8], []⟩ H =
  (withV (A.bin env.P .lss 3 t8 t7 false H) fun t9 =>
  A.test t9 (
  withV (A.idx 3 t0 t8 H) fun t14 =>
  withV (A.load true 3 t14 H) fun t15 =>
  callV env (callF env n) t1 [t15] H fun t16 H1 =>
  A.test t16 (
  some (1, ⟨[t8], []⟩, H1))
  (
  withV (A.bin env.P .add 3 t8 (.int .i64 1) true H1) fun t18 =>
  L58_0 n m ⟨[t0, t1, t7, t18], []⟩ H1))
  (
  some (0, ⟨[.undef], []⟩, H))) := by kernel_rfl
/-- slices.IndexFunc[[]tenement/wheel.Timer[int],tenement/wheel.Timer[int]] -/
theorem S58 (n : Nat) (R : Type) (k : AV → Heap → Option R) (a0 a1 : AV) (H : Heap) : callF env (n + 1) R 58 [a0, a1] H k =
  (withV (A.len a0 H) fun t7 =>
  bindX (L58_0 n n ⟨[a0, a1, t7, (.int .i64 0)], []⟩ H) fun i2 l2 H2 =>
  altN i2 0 (
  bindV (l2.vs.getD 0 .undef) fun t4 => 
  k (.int .i64 (-1)) H2)
  (altN i2 1 (
  bindV (l2.vs.getD 0 .undef) fun t4 => 
  k t4 H2)
  (none))) := by kernel_rfl
/-- (*tenement/wheel.Wheel[int]).find$1 -/
theorem S59 (n : Nat) (R : Type) (k : AV → Heap → Option R) (a0 a1 : AV) (H : Heap) : callF env (n + 1) R 59 [a0, a1] H k =
  (chkD ((a0).cells.length == 3 && (a0).isDef && decide (0 < 3)) (bindC (a0).cells fun c0 =>
  withV (A.ofList false 1 c0 0) fun t5 =>
  withV (A.load false 1 a1 H) fun t6 =>
  withV (A.bin env.P .eql 3 t5 t6 false H) fun t7 =>
  k t7 H)) := by kernel_rfl
/-- cmp.isNaN[int] -/
theorem S60 (n : Nat) (R : Type) (k : AV → Heap → Option R) (a0 : AV) (H : Heap) : callF env (n + 1) R 60 [a0] H k =
  (withV (A.bin env.P .neq 3 a0 a0 false H) fun t5 =>
  k t5 H) := by kernel_rfl
/-- slices.rotateRight[tenement/wheel.Timer[int]] -/
theorem S62 (n : Nat) (R : Type) (k : AV → Heap → Option R) (a0 a1 : AV) (H : Heap) : callF env (n + 1) R 62 [a0, a1] H k =
  (withV (A.len a0 H) fun t6 =>
  withV (A.bin env.P .sub 3 t6 a1 false H) fun t8 =>
  callF env n _ 63 [a0, t8] H fun t9 H2 =>
  k (.tup []) H2) := by kernel_rfl
/-- slices.rotateLeft[tenement/wheel.Timer[int]] -/
theorem S63 (n : Nat) (R : Type) (k : AV → Heap → Option R) (a0 a1 : AV) (H : Heap) : callF env (n + 1) R 63 [a0, a1] H k =
  (withV (A.slice 3 a0 none (some a1) none H) fun t6 =>
  callF env n _ 64 [t6] H fun t7 H1 =>
  withV (A.slice 3 a0 (some a1) none none H1) fun t10 =>
  callF env n _ 64 [t10] H1 fun t11 H2 =>
  callF env n _ 64 [a0] H2 fun t13 H3 =>
  k (.tup []) H3) := by kernel_rfl
theorem L64_0_step (n m : Nat) (t0 t2 t3 : AV) (H : Heap) : L64_0 n (m + 1) ⟨[t0, t2, t3], []⟩ H =
  (withV (A.bin env.P .lss 3 t2 t3 false H) fun t9 =>
  A.test t9 (
  withV (A.idx 3 t0 t3 H) fun t20 =>
  withV (A.load true 3 t20 H) fun t21 =>
  withV (A.idx 3 t0 t2 H) fun t24 =>
  withV (A.load true 3 t24 H) fun t25 =>
  withV (A.idx 3 t0 t2 H) fun t26 =>
  withH (A.store 3 t26 t21 H) fun H1 =>
  withV (A.idx 3 t0 t3 H1) fun t27 =>
  withH (A.store 3 t27 t25 H1) fun H2 =>
  withV (A.bin env.P .add 3 t2 (.int .i64 1) true H2) fun t11 =>
  withV (A.bin env.P .sub 3 t3 (.int .i64 1) true H2) fun t13 =>
  L64_0 n m ⟨[t0, t11, t13], []⟩ H2)
  (
  some (0, ⟨[], []⟩, H))) := by kernel_rfl
/-- slices.Reverse[[]tenement/wheel.Timer[int],tenement/wheel.Timer[int]] -/
theorem S64 (n : Nat) (R : Type) (k : AV → Heap → Option R) (a0 : AV) (H : Heap) : callF env (n + 1) R 64 [a0] H k =
  (withV (A.len a0 H) fun t5 =>
  withV (A.bin env.P .sub 3 t5 (.int .i64 1) true H) fun t6 =>
  bindX (L64_0 n n ⟨[a0, (.int .i64 0), t6], []⟩ H) fun i2 l2 H2 =>
  altN i2 0 (
  k (.tup []) H2)
  (none)) := by kernel_rfl
end Go.Proofs.Ytmeimiflflilpaa
