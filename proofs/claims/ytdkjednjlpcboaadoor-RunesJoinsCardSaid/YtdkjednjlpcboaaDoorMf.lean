/- Texts put together: Sa, BgO, Sb0, Sb1, Sb2, Sb3, Sb4, Sb5, Sb, U1, U2, U3, U4, U5, U6, U7, U8, AwakeR. -/
import Derived.Test.YtdkjednjlpcboaaDoorMe
import Derived.Test.YtdkjednjlpcboaaDoorProg
import Derived.KernelRfl
import Derived.Test.YtdkjednjlpcboaaDoorRows

/- The seat's environment: what is said of each function's loops and own variables. -/
set_option maxRecDepth 100000
namespace Go.Proofs.YtdkjednjlpcboaaDoor
open Go Go.Den
def kh3_0 : LK := ⟨7, [0, 1, 5, 6, 34], [], []⟩
def kx3_0 : LK := ⟨7, [0, 1, 4, 5, 6], [], []⟩
def o3_0 : List AExit := [.exit 0, .ret]
def A3_0 : Ann := .nil
def fa3 : FAnn := { ann := (.two .nil (.two .nil (.two .nil (.two .nil (.two (.two .nil (.one (.keep kx3_0 o3_0 (.lp kh3_0 A3_0)))) .nil))))), depth := 7, sites := [], draws := [] }
def fa4 : FAnn := { ann := .nil, depth := 7, sites := [], draws := [] }
def fa5 : FAnn := { ann := .nil, depth := 7, sites := [], draws := [] }
def fa6 : FAnn := { ann := .nil, depth := 6, sites := [], draws := [] }
def fa7 : FAnn := { ann := .nil, depth := 7, sites := [], draws := [] }
def fa9 : FAnn := { ann := .nil, depth := 4, sites := [], draws := [] }
def fa10 : FAnn := { ann := .nil, depth := 3, sites := [], draws := [] }
def kh11_0 : LK := ⟨6, [3, 14], [], []⟩
def kx11_0 : LK := ⟨6, [3], [], []⟩
def o11_0 : List AExit := [.exit 0]
def A11_0 : Ann := (.two .nil (.two .nil (.one (.two .nil (.one (.two .nil (.keep ⟨6, [3, 14], [], []⟩ [.normal] (.two .nil (.two .nil (.keep ⟨6, [3, 14], [], []⟩ [.normal] (.two .nil (.two .nil (.keep ⟨6, [3, 14], [], []⟩ [.normal] .nil)))))))))))))
def fa11 : FAnn := { ann := (.two .nil (.two .nil (.two .nil (.two .nil (.two .nil (.two (.two .nil (.one (.keep kx11_0 o11_0 (.lp kh11_0 A11_0)))) .nil)))))), depth := 6, sites := [], draws := [] }
def fa12 : FAnn := { ann := .nil, depth := 3, sites := [], draws := [] }
def fa13 : FAnn := { ann := .nil, depth := 5, sites := [], draws := [] }
def kh14_0 : LK := ⟨6, [0, 1], [], []⟩
def kx14_0 : LK := ⟨6, [4], [], []⟩
def o14_0 : List AExit := [.ret]
def A14_0 : Ann := .nil
def fa14 : FAnn := { ann := (.two .nil (.two .nil (.one (.keep kx14_0 o14_0 (.lp kh14_0 A14_0))))), depth := 6, sites := [], draws := [(9, ⟨[0, 0, 3, 0, 0, 24, 7, 127], [], none⟩)] }
def kh15_0 : LK := ⟨6, [5, 6, 7], [], []⟩
def kx15_0 : LK := ⟨6, [4, 5, 6], [], []⟩
def o15_0 : List AExit := [.exit 0, .ret]
def A15_0 : Ann := .nil
def fa15 : FAnn := { ann := (.two .nil (.two .nil (.two .nil (.two (.two .nil (.one (.keep kx15_0 o15_0 (.lp kh15_0 A15_0)))) .nil)))), depth := 6, sites := [(8, 10, 1000)], draws := [(7, ⟨[0, 0, 3, 7, 0, 0, 48, 112, 255], [], none⟩), (8, ⟨[0, 0, 3, 7, 15, 0, 0, 96, 224, 480, 1023, 2047], [], none⟩)] }
def kh16_1 : LK := ⟨6, [3, 6, 7], [], []⟩
def kx16_1 : LK := ⟨6, [3], [], []⟩
def o16_1 : List AExit := [.exit 2]
def A16_1 : Ann := .nil
def kh16_0 : LK := ⟨6, [3, 15], [], []⟩
def kx16_0 : LK := ⟨6, [3], [], []⟩
def o16_0 : List AExit := [.exit 0]
def A16_0 : Ann := .nil
def fa16 : FAnn := { ann := (.two .nil (.two .nil (.two .nil (.two (.two .nil (.one (.keep kx16_0 o16_0 (.lp kh16_0 A16_0)))) (.two (.two .nil (.one (.keep kx16_1 o16_1 (.lp kh16_1 A16_1)))) .nil))))), depth := 6, sites := [], draws := [(11, ⟨[0, 0, 0, 0, 0, 0, 48, 112, 0, 0, 768, 1792, 4083, 8179, 16383, 32767], [], none⟩)] }
def fa17 : FAnn := { ann := .nil, depth := 4, sites := [], draws := [] }
def kh18_0 : LK := ⟨4, [3, 8], [], []⟩
def kx18_0 : LK := ⟨4, [3], [], []⟩
def o18_0 : List AExit := [.exit 0]
def A18_0 : Ann := .nil
def fa18 : FAnn := { ann := (.two .nil (.two .nil (.two .nil (.two (.two .nil (.one (.keep kx18_0 o18_0 (.lp kh18_0 A18_0)))) .nil)))), depth := 4, sites := [], draws := [] }
def fa19 : FAnn := { ann := .nil, depth := 6, sites := [], draws := [(8, ⟨[0, 0, 2, 6, 14, 1, 63, 127], [], none⟩)] }
def kh21_0 : LK := ⟨5, [0, 6], [], []⟩
def kx21_0 : LK := ⟨5, [0, 2], [], []⟩
def o21_0 : List AExit := [.exit 0, .ret]
def A21_0 : Ann := .nil
def fa21 : FAnn := { ann := (.two .nil (.two (.two .nil (.one (.keep kx21_0 o21_0 (.lp kh21_0 A21_0)))) .nil)), depth := 5, sites := [], draws := [] }
def kh22_0 : LK := ⟨6, [3, 13], [], []⟩
def kx22_0 : LK := ⟨6, [3], [], []⟩
def o22_0 : List AExit := [.exit 0]
def A22_0 : Ann := (.two .nil (.two .nil (.one (.two .nil (.one (.two .nil (.keep ⟨6, [3, 13], [], []⟩ [.normal] (.two .nil (.two .nil (.keep ⟨6, [3, 13], [], []⟩ [.normal] (.two .nil (.two .nil (.keep ⟨6, [3, 13], [], []⟩ [.normal] .nil)))))))))))))
def fa22 : FAnn := { ann := (.two .nil (.two .nil (.two .nil (.two .nil (.two (.two .nil (.one (.keep kx22_0 o22_0 (.lp kh22_0 A22_0)))) .nil))))), depth := 6, sites := [], draws := [] }
def kh23_0 : LK := ⟨5, [3, 4, 5], [], []⟩
def kx23_0 : LK := ⟨5, [3], [], []⟩
def o23_0 : List AExit := [.exit 0]
def A23_0 : Ann := .nil
def fa23 : FAnn := { ann := (.two .nil (.two .nil (.two .nil (.two .nil (.two (.two .nil (.one (.keep kx23_0 o23_0 (.lp kh23_0 A23_0)))) .nil))))), depth := 5, sites := [], draws := [] }
def kh24_1 : LK := ⟨8, [0], [], []⟩
def kx24_1 : LK := ⟨8, [0], [], []⟩
def o24_1 : List AExit := [.exit 2]
def A24_1 : Ann := .nil
def kh24_0 : LK := ⟨8, [0], [], []⟩
def kx24_0 : LK := ⟨8, [2], [], []⟩
def o24_0 : List AExit := [.exit 0, .ret]
def A24_0 : Ann := (.two .nil (.keep ⟨8, [0, 2], [], []⟩ [.normal, .ret] (.one (.two .nil (.two (.two .nil (.two (.two .nil (.two (.two .nil (.keep ⟨8, [0], [], []⟩ [.normal] (.two (.two .nil (.two .nil (.keep ⟨8, [0], [], []⟩ [.normal] (.two (.two .nil (.one (.keep kx24_1 o24_1 (.lp kh24_1 A24_1)))) .nil)))) .nil))) .nil)) .nil)) (.two .nil (.two .nil (.two .nil (.two .nil (.one (.two .nil (.keep ⟨8, [0, 2], [], []⟩ [.normal, .ret] (.two .nil (.two .nil (.keep ⟨8, [0, 2], [], []⟩ [.normal, .ret] .nil)))))))))))))))
def fa24 : FAnn := { ann := (.two .nil (.two (.one (.keep kx24_0 o24_0 (.lp kh24_0 A24_0))) .nil)), depth := 8, sites := [], draws := [(7, ⟨[0, 1, 3, 7, 15, 31, 15, 79, 255, 511, 1023, 2047, 4095], [(7, 0, 1)], none⟩), (9, ⟨[0, 1, 3, 7, 15, 31, 15, 79, 255, 511, 15, 1039, 3583, 15, 8207, 32255, 65023, 131071, 262143, 524287, 1048575], [(7, 0, 1), (9, 2, 4), (11, 0, 2), (14, 0, 3)], none⟩), (17, ⟨[0, 1, 3, 7, 15, 31, 15, 79, 255, 511, 1023, 2047, 4095, 2047, 10239, 32767, 65535], [], none⟩), (21, ⟨[0, 1, 3, 7, 15, 31, 15, 79, 255, 511, 1023, 2047, 4095, 2047, 10239, 32767, 65535, 131071, 262143, 524287, 1048575, 2097151, 4194303, 8388607, 16777215, 33554431, 67108863], [], none⟩), (25, ⟨[0, 1, 3, 7, 15, 31, 15, 79, 255, 511, 1023, 2047, 4095, 2047, 10239, 32767, 65535, 131071, 262143, 524287, 1048575, 2097151, 4194303, 8388607, 16777215, 33554431, 67108863, 134217727, 268435455, 536870911, 1073741823, 2147483647, 4294967295, 8589934591, 17179869183, 34359738367, 68719476735], [], none⟩)] }
def fa25 : FAnn := { ann := .nil, depth := 5, sites := [], draws := [] }
def fa26 : FAnn := { ann := .nil, depth := 5, sites := [], draws := [] }
def fa27 : FAnn := { ann := .nil, depth := 5, sites := [], draws := [] }
def fa28 : FAnn := { ann := .nil, depth := 4, sites := [], draws := [] }
def fa29 : FAnn := { ann := .nil, depth := 4, sites := [], draws := [] }
def fa30 : FAnn := { ann := .nil, depth := 4, sites := [], draws := [(1, ⟨[0, 1, 3, 7, 15, 0, 32, 96, 224, 480, 1023, 2047], [(6, 0, 1), (7, 0, 1), (8, 0, 1), (9, 0, 1)], none⟩)] }
def kh31_0 : LK := ⟨6, [0, 4, 8], [], []⟩
def kx31_0 : LK := ⟨6, [0, 2, 3, 4], [], []⟩
def o31_0 : List AExit := [.exit 0, .ret]
def A31_0 : Ann := .nil
def fa31 : FAnn := { ann := (.two .nil (.two .nil (.two (.two .nil (.one (.keep kx31_0 o31_0 (.lp kh31_0 A31_0)))) .nil))), depth := 6, sites := [], draws := [] }
def fa32 : FAnn := { ann := .nil, depth := 5, sites := [], draws := [] }
def fa33 : FAnn := { ann := .nil, depth := 5, sites := [], draws := [] }
def fa34 : FAnn := { ann := .nil, depth := 5, sites := [], draws := [] }
def fa35 : FAnn := { ann := .nil, depth := 5, sites := [], draws := [] }
def kh36_0 : LK := ⟨6, [0, 1, 5], [], []⟩
def kx36_0 : LK := ⟨6, [0, 1, 4], [], []⟩
def o36_0 : List AExit := [.exit 0, .ret]
def A36_0 : Ann := .nil
def fa36 : FAnn := { ann := (.two .nil (.two (.two .nil (.one (.keep kx36_0 o36_0 (.lp kh36_0 A36_0)))) .nil)), depth := 6, sites := [(5, 10, 1000)], draws := [(4, ⟨[0, 0, 3, 7, 0, 0, 48, 112, 255], [], none⟩), (5, ⟨[0, 0, 3, 7, 15, 0, 0, 96, 224, 480, 1023, 2047], [], none⟩)] }
def fa37 : FAnn := { ann := .nil, depth := 4, sites := [], draws := [] }
def kh38_0 : LK := ⟨4, [2, 4], [], []⟩
def kx38_0 : LK := ⟨4, [2], [], []⟩
def o38_0 : List AExit := [.exit 0]
def A38_0 : Ann := .nil
def fa38 : FAnn := { ann := (.two .nil (.two (.two .nil (.one (.keep kx38_0 o38_0 (.lp kh38_0 A38_0)))) .nil)), depth := 4, sites := [], draws := [] }
def fa39 : FAnn := { ann := .nil, depth := 4, sites := [], draws := [] }
def kh40_0 : LK := ⟨6, [0, 4], [], []⟩
def kx40_0 : LK := ⟨6, [2, 3], [], []⟩
def o40_0 : List AExit := [.ret]
def A40_0 : Ann := (.one (.two .nil (.two .nil (.two (.one (.two .nil (.two .nil (.two .nil (.two .nil (.two .nil (.keep ⟨6, [0, 4, 5, 7], [], []⟩ [.normal] (.two .nil (.two .nil (.keep ⟨6, [0, 4, 5, 7], [], []⟩ [.normal] .nil)))))))))) .nil))))
def fa40 : FAnn := { ann := (.two .nil (.two .nil (.one (.keep kx40_0 o40_0 (.lp kh40_0 A40_0))))), depth := 6, sites := [], draws := [] }
def fa41 : FAnn := { ann := .nil, depth := 6, sites := [], draws := [] }
def kh42_0 : LK := ⟨7, [0, 1, 7, 8], [], []⟩
def kx42_0 : LK := ⟨7, [0, 1, 4, 5, 6, 7, 8], [], []⟩
def o42_0 : List AExit := [.exit 1, .ret]
def A42_0 : Ann := .nil
def fa42 : FAnn := { ann := (.two .nil (.two .nil (.two (.two .nil (.one (.two (.two .nil (.keep ⟨7, [0, 1, 17, 19], [], []⟩ [.normal] .nil)) .nil))) (.two .nil (.two (.two .nil (.one (.keep kx42_0 o42_0 (.lp kh42_0 A42_0)))) .nil))))), depth := 7, sites := [], draws := [] }
def kh43_0 : LK := ⟨5, [0, 1, 5], [], []⟩
def kx43_0 : LK := ⟨5, [4], [], []⟩
def o43_0 : List AExit := [.ret]
def A43_0 : Ann := .nil
def fa43 : FAnn := { ann := (.two .nil (.two .nil (.one (.keep kx43_0 o43_0 (.lp kh43_0 A43_0))))), depth := 5, sites := [], draws := [(2, ⟨[0, 0, 3, 0, 0, 24, 56, 127, 0, 511, 1023], [], none⟩)] }
def fa44 : FAnn := { ann := .nil, depth := 6, sites := [], draws := [(1, ⟨[0, 1, 3, 0, 8, 24, 56, 127, 0, 256, 768, 1792, 4095, 0, 8192, 24576, 57344, 131071, 262143], [], none⟩), (2, ⟨[0, 1, 3, 0, 8, 24, 56, 127, 0, 256, 768, 1792, 4095, 0, 8192, 24576, 57344, 131071, 0, 262144, 786432, 1835008, 4194303, 0, 8388608, 25165824, 58720256, 134217727, 0, 268435456, 805306368, 1879048192, 4294967295, 0, 8589934592, 25769803776, 60129542144, 137438953471, 274877906943], [], none⟩)] }
def fa45 : FAnn := { ann := (.two .nil (.keep ⟨5, [], [], []⟩ [.normal] .nil)), depth := 5, sites := [], draws := [] }
def fa46 : FAnn := { ann := .nil, depth := 5, sites := [], draws := [] }
def fa48 : FAnn := { ann := .nil, depth := 4, sites := [], draws := [] }
def fa49 : FAnn := { ann := .nil, depth := 5, sites := [], draws := [] }
def fa50 : FAnn := { ann := .nil, depth := 3, sites := [], draws := [] }
def fa51 : FAnn := { ann := .nil, depth := 7, sites := [], draws := [] }
def fa52 : FAnn := { ann := .nil, depth := 3, sites := [], draws := [] }
def fa53 : FAnn := { ann := .nil, depth := 3, sites := [], draws := [] }
def fa54 : FAnn := { ann := .nil, depth := 5, sites := [], draws := [] }
def fa55 : FAnn := { ann := .nil, depth := 6, sites := [(3, 9, 1000)], draws := [(1, ⟨[0, 1, 3, 7, 0, 16, 48, 112, 240, 511], [], none⟩), (3, ⟨[0, 1, 3, 7, 0, 16, 48, 112, 255, 511, 1023, 2047, 2047, 4095, 16383], [], none⟩)] }
def fa56 : FAnn := { ann := .nil, depth := 6, sites := [], draws := [] }
def fa57 : FAnn := { ann := .nil, depth := 6, sites := [], draws := [] }
def fa58 : FAnn := { ann := .nil, depth := 5, sites := [], draws := [] }
def fa60 : FAnn := { ann := (.two .nil (.two .nil (.one (.two .nil (.two .nil (.two (.two .nil (.keep ⟨7, [0, 1, 5, 25], [], []⟩ [.normal] .nil)) .nil)))))), depth := 7, sites := [], draws := [] }
def fa61 : FAnn := { ann := .nil, depth := 4, sites := [], draws := [] }
def fa62 : FAnn := { ann := .nil, depth := 4, sites := [], draws := [] }
def kh63_0 : LK := ⟨8, [0, 1, 4], [], []⟩
def kx63_0 : LK := ⟨8, [0, 1, 4], [], []⟩
def o63_0 : List AExit := [.exit 0]
def A63_0 : Ann := .nil
def fa63 : FAnn := { ann := (.two .nil (.two (.one (.keep kx63_0 o63_0 (.lp kh63_0 A63_0))) (.two .nil (.two (.two .nil (.keep ⟨8, [0, 4, 12], [], []⟩ [.normal] .nil)) (.two (.two .nil (.keep ⟨8, [0, 4, 12], [], []⟩ [.normal] .nil)) (.two .nil (.keep ⟨8, [], [], []⟩ [.normal] .nil))))))), depth := 8, sites := [], draws := [(7, ⟨[0, 0, 2, 0, 0, 16, 0, 64, 192, 0, 512, 455, 2503, 8191, 16383], [(5, 0, 1)], none⟩), (8, ⟨[0, 0, 2, 0, 0, 16, 0, 64, 192, 0, 512, 455, 2503, 8191, 16383], [(5, 0, 1)], none⟩), (9, ⟨[0, 0, 2, 0, 0, 16, 0, 64, 192, 0, 512, 455, 2503, 8191, 16383], [(5, 0, 1)], none⟩), (10, ⟨[0, 0, 2, 0, 0, 16, 0, 64, 192, 0, 512, 455, 2503, 8191, 16383], [(5, 0, 1)], none⟩), (17, ⟨[0, 0, 2, 0, 0, 16, 0, 64, 192, 0, 512, 455, 2503, 8191, 16383], [(5, 0, 1)], none⟩), (18, ⟨[0, 0, 2, 0, 0, 16, 0, 64, 192, 0, 512, 455, 2503, 8191, 16383], [(5, 0, 1)], none⟩), (23, ⟨[0, 0, 2, 0, 0, 16, 0, 64, 192, 0, 512, 455, 2503, 8191, 16383], [(5, 0, 1)], none⟩)] }
def kh65_0 : LK := ⟨6, [0, 4, 5], [], []⟩
def kx65_0 : LK := ⟨6, [2, 3], [], []⟩
def o65_0 : List AExit := [.ret]
def A65_0 : Ann := .nil
def fa65 : FAnn := { ann := (.two .nil (.two .nil (.two .nil (.one (.keep kx65_0 o65_0 (.lp kh65_0 A65_0)))))), depth := 6, sites := [], draws := [] }
def fa66 : FAnn := { ann := .nil, depth := 3, sites := [], draws := [] }
def fa67 : FAnn := { ann := (.two .nil (.two (.two .nil (.keep ⟨5, [0, 2], [], []⟩ [.normal] .nil)) (.two (.two .nil (.keep ⟨5, [0, 2], [], []⟩ [.normal] .nil)) (.two (.two .nil (.keep ⟨5, [0, 2], [], []⟩ [.normal] .nil)) .nil)))), depth := 5, sites := [], draws := [] }
def fa68 : FAnn := { ann := .nil, depth := 3, sites := [], draws := [] }
def fa69 : FAnn := { ann := .nil, depth := 4, sites := [], draws := [] }
def fa70 : FAnn := { ann := .nil, depth := 4, sites := [], draws := [] }
def fa71 : FAnn := { ann := .nil, depth := 6, sites := [], draws := [] }
def fa72 : FAnn := { ann := .nil, depth := 4, sites := [], draws := [] }
def fa73 : FAnn := { ann := .nil, depth := 4, sites := [], draws := [] }
def annTable : List (Nat × FAnn) := [(3, fa3), (4, fa4), (5, fa5), (6, fa6), (7, fa7), (9, fa9), (10, fa10), (11, fa11), (12, fa12), (13, fa13), (14, fa14), (15, fa15), (16, fa16), (17, fa17), (18, fa18), (19, fa19), (21, fa21), (22, fa22), (23, fa23), (24, fa24), (25, fa25), (26, fa26), (27, fa27), (28, fa28), (29, fa29), (30, fa30), (31, fa31), (32, fa32), (33, fa33), (34, fa34), (35, fa35), (36, fa36), (37, fa37), (38, fa38), (39, fa39), (40, fa40), (41, fa41), (42, fa42), (43, fa43), (44, fa44), (45, fa45), (46, fa46), (48, fa48), (49, fa49), (50, fa50), (51, fa51), (52, fa52), (53, fa53), (54, fa54), (55, fa55), (56, fa56), (57, fa57), (58, fa58), (60, fa60), (61, fa61), (62, fa62), (63, fa63), (65, fa65), (66, fa66), (67, fa67), (68, fa68), (69, fa69), (70, fa70), (71, fa71), (72, fa72), (73, fa73)]
def described : List FuncId := [3, 4, 5, 6, 7, 9, 10, 11, 12, 13, 14, 15, 16, 17, 18, 19, 21, 22, 23, 24, 25, 26, 27, 28, 29, 30, 31, 32, 33, 34, 35, 36, 37, 38, 39, 40, 41, 42, 43, 44, 45, 46, 48, 49, 50, 51, 52, 53, 54, 55, 56, 57, 58, 60, 61, 62, 63, 65, 66, 67, 68, 69, 70, 71, 72, 73]
noncomputable def base : Env := { P := Tryd.prog, pol := fun _ => .prim fun _ _ => none, ann := lookAnn annTable, glob := fun g => bif Nat.beq g 0 then flatD (H := Unit) Rows.laid_unicode_utf8_first else bif Nat.beq g 1 then flatD (H := Unit) Rows.laid_unicode_utf8_acceptRanges else bif Nat.beq g 2 then flatD (H := Unit) Rows.laid_internal_strconv_uint64pow10 else bif Nat.beq g 3 then flatD (H := Unit) Rows.laid_math_bits_deBruijn32tab else bif Nat.beq g 4 then flatD (H := Unit) Rows.laid_math_bits_deBruijn64tab else none }
noncomputable def L3_0 (pol : FuncId → Pol) (n : Nat) : Nat → Live → Heap → Option (Nat × Live × Heap) := loopL (base.with pol) (callF (base.with pol) n) n 3 [1, 1, 1, 1, 0, 1, 0, 0] A3_0 kh3_0 kx3_0 o3_0 70
noncomputable def L11_0 (pol : FuncId → Pol) (n : Nat) : Nat → Live → Heap → Option (Nat × Live × Heap) := loopL (base.with pol) (callF (base.with pol) n) n 11 [1, 1, 1, 1, 1, 0, 1, 0, 0] A11_0 kh11_0 kx11_0 o11_0 45
noncomputable def L14_0 (pol : FuncId → Pol) (n : Nat) : Nat → Live → Heap → Option (Nat × Live × Heap) := loopL (base.with pol) (callF (base.with pol) n) n 14 [1, 1, 0, 0] A14_0 kh14_0 kx14_0 o14_0 53
noncomputable def L15_0 (pol : FuncId → Pol) (n : Nat) : Nat → Live → Heap → Option (Nat × Live × Heap) := loopL (base.with pol) (callF (base.with pol) n) n 15 [1, 1, 1, 0, 1, 0, 0] A15_0 kh15_0 kx15_0 o15_0 62
noncomputable def L16_0 (pol : FuncId → Pol) (n : Nat) : Nat → Live → Heap → Option (Nat × Live × Heap) := loopL (base.with pol) (callF (base.with pol) n) n 16 [1, 1, 1, 0, 1, 0, 0] A16_0 kh16_0 kx16_0 o16_0 49
noncomputable def L16_1 (pol : FuncId → Pol) (n : Nat) : Nat → Live → Heap → Option (Nat × Live × Heap) := loopL (base.with pol) (callF (base.with pol) n) n 16 [1, 1, 1, 1, 0, 1, 0, 0] A16_1 kh16_1 kx16_1 o16_1 49
noncomputable def L18_0 (pol : FuncId → Pol) (n : Nat) : Nat → Live → Heap → Option (Nat × Live × Heap) := loopL (base.with pol) (callF (base.with pol) n) n 18 [1, 1, 1, 0, 1, 0, 0] A18_0 kh18_0 kx18_0 o18_0 14
noncomputable def L21_0 (pol : FuncId → Pol) (n : Nat) : Nat → Live → Heap → Option (Nat × Live × Heap) := loopL (base.with pol) (callF (base.with pol) n) n 21 [1, 0, 1, 0, 0] A21_0 kh21_0 kx21_0 o21_0 18
noncomputable def L22_0 (pol : FuncId → Pol) (n : Nat) : Nat → Live → Heap → Option (Nat × Live × Heap) := loopL (base.with pol) (callF (base.with pol) n) n 22 [1, 1, 1, 1, 0, 1, 0, 0] A22_0 kh22_0 kx22_0 o22_0 56
noncomputable def L23_0 (pol : FuncId → Pol) (n : Nat) : Nat → Live → Heap → Option (Nat × Live × Heap) := loopL (base.with pol) (callF (base.with pol) n) n 23 [1, 1, 1, 1, 0, 1, 0, 0] A23_0 kh23_0 kx23_0 o23_0 27
noncomputable def L24_0 (pol : FuncId → Pol) (n : Nat) : Nat → Live → Heap → Option (Nat × Live × Heap) := loopL (base.with pol) (callF (base.with pol) n) n 24 [1, 0, 0, 0] A24_0 kh24_0 kx24_0 o24_0 169
noncomputable def L24_1 (pol : FuncId → Pol) (n : Nat) : Nat → Live → Heap → Option (Nat × Live × Heap) := loopL (base.with pol) (callF (base.with pol) n) n 24 [1, 0, 0, 0, 1, 0, 1, 0, 1, 0, 1, 0, 1, 0, 1, 1, 0, 1, 0, 0] A24_1 kh24_1 kx24_1 o24_1 169
noncomputable def L31_0 (pol : FuncId → Pol) (n : Nat) : Nat → Live → Heap → Option (Nat × Live × Heap) := loopL (base.with pol) (callF (base.with pol) n) n 31 [1, 1, 0, 1, 0, 0] A31_0 kh31_0 kx31_0 o31_0 32
noncomputable def L36_0 (pol : FuncId → Pol) (n : Nat) : Nat → Live → Heap → Option (Nat × Live × Heap) := loopL (base.with pol) (callF (base.with pol) n) n 36 [1, 0, 1, 0, 0] A36_0 kh36_0 kx36_0 o36_0 43
noncomputable def L38_0 (pol : FuncId → Pol) (n : Nat) : Nat → Live → Heap → Option (Nat × Live × Heap) := loopL (base.with pol) (callF (base.with pol) n) n 38 [1, 0, 1, 0, 0] A38_0 kh38_0 kx38_0 o38_0 10
noncomputable def L40_0 (pol : FuncId → Pol) (n : Nat) : Nat → Live → Heap → Option (Nat × Live × Heap) := loopL (base.with pol) (callF (base.with pol) n) n 40 [1, 1, 0, 0] A40_0 kh40_0 kx40_0 o40_0 42
noncomputable def L42_0 (pol : FuncId → Pol) (n : Nat) : Nat → Live → Heap → Option (Nat × Live × Heap) := loopL (base.with pol) (callF (base.with pol) n) n 42 [1, 1, 1, 1, 0, 1, 0, 0] A42_0 kh42_0 kx42_0 o42_0 88
noncomputable def L43_0 (pol : FuncId → Pol) (n : Nat) : Nat → Live → Heap → Option (Nat × Live × Heap) := loopL (base.with pol) (callF (base.with pol) n) n 43 [1, 1, 0, 0] A43_0 kh43_0 kx43_0 o43_0 22
noncomputable def L63_0 (pol : FuncId → Pol) (n : Nat) : Nat → Live → Heap → Option (Nat × Live × Heap) := loopL (base.with pol) (callF (base.with pol) n) n 63 [1, 0, 0, 0] A63_0 kh63_0 kx63_0 o63_0 167
noncomputable def L65_0 (pol : FuncId → Pol) (n : Nat) : Nat → Live → Heap → Option (Nat × Live × Heap) := loopL (base.with pol) (callF (base.with pol) n) n 65 [1, 1, 1, 0, 0] A65_0 kh65_0 kx65_0 o65_0 41
end Go.Proofs.YtdkjednjlpcboaaDoor

/- The base of all that is proved of the seat's functions. -/
set_option maxRecDepth 100000
namespace Go.Proofs.YtdkjednjlpcboaaDoor
open Go Go.Den
theorem base_ok : BaseOK base := ⟨envOK described (by kernel_rfl) (fun f hf => lookAnn_none hf) (by kernel_rfl), by kernel_rfl⟩
end Go.Proofs.YtdkjednjlpcboaaDoor

/- What each function does, in Den's words. -/
set_option maxRecDepth 100000
namespace Go.Proofs.YtdkjednjlpcboaaDoor
open Go Go.Den
theorem S4 (pol : FuncId → Pol) (n : Nat) (R : Type) (k : AV → Heap → Option R) (a0 a1 a2 : AV) (H : Heap) : callF (base.with pol) (n + 1) R 4 [a0, a1, a2] H k =
  (cl base pol n 9 [] H fun t11 H1 =>
  withV (A.un .not t11) fun t12 =>
  A.test t12 (
  k (AV.bool false) H1)
  (
  withV (A.lenStr a0) fun t14 =>
  withV (A.bin base.P .gtr 3 t14 (AV.int .i64 500) true H1) fun t15 =>
  withB (A.asG false t15) fun b4 => withP (guardB b4 false (
   some (a1, H1))
   (some (.tup [], H1))) fun t17 H3 =>
  withB (A.asG false t15) fun b5 => withP (guardB b5 false (
   withV (A.lenStr t17) fun t18 =>
   some (t18, H3))
   (some (.tup [], H3))) fun t18 H5 =>
  withB (A.asG false t15) fun b6 => withP (guardB b6 false (
   withV (A.bin base.P .gtr 3 t18 (AV.int .i64 500) true H5) fun t19 =>
   some (t19, H5))
   (some (.tup [], H5))) fun t19 H6 =>
  withV (A.pick t15 (AV.bool true) t19) fun t20 =>
  withB (A.asG false t20) fun b9 => withP (guardB b9 false (
   some (a2, H6))
   (some (.tup [], H6))) fun t22 H7 =>
  withB (A.asG false t20) fun b10 => withP (guardB b10 false (
   withV (A.lenStr t22) fun t23 =>
   some (t23, H7))
   (some (.tup [], H7))) fun t23 H9 =>
  withB (A.asG false t20) fun b11 => withP (guardB b11 false (
   withV (A.bin base.P .gtr 3 t23 (AV.int .i64 500) true H9) fun t24 =>
   some (t24, H9))
   (some (.tup [], H9))) fun t24 H10 =>
  withV (A.pick t20 (AV.bool true) t24) fun t25 =>
  A.test t25 (
  k (AV.bool true) H10)
  (
  cl base pol n 14 [a0, a1] H10 fun t28 H11 =>
  cl base pol n 14 [a1, a2] H11 fun t31 H12 =>
  cl base pol n 14 [a0, a2] H12 fun t34 H13 =>
  cl base pol n 15 [a0, a1] H13 fun t38 H14 =>
  withV (A.bin base.P .neq 3 t28 t38 false H14) fun t39 =>
  withB (A.asG false t39) fun b6 => withP (guardB b6 false (
   some (a1, H14))
   (some (.tup [], H14))) fun t41 H15 =>
  withB (A.asG false t39) fun b7 => withP (guardB b7 false (
   some (a0, H15))
   (some (.tup [], H15))) fun t42 H16 =>
  withB (A.asG false t39) fun b8 => withP (guardB b8 false (
   cl base pol n 14 [t41, t42] H16 fun t43 H17 =>
   some (t43, H17))
   (some (.tup [], H16))) fun t43 H18 =>
  withB (A.asG false t39) fun b9 => withP (guardB b9 false (
   some (t28, H18))
   (some (.tup [], H18))) fun t44 H19 =>
  withB (A.asG false t39) fun b10 => withP (guardB b10 false (
   withV (A.un .neg t44) fun t45 =>
   some (t45, H19))
   (some (.tup [], H19))) fun t45 H20 =>
  withB (A.asG false t39) fun b11 => withP (guardB b11 false (
   withV (A.bin base.P .neq 3 t43 t45 false H20) fun t46 =>
   some (t46, H20))
   (some (.tup [], H20))) fun t46 H21 =>
  withV (A.pick t39 (AV.bool true) t46) fun t47 =>
  withB (A.asG false t47) fun b14 => withP (guardB b14 false (
   some (t28, H21))
   (some (.tup [], H21))) fun t49 H22 =>
  withB (A.asG false t47) fun b15 => withP (guardB b15 false (
   withV (A.bin base.P .eql 3 t49 (AV.int .i64 0) true H22) fun t50 =>
   some (t50, H22))
   (some (.tup [], H22))) fun t50 H23 =>
  withB (A.asG false t47) fun b16 => withP (guardB b16 false (
   some (a0, H23))
   (some (.tup [], H23))) fun t51 H24 =>
  withB (A.asG false t47) fun b17 => withP (guardB b17 false (
   some (a1, H24))
   (some (.tup [], H24))) fun t52 H25 =>
  withB (A.asG false t47) fun b18 => withP (guardB b18 false (
   withV (A.bin base.P .eql 9 t51 t52 false H25) fun t53 =>
   some (t53, H25))
   (some (.tup [], H25))) fun t53 H26 =>
  withB (A.asG false t47) fun b19 => withP (guardB b19 false (
   withV (A.bin base.P .neq 4 t50 t53 false H26) fun t54 =>
   some (t54, H26))
   (some (.tup [], H26))) fun t54 H27 =>
  withV (A.pick t47 (AV.bool true) t54) fun t55 =>
  A.test t55 (
  k (AV.bool false) H27)
  (
  cl base pol n 12 [a0] H27 fun t57 H28 =>
  withB (A.asG true t57) fun b3 => withP (guardB b3 true (
   some (a1, H28))
   (some (.tup [], H28))) fun t59 H29 =>
  withB (A.asG true t57) fun b4 => withP (guardB b4 true (
   cl base pol n 12 [t59] H29 fun t60 H30 =>
   some (t60, H30))
   (some (.tup [], H29))) fun t60 H31 =>
  withV (A.pick t57 t60 (AV.bool false)) fun t61 =>
  withB (A.asG true t61) fun b7 => withP (guardB b7 true (
   some (a2, H31))
   (some (.tup [], H31))) fun t63 H32 =>
  withB (A.asG true t61) fun b8 => withP (guardB b8 true (
   cl base pol n 12 [t63] H32 fun t64 H33 =>
   some (t64, H33))
   (some (.tup [], H32))) fun t64 H34 =>
  withV (A.pick t61 t64 (AV.bool false)) fun t65 =>
  withB (A.asG true t65) fun b2 => withP (guardB b2 true (
   some (t28, H34))
   (some (.tup [], H34))) fun t68 H35 =>
  withB (A.asG true t65) fun b3 => withP (guardB b3 true (
   withV (A.bin base.P .leq 3 t68 (AV.int .i64 0) true H35) fun t69 =>
   some (t69, H35))
   (some (.tup [], H35))) fun t69 H36 =>
  withV (A.pick t65 t69 (AV.bool false)) fun t70 =>
  withB (A.asG true t70) fun b6 => withP (guardB b6 true (
   some (t31, H36))
   (some (.tup [], H36))) fun t72 H37 =>
  withB (A.asG true t70) fun b7 => withP (guardB b7 true (
   withV (A.bin base.P .leq 3 t72 (AV.int .i64 0) true H37) fun t73 =>
   some (t73, H37))
   (some (.tup [], H37))) fun t73 H38 =>
  withV (A.pick t70 t73 (AV.bool false)) fun t74 =>
  withB (A.asG true t74) fun b10 => withP (guardB b10 true (
   some (t34, H38))
   (some (.tup [], H38))) fun t76 H39 =>
  withB (A.asG true t74) fun b11 => withP (guardB b11 true (
   withV (A.bin base.P .gtr 3 t76 (AV.int .i64 0) true H39) fun t77 =>
   some (t77, H39))
   (some (.tup [], H39))) fun t77 H40 =>
  withV (A.pick t74 t77 (AV.bool false)) fun t78 =>
  A.test t78 (
  k (AV.bool false) H40)
  (
  cl base pol n 12 [a0] H40 fun t80 H41 =>
  withV (A.un .not t80) fun t81 =>
  withB (A.asG false t81) fun b4 => withP (guardB b4 false (
   some (a0, H41))
   (some (.tup [], H41))) fun t83 H42 =>
  withB (A.asG false t81) fun b5 => withP (guardB b5 false (
   cl base pol n 16 [t83] H42 fun t84 H43 =>
   some (t84, H43))
   (some (.tup [], H42))) fun t84 H44 =>
  withB (A.asG false t81) fun b6 => withP (guardB b6 false (
   cl base pol n 16 [t84] H44 fun t85 H45 =>
   some (t85, H45))
   (some (.tup [], H44))) fun t85 H46 =>
  withB (A.asG false t81) fun b7 => withP (guardB b7 false (
   some (a0, H46))
   (some (.tup [], H46))) fun t86 H47 =>
  withB (A.asG false t81) fun b8 => withP (guardB b8 false (
   withV (A.bin base.P .eql 9 t85 t86 false H47) fun t87 =>
   some (t87, H47))
   (some (.tup [], H47))) fun t87 H48 =>
  withB (A.asG false t81) fun b9 => withP (guardB b9 false (
   some (t87, H48))
   (some (.tup [], H48))) fun t88 H49 =>
  withB (A.asG true t88) fun b10 => withP (guardB b10 true (
   some (a0, H49))
   (some (.tup [], H49))) fun t89 H50 =>
  withB (A.asG true t88) fun b11 => withP (guardB b11 true (
   cl base pol n 16 [t89] H50 fun t90 H51 =>
   some (t90, H51))
   (some (.tup [], H50))) fun t90 H52 =>
  withB (A.asG true t88) fun b12 => withP (guardB b12 true (
   cl base pol n 17 [t90] H52 fun t91 H53 =>
   some (t91, H53))
   (some (.tup [], H52))) fun t91 H54 =>
  withB (A.asG true t88) fun b13 => withP (guardB b13 true (
   some (a0, H54))
   (some (.tup [], H54))) fun t92 H55 =>
  withB (A.asG true t88) fun b14 => withP (guardB b14 true (
   cl base pol n 17 [t92] H55 fun t93 H56 =>
   some (t93, H56))
   (some (.tup [], H55))) fun t93 H57 =>
  withB (A.asG true t88) fun b15 => withP (guardB b15 true (
   withV (A.bin base.P .eql 3 t91 t93 false H57) fun t94 =>
   some (t94, H57))
   (some (.tup [], H57))) fun t94 H58 =>
  withB (A.asG false t81) fun b16 => withP (guardB b16 false (
   withV (A.pick t88 t94 (AV.bool false)) fun t95 =>
   some (t95, H58))
   (some (.tup [], H58))) fun t95 H59 =>
  withV (A.pick t81 (AV.bool true) t95) fun t96 =>
  k t96 H59))))) := by kernel_rfl
theorem S5 (pol : FuncId → Pol) (n : Nat) (R : Type) (k : AV → Heap → Option R) (a0 a1 : AV) (H : Heap) : callF (base.with pol) (n + 1) R 5 [a0, a1] H k =
  (cl base pol n 9 [] H fun t5 H1 =>
  withV (A.un .not t5) fun t6 =>
  A.test t6 (
  k (AV.bool false) H1)
  (
  cl base pol n 10 [a0] H1 fun t8 H2 =>
  withV (A.un .not t8) fun t9 =>
  withB (A.asG false t9) fun b4 => withP (guardB b4 false (
   some (a1, H2))
   (some (.tup [], H2))) fun t11 H3 =>
  withB (A.asG false t9) fun b5 => withP (guardB b5 false (
   cl base pol n 10 [t11] H3 fun t12 H4 =>
   some (t12, H4))
   (some (.tup [], H3))) fun t12 H5 =>
  withB (A.asG false t9) fun b6 => withP (guardB b6 false (
   withV (A.un .not t12) fun t13 =>
   some (t13, H5))
   (some (.tup [], H5))) fun t13 H6 =>
  withV (A.pick t9 (AV.bool true) t13) fun t14 =>
  withB (A.asG false t14) fun b9 => withP (guardB b9 false (
   some (a0, H6))
   (some (.tup [], H6))) fun t16 H7 =>
  withB (A.asG false t14) fun b10 => withP (guardB b10 false (
   withV (A.lenStr t16) fun t17 =>
   some (t17, H7))
   (some (.tup [], H7))) fun t17 H9 =>
  withB (A.asG false t14) fun b11 => withP (guardB b11 false (
   withV (A.bin base.P .gtr 3 t17 (AV.int .i64 1000) true H9) fun t18 =>
   some (t18, H9))
   (some (.tup [], H9))) fun t18 H10 =>
  withV (A.pick t14 (AV.bool true) t18) fun t19 =>
  withB (A.asG false t19) fun b14 => withP (guardB b14 false (
   some (a1, H10))
   (some (.tup [], H10))) fun t21 H11 =>
  withB (A.asG false t19) fun b15 => withP (guardB b15 false (
   withV (A.lenStr t21) fun t22 =>
   some (t22, H11))
   (some (.tup [], H11))) fun t22 H13 =>
  withB (A.asG false t19) fun b16 => withP (guardB b16 false (
   withV (A.bin base.P .gtr 3 t22 (AV.int .i64 1000) true H13) fun t23 =>
   some (t23, H13))
   (some (.tup [], H13))) fun t23 H14 =>
  withV (A.pick t19 (AV.bool true) t23) fun t24 =>
  A.test t24 (
  k (AV.bool true) H14)
  (
  withV (A.bin base.P .add 9 a0 a1 false H14) fun t27 =>
  cl base pol n 12 [t27] H14 fun t28 H15 =>
  withB (A.asG true t28) fun b5 => withP (guardB b5 true (
   some (a0, H15))
   (some (.tup [], H15))) fun t30 H16 =>
  withB (A.asG true t28) fun b6 => withP (guardB b6 true (
   some (a1, H16))
   (some (.tup [], H16))) fun t31 H17 =>
  withB (A.asG true t28) fun b7 => withP (guardB b7 true (
   withV (A.bin base.P .add 9 t30 t31 false H17) fun t32 =>
   some (t32, H17))
   (some (.tup [], H17))) fun t32 H18 =>
  withB (A.asG true t28) fun b8 => withP (guardB b8 true (
   cl base pol n 17 [t32] H18 fun t33 H19 =>
   some (t33, H19))
   (some (.tup [], H18))) fun t33 H20 =>
  withB (A.asG true t28) fun b9 => withP (guardB b9 true (
   some (a0, H20))
   (some (.tup [], H20))) fun t34 H21 =>
  withB (A.asG true t28) fun b10 => withP (guardB b10 true (
   cl base pol n 17 [t34] H21 fun t35 H22 =>
   some (t35, H22))
   (some (.tup [], H21))) fun t35 H23 =>
  withB (A.asG true t28) fun b11 => withP (guardB b11 true (
   some (a1, H23))
   (some (.tup [], H23))) fun t36 H24 =>
  withB (A.asG true t28) fun b12 => withP (guardB b12 true (
   cl base pol n 17 [t36] H24 fun t37 H25 =>
   some (t37, H25))
   (some (.tup [], H24))) fun t37 H26 =>
  withB (A.asG true t28) fun b13 => withP (guardB b13 true (
   withV (A.bin base.P .add 3 t35 t37 false H26) fun t38 =>
   some (t38, H26))
   (some (.tup [], H26))) fun t38 H27 =>
  withB (A.asG true t28) fun b14 => withP (guardB b14 true (
   withV (A.bin base.P .eql 3 t33 t38 false H27) fun t39 =>
   some (t39, H27))
   (some (.tup [], H27))) fun t39 H28 =>
  withV (A.pick t28 t39 (AV.bool false)) fun t40 =>
  withB (A.asG true t40) fun b17 => withP (guardB b17 true (
   some (a0, H28))
   (some (.tup [], H28))) fun t42 H29 =>
  withB (A.asG true t40) fun b18 => withP (guardB b18 true (
   some (a1, H29))
   (some (.tup [], H29))) fun t43 H30 =>
  withB (A.asG true t40) fun b19 => withP (guardB b19 true (
   withV (A.bin base.P .add 9 t42 t43 false H30) fun t44 =>
   some (t44, H30))
   (some (.tup [], H30))) fun t44 H31 =>
  withB (A.asG true t40) fun b20 => withP (guardB b20 true (
   cl base pol n 16 [t44] H31 fun t45 H32 =>
   some (t45, H32))
   (some (.tup [], H31))) fun t45 H33 =>
  withB (A.asG true t40) fun b21 => withP (guardB b21 true (
   some (a1, H33))
   (some (.tup [], H33))) fun t46 H34 =>
  withB (A.asG true t40) fun b22 => withP (guardB b22 true (
   cl base pol n 16 [t46] H34 fun t47 H35 =>
   some (t47, H35))
   (some (.tup [], H34))) fun t47 H36 =>
  withB (A.asG true t40) fun b23 => withP (guardB b23 true (
   some (a0, H36))
   (some (.tup [], H36))) fun t48 H37 =>
  withB (A.asG true t40) fun b24 => withP (guardB b24 true (
   cl base pol n 16 [t48] H37 fun t49 H38 =>
   some (t49, H38))
   (some (.tup [], H37))) fun t49 H39 =>
  withB (A.asG true t40) fun b25 => withP (guardB b25 true (
   withV (A.bin base.P .add 9 t47 t49 false H39) fun t50 =>
   some (t50, H39))
   (some (.tup [], H39))) fun t50 H40 =>
  withB (A.asG true t40) fun b26 => withP (guardB b26 true (
   withV (A.bin base.P .eql 9 t45 t50 false H40) fun t51 =>
   some (t51, H40))
   (some (.tup [], H40))) fun t51 H41 =>
  withV (A.pick t40 t51 (AV.bool false)) fun t52 =>
  withB (A.asG true t52) fun b29 => withP (guardB b29 true (
   some (a1, H41))
   (some (.tup [], H41))) fun t54 H42 =>
  withB (A.asG true t52) fun b30 => withP (guardB b30 true (
   withV (A.bin base.P .eql 9 t54 (AV.str []) true H42) fun t55 =>
   some (t55, H42))
   (some (.tup [], H42))) fun t55 H43 =>
  withB (A.asG true t52) fun b31 => withP (guardB b31 true (
   some (t55, H43))
   (some (.tup [], H43))) fun t56 H44 =>
  withB (A.asG false t56) fun b32 => withP (guardB b32 false (
   some (a0, H44))
   (some (.tup [], H44))) fun t57 H45 =>
  withB (A.asG false t56) fun b33 => withP (guardB b33 false (
   some (a0, H45))
   (some (.tup [], H45))) fun t58 H46 =>
  withB (A.asG false t56) fun b34 => withP (guardB b34 false (
   some (a1, H46))
   (some (.tup [], H46))) fun t59 H47 =>
  withB (A.asG false t56) fun b35 => withP (guardB b35 false (
   withV (A.bin base.P .add 9 t58 t59 false H47) fun t60 =>
   some (t60, H47))
   (some (.tup [], H47))) fun t60 H48 =>
  withB (A.asG false t56) fun b36 => withP (guardB b36 false (
   cl base pol n 14 [t57, t60] H48 fun t61 H49 =>
   some (t61, H49))
   (some (.tup [], H48))) fun t61 H50 =>
  withB (A.asG false t56) fun b37 => withP (guardB b37 false (
   withV (A.bin base.P .eql 3 t61 (AV.int .i64 (-1)) true H50) fun t62 =>
   some (t62, H50))
   (some (.tup [], H50))) fun t62 H51 =>
  withB (A.asG true t52) fun b38 => withP (guardB b38 true (
   withV (A.pick t56 (AV.bool true) t62) fun t63 =>
   some (t63, H51))
   (some (.tup [], H51))) fun t63 H52 =>
  withV (A.pick t52 t63 (AV.bool false)) fun t64 =>
  withB (A.asG true t64) fun b41 => withP (guardB b41 true (
   some (a0, H52))
   (some (.tup [], H52))) fun t66 H53 =>
  withB (A.asG true t64) fun b42 => withP (guardB b42 true (
   some (a1, H53))
   (some (.tup [], H53))) fun t67 H54 =>
  withB (A.asG true t64) fun b43 => withP (guardB b43 true (
   withV (A.bin base.P .add 9 t66 t67 false H54) fun t68 =>
   some (t68, H54))
   (some (.tup [], H54))) fun t68 H55 =>
  withB (A.asG true t64) fun b44 => withP (guardB b44 true (
   some (a0, H55))
   (some (.tup [], H55))) fun t69 H56 =>
  withB (A.asG true t64) fun b45 => withP (guardB b45 true (
   some (a1, H56))
   (some (.tup [], H56))) fun t70 H57 =>
  withB (A.asG true t64) fun b46 => withP (guardB b46 true (
   withV (A.bin base.P .add 9 t69 t70 false H57) fun t71 =>
   some (t71, H57))
   (some (.tup [], H57))) fun t71 H58 =>
  withB (A.asG true t64) fun b47 => withP (guardB b47 true (
   cl base pol n 14 [t68, t71] H58 fun t72 H59 =>
   some (t72, H59))
   (some (.tup [], H58))) fun t72 H60 =>
  withB (A.asG true t64) fun b48 => withP (guardB b48 true (
   withV (A.bin base.P .eql 3 t72 (AV.int .i64 0) true H60) fun t73 =>
   some (t73, H60))
   (some (.tup [], H60))) fun t73 H61 =>
  withV (A.pick t64 t73 (AV.bool false)) fun t74 =>
  k t74 H61))) := by kernel_rfl
theorem S10 (pol : FuncId → Pol) (n : Nat) (R : Type) (k : AV → Heap → Option R) (a0 : AV) (H : Heap) : callF (base.with pol) (n + 1) R 10 [a0] H k =
  (cl base pol n 24 [a0] H fun t4 H1 =>
  k t4 H1) := by kernel_rfl
theorem S12 (pol : FuncId → Pol) (n : Nat) (R : Type) (k : AV → Heap → Option R) (a0 : AV) (H : Heap) : callF (base.with pol) (n + 1) R 12 [a0] H k =
  (cl base pol n 24 [a0] H fun t4 H1 =>
  k t4 H1) := by kernel_rfl
theorem L14_0_step (pol : FuncId → Pol) (n m : Nat) (t0 t1 : AV) (H : Heap) : L14_0 pol n (m + 1) ⟨[t0, t1], []⟩ H =
  (cl base pol n 33 [t0] H fun t22 H1 =>
  extractK t22 0 fun t23 =>
  extractK t22 1 fun t24 =>
  cl base pol n 33 [t1] H1 fun t27 H2 =>
  extractK t27 0 fun t28 =>
  extractK t27 1 fun t29 =>
  withV (A.bin base.P .eql 3 t24 (AV.int .i64 0) true H2) fun t32 =>
  withB (A.asG false t32) fun b3 => withP (guardB b3 false (
   some (t29, H2))
   (some (.tup [], H2))) fun t34 H3 =>
  withB (A.asG false t32) fun b4 => withP (guardB b4 false (
   withV (A.bin base.P .eql 3 t34 (AV.int .i64 0) true H3) fun t35 =>
   some (t35, H3))
   (some (.tup [], H3))) fun t35 H4 =>
  withV (A.pick t32 (AV.bool true) t35) fun t36 =>
  A.test t36 (
  cl base pol n 34 [t24, t29] H4 fun t39 H5 =>
   some (0, ⟨[t39], []⟩, H5))
  (
  withV (A.bin base.P .neq 21 t23 t28 false H4) fun t43 =>
   A.test t43 (
   cl base pol n 35 [t23, t28] H4 fun t46 H6 =>
    some (0, ⟨[t46], []⟩, H6))
   (
   withV (A.sliceStr t0 (some t24) none) fun t49 =>
  withV (A.sliceStr t1 (some t29) none) fun t52 =>
  L14_0 pol n m ⟨[t49, t52], []⟩ H4))) := by kernel_rfl
theorem S14 (pol : FuncId → Pol) (n : Nat) (R : Type) (k : AV → Heap → Option R) (a0 a1 : AV) (H : Heap) : callF (base.with pol) (n + 1) R 14 [a0, a1] H k =
  (cl base pol n 12 [a0] H fun t10 H1 =>
  withV (A.un .not t10) fun t11 =>
  withB (A.asG false t11) fun b4 => withP (guardB b4 false (
   some (a1, H1))
   (some (.tup [], H1))) fun t13 H2 =>
  withB (A.asG false t11) fun b5 => withP (guardB b5 false (
   cl base pol n 12 [t13] H2 fun t14 H3 =>
   some (t14, H3))
   (some (.tup [], H2))) fun t14 H4 =>
  withB (A.asG false t11) fun b6 => withP (guardB b6 false (
   withV (A.un .not t14) fun t15 =>
   some (t15, H4))
   (some (.tup [], H4))) fun t15 H5 =>
  withV (A.pick t11 (AV.bool true) t15) fun t16 =>
  A.test t16 (
  cl base pol n 32 [a0, a1] H5 fun t19 H6 =>
   k t19 H6)
  (
  bindX (L14_0 pol n n ⟨[a0, a1], []⟩ H5) fun i7 l7 H7 =>
  altN i7 0 (
  bindV (l7.vs.getD 0 .undef) fun t4 => 
  k t4 H7)
  (none))) := by kernel_rfl
theorem L15_0_step (pol : FuncId → Pol) (n m : Nat) (t5 t6 t7 : AV) (H : Heap) : L15_0 pol n (m + 1) ⟨[t5, t6, t7], []⟩ H =
  (withV (A.len t5 H) fun t27 =>
  withV (A.bin base.P .lss 3 t7 t27 false H) fun t28 =>
  withB (A.asG true t28) fun b5 => withP (guardB b5 true (
   some (t7, H))
   (some (.tup [], H))) fun t30 H2 =>
  withB (A.asG true t28) fun b6 => withP (guardB b6 true (
   some (t6, H2))
   (some (.tup [], H2))) fun t31 H3 =>
  withB (A.asG true t28) fun b7 => withP (guardB b7 true (
   withV (A.len t31 H3) fun t32 =>
   some (t32, H3))
   (some (.tup [], H3))) fun t32 H5 =>
  withB (A.asG true t28) fun b8 => withP (guardB b8 true (
   withV (A.bin base.P .lss 3 t30 t32 false H5) fun t33 =>
   some (t33, H5))
   (some (.tup [], H5))) fun t33 H6 =>
  withV (A.pick t28 t33 (AV.bool false)) fun t34 =>
  A.test t34 (
  withV (A.idx 1 t5 t7 H6) fun t39 =>
  withV (A.load false 1 t39 H6) fun t40 =>
  withV (A.idx 1 t6 t7 H6) fun t43 =>
  withV (A.load false 1 t43 H6) fun t44 =>
  withV (A.bin base.P .neq 21 t40 t44 false H6) fun t45 =>
  A.test t45 (
  withV (A.idx 1 t5 t7 H6) fun t48 =>
   withV (A.load false 1 t48 H6) fun t49 =>
   withV (Go.Den.convert base 21 2 t49) fun t50 =>
   withV (A.idx 1 t6 t7 H6) fun t53 =>
   withV (A.load false 1 t53 H6) fun t54 =>
   withV (Go.Den.convert base 21 2 t54) fun t55 =>
   clQ base pol 37 [t50, t55] H6 fun t56 H7 =>
   some (1, ⟨[t56, t5, t6], []⟩, H7))
  (
  withV (A.bin base.P .add 3 t7 (AV.int .i64 1) true H6) fun t36 =>
  L15_0 pol n m ⟨[t5, t6, t36], []⟩ H6))
  (
  some (0, ⟨[.undef, t5, t6], []⟩, H6))) := by kernel_rfl
theorem S15 (pol : FuncId → Pol) (n : Nat) (R : Type) (k : AV → Heap → Option R) (a0 a1 : AV) (H : Heap) : callF (base.with pol) (n + 1) R 15 [a0, a1] H k =
  (cl base pol n 10 [a0] H fun t9 H1 =>
  withV (A.un .not t9) fun t10 =>
  withB (A.asG false t10) fun b4 => withP (guardB b4 false (
   some (a1, H1))
   (some (.tup [], H1))) fun t12 H2 =>
  withB (A.asG false t10) fun b5 => withP (guardB b5 false (
   cl base pol n 10 [t12] H2 fun t13 H3 =>
   some (t13, H3))
   (some (.tup [], H2))) fun t13 H4 =>
  withB (A.asG false t10) fun b6 => withP (guardB b6 false (
   withV (A.un .not t13) fun t14 =>
   some (t14, H4))
   (some (.tup [], H4))) fun t14 H5 =>
  withV (A.pick t10 (AV.bool true) t14) fun t15 =>
  A.test t15 (
  convertK base 9 35 a0 H5 fun t17 H6 =>
   convertK base 9 35 a1 H6 fun t19 H7 =>
   cl base pol n 36 [t17, t19] H7 fun t20 H8 =>
   k t20 H8)
  (
  convertK base 9 54 a0 H5 fun t22 H9 =>
  convertK base 9 54 a1 H9 fun t24 H10 =>
  bindX (L15_0 pol n n ⟨[t22, t24, (AV.int .i64 0)], []⟩ H10) fun i11 l11 H11 =>
  altN i11 0 (
  bindV (l11.vs.getD 0 .undef) fun t4 => bindV (l11.vs.getD 1 .undef) fun t5 => bindV (l11.vs.getD 2 .undef) fun t6 => 
  withV (A.len t5 H11) fun t58 =>
  withV (A.len t6 H11) fun t60 =>
  cl base pol n 37 [t58, t60] H11 fun t61 H14 =>
  k t61 H14)
  (altN i11 1 (
  bindV (l11.vs.getD 0 .undef) fun t4 => bindV (l11.vs.getD 1 .undef) fun t5 => bindV (l11.vs.getD 2 .undef) fun t6 => 
  k t4 H11)
  (none)))) := by kernel_rfl
end Go.Proofs.YtdkjednjlpcboaaDoor

/- What each function does, in Den's words. -/
set_option maxRecDepth 100000
namespace Go.Proofs.YtdkjednjlpcboaaDoor
open Go Go.Den
theorem L16_1_step (pol : FuncId → Pol) (n m : Nat) (t3 t6 t7 : AV) (H : Heap) : L16_1 pol n (m + 1) ⟨[t3, t6, t7], []⟩ H =
  (withV (A.bin base.P .lss 3 t6 t7 false H) fun t28 =>
  A.test t28 (
  withV (A.idx 1 t3 t7 H) fun t39 =>
  withV (A.load false 1 t39 H) fun t40 =>
  withV (A.idx 1 t3 t6 H) fun t43 =>
  withV (A.load false 1 t43 H) fun t44 =>
  withV (A.idx 1 t3 t6 H) fun t45 =>
  withH (A.store 1 t45 t40 H) fun H1 =>
  withV (A.idx 1 t3 t7 H1) fun t46 =>
  withH (A.store 1 t46 t44 H1) fun H2 =>
  withV (A.bin base.P .add 3 t6 (AV.int .i64 1) true H2) fun t30 =>
  withV (A.bin base.P .sub 3 t7 (AV.int .i64 1) true H2) fun t32 =>
  L16_1 pol n m ⟨[t3, t30, t32], []⟩ H2)
  (
  some (0, ⟨[t3], []⟩, H))) := by kernel_rfl
theorem L16_0_step (pol : FuncId → Pol) (n m : Nat) (t3 t15 : AV) (H : Heap) : L16_0 pol n (m + 1) ⟨[t3, t15], []⟩ H =
  (nextK t15 H fun t16 H1 =>
  extractK t16 0 fun t17 =>
  A.test t17 (
  extractK t16 2 fun t18 =>
  withL (A.fillElems 1 (List.replicate 1 (AV.int .i32 0)) [(0, 1, t18)]) fun es =>
  bindV (.sl H1.length 0 0 es.length es.length) fun t21 => bindH (H1 ++ [.row 0 1 21 es]) fun H2 =>
  withL (newsZ base 1 4 (AV.int .i32 0) 54 t21 H2) fun es =>
  withVH (A.append 1 4 21 t3 es H2) fun t22 H3 =>
  L16_0 pol n m ⟨[t22, t15], []⟩ H3)
  (
  some (0, ⟨[t3], []⟩, H1))) := by kernel_rfl
theorem S16 (pol : FuncId → Pol) (n : Nat) (R : Type) (k : AV → Heap → Option R) (a0 : AV) (H : Heap) : callF (base.with pol) (n + 1) R 16 [a0] H k =
  (cl base pol n 12 [a0] H fun t9 H1 =>
  withV (A.un .not t9) fun t10 =>
  A.test t10 (
  k (AV.str []) H1)
  (
  withV (A.lenStr a0) fun t12 =>
  withVH (A.makeSlice 1 4 21 (AV.int .i32 0) (AV.int .i64 0) t12 H1) fun t13 H3 =>
  rangeK a0 H3 fun t15 H4 =>
  bindX (L16_0 pol n n ⟨[t13, t15], []⟩ H4) fun i5 l5 H5 =>
  altN i5 0 (
  bindV (l5.vs.getD 0 .undef) fun t3 => 
  withV (A.len t3 H5) fun t24 =>
  withV (A.bin base.P .sub 3 t24 (AV.int .i64 1) true H5) fun t25 =>
  bindX (L16_1 pol n n ⟨[t3, (AV.int .i64 0), t25], []⟩ H5) fun i7 l7 H7 =>
  altN i7 0 (
  bindV (l7.vs.getD 0 .undef) fun t3 => 
  convertK base 54 9 t3 H7 fun t48 H8 =>
  k t48 H8)
  (none))
  (none))) := by kernel_rfl
theorem S17 (pol : FuncId → Pol) (n : Nat) (R : Type) (k : AV → Heap → Option R) (a0 : AV) (H : Heap) : callF (base.with pol) (n + 1) R 17 [a0] H k =
  (cl base pol n 12 [a0] H fun t4 H1 =>
  withV (A.un .not t4) fun t5 =>
  A.test t5 (
  k (AV.int .i64 (-1)) H1)
  (
  cl base pol n 38 [a0] H1 fun t7 H2 =>
  k t7 H2)) := by kernel_rfl
theorem L24_1_step (pol : FuncId → Pol) (n m : Nat) (t0 : AV) (H : Heap) : L24_1 pol n (m + 1) ⟨[t0], []⟩ H =
  (withV (A.lenStr t0) fun t43 =>
  withV (A.bin base.P .gtr 3 t43 (AV.int .i64 32) true H) fun t44 =>
  withB (A.asG true t44) fun b4 => withP (guardB b4 true (
   some (t0, H))
   (some (.tup [], H))) fun t46 H2 =>
  withB (A.asG true t44) fun b5 => withP (guardB b5 true (
   cl base pol n 44 [t46] H2 fun t47 H3 =>
   some (t47, H3))
   (some (.tup [], H2))) fun t47 H4 =>
  withB (A.asG true t44) fun b6 => withP (guardB b6 true (
   some (t0, H4))
   (some (.tup [], H4))) fun t48 H5 =>
  withB (A.asG true t44) fun b7 => withP (guardB b7 true (
   withV (A.sliceStr t48 (some (AV.int .i64 8)) none) fun t49 =>
   some (t49, H5))
   (some (.tup [], H5))) fun t49 H6 =>
  withB (A.asG true t44) fun b8 => withP (guardB b8 true (
   cl base pol n 44 [t49] H6 fun t50 H7 =>
   some (t50, H7))
   (some (.tup [], H6))) fun t50 H8 =>
  withB (A.asG true t44) fun b9 => withP (guardB b9 true (
   withV (A.bin base.P .or 12 t47 t50 false H8) fun t51 =>
   some (t51, H8))
   (some (.tup [], H8))) fun t51 H9 =>
  withB (A.asG true t44) fun b10 => withP (guardB b10 true (
   some (t0, H9))
   (some (.tup [], H9))) fun t52 H10 =>
  withB (A.asG true t44) fun b11 => withP (guardB b11 true (
   withV (A.sliceStr t52 (some (AV.int .i64 16)) none) fun t53 =>
   some (t53, H10))
   (some (.tup [], H10))) fun t53 H11 =>
  withB (A.asG true t44) fun b12 => withP (guardB b12 true (
   cl base pol n 44 [t53] H11 fun t54 H12 =>
   some (t54, H12))
   (some (.tup [], H11))) fun t54 H13 =>
  withB (A.asG true t44) fun b13 => withP (guardB b13 true (
   some (t0, H13))
   (some (.tup [], H13))) fun t55 H14 =>
  withB (A.asG true t44) fun b14 => withP (guardB b14 true (
   withV (A.sliceStr t55 (some (AV.int .i64 24)) none) fun t56 =>
   some (t56, H14))
   (some (.tup [], H14))) fun t56 H15 =>
  withB (A.asG true t44) fun b15 => withP (guardB b15 true (
   cl base pol n 44 [t56] H15 fun t57 H16 =>
   some (t57, H16))
   (some (.tup [], H15))) fun t57 H17 =>
  withB (A.asG true t44) fun b16 => withP (guardB b16 true (
   withV (A.bin base.P .or 12 t54 t57 false H17) fun t58 =>
   some (t58, H17))
   (some (.tup [], H17))) fun t58 H18 =>
  withB (A.asG true t44) fun b17 => withP (guardB b17 true (
   withV (A.bin base.P .or 12 t51 t58 false H18) fun t59 =>
   some (t59, H18))
   (some (.tup [], H18))) fun t59 H19 =>
  withB (A.asG true t44) fun b18 => withP (guardB b18 true (
   withV (A.bin base.P .and 12 t59 (AV.int .u64 9259542123273814144) true H19) fun t60 =>
   some (t60, H19))
   (some (.tup [], H19))) fun t60 H20 =>
  withB (A.asG true t44) fun b19 => withP (guardB b19 true (
   withV (A.bin base.P .eql 12 t60 (AV.int .u64 0) true H20) fun t61 =>
   some (t61, H20))
   (some (.tup [], H20))) fun t61 H21 =>
  withV (A.pick t44 t61 (AV.bool false)) fun t62 =>
  chkD ((bif ((t48.heapy || (false || false)) && actsB (A.asG true t44) true) then (sameV (withV (A.sliceStr t48 (some (AV.int .i64 8)) none) fun t49 =>    some (.val t49)) t49 && (sameV (withV (A.sliceStr t48 (some (AV.int .i64 8)) none) fun t49 =>    some (.val t49)) t49 && true)) else true) && ((bif ((t47.heapy || (t50.heapy || false)) && actsB (A.asG true t44) true) then (sameV (withV (A.bin base.P .or 12 t47 t50 false H8) fun t51 =>    some (.val t51)) t51 && (sameV (withV (A.bin base.P .or 12 t47 t50 false H13) fun t51 =>    some (.val t51)) t51 && (sameV (withV (A.bin base.P .or 12 t47 t50 false H17) fun t51 =>    some (.val t51)) t51 && true))) else true) && ((bif ((t52.heapy || (false || false)) && actsB (A.asG true t44) true) then (sameV (withV (A.sliceStr t52 (some (AV.int .i64 16)) none) fun t53 =>    some (.val t53)) t53 && (sameV (withV (A.sliceStr t52 (some (AV.int .i64 16)) none) fun t53 =>    some (.val t53)) t53 && (sameV (withV (A.sliceStr t52 (some (AV.int .i64 16)) none) fun t53 =>    some (.val t53)) t53 && true))) else true) && ((bif ((t55.heapy || (false || false)) && actsB (A.asG true t44) true) then (sameV (withV (A.sliceStr t55 (some (AV.int .i64 24)) none) fun t56 =>    some (.val t56)) t56 && (sameV (withV (A.sliceStr t55 (some (AV.int .i64 24)) none) fun t56 =>    some (.val t56)) t56 && (sameV (withV (A.sliceStr t55 (some (AV.int .i64 24)) none) fun t56 =>    some (.val t56)) t56 && (sameV (withV (A.sliceStr t55 (some (AV.int .i64 24)) none) fun t56 =>    some (.val t56)) t56 && true)))) else true) && true)))) (
  A.test t62 (
  withV (A.sliceStr t0 (some (AV.int .i64 32)) none) fun t64 =>
  L24_1 pol n m ⟨[t64], []⟩ H21)
  (
  some (0, ⟨[t0], []⟩, H21)))) := by kernel_rfl
theorem L24_0_step (pol : FuncId → Pol) (n m : Nat) (t0 : AV) (H : Heap) : L24_0 pol n (m + 1) ⟨[t0], []⟩ H =
  (withV (A.lenStr t0) fun t8 =>
  withV (A.bin base.P .gtr 3 t8 (AV.int .i64 0) true H) fun t9 =>
  A.test t9 (
  bindX (withV (A.index t0 (AV.int .i64 0)) fun t11 =>
   withV (A.bin base.P .lss 5 t11 (AV.int .u8 128) true H) fun t13 =>
   A.test t13 (
   withV (A.sliceStr t0 (some (AV.int .i64 1)) none) fun t15 =>
    withV (A.lenStr t15) fun t17 =>
    withV (A.bin base.P .gtr 3 t17 (AV.int .i64 8) true H) fun t18 =>
    withB (A.asG true t18) fun b4 => withP (guardB b4 true (
     some (t15, H))
     (some (.tup [], H))) fun t20 H3 =>
    withB (A.asG true t18) fun b5 => withP (guardB b5 true (
     cl base pol n 44 [t20] H3 fun t21 H4 =>
     some (t21, H4))
     (some (.tup [], H3))) fun t21 H5 =>
    withB (A.asG true t18) fun b6 => withP (guardB b6 true (
     withV (A.bin base.P .and 12 t21 (AV.int .u64 9259542123273814144) true H5) fun t22 =>
     some (t22, H5))
     (some (.tup [], H5))) fun t22 H6 =>
    withB (A.asG true t18) fun b7 => withP (guardB b7 true (
     withV (A.bin base.P .eql 12 t22 (AV.int .u64 0) true H6) fun t23 =>
     some (t23, H6))
     (some (.tup [], H6))) fun t23 H7 =>
    withV (A.pick t18 t23 (AV.bool false)) fun t24 =>
    bindX (A.test t24 (
     withV (A.sliceStr t15 (some (AV.int .i64 8)) none) fun t26 =>
      withV (A.lenStr t26) fun t28 =>
      withV (A.bin base.P .gtr 3 t28 (AV.int .i64 16) true H7) fun t29 =>
      withB (A.asG true t29) fun b4 => withP (guardB b4 true (
       some (t26, H7))
       (some (.tup [], H7))) fun t31 H9 =>
      withB (A.asG true t29) fun b5 => withP (guardB b5 true (
       cl base pol n 44 [t31] H9 fun t32 H10 =>
       some (t32, H10))
       (some (.tup [], H9))) fun t32 H11 =>
      withB (A.asG true t29) fun b6 => withP (guardB b6 true (
       some (t26, H11))
       (some (.tup [], H11))) fun t33 H12 =>
      withB (A.asG true t29) fun b7 => withP (guardB b7 true (
       withV (A.sliceStr t33 (some (AV.int .i64 8)) none) fun t34 =>
       some (t34, H12))
       (some (.tup [], H12))) fun t34 H13 =>
      withB (A.asG true t29) fun b8 => withP (guardB b8 true (
       cl base pol n 44 [t34] H13 fun t35 H14 =>
       some (t35, H14))
       (some (.tup [], H13))) fun t35 H15 =>
      withB (A.asG true t29) fun b9 => withP (guardB b9 true (
       withV (A.bin base.P .or 12 t32 t35 false H15) fun t36 =>
       some (t36, H15))
       (some (.tup [], H15))) fun t36 H16 =>
      withB (A.asG true t29) fun b10 => withP (guardB b10 true (
       withV (A.bin base.P .and 12 t36 (AV.int .u64 9259542123273814144) true H16) fun t37 =>
       some (t37, H16))
       (some (.tup [], H16))) fun t37 H17 =>
      withB (A.asG true t29) fun b11 => withP (guardB b11 true (
       withV (A.bin base.P .eql 12 t37 (AV.int .u64 0) true H17) fun t38 =>
       some (t38, H17))
       (some (.tup [], H17))) fun t38 H18 =>
      withV (A.pick t29 t38 (AV.bool false)) fun t39 =>
      chkD ((bif ((t33.heapy || (false || false)) && actsB (A.asG true t29) true) then (sameV (withV (A.sliceStr t33 (some (AV.int .i64 8)) none) fun t34 =>        some (.val t34)) t34 && (sameV (withV (A.sliceStr t33 (some (AV.int .i64 8)) none) fun t34 =>        some (.val t34)) t34 && true)) else true) && true) (
      bindX (A.test t39 (
       withV (A.sliceStr t26 (some (AV.int .i64 16)) none) fun t41 =>
        bindX (L24_1 pol n n ⟨[t41], []⟩ H18) fun i19 l19 H19 =>
        altN i19 0 (
        bindV (l19.vs.getD 0 .undef) fun t0 => 
        some (0, ⟨[t0], []⟩, H19))
        (none))
       (
       some (0, ⟨[t26], []⟩, H18))) fun i20 l20 H20 =>
      altN i20 0 (
      bindV (l20.vs.getD 0 .undef) fun t0 => 
      some (0, ⟨[t0], []⟩, H20))
      (none)))
     (
     some (0, ⟨[t15], []⟩, H7))) fun i21 l21 H21 =>
    altN i21 0 (
    bindV (l21.vs.getD 0 .undef) fun t0 => 
    some (0, ⟨[t0, .undef], []⟩, H21))
    (none))
   (
   withV (A.idxArr 1 256 (globV base 0) t11 H) fun t66 =>
   withV (A.load false 1 t66 H) fun t67 =>
   withV (A.bin base.P .and 5 t67 (AV.int .u8 7) true H) fun t69 =>
   withV (Go.Den.convert base 5 3 t69) fun t70 =>
   withV (A.bin base.P .shr 5 t67 (AV.int .u64 4) true H) fun t72 =>
   withV (A.idxArr 2 16 (globV base 1) t72 H) fun t73 =>
   withV (A.load true 2 t73 H) fun t74 =>
   bindV (.ptr H.length 0 0 0) fun t6 => bindH (H ++ [.row 0 2 69 [(AV.agg [(AV.int .u8 0), (AV.int .u8 0)])]]) fun H22 =>
   withH (A.store 2 t6 t74 H22) fun H23 =>
   withV (A.bin base.P .eql 3 t70 (AV.int .i64 2) true H23) fun t77 =>
   bindX (A.test t77 (
    withV (A.lenStr t0) fun t79 =>
     withV (A.bin base.P .lss 3 t79 (AV.int .i64 2) true H23) fun t80 =>
     withB (A.asG false t80) fun b4 => withP (guardB b4 false (
      some (t0, H23))
      (some (.tup [], H23))) fun t82 H25 =>
     withB (A.asG false t80) fun b5 => withP (guardB b5 false (
      withV (A.index t82 (AV.int .i64 1)) fun t83 =>
      some (t83, H25))
      (some (.tup [], H25))) fun t83 H26 =>
     withB (A.asG false t80) fun b6 => withP (guardB b6 false (
      withV (A.fa 0 t6 H26) fun t84 =>
      some (t84, H26))
      (some (.tup [], H26))) fun t84 H27 =>
     withB (A.asG false t80) fun b7 => withP (guardB b7 false (
      withV (A.load false 1 t84 H27) fun t85 =>
      some (t85, H27))
      (some (.tup [], H27))) fun t85 H28 =>
     withB (A.asG false t80) fun b8 => withP (guardB b8 false (
      withV (A.bin base.P .lss 5 t83 t85 false H28) fun t86 =>
      some (t86, H28))
      (some (.tup [], H28))) fun t86 H29 =>
     withV (A.pick t80 (AV.bool true) t86) fun t87 =>
     withB (A.asG false t87) fun b11 => withP (guardB b11 false (
      withV (A.fa 1 t6 H29) fun t89 =>
      some (t89, H29))
      (some (.tup [], H29))) fun t89 H30 =>
     withB (A.asG false t87) fun b12 => withP (guardB b12 false (
      withV (A.load false 1 t89 H30) fun t90 =>
      some (t90, H30))
      (some (.tup [], H30))) fun t90 H31 =>
     withB (A.asG false t87) fun b13 => withP (guardB b13 false (
      some (t0, H31))
      (some (.tup [], H31))) fun t91 H32 =>
     withB (A.asG false t87) fun b14 => withP (guardB b14 false (
      withV (A.index t91 (AV.int .i64 1)) fun t92 =>
      some (t92, H32))
      (some (.tup [], H32))) fun t92 H33 =>
     withB (A.asG false t87) fun b15 => withP (guardB b15 false (
      withV (A.bin base.P .lss 5 t90 t92 false H33) fun t93 =>
      some (t93, H33))
      (some (.tup [], H33))) fun t93 H34 =>
     withV (A.pick t87 (AV.bool true) t93) fun t94 =>
     A.test t94 (
     some (1, ⟨[t0, (AV.bool false)], []⟩, H34))
     (
     withV (A.sliceStr t0 (some (AV.int .i64 2)) none) fun t96 =>
     some (0, ⟨[t96, .undef], []⟩, H34)))
    (
    withV (A.bin base.P .eql 3 t70 (AV.int .i64 3) true H23) fun t98 =>
     bindX (A.test t98 (
      withV (A.lenStr t0) fun t100 =>
       withV (A.bin base.P .lss 3 t100 (AV.int .i64 3) true H23) fun t101 =>
       withB (A.asG false t101) fun b4 => withP (guardB b4 false (
        some (t0, H23))
        (some (.tup [], H23))) fun t103 H36 =>
       withB (A.asG false t101) fun b5 => withP (guardB b5 false (
        withV (A.index t103 (AV.int .i64 1)) fun t104 =>
        some (t104, H36))
        (some (.tup [], H36))) fun t104 H37 =>
       withB (A.asG false t101) fun b6 => withP (guardB b6 false (
        withV (A.fa 0 t6 H37) fun t105 =>
        some (t105, H37))
        (some (.tup [], H37))) fun t105 H38 =>
       withB (A.asG false t101) fun b7 => withP (guardB b7 false (
        withV (A.load false 1 t105 H38) fun t106 =>
        some (t106, H38))
        (some (.tup [], H38))) fun t106 H39 =>
       withB (A.asG false t101) fun b8 => withP (guardB b8 false (
        withV (A.bin base.P .lss 5 t104 t106 false H39) fun t107 =>
        some (t107, H39))
        (some (.tup [], H39))) fun t107 H40 =>
       withV (A.pick t101 (AV.bool true) t107) fun t108 =>
       withB (A.asG false t108) fun b11 => withP (guardB b11 false (
        withV (A.fa 1 t6 H40) fun t110 =>
        some (t110, H40))
        (some (.tup [], H40))) fun t110 H41 =>
       withB (A.asG false t108) fun b12 => withP (guardB b12 false (
        withV (A.load false 1 t110 H41) fun t111 =>
        some (t111, H41))
        (some (.tup [], H41))) fun t111 H42 =>
       withB (A.asG false t108) fun b13 => withP (guardB b13 false (
        some (t0, H42))
        (some (.tup [], H42))) fun t112 H43 =>
       withB (A.asG false t108) fun b14 => withP (guardB b14 false (
        withV (A.index t112 (AV.int .i64 1)) fun t113 =>
        some (t113, H43))
        (some (.tup [], H43))) fun t113 H44 =>
       withB (A.asG false t108) fun b15 => withP (guardB b15 false (
        withV (A.bin base.P .lss 5 t111 t113 false H44) fun t114 =>
        some (t114, H44))
        (some (.tup [], H44))) fun t114 H45 =>
       withV (A.pick t108 (AV.bool true) t114) fun t115 =>
       withB (A.asG false t115) fun b18 => withP (guardB b18 false (
        some (t0, H45))
        (some (.tup [], H45))) fun t117 H46 =>
       withB (A.asG false t115) fun b19 => withP (guardB b19 false (
        withV (A.index t117 (AV.int .i64 2)) fun t118 =>
        some (t118, H46))
        (some (.tup [], H46))) fun t118 H47 =>
       withB (A.asG false t115) fun b20 => withP (guardB b20 false (
        withV (A.bin base.P .lss 5 t118 (AV.int .u8 128) true H47) fun t119 =>
        some (t119, H47))
        (some (.tup [], H47))) fun t119 H48 =>
       withV (A.pick t115 (AV.bool true) t119) fun t120 =>
       withB (A.asG false t120) fun b23 => withP (guardB b23 false (
        some (t0, H48))
        (some (.tup [], H48))) fun t122 H49 =>
       withB (A.asG false t120) fun b24 => withP (guardB b24 false (
        withV (A.index t122 (AV.int .i64 2)) fun t123 =>
        some (t123, H49))
        (some (.tup [], H49))) fun t123 H50 =>
       withB (A.asG false t120) fun b25 => withP (guardB b25 false (
        withV (A.bin base.P .lss 5 (AV.int .u8 191) t123 false H50) fun t124 =>
        some (t124, H50))
        (some (.tup [], H50))) fun t124 H51 =>
       withV (A.pick t120 (AV.bool true) t124) fun t125 =>
       A.test t125 (
       some (1, ⟨[t0, (AV.bool false)], []⟩, H51))
       (
       withV (A.sliceStr t0 (some (AV.int .i64 3)) none) fun t127 =>
       some (0, ⟨[t127, .undef], []⟩, H51)))
      (
      withV (A.bin base.P .eql 3 t70 (AV.int .i64 4) true H23) fun t129 =>
       A.test t129 (
       withV (A.lenStr t0) fun t131 =>
        withV (A.bin base.P .lss 3 t131 (AV.int .i64 4) true H23) fun t132 =>
        withB (A.asG false t132) fun b4 => withP (guardB b4 false (
         some (t0, H23))
         (some (.tup [], H23))) fun t134 H53 =>
        withB (A.asG false t132) fun b5 => withP (guardB b5 false (
         withV (A.index t134 (AV.int .i64 1)) fun t135 =>
         some (t135, H53))
         (some (.tup [], H53))) fun t135 H54 =>
        withB (A.asG false t132) fun b6 => withP (guardB b6 false (
         withV (A.fa 0 t6 H54) fun t136 =>
         some (t136, H54))
         (some (.tup [], H54))) fun t136 H55 =>
        withB (A.asG false t132) fun b7 => withP (guardB b7 false (
         withV (A.load false 1 t136 H55) fun t137 =>
         some (t137, H55))
         (some (.tup [], H55))) fun t137 H56 =>
        withB (A.asG false t132) fun b8 => withP (guardB b8 false (
         withV (A.bin base.P .lss 5 t135 t137 false H56) fun t138 =>
         some (t138, H56))
         (some (.tup [], H56))) fun t138 H57 =>
        withV (A.pick t132 (AV.bool true) t138) fun t139 =>
        withB (A.asG false t139) fun b11 => withP (guardB b11 false (
         withV (A.fa 1 t6 H57) fun t141 =>
         some (t141, H57))
         (some (.tup [], H57))) fun t141 H58 =>
        withB (A.asG false t139) fun b12 => withP (guardB b12 false (
         withV (A.load false 1 t141 H58) fun t142 =>
         some (t142, H58))
         (some (.tup [], H58))) fun t142 H59 =>
        withB (A.asG false t139) fun b13 => withP (guardB b13 false (
         some (t0, H59))
         (some (.tup [], H59))) fun t143 H60 =>
        withB (A.asG false t139) fun b14 => withP (guardB b14 false (
         withV (A.index t143 (AV.int .i64 1)) fun t144 =>
         some (t144, H60))
         (some (.tup [], H60))) fun t144 H61 =>
        withB (A.asG false t139) fun b15 => withP (guardB b15 false (
         withV (A.bin base.P .lss 5 t142 t144 false H61) fun t145 =>
         some (t145, H61))
         (some (.tup [], H61))) fun t145 H62 =>
        withV (A.pick t139 (AV.bool true) t145) fun t146 =>
        withB (A.asG false t146) fun b18 => withP (guardB b18 false (
         some (t0, H62))
         (some (.tup [], H62))) fun t148 H63 =>
        withB (A.asG false t146) fun b19 => withP (guardB b19 false (
         withV (A.index t148 (AV.int .i64 2)) fun t149 =>
         some (t149, H63))
         (some (.tup [], H63))) fun t149 H64 =>
        withB (A.asG false t146) fun b20 => withP (guardB b20 false (
         withV (A.bin base.P .lss 5 t149 (AV.int .u8 128) true H64) fun t150 =>
         some (t150, H64))
         (some (.tup [], H64))) fun t150 H65 =>
        withV (A.pick t146 (AV.bool true) t150) fun t151 =>
        withB (A.asG false t151) fun b23 => withP (guardB b23 false (
         some (t0, H65))
         (some (.tup [], H65))) fun t153 H66 =>
        withB (A.asG false t151) fun b24 => withP (guardB b24 false (
         withV (A.index t153 (AV.int .i64 2)) fun t154 =>
         some (t154, H66))
         (some (.tup [], H66))) fun t154 H67 =>
        withB (A.asG false t151) fun b25 => withP (guardB b25 false (
         withV (A.bin base.P .lss 5 (AV.int .u8 191) t154 false H67) fun t155 =>
         some (t155, H67))
         (some (.tup [], H67))) fun t155 H68 =>
        withV (A.pick t151 (AV.bool true) t155) fun t156 =>
        withB (A.asG false t156) fun b28 => withP (guardB b28 false (
         some (t0, H68))
         (some (.tup [], H68))) fun t158 H69 =>
        withB (A.asG false t156) fun b29 => withP (guardB b29 false (
         withV (A.index t158 (AV.int .i64 3)) fun t159 =>
         some (t159, H69))
         (some (.tup [], H69))) fun t159 H70 =>
        withB (A.asG false t156) fun b30 => withP (guardB b30 false (
         withV (A.bin base.P .lss 5 t159 (AV.int .u8 128) true H70) fun t160 =>
         some (t160, H70))
         (some (.tup [], H70))) fun t160 H71 =>
        withV (A.pick t156 (AV.bool true) t160) fun t161 =>
        withB (A.asG false t161) fun b33 => withP (guardB b33 false (
         some (t0, H71))
         (some (.tup [], H71))) fun t163 H72 =>
        withB (A.asG false t161) fun b34 => withP (guardB b34 false (
         withV (A.index t163 (AV.int .i64 3)) fun t164 =>
         some (t164, H72))
         (some (.tup [], H72))) fun t164 H73 =>
        withB (A.asG false t161) fun b35 => withP (guardB b35 false (
         withV (A.bin base.P .lss 5 (AV.int .u8 191) t164 false H73) fun t165 =>
         some (t165, H73))
         (some (.tup [], H73))) fun t165 H74 =>
        withV (A.pick t161 (AV.bool true) t165) fun t166 =>
        A.test t166 (
        some (1, ⟨[t0, (AV.bool false)], []⟩, H74))
        (
        withV (A.sliceStr t0 (some (AV.int .i64 4)) none) fun t168 =>
        some (0, ⟨[t168, .undef], []⟩, H74)))
       (
       some (1, ⟨[t0, (AV.bool false)], []⟩, H23)))) fun i75 l75 H75 =>
     altN i75 0 (
     bindV (l75.vs.getD 0 .undef) fun t0 => bindV (l75.vs.getD 1 .undef) fun t2 => 
     some (0, ⟨[t0, t2], []⟩, H75))
     (altN i75 1 (
     bindV (l75.vs.getD 0 .undef) fun t0 => bindV (l75.vs.getD 1 .undef) fun t2 => 
     some (1, ⟨[t0, t2], []⟩, H75))
     (none)))) fun i76 l76 H76 =>
   altN i76 0 (
   bindV (l76.vs.getD 0 .undef) fun t0 => bindV (l76.vs.getD 1 .undef) fun t2 => 
   some (0, ⟨[t0, t2], []⟩, H76))
   (altN i76 1 (
   bindV (l76.vs.getD 0 .undef) fun t0 => bindV (l76.vs.getD 1 .undef) fun t2 => 
   some (1, ⟨[t0, t2], []⟩, H76))
   (none)))) fun i77 l77 H77 =>
  altN i77 0 (
  bindV (l77.vs.getD 0 .undef) fun t0 => bindV (l77.vs.getD 1 .undef) fun t2 => 
  L24_0 pol n m ⟨[t0], []⟩ H77)
  (altN i77 1 (
  bindV (l77.vs.getD 0 .undef) fun t0 => bindV (l77.vs.getD 1 .undef) fun t2 => 
  some (1, ⟨[t2], []⟩, H77))
  (none)))
  (
  some (0, ⟨[.undef], []⟩, H))) := by kernel_rfl
theorem S24 (pol : FuncId → Pol) (n : Nat) (R : Type) (k : AV → Heap → Option R) (a0 : AV) (H : Heap) : callF (base.with pol) (n + 1) R 24 [a0] H k =
  (bindX (L24_0 pol n n ⟨[a0], []⟩ H) fun i1 l1 H1 =>
  altN i1 0 (
  bindV (l1.vs.getD 0 .undef) fun t2 => 
  k (AV.bool true) H1)
  (altN i1 1 (
  bindV (l1.vs.getD 0 .undef) fun t2 => 
  k t2 H1)
  (none))) := by kernel_rfl
end Go.Proofs.YtdkjednjlpcboaaDoor

/- What each function does, in Den's words. -/
set_option maxRecDepth 100000
namespace Go.Proofs.YtdkjednjlpcboaaDoor
open Go Go.Den
theorem S32 (pol : FuncId → Pol) (n : Nat) (R : Type) (k : AV → Heap → Option R) (a0 a1 : AV) (H : Heap) : callF (base.with pol) (n + 1) R 32 [a0, a1] H k =
  (cl base pol n 50 [a0] H fun t8 H1 =>
  cl base pol n 50 [a1] H1 fun t10 H2 =>
  A.test t8 (
  A.test t10 (
   k (AV.int .i64 0) H2)
   (
   k (AV.int .i64 (-1)) H2))
  (
  A.test t10 (
  k (AV.int .i64 1) H2)
  (
  withV (A.bin base.P .lss 9 a0 a1 false H2) fun t16 =>
  A.test t16 (
  k (AV.int .i64 (-1)) H2)
  (
  withV (A.bin base.P .gtr 9 a0 a1 false H2) fun t19 =>
  A.test t19 (
  k (AV.int .i64 1) H2)
  (
  k (AV.int .i64 0) H2))))) := by kernel_rfl
theorem S33 (pol : FuncId → Pol) (n : Nat) (R : Type) (k : AV → Heap → Option R) (a0 : AV) (H : Heap) : callF (base.with pol) (n + 1) R 33 [a0] H k =
  (withV (A.bin base.P .neq 9 a0 (AV.str []) true H) fun t5 =>
  withB (A.asG true t5) fun b3 => withP (guardB b3 true (
   some (a0, H))
   (some (.tup [], H))) fun t7 H1 =>
  withB (A.asG true t5) fun b4 => withP (guardB b4 true (
   withV (A.index t7 (AV.int .i64 0)) fun t8 =>
   some (t8, H1))
   (some (.tup [], H1))) fun t8 H2 =>
  withB (A.asG true t5) fun b5 => withP (guardB b5 true (
   withV (A.bin base.P .lss 5 t8 (AV.int .u8 128) true H2) fun t9 =>
   some (t9, H2))
   (some (.tup [], H2))) fun t9 H3 =>
  withV (A.pick t5 t9 (AV.bool false)) fun t10 =>
  A.test t10 (
  withV (A.index a0 (AV.int .i64 0)) fun t12 =>
   withV (Go.Den.convert base 5 21 t12) fun t13 =>
   k (.tup [t13, (AV.int .i64 1)]) H3)
  (
  cl base pol n 51 [a0] H3 fun t16 H4 =>
   extractK t16 0 fun t17 =>
   extractK t16 1 fun t18 =>
   k (.tup [t17, t18]) H4)) := by kernel_rfl
theorem S34 (pol : FuncId → Pol) (n : Nat) (R : Type) (k : AV → Heap → Option R) (a0 a1 : AV) (H : Heap) : callF (base.with pol) (n + 1) R 34 [a0, a1] H k =
  (cl base pol n 52 [a0] H fun t8 H1 =>
  cl base pol n 52 [a1] H1 fun t10 H2 =>
  A.test t8 (
  A.test t10 (
   k (AV.int .i64 0) H2)
   (
   k (AV.int .i64 (-1)) H2))
  (
  A.test t10 (
  k (AV.int .i64 1) H2)
  (
  withV (A.bin base.P .lss 3 a0 a1 false H2) fun t16 =>
  A.test t16 (
  k (AV.int .i64 (-1)) H2)
  (
  withV (A.bin base.P .gtr 3 a0 a1 false H2) fun t19 =>
  A.test t19 (
  k (AV.int .i64 1) H2)
  (
  k (AV.int .i64 0) H2))))) := by kernel_rfl
theorem S35 (pol : FuncId → Pol) (n : Nat) (R : Type) (k : AV → Heap → Option R) (a0 a1 : AV) (H : Heap) : callF (base.with pol) (n + 1) R 35 [a0, a1] H k =
  (cl base pol n 53 [a0] H fun t8 H1 =>
  cl base pol n 53 [a1] H1 fun t10 H2 =>
  A.test t8 (
  A.test t10 (
   k (AV.int .i64 0) H2)
   (
   k (AV.int .i64 (-1)) H2))
  (
  A.test t10 (
  k (AV.int .i64 1) H2)
  (
  withV (A.bin base.P .lss 21 a0 a1 false H2) fun t16 =>
  A.test t16 (
  k (AV.int .i64 (-1)) H2)
  (
  withV (A.bin base.P .gtr 21 a0 a1 false H2) fun t19 =>
  A.test t19 (
  k (AV.int .i64 1) H2)
  (
  k (AV.int .i64 0) H2))))) := by kernel_rfl
theorem L36_0_step (pol : FuncId → Pol) (n m : Nat) (t0 t1 t5 : AV) (H : Heap) : L36_0 pol n (m + 1) ⟨[t0, t1, t5], []⟩ H =
  (withV (A.len t0 H) fun t8 =>
  withV (A.bin base.P .lss 3 t5 t8 false H) fun t9 =>
  withB (A.asG true t9) fun b5 => withP (guardB b5 true (
   some (t5, H))
   (some (.tup [], H))) fun t11 H2 =>
  withB (A.asG true t9) fun b6 => withP (guardB b6 true (
   some (t1, H2))
   (some (.tup [], H2))) fun t12 H3 =>
  withB (A.asG true t9) fun b7 => withP (guardB b7 true (
   withV (A.len t12 H3) fun t13 =>
   some (t13, H3))
   (some (.tup [], H3))) fun t13 H5 =>
  withB (A.asG true t9) fun b8 => withP (guardB b8 true (
   withV (A.bin base.P .lss 3 t11 t13 false H5) fun t14 =>
   some (t14, H5))
   (some (.tup [], H5))) fun t14 H6 =>
  withV (A.pick t9 t14 (AV.bool false)) fun t15 =>
  A.test t15 (
  withV (A.idx 1 t0 t5 H6) fun t20 =>
  withV (A.load false 1 t20 H6) fun t21 =>
  withV (A.idx 1 t1 t5 H6) fun t24 =>
  withV (A.load false 1 t24 H6) fun t25 =>
  withV (A.bin base.P .neq 5 t21 t25 false H6) fun t26 =>
  A.test t26 (
  withV (A.idx 1 t0 t5 H6) fun t29 =>
   withV (A.load false 1 t29 H6) fun t30 =>
   withV (Go.Den.convert base 5 2 t30) fun t31 =>
   withV (A.idx 1 t1 t5 H6) fun t34 =>
   withV (A.load false 1 t34 H6) fun t35 =>
   withV (Go.Den.convert base 5 2 t35) fun t36 =>
   clQ base pol 37 [t31, t36] H6 fun t37 H7 =>
   some (1, ⟨[t0, t1, t37], []⟩, H7))
  (
  withV (A.bin base.P .add 3 t5 (AV.int .i64 1) true H6) fun t17 =>
  L36_0 pol n m ⟨[t0, t1, t17], []⟩ H6))
  (
  some (0, ⟨[t0, t1, .undef], []⟩, H6))) := by kernel_rfl
theorem S36 (pol : FuncId → Pol) (n : Nat) (R : Type) (k : AV → Heap → Option R) (a0 a1 : AV) (H : Heap) : callF (base.with pol) (n + 1) R 36 [a0, a1] H k =
  (bindX (L36_0 pol n n ⟨[a0, a1, (AV.int .i64 0)], []⟩ H) fun i1 l1 H1 =>
  altN i1 0 (
  bindV (l1.vs.getD 0 .undef) fun t0 => bindV (l1.vs.getD 1 .undef) fun t1 => bindV (l1.vs.getD 2 .undef) fun t4 => 
  withV (A.len t0 H1) fun t39 =>
  withV (A.len t1 H1) fun t41 =>
  cl base pol n 37 [t39, t41] H1 fun t42 H4 =>
  k t42 H4)
  (altN i1 1 (
  bindV (l1.vs.getD 0 .undef) fun t0 => bindV (l1.vs.getD 1 .undef) fun t1 => bindV (l1.vs.getD 2 .undef) fun t4 => 
  k t4 H1)
  (none))) := by kernel_rfl
theorem S37 (pol : FuncId → Pol) (n : Nat) (R : Type) (k : AV → Heap → Option R) (a0 a1 : AV) (H : Heap) : callF (base.with pol) (n + 1) R 37 [a0, a1] H k =
  (withV (A.bin base.P .lss 2 a0 a1 false H) fun t8 =>
  A.test t8 (
  k (AV.int .i64 (-1)) H)
  (
  withV (A.bin base.P .gtr 2 a0 a1 false H) fun t12 =>
   A.test t12 (
   k (AV.int .i64 1) H)
   (
   k (AV.int .i64 0) H))) := by kernel_rfl
theorem L38_0_step (pol : FuncId → Pol) (n m : Nat) (t2 t4 : AV) (H : Heap) : L38_0 pol n (m + 1) ⟨[t2, t4], []⟩ H =
  (nextK t4 H fun t5 H1 =>
  extractK t5 0 fun t6 =>
  A.test t6 (
  withV (A.bin base.P .add 3 t2 (AV.int .i64 1) true H1) fun t8 =>
  L38_0 pol n m ⟨[t8, t4], []⟩ H1)
  (
  some (0, ⟨[t2], []⟩, H1))) := by kernel_rfl
theorem S38 (pol : FuncId → Pol) (n : Nat) (R : Type) (k : AV → Heap → Option R) (a0 : AV) (H : Heap) : callF (base.with pol) (n + 1) R 38 [a0] H k =
  (rangeK a0 H fun t4 H1 =>
  bindX (L38_0 pol n n ⟨[(AV.int .i64 0), t4], []⟩ H1) fun i2 l2 H2 =>
  altN i2 0 (
  bindV (l2.vs.getD 0 .undef) fun t2 => 
  k t2 H2)
  (none)) := by kernel_rfl
end Go.Proofs.YtdkjednjlpcboaaDoor

/- What each function does, in Den's words. -/
set_option maxRecDepth 100000
namespace Go.Proofs.YtdkjednjlpcboaaDoor
open Go Go.Den
theorem S44 (pol : FuncId → Pol) (n : Nat) (R : Type) (k : AV → Heap → Option R) (a0 : AV) (H : Heap) : callF (base.with pol) (n + 1) R 44 [a0] H k =
  (A.test (AV.bool false) (
  withV (A.index a0 (AV.int .i64 0)) fun t4 =>
   withV (Go.Den.convert base 5 12 t4) fun t5 =>
   withV (A.index a0 (AV.int .i64 1)) fun t7 =>
   withV (Go.Den.convert base 5 12 t7) fun t8 =>
   withV (A.bin base.P .shl 12 t8 (AV.int .u64 8) true H) fun t9 =>
   withV (A.bin base.P .or 12 t5 t9 false H) fun t10 =>
   withV (A.index a0 (AV.int .i64 2)) fun t12 =>
   withV (Go.Den.convert base 5 12 t12) fun t13 =>
   withV (A.bin base.P .shl 12 t13 (AV.int .u64 16) true H) fun t14 =>
   withV (A.bin base.P .or 12 t10 t14 false H) fun t15 =>
   withV (A.index a0 (AV.int .i64 3)) fun t17 =>
   withV (Go.Den.convert base 5 12 t17) fun t18 =>
   withV (A.bin base.P .shl 12 t18 (AV.int .u64 24) true H) fun t19 =>
   withV (A.bin base.P .or 12 t15 t19 false H) fun t20 =>
   k t20 H)
  (
  withV (A.index a0 (AV.int .i64 0)) fun t22 =>
  withV (Go.Den.convert base 5 65 t22) fun t23 =>
  withV (A.index a0 (AV.int .i64 1)) fun t25 =>
  withV (Go.Den.convert base 5 65 t25) fun t26 =>
  withV (A.bin base.P .shl 65 t26 (AV.int .u64 8) true H) fun t27 =>
  withV (A.bin base.P .or 65 t23 t27 false H) fun t28 =>
  withV (A.index a0 (AV.int .i64 2)) fun t30 =>
  withV (Go.Den.convert base 5 65 t30) fun t31 =>
  withV (A.bin base.P .shl 65 t31 (AV.int .u64 16) true H) fun t32 =>
  withV (A.bin base.P .or 65 t28 t32 false H) fun t33 =>
  withV (A.index a0 (AV.int .i64 3)) fun t35 =>
  withV (Go.Den.convert base 5 65 t35) fun t36 =>
  withV (A.bin base.P .shl 65 t36 (AV.int .u64 24) true H) fun t37 =>
  withV (A.bin base.P .or 65 t33 t37 false H) fun t38 =>
  withV (A.index a0 (AV.int .i64 4)) fun t40 =>
  withV (Go.Den.convert base 5 65 t40) fun t41 =>
  withV (A.bin base.P .shl 65 t41 (AV.int .u64 32) true H) fun t42 =>
  withV (A.bin base.P .or 65 t38 t42 false H) fun t43 =>
  withV (A.index a0 (AV.int .i64 5)) fun t45 =>
  withV (Go.Den.convert base 5 65 t45) fun t46 =>
  withV (A.bin base.P .shl 65 t46 (AV.int .u64 40) true H) fun t47 =>
  withV (A.bin base.P .or 65 t43 t47 false H) fun t48 =>
  withV (A.index a0 (AV.int .i64 6)) fun t50 =>
  withV (Go.Den.convert base 5 65 t50) fun t51 =>
  withV (A.bin base.P .shl 65 t51 (AV.int .u64 48) true H) fun t52 =>
  withV (A.bin base.P .or 65 t48 t52 false H) fun t53 =>
  withV (A.index a0 (AV.int .i64 7)) fun t55 =>
  withV (Go.Den.convert base 5 65 t55) fun t56 =>
  withV (A.bin base.P .shl 65 t56 (AV.int .u64 56) true H) fun t57 =>
  withV (A.bin base.P .or 65 t53 t57 false H) fun t58 =>
  k t58 H)) := by kernel_rfl
theorem S50 (pol : FuncId → Pol) (n : Nat) (R : Type) (k : AV → Heap → Option R) (a0 : AV) (H : Heap) : callF (base.with pol) (n + 1) R 50 [a0] H k =
  (withV (A.bin base.P .neq 9 a0 a0 false H) fun t5 =>
  k t5 H) := by kernel_rfl
theorem S51 (pol : FuncId → Pol) (n : Nat) (R : Type) (k : AV → Heap → Option R) (a0 : AV) (H : Heap) : callF (base.with pol) (n + 1) R 51 [a0] H k =
  (withV (A.lenStr a0) fun t14 =>
  withV (A.bin base.P .lss 3 t14 (AV.int .i64 1) true H) fun t16 =>
  A.test t16 (
  k (.tup [(AV.int .i32 65533), (AV.int .i64 0)]) H)
  (
  withV (A.index a0 (AV.int .i64 0)) fun t18 =>
  withV (A.idxArr 1 256 (globV base 0) t18 H) fun t20 =>
  withV (A.load false 1 t20 H) fun t21 =>
  withV (A.bin base.P .geq 5 t21 (AV.int .u8 240) true H) fun t23 =>
  A.test t23 (
  withV (Go.Den.convert base 5 21 t21) fun t25 =>
   withV (A.bin base.P .shl 21 t25 (AV.int .u64 31) true H) fun t26 =>
   withV (A.bin base.P .shr 21 t26 (AV.int .u64 31) true H) fun t27 =>
   withV (A.index a0 (AV.int .i64 0)) fun t29 =>
   withV (Go.Den.convert base 5 21 t29) fun t30 =>
   withV (A.bin base.P .andNot 21 t30 t27 false H) fun t32 =>
   withV (A.bin base.P .and 21 (AV.int .i32 65533) t27 false H) fun t34 =>
   withV (A.bin base.P .or 21 t32 t34 false H) fun t35 =>
   k (.tup [t35, (AV.int .i64 1)]) H)
  (
  withV (A.bin base.P .and 5 t21 (AV.int .u8 7) true H) fun t37 =>
  withV (Go.Den.convert base 5 3 t37) fun t38 =>
  withV (A.bin base.P .shr 5 t21 (AV.int .u64 4) true H) fun t40 =>
  withV (A.idxArr 2 16 (globV base 1) t40 H) fun t41 =>
  withV (A.load true 2 t41 H) fun t42 =>
  bindV (.ptr H.length 0 0 0) fun t9 => bindH (H ++ [.row 0 2 69 [(AV.agg [(AV.int .u8 0), (AV.int .u8 0)])]]) fun H2 =>
  withH (A.store 2 t9 t42 H2) fun H3 =>
  withV (A.bin base.P .lss 3 t14 t38 false H3) fun t45 =>
  A.test t45 (
  k (.tup [(AV.int .i32 65533), (AV.int .i64 1)]) H3)
  (
  withV (A.index a0 (AV.int .i64 1)) fun t47 =>
  withV (A.fa 0 t9 H3) fun t49 =>
  withV (A.load false 1 t49 H3) fun t50 =>
  withV (A.bin base.P .lss 5 t47 t50 false H3) fun t51 =>
  withB (A.asG false t51) fun b5 => withP (guardB b5 false (
   withV (A.fa 1 t9 H3) fun t53 =>
   some (t53, H3))
   (some (.tup [], H3))) fun t53 H4 =>
  withB (A.asG false t51) fun b6 => withP (guardB b6 false (
   withV (A.load false 1 t53 H4) fun t54 =>
   some (t54, H4))
   (some (.tup [], H4))) fun t54 H5 =>
  withB (A.asG false t51) fun b7 => withP (guardB b7 false (
   some (t47, H5))
   (some (.tup [], H5))) fun t55 H6 =>
  withB (A.asG false t51) fun b8 => withP (guardB b8 false (
   withV (A.bin base.P .lss 5 t54 t55 false H6) fun t56 =>
   some (t56, H6))
   (some (.tup [], H6))) fun t56 H7 =>
  withV (A.pick t51 (AV.bool true) t56) fun t57 =>
  A.test t57 (
  k (.tup [(AV.int .i32 65533), (AV.int .i64 1)]) H7)
  (
  withV (A.bin base.P .leq 3 t38 (AV.int .i64 2) true H7) fun t59 =>
  A.test t59 (
  withV (A.bin base.P .and 5 t18 (AV.int .u8 31) true H7) fun t61 =>
   withV (Go.Den.convert base 5 21 t61) fun t62 =>
   withV (A.bin base.P .shl 21 t62 (AV.int .u64 6) true H7) fun t63 =>
   withV (A.bin base.P .and 5 t47 (AV.int .u8 63) true H7) fun t65 =>
   withV (Go.Den.convert base 5 21 t65) fun t66 =>
   withV (A.bin base.P .or 21 t63 t66 false H7) fun t67 =>
   k (.tup [t67, (AV.int .i64 2)]) H7)
  (
  withV (A.index a0 (AV.int .i64 2)) fun t69 =>
  withV (A.bin base.P .lss 5 t69 (AV.int .u8 128) true H7) fun t71 =>
  withB (A.asG false t71) fun b3 => withP (guardB b3 false (
   some (t69, H7))
   (some (.tup [], H7))) fun t73 H8 =>
  withB (A.asG false t71) fun b4 => withP (guardB b4 false (
   withV (A.bin base.P .lss 5 (AV.int .u8 191) t73 false H8) fun t74 =>
   some (t74, H8))
   (some (.tup [], H8))) fun t74 H9 =>
  withV (A.pick t71 (AV.bool true) t74) fun t75 =>
  A.test t75 (
  k (.tup [(AV.int .i32 65533), (AV.int .i64 1)]) H9)
  (
  withV (A.bin base.P .leq 3 t38 (AV.int .i64 3) true H9) fun t77 =>
  A.test t77 (
  withV (A.bin base.P .and 5 t18 (AV.int .u8 15) true H9) fun t79 =>
   withV (Go.Den.convert base 5 21 t79) fun t80 =>
   withV (A.bin base.P .shl 21 t80 (AV.int .u64 12) true H9) fun t81 =>
   withV (A.bin base.P .and 5 t47 (AV.int .u8 63) true H9) fun t83 =>
   withV (Go.Den.convert base 5 21 t83) fun t84 =>
   withV (A.bin base.P .shl 21 t84 (AV.int .u64 6) true H9) fun t85 =>
   withV (A.bin base.P .or 21 t81 t85 false H9) fun t86 =>
   withV (A.bin base.P .and 5 t69 (AV.int .u8 63) true H9) fun t88 =>
   withV (Go.Den.convert base 5 21 t88) fun t89 =>
   withV (A.bin base.P .or 21 t86 t89 false H9) fun t90 =>
   k (.tup [t90, (AV.int .i64 3)]) H9)
  (
  withV (A.index a0 (AV.int .i64 3)) fun t92 =>
  withV (A.bin base.P .lss 5 t92 (AV.int .u8 128) true H9) fun t94 =>
  withB (A.asG false t94) fun b3 => withP (guardB b3 false (
   some (t92, H9))
   (some (.tup [], H9))) fun t96 H10 =>
  withB (A.asG false t94) fun b4 => withP (guardB b4 false (
   withV (A.bin base.P .lss 5 (AV.int .u8 191) t96 false H10) fun t97 =>
   some (t97, H10))
   (some (.tup [], H10))) fun t97 H11 =>
  withV (A.pick t94 (AV.bool true) t97) fun t98 =>
  A.test t98 (
  k (.tup [(AV.int .i32 65533), (AV.int .i64 1)]) H11)
  (
  withV (A.bin base.P .and 5 t18 (AV.int .u8 7) true H11) fun t100 =>
  withV (Go.Den.convert base 5 21 t100) fun t101 =>
  withV (A.bin base.P .shl 21 t101 (AV.int .u64 18) true H11) fun t102 =>
  withV (A.bin base.P .and 5 t47 (AV.int .u8 63) true H11) fun t104 =>
  withV (Go.Den.convert base 5 21 t104) fun t105 =>
  withV (A.bin base.P .shl 21 t105 (AV.int .u64 12) true H11) fun t106 =>
  withV (A.bin base.P .or 21 t102 t106 false H11) fun t107 =>
  withV (A.bin base.P .and 5 t69 (AV.int .u8 63) true H11) fun t109 =>
  withV (Go.Den.convert base 5 21 t109) fun t110 =>
  withV (A.bin base.P .shl 21 t110 (AV.int .u64 6) true H11) fun t111 =>
  withV (A.bin base.P .or 21 t107 t111 false H11) fun t112 =>
  withV (A.bin base.P .and 5 t92 (AV.int .u8 63) true H11) fun t114 =>
  withV (Go.Den.convert base 5 21 t114) fun t115 =>
  withV (A.bin base.P .or 21 t112 t115 false H11) fun t116 =>
  k (.tup [t116, (AV.int .i64 4)]) H11))))))))) := by kernel_rfl
theorem S52 (pol : FuncId → Pol) (n : Nat) (R : Type) (k : AV → Heap → Option R) (a0 : AV) (H : Heap) : callF (base.with pol) (n + 1) R 52 [a0] H k =
  (withV (A.bin base.P .neq 3 a0 a0 false H) fun t5 =>
  k t5 H) := by kernel_rfl
theorem S53 (pol : FuncId → Pol) (n : Nat) (R : Type) (k : AV → Heap → Option R) (a0 : AV) (H : Heap) : callF (base.with pol) (n + 1) R 53 [a0] H k =
  (withV (A.bin base.P .neq 21 a0 a0 false H) fun t5 =>
  k t5 H) := by kernel_rfl
end Go.Proofs.YtdkjednjlpcboaaDoor

/- What each function does, in Den's words. -/
set_option maxRecDepth 100000
namespace Go.Proofs.YtdkjednjlpcboaaDoor
open Go Go.Den
end Go.Proofs.YtdkjednjlpcboaaDoor

/- What each function does, in Den's words. -/
set_option maxRecDepth 100000
namespace Go.Proofs.YtdkjednjlpcboaaDoor
open Go Go.Den
end Go.Proofs.YtdkjednjlpcboaaDoor

/- What each function does, in Den's words. -/

/- Texts: bits; eight bytes as a word; the tables of what begins a sign. -/
set_option maxRecDepth 100000
set_option maxHeartbeats 4000000
namespace Go.Proofs.YtdkjednjlpcboaaDoor
open Go Go.Den Go.Lib
/-! ### bits -/
def andI (k : IntKind) (a b : Int) : Int := k.wrap ((BitVec.ofInt k.bits a &&& BitVec.ofInt k.bits b).toNat : Int)
def orI (k : IntKind) (a b : Int) : Int := k.wrap ((BitVec.ofInt k.bits a ||| BitVec.ofInt k.bits b).toNat : Int)
theorem bin_andI {P : Program} {t : TypeId} {k : IntKind} {a b : Int} {c : Bool} {H : Heap} : A.bin P .and t (.int k a) (.int k b) c H = some (.int k (andI k a b)) := by
  simp [A.bin, A.binInt, A.bits, andI]
theorem bin_orI {P : Program} {t : TypeId} {k : IntKind} {a b : Int} {c : Bool} {H : Heap} : A.bin P .or t (.int k a) (.int k b) c H = some (.int k (orI k a b)) := by
  simp [A.bin, A.binInt, A.bits, orI]
theorem andI_64 {a b : Nat} (ha : a < 18446744073709551616) (hb : b < 18446744073709551616) : andI .u64 (a : Int) (b : Int) = ((a &&& b : Nat) : Int) := by
  unfold andI
  rw [show IntKind.bits .u64 = 64 from rfl, BitVec.toNat_and]
  simp
  rw [Nat.mod_eq_of_lt ha, Nat.mod_eq_of_lt hb]
  have := Nat.and_le_left (n := a) (m := b)
  exact wrap_u64 (by omega) (by omega)
theorem orI_64 {a b : Nat} (ha : a < 18446744073709551616) (hb : b < 18446744073709551616) : orI .u64 (a : Int) (b : Int) = ((a ||| b : Nat) : Int) := by
  unfold orI
  rw [show IntKind.bits .u64 = 64 from rfl, BitVec.toNat_or]
  simp
  rw [Nat.mod_eq_of_lt ha, Nat.mod_eq_of_lt hb]
  have : a ||| b < 2 ^ 64 := Nat.or_lt_two_pow (by simpa using ha) (by simpa using hb)
  exact wrap_u64 (by omega) (by omega)
theorem wrap_u8n {a : Nat} (h : a < 256) : IntKind.wrap .u8 (a : Int) = a := by
  simp [IntKind.wrap, IntKind.bits, IntKind.signed]
  omega
theorem andI_8 {a b : Nat} (ha : a < 256) (hb : b < 256) : andI .u8 (a : Int) (b : Int) = ((a &&& b : Nat) : Int) := by
  unfold andI
  rw [show IntKind.bits .u8 = 8 from rfl, BitVec.toNat_and]
  simp
  rw [Nat.mod_eq_of_lt ha, Nat.mod_eq_of_lt hb]
  have := Nat.and_le_left (n := a) (m := b)
  exact wrap_u8n (by omega)
theorem andI_7 {a : Nat} (ha : a < 256) : andI .u8 (a : Int) 7 = ((a % 8 : Nat) : Int) := by
  have := andI_8 (b := 7) ha (by omega)
  rw [Nat.and_two_pow_sub_one_eq_mod a 3] at this
  exact this
/-! ### texts -/
theorem slice_str {s : List UInt8} {i : Nat} {k : IntKind} (h : i ≤ s.length) : A.sliceStr (.str s) (some (.int k (i : Int))) none = some (.str (s.drop i)) := by
  have e : (s.drop i).take (s.length - i) = s.drop i := List.take_of_length_le (by simp)
  simp [A.sliceStr, A.bound, h, e]
theorem len_str {s : List UInt8} : A.lenStr (.str s) = some (.int .i64 (s.length : Int)) := rfl
theorem idx_str {s : List UInt8} {i : Nat} {k : IntKind} (h : i < s.length) : A.index (.str s) (.int k (i : Int)) = some (.int .u8 ((s.getD i 0).toNat : Int)) := by
  simp [A.index, h]
theorem cv_8_64 (n : Int) (j : IntKind) : Go.Den.convert base 5 65 (.int j n) = some (.int .u64 (IntKind.wrap .u64 n)) := conv_int (x := .int .u8) (by kernel_rfl) (by kernel_rfl)
theorem cv_8_int (n : Int) (j : IntKind) : Go.Den.convert base 5 3 (.int j n) = some (.int .i64 (IntKind.wrap .i64 n)) := conv_int (x := .int .u8) (by kernel_rfl) (by kernel_rfl)
/-! ### eight bytes as a word -/
def wordN (s : List UInt8) : Nat := leNat (s.take 8)
theorem wordN_lt (s : List UInt8) : wordN s < 18446744073709551616 := by
  have := leNat_lt (s.take 8)
  have h2 : (256 : Nat) ^ (s.take 8).length ≤ 256 ^ 8 := Nat.pow_le_pow_right (by omega) (by simp; omega)
  unfold wordN
  omega
noncomputable def pWord : Pol := .still (p1 cS (.int .u64) (fun s => 8 ≤ s.length) (fun s => (wordN s : Int)))
theorem kWord {R : Type} {s : List UInt8} (h : 8 ≤ s.length) {H : Heap} {k : AV → Heap → Option R} : polK pWord [.str s] H k = k (.int .u64 (wordN s : Nat)) H := by
  simp [pWord, polK_imm, h]
theorem okWord : PolOK base 44 pWord := still1 base_ok [] trivial fun s h => Evs.of fun n _ => by
  obtain ⟨c0, c1, c2, c3, c4, c5, c6, c7, r, rfl⟩ : ∃ c0 c1 c2 c3 c4 c5 c6 c7 r, s = c0 :: c1 :: c2 :: c3 :: c4 :: c5 :: c6 :: c7 :: r := by
    match s, h with
    | c0 :: c1 :: c2 :: c3 :: c4 :: c5 :: c6 :: c7 :: r, _ => exact ⟨c0, c1, c2, c3, c4, c5, c6, c7, r, rfl⟩
  have x0 : A.index (.str (c0 :: c1 :: c2 :: c3 :: c4 :: c5 :: c6 :: c7 :: r)) (.int .i64 0) = some (.int .u8 (c0.toNat : Int)) := rfl
  have x1 : A.index (.str (c0 :: c1 :: c2 :: c3 :: c4 :: c5 :: c6 :: c7 :: r)) (.int .i64 1) = some (.int .u8 (c1.toNat : Int)) := rfl
  have x2 : A.index (.str (c0 :: c1 :: c2 :: c3 :: c4 :: c5 :: c6 :: c7 :: r)) (.int .i64 2) = some (.int .u8 (c2.toNat : Int)) := rfl
  have x3 : A.index (.str (c0 :: c1 :: c2 :: c3 :: c4 :: c5 :: c6 :: c7 :: r)) (.int .i64 3) = some (.int .u8 (c3.toNat : Int)) := rfl
  have x4 : A.index (.str (c0 :: c1 :: c2 :: c3 :: c4 :: c5 :: c6 :: c7 :: r)) (.int .i64 4) = some (.int .u8 (c4.toNat : Int)) := rfl
  have x5 : A.index (.str (c0 :: c1 :: c2 :: c3 :: c4 :: c5 :: c6 :: c7 :: r)) (.int .i64 5) = some (.int .u8 (c5.toNat : Int)) := rfl
  have x6 : A.index (.str (c0 :: c1 :: c2 :: c3 :: c4 :: c5 :: c6 :: c7 :: r)) (.int .i64 6) = some (.int .u8 (c6.toNat : Int)) := rfl
  have x7 : A.index (.str (c0 :: c1 :: c2 :: c3 :: c4 :: c5 :: c6 :: c7 :: r)) (.int .i64 7) = some (.int .u8 (c7.toNat : Int)) := rfl
  have hw : wordN (c0 :: c1 :: c2 :: c3 :: c4 :: c5 :: c6 :: c7 :: r) = c0.toNat + 2 ^ 8 * c1.toNat + 2 ^ 16 * c2.toNat + 2 ^ 24 * c3.toNat + 2 ^ 32 * c4.toNat + 2 ^ 40 * c5.toNat + 2 ^ 48 * c6.toNat + 2 ^ 56 * c7.toNat := by
    simp only [wordN, List.take_succ_cons, List.take_zero, leNat]
    omega
  have l0 := c0.toNat_lt
  have l1 := c1.toNat_lt
  have l2 := c2.toNat_lt
  have l3 := c3.toNat_lt
  have l4 := c4.toNat_lt
  have l5 := c5.toNat_lt
  have l6 := c6.toNat_lt
  have l7 := c7.toNat_lt
  rw [hw]
  simp only [enc_cS]
  generalize (c0 :: c1 :: c2 :: c3 :: c4 :: c5 :: c6 :: c7 :: r) = s at *
  generalize c0.toNat = b0 at *
  generalize c1.toNat = b1 at *
  generalize c2.toNat = b2 at *
  generalize c3.toNat = b3 at *
  generalize c4.toNat = b4 at *
  generalize c5.toNat = b5 at *
  generalize c6.toNat = b6 at *
  generalize c7.toNat = b7 at *
  have w : ∀ b : Nat, b < 256 → IntKind.wrap .u64 (b : Int) = b := fun b hb => wrap_u64 (by omega) (by omega)
  have s1 : ∀ H, A.bin base.P .shl 65 (.int .u64 (b1 : Int)) (.int .u64 8) true H = some (.int .u64 ((2 ^ 8 * b1 : Nat) : Int)) := fun H => shl_nat (s := 8) (by omega) (by omega)
  have s2 : ∀ H, A.bin base.P .shl 65 (.int .u64 (b2 : Int)) (.int .u64 16) true H = some (.int .u64 ((2 ^ 16 * b2 : Nat) : Int)) := fun H => shl_nat (s := 16) (by omega) (by omega)
  have s3 : ∀ H, A.bin base.P .shl 65 (.int .u64 (b3 : Int)) (.int .u64 24) true H = some (.int .u64 ((2 ^ 24 * b3 : Nat) : Int)) := fun H => shl_nat (s := 24) (by omega) (by omega)
  have s4 : ∀ H, A.bin base.P .shl 65 (.int .u64 (b4 : Int)) (.int .u64 32) true H = some (.int .u64 ((2 ^ 32 * b4 : Nat) : Int)) := fun H => shl_nat (s := 32) (by omega) (by omega)
  have s5 : ∀ H, A.bin base.P .shl 65 (.int .u64 (b5 : Int)) (.int .u64 40) true H = some (.int .u64 ((2 ^ 40 * b5 : Nat) : Int)) := fun H => shl_nat (s := 40) (by omega) (by omega)
  have s6 : ∀ H, A.bin base.P .shl 65 (.int .u64 (b6 : Int)) (.int .u64 48) true H = some (.int .u64 ((2 ^ 48 * b6 : Nat) : Int)) := fun H => shl_nat (s := 48) (by omega) (by omega)
  have s7 : ∀ H, A.bin base.P .shl 65 (.int .u64 (b7 : Int)) (.int .u64 56) true H = some (.int .u64 ((2 ^ 56 * b7 : Nat) : Int)) := fun H => shl_nat (s := 56) (by omega) (by omega)
  have o1 := fun H => (or_nat (x := b0) (y := b1) (s := 8) (by omega) (by omega) (P := base.P) (t := 65) (c := false) (H := H)).1
  have o2 := fun H => (or_nat (x := b0 + 2 ^ 8 * b1) (y := b2) (s := 16) (by omega) (by omega) (P := base.P) (t := 65) (c := false) (H := H)).1
  have o3 := fun H => (or_nat (x := b0 + 2 ^ 8 * b1 + 2 ^ 16 * b2) (y := b3) (s := 24) (by omega) (by omega) (P := base.P) (t := 65) (c := false) (H := H)).1
  have o4 := fun H => (or_nat (x := b0 + 2 ^ 8 * b1 + 2 ^ 16 * b2 + 2 ^ 24 * b3) (y := b4) (s := 32) (by omega) (by omega) (P := base.P) (t := 65) (c := false) (H := H)).1
  have o5 := fun H => (or_nat (x := b0 + 2 ^ 8 * b1 + 2 ^ 16 * b2 + 2 ^ 24 * b3 + 2 ^ 32 * b4) (y := b5) (s := 40) (by omega) (by omega) (P := base.P) (t := 65) (c := false) (H := H)).1
  have o6 := fun H => (or_nat (x := b0 + 2 ^ 8 * b1 + 2 ^ 16 * b2 + 2 ^ 24 * b3 + 2 ^ 32 * b4 + 2 ^ 40 * b5) (y := b6) (s := 48) (by omega) (by omega) (P := base.P) (t := 65) (c := false) (H := H)).1
  have o7 := fun H => (or_nat (x := b0 + 2 ^ 8 * b1 + 2 ^ 16 * b2 + 2 ^ 24 * b3 + 2 ^ 32 * b4 + 2 ^ 40 * b5 + 2 ^ 48 * b6) (y := b7) (s := 56) (by omega) (by omega) (P := base.P) (t := 65) (c := false) (H := H)).1
  clear hw
  generalize hv1 : b0 + 2 ^ 8 * b1 = v1 at *
  generalize hv2 : v1 + 2 ^ 16 * b2 = v2 at *
  generalize hv3 : v2 + 2 ^ 24 * b3 = v3 at *
  generalize hv4 : v3 + 2 ^ 32 * b4 = v4 at *
  generalize hv5 : v4 + 2 ^ 40 * b5 = v5 at *
  generalize hv6 : v5 + 2 ^ 48 * b6 = v6 at *
  generalize hv7 : v6 + 2 ^ 56 * b7 = v7 at *
  generalize 2 ^ 8 * b1 = y1 at *
  generalize 2 ^ 16 * b2 = y2 at *
  generalize 2 ^ 24 * b3 = y3 at *
  generalize 2 ^ 32 * b4 = y4 at *
  generalize 2 ^ 40 * b5 = y5 at *
  generalize 2 ^ 48 * b6 = y6 at *
  generalize 2 ^ 56 * b7 = y7 at *
  have w0 := w b0 l0
  have w1 := w b1 l1
  have w2 := w b2 l2
  have w3 := w b3 l3
  have w4 := w b4 l4
  have w5 := w b5 l5
  have w6 := w b6 l6
  have w7 := w b7 l7
  simp [↓test_bool, ↓withV_of, S44, x0, x1, x2, x3, x4, x5, x6, x7, cv_8_64, w0, w1, w2, w3, w4, w5, w6, w7, s1, s2, s3, s4, s5, s6, s7, o1, o2, o3, o4, o5, o6, o7]
theorem word_mask (s : List UInt8) (h : 8 ≤ s.length) : andI .u64 (wordN s : Nat) 9259542123273814144 = 0 ↔ ∀ b ∈ s.take 8, b.toNat < 128 := by
  have e := andI_64 (a := wordN s) (b := 9259542123273814144) (wordN_lt s) (by omega)
  have hl : (s.take 8).length = 8 := by simp; omega
  have hm := leNat_mask (s.take 8)
  rw [hl, maskN8] at hm
  have e' : andI .u64 (wordN s : Nat) 9259542123273814144 = ((wordN s &&& 9259542123273814144 : Nat) : Int) := e
  rw [e', ← hm]
  unfold wordN
  omega
theorem word_mask2 (s t : List UInt8) (h : 8 ≤ s.length) (g : 8 ≤ t.length) : andI .u64 (orI .u64 (wordN s : Nat) (wordN t : Nat)) 9259542123273814144 = 0 ↔ (∀ b ∈ s.take 8, b.toNat < 128) ∧ ∀ b ∈ t.take 8, b.toNat < 128 := by
  have ls := wordN_lt s
  have lt := wordN_lt t
  have lo : wordN s ||| wordN t < 2 ^ 64 := Nat.or_lt_two_pow (by simpa using ls) (by simpa using lt)
  have e : andI .u64 ((wordN s ||| wordN t : Nat) : Int) 9259542123273814144 = (((wordN s ||| wordN t) &&& 9259542123273814144 : Nat) : Int) := andI_64 (b := 9259542123273814144) (by omega) (by omega)
  have e1 : andI .u64 ((wordN s : Nat) : Int) 9259542123273814144 = ((wordN s &&& 9259542123273814144 : Nat) : Int) := andI_64 (b := 9259542123273814144) ls (by omega)
  have e2 : andI .u64 ((wordN t : Nat) : Int) 9259542123273814144 = ((wordN t &&& 9259542123273814144 : Nat) : Int) := andI_64 (b := 9259542123273814144) lt (by omega)
  rw [orI_64 ls lt, e, ← word_mask s h, ← word_mask t g, e1, e2]
  have := or_mask (wordN s) (wordN t) 9259542123273814144
  omega
/-! ### the tables -/
theorem first_all : (base.glob 0).getD [] = (List.range 256).map fun i => AV.int .u8 (firstT i : Nat) := by kernel_rfl
theorem acc_all : (base.glob 1).getD [] = (List.range 16).flatMap fun i => [AV.int .u8 (accLo i : Nat), AV.int .u8 (accHi i : Nat)] := by kernel_rfl
theorem first_at (z : Nat) (h1 : z < 256) : ∃ p : AV, ∀ H, A.idxArr 1 256 (globV base 0) (.int .u8 (z : Int)) H = some p ∧ A.load false 1 p H = some (.int .u8 (firstT z : Nat)) := by
  unfold globV
  rw [first_all]
  generalize hcs : (List.range 256).map (fun i => AV.int .u8 (firstT i : Nat)) = cs
  have hg : cs[z]? = some (.int .u8 (firstT z : Nat)) := by rw [← hcs]; simp [h1]
  refine ⟨.rop (cs.drop z), fun H => ⟨?_, ?_⟩⟩
  · have : 0 ≤ (z : Int) ∧ (z : Int) < ((256 : Nat) : Int) := ⟨by omega, by omega⟩
    show (if 0 ≤ (z : Int) ∧ (z : Int) < ((256 : Nat) : Int) then A.fa ((z : Int).toNat * 1) (.rop cs) H else none) = _
    rw [if_pos this, Nat.mul_one]
    rfl
  · show A.ofList false 1 (cs.drop z) 0 = _
    simp [A.ofList, hg]
theorem acc_at (z : Nat) (h1 : z < 16) : ∃ p : AV, ∀ H, A.idxArr 2 16 (globV base 1) (.int .u8 (z : Int)) H = some p ∧ A.load true 2 p H = some (.agg [.int .u8 (accLo z : Nat), .int .u8 (accHi z : Nat)]) := by
  unfold globV
  rw [acc_all]
  generalize hcs : (List.range 16).flatMap (fun i => [AV.int .u8 (accLo i : Nat), AV.int .u8 (accHi i : Nat)]) = cs
  have hg : A.ofList true 2 (cs.drop (z * 2)) 0 = some (.agg [.int .u8 (accLo z : Nat), .int .u8 (accHi z : Nat)]) := by
    rw [← hcs]
    have hz : z = 0 ∨ z = 1 ∨ z = 2 ∨ z = 3 ∨ z = 4 ∨ z = 5 ∨ z = 6 ∨ z = 7 ∨ z = 8 ∨ z = 9 ∨ z = 10 ∨ z = 11 ∨ z = 12 ∨ z = 13 ∨ z = 14 ∨ z = 15 := by omega
    rcases hz with rfl | rfl | rfl | rfl | rfl | rfl | rfl | rfl | rfl | rfl | rfl | rfl | rfl | rfl | rfl | rfl <;> rfl
  refine ⟨.rop (cs.drop (z * 2)), fun H => ⟨?_, hg⟩⟩
  have : 0 ≤ (z : Int) ∧ (z : Int) < ((16 : Nat) : Int) := ⟨by omega, by omega⟩
  show (if 0 ≤ (z : Int) ∧ (z : Int) < ((16 : Nat) : Int) then A.fa ((z : Int).toNat * 2) (.rop cs) H else none) = _
  rw [if_pos this]
  rfl
theorem shr4 {P : Program} {t : TypeId} {j : IntKind} {a : Nat} {c : Bool} {H : Heap} : A.bin P .shr t (.int .u8 (a : Int)) (.int j 4) c H = some (.int .u8 ((a / 16 : Nat) : Int)) := by
  have : (a : Int).fdiv 16 = ((a / 16 : Nat) : Int) := by rw [Int.fdiv_eq_ediv_of_nonneg _ (by omega)]; rfl
  simp [A.bin, A.binInt, IntKind.bits, this]
theorem first_lt (z : Nat) : firstT z < 256 := by
  unfold firstT
  repeat' split
  all_goals omega
end Go.Proofs.YtdkjednjlpcboaaDoor

/- Texts: is one well-formed: the loops. -/
set_option maxRecDepth 100000
set_option maxHeartbeats 4000000
namespace Go.Proofs.YtdkjednjlpcboaaDoor
open Go Go.Den Go.Lib
noncomputable abbrev TVal : List (FuncId × Pol) := [(44, pWord)]
theorem asc_drop {s : List UInt8} {k : Nat} (h : ∀ b ∈ s.take k, b.toNat < 128) : validD s = validD (s.drop k) := validD_ascii k s h
theorem take_add {s : List UInt8} {a b : Nat} (h1 : ∀ x ∈ s.take a, x.toNat < 128) (h2 : ∀ x ∈ (s.drop a).take b, x.toNat < 128) : ∀ x ∈ s.take (a + b), x.toNat < 128 := fun x hx => by
  rw [List.take_add] at hx
  rcases List.mem_append.1 hx with h | h
  · exact h1 x h
  · exact h2 x h
theorem valid_skip : ∀ (N : Nat) (s : List UInt8), s.length ≤ N → ∀ H : Heap, ∃ s' : List UInt8, s'.length ≤ s.length ∧ validD s' = validD s ∧ LDoes (L24_1 (polT TVal)) ⟨[.str s], []⟩ H 0 ⟨[.str s'], []⟩ H
  | N, s, hN, H => by
    by_cases h : 32 < s.length
    · have hlt : (32 : Int) < (s.length : Int) := by omega
      have d8 := slice_str (s := s) (k := .i64) (i := 8) (by omega)
      have d16 := slice_str (s := s) (k := .i64) (i := 16) (by omega)
      have d24 := slice_str (s := s) (k := .i64) (i := 24) (by omega)
      have d32 := slice_str (s := s) (k := .i64) (i := 32) (by omega)
      have e8 : 8 ≤ s.length - 8 := by omega
      have e16 : 8 ≤ s.length - 16 := by omega
      have e24 : 8 ≤ s.length - 24 := by omega
      have e0 : 8 ≤ s.length := by omega
      have w0 : ∀ (R : Type) (H : Heap) (k : AV → Heap → Option R), polK pWord [.str s] H k = k (.int .u64 (wordN s : Nat)) H := fun R H k => kWord e0
      have w8 : ∀ (R : Type) (H : Heap) (k : AV → Heap → Option R), polK pWord [.str (s.drop 8)] H k = k (.int .u64 (wordN (s.drop 8) : Nat)) H := fun R H k => kWord (by simpa using e8)
      have w16 : ∀ (R : Type) (H : Heap) (k : AV → Heap → Option R), polK pWord [.str (s.drop 16)] H k = k (.int .u64 (wordN (s.drop 16) : Nat)) H := fun R H k => kWord (by simpa using e16)
      have w24 : ∀ (R : Type) (H : Heap) (k : AV → Heap → Option R), polK pWord [.str (s.drop 24)] H k = k (.int .u64 (wordN (s.drop 24) : Nat)) H := fun R H k => kWord (by simpa using e24)
      have hl : A.lenStr (.str s) = some (.int .i64 (s.length : Int)) := len_str
      have hm : andI .u64 (orI .u64 (orI .u64 (wordN s : Nat) (wordN (s.drop 8) : Nat)) (orI .u64 (wordN (s.drop 16) : Nat) (wordN (s.drop 24) : Nat))) 9259542123273814144 = 0 → ∀ x ∈ s.take 32, x.toNat < 128 := fun hc => by
        have n0 := wordN_lt s
        have n8 := wordN_lt (s.drop 8)
        have n16 := wordN_lt (s.drop 16)
        have n24 := wordN_lt (s.drop 24)
        have p1 : wordN s ||| wordN (s.drop 8) < 2 ^ 64 := Nat.or_lt_two_pow (by simpa using n0) (by simpa using n8)
        have p2 : wordN (s.drop 16) ||| wordN (s.drop 24) < 2 ^ 64 := Nat.or_lt_two_pow (by simpa using n16) (by simpa using n24)
        have p3 : (wordN s ||| wordN (s.drop 8)) ||| (wordN (s.drop 16) ||| wordN (s.drop 24)) < 2 ^ 64 := Nat.or_lt_two_pow p1 p2
        rw [orI_64 n0 n8, orI_64 n16 n24, orI_64 (by omega) (by omega)] at hc
        have e := andI_64 (a := (wordN s ||| wordN (s.drop 8)) ||| (wordN (s.drop 16) ||| wordN (s.drop 24))) (b := 9259542123273814144) (by omega) (by omega)
        have e' : (((((wordN s ||| wordN (s.drop 8)) ||| (wordN (s.drop 16) ||| wordN (s.drop 24))) &&& 9259542123273814144 : Nat)) : Int) = 0 := e.symm.trans hc
        have hz : (((wordN s ||| wordN (s.drop 8)) ||| (wordN (s.drop 16) ||| wordN (s.drop 24))) &&& 9259542123273814144) = 0 := by omega
        rw [or_mask, or_mask, or_mask] at hz
        have mk : ∀ t : List UInt8, 8 ≤ t.length → wordN t &&& 9259542123273814144 = 0 → ∀ x ∈ t.take 8, x.toNat < 128 := fun t ht h => by
          have hl : (t.take 8).length = 8 := by simp; omega
          have := leNat_mask (t.take 8)
          rw [hl, maskN8] at this
          exact this.1 h
        have m0 := mk s e0 hz.1.1
        have m8 := mk (s.drop 8) (by simpa using e8) hz.1.2
        have m16 := mk (s.drop 16) (by simpa using e16) hz.2.1
        have m24 := mk (s.drop 24) (by simpa using e24) hz.2.2
        exact take_add (a := 24) (b := 8) (take_add (a := 16) (b := 8) (take_add (a := 8) (b := 8) m0 m8) m16) m24
      generalize ((wordN s : Nat) : Int) = a0 at *
      generalize ((wordN (s.drop 8) : Nat) : Int) = a8 at *
      generalize ((wordN (s.drop 16) : Nat) : Int) = a16 at *
      generalize ((wordN (s.drop 24) : Nat) : Int) = a24 at *
      simp only [Int.cast_ofNat_Int] at d8 d16 d24 d32
      by_cases hc : andI .u64 (orI .u64 (orI .u64 a0 a8) (orI .u64 a16 a24)) 9259542123273814144 = 0
      · match N with
        | 0 => omega
        | N + 1 =>
          obtain ⟨s', hs, hv, hL⟩ := valid_skip N (s.drop 32) (by simp; omega) H
          simp only [List.length_drop] at hs
          refine ⟨s', by omega, by rw [hv, ← asc_drop (hm hc)], LDoes.step (Evs.withL hL (Evs.of fun n m _ h2 => ?_))⟩
          generalize s.drop 8 = s8 at *
          generalize s.drop 16 = s16 at *
          generalize s.drop 24 = s24 at *
          generalize s.drop 32 = s32 at *
          generalize (s.length : Int) = N at *
          simp [↓test_bool, ↓withV_of, ↓withP_some, ↓withB_some, ↓chkD_true, L24_1_step, hl, hlt, d8, d16, d24, d32, w0, w8, w16, w24, bin_orI, bin_andI, hc, AV.heapy, h2]
      · refine ⟨s, Nat.le_refl _, rfl, LDoes.step (Evs.of fun n m => ?_)⟩
        generalize s.drop 8 = s8 at *
        generalize s.drop 16 = s16 at *
        generalize s.drop 24 = s24 at *
        generalize s.drop 32 = s32 at *
        generalize (s.length : Int) = N at *
        simp [↓test_bool, ↓withV_of, ↓withP_some, ↓withB_some, ↓chkD_true, L24_1_step, hl, hlt, d8, d16, d24, w0, w8, w16, w24, bin_orI, bin_andI, hc, AV.heapy]
    · have hlt : ¬ (32 : Int) < (s.length : Int) := by omega
      have hl : A.lenStr (.str s) = some (.int .i64 (s.length : Int)) := len_str
      generalize (s.length : Int) = N at *
      refine ⟨s, Nat.le_refl _, rfl, LDoes.step (Evs.of fun n m => ?_)⟩
      simp [↓test_bool, ↓withV_of, ↓withP_some, ↓withB_some, ↓chkD_true, L24_1_step, hl, hlt, AV.heapy]
end Go.Proofs.YtdkjednjlpcboaaDoor

/- Texts: is one well-formed: bytes below 128. -/
set_option maxRecDepth 100000
set_option maxHeartbeats 8000000
namespace Go.Proofs.YtdkjednjlpcboaaDoor
open Go Go.Den Go.Lib
def ValidFrom (s : List UInt8) : Prop := ∀ H : Heap, ∃ (H' : Heap), LDoes (L24_0 (polT TVal)) ⟨[.str s], []⟩ H (if validD s then 0 else 1) ⟨[if validD s then .undef else .bool false], []⟩ H'
theorem valid_nil : ValidFrom [] := fun H => by
  have hl : A.lenStr (.str []) = some (.int .i64 0) := len_str
  exact ⟨H, LDoes.step (Evs.of fun n m => by simp [↓test_bool, ↓withV_of, L24_0_step, hl, validD_nil])⟩
theorem valid_ascii (c : UInt8) (r : List UInt8) (hc : c.toNat < 128) (ih : ∀ s, s.length ≤ r.length → ValidFrom s) : ValidFrom (c :: r) := fun H => by
  have hl : A.lenStr (.str (c :: r)) = some (.int .i64 ((r.length + 1 : Nat) : Int)) := len_str
  have hp : (0 : Int) < ((r.length + 1 : Nat) : Int) := by omega
  have hx : A.index (.str (c :: r)) (.int .i64 0) = some (.int .u8 (c.toNat : Int)) := rfl
  have d1 : A.sliceStr (.str (c :: r)) (some (.int .i64 1)) none = some (.str r) := slice_str (s := c :: r) (i := 1) (by simp)
  have hr : A.lenStr (.str r) = some (.int .i64 (r.length : Int)) := len_str
  have hz : (c.toNat : Int) < 128 := by omega
  have ih8 := ih (r.drop 8) (by simp)
  have ih24 : ∀ s', s'.length ≤ (r.drop 24).length → ValidFrom s' := fun s' h => ih s' (by simp at h; omega)
  have ihr := ih r (Nat.le_refl _)
  have hvc : validD (c :: r) = validD r := validD_cons c r hc
  rw [hvc]
  clear hvc
  generalize ((r.length + 1 : Nat) : Int) = N1 at *
  generalize (c.toNat : Int) = z at *
  generalize c :: r = s at *
  by_cases h8 : 8 < r.length
  · have h8' : (8 : Int) < (r.length : Int) := by omega
    have d8 : A.sliceStr (.str r) (some (.int .i64 8)) none = some (.str (r.drop 8)) := slice_str (s := r) (i := 8) (by omega)
    have w0 : ∀ (R : Type) (H : Heap) (k : AV → Heap → Option R), polK pWord [.str r] H k = k (.int .u64 (wordN r : Nat)) H := fun R H k => kWord (by omega)
    have hm8 := (word_mask r (by omega)).1
    generalize ((wordN r : Nat) : Int) = a0 at *
    by_cases c0 : andI .u64 a0 9259542123273814144 = 0
    · have hv8 : validD r = validD (r.drop 8) := asc_drop (hm8 c0)
      rw [hv8]
      have hr8 : A.lenStr (.str (r.drop 8)) = some (.int .i64 ((r.length - 8 : Nat) : Int)) := by rw [len_str]; simp
      by_cases h16 : 16 < r.length - 8
      · have h16i : (16 : Int) < ((r.length - 8 : Nat) : Int) := by omega
        have d16 : A.sliceStr (.str (r.drop 8)) (some (.int .i64 8)) none = some (.str (r.drop 16)) := by
          have := slice_str (s := r.drop 8) (k := .i64) (i := 8) (by simp; omega)
          rw [List.drop_drop] at this
          exact this
        have d24 : A.sliceStr (.str (r.drop 8)) (some (.int .i64 16)) none = some (.str (r.drop 24)) := by
          have := slice_str (s := r.drop 8) (k := .i64) (i := 16) (by simp; omega)
          rw [List.drop_drop] at this
          exact this
        have w8 : ∀ (R : Type) (H : Heap) (k : AV → Heap → Option R), polK pWord [.str (r.drop 8)] H k = k (.int .u64 (wordN (r.drop 8) : Nat)) H := fun R H k => kWord (by simp; omega)
        have w16 : ∀ (R : Type) (H : Heap) (k : AV → Heap → Option R), polK pWord [.str (r.drop 16)] H k = k (.int .u64 (wordN (r.drop 16) : Nat)) H := fun R H k => kWord (by simp; omega)
        have hm16 := (word_mask2 (r.drop 8) (r.drop 16) (by simp; omega) (by simp; omega)).1
        generalize ((wordN (r.drop 8) : Nat) : Int) = a8 at *
        generalize ((wordN (r.drop 16) : Nat) : Int) = a16 at *
        by_cases c1 : andI .u64 (orI .u64 a8 a16) 9259542123273814144 = 0
        · have h16' := hm16 c1
          have hd16 : (r.drop 8).drop 8 = r.drop 16 := by rw [List.drop_drop]
          have hv16 : validD (r.drop 8) = validD (r.drop 24) := by
            have := asc_drop (s := r.drop 8) (k := 8 + 8) (take_add h16'.1 (by rw [hd16]; exact h16'.2))
            rw [this, List.drop_drop]
          obtain ⟨s', hs', hvs, hL1⟩ := valid_skip _ (r.drop 24) (Nat.le_refl _) H
          rw [hv16, ← hvs]
          clear hv16 hd16
          obtain ⟨H', hL⟩ := ih24 s' hs' H
          refine ⟨H', LDoes.step (Evs.withL hL1 (Evs.withL hL (Evs.of fun n m _ h2 h3 _ => ?_)))⟩
          generalize r.drop 8 = r8 at *
          generalize r.drop 16 = r16 at *
          generalize r.drop 24 = r24 at *
          generalize (r.length : Int) = N at *
          generalize ((r.length - 8 : Nat) : Int) = N8 at *
          simp [↓test_bool, ↓bindV_eq, ↓withV_of, ↓withP_some, ↓withB_some, ↓bindX_some, ↓chkD_true, L24_0_step, hl, hp, hx, hz, d1, hr, h8', d8, w0, bin_andI, c0, hr8, h16i, d16, w8, w16, bin_orI, c1, d24, AV.heapy, h2, h3]
        · obtain ⟨H', hL⟩ := ih8 H
          refine ⟨H', LDoes.step (Evs.withL hL (Evs.of fun n m _ h2 => ?_))⟩
          generalize r.drop 8 = r8 at *
          generalize r.drop 16 = r16 at *
          generalize (r.length : Int) = N at *
          generalize ((r.length - 8 : Nat) : Int) = N8 at *
          simp [↓test_bool, ↓bindV_eq, ↓withV_of, ↓withP_some, ↓withB_some, ↓bindX_some, ↓chkD_true, L24_0_step, hl, hp, hx, hz, d1, hr, h8', d8, w0, bin_andI, c0, hr8, h16i, d16, w8, w16, bin_orI, c1, AV.heapy, h2]
      · have h16i : ¬ (16 : Int) < ((r.length - 8 : Nat) : Int) := by omega
        obtain ⟨H', hL⟩ := ih8 H
        refine ⟨H', LDoes.step (Evs.withL hL (Evs.of fun n m _ h2 => ?_))⟩
        generalize r.drop 8 = r8 at *
        generalize (r.length : Int) = N at *
        generalize ((r.length - 8 : Nat) : Int) = N8 at *
        simp [↓test_bool, ↓bindV_eq, ↓withV_of, ↓withP_some, ↓withB_some, ↓bindX_some, ↓chkD_true, L24_0_step, hl, hp, hx, hz, d1, hr, h8', d8, w0, bin_andI, c0, hr8, h16i, AV.heapy, h2]
    · obtain ⟨H', hL⟩ := ihr H
      refine ⟨H', LDoes.step (Evs.withL hL (Evs.of fun n m _ h2 => ?_))⟩
      generalize (r.length : Int) = N at *
      simp [↓test_bool, ↓bindV_eq, ↓withV_of, ↓withP_some, ↓withB_some, ↓bindX_some, L24_0_step, hl, hp, hx, hz, d1, hr, h8', w0, bin_andI, c0, h2]
  · have h8' : ¬ (8 : Int) < (r.length : Int) := by omega
    obtain ⟨H', hL⟩ := ihr H
    refine ⟨H', LDoes.step (Evs.withL hL (Evs.of fun n m _ h2 => ?_))⟩
    generalize (r.length : Int) = N at *
    simp [↓test_bool, ↓bindV_eq, ↓withV_of, ↓withP_some, ↓withB_some, ↓bindX_some, L24_0_step, hl, hp, hx, hz, d1, hr, h8', h2]
end Go.Proofs.YtdkjednjlpcboaaDoor

/- Texts: is one well-formed: signs of more bytes than one; the entry. -/
set_option maxRecDepth 100000
set_option maxHeartbeats 8000000
namespace Go.Proofs.YtdkjednjlpcboaaDoor
open Go Go.Den Go.Lib
theorem valid_high (s : List UInt8) (h0 : 0 < s.length) (hc : 128 ≤ (s.getD 0 0).toNat) (ih : ∀ s' : List UInt8, s'.length < s.length → ValidFrom s') : ValidFrom s := fun H => by
  have hne : s ≠ [] := fun e => by rw [e] at h0; simp at h0
  have hv := validD_lead s hne hc
  have hl : A.lenStr (.str s) = some (.int .i64 (s.length : Int)) := len_str
  have hx : A.index (.str s) (.int .i64 0) = some (.int .u8 ((s.getD 0 0).toNat : Int)) := idx_str (i := 0) h0
  have hx1 : 1 < s.length → A.index (.str s) (.int .i64 1) = some (.int .u8 ((s.getD 1 0).toNat : Int)) := fun h => idx_str (i := 1) h
  have hx2 : 2 < s.length → A.index (.str s) (.int .i64 2) = some (.int .u8 ((s.getD 2 0).toNat : Int)) := fun h => idx_str (i := 2) h
  have hx3 : 3 < s.length → A.index (.str s) (.int .i64 3) = some (.int .u8 ((s.getD 3 0).toNat : Int)) := fun h => idx_str (i := 3) h
  have hz1 : (s.getD 0 0).toNat < 256 := (s.getD 0 0).toNat_lt
  generalize (s.getD 0 0).toNat = z at *
  generalize (s.getD 1 0).toNat = z1 at *
  generalize (s.getD 2 0).toNat = z2 at *
  generalize (s.getD 3 0).toNat = z3 at *
  have hz : ¬ z < 128 := by omega
  have hzi : ¬ (z : Int) < 128 := by omega
  have hw2 : IntKind.wrap .i64 2 = 2 := rfl
  have hw3 : IntKind.wrap .i64 3 = 3 := rfl
  have hw4 : IntKind.wrap .i64 4 = 4 := rfl
  have h0i : (0 : Int) < (s.length : Int) := by omega
  obtain ⟨p0, hfirst⟩ := first_at z hz1
  have hx256 := first_lt z
  have h7 := andI_7 hx256
  obtain ⟨p1, hacc⟩ := acc_at (firstT z / 16) (by omega)
  have hf1 := fun H => (hfirst H).1
  have hf2 := fun H => (hfirst H).2
  have ha1 := fun H => (hacc H).1
  have ha2 := fun H => (hacc H).2
  have hshr : ∀ H, A.bin base.P .shr 5 (.int .u8 (firstT z : Nat)) (.int .u64 4) true H = some (.int .u8 ((firstT z / 16 : Nat) : Int)) := fun H => shr4
  have hy : IntKind.wrap .i64 ((firstT z % 8 : Nat) : Int) = ((firstT z % 8 : Nat) : Int) := wrap_i64 (by omega) (by omega)
  generalize accLo (firstT z / 16) = lo at *
  generalize accHi (firstT z / 16) = hi at *
  generalize firstT z / 16 = w at *
  generalize hyy : firstT z % 8 = y at *
  generalize firstT z = x at *
  have hst : A.store 2 (.ptr H.length 0 0 0) (.agg [.int .u8 (lo : Nat), .int .u8 (hi : Nat)]) (H ++ [.row 0 2 69 [.agg [.int .u8 0, .int .u8 0]]]) = some (H ++ [.row 0 2 69 [.agg [.int .u8 (lo : Nat), .int .u8 (hi : Nat)]]]) := by
    have hb : Go.Den.Box (H ++ [.row 0 2 69 [.agg [.int .u8 0, .int .u8 0]]]) H.length 2 69 [.int .u8 0, .int .u8 0] := row_push
    have := box_store (ds := [.int .u8 (lo : Nat), .int .u8 (hi : Nat)]) hb rfl rfl (by simp)
    rw [this]
    simp
  have hB : Go.Den.Box (H ++ [.row 0 2 69 [.agg [.int .u8 (lo : Nat), .int .u8 (hi : Nat)]]]) H.length 2 69 [.int .u8 (lo : Nat), .int .u8 (hi : Nat)] := row_push
  have fa := fun o => hB.fa (o := o)
  have ld0 := hB.load (o := 0)
  have ld1 := hB.load (o := 1)
  have fa0 := fa 0
  have fa1 := fa 1
  simp only [List.getElem?_cons_succ, List.getElem?_cons_zero] at ld0 ld1
  generalize H ++ [.row 0 2 69 [.agg [.int .u8 (lo : Nat), .int .u8 (hi : Nat)]]] = Hx at *
  by_cases y2 : y = 2
  case pos =>
    by_cases hk : s.length < 2
    case pos =>
      have hki : (s.length : Int) < (2 : Int) := by omega
      have e : validD s = false := by rw [hv]; simp [checkN, y2, hk]
      rw [e]
      exact ⟨Hx, LDoes.step (Evs.of fun n m => by simp [↓test_bool, ↓bindV_eq, ↓bindH_eq, ↓withV_of, ↓withP_some, ↓withH_some, ↓withB_some, ↓bindX_some, L24_0_step, hl, h0, hx, hzi, hf1, hf2, bin_andI, h7, cv_8_int, hw2, hshr, ha1, ha2, hst, fa0, fa1, y2, hki])⟩
    have hki : ¬ (s.length : Int) < (2 : Int) := by omega
    have dk := slice_str (s := s) (k := .i64) (i := 2) (by omega)
    have i1 := hx1 (by omega)
    simp only [Int.cast_ofNat_Int] at dk
    by_cases a1 : z1 < lo
    case pos =>
      have a1i : (z1 : Int) < (lo : Int) := by omega
      have e : validD s = false := by rw [hv]; simp [checkN, y2, hk, a1]
      rw [e]
      exact ⟨Hx, LDoes.step (Evs.of fun n m => by simp [↓test_bool, ↓bindV_eq, ↓bindH_eq, ↓withV_of, ↓withP_some, ↓withH_some, ↓withB_some, ↓bindX_some, L24_0_step, hl, h0, hx, hzi, hf1, hf2, bin_andI, h7, cv_8_int, hw2, hshr, ha1, ha2, hst, fa0, fa1, ld0, y2, hki, i1, a1i])⟩
    have a1i : ¬ (z1 : Int) < (lo : Int) := by omega
    by_cases b1 : hi < z1
    case pos =>
      have b1i : (hi : Int) < (z1 : Int) := by omega
      have e : validD s = false := by rw [hv]; simp [checkN, y2, hk, a1, b1]
      rw [e]
      exact ⟨Hx, LDoes.step (Evs.of fun n m => by simp [↓test_bool, ↓bindV_eq, ↓bindH_eq, ↓withV_of, ↓withP_some, ↓withH_some, ↓withB_some, ↓bindX_some, L24_0_step, hl, h0, hx, hzi, hf1, hf2, bin_andI, h7, cv_8_int, hw2, hshr, ha1, ha2, hst, fa0, fa1, ld0, ld1, y2, hki, i1, a1i, b1i])⟩
    have b1i : ¬ (hi : Int) < (z1 : Int) := by omega
    have e : validD s = validD (s.drop 2) := by rw [hv]; simp [checkN, y2, hk, a1, b1]
    rw [e]
    obtain ⟨H', hL⟩ := ih (s.drop 2) (by simp; omega) Hx
    refine ⟨H', LDoes.step (Evs.withL hL (Evs.of fun n m _ h2 => ?_))⟩
    generalize s.drop 2 = sk at *
    simp [↓test_bool, ↓bindV_eq, ↓bindH_eq, ↓withV_of, ↓withP_some, ↓withH_some, ↓withB_some, ↓bindX_some, L24_0_step, hl, h0, hx, hzi, hf1, hf2, bin_andI, h7, cv_8_int, hw2, hshr, ha1, ha2, hst, fa0, fa1, ld0, ld1, y2, hki, dk, i1, a1i, b1i, h2]
  by_cases y3 : y = 3
  case pos =>
    by_cases hk : s.length < 3
    case pos =>
      have hki : (s.length : Int) < (3 : Int) := by omega
      have e : validD s = false := by rw [hv]; simp [checkN, y3, hk]
      rw [e]
      exact ⟨Hx, LDoes.step (Evs.of fun n m => by simp [↓test_bool, ↓bindV_eq, ↓bindH_eq, ↓withV_of, ↓withP_some, ↓withH_some, ↓withB_some, ↓bindX_some, L24_0_step, hl, h0, hx, hzi, hf1, hf2, bin_andI, h7, cv_8_int, hw3, hshr, ha1, ha2, hst, fa0, fa1, y3, hki])⟩
    have hki : ¬ (s.length : Int) < (3 : Int) := by omega
    have dk := slice_str (s := s) (k := .i64) (i := 3) (by omega)
    have i1 := hx1 (by omega)
    have i2 := hx2 (by omega)
    simp only [Int.cast_ofNat_Int] at dk
    by_cases a1 : z1 < lo
    case pos =>
      have a1i : (z1 : Int) < (lo : Int) := by omega
      have e : validD s = false := by rw [hv]; simp [checkN, y3, hk, a1]
      rw [e]
      exact ⟨Hx, LDoes.step (Evs.of fun n m => by simp [↓test_bool, ↓bindV_eq, ↓bindH_eq, ↓withV_of, ↓withP_some, ↓withH_some, ↓withB_some, ↓bindX_some, L24_0_step, hl, h0, hx, hzi, hf1, hf2, bin_andI, h7, cv_8_int, hw3, hshr, ha1, ha2, hst, fa0, fa1, ld0, y3, hki, i1, a1i])⟩
    have a1i : ¬ (z1 : Int) < (lo : Int) := by omega
    by_cases b1 : hi < z1
    case pos =>
      have b1i : (hi : Int) < (z1 : Int) := by omega
      have e : validD s = false := by rw [hv]; simp [checkN, y3, hk, a1, b1]
      rw [e]
      exact ⟨Hx, LDoes.step (Evs.of fun n m => by simp [↓test_bool, ↓bindV_eq, ↓bindH_eq, ↓withV_of, ↓withP_some, ↓withH_some, ↓withB_some, ↓bindX_some, L24_0_step, hl, h0, hx, hzi, hf1, hf2, bin_andI, h7, cv_8_int, hw3, hshr, ha1, ha2, hst, fa0, fa1, ld0, ld1, y3, hki, i1, a1i, b1i])⟩
    have b1i : ¬ (hi : Int) < (z1 : Int) := by omega
    by_cases a2 : z2 < 128
    case pos =>
      have a2i : (z2 : Int) < (128 : Int) := by omega
      have e : validD s = false := by rw [hv]; simp [checkN, y3, hk, a1, b1, a2]
      rw [e]
      exact ⟨Hx, LDoes.step (Evs.of fun n m => by simp [↓test_bool, ↓bindV_eq, ↓bindH_eq, ↓withV_of, ↓withP_some, ↓withH_some, ↓withB_some, ↓bindX_some, L24_0_step, hl, h0, hx, hzi, hf1, hf2, bin_andI, h7, cv_8_int, hw3, hshr, ha1, ha2, hst, fa0, fa1, ld0, ld1, y3, hki, i1, i2, a1i, b1i, a2i])⟩
    have a2i : ¬ (z2 : Int) < (128 : Int) := by omega
    by_cases b2 : 191 < z2
    case pos =>
      have b2i : (191 : Int) < (z2 : Int) := by omega
      have e : validD s = false := by rw [hv]; simp [checkN, y3, hk, a1, b1, a2, b2]
      rw [e]
      exact ⟨Hx, LDoes.step (Evs.of fun n m => by simp [↓test_bool, ↓bindV_eq, ↓bindH_eq, ↓withV_of, ↓withP_some, ↓withH_some, ↓withB_some, ↓bindX_some, L24_0_step, hl, h0, hx, hzi, hf1, hf2, bin_andI, h7, cv_8_int, hw3, hshr, ha1, ha2, hst, fa0, fa1, ld0, ld1, y3, hki, i1, i2, a1i, b1i, a2i, b2i])⟩
    have b2i : ¬ (191 : Int) < (z2 : Int) := by omega
    have e : validD s = validD (s.drop 3) := by rw [hv]; simp [checkN, y3, hk, a1, b1, a2, b2]
    rw [e]
    obtain ⟨H', hL⟩ := ih (s.drop 3) (by simp; omega) Hx
    refine ⟨H', LDoes.step (Evs.withL hL (Evs.of fun n m _ h2 => ?_))⟩
    generalize s.drop 3 = sk at *
    simp [↓test_bool, ↓bindV_eq, ↓bindH_eq, ↓withV_of, ↓withP_some, ↓withH_some, ↓withB_some, ↓bindX_some, L24_0_step, hl, h0, hx, hzi, hf1, hf2, bin_andI, h7, cv_8_int, hw3, hshr, ha1, ha2, hst, fa0, fa1, ld0, ld1, y3, hki, dk, i1, i2, a1i, b1i, a2i, b2i, h2]
  by_cases y4 : y = 4
  case pos =>
    by_cases hk : s.length < 4
    case pos =>
      have hki : (s.length : Int) < (4 : Int) := by omega
      have e : validD s = false := by rw [hv]; simp [checkN, y4, hk]
      rw [e]
      exact ⟨Hx, LDoes.step (Evs.of fun n m => by simp [↓test_bool, ↓bindV_eq, ↓bindH_eq, ↓withV_of, ↓withP_some, ↓withH_some, ↓withB_some, ↓bindX_some, L24_0_step, hl, h0, hx, hzi, hf1, hf2, bin_andI, h7, cv_8_int, hw4, hshr, ha1, ha2, hst, fa0, fa1, y4, hki])⟩
    have hki : ¬ (s.length : Int) < (4 : Int) := by omega
    have dk := slice_str (s := s) (k := .i64) (i := 4) (by omega)
    have i1 := hx1 (by omega)
    have i2 := hx2 (by omega)
    have i3 := hx3 (by omega)
    simp only [Int.cast_ofNat_Int] at dk
    by_cases a1 : z1 < lo
    case pos =>
      have a1i : (z1 : Int) < (lo : Int) := by omega
      have e : validD s = false := by rw [hv]; simp [checkN, y4, hk, a1]
      rw [e]
      exact ⟨Hx, LDoes.step (Evs.of fun n m => by simp [↓test_bool, ↓bindV_eq, ↓bindH_eq, ↓withV_of, ↓withP_some, ↓withH_some, ↓withB_some, ↓bindX_some, L24_0_step, hl, h0, hx, hzi, hf1, hf2, bin_andI, h7, cv_8_int, hw4, hshr, ha1, ha2, hst, fa0, fa1, ld0, y4, hki, i1, a1i])⟩
    have a1i : ¬ (z1 : Int) < (lo : Int) := by omega
    by_cases b1 : hi < z1
    case pos =>
      have b1i : (hi : Int) < (z1 : Int) := by omega
      have e : validD s = false := by rw [hv]; simp [checkN, y4, hk, a1, b1]
      rw [e]
      exact ⟨Hx, LDoes.step (Evs.of fun n m => by simp [↓test_bool, ↓bindV_eq, ↓bindH_eq, ↓withV_of, ↓withP_some, ↓withH_some, ↓withB_some, ↓bindX_some, L24_0_step, hl, h0, hx, hzi, hf1, hf2, bin_andI, h7, cv_8_int, hw4, hshr, ha1, ha2, hst, fa0, fa1, ld0, ld1, y4, hki, i1, a1i, b1i])⟩
    have b1i : ¬ (hi : Int) < (z1 : Int) := by omega
    by_cases a2 : z2 < 128
    case pos =>
      have a2i : (z2 : Int) < (128 : Int) := by omega
      have e : validD s = false := by rw [hv]; simp [checkN, y4, hk, a1, b1, a2]
      rw [e]
      exact ⟨Hx, LDoes.step (Evs.of fun n m => by simp [↓test_bool, ↓bindV_eq, ↓bindH_eq, ↓withV_of, ↓withP_some, ↓withH_some, ↓withB_some, ↓bindX_some, L24_0_step, hl, h0, hx, hzi, hf1, hf2, bin_andI, h7, cv_8_int, hw4, hshr, ha1, ha2, hst, fa0, fa1, ld0, ld1, y4, hki, i1, i2, a1i, b1i, a2i])⟩
    have a2i : ¬ (z2 : Int) < (128 : Int) := by omega
    by_cases b2 : 191 < z2
    case pos =>
      have b2i : (191 : Int) < (z2 : Int) := by omega
      have e : validD s = false := by rw [hv]; simp [checkN, y4, hk, a1, b1, a2, b2]
      rw [e]
      exact ⟨Hx, LDoes.step (Evs.of fun n m => by simp [↓test_bool, ↓bindV_eq, ↓bindH_eq, ↓withV_of, ↓withP_some, ↓withH_some, ↓withB_some, ↓bindX_some, L24_0_step, hl, h0, hx, hzi, hf1, hf2, bin_andI, h7, cv_8_int, hw4, hshr, ha1, ha2, hst, fa0, fa1, ld0, ld1, y4, hki, i1, i2, a1i, b1i, a2i, b2i])⟩
    have b2i : ¬ (191 : Int) < (z2 : Int) := by omega
    by_cases a3 : z3 < 128
    case pos =>
      have a3i : (z3 : Int) < (128 : Int) := by omega
      have e : validD s = false := by rw [hv]; simp [checkN, y4, hk, a1, b1, a2, b2, a3]
      rw [e]
      exact ⟨Hx, LDoes.step (Evs.of fun n m => by simp [↓test_bool, ↓bindV_eq, ↓bindH_eq, ↓withV_of, ↓withP_some, ↓withH_some, ↓withB_some, ↓bindX_some, L24_0_step, hl, h0, hx, hzi, hf1, hf2, bin_andI, h7, cv_8_int, hw4, hshr, ha1, ha2, hst, fa0, fa1, ld0, ld1, y4, hki, i1, i2, i3, a1i, b1i, a2i, b2i, a3i])⟩
    have a3i : ¬ (z3 : Int) < (128 : Int) := by omega
    by_cases b3 : 191 < z3
    case pos =>
      have b3i : (191 : Int) < (z3 : Int) := by omega
      have e : validD s = false := by rw [hv]; simp [checkN, y4, hk, a1, b1, a2, b2, a3, b3]
      rw [e]
      exact ⟨Hx, LDoes.step (Evs.of fun n m => by simp [↓test_bool, ↓bindV_eq, ↓bindH_eq, ↓withV_of, ↓withP_some, ↓withH_some, ↓withB_some, ↓bindX_some, L24_0_step, hl, h0, hx, hzi, hf1, hf2, bin_andI, h7, cv_8_int, hw4, hshr, ha1, ha2, hst, fa0, fa1, ld0, ld1, y4, hki, i1, i2, i3, a1i, b1i, a2i, b2i, a3i, b3i])⟩
    have b3i : ¬ (191 : Int) < (z3 : Int) := by omega
    have e : validD s = validD (s.drop 4) := by rw [hv]; simp [checkN, y4, hk, a1, b1, a2, b2, a3, b3]
    rw [e]
    obtain ⟨H', hL⟩ := ih (s.drop 4) (by simp; omega) Hx
    refine ⟨H', LDoes.step (Evs.withL hL (Evs.of fun n m _ h2 => ?_))⟩
    generalize s.drop 4 = sk at *
    simp [↓test_bool, ↓bindV_eq, ↓bindH_eq, ↓withV_of, ↓withP_some, ↓withH_some, ↓withB_some, ↓bindX_some, L24_0_step, hl, h0, hx, hzi, hf1, hf2, bin_andI, h7, cv_8_int, hw4, hshr, ha1, ha2, hst, fa0, fa1, ld0, ld1, y4, hki, dk, i1, i2, i3, a1i, b1i, a2i, b2i, a3i, b3i, h2]
  have y2i : ¬ (y : Int) = 2 := by omega
  have y3i : ¬ (y : Int) = 3 := by omega
  have y4i : ¬ (y : Int) = 4 := by omega
  have e : validD s = false := by rw [hv]; simp [checkN, y2, y3, y4]
  rw [e]
  exact ⟨Hx, LDoes.step (Evs.of fun n m => by simp [↓test_bool, ↓bindV_eq, ↓bindH_eq, ↓withV_of, ↓withH_some, ↓bindX_some, L24_0_step, hl, h0, hx, hzi, hf1, hf2, bin_andI, h7, cv_8_int, hy, hshr, ha1, ha2, hst, y2i, y3i, y4i])⟩
theorem valid_from : ∀ (N : Nat) (s : List UInt8), s.length ≤ N → ValidFrom s
  | _, [], _ => valid_nil
  | 0, _ :: _, h => by simp at h
  | N + 1, c :: r, h => by
    have ih : ∀ s' : List UInt8, s'.length < (c :: r).length → ValidFrom s' := fun s' h' => valid_from N s' (by simp at h h'; omega)
    by_cases hc : c.toNat < 128
    · exact valid_ascii c r hc fun s' h' => ih s' (by simp; omega)
    · exact valid_high (c :: r) (by simp) (by simp; omega) ih
noncomputable def pValid : Pol := .still (p1 cS .bool (fun _ => True) validD)
theorem okValid : PolOK base 24 pValid := still1 base_ok TVal ⟨okWord, trivial⟩ fun s _ => by
  obtain ⟨H', hL⟩ := valid_from _ s (Nat.le_refl _) []
  refine Evs.withL hL (Evs.of fun n m h1 _ => ?_)
  generalize validD s = b at *
  cases b <;> simp [↓bindV_eq, ↓bindX_some, S24, h1]
theorem kValid {R : Type} {s : List UInt8} {H : Heap} {k : AV → Heap → Option R} : polK pValid [.str s] H k = k (.bool (validD s)) H := by
  simp [pValid, polK_imm]
end Go.Proofs.YtdkjednjlpcboaaDoor

/- Texts: the first sign of a well-formed one. -/
set_option maxRecDepth 100000
set_option maxHeartbeats 8000000
namespace Go.Proofs.YtdkjednjlpcboaaDoor
open Go Go.Den Go.Lib
theorem slow_all (n b0 b1 b2 b3 : Nat) (hn : 1 ≤ n) (h0 : 128 ≤ b0) (h0' : b0 < 256) (h1 : b1 < 256) (h2 : b2 < 256) (h3 : b3 < 256) (hs : 2 ≤ firstT b0 % 8) : slowN n b0 b1 b2 b3 (firstT b0 % 8) (accLo (firstT b0 / 16)) (accHi (firstT b0 / 16)) = decodeN n b0 b1 b2 b3 ∧ firstT b0 < 240 ∧ firstT b0 % 8 ≤ 4 := by
  by_cases c0 : b0 < 194
  · simp [firstT, show ¬ b0 < 128 by omega, c0] at hs
  by_cases c1 : b0 < 224
  · have e : firstT b0 = 2 := by simp [firstT, show ¬ b0 < 128 by omega, c0, c1]
    rw [e]; exact ⟨slow_C2 n b0 b1 b2 b3 hn h1 h2 h3 ⟨by omega, c1⟩, by omega, by omega⟩
  by_cases c2 : b0 = 224
  · subst c2; exact ⟨slow_E0 n 224 b1 b2 b3 hn h1 h2 h3 rfl, by decide, by decide⟩
  by_cases c3 : b0 < 237
  · have e : firstT b0 = 3 := by simp [firstT, show ¬ b0 < 128 by omega, c0, c1, c2, c3]
    rw [e]; exact ⟨slow_E1 n b0 b1 b2 b3 hn h1 h2 h3 (.inl ⟨by omega, c3⟩), by omega, by omega⟩
  by_cases c4 : b0 = 237
  · subst c4; exact ⟨slow_ED n 237 b1 b2 b3 hn h1 h2 h3 rfl, by decide, by decide⟩
  by_cases c5 : b0 < 240
  · have e : firstT b0 = 3 := by simp [firstT, show ¬ b0 < 128 by omega, c0, c1, c2, c3, c4, c5]
    rw [e]; exact ⟨slow_E1 n b0 b1 b2 b3 hn h1 h2 h3 (.inr ⟨by omega, c5⟩), by omega, by omega⟩
  by_cases c6 : b0 = 240
  · subst c6; exact ⟨slow_F0 n 240 b1 b2 b3 hn h1 h2 h3 rfl, by decide, by decide⟩
  by_cases c7 : b0 < 244
  · have e : firstT b0 = 4 := by simp [firstT, show ¬ b0 < 128 by omega, c0, c1, c2, c3, c4, c5, c6, c7]
    rw [e]; exact ⟨slow_F1 n b0 b1 b2 b3 hn h1 h2 h3 ⟨by omega, c7⟩, by omega, by omega⟩
  by_cases c8 : b0 = 244
  · subst c8; exact ⟨slow_F4 n 244 b1 b2 b3 hn h1 h2 h3 rfl, by decide, by decide⟩
  · simp [firstT, show ¬ b0 < 128 by omega, c0, c1, c2, c3, c4, c5, c6, c7, c8] at hs
theorem and_mask {a k : Nat} (ha : a < 256) (hk : k ≤ 7) : andI .u8 (a : Int) ((2 ^ k - 1 : Nat) : Int) = ((a % 2 ^ k : Nat) : Int) := by
  have h : 2 ^ k - 1 < 256 := by
    have : 2 ^ k ≤ 2 ^ 7 := Nat.pow_le_pow_right (by omega) hk
    omega
  rw [andI_8 ha h, Nat.and_two_pow_sub_one_eq_mod]
theorem wrap_i32n {a : Nat} (h : a < 2147483648) : IntKind.wrap .i32 (a : Int) = a := by
  simp [IntKind.wrap, IntKind.bits, IntKind.signed]
  omega
theorem or_i32 {a b s : Nat} (ha : a % 2 ^ s = 0) (hb : b < 2 ^ s) (h : a + b < 2147483648) : orI .i32 (a : Int) (b : Int) = ((a + b : Nat) : Int) := by
  unfold orI
  rw [show IntKind.bits .i32 = 32 from rfl, BitVec.toNat_or]
  simp
  have e : a ||| b = a + b := by
    have := Nat.two_pow_add_eq_or_of_lt hb (a / 2 ^ s)
    have e2 : 2 ^ s * (a / 2 ^ s) = a := by have := Nat.div_add_mod a (2 ^ s); omega
    rw [e2] at this
    exact this.symm
  rw [Nat.mod_eq_of_lt (by omega), Nat.mod_eq_of_lt (by omega), e]
  have := wrap_i32n h
  simpa using this
theorem cv_8_32 (n : Int) (j : IntKind) : Go.Den.convert base 5 21 (.int j n) = some (.int .i32 (IntKind.wrap .i32 n)) := conv_int (x := .int .u8) (by kernel_rfl) (by kernel_rfl)
theorem shl_i32 {P : Program} {t : TypeId} {j : IntKind} {a s : Nat} {c : Bool} {H : Heap} (hs : s ≤ 32) (h : a * 2 ^ s < 2147483648) : A.bin P .shl t (.int .i32 (a : Int)) (.int j (s : Int)) c H = some (.int .i32 ((a * 2 ^ s : Nat) : Int)) := by
  have hm : min s 32 = s := by omega
  have hw := wrap_i32n h
  have hn : ¬ (s : Int) < 0 := by omega
  simp only [A.bin, A.binInt]
  rw [if_neg hn]
  have e : min ((s : Int).toNat) (IntKind.bits .i32) = s := by
    show min ((s : Int).toNat) 32 = s
    omega
  rw [e]
  have e2 : (a : Int) * 2 ^ s = ((a * 2 ^ s : Nat) : Int) := by push_cast; rfl
  rw [e2, hw]
def decR (s : List UInt8) : Nat × Nat := if s = [] then (65533, 0) else decodeL s
def slowOk (s : List UInt8) : Prop := validD s = true ∧ (s = [] ∨ 128 ≤ (s.getD 0 0).toNat)
noncomputable def pSlow : Pol := .still (p1 cS (fun r : Nat × Nat => .tup [.int .i32 r.1, .int .i64 r.2]) slowOk decR)
theorem kSlow {R : Type} {s : List UInt8} (h : validD s = true) (h2 : s = [] ∨ 128 ≤ (s.getD 0 0).toNat) {H : Heap} {k : AV → Heap → Option R} : polK pSlow [.str s] H k = k (.tup [.int .i32 (decR s).1, .int .i64 (decR s).2]) H := by
  have : slowOk s := ⟨h, h2⟩
  unfold pSlow
  rw [polK_imm (by simp)]
  simp [this]
theorem okSlow : PolOK base 51 pSlow := still1 base_ok [] trivial fun s ⟨hv, h2⟩ => by
  have hl : A.lenStr (.str s) = some (.int .i64 (s.length : Int)) := len_str
  by_cases hne : s = []
  · subst hne
    have hl0 : A.lenStr (.str []) = some (.int .i64 0) := rfl
    exact Evs.of fun n m => by
      simp [↓test_bool, ↓withV_of, S51, hl0, decR]
      rfl
  have hc : 128 ≤ (s.getD 0 0).toNat := by
    rcases h2 with h | h
    · exact absurd h hne
    · exact h
  have h0 : 0 < s.length := List.length_pos_iff.2 hne
  have hlead := validD_lead s hne hc
  rw [hv] at hlead
  have hdec := decodeL_N s
  unfold decR
  rw [if_neg hne, hdec]
  have hx : A.index (.str s) (.int .i64 0) = some (.int .u8 ((s.getD 0 0).toNat : Int)) := idx_str (i := 0) h0
  have hx1 : 1 < s.length → A.index (.str s) (.int .i64 1) = some (.int .u8 ((s.getD 1 0).toNat : Int)) := fun h => idx_str (i := 1) h
  have hx2 : 2 < s.length → A.index (.str s) (.int .i64 2) = some (.int .u8 ((s.getD 2 0).toNat : Int)) := fun h => idx_str (i := 2) h
  have hx3 : 3 < s.length → A.index (.str s) (.int .i64 3) = some (.int .u8 ((s.getD 3 0).toNat : Int)) := fun h => idx_str (i := 3) h
  have hz0 : (s.getD 0 0).toNat < 256 := (s.getD 0 0).toNat_lt
  have hz1 : (s.getD 1 0).toNat < 256 := (s.getD 1 0).toNat_lt
  have hz2 : (s.getD 2 0).toNat < 256 := (s.getD 2 0).toNat_lt
  have hz3 : (s.getD 3 0).toNat < 256 := (s.getD 3 0).toNat_lt
  generalize (s.getD 0 0).toNat = z at *
  generalize (s.getD 1 0).toNat = z1 at *
  generalize (s.getD 2 0).toNat = z2 at *
  generalize (s.getD 3 0).toNat = z3 at *
  clear hdec
  obtain ⟨p0, hfirst⟩ := first_at z hz0
  have hx256 := first_lt z
  have h7 := andI_7 hx256
  obtain ⟨p1, hacc⟩ := acc_at (firstT z / 16) (by omega)
  have hf1 := fun H => (hfirst H).1
  have hf2 := fun H => (hfirst H).2
  have ha1 := fun H => (hacc H).1
  have ha2 := fun H => (hacc H).2
  have hshr : ∀ H, A.bin base.P .shr 5 (.int .u8 (firstT z : Nat)) (.int .u64 4) true H = some (.int .u8 ((firstT z / 16 : Nat) : Int)) := fun H => shr4
  have hy : IntKind.wrap .i64 ((firstT z % 8 : Nat) : Int) = ((firstT z % 8 : Nat) : Int) := wrap_i64 (by omega) (by omega)
  have hsz : 2 ≤ firstT z % 8 := by
    unfold checkN at hlead
    by_cases e2 : firstT z % 8 = 2
    · omega
    by_cases e3 : firstT z % 8 = 3
    · omega
    by_cases e4 : firstT z % 8 = 4
    · omega
    · rw [if_neg e2, if_neg e3, if_neg e4] at hlead
      cases hlead
  obtain ⟨hsl, h240, h4⟩ := slow_all s.length z z1 z2 z3 (by omega) hc hz0 hz1 hz2 hz3 hsz
  rw [← hsl]
  generalize accLo (firstT z / 16) = lo at *
  generalize accHi (firstT z / 16) = hi at *
  generalize firstT z / 16 = w at *
  generalize hyy : firstT z % 8 = y at *
  generalize firstT z = x at *
  have h240' : ¬ (240 : Int) ≤ (x : Int) := by omega
  have h1' : ¬ (s.length : Int) < 1 := by omega
  have hst : A.store 2 (.ptr 0 0 0 0) (.agg [.int .u8 (lo : Nat), .int .u8 (hi : Nat)]) [.row 0 2 69 [.agg [.int .u8 0, .int .u8 0]]] = some [.row 0 2 69 [.agg [.int .u8 (lo : Nat), .int .u8 (hi : Nat)]]] := box_store (cs := [.int .u8 0, .int .u8 0]) (ds := [.int .u8 (lo : Nat), .int .u8 (hi : Nat)]) (H := [.row 0 2 69 [.agg [.int .u8 0, .int .u8 0]]]) rfl rfl rfl (by simp)
  have hB : Go.Den.Box [.row 0 2 69 [.agg [.int .u8 (lo : Nat), .int .u8 (hi : Nat)]]] 0 2 69 [.int .u8 (lo : Nat), .int .u8 (hi : Nat)] := rfl
  have fa0 := hB.fa (o := 0)
  have fa1 := hB.fa (o := 1)
  have ld0 := hB.load (o := 0)
  have ld1 := hB.load (o := 1)
  simp only [List.getElem?_cons_succ, List.getElem?_cons_zero] at ld0 ld1
  have m1 : andI .u8 (z1 : Int) 63 = ((z1 % 64 : Nat) : Int) := and_mask (k := 6) hz1 (by omega)
  have m2 : andI .u8 (z2 : Int) 63 = ((z2 % 64 : Nat) : Int) := and_mask (k := 6) hz2 (by omega)
  have m3 : andI .u8 (z3 : Int) 63 = ((z3 % 64 : Nat) : Int) := and_mask (k := 6) hz3 (by omega)
  have v : ∀ a : Nat, a < 256 → IntKind.wrap .i32 (a : Int) = a := fun a ha => wrap_i32n (by omega)
  have v1 := v (z1 % 64) (by omega)
  have v2 := v (z2 % 64) (by omega)
  have v3 := v (z3 % 64) (by omega)
  have hfz : ∀ (H : Heap) (a b : Int), A.freezeB true 64 H (.tup [.int .i32 a, .int .i64 b]) = some (.tup [.int .i32 a, .int .i64 b]) := fun H a b => rfl
  unfold checkN at hlead
  unfold slowN
  by_cases y2 : y = 2
  case pos =>
    rw [if_pos y2] at hlead
    by_cases hk : s.length < 2 ∨ z1 < lo ∨ hi < z1
    · rw [if_pos hk] at hlead
      cases hlead
    have hk1 : ¬ (s.length : Int) < 2 := by omega
    have a1 : ¬ (z1 : Int) < (lo : Int) := by omega
    have b1 : ¬ (hi : Int) < (z1 : Int) := by omega
    have i1 := hx1 (by omega)
    rw [if_neg (by omega), if_neg (by omega), if_pos (by omega)]
    have n0 : andI .u8 (z : Int) 31 = ((z % 32 : Nat) : Int) := and_mask (k := 5) hz0 (by omega)
    have v0 := v (z % 32) (by omega)
    have s0 : ∀ H, A.bin base.P .shl 21 (.int .i32 ((z % 32 : Nat) : Int)) (.int .u64 6) true H = some (.int .i32 ((z % 32 * 64 : Nat) : Int)) := fun H => shl_i32 (s := 6) (by omega) (by omega)
    have o0 := or_i32 (a := z % 32 * 64) (b := z1 % 64) (s := 6) (by omega) (by omega) (by omega)
    subst y2
    have hw2 : IntKind.wrap .i64 2 = 2 := rfl
    generalize z % 32 * 64 + z1 % 64 = out at *
    generalize z % 32 * 64 = g1 at *
    generalize z % 32 = g0 at *
    generalize z1 % 64 = g2 at *
    exact Evs.of fun n m => by simp [↓test_bool, ↓bindV_eq, ↓bindH_eq, ↓withV_of, ↓withP_some, ↓withH_some, ↓withB_some, S51, hl, h1', hx, hf1, hf2, h240', bin_andI, h7, cv_8_int, hw2, hshr, ha1, ha2, hst, hk1, i1, fa0, ld0, a1, fa1, ld1, b1, n0, cv_8_32, v0, s0, m1, v1, bin_orI, o0, hfz]
  by_cases y3 : y = 3
  case pos =>
    rw [if_neg y2, if_pos y3] at hlead
    by_cases hk : s.length < 3 ∨ z1 < lo ∨ hi < z1 ∨ z2 < 128 ∨ 191 < z2
    · rw [if_pos hk] at hlead
      cases hlead
    have hk1 : ¬ (s.length : Int) < 3 := by omega
    have a1 : ¬ (z1 : Int) < (lo : Int) := by omega
    have b1 : ¬ (hi : Int) < (z1 : Int) := by omega
    have a2 : ¬ (z2 : Int) < 128 := by omega
    have b2 : ¬ (191 : Int) < (z2 : Int) := by omega
    have i1 := hx1 (by omega)
    have i2 := hx2 (by omega)
    rw [if_neg (by omega), if_neg (by omega), if_neg (by omega), if_neg (by omega), if_pos (by omega)]
    have n0 : andI .u8 (z : Int) 15 = ((z % 16 : Nat) : Int) := and_mask (k := 4) hz0 (by omega)
    have v0 := v (z % 16) (by omega)
    have s0 : ∀ H, A.bin base.P .shl 21 (.int .i32 ((z % 16 : Nat) : Int)) (.int .u64 12) true H = some (.int .i32 ((z % 16 * 4096 : Nat) : Int)) := fun H => shl_i32 (s := 12) (by omega) (by omega)
    have s1 : ∀ H, A.bin base.P .shl 21 (.int .i32 ((z1 % 64 : Nat) : Int)) (.int .u64 6) true H = some (.int .i32 ((z1 % 64 * 64 : Nat) : Int)) := fun H => shl_i32 (s := 6) (by omega) (by omega)
    have o0 := or_i32 (a := z % 16 * 4096) (b := z1 % 64 * 64) (s := 12) (by omega) (by omega) (by omega)
    have o1 := or_i32 (a := z % 16 * 4096 + z1 % 64 * 64) (b := z2 % 64) (s := 6) (by omega) (by omega) (by omega)
    subst y3
    have hw3 : IntKind.wrap .i64 3 = 3 := rfl
    generalize z % 16 * 4096 + z1 % 64 * 64 + z2 % 64 = out at *
    generalize z % 16 * 4096 + z1 % 64 * 64 = g5 at *
    generalize z % 16 * 4096 = g1 at *
    generalize z1 % 64 * 64 = g4 at *
    generalize z % 16 = g0 at *
    generalize z1 % 64 = g2 at *
    generalize z2 % 64 = g3 at *
    exact Evs.of fun n m => by simp [↓test_bool, ↓bindV_eq, ↓bindH_eq, ↓withV_of, ↓withP_some, ↓withH_some, ↓withB_some, S51, hl, h1', hx, hf1, hf2, h240', bin_andI, h7, cv_8_int, hw3, hshr, ha1, ha2, hst, hk1, i1, fa0, ld0, a1, fa1, ld1, b1, i2, a2, b2, n0, cv_8_32, v0, s0, m1, v1, s1, bin_orI, o0, m2, v2, o1, hfz]
  · have y4 : y = 4 := by omega
    rw [if_neg y2, if_neg y3, if_pos y4] at hlead
    by_cases hk : s.length < 4 ∨ z1 < lo ∨ hi < z1 ∨ z2 < 128 ∨ 191 < z2 ∨ z3 < 128 ∨ 191 < z3
    · rw [if_pos hk] at hlead
      cases hlead
    have hk1 : ¬ (s.length : Int) < 4 := by omega
    have a1 : ¬ (z1 : Int) < (lo : Int) := by omega
    have b1 : ¬ (hi : Int) < (z1 : Int) := by omega
    have a2 : ¬ (z2 : Int) < 128 := by omega
    have b2 : ¬ (191 : Int) < (z2 : Int) := by omega
    have a3 : ¬ (z3 : Int) < 128 := by omega
    have b3 : ¬ (191 : Int) < (z3 : Int) := by omega
    have i1 := hx1 (by omega)
    have i2 := hx2 (by omega)
    have i3 := hx3 (by omega)
    rw [if_neg (by omega), if_neg (by omega), if_neg (by omega), if_neg (by omega), if_neg (by omega), if_neg (by omega)]
    obtain ⟨g0, e0⟩ : ∃ g, z % 8 = g := ⟨_, rfl⟩
    obtain ⟨g2, e2⟩ : ∃ g, z1 % 64 = g := ⟨_, rfl⟩
    obtain ⟨g3, e3⟩ : ∃ g, z2 % 64 = g := ⟨_, rfl⟩
    obtain ⟨g8, e8⟩ : ∃ g, z3 % 64 = g := ⟨_, rfl⟩
    have n0 : andI .u8 (z : Int) 7 = ((z % 8 : Nat) : Int) := and_mask (k := 3) hz0 (by omega)
    have v0 := v (z % 8) (by omega)
    rw [e0] at n0 v0 ⊢
    rw [e2] at m1 v1 ⊢
    rw [e3] at m2 v2 ⊢
    rw [e8] at m3 v3 ⊢
    have q0 : g0 < 8 := by omega
    have q2 : g2 < 64 := by omega
    have q3 : g3 < 64 := by omega
    have q8 : g8 < 64 := by omega
    obtain ⟨g1, e1⟩ : ∃ g, g0 * 262144 = g := ⟨_, rfl⟩
    obtain ⟨g4, e4⟩ : ∃ g, g2 * 4096 = g := ⟨_, rfl⟩
    obtain ⟨g7, e7⟩ : ∃ g, g3 * 64 = g := ⟨_, rfl⟩
    rw [e1, e4, e7]
    have s0 : ∀ H, A.bin base.P .shl 21 (.int .i32 (g0 : Int)) (.int .u64 18) true H = some (.int .i32 (g1 : Int)) := fun H => by rw [← e1]; exact shl_i32 (s := 18) (by omega) (by omega)
    have s1 : ∀ H, A.bin base.P .shl 21 (.int .i32 (g2 : Int)) (.int .u64 12) true H = some (.int .i32 (g4 : Int)) := fun H => by rw [← e4]; exact shl_i32 (s := 12) (by omega) (by omega)
    have s2 : ∀ H, A.bin base.P .shl 21 (.int .i32 (g3 : Int)) (.int .u64 6) true H = some (.int .i32 (g7 : Int)) := fun H => by rw [← e7]; exact shl_i32 (s := 6) (by omega) (by omega)
    have o0 := or_i32 (a := g1) (b := g4) (s := 18) (by omega) (by omega) (by omega)
    have o1 := or_i32 (a := g1 + g4) (b := g7) (s := 12) (by omega) (by omega) (by omega)
    have o2 := or_i32 (a := g1 + g4 + g7) (b := g8) (s := 6) (by omega) (by omega) (by omega)
    obtain ⟨g5, e5⟩ : ∃ g, g1 + g4 = g := ⟨_, rfl⟩
    rw [e5] at o0 o1 o2 ⊢
    obtain ⟨g6, e6⟩ : ∃ g, g5 + g7 = g := ⟨_, rfl⟩
    rw [e6] at o1 o2 ⊢
    obtain ⟨out, e9⟩ : ∃ g, g6 + g8 = g := ⟨_, rfl⟩
    rw [e9] at o2 ⊢
    clear hsl
    subst y4
    have hw4 : IntKind.wrap .i64 4 = 4 := rfl
    exact Evs.of fun n m => by simp [↓test_bool, ↓bindV_eq, ↓bindH_eq, ↓withV_of, ↓withP_some, ↓withH_some, ↓withB_some, S51, hl, h1', hx, hf1, hf2, h240', bin_andI, h7, cv_8_int, hw4, hshr, ha1, ha2, hst, hk1, i1, fa0, ld0, a1, fa1, ld1, b1, i2, a2, b2, i3, a3, b3, n0, cv_8_32, v0, s0, m1, v1, s1, bin_orI, o0, m2, v2, s2, o1, m3, v3, o2, hfz]
noncomputable def pDec : Pol := .still (p1 cS (fun r : Nat × Nat => .tup [.int .i32 r.1, .int .i64 r.2]) (fun s => validD s = true) decR)
theorem kDec {R : Type} {s : List UInt8} (h : validD s = true) {H : Heap} {k : AV → Heap → Option R} : polK pDec [.str s] H k = k (.tup [.int .i32 (decR s).1, .int .i64 (decR s).2]) H := by
  unfold pDec
  rw [polK_imm (by simp)]
  simp [h]
theorem str_ne {t : TypeId} {c : Bool} {H : Heap} (s : List UInt8) : A.bin base.P .neq t (.str s) (.str []) c H = some (.bool (!decide (s = []))) := by
  cases s <;> rfl
theorem okDec : PolOK base 33 pDec := still1 base_ok [(51, pSlow)] ⟨okSlow, trivial⟩ fun s hv => by
  have hfz : ∀ (H : Heap) (a b : Int), A.freezeB true 64 H (.tup [.int .i32 a, .int .i64 b]) = some (.tup [.int .i32 a, .int .i64 b]) := fun H a b => rfl
  have hn := fun H => str_ne (t := 9) (c := true) (H := H) s
  by_cases hne : s = []
  · subst hne
    have hk : ∀ (R : Type) (H : Heap) (k : AV → Heap → Option R), polK pSlow [.str []] H k = k (.tup [.int .i32 (decR []).1, .int .i64 (decR []).2]) H := fun R H k => kSlow hv (.inl rfl)
    exact Evs.of fun n m => by simp [↓test_bool, ↓withV_of, ↓withP_some, ↓withB_some, S33, hn, hk, hfz]
  have h0 : 0 < s.length := List.length_pos_iff.2 hne
  have hx : A.index (.str s) (.int .i64 0) = some (.int .u8 ((s.getD 0 0).toNat : Int)) := idx_str (i := 0) h0
  by_cases hc : (s.getD 0 0).toNat < 128
  · have hc' : ((s.getD 0 0).toNat : Int) < 128 := by omega
    have e : decR s = ((s.getD 0 0).toNat, 1) := by
      unfold decR
      rw [if_neg hne, decodeL_N]
      unfold decodeN
      rw [if_pos hc]
    have hw : IntKind.wrap .i32 ((s.getD 0 0).toNat : Int) = ((s.getD 0 0).toNat : Int) := wrap_i32n (by omega)
    rw [e]
    generalize (s.getD 0 0).toNat = z at *
    exact Evs.of fun n m => by simp [↓test_bool, ↓withV_of, ↓withP_some, ↓withB_some, S33, hn, hne, hx, hc', cv_8_32, hw, hfz]
  · have hc' : ¬ ((s.getD 0 0).toNat : Int) < 128 := by omega
    have hk : ∀ (R : Type) (H : Heap) (k : AV → Heap → Option R), polK pSlow [.str s] H k = k (.tup [.int .i32 (decR s).1, .int .i64 (decR s).2]) H := fun R H k => kSlow hv (.inr (by omega))
    generalize (s.getD 0 0).toNat = z at *
    exact Evs.of fun n m => by simp [↓test_bool, ↓withV_of, ↓withP_some, ↓withB_some, S33, hn, hne, hx, hc', hk, hfz]
end Go.Proofs.YtdkjednjlpcboaaDoor

/- Texts: how many signs; which is less. -/
set_option maxRecDepth 100000
set_option maxHeartbeats 8000000
namespace Go.Proofs.YtdkjednjlpcboaaDoor
open Go Go.Den Go.Lib
/-! ### how many signs -/
theorem drop_dec (l : List UInt8) (pos : Nat) : Utf8.decode ⟨l.toArray⟩ pos = decodeL (l.drop pos) := by
  have := decodeL_drop ⟨l.toArray⟩ pos
  have e0 : (⟨l.toArray⟩ : ByteArray).data.toList = l := by simp
  rw [e0] at this
  exact this.symm
theorem drop_ne {l : List UInt8} {pos : Nat} (h : pos < l.length) : l.drop pos ≠ [] := fun e => by
  have := congrArg List.length e
  simp at this
  omega
theorem runes_loop {pol : FuncId → Pol} {l : List UInt8} {id : Nat} : ∀ (N pos : Nat) (c : Int) (H : Heap), l.length - pos ≤ N → H[id]? = some (.iter l pos) → 0 ≤ c → c + N ≤ 1000000000 →
    ∃ H', LDoes (L38_0 pol) ⟨[.int .i64 c, .it id], []⟩ H 0 ⟨[.int .i64 (c + (rs (l.drop pos)).length)], []⟩ H' := by
  intro N
  induction N with
  | zero =>
    intro pos c H hN hH h0 h1
    have hp : ¬ pos < l.length := by omega
    have hd : l.drop pos = [] := List.drop_of_length_le (by omega)
    rw [hd]
    refine ⟨H, LDoes.step (Evs.of fun n m => ?_)⟩
    simp [↓test_bool, ↓withV_of, L38_0_step, nextK, hH, hp, rs_nil]
  | succ N ih =>
    intro pos c H hN hH h0 h1
    by_cases hp : pos < l.length
    · have hne := drop_ne hp
      have hw := decodeL_width (l.drop pos)
      have hid : id < H.length := (List.getElem?_eq_some_iff.1 hH).1
      obtain ⟨H', hL⟩ := ih (pos + (decodeL (l.drop pos)).2) (c + 1) (H.set id (.iter l (pos + (decodeL (l.drop pos)).2))) (by omega) (List.getElem?_set_self hid) (by omega) (by omega)
      have hc : IntKind.wrap .i64 (c + 1) = c + 1 := wrap_i64 (by omega) (by omega)
      have e : c + ((rs (l.drop pos)).length : Int) = c + 1 + ((rs (l.drop (pos + (decodeL (l.drop pos)).2))).length : Int) := by
        rw [rs_step hne, List.drop_drop, List.length_cons]
        omega
      rw [e]
      have hdd := drop_dec l pos
      generalize decodeL (l.drop pos) = d at *
      refine ⟨H', LDoes.step (Evs.withL hL (Evs.of fun n m _ h2 => ?_))⟩
      simp [↓test_bool, ↓withV_of, L38_0_step, nextK, hH, hp, hdd, hc, h2]
    · have hd : l.drop pos = [] := List.drop_of_length_le (by omega)
      rw [hd]
      refine ⟨H, LDoes.step (Evs.of fun n m => ?_)⟩
      simp [↓test_bool, ↓withV_of, L38_0_step, nextK, hH, hp, rs_nil]
def notlong (s : List UInt8) : Prop := s.length ≤ 1000000
noncomputable def pRunes : Pol := .still (p1 cS (.int .i64) notlong (fun s => ((rs s).length : Int)))
theorem okRunes : PolOK base 38 pRunes := still1 base_ok [] trivial fun s hs => by
  unfold notlong at hs
  obtain ⟨H', hL⟩ := runes_loop (pol := polT []) (l := s) (id := 0) s.length 0 0 [.iter s 0] (by omega) rfl (by omega) (by omega)
  refine Evs.withL hL (Evs.of fun n m h1 _ => ?_)
  simp only [Int.zero_add, List.drop_zero] at h1
  generalize ((rs s).length : Int) = N at *
  simp [↓bindV_eq, ↓bindX_some, S38, rangeK, h1]
theorem kRunes {R : Type} {s : List UInt8} (h : notlong s) {H : Heap} {k : AV → Heap → Option R} : polK pRunes [.str s] H k = k (.int .i64 ((rs s).length : Nat)) H := by
  simp [pRunes, polK_imm, h]
noncomputable def pRvalid : Pol := .still (p1 cS .bool (fun _ => True) validD)
theorem okRvalid : PolOK base 10 pRvalid := still1 base_ok [(24, pValid)] ⟨okValid, trivial⟩ fun s _ => Evs.of fun n m => by
  simp [S10, kValid]
theorem kRvalid {R : Type} {s : List UInt8} {H : Heap} {k : AV → Heap → Option R} : polK pRvalid [.str s] H k = k (.bool (validD s)) H := by
  simp [pRvalid, polK_imm]
noncomputable def pTvalid : Pol := .still (p1 cS .bool (fun _ => True) validD)
theorem okTvalid : PolOK base 12 pTvalid := still1 base_ok [(24, pValid)] ⟨okValid, trivial⟩ fun s _ => Evs.of fun n m => by
  simp [S12, kValid]
theorem kTvalid {R : Type} {s : List UInt8} {H : Heap} {k : AV → Heap → Option R} : polK pTvalid [.str s] H k = k (.bool (validD s)) H := by
  simp [pTvalid, polK_imm]
def countR (s : List UInt8) : Int := if validD s then ((rs s).length : Nat) else -1
noncomputable def pCount : Pol := .still (p1 cS (.int .i64) notlong countR)
theorem okCount : PolOK base 17 pCount := still1 base_ok [(12, pTvalid), (38, pRunes)] ⟨okTvalid, okRunes, trivial⟩ fun s hs => Evs.of fun n m => by
  have hk : ∀ (R : Type) (H : Heap) (k : AV → Heap → Option R), polK pRunes [.str s] H k = k (.int .i64 ((rs s).length : Nat)) H := fun R H k => kRunes hs
  unfold countR
  cases h : validD s <;> simp [↓test_bool, ↓withV_of, S17, kTvalid, h, hk]
theorem kCount {R : Type} {s : List UInt8} (h : notlong s) {H : Heap} {k : AV → Heap → Option R} : polK pCount [.str s] H k = k (.int .i64 (countR s)) H := by
  simp [pCount, polK_imm, h]
def ordI (x y : Int) : Int := if x < y then -1 else if y < x then 1 else 0
noncomputable def pNanI : Pol := .still (p1 (cI .i64) .bool (fun _ => True) fun _ => false)
theorem okNanI : PolOK base 52 pNanI := still1 base_ok [] trivial fun x _ => Evs.of fun n m => by simp [↓withV_of, S52]
theorem kNanI {R : Type} {x : Int} {H : Heap} {k : AV → Heap → Option R} : polK pNanI [.int .i64 x] H k = k (.bool false) H := by
  simp [pNanI, polK_imm]
noncomputable def pNanR : Pol := .still (p1 (cI .i32) .bool (fun _ => True) fun _ => false)
theorem okNanR : PolOK base 53 pNanR := still1 base_ok [] trivial fun x _ => Evs.of fun n m => by simp [↓withV_of, S53]
theorem kNanR {R : Type} {x : Int} {H : Heap} {k : AV → Heap → Option R} : polK pNanR [.int .i32 x] H k = k (.bool false) H := by
  simp [pNanR, polK_imm]
noncomputable def pNanS : Pol := .still (p1 cS .bool (fun _ => True) fun _ => false)
theorem okNanS : PolOK base 50 pNanS := still1 base_ok [] trivial fun x _ => Evs.of fun n m => by
  have h : ∀ H, A.bin base.P .neq 9 (.str x) (.str x) false H = some (.bool false) := fun H => by simp [A.bin, A.binStr]
  simp [↓withV_of, S50, h]
theorem kNanS {R : Type} {x : List UInt8} {H : Heap} {k : AV → Heap → Option R} : polK pNanS [.str x] H k = k (.bool false) H := by
  simp [pNanS, polK_imm]
noncomputable def pCmpI : Pol := .still (p2 (cI .i64) (cI .i64) (.int .i64) (fun _ _ => True) ordI)
theorem okCmpI : PolOK base 34 pCmpI := still2 base_ok [(52, pNanI)] ⟨okNanI, trivial⟩ fun x y _ => by
  unfold ordI
  by_cases h1 : x < y
  · exact Evs.of fun n m => by simp [↓test_bool, ↓withV_of, S34, kNanI, h1]
  · by_cases h2 : y < x
    · exact Evs.of fun n m => by simp [↓test_bool, ↓withV_of, S34, kNanI, h1, h2]
    · exact Evs.of fun n m => by simp [↓test_bool, ↓withV_of, S34, kNanI, h1, h2]
theorem kCmpI {R : Type} {x y : Int} {H : Heap} {k : AV → Heap → Option R} : polK pCmpI [.int .i64 x, .int .i64 y] H k = k (.int .i64 (ordI x y)) H := by
  simp [pCmpI, polK_imm]
noncomputable def pCmpR : Pol := .still (p2 (cI .i32) (cI .i32) (.int .i64) (fun _ _ => True) ordI)
theorem okCmpR : PolOK base 35 pCmpR := still2 base_ok [(53, pNanR)] ⟨okNanR, trivial⟩ fun x y _ => by
  unfold ordI
  by_cases h1 : x < y
  · exact Evs.of fun n m => by simp [↓test_bool, ↓withV_of, S35, kNanR, h1]
  · by_cases h2 : y < x
    · exact Evs.of fun n m => by simp [↓test_bool, ↓withV_of, S35, kNanR, h1, h2]
    · exact Evs.of fun n m => by simp [↓test_bool, ↓withV_of, S35, kNanR, h1, h2]
theorem kCmpR {R : Type} {x y : Int} {H : Heap} {k : AV → Heap → Option R} : polK pCmpR [.int .i32 x, .int .i32 y] H k = k (.int .i64 (ordI x y)) H := by
  simp [pCmpR, polK_imm]
noncomputable def pCmpS : Pol := .still (p2 cS cS (.int .i64) (fun _ _ => True) fun a b => lexR (nums a) (nums b))
theorem okCmpS : PolOK base 32 pCmpS := still2 base_ok [(50, pNanS)] ⟨okNanS, trivial⟩ fun a b _ => by
  have h1 : ∀ H, A.bin base.P .lss 9 (.str a) (.str b) false H = some (.bool (decide (lexR (nums a) (nums b) < 0))) := fun H => by
    show A.binStr .lss a b = _
    simp only [A.binStr, bytes_lex]
  have h2 : ∀ H, A.bin base.P .gtr 9 (.str a) (.str b) false H = some (.bool (decide (0 < lexR (nums a) (nums b)))) := fun H => by
    show A.binStr .gtr a b = _
    simp only [A.binStr, bytes_lex]
    congr 2
    have hr := lex_range (nums a) (nums b)
    have hz := lex_zero (nums a) (nums b)
    by_cases e : a = b
    · subst e
      rw [lex_self]
      simp
    · have : lexR (nums a) (nums b) ≠ 0 := fun h => e (nums_inj (hz.1 h))
      have eb : (a == b) = false := by simp [e]
      rw [eb, Bool.or_false]
      rcases hr with h | h | h
      · rw [h]; rfl
      · exact absurd h this
      · rw [h]; rfl
  have hr := lex_range (nums a) (nums b)
  generalize lexR (nums a) (nums b) = x at *
  rcases hr with rfl | rfl | rfl
  · exact Evs.of fun n m => by simp [↓test_bool, ↓withV_of, S32, kNanS, h1]
  · exact Evs.of fun n m => by simp [↓test_bool, ↓withV_of, S32, kNanS, h1, h2]
  · exact Evs.of fun n m => by simp [↓test_bool, ↓withV_of, S32, kNanS, h1, h2]
theorem kCmpS {R : Type} {a b : List UInt8} {H : Heap} {k : AV → Heap → Option R} : polK pCmpS [.str a, .str b] H k = k (.int .i64 (lexR (nums a) (nums b))) H := by
  simp [pCmpS, polK_imm]
noncomputable abbrev TLess : List (FuncId × Pol) := [(12, pTvalid), (32, pCmpS), (33, pDec), (34, pCmpI), (35, pCmpR)]
theorem dec_w {s : List UInt8} (hne : s ≠ []) (hv : validD s = true) : decR s = decodeL s ∧ 1 ≤ (decodeL s).2 ∧ (decodeL s).2 ≤ s.length ∧ validD (s.drop (decodeL s).2) = true := by
  have hs := hv
  rw [validD_step s hne] at hs
  by_cases hg : (decodeL s).1 = 65533 ∧ (decodeL s).2 = 1
  · rw [if_pos hg] at hs; cases hs
  · rw [if_neg hg] at hs
    obtain ⟨-, -, h3, h4⟩ := dec_good hne hg
    exact ⟨by unfold decR; rw [if_neg hne], h4, h3, hs⟩
theorem less_loop : ∀ (N : Nat) (a b : List UInt8) (H : Heap), a.length ≤ N → validD a = true → validD b = true →
    LDoes (L14_0 (polT TLess)) ⟨[.str a, .str b], []⟩ H 0 ⟨[.int .i64 (lexR (rs a) (rs b))], []⟩ H := by
  intro N
  induction N with
  | zero =>
    intro a b H hN ha hb
    have : a = [] := List.eq_nil_of_length_eq_zero (by omega)
    subst this
    have ka : ∀ (R : Type) (H : Heap) (k : AV → Heap → Option R), polK pDec [.str []] H k = k (.tup [.int .i32 65533, .int .i64 0]) H := fun R H k => kDec ha
    by_cases hbe : b = []
    · subst hbe
      have e : lexR (rs []) (rs []) = 0 := rfl
      have eo : ordI 0 0 = 0 := rfl
      rw [e]
      exact LDoes.step (Evs.of fun n m => by simp [↓test_bool, ↓withV_of, ↓withP_some, ↓withB_some, L14_0_step, ka, kCmpI, eo])
    · obtain ⟨d1, d2, d3, d4⟩ := dec_w hbe hb
      have kb : ∀ (R : Type) (H : Heap) (k : AV → Heap → Option R), polK pDec [.str b] H k = k (.tup [.int .i32 (decodeL b).1, .int .i64 (decodeL b).2]) H := fun R H k => by rw [kDec hb, d1]
      have e : lexR (rs []) (rs b) = -1 := by rw [rs_step hbe]; rfl
      have eo : ordI 0 ((decodeL b).2 : Int) = -1 := by unfold ordI; rw [if_pos (by omega)]
      rw [e]
      generalize ((decodeL b).2 : Int) = m at *
      generalize ((decodeL b).1 : Int) = r at *
      exact LDoes.step (Evs.of fun n m => by simp [↓test_bool, ↓withV_of, ↓withP_some, ↓withB_some, L14_0_step, ka, kb, kCmpI, eo])
  | succ N ih =>
    intro a b H hN ha hb
    by_cases hae : a = []
    · subst hae
      exact (by
        have ka : ∀ (R : Type) (H : Heap) (k : AV → Heap → Option R), polK pDec [.str []] H k = k (.tup [.int .i32 65533, .int .i64 0]) H := fun R H k => kDec ha
        by_cases hbe : b = []
        · subst hbe
          have e : lexR (rs []) (rs []) = 0 := rfl
          have eo : ordI 0 0 = 0 := rfl
          rw [e]
          exact LDoes.step (Evs.of fun n m => by simp [↓test_bool, ↓withV_of, ↓withP_some, ↓withB_some, L14_0_step, ka, kCmpI, eo])
        · obtain ⟨d1, d2, d3, d4⟩ := dec_w hbe hb
          have kb : ∀ (R : Type) (H : Heap) (k : AV → Heap → Option R), polK pDec [.str b] H k = k (.tup [.int .i32 (decodeL b).1, .int .i64 (decodeL b).2]) H := fun R H k => by rw [kDec hb, d1]
          have e : lexR (rs []) (rs b) = -1 := by rw [rs_step hbe]; rfl
          have eo : ordI 0 ((decodeL b).2 : Int) = -1 := by unfold ordI; rw [if_pos (by omega)]
          rw [e]
          generalize ((decodeL b).2 : Int) = m at *
          generalize ((decodeL b).1 : Int) = r at *
          exact LDoes.step (Evs.of fun n m => by simp [↓test_bool, ↓withV_of, ↓withP_some, ↓withB_some, L14_0_step, ka, kb, kCmpI, eo]))
    obtain ⟨c1, c2, c3, c4⟩ := dec_w hae ha
    have ka : ∀ (R : Type) (H : Heap) (k : AV → Heap → Option R), polK pDec [.str a] H k = k (.tup [.int .i32 (decodeL a).1, .int .i64 (decodeL a).2]) H := fun R H k => by rw [kDec ha, c1]
    have ia : ¬ ((decodeL a).2 : Int) = 0 := by omega
    by_cases hbe : b = []
    · subst hbe
      have kb : ∀ (R : Type) (H : Heap) (k : AV → Heap → Option R), polK pDec [.str []] H k = k (.tup [.int .i32 65533, .int .i64 0]) H := fun R H k => kDec hb
      have e : lexR (rs a) (rs []) = 1 := by rw [rs_step hae]; rfl
      have eo : ordI ((decodeL a).2 : Int) 0 = 1 := by unfold ordI; rw [if_neg (by omega), if_pos (by omega)]
      rw [e]
      generalize ((decodeL a).2 : Int) = m at *
      generalize ((decodeL a).1 : Int) = r at *
      exact LDoes.step (Evs.of fun n m => by simp [↓test_bool, ↓withV_of, ↓withP_some, ↓withB_some, L14_0_step, ka, kb, ia, kCmpI, eo])
    obtain ⟨d1, d2, d3, d4⟩ := dec_w hbe hb
    have kb : ∀ (R : Type) (H : Heap) (k : AV → Heap → Option R), polK pDec [.str b] H k = k (.tup [.int .i32 (decodeL b).1, .int .i64 (decodeL b).2]) H := fun R H k => by rw [kDec hb, d1]
    have ib : ¬ ((decodeL b).2 : Int) = 0 := by omega
    rw [rs_step hae, rs_step hbe]
    by_cases hr : (decodeL a).1 = (decodeL b).1
    · have e : lexR ((decodeL a).1 :: rs (a.drop (decodeL a).2)) ((decodeL b).1 :: rs (b.drop (decodeL b).2)) = lexR (rs (a.drop (decodeL a).2)) (rs (b.drop (decodeL b).2)) := by
        show (if (decodeL a).1 < (decodeL b).1 then (-1 : Int) else if (decodeL b).1 < (decodeL a).1 then 1 else lexR (rs (a.drop (decodeL a).2)) (rs (b.drop (decodeL b).2))) = _
        rw [if_neg (by omega), if_neg (by omega)]
      rw [e]
      have sa := slice_str (s := a) (k := .i64) c3
      have sb := slice_str (s := b) (k := .i64) d3
      have hL := ih (a.drop (decodeL a).2) (b.drop (decodeL b).2) H (by rw [List.length_drop]; omega) c4 d4
      have hri : ((decodeL a).1 : Int) = ((decodeL b).1 : Int) := by rw [hr]
      refine LDoes.step (Evs.withL hL (Evs.of fun n m _ h2 => ?_))
      generalize a.drop (decodeL a).2 = a' at *
      generalize b.drop (decodeL b).2 = b' at *
      generalize ((decodeL a).2 : Int) = wa at *
      generalize ((decodeL b).2 : Int) = wb at *
      generalize ((decodeL a).1 : Int) = ra at *
      generalize ((decodeL b).1 : Int) = rb at *
      simp [↓test_bool, ↓withV_of, ↓withP_some, ↓withB_some, L14_0_step, ka, kb, ia, ib, hri, sa, sb, h2]
    · have e : lexR ((decodeL a).1 :: rs (a.drop (decodeL a).2)) ((decodeL b).1 :: rs (b.drop (decodeL b).2)) = ordI ((decodeL a).1 : Int) ((decodeL b).1 : Int) := by
        unfold lexR ordI
        by_cases h1 : (decodeL a).1 < (decodeL b).1
        · rw [if_pos h1, if_pos (by omega)]
        · rw [if_neg h1, if_pos (by omega), if_neg (by omega), if_pos (by omega)]
      rw [e]
      have hri : ¬ ((decodeL a).1 : Int) = ((decodeL b).1 : Int) := by omega
      generalize ((decodeL a).2 : Int) = wa at *
      generalize ((decodeL b).2 : Int) = wb at *
      generalize ((decodeL a).1 : Int) = ra at *
      generalize ((decodeL b).1 : Int) = rb at *
      exact LDoes.step (Evs.of fun n m => by simp [↓test_bool, ↓withV_of, ↓withP_some, ↓withB_some, L14_0_step, ka, kb, ia, ib, hri, kCmpR])
noncomputable def pLess : Pol := .still (p2 cS cS (.int .i64) (fun _ _ => True) lessR)
theorem okLess : PolOK base 14 pLess := still2 base_ok TLess ⟨okTvalid, okCmpS, okDec, okCmpI, okCmpR, trivial⟩ fun a b _ => by
  unfold lessR
  cases ha : validD a
  · rw [if_neg (by simp)]
    exact Evs.of fun n m => by simp [↓test_bool, ↓bindV_eq, ↓withV_of, ↓withP_some, ↓withB_some, S14, kTvalid, ha, kCmpS]
  · cases hb : validD b
    · rw [if_neg (by simp)]
      exact Evs.of fun n m => by simp [↓test_bool, ↓bindV_eq, ↓withV_of, ↓withP_some, ↓withB_some, S14, kTvalid, ha, hb, kCmpS]
    · rw [if_pos (by simp)]
      refine Evs.withL (less_loop _ a b [] (Nat.le_refl _) ha hb) (Evs.of fun n m h1 _ => ?_)
      generalize lexR (rs a) (rs b) = x at *
      simp [↓test_bool, ↓bindV_eq, ↓withV_of, ↓withP_some, ↓withB_some, ↓bindX_some, S14, kTvalid, ha, hb, h1]
theorem kLess {R : Type} {a b : List UInt8} {H : Heap} {k : AV → Heap → Option R} : polK pLess [.str a, .str b] H k = k (.int .i64 (lessR a b)) H := by
  simp [pLess, polK_imm]
end Go.Proofs.YtdkjednjlpcboaaDoor

/- Texts, the reference: which is less. -/
set_option maxRecDepth 100000
set_option maxHeartbeats 8000000
namespace Go.Proofs.YtdkjednjlpcboaaDoor
open Go Go.Den Go.Lib
def diffR : List Nat → List Nat → Option Int
  | x :: p, y :: q => if x = y then diffR p q else some (ordI x y)
  | _, _ => none
theorem ord_succ (a b : Nat) : ordI ((a + 1 : Nat) : Int) ((b + 1 : Nat) : Int) = ordI a b := by
  unfold ordI
  repeat' split
  all_goals first | rfl | omega
theorem lex_diff : ∀ a b : List Nat, lexR a b = (diffR a b).getD (ordI a.length b.length)
  | [], [] => rfl
  | [], _ :: q => by
    show (-1 : Int) = ordI ((0 : Nat) : Int) ((q.length + 1 : Nat) : Int)
    unfold ordI
    rw [if_pos (by omega)]
  | _ :: p, [] => by
    show (1 : Int) = ordI ((p.length + 1 : Nat) : Int) ((0 : Nat) : Int)
    unfold ordI
    rw [if_neg (by omega), if_pos (by omega)]
  | x :: p, y :: q => by
    show (if x < y then (-1 : Int) else if y < x then 1 else lexR p q) = (if x = y then diffR p q else some (ordI x y)).getD (ordI ((p.length + 1 : Nat) : Int) ((q.length + 1 : Nat) : Int))
    by_cases e : x = y
    · rw [if_pos e, if_neg (by omega), if_neg (by omega), lex_diff p q, ord_succ]
    · rw [if_neg e, Option.getD_some]
      unfold ordI
      by_cases h1 : x < y
      · rw [if_pos h1, if_pos (by omega)]
      · rw [if_neg h1, if_pos (by omega), if_neg (by omega), if_pos (by omega)]
noncomputable def pOrd : Pol := .still (p2 (cI .i64) (cI .i64) (.int .i64) (fun _ _ => True) ordI)
theorem okOrd : PolOK base 37 pOrd := still2 base_ok [] trivial fun x y _ => by
  unfold ordI
  by_cases h1 : x < y
  · exact Evs.of fun n m => by simp [↓test_bool, ↓withV_of, S37, h1]
  · by_cases h2 : y < x
    · exact Evs.of fun n m => by simp [↓test_bool, ↓withV_of, S37, h1, h2]
    · exact Evs.of fun n m => by simp [↓test_bool, ↓withV_of, S37, h1, h2]
theorem kOrd {R : Type} {x y : Int} {H : Heap} {k : AV → Heap → Option R} : polK pOrd [.int .i64 x, .int .i64 y] H k = k (.int .i64 (ordI x y)) H := by
  simp [pOrd, polK_imm]
theorem qOrd {R : Type} {x y : Int} {H : Heap} {k : AV → Heap → Option R} : polQ pOrd [.int .i64 x, .int .i64 y] H k = k (.int .i64 (ordI x y)) H := by
  simp [pOrd, polQ_imm]
theorem cv_8_i64 (n : Int) (j : IntKind) : Go.Den.convert base 5 2 (.int j n) = some (.int .i64 (IntKind.wrap .i64 n)) := conv_int (x := .int .u8) (by kernel_rfl) (by kernel_rfl)
theorem cv_32_i64 (n : Int) (j : IntKind) : Go.Den.convert base 21 2 (.int j n) = some (.int .i64 (IntKind.wrap .i64 n)) := conv_int (x := .int .i32) (by kernel_rfl) (by kernel_rfl)
/-! ### byte by byte -/
def cBy : Cd (Option (List UInt8)) := ⟨eL 1 eb, fun a b h => eL_inj' (fun l m _ _ hm => map_inj' (fun a b => eb_inj) hm) h, fun a => by cases a <;> rfl⟩
@[simp] theorem enc_cBy {a : Option (List UInt8)} : cBy.enc a = eL 1 eb a := id rfl
@[simp] theorem dec_cBy {a : Option (List UInt8)} : cBy.dec (eL 1 eb a) = some a := cBy.dec_enc a
theorem flat_bytes (l : List UInt8) : ∀ v ∈ l.map eb, v.flat0 = true ∧ v.isDef = true := fun v hv => by
  obtain ⟨x, -, rfl⟩ := List.mem_map.1 hv
  exact ⟨rfl, rfl⟩
noncomputable abbrev TOrd : List (FuncId × Pol) := [(37, pOrd)]
theorem nums_drop (l : List UInt8) {i : Nat} (h : i < l.length) : (nums l).drop i = (l[i]).toNat :: (nums l).drop (i + 1) := by
  have hn : i < (nums l).length := by simpa [nums] using h
  rw [List.drop_eq_getElem_cons hn]
  simp [nums]
theorem byw_loop {a b : Option (List UInt8)} (h : (a.getD []).length ≤ 1000000) (H : Heap) : ∀ (k i : Nat), i + k = (a.getD []).length →
    LDoes (L36_0 (polT TOrd)) ⟨[eL 1 eb a, eL 1 eb b, .int .i64 (i : Int)], []⟩ H (if (diffR ((nums (a.getD [])).drop i) ((nums (b.getD [])).drop i)).isNone then 0 else 1) ⟨[eL 1 eb a, eL 1 eb b, ((diffR ((nums (a.getD [])).drop i) ((nums (b.getD [])).drop i)).map (AV.int .i64)).getD .undef], []⟩ H := by
  have l1 : A.len (eL 1 eb a) H = some (.int .i64 ((a.getD []).length : Int)) := len_eL
  have l2 : A.len (eL 1 eb b) H = some (.int .i64 ((b.getD []).length : Int)) := len_eL
  intro k
  induction k with
  | zero =>
    intro i hi
    have : i = (a.getD []).length := by omega
    subst this
    have e : (nums (a.getD [])).drop (a.getD []).length = [] := List.drop_of_length_le (by simp [nums])
    rw [e]
    refine LDoes.step (Evs.of fun n m => ?_)
    generalize ((a.getD []).length : Int) = N at *
    simp [-len_eL, L36_0_step, l1, diffR]
  | succ k ih =>
    intro i hi
    have hlt : i < (a.getD []).length := by omega
    have hlt' : (i : Int) < ((a.getD []).length : Int) := by omega
    by_cases hb : i < (b.getD []).length
    · have hb' : (i : Int) < ((b.getD []).length : Int) := by omega
      have x1 : A.idx 1 (eL 1 eb a) (.int .i64 (i : Int)) H = some (.rop [.int .u8 ((a.getD [])[i]).toNat]) := idx_eL (sz := 1) (e := eb) (o := a) (H := H) (k := .i64) (i := i) hlt
      have x2 : A.idx 1 (eL 1 eb b) (.int .i64 (i : Int)) H = some (.rop [.int .u8 ((b.getD [])[i]).toNat]) := idx_eL (sz := 1) (e := eb) (o := b) (H := H) (k := .i64) (i := i) hb
      rw [nums_drop _ hlt, nums_drop _ hb]
      have za := ((a.getD [])[i]).toNat_lt
      have zb := ((b.getD [])[i]).toNat_lt
      have hL := ih (i + 1) (by omega)
      simp only [Int.natCast_add, Int.natCast_one] at hL
      generalize ((a.getD [])[i]).toNat = x at *
      generalize ((b.getD [])[i]).toNat = y at *
      generalize (nums (a.getD [])).drop (i + 1) = p at *
      generalize (nums (b.getD [])).drop (i + 1) = q at *
      have ed : diffR (x :: p) (y :: q) = if x = y then diffR p q else some (ordI x y) := rfl
      rw [ed]
      by_cases e : x = y
      · rw [if_pos e]
        have hi1 : IntKind.wrap .i64 ((i : Int) + 1) = (i : Int) + 1 := wrap_i64 (by omega) (by omega)
        have ei : (x : Int) = (y : Int) := by omega
        refine LDoes.step (Evs.withL hL (Evs.of fun n m _ h3 => ?_))
        generalize (x : Int) = xi at *
        generalize (y : Int) = yi at *
        generalize ((a.getD []).length : Int) = N at *
        generalize ((b.getD []).length : Int) = M at *
        simp [-len_eL, L36_0_step, l1, l2, hlt', hb', x1, x2, ei, hi1, h3]
      · rw [if_neg e]
        have ei : ¬ (x : Int) = (y : Int) := by omega
        have wx : IntKind.wrap .i64 (x : Int) = x := wrap_i64 (by omega) (by omega)
        have wy : IntKind.wrap .i64 (y : Int) = y := wrap_i64 (by omega) (by omega)
        refine LDoes.step (Evs.of fun n m => ?_)
        generalize (x : Int) = xi at *
        generalize (y : Int) = yi at *
        generalize ((a.getD []).length : Int) = N at *
        generalize ((b.getD []).length : Int) = M at *
        simp [-len_eL, L36_0_step, l1, l2, hlt', hb', x1, x2, ei, cv_8_i64, wx, wy, qOrd]
    · have hb' : ¬ (i : Int) < ((b.getD []).length : Int) := by omega
      have e : (nums (b.getD [])).drop i = [] := List.drop_of_length_le (by simp [nums]; omega)
      rw [e]
      have ed : diffR ((nums (a.getD [])).drop i) [] = none := by
        cases (nums (a.getD [])).drop i <;> rfl
      rw [ed]
      refine LDoes.step (Evs.of fun n m => ?_)
      generalize ((a.getD []).length : Int) = N at *
      generalize ((b.getD []).length : Int) = M at *
      simp [-len_eL, L36_0_step, l1, l2, hlt', hb']
def bywOk (a _ : Option (List UInt8)) : Prop := (a.getD []).length ≤ 1000000
noncomputable def pByw : Pol := .still (p2 cBy cBy (.int .i64) bywOk fun a b => lexR (nums (a.getD [])) (nums (b.getD [])))
theorem okByw : PolOK base 36 pByw := still2 base_ok TOrd ⟨okOrd, trivial⟩ fun a b h => by
  have hL := byw_loop (b := b) h [] (a.getD []).length 0 (by omega)
  rw [List.drop_zero, List.drop_zero] at hL
  have l1 : A.len (eL 1 eb a) [] = some (.int .i64 ((a.getD []).length : Int)) := len_eL
  have l2 : A.len (eL 1 eb b) [] = some (.int .i64 ((b.getD []).length : Int)) := len_eL
  have hn : ∀ l : List UInt8, (nums l).length = l.length := fun l => by simp [nums]
  rw [lex_diff, hn, hn]
  refine Evs.withL hL (Evs.of fun n m h1 _ => ?_)
  simp only [Int.natCast_zero] at h1
  generalize diffR (nums (a.getD [])) (nums (b.getD [])) = d at *
  generalize ((a.getD []).length : Int) = N at *
  generalize ((b.getD []).length : Int) = M at *
  cases d with
  | none => simp [↓bindV_eq, ↓withV_of, ↓bindX_some, -len_eL, S36, h1, l1, l2, kOrd]
  | some v => simp [↓bindV_eq, ↓bindX_some, -len_eL, S36, h1]
/-! ### sign by sign -/
theorem ty_str : base.P.underlying 9 = some .string := by kernel_rfl
theorem ty_u8 : base.P.underlying 5 = some (.int .u8) := by kernel_rfl
theorem ty_i32 : base.P.underlying 21 = some (.int .i32) := by kernel_rfl
theorem ty_runes : base.P.underlying 54 = some (.slice 21) := by kernel_rfl
theorem ty_bytes : base.P.underlying 35 = some (.slice 5) := by kernel_rfl
theorem conv_bytes {R : Type} {s : List UInt8} (h : s.length ≤ 1000000) {H : Heap} {k : AV → Heap → Option R} : convertK base 9 35 (.str s) H k = k (.sl H.length 0 0 s.length s.length) (H ++ [.row 0 1 5 (s.map eb)]) := by
  have h1 : Go.Den.convert base 9 35 (.str s) = none := by
    unfold Go.Den.convert
    rw [ty_str, ty_bytes]
  have h2 : convH base 9 35 (.str s) H = none := by
    unfold convH
    rw [ty_str, ty_bytes]
  have h3 : convN base 9 35 (.str s) H = some (.sl H.length 0 0 s.length s.length, H ++ [.row 0 1 5 (s.map eb)]) := by
    unfold convN
    rw [ty_str, ty_bytes]
    dsimp only
    rw [ty_u8]
    have : decide (s.length ≤ 140737488355328) = true := by simp; omega
    dsimp only
    rw [this]
    simp [A.newRow, A.strElems]
  unfold convertK
  rw [h1, h2, h3]
abbrev er (r : Nat) : AV := .int .i32 (r : Int)
theorem conv_runes {R : Type} {s : List UInt8} (h : s.length ≤ 1000000) {H : Heap} {k : AV → Heap → Option R} : convertK base 9 54 (.str s) H k = k (.sl H.length 0 0 (rs s).length (rs s).length) (H ++ [.row 0 1 21 ((rs s).map er)]) := by
  have h1 : Go.Den.convert base 9 54 (.str s) = none := by
    unfold Go.Den.convert
    rw [ty_str, ty_runes]
  have h2 : convH base 9 54 (.str s) H = none := by
    unfold convH
    rw [ty_str, ty_runes]
  have hr : (runeL ⟨s.toArray⟩ s.length 0).map (AV.int .i32) = (rs s).map er := by
    rw [runeL_rs s s.length 0 (by simp), List.drop_zero, List.map_map]
    rfl
  have h3 : convN base 9 54 (.str s) H = some (.sl H.length 0 0 (rs s).length (rs s).length, H ++ [.row 0 1 21 ((rs s).map er)]) := by
    unfold convN
    rw [ty_str, ty_runes]
    dsimp only
    rw [ty_i32]
    have : decide (s.length ≤ 70368744177664) = true := by simp; omega
    dsimp only
    rw [this, hr]
    simp [A.newRow]
  unfold convertK
  rw [h1, h2, h3]
noncomputable abbrev TRless : List (FuncId × Pol) := [(10, pRvalid), (36, pByw), (37, pOrd)]
theorem rless_loop {X Y : List Nat} {H : Heap} (h0 : H[0]? = some (.row 0 1 21 (X.map er))) (h1 : H[1]? = some (.row 0 1 21 (Y.map er))) (hl : X.length ≤ 1000000) (hx : ∀ r ∈ X, r ≤ 1114111) (hy : ∀ r ∈ Y, r ≤ 1114111) : ∀ (k i : Nat), i + k = X.length →
    LDoes (L15_0 (polT TRless)) ⟨[.sl 0 0 0 X.length X.length, .sl 1 0 0 Y.length Y.length, .int .i64 (i : Int)], []⟩ H (if (diffR (X.drop i) (Y.drop i)).isNone then 0 else 1) ⟨[((diffR (X.drop i) (Y.drop i)).map (AV.int .i64)).getD .undef, .sl 0 0 0 X.length X.length, .sl 1 0 0 Y.length Y.length], []⟩ H := by
  have l0 : A.len (.sl 0 0 0 X.length X.length) H = some (.int .i64 (X.length : Int)) := by simp [A.len, A.alive, h0]
  have l1 : A.len (.sl 1 0 0 Y.length Y.length) H = some (.int .i64 (Y.length : Int)) := by simp [A.len, A.alive, h1]
  intro k
  induction k with
  | zero =>
    intro i hi
    have : i = X.length := by omega
    subst this
    rw [List.drop_length]
    refine LDoes.step (Evs.of fun n m => ?_)
    generalize (X.length : Int) = N at *
    simp [↓test_bool, ↓withV_of, ↓withP_some, ↓withB_some, L15_0_step, l0, diffR]
  | succ k ih =>
    intro i hi
    have hlt : i < X.length := by omega
    have hlt' : (i : Int) < (X.length : Int) := by omega
    by_cases hb : i < Y.length
    · have hb' : (i : Int) < (Y.length : Int) := by omega
      have x0 : A.idx 1 (.sl 0 0 0 X.length X.length) (.int .i64 (i : Int)) H = some (.ptr 0 0 i 0) := by
        have := row_idx (cap := X.length) (off := 0) (k := .i64) h0 (i := (i : Int)) (n := X.length) (by omega) hlt'
        simpa using this
      have x1 : A.idx 1 (.sl 1 0 0 Y.length Y.length) (.int .i64 (i : Int)) H = some (.ptr 1 0 i 0) := by
        have := row_idx (cap := Y.length) (off := 0) (k := .i64) h1 (i := (i : Int)) (n := Y.length) (by omega) hb'
        simpa using this
      have y0 : A.load false 1 (.ptr 0 0 i 0) H = some (.int .i32 (X[i] : Nat)) := row_load h0 (by simp [hlt]) rfl
      have y1 : A.load false 1 (.ptr 1 0 i 0) H = some (.int .i32 (Y[i] : Nat)) := row_load h1 (by simp [hb]) rfl
      rw [List.drop_eq_getElem_cons hlt, List.drop_eq_getElem_cons hb]
      have zx := hx _ (List.getElem_mem hlt)
      have zy := hy _ (List.getElem_mem hb)
      have hL := ih (i + 1) (by omega)
      simp only [Int.natCast_add, Int.natCast_one] at hL
      generalize X[i] = x at *
      generalize Y[i] = y at *
      generalize X.drop (i + 1) = p at *
      generalize Y.drop (i + 1) = q at *
      have ed : diffR (x :: p) (y :: q) = if x = y then diffR p q else some (ordI x y) := rfl
      rw [ed]
      by_cases e : x = y
      · rw [if_pos e]
        have hi1 : IntKind.wrap .i64 ((i : Int) + 1) = (i : Int) + 1 := wrap_i64 (by omega) (by omega)
        have ei : (x : Int) = (y : Int) := by omega
        refine LDoes.step (Evs.withL hL (Evs.of fun n m _ h3 => ?_))
        generalize (x : Int) = xi at *
        generalize (y : Int) = yi at *
        generalize (X.length : Int) = N at *
        generalize (Y.length : Int) = M at *
        simp [↓test_bool, ↓withV_of, ↓withP_some, ↓withB_some, L15_0_step, l0, l1, hlt', hb', x0, x1, y0, y1, ei, hi1, h3]
      · rw [if_neg e]
        have ei : ¬ (x : Int) = (y : Int) := by omega
        have wx : IntKind.wrap .i64 (x : Int) = x := wrap_i64 (by omega) (by omega)
        have wy : IntKind.wrap .i64 (y : Int) = y := wrap_i64 (by omega) (by omega)
        refine LDoes.step (Evs.of fun n m => ?_)
        generalize (x : Int) = xi at *
        generalize (y : Int) = yi at *
        generalize (X.length : Int) = N at *
        generalize (Y.length : Int) = M at *
        simp [↓test_bool, ↓withV_of, ↓withP_some, ↓withB_some, L15_0_step, l0, l1, hlt', hb', x0, x1, y0, y1, ei, cv_32_i64, wx, wy, qOrd]
    · have hb' : ¬ (i : Int) < (Y.length : Int) := by omega
      have e : Y.drop i = [] := List.drop_of_length_le (by omega)
      rw [e]
      have ed : diffR (X.drop i) [] = none := by cases X.drop i <;> rfl
      rw [ed]
      refine LDoes.step (Evs.of fun n m => ?_)
      generalize (X.length : Int) = N at *
      generalize (Y.length : Int) = M at *
      simp [↓test_bool, ↓withV_of, ↓withP_some, ↓withB_some, L15_0_step, l0, l1, hlt', hb']
theorem scal_le {r : Nat} (h : scal r) : r ≤ 1114111 := by unfold scal at h; omega
def lessOk (a b : List UInt8) : Prop := notlong a ∧ notlong b
noncomputable def pRless : Pol := .still (p2 cS cS (.int .i64) lessOk lessR)
theorem okRless : PolOK base 15 pRless := still2 base_ok TRless ⟨okRvalid, okByw, okOrd, trivial⟩ fun a b ⟨hna, hnb⟩ => by
  unfold notlong at hna hnb
  have c1 : ∀ (R : Type) (H : Heap) (k : AV → Heap → Option R), convertK base 9 35 (.str a) H k = k (.sl H.length 0 0 a.length a.length) (H ++ [.row 0 1 5 (a.map eb)]) := fun R H k => conv_bytes hna
  have c2 : ∀ (R : Type) (H : Heap) (k : AV → Heap → Option R), convertK base 9 35 (.str b) H k = k (.sl H.length 0 0 b.length b.length) (H ++ [.row 0 1 5 (b.map eb)]) := fun R H k => conv_bytes hnb
  have hby : ∀ (R : Type) (k : AV → Heap → Option R), polK pByw [.sl 0 0 0 a.length a.length, .sl 1 0 0 b.length b.length] [.row 0 1 5 (a.map eb), .row 0 1 5 (b.map eb)] k = k (.int .i64 (lexR (nums a) (nums b))) [.row 0 1 5 (a.map eb), .row 0 1 5 (b.map eb)] := fun R k => by
    have hf0 : A.freezeB true 64 [.row 0 1 5 (a.map eb), .row 0 1 5 (b.map eb)] (.sl 0 0 0 a.length a.length) = some (eL 1 eb (some a)) := freeze_row (b := true) (m := 62) (es := a.map eb) rfl (by simp) (flat_bytes _)
    have hf1 : A.freezeB true 64 [.row 0 1 5 (a.map eb), .row 0 1 5 (b.map eb)] (.sl 1 0 0 b.length b.length) = some (eL 1 eb (some b)) := freeze_row (b := true) (m := 62) (es := b.map eb) rfl (by simp) (flat_bytes _)
    have hfa : freezeAll [.row 0 1 5 (a.map eb), .row 0 1 5 (b.map eb)] [.sl 0 0 0 a.length a.length, .sl 1 0 0 b.length b.length] = some [eL 1 eb (some a), eL 1 eb (some b)] := freezeAll_cons hf0 (freezeAll_cons hf1 rfl)
    have hsb : bywOk (some a) (some b) := hna
    unfold pByw
    rw [polK_frz hfa]
    simp [hsb]
    rfl
  unfold lessR
  cases ha : validD a
  · rw [if_neg (by simp)]
    exact Evs.of fun n m => by simp [↓test_bool, ↓bindV_eq, ↓withV_of, ↓withP_some, ↓withB_some, S15, kRvalid, ha, c1, c2, hby]
  cases hb : validD b
  · rw [if_neg (by simp)]
    exact Evs.of fun n m => by simp [↓test_bool, ↓bindV_eq, ↓withV_of, ↓withP_some, ↓withB_some, S15, kRvalid, ha, hb, c1, c2, hby]
  · rw [if_pos (by simp)]
    have sa := (valid_flat _ a (Nat.le_refl _) ha).2
    have sb := (valid_flat _ b (Nat.le_refl _) hb).2
    have la := rs_len _ a (Nat.le_refl _)
    have d1 : ∀ (R : Type) (H : Heap) (k : AV → Heap → Option R), convertK base 9 54 (.str a) H k = k (.sl H.length 0 0 (rs a).length (rs a).length) (H ++ [.row 0 1 21 ((rs a).map er)]) := fun R H k => conv_runes hna
    have d2 : ∀ (R : Type) (H : Heap) (k : AV → Heap → Option R), convertK base 9 54 (.str b) H k = k (.sl H.length 0 0 (rs b).length (rs b).length) (H ++ [.row 0 1 21 ((rs b).map er)]) := fun R H k => conv_runes hnb
    have hL := rless_loop (X := rs a) (Y := rs b) (H := [.row 0 1 21 ((rs a).map er), .row 0 1 21 ((rs b).map er)]) rfl rfl (by omega) (fun r hr => scal_le (sa r hr)) (fun r hr => scal_le (sb r hr)) (rs a).length 0 (by omega)
    rw [List.drop_zero, List.drop_zero] at hL
    have l0 : A.len (.sl 0 0 0 (rs a).length (rs a).length) [.row 0 1 21 ((rs a).map er), .row 0 1 21 ((rs b).map er)] = some (.int .i64 ((rs a).length : Int)) := rfl
    have l1 : A.len (.sl 1 0 0 (rs b).length (rs b).length) [.row 0 1 21 ((rs a).map er), .row 0 1 21 ((rs b).map er)] = some (.int .i64 ((rs b).length : Int)) := rfl
    rw [lex_diff]
    refine Evs.withL hL (Evs.of fun n m h1 _ => ?_)
    simp only [Int.natCast_zero] at h1
    generalize diffR (rs a) (rs b) = d at *
    generalize ((rs a).length : Int) = N at *
    generalize ((rs b).length : Int) = M at *
    cases d with
    | none => simp [↓test_bool, ↓bindV_eq, ↓withV_of, ↓withP_some, ↓withB_some, ↓bindX_some, S15, kRvalid, ha, hb, d1, d2, h1, l0, l1, kOrd]
    | some v => simp [↓test_bool, ↓bindV_eq, ↓withV_of, ↓withP_some, ↓withB_some, ↓bindX_some, S15, kRvalid, ha, hb, d1, d2, h1]
theorem kRless {R : Type} {a b : List UInt8} (h : lessOk a b) {H : Heap} {k : AV → Heap → Option R} : polK pRless [.str a, .str b] H k = k (.int .i64 (lessR a b)) H := by
  simp [pRless, polK_imm, h]
end Go.Proofs.YtdkjednjlpcboaaDoor

/- Texts: turned round. -/
set_option maxRecDepth 100000
set_option maxHeartbeats 8000000
namespace Go.Proofs.YtdkjednjlpcboaaDoor
open Go Go.Den Go.Lib
def Row0 (cap : Nat) (H : Heap) (L : List Nat) : Prop := ∃ es : List AV, H[0]? = some (.row 0 1 21 es) ∧ es.length = cap ∧ es.take L.length = L.map er ∧ L.length ≤ cap
theorem dec_le {l : List UInt8} (hne : l ≠ []) : (decodeL l).2 ≤ l.length := by
  have h0 : 0 < l.length := List.length_pos_iff.2 hne
  by_cases hg : (decodeL l).1 = 65533 ∧ (decodeL l).2 = 1
  · omega
  · exact (dec_good hne hg).2.2.1
theorem rev_fill {pol : FuncId → Pol} {l : List UInt8} (hl : l.length ≤ 1000000) : ∀ (N pos : Nat) (done : List Nat) (H : Heap), l.length - pos ≤ N → done.length ≤ pos → pos ≤ l.length → Row0 l.length H done → H[1]? = some (.iter l pos) →
    ∃ H', LDoes (L16_0 pol) ⟨[.sl 0 0 0 done.length l.length, .it 1], []⟩ H 0 ⟨[.sl 0 0 0 (done ++ rs (l.drop pos)).length l.length], []⟩ H' ∧ Row0 l.length H' (done ++ rs (l.drop pos)) := by
  intro N
  induction N with
  | zero =>
    intro pos done H hN hd hpl hR hI
    have hp : ¬ pos < l.length := by omega
    have he : l.drop pos = [] := List.drop_of_length_le (by omega)
    rw [he, rs_nil, List.append_nil]
    refine ⟨H, LDoes.step (Evs.of fun n m => ?_), hR⟩
    simp [↓test_bool, ↓bindV_eq, ↓bindH_eq, ↓withV_of, L16_0_step, nextK, hI, hp]
  | succ N ih =>
    intro pos done H hN hd hpl hR hI
    by_cases hp : pos < l.length
    · have hne := drop_ne hp
      have hw := decodeL_width (l.drop pos)
      have hdd := drop_dec l pos
      obtain ⟨es, h0, hes, htk, hlc⟩ := hR
      have hwl : (decodeL (l.drop pos)).2 ≤ l.length - pos := by
        have := dec_le hne
        rw [List.length_drop] at this
        exact this
      have h0' : (H.set 1 (.iter l (pos + (decodeL (l.drop pos)).2)))[0]? = some (.row 0 1 21 es) := by rw [List.getElem?_set_ne (by omega)]; exact h0
      have h1l : 1 < H.length := (List.getElem?_eq_some_iff.1 hI).1
      have h1' : (H.set 1 (.iter l (pos + (decodeL (l.drop pos)).2)))[1]? = some (.iter l (pos + (decodeL (l.drop pos)).2)) := List.getElem?_set_self h1l
      have hrs := rs_step hne
      rw [List.drop_drop] at hrs
      rw [hrs]
      generalize decodeL (l.drop pos) = d at *
      generalize hH1 : H.set 1 (.iter l (pos + d.2)) = H1 at *
      have hfe : A.fillElems 1 [.int .i32 0] [(0, 1, .int .i32 (d.1 : Int))] = some [.int .i32 (d.1 : Int)] := by simp [A.fillElems]
      have hrd : A.read 1 (.sl H1.length 0 0 1 1) (H1 ++ [HObj.row 0 1 21 [AV.int .i32 (d.1 : Int)]]) = some [.int .i32 (d.1 : Int)] := row_read row_push rfl
      have h02 : (H1 ++ [HObj.row 0 1 21 [AV.int .i32 (d.1 : Int)]])[0]? = some (.row 0 1 21 es) := by rw [List.getElem?_append_left (List.getElem?_eq_some_iff.1 h0').1]; exact h0'
      have h12 : (H1 ++ [HObj.row 0 1 21 [AV.int .i32 (d.1 : Int)]])[1]? = some (.iter l (pos + d.2)) := by rw [List.getElem?_append_left (List.getElem?_eq_some_iff.1 h1').1]; exact h1'
      have happ : A.append 1 4 21 (.sl 0 0 0 done.length l.length) [.int .i32 (d.1 : Int)] (H1 ++ [HObj.row 0 1 21 [AV.int .i32 (d.1 : Int)]]) = some (.sl 0 0 0 (done ++ [d.1]).length l.length, (H1 ++ [HObj.row 0 1 21 [AV.int .i32 (d.1 : Int)]]).set 0 (.row 0 1 21 (A.splice es done.length [.int .i32 (d.1 : Int)]))) := by
        simp only [A.append, h02]
        rw [if_pos ⟨trivial, trivial, trivial, by omega, by omega, by simp; omega, by omega⟩, if_pos (by simp; omega)]
        simp
      have hR' : Row0 l.length ((H1 ++ [HObj.row 0 1 21 [AV.int .i32 (d.1 : Int)]]).set 0 (.row 0 1 21 (A.splice es done.length [.int .i32 (d.1 : Int)]))) (done ++ [d.1]) := by
        refine ⟨_, List.getElem?_set_self (by simp), ?_, ?_, by simp; omega⟩
        · unfold A.splice
          simp
          omega
        · have : A.splice es done.length [.int .i32 (d.1 : Int)] = es.take done.length ++ [.int .i32 (d.1 : Int)] ++ es.drop (done.length + 1) := rfl
          rw [this, htk, List.map_append, List.map_cons, List.map_nil, List.take_append_of_le_length (by simp), List.take_of_length_le (by simp)]
      have hI' : ((H1 ++ [HObj.row 0 1 21 [AV.int .i32 (d.1 : Int)]]).set 0 (.row 0 1 21 (A.splice es done.length [.int .i32 (d.1 : Int)])))[1]? = some (.iter l (pos + d.2)) := by
        rw [List.getElem?_set_ne (by omega)]
        exact h12
      obtain ⟨H', hL, hR2⟩ := ih (pos + d.2) (done ++ [d.1]) _ (by omega) (by simp; omega) (by omega) hR' hI'
      rw [List.append_assoc, List.singleton_append] at hL hR2
      refine ⟨H', LDoes.step (Evs.withL hL (Evs.of fun n m _ h2 => ?_)), hR2⟩
      generalize (done ++ [d.1]).length = nd at *
      simp [↓test_bool, ↓bindV_eq, ↓bindH_eq, ↓withV_of, ↓withL_some, ↓withVH_some, L16_0_step, nextK, hI, hp, hdd, hH1, hfe, newsZ_sl ty_runes, hrd, happ, h2]
    · have he : l.drop pos = [] := List.drop_of_length_le (by omega)
      rw [he, rs_nil, List.append_nil]
      refine ⟨H, LDoes.step (Evs.of fun n m => ?_), hR⟩
      simp [↓test_bool, ↓bindV_eq, ↓bindH_eq, ↓withV_of, L16_0_step, nextK, hI, hp]
def halfR (L W : List Nat) (i : Nat) : Prop := ∃ hn : W.length = L.length, ∀ j (hj : j < L.length), W[j]'(hn ▸ hj) = if j < i ∨ L.length - 1 - i < j then L[L.length - 1 - j]'(by omega) else L[j]
theorem rev_turn {pol : FuncId → Pol} {L : List Nat} {cap : Nat} (hl : L.length ≤ 1000000) : ∀ (N i : Nat) (z : Int) (W : List Nat) (H : Heap), L.length - i ≤ N → z = (L.length : Int) - 1 - i → i ≤ L.length → halfR L W i → Row0 cap H W →
    ∃ H' W', LDoes (L16_1 pol) ⟨[.sl 0 0 0 L.length cap, .int .i64 (i : Int), .int .i64 z], []⟩ H 0 ⟨[.sl 0 0 0 L.length cap], []⟩ H' ∧ Row0 cap H' W' ∧ W' = L.reverse := by
  intro N
  induction N with
  | zero =>
    intro i z W H hN hz hi hW hR
    have hlt : ¬ (i : Int) < z := by omega
    obtain ⟨hn, hW⟩ := hW
    refine ⟨H, W, LDoes.step (Evs.of fun n m => ?_), hR, ?_⟩
    · simp [↓test_bool, ↓withV_of, L16_1_step, hlt]
    · refine List.ext_getElem (by simp [hn]) fun j h1 h2 => ?_
      rw [hW j (by omega), List.getElem_reverse, if_pos (by omega)]
  | succ N ih =>
    intro i z W H hN hz hi hW hR
    by_cases hlt : (i : Int) < z
    · obtain ⟨hn, hWj⟩ := hW
      obtain ⟨es, h0, hes, htk, hlc⟩ := hR
      obtain ⟨k, hk⟩ : ∃ k : Nat, z = (k : Int) := ⟨z.toNat, by omega⟩
      subst hk
      have hkl : k < L.length := by omega
      have hil : i < L.length := by omega
      have hkk : k = L.length - 1 - i := by omega
      have hik : i < k := by omega
      have hget : ∀ j (hj : j < W.length), es[j]? = some (er W[j]) := fun j hj => by
        have := congrArg (fun x => x[j]?) htk
        simp only [List.getElem?_take, List.getElem?_map, List.getElem?_eq_getElem hj, Option.map_some] at this
        rw [if_pos (by omega)] at this
        exact this
      have hi0 := hget i (by omega)
      have hk0 := hget k (by omega)
      have x1 : A.idx 1 (.sl 0 0 0 L.length cap) (.int .i64 (k : Int)) H = some (.ptr 0 0 k 0) := by
        have := row_idx (cap := cap) (off := 0) (k := .i64) h0 (i := (k : Int)) (n := L.length) (by omega) (by omega)
        simpa using this
      have x2 : A.idx 1 (.sl 0 0 0 L.length cap) (.int .i64 (i : Int)) H = some (.ptr 0 0 i 0) := by
        have := row_idx (cap := cap) (off := 0) (k := .i64) h0 (i := (i : Int)) (n := L.length) (by omega) (by omega)
        simpa using this
      have y1 : A.load false 1 (.ptr 0 0 k 0) H = some (er (W[k]'(by omega))) := row_load h0 hk0 rfl
      have y2 : A.load false 1 (.ptr 0 0 i 0) H = some (er (W[i]'(by omega))) := row_load h0 hi0 rfl
      have s1 : A.store 1 (.ptr 0 0 i 0) (er (W[k]'(by omega))) H = some (H.set 0 (.row 0 1 21 (es.set i (er (W[k]'(by omega)))))) := row_store h0 hi0 rfl rfl
      have h0l : 0 < H.length := (List.getElem?_eq_some_iff.1 h0).1
      have h1 : (H.set 0 (.row 0 1 21 (es.set i (er (W[k]'(by omega))))))[0]? = some (.row 0 1 21 (es.set i (er (W[k]'(by omega))))) := List.getElem?_set_self h0l
      have hk1 : (es.set i (er (W[k]'(by omega))))[k]? = some (er (W[k]'(by omega))) := by rw [List.getElem?_set_ne (by omega)]; exact hk0
      have x3 : A.idx 1 (.sl 0 0 0 L.length cap) (.int .i64 (k : Int)) (H.set 0 (.row 0 1 21 (es.set i (er (W[k]'(by omega)))))) = some (.ptr 0 0 k 0) := by
        have := row_idx (cap := cap) (off := 0) (k := .i64) h1 (i := (k : Int)) (n := L.length) (by omega) (by omega)
        simpa using this
      have s2 := row_store (v := er (W[i]'(by omega))) h1 hk1 rfl rfl
      rw [List.set_set] at s2
      have hW' : halfR L ((W.set i (W[k]'(by omega))).set k (W[i]'(by omega))) (i + 1) := by
        refine ⟨by simp [hn], fun j hj => ?_⟩
        by_cases e1 : k = j
        · subst e1
          rw [List.getElem_set_self, if_pos (by omega), hWj i hil, if_neg (by omega)]
          congr 1
          omega
        · rw [List.getElem_set_ne e1]
          by_cases e2 : i = j
          · subst e2
            rw [List.getElem_set_self, if_pos (by omega), hWj k hkl, if_neg (by omega)]
            congr 1
          · rw [List.getElem_set_ne e2, hWj j hj]
            by_cases e3 : j < i ∨ L.length - 1 - i < j
            · rw [if_pos e3, if_pos (by omega)]
            · rw [if_neg e3, if_neg (by omega)]
      have hR' : Row0 cap (H.set 0 (.row 0 1 21 ((es.set i (er (W[k]'(by omega)))).set k (er (W[i]'(by omega)))))) ((W.set i (W[k]'(by omega))).set k (W[i]'(by omega))) := by
        refine ⟨_, List.getElem?_set_self h0l, by simp [hes], ?_, by simpa using hlc⟩
        simp only [List.length_set, List.take_set, htk, List.map_set]
      obtain ⟨H', W', hL, hR2, hW2⟩ := ih (i + 1) ((k : Int) - 1) _ _ (by omega) (by omega) (by omega) hW' hR'
      have w1 : IntKind.wrap .i64 ((i : Int) + 1) = (i : Int) + 1 := wrap_i64 (by omega) (by omega)
      have w2 : IntKind.wrap .i64 ((k : Int) - 1) = (k : Int) - 1 := wrap_i64 (by omega) (by omega)
      simp only [Int.natCast_add, Int.natCast_one] at hL
      refine ⟨H', W', LDoes.step (Evs.withL hL (Evs.of fun n m _ h2 => ?_)), hR2, hW2⟩
      generalize er (W[k]'(by omega)) = vk at *
      generalize er (W[i]'(by omega)) = vi at *
      generalize H.set 0 (.row 0 1 21 ((es.set i vk).set k vi)) = H2 at *
      generalize H.set 0 (.row 0 1 21 (es.set i vk)) = H1 at *
      simp [↓test_bool, ↓withV_of, ↓withH_some, L16_1_step, hlt, x1, x2, y1, y2, s1, x3, s2, w1, w2, h2]
    · obtain ⟨hn, hW⟩ := hW
      refine ⟨H, W, LDoes.step (Evs.of fun n m => ?_), hR, ?_⟩
      · simp [↓test_bool, ↓withV_of, L16_1_step, hlt]
      · refine List.ext_getElem (by simp [hn]) fun j h1 h2 => ?_
        rw [hW j (by omega), List.getElem_reverse]
        by_cases e3 : j < i ∨ L.length - 1 - i < j
        · rw [if_pos e3]
        · rw [if_neg e3]
          congr 1
          omega
theorem runes32_er : ∀ L : List Nat, A.runes32 (L.map er) = some (L.map Int.ofNat)
  | [] => rfl
  | r :: L => by
    have := runes32_er L
    simp [A.runes32, this]
theorem flat_enc : ∀ L : List Nat, (L.map Int.ofNat).flatMap (fun n => (Utf8.encode n).data.toList) = L.flatMap enc
  | [] => rfl
  | r :: L => by
    rw [List.map_cons, List.flatMap_cons, List.flatMap_cons, flat_enc L, Int.ofNat_eq_natCast]
    congr 1
theorem conv_back {R : Type} {H : Heap} {L : List Nat} {cap : Nat} (h : Row0 cap H L) {k : AV → Heap → Option R} : convertK base 54 9 (.sl 0 0 0 L.length cap) H k = k (.str (L.flatMap enc)) H := by
  obtain ⟨es, h0, hes, htk, hlc⟩ := h
  have h1 : Go.Den.convert base 54 9 (.sl 0 0 0 L.length cap) = none := by
    unfold Go.Den.convert
    rw [ty_str, ty_runes]
  have hr : A.read 1 (.sl 0 0 0 L.length cap) H = some (L.map er) := by
    rw [← htk]
    simp [A.read, h0]
    omega
  have h2 : convH base 54 9 (.sl 0 0 0 L.length cap) H = some (.str (L.flatMap enc)) := by
    unfold convH
    rw [ty_str, ty_runes]
    dsimp only
    rw [ty_i32]
    dsimp only
    rw [hr]
    dsimp only
    rw [runes32_er]
    rw [Option.map_some, flat_enc]
  unfold convertK
  rw [h1, h2]
noncomputable def pRev : Pol := .still (p1 cS .str notlong revR)
theorem kRev {R : Type} {s : List UInt8} (h : notlong s) {H : Heap} {k : AV → Heap → Option R} : polK pRev [.str s] H k = k (.str (revR s)) H := by
  simp [pRev, polK_imm, h]
theorem okRev : PolOK base 16 pRev := still1 base_ok [(12, pTvalid)] ⟨okTvalid, trivial⟩ fun s hs => by
  unfold notlong at hs
  unfold revR
  cases hv : validD s
  · rw [if_neg (by simp)]
    exact Evs.of fun n m => by
      simp [↓test_bool, ↓bindV_eq, ↓withV_of, S16, kTvalid, hv]
  · rw [if_pos rfl]
    have hl : A.lenStr (.str s) = some (.int .i64 (s.length : Int)) := len_str
    have hmk : A.makeSlice 1 4 21 (.int .i32 0) (.int .i64 0) (.int .i64 (s.length : Int)) [] = some (.sl 0 0 0 0 s.length, [.row 0 1 21 (List.replicate s.length (.int .i32 0))]) := by
      simp [A.makeSlice]
      omega
    have hR0 : Row0 s.length [.row 0 1 21 (List.replicate s.length (.int .i32 0)), .iter s 0] [] := ⟨_, rfl, by simp, by simp, by simp⟩
    obtain ⟨H1, hL1, hR1⟩ := rev_fill (pol := polT [(12, pTvalid)]) hs s.length 0 [] _ (by omega) (by simp) (by omega) hR0 rfl
    rw [List.nil_append, List.drop_zero] at hL1 hR1
    have hrl := rs_len _ s (Nat.le_refl _)
    have hW0 : halfR (rs s) (rs s) 0 := ⟨rfl, fun j hj => by rw [if_neg (by omega)]⟩
    obtain ⟨H2, W, hL2, hR2, hW⟩ := rev_turn (pol := polT [(12, pTvalid)]) (L := rs s) (cap := s.length) (by omega) (rs s).length 0 (((rs s).length : Int) - 1) (rs s) H1 (by omega) (by simp) (by omega) hW0 hR1
    subst hW
    have hcv : ∀ (R : Type) (k : AV → Heap → Option R), convertK base 54 9 (.sl 0 0 0 (rs s).length s.length) H2 k = k (.str ((rs s).reverse.flatMap enc)) H2 := fun R k => by
      have := conv_back hR2 (k := k)
      rw [List.length_reverse] at this
      exact this
    obtain ⟨es, h0, -⟩ := hR1
    have hln : A.len (.sl 0 0 0 (rs s).length s.length) H1 = some (.int .i64 ((rs s).length : Int)) := by simp [A.len, A.alive, h0]
    have hw1 : IntKind.wrap .i64 (((rs s).length : Int) - 1) = ((rs s).length : Int) - 1 := wrap_i64 (by omega) (by omega)
    have hfz : ∀ (H : Heap) (x : List UInt8), A.freezeB true 64 H (.str x) = some (.str x) := fun H x => rfl
    refine Evs.withL hL1 (Evs.withL hL2 (Evs.of fun n m g1 _ g2 _ => ?_))
    simp only [Int.natCast_zero, List.length_nil] at g1 g2
    generalize (rs s).reverse.flatMap enc = out at *
    generalize ((rs s).length : Int) = N at *
    generalize (s.length : Int) = M at *
    simp [↓test_bool, ↓bindV_eq, ↓withV_of, ↓withVH_some, ↓bindX_some, S16, kTvalid, hv, hl, hmk, rangeK, g1, g2, hln, hw1, hcv, hfz]
end Go.Proofs.YtdkjednjlpcboaaDoor

/- The seat's first question: by computation. -/
set_option maxRecDepth 100000
namespace Go.Proofs.YtdkjednjlpcboaaDoor.awaker
open Go Go.Den
def reached : List FuncId := [9, 11, 12, 13, 17, 24, 25, 26, 27, 28, 29, 30, 31, 38, 44, 45, 46, 47, 48, 49, 60, 61, 62, 63, 64, 66, 67, 68, 69, 70, 72, 73]
noncomputable def env0 : Env := { P := Tryd.prog, pol := fun f => bif Nat.beq f 59 then .prim sameF else .plain, ann := fun _ => {}, glob := fun g => bif Nat.beq g 0 then flatD (H := Unit) Rows.laid_unicode_utf8_first else bif Nat.beq g 1 then flatD (H := Unit) Rows.laid_unicode_utf8_acceptRanges else bif Nat.beq g 2 then flatD (H := Unit) Rows.laid_internal_strconv_uint64pow10 else bif Nat.beq g 3 then flatD (H := Unit) Rows.laid_math_bits_deBruijn32tab else bif Nat.beq g 4 then flatD (H := Unit) Rows.laid_math_bits_deBruijn64tab else none }
def siteTable : List (Nat × List (Nat × Nat × Nat)) := []
def sitesIn : List (Nat × List (Nat × Nat × Nat)) → Nat → List (Nat × Nat × Nat)
  | [], _ => []
  | (g, l) :: r, f => bif Nat.beq g f then l else sitesIn r f
def annsIn (f : Nat) : Ann :=  .nil
noncomputable def tab (f : FuncId) : FAnn :=
  match Tryd.prog.funcs[f]? with
  | some fn => { ann := annsIn f, depth := Nat.log2 fn.ntmps + 1, sites := sitesIn siteTable f, draws := mkDraws env0 (sitesIn siteTable f) fn }
  | none => {}
noncomputable def env : Env := { env0 with ann := fun f => if f ∈ reached then tab f else {} }
theorem env_ok : EnvOK env := envOK reached (by kernel_rfl) (fun f hf => by show (if f ∈ reached then tab f else {}).draws = []; rw [if_neg hf]) (by kernel_rfl)
theorem prims_ok : ∀ f, env.pol f = .plain ∨ ∃ F, env.pol f = .prim F ∧ PrimOK env f F := fun f => by
  cases h59 : Nat.beq f 59
  case true =>
    obtain rfl := Nat.eq_of_beq_eq_true h59
    exact .inr ⟨sameF, rfl, same_prim (fn := Tryd.f59) Tryd.func59 (by kernel_rfl) (by kernel_rfl) (by kernel_rfl) (by kernel_rfl)⟩
  case false =>
    refine .inl ?_
    show (bif Nat.beq f 59 then Pol.prim sameF else Pol.plain) = _
    simp only [h59, cond_false]
theorem calls_ok (n : Nat) : CallOK env (callF env n) := callF_prims env_ok (by kernel_rfl) prims_ok n
def saysTrue : Option AV → Bool
  | some (.bool true) => true
  | _ => false
theorem says_true {x : Option AV} (h : saysTrue x = true) : x = some (.bool true) := by
  unfold saysTrue at h
  split at h
  · rfl
  · cases h
theorem known : callF env 300 AV 9 [] [] (fun v G => A.freezeB true 64 G v) = some (.bool true) := says_true (by kernel_rfl)
end Go.Proofs.YtdkjednjlpcboaaDoor.awaker
namespace Go.Proofs.YtdkjednjlpcboaaDoor
open Go Go.Den
noncomputable def pAwakeR : Pol := .still (Cd.f0 (.bool true))
theorem okAwakeR : PolOK base 9 pAwakeR := pure_prim (E := base) (E' := awaker.env) rfl rfl awaker.calls_ok fun xs v h => by
  unfold Cd.f0 at h
  split at h
  · cases h
    exact ⟨300, awaker.known⟩
  · cases h
theorem kAwakeR {R : Type} {H : Heap} {k : AV → Heap → Option R} : polK pAwakeR [] H k = k (.bool true) H := by
  unfold pAwakeR
  rw [polK_imm (by simp)]
  rfl
end Go.Proofs.YtdkjednjlpcboaaDoor
