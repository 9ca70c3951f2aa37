/- Texts put together: Sa, BgO, Sb0, Sb1, Sb2, Sb3, Sb4, Sb5, Sb6, Sb7, Sb8, Sb9, Sb10, Sb, U1, U2, U3, U4, U5, U6, U7. -/
import Derived.Test.YtdkjednjlpcboaaDoorMf
import Derived.Test.YtdkjednjlpcboaaDoorProg
import Derived.KernelRfl
import Derived.Test.YtdkjednjlpcboaaDoorRows

/- The seat's environment: what is said of each function's loops and own variables. -/
set_option maxRecDepth 100000
namespace Go.Proofs.YtdkjednjlpcboaaDoor
open Go Go.Den
def kh3_0 : LK := ⟨7, [0, 1, 5, 6, 34], [], []⟩
def kx3_0 : LK := ⟨7, [0, 1, 4, 5, 6], [], []⟩
def o3_0 : List AExit := [.exit 0, .ret]
def A3_0 : Ann := .nil
def fa3 : FAnn := { ann := (.two .nil (.two .nil (.two .nil (.two .nil (.two (.two .nil (.one (.keep kx3_0 o3_0 (.lp kh3_0 A3_0)))) .nil))))), depth := 7, sites := [], draws := [] }
def fa4 : FAnn := { ann := .nil, depth := 7, sites := [], draws := [] }
def fa5 : FAnn := { ann := .nil, depth := 7, sites := [], draws := [] }
def fa6 : FAnn := { ann := .nil, depth := 6, sites := [], draws := [] }
def fa7 : FAnn := { ann := .nil, depth := 7, sites := [], draws := [] }
def fa10 : FAnn := { ann := .nil, depth := 3, sites := [], draws := [] }
def qjd : LK := ⟨6, [3, 14], [], []⟩
def kx11_0 : LK := ⟨6, [3], [], []⟩
def o11_0 : List AExit := [.exit 0]
def A11_0 : Ann := (.two .nil (.two .nil (.one (.two .nil (.one (.two .nil (.keep ⟨6, [3, 14], [], []⟩ [.normal] (.two .nil (.two .nil (.keep ⟨6, [3, 14], [], []⟩ [.normal] (.two .nil (.two .nil (.keep ⟨6, [3, 14], [], []⟩ [.normal] .nil)))))))))))))
def fa11 : FAnn := { ann := (.two .nil (.two .nil (.two .nil (.two .nil (.two .nil (.two (.two .nil (.one (.keep kx11_0 o11_0 (.lp qjd A11_0)))) .nil)))))), depth := 6, sites := [], draws := [] }
def fa12 : FAnn := { ann := .nil, depth := 3, sites := [], draws := [] }
def fa13 : FAnn := { ann := .nil, depth := 5, sites := [], draws := [] }
def qje : LK := ⟨6, [0, 1], [], []⟩
def kx14_0 : LK := ⟨6, [4], [], []⟩
def o14_0 : List AExit := [.ret]
def A14_0 : Ann := .nil
def fa14 : FAnn := { ann := (.two .nil (.two .nil (.one (.keep kx14_0 o14_0 (.lp qje A14_0))))), depth := 6, sites := [], draws := [(9, ⟨[0, 0, 3, 0, 0, 24, 7, 127], [], none⟩)] }
def qjf : LK := ⟨6, [5, 6, 7], [], []⟩
def kx15_0 : LK := ⟨6, [4, 5, 6], [], []⟩
def o15_0 : List AExit := [.exit 0, .ret]
def A15_0 : Ann := .nil
def fa15 : FAnn := { ann := (.two .nil (.two .nil (.two .nil (.two (.two .nil (.one (.keep kx15_0 o15_0 (.lp qjf A15_0)))) .nil)))), depth := 6, sites := [(8, 10, 1000)], draws := [(7, ⟨[0, 0, 3, 7, 0, 0, 48, 112, 255], [], none⟩), (8, ⟨[0, 0, 3, 7, 15, 0, 0, 96, 224, 480, 1023, 2047], [], none⟩)] }
def kh16_1 : LK := ⟨6, [3, 6, 7], [], []⟩
def kx16_1 : LK := ⟨6, [3], [], []⟩
def o16_1 : List AExit := [.exit 2]
def A16_1 : Ann := .nil
def kh16_0 : LK := ⟨6, [3, 15], [], []⟩
def kx16_0 : LK := ⟨6, [3], [], []⟩
def o16_0 : List AExit := [.exit 0]
def A16_0 : Ann := .nil
def fa16 : FAnn := { ann := (.two .nil (.two .nil (.two .nil (.two (.two .nil (.one (.keep kx16_0 o16_0 (.lp kh16_0 A16_0)))) (.two (.two .nil (.one (.keep kx16_1 o16_1 (.lp kh16_1 A16_1)))) .nil))))), depth := 6, sites := [], draws := [(11, ⟨[0, 0, 0, 0, 0, 0, 48, 112, 0, 0, 768, 1792, 4083, 8179, 16383, 32767], [], none⟩)] }
def fa17 : FAnn := { ann := .nil, depth := 4, sites := [], draws := [] }
def kh18_0 : LK := ⟨4, [3, 8], [], []⟩
def kx18_0 : LK := ⟨4, [3], [], []⟩
def o18_0 : List AExit := [.exit 0]
def A18_0 : Ann := .nil
def fa18 : FAnn := { ann := (.two .nil (.two .nil (.two .nil (.two (.two .nil (.one (.keep kx18_0 o18_0 (.lp kh18_0 A18_0)))) .nil)))), depth := 4, sites := [], draws := [] }
def fa19 : FAnn := { ann := .nil, depth := 6, sites := [], draws := [(8, ⟨[0, 0, 2, 6, 14, 1, 63, 127], [], none⟩)] }
def kh20_0 : LK := ⟨7, [0, 5, 6], [], []⟩
def kx20_0 : LK := ⟨7, [0, 2, 3, 4, 6], [], []⟩
def o20_0 : List AExit := [.exit 0, .ret]
def A20_0 : Ann := .nil
def kh20_1 : LK := ⟨7, [5, 7, 8], [], []⟩
def kx20_1 : LK := ⟨7, [2, 3, 4, 5, 7, 8], [], []⟩
def o20_1 : List AExit := [.exit 2, .ret]
def A20_1 : Ann := (.two .nil (.one (.two .nil (.two .nil (.two .nil (.two (.two .nil (.keep ⟨7, [5, 7, 8, 9, 10], [], []⟩ [.normal] (.two .nil (.two .nil (.keep ⟨7, [5, 7, 8, 9, 10], [], []⟩ [.normal] .nil))))) (.two (.two .nil (.keep ⟨7, [5, 7, 8, 9, 10], [], []⟩ [.normal] .nil)) .nil)))))))
def fa20 : FAnn := { ann := (.two .nil (.two .nil (.two .nil (.two (.two .nil (.two (.two .nil (.two (.one (.keep kx20_0 o20_0 (.lp kh20_0 A20_0))) .nil)) .nil)) (.two .nil (.two .nil (.two (.one (.keep kx20_1 o20_1 (.lp kh20_1 A20_1))) .nil))))))), depth := 7, sites := [], draws := [(30, ⟨[0, 1, 0, 0, 8, 28, 60, 124, 3, 511, 1023], [], none⟩)] }
def kh21_0 : LK := ⟨5, [0, 6], [], []⟩
def kx21_0 : LK := ⟨5, [0, 2], [], []⟩
def o21_0 : List AExit := [.exit 0, .ret]
def A21_0 : Ann := .nil
def fa21 : FAnn := { ann := (.two .nil (.two (.two .nil (.one (.keep kx21_0 o21_0 (.lp kh21_0 A21_0)))) .nil)), depth := 5, sites := [], draws := [] }
def kh22_0 : LK := ⟨6, [3, 13], [], []⟩
def kx22_0 : LK := ⟨6, [3], [], []⟩
def o22_0 : List AExit := [.exit 0]
def A22_0 : Ann := (.two .nil (.two .nil (.one (.two .nil (.one (.two .nil (.keep ⟨6, [3, 13], [], []⟩ [.normal] (.two .nil (.two .nil (.keep ⟨6, [3, 13], [], []⟩ [.normal] (.two .nil (.two .nil (.keep ⟨6, [3, 13], [], []⟩ [.normal] .nil)))))))))))))
def fa22 : FAnn := { ann := (.two .nil (.two .nil (.two .nil (.two .nil (.two (.two .nil (.one (.keep kx22_0 o22_0 (.lp kh22_0 A22_0)))) .nil))))), depth := 6, sites := [], draws := [] }
def kh23_0 : LK := ⟨5, [3, 4, 5], [], []⟩
def kx23_0 : LK := ⟨5, [3], [], []⟩
def o23_0 : List AExit := [.exit 0]
def A23_0 : Ann := .nil
def fa23 : FAnn := { ann := (.two .nil (.two .nil (.two .nil (.two .nil (.two (.two .nil (.one (.keep kx23_0 o23_0 (.lp kh23_0 A23_0)))) .nil))))), depth := 5, sites := [], draws := [] }
def kh24_1 : LK := ⟨8, [0], [], []⟩
def kx24_1 : LK := ⟨8, [0], [], []⟩
def o24_1 : List AExit := [.exit 2]
def A24_1 : Ann := .nil
def kh24_0 : LK := ⟨8, [0], [], []⟩
def kx24_0 : LK := ⟨8, [2], [], []⟩
def o24_0 : List AExit := [.exit 0, .ret]
def A24_0 : Ann := (.two .nil (.keep ⟨8, [0, 2], [], []⟩ [.normal, .ret] (.one (.two .nil (.two (.two .nil (.two (.two .nil (.two (.two .nil (.keep ⟨8, [0], [], []⟩ [.normal] (.two (.two .nil (.two .nil (.keep ⟨8, [0], [], []⟩ [.normal] (.two (.two .nil (.one (.keep kx24_1 o24_1 (.lp kh24_1 A24_1)))) .nil)))) .nil))) .nil)) .nil)) (.two .nil (.two .nil (.two .nil (.two .nil (.one (.two .nil (.keep ⟨8, [0, 2], [], []⟩ [.normal, .ret] (.two .nil (.two .nil (.keep ⟨8, [0, 2], [], []⟩ [.normal, .ret] .nil)))))))))))))))
def fa24 : FAnn := { ann := (.two .nil (.two (.one (.keep kx24_0 o24_0 (.lp kh24_0 A24_0))) .nil)), depth := 8, sites := [], draws := [(7, ⟨[0, 1, 3, 7, 15, 31, 15, 79, 255, 511, 1023, 2047, 4095], [(7, 0, 1)], none⟩), (9, ⟨[0, 1, 3, 7, 15, 31, 15, 79, 255, 511, 15, 1039, 3583, 15, 8207, 32255, 65023, 131071, 262143, 524287, 1048575], [(7, 0, 1), (9, 2, 4), (11, 0, 2), (14, 0, 3)], none⟩), (17, ⟨[0, 1, 3, 7, 15, 31, 15, 79, 255, 511, 1023, 2047, 4095, 2047, 10239, 32767, 65535], [], none⟩), (21, ⟨[0, 1, 3, 7, 15, 31, 15, 79, 255, 511, 1023, 2047, 4095, 2047, 10239, 32767, 65535, 131071, 262143, 524287, 1048575, 2097151, 4194303, 8388607, 16777215, 33554431, 67108863], [], none⟩), (25, ⟨[0, 1, 3, 7, 15, 31, 15, 79, 255, 511, 1023, 2047, 4095, 2047, 10239, 32767, 65535, 131071, 262143, 524287, 1048575, 2097151, 4194303, 8388607, 16777215, 33554431, 67108863, 134217727, 268435455, 536870911, 1073741823, 2147483647, 4294967295, 8589934591, 17179869183, 34359738367, 68719476735], [], none⟩)] }
def fa25 : FAnn := { ann := .nil, depth := 5, sites := [], draws := [] }
def fa26 : FAnn := { ann := .nil, depth := 5, sites := [], draws := [] }
def fa27 : FAnn := { ann := .nil, depth := 5, sites := [], draws := [] }
def fa28 : FAnn := { ann := .nil, depth := 4, sites := [], draws := [] }
def fa29 : FAnn := { ann := .nil, depth := 4, sites := [], draws := [] }
def fa30 : FAnn := { ann := .nil, depth := 4, sites := [], draws := [(1, ⟨[0, 1, 3, 7, 15, 0, 32, 96, 224, 480, 1023, 2047], [(6, 0, 1), (7, 0, 1), (8, 0, 1), (9, 0, 1)], none⟩)] }
def kh31_0 : LK := ⟨6, [0, 4, 8], [], []⟩
def kx31_0 : LK := ⟨6, [0, 2, 3, 4], [], []⟩
def o31_0 : List AExit := [.exit 0, .ret]
def A31_0 : Ann := .nil
def fa31 : FAnn := { ann := (.two .nil (.two .nil (.two (.two .nil (.one (.keep kx31_0 o31_0 (.lp kh31_0 A31_0)))) .nil))), depth := 6, sites := [], draws := [] }
def fa32 : FAnn := { ann := .nil, depth := 5, sites := [], draws := [] }
def fa33 : FAnn := { ann := .nil, depth := 5, sites := [], draws := [] }
def fa34 : FAnn := { ann := .nil, depth := 5, sites := [], draws := [] }
def fa35 : FAnn := { ann := .nil, depth := 5, sites := [], draws := [] }
def kh36_0 : LK := ⟨6, [0, 1, 5], [], []⟩
def kx36_0 : LK := ⟨6, [0, 1, 4], [], []⟩
def o36_0 : List AExit := [.exit 0, .ret]
def A36_0 : Ann := .nil
def fa36 : FAnn := { ann := (.two .nil (.two (.two .nil (.one (.keep kx36_0 o36_0 (.lp kh36_0 A36_0)))) .nil)), depth := 6, sites := [(5, 10, 1000)], draws := [(4, ⟨[0, 0, 3, 7, 0, 0, 48, 112, 255], [], none⟩), (5, ⟨[0, 0, 3, 7, 15, 0, 0, 96, 224, 480, 1023, 2047], [], none⟩)] }
def fa37 : FAnn := { ann := .nil, depth := 4, sites := [], draws := [] }
def kh38_0 : LK := ⟨4, [2, 4], [], []⟩
def kx38_0 : LK := ⟨4, [2], [], []⟩
def o38_0 : List AExit := [.exit 0]
def A38_0 : Ann := .nil
def fa38 : FAnn := { ann := (.two .nil (.two (.two .nil (.one (.keep kx38_0 o38_0 (.lp kh38_0 A38_0)))) .nil)), depth := 4, sites := [], draws := [] }
def fa39 : FAnn := { ann := .nil, depth := 4, sites := [], draws := [] }
def kh40_0 : LK := ⟨6, [0, 4], [], []⟩
def kx40_0 : LK := ⟨6, [2, 3], [], []⟩
def o40_0 : List AExit := [.ret]
def A40_0 : Ann := (.one (.two .nil (.two .nil (.two (.one (.two .nil (.two .nil (.two .nil (.two .nil (.two .nil (.keep ⟨6, [0, 4, 5, 7], [], []⟩ [.normal] (.two .nil (.two .nil (.keep ⟨6, [0, 4, 5, 7], [], []⟩ [.normal] .nil)))))))))) .nil))))
def fa40 : FAnn := { ann := (.two .nil (.two .nil (.one (.keep kx40_0 o40_0 (.lp kh40_0 A40_0))))), depth := 6, sites := [], draws := [] }
def fa41 : FAnn := { ann := .nil, depth := 6, sites := [], draws := [] }
def kh42_0 : LK := ⟨7, [0, 1, 7, 8], [], []⟩
def kx42_0 : LK := ⟨7, [0, 1, 4, 5, 6, 7, 8], [], []⟩
def o42_0 : List AExit := [.exit 1, .ret]
def A42_0 : Ann := .nil
def fa42 : FAnn := { ann := (.two .nil (.two .nil (.two (.two .nil (.one (.two (.two .nil (.keep ⟨7, [0, 1, 17, 19], [], []⟩ [.normal] .nil)) .nil))) (.two .nil (.two (.two .nil (.one (.keep kx42_0 o42_0 (.lp kh42_0 A42_0)))) .nil))))), depth := 7, sites := [], draws := [] }
def kh43_0 : LK := ⟨5, [0, 1, 5], [], []⟩
def kx43_0 : LK := ⟨5, [4], [], []⟩
def o43_0 : List AExit := [.ret]
def A43_0 : Ann := .nil
def fa43 : FAnn := { ann := (.two .nil (.two .nil (.one (.keep kx43_0 o43_0 (.lp kh43_0 A43_0))))), depth := 5, sites := [], draws := [(2, ⟨[0, 0, 3, 0, 0, 24, 56, 127, 0, 511, 1023], [], none⟩)] }
def fa44 : FAnn := { ann := .nil, depth := 6, sites := [], draws := [(1, ⟨[0, 1, 3, 0, 8, 24, 56, 127, 0, 256, 768, 1792, 4095, 0, 8192, 24576, 57344, 131071, 262143], [], none⟩), (2, ⟨[0, 1, 3, 0, 8, 24, 56, 127, 0, 256, 768, 1792, 4095, 0, 8192, 24576, 57344, 131071, 0, 262144, 786432, 1835008, 4194303, 0, 8388608, 25165824, 58720256, 134217727, 0, 268435456, 805306368, 1879048192, 4294967295, 0, 8589934592, 25769803776, 60129542144, 137438953471, 274877906943], [], none⟩)] }
def fa45 : FAnn := { ann := (.two .nil (.keep ⟨5, [], [], []⟩ [.normal] .nil)), depth := 5, sites := [], draws := [] }
def fa46 : FAnn := { ann := .nil, depth := 5, sites := [], draws := [] }
def fa48 : FAnn := { ann := .nil, depth := 4, sites := [], draws := [] }
def fa49 : FAnn := { ann := .nil, depth := 5, sites := [], draws := [] }
def fa50 : FAnn := { ann := .nil, depth := 3, sites := [], draws := [] }
def fa51 : FAnn := { ann := .nil, depth := 7, sites := [], draws := [] }
def fa52 : FAnn := { ann := .nil, depth := 3, sites := [], draws := [] }
def fa53 : FAnn := { ann := .nil, depth := 3, sites := [], draws := [] }
def fa54 : FAnn := { ann := .nil, depth := 5, sites := [], draws := [] }
def fa55 : FAnn := { ann := .nil, depth := 6, sites := [(3, 9, 1000)], draws := [(1, ⟨[0, 1, 3, 7, 0, 16, 48, 112, 240, 511], [], none⟩), (3, ⟨[0, 1, 3, 7, 0, 16, 48, 112, 255, 511, 1023, 2047, 2047, 4095, 16383], [], none⟩)] }
def fa56 : FAnn := { ann := .nil, depth := 6, sites := [], draws := [] }
def fa57 : FAnn := { ann := .nil, depth := 6, sites := [], draws := [] }
def fa58 : FAnn := { ann := .nil, depth := 5, sites := [], draws := [] }
def fa60 : FAnn := { ann := (.two .nil (.two .nil (.one (.two .nil (.two .nil (.two (.two .nil (.keep ⟨7, [0, 1, 5, 25], [], []⟩ [.normal] .nil)) .nil)))))), depth := 7, sites := [], draws := [] }
def fa61 : FAnn := { ann := .nil, depth := 4, sites := [], draws := [] }
def fa62 : FAnn := { ann := .nil, depth := 4, sites := [], draws := [] }
def kh63_0 : LK := ⟨8, [0, 1, 4], [], []⟩
def kx63_0 : LK := ⟨8, [0, 1, 4], [], []⟩
def o63_0 : List AExit := [.exit 0]
def A63_0 : Ann := .nil
def fa63 : FAnn := { ann := (.two .nil (.two (.one (.keep kx63_0 o63_0 (.lp kh63_0 A63_0))) (.two .nil (.two (.two .nil (.keep ⟨8, [0, 4, 12], [], []⟩ [.normal] .nil)) (.two (.two .nil (.keep ⟨8, [0, 4, 12], [], []⟩ [.normal] .nil)) (.two .nil (.keep ⟨8, [], [], []⟩ [.normal] .nil))))))), depth := 8, sites := [], draws := [(7, ⟨[0, 0, 2, 0, 0, 16, 0, 64, 192, 0, 512, 455, 2503, 8191, 16383], [(5, 0, 1)], none⟩), (8, ⟨[0, 0, 2, 0, 0, 16, 0, 64, 192, 0, 512, 455, 2503, 8191, 16383], [(5, 0, 1)], none⟩), (9, ⟨[0, 0, 2, 0, 0, 16, 0, 64, 192, 0, 512, 455, 2503, 8191, 16383], [(5, 0, 1)], none⟩), (10, ⟨[0, 0, 2, 0, 0, 16, 0, 64, 192, 0, 512, 455, 2503, 8191, 16383], [(5, 0, 1)], none⟩), (17, ⟨[0, 0, 2, 0, 0, 16, 0, 64, 192, 0, 512, 455, 2503, 8191, 16383], [(5, 0, 1)], none⟩), (18, ⟨[0, 0, 2, 0, 0, 16, 0, 64, 192, 0, 512, 455, 2503, 8191, 16383], [(5, 0, 1)], none⟩), (23, ⟨[0, 0, 2, 0, 0, 16, 0, 64, 192, 0, 512, 455, 2503, 8191, 16383], [(5, 0, 1)], none⟩)] }
def kh65_0 : LK := ⟨6, [0, 4, 5], [], []⟩
def kx65_0 : LK := ⟨6, [2, 3], [], []⟩
def o65_0 : List AExit := [.ret]
def A65_0 : Ann := .nil
def fa65 : FAnn := { ann := (.two .nil (.two .nil (.two .nil (.one (.keep kx65_0 o65_0 (.lp kh65_0 A65_0)))))), depth := 6, sites := [], draws := [] }
def fa66 : FAnn := { ann := .nil, depth := 3, sites := [], draws := [] }
def fa67 : FAnn := { ann := (.two .nil (.two (.two .nil (.keep ⟨5, [0, 2], [], []⟩ [.normal] .nil)) (.two (.two .nil (.keep ⟨5, [0, 2], [], []⟩ [.normal] .nil)) (.two (.two .nil (.keep ⟨5, [0, 2], [], []⟩ [.normal] .nil)) .nil)))), depth := 5, sites := [], draws := [] }
def fa68 : FAnn := { ann := .nil, depth := 3, sites := [], draws := [] }
def fa69 : FAnn := { ann := .nil, depth := 4, sites := [], draws := [] }
def fa70 : FAnn := { ann := .nil, depth := 4, sites := [], draws := [] }
def fa71 : FAnn := { ann := .nil, depth := 6, sites := [], draws := [] }
def fa72 : FAnn := { ann := .nil, depth := 4, sites := [], draws := [] }
def fa73 : FAnn := { ann := .nil, depth := 4, sites := [], draws := [] }
def qhu : List (Nat × FAnn) := [(3, fa3), (4, fa4), (5, fa5), (6, fa6), (7, fa7), (10, fa10), (11, fa11), (12, fa12), (13, fa13), (14, fa14), (15, fa15), (16, fa16), (17, fa17), (18, fa18), (19, fa19), (20, fa20), (21, fa21), (22, fa22), (23, fa23), (24, fa24), (25, fa25), (26, fa26), (27, fa27), (28, fa28), (29, fa29), (30, fa30), (31, fa31), (32, fa32), (33, fa33), (34, fa34), (35, fa35), (36, fa36), (37, fa37), (38, fa38), (39, fa39), (40, fa40), (41, fa41), (42, fa42), (43, fa43), (44, fa44), (45, fa45), (46, fa46), (48, fa48), (49, fa49), (50, fa50), (51, fa51), (52, fa52), (53, fa53), (54, fa54), (55, fa55), (56, fa56), (57, fa57), (58, fa58), (60, fa60), (61, fa61), (62, fa62), (63, fa63), (65, fa65), (66, fa66), (67, fa67), (68, fa68), (69, fa69), (70, fa70), (71, fa71), (72, fa72), (73, fa73)]
def qft : List FuncId := [3, 4, 5, 6, 7, 10, 11, 12, 13, 14, 15, 16, 17, 18, 19, 20, 21, 22, 23, 24, 25, 26, 27, 28, 29, 30, 31, 32, 33, 34, 35, 36, 37, 38, 39, 40, 41, 42, 43, 44, 45, 46, 48, 49, 50, 51, 52, 53, 54, 55, 56, 57, 58, 60, 61, 62, 63, 65, 66, 67, 68, 69, 70, 71, 72, 73]
noncomputable def base : Env := { P := Tryd.prog, pol := fun _ => .prim fun _ _ => none, ann := q9u qhu, glob := fun g => bif Nat.beq g 0 then flatD (H := Unit) Rows.laid_unicode_utf8_first else bif Nat.beq g 1 then flatD (H := Unit) Rows.laid_unicode_utf8_acceptRanges else bif Nat.beq g 2 then flatD (H := Unit) Rows.laid_internal_strconv_uint64pow10 else bif Nat.beq g 3 then flatD (H := Unit) Rows.laid_math_bits_deBruijn32tab else bif Nat.beq g 4 then flatD (H := Unit) Rows.laid_math_bits_deBruijn64tab else none }
noncomputable def L3_0 (pol : FuncId → Pol) (n : Nat) : Nat → Live → Heap → Option (Nat × Live × Heap) := loopL (base.with pol) (callF (base.with pol) n) n 3 [1, 1, 1, 1, 0, 1, 0, 0] A3_0 kh3_0 kx3_0 o3_0 70
noncomputable def qfa (pol : FuncId → Pol) (n : Nat) : Nat → Live → Heap → Option (Nat × Live × Heap) := loopL (base.with pol) (callF (base.with pol) n) n 11 [1, 1, 1, 1, 1, 0, 1, 0, 0] A11_0 qjd kx11_0 o11_0 45
noncomputable def L14_0 (pol : FuncId → Pol) (n : Nat) : Nat → Live → Heap → Option (Nat × Live × Heap) := loopL (base.with pol) (callF (base.with pol) n) n 14 [1, 1, 0, 0] A14_0 qje kx14_0 o14_0 53
noncomputable def L15_0 (pol : FuncId → Pol) (n : Nat) : Nat → Live → Heap → Option (Nat × Live × Heap) := loopL (base.with pol) (callF (base.with pol) n) n 15 [1, 1, 1, 0, 1, 0, 0] A15_0 qjf kx15_0 o15_0 62
noncomputable def qhm (pol : FuncId → Pol) (n : Nat) : Nat → Live → Heap → Option (Nat × Live × Heap) := loopL (base.with pol) (callF (base.with pol) n) n 16 [1, 1, 1, 0, 1, 0, 0] A16_0 kh16_0 kx16_0 o16_0 49
noncomputable def qhn (pol : FuncId → Pol) (n : Nat) : Nat → Live → Heap → Option (Nat × Live × Heap) := loopL (base.with pol) (callF (base.with pol) n) n 16 [1, 1, 1, 1, 0, 1, 0, 0] A16_1 kh16_1 kx16_1 o16_1 49
noncomputable def qho (pol : FuncId → Pol) (n : Nat) : Nat → Live → Heap → Option (Nat × Live × Heap) := loopL (base.with pol) (callF (base.with pol) n) n 18 [1, 1, 1, 0, 1, 0, 0] A18_0 kh18_0 kx18_0 o18_0 14
noncomputable def qfb (pol : FuncId → Pol) (n : Nat) : Nat → Live → Heap → Option (Nat × Live × Heap) := loopL (base.with pol) (callF (base.with pol) n) n 20 [1, 1, 1, 0, 1, 0, 1, 0, 0, 0] A20_0 kh20_0 kx20_0 o20_0 106
noncomputable def qea (pol : FuncId → Pol) (n : Nat) : Nat → Live → Heap → Option (Nat × Live × Heap) := loopL (base.with pol) (callF (base.with pol) n) n 20 [1, 1, 1, 1, 1, 1, 0, 0, 0] A20_1 kh20_1 kx20_1 o20_1 106
noncomputable def qhp (pol : FuncId → Pol) (n : Nat) : Nat → Live → Heap → Option (Nat × Live × Heap) := loopL (base.with pol) (callF (base.with pol) n) n 21 [1, 0, 1, 0, 0] A21_0 kh21_0 kx21_0 o21_0 18
noncomputable def qfc (pol : FuncId → Pol) (n : Nat) : Nat → Live → Heap → Option (Nat × Live × Heap) := loopL (base.with pol) (callF (base.with pol) n) n 22 [1, 1, 1, 1, 0, 1, 0, 0] A22_0 kh22_0 kx22_0 o22_0 56
noncomputable def qhq (pol : FuncId → Pol) (n : Nat) : Nat → Live → Heap → Option (Nat × Live × Heap) := loopL (base.with pol) (callF (base.with pol) n) n 23 [1, 1, 1, 1, 0, 1, 0, 0] A23_0 kh23_0 kx23_0 o23_0 27
noncomputable def qhr (pol : FuncId → Pol) (n : Nat) : Nat → Live → Heap → Option (Nat × Live × Heap) := loopL (base.with pol) (callF (base.with pol) n) n 24 [1, 0, 0, 0] A24_0 kh24_0 kx24_0 o24_0 169
noncomputable def qhs (pol : FuncId → Pol) (n : Nat) : Nat → Live → Heap → Option (Nat × Live × Heap) := loopL (base.with pol) (callF (base.with pol) n) n 24 [1, 0, 0, 0, 1, 0, 1, 0, 1, 0, 1, 0, 1, 0, 1, 1, 0, 1, 0, 0] A24_1 kh24_1 kx24_1 o24_1 169
noncomputable def qeb (pol : FuncId → Pol) (n : Nat) : Nat → Live → Heap → Option (Nat × Live × Heap) := loopL (base.with pol) (callF (base.with pol) n) n 31 [1, 1, 0, 1, 0, 0] A31_0 kh31_0 kx31_0 o31_0 32
noncomputable def L36_0 (pol : FuncId → Pol) (n : Nat) : Nat → Live → Heap → Option (Nat × Live × Heap) := loopL (base.with pol) (callF (base.with pol) n) n 36 [1, 0, 1, 0, 0] A36_0 kh36_0 kx36_0 o36_0 43
noncomputable def qht (pol : FuncId → Pol) (n : Nat) : Nat → Live → Heap → Option (Nat × Live × Heap) := loopL (base.with pol) (callF (base.with pol) n) n 38 [1, 0, 1, 0, 0] A38_0 kh38_0 kx38_0 o38_0 10
noncomputable def qec (pol : FuncId → Pol) (n : Nat) : Nat → Live → Heap → Option (Nat × Live × Heap) := loopL (base.with pol) (callF (base.with pol) n) n 40 [1, 1, 0, 0] A40_0 kh40_0 kx40_0 o40_0 42
noncomputable def qfd (pol : FuncId → Pol) (n : Nat) : Nat → Live → Heap → Option (Nat × Live × Heap) := loopL (base.with pol) (callF (base.with pol) n) n 42 [1, 1, 1, 1, 0, 1, 0, 0] A42_0 kh42_0 kx42_0 o42_0 88
noncomputable def qfe (pol : FuncId → Pol) (n : Nat) : Nat → Live → Heap → Option (Nat × Live × Heap) := loopL (base.with pol) (callF (base.with pol) n) n 43 [1, 1, 0, 0] A43_0 kh43_0 kx43_0 o43_0 22
noncomputable def L63_0 (pol : FuncId → Pol) (n : Nat) : Nat → Live → Heap → Option (Nat × Live × Heap) := loopL (base.with pol) (callF (base.with pol) n) n 63 [1, 0, 0, 0] A63_0 kh63_0 kx63_0 o63_0 167
noncomputable def qff (pol : FuncId → Pol) (n : Nat) : Nat → Live → Heap → Option (Nat × Live × Heap) := loopL (base.with pol) (callF (base.with pol) n) n 65 [1, 1, 1, 0, 0] A65_0 kh65_0 kx65_0 o65_0 41
end Go.Proofs.YtdkjednjlpcboaaDoor

/- The base of all that is proved of the seat's functions. -/
set_option maxRecDepth 100000
namespace Go.Proofs.YtdkjednjlpcboaaDoor
open Go Go.Den
theorem base_ok : BaseOK base := ⟨envOK qft (by kernel_rfl) (fun f hf => q6j hf) (by kernel_rfl), by kernel_rfl⟩
end Go.Proofs.YtdkjednjlpcboaaDoor

/- What each function does, in Den's words. -/
set_option maxRecDepth 100000
namespace Go.Proofs.YtdkjednjlpcboaaDoor
open Go Go.Den
end Go.Proofs.YtdkjednjlpcboaaDoor

/- What each function does, in Den's words. -/
set_option maxRecDepth 100000
namespace Go.Proofs.YtdkjednjlpcboaaDoor
open Go Go.Den
end Go.Proofs.YtdkjednjlpcboaaDoor

/- What each function does, in Den's words. -/
set_option maxRecDepth 100000
namespace Go.Proofs.YtdkjednjlpcboaaDoor
open Go Go.Den
end Go.Proofs.YtdkjednjlpcboaaDoor

/- What each function does, in Den's words. -/
set_option maxRecDepth 100000
namespace Go.Proofs.YtdkjednjlpcboaaDoor
open Go Go.Den
end Go.Proofs.YtdkjednjlpcboaaDoor

/- What each function does, in Den's words. -/
set_option maxRecDepth 100000
namespace Go.Proofs.YtdkjednjlpcboaaDoor
open Go Go.Den
theorem S7 (pol : FuncId → Pol) (n : Nat) (R : Type) (k : AV → Heap → Option R) (a0 : AV) (H : Heap) : callF (base.with pol) (n + 1) R 7 [a0] H k =
  (cl base pol n 9 [] H fun t9 H1 =>
  withV (A.un .not t9) fun t10 =>
  A.test t10 (
  k (AV.bool false) H1)
  (
  withV (A.lenStr a0) fun t12 =>
  withV (A.bin base.P .gtr 3 t12 (AV.int .i64 2000) true H1) fun t13 =>
  A.test t13 (
  k (AV.bool true) H1)
  (
  cl base pol n 19 [a0] H1 fun t16 H3 =>
  q07 t16 0 fun t17 =>
  q07 t16 1 fun t18 =>
  q07 t16 2 fun t19 =>
  cl base pol n 20 [a0] H3 fun t22 H4 =>
  q07 t22 0 fun t23 =>
  q07 t22 1 fun t24 =>
  q07 t22 2 fun t25 =>
  cl base pol n 12 [a0] H4 fun t27 H5 =>
  cl base pol n 10 [a0] H5 fun t29 H6 =>
  withV (A.bin base.P .eql 4 t27 t29 false H6) fun t30 =>
  withB (A.asG true t30) fun b6 => withP (guardB b6 true (
   some (a0, H6))
   (some (.tup [], H6))) fun t32 H7 =>
  withB (A.asG true t30) fun b7 => withP (guardB b7 true (
   cl base pol n 17 [t32] H7 fun t33 H8 =>
   some (t33, H8))
   (some (.tup [], H7))) fun t33 H9 =>
  withB (A.asG true t30) fun b8 => withP (guardB b8 true (
   some (a0, H9))
   (some (.tup [], H9))) fun t34 H10 =>
  withB (A.asG true t30) fun b9 => withP (guardB b9 true (
   cl base pol n 18 [t34] H10 fun t35 H11 =>
   some (t35, H11))
   (some (.tup [], H10))) fun t35 H12 =>
  withB (A.asG true t30) fun b10 => withP (guardB b10 true (
   withV (A.bin base.P .eql 3 t33 t35 false H12) fun t36 =>
   some (t36, H12))
   (some (.tup [], H12))) fun t36 H13 =>
  withV (A.pick t30 t36 (AV.bool false)) fun t37 =>
  withB (A.asG true t37) fun b13 => withP (guardB b13 true (
   some (a0, H13))
   (some (.tup [], H13))) fun t39 H14 =>
  withB (A.asG true t37) fun b14 => withP (guardB b14 true (
   cl base pol n 13 [t39] H14 fun t40 H15 =>
   some (t40, H15))
   (some (.tup [], H14))) fun t40 H16 =>
  withB (A.asG true t37) fun b15 => withP (guardB b15 true (
   some (a0, H16))
   (some (.tup [], H16))) fun t41 H17 =>
  withB (A.asG true t37) fun b16 => withP (guardB b16 true (
   cl base pol n 21 [t41] H17 fun t42 H18 =>
   some (t42, H18))
   (some (.tup [], H17))) fun t42 H19 =>
  withB (A.asG true t37) fun b17 => withP (guardB b17 true (
   withV (A.bin base.P .eql 4 t40 t42 false H19) fun t43 =>
   some (t43, H19))
   (some (.tup [], H19))) fun t43 H20 =>
  withV (A.pick t37 t43 (AV.bool false)) fun t44 =>
  withB (A.asG true t44) fun b20 => withP (guardB b20 true (
   some (a0, H20))
   (some (.tup [], H20))) fun t46 H21 =>
  withB (A.asG true t44) fun b21 => withP (guardB b21 true (
   cl base pol n 11 [t46] H21 fun t47 H22 =>
   some (t47, H22))
   (some (.tup [], H21))) fun t47 H23 =>
  withB (A.asG true t44) fun b22 => withP (guardB b22 true (
   some (a0, H23))
   (some (.tup [], H23))) fun t48 H24 =>
  withB (A.asG true t44) fun b23 => withP (guardB b23 true (
   cl base pol n 22 [t48] H24 fun t49 H25 =>
   some (t49, H25))
   (some (.tup [], H24))) fun t49 H26 =>
  withB (A.asG true t44) fun b24 => withP (guardB b24 true (
   withV (A.bin base.P .eql 9 t47 t49 false H26) fun t50 =>
   some (t50, H26))
   (some (.tup [], H26))) fun t50 H27 =>
  withV (A.pick t44 t50 (AV.bool false)) fun t51 =>
  withB (A.asG true t51) fun b27 => withP (guardB b27 true (
   some (t17, H27))
   (some (.tup [], H27))) fun t53 H28 =>
  withB (A.asG true t51) fun b28 => withP (guardB b28 true (
   some (t23, H28))
   (some (.tup [], H28))) fun t54 H29 =>
  withB (A.asG true t51) fun b29 => withP (guardB b29 true (
   withV (A.bin base.P .eql 9 t53 t54 false H29) fun t55 =>
   some (t55, H29))
   (some (.tup [], H29))) fun t55 H30 =>
  withV (A.pick t51 t55 (AV.bool false)) fun t56 =>
  withB (A.asG true t56) fun b32 => withP (guardB b32 true (
   some (t18, H30))
   (some (.tup [], H30))) fun t58 H31 =>
  withB (A.asG true t56) fun b33 => withP (guardB b33 true (
   some (t24, H31))
   (some (.tup [], H31))) fun t59 H32 =>
  withB (A.asG true t56) fun b34 => withP (guardB b34 true (
   withV (A.bin base.P .eql 3 t58 t59 false H32) fun t60 =>
   some (t60, H32))
   (some (.tup [], H32))) fun t60 H33 =>
  withV (A.pick t56 t60 (AV.bool false)) fun t61 =>
  withB (A.asG true t61) fun b37 => withP (guardB b37 true (
   some (t19, H33))
   (some (.tup [], H33))) fun t63 H34 =>
  withB (A.asG true t61) fun b38 => withP (guardB b38 true (
   some (t25, H34))
   (some (.tup [], H34))) fun t64 H35 =>
  withB (A.asG true t61) fun b39 => withP (guardB b39 true (
   withV (A.bin base.P .eql 3 t63 t64 false H35) fun t65 =>
   some (t65, H35))
   (some (.tup [], H35))) fun t65 H36 =>
  withV (A.pick t61 t65 (AV.bool false)) fun t66 =>
  withB (A.asG true t66) fun b42 => withP (guardB b42 true (
   some (a0, H36))
   (some (.tup [], H36))) fun t68 H37 =>
  withB (A.asG true t66) fun b43 => withP (guardB b43 true (
   cl base pol n 16 [t68] H37 fun t69 H38 =>
   some (t69, H38))
   (some (.tup [], H37))) fun t69 H39 =>
  withB (A.asG true t66) fun b44 => withP (guardB b44 true (
   some (a0, H39))
   (some (.tup [], H39))) fun t70 H40 =>
  withB (A.asG true t66) fun b45 => withP (guardB b45 true (
   cl base pol n 23 [t70] H40 fun t71 H41 =>
   some (t71, H41))
   (some (.tup [], H40))) fun t71 H42 =>
  withB (A.asG true t66) fun b46 => withP (guardB b46 true (
   withV (A.bin base.P .eql 9 t69 t71 false H42) fun t72 =>
   some (t72, H42))
   (some (.tup [], H42))) fun t72 H43 =>
  withV (A.pick t66 t72 (AV.bool false)) fun t73 =>
  k t73 H43))) := by kernel_rfl
end Go.Proofs.YtdkjednjlpcboaaDoor

/- What each function does, in Den's words. -/
set_option maxRecDepth 100000
namespace Go.Proofs.YtdkjednjlpcboaaDoor
open Go Go.Den
theorem q2x (pol : FuncId → Pol) (n m : Nat) (t0 t5 t6 : AV) (H : Heap) : qfb pol n (m + 1) ⟨[t0, t5, t6], []⟩ H =
  (withV (A.len t5 H) fun t27 =>
  withV (A.bin base.P .lss 3 t6 t27 false H) fun t28 =>
  withB (A.asG true t28) fun b5 => withP (guardB b5 true (
   some (t5, H))
   (some (.tup [], H))) fun t30 H2 =>
  withB (A.asG true t28) fun b6 => withP (guardB b6 true (
   some (t6, H2))
   (some (.tup [], H2))) fun t31 H3 =>
  withB (A.asG true t28) fun b7 => withP (guardB b7 true (
   withV (A.idx 1 t30 t31 H3) fun t32 =>
   some (t32, H3))
   (some (.tup [], H3))) fun t32 H4 =>
  withB (A.asG true t28) fun b8 => withP (guardB b8 true (
   withV (A.load false 1 t32 H4) fun t33 =>
   some (t33, H4))
   (some (.tup [], H4))) fun t33 H5 =>
  withB (A.asG true t28) fun b9 => withP (guardB b9 true (
   some (t6, H5))
   (some (.tup [], H5))) fun t34 H6 =>
  withB (A.asG true t28) fun b10 => withP (guardB b10 true (
   withV (A.bin base.P .eql 3 t34 (AV.int .i64 0) true H6) fun t35 =>
   some (t35, H6))
   (some (.tup [], H6))) fun t35 H7 =>
  withB (A.asG true t28) fun b11 => withP (guardB b11 true (
   cl base pol n 41 [t33, t35] H7 fun t36 H8 =>
   some (t36, H8))
   (some (.tup [], H7))) fun t36 H9 =>
  withV (A.pick t28 t36 (AV.bool false)) fun t37 =>
  A.test t37 (
  withV (A.bin base.P .geq 3 t6 (AV.int .i64 255) true H9) fun t39 =>
  A.test t39 (
  some (1, ⟨[t0, (AV.str []), (AV.int .i64 0), (AV.int .i64 3), t6], []⟩, H9))
  (
  withV (A.bin base.P .add 3 t6 (AV.int .i64 1) true H9) fun t41 =>
  qfb pol n m ⟨[t0, t5, t41], []⟩ H9))
  (
  some (0, ⟨[t0, .undef, .undef, .undef, t6], []⟩, H9))) := by kernel_rfl
theorem q2f (pol : FuncId → Pol) (n m : Nat) (t5 t7 t8 : AV) (H : Heap) : qea pol n (m + 1) ⟨[t5, t7, t8], []⟩ H =
  (withV (A.len t5 H) fun t50 =>
  withV (A.bin base.P .lss 3 t8 t50 false H) fun t51 =>
  withB (A.asG true t51) fun b5 => withP (guardB b5 true (
   some (t5, H))
   (some (.tup [], H))) fun t53 H2 =>
  withB (A.asG true t51) fun b6 => withP (guardB b6 true (
   some (t8, H2))
   (some (.tup [], H2))) fun t54 H3 =>
  withB (A.asG true t51) fun b7 => withP (guardB b7 true (
   withV (A.idx 1 t53 t54 H3) fun t55 =>
   some (t55, H3))
   (some (.tup [], H3))) fun t55 H4 =>
  withB (A.asG true t51) fun b8 => withP (guardB b8 true (
   withV (A.load false 1 t55 H4) fun t56 =>
   some (t56, H4))
   (some (.tup [], H4))) fun t56 H5 =>
  withB (A.asG true t51) fun b9 => withP (guardB b9 true (
   withV (A.bin base.P .neq 21 t56 (AV.int .i32 39) true H5) fun t57 =>
   some (t57, H5))
   (some (.tup [], H5))) fun t57 H6 =>
  withV (A.pick t51 t57 (AV.bool false)) fun t58 =>
  A.test t58 (
  withV (A.idx 1 t5 t8 H6) fun t61 =>
  withV (A.load false 1 t61 H6) fun t62 =>
  withV (A.bin base.P .add 3 t8 (AV.int .i64 1) true H6) fun t64 =>
  withV (A.bin base.P .eql 21 t62 (AV.int .i32 92) true H6) fun t66 =>
  bindX (A.test t66 (
   cl base pol n 42 [t5, t64] H6 fun t70 H7 =>
    q07 t70 0 fun t71 =>
    q07 t70 1 fun t72 =>
    q07 t70 2 fun t73 =>
    some (0, ⟨[t5, t7, t72, t71, t73], []⟩, H7))
   (
   withV (A.bin base.P .lss 21 t62 (AV.int .i32 32) true H6) fun t75 =>
    withB (A.asG false t75) fun b3 => withP (guardB b3 false (
     some (t62, H6))
     (some (.tup [], H6))) fun t77 H8 =>
    withB (A.asG false t75) fun b4 => withP (guardB b4 false (
     withV (A.bin base.P .eql 21 t77 (AV.int .i32 127) true H8) fun t78 =>
     some (t78, H8))
     (some (.tup [], H8))) fun t78 H9 =>
    withV (A.pick t75 (AV.bool true) t78) fun t79 =>
    bindX (A.test t79 (
     some (0, ⟨[t5, t7, t64, t62, (AV.int .i64 4)], []⟩, H9))
     (
     some (0, ⟨[t5, t7, t64, t62, (AV.int .i64 0)], []⟩, H9))) fun i10 l10 H10 =>
    altN i10 0 (
    bindV (l10.vs.getD 0 .undef) fun t5 => bindV (l10.vs.getD 1 .undef) fun t7 => bindV (l10.vs.getD 2 .undef) fun t8 => bindV (l10.vs.getD 3 .undef) fun t9 => bindV (l10.vs.getD 4 .undef) fun t10 => 
    some (0, ⟨[t5, t7, t8, t9, t10], []⟩, H10))
    (none))) fun i11 l11 H11 =>
  altN i11 0 (
  bindV (l11.vs.getD 0 .undef) fun t5 => bindV (l11.vs.getD 1 .undef) fun t7 => bindV (l11.vs.getD 2 .undef) fun t8 => bindV (l11.vs.getD 3 .undef) fun t9 => bindV (l11.vs.getD 4 .undef) fun t10 => 
  withV (A.bin base.P .eql 3 t10 (AV.int .i64 0) true H11) fun t81 =>
  withB (A.asG true t81) fun b3 => withP (guardB b3 true (
   some (t7, H11))
   (some (.tup [], H11))) fun t83 H12 =>
  withB (A.asG true t81) fun b4 => withP (guardB b4 true (
   withV (A.len t83 H12) fun t84 =>
   some (t84, H12))
   (some (.tup [], H12))) fun t84 H14 =>
  withB (A.asG true t81) fun b5 => withP (guardB b5 true (
   withV (A.bin base.P .geq 3 t84 (AV.int .i64 255) true H14) fun t85 =>
   some (t85, H14))
   (some (.tup [], H14))) fun t85 H15 =>
  withV (A.pick t81 t85 (AV.bool false)) fun t86 =>
  bindX (A.test t86 (
   some (0, ⟨[t5, t7, t8, t9, (AV.int .i64 3)], []⟩, H15))
   (
   some (0, ⟨[t5, t7, t8, t9, t10], []⟩, H15))) fun i16 l16 H16 =>
  altN i16 0 (
  bindV (l16.vs.getD 0 .undef) fun t5 => bindV (l16.vs.getD 1 .undef) fun t7 => bindV (l16.vs.getD 2 .undef) fun t8 => bindV (l16.vs.getD 3 .undef) fun t9 => bindV (l16.vs.getD 4 .undef) fun t10 => 
  withV (A.bin base.P .neq 3 t10 (AV.int .i64 0) true H16) fun t88 =>
  A.test t88 (
  some (1, ⟨[(AV.str []), (AV.int .i64 0), t10, t5, t7, t8], []⟩, H16))
  (
  withL (A.fillElems 1 (List.replicate 1 (AV.int .i32 0)) [(0, 1, t9)]) fun es =>
  bindV (.sl H16.length 0 0 es.length es.length) fun t92 => bindH (H16 ++ [.row 0 1 21 es]) fun H17 =>
  withL (newsZ base 1 4 (AV.int .i32 0) 54 t92 H17) fun es =>
  withVH (A.append 1 4 21 t7 es H17) fun t93 H18 =>
  qea pol n m ⟨[t5, t93, t8], []⟩ H18))
  (none))
  (none))
  (
  some (0, ⟨[.undef, .undef, .undef, t5, t7, t8], []⟩, H6))) := by kernel_rfl
theorem S20 (pol : FuncId → Pol) (n : Nat) (R : Type) (k : AV → Heap → Option R) (a0 : AV) (H : Heap) : callF (base.with pol) (n + 1) R 20 [a0] H k =
  (cl base pol n 10 [a0] H fun t12 H1 =>
  withV (A.un .not t12) fun t13 =>
  A.test t13 (
  k (.tup [(AV.str []), (AV.int .i64 0), (AV.int .i64 4)]) H1)
  (
  q09 base 9 54 a0 H1 fun t15 H2 =>
  withV (A.len t15 H2) fun t17 =>
  withV (A.bin base.P .eql 3 t17 (AV.int .i64 0) true H2) fun t18 =>
  withB (A.asG false t18) fun b4 => withP (guardB b4 false (
   some (t15, H2))
   (some (.tup [], H2))) fun t20 H4 =>
  withB (A.asG false t18) fun b5 => withP (guardB b5 false (
   withV (A.idx 1 t20 (AV.int .i64 0) H4) fun t21 =>
   some (t21, H4))
   (some (.tup [], H4))) fun t21 H5 =>
  withB (A.asG false t18) fun b6 => withP (guardB b6 false (
   withV (A.load false 1 t21 H5) fun t22 =>
   some (t22, H5))
   (some (.tup [], H5))) fun t22 H6 =>
  withB (A.asG false t18) fun b7 => withP (guardB b7 false (
   withV (A.bin base.P .neq 21 t22 (AV.int .i32 39) true H6) fun t23 =>
   some (t23, H6))
   (some (.tup [], H6))) fun t23 H7 =>
  withV (A.pick t18 (AV.bool true) t23) fun t24 =>
  A.test t24 (
  bindX (qfb pol n n ⟨[a0, t15, (AV.int .i64 0)], []⟩ H7) fun i8 l8 H8 =>
   altN i8 0 (
   bindV (l8.vs.getD 0 .undef) fun t0 => bindV (l8.vs.getD 1 .undef) fun t2 => bindV (l8.vs.getD 2 .undef) fun t3 => bindV (l8.vs.getD 3 .undef) fun t4 => bindV (l8.vs.getD 4 .undef) fun t6 => 
   withV (A.bin base.P .eql 3 t6 (AV.int .i64 0) true H8) fun t43 =>
   A.test t43 (
   k (.tup [(AV.str []), (AV.int .i64 0), (AV.int .i64 4)]) H8)
   (
   withV (A.sliceStr t0 none (some t6)) fun t46 =>
   k (.tup [t46, t6, (AV.int .i64 0)]) H8))
   (altN i8 1 (
   bindV (l8.vs.getD 0 .undef) fun t0 => bindV (l8.vs.getD 1 .undef) fun t2 => bindV (l8.vs.getD 2 .undef) fun t3 => bindV (l8.vs.getD 3 .undef) fun t4 => bindV (l8.vs.getD 4 .undef) fun t6 => 
   k (.tup [t2, t3, t4]) H8)
   (none)))
  (
  bindX (qea pol n n ⟨[t15, AV.nils, (AV.int .i64 1)], []⟩ H7) fun i9 l9 H9 =>
  altN i9 0 (
  bindV (l9.vs.getD 0 .undef) fun t2 => bindV (l9.vs.getD 1 .undef) fun t3 => bindV (l9.vs.getD 2 .undef) fun t4 => bindV (l9.vs.getD 3 .undef) fun t5 => bindV (l9.vs.getD 4 .undef) fun t7 => bindV (l9.vs.getD 5 .undef) fun t8 => 
  withV (A.len t5 H9) fun t96 =>
  withV (A.bin base.P .geq 3 t8 t96 false H9) fun t97 =>
  A.test t97 (
  k (.tup [(AV.str []), (AV.int .i64 0), (AV.int .i64 2)]) H9)
  (
  q09 base 54 9 t7 H9 fun t99 H11 =>
  withV (A.bin base.P .add 3 t8 (AV.int .i64 1) true H11) fun t102 =>
  withV (A.slice 1 t5 none (some t102) none H11) fun t103 =>
  q09 base 54 9 t103 H11 fun t104 H12 =>
  withV (A.lenStr t104) fun t105 =>
  k (.tup [t99, t105, (AV.int .i64 0)]) H12))
  (altN i9 1 (
  bindV (l9.vs.getD 0 .undef) fun t2 => bindV (l9.vs.getD 1 .undef) fun t3 => bindV (l9.vs.getD 2 .undef) fun t4 => bindV (l9.vs.getD 3 .undef) fun t5 => bindV (l9.vs.getD 4 .undef) fun t7 => bindV (l9.vs.getD 5 .undef) fun t8 => 
  k (.tup [t2, t3, t4]) H9)
  (none))))) := by kernel_rfl
end Go.Proofs.YtdkjednjlpcboaaDoor

/- What each function does, in Den's words. -/
set_option maxRecDepth 100000
namespace Go.Proofs.YtdkjednjlpcboaaDoor
open Go Go.Den
theorem S10 (pol : FuncId → Pol) (n : Nat) (R : Type) (k : AV → Heap → Option R) (a0 : AV) (H : Heap) : callF (base.with pol) (n + 1) R 10 [a0] H k =
  (cl base pol n 24 [a0] H fun t4 H1 =>
  k t4 H1) := by kernel_rfl
theorem q1r (pol : FuncId → Pol) (n m : Nat) (t3 t14 : AV) (H : Heap) : qfa pol n (m + 1) ⟨[t3, t14], []⟩ H =
  (nextK t14 H fun t15 H1 =>
  q07 t15 0 fun t16 =>
  A.test t16 (
  q07 t15 2 fun t17 =>
  withV (A.bin base.P .eql 21 t17 (AV.int .i32 39) true H1) fun t22 =>
  withB (A.asG false t22) fun b3 => withP (guardB b3 false (
   some (t17, H1))
   (some (.tup [], H1))) fun t24 H2 =>
  withB (A.asG false t22) fun b4 => withP (guardB b4 false (
   withV (A.bin base.P .eql 21 t24 (AV.int .i32 92) true H2) fun t25 =>
   some (t25, H2))
   (some (.tup [], H2))) fun t25 H3 =>
  withV (A.pick t22 (AV.bool true) t25) fun t26 =>
  bindX (A.test t26 (
   cl base pol n 25 [t3, (AV.int .u8 92)] H3 fun t27 H4 =>
    cl base pol n 26 [t3, t17] H4 fun t29 H5 =>
    some (0, ⟨[t3, t14], []⟩, H5))
   (
   withV (A.bin base.P .eql 21 t17 (AV.int .i32 10) true H3) fun t32 =>
    bindX (A.test t32 (
     cl base pol n 27 [t3, (AV.str [92, 110])] H3 fun t33 H6 =>
      some (0, ⟨[t3, t14], []⟩, H6))
     (
     cl base pol n 28 [t17] H3 fun t36 H7 =>
      bindX (A.test t36 (
       withV (Go.Den.convert base 21 2 t17) fun t38 =>
        cl base pol n 29 [t38, (AV.int .i64 16)] H7 fun t39 H8 =>
        withV (A.bin base.P .add 9 (AV.str [92, 120]) t39 false H8) fun t40 =>
        withV (A.bin base.P .add 9 t40 (AV.str [59]) true H8) fun t41 =>
        cl base pol n 27 [t3, t41] H8 fun t42 H9 =>
        some (0, ⟨[t3, t14], []⟩, H9))
       (
       cl base pol n 26 [t3, t17] H7 fun t19 H10 =>
        some (0, ⟨[t3, t14], []⟩, H10))) fun i11 l11 H11 =>
      altN i11 0 (
      bindV (l11.vs.getD 0 .undef) fun t3 => bindV (l11.vs.getD 1 .undef) fun t14 => 
      some (0, ⟨[t3, t14], []⟩, H11))
      (none))) fun i12 l12 H12 =>
    altN i12 0 (
    bindV (l12.vs.getD 0 .undef) fun t3 => bindV (l12.vs.getD 1 .undef) fun t14 => 
    some (0, ⟨[t3, t14], []⟩, H12))
    (none))) fun i13 l13 H13 =>
  altN i13 0 (
  bindV (l13.vs.getD 0 .undef) fun t3 => bindV (l13.vs.getD 1 .undef) fun t14 => 
  qfa pol n m ⟨[t3, t14], []⟩ H13)
  (none))
  (
  some (0, ⟨[t3], []⟩, H1))) := by kernel_rfl
theorem S11 (pol : FuncId → Pol) (n : Nat) (R : Type) (k : AV → Heap → Option R) (a0 : AV) (H : Heap) : callF (base.with pol) (n + 1) R 11 [a0] H k =
  (cl base pol n 12 [a0] H fun t7 H1 =>
  withV (A.un .not t7) fun t8 =>
  A.test t8 (
  k (AV.str []) H1)
  (
  cl base pol n 13 [a0] H1 fun t10 H2 =>
  A.test t10 (
  k a0 H2)
  (
  bindV (.ptr H2.length 0 0 0) fun t3 => bindH (H2 ++ [.row 0 2 37 [(AV.agg [AV.nilp, AV.nils])]]) fun H3 =>
  cl base pol n 25 [t3, (AV.int .u8 39)] H3 fun t12 H4 =>
  rangeK a0 H4 fun t14 H5 =>
  bindX (qfa pol n n ⟨[t3, t14], []⟩ H5) fun i6 l6 H6 =>
  altN i6 0 (
  bindV (l6.vs.getD 0 .undef) fun t3 => 
  cl base pol n 25 [t3, (AV.int .u8 39)] H6 fun t43 H7 =>
  cl base pol n 30 [t3] H7 fun t44 H8 =>
  k t44 H8)
  (none)))) := by kernel_rfl
theorem S12 (pol : FuncId → Pol) (n : Nat) (R : Type) (k : AV → Heap → Option R) (a0 : AV) (H : Heap) : callF (base.with pol) (n + 1) R 12 [a0] H k =
  (cl base pol n 24 [a0] H fun t4 H1 =>
  k t4 H1) := by kernel_rfl
theorem S13 (pol : FuncId → Pol) (n : Nat) (R : Type) (k : AV → Heap → Option R) (a0 : AV) (H : Heap) : callF (base.with pol) (n + 1) R 13 [a0] H k =
  (cl base pol n 31 [a0] H fun t7 H1 =>
  q07 t7 0 fun t8 =>
  q07 t7 1 fun t9 =>
  withV (A.lenStr a0) fun t12 =>
  withV (A.bin base.P .eql 3 t8 t12 false H1) fun t13 =>
  withB (A.asG true t13) fun b5 => withP (guardB b5 true (
   some (t8, H1))
   (some (.tup [], H1))) fun t15 H3 =>
  withB (A.asG true t13) fun b6 => withP (guardB b6 true (
   withV (A.bin base.P .gtr 3 t15 (AV.int .i64 0) true H3) fun t16 =>
   some (t16, H3))
   (some (.tup [], H3))) fun t16 H4 =>
  withV (A.pick t13 t16 (AV.bool false)) fun t17 =>
  k t17 H4) := by kernel_rfl
theorem q5m (pol : FuncId → Pol) (n m : Nat) (t3 t6 t7 : AV) (H : Heap) : qhn pol n (m + 1) ⟨[t3, t6, t7], []⟩ H =
  (withV (A.bin base.P .lss 3 t6 t7 false H) fun t28 =>
  A.test t28 (
  withV (A.idx 1 t3 t7 H) fun t39 =>
  withV (A.load false 1 t39 H) fun t40 =>
  withV (A.idx 1 t3 t6 H) fun t43 =>
  withV (A.load false 1 t43 H) fun t44 =>
  withV (A.idx 1 t3 t6 H) fun t45 =>
  withH (A.store 1 t45 t40 H) fun H1 =>
  withV (A.idx 1 t3 t7 H1) fun t46 =>
  withH (A.store 1 t46 t44 H1) fun H2 =>
  withV (A.bin base.P .add 3 t6 (AV.int .i64 1) true H2) fun t30 =>
  withV (A.bin base.P .sub 3 t7 (AV.int .i64 1) true H2) fun t32 =>
  qhn pol n m ⟨[t3, t30, t32], []⟩ H2)
  (
  some (0, ⟨[t3], []⟩, H))) := by kernel_rfl
theorem q5l (pol : FuncId → Pol) (n m : Nat) (t3 t15 : AV) (H : Heap) : qhm pol n (m + 1) ⟨[t3, t15], []⟩ H =
  (nextK t15 H fun t16 H1 =>
  q07 t16 0 fun t17 =>
  A.test t17 (
  q07 t16 2 fun t18 =>
  withL (A.fillElems 1 (List.replicate 1 (AV.int .i32 0)) [(0, 1, t18)]) fun es =>
  bindV (.sl H1.length 0 0 es.length es.length) fun t21 => bindH (H1 ++ [.row 0 1 21 es]) fun H2 =>
  withL (newsZ base 1 4 (AV.int .i32 0) 54 t21 H2) fun es =>
  withVH (A.append 1 4 21 t3 es H2) fun t22 H3 =>
  qhm pol n m ⟨[t22, t15], []⟩ H3)
  (
  some (0, ⟨[t3], []⟩, H1))) := by kernel_rfl
theorem S16 (pol : FuncId → Pol) (n : Nat) (R : Type) (k : AV → Heap → Option R) (a0 : AV) (H : Heap) : callF (base.with pol) (n + 1) R 16 [a0] H k =
  (cl base pol n 12 [a0] H fun t9 H1 =>
  withV (A.un .not t9) fun t10 =>
  A.test t10 (
  k (AV.str []) H1)
  (
  withV (A.lenStr a0) fun t12 =>
  withVH (A.makeSlice 1 4 21 (AV.int .i32 0) (AV.int .i64 0) t12 H1) fun t13 H3 =>
  rangeK a0 H3 fun t15 H4 =>
  bindX (qhm pol n n ⟨[t13, t15], []⟩ H4) fun i5 l5 H5 =>
  altN i5 0 (
  bindV (l5.vs.getD 0 .undef) fun t3 => 
  withV (A.len t3 H5) fun t24 =>
  withV (A.bin base.P .sub 3 t24 (AV.int .i64 1) true H5) fun t25 =>
  bindX (qhn pol n n ⟨[t3, (AV.int .i64 0), t25], []⟩ H5) fun i7 l7 H7 =>
  altN i7 0 (
  bindV (l7.vs.getD 0 .undef) fun t3 => 
  q09 base 54 9 t3 H7 fun t48 H8 =>
  k t48 H8)
  (none))
  (none))) := by kernel_rfl
theorem S17 (pol : FuncId → Pol) (n : Nat) (R : Type) (k : AV → Heap → Option R) (a0 : AV) (H : Heap) : callF (base.with pol) (n + 1) R 17 [a0] H k =
  (cl base pol n 12 [a0] H fun t4 H1 =>
  withV (A.un .not t4) fun t5 =>
  A.test t5 (
  k (AV.int .i64 (-1)) H1)
  (
  cl base pol n 38 [a0] H1 fun t7 H2 =>
  k t7 H2)) := by kernel_rfl
theorem q5n (pol : FuncId → Pol) (n m : Nat) (t3 t8 : AV) (H : Heap) : qho pol n (m + 1) ⟨[t3, t8], []⟩ H =
  (nextK t8 H fun t9 H1 =>
  q07 t9 0 fun t10 =>
  A.test t10 (
  withV (A.bin base.P .add 3 t3 (AV.int .i64 1) true H1) fun t12 =>
  qho pol n m ⟨[t12, t8], []⟩ H1)
  (
  some (0, ⟨[t3], []⟩, H1))) := by kernel_rfl
theorem S18 (pol : FuncId → Pol) (n : Nat) (R : Type) (k : AV → Heap → Option R) (a0 : AV) (H : Heap) : callF (base.with pol) (n + 1) R 18 [a0] H k =
  (cl base pol n 10 [a0] H fun t5 H1 =>
  withV (A.un .not t5) fun t6 =>
  A.test t6 (
  k (AV.int .i64 (-1)) H1)
  (
  rangeK a0 H1 fun t8 H2 =>
  bindX (qho pol n n ⟨[(AV.int .i64 0), t8], []⟩ H2) fun i3 l3 H3 =>
  altN i3 0 (
  bindV (l3.vs.getD 0 .undef) fun t3 => 
  k t3 H3)
  (none))) := by kernel_rfl
theorem S19 (pol : FuncId → Pol) (n : Nat) (R : Type) (k : AV → Heap → Option R) (a0 : AV) (H : Heap) : callF (base.with pol) (n + 1) R 19 [a0] H k =
  (cl base pol n 12 [a0] H fun t11 H1 =>
  withV (A.un .not t11) fun t12 =>
  A.test t12 (
  k (.tup [(AV.str []), (AV.int .i64 0), (AV.int .i64 4)]) H1)
  (
  cl base pol n 39 [a0, (AV.str [39])] H1 fun t14 H2 =>
  A.test t14 (
  withV ((A.fill [(AV.str []), (AV.int .i64 0)] [(0, 1, a0), (1, 1, (AV.int .i64 1))]).map .agg) fun t16 =>
   chkD ((t16).cells.length == 2 && (t16).isDef && decide (0 < 2)) (bindV (.ptr H2.length 0 0 0) fun t17 => bindH (H2 ++ [.row 0 2 58 [t16]]) fun H3 =>
   cl base pol n 40 [t17] H3 fun t20 H4 =>
   q07 t20 0 fun t21 =>
   q07 t20 1 fun t22 =>
   withV (A.bin base.P .neq 29 t22 (AV.int .i64 0) true H4) fun t24 =>
   A.test t24 (
   k (.tup [(AV.str []), (AV.int .i64 0), t22]) H4)
   (
   withV (nilC base.P t17 H4) fun t28 =>
   withV (A.fa 1 t28 H4) fun t29 =>
   withV (A.load false 1 t29 H4) fun t30 =>
   k (.tup [t21, t30, (AV.int .i64 0)]) H4)))
  (
  cl base pol n 31 [a0] H2 fun t33 H5 =>
  q07 t33 0 fun t34 =>
  q07 t33 1 fun t35 =>
  withV (A.bin base.P .eql 3 t34 (AV.int .i64 0) true H5) fun t38 =>
  A.test t38 (
  k (.tup [(AV.str []), (AV.int .i64 0), (AV.int .i64 4)]) H5)
  (
  withV (A.bin base.P .gtr 3 t35 (AV.int .i64 255) true H5) fun t41 =>
   A.test t41 (
   k (.tup [(AV.str []), (AV.int .i64 0), (AV.int .i64 3)]) H5)
   (
   withV (A.sliceStr a0 none (some t34)) fun t44 =>
  k (.tup [t44, t34, (AV.int .i64 0)]) H5))))) := by kernel_rfl
theorem q3z (pol : FuncId → Pol) (n m : Nat) (t0 t6 : AV) (H : Heap) : qhp pol n (m + 1) ⟨[t0, t6], []⟩ H =
  (nextK t6 H fun t7 H1 =>
  q07 t7 0 fun t8 =>
  A.test t8 (
  q07 t7 1 fun t9 =>
  q07 t7 2 fun t10 =>
  withV (A.bin base.P .eql 3 t9 (AV.int .i64 0) true H1) fun t13 =>
  cl base pol n 41 [t10, t13] H1 fun t14 H2 =>
  withV (A.un .not t14) fun t15 =>
  A.test t15 (
  some (1, ⟨[t0, (AV.bool false)], []⟩, H2))
  (
  qhp pol n m ⟨[t0, t6], []⟩ H2))
  (
  some (0, ⟨[t0, .undef], []⟩, H1))) := by kernel_rfl
theorem S21 (pol : FuncId → Pol) (n : Nat) (R : Type) (k : AV → Heap → Option R) (a0 : AV) (H : Heap) : callF (base.with pol) (n + 1) R 21 [a0] H k =
  (rangeK a0 H fun t6 H1 =>
  bindX (qhp pol n n ⟨[a0, t6], []⟩ H1) fun i2 l2 H2 =>
  altN i2 0 (
  bindV (l2.vs.getD 0 .undef) fun t0 => bindV (l2.vs.getD 1 .undef) fun t2 => 
  withV (A.bin base.P .neq 9 t0 (AV.str []) true H2) fun t17 =>
  k t17 H2)
  (altN i2 1 (
  bindV (l2.vs.getD 0 .undef) fun t0 => bindV (l2.vs.getD 1 .undef) fun t2 => 
  k t2 H2)
  (none))) := by kernel_rfl
theorem q1e (pol : FuncId → Pol) (n m : Nat) (t3 t13 : AV) (H : Heap) : qfc pol n (m + 1) ⟨[t3, t13], []⟩ H =
  (nextK t13 H fun t14 H1 =>
  q07 t14 0 fun t15 =>
  A.test t15 (
  q07 t14 2 fun t16 =>
  withV (A.bin base.P .eql 21 t16 (AV.int .i32 39) true H1) fun t24 =>
  withB (A.asG false t24) fun b3 => withP (guardB b3 false (
   some (t16, H1))
   (some (.tup [], H1))) fun t26 H2 =>
  withB (A.asG false t24) fun b4 => withP (guardB b4 false (
   withV (A.bin base.P .eql 21 t26 (AV.int .i32 92) true H2) fun t27 =>
   some (t27, H2))
   (some (.tup [], H2))) fun t27 H3 =>
  withV (A.pick t24 (AV.bool true) t27) fun t28 =>
  bindX (A.test t28 (
   withV (A.bin base.P .add 9 t3 (AV.str [92]) true H3) fun t30 =>
    withL (A.fillElems 1 (List.replicate 1 (AV.int .i32 0)) [(0, 1, t16)]) fun es =>
    bindV (.sl H3.length 0 0 es.length es.length) fun t32 => bindH (H3 ++ [.row 0 1 21 es]) fun H4 =>
    q09 base 54 9 t32 H4 fun t33 H5 =>
    withV (A.bin base.P .add 9 t30 t33 false H5) fun t34 =>
    some (0, ⟨[t34, t13], []⟩, H5))
   (
   withV (A.bin base.P .eql 21 t16 (AV.int .i32 10) true H3) fun t37 =>
    bindX (A.test t37 (
     withV (A.bin base.P .add 9 t3 (AV.str [92, 110]) true H3) fun t39 =>
      some (0, ⟨[t39, t13], []⟩, H3))
     (
     withV (A.bin base.P .lss 21 t16 (AV.int .i32 32) true H3) fun t42 =>
      withB (A.asG false t42) fun b3 => withP (guardB b3 false (
       some (t16, H3))
       (some (.tup [], H3))) fun t44 H6 =>
      withB (A.asG false t42) fun b4 => withP (guardB b4 false (
       withV (A.bin base.P .eql 21 t44 (AV.int .i32 127) true H6) fun t45 =>
       some (t45, H6))
       (some (.tup [], H6))) fun t45 H7 =>
      withV (A.pick t42 (AV.bool true) t45) fun t46 =>
      bindX (A.test t46 (
       withV (A.bin base.P .add 9 t3 (AV.str [92, 120]) true H7) fun t48 =>
        withV (Go.Den.convert base 21 65 t16) fun t50 =>
        cl base pol n 43 [t50, (AV.int .u64 16)] H7 fun t51 H8 =>
        withV (A.bin base.P .add 9 t48 t51 false H8) fun t52 =>
        withV (A.bin base.P .add 9 t52 (AV.str [59]) true H8) fun t53 =>
        some (0, ⟨[t53, t13], []⟩, H8))
       (
       withL (A.fillElems 1 (List.replicate 1 (AV.int .i32 0)) [(0, 1, t16)]) fun es =>
        bindV (.sl H7.length 0 0 es.length es.length) fun t19 => bindH (H7 ++ [.row 0 1 21 es]) fun H9 =>
        q09 base 54 9 t19 H9 fun t20 H10 =>
        withV (A.bin base.P .add 9 t3 t20 false H10) fun t21 =>
        some (0, ⟨[t21, t13], []⟩, H10))) fun i11 l11 H11 =>
      altN i11 0 (
      bindV (l11.vs.getD 0 .undef) fun t3 => bindV (l11.vs.getD 1 .undef) fun t13 => 
      some (0, ⟨[t3, t13], []⟩, H11))
      (none))) fun i12 l12 H12 =>
    altN i12 0 (
    bindV (l12.vs.getD 0 .undef) fun t3 => bindV (l12.vs.getD 1 .undef) fun t13 => 
    some (0, ⟨[t3, t13], []⟩, H12))
    (none))) fun i13 l13 H13 =>
  altN i13 0 (
  bindV (l13.vs.getD 0 .undef) fun t3 => bindV (l13.vs.getD 1 .undef) fun t13 => 
  qfc pol n m ⟨[t3, t13], []⟩ H13)
  (none))
  (
  some (0, ⟨[t3], []⟩, H1))) := by kernel_rfl
theorem S22 (pol : FuncId → Pol) (n : Nat) (R : Type) (k : AV → Heap → Option R) (a0 : AV) (H : Heap) : callF (base.with pol) (n + 1) R 22 [a0] H k =
  (cl base pol n 10 [a0] H fun t7 H1 =>
  withV (A.un .not t7) fun t8 =>
  A.test t8 (
  k (AV.str []) H1)
  (
  cl base pol n 21 [a0] H1 fun t10 H2 =>
  A.test t10 (
  k a0 H2)
  (
  rangeK a0 H2 fun t13 H3 =>
  bindX (qfc pol n n ⟨[(AV.str [39]), t13], []⟩ H3) fun i4 l4 H4 =>
  altN i4 0 (
  bindV (l4.vs.getD 0 .undef) fun t3 => 
  withV (A.bin base.P .add 9 t3 (AV.str [39]) true H4) fun t55 =>
  k t55 H4)
  (none)))) := by kernel_rfl
end Go.Proofs.YtdkjednjlpcboaaDoor

/- What each function does, in Den's words. -/
set_option maxRecDepth 100000
namespace Go.Proofs.YtdkjednjlpcboaaDoor
open Go Go.Den
theorem q8b (pol : FuncId → Pol) (n m : Nat) (t3 t4 t5 : AV) (H : Heap) : qhq pol n (m + 1) ⟨[t3, t4, t5], []⟩ H =
  (withV (A.bin base.P .geq 3 t5 (AV.int .i64 0) true H) fun t15 =>
  A.test t15 (
  withV (A.idx 1 t4 t5 H) fun t21 =>
  withV (A.load false 1 t21 H) fun t22 =>
  withL (A.fillElems 1 (List.replicate 1 (AV.int .i32 0)) [(0, 1, t22)]) fun es =>
  bindV (.sl H.length 0 0 es.length es.length) fun t23 => bindH (H ++ [.row 0 1 21 es]) fun H1 =>
  withL (newsZ base 1 4 (AV.int .i32 0) 54 t23 H1) fun es =>
  withVH (A.append 1 4 21 t3 es H1) fun t24 H2 =>
  withV (A.bin base.P .sub 3 t5 (AV.int .i64 1) true H2) fun t17 =>
  qhq pol n m ⟨[t24, t4, t17], []⟩ H2)
  (
  some (0, ⟨[t3], []⟩, H))) := by kernel_rfl
theorem S23 (pol : FuncId → Pol) (n : Nat) (R : Type) (k : AV → Heap → Option R) (a0 : AV) (H : Heap) : callF (base.with pol) (n + 1) R 23 [a0] H k =
  (cl base pol n 10 [a0] H fun t7 H1 =>
  withV (A.un .not t7) fun t8 =>
  A.test t8 (
  k (AV.str []) H1)
  (
  q09 base 9 54 a0 H1 fun t10 H2 =>
  withV (A.len t10 H2) fun t12 =>
  withV (A.bin base.P .sub 3 t12 (AV.int .i64 1) true H2) fun t13 =>
  bindX (qhq pol n n ⟨[AV.nils, t10, t13], []⟩ H2) fun i4 l4 H4 =>
  altN i4 0 (
  bindV (l4.vs.getD 0 .undef) fun t3 => 
  q09 base 54 9 t3 H4 fun t26 H5 =>
  k t26 H5)
  (none))) := by kernel_rfl
theorem q5o (pol : FuncId → Pol) (n m : Nat) (t0 : AV) (H : Heap) : qhs pol n (m + 1) ⟨[t0], []⟩ H =
  (withV (A.lenStr t0) fun t43 =>
  withV (A.bin base.P .gtr 3 t43 (AV.int .i64 32) true H) fun t44 =>
  withB (A.asG true t44) fun b4 => withP (guardB b4 true (
   some (t0, H))
   (some (.tup [], H))) fun t46 H2 =>
  withB (A.asG true t44) fun b5 => withP (guardB b5 true (
   cl base pol n 44 [t46] H2 fun t47 H3 =>
   some (t47, H3))
   (some (.tup [], H2))) fun t47 H4 =>
  withB (A.asG true t44) fun b6 => withP (guardB b6 true (
   some (t0, H4))
   (some (.tup [], H4))) fun t48 H5 =>
  withB (A.asG true t44) fun b7 => withP (guardB b7 true (
   withV (A.sliceStr t48 (some (AV.int .i64 8)) none) fun t49 =>
   some (t49, H5))
   (some (.tup [], H5))) fun t49 H6 =>
  withB (A.asG true t44) fun b8 => withP (guardB b8 true (
   cl base pol n 44 [t49] H6 fun t50 H7 =>
   some (t50, H7))
   (some (.tup [], H6))) fun t50 H8 =>
  withB (A.asG true t44) fun b9 => withP (guardB b9 true (
   withV (A.bin base.P .or 12 t47 t50 false H8) fun t51 =>
   some (t51, H8))
   (some (.tup [], H8))) fun t51 H9 =>
  withB (A.asG true t44) fun b10 => withP (guardB b10 true (
   some (t0, H9))
   (some (.tup [], H9))) fun t52 H10 =>
  withB (A.asG true t44) fun b11 => withP (guardB b11 true (
   withV (A.sliceStr t52 (some (AV.int .i64 16)) none) fun t53 =>
   some (t53, H10))
   (some (.tup [], H10))) fun t53 H11 =>
  withB (A.asG true t44) fun b12 => withP (guardB b12 true (
   cl base pol n 44 [t53] H11 fun t54 H12 =>
   some (t54, H12))
   (some (.tup [], H11))) fun t54 H13 =>
  withB (A.asG true t44) fun b13 => withP (guardB b13 true (
   some (t0, H13))
   (some (.tup [], H13))) fun t55 H14 =>
  withB (A.asG true t44) fun b14 => withP (guardB b14 true (
   withV (A.sliceStr t55 (some (AV.int .i64 24)) none) fun t56 =>
   some (t56, H14))
   (some (.tup [], H14))) fun t56 H15 =>
  withB (A.asG true t44) fun b15 => withP (guardB b15 true (
   cl base pol n 44 [t56] H15 fun t57 H16 =>
   some (t57, H16))
   (some (.tup [], H15))) fun t57 H17 =>
  withB (A.asG true t44) fun b16 => withP (guardB b16 true (
   withV (A.bin base.P .or 12 t54 t57 false H17) fun t58 =>
   some (t58, H17))
   (some (.tup [], H17))) fun t58 H18 =>
  withB (A.asG true t44) fun b17 => withP (guardB b17 true (
   withV (A.bin base.P .or 12 t51 t58 false H18) fun t59 =>
   some (t59, H18))
   (some (.tup [], H18))) fun t59 H19 =>
  withB (A.asG true t44) fun b18 => withP (guardB b18 true (
   withV (A.bin base.P .and 12 t59 (AV.int .u64 9259542123273814144) true H19) fun t60 =>
   some (t60, H19))
   (some (.tup [], H19))) fun t60 H20 =>
  withB (A.asG true t44) fun b19 => withP (guardB b19 true (
   withV (A.bin base.P .eql 12 t60 (AV.int .u64 0) true H20) fun t61 =>
   some (t61, H20))
   (some (.tup [], H20))) fun t61 H21 =>
  withV (A.pick t44 t61 (AV.bool false)) fun t62 =>
  chkD ((bif ((t48.heapy || (false || false)) && actsB (A.asG true t44) true) then (sameV (withV (A.sliceStr t48 (some (AV.int .i64 8)) none) fun t49 =>    some (.val t49)) t49 && (sameV (withV (A.sliceStr t48 (some (AV.int .i64 8)) none) fun t49 =>    some (.val t49)) t49 && true)) else true) && ((bif ((t47.heapy || (t50.heapy || false)) && actsB (A.asG true t44) true) then (sameV (withV (A.bin base.P .or 12 t47 t50 false H8) fun t51 =>    some (.val t51)) t51 && (sameV (withV (A.bin base.P .or 12 t47 t50 false H13) fun t51 =>    some (.val t51)) t51 && (sameV (withV (A.bin base.P .or 12 t47 t50 false H17) fun t51 =>    some (.val t51)) t51 && true))) else true) && ((bif ((t52.heapy || (false || false)) && actsB (A.asG true t44) true) then (sameV (withV (A.sliceStr t52 (some (AV.int .i64 16)) none) fun t53 =>    some (.val t53)) t53 && (sameV (withV (A.sliceStr t52 (some (AV.int .i64 16)) none) fun t53 =>    some (.val t53)) t53 && (sameV (withV (A.sliceStr t52 (some (AV.int .i64 16)) none) fun t53 =>    some (.val t53)) t53 && true))) else true) && ((bif ((t55.heapy || (false || false)) && actsB (A.asG true t44) true) then (sameV (withV (A.sliceStr t55 (some (AV.int .i64 24)) none) fun t56 =>    some (.val t56)) t56 && (sameV (withV (A.sliceStr t55 (some (AV.int .i64 24)) none) fun t56 =>    some (.val t56)) t56 && (sameV (withV (A.sliceStr t55 (some (AV.int .i64 24)) none) fun t56 =>    some (.val t56)) t56 && (sameV (withV (A.sliceStr t55 (some (AV.int .i64 24)) none) fun t56 =>    some (.val t56)) t56 && true)))) else true) && true)))) (
  A.test t62 (
  withV (A.sliceStr t0 (some (AV.int .i64 32)) none) fun t64 =>
  qhs pol n m ⟨[t64], []⟩ H21)
  (
  some (0, ⟨[t0], []⟩, H21)))) := by kernel_rfl
theorem q0e (pol : FuncId → Pol) (n m : Nat) (t0 : AV) (H : Heap) : qhr pol n (m + 1) ⟨[t0], []⟩ H =
  (withV (A.lenStr t0) fun t8 =>
  withV (A.bin base.P .gtr 3 t8 (AV.int .i64 0) true H) fun t9 =>
  A.test t9 (
  bindX (withV (A.index t0 (AV.int .i64 0)) fun t11 =>
   withV (A.bin base.P .lss 5 t11 (AV.int .u8 128) true H) fun t13 =>
   A.test t13 (
   withV (A.sliceStr t0 (some (AV.int .i64 1)) none) fun t15 =>
    withV (A.lenStr t15) fun t17 =>
    withV (A.bin base.P .gtr 3 t17 (AV.int .i64 8) true H) fun t18 =>
    withB (A.asG true t18) fun b4 => withP (guardB b4 true (
     some (t15, H))
     (some (.tup [], H))) fun t20 H3 =>
    withB (A.asG true t18) fun b5 => withP (guardB b5 true (
     cl base pol n 44 [t20] H3 fun t21 H4 =>
     some (t21, H4))
     (some (.tup [], H3))) fun t21 H5 =>
    withB (A.asG true t18) fun b6 => withP (guardB b6 true (
     withV (A.bin base.P .and 12 t21 (AV.int .u64 9259542123273814144) true H5) fun t22 =>
     some (t22, H5))
     (some (.tup [], H5))) fun t22 H6 =>
    withB (A.asG true t18) fun b7 => withP (guardB b7 true (
     withV (A.bin base.P .eql 12 t22 (AV.int .u64 0) true H6) fun t23 =>
     some (t23, H6))
     (some (.tup [], H6))) fun t23 H7 =>
    withV (A.pick t18 t23 (AV.bool false)) fun t24 =>
    bindX (A.test t24 (
     withV (A.sliceStr t15 (some (AV.int .i64 8)) none) fun t26 =>
      withV (A.lenStr t26) fun t28 =>
      withV (A.bin base.P .gtr 3 t28 (AV.int .i64 16) true H7) fun t29 =>
      withB (A.asG true t29) fun b4 => withP (guardB b4 true (
       some (t26, H7))
       (some (.tup [], H7))) fun t31 H9 =>
      withB (A.asG true t29) fun b5 => withP (guardB b5 true (
       cl base pol n 44 [t31] H9 fun t32 H10 =>
       some (t32, H10))
       (some (.tup [], H9))) fun t32 H11 =>
      withB (A.asG true t29) fun b6 => withP (guardB b6 true (
       some (t26, H11))
       (some (.tup [], H11))) fun t33 H12 =>
      withB (A.asG true t29) fun b7 => withP (guardB b7 true (
       withV (A.sliceStr t33 (some (AV.int .i64 8)) none) fun t34 =>
       some (t34, H12))
       (some (.tup [], H12))) fun t34 H13 =>
      withB (A.asG true t29) fun b8 => withP (guardB b8 true (
       cl base pol n 44 [t34] H13 fun t35 H14 =>
       some (t35, H14))
       (some (.tup [], H13))) fun t35 H15 =>
      withB (A.asG true t29) fun b9 => withP (guardB b9 true (
       withV (A.bin base.P .or 12 t32 t35 false H15) fun t36 =>
       some (t36, H15))
       (some (.tup [], H15))) fun t36 H16 =>
      withB (A.asG true t29) fun b10 => withP (guardB b10 true (
       withV (A.bin base.P .and 12 t36 (AV.int .u64 9259542123273814144) true H16) fun t37 =>
       some (t37, H16))
       (some (.tup [], H16))) fun t37 H17 =>
      withB (A.asG true t29) fun b11 => withP (guardB b11 true (
       withV (A.bin base.P .eql 12 t37 (AV.int .u64 0) true H17) fun t38 =>
       some (t38, H17))
       (some (.tup [], H17))) fun t38 H18 =>
      withV (A.pick t29 t38 (AV.bool false)) fun t39 =>
      chkD ((bif ((t33.heapy || (false || false)) && actsB (A.asG true t29) true) then (sameV (withV (A.sliceStr t33 (some (AV.int .i64 8)) none) fun t34 =>        some (.val t34)) t34 && (sameV (withV (A.sliceStr t33 (some (AV.int .i64 8)) none) fun t34 =>        some (.val t34)) t34 && true)) else true) && true) (
      bindX (A.test t39 (
       withV (A.sliceStr t26 (some (AV.int .i64 16)) none) fun t41 =>
        bindX (qhs pol n n ⟨[t41], []⟩ H18) fun i19 l19 H19 =>
        altN i19 0 (
        bindV (l19.vs.getD 0 .undef) fun t0 => 
        some (0, ⟨[t0], []⟩, H19))
        (none))
       (
       some (0, ⟨[t26], []⟩, H18))) fun i20 l20 H20 =>
      altN i20 0 (
      bindV (l20.vs.getD 0 .undef) fun t0 => 
      some (0, ⟨[t0], []⟩, H20))
      (none)))
     (
     some (0, ⟨[t15], []⟩, H7))) fun i21 l21 H21 =>
    altN i21 0 (
    bindV (l21.vs.getD 0 .undef) fun t0 => 
    some (0, ⟨[t0, .undef], []⟩, H21))
    (none))
   (
   withV (A.idxArr 1 256 (globV base 0) t11 H) fun t66 =>
   withV (A.load false 1 t66 H) fun t67 =>
   withV (A.bin base.P .and 5 t67 (AV.int .u8 7) true H) fun t69 =>
   withV (Go.Den.convert base 5 3 t69) fun t70 =>
   withV (A.bin base.P .shr 5 t67 (AV.int .u64 4) true H) fun t72 =>
   withV (A.idxArr 2 16 (globV base 1) t72 H) fun t73 =>
   withV (A.load true 2 t73 H) fun t74 =>
   bindV (.ptr H.length 0 0 0) fun t6 => bindH (H ++ [.row 0 2 69 [(AV.agg [(AV.int .u8 0), (AV.int .u8 0)])]]) fun H22 =>
   withH (A.store 2 t6 t74 H22) fun H23 =>
   withV (A.bin base.P .eql 3 t70 (AV.int .i64 2) true H23) fun t77 =>
   bindX (A.test t77 (
    withV (A.lenStr t0) fun t79 =>
     withV (A.bin base.P .lss 3 t79 (AV.int .i64 2) true H23) fun t80 =>
     withB (A.asG false t80) fun b4 => withP (guardB b4 false (
      some (t0, H23))
      (some (.tup [], H23))) fun t82 H25 =>
     withB (A.asG false t80) fun b5 => withP (guardB b5 false (
      withV (A.index t82 (AV.int .i64 1)) fun t83 =>
      some (t83, H25))
      (some (.tup [], H25))) fun t83 H26 =>
     withB (A.asG false t80) fun b6 => withP (guardB b6 false (
      withV (A.fa 0 t6 H26) fun t84 =>
      some (t84, H26))
      (some (.tup [], H26))) fun t84 H27 =>
     withB (A.asG false t80) fun b7 => withP (guardB b7 false (
      withV (A.load false 1 t84 H27) fun t85 =>
      some (t85, H27))
      (some (.tup [], H27))) fun t85 H28 =>
     withB (A.asG false t80) fun b8 => withP (guardB b8 false (
      withV (A.bin base.P .lss 5 t83 t85 false H28) fun t86 =>
      some (t86, H28))
      (some (.tup [], H28))) fun t86 H29 =>
     withV (A.pick t80 (AV.bool true) t86) fun t87 =>
     withB (A.asG false t87) fun b11 => withP (guardB b11 false (
      withV (A.fa 1 t6 H29) fun t89 =>
      some (t89, H29))
      (some (.tup [], H29))) fun t89 H30 =>
     withB (A.asG false t87) fun b12 => withP (guardB b12 false (
      withV (A.load false 1 t89 H30) fun t90 =>
      some (t90, H30))
      (some (.tup [], H30))) fun t90 H31 =>
     withB (A.asG false t87) fun b13 => withP (guardB b13 false (
      some (t0, H31))
      (some (.tup [], H31))) fun t91 H32 =>
     withB (A.asG false t87) fun b14 => withP (guardB b14 false (
      withV (A.index t91 (AV.int .i64 1)) fun t92 =>
      some (t92, H32))
      (some (.tup [], H32))) fun t92 H33 =>
     withB (A.asG false t87) fun b15 => withP (guardB b15 false (
      withV (A.bin base.P .lss 5 t90 t92 false H33) fun t93 =>
      some (t93, H33))
      (some (.tup [], H33))) fun t93 H34 =>
     withV (A.pick t87 (AV.bool true) t93) fun t94 =>
     A.test t94 (
     some (1, ⟨[t0, (AV.bool false)], []⟩, H34))
     (
     withV (A.sliceStr t0 (some (AV.int .i64 2)) none) fun t96 =>
     some (0, ⟨[t96, .undef], []⟩, H34)))
    (
    withV (A.bin base.P .eql 3 t70 (AV.int .i64 3) true H23) fun t98 =>
     bindX (A.test t98 (
      withV (A.lenStr t0) fun t100 =>
       withV (A.bin base.P .lss 3 t100 (AV.int .i64 3) true H23) fun t101 =>
       withB (A.asG false t101) fun b4 => withP (guardB b4 false (
        some (t0, H23))
        (some (.tup [], H23))) fun t103 H36 =>
       withB (A.asG false t101) fun b5 => withP (guardB b5 false (
        withV (A.index t103 (AV.int .i64 1)) fun t104 =>
        some (t104, H36))
        (some (.tup [], H36))) fun t104 H37 =>
       withB (A.asG false t101) fun b6 => withP (guardB b6 false (
        withV (A.fa 0 t6 H37) fun t105 =>
        some (t105, H37))
        (some (.tup [], H37))) fun t105 H38 =>
       withB (A.asG false t101) fun b7 => withP (guardB b7 false (
        withV (A.load false 1 t105 H38) fun t106 =>
        some (t106, H38))
        (some (.tup [], H38))) fun t106 H39 =>
       withB (A.asG false t101) fun b8 => withP (guardB b8 false (
        withV (A.bin base.P .lss 5 t104 t106 false H39) fun t107 =>
        some (t107, H39))
        (some (.tup [], H39))) fun t107 H40 =>
       withV (A.pick t101 (AV.bool true) t107) fun t108 =>
       withB (A.asG false t108) fun b11 => withP (guardB b11 false (
        withV (A.fa 1 t6 H40) fun t110 =>
        some (t110, H40))
        (some (.tup [], H40))) fun t110 H41 =>
       withB (A.asG false t108) fun b12 => withP (guardB b12 false (
        withV (A.load false 1 t110 H41) fun t111 =>
        some (t111, H41))
        (some (.tup [], H41))) fun t111 H42 =>
       withB (A.asG false t108) fun b13 => withP (guardB b13 false (
        some (t0, H42))
        (some (.tup [], H42))) fun t112 H43 =>
       withB (A.asG false t108) fun b14 => withP (guardB b14 false (
        withV (A.index t112 (AV.int .i64 1)) fun t113 =>
        some (t113, H43))
        (some (.tup [], H43))) fun t113 H44 =>
       withB (A.asG false t108) fun b15 => withP (guardB b15 false (
        withV (A.bin base.P .lss 5 t111 t113 false H44) fun t114 =>
        some (t114, H44))
        (some (.tup [], H44))) fun t114 H45 =>
       withV (A.pick t108 (AV.bool true) t114) fun t115 =>
       withB (A.asG false t115) fun b18 => withP (guardB b18 false (
        some (t0, H45))
        (some (.tup [], H45))) fun t117 H46 =>
       withB (A.asG false t115) fun b19 => withP (guardB b19 false (
        withV (A.index t117 (AV.int .i64 2)) fun t118 =>
        some (t118, H46))
        (some (.tup [], H46))) fun t118 H47 =>
       withB (A.asG false t115) fun b20 => withP (guardB b20 false (
        withV (A.bin base.P .lss 5 t118 (AV.int .u8 128) true H47) fun t119 =>
        some (t119, H47))
        (some (.tup [], H47))) fun t119 H48 =>
       withV (A.pick t115 (AV.bool true) t119) fun t120 =>
       withB (A.asG false t120) fun b23 => withP (guardB b23 false (
        some (t0, H48))
        (some (.tup [], H48))) fun t122 H49 =>
       withB (A.asG false t120) fun b24 => withP (guardB b24 false (
        withV (A.index t122 (AV.int .i64 2)) fun t123 =>
        some (t123, H49))
        (some (.tup [], H49))) fun t123 H50 =>
       withB (A.asG false t120) fun b25 => withP (guardB b25 false (
        withV (A.bin base.P .lss 5 (AV.int .u8 191) t123 false H50) fun t124 =>
        some (t124, H50))
        (some (.tup [], H50))) fun t124 H51 =>
       withV (A.pick t120 (AV.bool true) t124) fun t125 =>
       A.test t125 (
       some (1, ⟨[t0, (AV.bool false)], []⟩, H51))
       (
       withV (A.sliceStr t0 (some (AV.int .i64 3)) none) fun t127 =>
       some (0, ⟨[t127, .undef], []⟩, H51)))
      (
      withV (A.bin base.P .eql 3 t70 (AV.int .i64 4) true H23) fun t129 =>
       A.test t129 (
       withV (A.lenStr t0) fun t131 =>
        withV (A.bin base.P .lss 3 t131 (AV.int .i64 4) true H23) fun t132 =>
        withB (A.asG false t132) fun b4 => withP (guardB b4 false (
         some (t0, H23))
         (some (.tup [], H23))) fun t134 H53 =>
        withB (A.asG false t132) fun b5 => withP (guardB b5 false (
         withV (A.index t134 (AV.int .i64 1)) fun t135 =>
         some (t135, H53))
         (some (.tup [], H53))) fun t135 H54 =>
        withB (A.asG false t132) fun b6 => withP (guardB b6 false (
         withV (A.fa 0 t6 H54) fun t136 =>
         some (t136, H54))
         (some (.tup [], H54))) fun t136 H55 =>
        withB (A.asG false t132) fun b7 => withP (guardB b7 false (
         withV (A.load false 1 t136 H55) fun t137 =>
         some (t137, H55))
         (some (.tup [], H55))) fun t137 H56 =>
        withB (A.asG false t132) fun b8 => withP (guardB b8 false (
         withV (A.bin base.P .lss 5 t135 t137 false H56) fun t138 =>
         some (t138, H56))
         (some (.tup [], H56))) fun t138 H57 =>
        withV (A.pick t132 (AV.bool true) t138) fun t139 =>
        withB (A.asG false t139) fun b11 => withP (guardB b11 false (
         withV (A.fa 1 t6 H57) fun t141 =>
         some (t141, H57))
         (some (.tup [], H57))) fun t141 H58 =>
        withB (A.asG false t139) fun b12 => withP (guardB b12 false (
         withV (A.load false 1 t141 H58) fun t142 =>
         some (t142, H58))
         (some (.tup [], H58))) fun t142 H59 =>
        withB (A.asG false t139) fun b13 => withP (guardB b13 false (
         some (t0, H59))
         (some (.tup [], H59))) fun t143 H60 =>
        withB (A.asG false t139) fun b14 => withP (guardB b14 false (
         withV (A.index t143 (AV.int .i64 1)) fun t144 =>
         some (t144, H60))
         (some (.tup [], H60))) fun t144 H61 =>
        withB (A.asG false t139) fun b15 => withP (guardB b15 false (
         withV (A.bin base.P .lss 5 t142 t144 false H61) fun t145 =>
         some (t145, H61))
         (some (.tup [], H61))) fun t145 H62 =>
        withV (A.pick t139 (AV.bool true) t145) fun t146 =>
        withB (A.asG false t146) fun b18 => withP (guardB b18 false (
         some (t0, H62))
         (some (.tup [], H62))) fun t148 H63 =>
        withB (A.asG false t146) fun b19 => withP (guardB b19 false (
         withV (A.index t148 (AV.int .i64 2)) fun t149 =>
         some (t149, H63))
         (some (.tup [], H63))) fun t149 H64 =>
        withB (A.asG false t146) fun b20 => withP (guardB b20 false (
         withV (A.bin base.P .lss 5 t149 (AV.int .u8 128) true H64) fun t150 =>
         some (t150, H64))
         (some (.tup [], H64))) fun t150 H65 =>
        withV (A.pick t146 (AV.bool true) t150) fun t151 =>
        withB (A.asG false t151) fun b23 => withP (guardB b23 false (
         some (t0, H65))
         (some (.tup [], H65))) fun t153 H66 =>
        withB (A.asG false t151) fun b24 => withP (guardB b24 false (
         withV (A.index t153 (AV.int .i64 2)) fun t154 =>
         some (t154, H66))
         (some (.tup [], H66))) fun t154 H67 =>
        withB (A.asG false t151) fun b25 => withP (guardB b25 false (
         withV (A.bin base.P .lss 5 (AV.int .u8 191) t154 false H67) fun t155 =>
         some (t155, H67))
         (some (.tup [], H67))) fun t155 H68 =>
        withV (A.pick t151 (AV.bool true) t155) fun t156 =>
        withB (A.asG false t156) fun b28 => withP (guardB b28 false (
         some (t0, H68))
         (some (.tup [], H68))) fun t158 H69 =>
        withB (A.asG false t156) fun b29 => withP (guardB b29 false (
         withV (A.index t158 (AV.int .i64 3)) fun t159 =>
         some (t159, H69))
         (some (.tup [], H69))) fun t159 H70 =>
        withB (A.asG false t156) fun b30 => withP (guardB b30 false (
         withV (A.bin base.P .lss 5 t159 (AV.int .u8 128) true H70) fun t160 =>
         some (t160, H70))
         (some (.tup [], H70))) fun t160 H71 =>
        withV (A.pick t156 (AV.bool true) t160) fun t161 =>
        withB (A.asG false t161) fun b33 => withP (guardB b33 false (
         some (t0, H71))
         (some (.tup [], H71))) fun t163 H72 =>
        withB (A.asG false t161) fun b34 => withP (guardB b34 false (
         withV (A.index t163 (AV.int .i64 3)) fun t164 =>
         some (t164, H72))
         (some (.tup [], H72))) fun t164 H73 =>
        withB (A.asG false t161) fun b35 => withP (guardB b35 false (
         withV (A.bin base.P .lss 5 (AV.int .u8 191) t164 false H73) fun t165 =>
         some (t165, H73))
         (some (.tup [], H73))) fun t165 H74 =>
        withV (A.pick t161 (AV.bool true) t165) fun t166 =>
        A.test t166 (
        some (1, ⟨[t0, (AV.bool false)], []⟩, H74))
        (
        withV (A.sliceStr t0 (some (AV.int .i64 4)) none) fun t168 =>
        some (0, ⟨[t168, .undef], []⟩, H74)))
       (
       some (1, ⟨[t0, (AV.bool false)], []⟩, H23)))) fun i75 l75 H75 =>
     altN i75 0 (
     bindV (l75.vs.getD 0 .undef) fun t0 => bindV (l75.vs.getD 1 .undef) fun t2 => 
     some (0, ⟨[t0, t2], []⟩, H75))
     (altN i75 1 (
     bindV (l75.vs.getD 0 .undef) fun t0 => bindV (l75.vs.getD 1 .undef) fun t2 => 
     some (1, ⟨[t0, t2], []⟩, H75))
     (none)))) fun i76 l76 H76 =>
   altN i76 0 (
   bindV (l76.vs.getD 0 .undef) fun t0 => bindV (l76.vs.getD 1 .undef) fun t2 => 
   some (0, ⟨[t0, t2], []⟩, H76))
   (altN i76 1 (
   bindV (l76.vs.getD 0 .undef) fun t0 => bindV (l76.vs.getD 1 .undef) fun t2 => 
   some (1, ⟨[t0, t2], []⟩, H76))
   (none)))) fun i77 l77 H77 =>
  altN i77 0 (
  bindV (l77.vs.getD 0 .undef) fun t0 => bindV (l77.vs.getD 1 .undef) fun t2 => 
  qhr pol n m ⟨[t0], []⟩ H77)
  (altN i77 1 (
  bindV (l77.vs.getD 0 .undef) fun t0 => bindV (l77.vs.getD 1 .undef) fun t2 => 
  some (1, ⟨[t2], []⟩, H77))
  (none)))
  (
  some (0, ⟨[.undef], []⟩, H))) := by kernel_rfl
theorem S24 (pol : FuncId → Pol) (n : Nat) (R : Type) (k : AV → Heap → Option R) (a0 : AV) (H : Heap) : callF (base.with pol) (n + 1) R 24 [a0] H k =
  (bindX (qhr pol n n ⟨[a0], []⟩ H) fun i1 l1 H1 =>
  altN i1 0 (
  bindV (l1.vs.getD 0 .undef) fun t2 => 
  k (AV.bool true) H1)
  (altN i1 1 (
  bindV (l1.vs.getD 0 .undef) fun t2 => 
  k t2 H1)
  (none))) := by kernel_rfl
theorem S25 (pol : FuncId → Pol) (n : Nat) (R : Type) (k : AV → Heap → Option R) (a0 a1 : AV) (H : Heap) : callF (base.with pol) (n + 1) R 25 [a0, a1] H k =
  (cl base pol n 45 [a0] H fun t6 H1 =>
  withV (nilC base.P a0 H1) fun t9 =>
  withV (A.fa 1 t9 H1) fun t10 =>
  withV (A.load false 1 t10 H1) fun t11 =>
  withL (A.fillElems 1 (List.replicate 1 (AV.int .u8 0)) [(0, 1, a1)]) fun es =>
  bindV (.sl H1.length 0 0 es.length es.length) fun t13 => bindH (H1 ++ [.row 0 1 5 es]) fun H2 =>
  withL (newsZ base 1 1 (AV.int .u8 0) 35 t13 H2) fun es =>
  withVH (A.append 1 1 5 t11 es H2) fun t14 H3 =>
  withV (nilC base.P a0 H3) fun t15 =>
  withV (A.fa 1 t15 H3) fun t16 =>
  withH (A.store 1 t16 t14 H3) fun H4 =>
  k AV.nili H4) := by kernel_rfl
theorem S26 (pol : FuncId → Pol) (n : Nat) (R : Type) (k : AV → Heap → Option R) (a0 a1 : AV) (H : Heap) : callF (base.with pol) (n + 1) R 26 [a0, a1] H k =
  (cl base pol n 45 [a0] H fun t8 H1 =>
  withV (nilC base.P a0 H1) fun t10 =>
  withV (A.fa 1 t10 H1) fun t11 =>
  withV (A.load false 1 t11 H1) fun t12 =>
  withV (A.len t12 H1) fun t13 =>
  withV (nilC base.P a0 H1) fun t16 =>
  withV (A.fa 1 t16 H1) fun t17 =>
  withV (A.load false 1 t17 H1) fun t18 =>
  cl base pol n 46 [t18, a1] H1 fun t20 H3 =>
  withV (nilC base.P a0 H3) fun t21 =>
  withV (A.fa 1 t21 H3) fun t22 =>
  withH (A.store 1 t22 t20 H3) fun H4 =>
  withV (nilC base.P a0 H4) fun t24 =>
  withV (A.fa 1 t24 H4) fun t25 =>
  withV (A.load false 1 t25 H4) fun t26 =>
  withV (A.len t26 H4) fun t27 =>
  withV (A.bin base.P .sub 3 t27 t13 false H4) fun t29 =>
  k (.tup [t29, AV.nili]) H4) := by kernel_rfl
theorem S27 (pol : FuncId → Pol) (n : Nat) (R : Type) (k : AV → Heap → Option R) (a0 a1 : AV) (H : Heap) : callF (base.with pol) (n + 1) R 27 [a0, a1] H k =
  (cl base pol n 45 [a0] H fun t7 H1 =>
  withV (nilC base.P a0 H1) fun t10 =>
  withV (A.fa 1 t10 H1) fun t11 =>
  withV (A.load false 1 t11 H1) fun t12 =>
  withL (newsZ base 1 1 (AV.int .u8 0) 9 a1 H1) fun es =>
  withVH (A.append 1 1 5 t12 es H1) fun t14 H2 =>
  withV (nilC base.P a0 H2) fun t15 =>
  withV (A.fa 1 t15 H2) fun t16 =>
  withH (A.store 1 t16 t14 H2) fun H3 =>
  withV (A.lenStr a1) fun t18 =>
  k (.tup [t18, AV.nili]) H3) := by kernel_rfl
theorem S28 (pol : FuncId → Pol) (n : Nat) (R : Type) (k : AV → Heap → Option R) (a0 : AV) (H : Heap) : callF (base.with pol) (n + 1) R 28 [a0] H k =
  (withV (A.bin base.P .lss 21 a0 (AV.int .i32 32) true H) fun t4 =>
  withB (A.asG false t4) fun b3 => withP (guardB b3 false (
   some (a0, H))
   (some (.tup [], H))) fun t6 H1 =>
  withB (A.asG false t4) fun b4 => withP (guardB b4 false (
   withV (A.bin base.P .eql 21 t6 (AV.int .i32 127) true H1) fun t7 =>
   some (t7, H1))
   (some (.tup [], H1))) fun t7 H2 =>
  withV (A.pick t4 (AV.bool true) t7) fun t8 =>
  k t8 H2) := by kernel_rfl
theorem S30 (pol : FuncId → Pol) (n : Nat) (R : Type) (k : AV → Heap → Option R) (a0 : AV) (H : Heap) : callF (base.with pol) (n + 1) R 30 [a0] H k =
  (withV (nilC base.P a0 H) fun t4 =>
  withV (A.fa 1 t4 H) fun t5 =>
  withV (A.load false 1 t5 H) fun t6 =>
  q18 base .unsafeSliceData [35] [t6] H fun t7 H1 =>
  withV (nilC base.P a0 H1) fun t9 =>
  withV (A.fa 1 t9 H1) fun t10 =>
  withV (A.load false 1 t10 H1) fun t11 =>
  withV (A.len t11 H1) fun t12 =>
  q18 base .unsafeString [73, 3] [t7, t12] H1 fun t13 H3 =>
  chkD ((bif ((a0.heapy || false) && true) then (sameV (withV (nilC base.P a0 H) fun t9 =>    some (.val t9)) t9 && (sameV (withV (nilC base.P a0 H1) fun t9 =>    some (.val t9)) t9 && true)) else true) && ((bif ((t9.heapy || false) && true) then (sameV (withV (A.fa 1 t9 H) fun t10 =>    some (.val t10)) t10 && (sameV (withV (A.fa 1 t9 H1) fun t10 =>    some (.val t10)) t10 && true)) else true) && ((bif ((t10.heapy || false) && true) then (sameV (withV (A.load false 1 t10 H) fun t11 =>    some (.val t11)) t11 && (sameV (withV (A.load false 1 t10 H1) fun t11 =>    some (.val t11)) t11 && true)) else true) && ((bif ((t11.heapy || false) && true) then (sameV (withV (A.len t11 H) fun t12 =>    some (.val t12)) t12 && (sameV (withV (A.len t11 H1) fun t12 =>    some (.val t12)) t12 && true)) else true) && true)))) (
  k t13 H3)) := by kernel_rfl
theorem q2g (pol : FuncId → Pol) (n m : Nat) (t0 t4 t8 : AV) (H : Heap) : qeb pol n (m + 1) ⟨[t0, t4, t8], []⟩ H =
  (nextK t8 H fun t9 H1 =>
  q07 t9 0 fun t10 =>
  A.test t10 (
  q07 t9 1 fun t11 =>
  q07 t9 2 fun t12 =>
  withV (A.bin base.P .eql 3 t11 (AV.int .i64 0) true H1) fun t14 =>
  withB (A.asG true t14) fun b3 => withP (guardB b3 true (
   some (t12, H1))
   (some (.tup [], H1))) fun t16 H2 =>
  withB (A.asG true t14) fun b4 => withP (guardB b4 true (
   cl base pol n 48 [t16] H2 fun t17 H3 =>
   some (t17, H3))
   (some (.tup [], H2))) fun t17 H4 =>
  withB (A.asG true t14) fun b5 => withP (guardB b5 true (
   withV (A.un .not t17) fun t18 =>
   some (t18, H4))
   (some (.tup [], H4))) fun t18 H5 =>
  withV (A.pick t14 t18 (AV.bool false)) fun t19 =>
  withB (A.asG false t19) fun b8 => withP (guardB b8 false (
   some (t12, H5))
   (some (.tup [], H5))) fun t21 H6 =>
  withB (A.asG false t19) fun b9 => withP (guardB b9 false (
   cl base pol n 49 [t21] H6 fun t22 H7 =>
   some (t22, H7))
   (some (.tup [], H6))) fun t22 H8 =>
  withB (A.asG false t19) fun b10 => withP (guardB b10 false (
   withV (A.un .not t22) fun t23 =>
   some (t23, H8))
   (some (.tup [], H8))) fun t23 H9 =>
  withV (A.pick t19 (AV.bool true) t23) fun t24 =>
  A.test t24 (
  some (1, ⟨[t0, t11, t4, t4], []⟩, H9))
  (
  withV (A.bin base.P .add 3 t4 (AV.int .i64 1) true H9) fun t28 =>
  qeb pol n m ⟨[t0, t28, t8], []⟩ H9))
  (
  some (0, ⟨[t0, .undef, .undef, t4], []⟩, H1))) := by kernel_rfl
theorem S31 (pol : FuncId → Pol) (n : Nat) (R : Type) (k : AV → Heap → Option R) (a0 : AV) (H : Heap) : callF (base.with pol) (n + 1) R 31 [a0] H k =
  (rangeK a0 H fun t8 H1 =>
  bindX (qeb pol n n ⟨[a0, (AV.int .i64 0), t8], []⟩ H1) fun i2 l2 H2 =>
  altN i2 0 (
  bindV (l2.vs.getD 0 .undef) fun t0 => bindV (l2.vs.getD 1 .undef) fun t2 => bindV (l2.vs.getD 2 .undef) fun t3 => bindV (l2.vs.getD 3 .undef) fun t4 => 
  withV (A.lenStr t0) fun t30 =>
  k (.tup [t30, t4]) H2)
  (altN i2 1 (
  bindV (l2.vs.getD 0 .undef) fun t0 => bindV (l2.vs.getD 1 .undef) fun t2 => bindV (l2.vs.getD 2 .undef) fun t3 => bindV (l2.vs.getD 3 .undef) fun t4 => 
  k (.tup [t2, t3]) H2)
  (none))) := by kernel_rfl
theorem S33 (pol : FuncId → Pol) (n : Nat) (R : Type) (k : AV → Heap → Option R) (a0 : AV) (H : Heap) : callF (base.with pol) (n + 1) R 33 [a0] H k =
  (withV (A.bin base.P .neq 9 a0 (AV.str []) true H) fun t5 =>
  withB (A.asG true t5) fun b3 => withP (guardB b3 true (
   some (a0, H))
   (some (.tup [], H))) fun t7 H1 =>
  withB (A.asG true t5) fun b4 => withP (guardB b4 true (
   withV (A.index t7 (AV.int .i64 0)) fun t8 =>
   some (t8, H1))
   (some (.tup [], H1))) fun t8 H2 =>
  withB (A.asG true t5) fun b5 => withP (guardB b5 true (
   withV (A.bin base.P .lss 5 t8 (AV.int .u8 128) true H2) fun t9 =>
   some (t9, H2))
   (some (.tup [], H2))) fun t9 H3 =>
  withV (A.pick t5 t9 (AV.bool false)) fun t10 =>
  A.test t10 (
  withV (A.index a0 (AV.int .i64 0)) fun t12 =>
   withV (Go.Den.convert base 5 21 t12) fun t13 =>
   k (.tup [t13, (AV.int .i64 1)]) H3)
  (
  cl base pol n 51 [a0] H3 fun t16 H4 =>
   q07 t16 0 fun t17 =>
   q07 t16 1 fun t18 =>
   k (.tup [t17, t18]) H4)) := by kernel_rfl
end Go.Proofs.YtdkjednjlpcboaaDoor

/- What each function does, in Den's words. -/
set_option maxRecDepth 100000
namespace Go.Proofs.YtdkjednjlpcboaaDoor
open Go Go.Den
theorem q5p (pol : FuncId → Pol) (n m : Nat) (t2 t4 : AV) (H : Heap) : qht pol n (m + 1) ⟨[t2, t4], []⟩ H =
  (nextK t4 H fun t5 H1 =>
  q07 t5 0 fun t6 =>
  A.test t6 (
  withV (A.bin base.P .add 3 t2 (AV.int .i64 1) true H1) fun t8 =>
  qht pol n m ⟨[t8, t4], []⟩ H1)
  (
  some (0, ⟨[t2], []⟩, H1))) := by kernel_rfl
theorem S38 (pol : FuncId → Pol) (n : Nat) (R : Type) (k : AV → Heap → Option R) (a0 : AV) (H : Heap) : callF (base.with pol) (n + 1) R 38 [a0] H k =
  (rangeK a0 H fun t4 H1 =>
  bindX (qht pol n n ⟨[(AV.int .i64 0), t4], []⟩ H1) fun i2 l2 H2 =>
  altN i2 0 (
  bindV (l2.vs.getD 0 .undef) fun t2 => 
  k t2 H2)
  (none)) := by kernel_rfl
theorem S39 (pol : FuncId → Pol) (n : Nat) (R : Type) (k : AV → Heap → Option R) (a0 a1 : AV) (H : Heap) : callF (base.with pol) (n + 1) R 39 [a0, a1] H k =
  (cl base pol n 54 [a0, a1] H fun t7 H1 =>
  k t7 H1) := by kernel_rfl
theorem q2y (pol : FuncId → Pol) (n m : Nat) (t0 t4 : AV) (H : Heap) : qec pol n (m + 1) ⟨[t0, t4], []⟩ H =
  (cl base pol n 55 [t0] H fun t10 H1 =>
  q07 t10 0 fun t11 =>
  q07 t10 1 fun t12 =>
  withV (A.un .not t12) fun t15 =>
  A.test t15 (
  some (0, ⟨[(AV.str []), (AV.int .i64 2)], []⟩, H1))
  (
  withV (A.bin base.P .eql 21 t11 (AV.int .i32 39) true H1) fun t18 =>
   A.test t18 (
   q09 base 54 9 t4 H1 fun t20 H2 =>
    some (0, ⟨[t20, (AV.int .i64 0)], []⟩, H2))
   (
   withV (A.bin base.P .eql 21 t11 (AV.int .i32 92) true H1) fun t23 =>
    bindX (A.test t23 (
     cl base pol n 56 [t0] H1 fun t26 H3 =>
      q07 t26 0 fun t27 =>
      q07 t26 1 fun t28 =>
      some (0, ⟨[t0, t4, t27, t28], []⟩, H3))
     (
     cl base pol n 28 [t11] H1 fun t31 H4 =>
      bindX (A.test t31 (
       some (0, ⟨[t0, t4, t11, (AV.int .i64 4)], []⟩, H4))
       (
       some (0, ⟨[t0, t4, t11, (AV.int .i64 0)], []⟩, H4))) fun i5 l5 H5 =>
      altN i5 0 (
      bindV (l5.vs.getD 0 .undef) fun t0 => bindV (l5.vs.getD 1 .undef) fun t4 => bindV (l5.vs.getD 2 .undef) fun t5 => bindV (l5.vs.getD 3 .undef) fun t7 => 
      some (0, ⟨[t0, t4, t5, t7], []⟩, H5))
      (none))) fun i6 l6 H6 =>
    altN i6 0 (
    bindV (l6.vs.getD 0 .undef) fun t0 => bindV (l6.vs.getD 1 .undef) fun t4 => bindV (l6.vs.getD 2 .undef) fun t5 => bindV (l6.vs.getD 3 .undef) fun t7 => 
    withV (A.bin base.P .neq 29 t7 (AV.int .i64 0) true H6) fun t33 =>
  A.test t33 (
  some (0, ⟨[(AV.str []), t7], []⟩, H6))
  (
  withV (A.len t4 H6) fun t36 =>
  withV (A.bin base.P .geq 3 t36 (AV.int .i64 255) true H6) fun t37 =>
  A.test t37 (
  some (0, ⟨[(AV.str []), (AV.int .i64 3)], []⟩, H6))
  (
  withL (A.fillElems 1 (List.replicate 1 (AV.int .i32 0)) [(0, 1, t5)]) fun es =>
  bindV (.sl H6.length 0 0 es.length es.length) fun t40 => bindH (H6 ++ [.row 0 1 21 es]) fun H8 =>
  withL (newsZ base 1 4 (AV.int .i32 0) 54 t40 H8) fun es =>
  withVH (A.append 1 4 21 t4 es H8) fun t41 H9 =>
  qec pol n m ⟨[t0, t41], []⟩ H9)))
    (none)))) := by kernel_rfl
theorem S40 (pol : FuncId → Pol) (n : Nat) (R : Type) (k : AV → Heap → Option R) (a0 : AV) (H : Heap) : callF (base.with pol) (n + 1) R 40 [a0] H k =
  (bindX (qec pol n n ⟨[a0, AV.nils], []⟩ H) fun i1 l1 H1 =>
  altN i1 0 (
  bindV (l1.vs.getD 0 .undef) fun t2 => bindV (l1.vs.getD 1 .undef) fun t3 => 
  k (.tup [t2, t3]) H1)
  (none)) := by kernel_rfl
theorem S41 (pol : FuncId → Pol) (n : Nat) (R : Type) (k : AV → Heap → Option R) (a0 a1 : AV) (H : Heap) : callF (base.with pol) (n + 1) R 41 [a0, a1] H k =
  (withV (A.bin base.P .geq 21 a0 (AV.int .i32 97) true H) fun t6 =>
  withB (A.asG true t6) fun b3 => withP (guardB b3 true (
   some (a0, H))
   (some (.tup [], H))) fun t8 H1 =>
  withB (A.asG true t6) fun b4 => withP (guardB b4 true (
   withV (A.bin base.P .leq 21 t8 (AV.int .i32 122) true H1) fun t9 =>
   some (t9, H1))
   (some (.tup [], H1))) fun t9 H2 =>
  withV (A.pick t6 t9 (AV.bool false)) fun t10 =>
  A.test t10 (
  k (AV.bool true) H2)
  (
  withV (A.un .not a1) fun t12 =>
  withB (A.asG true t12) fun b3 => withP (guardB b3 true (
   some (a0, H2))
   (some (.tup [], H2))) fun t14 H3 =>
  withB (A.asG true t12) fun b4 => withP (guardB b4 true (
   withV (A.bin base.P .geq 21 t14 (AV.int .i32 65) true H3) fun t15 =>
   some (t15, H3))
   (some (.tup [], H3))) fun t15 H4 =>
  withB (A.asG true t12) fun b5 => withP (guardB b5 true (
   some (t15, H4))
   (some (.tup [], H4))) fun t16 H5 =>
  withB (A.asG true t16) fun b6 => withP (guardB b6 true (
   some (a0, H5))
   (some (.tup [], H5))) fun t17 H6 =>
  withB (A.asG true t16) fun b7 => withP (guardB b7 true (
   withV (A.bin base.P .leq 21 t17 (AV.int .i32 90) true H6) fun t18 =>
   some (t18, H6))
   (some (.tup [], H6))) fun t18 H7 =>
  withB (A.asG true t12) fun b8 => withP (guardB b8 true (
   withV (A.pick t16 t18 (AV.bool false)) fun t19 =>
   some (t19, H7))
   (some (.tup [], H7))) fun t19 H8 =>
  withB (A.asG true t12) fun b9 => withP (guardB b9 true (
   some (t19, H8))
   (some (.tup [], H8))) fun t20 H9 =>
  withB (A.asG false t20) fun b10 => withP (guardB b10 false (
   some (a0, H9))
   (some (.tup [], H9))) fun t21 H10 =>
  withB (A.asG false t20) fun b11 => withP (guardB b11 false (
   withV (A.bin base.P .geq 21 t21 (AV.int .i32 48) true H10) fun t22 =>
   some (t22, H10))
   (some (.tup [], H10))) fun t22 H11 =>
  withB (A.asG false t20) fun b12 => withP (guardB b12 false (
   some (t22, H11))
   (some (.tup [], H11))) fun t23 H12 =>
  withB (A.asG true t23) fun b13 => withP (guardB b13 true (
   some (a0, H12))
   (some (.tup [], H12))) fun t24 H13 =>
  withB (A.asG true t23) fun b14 => withP (guardB b14 true (
   withV (A.bin base.P .leq 21 t24 (AV.int .i32 57) true H13) fun t25 =>
   some (t25, H13))
   (some (.tup [], H13))) fun t25 H14 =>
  withB (A.asG false t20) fun b15 => withP (guardB b15 false (
   withV (A.pick t23 t25 (AV.bool false)) fun t26 =>
   some (t26, H14))
   (some (.tup [], H14))) fun t26 H15 =>
  withB (A.asG true t12) fun b16 => withP (guardB b16 true (
   withV (A.pick t20 (AV.bool true) t26) fun t27 =>
   some (t27, H15))
   (some (.tup [], H15))) fun t27 H16 =>
  withB (A.asG true t12) fun b17 => withP (guardB b17 true (
   some (t27, H16))
   (some (.tup [], H16))) fun t28 H17 =>
  withB (A.asG false t28) fun b18 => withP (guardB b18 false (
   some (a0, H17))
   (some (.tup [], H17))) fun t29 H18 =>
  withB (A.asG false t28) fun b19 => withP (guardB b19 false (
   withV (A.bin base.P .eql 21 t29 (AV.int .i32 95) true H18) fun t30 =>
   some (t30, H18))
   (some (.tup [], H18))) fun t30 H19 =>
  withB (A.asG true t12) fun b20 => withP (guardB b20 true (
   withV (A.pick t28 (AV.bool true) t30) fun t31 =>
   some (t31, H19))
   (some (.tup [], H19))) fun t31 H20 =>
  withB (A.asG true t12) fun b21 => withP (guardB b21 true (
   some (t31, H20))
   (some (.tup [], H20))) fun t32 H21 =>
  withB (A.asG false t32) fun b22 => withP (guardB b22 false (
   some (a0, H21))
   (some (.tup [], H21))) fun t33 H22 =>
  withB (A.asG false t32) fun b23 => withP (guardB b23 false (
   withV (A.bin base.P .eql 21 t33 (AV.int .i32 64) true H22) fun t34 =>
   some (t34, H22))
   (some (.tup [], H22))) fun t34 H23 =>
  withB (A.asG true t12) fun b24 => withP (guardB b24 true (
   withV (A.pick t32 (AV.bool true) t34) fun t35 =>
   some (t35, H23))
   (some (.tup [], H23))) fun t35 H24 =>
  withV (A.pick t12 t35 (AV.bool false)) fun t36 =>
  k t36 H24)) := by kernel_rfl
theorem q40 (pol : FuncId → Pol) (n m : Nat) (t0 t1 t7 t8 : AV) (H : Heap) : qfd pol n (m + 1) ⟨[t0, t1, t7, t8], []⟩ H =
  (withV (A.len t0 H) fun t38 =>
  withV (A.bin base.P .lss 3 t1 t38 false H) fun t39 =>
  withB (A.asG true t39) fun b5 => withP (guardB b5 true (
   some (t0, H))
   (some (.tup [], H))) fun t41 H2 =>
  withB (A.asG true t39) fun b6 => withP (guardB b6 true (
   some (t1, H2))
   (some (.tup [], H2))) fun t42 H3 =>
  withB (A.asG true t39) fun b7 => withP (guardB b7 true (
   withV (A.idx 1 t41 t42 H3) fun t43 =>
   some (t43, H3))
   (some (.tup [], H3))) fun t43 H4 =>
  withB (A.asG true t39) fun b8 => withP (guardB b8 true (
   withV (A.load false 1 t43 H4) fun t44 =>
   some (t44, H4))
   (some (.tup [], H4))) fun t44 H5 =>
  withB (A.asG true t39) fun b9 => withP (guardB b9 true (
   cl base pol n 57 [t44] H5 fun t45 H6 =>
   some (t45, H6))
   (some (.tup [], H5))) fun t45 H7 =>
  withB (A.asG true t39) fun b10 => withP (guardB b10 true (
   withV (A.bin base.P .geq 3 t45 (AV.int .i64 0) true H7) fun t46 =>
   some (t46, H7))
   (some (.tup [], H7))) fun t46 H8 =>
  withV (A.pick t39 t46 (AV.bool false)) fun t47 =>
  A.test t47 (
  withV (A.bin base.P .mul 3 (AV.int .i64 16) t7 false H8) fun t51 =>
  withV (A.idx 1 t0 t1 H8) fun t54 =>
  withV (A.load false 1 t54 H8) fun t55 =>
  cl base pol n 57 [t55] H8 fun t56 H9 =>
  withV (A.bin base.P .add 3 t51 t56 false H9) fun t57 =>
  withV (A.bin base.P .add 3 t8 (AV.int .i64 1) true H9) fun t59 =>
  withV (A.bin base.P .gtr 3 t59 (AV.int .i64 6) true H9) fun t61 =>
  A.test t61 (
  some (1, ⟨[t0, t1, (AV.int .i32 0), t1, (AV.int .i64 4), t57, t59], []⟩, H9))
  (
  withV (A.bin base.P .add 3 t1 (AV.int .i64 1) true H9) fun t49 =>
  qfd pol n m ⟨[t0, t49, t57, t59], []⟩ H9))
  (
  some (0, ⟨[t0, t1, .undef, .undef, .undef, t7, t8], []⟩, H8))) := by kernel_rfl
theorem S42 (pol : FuncId → Pol) (n : Nat) (R : Type) (k : AV → Heap → Option R) (a0 a1 : AV) (H : Heap) : callF (base.with pol) (n + 1) R 42 [a0, a1] H k =
  (withV (A.len a0 H) fun t11 =>
  withV (A.bin base.P .geq 3 a1 t11 false H) fun t12 =>
  A.test t12 (
  k (.tup [(AV.int .i32 0), a1, (AV.int .i64 2)]) H)
  (
  withV (A.idx 1 a0 a1 H) fun t16 =>
  withV (A.load false 1 t16 H) fun t17 =>
  withV (A.bin base.P .eql 21 t17 (AV.int .i32 39) true H) fun t20 =>
  bindX (A.test t20 (
   some (0, ⟨[a0, a1, t17, t20], []⟩, H))
   (
   withV (A.bin base.P .eql 21 t17 (AV.int .i32 92) true H) fun t21 =>
    some (0, ⟨[a0, a1, t17, t21], []⟩, H))) fun i2 l2 H2 =>
  altN i2 0 (
  bindV (l2.vs.getD 0 .undef) fun t0 => bindV (l2.vs.getD 1 .undef) fun t1 => bindV (l2.vs.getD 2 .undef) fun t17 => bindV (l2.vs.getD 3 .undef) fun t19 => 
  A.test t19 (
  withV (A.idx 1 t0 t1 H2) fun t24 =>
   withV (A.load false 1 t24 H2) fun t25 =>
   withV (A.bin base.P .add 3 t1 (AV.int .i64 1) true H2) fun t27 =>
   k (.tup [t25, t27, (AV.int .i64 0)]) H2)
  (
  withV (A.bin base.P .eql 21 t17 (AV.int .i32 110) true H2) fun t29 =>
   A.test t29 (
   withV (A.bin base.P .add 3 t1 (AV.int .i64 1) true H2) fun t31 =>
    k (.tup [(AV.int .i32 10), t31, (AV.int .i64 0)]) H2)
   (
   withV (A.bin base.P .eql 21 t17 (AV.int .i32 120) true H2) fun t33 =>
    A.test t33 (
    withV (A.bin base.P .add 3 t1 (AV.int .i64 1) true H2) fun t35 =>
  bindX (qfd pol n n ⟨[t0, t35, (AV.int .i64 0), (AV.int .i64 0)], []⟩ H2) fun i3 l3 H3 =>
  altN i3 0 (
  bindV (l3.vs.getD 0 .undef) fun t0 => bindV (l3.vs.getD 1 .undef) fun t1 => bindV (l3.vs.getD 2 .undef) fun t4 => bindV (l3.vs.getD 3 .undef) fun t5 => bindV (l3.vs.getD 4 .undef) fun t6 => bindV (l3.vs.getD 5 .undef) fun t7 => bindV (l3.vs.getD 6 .undef) fun t8 => 
  withV (A.len t0 H3) fun t65 =>
  withV (A.bin base.P .geq 3 t1 t65 false H3) fun t66 =>
  A.test t66 (
  k (.tup [(AV.int .i32 0), t1, (AV.int .i64 2)]) H3)
  (
  withV (A.bin base.P .eql 3 t8 (AV.int .i64 0) true H3) fun t69 =>
  withB (A.asG false t69) fun b3 => withP (guardB b3 false (
   some (t0, H3))
   (some (.tup [], H3))) fun t71 H5 =>
  withB (A.asG false t69) fun b4 => withP (guardB b4 false (
   some (t1, H5))
   (some (.tup [], H5))) fun t72 H6 =>
  withB (A.asG false t69) fun b5 => withP (guardB b5 false (
   withV (A.idx 1 t71 t72 H6) fun t73 =>
   some (t73, H6))
   (some (.tup [], H6))) fun t73 H7 =>
  withB (A.asG false t69) fun b6 => withP (guardB b6 false (
   withV (A.load false 1 t73 H7) fun t74 =>
   some (t74, H7))
   (some (.tup [], H7))) fun t74 H8 =>
  withB (A.asG false t69) fun b7 => withP (guardB b7 false (
   withV (A.bin base.P .neq 21 t74 (AV.int .i32 59) true H8) fun t75 =>
   some (t75, H8))
   (some (.tup [], H8))) fun t75 H9 =>
  withV (A.pick t69 (AV.bool true) t75) fun t76 =>
  withB (A.asG false t76) fun b10 => withP (guardB b10 false (
   some (t7, H9))
   (some (.tup [], H9))) fun t78 H10 =>
  withB (A.asG false t76) fun b11 => withP (guardB b11 false (
   withV (Go.Den.convert base 3 21 t78) fun t79 =>
   some (t79, H10))
   (some (.tup [], H10))) fun t79 H11 =>
  withB (A.asG false t76) fun b12 => withP (guardB b12 false (
   cl base pol n 58 [t79] H11 fun t80 H12 =>
   some (t80, H12))
   (some (.tup [], H11))) fun t80 H13 =>
  withB (A.asG false t76) fun b13 => withP (guardB b13 false (
   withV (A.un .not t80) fun t81 =>
   some (t81, H13))
   (some (.tup [], H13))) fun t81 H14 =>
  withV (A.pick t76 (AV.bool true) t81) fun t82 =>
  A.test t82 (
  k (.tup [(AV.int .i32 0), t1, (AV.int .i64 4)]) H14)
  (
  withV (Go.Den.convert base 3 21 t7) fun t85 =>
  withV (A.bin base.P .add 3 t1 (AV.int .i64 1) true H14) fun t87 =>
  k (.tup [t85, t87, (AV.int .i64 0)]) H14)))
  (altN i3 1 (
  bindV (l3.vs.getD 0 .undef) fun t0 => bindV (l3.vs.getD 1 .undef) fun t1 => bindV (l3.vs.getD 2 .undef) fun t4 => bindV (l3.vs.getD 3 .undef) fun t5 => bindV (l3.vs.getD 4 .undef) fun t6 => bindV (l3.vs.getD 5 .undef) fun t7 => bindV (l3.vs.getD 6 .undef) fun t8 => 
  k (.tup [t4, t5, t6]) H3)
  (none)))
    (
    k (.tup [(AV.int .i32 0), t1, (AV.int .i64 4)]) H2))))
  (none))) := by kernel_rfl
theorem q8c (pol : FuncId → Pol) (n m : Nat) (t0 t1 t5 : AV) (H : Heap) : qfe pol n (m + 1) ⟨[t0, t1, t5], []⟩ H =
  (withV (A.bin base.P .rem 65 t0 t1 false H) fun t8 =>
  withV (A.bin base.P .rem 65 t0 t1 false H) fun t11 =>
  withV (A.bin base.P .add 65 t11 (AV.int .u64 1) true H) fun t12 =>
  withV (A.sliceStr (AV.str [48, 49, 50, 51, 52, 53, 54, 55, 56, 57, 97, 98, 99, 100, 101, 102]) (some t8) (some t12)) fun t13 =>
  withV (A.bin base.P .add 9 t13 t5 false H) fun t15 =>
  withV (A.bin base.P .quo 65 t0 t1 false H) fun t18 =>
  withV (A.bin base.P .eql 65 t18 (AV.int .u64 0) true H) fun t20 =>
  A.test t20 (
  some (0, ⟨[t15], []⟩, H))
  (
  qfe pol n m ⟨[t18, t1, t15], []⟩ H)) := by kernel_rfl
theorem S43 (pol : FuncId → Pol) (n : Nat) (R : Type) (k : AV → Heap → Option R) (a0 a1 : AV) (H : Heap) : callF (base.with pol) (n + 1) R 43 [a0, a1] H k =
  (bindX (qfe pol n n ⟨[a0, a1, (AV.str [])], []⟩ H) fun i1 l1 H1 =>
  altN i1 0 (
  bindV (l1.vs.getD 0 .undef) fun t4 => 
  k t4 H1)
  (none)) := by kernel_rfl
theorem S44 (pol : FuncId → Pol) (n : Nat) (R : Type) (k : AV → Heap → Option R) (a0 : AV) (H : Heap) : callF (base.with pol) (n + 1) R 44 [a0] H k =
  (A.test (AV.bool false) (
  withV (A.index a0 (AV.int .i64 0)) fun t4 =>
   withV (Go.Den.convert base 5 12 t4) fun t5 =>
   withV (A.index a0 (AV.int .i64 1)) fun t7 =>
   withV (Go.Den.convert base 5 12 t7) fun t8 =>
   withV (A.bin base.P .shl 12 t8 (AV.int .u64 8) true H) fun t9 =>
   withV (A.bin base.P .or 12 t5 t9 false H) fun t10 =>
   withV (A.index a0 (AV.int .i64 2)) fun t12 =>
   withV (Go.Den.convert base 5 12 t12) fun t13 =>
   withV (A.bin base.P .shl 12 t13 (AV.int .u64 16) true H) fun t14 =>
   withV (A.bin base.P .or 12 t10 t14 false H) fun t15 =>
   withV (A.index a0 (AV.int .i64 3)) fun t17 =>
   withV (Go.Den.convert base 5 12 t17) fun t18 =>
   withV (A.bin base.P .shl 12 t18 (AV.int .u64 24) true H) fun t19 =>
   withV (A.bin base.P .or 12 t15 t19 false H) fun t20 =>
   k t20 H)
  (
  withV (A.index a0 (AV.int .i64 0)) fun t22 =>
  withV (Go.Den.convert base 5 65 t22) fun t23 =>
  withV (A.index a0 (AV.int .i64 1)) fun t25 =>
  withV (Go.Den.convert base 5 65 t25) fun t26 =>
  withV (A.bin base.P .shl 65 t26 (AV.int .u64 8) true H) fun t27 =>
  withV (A.bin base.P .or 65 t23 t27 false H) fun t28 =>
  withV (A.index a0 (AV.int .i64 2)) fun t30 =>
  withV (Go.Den.convert base 5 65 t30) fun t31 =>
  withV (A.bin base.P .shl 65 t31 (AV.int .u64 16) true H) fun t32 =>
  withV (A.bin base.P .or 65 t28 t32 false H) fun t33 =>
  withV (A.index a0 (AV.int .i64 3)) fun t35 =>
  withV (Go.Den.convert base 5 65 t35) fun t36 =>
  withV (A.bin base.P .shl 65 t36 (AV.int .u64 24) true H) fun t37 =>
  withV (A.bin base.P .or 65 t33 t37 false H) fun t38 =>
  withV (A.index a0 (AV.int .i64 4)) fun t40 =>
  withV (Go.Den.convert base 5 65 t40) fun t41 =>
  withV (A.bin base.P .shl 65 t41 (AV.int .u64 32) true H) fun t42 =>
  withV (A.bin base.P .or 65 t38 t42 false H) fun t43 =>
  withV (A.index a0 (AV.int .i64 5)) fun t45 =>
  withV (Go.Den.convert base 5 65 t45) fun t46 =>
  withV (A.bin base.P .shl 65 t46 (AV.int .u64 40) true H) fun t47 =>
  withV (A.bin base.P .or 65 t43 t47 false H) fun t48 =>
  withV (A.index a0 (AV.int .i64 6)) fun t50 =>
  withV (Go.Den.convert base 5 65 t50) fun t51 =>
  withV (A.bin base.P .shl 65 t51 (AV.int .u64 48) true H) fun t52 =>
  withV (A.bin base.P .or 65 t48 t52 false H) fun t53 =>
  withV (A.index a0 (AV.int .i64 7)) fun t55 =>
  withV (Go.Den.convert base 5 65 t55) fun t56 =>
  withV (A.bin base.P .shl 65 t56 (AV.int .u64 56) true H) fun t57 =>
  withV (A.bin base.P .or 65 t53 t57 false H) fun t58 =>
  k t58 H)) := by kernel_rfl
theorem S45 (pol : FuncId → Pol) (n : Nat) (R : Type) (k : AV → Heap → Option R) (a0 : AV) (H : Heap) : callF (base.with pol) (n + 1) R 45 [a0] H k =
  (withV (nilC base.P a0 H) fun t3 =>
  withV (A.fa 0 t3 H) fun t4 =>
  withV (A.load false 1 t4 H) fun t5 =>
  withV (A.bin base.P .eql 34 t5 AV.nilp true H) fun t6 =>
  bindX (A.test t6 (
   q09 base 34 80 a0 H fun t9 H1 =>
    cl base pol n 59 [t9] H1 fun t10 H2 =>
    q09 base 80 34 t10 H2 fun t11 H3 =>
    withV (nilC base.P a0 H3) fun t12 =>
    withV (A.fa 0 t12 H3) fun t13 =>
    withH (A.store 1 t13 t11 H3) fun H4 =>
    some (0, ⟨[], []⟩, H4))
   (
   withV (nilC base.P a0 H) fun t15 =>
    withV (A.fa 0 t15 H) fun t16 =>
    withV (A.load false 1 t16 H) fun t17 =>
    withV (A.bin base.P .neq 34 t17 a0 false H) fun t19 =>
    A.test t19 (
    none)
    (
    some (0, ⟨[], []⟩, H)))) fun i5 l5 H5 =>
  altN i5 0 (
  k (.tup []) H5)
  (none)) := by kernel_rfl
theorem S46 (pol : FuncId → Pol) (n : Nat) (R : Type) (k : AV → Heap → Option R) (a0 a1 : AV) (H : Heap) : callF (base.with pol) (n + 1) R 46 [a0, a1] H k =
  (withV (Go.Den.convert base 21 82 a1) fun t6 =>
  withV (A.bin base.P .leq 82 t6 (AV.int .u32 127) true H) fun t7 =>
  A.test t7 (
  withV (Go.Den.convert base 21 5 a1) fun t10 =>
   withL (A.fillElems 1 (List.replicate 1 (AV.int .u8 0)) [(0, 1, t10)]) fun es =>
   bindV (.sl H.length 0 0 es.length es.length) fun t11 => bindH (H ++ [.row 0 1 5 es]) fun H1 =>
   withL (newsZ base 1 1 (AV.int .u8 0) 35 t11 H1) fun es =>
   withVH (A.append 1 1 5 a0 es H1) fun t12 H2 =>
   k t12 H2)
  (
  cl base pol n 60 [a0, a1] H fun t15 H3 =>
  k t15 H3)) := by kernel_rfl
end Go.Proofs.YtdkjednjlpcboaaDoor

/- What each function does, in Den's words. -/
set_option maxRecDepth 100000
namespace Go.Proofs.YtdkjednjlpcboaaDoor
open Go Go.Den
theorem S48 (pol : FuncId → Pol) (n : Nat) (R : Type) (k : AV → Heap → Option R) (a0 : AV) (H : Heap) : callF (base.with pol) (n + 1) R 48 [a0] H k =
  (withV (A.bin base.P .geq 21 a0 (AV.int .i32 97) true H) fun t4 =>
  withB (A.asG true t4) fun b3 => withP (guardB b3 true (
   some (a0, H))
   (some (.tup [], H))) fun t6 H1 =>
  withB (A.asG true t4) fun b4 => withP (guardB b4 true (
   withV (A.bin base.P .leq 21 t6 (AV.int .i32 122) true H1) fun t7 =>
   some (t7, H1))
   (some (.tup [], H1))) fun t7 H2 =>
  withV (A.pick t4 t7 (AV.bool false)) fun t8 =>
  k t8 H2) := by kernel_rfl
theorem S49 (pol : FuncId → Pol) (n : Nat) (R : Type) (k : AV → Heap → Option R) (a0 : AV) (H : Heap) : callF (base.with pol) (n + 1) R 49 [a0] H k =
  (cl base pol n 48 [a0] H fun t4 H1 =>
  withB (A.asG false t4) fun b3 => withP (guardB b3 false (
   some (a0, H1))
   (some (.tup [], H1))) fun t6 H2 =>
  withB (A.asG false t4) fun b4 => withP (guardB b4 false (
   withV (A.bin base.P .geq 21 t6 (AV.int .i32 65) true H2) fun t7 =>
   some (t7, H2))
   (some (.tup [], H2))) fun t7 H3 =>
  withB (A.asG false t4) fun b5 => withP (guardB b5 false (
   some (t7, H3))
   (some (.tup [], H3))) fun t8 H4 =>
  withB (A.asG true t8) fun b6 => withP (guardB b6 true (
   some (a0, H4))
   (some (.tup [], H4))) fun t9 H5 =>
  withB (A.asG true t8) fun b7 => withP (guardB b7 true (
   withV (A.bin base.P .leq 21 t9 (AV.int .i32 90) true H5) fun t10 =>
   some (t10, H5))
   (some (.tup [], H5))) fun t10 H6 =>
  withB (A.asG false t4) fun b8 => withP (guardB b8 false (
   withV (A.pick t8 t10 (AV.bool false)) fun t11 =>
   some (t11, H6))
   (some (.tup [], H6))) fun t11 H7 =>
  withV (A.pick t4 (AV.bool true) t11) fun t12 =>
  withB (A.asG false t12) fun b11 => withP (guardB b11 false (
   some (a0, H7))
   (some (.tup [], H7))) fun t14 H8 =>
  withB (A.asG false t12) fun b12 => withP (guardB b12 false (
   withV (A.bin base.P .geq 21 t14 (AV.int .i32 48) true H8) fun t15 =>
   some (t15, H8))
   (some (.tup [], H8))) fun t15 H9 =>
  withB (A.asG false t12) fun b13 => withP (guardB b13 false (
   some (t15, H9))
   (some (.tup [], H9))) fun t16 H10 =>
  withB (A.asG true t16) fun b14 => withP (guardB b14 true (
   some (a0, H10))
   (some (.tup [], H10))) fun t17 H11 =>
  withB (A.asG true t16) fun b15 => withP (guardB b15 true (
   withV (A.bin base.P .leq 21 t17 (AV.int .i32 57) true H11) fun t18 =>
   some (t18, H11))
   (some (.tup [], H11))) fun t18 H12 =>
  withB (A.asG false t12) fun b16 => withP (guardB b16 false (
   withV (A.pick t16 t18 (AV.bool false)) fun t19 =>
   some (t19, H12))
   (some (.tup [], H12))) fun t19 H13 =>
  withV (A.pick t12 (AV.bool true) t19) fun t20 =>
  withB (A.asG false t20) fun b19 => withP (guardB b19 false (
   some (a0, H13))
   (some (.tup [], H13))) fun t22 H14 =>
  withB (A.asG false t20) fun b20 => withP (guardB b20 false (
   withV (A.bin base.P .eql 21 t22 (AV.int .i32 95) true H14) fun t23 =>
   some (t23, H14))
   (some (.tup [], H14))) fun t23 H15 =>
  withV (A.pick t20 (AV.bool true) t23) fun t24 =>
  withB (A.asG false t24) fun b23 => withP (guardB b23 false (
   some (a0, H15))
   (some (.tup [], H15))) fun t26 H16 =>
  withB (A.asG false t24) fun b24 => withP (guardB b24 false (
   withV (A.bin base.P .eql 21 t26 (AV.int .i32 64) true H16) fun t27 =>
   some (t27, H16))
   (some (.tup [], H16))) fun t27 H17 =>
  withV (A.pick t24 (AV.bool true) t27) fun t28 =>
  k t28 H17) := by kernel_rfl
theorem S51 (pol : FuncId → Pol) (n : Nat) (R : Type) (k : AV → Heap → Option R) (a0 : AV) (H : Heap) : callF (base.with pol) (n + 1) R 51 [a0] H k =
  (withV (A.lenStr a0) fun t14 =>
  withV (A.bin base.P .lss 3 t14 (AV.int .i64 1) true H) fun t16 =>
  A.test t16 (
  k (.tup [(AV.int .i32 65533), (AV.int .i64 0)]) H)
  (
  withV (A.index a0 (AV.int .i64 0)) fun t18 =>
  withV (A.idxArr 1 256 (globV base 0) t18 H) fun t20 =>
  withV (A.load false 1 t20 H) fun t21 =>
  withV (A.bin base.P .geq 5 t21 (AV.int .u8 240) true H) fun t23 =>
  A.test t23 (
  withV (Go.Den.convert base 5 21 t21) fun t25 =>
   withV (A.bin base.P .shl 21 t25 (AV.int .u64 31) true H) fun t26 =>
   withV (A.bin base.P .shr 21 t26 (AV.int .u64 31) true H) fun t27 =>
   withV (A.index a0 (AV.int .i64 0)) fun t29 =>
   withV (Go.Den.convert base 5 21 t29) fun t30 =>
   withV (A.bin base.P .andNot 21 t30 t27 false H) fun t32 =>
   withV (A.bin base.P .and 21 (AV.int .i32 65533) t27 false H) fun t34 =>
   withV (A.bin base.P .or 21 t32 t34 false H) fun t35 =>
   k (.tup [t35, (AV.int .i64 1)]) H)
  (
  withV (A.bin base.P .and 5 t21 (AV.int .u8 7) true H) fun t37 =>
  withV (Go.Den.convert base 5 3 t37) fun t38 =>
  withV (A.bin base.P .shr 5 t21 (AV.int .u64 4) true H) fun t40 =>
  withV (A.idxArr 2 16 (globV base 1) t40 H) fun t41 =>
  withV (A.load true 2 t41 H) fun t42 =>
  bindV (.ptr H.length 0 0 0) fun t9 => bindH (H ++ [.row 0 2 69 [(AV.agg [(AV.int .u8 0), (AV.int .u8 0)])]]) fun H2 =>
  withH (A.store 2 t9 t42 H2) fun H3 =>
  withV (A.bin base.P .lss 3 t14 t38 false H3) fun t45 =>
  A.test t45 (
  k (.tup [(AV.int .i32 65533), (AV.int .i64 1)]) H3)
  (
  withV (A.index a0 (AV.int .i64 1)) fun t47 =>
  withV (A.fa 0 t9 H3) fun t49 =>
  withV (A.load false 1 t49 H3) fun t50 =>
  withV (A.bin base.P .lss 5 t47 t50 false H3) fun t51 =>
  withB (A.asG false t51) fun b5 => withP (guardB b5 false (
   withV (A.fa 1 t9 H3) fun t53 =>
   some (t53, H3))
   (some (.tup [], H3))) fun t53 H4 =>
  withB (A.asG false t51) fun b6 => withP (guardB b6 false (
   withV (A.load false 1 t53 H4) fun t54 =>
   some (t54, H4))
   (some (.tup [], H4))) fun t54 H5 =>
  withB (A.asG false t51) fun b7 => withP (guardB b7 false (
   some (t47, H5))
   (some (.tup [], H5))) fun t55 H6 =>
  withB (A.asG false t51) fun b8 => withP (guardB b8 false (
   withV (A.bin base.P .lss 5 t54 t55 false H6) fun t56 =>
   some (t56, H6))
   (some (.tup [], H6))) fun t56 H7 =>
  withV (A.pick t51 (AV.bool true) t56) fun t57 =>
  A.test t57 (
  k (.tup [(AV.int .i32 65533), (AV.int .i64 1)]) H7)
  (
  withV (A.bin base.P .leq 3 t38 (AV.int .i64 2) true H7) fun t59 =>
  A.test t59 (
  withV (A.bin base.P .and 5 t18 (AV.int .u8 31) true H7) fun t61 =>
   withV (Go.Den.convert base 5 21 t61) fun t62 =>
   withV (A.bin base.P .shl 21 t62 (AV.int .u64 6) true H7) fun t63 =>
   withV (A.bin base.P .and 5 t47 (AV.int .u8 63) true H7) fun t65 =>
   withV (Go.Den.convert base 5 21 t65) fun t66 =>
   withV (A.bin base.P .or 21 t63 t66 false H7) fun t67 =>
   k (.tup [t67, (AV.int .i64 2)]) H7)
  (
  withV (A.index a0 (AV.int .i64 2)) fun t69 =>
  withV (A.bin base.P .lss 5 t69 (AV.int .u8 128) true H7) fun t71 =>
  withB (A.asG false t71) fun b3 => withP (guardB b3 false (
   some (t69, H7))
   (some (.tup [], H7))) fun t73 H8 =>
  withB (A.asG false t71) fun b4 => withP (guardB b4 false (
   withV (A.bin base.P .lss 5 (AV.int .u8 191) t73 false H8) fun t74 =>
   some (t74, H8))
   (some (.tup [], H8))) fun t74 H9 =>
  withV (A.pick t71 (AV.bool true) t74) fun t75 =>
  A.test t75 (
  k (.tup [(AV.int .i32 65533), (AV.int .i64 1)]) H9)
  (
  withV (A.bin base.P .leq 3 t38 (AV.int .i64 3) true H9) fun t77 =>
  A.test t77 (
  withV (A.bin base.P .and 5 t18 (AV.int .u8 15) true H9) fun t79 =>
   withV (Go.Den.convert base 5 21 t79) fun t80 =>
   withV (A.bin base.P .shl 21 t80 (AV.int .u64 12) true H9) fun t81 =>
   withV (A.bin base.P .and 5 t47 (AV.int .u8 63) true H9) fun t83 =>
   withV (Go.Den.convert base 5 21 t83) fun t84 =>
   withV (A.bin base.P .shl 21 t84 (AV.int .u64 6) true H9) fun t85 =>
   withV (A.bin base.P .or 21 t81 t85 false H9) fun t86 =>
   withV (A.bin base.P .and 5 t69 (AV.int .u8 63) true H9) fun t88 =>
   withV (Go.Den.convert base 5 21 t88) fun t89 =>
   withV (A.bin base.P .or 21 t86 t89 false H9) fun t90 =>
   k (.tup [t90, (AV.int .i64 3)]) H9)
  (
  withV (A.index a0 (AV.int .i64 3)) fun t92 =>
  withV (A.bin base.P .lss 5 t92 (AV.int .u8 128) true H9) fun t94 =>
  withB (A.asG false t94) fun b3 => withP (guardB b3 false (
   some (t92, H9))
   (some (.tup [], H9))) fun t96 H10 =>
  withB (A.asG false t94) fun b4 => withP (guardB b4 false (
   withV (A.bin base.P .lss 5 (AV.int .u8 191) t96 false H10) fun t97 =>
   some (t97, H10))
   (some (.tup [], H10))) fun t97 H11 =>
  withV (A.pick t94 (AV.bool true) t97) fun t98 =>
  A.test t98 (
  k (.tup [(AV.int .i32 65533), (AV.int .i64 1)]) H11)
  (
  withV (A.bin base.P .and 5 t18 (AV.int .u8 7) true H11) fun t100 =>
  withV (Go.Den.convert base 5 21 t100) fun t101 =>
  withV (A.bin base.P .shl 21 t101 (AV.int .u64 18) true H11) fun t102 =>
  withV (A.bin base.P .and 5 t47 (AV.int .u8 63) true H11) fun t104 =>
  withV (Go.Den.convert base 5 21 t104) fun t105 =>
  withV (A.bin base.P .shl 21 t105 (AV.int .u64 12) true H11) fun t106 =>
  withV (A.bin base.P .or 21 t102 t106 false H11) fun t107 =>
  withV (A.bin base.P .and 5 t69 (AV.int .u8 63) true H11) fun t109 =>
  withV (Go.Den.convert base 5 21 t109) fun t110 =>
  withV (A.bin base.P .shl 21 t110 (AV.int .u64 6) true H11) fun t111 =>
  withV (A.bin base.P .or 21 t107 t111 false H11) fun t112 =>
  withV (A.bin base.P .and 5 t92 (AV.int .u8 63) true H11) fun t114 =>
  withV (Go.Den.convert base 5 21 t114) fun t115 =>
  withV (A.bin base.P .or 21 t112 t115 false H11) fun t116 =>
  k (.tup [t116, (AV.int .i64 4)]) H11))))))))) := by kernel_rfl
theorem S54 (pol : FuncId → Pol) (n : Nat) (R : Type) (k : AV → Heap → Option R) (a0 a1 : AV) (H : Heap) : callF (base.with pol) (n + 1) R 54 [a0, a1] H k =
  (withV (A.lenStr a0) fun t6 =>
  withV (A.lenStr a1) fun t8 =>
  withV (A.bin base.P .geq 3 t6 t8 false H) fun t9 =>
  withB (A.asG true t9) fun b6 => withP (guardB b6 true (
   some (a0, H))
   (some (.tup [], H))) fun t11 H3 =>
  withB (A.asG true t9) fun b7 => withP (guardB b7 true (
   some (a1, H3))
   (some (.tup [], H3))) fun t12 H4 =>
  withB (A.asG true t9) fun b8 => withP (guardB b8 true (
   withV (A.lenStr t12) fun t13 =>
   some (t13, H4))
   (some (.tup [], H4))) fun t13 H6 =>
  withB (A.asG true t9) fun b9 => withP (guardB b9 true (
   withV (A.sliceStr t11 none (some t13)) fun t14 =>
   some (t14, H6))
   (some (.tup [], H6))) fun t14 H7 =>
  withB (A.asG true t9) fun b10 => withP (guardB b10 true (
   some (a1, H7))
   (some (.tup [], H7))) fun t15 H8 =>
  withB (A.asG true t9) fun b11 => withP (guardB b11 true (
   withV (A.bin base.P .eql 9 t14 t15 false H8) fun t16 =>
   some (t16, H8))
   (some (.tup [], H8))) fun t16 H9 =>
  withV (A.pick t9 t16 (AV.bool false)) fun t17 =>
  k t17 H9) := by kernel_rfl
theorem S55 (pol : FuncId → Pol) (n : Nat) (R : Type) (k : AV → Heap → Option R) (a0 : AV) (H : Heap) : callF (base.with pol) (n + 1) R 55 [a0] H k =
  (withV (nilC base.P a0 H) fun t7 =>
  withV (A.fa 1 t7 H) fun t8 =>
  withV (A.load false 1 t8 H) fun t9 =>
  withV (nilC base.P a0 H) fun t11 =>
  withV (A.fa 0 t11 H) fun t12 =>
  withV (A.load false 1 t12 H) fun t13 =>
  withV (A.lenStr t13) fun t14 =>
  withV (A.bin base.P .geq 3 t9 t14 false H) fun t15 =>
  A.test t15 (
  k (.tup [(AV.int .i32 0), (AV.bool false)]) H)
  (
  withV (nilC base.P a0 H) fun t18 =>
  withV (A.fa 0 t18 H) fun t19 =>
  withV (A.load false 1 t19 H) fun t20 =>
  withV (nilC base.P a0 H) fun t22 =>
  withV (A.fa 1 t22 H) fun t23 =>
  withV (A.load false 1 t23 H) fun t24 =>
  withV (A.sliceStr t20 (some t24) none) fun t25 =>
  clQ base pol 33 [t25] H fun t26 H2 =>
  q07 t26 0 fun t27 =>
  q07 t26 1 fun t28 =>
  withV (nilC base.P a0 H2) fun t30 =>
  withV (A.fa 1 t30 H2) fun t31 =>
  withV (A.load false 1 t31 H2) fun t32 =>
  withV (A.bin base.P .add 3 t32 t28 false H2) fun t34 =>
  withV (nilC base.P a0 H2) fun t35 =>
  withV (A.fa 1 t35 H2) fun t36 =>
  withH (A.store 1 t36 t34 H2) fun H3 =>
  k (.tup [t27, (AV.bool true)]) H3)) := by kernel_rfl
theorem S56 (pol : FuncId → Pol) (n : Nat) (R : Type) (k : AV → Heap → Option R) (a0 : AV) (H : Heap) : callF (base.with pol) (n + 1) R 56 [a0] H k =
  (cl base pol n 55 [a0] H fun t8 H1 =>
  q07 t8 0 fun t9 =>
  q07 t8 1 fun t10 =>
  withV (A.un .not t10) fun t13 =>
  A.test t13 (
  k (.tup [(AV.int .i32 0), (AV.int .i64 2)]) H1)
  (
  withV (A.bin base.P .eql 21 t9 (AV.int .i32 39) true H1) fun t16 =>
   withB (A.asG false t16) fun b3 => withP (guardB b3 false (
    some (t9, H1))
    (some (.tup [], H1))) fun t18 H2 =>
   withB (A.asG false t16) fun b4 => withP (guardB b4 false (
    withV (A.bin base.P .eql 21 t18 (AV.int .i32 92) true H2) fun t19 =>
    some (t19, H2))
    (some (.tup [], H2))) fun t19 H3 =>
   withV (A.pick t16 (AV.bool true) t19) fun t20 =>
   A.test t20 (
   k (.tup [t9, (AV.int .i64 0)]) H3)
   (
   withV (A.bin base.P .eql 21 t9 (AV.int .i32 110) true H3) fun t24 =>
    A.test t24 (
    k (.tup [(AV.int .i32 10), (AV.int .i64 0)]) H3)
    (
    withV (A.bin base.P .eql 21 t9 (AV.int .i32 120) true H3) fun t27 =>
     A.test t27 (
     cl base pol n 65 [a0] H3 fun t29 H4 =>
      q07 t29 0 fun t30 =>
      q07 t29 1 fun t31 =>
      k (.tup [t30, t31]) H4)
     (
     k (.tup [(AV.int .i32 0), (AV.int .i64 4)]) H3))))) := by kernel_rfl
theorem S57 (pol : FuncId → Pol) (n : Nat) (R : Type) (k : AV → Heap → Option R) (a0 : AV) (H : Heap) : callF (base.with pol) (n + 1) R 57 [a0] H k =
  (withV (A.bin base.P .geq 21 a0 (AV.int .i32 48) true H) fun t5 =>
  withB (A.asG true t5) fun b3 => withP (guardB b3 true (
   some (a0, H))
   (some (.tup [], H))) fun t7 H1 =>
  withB (A.asG true t5) fun b4 => withP (guardB b4 true (
   withV (A.bin base.P .leq 21 t7 (AV.int .i32 57) true H1) fun t8 =>
   some (t8, H1))
   (some (.tup [], H1))) fun t8 H2 =>
  withV (A.pick t5 t8 (AV.bool false)) fun t9 =>
  A.test t9 (
  withV (A.bin base.P .sub 21 a0 (AV.int .i32 48) true H2) fun t11 =>
   withV (Go.Den.convert base 21 3 t11) fun t12 =>
   k t12 H2)
  (
  withV (A.bin base.P .geq 21 a0 (AV.int .i32 97) true H2) fun t15 =>
   withB (A.asG true t15) fun b3 => withP (guardB b3 true (
    some (a0, H2))
    (some (.tup [], H2))) fun t17 H3 =>
   withB (A.asG true t15) fun b4 => withP (guardB b4 true (
    withV (A.bin base.P .leq 21 t17 (AV.int .i32 102) true H3) fun t18 =>
    some (t18, H3))
    (some (.tup [], H3))) fun t18 H4 =>
   withV (A.pick t15 t18 (AV.bool false)) fun t19 =>
   A.test t19 (
   withV (A.bin base.P .sub 21 a0 (AV.int .i32 97) true H4) fun t21 =>
    withV (Go.Den.convert base 21 3 t21) fun t22 =>
    withV (A.bin base.P .add 3 t22 (AV.int .i64 10) true H4) fun t23 =>
    k t23 H4)
   (
   withV (A.bin base.P .geq 21 a0 (AV.int .i32 65) true H4) fun t26 =>
    withB (A.asG true t26) fun b3 => withP (guardB b3 true (
     some (a0, H4))
     (some (.tup [], H4))) fun t28 H5 =>
    withB (A.asG true t26) fun b4 => withP (guardB b4 true (
     withV (A.bin base.P .leq 21 t28 (AV.int .i32 70) true H5) fun t29 =>
     some (t29, H5))
     (some (.tup [], H5))) fun t29 H6 =>
    withV (A.pick t26 t29 (AV.bool false)) fun t30 =>
    A.test t30 (
    withV (A.bin base.P .sub 21 a0 (AV.int .i32 65) true H6) fun t32 =>
     withV (Go.Den.convert base 21 3 t32) fun t33 =>
     withV (A.bin base.P .add 3 t33 (AV.int .i64 10) true H6) fun t34 =>
     k t34 H6)
    (
    k (AV.int .i64 (-1)) H6)))) := by kernel_rfl
theorem S58 (pol : FuncId → Pol) (n : Nat) (R : Type) (k : AV → Heap → Option R) (a0 : AV) (H : Heap) : callF (base.with pol) (n + 1) R 58 [a0] H k =
  (withV (A.bin base.P .leq 21 (AV.int .i32 0) a0 false H) fun t5 =>
  withB (A.asG true t5) fun b3 => withP (guardB b3 true (
   some (a0, H))
   (some (.tup [], H))) fun t7 H1 =>
  withB (A.asG true t5) fun b4 => withP (guardB b4 true (
   withV (A.bin base.P .lss 21 t7 (AV.int .i32 55296) true H1) fun t8 =>
   some (t8, H1))
   (some (.tup [], H1))) fun t8 H2 =>
  withV (A.pick t5 t8 (AV.bool false)) fun t9 =>
  A.test t9 (
  k (AV.bool true) H2)
  (
  withV (A.bin base.P .lss 21 (AV.int .i32 57343) a0 false H2) fun t12 =>
   withB (A.asG true t12) fun b3 => withP (guardB b3 true (
    some (a0, H2))
    (some (.tup [], H2))) fun t14 H3 =>
   withB (A.asG true t12) fun b4 => withP (guardB b4 true (
    withV (A.bin base.P .leq 21 t14 (AV.int .i32 1114111) true H3) fun t15 =>
    some (t15, H3))
    (some (.tup [], H3))) fun t15 H4 =>
   withV (A.pick t12 t15 (AV.bool false)) fun t16 =>
   A.test t16 (
   k (AV.bool true) H4)
   (
   k (AV.bool false) H4))) := by kernel_rfl
theorem S60 (pol : FuncId → Pol) (n : Nat) (R : Type) (k : AV → Heap → Option R) (a0 a1 : AV) (H : Heap) : callF (base.with pol) (n + 1) R 60 [a0, a1] H k =
  (withV (Go.Den.convert base 21 82 a1) fun t7 =>
  withV (A.bin base.P .leq 82 t7 (AV.int .u32 2047) true H) fun t13 =>
  A.test t13 (
  withV (A.bin base.P .shr 21 a1 (AV.int .u64 6) true H) fun t16 =>
   withV (Go.Den.convert base 21 5 t16) fun t17 =>
   withV (A.bin base.P .or 5 (AV.int .u8 192) t17 false H) fun t18 =>
   withV (Go.Den.convert base 21 5 a1) fun t20 =>
   withV (A.bin base.P .and 5 t20 (AV.int .u8 63) true H) fun t21 =>
   withV (A.bin base.P .or 5 (AV.int .u8 128) t21 false H) fun t22 =>
   withL (A.fillElems 1 (List.replicate 2 (AV.int .u8 0)) [(0, 1, t18), (1, 1, t22)]) fun es =>
   bindV (.sl H.length 0 0 es.length es.length) fun t23 => bindH (H ++ [.row 0 1 5 es]) fun H1 =>
   withL (newsZ base 1 1 (AV.int .u8 0) 35 t23 H1) fun es =>
   withVH (A.append 1 1 5 a0 es H1) fun t24 H2 =>
   k t24 H2)
  (
  withV (A.bin base.P .lss 82 t7 (AV.int .u32 55296) true H) fun t27 =>
   bindX (A.test t27 (
    some (0, ⟨[a0, a1, t7, t27], []⟩, H))
    (
    withV (A.bin base.P .lss 82 (AV.int .u32 57343) t7 false H) fun t29 =>
     withB (A.asG true t29) fun b3 => withP (guardB b3 true (
      some (t7, H))
      (some (.tup [], H))) fun t31 H3 =>
     withB (A.asG true t29) fun b4 => withP (guardB b4 true (
      withV (A.bin base.P .leq 82 t31 (AV.int .u32 65535) true H3) fun t32 =>
      some (t32, H3))
      (some (.tup [], H3))) fun t32 H4 =>
     withV (A.pick t29 t32 (AV.bool false)) fun t33 =>
     some (0, ⟨[a0, a1, t7, t33], []⟩, H4))) fun i5 l5 H5 =>
   altN i5 0 (
   bindV (l5.vs.getD 0 .undef) fun t0 => bindV (l5.vs.getD 1 .undef) fun t1 => bindV (l5.vs.getD 2 .undef) fun t5 => bindV (l5.vs.getD 3 .undef) fun t25 => 
   A.test t25 (
   withV (A.bin base.P .shr 21 t1 (AV.int .u64 12) true H5) fun t36 =>
    withV (Go.Den.convert base 21 5 t36) fun t37 =>
    withV (A.bin base.P .or 5 (AV.int .u8 224) t37 false H5) fun t38 =>
    withV (A.bin base.P .shr 21 t1 (AV.int .u64 6) true H5) fun t40 =>
    withV (Go.Den.convert base 21 5 t40) fun t41 =>
    withV (A.bin base.P .and 5 t41 (AV.int .u8 63) true H5) fun t42 =>
    withV (A.bin base.P .or 5 (AV.int .u8 128) t42 false H5) fun t43 =>
    withV (Go.Den.convert base 21 5 t1) fun t45 =>
    withV (A.bin base.P .and 5 t45 (AV.int .u8 63) true H5) fun t46 =>
    withV (A.bin base.P .or 5 (AV.int .u8 128) t46 false H5) fun t47 =>
    withL (A.fillElems 1 (List.replicate 3 (AV.int .u8 0)) [(0, 1, t38), (1, 1, t43), (2, 1, t47)]) fun es =>
    bindV (.sl H5.length 0 0 es.length es.length) fun t48 => bindH (H5 ++ [.row 0 1 5 es]) fun H6 =>
    withL (newsZ base 1 1 (AV.int .u8 0) 35 t48 H6) fun es =>
    withVH (A.append 1 1 5 t0 es H6) fun t49 H7 =>
    k t49 H7)
   (
   withV (A.bin base.P .gtr 82 t5 (AV.int .u32 65535) true H5) fun t52 =>
    withB (A.asG true t52) fun b3 => withP (guardB b3 true (
     some (t5, H5))
     (some (.tup [], H5))) fun t54 H8 =>
    withB (A.asG true t52) fun b4 => withP (guardB b4 true (
     withV (A.bin base.P .leq 82 t54 (AV.int .u32 1114111) true H8) fun t55 =>
     some (t55, H8))
     (some (.tup [], H8))) fun t55 H9 =>
    withV (A.pick t52 t55 (AV.bool false)) fun t56 =>
    A.test t56 (
    withV (A.bin base.P .shr 21 t1 (AV.int .u64 18) true H9) fun t59 =>
     withV (Go.Den.convert base 21 5 t59) fun t60 =>
     withV (A.bin base.P .or 5 (AV.int .u8 240) t60 false H9) fun t61 =>
     withV (A.bin base.P .shr 21 t1 (AV.int .u64 12) true H9) fun t63 =>
     withV (Go.Den.convert base 21 5 t63) fun t64 =>
     withV (A.bin base.P .and 5 t64 (AV.int .u8 63) true H9) fun t65 =>
     withV (A.bin base.P .or 5 (AV.int .u8 128) t65 false H9) fun t66 =>
     withV (A.bin base.P .shr 21 t1 (AV.int .u64 6) true H9) fun t68 =>
     withV (Go.Den.convert base 21 5 t68) fun t69 =>
     withV (A.bin base.P .and 5 t69 (AV.int .u8 63) true H9) fun t70 =>
     withV (A.bin base.P .or 5 (AV.int .u8 128) t70 false H9) fun t71 =>
     withV (Go.Den.convert base 21 5 t1) fun t73 =>
     withV (A.bin base.P .and 5 t73 (AV.int .u8 63) true H9) fun t74 =>
     withV (A.bin base.P .or 5 (AV.int .u8 128) t74 false H9) fun t75 =>
     withL (A.fillElems 1 (List.replicate 4 (AV.int .u8 0)) [(0, 1, t61), (1, 1, t66), (2, 1, t71), (3, 1, t75)]) fun es =>
     bindV (.sl H9.length 0 0 es.length es.length) fun t76 => bindH (H9 ++ [.row 0 1 5 es]) fun H10 =>
     withL (newsZ base 1 1 (AV.int .u8 0) 35 t76 H10) fun es =>
     withVH (A.append 1 1 5 t0 es H10) fun t77 H11 =>
     k t77 H11)
    (
    withL (A.fillElems 1 (List.replicate 3 (AV.int .u8 0)) [(0, 1, (AV.int .u8 239)), (1, 1, (AV.int .u8 191)), (2, 1, (AV.int .u8 189))]) fun es =>
     bindV (.sl H9.length 0 0 es.length es.length) fun t9 => bindH (H9 ++ [.row 0 1 5 es]) fun H12 =>
     withL (newsZ base 1 1 (AV.int .u8 0) 35 t9 H12) fun es =>
     withVH (A.append 1 1 5 t0 es H12) fun t10 H13 =>
     k t10 H13)))
   (none))) := by kernel_rfl
end Go.Proofs.YtdkjednjlpcboaaDoor

/- What each function does, in Den's words. -/
set_option maxRecDepth 100000
namespace Go.Proofs.YtdkjednjlpcboaaDoor
open Go Go.Den
theorem q1s (pol : FuncId → Pol) (n m : Nat) (t0 t4 t5 : AV) (H : Heap) : qff pol n (m + 1) ⟨[t0, t4, t5], []⟩ H =
  (cl base pol n 55 [t0] H fun t13 H1 =>
  q07 t13 0 fun t14 =>
  q07 t13 1 fun t15 =>
  withV (A.un .not t15) fun t17 =>
  A.test t17 (
  some (0, ⟨[(AV.int .i32 0), (AV.int .i64 2)], []⟩, H1))
  (
  withV (A.bin base.P .eql 21 t14 (AV.int .i32 59) true H1) fun t19 =>
  withB (A.asG true t19) fun b3 => withP (guardB b3 true (
   some (t5, H1))
   (some (.tup [], H1))) fun t21 H2 =>
  withB (A.asG true t19) fun b4 => withP (guardB b4 true (
   withV (A.bin base.P .gtr 3 t21 (AV.int .i64 0) true H2) fun t22 =>
   some (t22, H2))
   (some (.tup [], H2))) fun t22 H3 =>
  withV (A.pick t19 t22 (AV.bool false)) fun t23 =>
  withB (A.asG true t23) fun b7 => withP (guardB b7 true (
   some (t4, H3))
   (some (.tup [], H3))) fun t25 H4 =>
  withB (A.asG true t23) fun b8 => withP (guardB b8 true (
   cl base pol n 58 [t25] H4 fun t26 H5 =>
   some (t26, H5))
   (some (.tup [], H4))) fun t26 H6 =>
  withV (A.pick t23 t26 (AV.bool false)) fun t27 =>
  A.test t27 (
  some (0, ⟨[t4, (AV.int .i64 0)], []⟩, H6))
  (
  cl base pol n 71 [t14] H6 fun t30 H7 =>
  withV (A.bin base.P .lss 21 t30 (AV.int .i32 0) true H7) fun t32 =>
  withB (A.asG false t32) fun b3 => withP (guardB b3 false (
   some (t5, H7))
   (some (.tup [], H7))) fun t34 H8 =>
  withB (A.asG false t32) fun b4 => withP (guardB b4 false (
   withV (A.bin base.P .geq 3 t34 (AV.int .i64 6) true H8) fun t35 =>
   some (t35, H8))
   (some (.tup [], H8))) fun t35 H9 =>
  withV (A.pick t32 (AV.bool true) t35) fun t36 =>
  A.test t36 (
  some (0, ⟨[(AV.int .i32 0), (AV.int .i64 4)], []⟩, H9))
  (
  withV (A.bin base.P .shl 21 t4 (AV.int .u64 4) true H9) fun t38 =>
  withV (A.bin base.P .or 21 t38 t30 false H9) fun t40 =>
  withV (A.bin base.P .add 3 t5 (AV.int .i64 1) true H9) fun t10 =>
  qff pol n m ⟨[t0, t40, t10], []⟩ H9)))) := by kernel_rfl
theorem S65 (pol : FuncId → Pol) (n : Nat) (R : Type) (k : AV → Heap → Option R) (a0 : AV) (H : Heap) : callF (base.with pol) (n + 1) R 65 [a0] H k =
  (bindX (qff pol n n ⟨[a0, (AV.int .i32 0), (AV.int .i64 0)], []⟩ H) fun i1 l1 H1 =>
  altN i1 0 (
  bindV (l1.vs.getD 0 .undef) fun t2 => bindV (l1.vs.getD 1 .undef) fun t3 => 
  k (.tup [t2, t3]) H1)
  (none)) := by kernel_rfl
theorem S71 (pol : FuncId → Pol) (n : Nat) (R : Type) (k : AV → Heap → Option R) (a0 : AV) (H : Heap) : callF (base.with pol) (n + 1) R 71 [a0] H k =
  (withV (A.bin base.P .geq 21 a0 (AV.int .i32 48) true H) fun t5 =>
  withB (A.asG true t5) fun b3 => withP (guardB b3 true (
   some (a0, H))
   (some (.tup [], H))) fun t7 H1 =>
  withB (A.asG true t5) fun b4 => withP (guardB b4 true (
   withV (A.bin base.P .leq 21 t7 (AV.int .i32 57) true H1) fun t8 =>
   some (t8, H1))
   (some (.tup [], H1))) fun t8 H2 =>
  withV (A.pick t5 t8 (AV.bool false)) fun t9 =>
  A.test t9 (
  withV (A.bin base.P .sub 21 a0 (AV.int .i32 48) true H2) fun t11 =>
   k t11 H2)
  (
  withV (A.bin base.P .geq 21 a0 (AV.int .i32 97) true H2) fun t14 =>
   withB (A.asG true t14) fun b3 => withP (guardB b3 true (
    some (a0, H2))
    (some (.tup [], H2))) fun t16 H3 =>
   withB (A.asG true t14) fun b4 => withP (guardB b4 true (
    withV (A.bin base.P .leq 21 t16 (AV.int .i32 102) true H3) fun t17 =>
    some (t17, H3))
    (some (.tup [], H3))) fun t17 H4 =>
   withV (A.pick t14 t17 (AV.bool false)) fun t18 =>
   A.test t18 (
   withV (A.bin base.P .sub 21 a0 (AV.int .i32 97) true H4) fun t20 =>
    withV (A.bin base.P .add 21 t20 (AV.int .i32 10) true H4) fun t21 =>
    k t21 H4)
   (
   withV (A.bin base.P .geq 21 a0 (AV.int .i32 65) true H4) fun t24 =>
    withB (A.asG true t24) fun b3 => withP (guardB b3 true (
     some (a0, H4))
     (some (.tup [], H4))) fun t26 H5 =>
    withB (A.asG true t24) fun b4 => withP (guardB b4 true (
     withV (A.bin base.P .leq 21 t26 (AV.int .i32 70) true H5) fun t27 =>
     some (t27, H5))
     (some (.tup [], H5))) fun t27 H6 =>
    withV (A.pick t24 t27 (AV.bool false)) fun t28 =>
    A.test t28 (
    withV (A.bin base.P .sub 21 a0 (AV.int .i32 65) true H6) fun t30 =>
     withV (A.bin base.P .add 21 t30 (AV.int .i32 10) true H6) fun t31 =>
     k t31 H6)
    (
    k (AV.int .i32 (-1)) H6)))) := by kernel_rfl
end Go.Proofs.YtdkjednjlpcboaaDoor

/- What each function does, in Den's words. -/

/- Texts: bits; eight bytes as a word; the tables of what begins a sign. -/
set_option maxRecDepth 100000
set_option maxHeartbeats 4000000
namespace Go.Proofs.YtdkjednjlpcboaaDoor
open Go Go.Den Go.Lib
/-! ### bits -/
def andI (k : IntKind) (a b : Int) : Int := k.wrap ((BitVec.ofInt k.bits a &&& BitVec.ofInt k.bits b).toNat : Int)
def orI (k : IntKind) (a b : Int) : Int := k.wrap ((BitVec.ofInt k.bits a ||| BitVec.ofInt k.bits b).toNat : Int)
theorem q0h {P : Program} {t : TypeId} {k : IntKind} {a b : Int} {c : Bool} {H : Heap} : A.bin P .and t (.int k a) (.int k b) c H = some (.int k (andI k a b)) := by
  simp [A.bin, A.binInt, A.bits, andI]
theorem q39 {P : Program} {t : TypeId} {k : IntKind} {a b : Int} {c : Bool} {H : Heap} : A.bin P .or t (.int k a) (.int k b) c H = some (.int k (orI k a b)) := by
  simp [A.bin, A.binInt, A.bits, orI]
theorem q6t {a b : Nat} (ha : a < 18446744073709551616) (hb : b < 18446744073709551616) : andI .u64 (a : Int) (b : Int) = ((a &&& b : Nat) : Int) := by
  unfold andI
  rw [show IntKind.bits .u64 = 64 from rfl, BitVec.toNat_and]
  simp
  rw [Nat.mod_eq_of_lt ha, Nat.mod_eq_of_lt hb]
  have := Nat.and_le_left (n := a) (m := b)
  exact q3l (by omega) (by omega)
theorem qdt {a b : Nat} (ha : a < 18446744073709551616) (hb : b < 18446744073709551616) : orI .u64 (a : Int) (b : Int) = ((a ||| b : Nat) : Int) := by
  unfold orI
  rw [show IntKind.bits .u64 = 64 from rfl, BitVec.toNat_or]
  simp
  rw [Nat.mod_eq_of_lt ha, Nat.mod_eq_of_lt hb]
  have : a ||| b < 2 ^ 64 := Nat.or_lt_two_pow (by simpa using ha) (by simpa using hb)
  exact q3l (by omega) (by omega)
theorem qe8 {a : Nat} (h : a < 256) : IntKind.wrap .u8 (a : Int) = a := by
  simp [IntKind.wrap, IntKind.bits, IntKind.signed]
  omega
theorem qj7 {a b : Nat} (ha : a < 256) (hb : b < 256) : andI .u8 (a : Int) (b : Int) = ((a &&& b : Nat) : Int) := by
  unfold andI
  rw [show IntKind.bits .u8 = 8 from rfl, BitVec.toNat_and]
  simp
  rw [Nat.mod_eq_of_lt ha, Nat.mod_eq_of_lt hb]
  have := Nat.and_le_left (n := a) (m := b)
  exact qe8 (by omega)
theorem qj6 {a : Nat} (ha : a < 256) : andI .u8 (a : Int) 7 = ((a % 8 : Nat) : Int) := by
  have := qj7 (b := 7) ha (by omega)
  rw [Nat.and_two_pow_sub_one_eq_mod a 3] at this
  exact this
/-! ### texts -/
theorem q11 {s : List UInt8} {i : Nat} {k : IntKind} (h : i ≤ s.length) : A.sliceStr (.str s) (some (.int k (i : Int))) none = some (.str (s.drop i)) := by
  have e : (s.drop i).take (s.length - i) = s.drop i := List.take_of_length_le (by simp)
  simp [A.sliceStr, A.bound, h, e]
theorem q3f {s : List UInt8} : A.lenStr (.str s) = some (.int .i64 (s.length : Int)) := rfl
theorem q3d {s : List UInt8} {i : Nat} {k : IntKind} (h : i < s.length) : A.index (.str s) (.int k (i : Int)) = some (.int .u8 ((s.getD i 0).toNat : Int)) := by
  simp [A.index, h]
theorem cv_8_64 (n : Int) (j : IntKind) : Go.Den.convert base 5 65 (.int j n) = some (.int .u64 (IntKind.wrap .u64 n)) := q2c (x := .int .u8) (by kernel_rfl) (by kernel_rfl)
theorem q0q (n : Int) (j : IntKind) : Go.Den.convert base 5 3 (.int j n) = some (.int .i64 (IntKind.wrap .i64 n)) := q2c (x := .int .u8) (by kernel_rfl) (by kernel_rfl)
/-! ### eight bytes as a word -/
def wordN (s : List UInt8) : Nat := leNat (s.take 8)
theorem q3k (s : List UInt8) : wordN s < 18446744073709551616 := by
  have := leNat_lt (s.take 8)
  have h2 : (256 : Nat) ^ (s.take 8).length ≤ 256 ^ 8 := Nat.pow_le_pow_right (by omega) (by simp; omega)
  unfold wordN
  omega
noncomputable def pWord : Pol := .still (p1 cS (.int .u64) (fun s => 8 ≤ s.length) (fun s => (wordN s : Int)))
theorem kWord {R : Type} {s : List UInt8} (h : 8 ≤ s.length) {H : Heap} {k : AV → Heap → Option R} : polK pWord [.str s] H k = k (.int .u64 (wordN s : Nat)) H := by
  simp [pWord, q0i, h]
theorem okWord : PolOK base 44 pWord := still1 base_ok [] trivial fun s h => Evs.of fun n _ => by
  obtain ⟨c0, c1, c2, c3, c4, c5, c6, c7, r, rfl⟩ : ∃ c0 c1 c2 c3 c4 c5 c6 c7 r, s = c0 :: c1 :: c2 :: c3 :: c4 :: c5 :: c6 :: c7 :: r := by
    match s, h with
    | c0 :: c1 :: c2 :: c3 :: c4 :: c5 :: c6 :: c7 :: r, _ => exact ⟨c0, c1, c2, c3, c4, c5, c6, c7, r, rfl⟩
  have x0 : A.index (.str (c0 :: c1 :: c2 :: c3 :: c4 :: c5 :: c6 :: c7 :: r)) (.int .i64 0) = some (.int .u8 (c0.toNat : Int)) := rfl
  have x1 : A.index (.str (c0 :: c1 :: c2 :: c3 :: c4 :: c5 :: c6 :: c7 :: r)) (.int .i64 1) = some (.int .u8 (c1.toNat : Int)) := rfl
  have x2 : A.index (.str (c0 :: c1 :: c2 :: c3 :: c4 :: c5 :: c6 :: c7 :: r)) (.int .i64 2) = some (.int .u8 (c2.toNat : Int)) := rfl
  have x3 : A.index (.str (c0 :: c1 :: c2 :: c3 :: c4 :: c5 :: c6 :: c7 :: r)) (.int .i64 3) = some (.int .u8 (c3.toNat : Int)) := rfl
  have x4 : A.index (.str (c0 :: c1 :: c2 :: c3 :: c4 :: c5 :: c6 :: c7 :: r)) (.int .i64 4) = some (.int .u8 (c4.toNat : Int)) := rfl
  have x5 : A.index (.str (c0 :: c1 :: c2 :: c3 :: c4 :: c5 :: c6 :: c7 :: r)) (.int .i64 5) = some (.int .u8 (c5.toNat : Int)) := rfl
  have x6 : A.index (.str (c0 :: c1 :: c2 :: c3 :: c4 :: c5 :: c6 :: c7 :: r)) (.int .i64 6) = some (.int .u8 (c6.toNat : Int)) := rfl
  have x7 : A.index (.str (c0 :: c1 :: c2 :: c3 :: c4 :: c5 :: c6 :: c7 :: r)) (.int .i64 7) = some (.int .u8 (c7.toNat : Int)) := rfl
  have hw : wordN (c0 :: c1 :: c2 :: c3 :: c4 :: c5 :: c6 :: c7 :: r) = c0.toNat + 2 ^ 8 * c1.toNat + 2 ^ 16 * c2.toNat + 2 ^ 24 * c3.toNat + 2 ^ 32 * c4.toNat + 2 ^ 40 * c5.toNat + 2 ^ 48 * c6.toNat + 2 ^ 56 * c7.toNat := by
    simp only [wordN, List.take_succ_cons, List.take_zero, leNat]
    omega
  have l0 := c0.toNat_lt
  have l1 := c1.toNat_lt
  have l2 := c2.toNat_lt
  have l3 := c3.toNat_lt
  have l4 := c4.toNat_lt
  have l5 := c5.toNat_lt
  have l6 := c6.toNat_lt
  have l7 := c7.toNat_lt
  rw [hw]
  simp only [enc_cS]
  generalize (c0 :: c1 :: c2 :: c3 :: c4 :: c5 :: c6 :: c7 :: r) = s at *
  generalize c0.toNat = b0 at *
  generalize c1.toNat = b1 at *
  generalize c2.toNat = b2 at *
  generalize c3.toNat = b3 at *
  generalize c4.toNat = b4 at *
  generalize c5.toNat = b5 at *
  generalize c6.toNat = b6 at *
  generalize c7.toNat = b7 at *
  have w : ∀ b : Nat, b < 256 → IntKind.wrap .u64 (b : Int) = b := fun b hb => q3l (by omega) (by omega)
  have s1 : ∀ H, A.bin base.P .shl 65 (.int .u64 (b1 : Int)) (.int .u64 8) true H = some (.int .u64 ((2 ^ 8 * b1 : Nat) : Int)) := fun H => q4s (s := 8) (by omega) (by omega)
  have s2 : ∀ H, A.bin base.P .shl 65 (.int .u64 (b2 : Int)) (.int .u64 16) true H = some (.int .u64 ((2 ^ 16 * b2 : Nat) : Int)) := fun H => q4s (s := 16) (by omega) (by omega)
  have s3 : ∀ H, A.bin base.P .shl 65 (.int .u64 (b3 : Int)) (.int .u64 24) true H = some (.int .u64 ((2 ^ 24 * b3 : Nat) : Int)) := fun H => q4s (s := 24) (by omega) (by omega)
  have s4 : ∀ H, A.bin base.P .shl 65 (.int .u64 (b4 : Int)) (.int .u64 32) true H = some (.int .u64 ((2 ^ 32 * b4 : Nat) : Int)) := fun H => q4s (s := 32) (by omega) (by omega)
  have s5 : ∀ H, A.bin base.P .shl 65 (.int .u64 (b5 : Int)) (.int .u64 40) true H = some (.int .u64 ((2 ^ 40 * b5 : Nat) : Int)) := fun H => q4s (s := 40) (by omega) (by omega)
  have s6 : ∀ H, A.bin base.P .shl 65 (.int .u64 (b6 : Int)) (.int .u64 48) true H = some (.int .u64 ((2 ^ 48 * b6 : Nat) : Int)) := fun H => q4s (s := 48) (by omega) (by omega)
  have s7 : ∀ H, A.bin base.P .shl 65 (.int .u64 (b7 : Int)) (.int .u64 56) true H = some (.int .u64 ((2 ^ 56 * b7 : Nat) : Int)) := fun H => q4s (s := 56) (by omega) (by omega)
  have o1 := fun H => (q7o (x := b0) (y := b1) (s := 8) (by omega) (by omega) (P := base.P) (t := 65) (c := false) (H := H)).1
  have o2 := fun H => (q7o (x := b0 + 2 ^ 8 * b1) (y := b2) (s := 16) (by omega) (by omega) (P := base.P) (t := 65) (c := false) (H := H)).1
  have o3 := fun H => (q7o (x := b0 + 2 ^ 8 * b1 + 2 ^ 16 * b2) (y := b3) (s := 24) (by omega) (by omega) (P := base.P) (t := 65) (c := false) (H := H)).1
  have o4 := fun H => (q7o (x := b0 + 2 ^ 8 * b1 + 2 ^ 16 * b2 + 2 ^ 24 * b3) (y := b4) (s := 32) (by omega) (by omega) (P := base.P) (t := 65) (c := false) (H := H)).1
  have o5 := fun H => (q7o (x := b0 + 2 ^ 8 * b1 + 2 ^ 16 * b2 + 2 ^ 24 * b3 + 2 ^ 32 * b4) (y := b5) (s := 40) (by omega) (by omega) (P := base.P) (t := 65) (c := false) (H := H)).1
  have o6 := fun H => (q7o (x := b0 + 2 ^ 8 * b1 + 2 ^ 16 * b2 + 2 ^ 24 * b3 + 2 ^ 32 * b4 + 2 ^ 40 * b5) (y := b6) (s := 48) (by omega) (by omega) (P := base.P) (t := 65) (c := false) (H := H)).1
  have o7 := fun H => (q7o (x := b0 + 2 ^ 8 * b1 + 2 ^ 16 * b2 + 2 ^ 24 * b3 + 2 ^ 32 * b4 + 2 ^ 40 * b5 + 2 ^ 48 * b6) (y := b7) (s := 56) (by omega) (by omega) (P := base.P) (t := 65) (c := false) (H := H)).1
  clear hw
  generalize hv1 : b0 + 2 ^ 8 * b1 = v1 at *
  generalize hv2 : v1 + 2 ^ 16 * b2 = v2 at *
  generalize hv3 : v2 + 2 ^ 24 * b3 = v3 at *
  generalize hv4 : v3 + 2 ^ 32 * b4 = v4 at *
  generalize hv5 : v4 + 2 ^ 40 * b5 = v5 at *
  generalize hv6 : v5 + 2 ^ 48 * b6 = v6 at *
  generalize hv7 : v6 + 2 ^ 56 * b7 = v7 at *
  generalize 2 ^ 8 * b1 = y1 at *
  generalize 2 ^ 16 * b2 = y2 at *
  generalize 2 ^ 24 * b3 = y3 at *
  generalize 2 ^ 32 * b4 = y4 at *
  generalize 2 ^ 40 * b5 = y5 at *
  generalize 2 ^ 48 * b6 = y6 at *
  generalize 2 ^ 56 * b7 = y7 at *
  have w0 := w b0 l0
  have w1 := w b1 l1
  have w2 := w b2 l2
  have w3 := w b3 l3
  have w4 := w b4 l4
  have w5 := w b5 l5
  have w6 := w b6 l6
  have w7 := w b7 l7
  simp [↓q00, ↓q01, S44, x0, x1, x2, x3, x4, x5, x6, x7, cv_8_64, w0, w1, w2, w3, w4, w5, w6, w7, s1, s2, s3, s4, s5, s6, s7, o1, o2, o3, o4, o5, o6, o7]
theorem q83 (s : List UInt8) (h : 8 ≤ s.length) : andI .u64 (wordN s : Nat) 9259542123273814144 = 0 ↔ ∀ b ∈ s.take 8, b.toNat < 128 := by
  have e := q6t (a := wordN s) (b := 9259542123273814144) (q3k s) (by omega)
  have hl : (s.take 8).length = 8 := by simp; omega
  have hm := leNat_mask (s.take 8)
  rw [hl, maskN8] at hm
  have e' : andI .u64 (wordN s : Nat) 9259542123273814144 = ((wordN s &&& 9259542123273814144 : Nat) : Int) := e
  rw [e', ← hm]
  unfold wordN
  omega
theorem qf8 (s t : List UInt8) (h : 8 ≤ s.length) (g : 8 ≤ t.length) : andI .u64 (orI .u64 (wordN s : Nat) (wordN t : Nat)) 9259542123273814144 = 0 ↔ (∀ b ∈ s.take 8, b.toNat < 128) ∧ ∀ b ∈ t.take 8, b.toNat < 128 := by
  have ls := q3k s
  have lt := q3k t
  have lo : wordN s ||| wordN t < 2 ^ 64 := Nat.or_lt_two_pow (by simpa using ls) (by simpa using lt)
  have e : andI .u64 ((wordN s ||| wordN t : Nat) : Int) 9259542123273814144 = (((wordN s ||| wordN t) &&& 9259542123273814144 : Nat) : Int) := q6t (b := 9259542123273814144) (by omega) (by omega)
  have e1 : andI .u64 ((wordN s : Nat) : Int) 9259542123273814144 = ((wordN s &&& 9259542123273814144 : Nat) : Int) := q6t (b := 9259542123273814144) ls (by omega)
  have e2 : andI .u64 ((wordN t : Nat) : Int) 9259542123273814144 = ((wordN t &&& 9259542123273814144 : Nat) : Int) := q6t (b := 9259542123273814144) lt (by omega)
  rw [qdt ls lt, e, ← q83 s h, ← q83 t g, e1, e2]
  have := or_mask (wordN s) (wordN t) 9259542123273814144
  omega
/-! ### the tables -/
theorem qg1 : (base.glob 0).getD [] = (List.range 256).map fun i => AV.int .u8 (firstT i : Nat) := by kernel_rfl
theorem acc_all : (base.glob 1).getD [] = (List.range 16).flatMap fun i => [AV.int .u8 (accLo i : Nat), AV.int .u8 (accHi i : Nat)] := by kernel_rfl
theorem qd7 (z : Nat) (h1 : z < 256) : ∃ p : AV, ∀ H, A.idxArr 1 256 (globV base 0) (.int .u8 (z : Int)) H = some p ∧ A.load false 1 p H = some (.int .u8 (firstT z : Nat)) := by
  unfold globV
  rw [qg1]
  generalize hcs : (List.range 256).map (fun i => AV.int .u8 (firstT i : Nat)) = cs
  have hg : cs[z]? = some (.int .u8 (firstT z : Nat)) := by rw [← hcs]; simp [h1]
  refine ⟨.rop (cs.drop z), fun H => ⟨?_, ?_⟩⟩
  · have : 0 ≤ (z : Int) ∧ (z : Int) < ((256 : Nat) : Int) := ⟨by omega, by omega⟩
    show (if 0 ≤ (z : Int) ∧ (z : Int) < ((256 : Nat) : Int) then A.fa ((z : Int).toNat * 1) (.rop cs) H else none) = _
    rw [if_pos this, Nat.mul_one]
    rfl
  · show A.ofList false 1 (cs.drop z) 0 = _
    simp [A.ofList, hg]
theorem qj5 (z : Nat) (h1 : z < 16) : ∃ p : AV, ∀ H, A.idxArr 2 16 (globV base 1) (.int .u8 (z : Int)) H = some p ∧ A.load true 2 p H = some (.agg [.int .u8 (accLo z : Nat), .int .u8 (accHi z : Nat)]) := by
  unfold globV
  rw [acc_all]
  generalize hcs : (List.range 16).flatMap (fun i => [AV.int .u8 (accLo i : Nat), AV.int .u8 (accHi i : Nat)]) = cs
  have hg : A.ofList true 2 (cs.drop (z * 2)) 0 = some (.agg [.int .u8 (accLo z : Nat), .int .u8 (accHi z : Nat)]) := by
    rw [← hcs]
    have hz : z = 0 ∨ z = 1 ∨ z = 2 ∨ z = 3 ∨ z = 4 ∨ z = 5 ∨ z = 6 ∨ z = 7 ∨ z = 8 ∨ z = 9 ∨ z = 10 ∨ z = 11 ∨ z = 12 ∨ z = 13 ∨ z = 14 ∨ z = 15 := by omega
    rcases hz with rfl | rfl | rfl | rfl | rfl | rfl | rfl | rfl | rfl | rfl | rfl | rfl | rfl | rfl | rfl | rfl <;> rfl
  refine ⟨.rop (cs.drop (z * 2)), fun H => ⟨?_, hg⟩⟩
  have : 0 ≤ (z : Int) ∧ (z : Int) < ((16 : Nat) : Int) := ⟨by omega, by omega⟩
  show (if 0 ≤ (z : Int) ∧ (z : Int) < ((16 : Nat) : Int) then A.fa ((z : Int).toNat * 2) (.rop cs) H else none) = _
  rw [if_pos this]
  rfl
theorem shr4 {P : Program} {t : TypeId} {j : IntKind} {a : Nat} {c : Bool} {H : Heap} : A.bin P .shr t (.int .u8 (a : Int)) (.int j 4) c H = some (.int .u8 ((a / 16 : Nat) : Int)) := by
  have : (a : Int).fdiv 16 = ((a / 16 : Nat) : Int) := by rw [Int.fdiv_eq_ediv_of_nonneg _ (by omega)]; rfl
  simp [A.bin, A.binInt, IntKind.bits, this]
theorem qd8 (z : Nat) : firstT z < 256 := by
  unfold firstT
  repeat' split
  all_goals omega
end Go.Proofs.YtdkjednjlpcboaaDoor

/- Texts: is one well-formed: the loops. -/
set_option maxRecDepth 100000
set_option maxHeartbeats 4000000
namespace Go.Proofs.YtdkjednjlpcboaaDoor
open Go Go.Den Go.Lib
noncomputable abbrev TVal : List (FuncId × Pol) := [(44, pWord)]
theorem q97 {s : List UInt8} {k : Nat} (h : ∀ b ∈ s.take k, b.toNat < 128) : validD s = validD (s.drop k) := validD_ascii k s h
theorem take_add {s : List UInt8} {a b : Nat} (h1 : ∀ x ∈ s.take a, x.toNat < 128) (h2 : ∀ x ∈ (s.drop a).take b, x.toNat < 128) : ∀ x ∈ s.take (a + b), x.toNat < 128 := fun x hx => by
  rw [List.take_add] at hx
  rcases List.mem_append.1 hx with h | h
  · exact h1 x h
  · exact h2 x h
theorem q93 : ∀ (N : Nat) (s : List UInt8), s.length ≤ N → ∀ H : Heap, ∃ s' : List UInt8, s'.length ≤ s.length ∧ validD s' = validD s ∧ LDoes (qhs (polT TVal)) ⟨[.str s], []⟩ H 0 ⟨[.str s'], []⟩ H
  | N, s, hN, H => by
    by_cases h : 32 < s.length
    · have hlt : (32 : Int) < (s.length : Int) := by omega
      have d8 := q11 (s := s) (k := .i64) (i := 8) (by omega)
      have d16 := q11 (s := s) (k := .i64) (i := 16) (by omega)
      have d24 := q11 (s := s) (k := .i64) (i := 24) (by omega)
      have d32 := q11 (s := s) (k := .i64) (i := 32) (by omega)
      have e8 : 8 ≤ s.length - 8 := by omega
      have e16 : 8 ≤ s.length - 16 := by omega
      have e24 : 8 ≤ s.length - 24 := by omega
      have e0 : 8 ≤ s.length := by omega
      have w0 : ∀ (R : Type) (H : Heap) (k : AV → Heap → Option R), polK pWord [.str s] H k = k (.int .u64 (wordN s : Nat)) H := fun R H k => kWord e0
      have w8 : ∀ (R : Type) (H : Heap) (k : AV → Heap → Option R), polK pWord [.str (s.drop 8)] H k = k (.int .u64 (wordN (s.drop 8) : Nat)) H := fun R H k => kWord (by simpa using e8)
      have w16 : ∀ (R : Type) (H : Heap) (k : AV → Heap → Option R), polK pWord [.str (s.drop 16)] H k = k (.int .u64 (wordN (s.drop 16) : Nat)) H := fun R H k => kWord (by simpa using e16)
      have w24 : ∀ (R : Type) (H : Heap) (k : AV → Heap → Option R), polK pWord [.str (s.drop 24)] H k = k (.int .u64 (wordN (s.drop 24) : Nat)) H := fun R H k => kWord (by simpa using e24)
      have hl : A.lenStr (.str s) = some (.int .i64 (s.length : Int)) := q3f
      have hm : andI .u64 (orI .u64 (orI .u64 (wordN s : Nat) (wordN (s.drop 8) : Nat)) (orI .u64 (wordN (s.drop 16) : Nat) (wordN (s.drop 24) : Nat))) 9259542123273814144 = 0 → ∀ x ∈ s.take 32, x.toNat < 128 := fun hc => by
        have n0 := q3k s
        have n8 := q3k (s.drop 8)
        have n16 := q3k (s.drop 16)
        have n24 := q3k (s.drop 24)
        have p1 : wordN s ||| wordN (s.drop 8) < 2 ^ 64 := Nat.or_lt_two_pow (by simpa using n0) (by simpa using n8)
        have p2 : wordN (s.drop 16) ||| wordN (s.drop 24) < 2 ^ 64 := Nat.or_lt_two_pow (by simpa using n16) (by simpa using n24)
        have p3 : (wordN s ||| wordN (s.drop 8)) ||| (wordN (s.drop 16) ||| wordN (s.drop 24)) < 2 ^ 64 := Nat.or_lt_two_pow p1 p2
        rw [qdt n0 n8, qdt n16 n24, qdt (by omega) (by omega)] at hc
        have e := q6t (a := (wordN s ||| wordN (s.drop 8)) ||| (wordN (s.drop 16) ||| wordN (s.drop 24))) (b := 9259542123273814144) (by omega) (by omega)
        have e' : (((((wordN s ||| wordN (s.drop 8)) ||| (wordN (s.drop 16) ||| wordN (s.drop 24))) &&& 9259542123273814144 : Nat)) : Int) = 0 := e.symm.trans hc
        have hz : (((wordN s ||| wordN (s.drop 8)) ||| (wordN (s.drop 16) ||| wordN (s.drop 24))) &&& 9259542123273814144) = 0 := by omega
        rw [or_mask, or_mask, or_mask] at hz
        have mk : ∀ t : List UInt8, 8 ≤ t.length → wordN t &&& 9259542123273814144 = 0 → ∀ x ∈ t.take 8, x.toNat < 128 := fun t ht h => by
          have hl : (t.take 8).length = 8 := by simp; omega
          have := leNat_mask (t.take 8)
          rw [hl, maskN8] at this
          exact this.1 h
        have m0 := mk s e0 hz.1.1
        have m8 := mk (s.drop 8) (by simpa using e8) hz.1.2
        have m16 := mk (s.drop 16) (by simpa using e16) hz.2.1
        have m24 := mk (s.drop 24) (by simpa using e24) hz.2.2
        exact take_add (a := 24) (b := 8) (take_add (a := 16) (b := 8) (take_add (a := 8) (b := 8) m0 m8) m16) m24
      generalize ((wordN s : Nat) : Int) = a0 at *
      generalize ((wordN (s.drop 8) : Nat) : Int) = a8 at *
      generalize ((wordN (s.drop 16) : Nat) : Int) = a16 at *
      generalize ((wordN (s.drop 24) : Nat) : Int) = a24 at *
      simp only [Int.cast_ofNat_Int] at d8 d16 d24 d32
      by_cases hc : andI .u64 (orI .u64 (orI .u64 a0 a8) (orI .u64 a16 a24)) 9259542123273814144 = 0
      · match N with
        | 0 => omega
        | N + 1 =>
          obtain ⟨s', hs, hv, hL⟩ := q93 N (s.drop 32) (by simp; omega) H
          simp only [List.length_drop] at hs
          refine ⟨s', by omega, by rw [hv, ← q97 (hm hc)], LDoes.step (Evs.withL hL (Evs.of fun n m _ h2 => ?_))⟩
          generalize s.drop 8 = s8 at *
          generalize s.drop 16 = s16 at *
          generalize s.drop 24 = s24 at *
          generalize s.drop 32 = s32 at *
          generalize (s.length : Int) = N at *
          simp [↓q00, ↓q01, ↓q03, ↓q02, ↓q1k, q5o, hl, hlt, d8, d16, d24, d32, w0, w8, w16, w24, q39, q0h, hc, AV.heapy, h2]
      · refine ⟨s, Nat.le_refl _, rfl, LDoes.step (Evs.of fun n m => ?_)⟩
        generalize s.drop 8 = s8 at *
        generalize s.drop 16 = s16 at *
        generalize s.drop 24 = s24 at *
        generalize s.drop 32 = s32 at *
        generalize (s.length : Int) = N at *
        simp [↓q00, ↓q01, ↓q03, ↓q02, ↓q1k, q5o, hl, hlt, d8, d16, d24, w0, w8, w16, w24, q39, q0h, hc, AV.heapy]
    · have hlt : ¬ (32 : Int) < (s.length : Int) := by omega
      have hl : A.lenStr (.str s) = some (.int .i64 (s.length : Int)) := q3f
      generalize (s.length : Int) = N at *
      refine ⟨s, Nat.le_refl _, rfl, LDoes.step (Evs.of fun n m => ?_)⟩
      simp [↓q00, ↓q01, ↓q03, ↓q02, ↓q1k, q5o, hl, hlt, AV.heapy]
end Go.Proofs.YtdkjednjlpcboaaDoor

/- Texts: is one well-formed: bytes below 128. -/
set_option maxRecDepth 100000
set_option maxHeartbeats 8000000
namespace Go.Proofs.YtdkjednjlpcboaaDoor
open Go Go.Den Go.Lib
def q26 (s : List UInt8) : Prop := ∀ H : Heap, ∃ (H' : Heap), LDoes (qhr (polT TVal)) ⟨[.str s], []⟩ H (if validD s then 0 else 1) ⟨[if validD s then .undef else .bool false], []⟩ H'
theorem qhi : q26 [] := fun H => by
  have hl : A.lenStr (.str []) = some (.int .i64 0) := q3f
  exact ⟨H, LDoes.step (Evs.of fun n m => by simp [↓q00, ↓q01, q0e, hl, validD_nil])⟩
theorem qcz (c : UInt8) (r : List UInt8) (hc : c.toNat < 128) (ih : ∀ s, s.length ≤ r.length → q26 s) : q26 (c :: r) := fun H => by
  have hl : A.lenStr (.str (c :: r)) = some (.int .i64 ((r.length + 1 : Nat) : Int)) := q3f
  have hp : (0 : Int) < ((r.length + 1 : Nat) : Int) := by omega
  have hx : A.index (.str (c :: r)) (.int .i64 0) = some (.int .u8 (c.toNat : Int)) := rfl
  have d1 : A.sliceStr (.str (c :: r)) (some (.int .i64 1)) none = some (.str r) := q11 (s := c :: r) (i := 1) (by simp)
  have hr : A.lenStr (.str r) = some (.int .i64 (r.length : Int)) := q3f
  have hz : (c.toNat : Int) < 128 := by omega
  have ih8 := ih (r.drop 8) (by simp)
  have ih24 : ∀ s', s'.length ≤ (r.drop 24).length → q26 s' := fun s' h => ih s' (by simp at h; omega)
  have ihr := ih r (Nat.le_refl _)
  have hvc : validD (c :: r) = validD r := validD_cons c r hc
  rw [hvc]
  clear hvc
  generalize ((r.length + 1 : Nat) : Int) = N1 at *
  generalize (c.toNat : Int) = z at *
  generalize c :: r = s at *
  by_cases h8 : 8 < r.length
  · have h8' : (8 : Int) < (r.length : Int) := by omega
    have d8 : A.sliceStr (.str r) (some (.int .i64 8)) none = some (.str (r.drop 8)) := q11 (s := r) (i := 8) (by omega)
    have w0 : ∀ (R : Type) (H : Heap) (k : AV → Heap → Option R), polK pWord [.str r] H k = k (.int .u64 (wordN r : Nat)) H := fun R H k => kWord (by omega)
    have hm8 := (q83 r (by omega)).1
    generalize ((wordN r : Nat) : Int) = a0 at *
    by_cases c0 : andI .u64 a0 9259542123273814144 = 0
    · have hv8 : validD r = validD (r.drop 8) := q97 (hm8 c0)
      rw [hv8]
      have hr8 : A.lenStr (.str (r.drop 8)) = some (.int .i64 ((r.length - 8 : Nat) : Int)) := by rw [q3f]; simp
      by_cases h16 : 16 < r.length - 8
      · have h16i : (16 : Int) < ((r.length - 8 : Nat) : Int) := by omega
        have d16 : A.sliceStr (.str (r.drop 8)) (some (.int .i64 8)) none = some (.str (r.drop 16)) := by
          have := q11 (s := r.drop 8) (k := .i64) (i := 8) (by simp; omega)
          rw [List.drop_drop] at this
          exact this
        have d24 : A.sliceStr (.str (r.drop 8)) (some (.int .i64 16)) none = some (.str (r.drop 24)) := by
          have := q11 (s := r.drop 8) (k := .i64) (i := 16) (by simp; omega)
          rw [List.drop_drop] at this
          exact this
        have w8 : ∀ (R : Type) (H : Heap) (k : AV → Heap → Option R), polK pWord [.str (r.drop 8)] H k = k (.int .u64 (wordN (r.drop 8) : Nat)) H := fun R H k => kWord (by simp; omega)
        have w16 : ∀ (R : Type) (H : Heap) (k : AV → Heap → Option R), polK pWord [.str (r.drop 16)] H k = k (.int .u64 (wordN (r.drop 16) : Nat)) H := fun R H k => kWord (by simp; omega)
        have hm16 := (qf8 (r.drop 8) (r.drop 16) (by simp; omega) (by simp; omega)).1
        generalize ((wordN (r.drop 8) : Nat) : Int) = a8 at *
        generalize ((wordN (r.drop 16) : Nat) : Int) = a16 at *
        by_cases c1 : andI .u64 (orI .u64 a8 a16) 9259542123273814144 = 0
        · have h16' := hm16 c1
          have hd16 : (r.drop 8).drop 8 = r.drop 16 := by rw [List.drop_drop]
          have hv16 : validD (r.drop 8) = validD (r.drop 24) := by
            have := q97 (s := r.drop 8) (k := 8 + 8) (take_add h16'.1 (by rw [hd16]; exact h16'.2))
            rw [this, List.drop_drop]
          obtain ⟨s', hs', hvs, hL1⟩ := q93 _ (r.drop 24) (Nat.le_refl _) H
          rw [hv16, ← hvs]
          clear hv16 hd16
          obtain ⟨H', hL⟩ := ih24 s' hs' H
          refine ⟨H', LDoes.step (Evs.withL hL1 (Evs.withL hL (Evs.of fun n m _ h2 h3 _ => ?_)))⟩
          generalize r.drop 8 = r8 at *
          generalize r.drop 16 = r16 at *
          generalize r.drop 24 = r24 at *
          generalize (r.length : Int) = N at *
          generalize ((r.length - 8 : Nat) : Int) = N8 at *
          simp [↓q00, ↓q04, ↓q01, ↓q03, ↓q02, ↓q05, ↓q1k, q0e, hl, hp, hx, hz, d1, hr, h8', d8, w0, q0h, c0, hr8, h16i, d16, w8, w16, q39, c1, d24, AV.heapy, h2, h3]
        · obtain ⟨H', hL⟩ := ih8 H
          refine ⟨H', LDoes.step (Evs.withL hL (Evs.of fun n m _ h2 => ?_))⟩
          generalize r.drop 8 = r8 at *
          generalize r.drop 16 = r16 at *
          generalize (r.length : Int) = N at *
          generalize ((r.length - 8 : Nat) : Int) = N8 at *
          simp [↓q00, ↓q04, ↓q01, ↓q03, ↓q02, ↓q05, ↓q1k, q0e, hl, hp, hx, hz, d1, hr, h8', d8, w0, q0h, c0, hr8, h16i, d16, w8, w16, q39, c1, AV.heapy, h2]
      · have h16i : ¬ (16 : Int) < ((r.length - 8 : Nat) : Int) := by omega
        obtain ⟨H', hL⟩ := ih8 H
        refine ⟨H', LDoes.step (Evs.withL hL (Evs.of fun n m _ h2 => ?_))⟩
        generalize r.drop 8 = r8 at *
        generalize (r.length : Int) = N at *
        generalize ((r.length - 8 : Nat) : Int) = N8 at *
        simp [↓q00, ↓q04, ↓q01, ↓q03, ↓q02, ↓q05, ↓q1k, q0e, hl, hp, hx, hz, d1, hr, h8', d8, w0, q0h, c0, hr8, h16i, AV.heapy, h2]
    · obtain ⟨H', hL⟩ := ihr H
      refine ⟨H', LDoes.step (Evs.withL hL (Evs.of fun n m _ h2 => ?_))⟩
      generalize (r.length : Int) = N at *
      simp [↓q00, ↓q04, ↓q01, ↓q03, ↓q02, ↓q05, q0e, hl, hp, hx, hz, d1, hr, h8', w0, q0h, c0, h2]
  · have h8' : ¬ (8 : Int) < (r.length : Int) := by omega
    obtain ⟨H', hL⟩ := ihr H
    refine ⟨H', LDoes.step (Evs.withL hL (Evs.of fun n m _ h2 => ?_))⟩
    generalize (r.length : Int) = N at *
    simp [↓q00, ↓q04, ↓q01, ↓q03, ↓q02, ↓q05, q0e, hl, hp, hx, hz, d1, hr, h8', h2]
end Go.Proofs.YtdkjednjlpcboaaDoor

/- Texts: is one well-formed: signs of more bytes than one; the entry. -/
set_option maxRecDepth 100000
set_option maxHeartbeats 8000000
namespace Go.Proofs.YtdkjednjlpcboaaDoor
open Go Go.Den Go.Lib
theorem qf6 (s : List UInt8) (h0 : 0 < s.length) (hc : 128 ≤ (s.getD 0 0).toNat) (ih : ∀ s' : List UInt8, s'.length < s.length → q26 s') : q26 s := fun H => by
  have hne : s ≠ [] := fun e => by rw [e] at h0; simp at h0
  have hv := validD_lead s hne hc
  have hl : A.lenStr (.str s) = some (.int .i64 (s.length : Int)) := q3f
  have hx : A.index (.str s) (.int .i64 0) = some (.int .u8 ((s.getD 0 0).toNat : Int)) := q3d (i := 0) h0
  have hx1 : 1 < s.length → A.index (.str s) (.int .i64 1) = some (.int .u8 ((s.getD 1 0).toNat : Int)) := fun h => q3d (i := 1) h
  have hx2 : 2 < s.length → A.index (.str s) (.int .i64 2) = some (.int .u8 ((s.getD 2 0).toNat : Int)) := fun h => q3d (i := 2) h
  have hx3 : 3 < s.length → A.index (.str s) (.int .i64 3) = some (.int .u8 ((s.getD 3 0).toNat : Int)) := fun h => q3d (i := 3) h
  have hz1 : (s.getD 0 0).toNat < 256 := (s.getD 0 0).toNat_lt
  generalize (s.getD 0 0).toNat = z at *
  generalize (s.getD 1 0).toNat = z1 at *
  generalize (s.getD 2 0).toNat = z2 at *
  generalize (s.getD 3 0).toNat = z3 at *
  have hz : ¬ z < 128 := by omega
  have hzi : ¬ (z : Int) < 128 := by omega
  have hw2 : IntKind.wrap .i64 2 = 2 := rfl
  have hw3 : IntKind.wrap .i64 3 = 3 := rfl
  have hw4 : IntKind.wrap .i64 4 = 4 := rfl
  have h0i : (0 : Int) < (s.length : Int) := by omega
  obtain ⟨p0, hfirst⟩ := qd7 z hz1
  have hx256 := qd8 z
  have h7 := qj6 hx256
  obtain ⟨p1, hacc⟩ := qj5 (firstT z / 16) (by omega)
  have hf1 := fun H => (hfirst H).1
  have hf2 := fun H => (hfirst H).2
  have ha1 := fun H => (hacc H).1
  have ha2 := fun H => (hacc H).2
  have hshr : ∀ H, A.bin base.P .shr 5 (.int .u8 (firstT z : Nat)) (.int .u64 4) true H = some (.int .u8 ((firstT z / 16 : Nat) : Int)) := fun H => shr4
  have hy : IntKind.wrap .i64 ((firstT z % 8 : Nat) : Int) = ((firstT z % 8 : Nat) : Int) := q0k (by omega) (by omega)
  generalize accLo (firstT z / 16) = lo at *
  generalize accHi (firstT z / 16) = hi at *
  generalize firstT z / 16 = w at *
  generalize hyy : firstT z % 8 = y at *
  generalize firstT z = x at *
  have hst : A.store 2 (.ptr H.length 0 0 0) (.agg [.int .u8 (lo : Nat), .int .u8 (hi : Nat)]) (H ++ [.row 0 2 69 [.agg [.int .u8 0, .int .u8 0]]]) = some (H ++ [.row 0 2 69 [.agg [.int .u8 (lo : Nat), .int .u8 (hi : Nat)]]]) := by
    have hb : Go.Den.Box (H ++ [.row 0 2 69 [.agg [.int .u8 0, .int .u8 0]]]) H.length 2 69 [.int .u8 0, .int .u8 0] := q0y
    have := qaj (ds := [.int .u8 (lo : Nat), .int .u8 (hi : Nat)]) hb rfl rfl (by simp)
    rw [this]
    simp
  have hB : Go.Den.Box (H ++ [.row 0 2 69 [.agg [.int .u8 (lo : Nat), .int .u8 (hi : Nat)]]]) H.length 2 69 [.int .u8 (lo : Nat), .int .u8 (hi : Nat)] := q0y
  have fa := fun o => hB.fa (o := o)
  have ld0 := hB.load (o := 0)
  have ld1 := hB.load (o := 1)
  have fa0 := fa 0
  have fa1 := fa 1
  simp only [List.getElem?_cons_succ, List.getElem?_cons_zero] at ld0 ld1
  generalize H ++ [.row 0 2 69 [.agg [.int .u8 (lo : Nat), .int .u8 (hi : Nat)]]] = Hx at *
  by_cases y2 : y = 2
  case pos =>
    by_cases hk : s.length < 2
    case pos =>
      have hki : (s.length : Int) < (2 : Int) := by omega
      have e : validD s = false := by rw [hv]; simp [checkN, y2, hk]
      rw [e]
      exact ⟨Hx, LDoes.step (Evs.of fun n m => by simp [↓q00, ↓q04, ↓q06, ↓q01, ↓q03, ↓q0c, ↓q02, ↓q05, q0e, hl, h0, hx, hzi, hf1, hf2, q0h, h7, q0q, hw2, hshr, ha1, ha2, hst, fa0, fa1, y2, hki])⟩
    have hki : ¬ (s.length : Int) < (2 : Int) := by omega
    have dk := q11 (s := s) (k := .i64) (i := 2) (by omega)
    have i1 := hx1 (by omega)
    simp only [Int.cast_ofNat_Int] at dk
    by_cases a1 : z1 < lo
    case pos =>
      have a1i : (z1 : Int) < (lo : Int) := by omega
      have e : validD s = false := by rw [hv]; simp [checkN, y2, hk, a1]
      rw [e]
      exact ⟨Hx, LDoes.step (Evs.of fun n m => by simp [↓q00, ↓q04, ↓q06, ↓q01, ↓q03, ↓q0c, ↓q02, ↓q05, q0e, hl, h0, hx, hzi, hf1, hf2, q0h, h7, q0q, hw2, hshr, ha1, ha2, hst, fa0, fa1, ld0, y2, hki, i1, a1i])⟩
    have a1i : ¬ (z1 : Int) < (lo : Int) := by omega
    by_cases b1 : hi < z1
    case pos =>
      have b1i : (hi : Int) < (z1 : Int) := by omega
      have e : validD s = false := by rw [hv]; simp [checkN, y2, hk, a1, b1]
      rw [e]
      exact ⟨Hx, LDoes.step (Evs.of fun n m => by simp [↓q00, ↓q04, ↓q06, ↓q01, ↓q03, ↓q0c, ↓q02, ↓q05, q0e, hl, h0, hx, hzi, hf1, hf2, q0h, h7, q0q, hw2, hshr, ha1, ha2, hst, fa0, fa1, ld0, ld1, y2, hki, i1, a1i, b1i])⟩
    have b1i : ¬ (hi : Int) < (z1 : Int) := by omega
    have e : validD s = validD (s.drop 2) := by rw [hv]; simp [checkN, y2, hk, a1, b1]
    rw [e]
    obtain ⟨H', hL⟩ := ih (s.drop 2) (by simp; omega) Hx
    refine ⟨H', LDoes.step (Evs.withL hL (Evs.of fun n m _ h2 => ?_))⟩
    generalize s.drop 2 = sk at *
    simp [↓q00, ↓q04, ↓q06, ↓q01, ↓q03, ↓q0c, ↓q02, ↓q05, q0e, hl, h0, hx, hzi, hf1, hf2, q0h, h7, q0q, hw2, hshr, ha1, ha2, hst, fa0, fa1, ld0, ld1, y2, hki, dk, i1, a1i, b1i, h2]
  by_cases y3 : y = 3
  case pos =>
    by_cases hk : s.length < 3
    case pos =>
      have hki : (s.length : Int) < (3 : Int) := by omega
      have e : validD s = false := by rw [hv]; simp [checkN, y3, hk]
      rw [e]
      exact ⟨Hx, LDoes.step (Evs.of fun n m => by simp [↓q00, ↓q04, ↓q06, ↓q01, ↓q03, ↓q0c, ↓q02, ↓q05, q0e, hl, h0, hx, hzi, hf1, hf2, q0h, h7, q0q, hw3, hshr, ha1, ha2, hst, fa0, fa1, y3, hki])⟩
    have hki : ¬ (s.length : Int) < (3 : Int) := by omega
    have dk := q11 (s := s) (k := .i64) (i := 3) (by omega)
    have i1 := hx1 (by omega)
    have i2 := hx2 (by omega)
    simp only [Int.cast_ofNat_Int] at dk
    by_cases a1 : z1 < lo
    case pos =>
      have a1i : (z1 : Int) < (lo : Int) := by omega
      have e : validD s = false := by rw [hv]; simp [checkN, y3, hk, a1]
      rw [e]
      exact ⟨Hx, LDoes.step (Evs.of fun n m => by simp [↓q00, ↓q04, ↓q06, ↓q01, ↓q03, ↓q0c, ↓q02, ↓q05, q0e, hl, h0, hx, hzi, hf1, hf2, q0h, h7, q0q, hw3, hshr, ha1, ha2, hst, fa0, fa1, ld0, y3, hki, i1, a1i])⟩
    have a1i : ¬ (z1 : Int) < (lo : Int) := by omega
    by_cases b1 : hi < z1
    case pos =>
      have b1i : (hi : Int) < (z1 : Int) := by omega
      have e : validD s = false := by rw [hv]; simp [checkN, y3, hk, a1, b1]
      rw [e]
      exact ⟨Hx, LDoes.step (Evs.of fun n m => by simp [↓q00, ↓q04, ↓q06, ↓q01, ↓q03, ↓q0c, ↓q02, ↓q05, q0e, hl, h0, hx, hzi, hf1, hf2, q0h, h7, q0q, hw3, hshr, ha1, ha2, hst, fa0, fa1, ld0, ld1, y3, hki, i1, a1i, b1i])⟩
    have b1i : ¬ (hi : Int) < (z1 : Int) := by omega
    by_cases a2 : z2 < 128
    case pos =>
      have a2i : (z2 : Int) < (128 : Int) := by omega
      have e : validD s = false := by rw [hv]; simp [checkN, y3, hk, a1, b1, a2]
      rw [e]
      exact ⟨Hx, LDoes.step (Evs.of fun n m => by simp [↓q00, ↓q04, ↓q06, ↓q01, ↓q03, ↓q0c, ↓q02, ↓q05, q0e, hl, h0, hx, hzi, hf1, hf2, q0h, h7, q0q, hw3, hshr, ha1, ha2, hst, fa0, fa1, ld0, ld1, y3, hki, i1, i2, a1i, b1i, a2i])⟩
    have a2i : ¬ (z2 : Int) < (128 : Int) := by omega
    by_cases b2 : 191 < z2
    case pos =>
      have b2i : (191 : Int) < (z2 : Int) := by omega
      have e : validD s = false := by rw [hv]; simp [checkN, y3, hk, a1, b1, a2, b2]
      rw [e]
      exact ⟨Hx, LDoes.step (Evs.of fun n m => by simp [↓q00, ↓q04, ↓q06, ↓q01, ↓q03, ↓q0c, ↓q02, ↓q05, q0e, hl, h0, hx, hzi, hf1, hf2, q0h, h7, q0q, hw3, hshr, ha1, ha2, hst, fa0, fa1, ld0, ld1, y3, hki, i1, i2, a1i, b1i, a2i, b2i])⟩
    have b2i : ¬ (191 : Int) < (z2 : Int) := by omega
    have e : validD s = validD (s.drop 3) := by rw [hv]; simp [checkN, y3, hk, a1, b1, a2, b2]
    rw [e]
    obtain ⟨H', hL⟩ := ih (s.drop 3) (by simp; omega) Hx
    refine ⟨H', LDoes.step (Evs.withL hL (Evs.of fun n m _ h2 => ?_))⟩
    generalize s.drop 3 = sk at *
    simp [↓q00, ↓q04, ↓q06, ↓q01, ↓q03, ↓q0c, ↓q02, ↓q05, q0e, hl, h0, hx, hzi, hf1, hf2, q0h, h7, q0q, hw3, hshr, ha1, ha2, hst, fa0, fa1, ld0, ld1, y3, hki, dk, i1, i2, a1i, b1i, a2i, b2i, h2]
  by_cases y4 : y = 4
  case pos =>
    by_cases hk : s.length < 4
    case pos =>
      have hki : (s.length : Int) < (4 : Int) := by omega
      have e : validD s = false := by rw [hv]; simp [checkN, y4, hk]
      rw [e]
      exact ⟨Hx, LDoes.step (Evs.of fun n m => by simp [↓q00, ↓q04, ↓q06, ↓q01, ↓q03, ↓q0c, ↓q02, ↓q05, q0e, hl, h0, hx, hzi, hf1, hf2, q0h, h7, q0q, hw4, hshr, ha1, ha2, hst, fa0, fa1, y4, hki])⟩
    have hki : ¬ (s.length : Int) < (4 : Int) := by omega
    have dk := q11 (s := s) (k := .i64) (i := 4) (by omega)
    have i1 := hx1 (by omega)
    have i2 := hx2 (by omega)
    have i3 := hx3 (by omega)
    simp only [Int.cast_ofNat_Int] at dk
    by_cases a1 : z1 < lo
    case pos =>
      have a1i : (z1 : Int) < (lo : Int) := by omega
      have e : validD s = false := by rw [hv]; simp [checkN, y4, hk, a1]
      rw [e]
      exact ⟨Hx, LDoes.step (Evs.of fun n m => by simp [↓q00, ↓q04, ↓q06, ↓q01, ↓q03, ↓q0c, ↓q02, ↓q05, q0e, hl, h0, hx, hzi, hf1, hf2, q0h, h7, q0q, hw4, hshr, ha1, ha2, hst, fa0, fa1, ld0, y4, hki, i1, a1i])⟩
    have a1i : ¬ (z1 : Int) < (lo : Int) := by omega
    by_cases b1 : hi < z1
    case pos =>
      have b1i : (hi : Int) < (z1 : Int) := by omega
      have e : validD s = false := by rw [hv]; simp [checkN, y4, hk, a1, b1]
      rw [e]
      exact ⟨Hx, LDoes.step (Evs.of fun n m => by simp [↓q00, ↓q04, ↓q06, ↓q01, ↓q03, ↓q0c, ↓q02, ↓q05, q0e, hl, h0, hx, hzi, hf1, hf2, q0h, h7, q0q, hw4, hshr, ha1, ha2, hst, fa0, fa1, ld0, ld1, y4, hki, i1, a1i, b1i])⟩
    have b1i : ¬ (hi : Int) < (z1 : Int) := by omega
    by_cases a2 : z2 < 128
    case pos =>
      have a2i : (z2 : Int) < (128 : Int) := by omega
      have e : validD s = false := by rw [hv]; simp [checkN, y4, hk, a1, b1, a2]
      rw [e]
      exact ⟨Hx, LDoes.step (Evs.of fun n m => by simp [↓q00, ↓q04, ↓q06, ↓q01, ↓q03, ↓q0c, ↓q02, ↓q05, q0e, hl, h0, hx, hzi, hf1, hf2, q0h, h7, q0q, hw4, hshr, ha1, ha2, hst, fa0, fa1, ld0, ld1, y4, hki, i1, i2, a1i, b1i, a2i])⟩
    have a2i : ¬ (z2 : Int) < (128 : Int) := by omega
    by_cases b2 : 191 < z2
    case pos =>
      have b2i : (191 : Int) < (z2 : Int) := by omega
      have e : validD s = false := by rw [hv]; simp [checkN, y4, hk, a1, b1, a2, b2]
      rw [e]
      exact ⟨Hx, LDoes.step (Evs.of fun n m => by simp [↓q00, ↓q04, ↓q06, ↓q01, ↓q03, ↓q0c, ↓q02, ↓q05, q0e, hl, h0, hx, hzi, hf1, hf2, q0h, h7, q0q, hw4, hshr, ha1, ha2, hst, fa0, fa1, ld0, ld1, y4, hki, i1, i2, a1i, b1i, a2i, b2i])⟩
    have b2i : ¬ (191 : Int) < (z2 : Int) := by omega
    by_cases a3 : z3 < 128
    case pos =>
      have a3i : (z3 : Int) < (128 : Int) := by omega
      have e : validD s = false := by rw [hv]; simp [checkN, y4, hk, a1, b1, a2, b2, a3]
      rw [e]
      exact ⟨Hx, LDoes.step (Evs.of fun n m => by simp [↓q00, ↓q04, ↓q06, ↓q01, ↓q03, ↓q0c, ↓q02, ↓q05, q0e, hl, h0, hx, hzi, hf1, hf2, q0h, h7, q0q, hw4, hshr, ha1, ha2, hst, fa0, fa1, ld0, ld1, y4, hki, i1, i2, i3, a1i, b1i, a2i, b2i, a3i])⟩
    have a3i : ¬ (z3 : Int) < (128 : Int) := by omega
    by_cases b3 : 191 < z3
    case pos =>
      have b3i : (191 : Int) < (z3 : Int) := by omega
      have e : validD s = false := by rw [hv]; simp [checkN, y4, hk, a1, b1, a2, b2, a3, b3]
      rw [e]
      exact ⟨Hx, LDoes.step (Evs.of fun n m => by simp [↓q00, ↓q04, ↓q06, ↓q01, ↓q03, ↓q0c, ↓q02, ↓q05, q0e, hl, h0, hx, hzi, hf1, hf2, q0h, h7, q0q, hw4, hshr, ha1, ha2, hst, fa0, fa1, ld0, ld1, y4, hki, i1, i2, i3, a1i, b1i, a2i, b2i, a3i, b3i])⟩
    have b3i : ¬ (191 : Int) < (z3 : Int) := by omega
    have e : validD s = validD (s.drop 4) := by rw [hv]; simp [checkN, y4, hk, a1, b1, a2, b2, a3, b3]
    rw [e]
    obtain ⟨H', hL⟩ := ih (s.drop 4) (by simp; omega) Hx
    refine ⟨H', LDoes.step (Evs.withL hL (Evs.of fun n m _ h2 => ?_))⟩
    generalize s.drop 4 = sk at *
    simp [↓q00, ↓q04, ↓q06, ↓q01, ↓q03, ↓q0c, ↓q02, ↓q05, q0e, hl, h0, hx, hzi, hf1, hf2, q0h, h7, q0q, hw4, hshr, ha1, ha2, hst, fa0, fa1, ld0, ld1, y4, hki, dk, i1, i2, i3, a1i, b1i, a2i, b2i, a3i, b3i, h2]
  have y2i : ¬ (y : Int) = 2 := by omega
  have y3i : ¬ (y : Int) = 3 := by omega
  have y4i : ¬ (y : Int) = 4 := by omega
  have e : validD s = false := by rw [hv]; simp [checkN, y2, y3, y4]
  rw [e]
  exact ⟨Hx, LDoes.step (Evs.of fun n m => by simp [↓q00, ↓q04, ↓q06, ↓q01, ↓q0c, ↓q05, q0e, hl, h0, hx, hzi, hf1, hf2, q0h, h7, q0q, hy, hshr, ha1, ha2, hst, y2i, y3i, y4i])⟩
theorem q92 : ∀ (N : Nat) (s : List UInt8), s.length ≤ N → q26 s
  | _, [], _ => qhi
  | 0, _ :: _, h => by simp at h
  | N + 1, c :: r, h => by
    have ih : ∀ s' : List UInt8, s'.length < (c :: r).length → q26 s' := fun s' h' => q92 N s' (by simp at h h'; omega)
    by_cases hc : c.toNat < 128
    · exact qcz c r hc fun s' h' => ih s' (by simp; omega)
    · exact qf6 (c :: r) (by simp) (by simp; omega) ih
noncomputable def pValid : Pol := .still (p1 cS .bool (fun _ => True) validD)
theorem qgt : PolOK base 24 pValid := still1 base_ok TVal ⟨okWord, trivial⟩ fun s _ => by
  obtain ⟨H', hL⟩ := q92 _ s (Nat.le_refl _) []
  refine Evs.withL hL (Evs.of fun n m h1 _ => ?_)
  generalize validD s = b at *
  cases b <;> simp [↓q04, ↓q05, S24, h1]
theorem kValid {R : Type} {s : List UInt8} {H : Heap} {k : AV → Heap → Option R} : polK pValid [.str s] H k = k (.bool (validD s)) H := by
  simp [pValid, q0i]
end Go.Proofs.YtdkjednjlpcboaaDoor

/- Texts: the first sign of a well-formed one. -/
set_option maxRecDepth 100000
set_option maxHeartbeats 8000000
namespace Go.Proofs.YtdkjednjlpcboaaDoor
open Go Go.Den Go.Lib
theorem qiv (n b0 b1 b2 b3 : Nat) (hn : 1 ≤ n) (h0 : 128 ≤ b0) (h0' : b0 < 256) (h1 : b1 < 256) (h2 : b2 < 256) (h3 : b3 < 256) (hs : 2 ≤ firstT b0 % 8) : slowN n b0 b1 b2 b3 (firstT b0 % 8) (accLo (firstT b0 / 16)) (accHi (firstT b0 / 16)) = decodeN n b0 b1 b2 b3 ∧ firstT b0 < 240 ∧ firstT b0 % 8 ≤ 4 := by
  by_cases c0 : b0 < 194
  · simp [firstT, show ¬ b0 < 128 by omega, c0] at hs
  by_cases c1 : b0 < 224
  · have e : firstT b0 = 2 := by simp [firstT, show ¬ b0 < 128 by omega, c0, c1]
    rw [e]; exact ⟨slow_C2 n b0 b1 b2 b3 hn h1 h2 h3 ⟨by omega, c1⟩, by omega, by omega⟩
  by_cases c2 : b0 = 224
  · subst c2; exact ⟨slow_E0 n 224 b1 b2 b3 hn h1 h2 h3 rfl, by decide, by decide⟩
  by_cases c3 : b0 < 237
  · have e : firstT b0 = 3 := by simp [firstT, show ¬ b0 < 128 by omega, c0, c1, c2, c3]
    rw [e]; exact ⟨slow_E1 n b0 b1 b2 b3 hn h1 h2 h3 (.inl ⟨by omega, c3⟩), by omega, by omega⟩
  by_cases c4 : b0 = 237
  · subst c4; exact ⟨slow_ED n 237 b1 b2 b3 hn h1 h2 h3 rfl, by decide, by decide⟩
  by_cases c5 : b0 < 240
  · have e : firstT b0 = 3 := by simp [firstT, show ¬ b0 < 128 by omega, c0, c1, c2, c3, c4, c5]
    rw [e]; exact ⟨slow_E1 n b0 b1 b2 b3 hn h1 h2 h3 (.inr ⟨by omega, c5⟩), by omega, by omega⟩
  by_cases c6 : b0 = 240
  · subst c6; exact ⟨slow_F0 n 240 b1 b2 b3 hn h1 h2 h3 rfl, by decide, by decide⟩
  by_cases c7 : b0 < 244
  · have e : firstT b0 = 4 := by simp [firstT, show ¬ b0 < 128 by omega, c0, c1, c2, c3, c4, c5, c6, c7]
    rw [e]; exact ⟨slow_F1 n b0 b1 b2 b3 hn h1 h2 h3 ⟨by omega, c7⟩, by omega, by omega⟩
  by_cases c8 : b0 = 244
  · subst c8; exact ⟨slow_F4 n 244 b1 b2 b3 hn h1 h2 h3 rfl, by decide, by decide⟩
  · simp [firstT, show ¬ b0 < 128 by omega, c0, c1, c2, c3, c4, c5, c6, c7, c8] at hs
theorem q38 {a k : Nat} (ha : a < 256) (hk : k ≤ 7) : andI .u8 (a : Int) ((2 ^ k - 1 : Nat) : Int) = ((a % 2 ^ k : Nat) : Int) := by
  have h : 2 ^ k - 1 < 256 := by
    have : 2 ^ k ≤ 2 ^ 7 := Nat.pow_le_pow_right (by omega) hk
    omega
  rw [qj7 ha h, Nat.and_two_pow_sub_one_eq_mod]
theorem q5k {a : Nat} (h : a < 2147483648) : IntKind.wrap .i32 (a : Int) = a := by
  simp [IntKind.wrap, IntKind.bits, IntKind.signed]
  omega
theorem q7n {a b s : Nat} (ha : a % 2 ^ s = 0) (hb : b < 2 ^ s) (h : a + b < 2147483648) : orI .i32 (a : Int) (b : Int) = ((a + b : Nat) : Int) := by
  unfold orI
  rw [show IntKind.bits .i32 = 32 from rfl, BitVec.toNat_or]
  simp
  have e : a ||| b = a + b := by
    have := Nat.two_pow_add_eq_or_of_lt hb (a / 2 ^ s)
    have e2 : 2 ^ s * (a / 2 ^ s) = a := by have := Nat.div_add_mod a (2 ^ s); omega
    rw [e2] at this
    exact this.symm
  rw [Nat.mod_eq_of_lt (by omega), Nat.mod_eq_of_lt (by omega), e]
  have := q5k h
  simpa using this
theorem q9f (n : Int) (j : IntKind) : Go.Den.convert base 5 21 (.int j n) = some (.int .i32 (IntKind.wrap .i32 n)) := q2c (x := .int .u8) (by kernel_rfl) (by kernel_rfl)
theorem q4r {P : Program} {t : TypeId} {j : IntKind} {a s : Nat} {c : Bool} {H : Heap} (hs : s ≤ 32) (h : a * 2 ^ s < 2147483648) : A.bin P .shl t (.int .i32 (a : Int)) (.int j (s : Int)) c H = some (.int .i32 ((a * 2 ^ s : Nat) : Int)) := by
  have hm : min s 32 = s := by omega
  have hw := q5k h
  have hn : ¬ (s : Int) < 0 := by omega
  simp only [A.bin, A.binInt]
  rw [if_neg hn]
  have e : min ((s : Int).toNat) (IntKind.bits .i32) = s := by
    show min ((s : Int).toNat) 32 = s
    omega
  rw [e]
  have e2 : (a : Int) * 2 ^ s = ((a * 2 ^ s : Nat) : Int) := by push_cast; rfl
  rw [e2, hw]
def decR (s : List UInt8) : Nat × Nat := if s = [] then (65533, 0) else decodeL s
def slowOk (s : List UInt8) : Prop := validD s = true ∧ (s = [] ∨ 128 ≤ (s.getD 0 0).toNat)
noncomputable def pSlow : Pol := .still (p1 cS (fun r : Nat × Nat => .tup [.int .i32 r.1, .int .i64 r.2]) slowOk decR)
theorem kSlow {R : Type} {s : List UInt8} (h : validD s = true) (h2 : s = [] ∨ 128 ≤ (s.getD 0 0).toNat) {H : Heap} {k : AV → Heap → Option R} : polK pSlow [.str s] H k = k (.tup [.int .i32 (decR s).1, .int .i64 (decR s).2]) H := by
  have : slowOk s := ⟨h, h2⟩
  unfold pSlow
  rw [q0i (by simp)]
  simp [this]
theorem okSlow : PolOK base 51 pSlow := still1 base_ok [] trivial fun s ⟨hv, h2⟩ => by
  have hl : A.lenStr (.str s) = some (.int .i64 (s.length : Int)) := q3f
  by_cases hne : s = []
  · subst hne
    have hl0 : A.lenStr (.str []) = some (.int .i64 0) := rfl
    exact Evs.of fun n m => by
      simp [↓q00, ↓q01, S51, hl0, decR]
      rfl
  have hc : 128 ≤ (s.getD 0 0).toNat := by
    rcases h2 with h | h
    · exact absurd h hne
    · exact h
  have h0 : 0 < s.length := List.length_pos_iff.2 hne
  have hlead := validD_lead s hne hc
  rw [hv] at hlead
  have hdec := decodeL_N s
  unfold decR
  rw [if_neg hne, hdec]
  have hx : A.index (.str s) (.int .i64 0) = some (.int .u8 ((s.getD 0 0).toNat : Int)) := q3d (i := 0) h0
  have hx1 : 1 < s.length → A.index (.str s) (.int .i64 1) = some (.int .u8 ((s.getD 1 0).toNat : Int)) := fun h => q3d (i := 1) h
  have hx2 : 2 < s.length → A.index (.str s) (.int .i64 2) = some (.int .u8 ((s.getD 2 0).toNat : Int)) := fun h => q3d (i := 2) h
  have hx3 : 3 < s.length → A.index (.str s) (.int .i64 3) = some (.int .u8 ((s.getD 3 0).toNat : Int)) := fun h => q3d (i := 3) h
  have hz0 : (s.getD 0 0).toNat < 256 := (s.getD 0 0).toNat_lt
  have hz1 : (s.getD 1 0).toNat < 256 := (s.getD 1 0).toNat_lt
  have hz2 : (s.getD 2 0).toNat < 256 := (s.getD 2 0).toNat_lt
  have hz3 : (s.getD 3 0).toNat < 256 := (s.getD 3 0).toNat_lt
  generalize (s.getD 0 0).toNat = z at *
  generalize (s.getD 1 0).toNat = z1 at *
  generalize (s.getD 2 0).toNat = z2 at *
  generalize (s.getD 3 0).toNat = z3 at *
  clear hdec
  obtain ⟨p0, hfirst⟩ := qd7 z hz0
  have hx256 := qd8 z
  have h7 := qj6 hx256
  obtain ⟨p1, hacc⟩ := qj5 (firstT z / 16) (by omega)
  have hf1 := fun H => (hfirst H).1
  have hf2 := fun H => (hfirst H).2
  have ha1 := fun H => (hacc H).1
  have ha2 := fun H => (hacc H).2
  have hshr : ∀ H, A.bin base.P .shr 5 (.int .u8 (firstT z : Nat)) (.int .u64 4) true H = some (.int .u8 ((firstT z / 16 : Nat) : Int)) := fun H => shr4
  have hy : IntKind.wrap .i64 ((firstT z % 8 : Nat) : Int) = ((firstT z % 8 : Nat) : Int) := q0k (by omega) (by omega)
  have hsz : 2 ≤ firstT z % 8 := by
    unfold checkN at hlead
    by_cases e2 : firstT z % 8 = 2
    · omega
    by_cases e3 : firstT z % 8 = 3
    · omega
    by_cases e4 : firstT z % 8 = 4
    · omega
    · rw [if_neg e2, if_neg e3, if_neg e4] at hlead
      cases hlead
  obtain ⟨hsl, h240, h4⟩ := qiv s.length z z1 z2 z3 (by omega) hc hz0 hz1 hz2 hz3 hsz
  rw [← hsl]
  generalize accLo (firstT z / 16) = lo at *
  generalize accHi (firstT z / 16) = hi at *
  generalize firstT z / 16 = w at *
  generalize hyy : firstT z % 8 = y at *
  generalize firstT z = x at *
  have h240' : ¬ (240 : Int) ≤ (x : Int) := by omega
  have h1' : ¬ (s.length : Int) < 1 := by omega
  have hst : A.store 2 (.ptr 0 0 0 0) (.agg [.int .u8 (lo : Nat), .int .u8 (hi : Nat)]) [.row 0 2 69 [.agg [.int .u8 0, .int .u8 0]]] = some [.row 0 2 69 [.agg [.int .u8 (lo : Nat), .int .u8 (hi : Nat)]]] := qaj (cs := [.int .u8 0, .int .u8 0]) (ds := [.int .u8 (lo : Nat), .int .u8 (hi : Nat)]) (H := [.row 0 2 69 [.agg [.int .u8 0, .int .u8 0]]]) rfl rfl rfl (by simp)
  have hB : Go.Den.Box [.row 0 2 69 [.agg [.int .u8 (lo : Nat), .int .u8 (hi : Nat)]]] 0 2 69 [.int .u8 (lo : Nat), .int .u8 (hi : Nat)] := rfl
  have fa0 := hB.fa (o := 0)
  have fa1 := hB.fa (o := 1)
  have ld0 := hB.load (o := 0)
  have ld1 := hB.load (o := 1)
  simp only [List.getElem?_cons_succ, List.getElem?_cons_zero] at ld0 ld1
  have m1 : andI .u8 (z1 : Int) 63 = ((z1 % 64 : Nat) : Int) := q38 (k := 6) hz1 (by omega)
  have m2 : andI .u8 (z2 : Int) 63 = ((z2 % 64 : Nat) : Int) := q38 (k := 6) hz2 (by omega)
  have m3 : andI .u8 (z3 : Int) 63 = ((z3 % 64 : Nat) : Int) := q38 (k := 6) hz3 (by omega)
  have v : ∀ a : Nat, a < 256 → IntKind.wrap .i32 (a : Int) = a := fun a ha => q5k (by omega)
  have v1 := v (z1 % 64) (by omega)
  have v2 := v (z2 % 64) (by omega)
  have v3 := v (z3 % 64) (by omega)
  have hfz : ∀ (H : Heap) (a b : Int), A.freezeB true 64 H (.tup [.int .i32 a, .int .i64 b]) = some (.tup [.int .i32 a, .int .i64 b]) := fun H a b => rfl
  unfold checkN at hlead
  unfold slowN
  by_cases y2 : y = 2
  case pos =>
    rw [if_pos y2] at hlead
    by_cases hk : s.length < 2 ∨ z1 < lo ∨ hi < z1
    · rw [if_pos hk] at hlead
      cases hlead
    have hk1 : ¬ (s.length : Int) < 2 := by omega
    have a1 : ¬ (z1 : Int) < (lo : Int) := by omega
    have b1 : ¬ (hi : Int) < (z1 : Int) := by omega
    have i1 := hx1 (by omega)
    rw [if_neg (by omega), if_neg (by omega), if_pos (by omega)]
    have n0 : andI .u8 (z : Int) 31 = ((z % 32 : Nat) : Int) := q38 (k := 5) hz0 (by omega)
    have v0 := v (z % 32) (by omega)
    have s0 : ∀ H, A.bin base.P .shl 21 (.int .i32 ((z % 32 : Nat) : Int)) (.int .u64 6) true H = some (.int .i32 ((z % 32 * 64 : Nat) : Int)) := fun H => q4r (s := 6) (by omega) (by omega)
    have o0 := q7n (a := z % 32 * 64) (b := z1 % 64) (s := 6) (by omega) (by omega) (by omega)
    subst y2
    have hw2 : IntKind.wrap .i64 2 = 2 := rfl
    generalize z % 32 * 64 + z1 % 64 = out at *
    generalize z % 32 * 64 = g1 at *
    generalize z % 32 = g0 at *
    generalize z1 % 64 = g2 at *
    exact Evs.of fun n m => by simp [↓q00, ↓q04, ↓q06, ↓q01, ↓q03, ↓q0c, ↓q02, S51, hl, h1', hx, hf1, hf2, h240', q0h, h7, q0q, hw2, hshr, ha1, ha2, hst, hk1, i1, fa0, ld0, a1, fa1, ld1, b1, n0, q9f, v0, s0, m1, v1, q39, o0, hfz]
  by_cases y3 : y = 3
  case pos =>
    rw [if_neg y2, if_pos y3] at hlead
    by_cases hk : s.length < 3 ∨ z1 < lo ∨ hi < z1 ∨ z2 < 128 ∨ 191 < z2
    · rw [if_pos hk] at hlead
      cases hlead
    have hk1 : ¬ (s.length : Int) < 3 := by omega
    have a1 : ¬ (z1 : Int) < (lo : Int) := by omega
    have b1 : ¬ (hi : Int) < (z1 : Int) := by omega
    have a2 : ¬ (z2 : Int) < 128 := by omega
    have b2 : ¬ (191 : Int) < (z2 : Int) := by omega
    have i1 := hx1 (by omega)
    have i2 := hx2 (by omega)
    rw [if_neg (by omega), if_neg (by omega), if_neg (by omega), if_neg (by omega), if_pos (by omega)]
    have n0 : andI .u8 (z : Int) 15 = ((z % 16 : Nat) : Int) := q38 (k := 4) hz0 (by omega)
    have v0 := v (z % 16) (by omega)
    have s0 : ∀ H, A.bin base.P .shl 21 (.int .i32 ((z % 16 : Nat) : Int)) (.int .u64 12) true H = some (.int .i32 ((z % 16 * 4096 : Nat) : Int)) := fun H => q4r (s := 12) (by omega) (by omega)
    have s1 : ∀ H, A.bin base.P .shl 21 (.int .i32 ((z1 % 64 : Nat) : Int)) (.int .u64 6) true H = some (.int .i32 ((z1 % 64 * 64 : Nat) : Int)) := fun H => q4r (s := 6) (by omega) (by omega)
    have o0 := q7n (a := z % 16 * 4096) (b := z1 % 64 * 64) (s := 12) (by omega) (by omega) (by omega)
    have o1 := q7n (a := z % 16 * 4096 + z1 % 64 * 64) (b := z2 % 64) (s := 6) (by omega) (by omega) (by omega)
    subst y3
    have hw3 : IntKind.wrap .i64 3 = 3 := rfl
    generalize z % 16 * 4096 + z1 % 64 * 64 + z2 % 64 = out at *
    generalize z % 16 * 4096 + z1 % 64 * 64 = g5 at *
    generalize z % 16 * 4096 = g1 at *
    generalize z1 % 64 * 64 = g4 at *
    generalize z % 16 = g0 at *
    generalize z1 % 64 = g2 at *
    generalize z2 % 64 = g3 at *
    exact Evs.of fun n m => by simp [↓q00, ↓q04, ↓q06, ↓q01, ↓q03, ↓q0c, ↓q02, S51, hl, h1', hx, hf1, hf2, h240', q0h, h7, q0q, hw3, hshr, ha1, ha2, hst, hk1, i1, fa0, ld0, a1, fa1, ld1, b1, i2, a2, b2, n0, q9f, v0, s0, m1, v1, s1, q39, o0, m2, v2, o1, hfz]
  · have y4 : y = 4 := by omega
    rw [if_neg y2, if_neg y3, if_pos y4] at hlead
    by_cases hk : s.length < 4 ∨ z1 < lo ∨ hi < z1 ∨ z2 < 128 ∨ 191 < z2 ∨ z3 < 128 ∨ 191 < z3
    · rw [if_pos hk] at hlead
      cases hlead
    have hk1 : ¬ (s.length : Int) < 4 := by omega
    have a1 : ¬ (z1 : Int) < (lo : Int) := by omega
    have b1 : ¬ (hi : Int) < (z1 : Int) := by omega
    have a2 : ¬ (z2 : Int) < 128 := by omega
    have b2 : ¬ (191 : Int) < (z2 : Int) := by omega
    have a3 : ¬ (z3 : Int) < 128 := by omega
    have b3 : ¬ (191 : Int) < (z3 : Int) := by omega
    have i1 := hx1 (by omega)
    have i2 := hx2 (by omega)
    have i3 := hx3 (by omega)
    rw [if_neg (by omega), if_neg (by omega), if_neg (by omega), if_neg (by omega), if_neg (by omega), if_neg (by omega)]
    obtain ⟨g0, e0⟩ : ∃ g, z % 8 = g := ⟨_, rfl⟩
    obtain ⟨g2, e2⟩ : ∃ g, z1 % 64 = g := ⟨_, rfl⟩
    obtain ⟨g3, e3⟩ : ∃ g, z2 % 64 = g := ⟨_, rfl⟩
    obtain ⟨g8, e8⟩ : ∃ g, z3 % 64 = g := ⟨_, rfl⟩
    have n0 : andI .u8 (z : Int) 7 = ((z % 8 : Nat) : Int) := q38 (k := 3) hz0 (by omega)
    have v0 := v (z % 8) (by omega)
    rw [e0] at n0 v0 ⊢
    rw [e2] at m1 v1 ⊢
    rw [e3] at m2 v2 ⊢
    rw [e8] at m3 v3 ⊢
    have q0 : g0 < 8 := by omega
    have q2 : g2 < 64 := by omega
    have q3 : g3 < 64 := by omega
    have q8 : g8 < 64 := by omega
    obtain ⟨g1, e1⟩ : ∃ g, g0 * 262144 = g := ⟨_, rfl⟩
    obtain ⟨g4, e4⟩ : ∃ g, g2 * 4096 = g := ⟨_, rfl⟩
    obtain ⟨g7, e7⟩ : ∃ g, g3 * 64 = g := ⟨_, rfl⟩
    rw [e1, e4, e7]
    have s0 : ∀ H, A.bin base.P .shl 21 (.int .i32 (g0 : Int)) (.int .u64 18) true H = some (.int .i32 (g1 : Int)) := fun H => by rw [← e1]; exact q4r (s := 18) (by omega) (by omega)
    have s1 : ∀ H, A.bin base.P .shl 21 (.int .i32 (g2 : Int)) (.int .u64 12) true H = some (.int .i32 (g4 : Int)) := fun H => by rw [← e4]; exact q4r (s := 12) (by omega) (by omega)
    have s2 : ∀ H, A.bin base.P .shl 21 (.int .i32 (g3 : Int)) (.int .u64 6) true H = some (.int .i32 (g7 : Int)) := fun H => by rw [← e7]; exact q4r (s := 6) (by omega) (by omega)
    have o0 := q7n (a := g1) (b := g4) (s := 18) (by omega) (by omega) (by omega)
    have o1 := q7n (a := g1 + g4) (b := g7) (s := 12) (by omega) (by omega) (by omega)
    have o2 := q7n (a := g1 + g4 + g7) (b := g8) (s := 6) (by omega) (by omega) (by omega)
    obtain ⟨g5, e5⟩ : ∃ g, g1 + g4 = g := ⟨_, rfl⟩
    rw [e5] at o0 o1 o2 ⊢
    obtain ⟨g6, e6⟩ : ∃ g, g5 + g7 = g := ⟨_, rfl⟩
    rw [e6] at o1 o2 ⊢
    obtain ⟨out, e9⟩ : ∃ g, g6 + g8 = g := ⟨_, rfl⟩
    rw [e9] at o2 ⊢
    clear hsl
    subst y4
    have hw4 : IntKind.wrap .i64 4 = 4 := rfl
    exact Evs.of fun n m => by simp [↓q00, ↓q04, ↓q06, ↓q01, ↓q03, ↓q0c, ↓q02, S51, hl, h1', hx, hf1, hf2, h240', q0h, h7, q0q, hw4, hshr, ha1, ha2, hst, hk1, i1, fa0, ld0, a1, fa1, ld1, b1, i2, a2, b2, i3, a3, b3, n0, q9f, v0, s0, m1, v1, s1, q39, o0, m2, v2, s2, o1, m3, v3, o2, hfz]
noncomputable def pDec : Pol := .still (p1 cS (fun r : Nat × Nat => .tup [.int .i32 r.1, .int .i64 r.2]) (fun s => validD s = true) decR)
theorem str_ne {t : TypeId} {c : Bool} {H : Heap} (s : List UInt8) : A.bin base.P .neq t (.str s) (.str []) c H = some (.bool (!decide (s = []))) := by
  cases s <;> rfl
theorem okDec : PolOK base 33 pDec := still1 base_ok [(51, pSlow)] ⟨okSlow, trivial⟩ fun s hv => by
  have hfz : ∀ (H : Heap) (a b : Int), A.freezeB true 64 H (.tup [.int .i32 a, .int .i64 b]) = some (.tup [.int .i32 a, .int .i64 b]) := fun H a b => rfl
  have hn := fun H => str_ne (t := 9) (c := true) (H := H) s
  by_cases hne : s = []
  · subst hne
    have hk : ∀ (R : Type) (H : Heap) (k : AV → Heap → Option R), polK pSlow [.str []] H k = k (.tup [.int .i32 (decR []).1, .int .i64 (decR []).2]) H := fun R H k => kSlow hv (.inl rfl)
    exact Evs.of fun n m => by simp [↓q00, ↓q01, ↓q03, ↓q02, S33, hn, hk, hfz]
  have h0 : 0 < s.length := List.length_pos_iff.2 hne
  have hx : A.index (.str s) (.int .i64 0) = some (.int .u8 ((s.getD 0 0).toNat : Int)) := q3d (i := 0) h0
  by_cases hc : (s.getD 0 0).toNat < 128
  · have hc' : ((s.getD 0 0).toNat : Int) < 128 := by omega
    have e : decR s = ((s.getD 0 0).toNat, 1) := by
      unfold decR
      rw [if_neg hne, decodeL_N]
      unfold decodeN
      rw [if_pos hc]
    have hw : IntKind.wrap .i32 ((s.getD 0 0).toNat : Int) = ((s.getD 0 0).toNat : Int) := q5k (by omega)
    rw [e]
    generalize (s.getD 0 0).toNat = z at *
    exact Evs.of fun n m => by simp [↓q00, ↓q01, ↓q03, ↓q02, S33, hn, hne, hx, hc', q9f, hw, hfz]
  · have hc' : ¬ ((s.getD 0 0).toNat : Int) < 128 := by omega
    have hk : ∀ (R : Type) (H : Heap) (k : AV → Heap → Option R), polK pSlow [.str s] H k = k (.tup [.int .i32 (decR s).1, .int .i64 (decR s).2]) H := fun R H k => kSlow hv (.inr (by omega))
    generalize (s.getD 0 0).toNat = z at *
    exact Evs.of fun n m => by simp [↓q00, ↓q01, ↓q03, ↓q02, S33, hn, hne, hx, hc', hk, hfz]
end Go.Proofs.YtdkjednjlpcboaaDoor

/- Texts: how many signs; which is less. -/
set_option maxRecDepth 100000
set_option maxHeartbeats 8000000
namespace Go.Proofs.YtdkjednjlpcboaaDoor
open Go Go.Den Go.Lib
/-! ### how many signs -/
theorem q3a (l : List UInt8) (pos : Nat) : Utf8.decode ⟨l.toArray⟩ pos = decodeL (l.drop pos) := by
  have := decodeL_drop ⟨l.toArray⟩ pos
  have e0 : (⟨l.toArray⟩ : ByteArray).data.toList = l := by simp
  rw [e0] at this
  exact this.symm
theorem q4h {l : List UInt8} {pos : Nat} (h : pos < l.length) : l.drop pos ≠ [] := fun e => by
  have := congrArg List.length e
  simp at this
  omega
theorem qf1 {pol : FuncId → Pol} {l : List UInt8} {id : Nat} : ∀ (N pos : Nat) (c : Int) (H : Heap), l.length - pos ≤ N → H[id]? = some (.iter l pos) → 0 ≤ c → c + N ≤ 1000000000 →
    ∃ H', LDoes (qht pol) ⟨[.int .i64 c, .it id], []⟩ H 0 ⟨[.int .i64 (c + (rs (l.drop pos)).length)], []⟩ H' := by
  intro N
  induction N with
  | zero =>
    intro pos c H hN hH h0 h1
    have hp : ¬ pos < l.length := by omega
    have hd : l.drop pos = [] := List.drop_of_length_le (by omega)
    rw [hd]
    refine ⟨H, LDoes.step (Evs.of fun n m => ?_)⟩
    simp [↓q00, ↓q01, q5p, nextK, hH, hp, q31]
  | succ N ih =>
    intro pos c H hN hH h0 h1
    by_cases hp : pos < l.length
    · have hne := q4h hp
      have hw := decodeL_width (l.drop pos)
      have hid : id < H.length := (List.getElem?_eq_some_iff.1 hH).1
      obtain ⟨H', hL⟩ := ih (pos + (decodeL (l.drop pos)).2) (c + 1) (H.set id (.iter l (pos + (decodeL (l.drop pos)).2))) (by omega) (List.getElem?_set_self hid) (by omega) (by omega)
      have hc : IntKind.wrap .i64 (c + 1) = c + 1 := q0k (by omega) (by omega)
      have e : c + ((rs (l.drop pos)).length : Int) = c + 1 + ((rs (l.drop (pos + (decodeL (l.drop pos)).2))).length : Int) := by
        rw [q1o hne, List.drop_drop, List.length_cons]
        omega
      rw [e]
      have hdd := q3a l pos
      generalize decodeL (l.drop pos) = d at *
      refine ⟨H', LDoes.step (Evs.withL hL (Evs.of fun n m _ h2 => ?_))⟩
      simp [↓q00, ↓q01, q5p, nextK, hH, hp, hdd, hc, h2]
    · have hd : l.drop pos = [] := List.drop_of_length_le (by omega)
      rw [hd]
      refine ⟨H, LDoes.step (Evs.of fun n m => ?_)⟩
      simp [↓q00, ↓q01, q5p, nextK, hH, hp, q31]
def q0l (s : List UInt8) : Prop := s.length ≤ 1000000
noncomputable def pRunes : Pol := .still (p1 cS (.int .i64) q0l (fun s => ((rs s).length : Int)))
theorem okRunes : PolOK base 38 pRunes := still1 base_ok [] trivial fun s hs => by
  unfold q0l at hs
  obtain ⟨H', hL⟩ := qf1 (pol := polT []) (l := s) (id := 0) s.length 0 0 [.iter s 0] (by omega) rfl (by omega) (by omega)
  refine Evs.withL hL (Evs.of fun n m h1 _ => ?_)
  simp only [Int.zero_add, List.drop_zero] at h1
  generalize ((rs s).length : Int) = N at *
  simp [↓q04, ↓q05, S38, rangeK, h1]
theorem kRunes {R : Type} {s : List UInt8} (h : q0l s) {H : Heap} {k : AV → Heap → Option R} : polK pRunes [.str s] H k = k (.int .i64 ((rs s).length : Nat)) H := by
  simp [pRunes, q0i, h]
noncomputable def q1w : Pol := .still (p1 cS .bool (fun _ => True) validD)
theorem q59 : PolOK base 10 q1w := still1 base_ok [(24, pValid)] ⟨qgt, trivial⟩ fun s _ => Evs.of fun n m => by
  simp [S10, kValid]
theorem q1c {R : Type} {s : List UInt8} {H : Heap} {k : AV → Heap → Option R} : polK q1w [.str s] H k = k (.bool (validD s)) H := by
  simp [q1w, q0i]
noncomputable def q1n : Pol := .still (p1 cS .bool (fun _ => True) validD)
theorem q5a : PolOK base 12 q1n := still1 base_ok [(24, pValid)] ⟨qgt, trivial⟩ fun s _ => Evs.of fun n m => by
  simp [S12, kValid]
theorem q1u {R : Type} {s : List UInt8} {H : Heap} {k : AV → Heap → Option R} : polK q1n [.str s] H k = k (.bool (validD s)) H := by
  simp [q1n, q0i]
def countR (s : List UInt8) : Int := if validD s then ((rs s).length : Nat) else -1
noncomputable def pCount : Pol := .still (p1 cS (.int .i64) q0l countR)
theorem okCount : PolOK base 17 pCount := still1 base_ok [(12, q1n), (38, pRunes)] ⟨q5a, okRunes, trivial⟩ fun s hs => Evs.of fun n m => by
  have hk : ∀ (R : Type) (H : Heap) (k : AV → Heap → Option R), polK pRunes [.str s] H k = k (.int .i64 ((rs s).length : Nat)) H := fun R H k => kRunes hs
  unfold countR
  cases h : validD s <;> simp [↓q00, ↓q01, S17, q1u, h, hk]
theorem kCount {R : Type} {s : List UInt8} (h : q0l s) {H : Heap} {k : AV → Heap → Option R} : polK pCount [.str s] H k = k (.int .i64 (countR s)) H := by
  simp [pCount, q0i, h]
def ordI (x y : Int) : Int := if x < y then -1 else if y < x then 1 else 0
noncomputable def pNanI : Pol := .still (p1 (cI .i64) .bool (fun _ => True) fun _ => false)
noncomputable def pNanR : Pol := .still (p1 (cI .i32) .bool (fun _ => True) fun _ => false)
noncomputable def pNanS : Pol := .still (p1 cS .bool (fun _ => True) fun _ => false)
noncomputable def pCmpI : Pol := .still (p2 (cI .i64) (cI .i64) (.int .i64) (fun _ _ => True) ordI)
noncomputable def pCmpR : Pol := .still (p2 (cI .i32) (cI .i32) (.int .i64) (fun _ _ => True) ordI)
noncomputable def pCmpS : Pol := .still (p2 cS cS (.int .i64) (fun _ _ => True) fun a b => lexR (nums a) (nums b))
noncomputable abbrev TLess : List (FuncId × Pol) := [(12, q1n), (32, pCmpS), (33, pDec), (34, pCmpI), (35, pCmpR)]
noncomputable def pLess : Pol := .still (p2 cS cS (.int .i64) (fun _ _ => True) lessR)
end Go.Proofs.YtdkjednjlpcboaaDoor

/- Texts, the reference: which is less. -/
set_option maxRecDepth 100000
set_option maxHeartbeats 8000000
namespace Go.Proofs.YtdkjednjlpcboaaDoor
open Go Go.Den Go.Lib
def diffR : List Nat → List Nat → Option Int
  | x :: p, y :: q => if x = y then diffR p q else some (ordI x y)
  | _, _ => none
noncomputable def pOrd : Pol := .still (p2 (cI .i64) (cI .i64) (.int .i64) (fun _ _ => True) ordI)
def cBy : Cd (Option (List UInt8)) := ⟨eL 1 eb, fun a b h => qc0 (fun l m _ _ hm => q6q (fun a b => qja) hm) h, fun a => by cases a <;> rfl⟩
@[simp] theorem enc_cBy {a : Option (List UInt8)} : cBy.enc a = eL 1 eb a := id rfl
@[simp] theorem dec_cBy {a : Option (List UInt8)} : cBy.dec (eL 1 eb a) = some a := cBy.dec_enc a
noncomputable abbrev TOrd : List (FuncId × Pol) := [(37, pOrd)]
def bywOk (a _ : Option (List UInt8)) : Prop := (a.getD []).length ≤ 1000000
noncomputable def pByw : Pol := .still (p2 cBy cBy (.int .i64) bywOk fun a b => lexR (nums (a.getD [])) (nums (b.getD [])))
theorem q4d : base.P.underlying 9 = some .string := by kernel_rfl
theorem qe5 : base.P.underlying 21 = some (.int .i32) := by kernel_rfl
theorem q17 : base.P.underlying 54 = some (.slice 21) := by kernel_rfl
theorem q48 : base.P.underlying 35 = some (.slice 5) := by kernel_rfl
abbrev er (r : Nat) : AV := .int .i32 (r : Int)
theorem q8i {R : Type} {s : List UInt8} (h : s.length ≤ 1000000) {H : Heap} {k : AV → Heap → Option R} : q09 base 9 54 (.str s) H k = k (.sl H.length 0 0 (rs s).length (rs s).length) (H ++ [.row 0 1 21 ((rs s).map er)]) := by
  have h1 : Go.Den.convert base 9 54 (.str s) = none := by
    unfold Go.Den.convert
    rw [q4d, q17]
  have h2 : convH base 9 54 (.str s) H = none := by
    unfold convH
    rw [q4d, q17]
  have hr : (runeL ⟨s.toArray⟩ s.length 0).map (AV.int .i32) = (rs s).map er := by
    rw [qdz s s.length 0 (by simp), List.drop_zero, List.map_map]
    rfl
  have h3 : convN base 9 54 (.str s) H = some (.sl H.length 0 0 (rs s).length (rs s).length, H ++ [.row 0 1 21 ((rs s).map er)]) := by
    unfold convN
    rw [q4d, q17]
    dsimp only
    rw [qe5]
    have : decide (s.length ≤ 70368744177664) = true := by simp; omega
    dsimp only
    rw [this, hr]
    simp [A.newRow]
  unfold q09
  rw [h1, h2, h3]
noncomputable abbrev TRless : List (FuncId × Pol) := [(10, q1w), (36, pByw), (37, pOrd)]
def lessOk (a b : List UInt8) : Prop := q0l a ∧ q0l b
noncomputable def pRless : Pol := .still (p2 cS cS (.int .i64) lessOk lessR)
end Go.Proofs.YtdkjednjlpcboaaDoor
