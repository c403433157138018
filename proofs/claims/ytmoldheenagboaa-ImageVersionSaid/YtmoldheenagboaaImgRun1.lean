import Derived.Test.YtmoldheenagboaaProg
import Derived.Test.YtmoldheenagboaaLib32
import Derived.Test.YtmoldheenagboaaImgSh
import Derived.KernelRfl
open Go Go.Ab Go.Proofs
set_option linter.unusedVariables false
set_option maxRecDepth 20000
namespace Sx
noncomputable section
abbrev yA : Ty := (.cons (.int .i64) (.cons (.int .i64) (.cons (.sl false (.int .u64)) (.sl false (.int .u64)))))
abbrev yB : Ty := (.cons (.int .i64) (.cons (.int .i64) (.cons (.sl false (.int .u64)) (.sl false (.int .u8)))))
abbrev yC : Ty := (.cons (.int .i64) (.cons (.int .u64) .bool))
def gtabL : DD := []
instance gTab : GTab := ⟨fun g => assoc g gtabL⟩
def ti2 : TI := ⟨.int .i64, 1, 8, false, some (.int .i64), false, [.int .i64 0]⟩
def ti3 : TI := ⟨.int .i64, 1, 8, false, some (.int .i64), false, [.int .i64 0]⟩
def ti4 : TI := ⟨.bool, 1, 1, false, some .bool, false, [.bool false]⟩
def ti5 : TI := ⟨.int .u8, 1, 1, false, some (.int .u8), false, [.int .u8 0]⟩
def ti6 : TI := ⟨.int .u8, 1, 1, false, some (.int .u8), false, [.int .u8 0]⟩
def ti7 : TI := ⟨.st [(0, 1, 2), (1, 1, 3), (2, 1, 4), (3, 1, 6)], 4, 24, true, some (.cons (.int .i64) (.cons (.int .i64) (.cons .bool (.int .u8)))), true, [.int .i64 0, .int .i64 0, .bool false, .int .u8 0]⟩
def ti8 : TI := ⟨.st [(0, 1, 2), (1, 1, 3), (2, 1, 4), (3, 1, 6)], 4, 24, true, some (.cons (.int .i64) (.cons (.int .i64) (.cons .bool (.int .u8)))), true, [.int .i64 0, .int .i64 0, .bool false, .int .u8 0]⟩
def ti9 : TI := ⟨.str, 1, 16, false, some .str, false, [.string (ByteArray.mk (List.toArray []))]⟩
def ti10 : TI := ⟨.str, 1, 16, false, some .str, false, [.string (ByteArray.mk (List.toArray []))]⟩
def ti11 : TI := ⟨.str, 1, 16, false, some .str, false, [.string (ByteArray.mk (List.toArray []))]⟩
def ti12 : TI := ⟨.int .u64, 1, 8, false, some (.int .u64), false, [.int .u64 0]⟩
def ti13 : TI := ⟨.st [(0, 1, 9), (1, 1, 12)], 2, 24, true, some (.cons .str (.int .u64)), false, [.string (ByteArray.mk (List.toArray [])), .int .u64 0]⟩
def ti14 : TI := ⟨.st [(0, 1, 9), (1, 1, 12)], 2, 24, true, some (.cons .str (.int .u64)), false, [.string (ByteArray.mk (List.toArray [])), .int .u64 0]⟩
def ti15 : TI := ⟨.ptr, 1, 8, false, none, false, [.pointer none]⟩
def ti16 : TI := ⟨.ptr, 1, 8, false, none, false, [.pointer none]⟩
def ti17 : TI := ⟨.ptr, 1, 8, false, none, false, [.pointer none]⟩
def ti18 : TI := ⟨.st [(0, 1, 17)], 1, 8, true, none, false, [.pointer none]⟩
def ti19 : TI := ⟨.st [(0, 1, 17)], 1, 8, true, none, false, [.pointer none]⟩
def ti21 : TI := ⟨.int .i32, 1, 4, false, some (.int .i32), false, [.int .i32 0]⟩
def ti22 : TI := ⟨.sl 50, 1, 24, false, some (.sl true (.cons (.int .i64) (.cons (.int .i64) (.cons (.sl false (.int .u64)) (.sl false (.int .u64)))))), false, [.slice none 0 0]⟩
def ti23 : TI := ⟨.sl 52, 1, 24, false, some (.sl true (.cons (.int .i64) (.cons (.int .i64) (.cons (.sl false (.int .u64)) (.sl false (.int .u8)))))), false, [.slice none 0 0]⟩
def ti24 : TI := ⟨.sl 54, 1, 24, false, some (.sl true (.cons (.int .i64) (.cons (.int .u64) .bool))), false, [.slice none 0 0]⟩
def ti25 : TI := ⟨.int .u64, 1, 8, false, some (.int .u64), false, [.int .u64 0]⟩
def ti26 : TI := ⟨.st [(0, 1, 22), (1, 1, 23), (2, 1, 24), (3, 1, 3), (4, 1, 3), (5, 1, 3), (6, 1, 25)], 7, 104, true, some (.cons (.sl true (.cons (.int .i64) (.cons (.int .i64) (.cons (.sl false (.int .u64)) (.sl false (.int .u64)))))) (.cons (.sl true (.cons (.int .i64) (.cons (.int .i64) (.cons (.sl false (.int .u64)) (.sl false (.int .u8)))))) (.cons (.sl true (.cons (.int .i64) (.cons (.int .u64) .bool))) (.cons (.int .i64) (.cons (.int .i64) (.cons (.int .i64) (.int .u64))))))), false, [.slice none 0 0, .slice none 0 0, .slice none 0 0, .int .i64 0, .int .i64 0, .int .i64 0, .int .u64 0]⟩
def ti27 : TI := ⟨.st [(0, 1, 22), (1, 1, 23), (2, 1, 24), (3, 1, 3), (4, 1, 3), (5, 1, 3), (6, 1, 25)], 7, 104, true, some (.cons (.sl true (.cons (.int .i64) (.cons (.int .i64) (.cons (.sl false (.int .u64)) (.sl false (.int .u64)))))) (.cons (.sl true (.cons (.int .i64) (.cons (.int .i64) (.cons (.sl false (.int .u64)) (.sl false (.int .u8)))))) (.cons (.sl true (.cons (.int .i64) (.cons (.int .u64) .bool))) (.cons (.int .i64) (.cons (.int .i64) (.cons (.int .i64) (.int .u64))))))), false, [.slice none 0 0, .slice none 0 0, .slice none 0 0, .int .i64 0, .int .i64 0, .int .i64 0, .int .u64 0]⟩
def ti28 : TI := ⟨.int .u32, 1, 4, false, some (.int .u32), false, [.int .u32 0]⟩
def ti31 : TI := ⟨.sl 5, 1, 24, false, some (.sl false (.int .u8)), false, [.slice none 0 0]⟩
def ti35 : TI := ⟨.int .i64, 1, 8, false, some (.int .i64), false, [.int .i64 0]⟩
def ti42 : TI := ⟨.int .u64, 1, 8, false, some (.int .u64), false, [.int .u64 0]⟩
def ti44 : TI := ⟨.int .u16, 1, 2, false, some (.int .u16), false, [.int .u16 0]⟩
def ti48 : TI := ⟨.sl 25, 1, 24, false, some (.sl false (.int .u64)), false, [.slice none 0 0]⟩
def ti49 : TI := ⟨.st [(0, 1, 3), (1, 1, 3), (2, 1, 48), (3, 1, 48)], 4, 64, true, some (.cons (.int .i64) (.cons (.int .i64) (.cons (.sl false (.int .u64)) (.sl false (.int .u64))))), false, [.int .i64 0, .int .i64 0, .slice none 0 0, .slice none 0 0]⟩
def ti50 : TI := ⟨.st [(0, 1, 3), (1, 1, 3), (2, 1, 48), (3, 1, 48)], 4, 64, true, some (.cons (.int .i64) (.cons (.int .i64) (.cons (.sl false (.int .u64)) (.sl false (.int .u64))))), false, [.int .i64 0, .int .i64 0, .slice none 0 0, .slice none 0 0]⟩
def ti51 : TI := ⟨.st [(0, 1, 3), (1, 1, 3), (2, 1, 48), (3, 1, 31)], 4, 64, true, some (.cons (.int .i64) (.cons (.int .i64) (.cons (.sl false (.int .u64)) (.sl false (.int .u8))))), false, [.int .i64 0, .int .i64 0, .slice none 0 0, .slice none 0 0]⟩
def ti52 : TI := ⟨.st [(0, 1, 3), (1, 1, 3), (2, 1, 48), (3, 1, 31)], 4, 64, true, some (.cons (.int .i64) (.cons (.int .i64) (.cons (.sl false (.int .u64)) (.sl false (.int .u8))))), false, [.int .i64 0, .int .i64 0, .slice none 0 0, .slice none 0 0]⟩
def ti53 : TI := ⟨.st [(0, 1, 3), (1, 1, 25), (2, 1, 4)], 3, 24, true, some (.cons (.int .i64) (.cons (.int .u64) .bool)), true, [.int .i64 0, .int .u64 0, .bool false]⟩
def ti54 : TI := ⟨.st [(0, 1, 3), (1, 1, 25), (2, 1, 4)], 3, 24, true, some (.cons (.int .i64) (.cons (.int .u64) .bool)), true, [.int .i64 0, .int .u64 0, .bool false]⟩
def ti55 : TI := ⟨.ptr, 1, 8, false, none, false, [.pointer none]⟩
def ti57 : TI := ⟨.st [(0, 1, 31)], 1, 24, true, some (.sl false (.int .u8)), false, [.slice none 0 0]⟩
def ti58 : TI := ⟨.st [(0, 1, 31)], 1, 24, true, some (.sl false (.int .u8)), false, [.slice none 0 0]⟩
def ti59 : TI := ⟨.arr 3 3, 3, 24, true, none, false, [.int .i64 0, .int .i64 0, .int .i64 0]⟩
def ti67 : TI := ⟨.ptr, 1, 8, false, none, false, [.pointer none]⟩
def ti70 : TI := ⟨.ptr, 1, 8, false, none, false, [.pointer none]⟩
def ti71 : TI := ⟨.st [(0, 1, 67), (1, 1, 4)], 2, 16, true, none, false, [.pointer none, .bool false]⟩
def ti72 : TI := ⟨.st [(0, 1, 67), (1, 1, 4)], 2, 16, true, none, false, [.pointer none, .bool false]⟩
def ti81 : TI := ⟨.sl 3, 1, 24, false, some (.sl false (.int .i64)), false, [.slice none 0 0]⟩
def ti86 : TI := ⟨.ptr, 1, 8, false, none, false, [.pointer none]⟩
def ti87 : TI := ⟨.st [(0, 1, 67), (1, 1, 4)], 2, 16, true, none, false, [.pointer none, .bool false]⟩
def ti88 : TI := ⟨.st [(0, 1, 67), (1, 1, 4)], 2, 16, true, none, false, [.pointer none, .bool false]⟩
def ti90 : TI := ⟨.st [(0, 1, 3), (1, 1, 3)], 2, 16, true, some (.cons (.int .i64) (.int .i64)), true, [.int .i64 0, .int .i64 0]⟩
def ti91 : TI := ⟨.st [(0, 1, 3), (1, 1, 3)], 2, 16, true, some (.cons (.int .i64) (.int .i64)), true, [.int .i64 0, .int .i64 0]⟩
def ti92 : TI := ⟨.sl 91, 1, 24, false, some (.sl true (.cons (.int .i64) (.int .i64))), false, [.slice none 0 0]⟩
def ti93 : TI := ⟨.st [(0, 1, 3), (1, 1, 3), (2, 1, 3)], 3, 24, true, some (.cons (.int .i64) (.cons (.int .i64) (.int .i64))), true, [.int .i64 0, .int .i64 0, .int .i64 0]⟩
def ti94 : TI := ⟨.st [(0, 1, 3), (1, 1, 3), (2, 1, 3)], 3, 24, true, some (.cons (.int .i64) (.cons (.int .i64) (.int .i64))), true, [.int .i64 0, .int .i64 0, .int .i64 0]⟩
def ti95 : TI := ⟨.sl 94, 1, 24, false, some (.sl true (.cons (.int .i64) (.cons (.int .i64) (.int .i64)))), false, [.slice none 0 0]⟩
def ti96 : TI := ⟨.st [(0, 1, 92), (1, 2, 91), (3, 1, 92), (4, 1, 95)], 5, 88, true, some (.cons (.sl true (.cons (.int .i64) (.int .i64))) (.cons (.int .i64) (.cons (.int .i64) (.cons (.sl true (.cons (.int .i64) (.int .i64))) (.sl true (.cons (.int .i64) (.cons (.int .i64) (.int .i64)))))))), false, [.slice none 0 0, .int .i64 0, .int .i64 0, .slice none 0 0, .slice none 0 0]⟩
def ti97 : TI := ⟨.st [(0, 1, 92), (1, 2, 91), (3, 1, 92), (4, 1, 95)], 5, 88, true, some (.cons (.sl true (.cons (.int .i64) (.int .i64))) (.cons (.int .i64) (.cons (.int .i64) (.cons (.sl true (.cons (.int .i64) (.int .i64))) (.sl true (.cons (.int .i64) (.cons (.int .i64) (.int .i64)))))))), false, [.slice none 0 0, .int .i64 0, .int .i64 0, .slice none 0 0, .slice none 0 0]⟩
def ti98 : TI := ⟨.sl 97, 1, 24, false, some (.sl true (.cons (.sl true (.cons (.int .i64) (.int .i64))) (.cons (.int .i64) (.cons (.int .i64) (.cons (.sl true (.cons (.int .i64) (.int .i64))) (.sl true (.cons (.int .i64) (.cons (.int .i64) (.int .i64))))))))), false, [.slice none 0 0]⟩
def ti99 : TI := ⟨.sl 92, 1, 24, false, some (.sl false (.sl true (.cons (.int .i64) (.int .i64)))), false, [.slice none 0 0]⟩
def ti100 : TI := ⟨.sl 142, 1, 24, false, some (.sl true (.cons (.sl true (.cons (.int .i64) (.int .i64))) (.cons (.int .i64) (.int .i64)))), false, [.slice none 0 0]⟩
def ti101 : TI := ⟨.sl 9, 1, 24, false, some (.sl false .str), false, [.slice none 0 0]⟩
def ti102 : TI := ⟨.st [(0, 1, 99), (1, 1, 98), (2, 1, 100), (3, 1, 48), (4, 1, 101)], 5, 120, true, some (.cons (.sl false (.sl true (.cons (.int .i64) (.int .i64)))) (.cons (.sl true (.cons (.sl true (.cons (.int .i64) (.int .i64))) (.cons (.int .i64) (.cons (.int .i64) (.cons (.sl true (.cons (.int .i64) (.int .i64))) (.sl true (.cons (.int .i64) (.cons (.int .i64) (.int .i64))))))))) (.cons (.sl true (.cons (.sl true (.cons (.int .i64) (.int .i64))) (.cons (.int .i64) (.int .i64)))) (.cons (.sl false (.int .u64)) (.sl false .str))))), false, [.slice none 0 0, .slice none 0 0, .slice none 0 0, .slice none 0 0, .slice none 0 0]⟩
def ti103 : TI := ⟨.st [(0, 1, 99), (1, 1, 98), (2, 1, 100), (3, 1, 48), (4, 1, 101)], 5, 120, true, some (.cons (.sl false (.sl true (.cons (.int .i64) (.int .i64)))) (.cons (.sl true (.cons (.sl true (.cons (.int .i64) (.int .i64))) (.cons (.int .i64) (.cons (.int .i64) (.cons (.sl true (.cons (.int .i64) (.int .i64))) (.sl true (.cons (.int .i64) (.cons (.int .i64) (.int .i64))))))))) (.cons (.sl true (.cons (.sl true (.cons (.int .i64) (.int .i64))) (.cons (.int .i64) (.int .i64)))) (.cons (.sl false (.int .u64)) (.sl false .str))))), false, [.slice none 0 0, .slice none 0 0, .slice none 0 0, .slice none 0 0, .slice none 0 0]⟩
def ti118 : TI := ⟨.st [(0, 1, 31), (1, 1, 4)], 2, 32, true, some (.cons (.sl false (.int .u8)) .bool), false, [.slice none 0 0, .bool false]⟩
def ti119 : TI := ⟨.st [(0, 1, 31), (1, 1, 4)], 2, 32, true, some (.cons (.sl false (.int .u8)) .bool), false, [.slice none 0 0, .bool false]⟩
def ti120 : TI := ⟨.ptr, 1, 8, false, none, false, [.pointer none]⟩
def ti121 : TI := ⟨.st [(0, 1, 31)], 1, 24, true, some (.sl false (.int .u8)), false, [.slice none 0 0]⟩
def ti122 : TI := ⟨.st [(0, 1, 31)], 1, 24, true, some (.sl false (.int .u8)), false, [.slice none 0 0]⟩
def ti141 : TI := ⟨.st [(0, 1, 92), (1, 2, 91)], 3, 40, true, some (.cons (.sl true (.cons (.int .i64) (.int .i64))) (.cons (.int .i64) (.int .i64))), false, [.slice none 0 0, .int .i64 0, .int .i64 0]⟩
def ti142 : TI := ⟨.st [(0, 1, 92), (1, 2, 91)], 3, 40, true, some (.cons (.sl true (.cons (.int .i64) (.int .i64))) (.cons (.int .i64) (.int .i64))), false, [.slice none 0 0, .int .i64 0, .int .i64 0]⟩
def ti147 : TI := ⟨.sl 31, 1, 24, false, some (.sl false (.sl false (.int .u8))), false, [.slice none 0 0]⟩
def ti161 : TI := ⟨.ptr, 1, 8, false, none, false, [.pointer none]⟩
def ti162 : TI := ⟨.st [(0, 1, 31)], 1, 24, true, some (.sl false (.int .u8)), false, [.slice none 0 0]⟩
def ti163 : TI := ⟨.st [(0, 1, 31)], 1, 24, true, some (.sl false (.int .u8)), false, [.slice none 0 0]⟩
def ti172 : TI := ⟨.arr 2 3, 2, 16, true, none, false, [.int .i64 0, .int .i64 0]⟩
def ti174 : TI := ⟨.st [(0, 1, 17), (1, 1, 17), (2, 1, 17), (3, 1, 9)], 4, 40, true, none, false, [.pointer none, .pointer none, .pointer none, .string (ByteArray.mk (List.toArray []))]⟩
def ti175 : TI := ⟨.st [(0, 1, 17), (1, 1, 17), (2, 1, 17), (3, 1, 9)], 4, 40, true, none, false, [.pointer none, .pointer none, .pointer none, .string (ByteArray.mk (List.toArray []))]⟩
def ti176 : TI := ⟨.arr 0 16, 0, 0, true, none, false, []⟩
def ti177 : TI := ⟨.st [(0, 0, 176)], 0, 0, true, none, false, []⟩
def ti178 : TI := ⟨.st [(0, 0, 176)], 0, 0, true, none, false, []⟩
def ti179 : TI := ⟨.int .u8, 1, 1, false, some (.int .u8), false, [.int .u8 0]⟩
def ti180 : TI := ⟨.int .u8, 1, 1, false, some (.int .u8), false, [.int .u8 0]⟩
def ti182 : TI := ⟨.ptr, 1, 8, false, none, false, [.pointer none]⟩
def ti183 : TI := ⟨.int .i32, 1, 4, false, some (.int .i32), false, [.int .i32 0]⟩
def ti184 : TI := ⟨.int .i32, 1, 4, false, some (.int .i32), false, [.int .i32 0]⟩
def ti187 : TI := ⟨.other, 1, 8, false, none, false, [.pointer none]⟩
def tabL : List (Nat × TI) := [(2, ti2), (3, ti3), (4, ti4), (5, ti5), (6, ti6), (7, ti7), (8, ti8), (9, ti9), (10, ti10), (11, ti11), (12, ti12), (13, ti13), (14, ti14), (15, ti15), (16, ti16), (17, ti17), (18, ti18), (19, ti19), (21, ti21), (22, ti22), (23, ti23), (24, ti24), (25, ti25), (26, ti26), (27, ti27), (28, ti28), (31, ti31), (35, ti35), (42, ti42), (44, ti44), (48, ti48), (49, ti49), (50, ti50), (51, ti51), (52, ti52), (53, ti53), (54, ti54), (55, ti55), (57, ti57), (58, ti58), (59, ti59), (67, ti67), (70, ti70), (71, ti71), (72, ti72), (81, ti81), (86, ti86), (87, ti87), (88, ti88), (90, ti90), (91, ti91), (92, ti92), (93, ti93), (94, ti94), (95, ti95), (96, ti96), (97, ti97), (98, ti98), (99, ti99), (100, ti100), (101, ti101), (102, ti102), (103, ti103), (118, ti118), (119, ti119), (120, ti120), (121, ti121), (122, ti122), (141, ti141), (142, ti142), (147, ti147), (161, ti161), (162, ti162), (163, ti163), (172, ti172), (174, ti174), (175, ti175), (176, ti176), (177, ti177), (178, ti178), (179, ti179), (180, ti180), (182, ti182), (183, ti183), (184, ti184), (187, ti187)]
def tab : TypeId → Option TI := fun t => assoc t tabL
theorem zg : TabOK Try.prog tab := (show TabOK Try.prog (fun t => assoc t tabL) from TabOK.of_list _ (by kernel_rfl))
theorem zc : namesOK Try.prog = true := by kernel_rfl
theorem zb : Try.prog.follows .mixedOrders = true := by kernel_rfl
def law20ImageBack_c : Code := (match Try.f3.body with | some c => c | none => .skip)
def qx_an : Ann := {}
def qx_c : Code := (match Try.f11.body with | some c => c | none => .skip)
def qx_a : StSh := ⟨.normal, [], .nil, .nil⟩
def qac_an : Ann := { live := [(0, [2, 5, 27, 28]), (2, [2, 5, 45, 46, 47]), (4, [2, 5, 61, 62, 63]), (6, [5, 77, 78, 79])], boxed := [(1, 0)] }
def qac_c : Code := (match Try.f12.body with | some c => c | none => .skip)
def qac_l0 : Code := (match assoc 0 (loopsIn qac_c 0) with | some c => c | none => .skip)
def qac_l2 : Code := (match assoc 2 (loopsIn qac_c 0) with | some c => c | none => .skip)
def qac_l4 : Code := (match assoc 4 (loopsIn qac_c 0) with | some c => c | none => .skip)
def qac_l6 : Code := (match assoc 6 (loopsIn qac_c 0) with | some c => c | none => .skip)
def qac_a : StSh := ⟨.normal, [0, 1], (.cons (.agg (.cons (.sl true true yA) (.cons (.sl true true yB) (.cons (.sl true true yC) (.cons (.int .i64) (.cons (.int .i64) (.cons (.int .i64) (.cons (.int .u64) .nil)))))))) (.cons (.int .u32) .nil)), .nil⟩
def qan_an : Ann := { live := [(0, [0, 5, 9, 10])], boxed := [(1, 0), (5, 7)] }
def qan_c : Code := (match Try.f27.body with | some c => c | none => .skip)
def qan_l0 : Code := (match assoc 0 (loopsIn qan_c 0) with | some c => c | none => .skip)
def qan_a : StSh := ⟨.normal, [0, 1], (.cons (.int .u64) (.cons (.int .i64) .nil)), .nil⟩
def qan_h0 : List StSh := [⟨.normal, [0, 5, 9, 10], (.cons (.int .u64) (.cons (.msw 0 0) (.cons (.int .i64) (.cons (.int .i64) .nil)))), (.cons (.bts 0 false false false (.int .u8)) .nil)⟩]
def qan_o0 : List StSh := [⟨.exit 0, [5], (.cons (.msw 0 0) .nil), (.cons (.bts 0 false false false (.int .u8)) .nil)⟩]
def qan_L0 (n : Nat) : LEntry := ⟨qan_h0, qan_o0, qan_W0 n⟩
def qan_res : List StSh := [⟨.ret, [0], (.cons (.sl false false (.int .u8)) .nil), .nil⟩]
def qan_tbl (n : Nat) : FuncId → List Entry := fun f => []
def qan_loops (n : Nat) : Nat → Option LEntry := fun f => bif Nat.beq f 0 then some (qan_L0 n) else none
theorem qan_r0 (n : Nat) (v_0 : Int) (t9 : Int) (t10 : Int) (m0 : DA) : roundK (real _) tab (qan_tbl n) (qan_loops n) qan_an [] qan_l0 0 [0, 5, 9, 10] qan_h0 qan_o0 ((v_0, (t9, t10)), m0) some = qan_B0 n v_0 t9 t10 m0 := by kernel_rfl
theorem qan_f0 (n : Nat) : LoopFact tab (qan_tbl n) (qan_loops n) qan_an [] n 0 qan_l0 (qan_L0 n) := ⟨[0, 5, 9, 10], (fun s => qan_B0 n s.1.1 s.1.2.1 s.1.2.2 s.2), by kernel_rfl, by kernel_rfl, fun s => rfl, fun s => qan_r0 n s.1.1 s.1.2.1 s.1.2.2 s.2⟩
theorem qan_run (n : Nat) (v_0 : Int) (n_1 : Int) : funDS (real _) tab (qan_tbl n) (qan_loops n) qan_an Try.f27 0 qan_a qan_res (v_0, n_1) some = qan n v_0 n_1 := by kernel_rfl
def qan_E (n : Nat) : Entry := ⟨qan_a, qan_res, fun d => qan n d.1 d.2⟩
theorem qan_ok (n : Nat) : EOK Try.prog 27 (qan_E n) :=
 EOK.ofS zc zb zg (tbl := qan_tbl n) (loops := qan_loops n) (an := qan_an) (old := []) (n := n) (c := qan_c) (fn := Try.f27) TblOK.nil (by kernel_rfl) (by kernel_rfl) (by kernel_rfl) (by kernel_rfl) (fun d => by kernel_rfl) (LT.cons (by kernel_rfl) (qan_f0 n) LT.nil) (fun a => qan_run n a.1 a.2)
def qr_an : Ann := {}
def qr_c : Code := (match Try.f28.body with | some c => c | none => .skip)
def qr_a : StSh := ⟨.normal, [0, 1], (.cons (.ptr 0 0 0 0) (.cons (.int .i64) .nil)), (.cons (.bcells 0 false 1 (.cons (.msw 1 0) .nil)) (.cons (.bts 0 false false false (.int .u8)) .nil))⟩
def qm_an : Ann := { boxed := [(0, 7)] }
def qm_c : Code := (match Try.f29.body with | some c => c | none => .skip)
def qm_a : StSh := ⟨.normal, [0, 1], (.cons (.ptr 0 0 0 0) (.cons (.int .u64) .nil)), (.cons (.bcells 0 false 1 (.cons (.msw 1 0) .nil)) (.cons (.bts 0 false false false (.int .u8)) .nil))⟩
def qaq_an : Ann := { live := [(0, [0, 3])], boxed := [(1, 0), (4, 5)] }
def qaq_c : Code := (match Try.f68.body with | some c => c | none => .skip)
def qaq_l0 : Code := (match assoc 0 (loopsIn qaq_c 0) with | some c => c | none => .skip)
def qaq_a : StSh := ⟨.normal, [0], (.cons (.int .u64) .nil), .nil⟩
def qaq_h0 : List StSh := [⟨.normal, [0, 3], (.cons (.int .u64) (.cons (.msw 0 0) .nil)), (.cons (.bts 0 false false false (.int .u8)) .nil)⟩]
def qaq_o0 : List StSh := [⟨.exit 0, [0, 3], (.cons (.int .u64) (.cons (.msw 0 0) .nil)), (.cons (.bts 0 false false false (.int .u8)) .nil)⟩]
def qaq_L0 (n : Nat) : LEntry := ⟨qaq_h0, qaq_o0, qaq_W0 n⟩
def qaq_res : List StSh := [⟨.ret, [0], (.cons (.sl false false (.int .u8)) .nil), .nil⟩]
def qaq_tbl (n : Nat) : FuncId → List Entry := fun f => []
def qaq_loops (n : Nat) : Nat → Option LEntry := fun f => bif Nat.beq f 0 then some (qaq_L0 n) else none
theorem qaq_r0 (n : Nat) (v_0 : Int) (m0 : DA) : roundK (real _) tab (qaq_tbl n) (qaq_loops n) qaq_an [] qaq_l0 0 [0, 3] qaq_h0 qaq_o0 (v_0, m0) some = qaq_B0 n v_0 m0 := by kernel_rfl
theorem qaq_f0 (n : Nat) : LoopFact tab (qaq_tbl n) (qaq_loops n) qaq_an [] n 0 qaq_l0 (qaq_L0 n) := ⟨[0, 3], (fun s => qaq_B0 n s.1 s.2), by kernel_rfl, by kernel_rfl, fun s => rfl, fun s => qaq_r0 n s.1 s.2⟩
theorem qaq_run (n : Nat) (v_0 : Int) : funDS (real _) tab (qaq_tbl n) (qaq_loops n) qaq_an Try.f68 0 qaq_a qaq_res v_0 some = qaq n v_0 := by kernel_rfl
def qaq_E (n : Nat) : Entry := ⟨qaq_a, qaq_res, fun d => qaq n d⟩
theorem qaq_ok (n : Nat) : EOK Try.prog 68 (qaq_E n) :=
 EOK.ofS zc zb zg (tbl := qaq_tbl n) (loops := qaq_loops n) (an := qaq_an) (old := []) (n := n) (c := qaq_c) (fn := Try.f68) TblOK.nil (by kernel_rfl) (by kernel_rfl) (by kernel_rfl) (by kernel_rfl) (fun d => by kernel_rfl) (LT.cons (by kernel_rfl) (qaq_f0 n) LT.nil) (fun a => qaq_run n a)
def qm_res : List StSh := [⟨.ret, [0], (.cons (.tup .nil) .nil), (.cons (.bcells 0 false 1 (.cons (.msw 1 0) .nil)) (.cons (.bts 0 false false false (.int .u8)) .nil))⟩]
def qm_tbl (n : Nat) : FuncId → List Entry := fun f => bif Nat.beq f 68 then [qaq_E n] else []
def qm_loops (n : Nat) : Nat → Option LEntry := fun f => none
theorem qm_run (n : Nat) (v_1 : Int) (m1 : DA) : funDS (real _) tab (qm_tbl n) (qm_loops n) qm_an Try.f29 2 qm_a qm_res (v_1, m1) some = qm n v_1 m1 := by kernel_rfl
def qm_E (n : Nat) : Entry := ⟨qm_a, qm_res, fun d => qm n d.1 d.2⟩
theorem qm_ok (n : Nat) : EOK Try.prog 29 (qm_E n) :=
 EOK.ofS zc zb zg (tbl := qm_tbl n) (loops := qm_loops n) (an := qm_an) (old := [some true, some false]) (n := n) (c := qm_c) (fn := Try.f29) (TblOK.cons (AllE.cons (qaq_ok n) AllE.nil) TblOK.nil) (by kernel_rfl) (by kernel_rfl) (by kernel_rfl) (by kernel_rfl) (fun d => by kernel_rfl) LT.nil (fun a => qm_run n a.1 a.2)
def qr_res : List StSh := [⟨.ret, [0], (.cons (.tup .nil) .nil), (.cons (.bcells 0 false 1 (.cons (.msw 1 0) .nil)) (.cons (.bts 0 false false false (.int .u8)) .nil))⟩]
def qr_tbl (n : Nat) : FuncId → List Entry := fun f => bif Nat.beq f 29 then [qm_E n] else []
def qr_loops (n : Nat) : Nat → Option LEntry := fun f => none
theorem qr_run (n : Nat) (n_1 : Int) (m1 : DA) : funDS (real _) tab (qr_tbl n) (qr_loops n) qr_an Try.f28 2 qr_a qr_res (n_1, m1) some = qr n n_1 m1 := by kernel_rfl
def qr_E (n : Nat) : Entry := ⟨qr_a, qr_res, fun d => qr n d.1 d.2⟩
theorem qr_ok (n : Nat) : EOK Try.prog 28 (qr_E n) :=
 EOK.ofS zc zb zg (tbl := qr_tbl n) (loops := qr_loops n) (an := qr_an) (old := [some true, some false]) (n := n) (c := qr_c) (fn := Try.f28) (TblOK.cons (AllE.cons (qm_ok n) AllE.nil) TblOK.nil) (by kernel_rfl) (by kernel_rfl) (by kernel_rfl) (by kernel_rfl) (fun d => by kernel_rfl) LT.nil (fun a => qr_run n a.1 a.2)
def qac_h0 : List StSh := [⟨.normal, [2, 5, 27, 28], (.cons (.ptr 0 0 0 0) (.cons (.ptr 1 0 0 0) (.cons (.agg (.cons (.int .i64) (.cons (.int .i64) (.cons (.int .i64) .nil)))) (.cons (.int .i64) .nil)))), (.cons (.bcells 0 false 1 (.cons (.sl true true yA) (.cons (.sl true true yB) (.cons (.sl true true yC) (.cons (.int .i64) (.cons (.int .i64) (.cons (.int .i64) (.cons (.int .u64) .nil)))))))) (.cons (.bcells 0 false 1 (.cons (.msw 2 0) .nil)) (.cons (.bts 0 false false false (.int .u8)) .nil)))⟩]
def qac_o0 : List StSh := [⟨.exit 0, [2, 5], (.cons (.ptr 0 0 0 0) (.cons (.ptr 1 0 0 0) .nil)), (.cons (.bcells 0 false 1 (.cons (.sl true true yA) (.cons (.sl true true yB) (.cons (.sl true true yC) (.cons (.int .i64) (.cons (.int .i64) (.cons (.int .i64) (.cons (.int .u64) .nil)))))))) (.cons (.bcells 0 false 1 (.cons (.msw 2 0) .nil)) (.cons (.bts 0 false false false (.int .u8)) .nil)))⟩]
def qac_L0 (n : Nat) : LEntry := ⟨qac_h0, qac_o0, qac_W0 n⟩
def qd_an : Ann := {}
def qd_c : Code := (match Try.f30.body with | some c => c | none => .skip)
def qd_a : StSh := ⟨.normal, [0, 1], (.cons (.ptr 0 0 0 0) (.cons (.agg (.cons (.int .i64) (.cons (.int .i64) (.cons (.sl true false (.int .u64)) (.cons (.sl true false (.int .u64)) .nil))))) .nil)), (.cons (.bcells 0 false 1 (.cons (.msw 1 0) .nil)) (.cons (.bts 0 false false false (.int .u8)) .nil))⟩
def ql_an : Ann := { live := [(0, [0, 10, 11, 12])] }
def ql_c : Code := (match Try.f69.body with | some c => c | none => .skip)
def ql_l0 : Code := (match assoc 0 (loopsIn ql_c 0) with | some c => c | none => .skip)
def ql_a : StSh := ⟨.normal, [0, 1], (.cons (.ptr 0 0 0 0) (.cons (.sl true false (.int .u64)) .nil)), (.cons (.bcells 0 false 1 (.cons (.msw 1 0) .nil)) (.cons (.bts 0 false false false (.int .u8)) .nil))⟩
def ql_h0 : List StSh := [⟨.normal, [0, 10, 11, 12], (.cons (.ptr 0 0 0 0) (.cons (.sl true false (.int .u64)) (.cons (.int .i64) (.cons (.int .i64) .nil)))), (.cons (.bcells 0 false 1 (.cons (.msw 1 0) .nil)) (.cons (.bts 0 false false false (.int .u8)) .nil))⟩]
def ql_o0 : List StSh := [⟨.exit 0, [], .nil, (.cons (.bcells 0 false 1 (.cons (.msw 1 0) .nil)) (.cons (.bts 0 false false false (.int .u8)) .nil))⟩]
def ql_L0 (n : Nat) : LEntry := ⟨ql_h0, ql_o0, ql_W0 n⟩
def ql_res : List StSh := [⟨.ret, [0], (.cons (.tup .nil) .nil), (.cons (.bcells 0 false 1 (.cons (.msw 1 0) .nil)) (.cons (.bts 0 false false false (.int .u8)) .nil))⟩]
def ql_tbl (n : Nat) : FuncId → List Entry := fun f => bif Nat.beq f 28 then [qr_E n] else bif Nat.beq f 29 then [qm_E n] else []
def ql_loops (n : Nat) : Nat → Option LEntry := fun f => bif Nat.beq f 0 then some (ql_L0 n) else none
theorem ql_r0 (n : Nat) (t10 : DA) (t11 : Int) (t12 : Int) (m1 : DA) : roundK (real _) tab (ql_tbl n) (ql_loops n) ql_an [some true, some false] ql_l0 0 [0, 10, 11, 12] ql_h0 ql_o0 ((t10, (t11, t12)), m1) some = ql_B0 n t10 t11 t12 m1 := by kernel_rfl
theorem ql_f0 (n : Nat) : LoopFact tab (ql_tbl n) (ql_loops n) ql_an [some true, some false] n 0 ql_l0 (ql_L0 n) := ⟨[0, 10, 11, 12], (fun s => ql_B0 n s.1.1 s.1.2.1 s.1.2.2 s.2), by kernel_rfl, by kernel_rfl, fun s => rfl, fun s => ql_r0 n s.1.1 s.1.2.1 s.1.2.2 s.2⟩
theorem ql_run (n : Nat) (list_1 : DA) (m1 : DA) : funDS (real _) tab (ql_tbl n) (ql_loops n) ql_an Try.f69 2 ql_a ql_res (list_1, m1) some = ql n list_1 m1 := by kernel_rfl
def ql_E (n : Nat) : Entry := ⟨ql_a, ql_res, fun d => ql n d.1 d.2⟩
theorem ql_ok (n : Nat) : EOK Try.prog 69 (ql_E n) :=
 EOK.ofS zc zb zg (tbl := ql_tbl n) (loops := ql_loops n) (an := ql_an) (old := [some true, some false]) (n := n) (c := ql_c) (fn := Try.f69) (TblOK.cons (AllE.cons (qr_ok n) AllE.nil) (TblOK.cons (AllE.cons (qm_ok n) AllE.nil) TblOK.nil)) (by kernel_rfl) (by kernel_rfl) (by kernel_rfl) (by kernel_rfl) (fun d => by kernel_rfl) (LT.cons (by kernel_rfl) (ql_f0 n) LT.nil) (fun a => ql_run n a.1 a.2)
def qd_res : List StSh := [⟨.ret, [0], (.cons (.tup .nil) .nil), (.cons (.bcells 0 false 1 (.cons (.msw 1 0) .nil)) (.cons (.bts 0 false false false (.int .u8)) .nil))⟩]
def qd_tbl (n : Nat) : FuncId → List Entry := fun f => bif Nat.beq f 28 then [qr_E n] else bif Nat.beq f 69 then [ql_E n] else []
def qd_loops (n : Nat) : Nat → Option LEntry := fun f => none
theorem qd_run (n : Nat) (f_1 : Int) (f_1_1 : Int) (f_1_2 : DA) (f_1_3 : DA) (m1 : DA) : funDS (real _) tab (qd_tbl n) (qd_loops n) qd_an Try.f30 2 qd_a qd_res ((f_1, (f_1_1, (f_1_2, f_1_3))), m1) some = qd n f_1 f_1_1 f_1_2 f_1_3 m1 := by kernel_rfl
def qd_E (n : Nat) : Entry := ⟨qd_a, qd_res, fun d => qd n d.1.1 d.1.2.1 d.1.2.2.1 d.1.2.2.2 d.2⟩
theorem qd_ok (n : Nat) : EOK Try.prog 30 (qd_E n) :=
 EOK.ofS zc zb zg (tbl := qd_tbl n) (loops := qd_loops n) (an := qd_an) (old := [some true, some false]) (n := n) (c := qd_c) (fn := Try.f30) (TblOK.cons (AllE.cons (qr_ok n) AllE.nil) (TblOK.cons (AllE.cons (ql_ok n) AllE.nil) TblOK.nil)) (by kernel_rfl) (by kernel_rfl) (by kernel_rfl) (by kernel_rfl) (fun d => by kernel_rfl) LT.nil (fun a => qd_run n a.1.1 a.1.2.1 a.1.2.2.1 a.1.2.2.2 a.2)
def qac_h2 : List StSh := [⟨.normal, [2, 5, 45, 46, 47], (.cons (.ptr 0 0 0 0) (.cons (.ptr 1 0 0 0) (.cons (.sl true true yA) (.cons (.int .i64) (.cons (.int .i64) .nil))))), (.cons (.bcells 0 false 1 (.cons (.sl true true yA) (.cons (.sl true true yB) (.cons (.sl true true yC) (.cons (.int .i64) (.cons (.int .i64) (.cons (.int .i64) (.cons (.int .u64) .nil)))))))) (.cons (.bcells 0 false 1 (.cons (.msw 2 0) .nil)) (.cons (.bts 0 false false false (.int .u8)) .nil)))⟩]
def qac_o2 : List StSh := [⟨.exit 2, [2, 5], (.cons (.ptr 0 0 0 0) (.cons (.ptr 1 0 0 0) .nil)), (.cons (.bcells 0 false 1 (.cons (.sl true true yA) (.cons (.sl true true yB) (.cons (.sl true true yC) (.cons (.int .i64) (.cons (.int .i64) (.cons (.int .i64) (.cons (.int .u64) .nil)))))))) (.cons (.bcells 0 false 1 (.cons (.msw 2 0) .nil)) (.cons (.bts 0 false false false (.int .u8)) .nil)))⟩]
def qac_L2 (n : Nat) : LEntry := ⟨qac_h2, qac_o2, qac_W2 n⟩
def qj_an : Ann := { boxed := [(5, 7)] }
def qj_c : Code := (match Try.f31.body with | some c => c | none => .skip)
def qj_a : StSh := ⟨.normal, [0, 1], (.cons (.ptr 0 0 0 0) (.cons (.agg (.cons (.int .i64) (.cons (.int .i64) (.cons (.sl true false (.int .u64)) (.cons (.sl true false (.int .u8)) .nil))))) .nil)), (.cons (.bcells 0 false 1 (.cons (.msw 1 0) .nil)) (.cons (.bts 0 false false false (.int .u8)) .nil))⟩
def qj_res : List StSh := [⟨.ret, [0], (.cons (.tup .nil) .nil), (.cons (.bcells 0 false 1 (.cons (.msw 1 0) .nil)) (.cons (.bts 0 false false false (.int .u8)) .nil))⟩]
def qj_tbl (n : Nat) : FuncId → List Entry := fun f => bif Nat.beq f 28 then [qr_E n] else bif Nat.beq f 69 then [ql_E n] else []
def qj_loops (n : Nat) : Nat → Option LEntry := fun f => none
theorem qj_run (n : Nat) (o_1 : Int) (o_1_1 : Int) (o_1_2 : DA) (o_1_3 : DA) (m1 : DA) : funDS (real _) tab (qj_tbl n) (qj_loops n) qj_an Try.f31 2 qj_a qj_res ((o_1, (o_1_1, (o_1_2, o_1_3))), m1) some = qj n o_1 o_1_1 o_1_2 o_1_3 m1 := by kernel_rfl
def qj_E (n : Nat) : Entry := ⟨qj_a, qj_res, fun d => qj n d.1.1 d.1.2.1 d.1.2.2.1 d.1.2.2.2 d.2⟩
theorem qj_ok (n : Nat) : EOK Try.prog 31 (qj_E n) :=
 EOK.ofS zc zb zg (tbl := qj_tbl n) (loops := qj_loops n) (an := qj_an) (old := [some true, some false]) (n := n) (c := qj_c) (fn := Try.f31) (TblOK.cons (AllE.cons (qr_ok n) AllE.nil) (TblOK.cons (AllE.cons (ql_ok n) AllE.nil) TblOK.nil)) (by kernel_rfl) (by kernel_rfl) (by kernel_rfl) (by kernel_rfl) (fun d => by kernel_rfl) LT.nil (fun a => qj_run n a.1.1 a.1.2.1 a.1.2.2.1 a.1.2.2.2 a.2)
def qac_h4 : List StSh := [⟨.normal, [2, 5, 61, 62, 63], (.cons (.ptr 0 0 0 0) (.cons (.ptr 1 0 0 0) (.cons (.sl true true yB) (.cons (.int .i64) (.cons (.int .i64) .nil))))), (.cons (.bcells 0 false 1 (.cons (.sl true true yA) (.cons (.sl true true yB) (.cons (.sl true true yC) (.cons (.int .i64) (.cons (.int .i64) (.cons (.int .i64) (.cons (.int .u64) .nil)))))))) (.cons (.bcells 0 false 1 (.cons (.msw 2 0) .nil)) (.cons (.bts 0 false false false (.int .u8)) .nil)))⟩]
def qac_o4 : List StSh := [⟨.exit 4, [2, 5], (.cons (.ptr 0 0 0 0) (.cons (.ptr 1 0 0 0) .nil)), (.cons (.bcells 0 false 1 (.cons (.sl true true yA) (.cons (.sl true true yB) (.cons (.sl true true yC) (.cons (.int .i64) (.cons (.int .i64) (.cons (.int .i64) (.cons (.int .u64) .nil)))))))) (.cons (.bcells 0 false 1 (.cons (.msw 2 0) .nil)) (.cons (.bts 0 false false false (.int .u8)) .nil)))⟩]
def qac_L4 (n : Nat) : LEntry := ⟨qac_h4, qac_o4, qac_W4 n⟩
def qq_an : Ann := {}
def qq_c : Code := (match Try.f32.body with | some c => c | none => .skip)
def qq_a : StSh := ⟨.normal, [0, 1], (.cons (.ptr 0 0 0 0) (.cons (.agg (.cons (.int .i64) (.cons (.int .u64) (.cons .bool .nil)))) .nil)), (.cons (.bcells 0 false 1 (.cons (.msw 1 0) .nil)) (.cons (.bts 0 false false false (.int .u8)) .nil))⟩
def qq_res : List StSh := [⟨.ret, [0], (.cons (.tup .nil) .nil), (.cons (.bcells 0 false 1 (.cons (.msw 1 0) .nil)) (.cons (.bts 0 false false false (.int .u8)) .nil))⟩]
def qq_tbl (n : Nat) : FuncId → List Entry := fun f => bif Nat.beq f 28 then [qr_E n] else bif Nat.beq f 29 then [qm_E n] else []
def qq_loops (n : Nat) : Nat → Option LEntry := fun f => none
theorem qq_run (n : Nat) (h_1 : Int) (h_1_1 : Int) (h_1_2 : Bool) (m1 : DA) : funDS (real _) tab (qq_tbl n) (qq_loops n) qq_an Try.f32 2 qq_a qq_res ((h_1, (h_1_1, h_1_2)), m1) some = qq n h_1 h_1_1 h_1_2 m1 := by kernel_rfl
def qq_E (n : Nat) : Entry := ⟨qq_a, qq_res, fun d => qq n d.1.1 d.1.2.1 d.1.2.2 d.2⟩
theorem qq_ok (n : Nat) : EOK Try.prog 32 (qq_E n) :=
 EOK.ofS zc zb zg (tbl := qq_tbl n) (loops := qq_loops n) (an := qq_an) (old := [some true, some false]) (n := n) (c := qq_c) (fn := Try.f32) (TblOK.cons (AllE.cons (qr_ok n) AllE.nil) (TblOK.cons (AllE.cons (qm_ok n) AllE.nil) TblOK.nil)) (by kernel_rfl) (by kernel_rfl) (by kernel_rfl) (by kernel_rfl) (fun d => by kernel_rfl) LT.nil (fun a => qq_run n a.1.1 a.1.2.1 a.1.2.2 a.2)
def qac_h6 : List StSh := [⟨.normal, [5, 77, 78, 79], (.cons (.ptr 0 0 0 0) (.cons (.sl true true yC) (.cons (.int .i64) (.cons (.int .i64) .nil)))), (.cons (.bcells 0 false 1 (.cons (.msw 1 0) .nil)) (.cons (.bts 0 false false false (.int .u8)) .nil))⟩]
def qac_o6 : List StSh := [⟨.exit 6, [5], (.cons (.ptr 0 0 0 0) .nil), (.cons (.bcells 0 false 1 (.cons (.msw 1 0) .nil)) (.cons (.bts 0 false false false (.int .u8)) .nil))⟩]
def qac_L6 (n : Nat) : LEntry := ⟨qac_h6, qac_o6, qac_W6 n⟩
def qap_an : Ann := { boxed := [(1, 1)] }
def qap_c : Code := (match Try.f33.body with | some c => c | none => .skip)
def qap_a : StSh := ⟨.normal, [0], (.cons (.sl true false (.int .u8)) .nil), .nil⟩
def qar_an : Ann := { live := [(0, [3, 7, 8, 9]), (2, [3, 7, 8, 9, 17])] }
def qar_c : Code := (match Try.f70.body with | some c => c | none => .skip)
def qar_l0 : Code := (match assoc 0 (loopsIn qar_c 0) with | some c => c | none => .skip)
def qar_l2 : Code := (match assoc 2 (loopsIn qar_c 0) with | some c => c | none => .skip)
def qar_a : StSh := ⟨.normal, [0], (.cons (.sl true false (.int .u8)) .nil), .nil⟩
def qar_h2 : List StSh := [⟨.normal, [3, 7, 8, 9, 17], (.cons (.int .u32) (.cons (.sl true false (.int .u8)) (.cons (.int .i64) (.cons (.int .i64) (.cons (.int .i64) .nil))))), .nil⟩]
def qar_o2 : List StSh := [⟨.exit 2, [3, 7, 8, 9], (.cons (.int .u32) (.cons (.sl true false (.int .u8)) (.cons (.int .i64) (.cons (.int .i64) .nil)))), .nil⟩]
def qar_L2 (n : Nat) : LEntry := ⟨qar_h2, qar_o2, qar_W2 n⟩
def qar_h0 : List StSh := [⟨.normal, [3, 7, 8, 9], (.cons (.int .u32) (.cons (.sl true false (.int .u8)) (.cons (.int .i64) (.cons (.int .i64) .nil)))), .nil⟩]
def qar_o0 : List StSh := [⟨.exit 0, [3], (.cons (.int .u32) .nil), .nil⟩]
def qar_L0 (n : Nat) : LEntry := ⟨qar_h0, qar_o0, qar_W0 n⟩
def qar_res : List StSh := [⟨.ret, [0], (.cons (.int .u32) .nil), .nil⟩]
def qar_tbl (n : Nat) : FuncId → List Entry := fun f => []
def qar_loops (n : Nat) : Nat → Option LEntry := fun f => bif Nat.beq f 2 then some (qar_L2 n) else bif Nat.beq f 0 then some (qar_L0 n) else none
theorem qar_r2 (n : Nat) (n_3 : Int) (t7 : DA) (t8 : Int) (t9 : Int) (t17 : Int) : roundK (real _) tab (qar_tbl n) (qar_loops n) qar_an [] qar_l2 2 [3, 7, 8, 9, 17] qar_h2 qar_o2 (n_3, (t7, (t8, (t9, t17)))) some = qar_B2 n n_3 t7 t8 t9 t17 := by kernel_rfl
theorem qar_f2 (n : Nat) : LoopFact tab (qar_tbl n) (qar_loops n) qar_an [] n 2 qar_l2 (qar_L2 n) := ⟨[3, 7, 8, 9, 17], (fun s => qar_B2 n s.1 s.2.1 s.2.2.1 s.2.2.2.1 s.2.2.2.2), by kernel_rfl, by kernel_rfl, fun s => rfl, fun s => qar_r2 n s.1 s.2.1 s.2.2.1 s.2.2.2.1 s.2.2.2.2⟩
theorem qar_r0 (n : Nat) (n_3 : Int) (t7 : DA) (t8 : Int) (t9 : Int) : roundK (real _) tab (qar_tbl n) (qar_loops n) qar_an [] qar_l0 0 [3, 7, 8, 9] qar_h0 qar_o0 (n_3, (t7, (t8, t9))) some = qar_B0 n n_3 t7 t8 t9 := by kernel_rfl
theorem qar_f0 (n : Nat) : LoopFact tab (qar_tbl n) (qar_loops n) qar_an [] n 0 qar_l0 (qar_L0 n) := ⟨[3, 7, 8, 9], (fun s => qar_B0 n s.1 s.2.1 s.2.2.1 s.2.2.2), by kernel_rfl, by kernel_rfl, fun s => rfl, fun s => qar_r0 n s.1 s.2.1 s.2.2.1 s.2.2.2⟩
theorem qar_run (n : Nat) (b_0 : DA) : funDS (real _) tab (qar_tbl n) (qar_loops n) qar_an Try.f70 0 qar_a qar_res b_0 some = qar n b_0 := by kernel_rfl
def qar_E (n : Nat) : Entry := ⟨qar_a, qar_res, fun d => qar n d⟩
theorem qar_ok (n : Nat) : EOK Try.prog 70 (qar_E n) :=
 EOK.ofS zc zb zg (tbl := qar_tbl n) (loops := qar_loops n) (an := qar_an) (old := []) (n := n) (c := qar_c) (fn := Try.f70) TblOK.nil (by kernel_rfl) (by kernel_rfl) (by kernel_rfl) (by kernel_rfl) (fun d => by kernel_rfl) (LT.cons (by kernel_rfl) (qar_f2 n) (LT.cons (by kernel_rfl) (qar_f0 n) LT.nil)) (fun a => qar_run n a)
def qap_res : List StSh := [⟨.ret, [0], (.cons (.sl false false (.int .u8)) .nil), .nil⟩]
def qap_tbl (n : Nat) : FuncId → List Entry := fun f => bif Nat.beq f 70 then [qar_E n] else bif Nat.beq f 27 then [qan_E n] else []
def qap_loops (n : Nat) : Nat → Option LEntry := fun f => none
theorem qap_run (n : Nat) (b_0 : DA) : funDS (real _) tab (qap_tbl n) (qap_loops n) qap_an Try.f33 0 qap_a qap_res b_0 some = qap n b_0 := by kernel_rfl
def qap_E (n : Nat) : Entry := ⟨qap_a, qap_res, fun d => qap n d⟩
theorem qap_ok (n : Nat) : EOK Try.prog 33 (qap_E n) :=
 EOK.ofS zc zb zg (tbl := qap_tbl n) (loops := qap_loops n) (an := qap_an) (old := []) (n := n) (c := qap_c) (fn := Try.f33) (TblOK.cons (AllE.cons (qar_ok n) AllE.nil) (TblOK.cons (AllE.cons (qan_ok n) AllE.nil) TblOK.nil)) (by kernel_rfl) (by kernel_rfl) (by kernel_rfl) (by kernel_rfl) (fun d => by kernel_rfl) LT.nil (fun a => qap_run n a)
def qac_res : List StSh := [⟨.ret, [0], (.cons (.sl false false (.int .u8)) .nil), .nil⟩]
def qac_tbl (n : Nat) : FuncId → List Entry := fun f => bif Nat.beq f 27 then [qan_E n] else bif Nat.beq f 28 then [qr_E n] else bif Nat.beq f 29 then [qm_E n] else bif Nat.beq f 30 then [qd_E n] else bif Nat.beq f 31 then [qj_E n] else bif Nat.beq f 32 then [qq_E n] else bif Nat.beq f 33 then [qap_E n] else []
def qac_loops (n : Nat) : Nat → Option LEntry := fun f => bif Nat.beq f 0 then some (qac_L0 n) else bif Nat.beq f 2 then some (qac_L2 n) else bif Nat.beq f 4 then some (qac_L4 n) else bif Nat.beq f 6 then some (qac_L6 n) else none
theorem qac_r0 (n : Nat) (t27 : Int) (t27_1 : Int) (t27_2 : Int) (t28 : Int) (m0 : DE) (m0_1 : DE) (m0_2 : DB) (m0_3 : Int) (m0_4 : Int) (m0_5 : Int) (m0_6 : Int) (m2 : DA) : roundK (real _) tab (qac_tbl n) (qac_loops n) qac_an [] qac_l0 0 [2, 5, 27, 28] qac_h0 qac_o0 (((t27, (t27_1, t27_2)), t28), ((m0, (m0_1, (m0_2, (m0_3, (m0_4, (m0_5, m0_6)))))), m2)) some = qac_B0 n t27 t27_1 t27_2 t28 m0 m0_1 m0_2 m0_3 m0_4 m0_5 m0_6 m2 := by kernel_rfl
theorem qac_f0 (n : Nat) : LoopFact tab (qac_tbl n) (qac_loops n) qac_an [] n 0 qac_l0 (qac_L0 n) := ⟨[2, 5, 27, 28], (fun s => qac_B0 n s.1.1.1 s.1.1.2.1 s.1.1.2.2 s.1.2 s.2.1.1 s.2.1.2.1 s.2.1.2.2.1 s.2.1.2.2.2.1 s.2.1.2.2.2.2.1 s.2.1.2.2.2.2.2.1 s.2.1.2.2.2.2.2.2 s.2.2), by kernel_rfl, by kernel_rfl, fun s => rfl, fun s => qac_r0 n s.1.1.1 s.1.1.2.1 s.1.1.2.2 s.1.2 s.2.1.1 s.2.1.2.1 s.2.1.2.2.1 s.2.1.2.2.2.1 s.2.1.2.2.2.2.1 s.2.1.2.2.2.2.2.1 s.2.1.2.2.2.2.2.2 s.2.2⟩
theorem qac_r2 (n : Nat) (t45 : DE) (t46 : Int) (t47 : Int) (m0 : DE) (m0_1 : DE) (m0_2 : DB) (m0_3 : Int) (m0_4 : Int) (m0_5 : Int) (m0_6 : Int) (m2 : DA) : roundK (real _) tab (qac_tbl n) (qac_loops n) qac_an [] qac_l2 2 [2, 5, 45, 46, 47] qac_h2 qac_o2 ((t45, (t46, t47)), ((m0, (m0_1, (m0_2, (m0_3, (m0_4, (m0_5, m0_6)))))), m2)) some = qac_B2 n t45 t46 t47 m0 m0_1 m0_2 m0_3 m0_4 m0_5 m0_6 m2 := by kernel_rfl
theorem qac_f2 (n : Nat) : LoopFact tab (qac_tbl n) (qac_loops n) qac_an [] n 2 qac_l2 (qac_L2 n) := ⟨[2, 5, 45, 46, 47], (fun s => qac_B2 n s.1.1 s.1.2.1 s.1.2.2 s.2.1.1 s.2.1.2.1 s.2.1.2.2.1 s.2.1.2.2.2.1 s.2.1.2.2.2.2.1 s.2.1.2.2.2.2.2.1 s.2.1.2.2.2.2.2.2 s.2.2), by kernel_rfl, by kernel_rfl, fun s => rfl, fun s => qac_r2 n s.1.1 s.1.2.1 s.1.2.2 s.2.1.1 s.2.1.2.1 s.2.1.2.2.1 s.2.1.2.2.2.1 s.2.1.2.2.2.2.1 s.2.1.2.2.2.2.2.1 s.2.1.2.2.2.2.2.2 s.2.2⟩
theorem qac_r4 (n : Nat) (t61 : DE) (t62 : Int) (t63 : Int) (m0 : DE) (m0_1 : DE) (m0_2 : DB) (m0_3 : Int) (m0_4 : Int) (m0_5 : Int) (m0_6 : Int) (m2 : DA) : roundK (real _) tab (qac_tbl n) (qac_loops n) qac_an [] qac_l4 4 [2, 5, 61, 62, 63] qac_h4 qac_o4 ((t61, (t62, t63)), ((m0, (m0_1, (m0_2, (m0_3, (m0_4, (m0_5, m0_6)))))), m2)) some = qac_B4 n t61 t62 t63 m0 m0_1 m0_2 m0_3 m0_4 m0_5 m0_6 m2 := by kernel_rfl
theorem qac_f4 (n : Nat) : LoopFact tab (qac_tbl n) (qac_loops n) qac_an [] n 4 qac_l4 (qac_L4 n) := ⟨[2, 5, 61, 62, 63], (fun s => qac_B4 n s.1.1 s.1.2.1 s.1.2.2 s.2.1.1 s.2.1.2.1 s.2.1.2.2.1 s.2.1.2.2.2.1 s.2.1.2.2.2.2.1 s.2.1.2.2.2.2.2.1 s.2.1.2.2.2.2.2.2 s.2.2), by kernel_rfl, by kernel_rfl, fun s => rfl, fun s => qac_r4 n s.1.1 s.1.2.1 s.1.2.2 s.2.1.1 s.2.1.2.1 s.2.1.2.2.1 s.2.1.2.2.2.1 s.2.1.2.2.2.2.1 s.2.1.2.2.2.2.2.1 s.2.1.2.2.2.2.2.2 s.2.2⟩
theorem qac_r6 (n : Nat) (t77 : DB) (t78 : Int) (t79 : Int) (m1 : DA) : roundK (real _) tab (qac_tbl n) (qac_loops n) qac_an [] qac_l6 6 [5, 77, 78, 79] qac_h6 qac_o6 ((t77, (t78, t79)), m1) some = qac_B6 n t77 t78 t79 m1 := by kernel_rfl
theorem qac_f6 (n : Nat) : LoopFact tab (qac_tbl n) (qac_loops n) qac_an [] n 6 qac_l6 (qac_L6 n) := ⟨[5, 77, 78, 79], (fun s => qac_B6 n s.1.1 s.1.2.1 s.1.2.2 s.2), by kernel_rfl, by kernel_rfl, fun s => rfl, fun s => qac_r6 n s.1.1 s.1.2.1 s.1.2.2 s.2⟩
theorem qac_run (n : Nat) (t0 : DE) (t0_1 : DE) (t0_2 : DB) (t0_3 : Int) (t0_4 : Int) (t0_5 : Int) (t0_6 : Int) (t1 : Int) : funDS (real _) tab (qac_tbl n) (qac_loops n) qac_an Try.f12 0 qac_a qac_res ((t0, (t0_1, (t0_2, (t0_3, (t0_4, (t0_5, t0_6)))))), t1) some = qac n t0 t0_1 t0_2 t0_3 t0_4 t0_5 t0_6 t1 := by kernel_rfl
def qac_E (n : Nat) : Entry := ⟨qac_a, qac_res, fun d => qac n d.1.1 d.1.2.1 d.1.2.2.1 d.1.2.2.2.1 d.1.2.2.2.2.1 d.1.2.2.2.2.2.1 d.1.2.2.2.2.2.2 d.2⟩
theorem qac_ok (n : Nat) : EOK Try.prog 12 (qac_E n) :=
 EOK.ofS zc zb zg (tbl := qac_tbl n) (loops := qac_loops n) (an := qac_an) (old := []) (n := n) (c := qac_c) (fn := Try.f12) (TblOK.cons (AllE.cons (qan_ok n) AllE.nil) (TblOK.cons (AllE.cons (qr_ok n) AllE.nil) (TblOK.cons (AllE.cons (qm_ok n) AllE.nil) (TblOK.cons (AllE.cons (qd_ok n) AllE.nil) (TblOK.cons (AllE.cons (qj_ok n) AllE.nil) (TblOK.cons (AllE.cons (qq_ok n) AllE.nil) (TblOK.cons (AllE.cons (qap_ok n) AllE.nil) TblOK.nil))))))) (by kernel_rfl) (by kernel_rfl) (by kernel_rfl) (by kernel_rfl) (fun d => by kernel_rfl) (LT.cons (by kernel_rfl) (qac_f0 n) (LT.cons (by kernel_rfl) (qac_f2 n) (LT.cons (by kernel_rfl) (qac_f4 n) (LT.cons (by kernel_rfl) (qac_f6 n) LT.nil)))) (fun a => qac_run n a.1.1 a.1.2.1 a.1.2.2.1 a.1.2.2.2.1 a.1.2.2.2.2.1 a.1.2.2.2.2.2.1 a.1.2.2.2.2.2.2 a.2)
def qaf_an : Ann := {}
def qaf_c : Code := (match Try.f15.body with | some c => c | none => .skip)
def qaf_a : StSh := ⟨.normal, [0], (.cons (.sl true false (.int .u8)) .nil), .nil⟩
def qae_an : Ann := {}
def qae_c : Code := (match Try.f38.body with | some c => c | none => .skip)
def qae_a : StSh := ⟨.normal, [0, 1], (.cons (.sl true false (.int .u8)) (.cons (.int .u8) .nil)), .nil⟩
def qao_an : Ann := {}
def qao_c : Code := (match Try.f72.body with | some c => c | none => .skip)
def qao_a : StSh := ⟨.normal, [0], (.cons (.sl true false (.int .u8)) .nil), .nil⟩
def qao_res : List StSh := [⟨.ret, [0], (.cons (.tup (.cons (.sl false false (.int .u8)) (.cons (.int .i64) .nil))) .nil), .nil⟩]
def qao_tbl (n : Nat) : FuncId → List Entry := fun f => bif Nat.beq f 33 then [qap_E n] else []
def qao_loops (n : Nat) : Nat → Option LEntry := fun f => none
theorem qao_run (n : Nat) (b_0 : DA) : funDS (real _) tab (qao_tbl n) (qao_loops n) qao_an Try.f72 0 qao_a qao_res b_0 some = qao n b_0 := by kernel_rfl
def qao_E (n : Nat) : Entry := ⟨qao_a, qao_res, fun d => qao n d⟩
theorem qao_ok (n : Nat) : EOK Try.prog 72 (qao_E n) :=
 EOK.ofS zc zb zg (tbl := qao_tbl n) (loops := qao_loops n) (an := qao_an) (old := []) (n := n) (c := qao_c) (fn := Try.f72) (TblOK.cons (AllE.cons (qap_ok n) AllE.nil) TblOK.nil) (by kernel_rfl) (by kernel_rfl) (by kernel_rfl) (by kernel_rfl) (fun d => by kernel_rfl) LT.nil (fun a => qao_run n a)
def qz_an : Ann := {}
def qz_c : Code := (match Try.f73.body with | some c => c | none => .skip)
def qz_a : StSh := ⟨.normal, [0], (.cons (.sl true false (.int .u8)) .nil), .nil⟩
def qz_res : List StSh := [⟨.ret, [0], (.cons (.ptr 0 0 0 0) .nil), (.cons (.bcells 0 false 1 (.cons (.sl false false (.int .u8)) (.cons .bool .nil))) .nil)⟩]
def qz_tbl (n : Nat) : FuncId → List Entry := fun f => []
def qz_loops (n : Nat) : Nat → Option LEntry := fun f => none
theorem qz_run (n : Nat) (b_0 : DA) : funDS (real _) tab (qz_tbl n) (qz_loops n) qz_an Try.f73 0 qz_a qz_res b_0 some = qz n b_0 := by kernel_rfl
def qz_E (n : Nat) : Entry := ⟨qz_a, qz_res, fun d => qz n d⟩
theorem qz_ok (n : Nat) : EOK Try.prog 73 (qz_E n) :=
 EOK.ofS zc zb zg (tbl := qz_tbl n) (loops := qz_loops n) (an := qz_an) (old := []) (n := n) (c := qz_c) (fn := Try.f73) TblOK.nil (by kernel_rfl) (by kernel_rfl) (by kernel_rfl) (by kernel_rfl) (fun d => by kernel_rfl) LT.nil (fun a => qz_run n a)
def qp_an : Ann := {}
def qp_c : Code := (match Try.f74.body with | some c => c | none => .skip)
def qp_a : StSh := ⟨.normal, [0, 1], (.cons (.ptr 0 0 0 0) (.cons (.int .i64) .nil)), (.cons (.bcells 0 false 1 (.cons (.sl false false (.int .u8)) (.cons .bool .nil))) .nil)⟩
def qw_an : Ann := {}
def qw_c : Code := (match Try.f75.body with | some c => c | none => .skip)
def qw_a : StSh := ⟨.normal, [0, 1], (.cons (.ptr 0 0 0 0) (.cons (.int .i64) .nil)), (.cons (.bcells 0 false 1 (.cons (.sl false false (.int .u8)) (.cons .bool .nil))) .nil)⟩
def qab_an : Ann := {}
def qab_c : Code := (match Try.f55.body with | some c => c | none => .skip)
def qab_a : StSh := ⟨.normal, [0], (.cons (.ptr 0 0 0 0) .nil), (.cons (.bcells 0 false 1 (.cons (.sl false false (.int .u8)) (.cons .bool .nil))) .nil)⟩
def qab_res : List StSh := [⟨.ret, [0], (.cons .bool .nil), (.cons (.bcells 0 false 1 (.cons (.sl false false (.int .u8)) (.cons .bool .nil))) .nil)⟩]
def qab_tbl (n : Nat) : FuncId → List Entry := fun f => []
def qab_loops (n : Nat) : Nat → Option LEntry := fun f => none
theorem qab_run (n : Nat) (m0 : DA) (m0_1 : Bool) : funDS (real _) tab (qab_tbl n) (qab_loops n) qab_an Try.f55 1 qab_a qab_res (m0, m0_1) some = qab n m0 m0_1 := by kernel_rfl
def qab_E (n : Nat) : Entry := ⟨qab_a, qab_res, fun d => qab n d.1 d.2⟩
theorem qab_ok (n : Nat) : EOK Try.prog 55 (qab_E n) :=
 EOK.ofS zc zb zg (tbl := qab_tbl n) (loops := qab_loops n) (an := qab_an) (old := [some true]) (n := n) (c := qab_c) (fn := Try.f55) TblOK.nil (by kernel_rfl) (by kernel_rfl) (by kernel_rfl) (by kernel_rfl) (fun d => by kernel_rfl) LT.nil (fun a => qab_run n a.1 a.2)
def qv_an : Ann := {}
def qv_c : Code := (match Try.f76.body with | some c => c | none => .skip)
def qv_a : StSh := ⟨.normal, [0], (.cons (.ptr 0 0 0 0) .nil), (.cons (.bcells 0 false 1 (.cons (.sl false false (.int .u8)) (.cons .bool .nil))) .nil)⟩
def qv_res : List StSh := [⟨.ret, [0], (.cons (.tup .nil) .nil), (.cons (.bcells 0 false 1 (.cons (.sl false false (.int .u8)) (.cons .bool .nil))) .nil)⟩]
def qv_tbl (n : Nat) : FuncId → List Entry := fun f => []
def qv_loops (n : Nat) : Nat → Option LEntry := fun f => none
theorem qv_run (n : Nat) (m0 : DA) (m0_1 : Bool) : funDS (real _) tab (qv_tbl n) (qv_loops n) qv_an Try.f76 1 qv_a qv_res (m0, m0_1) some = qv n m0 m0_1 := by kernel_rfl
def qv_E (n : Nat) : Entry := ⟨qv_a, qv_res, fun d => qv n d.1 d.2⟩
theorem qv_ok (n : Nat) : EOK Try.prog 76 (qv_E n) :=
 EOK.ofS zc zb zg (tbl := qv_tbl n) (loops := qv_loops n) (an := qv_an) (old := [some true]) (n := n) (c := qv_c) (fn := Try.f76) TblOK.nil (by kernel_rfl) (by kernel_rfl) (by kernel_rfl) (by kernel_rfl) (fun d => by kernel_rfl) LT.nil (fun a => qv_run n a.1 a.2)
def qw_res : List StSh := [⟨.ret, [0], (.cons (.sl false false (.int .u8)) .nil), (.cons (.bcells 0 false 1 (.cons (.sl false false (.int .u8)) (.cons .bool .nil))) .nil)⟩]
def qw_tbl (n : Nat) : FuncId → List Entry := fun f => bif Nat.beq f 55 then [qab_E n] else bif Nat.beq f 76 then [qv_E n] else []
def qw_loops (n : Nat) : Nat → Option LEntry := fun f => none
theorem qw_run (n : Nat) (n_1 : Int) (m0 : DA) (m0_1 : Bool) : funDS (real _) tab (qw_tbl n) (qw_loops n) qw_an Try.f75 1 qw_a qw_res (n_1, (m0, m0_1)) some = qw n n_1 m0 m0_1 := by kernel_rfl
def qw_E (n : Nat) : Entry := ⟨qw_a, qw_res, fun d => qw n d.1 d.2.1 d.2.2⟩
theorem qw_ok (n : Nat) : EOK Try.prog 75 (qw_E n) :=
 EOK.ofS zc zb zg (tbl := qw_tbl n) (loops := qw_loops n) (an := qw_an) (old := [some true]) (n := n) (c := qw_c) (fn := Try.f75) (TblOK.cons (AllE.cons (qab_ok n) AllE.nil) (TblOK.cons (AllE.cons (qv_ok n) AllE.nil) TblOK.nil)) (by kernel_rfl) (by kernel_rfl) (by kernel_rfl) (by kernel_rfl) (fun d => by kernel_rfl) LT.nil (fun a => qw_run n a.1 a.2.1 a.2.2)
def qy_an : Ann := {}
def qy_c : Code := (match Try.f95.body with | some c => c | none => .skip)
def qy_a : StSh := ⟨.normal, [0], (.cons (.sl true false (.int .u8)) .nil), .nil⟩
def qy_res : List StSh := [⟨.ret, [0], (.cons (.fn 99 .nil (.cons (.ptr 0 0 0 0) .nil)) .nil), (.cons (.bcells 0 false 1 (.cons (.sl true false (.int .u8)) .nil)) .nil)⟩]
def qy_tbl (n : Nat) : FuncId → List Entry := fun f => []
def qy_loops (n : Nat) : Nat → Option LEntry := fun f => none
theorem qy_run (n : Nat) (s_0 : DA) : funDS (real _) tab (qy_tbl n) (qy_loops n) qy_an Try.f95 0 qy_a qy_res s_0 some = qy n s_0 := by kernel_rfl
def qy_E (n : Nat) : Entry := ⟨qy_a, qy_res, fun d => qy n d⟩
theorem qy_ok (n : Nat) : EOK Try.prog 95 (qy_E n) :=
 EOK.ofS zc zb zg (tbl := qy_tbl n) (loops := qy_loops n) (an := qy_an) (old := []) (n := n) (c := qy_c) (fn := Try.f95) TblOK.nil (by kernel_rfl) (by kernel_rfl) (by kernel_rfl) (by kernel_rfl) (fun d => by kernel_rfl) LT.nil (fun a => qy_run n a)
def qp_res : List StSh := [⟨.ret, [0], (.cons (.int .u64) .nil), (.cons (.bcells 0 false 1 (.cons (.sl false false (.int .u8)) (.cons .bool .nil))) .nil)⟩]
def qp_tbl (n : Nat) : FuncId → List Entry := fun f => bif Nat.beq f 75 then [qw_E n] else bif Nat.beq f 95 then [qy_E n] else []
def qp_E (n : Nat) : Entry := ⟨qp_a, qp_res, fun d => qp n d.1 d.2.1 d.2.2⟩
end
end Sx
