import Derived.Test.YtmoldheenagboaaProg
import Derived.Test.YtmoldheenagboaaLib32
import Derived.Test.YtmoldheenagboaaImgSh
import Derived.KernelRfl
open Go Go.Ab Go.Proofs
set_option linter.unusedVariables false
set_option maxRecDepth 20000
namespace Sx
noncomputable section
abbrev yA : Ty := (.cons (.int .i64) (.cons (.int .i64) (.cons (.sl false (.int .u64)) (.sl false (.int .u64)))))
abbrev yB : Ty := (.cons (.int .i64) (.cons (.int .i64) (.cons (.sl false (.int .u64)) (.sl false (.int .u8)))))
abbrev yC : Ty := (.cons (.int .i64) (.cons (.int .u64) .bool))
def gtabL : DD := []
instance gTab : GTab := ⟨fun g => assoc g gtabL⟩
def ti2 : TI := ⟨.int .i64, 1, 8, false, some (.int .i64), false, [.int .i64 0]⟩
def ti3 : TI := ⟨.int .i64, 1, 8, false, some (.int .i64), false, [.int .i64 0]⟩
def ti4 : TI := ⟨.bool, 1, 1, false, some .bool, false, [.bool false]⟩
def ti5 : TI := ⟨.int .u8, 1, 1, false, some (.int .u8), false, [.int .u8 0]⟩
def ti6 : TI := ⟨.int .u8, 1, 1, false, some (.int .u8), false, [.int .u8 0]⟩
def ti7 : TI := ⟨.st [(0, 1, 2), (1, 1, 3), (2, 1, 4), (3, 1, 6)], 4, 24, true, some (.cons (.int .i64) (.cons (.int .i64) (.cons .bool (.int .u8)))), true, [.int .i64 0, .int .i64 0, .bool false, .int .u8 0]⟩
def ti8 : TI := ⟨.st [(0, 1, 2), (1, 1, 3), (2, 1, 4), (3, 1, 6)], 4, 24, true, some (.cons (.int .i64) (.cons (.int .i64) (.cons .bool (.int .u8)))), true, [.int .i64 0, .int .i64 0, .bool false, .int .u8 0]⟩
def ti9 : TI := ⟨.str, 1, 16, false, some .str, false, [.string (ByteArray.mk (List.toArray []))]⟩
def ti10 : TI := ⟨.str, 1, 16, false, some .str, false, [.string (ByteArray.mk (List.toArray []))]⟩
def ti11 : TI := ⟨.str, 1, 16, false, some .str, false, [.string (ByteArray.mk (List.toArray []))]⟩
def ti12 : TI := ⟨.int .u64, 1, 8, false, some (.int .u64), false, [.int .u64 0]⟩
def ti13 : TI := ⟨.st [(0, 1, 9), (1, 1, 12)], 2, 24, true, some (.cons .str (.int .u64)), false, [.string (ByteArray.mk (List.toArray [])), .int .u64 0]⟩
def ti14 : TI := ⟨.st [(0, 1, 9), (1, 1, 12)], 2, 24, true, some (.cons .str (.int .u64)), false, [.string (ByteArray.mk (List.toArray [])), .int .u64 0]⟩
def ti15 : TI := ⟨.ptr, 1, 8, false, none, false, [.pointer none]⟩
def ti16 : TI := ⟨.ptr, 1, 8, false, none, false, [.pointer none]⟩
def ti17 : TI := ⟨.ptr, 1, 8, false, none, false, [.pointer none]⟩
def ti18 : TI := ⟨.st [(0, 1, 17)], 1, 8, true, none, false, [.pointer none]⟩
def ti19 : TI := ⟨.st [(0, 1, 17)], 1, 8, true, none, false, [.pointer none]⟩
def ti21 : TI := ⟨.int .i32, 1, 4, false, some (.int .i32), false, [.int .i32 0]⟩
def ti22 : TI := ⟨.sl 50, 1, 24, false, some (.sl true (.cons (.int .i64) (.cons (.int .i64) (.cons (.sl false (.int .u64)) (.sl false (.int .u64)))))), false, [.slice none 0 0]⟩
def ti23 : TI := ⟨.sl 52, 1, 24, false, some (.sl true (.cons (.int .i64) (.cons (.int .i64) (.cons (.sl false (.int .u64)) (.sl false (.int .u8)))))), false, [.slice none 0 0]⟩
def ti24 : TI := ⟨.sl 54, 1, 24, false, some (.sl true (.cons (.int .i64) (.cons (.int .u64) .bool))), false, [.slice none 0 0]⟩
def ti25 : TI := ⟨.int .u64, 1, 8, false, some (.int .u64), false, [.int .u64 0]⟩
def ti26 : TI := ⟨.st [(0, 1, 22), (1, 1, 23), (2, 1, 24), (3, 1, 3), (4, 1, 3), (5, 1, 3), (6, 1, 25)], 7, 104, true, some (.cons (.sl true (.cons (.int .i64) (.cons (.int .i64) (.cons (.sl false (.int .u64)) (.sl false (.int .u64)))))) (.cons (.sl true (.cons (.int .i64) (.cons (.int .i64) (.cons (.sl false (.int .u64)) (.sl false (.int .u8)))))) (.cons (.sl true (.cons (.int .i64) (.cons (.int .u64) .bool))) (.cons (.int .i64) (.cons (.int .i64) (.cons (.int .i64) (.int .u64))))))), false, [.slice none 0 0, .slice none 0 0, .slice none 0 0, .int .i64 0, .int .i64 0, .int .i64 0, .int .u64 0]⟩
def ti27 : TI := ⟨.st [(0, 1, 22), (1, 1, 23), (2, 1, 24), (3, 1, 3), (4, 1, 3), (5, 1, 3), (6, 1, 25)], 7, 104, true, some (.cons (.sl true (.cons (.int .i64) (.cons (.int .i64) (.cons (.sl false (.int .u64)) (.sl false (.int .u64)))))) (.cons (.sl true (.cons (.int .i64) (.cons (.int .i64) (.cons (.sl false (.int .u64)) (.sl false (.int .u8)))))) (.cons (.sl true (.cons (.int .i64) (.cons (.int .u64) .bool))) (.cons (.int .i64) (.cons (.int .i64) (.cons (.int .i64) (.int .u64))))))), false, [.slice none 0 0, .slice none 0 0, .slice none 0 0, .int .i64 0, .int .i64 0, .int .i64 0, .int .u64 0]⟩
def ti28 : TI := ⟨.int .u32, 1, 4, false, some (.int .u32), false, [.int .u32 0]⟩
def ti31 : TI := ⟨.sl 5, 1, 24, false, some (.sl false (.int .u8)), false, [.slice none 0 0]⟩
def ti35 : TI := ⟨.int .i64, 1, 8, false, some (.int .i64), false, [.int .i64 0]⟩
def ti42 : TI := ⟨.int .u64, 1, 8, false, some (.int .u64), false, [.int .u64 0]⟩
def ti44 : TI := ⟨.int .u16, 1, 2, false, some (.int .u16), false, [.int .u16 0]⟩
def ti48 : TI := ⟨.sl 25, 1, 24, false, some (.sl false (.int .u64)), false, [.slice none 0 0]⟩
def ti49 : TI := ⟨.st [(0, 1, 3), (1, 1, 3), (2, 1, 48), (3, 1, 48)], 4, 64, true, some (.cons (.int .i64) (.cons (.int .i64) (.cons (.sl false (.int .u64)) (.sl false (.int .u64))))), false, [.int .i64 0, .int .i64 0, .slice none 0 0, .slice none 0 0]⟩
def ti50 : TI := ⟨.st [(0, 1, 3), (1, 1, 3), (2, 1, 48), (3, 1, 48)], 4, 64, true, some (.cons (.int .i64) (.cons (.int .i64) (.cons (.sl false (.int .u64)) (.sl false (.int .u64))))), false, [.int .i64 0, .int .i64 0, .slice none 0 0, .slice none 0 0]⟩
def ti51 : TI := ⟨.st [(0, 1, 3), (1, 1, 3), (2, 1, 48), (3, 1, 31)], 4, 64, true, some (.cons (.int .i64) (.cons (.int .i64) (.cons (.sl false (.int .u64)) (.sl false (.int .u8))))), false, [.int .i64 0, .int .i64 0, .slice none 0 0, .slice none 0 0]⟩
def ti52 : TI := ⟨.st [(0, 1, 3), (1, 1, 3), (2, 1, 48), (3, 1, 31)], 4, 64, true, some (.cons (.int .i64) (.cons (.int .i64) (.cons (.sl false (.int .u64)) (.sl false (.int .u8))))), false, [.int .i64 0, .int .i64 0, .slice none 0 0, .slice none 0 0]⟩
def ti53 : TI := ⟨.st [(0, 1, 3), (1, 1, 25), (2, 1, 4)], 3, 24, true, some (.cons (.int .i64) (.cons (.int .u64) .bool)), true, [.int .i64 0, .int .u64 0, .bool false]⟩
def ti54 : TI := ⟨.st [(0, 1, 3), (1, 1, 25), (2, 1, 4)], 3, 24, true, some (.cons (.int .i64) (.cons (.int .u64) .bool)), true, [.int .i64 0, .int .u64 0, .bool false]⟩
def ti55 : TI := ⟨.ptr, 1, 8, false, none, false, [.pointer none]⟩
def ti57 : TI := ⟨.st [(0, 1, 31)], 1, 24, true, some (.sl false (.int .u8)), false, [.slice none 0 0]⟩
def ti58 : TI := ⟨.st [(0, 1, 31)], 1, 24, true, some (.sl false (.int .u8)), false, [.slice none 0 0]⟩
def ti59 : TI := ⟨.arr 3 3, 3, 24, true, none, false, [.int .i64 0, .int .i64 0, .int .i64 0]⟩
def ti67 : TI := ⟨.ptr, 1, 8, false, none, false, [.pointer none]⟩
def ti70 : TI := ⟨.ptr, 1, 8, false, none, false, [.pointer none]⟩
def ti71 : TI := ⟨.st [(0, 1, 67), (1, 1, 4)], 2, 16, true, none, false, [.pointer none, .bool false]⟩
def ti72 : TI := ⟨.st [(0, 1, 67), (1, 1, 4)], 2, 16, true, none, false, [.pointer none, .bool false]⟩
def ti81 : TI := ⟨.sl 3, 1, 24, false, some (.sl false (.int .i64)), false, [.slice none 0 0]⟩
def ti86 : TI := ⟨.ptr, 1, 8, false, none, false, [.pointer none]⟩
def ti87 : TI := ⟨.st [(0, 1, 67), (1, 1, 4)], 2, 16, true, none, false, [.pointer none, .bool false]⟩
def ti88 : TI := ⟨.st [(0, 1, 67), (1, 1, 4)], 2, 16, true, none, false, [.pointer none, .bool false]⟩
def ti90 : TI := ⟨.st [(0, 1, 3), (1, 1, 3)], 2, 16, true, some (.cons (.int .i64) (.int .i64)), true, [.int .i64 0, .int .i64 0]⟩
def ti91 : TI := ⟨.st [(0, 1, 3), (1, 1, 3)], 2, 16, true, some (.cons (.int .i64) (.int .i64)), true, [.int .i64 0, .int .i64 0]⟩
def ti92 : TI := ⟨.sl 91, 1, 24, false, some (.sl true (.cons (.int .i64) (.int .i64))), false, [.slice none 0 0]⟩
def ti93 : TI := ⟨.st [(0, 1, 3), (1, 1, 3), (2, 1, 3)], 3, 24, true, some (.cons (.int .i64) (.cons (.int .i64) (.int .i64))), true, [.int .i64 0, .int .i64 0, .int .i64 0]⟩
def ti94 : TI := ⟨.st [(0, 1, 3), (1, 1, 3), (2, 1, 3)], 3, 24, true, some (.cons (.int .i64) (.cons (.int .i64) (.int .i64))), true, [.int .i64 0, .int .i64 0, .int .i64 0]⟩
def ti95 : TI := ⟨.sl 94, 1, 24, false, some (.sl true (.cons (.int .i64) (.cons (.int .i64) (.int .i64)))), false, [.slice none 0 0]⟩
def ti96 : TI := ⟨.st [(0, 1, 92), (1, 2, 91), (3, 1, 92), (4, 1, 95)], 5, 88, true, some (.cons (.sl true (.cons (.int .i64) (.int .i64))) (.cons (.int .i64) (.cons (.int .i64) (.cons (.sl true (.cons (.int .i64) (.int .i64))) (.sl true (.cons (.int .i64) (.cons (.int .i64) (.int .i64)))))))), false, [.slice none 0 0, .int .i64 0, .int .i64 0, .slice none 0 0, .slice none 0 0]⟩
def ti97 : TI := ⟨.st [(0, 1, 92), (1, 2, 91), (3, 1, 92), (4, 1, 95)], 5, 88, true, some (.cons (.sl true (.cons (.int .i64) (.int .i64))) (.cons (.int .i64) (.cons (.int .i64) (.cons (.sl true (.cons (.int .i64) (.int .i64))) (.sl true (.cons (.int .i64) (.cons (.int .i64) (.int .i64)))))))), false, [.slice none 0 0, .int .i64 0, .int .i64 0, .slice none 0 0, .slice none 0 0]⟩
def ti98 : TI := ⟨.sl 97, 1, 24, false, some (.sl true (.cons (.sl true (.cons (.int .i64) (.int .i64))) (.cons (.int .i64) (.cons (.int .i64) (.cons (.sl true (.cons (.int .i64) (.int .i64))) (.sl true (.cons (.int .i64) (.cons (.int .i64) (.int .i64))))))))), false, [.slice none 0 0]⟩
def ti99 : TI := ⟨.sl 92, 1, 24, false, some (.sl false (.sl true (.cons (.int .i64) (.int .i64)))), false, [.slice none 0 0]⟩
def ti100 : TI := ⟨.sl 142, 1, 24, false, some (.sl true (.cons (.sl true (.cons (.int .i64) (.int .i64))) (.cons (.int .i64) (.int .i64)))), false, [.slice none 0 0]⟩
def ti101 : TI := ⟨.sl 9, 1, 24, false, some (.sl false .str), false, [.slice none 0 0]⟩
def ti102 : TI := ⟨.st [(0, 1, 99), (1, 1, 98), (2, 1, 100), (3, 1, 48), (4, 1, 101)], 5, 120, true, some (.cons (.sl false (.sl true (.cons (.int .i64) (.int .i64)))) (.cons (.sl true (.cons (.sl true (.cons (.int .i64) (.int .i64))) (.cons (.int .i64) (.cons (.int .i64) (.cons (.sl true (.cons (.int .i64) (.int .i64))) (.sl true (.cons (.int .i64) (.cons (.int .i64) (.int .i64))))))))) (.cons (.sl true (.cons (.sl true (.cons (.int .i64) (.int .i64))) (.cons (.int .i64) (.int .i64)))) (.cons (.sl false (.int .u64)) (.sl false .str))))), false, [.slice none 0 0, .slice none 0 0, .slice none 0 0, .slice none 0 0, .slice none 0 0]⟩
def ti103 : TI := ⟨.st [(0, 1, 99), (1, 1, 98), (2, 1, 100), (3, 1, 48), (4, 1, 101)], 5, 120, true, some (.cons (.sl false (.sl true (.cons (.int .i64) (.int .i64)))) (.cons (.sl true (.cons (.sl true (.cons (.int .i64) (.int .i64))) (.cons (.int .i64) (.cons (.int .i64) (.cons (.sl true (.cons (.int .i64) (.int .i64))) (.sl true (.cons (.int .i64) (.cons (.int .i64) (.int .i64))))))))) (.cons (.sl true (.cons (.sl true (.cons (.int .i64) (.int .i64))) (.cons (.int .i64) (.int .i64)))) (.cons (.sl false (.int .u64)) (.sl false .str))))), false, [.slice none 0 0, .slice none 0 0, .slice none 0 0, .slice none 0 0, .slice none 0 0]⟩
def ti118 : TI := ⟨.st [(0, 1, 31), (1, 1, 4)], 2, 32, true, some (.cons (.sl false (.int .u8)) .bool), false, [.slice none 0 0, .bool false]⟩
def ti119 : TI := ⟨.st [(0, 1, 31), (1, 1, 4)], 2, 32, true, some (.cons (.sl false (.int .u8)) .bool), false, [.slice none 0 0, .bool false]⟩
def ti120 : TI := ⟨.ptr, 1, 8, false, none, false, [.pointer none]⟩
def ti121 : TI := ⟨.st [(0, 1, 31)], 1, 24, true, some (.sl false (.int .u8)), false, [.slice none 0 0]⟩
def ti122 : TI := ⟨.st [(0, 1, 31)], 1, 24, true, some (.sl false (.int .u8)), false, [.slice none 0 0]⟩
def ti141 : TI := ⟨.st [(0, 1, 92), (1, 2, 91)], 3, 40, true, some (.cons (.sl true (.cons (.int .i64) (.int .i64))) (.cons (.int .i64) (.int .i64))), false, [.slice none 0 0, .int .i64 0, .int .i64 0]⟩
def ti142 : TI := ⟨.st [(0, 1, 92), (1, 2, 91)], 3, 40, true, some (.cons (.sl true (.cons (.int .i64) (.int .i64))) (.cons (.int .i64) (.int .i64))), false, [.slice none 0 0, .int .i64 0, .int .i64 0]⟩
def ti147 : TI := ⟨.sl 31, 1, 24, false, some (.sl false (.sl false (.int .u8))), false, [.slice none 0 0]⟩
def ti161 : TI := ⟨.ptr, 1, 8, false, none, false, [.pointer none]⟩
def ti162 : TI := ⟨.st [(0, 1, 31)], 1, 24, true, some (.sl false (.int .u8)), false, [.slice none 0 0]⟩
def ti163 : TI := ⟨.st [(0, 1, 31)], 1, 24, true, some (.sl false (.int .u8)), false, [.slice none 0 0]⟩
def ti172 : TI := ⟨.arr 2 3, 2, 16, true, none, false, [.int .i64 0, .int .i64 0]⟩
def ti174 : TI := ⟨.st [(0, 1, 17), (1, 1, 17), (2, 1, 17), (3, 1, 9)], 4, 40, true, none, false, [.pointer none, .pointer none, .pointer none, .string (ByteArray.mk (List.toArray []))]⟩
def ti175 : TI := ⟨.st [(0, 1, 17), (1, 1, 17), (2, 1, 17), (3, 1, 9)], 4, 40, true, none, false, [.pointer none, .pointer none, .pointer none, .string (ByteArray.mk (List.toArray []))]⟩
def ti176 : TI := ⟨.arr 0 16, 0, 0, true, none, false, []⟩
def ti177 : TI := ⟨.st [(0, 0, 176)], 0, 0, true, none, false, []⟩
def ti178 : TI := ⟨.st [(0, 0, 176)], 0, 0, true, none, false, []⟩
def ti179 : TI := ⟨.int .u8, 1, 1, false, some (.int .u8), false, [.int .u8 0]⟩
def ti180 : TI := ⟨.int .u8, 1, 1, false, some (.int .u8), false, [.int .u8 0]⟩
def ti182 : TI := ⟨.ptr, 1, 8, false, none, false, [.pointer none]⟩
def ti183 : TI := ⟨.int .i32, 1, 4, false, some (.int .i32), false, [.int .i32 0]⟩
def ti184 : TI := ⟨.int .i32, 1, 4, false, some (.int .i32), false, [.int .i32 0]⟩
def ti187 : TI := ⟨.other, 1, 8, false, none, false, [.pointer none]⟩
def tabL : List (Nat × TI) := [(2, ti2), (3, ti3), (4, ti4), (5, ti5), (6, ti6), (7, ti7), (8, ti8), (9, ti9), (10, ti10), (11, ti11), (12, ti12), (13, ti13), (14, ti14), (15, ti15), (16, ti16), (17, ti17), (18, ti18), (19, ti19), (21, ti21), (22, ti22), (23, ti23), (24, ti24), (25, ti25), (26, ti26), (27, ti27), (28, ti28), (31, ti31), (35, ti35), (42, ti42), (44, ti44), (48, ti48), (49, ti49), (50, ti50), (51, ti51), (52, ti52), (53, ti53), (54, ti54), (55, ti55), (57, ti57), (58, ti58), (59, ti59), (67, ti67), (70, ti70), (71, ti71), (72, ti72), (81, ti81), (86, ti86), (87, ti87), (88, ti88), (90, ti90), (91, ti91), (92, ti92), (93, ti93), (94, ti94), (95, ti95), (96, ti96), (97, ti97), (98, ti98), (99, ti99), (100, ti100), (101, ti101), (102, ti102), (103, ti103), (118, ti118), (119, ti119), (120, ti120), (121, ti121), (122, ti122), (141, ti141), (142, ti142), (147, ti147), (161, ti161), (162, ti162), (163, ti163), (172, ti172), (174, ti174), (175, ti175), (176, ti176), (177, ti177), (178, ti178), (179, ti179), (180, ti180), (182, ti182), (183, ti183), (184, ti184), (187, ti187)]
def tab : TypeId → Option TI := fun t => assoc t tabL
theorem ze : TabOK Try.prog tab := (show TabOK Try.prog (fun t => assoc t tabL) from TabOK.of_list _ (by kernel_rfl))
theorem zc : namesOK Try.prog = true := by kernel_rfl
theorem zb : Try.prog.follows .mixedOrders = true := by kernel_rfl
def law20ImageBack_an : Ann := {}
def law20ImageBack_c : Code := (match Try.f3.body with | some c => c | none => .skip)
def law20ImageBack_a : StSh := ⟨.normal, [0, 1], (.cons (.agg (.cons (.sl true true yA) (.cons (.sl true true yB) (.cons (.sl true true yC) (.cons (.int .i64) (.cons (.int .i64) (.cons (.int .i64) (.cons (.int .u64) .nil)))))))) (.cons (.int .u32) .nil)), .nil⟩
def qbo_an : Ann := { live := [(0, [1, 3, 4]), (2, [1, 3, 5])] }
def qbo_c : Code := (match Try.f10.body with | some c => c | none => .skip)
def qbo_l0 : Code := (match assoc 0 (loopsIn qbo_c 0) with | some c => c | none => .skip)
def qbo_l2 : Code := (match assoc 2 (loopsIn qbo_c 0) with | some c => c | none => .skip)
def qbo_a : StSh := ⟨.normal, [0], (.cons (.agg (.cons (.sl true true yA) (.cons (.sl true true yB) (.cons (.sl true true yC) (.cons (.int .i64) (.cons (.int .i64) (.cons (.int .i64) (.cons (.int .u64) .nil)))))))) .nil), .nil⟩
def qbo_h0 : List StSh := [⟨.normal, [1, 3, 4], (.cons (.ptr 0 0 0 0) (.cons (.int .i64) (.cons (.int .i64) .nil))), (.cons (.bcells 0 false 1 (.cons (.sl true true yA) (.cons (.sl true true yB) (.cons (.sl true true yC) (.cons (.int .i64) (.cons (.int .i64) (.cons (.int .i64) (.cons (.int .u64) .nil)))))))) .nil)⟩]
def qbo_o0 : List StSh := [⟨.exit 0, [1, 3], (.cons (.ptr 0 0 0 0) (.cons (.int .i64) .nil)), (.cons (.bcells 0 false 1 (.cons (.sl true true yA) (.cons (.sl true true yB) (.cons (.sl true true yC) (.cons (.int .i64) (.cons (.int .i64) (.cons (.int .i64) (.cons (.int .u64) .nil)))))))) .nil)⟩]
def qbo_L0 (n : Nat) : LEntry := ⟨qbo_h0, qbo_o0, qbo_W0 n⟩
def qbo_h2 : List StSh := [⟨.normal, [1, 3, 5], (.cons (.ptr 0 0 0 0) (.cons (.int .i64) (.cons (.int .i64) .nil))), (.cons (.bcells 0 false 1 (.cons (.sl true true yA) (.cons (.sl true true yB) (.cons (.sl true true yC) (.cons (.int .i64) (.cons (.int .i64) (.cons (.int .i64) (.cons (.int .u64) .nil)))))))) .nil)⟩]
def qbo_o2 : List StSh := [⟨.exit 2, [3], (.cons (.int .i64) .nil), (.cons (.bcells 0 false 1 (.cons (.sl true true yA) (.cons (.sl true true yB) (.cons (.sl true true yC) (.cons (.int .i64) (.cons (.int .i64) (.cons (.int .i64) (.cons (.int .u64) .nil)))))))) .nil)⟩]
def qbo_L2 (n : Nat) : LEntry := ⟨qbo_h2, qbo_o2, qbo_W2 n⟩
def qbo_res : List StSh := [⟨.ret, [0], (.cons .bool .nil), .nil⟩]
def qbo_tbl (n : Nat) : FuncId → List Entry := fun f => []
def qbo_loops (n : Nat) : Nat → Option LEntry := fun f => bif Nat.beq f 0 then some (qbo_L0 n) else bif Nat.beq f 2 then some (qbo_L2 n) else none
theorem qbo_r0 (n : Nat) (t3 : Int) (t4 : Int) (m0 : DE) (m0_1 : DE) (m0_2 : DB) (m0_3 : Int) (m0_4 : Int) (m0_5 : Int) (m0_6 : Int) : roundK (real _) tab (qbo_tbl n) (qbo_loops n) qbo_an [] qbo_l0 0 [1, 3, 4] qbo_h0 qbo_o0 ((t3, t4), (m0, (m0_1, (m0_2, (m0_3, (m0_4, (m0_5, m0_6))))))) some = qbo_B0 n t3 t4 m0 m0_1 m0_2 m0_3 m0_4 m0_5 m0_6 := by kernel_rfl
theorem qbo_f0 (n : Nat) : LoopFact tab (qbo_tbl n) (qbo_loops n) qbo_an [] n 0 qbo_l0 (qbo_L0 n) := ⟨[1, 3, 4], (fun s => qbo_B0 n s.1.1 s.1.2 s.2.1 s.2.2.1 s.2.2.2.1 s.2.2.2.2.1 s.2.2.2.2.2.1 s.2.2.2.2.2.2.1 s.2.2.2.2.2.2.2), by kernel_rfl, by kernel_rfl, fun s => rfl, fun s => qbo_r0 n s.1.1 s.1.2 s.2.1 s.2.2.1 s.2.2.2.1 s.2.2.2.2.1 s.2.2.2.2.2.1 s.2.2.2.2.2.2.1 s.2.2.2.2.2.2.2⟩
theorem qbo_r2 (n : Nat) (t3 : Int) (t5 : Int) (m0 : DE) (m0_1 : DE) (m0_2 : DB) (m0_3 : Int) (m0_4 : Int) (m0_5 : Int) (m0_6 : Int) : roundK (real _) tab (qbo_tbl n) (qbo_loops n) qbo_an [] qbo_l2 2 [1, 3, 5] qbo_h2 qbo_o2 ((t3, t5), (m0, (m0_1, (m0_2, (m0_3, (m0_4, (m0_5, m0_6))))))) some = qbo_B2 n t3 t5 m0 m0_1 m0_2 m0_3 m0_4 m0_5 m0_6 := by kernel_rfl
theorem qbo_f2 (n : Nat) : LoopFact tab (qbo_tbl n) (qbo_loops n) qbo_an [] n 2 qbo_l2 (qbo_L2 n) := ⟨[1, 3, 5], (fun s => qbo_B2 n s.1.1 s.1.2 s.2.1 s.2.2.1 s.2.2.2.1 s.2.2.2.2.1 s.2.2.2.2.2.1 s.2.2.2.2.2.2.1 s.2.2.2.2.2.2.2), by kernel_rfl, by kernel_rfl, fun s => rfl, fun s => qbo_r2 n s.1.1 s.1.2 s.2.1 s.2.2.1 s.2.2.2.1 s.2.2.2.2.1 s.2.2.2.2.2.1 s.2.2.2.2.2.2.1 s.2.2.2.2.2.2.2⟩
theorem qbo_run (n : Nat) (t0 : DE) (t0_1 : DE) (t0_2 : DB) (t0_3 : Int) (t0_4 : Int) (t0_5 : Int) (t0_6 : Int) : funDS (real _) tab (qbo_tbl n) (qbo_loops n) qbo_an Try.f10 0 qbo_a qbo_res (t0, (t0_1, (t0_2, (t0_3, (t0_4, (t0_5, t0_6)))))) some = qbo n t0 t0_1 t0_2 t0_3 t0_4 t0_5 t0_6 := by kernel_rfl
def qbo_E (n : Nat) : Entry := ⟨qbo_a, qbo_res, fun d => qbo n d.1 d.2.1 d.2.2.1 d.2.2.2.1 d.2.2.2.2.1 d.2.2.2.2.2.1 d.2.2.2.2.2.2⟩
theorem qbo_ok (n : Nat) : EOK Try.prog 10 (qbo_E n) :=
 EOK.ofS zc zb ze (tbl := qbo_tbl n) (loops := qbo_loops n) (an := qbo_an) (old := []) (n := n) (c := qbo_c) (fn := Try.f10) TblOK.nil (by kernel_rfl) (by kernel_rfl) (by kernel_rfl) (by kernel_rfl) (fun d => by kernel_rfl) (LT.cons (by kernel_rfl) (qbo_f0 n) (LT.cons (by kernel_rfl) (qbo_f2 n) LT.nil)) (fun a => qbo_run n a.1 a.2.1 a.2.2.1 a.2.2.2.1 a.2.2.2.2.1 a.2.2.2.2.2.1 a.2.2.2.2.2.2)
def qbh_an : Ann := {}
def qbh_c : Code := (match Try.f11.body with | some c => c | none => .skip)
def qbh_a : StSh := ⟨.normal, [], .nil, .nil⟩
def qbl_an : Ann := { live := [(0, [2, 5, 27, 28]), (2, [2, 5, 45, 46, 47]), (4, [2, 5, 61, 62, 63]), (6, [5, 77, 78, 79])], boxed := [(1, 0)] }
def qbl_c : Code := (match Try.f12.body with | some c => c | none => .skip)
def qbl_l0 : Code := (match assoc 0 (loopsIn qbl_c 0) with | some c => c | none => .skip)
def qbl_l2 : Code := (match assoc 2 (loopsIn qbl_c 0) with | some c => c | none => .skip)
def qbl_l4 : Code := (match assoc 4 (loopsIn qbl_c 0) with | some c => c | none => .skip)
def qbl_l6 : Code := (match assoc 6 (loopsIn qbl_c 0) with | some c => c | none => .skip)
def qbl_a : StSh := ⟨.normal, [0, 1], (.cons (.agg (.cons (.sl true true yA) (.cons (.sl true true yB) (.cons (.sl true true yC) (.cons (.int .i64) (.cons (.int .i64) (.cons (.int .i64) (.cons (.int .u64) .nil)))))))) (.cons (.int .u32) .nil)), .nil⟩
def qcb_an : Ann := { live := [(0, [0, 5, 9, 10])], boxed := [(1, 0), (5, 7)] }
def qcb_c : Code := (match Try.f27.body with | some c => c | none => .skip)
def qcb_l0 : Code := (match assoc 0 (loopsIn qcb_c 0) with | some c => c | none => .skip)
def qcb_a : StSh := ⟨.normal, [0, 1], (.cons (.int .u64) (.cons (.int .i64) .nil)), .nil⟩
def qcb_h0 : List StSh := [⟨.normal, [0, 5, 9, 10], (.cons (.int .u64) (.cons (.msw 0 0) (.cons (.int .i64) (.cons (.int .i64) .nil)))), (.cons (.bts 0 false false false (.int .u8)) .nil)⟩]
def qcb_o0 : List StSh := [⟨.exit 0, [5], (.cons (.msw 0 0) .nil), (.cons (.bts 0 false false false (.int .u8)) .nil)⟩]
def qcb_L0 (n : Nat) : LEntry := ⟨qcb_h0, qcb_o0, qcb_W0 n⟩
def qcb_res : List StSh := [⟨.ret, [0], (.cons (.sl false false (.int .u8)) .nil), .nil⟩]
def qcb_tbl (n : Nat) : FuncId → List Entry := fun f => []
def qcb_loops (n : Nat) : Nat → Option LEntry := fun f => bif Nat.beq f 0 then some (qcb_L0 n) else none
theorem qcb_r0 (n : Nat) (v_0 : Int) (t9 : Int) (t10 : Int) (m0 : DA) : roundK (real _) tab (qcb_tbl n) (qcb_loops n) qcb_an [] qcb_l0 0 [0, 5, 9, 10] qcb_h0 qcb_o0 ((v_0, (t9, t10)), m0) some = qcb_B0 n v_0 t9 t10 m0 := by kernel_rfl
theorem qcb_f0 (n : Nat) : LoopFact tab (qcb_tbl n) (qcb_loops n) qcb_an [] n 0 qcb_l0 (qcb_L0 n) := ⟨[0, 5, 9, 10], (fun s => qcb_B0 n s.1.1 s.1.2.1 s.1.2.2 s.2), by kernel_rfl, by kernel_rfl, fun s => rfl, fun s => qcb_r0 n s.1.1 s.1.2.1 s.1.2.2 s.2⟩
theorem qcb_run (n : Nat) (v_0 : Int) (n_1 : Int) : funDS (real _) tab (qcb_tbl n) (qcb_loops n) qcb_an Try.f27 0 qcb_a qcb_res (v_0, n_1) some = qcb n v_0 n_1 := by kernel_rfl
def qcb_E (n : Nat) : Entry := ⟨qcb_a, qcb_res, fun d => qcb n d.1 d.2⟩
theorem qcb_ok (n : Nat) : EOK Try.prog 27 (qcb_E n) :=
 EOK.ofS zc zb ze (tbl := qcb_tbl n) (loops := qcb_loops n) (an := qcb_an) (old := []) (n := n) (c := qcb_c) (fn := Try.f27) TblOK.nil (by kernel_rfl) (by kernel_rfl) (by kernel_rfl) (by kernel_rfl) (fun d => by kernel_rfl) (LT.cons (by kernel_rfl) (qcb_f0 n) LT.nil) (fun a => qcb_run n a.1 a.2)
def qal_an : Ann := {}
def qal_c : Code := (match Try.f28.body with | some c => c | none => .skip)
def qal_a : StSh := ⟨.normal, [0, 1], (.cons (.ptr 0 0 0 0) (.cons (.int .i64) .nil)), (.cons (.bcells 0 false 1 (.cons (.msw 1 0) .nil)) (.cons (.bts 0 false false false (.int .u8)) .nil))⟩
def qah_an : Ann := { boxed := [(0, 7)] }
def qah_c : Code := (match Try.f29.body with | some c => c | none => .skip)
def qah_a : StSh := ⟨.normal, [0, 1], (.cons (.ptr 0 0 0 0) (.cons (.int .u64) .nil)), (.cons (.bcells 0 false 1 (.cons (.msw 1 0) .nil)) (.cons (.bts 0 false false false (.int .u8)) .nil))⟩
def qci_an : Ann := { live := [(0, [0, 3])], boxed := [(1, 0), (4, 5)] }
def qci_c : Code := (match Try.f68.body with | some c => c | none => .skip)
def qci_l0 : Code := (match assoc 0 (loopsIn qci_c 0) with | some c => c | none => .skip)
def qci_a : StSh := ⟨.normal, [0], (.cons (.int .u64) .nil), .nil⟩
def qci_h0 : List StSh := [⟨.normal, [0, 3], (.cons (.int .u64) (.cons (.msw 0 0) .nil)), (.cons (.bts 0 false false false (.int .u8)) .nil)⟩]
def qci_o0 : List StSh := [⟨.exit 0, [0, 3], (.cons (.int .u64) (.cons (.msw 0 0) .nil)), (.cons (.bts 0 false false false (.int .u8)) .nil)⟩]
def qci_L0 (n : Nat) : LEntry := ⟨qci_h0, qci_o0, qci_W0 n⟩
def qci_res : List StSh := [⟨.ret, [0], (.cons (.sl false false (.int .u8)) .nil), .nil⟩]
def qci_tbl (n : Nat) : FuncId → List Entry := fun f => []
def qci_loops (n : Nat) : Nat → Option LEntry := fun f => bif Nat.beq f 0 then some (qci_L0 n) else none
theorem qci_r0 (n : Nat) (v_0 : Int) (m0 : DA) : roundK (real _) tab (qci_tbl n) (qci_loops n) qci_an [] qci_l0 0 [0, 3] qci_h0 qci_o0 (v_0, m0) some = qci_B0 n v_0 m0 := by kernel_rfl
theorem qci_f0 (n : Nat) : LoopFact tab (qci_tbl n) (qci_loops n) qci_an [] n 0 qci_l0 (qci_L0 n) := ⟨[0, 3], (fun s => qci_B0 n s.1 s.2), by kernel_rfl, by kernel_rfl, fun s => rfl, fun s => qci_r0 n s.1 s.2⟩
theorem qci_run (n : Nat) (v_0 : Int) : funDS (real _) tab (qci_tbl n) (qci_loops n) qci_an Try.f68 0 qci_a qci_res v_0 some = qci n v_0 := by kernel_rfl
def qci_E (n : Nat) : Entry := ⟨qci_a, qci_res, fun d => qci n d⟩
theorem qci_ok (n : Nat) : EOK Try.prog 68 (qci_E n) :=
 EOK.ofS zc zb ze (tbl := qci_tbl n) (loops := qci_loops n) (an := qci_an) (old := []) (n := n) (c := qci_c) (fn := Try.f68) TblOK.nil (by kernel_rfl) (by kernel_rfl) (by kernel_rfl) (by kernel_rfl) (fun d => by kernel_rfl) (LT.cons (by kernel_rfl) (qci_f0 n) LT.nil) (fun a => qci_run n a)
def qah_res : List StSh := [⟨.ret, [0], (.cons (.tup .nil) .nil), (.cons (.bcells 0 false 1 (.cons (.msw 1 0) .nil)) (.cons (.bts 0 false false false (.int .u8)) .nil))⟩]
def qah_tbl (n : Nat) : FuncId → List Entry := fun f => bif Nat.beq f 68 then [qci_E n] else []
def qah_loops (n : Nat) : Nat → Option LEntry := fun f => none
theorem qah_run (n : Nat) (v_1 : Int) (m1 : DA) : funDS (real _) tab (qah_tbl n) (qah_loops n) qah_an Try.f29 2 qah_a qah_res (v_1, m1) some = qah n v_1 m1 := by kernel_rfl
def qah_E (n : Nat) : Entry := ⟨qah_a, qah_res, fun d => qah n d.1 d.2⟩
theorem qah_ok (n : Nat) : EOK Try.prog 29 (qah_E n) :=
 EOK.ofS zc zb ze (tbl := qah_tbl n) (loops := qah_loops n) (an := qah_an) (old := [some true, some false]) (n := n) (c := qah_c) (fn := Try.f29) (TblOK.cons (AllE.cons (qci_ok n) AllE.nil) TblOK.nil) (by kernel_rfl) (by kernel_rfl) (by kernel_rfl) (by kernel_rfl) (fun d => by kernel_rfl) LT.nil (fun a => qah_run n a.1 a.2)
def qal_res : List StSh := [⟨.ret, [0], (.cons (.tup .nil) .nil), (.cons (.bcells 0 false 1 (.cons (.msw 1 0) .nil)) (.cons (.bts 0 false false false (.int .u8)) .nil))⟩]
def qal_tbl (n : Nat) : FuncId → List Entry := fun f => bif Nat.beq f 29 then [qah_E n] else []
def qal_loops (n : Nat) : Nat → Option LEntry := fun f => none
theorem qal_run (n : Nat) (n_1 : Int) (m1 : DA) : funDS (real _) tab (qal_tbl n) (qal_loops n) qal_an Try.f28 2 qal_a qal_res (n_1, m1) some = qal n n_1 m1 := by kernel_rfl
def qal_E (n : Nat) : Entry := ⟨qal_a, qal_res, fun d => qal n d.1 d.2⟩
theorem qal_ok (n : Nat) : EOK Try.prog 28 (qal_E n) :=
 EOK.ofS zc zb ze (tbl := qal_tbl n) (loops := qal_loops n) (an := qal_an) (old := [some true, some false]) (n := n) (c := qal_c) (fn := Try.f28) (TblOK.cons (AllE.cons (qah_ok n) AllE.nil) TblOK.nil) (by kernel_rfl) (by kernel_rfl) (by kernel_rfl) (by kernel_rfl) (fun d => by kernel_rfl) LT.nil (fun a => qal_run n a.1 a.2)
def qbl_h0 : List StSh := [⟨.normal, [2, 5, 27, 28], (.cons (.ptr 0 0 0 0) (.cons (.ptr 1 0 0 0) (.cons (.agg (.cons (.int .i64) (.cons (.int .i64) (.cons (.int .i64) .nil)))) (.cons (.int .i64) .nil)))), (.cons (.bcells 0 false 1 (.cons (.sl true true yA) (.cons (.sl true true yB) (.cons (.sl true true yC) (.cons (.int .i64) (.cons (.int .i64) (.cons (.int .i64) (.cons (.int .u64) .nil)))))))) (.cons (.bcells 0 false 1 (.cons (.msw 2 0) .nil)) (.cons (.bts 0 false false false (.int .u8)) .nil)))⟩]
def qbl_o0 : List StSh := [⟨.exit 0, [2, 5], (.cons (.ptr 0 0 0 0) (.cons (.ptr 1 0 0 0) .nil)), (.cons (.bcells 0 false 1 (.cons (.sl true true yA) (.cons (.sl true true yB) (.cons (.sl true true yC) (.cons (.int .i64) (.cons (.int .i64) (.cons (.int .i64) (.cons (.int .u64) .nil)))))))) (.cons (.bcells 0 false 1 (.cons (.msw 2 0) .nil)) (.cons (.bts 0 false false false (.int .u8)) .nil)))⟩]
def qbl_L0 (n : Nat) : LEntry := ⟨qbl_h0, qbl_o0, qbl_W0 n⟩
def qr_an : Ann := {}
def qr_c : Code := (match Try.f30.body with | some c => c | none => .skip)
def qr_a : StSh := ⟨.normal, [0, 1], (.cons (.ptr 0 0 0 0) (.cons (.agg (.cons (.int .i64) (.cons (.int .i64) (.cons (.sl true false (.int .u64)) (.cons (.sl true false (.int .u64)) .nil))))) .nil)), (.cons (.bcells 0 false 1 (.cons (.msw 1 0) .nil)) (.cons (.bts 0 false false false (.int .u8)) .nil))⟩
def qam_an : Ann := { live := [(0, [0, 10, 11, 12])] }
def qam_c : Code := (match Try.f69.body with | some c => c | none => .skip)
def qam_l0 : Code := (match assoc 0 (loopsIn qam_c 0) with | some c => c | none => .skip)
def qam_a : StSh := ⟨.normal, [0, 1], (.cons (.ptr 0 0 0 0) (.cons (.sl true false (.int .u64)) .nil)), (.cons (.bcells 0 false 1 (.cons (.msw 1 0) .nil)) (.cons (.bts 0 false false false (.int .u8)) .nil))⟩
def qam_h0 : List StSh := [⟨.normal, [0, 10, 11, 12], (.cons (.ptr 0 0 0 0) (.cons (.sl true false (.int .u64)) (.cons (.int .i64) (.cons (.int .i64) .nil)))), (.cons (.bcells 0 false 1 (.cons (.msw 1 0) .nil)) (.cons (.bts 0 false false false (.int .u8)) .nil))⟩]
def qam_o0 : List StSh := [⟨.exit 0, [], .nil, (.cons (.bcells 0 false 1 (.cons (.msw 1 0) .nil)) (.cons (.bts 0 false false false (.int .u8)) .nil))⟩]
def qam_L0 (n : Nat) : LEntry := ⟨qam_h0, qam_o0, qam_W0 n⟩
def qam_res : List StSh := [⟨.ret, [0], (.cons (.tup .nil) .nil), (.cons (.bcells 0 false 1 (.cons (.msw 1 0) .nil)) (.cons (.bts 0 false false false (.int .u8)) .nil))⟩]
def qam_tbl (n : Nat) : FuncId → List Entry := fun f => bif Nat.beq f 28 then [qal_E n] else bif Nat.beq f 29 then [qah_E n] else []
def qam_loops (n : Nat) : Nat → Option LEntry := fun f => bif Nat.beq f 0 then some (qam_L0 n) else none
theorem qam_r0 (n : Nat) (t10 : DA) (t11 : Int) (t12 : Int) (m1 : DA) : roundK (real _) tab (qam_tbl n) (qam_loops n) qam_an [some true, some false] qam_l0 0 [0, 10, 11, 12] qam_h0 qam_o0 ((t10, (t11, t12)), m1) some = qam_B0 n t10 t11 t12 m1 := by kernel_rfl
theorem qam_f0 (n : Nat) : LoopFact tab (qam_tbl n) (qam_loops n) qam_an [some true, some false] n 0 qam_l0 (qam_L0 n) := ⟨[0, 10, 11, 12], (fun s => qam_B0 n s.1.1 s.1.2.1 s.1.2.2 s.2), by kernel_rfl, by kernel_rfl, fun s => rfl, fun s => qam_r0 n s.1.1 s.1.2.1 s.1.2.2 s.2⟩
theorem qam_run (n : Nat) (list_1 : DA) (m1 : DA) : funDS (real _) tab (qam_tbl n) (qam_loops n) qam_an Try.f69 2 qam_a qam_res (list_1, m1) some = qam n list_1 m1 := by kernel_rfl
def qam_E (n : Nat) : Entry := ⟨qam_a, qam_res, fun d => qam n d.1 d.2⟩
theorem qam_ok (n : Nat) : EOK Try.prog 69 (qam_E n) :=
 EOK.ofS zc zb ze (tbl := qam_tbl n) (loops := qam_loops n) (an := qam_an) (old := [some true, some false]) (n := n) (c := qam_c) (fn := Try.f69) (TblOK.cons (AllE.cons (qal_ok n) AllE.nil) (TblOK.cons (AllE.cons (qah_ok n) AllE.nil) TblOK.nil)) (by kernel_rfl) (by kernel_rfl) (by kernel_rfl) (by kernel_rfl) (fun d => by kernel_rfl) (LT.cons (by kernel_rfl) (qam_f0 n) LT.nil) (fun a => qam_run n a.1 a.2)
def qr_res : List StSh := [⟨.ret, [0], (.cons (.tup .nil) .nil), (.cons (.bcells 0 false 1 (.cons (.msw 1 0) .nil)) (.cons (.bts 0 false false false (.int .u8)) .nil))⟩]
def qr_tbl (n : Nat) : FuncId → List Entry := fun f => bif Nat.beq f 28 then [qal_E n] else bif Nat.beq f 69 then [qam_E n] else []
def qr_loops (n : Nat) : Nat → Option LEntry := fun f => none
theorem qr_run (n : Nat) (f_1 : Int) (f_1_1 : Int) (f_1_2 : DA) (f_1_3 : DA) (m1 : DA) : funDS (real _) tab (qr_tbl n) (qr_loops n) qr_an Try.f30 2 qr_a qr_res ((f_1, (f_1_1, (f_1_2, f_1_3))), m1) some = qr n f_1 f_1_1 f_1_2 f_1_3 m1 := by kernel_rfl
def qr_E (n : Nat) : Entry := ⟨qr_a, qr_res, fun d => qr n d.1.1 d.1.2.1 d.1.2.2.1 d.1.2.2.2 d.2⟩
theorem qr_ok (n : Nat) : EOK Try.prog 30 (qr_E n) :=
 EOK.ofS zc zb ze (tbl := qr_tbl n) (loops := qr_loops n) (an := qr_an) (old := [some true, some false]) (n := n) (c := qr_c) (fn := Try.f30) (TblOK.cons (AllE.cons (qal_ok n) AllE.nil) (TblOK.cons (AllE.cons (qam_ok n) AllE.nil) TblOK.nil)) (by kernel_rfl) (by kernel_rfl) (by kernel_rfl) (by kernel_rfl) (fun d => by kernel_rfl) LT.nil (fun a => qr_run n a.1.1 a.1.2.1 a.1.2.2.1 a.1.2.2.2 a.2)
def qbl_h2 : List StSh := [⟨.normal, [2, 5, 45, 46, 47], (.cons (.ptr 0 0 0 0) (.cons (.ptr 1 0 0 0) (.cons (.sl true true yA) (.cons (.int .i64) (.cons (.int .i64) .nil))))), (.cons (.bcells 0 false 1 (.cons (.sl true true yA) (.cons (.sl true true yB) (.cons (.sl true true yC) (.cons (.int .i64) (.cons (.int .i64) (.cons (.int .i64) (.cons (.int .u64) .nil)))))))) (.cons (.bcells 0 false 1 (.cons (.msw 2 0) .nil)) (.cons (.bts 0 false false false (.int .u8)) .nil)))⟩]
def qbl_o2 : List StSh := [⟨.exit 2, [2, 5], (.cons (.ptr 0 0 0 0) (.cons (.ptr 1 0 0 0) .nil)), (.cons (.bcells 0 false 1 (.cons (.sl true true yA) (.cons (.sl true true yB) (.cons (.sl true true yC) (.cons (.int .i64) (.cons (.int .i64) (.cons (.int .i64) (.cons (.int .u64) .nil)))))))) (.cons (.bcells 0 false 1 (.cons (.msw 2 0) .nil)) (.cons (.bts 0 false false false (.int .u8)) .nil)))⟩]
def qbl_L2 (n : Nat) : LEntry := ⟨qbl_h2, qbl_o2, qbl_W2 n⟩
def qak_an : Ann := { boxed := [(5, 7)] }
def qak_c : Code := (match Try.f31.body with | some c => c | none => .skip)
def qak_a : StSh := ⟨.normal, [0, 1], (.cons (.ptr 0 0 0 0) (.cons (.agg (.cons (.int .i64) (.cons (.int .i64) (.cons (.sl true false (.int .u64)) (.cons (.sl true false (.int .u8)) .nil))))) .nil)), (.cons (.bcells 0 false 1 (.cons (.msw 1 0) .nil)) (.cons (.bts 0 false false false (.int .u8)) .nil))⟩
def qak_res : List StSh := [⟨.ret, [0], (.cons (.tup .nil) .nil), (.cons (.bcells 0 false 1 (.cons (.msw 1 0) .nil)) (.cons (.bts 0 false false false (.int .u8)) .nil))⟩]
def qak_tbl (n : Nat) : FuncId → List Entry := fun f => bif Nat.beq f 28 then [qal_E n] else bif Nat.beq f 69 then [qam_E n] else []
def qak_loops (n : Nat) : Nat → Option LEntry := fun f => none
theorem qak_run (n : Nat) (o_1 : Int) (o_1_1 : Int) (o_1_2 : DA) (o_1_3 : DA) (m1 : DA) : funDS (real _) tab (qak_tbl n) (qak_loops n) qak_an Try.f31 2 qak_a qak_res ((o_1, (o_1_1, (o_1_2, o_1_3))), m1) some = qak n o_1 o_1_1 o_1_2 o_1_3 m1 := by kernel_rfl
def qak_E (n : Nat) : Entry := ⟨qak_a, qak_res, fun d => qak n d.1.1 d.1.2.1 d.1.2.2.1 d.1.2.2.2 d.2⟩
theorem qak_ok (n : Nat) : EOK Try.prog 31 (qak_E n) :=
 EOK.ofS zc zb ze (tbl := qak_tbl n) (loops := qak_loops n) (an := qak_an) (old := [some true, some false]) (n := n) (c := qak_c) (fn := Try.f31) (TblOK.cons (AllE.cons (qal_ok n) AllE.nil) (TblOK.cons (AllE.cons (qam_ok n) AllE.nil) TblOK.nil)) (by kernel_rfl) (by kernel_rfl) (by kernel_rfl) (by kernel_rfl) (fun d => by kernel_rfl) LT.nil (fun a => qak_run n a.1.1 a.1.2.1 a.1.2.2.1 a.1.2.2.2 a.2)
def qbl_h4 : List StSh := [⟨.normal, [2, 5, 61, 62, 63], (.cons (.ptr 0 0 0 0) (.cons (.ptr 1 0 0 0) (.cons (.sl true true yB) (.cons (.int .i64) (.cons (.int .i64) .nil))))), (.cons (.bcells 0 false 1 (.cons (.sl true true yA) (.cons (.sl true true yB) (.cons (.sl true true yC) (.cons (.int .i64) (.cons (.int .i64) (.cons (.int .i64) (.cons (.int .u64) .nil)))))))) (.cons (.bcells 0 false 1 (.cons (.msw 2 0) .nil)) (.cons (.bts 0 false false false (.int .u8)) .nil)))⟩]
def qbl_o4 : List StSh := [⟨.exit 4, [2, 5], (.cons (.ptr 0 0 0 0) (.cons (.ptr 1 0 0 0) .nil)), (.cons (.bcells 0 false 1 (.cons (.sl true true yA) (.cons (.sl true true yB) (.cons (.sl true true yC) (.cons (.int .i64) (.cons (.int .i64) (.cons (.int .i64) (.cons (.int .u64) .nil)))))))) (.cons (.bcells 0 false 1 (.cons (.msw 2 0) .nil)) (.cons (.bts 0 false false false (.int .u8)) .nil)))⟩]
def qbl_L4 (n : Nat) : LEntry := ⟨qbl_h4, qbl_o4, qbl_W4 n⟩
def qaq_an : Ann := {}
def qaq_c : Code := (match Try.f32.body with | some c => c | none => .skip)
def qaq_a : StSh := ⟨.normal, [0, 1], (.cons (.ptr 0 0 0 0) (.cons (.agg (.cons (.int .i64) (.cons (.int .u64) (.cons .bool .nil)))) .nil)), (.cons (.bcells 0 false 1 (.cons (.msw 1 0) .nil)) (.cons (.bts 0 false false false (.int .u8)) .nil))⟩
def qaq_res : List StSh := [⟨.ret, [0], (.cons (.tup .nil) .nil), (.cons (.bcells 0 false 1 (.cons (.msw 1 0) .nil)) (.cons (.bts 0 false false false (.int .u8)) .nil))⟩]
def qaq_tbl (n : Nat) : FuncId → List Entry := fun f => bif Nat.beq f 28 then [qal_E n] else bif Nat.beq f 29 then [qah_E n] else []
def qaq_loops (n : Nat) : Nat → Option LEntry := fun f => none
theorem qaq_run (n : Nat) (h_1 : Int) (h_1_1 : Int) (h_1_2 : Bool) (m1 : DA) : funDS (real _) tab (qaq_tbl n) (qaq_loops n) qaq_an Try.f32 2 qaq_a qaq_res ((h_1, (h_1_1, h_1_2)), m1) some = qaq n h_1 h_1_1 h_1_2 m1 := by kernel_rfl
def qaq_E (n : Nat) : Entry := ⟨qaq_a, qaq_res, fun d => qaq n d.1.1 d.1.2.1 d.1.2.2 d.2⟩
theorem qaq_ok (n : Nat) : EOK Try.prog 32 (qaq_E n) :=
 EOK.ofS zc zb ze (tbl := qaq_tbl n) (loops := qaq_loops n) (an := qaq_an) (old := [some true, some false]) (n := n) (c := qaq_c) (fn := Try.f32) (TblOK.cons (AllE.cons (qal_ok n) AllE.nil) (TblOK.cons (AllE.cons (qah_ok n) AllE.nil) TblOK.nil)) (by kernel_rfl) (by kernel_rfl) (by kernel_rfl) (by kernel_rfl) (fun d => by kernel_rfl) LT.nil (fun a => qaq_run n a.1.1 a.1.2.1 a.1.2.2 a.2)
def qbl_h6 : List StSh := [⟨.normal, [5, 77, 78, 79], (.cons (.ptr 0 0 0 0) (.cons (.sl true true yC) (.cons (.int .i64) (.cons (.int .i64) .nil)))), (.cons (.bcells 0 false 1 (.cons (.msw 1 0) .nil)) (.cons (.bts 0 false false false (.int .u8)) .nil))⟩]
def qbl_o6 : List StSh := [⟨.exit 6, [5], (.cons (.ptr 0 0 0 0) .nil), (.cons (.bcells 0 false 1 (.cons (.msw 1 0) .nil)) (.cons (.bts 0 false false false (.int .u8)) .nil))⟩]
def qbl_L6 (n : Nat) : LEntry := ⟨qbl_h6, qbl_o6, qbl_W6 n⟩
def qcg_an : Ann := { boxed := [(1, 1)] }
def qcg_c : Code := (match Try.f33.body with | some c => c | none => .skip)
def qcg_a : StSh := ⟨.normal, [0], (.cons (.sl true false (.int .u8)) .nil), .nil⟩
def qcj_an : Ann := { live := [(0, [3, 7, 8, 9]), (2, [3, 7, 8, 9, 17])] }
def qcj_c : Code := (match Try.f70.body with | some c => c | none => .skip)
def qcj_l0 : Code := (match assoc 0 (loopsIn qcj_c 0) with | some c => c | none => .skip)
def qcj_l2 : Code := (match assoc 2 (loopsIn qcj_c 0) with | some c => c | none => .skip)
def qcj_a : StSh := ⟨.normal, [0], (.cons (.sl true false (.int .u8)) .nil), .nil⟩
def qcj_h2 : List StSh := [⟨.normal, [3, 7, 8, 9, 17], (.cons (.int .u32) (.cons (.sl true false (.int .u8)) (.cons (.int .i64) (.cons (.int .i64) (.cons (.int .i64) .nil))))), .nil⟩]
def qcj_o2 : List StSh := [⟨.exit 2, [3, 7, 8, 9], (.cons (.int .u32) (.cons (.sl true false (.int .u8)) (.cons (.int .i64) (.cons (.int .i64) .nil)))), .nil⟩]
def qcj_L2 (n : Nat) : LEntry := ⟨qcj_h2, qcj_o2, qcj_W2 n⟩
def qcj_h0 : List StSh := [⟨.normal, [3, 7, 8, 9], (.cons (.int .u32) (.cons (.sl true false (.int .u8)) (.cons (.int .i64) (.cons (.int .i64) .nil)))), .nil⟩]
def qcj_o0 : List StSh := [⟨.exit 0, [3], (.cons (.int .u32) .nil), .nil⟩]
def qcj_L0 (n : Nat) : LEntry := ⟨qcj_h0, qcj_o0, qcj_W0 n⟩
def qcj_res : List StSh := [⟨.ret, [0], (.cons (.int .u32) .nil), .nil⟩]
def qcj_tbl (n : Nat) : FuncId → List Entry := fun f => []
def qcj_loops (n : Nat) : Nat → Option LEntry := fun f => bif Nat.beq f 2 then some (qcj_L2 n) else bif Nat.beq f 0 then some (qcj_L0 n) else none
theorem qcj_r2 (n : Nat) (n_3 : Int) (t7 : DA) (t8 : Int) (t9 : Int) (t17 : Int) : roundK (real _) tab (qcj_tbl n) (qcj_loops n) qcj_an [] qcj_l2 2 [3, 7, 8, 9, 17] qcj_h2 qcj_o2 (n_3, (t7, (t8, (t9, t17)))) some = qcj_B2 n n_3 t7 t8 t9 t17 := by kernel_rfl
theorem qcj_f2 (n : Nat) : LoopFact tab (qcj_tbl n) (qcj_loops n) qcj_an [] n 2 qcj_l2 (qcj_L2 n) := ⟨[3, 7, 8, 9, 17], (fun s => qcj_B2 n s.1 s.2.1 s.2.2.1 s.2.2.2.1 s.2.2.2.2), by kernel_rfl, by kernel_rfl, fun s => rfl, fun s => qcj_r2 n s.1 s.2.1 s.2.2.1 s.2.2.2.1 s.2.2.2.2⟩
theorem qcj_r0 (n : Nat) (n_3 : Int) (t7 : DA) (t8 : Int) (t9 : Int) : roundK (real _) tab (qcj_tbl n) (qcj_loops n) qcj_an [] qcj_l0 0 [3, 7, 8, 9] qcj_h0 qcj_o0 (n_3, (t7, (t8, t9))) some = qcj_B0 n n_3 t7 t8 t9 := by kernel_rfl
theorem qcj_f0 (n : Nat) : LoopFact tab (qcj_tbl n) (qcj_loops n) qcj_an [] n 0 qcj_l0 (qcj_L0 n) := ⟨[3, 7, 8, 9], (fun s => qcj_B0 n s.1 s.2.1 s.2.2.1 s.2.2.2), by kernel_rfl, by kernel_rfl, fun s => rfl, fun s => qcj_r0 n s.1 s.2.1 s.2.2.1 s.2.2.2⟩
theorem qcj_run (n : Nat) (b_0 : DA) : funDS (real _) tab (qcj_tbl n) (qcj_loops n) qcj_an Try.f70 0 qcj_a qcj_res b_0 some = qcj n b_0 := by kernel_rfl
def qcj_E (n : Nat) : Entry := ⟨qcj_a, qcj_res, fun d => qcj n d⟩
theorem qcj_ok (n : Nat) : EOK Try.prog 70 (qcj_E n) :=
 EOK.ofS zc zb ze (tbl := qcj_tbl n) (loops := qcj_loops n) (an := qcj_an) (old := []) (n := n) (c := qcj_c) (fn := Try.f70) TblOK.nil (by kernel_rfl) (by kernel_rfl) (by kernel_rfl) (by kernel_rfl) (fun d => by kernel_rfl) (LT.cons (by kernel_rfl) (qcj_f2 n) (LT.cons (by kernel_rfl) (qcj_f0 n) LT.nil)) (fun a => qcj_run n a)
def qcg_res : List StSh := [⟨.ret, [0], (.cons (.sl false false (.int .u8)) .nil), .nil⟩]
def qcg_tbl (n : Nat) : FuncId → List Entry := fun f => bif Nat.beq f 70 then [qcj_E n] else bif Nat.beq f 27 then [qcb_E n] else []
def qcg_loops (n : Nat) : Nat → Option LEntry := fun f => none
theorem qcg_run (n : Nat) (b_0 : DA) : funDS (real _) tab (qcg_tbl n) (qcg_loops n) qcg_an Try.f33 0 qcg_a qcg_res b_0 some = qcg n b_0 := by kernel_rfl
def qcg_E (n : Nat) : Entry := ⟨qcg_a, qcg_res, fun d => qcg n d⟩
theorem qcg_ok (n : Nat) : EOK Try.prog 33 (qcg_E n) :=
 EOK.ofS zc zb ze (tbl := qcg_tbl n) (loops := qcg_loops n) (an := qcg_an) (old := []) (n := n) (c := qcg_c) (fn := Try.f33) (TblOK.cons (AllE.cons (qcj_ok n) AllE.nil) (TblOK.cons (AllE.cons (qcb_ok n) AllE.nil) TblOK.nil)) (by kernel_rfl) (by kernel_rfl) (by kernel_rfl) (by kernel_rfl) (fun d => by kernel_rfl) LT.nil (fun a => qcg_run n a)
def qbl_res : List StSh := [⟨.ret, [0], (.cons (.sl false false (.int .u8)) .nil), .nil⟩]
def qbl_tbl (n : Nat) : FuncId → List Entry := fun f => bif Nat.beq f 27 then [qcb_E n] else bif Nat.beq f 28 then [qal_E n] else bif Nat.beq f 29 then [qah_E n] else bif Nat.beq f 30 then [qr_E n] else bif Nat.beq f 31 then [qak_E n] else bif Nat.beq f 32 then [qaq_E n] else bif Nat.beq f 33 then [qcg_E n] else []
def qbl_loops (n : Nat) : Nat → Option LEntry := fun f => bif Nat.beq f 0 then some (qbl_L0 n) else bif Nat.beq f 2 then some (qbl_L2 n) else bif Nat.beq f 4 then some (qbl_L4 n) else bif Nat.beq f 6 then some (qbl_L6 n) else none
theorem qbl_r0 (n : Nat) (t27 : Int) (t27_1 : Int) (t27_2 : Int) (t28 : Int) (m0 : DE) (m0_1 : DE) (m0_2 : DB) (m0_3 : Int) (m0_4 : Int) (m0_5 : Int) (m0_6 : Int) (m2 : DA) : roundK (real _) tab (qbl_tbl n) (qbl_loops n) qbl_an [] qbl_l0 0 [2, 5, 27, 28] qbl_h0 qbl_o0 (((t27, (t27_1, t27_2)), t28), ((m0, (m0_1, (m0_2, (m0_3, (m0_4, (m0_5, m0_6)))))), m2)) some = qbl_B0 n t27 t27_1 t27_2 t28 m0 m0_1 m0_2 m0_3 m0_4 m0_5 m0_6 m2 := by kernel_rfl
theorem qbl_f0 (n : Nat) : LoopFact tab (qbl_tbl n) (qbl_loops n) qbl_an [] n 0 qbl_l0 (qbl_L0 n) := ⟨[2, 5, 27, 28], (fun s => qbl_B0 n s.1.1.1 s.1.1.2.1 s.1.1.2.2 s.1.2 s.2.1.1 s.2.1.2.1 s.2.1.2.2.1 s.2.1.2.2.2.1 s.2.1.2.2.2.2.1 s.2.1.2.2.2.2.2.1 s.2.1.2.2.2.2.2.2 s.2.2), by kernel_rfl, by kernel_rfl, fun s => rfl, fun s => qbl_r0 n s.1.1.1 s.1.1.2.1 s.1.1.2.2 s.1.2 s.2.1.1 s.2.1.2.1 s.2.1.2.2.1 s.2.1.2.2.2.1 s.2.1.2.2.2.2.1 s.2.1.2.2.2.2.2.1 s.2.1.2.2.2.2.2.2 s.2.2⟩
theorem qbl_r2 (n : Nat) (t45 : DE) (t46 : Int) (t47 : Int) (m0 : DE) (m0_1 : DE) (m0_2 : DB) (m0_3 : Int) (m0_4 : Int) (m0_5 : Int) (m0_6 : Int) (m2 : DA) : roundK (real _) tab (qbl_tbl n) (qbl_loops n) qbl_an [] qbl_l2 2 [2, 5, 45, 46, 47] qbl_h2 qbl_o2 ((t45, (t46, t47)), ((m0, (m0_1, (m0_2, (m0_3, (m0_4, (m0_5, m0_6)))))), m2)) some = qbl_B2 n t45 t46 t47 m0 m0_1 m0_2 m0_3 m0_4 m0_5 m0_6 m2 := by kernel_rfl
theorem qbl_f2 (n : Nat) : LoopFact tab (qbl_tbl n) (qbl_loops n) qbl_an [] n 2 qbl_l2 (qbl_L2 n) := ⟨[2, 5, 45, 46, 47], (fun s => qbl_B2 n s.1.1 s.1.2.1 s.1.2.2 s.2.1.1 s.2.1.2.1 s.2.1.2.2.1 s.2.1.2.2.2.1 s.2.1.2.2.2.2.1 s.2.1.2.2.2.2.2.1 s.2.1.2.2.2.2.2.2 s.2.2), by kernel_rfl, by kernel_rfl, fun s => rfl, fun s => qbl_r2 n s.1.1 s.1.2.1 s.1.2.2 s.2.1.1 s.2.1.2.1 s.2.1.2.2.1 s.2.1.2.2.2.1 s.2.1.2.2.2.2.1 s.2.1.2.2.2.2.2.1 s.2.1.2.2.2.2.2.2 s.2.2⟩
theorem qbl_r4 (n : Nat) (t61 : DE) (t62 : Int) (t63 : Int) (m0 : DE) (m0_1 : DE) (m0_2 : DB) (m0_3 : Int) (m0_4 : Int) (m0_5 : Int) (m0_6 : Int) (m2 : DA) : roundK (real _) tab (qbl_tbl n) (qbl_loops n) qbl_an [] qbl_l4 4 [2, 5, 61, 62, 63] qbl_h4 qbl_o4 ((t61, (t62, t63)), ((m0, (m0_1, (m0_2, (m0_3, (m0_4, (m0_5, m0_6)))))), m2)) some = qbl_B4 n t61 t62 t63 m0 m0_1 m0_2 m0_3 m0_4 m0_5 m0_6 m2 := by kernel_rfl
theorem qbl_f4 (n : Nat) : LoopFact tab (qbl_tbl n) (qbl_loops n) qbl_an [] n 4 qbl_l4 (qbl_L4 n) := ⟨[2, 5, 61, 62, 63], (fun s => qbl_B4 n s.1.1 s.1.2.1 s.1.2.2 s.2.1.1 s.2.1.2.1 s.2.1.2.2.1 s.2.1.2.2.2.1 s.2.1.2.2.2.2.1 s.2.1.2.2.2.2.2.1 s.2.1.2.2.2.2.2.2 s.2.2), by kernel_rfl, by kernel_rfl, fun s => rfl, fun s => qbl_r4 n s.1.1 s.1.2.1 s.1.2.2 s.2.1.1 s.2.1.2.1 s.2.1.2.2.1 s.2.1.2.2.2.1 s.2.1.2.2.2.2.1 s.2.1.2.2.2.2.2.1 s.2.1.2.2.2.2.2.2 s.2.2⟩
theorem qbl_r6 (n : Nat) (t77 : DB) (t78 : Int) (t79 : Int) (m1 : DA) : roundK (real _) tab (qbl_tbl n) (qbl_loops n) qbl_an [] qbl_l6 6 [5, 77, 78, 79] qbl_h6 qbl_o6 ((t77, (t78, t79)), m1) some = qbl_B6 n t77 t78 t79 m1 := by kernel_rfl
theorem qbl_f6 (n : Nat) : LoopFact tab (qbl_tbl n) (qbl_loops n) qbl_an [] n 6 qbl_l6 (qbl_L6 n) := ⟨[5, 77, 78, 79], (fun s => qbl_B6 n s.1.1 s.1.2.1 s.1.2.2 s.2), by kernel_rfl, by kernel_rfl, fun s => rfl, fun s => qbl_r6 n s.1.1 s.1.2.1 s.1.2.2 s.2⟩
theorem qbl_run (n : Nat) (t0 : DE) (t0_1 : DE) (t0_2 : DB) (t0_3 : Int) (t0_4 : Int) (t0_5 : Int) (t0_6 : Int) (t1 : Int) : funDS (real _) tab (qbl_tbl n) (qbl_loops n) qbl_an Try.f12 0 qbl_a qbl_res ((t0, (t0_1, (t0_2, (t0_3, (t0_4, (t0_5, t0_6)))))), t1) some = qbl n t0 t0_1 t0_2 t0_3 t0_4 t0_5 t0_6 t1 := by kernel_rfl
def qbl_E (n : Nat) : Entry := ⟨qbl_a, qbl_res, fun d => qbl n d.1.1 d.1.2.1 d.1.2.2.1 d.1.2.2.2.1 d.1.2.2.2.2.1 d.1.2.2.2.2.2.1 d.1.2.2.2.2.2.2 d.2⟩
theorem qbl_ok (n : Nat) : EOK Try.prog 12 (qbl_E n) :=
 EOK.ofS zc zb ze (tbl := qbl_tbl n) (loops := qbl_loops n) (an := qbl_an) (old := []) (n := n) (c := qbl_c) (fn := Try.f12) (TblOK.cons (AllE.cons (qcb_ok n) AllE.nil) (TblOK.cons (AllE.cons (qal_ok n) AllE.nil) (TblOK.cons (AllE.cons (qah_ok n) AllE.nil) (TblOK.cons (AllE.cons (qr_ok n) AllE.nil) (TblOK.cons (AllE.cons (qak_ok n) AllE.nil) (TblOK.cons (AllE.cons (qaq_ok n) AllE.nil) (TblOK.cons (AllE.cons (qcg_ok n) AllE.nil) TblOK.nil))))))) (by kernel_rfl) (by kernel_rfl) (by kernel_rfl) (by kernel_rfl) (fun d => by kernel_rfl) (LT.cons (by kernel_rfl) (qbl_f0 n) (LT.cons (by kernel_rfl) (qbl_f2 n) (LT.cons (by kernel_rfl) (qbl_f4 n) (LT.cons (by kernel_rfl) (qbl_f6 n) LT.nil)))) (fun a => qbl_run n a.1.1 a.1.2.1 a.1.2.2.1 a.1.2.2.2.1 a.1.2.2.2.2.1 a.1.2.2.2.2.2.1 a.1.2.2.2.2.2.2 a.2)
def qbi_an : Ann := {}
def qbi_c : Code := (match Try.f15.body with | some c => c | none => .skip)
def qbi_a : StSh := ⟨.normal, [0], (.cons (.sl true false (.int .u8)) .nil), .nil⟩
def qbj_an : Ann := {}
def qbj_c : Code := (match Try.f38.body with | some c => c | none => .skip)
def qbj_a : StSh := ⟨.normal, [0, 1], (.cons (.sl true false (.int .u8)) (.cons (.int .u8) .nil)), .nil⟩
def qcf_an : Ann := {}
def qcf_c : Code := (match Try.f72.body with | some c => c | none => .skip)
def qcf_a : StSh := ⟨.normal, [0], (.cons (.sl true false (.int .u8)) .nil), .nil⟩
def qcf_res : List StSh := [⟨.ret, [0], (.cons (.tup (.cons (.sl false false (.int .u8)) (.cons (.int .i64) .nil))) .nil), .nil⟩]
def qcf_tbl (n : Nat) : FuncId → List Entry := fun f => bif Nat.beq f 33 then [qcg_E n] else []
def qcf_loops (n : Nat) : Nat → Option LEntry := fun f => none
theorem qcf_run (n : Nat) (b_0 : DA) : funDS (real _) tab (qcf_tbl n) (qcf_loops n) qcf_an Try.f72 0 qcf_a qcf_res b_0 some = qcf n b_0 := by kernel_rfl
def qcf_E (n : Nat) : Entry := ⟨qcf_a, qcf_res, fun d => qcf n d⟩
theorem qcf_ok (n : Nat) : EOK Try.prog 72 (qcf_E n) :=
 EOK.ofS zc zb ze (tbl := qcf_tbl n) (loops := qcf_loops n) (an := qcf_an) (old := []) (n := n) (c := qcf_c) (fn := Try.f72) (TblOK.cons (AllE.cons (qcg_ok n) AllE.nil) TblOK.nil) (by kernel_rfl) (by kernel_rfl) (by kernel_rfl) (by kernel_rfl) (fun d => by kernel_rfl) LT.nil (fun a => qcf_run n a)
def qbc_an : Ann := {}
def qbc_c : Code := (match Try.f73.body with | some c => c | none => .skip)
def qbc_a : StSh := ⟨.normal, [0], (.cons (.sl true false (.int .u8)) .nil), .nil⟩
def qbc_res : List StSh := [⟨.ret, [0], (.cons (.ptr 0 0 0 0) .nil), (.cons (.bcells 0 false 1 (.cons (.sl false false (.int .u8)) (.cons .bool .nil))) .nil)⟩]
def qbc_tbl (n : Nat) : FuncId → List Entry := fun f => []
def qbc_loops (n : Nat) : Nat → Option LEntry := fun f => none
theorem qbc_run (n : Nat) (b_0 : DA) : funDS (real _) tab (qbc_tbl n) (qbc_loops n) qbc_an Try.f73 0 qbc_a qbc_res b_0 some = qbc n b_0 := by kernel_rfl
def qbc_E (n : Nat) : Entry := ⟨qbc_a, qbc_res, fun d => qbc n d⟩
theorem qbc_ok (n : Nat) : EOK Try.prog 73 (qbc_E n) :=
 EOK.ofS zc zb ze (tbl := qbc_tbl n) (loops := qbc_loops n) (an := qbc_an) (old := []) (n := n) (c := qbc_c) (fn := Try.f73) TblOK.nil (by kernel_rfl) (by kernel_rfl) (by kernel_rfl) (by kernel_rfl) (fun d => by kernel_rfl) LT.nil (fun a => qbc_run n a)
def qai_an : Ann := {}
def qai_c : Code := (match Try.f74.body with | some c => c | none => .skip)
def qai_a : StSh := ⟨.normal, [0, 1], (.cons (.ptr 0 0 0 0) (.cons (.int .i64) .nil)), (.cons (.bcells 0 false 1 (.cons (.sl false false (.int .u8)) (.cons .bool .nil))) .nil)⟩
def qax_an : Ann := {}
def qax_c : Code := (match Try.f75.body with | some c => c | none => .skip)
def qax_a : StSh := ⟨.normal, [0, 1], (.cons (.ptr 0 0 0 0) (.cons (.int .i64) .nil)), (.cons (.bcells 0 false 1 (.cons (.sl false false (.int .u8)) (.cons .bool .nil))) .nil)⟩
def qbg_an : Ann := {}
def qbg_c : Code := (match Try.f55.body with | some c => c | none => .skip)
def qbg_a : StSh := ⟨.normal, [0], (.cons (.ptr 0 0 0 0) .nil), (.cons (.bcells 0 false 1 (.cons (.sl false false (.int .u8)) (.cons .bool .nil))) .nil)⟩
def qbg_res : List StSh := [⟨.ret, [0], (.cons .bool .nil), (.cons (.bcells 0 false 1 (.cons (.sl false false (.int .u8)) (.cons .bool .nil))) .nil)⟩]
def qbg_tbl (n : Nat) : FuncId → List Entry := fun f => []
def qbg_loops (n : Nat) : Nat → Option LEntry := fun f => none
theorem qbg_run (n : Nat) (m0 : DA) (m0_1 : Bool) : funDS (real _) tab (qbg_tbl n) (qbg_loops n) qbg_an Try.f55 1 qbg_a qbg_res (m0, m0_1) some = qbg n m0 m0_1 := by kernel_rfl
def qbg_E (n : Nat) : Entry := ⟨qbg_a, qbg_res, fun d => qbg n d.1 d.2⟩
theorem qbg_ok (n : Nat) : EOK Try.prog 55 (qbg_E n) :=
 EOK.ofS zc zb ze (tbl := qbg_tbl n) (loops := qbg_loops n) (an := qbg_an) (old := [some true]) (n := n) (c := qbg_c) (fn := Try.f55) TblOK.nil (by kernel_rfl) (by kernel_rfl) (by kernel_rfl) (by kernel_rfl) (fun d => by kernel_rfl) LT.nil (fun a => qbg_run n a.1 a.2)
def qav_an : Ann := {}
def qav_c : Code := (match Try.f76.body with | some c => c | none => .skip)
def qav_a : StSh := ⟨.normal, [0], (.cons (.ptr 0 0 0 0) .nil), (.cons (.bcells 0 false 1 (.cons (.sl false false (.int .u8)) (.cons .bool .nil))) .nil)⟩
def qav_res : List StSh := [⟨.ret, [0], (.cons (.tup .nil) .nil), (.cons (.bcells 0 false 1 (.cons (.sl false false (.int .u8)) (.cons .bool .nil))) .nil)⟩]
def qav_tbl (n : Nat) : FuncId → List Entry := fun f => []
def qav_loops (n : Nat) : Nat → Option LEntry := fun f => none
theorem qav_run (n : Nat) (m0 : DA) (m0_1 : Bool) : funDS (real _) tab (qav_tbl n) (qav_loops n) qav_an Try.f76 1 qav_a qav_res (m0, m0_1) some = qav n m0 m0_1 := by kernel_rfl
def qav_E (n : Nat) : Entry := ⟨qav_a, qav_res, fun d => qav n d.1 d.2⟩
theorem qav_ok (n : Nat) : EOK Try.prog 76 (qav_E n) :=
 EOK.ofS zc zb ze (tbl := qav_tbl n) (loops := qav_loops n) (an := qav_an) (old := [some true]) (n := n) (c := qav_c) (fn := Try.f76) TblOK.nil (by kernel_rfl) (by kernel_rfl) (by kernel_rfl) (by kernel_rfl) (fun d => by kernel_rfl) LT.nil (fun a => qav_run n a.1 a.2)
def qax_res : List StSh := [⟨.ret, [0], (.cons (.sl false false (.int .u8)) .nil), (.cons (.bcells 0 false 1 (.cons (.sl false false (.int .u8)) (.cons .bool .nil))) .nil)⟩]
def qax_tbl (n : Nat) : FuncId → List Entry := fun f => bif Nat.beq f 55 then [qbg_E n] else bif Nat.beq f 76 then [qav_E n] else []
def qax_loops (n : Nat) : Nat → Option LEntry := fun f => none
theorem qax_run (n : Nat) (n_1 : Int) (m0 : DA) (m0_1 : Bool) : funDS (real _) tab (qax_tbl n) (qax_loops n) qax_an Try.f75 1 qax_a qax_res (n_1, (m0, m0_1)) some = qax n n_1 m0 m0_1 := by kernel_rfl
def qax_E (n : Nat) : Entry := ⟨qax_a, qax_res, fun d => qax n d.1 d.2.1 d.2.2⟩
theorem qax_ok (n : Nat) : EOK Try.prog 75 (qax_E n) :=
 EOK.ofS zc zb ze (tbl := qax_tbl n) (loops := qax_loops n) (an := qax_an) (old := [some true]) (n := n) (c := qax_c) (fn := Try.f75) (TblOK.cons (AllE.cons (qbg_ok n) AllE.nil) (TblOK.cons (AllE.cons (qav_ok n) AllE.nil) TblOK.nil)) (by kernel_rfl) (by kernel_rfl) (by kernel_rfl) (by kernel_rfl) (fun d => by kernel_rfl) LT.nil (fun a => qax_run n a.1 a.2.1 a.2.2)
def qay_an : Ann := {}
def qay_c : Code := (match Try.f95.body with | some c => c | none => .skip)
def qay_a : StSh := ⟨.normal, [0], (.cons (.sl true false (.int .u8)) .nil), .nil⟩
def qay_res : List StSh := [⟨.ret, [0], (.cons (.fn 99 .nil (.cons (.ptr 0 0 0 0) .nil)) .nil), (.cons (.bcells 0 false 1 (.cons (.sl true false (.int .u8)) .nil)) .nil)⟩]
def qay_tbl (n : Nat) : FuncId → List Entry := fun f => []
def qay_loops (n : Nat) : Nat → Option LEntry := fun f => none
theorem qay_run (n : Nat) (s_0 : DA) : funDS (real _) tab (qay_tbl n) (qay_loops n) qay_an Try.f95 0 qay_a qay_res s_0 some = qay n s_0 := by kernel_rfl
def qay_E (n : Nat) : Entry := ⟨qay_a, qay_res, fun d => qay n d⟩
theorem qay_ok (n : Nat) : EOK Try.prog 95 (qay_E n) :=
 EOK.ofS zc zb ze (tbl := qay_tbl n) (loops := qay_loops n) (an := qay_an) (old := []) (n := n) (c := qay_c) (fn := Try.f95) TblOK.nil (by kernel_rfl) (by kernel_rfl) (by kernel_rfl) (by kernel_rfl) (fun d => by kernel_rfl) LT.nil (fun a => qay_run n a)
def qai_res : List StSh := [⟨.ret, [0], (.cons (.int .u64) .nil), (.cons (.bcells 0 false 1 (.cons (.sl false false (.int .u8)) (.cons .bool .nil))) .nil)⟩]
def qai_tbl (n : Nat) : FuncId → List Entry := fun f => bif Nat.beq f 75 then [qax_E n] else bif Nat.beq f 95 then [qay_E n] else []
def qai_E (n : Nat) : Entry := ⟨qai_a, qai_res, fun d => qai n d.1 d.2.1 d.2.2⟩
end
end Sx
