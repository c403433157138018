import Derived.Test.YtmoldheenagboaaProg
import Derived.Test.YtmoldheenagboaaLib32
import Derived.Test.YtmoldheenagboaaImgSh
import Derived.KernelRfl
open Go Go.Ab Go.Proofs
set_option linter.unusedVariables false
set_option maxRecDepth 20000
namespace Sx
noncomputable section
abbrev yA : Ty := (.cons (.int .i64) (.cons (.int .i64) (.cons (.sl false (.int .u64)) (.sl false (.int .u64)))))
abbrev yB : Ty := (.cons (.int .i64) (.cons (.int .i64) (.cons (.sl false (.int .u64)) (.sl false (.int .u8)))))
abbrev yC : Ty := (.cons (.int .i64) (.cons (.int .u64) .bool))
def gtabL : DD := []
instance gTab : GTab := ⟨fun g => assoc g gtabL⟩
def ti2 : TI := ⟨.int .i64, 1, 8, false, some (.int .i64), false, [.int .i64 0]⟩
def ti3 : TI := ⟨.int .i64, 1, 8, false, some (.int .i64), false, [.int .i64 0]⟩
def ti4 : TI := ⟨.bool, 1, 1, false, some .bool, false, [.bool false]⟩
def ti5 : TI := ⟨.int .u8, 1, 1, false, some (.int .u8), false, [.int .u8 0]⟩
def ti6 : TI := ⟨.int .u8, 1, 1, false, some (.int .u8), false, [.int .u8 0]⟩
def ti7 : TI := ⟨.st [(0, 1, 2), (1, 1, 3), (2, 1, 4), (3, 1, 6)], 4, 24, true, some (.cons (.int .i64) (.cons (.int .i64) (.cons .bool (.int .u8)))), true, [.int .i64 0, .int .i64 0, .bool false, .int .u8 0]⟩
def ti8 : TI := ⟨.st [(0, 1, 2), (1, 1, 3), (2, 1, 4), (3, 1, 6)], 4, 24, true, some (.cons (.int .i64) (.cons (.int .i64) (.cons .bool (.int .u8)))), true, [.int .i64 0, .int .i64 0, .bool false, .int .u8 0]⟩
def ti9 : TI := ⟨.str, 1, 16, false, some .str, false, [.string (ByteArray.mk (List.toArray []))]⟩
def ti10 : TI := ⟨.str, 1, 16, false, some .str, false, [.string (ByteArray.mk (List.toArray []))]⟩
def ti11 : TI := ⟨.str, 1, 16, false, some .str, false, [.string (ByteArray.mk (List.toArray []))]⟩
def ti12 : TI := ⟨.int .u64, 1, 8, false, some (.int .u64), false, [.int .u64 0]⟩
def ti13 : TI := ⟨.st [(0, 1, 9), (1, 1, 12)], 2, 24, true, some (.cons .str (.int .u64)), false, [.string (ByteArray.mk (List.toArray [])), .int .u64 0]⟩
def ti14 : TI := ⟨.st [(0, 1, 9), (1, 1, 12)], 2, 24, true, some (.cons .str (.int .u64)), false, [.string (ByteArray.mk (List.toArray [])), .int .u64 0]⟩
def ti15 : TI := ⟨.ptr, 1, 8, false, none, false, [.pointer none]⟩
def ti16 : TI := ⟨.ptr, 1, 8, false, none, false, [.pointer none]⟩
def ti17 : TI := ⟨.ptr, 1, 8, false, none, false, [.pointer none]⟩
def ti18 : TI := ⟨.st [(0, 1, 17)], 1, 8, true, none, false, [.pointer none]⟩
def ti19 : TI := ⟨.st [(0, 1, 17)], 1, 8, true, none, false, [.pointer none]⟩
def ti21 : TI := ⟨.int .i32, 1, 4, false, some (.int .i32), false, [.int .i32 0]⟩
def ti22 : TI := ⟨.sl 50, 1, 24, false, some (.sl true (.cons (.int .i64) (.cons (.int .i64) (.cons (.sl false (.int .u64)) (.sl false (.int .u64)))))), false, [.slice none 0 0]⟩
def ti23 : TI := ⟨.sl 52, 1, 24, false, some (.sl true (.cons (.int .i64) (.cons (.int .i64) (.cons (.sl false (.int .u64)) (.sl false (.int .u8)))))), false, [.slice none 0 0]⟩
def ti24 : TI := ⟨.sl 54, 1, 24, false, some (.sl true (.cons (.int .i64) (.cons (.int .u64) .bool))), false, [.slice none 0 0]⟩
def ti25 : TI := ⟨.int .u64, 1, 8, false, some (.int .u64), false, [.int .u64 0]⟩
def ti26 : TI := ⟨.st [(0, 1, 22), (1, 1, 23), (2, 1, 24), (3, 1, 3), (4, 1, 3), (5, 1, 3), (6, 1, 25)], 7, 104, true, some (.cons (.sl true (.cons (.int .i64) (.cons (.int .i64) (.cons (.sl false (.int .u64)) (.sl false (.int .u64)))))) (.cons (.sl true (.cons (.int .i64) (.cons (.int .i64) (.cons (.sl false (.int .u64)) (.sl false (.int .u8)))))) (.cons (.sl true (.cons (.int .i64) (.cons (.int .u64) .bool))) (.cons (.int .i64) (.cons (.int .i64) (.cons (.int .i64) (.int .u64))))))), false, [.slice none 0 0, .slice none 0 0, .slice none 0 0, .int .i64 0, .int .i64 0, .int .i64 0, .int .u64 0]⟩
def ti27 : TI := ⟨.st [(0, 1, 22), (1, 1, 23), (2, 1, 24), (3, 1, 3), (4, 1, 3), (5, 1, 3), (6, 1, 25)], 7, 104, true, some (.cons (.sl true (.cons (.int .i64) (.cons (.int .i64) (.cons (.sl false (.int .u64)) (.sl false (.int .u64)))))) (.cons (.sl true (.cons (.int .i64) (.cons (.int .i64) (.cons (.sl false (.int .u64)) (.sl false (.int .u8)))))) (.cons (.sl true (.cons (.int .i64) (.cons (.int .u64) .bool))) (.cons (.int .i64) (.cons (.int .i64) (.cons (.int .i64) (.int .u64))))))), false, [.slice none 0 0, .slice none 0 0, .slice none 0 0, .int .i64 0, .int .i64 0, .int .i64 0, .int .u64 0]⟩
def ti28 : TI := ⟨.int .u32, 1, 4, false, some (.int .u32), false, [.int .u32 0]⟩
def ti31 : TI := ⟨.sl 5, 1, 24, false, some (.sl false (.int .u8)), false, [.slice none 0 0]⟩
def ti35 : TI := ⟨.int .i64, 1, 8, false, some (.int .i64), false, [.int .i64 0]⟩
def ti42 : TI := ⟨.int .u64, 1, 8, false, some (.int .u64), false, [.int .u64 0]⟩
def ti44 : TI := ⟨.int .u16, 1, 2, false, some (.int .u16), false, [.int .u16 0]⟩
def ti48 : TI := ⟨.sl 25, 1, 24, false, some (.sl false (.int .u64)), false, [.slice none 0 0]⟩
def ti49 : TI := ⟨.st [(0, 1, 3), (1, 1, 3), (2, 1, 48), (3, 1, 48)], 4, 64, true, some (.cons (.int .i64) (.cons (.int .i64) (.cons (.sl false (.int .u64)) (.sl false (.int .u64))))), false, [.int .i64 0, .int .i64 0, .slice none 0 0, .slice none 0 0]⟩
def ti50 : TI := ⟨.st [(0, 1, 3), (1, 1, 3), (2, 1, 48), (3, 1, 48)], 4, 64, true, some (.cons (.int .i64) (.cons (.int .i64) (.cons (.sl false (.int .u64)) (.sl false (.int .u64))))), false, [.int .i64 0, .int .i64 0, .slice none 0 0, .slice none 0 0]⟩
def ti51 : TI := ⟨.st [(0, 1, 3), (1, 1, 3), (2, 1, 48), (3, 1, 31)], 4, 64, true, some (.cons (.int .i64) (.cons (.int .i64) (.cons (.sl false (.int .u64)) (.sl false (.int .u8))))), false, [.int .i64 0, .int .i64 0, .slice none 0 0, .slice none 0 0]⟩
def ti52 : TI := ⟨.st [(0, 1, 3), (1, 1, 3), (2, 1, 48), (3, 1, 31)], 4, 64, true, some (.cons (.int .i64) (.cons (.int .i64) (.cons (.sl false (.int .u64)) (.sl false (.int .u8))))), false, [.int .i64 0, .int .i64 0, .slice none 0 0, .slice none 0 0]⟩
def ti53 : TI := ⟨.st [(0, 1, 3), (1, 1, 25), (2, 1, 4)], 3, 24, true, some (.cons (.int .i64) (.cons (.int .u64) .bool)), true, [.int .i64 0, .int .u64 0, .bool false]⟩
def ti54 : TI := ⟨.st [(0, 1, 3), (1, 1, 25), (2, 1, 4)], 3, 24, true, some (.cons (.int .i64) (.cons (.int .u64) .bool)), true, [.int .i64 0, .int .u64 0, .bool false]⟩
def ti55 : TI := ⟨.ptr, 1, 8, false, none, false, [.pointer none]⟩
def ti57 : TI := ⟨.st [(0, 1, 31)], 1, 24, true, some (.sl false (.int .u8)), false, [.slice none 0 0]⟩
def ti58 : TI := ⟨.st [(0, 1, 31)], 1, 24, true, some (.sl false (.int .u8)), false, [.slice none 0 0]⟩
def ti59 : TI := ⟨.arr 3 3, 3, 24, true, none, false, [.int .i64 0, .int .i64 0, .int .i64 0]⟩
def ti67 : TI := ⟨.ptr, 1, 8, false, none, false, [.pointer none]⟩
def ti70 : TI := ⟨.ptr, 1, 8, false, none, false, [.pointer none]⟩
def ti71 : TI := ⟨.st [(0, 1, 67), (1, 1, 4)], 2, 16, true, none, false, [.pointer none, .bool false]⟩
def ti72 : TI := ⟨.st [(0, 1, 67), (1, 1, 4)], 2, 16, true, none, false, [.pointer none, .bool false]⟩
def ti81 : TI := ⟨.sl 3, 1, 24, false, some (.sl false (.int .i64)), false, [.slice none 0 0]⟩
def ti86 : TI := ⟨.ptr, 1, 8, false, none, false, [.pointer none]⟩
def ti87 : TI := ⟨.st [(0, 1, 67), (1, 1, 4)], 2, 16, true, none, false, [.pointer none, .bool false]⟩
def ti88 : TI := ⟨.st [(0, 1, 67), (1, 1, 4)], 2, 16, true, none, false, [.pointer none, .bool false]⟩
def ti90 : TI := ⟨.st [(0, 1, 3), (1, 1, 3)], 2, 16, true, some (.cons (.int .i64) (.int .i64)), true, [.int .i64 0, .int .i64 0]⟩
def ti91 : TI := ⟨.st [(0, 1, 3), (1, 1, 3)], 2, 16, true, some (.cons (.int .i64) (.int .i64)), true, [.int .i64 0, .int .i64 0]⟩
def ti92 : TI := ⟨.sl 91, 1, 24, false, some (.sl true (.cons (.int .i64) (.int .i64))), false, [.slice none 0 0]⟩
def ti93 : TI := ⟨.st [(0, 1, 3), (1, 1, 3), (2, 1, 3)], 3, 24, true, some (.cons (.int .i64) (.cons (.int .i64) (.int .i64))), true, [.int .i64 0, .int .i64 0, .int .i64 0]⟩
def ti94 : TI := ⟨.st [(0, 1, 3), (1, 1, 3), (2, 1, 3)], 3, 24, true, some (.cons (.int .i64) (.cons (.int .i64) (.int .i64))), true, [.int .i64 0, .int .i64 0, .int .i64 0]⟩
def ti95 : TI := ⟨.sl 94, 1, 24, false, some (.sl true (.cons (.int .i64) (.cons (.int .i64) (.int .i64)))), false, [.slice none 0 0]⟩
def ti96 : TI := ⟨.st [(0, 1, 92), (1, 2, 91), (3, 1, 92), (4, 1, 95)], 5, 88, true, some (.cons (.sl true (.cons (.int .i64) (.int .i64))) (.cons (.int .i64) (.cons (.int .i64) (.cons (.sl true (.cons (.int .i64) (.int .i64))) (.sl true (.cons (.int .i64) (.cons (.int .i64) (.int .i64)))))))), false, [.slice none 0 0, .int .i64 0, .int .i64 0, .slice none 0 0, .slice none 0 0]⟩
def ti97 : TI := ⟨.st [(0, 1, 92), (1, 2, 91), (3, 1, 92), (4, 1, 95)], 5, 88, true, some (.cons (.sl true (.cons (.int .i64) (.int .i64))) (.cons (.int .i64) (.cons (.int .i64) (.cons (.sl true (.cons (.int .i64) (.int .i64))) (.sl true (.cons (.int .i64) (.cons (.int .i64) (.int .i64)))))))), false, [.slice none 0 0, .int .i64 0, .int .i64 0, .slice none 0 0, .slice none 0 0]⟩
def ti98 : TI := ⟨.sl 97, 1, 24, false, some (.sl true (.cons (.sl true (.cons (.int .i64) (.int .i64))) (.cons (.int .i64) (.cons (.int .i64) (.cons (.sl true (.cons (.int .i64) (.int .i64))) (.sl true (.cons (.int .i64) (.cons (.int .i64) (.int .i64))))))))), false, [.slice none 0 0]⟩
def ti99 : TI := ⟨.sl 92, 1, 24, false, some (.sl false (.sl true (.cons (.int .i64) (.int .i64)))), false, [.slice none 0 0]⟩
def ti100 : TI := ⟨.sl 142, 1, 24, false, some (.sl true (.cons (.sl true (.cons (.int .i64) (.int .i64))) (.cons (.int .i64) (.int .i64)))), false, [.slice none 0 0]⟩
def ti101 : TI := ⟨.sl 9, 1, 24, false, some (.sl false .str), false, [.slice none 0 0]⟩
def ti102 : TI := ⟨.st [(0, 1, 99), (1, 1, 98), (2, 1, 100), (3, 1, 48), (4, 1, 101)], 5, 120, true, some (.cons (.sl false (.sl true (.cons (.int .i64) (.int .i64)))) (.cons (.sl true (.cons (.sl true (.cons (.int .i64) (.int .i64))) (.cons (.int .i64) (.cons (.int .i64) (.cons (.sl true (.cons (.int .i64) (.int .i64))) (.sl true (.cons (.int .i64) (.cons (.int .i64) (.int .i64))))))))) (.cons (.sl true (.cons (.sl true (.cons (.int .i64) (.int .i64))) (.cons (.int .i64) (.int .i64)))) (.cons (.sl false (.int .u64)) (.sl false .str))))), false, [.slice none 0 0, .slice none 0 0, .slice none 0 0, .slice none 0 0, .slice none 0 0]⟩
def ti103 : TI := ⟨.st [(0, 1, 99), (1, 1, 98), (2, 1, 100), (3, 1, 48), (4, 1, 101)], 5, 120, true, some (.cons (.sl false (.sl true (.cons (.int .i64) (.int .i64)))) (.cons (.sl true (.cons (.sl true (.cons (.int .i64) (.int .i64))) (.cons (.int .i64) (.cons (.int .i64) (.cons (.sl true (.cons (.int .i64) (.int .i64))) (.sl true (.cons (.int .i64) (.cons (.int .i64) (.int .i64))))))))) (.cons (.sl true (.cons (.sl true (.cons (.int .i64) (.int .i64))) (.cons (.int .i64) (.int .i64)))) (.cons (.sl false (.int .u64)) (.sl false .str))))), false, [.slice none 0 0, .slice none 0 0, .slice none 0 0, .slice none 0 0, .slice none 0 0]⟩
def ti118 : TI := ⟨.st [(0, 1, 31), (1, 1, 4)], 2, 32, true, some (.cons (.sl false (.int .u8)) .bool), false, [.slice none 0 0, .bool false]⟩
def ti119 : TI := ⟨.st [(0, 1, 31), (1, 1, 4)], 2, 32, true, some (.cons (.sl false (.int .u8)) .bool), false, [.slice none 0 0, .bool false]⟩
def ti120 : TI := ⟨.ptr, 1, 8, false, none, false, [.pointer none]⟩
def ti121 : TI := ⟨.st [(0, 1, 31)], 1, 24, true, some (.sl false (.int .u8)), false, [.slice none 0 0]⟩
def ti122 : TI := ⟨.st [(0, 1, 31)], 1, 24, true, some (.sl false (.int .u8)), false, [.slice none 0 0]⟩
def ti141 : TI := ⟨.st [(0, 1, 92), (1, 2, 91)], 3, 40, true, some (.cons (.sl true (.cons (.int .i64) (.int .i64))) (.cons (.int .i64) (.int .i64))), false, [.slice none 0 0, .int .i64 0, .int .i64 0]⟩
def ti142 : TI := ⟨.st [(0, 1, 92), (1, 2, 91)], 3, 40, true, some (.cons (.sl true (.cons (.int .i64) (.int .i64))) (.cons (.int .i64) (.int .i64))), false, [.slice none 0 0, .int .i64 0, .int .i64 0]⟩
def ti147 : TI := ⟨.sl 31, 1, 24, false, some (.sl false (.sl false (.int .u8))), false, [.slice none 0 0]⟩
def ti161 : TI := ⟨.ptr, 1, 8, false, none, false, [.pointer none]⟩
def ti162 : TI := ⟨.st [(0, 1, 31)], 1, 24, true, some (.sl false (.int .u8)), false, [.slice none 0 0]⟩
def ti163 : TI := ⟨.st [(0, 1, 31)], 1, 24, true, some (.sl false (.int .u8)), false, [.slice none 0 0]⟩
def ti172 : TI := ⟨.arr 2 3, 2, 16, true, none, false, [.int .i64 0, .int .i64 0]⟩
def ti174 : TI := ⟨.st [(0, 1, 17), (1, 1, 17), (2, 1, 17), (3, 1, 9)], 4, 40, true, none, false, [.pointer none, .pointer none, .pointer none, .string (ByteArray.mk (List.toArray []))]⟩
def ti175 : TI := ⟨.st [(0, 1, 17), (1, 1, 17), (2, 1, 17), (3, 1, 9)], 4, 40, true, none, false, [.pointer none, .pointer none, .pointer none, .string (ByteArray.mk (List.toArray []))]⟩
def ti176 : TI := ⟨.arr 0 16, 0, 0, true, none, false, []⟩
def ti177 : TI := ⟨.st [(0, 0, 176)], 0, 0, true, none, false, []⟩
def ti178 : TI := ⟨.st [(0, 0, 176)], 0, 0, true, none, false, []⟩
def ti179 : TI := ⟨.int .u8, 1, 1, false, some (.int .u8), false, [.int .u8 0]⟩
def ti180 : TI := ⟨.int .u8, 1, 1, false, some (.int .u8), false, [.int .u8 0]⟩
def ti182 : TI := ⟨.ptr, 1, 8, false, none, false, [.pointer none]⟩
def ti183 : TI := ⟨.int .i32, 1, 4, false, some (.int .i32), false, [.int .i32 0]⟩
def ti184 : TI := ⟨.int .i32, 1, 4, false, some (.int .i32), false, [.int .i32 0]⟩
def ti187 : TI := ⟨.other, 1, 8, false, none, false, [.pointer none]⟩
def tabL : List (Nat × TI) := [(2, ti2), (3, ti3), (4, ti4), (5, ti5), (6, ti6), (7, ti7), (8, ti8), (9, ti9), (10, ti10), (11, ti11), (12, ti12), (13, ti13), (14, ti14), (15, ti15), (16, ti16), (17, ti17), (18, ti18), (19, ti19), (21, ti21), (22, ti22), (23, ti23), (24, ti24), (25, ti25), (26, ti26), (27, ti27), (28, ti28), (31, ti31), (35, ti35), (42, ti42), (44, ti44), (48, ti48), (49, ti49), (50, ti50), (51, ti51), (52, ti52), (53, ti53), (54, ti54), (55, ti55), (57, ti57), (58, ti58), (59, ti59), (67, ti67), (70, ti70), (71, ti71), (72, ti72), (81, ti81), (86, ti86), (87, ti87), (88, ti88), (90, ti90), (91, ti91), (92, ti92), (93, ti93), (94, ti94), (95, ti95), (96, ti96), (97, ti97), (98, ti98), (99, ti99), (100, ti100), (101, ti101), (102, ti102), (103, ti103), (118, ti118), (119, ti119), (120, ti120), (121, ti121), (122, ti122), (141, ti141), (142, ti142), (147, ti147), (161, ti161), (162, ti162), (163, ti163), (172, ti172), (174, ti174), (175, ti175), (176, ti176), (177, ti177), (178, ti178), (179, ti179), (180, ti180), (182, ti182), (183, ti183), (184, ti184), (187, ti187)]
def tab : TypeId → Option TI := fun t => assoc t tabL
theorem zj : TabOK Try.prog tab := (show TabOK Try.prog (fun t => assoc t tabL) from TabOK.of_list _ (by kernel_rfl))
theorem zc : namesOK Try.prog = true := by kernel_rfl
theorem zb : Try.prog.follows .mixedOrders = true := by kernel_rfl
def law20ImageBack_c : Code := (match Try.f3.body with | some c => c | none => .skip)
def qak_an : Ann := { live := [(0, [1, 3, 4]), (2, [1, 3, 5])] }
def qak_c : Code := (match Try.f10.body with | some c => c | none => .skip)
def qak_l0 : Code := (match assoc 0 (loopsIn qak_c 0) with | some c => c | none => .skip)
def qak_l2 : Code := (match assoc 2 (loopsIn qak_c 0) with | some c => c | none => .skip)
def qak_a : StSh := ⟨.normal, [0], (.cons (.agg (.cons (.sl true true yA) (.cons (.sl true true yB) (.cons (.sl true true yC) (.cons (.int .i64) (.cons (.int .i64) (.cons (.int .i64) (.cons (.int .u64) .nil)))))))) .nil), .nil⟩
def qak_h0 : List StSh := [⟨.normal, [1, 3, 4], (.cons (.ptr 0 0 0 0) (.cons (.int .i64) (.cons (.int .i64) .nil))), (.cons (.bcells 0 false 1 (.cons (.sl true true yA) (.cons (.sl true true yB) (.cons (.sl true true yC) (.cons (.int .i64) (.cons (.int .i64) (.cons (.int .i64) (.cons (.int .u64) .nil)))))))) .nil)⟩]
def qak_o0 : List StSh := [⟨.exit 0, [1, 3], (.cons (.ptr 0 0 0 0) (.cons (.int .i64) .nil)), (.cons (.bcells 0 false 1 (.cons (.sl true true yA) (.cons (.sl true true yB) (.cons (.sl true true yC) (.cons (.int .i64) (.cons (.int .i64) (.cons (.int .i64) (.cons (.int .u64) .nil)))))))) .nil)⟩]
def qak_L0 (n : Nat) : LEntry := ⟨qak_h0, qak_o0, qak_W0 n⟩
def qak_h2 : List StSh := [⟨.normal, [1, 3, 5], (.cons (.ptr 0 0 0 0) (.cons (.int .i64) (.cons (.int .i64) .nil))), (.cons (.bcells 0 false 1 (.cons (.sl true true yA) (.cons (.sl true true yB) (.cons (.sl true true yC) (.cons (.int .i64) (.cons (.int .i64) (.cons (.int .i64) (.cons (.int .u64) .nil)))))))) .nil)⟩]
def qak_o2 : List StSh := [⟨.exit 2, [3], (.cons (.int .i64) .nil), (.cons (.bcells 0 false 1 (.cons (.sl true true yA) (.cons (.sl true true yB) (.cons (.sl true true yC) (.cons (.int .i64) (.cons (.int .i64) (.cons (.int .i64) (.cons (.int .u64) .nil)))))))) .nil)⟩]
def qak_L2 (n : Nat) : LEntry := ⟨qak_h2, qak_o2, qak_W2 n⟩
def qak_res : List StSh := [⟨.ret, [0], (.cons .bool .nil), .nil⟩]
def qak_tbl (n : Nat) : FuncId → List Entry := fun f => []
def qak_loops (n : Nat) : Nat → Option LEntry := fun f => bif Nat.beq f 0 then some (qak_L0 n) else bif Nat.beq f 2 then some (qak_L2 n) else none
theorem qak_r0 (n : Nat) (t3 : Int) (t4 : Int) (m0 : DE) (m0_1 : DE) (m0_2 : DB) (m0_3 : Int) (m0_4 : Int) (m0_5 : Int) (m0_6 : Int) : roundK (real _) tab (qak_tbl n) (qak_loops n) qak_an [] qak_l0 0 [1, 3, 4] qak_h0 qak_o0 ((t3, t4), (m0, (m0_1, (m0_2, (m0_3, (m0_4, (m0_5, m0_6))))))) some = qak_B0 n t3 t4 m0 m0_1 m0_2 m0_3 m0_4 m0_5 m0_6 := by kernel_rfl
theorem qak_f0 (n : Nat) : LoopFact tab (qak_tbl n) (qak_loops n) qak_an [] n 0 qak_l0 (qak_L0 n) := ⟨[1, 3, 4], (fun s => qak_B0 n s.1.1 s.1.2 s.2.1 s.2.2.1 s.2.2.2.1 s.2.2.2.2.1 s.2.2.2.2.2.1 s.2.2.2.2.2.2.1 s.2.2.2.2.2.2.2), by kernel_rfl, by kernel_rfl, fun s => rfl, fun s => qak_r0 n s.1.1 s.1.2 s.2.1 s.2.2.1 s.2.2.2.1 s.2.2.2.2.1 s.2.2.2.2.2.1 s.2.2.2.2.2.2.1 s.2.2.2.2.2.2.2⟩
theorem qak_r2 (n : Nat) (t3 : Int) (t5 : Int) (m0 : DE) (m0_1 : DE) (m0_2 : DB) (m0_3 : Int) (m0_4 : Int) (m0_5 : Int) (m0_6 : Int) : roundK (real _) tab (qak_tbl n) (qak_loops n) qak_an [] qak_l2 2 [1, 3, 5] qak_h2 qak_o2 ((t3, t5), (m0, (m0_1, (m0_2, (m0_3, (m0_4, (m0_5, m0_6))))))) some = qak_B2 n t3 t5 m0 m0_1 m0_2 m0_3 m0_4 m0_5 m0_6 := by kernel_rfl
theorem qak_f2 (n : Nat) : LoopFact tab (qak_tbl n) (qak_loops n) qak_an [] n 2 qak_l2 (qak_L2 n) := ⟨[1, 3, 5], (fun s => qak_B2 n s.1.1 s.1.2 s.2.1 s.2.2.1 s.2.2.2.1 s.2.2.2.2.1 s.2.2.2.2.2.1 s.2.2.2.2.2.2.1 s.2.2.2.2.2.2.2), by kernel_rfl, by kernel_rfl, fun s => rfl, fun s => qak_r2 n s.1.1 s.1.2 s.2.1 s.2.2.1 s.2.2.2.1 s.2.2.2.2.1 s.2.2.2.2.2.1 s.2.2.2.2.2.2.1 s.2.2.2.2.2.2.2⟩
theorem qak_run (n : Nat) (t0 : DE) (t0_1 : DE) (t0_2 : DB) (t0_3 : Int) (t0_4 : Int) (t0_5 : Int) (t0_6 : Int) : funDS (real _) tab (qak_tbl n) (qak_loops n) qak_an Try.f10 0 qak_a qak_res (t0, (t0_1, (t0_2, (t0_3, (t0_4, (t0_5, t0_6)))))) some = qak n t0 t0_1 t0_2 t0_3 t0_4 t0_5 t0_6 := by kernel_rfl
def qak_E (n : Nat) : Entry := ⟨qak_a, qak_res, fun d => qak n d.1 d.2.1 d.2.2.1 d.2.2.2.1 d.2.2.2.2.1 d.2.2.2.2.2.1 d.2.2.2.2.2.2⟩
theorem qak_ok (n : Nat) : EOK Try.prog 10 (qak_E n) :=
 EOK.ofS zc zb zj (tbl := qak_tbl n) (loops := qak_loops n) (an := qak_an) (old := []) (n := n) (c := qak_c) (fn := Try.f10) TblOK.nil (by kernel_rfl) (by kernel_rfl) (by kernel_rfl) (by kernel_rfl) (fun d => by kernel_rfl) (LT.cons (by kernel_rfl) (qak_f0 n) (LT.cons (by kernel_rfl) (qak_f2 n) LT.nil)) (fun a => qak_run n a.1 a.2.1 a.2.2.1 a.2.2.2.1 a.2.2.2.2.1 a.2.2.2.2.2.1 a.2.2.2.2.2.2)
def qy_an : Ann := {}
def qy_c : Code := (match Try.f11.body with | some c => c | none => .skip)
def qy_a : StSh := ⟨.normal, [], .nil, .nil⟩
def qad_an : Ann := { live := [(0, [2, 5, 27, 28]), (2, [2, 5, 45, 46, 47]), (4, [2, 5, 61, 62, 63]), (6, [5, 77, 78, 79])], boxed := [(1, 0)] }
def qad_c : Code := (match Try.f12.body with | some c => c | none => .skip)
def qad_l0 : Code := (match assoc 0 (loopsIn qad_c 0) with | some c => c | none => .skip)
def qad_l2 : Code := (match assoc 2 (loopsIn qad_c 0) with | some c => c | none => .skip)
def qad_l4 : Code := (match assoc 4 (loopsIn qad_c 0) with | some c => c | none => .skip)
def qad_l6 : Code := (match assoc 6 (loopsIn qad_c 0) with | some c => c | none => .skip)
def qad_a : StSh := ⟨.normal, [0, 1], (.cons (.agg (.cons (.sl true true yA) (.cons (.sl true true yB) (.cons (.sl true true yC) (.cons (.int .i64) (.cons (.int .i64) (.cons (.int .i64) (.cons (.int .u64) .nil)))))))) (.cons (.int .u32) .nil)), .nil⟩
def qau_an : Ann := { live := [(0, [0, 5, 9, 10])], boxed := [(1, 0), (5, 7)] }
def qau_c : Code := (match Try.f27.body with | some c => c | none => .skip)
def qau_l0 : Code := (match assoc 0 (loopsIn qau_c 0) with | some c => c | none => .skip)
def qau_a : StSh := ⟨.normal, [0, 1], (.cons (.int .u64) (.cons (.int .i64) .nil)), .nil⟩
def qau_h0 : List StSh := [⟨.normal, [0, 5, 9, 10], (.cons (.int .u64) (.cons (.msw 0 0) (.cons (.int .i64) (.cons (.int .i64) .nil)))), (.cons (.bts 0 false false false (.int .u8)) .nil)⟩]
def qau_o0 : List StSh := [⟨.exit 0, [5], (.cons (.msw 0 0) .nil), (.cons (.bts 0 false false false (.int .u8)) .nil)⟩]
def qau_L0 (n : Nat) : LEntry := ⟨qau_h0, qau_o0, qau_W0 n⟩
def qau_res : List StSh := [⟨.ret, [0], (.cons (.sl false false (.int .u8)) .nil), .nil⟩]
def qau_tbl (n : Nat) : FuncId → List Entry := fun f => []
def qau_loops (n : Nat) : Nat → Option LEntry := fun f => bif Nat.beq f 0 then some (qau_L0 n) else none
theorem qau_r0 (n : Nat) (v_0 : Int) (t9 : Int) (t10 : Int) (m0 : DA) : roundK (real _) tab (qau_tbl n) (qau_loops n) qau_an [] qau_l0 0 [0, 5, 9, 10] qau_h0 qau_o0 ((v_0, (t9, t10)), m0) some = qau_B0 n v_0 t9 t10 m0 := by kernel_rfl
theorem qau_f0 (n : Nat) : LoopFact tab (qau_tbl n) (qau_loops n) qau_an [] n 0 qau_l0 (qau_L0 n) := ⟨[0, 5, 9, 10], (fun s => qau_B0 n s.1.1 s.1.2.1 s.1.2.2 s.2), by kernel_rfl, by kernel_rfl, fun s => rfl, fun s => qau_r0 n s.1.1 s.1.2.1 s.1.2.2 s.2⟩
theorem qau_run (n : Nat) (v_0 : Int) (n_1 : Int) : funDS (real _) tab (qau_tbl n) (qau_loops n) qau_an Try.f27 0 qau_a qau_res (v_0, n_1) some = qau n v_0 n_1 := by kernel_rfl
def qau_E (n : Nat) : Entry := ⟨qau_a, qau_res, fun d => qau n d.1 d.2⟩
theorem qau_ok (n : Nat) : EOK Try.prog 27 (qau_E n) :=
 EOK.ofS zc zb zj (tbl := qau_tbl n) (loops := qau_loops n) (an := qau_an) (old := []) (n := n) (c := qau_c) (fn := Try.f27) TblOK.nil (by kernel_rfl) (by kernel_rfl) (by kernel_rfl) (by kernel_rfl) (fun d => by kernel_rfl) (LT.cons (by kernel_rfl) (qau_f0 n) LT.nil) (fun a => qau_run n a.1 a.2)
def qk_an : Ann := {}
def qk_c : Code := (match Try.f28.body with | some c => c | none => .skip)
def qk_a : StSh := ⟨.normal, [0, 1], (.cons (.ptr 0 0 0 0) (.cons (.int .i64) .nil)), (.cons (.bcells 0 false 1 (.cons (.msw 1 0) .nil)) (.cons (.bts 0 false false false (.int .u8)) .nil))⟩
def qn_an : Ann := { boxed := [(0, 7)] }
def qn_c : Code := (match Try.f29.body with | some c => c | none => .skip)
def qn_a : StSh := ⟨.normal, [0, 1], (.cons (.ptr 0 0 0 0) (.cons (.int .u64) .nil)), (.cons (.bcells 0 false 1 (.cons (.msw 1 0) .nil)) (.cons (.bts 0 false false false (.int .u8)) .nil))⟩
def qay_an : Ann := { live := [(0, [0, 3])], boxed := [(1, 0), (4, 5)] }
def qay_c : Code := (match Try.f68.body with | some c => c | none => .skip)
def qay_l0 : Code := (match assoc 0 (loopsIn qay_c 0) with | some c => c | none => .skip)
def qay_a : StSh := ⟨.normal, [0], (.cons (.int .u64) .nil), .nil⟩
def qay_h0 : List StSh := [⟨.normal, [0, 3], (.cons (.int .u64) (.cons (.msw 0 0) .nil)), (.cons (.bts 0 false false false (.int .u8)) .nil)⟩]
def qay_o0 : List StSh := [⟨.exit 0, [0, 3], (.cons (.int .u64) (.cons (.msw 0 0) .nil)), (.cons (.bts 0 false false false (.int .u8)) .nil)⟩]
def qay_L0 (n : Nat) : LEntry := ⟨qay_h0, qay_o0, qay_W0 n⟩
def qay_res : List StSh := [⟨.ret, [0], (.cons (.sl false false (.int .u8)) .nil), .nil⟩]
def qay_tbl (n : Nat) : FuncId → List Entry := fun f => []
def qay_loops (n : Nat) : Nat → Option LEntry := fun f => bif Nat.beq f 0 then some (qay_L0 n) else none
theorem qay_r0 (n : Nat) (v_0 : Int) (m0 : DA) : roundK (real _) tab (qay_tbl n) (qay_loops n) qay_an [] qay_l0 0 [0, 3] qay_h0 qay_o0 (v_0, m0) some = qay_B0 n v_0 m0 := by kernel_rfl
theorem qay_f0 (n : Nat) : LoopFact tab (qay_tbl n) (qay_loops n) qay_an [] n 0 qay_l0 (qay_L0 n) := ⟨[0, 3], (fun s => qay_B0 n s.1 s.2), by kernel_rfl, by kernel_rfl, fun s => rfl, fun s => qay_r0 n s.1 s.2⟩
theorem qay_run (n : Nat) (v_0 : Int) : funDS (real _) tab (qay_tbl n) (qay_loops n) qay_an Try.f68 0 qay_a qay_res v_0 some = qay n v_0 := by kernel_rfl
def qay_E (n : Nat) : Entry := ⟨qay_a, qay_res, fun d => qay n d⟩
theorem qay_ok (n : Nat) : EOK Try.prog 68 (qay_E n) :=
 EOK.ofS zc zb zj (tbl := qay_tbl n) (loops := qay_loops n) (an := qay_an) (old := []) (n := n) (c := qay_c) (fn := Try.f68) TblOK.nil (by kernel_rfl) (by kernel_rfl) (by kernel_rfl) (by kernel_rfl) (fun d => by kernel_rfl) (LT.cons (by kernel_rfl) (qay_f0 n) LT.nil) (fun a => qay_run n a)
def qn_res : List StSh := [⟨.ret, [0], (.cons (.tup .nil) .nil), (.cons (.bcells 0 false 1 (.cons (.msw 1 0) .nil)) (.cons (.bts 0 false false false (.int .u8)) .nil))⟩]
def qn_tbl (n : Nat) : FuncId → List Entry := fun f => bif Nat.beq f 68 then [qay_E n] else []
def qn_loops (n : Nat) : Nat → Option LEntry := fun f => none
theorem qn_run (n : Nat) (v_1 : Int) (m1 : DA) : funDS (real _) tab (qn_tbl n) (qn_loops n) qn_an Try.f29 2 qn_a qn_res (v_1, m1) some = qn n v_1 m1 := by kernel_rfl
def qn_E (n : Nat) : Entry := ⟨qn_a, qn_res, fun d => qn n d.1 d.2⟩
theorem qn_ok (n : Nat) : EOK Try.prog 29 (qn_E n) :=
 EOK.ofS zc zb zj (tbl := qn_tbl n) (loops := qn_loops n) (an := qn_an) (old := [some true, some false]) (n := n) (c := qn_c) (fn := Try.f29) (TblOK.cons (AllE.cons (qay_ok n) AllE.nil) TblOK.nil) (by kernel_rfl) (by kernel_rfl) (by kernel_rfl) (by kernel_rfl) (fun d => by kernel_rfl) LT.nil (fun a => qn_run n a.1 a.2)
def qk_res : List StSh := [⟨.ret, [0], (.cons (.tup .nil) .nil), (.cons (.bcells 0 false 1 (.cons (.msw 1 0) .nil)) (.cons (.bts 0 false false false (.int .u8)) .nil))⟩]
def qk_tbl (n : Nat) : FuncId → List Entry := fun f => bif Nat.beq f 29 then [qn_E n] else []
def qk_loops (n : Nat) : Nat → Option LEntry := fun f => none
theorem qk_run (n : Nat) (n_1 : Int) (m1 : DA) : funDS (real _) tab (qk_tbl n) (qk_loops n) qk_an Try.f28 2 qk_a qk_res (n_1, m1) some = qk n n_1 m1 := by kernel_rfl
def qk_E (n : Nat) : Entry := ⟨qk_a, qk_res, fun d => qk n d.1 d.2⟩
theorem qk_ok (n : Nat) : EOK Try.prog 28 (qk_E n) :=
 EOK.ofS zc zb zj (tbl := qk_tbl n) (loops := qk_loops n) (an := qk_an) (old := [some true, some false]) (n := n) (c := qk_c) (fn := Try.f28) (TblOK.cons (AllE.cons (qn_ok n) AllE.nil) TblOK.nil) (by kernel_rfl) (by kernel_rfl) (by kernel_rfl) (by kernel_rfl) (fun d => by kernel_rfl) LT.nil (fun a => qk_run n a.1 a.2)
def qad_h0 : List StSh := [⟨.normal, [2, 5, 27, 28], (.cons (.ptr 0 0 0 0) (.cons (.ptr 1 0 0 0) (.cons (.agg (.cons (.int .i64) (.cons (.int .i64) (.cons (.int .i64) .nil)))) (.cons (.int .i64) .nil)))), (.cons (.bcells 0 false 1 (.cons (.sl true true yA) (.cons (.sl true true yB) (.cons (.sl true true yC) (.cons (.int .i64) (.cons (.int .i64) (.cons (.int .i64) (.cons (.int .u64) .nil)))))))) (.cons (.bcells 0 false 1 (.cons (.msw 2 0) .nil)) (.cons (.bts 0 false false false (.int .u8)) .nil)))⟩]
def qad_o0 : List StSh := [⟨.exit 0, [2, 5], (.cons (.ptr 0 0 0 0) (.cons (.ptr 1 0 0 0) .nil)), (.cons (.bcells 0 false 1 (.cons (.sl true true yA) (.cons (.sl true true yB) (.cons (.sl true true yC) (.cons (.int .i64) (.cons (.int .i64) (.cons (.int .i64) (.cons (.int .u64) .nil)))))))) (.cons (.bcells 0 false 1 (.cons (.msw 2 0) .nil)) (.cons (.bts 0 false false false (.int .u8)) .nil)))⟩]
def qad_L0 (n : Nat) : LEntry := ⟨qad_h0, qad_o0, qad_W0 n⟩
def qd_an : Ann := {}
def qd_c : Code := (match Try.f30.body with | some c => c | none => .skip)
def qd_a : StSh := ⟨.normal, [0, 1], (.cons (.ptr 0 0 0 0) (.cons (.agg (.cons (.int .i64) (.cons (.int .i64) (.cons (.sl true false (.int .u64)) (.cons (.sl true false (.int .u64)) .nil))))) .nil)), (.cons (.bcells 0 false 1 (.cons (.msw 1 0) .nil)) (.cons (.bts 0 false false false (.int .u8)) .nil))⟩
def ql_an : Ann := { live := [(0, [0, 10, 11, 12])] }
def ql_c : Code := (match Try.f69.body with | some c => c | none => .skip)
def ql_l0 : Code := (match assoc 0 (loopsIn ql_c 0) with | some c => c | none => .skip)
def ql_a : StSh := ⟨.normal, [0, 1], (.cons (.ptr 0 0 0 0) (.cons (.sl true false (.int .u64)) .nil)), (.cons (.bcells 0 false 1 (.cons (.msw 1 0) .nil)) (.cons (.bts 0 false false false (.int .u8)) .nil))⟩
def ql_h0 : List StSh := [⟨.normal, [0, 10, 11, 12], (.cons (.ptr 0 0 0 0) (.cons (.sl true false (.int .u64)) (.cons (.int .i64) (.cons (.int .i64) .nil)))), (.cons (.bcells 0 false 1 (.cons (.msw 1 0) .nil)) (.cons (.bts 0 false false false (.int .u8)) .nil))⟩]
def ql_o0 : List StSh := [⟨.exit 0, [], .nil, (.cons (.bcells 0 false 1 (.cons (.msw 1 0) .nil)) (.cons (.bts 0 false false false (.int .u8)) .nil))⟩]
def ql_L0 (n : Nat) : LEntry := ⟨ql_h0, ql_o0, ql_W0 n⟩
def ql_res : List StSh := [⟨.ret, [0], (.cons (.tup .nil) .nil), (.cons (.bcells 0 false 1 (.cons (.msw 1 0) .nil)) (.cons (.bts 0 false false false (.int .u8)) .nil))⟩]
def ql_tbl (n : Nat) : FuncId → List Entry := fun f => bif Nat.beq f 28 then [qk_E n] else bif Nat.beq f 29 then [qn_E n] else []
def ql_loops (n : Nat) : Nat → Option LEntry := fun f => bif Nat.beq f 0 then some (ql_L0 n) else none
theorem ql_r0 (n : Nat) (t10 : DA) (t11 : Int) (t12 : Int) (m1 : DA) : roundK (real _) tab (ql_tbl n) (ql_loops n) ql_an [some true, some false] ql_l0 0 [0, 10, 11, 12] ql_h0 ql_o0 ((t10, (t11, t12)), m1) some = ql_B0 n t10 t11 t12 m1 := by kernel_rfl
theorem ql_f0 (n : Nat) : LoopFact tab (ql_tbl n) (ql_loops n) ql_an [some true, some false] n 0 ql_l0 (ql_L0 n) := ⟨[0, 10, 11, 12], (fun s => ql_B0 n s.1.1 s.1.2.1 s.1.2.2 s.2), by kernel_rfl, by kernel_rfl, fun s => rfl, fun s => ql_r0 n s.1.1 s.1.2.1 s.1.2.2 s.2⟩
theorem ql_run (n : Nat) (list_1 : DA) (m1 : DA) : funDS (real _) tab (ql_tbl n) (ql_loops n) ql_an Try.f69 2 ql_a ql_res (list_1, m1) some = ql n list_1 m1 := by kernel_rfl
def ql_E (n : Nat) : Entry := ⟨ql_a, ql_res, fun d => ql n d.1 d.2⟩
theorem ql_ok (n : Nat) : EOK Try.prog 69 (ql_E n) :=
 EOK.ofS zc zb zj (tbl := ql_tbl n) (loops := ql_loops n) (an := ql_an) (old := [some true, some false]) (n := n) (c := ql_c) (fn := Try.f69) (TblOK.cons (AllE.cons (qk_ok n) AllE.nil) (TblOK.cons (AllE.cons (qn_ok n) AllE.nil) TblOK.nil)) (by kernel_rfl) (by kernel_rfl) (by kernel_rfl) (by kernel_rfl) (fun d => by kernel_rfl) (LT.cons (by kernel_rfl) (ql_f0 n) LT.nil) (fun a => ql_run n a.1 a.2)
def qd_res : List StSh := [⟨.ret, [0], (.cons (.tup .nil) .nil), (.cons (.bcells 0 false 1 (.cons (.msw 1 0) .nil)) (.cons (.bts 0 false false false (.int .u8)) .nil))⟩]
def qd_tbl (n : Nat) : FuncId → List Entry := fun f => bif Nat.beq f 28 then [qk_E n] else bif Nat.beq f 69 then [ql_E n] else []
def qd_loops (n : Nat) : Nat → Option LEntry := fun f => none
theorem qd_run (n : Nat) (f_1 : Int) (f_1_1 : Int) (f_1_2 : DA) (f_1_3 : DA) (m1 : DA) : funDS (real _) tab (qd_tbl n) (qd_loops n) qd_an Try.f30 2 qd_a qd_res ((f_1, (f_1_1, (f_1_2, f_1_3))), m1) some = qd n f_1 f_1_1 f_1_2 f_1_3 m1 := by kernel_rfl
def qd_E (n : Nat) : Entry := ⟨qd_a, qd_res, fun d => qd n d.1.1 d.1.2.1 d.1.2.2.1 d.1.2.2.2 d.2⟩
theorem qd_ok (n : Nat) : EOK Try.prog 30 (qd_E n) :=
 EOK.ofS zc zb zj (tbl := qd_tbl n) (loops := qd_loops n) (an := qd_an) (old := [some true, some false]) (n := n) (c := qd_c) (fn := Try.f30) (TblOK.cons (AllE.cons (qk_ok n) AllE.nil) (TblOK.cons (AllE.cons (ql_ok n) AllE.nil) TblOK.nil)) (by kernel_rfl) (by kernel_rfl) (by kernel_rfl) (by kernel_rfl) (fun d => by kernel_rfl) LT.nil (fun a => qd_run n a.1.1 a.1.2.1 a.1.2.2.1 a.1.2.2.2 a.2)
def qad_h2 : List StSh := [⟨.normal, [2, 5, 45, 46, 47], (.cons (.ptr 0 0 0 0) (.cons (.ptr 1 0 0 0) (.cons (.sl true true yA) (.cons (.int .i64) (.cons (.int .i64) .nil))))), (.cons (.bcells 0 false 1 (.cons (.sl true true yA) (.cons (.sl true true yB) (.cons (.sl true true yC) (.cons (.int .i64) (.cons (.int .i64) (.cons (.int .i64) (.cons (.int .u64) .nil)))))))) (.cons (.bcells 0 false 1 (.cons (.msw 2 0) .nil)) (.cons (.bts 0 false false false (.int .u8)) .nil)))⟩]
def qad_o2 : List StSh := [⟨.exit 2, [2, 5], (.cons (.ptr 0 0 0 0) (.cons (.ptr 1 0 0 0) .nil)), (.cons (.bcells 0 false 1 (.cons (.sl true true yA) (.cons (.sl true true yB) (.cons (.sl true true yC) (.cons (.int .i64) (.cons (.int .i64) (.cons (.int .i64) (.cons (.int .u64) .nil)))))))) (.cons (.bcells 0 false 1 (.cons (.msw 2 0) .nil)) (.cons (.bts 0 false false false (.int .u8)) .nil)))⟩]
def qad_L2 (n : Nat) : LEntry := ⟨qad_h2, qad_o2, qad_W2 n⟩
def qp_an : Ann := { boxed := [(5, 7)] }
def qp_c : Code := (match Try.f31.body with | some c => c | none => .skip)
def qp_a : StSh := ⟨.normal, [0, 1], (.cons (.ptr 0 0 0 0) (.cons (.agg (.cons (.int .i64) (.cons (.int .i64) (.cons (.sl true false (.int .u64)) (.cons (.sl true false (.int .u8)) .nil))))) .nil)), (.cons (.bcells 0 false 1 (.cons (.msw 1 0) .nil)) (.cons (.bts 0 false false false (.int .u8)) .nil))⟩
def qp_res : List StSh := [⟨.ret, [0], (.cons (.tup .nil) .nil), (.cons (.bcells 0 false 1 (.cons (.msw 1 0) .nil)) (.cons (.bts 0 false false false (.int .u8)) .nil))⟩]
def qp_tbl (n : Nat) : FuncId → List Entry := fun f => bif Nat.beq f 28 then [qk_E n] else bif Nat.beq f 69 then [ql_E n] else []
def qp_loops (n : Nat) : Nat → Option LEntry := fun f => none
theorem qp_run (n : Nat) (o_1 : Int) (o_1_1 : Int) (o_1_2 : DA) (o_1_3 : DA) (m1 : DA) : funDS (real _) tab (qp_tbl n) (qp_loops n) qp_an Try.f31 2 qp_a qp_res ((o_1, (o_1_1, (o_1_2, o_1_3))), m1) some = qp n o_1 o_1_1 o_1_2 o_1_3 m1 := by kernel_rfl
def qp_E (n : Nat) : Entry := ⟨qp_a, qp_res, fun d => qp n d.1.1 d.1.2.1 d.1.2.2.1 d.1.2.2.2 d.2⟩
theorem qp_ok (n : Nat) : EOK Try.prog 31 (qp_E n) :=
 EOK.ofS zc zb zj (tbl := qp_tbl n) (loops := qp_loops n) (an := qp_an) (old := [some true, some false]) (n := n) (c := qp_c) (fn := Try.f31) (TblOK.cons (AllE.cons (qk_ok n) AllE.nil) (TblOK.cons (AllE.cons (ql_ok n) AllE.nil) TblOK.nil)) (by kernel_rfl) (by kernel_rfl) (by kernel_rfl) (by kernel_rfl) (fun d => by kernel_rfl) LT.nil (fun a => qp_run n a.1.1 a.1.2.1 a.1.2.2.1 a.1.2.2.2 a.2)
def qad_h4 : List StSh := [⟨.normal, [2, 5, 61, 62, 63], (.cons (.ptr 0 0 0 0) (.cons (.ptr 1 0 0 0) (.cons (.sl true true yB) (.cons (.int .i64) (.cons (.int .i64) .nil))))), (.cons (.bcells 0 false 1 (.cons (.sl true true yA) (.cons (.sl true true yB) (.cons (.sl true true yC) (.cons (.int .i64) (.cons (.int .i64) (.cons (.int .i64) (.cons (.int .u64) .nil)))))))) (.cons (.bcells 0 false 1 (.cons (.msw 2 0) .nil)) (.cons (.bts 0 false false false (.int .u8)) .nil)))⟩]
def qad_o4 : List StSh := [⟨.exit 4, [2, 5], (.cons (.ptr 0 0 0 0) (.cons (.ptr 1 0 0 0) .nil)), (.cons (.bcells 0 false 1 (.cons (.sl true true yA) (.cons (.sl true true yB) (.cons (.sl true true yC) (.cons (.int .i64) (.cons (.int .i64) (.cons (.int .i64) (.cons (.int .u64) .nil)))))))) (.cons (.bcells 0 false 1 (.cons (.msw 2 0) .nil)) (.cons (.bts 0 false false false (.int .u8)) .nil)))⟩]
def qad_L4 (n : Nat) : LEntry := ⟨qad_h4, qad_o4, qad_W4 n⟩
def qt_an : Ann := {}
def qt_c : Code := (match Try.f32.body with | some c => c | none => .skip)
def qt_a : StSh := ⟨.normal, [0, 1], (.cons (.ptr 0 0 0 0) (.cons (.agg (.cons (.int .i64) (.cons (.int .u64) (.cons .bool .nil)))) .nil)), (.cons (.bcells 0 false 1 (.cons (.msw 1 0) .nil)) (.cons (.bts 0 false false false (.int .u8)) .nil))⟩
def qt_res : List StSh := [⟨.ret, [0], (.cons (.tup .nil) .nil), (.cons (.bcells 0 false 1 (.cons (.msw 1 0) .nil)) (.cons (.bts 0 false false false (.int .u8)) .nil))⟩]
def qt_tbl (n : Nat) : FuncId → List Entry := fun f => bif Nat.beq f 28 then [qk_E n] else bif Nat.beq f 29 then [qn_E n] else []
def qt_loops (n : Nat) : Nat → Option LEntry := fun f => none
theorem qt_run (n : Nat) (h_1 : Int) (h_1_1 : Int) (h_1_2 : Bool) (m1 : DA) : funDS (real _) tab (qt_tbl n) (qt_loops n) qt_an Try.f32 2 qt_a qt_res ((h_1, (h_1_1, h_1_2)), m1) some = qt n h_1 h_1_1 h_1_2 m1 := by kernel_rfl
def qt_E (n : Nat) : Entry := ⟨qt_a, qt_res, fun d => qt n d.1.1 d.1.2.1 d.1.2.2 d.2⟩
theorem qt_ok (n : Nat) : EOK Try.prog 32 (qt_E n) :=
 EOK.ofS zc zb zj (tbl := qt_tbl n) (loops := qt_loops n) (an := qt_an) (old := [some true, some false]) (n := n) (c := qt_c) (fn := Try.f32) (TblOK.cons (AllE.cons (qk_ok n) AllE.nil) (TblOK.cons (AllE.cons (qn_ok n) AllE.nil) TblOK.nil)) (by kernel_rfl) (by kernel_rfl) (by kernel_rfl) (by kernel_rfl) (fun d => by kernel_rfl) LT.nil (fun a => qt_run n a.1.1 a.1.2.1 a.1.2.2 a.2)
def qad_h6 : List StSh := [⟨.normal, [5, 77, 78, 79], (.cons (.ptr 0 0 0 0) (.cons (.sl true true yC) (.cons (.int .i64) (.cons (.int .i64) .nil)))), (.cons (.bcells 0 false 1 (.cons (.msw 1 0) .nil)) (.cons (.bts 0 false false false (.int .u8)) .nil))⟩]
def qad_o6 : List StSh := [⟨.exit 6, [5], (.cons (.ptr 0 0 0 0) .nil), (.cons (.bcells 0 false 1 (.cons (.msw 1 0) .nil)) (.cons (.bts 0 false false false (.int .u8)) .nil))⟩]
def qad_L6 (n : Nat) : LEntry := ⟨qad_h6, qad_o6, qad_W6 n⟩
def qaw_an : Ann := { boxed := [(1, 1)] }
def qaw_c : Code := (match Try.f33.body with | some c => c | none => .skip)
def qaw_a : StSh := ⟨.normal, [0], (.cons (.sl true false (.int .u8)) .nil), .nil⟩
def qaz_an : Ann := { live := [(0, [3, 7, 8, 9]), (2, [3, 7, 8, 9, 17])] }
def qaz_c : Code := (match Try.f70.body with | some c => c | none => .skip)
def qaz_l0 : Code := (match assoc 0 (loopsIn qaz_c 0) with | some c => c | none => .skip)
def qaz_l2 : Code := (match assoc 2 (loopsIn qaz_c 0) with | some c => c | none => .skip)
def qaz_a : StSh := ⟨.normal, [0], (.cons (.sl true false (.int .u8)) .nil), .nil⟩
def qaz_h2 : List StSh := [⟨.normal, [3, 7, 8, 9, 17], (.cons (.int .u32) (.cons (.sl true false (.int .u8)) (.cons (.int .i64) (.cons (.int .i64) (.cons (.int .i64) .nil))))), .nil⟩]
def qaz_o2 : List StSh := [⟨.exit 2, [3, 7, 8, 9], (.cons (.int .u32) (.cons (.sl true false (.int .u8)) (.cons (.int .i64) (.cons (.int .i64) .nil)))), .nil⟩]
def qaz_L2 (n : Nat) : LEntry := ⟨qaz_h2, qaz_o2, qaz_W2 n⟩
def qaz_h0 : List StSh := [⟨.normal, [3, 7, 8, 9], (.cons (.int .u32) (.cons (.sl true false (.int .u8)) (.cons (.int .i64) (.cons (.int .i64) .nil)))), .nil⟩]
def qaz_o0 : List StSh := [⟨.exit 0, [3], (.cons (.int .u32) .nil), .nil⟩]
def qaz_L0 (n : Nat) : LEntry := ⟨qaz_h0, qaz_o0, qaz_W0 n⟩
def qaz_res : List StSh := [⟨.ret, [0], (.cons (.int .u32) .nil), .nil⟩]
def qaz_tbl (n : Nat) : FuncId → List Entry := fun f => []
def qaz_loops (n : Nat) : Nat → Option LEntry := fun f => bif Nat.beq f 2 then some (qaz_L2 n) else bif Nat.beq f 0 then some (qaz_L0 n) else none
theorem qaz_r2 (n : Nat) (n_3 : Int) (t7 : DA) (t8 : Int) (t9 : Int) (t17 : Int) : roundK (real _) tab (qaz_tbl n) (qaz_loops n) qaz_an [] qaz_l2 2 [3, 7, 8, 9, 17] qaz_h2 qaz_o2 (n_3, (t7, (t8, (t9, t17)))) some = qaz_B2 n n_3 t7 t8 t9 t17 := by kernel_rfl
theorem qaz_f2 (n : Nat) : LoopFact tab (qaz_tbl n) (qaz_loops n) qaz_an [] n 2 qaz_l2 (qaz_L2 n) := ⟨[3, 7, 8, 9, 17], (fun s => qaz_B2 n s.1 s.2.1 s.2.2.1 s.2.2.2.1 s.2.2.2.2), by kernel_rfl, by kernel_rfl, fun s => rfl, fun s => qaz_r2 n s.1 s.2.1 s.2.2.1 s.2.2.2.1 s.2.2.2.2⟩
theorem qaz_r0 (n : Nat) (n_3 : Int) (t7 : DA) (t8 : Int) (t9 : Int) : roundK (real _) tab (qaz_tbl n) (qaz_loops n) qaz_an [] qaz_l0 0 [3, 7, 8, 9] qaz_h0 qaz_o0 (n_3, (t7, (t8, t9))) some = qaz_B0 n n_3 t7 t8 t9 := by kernel_rfl
theorem qaz_f0 (n : Nat) : LoopFact tab (qaz_tbl n) (qaz_loops n) qaz_an [] n 0 qaz_l0 (qaz_L0 n) := ⟨[3, 7, 8, 9], (fun s => qaz_B0 n s.1 s.2.1 s.2.2.1 s.2.2.2), by kernel_rfl, by kernel_rfl, fun s => rfl, fun s => qaz_r0 n s.1 s.2.1 s.2.2.1 s.2.2.2⟩
theorem qaz_run (n : Nat) (b_0 : DA) : funDS (real _) tab (qaz_tbl n) (qaz_loops n) qaz_an Try.f70 0 qaz_a qaz_res b_0 some = qaz n b_0 := by kernel_rfl
def qaz_E (n : Nat) : Entry := ⟨qaz_a, qaz_res, fun d => qaz n d⟩
theorem qaz_ok (n : Nat) : EOK Try.prog 70 (qaz_E n) :=
 EOK.ofS zc zb zj (tbl := qaz_tbl n) (loops := qaz_loops n) (an := qaz_an) (old := []) (n := n) (c := qaz_c) (fn := Try.f70) TblOK.nil (by kernel_rfl) (by kernel_rfl) (by kernel_rfl) (by kernel_rfl) (fun d => by kernel_rfl) (LT.cons (by kernel_rfl) (qaz_f2 n) (LT.cons (by kernel_rfl) (qaz_f0 n) LT.nil)) (fun a => qaz_run n a)
def qaw_res : List StSh := [⟨.ret, [0], (.cons (.sl false false (.int .u8)) .nil), .nil⟩]
def qaw_tbl (n : Nat) : FuncId → List Entry := fun f => bif Nat.beq f 70 then [qaz_E n] else bif Nat.beq f 27 then [qau_E n] else []
def qaw_loops (n : Nat) : Nat → Option LEntry := fun f => none
theorem qaw_run (n : Nat) (b_0 : DA) : funDS (real _) tab (qaw_tbl n) (qaw_loops n) qaw_an Try.f33 0 qaw_a qaw_res b_0 some = qaw n b_0 := by kernel_rfl
def qaw_E (n : Nat) : Entry := ⟨qaw_a, qaw_res, fun d => qaw n d⟩
theorem qaw_ok (n : Nat) : EOK Try.prog 33 (qaw_E n) :=
 EOK.ofS zc zb zj (tbl := qaw_tbl n) (loops := qaw_loops n) (an := qaw_an) (old := []) (n := n) (c := qaw_c) (fn := Try.f33) (TblOK.cons (AllE.cons (qaz_ok n) AllE.nil) (TblOK.cons (AllE.cons (qau_ok n) AllE.nil) TblOK.nil)) (by kernel_rfl) (by kernel_rfl) (by kernel_rfl) (by kernel_rfl) (fun d => by kernel_rfl) LT.nil (fun a => qaw_run n a)
def qad_res : List StSh := [⟨.ret, [0], (.cons (.sl false false (.int .u8)) .nil), .nil⟩]
def qad_tbl (n : Nat) : FuncId → List Entry := fun f => bif Nat.beq f 27 then [qau_E n] else bif Nat.beq f 28 then [qk_E n] else bif Nat.beq f 29 then [qn_E n] else bif Nat.beq f 30 then [qd_E n] else bif Nat.beq f 31 then [qp_E n] else bif Nat.beq f 32 then [qt_E n] else bif Nat.beq f 33 then [qaw_E n] else []
def qad_loops (n : Nat) : Nat → Option LEntry := fun f => bif Nat.beq f 0 then some (qad_L0 n) else bif Nat.beq f 2 then some (qad_L2 n) else bif Nat.beq f 4 then some (qad_L4 n) else bif Nat.beq f 6 then some (qad_L6 n) else none
theorem qad_r0 (n : Nat) (t27 : Int) (t27_1 : Int) (t27_2 : Int) (t28 : Int) (m0 : DE) (m0_1 : DE) (m0_2 : DB) (m0_3 : Int) (m0_4 : Int) (m0_5 : Int) (m0_6 : Int) (m2 : DA) : roundK (real _) tab (qad_tbl n) (qad_loops n) qad_an [] qad_l0 0 [2, 5, 27, 28] qad_h0 qad_o0 (((t27, (t27_1, t27_2)), t28), ((m0, (m0_1, (m0_2, (m0_3, (m0_4, (m0_5, m0_6)))))), m2)) some = qad_B0 n t27 t27_1 t27_2 t28 m0 m0_1 m0_2 m0_3 m0_4 m0_5 m0_6 m2 := by kernel_rfl
theorem qad_f0 (n : Nat) : LoopFact tab (qad_tbl n) (qad_loops n) qad_an [] n 0 qad_l0 (qad_L0 n) := ⟨[2, 5, 27, 28], (fun s => qad_B0 n s.1.1.1 s.1.1.2.1 s.1.1.2.2 s.1.2 s.2.1.1 s.2.1.2.1 s.2.1.2.2.1 s.2.1.2.2.2.1 s.2.1.2.2.2.2.1 s.2.1.2.2.2.2.2.1 s.2.1.2.2.2.2.2.2 s.2.2), by kernel_rfl, by kernel_rfl, fun s => rfl, fun s => qad_r0 n s.1.1.1 s.1.1.2.1 s.1.1.2.2 s.1.2 s.2.1.1 s.2.1.2.1 s.2.1.2.2.1 s.2.1.2.2.2.1 s.2.1.2.2.2.2.1 s.2.1.2.2.2.2.2.1 s.2.1.2.2.2.2.2.2 s.2.2⟩
theorem qad_r2 (n : Nat) (t45 : DE) (t46 : Int) (t47 : Int) (m0 : DE) (m0_1 : DE) (m0_2 : DB) (m0_3 : Int) (m0_4 : Int) (m0_5 : Int) (m0_6 : Int) (m2 : DA) : roundK (real _) tab (qad_tbl n) (qad_loops n) qad_an [] qad_l2 2 [2, 5, 45, 46, 47] qad_h2 qad_o2 ((t45, (t46, t47)), ((m0, (m0_1, (m0_2, (m0_3, (m0_4, (m0_5, m0_6)))))), m2)) some = qad_B2 n t45 t46 t47 m0 m0_1 m0_2 m0_3 m0_4 m0_5 m0_6 m2 := by kernel_rfl
theorem qad_f2 (n : Nat) : LoopFact tab (qad_tbl n) (qad_loops n) qad_an [] n 2 qad_l2 (qad_L2 n) := ⟨[2, 5, 45, 46, 47], (fun s => qad_B2 n s.1.1 s.1.2.1 s.1.2.2 s.2.1.1 s.2.1.2.1 s.2.1.2.2.1 s.2.1.2.2.2.1 s.2.1.2.2.2.2.1 s.2.1.2.2.2.2.2.1 s.2.1.2.2.2.2.2.2 s.2.2), by kernel_rfl, by kernel_rfl, fun s => rfl, fun s => qad_r2 n s.1.1 s.1.2.1 s.1.2.2 s.2.1.1 s.2.1.2.1 s.2.1.2.2.1 s.2.1.2.2.2.1 s.2.1.2.2.2.2.1 s.2.1.2.2.2.2.2.1 s.2.1.2.2.2.2.2.2 s.2.2⟩
theorem qad_r4 (n : Nat) (t61 : DE) (t62 : Int) (t63 : Int) (m0 : DE) (m0_1 : DE) (m0_2 : DB) (m0_3 : Int) (m0_4 : Int) (m0_5 : Int) (m0_6 : Int) (m2 : DA) : roundK (real _) tab (qad_tbl n) (qad_loops n) qad_an [] qad_l4 4 [2, 5, 61, 62, 63] qad_h4 qad_o4 ((t61, (t62, t63)), ((m0, (m0_1, (m0_2, (m0_3, (m0_4, (m0_5, m0_6)))))), m2)) some = qad_B4 n t61 t62 t63 m0 m0_1 m0_2 m0_3 m0_4 m0_5 m0_6 m2 := by kernel_rfl
theorem qad_f4 (n : Nat) : LoopFact tab (qad_tbl n) (qad_loops n) qad_an [] n 4 qad_l4 (qad_L4 n) := ⟨[2, 5, 61, 62, 63], (fun s => qad_B4 n s.1.1 s.1.2.1 s.1.2.2 s.2.1.1 s.2.1.2.1 s.2.1.2.2.1 s.2.1.2.2.2.1 s.2.1.2.2.2.2.1 s.2.1.2.2.2.2.2.1 s.2.1.2.2.2.2.2.2 s.2.2), by kernel_rfl, by kernel_rfl, fun s => rfl, fun s => qad_r4 n s.1.1 s.1.2.1 s.1.2.2 s.2.1.1 s.2.1.2.1 s.2.1.2.2.1 s.2.1.2.2.2.1 s.2.1.2.2.2.2.1 s.2.1.2.2.2.2.2.1 s.2.1.2.2.2.2.2.2 s.2.2⟩
theorem qad_r6 (n : Nat) (t77 : DB) (t78 : Int) (t79 : Int) (m1 : DA) : roundK (real _) tab (qad_tbl n) (qad_loops n) qad_an [] qad_l6 6 [5, 77, 78, 79] qad_h6 qad_o6 ((t77, (t78, t79)), m1) some = qad_B6 n t77 t78 t79 m1 := by kernel_rfl
theorem qad_f6 (n : Nat) : LoopFact tab (qad_tbl n) (qad_loops n) qad_an [] n 6 qad_l6 (qad_L6 n) := ⟨[5, 77, 78, 79], (fun s => qad_B6 n s.1.1 s.1.2.1 s.1.2.2 s.2), by kernel_rfl, by kernel_rfl, fun s => rfl, fun s => qad_r6 n s.1.1 s.1.2.1 s.1.2.2 s.2⟩
theorem qad_run (n : Nat) (t0 : DE) (t0_1 : DE) (t0_2 : DB) (t0_3 : Int) (t0_4 : Int) (t0_5 : Int) (t0_6 : Int) (t1 : Int) : funDS (real _) tab (qad_tbl n) (qad_loops n) qad_an Try.f12 0 qad_a qad_res ((t0, (t0_1, (t0_2, (t0_3, (t0_4, (t0_5, t0_6)))))), t1) some = qad n t0 t0_1 t0_2 t0_3 t0_4 t0_5 t0_6 t1 := by kernel_rfl
def qad_E (n : Nat) : Entry := ⟨qad_a, qad_res, fun d => qad n d.1.1 d.1.2.1 d.1.2.2.1 d.1.2.2.2.1 d.1.2.2.2.2.1 d.1.2.2.2.2.2.1 d.1.2.2.2.2.2.2 d.2⟩
theorem qad_ok (n : Nat) : EOK Try.prog 12 (qad_E n) :=
 EOK.ofS zc zb zj (tbl := qad_tbl n) (loops := qad_loops n) (an := qad_an) (old := []) (n := n) (c := qad_c) (fn := Try.f12) (TblOK.cons (AllE.cons (qau_ok n) AllE.nil) (TblOK.cons (AllE.cons (qk_ok n) AllE.nil) (TblOK.cons (AllE.cons (qn_ok n) AllE.nil) (TblOK.cons (AllE.cons (qd_ok n) AllE.nil) (TblOK.cons (AllE.cons (qp_ok n) AllE.nil) (TblOK.cons (AllE.cons (qt_ok n) AllE.nil) (TblOK.cons (AllE.cons (qaw_ok n) AllE.nil) TblOK.nil))))))) (by kernel_rfl) (by kernel_rfl) (by kernel_rfl) (by kernel_rfl) (fun d => by kernel_rfl) (LT.cons (by kernel_rfl) (qad_f0 n) (LT.cons (by kernel_rfl) (qad_f2 n) (LT.cons (by kernel_rfl) (qad_f4 n) (LT.cons (by kernel_rfl) (qad_f6 n) LT.nil)))) (fun a => qad_run n a.1.1 a.1.2.1 a.1.2.2.1 a.1.2.2.2.1 a.1.2.2.2.2.1 a.1.2.2.2.2.2.1 a.1.2.2.2.2.2.2 a.2)
def qag_an : Ann := {}
def qag_c : Code := (match Try.f15.body with | some c => c | none => .skip)
def qag_a : StSh := ⟨.normal, [0], (.cons (.sl true false (.int .u8)) .nil), .nil⟩
def qae_an : Ann := {}
def qae_c : Code := (match Try.f38.body with | some c => c | none => .skip)
def qae_a : StSh := ⟨.normal, [0, 1], (.cons (.sl true false (.int .u8)) (.cons (.int .u8) .nil)), .nil⟩
def qax_an : Ann := {}
def qax_c : Code := (match Try.f72.body with | some c => c | none => .skip)
def qax_a : StSh := ⟨.normal, [0], (.cons (.sl true false (.int .u8)) .nil), .nil⟩
def qax_res : List StSh := [⟨.ret, [0], (.cons (.tup (.cons (.sl false false (.int .u8)) (.cons (.int .i64) .nil))) .nil), .nil⟩]
def qax_tbl (n : Nat) : FuncId → List Entry := fun f => bif Nat.beq f 33 then [qaw_E n] else []
def qax_loops (n : Nat) : Nat → Option LEntry := fun f => none
theorem qax_run (n : Nat) (b_0 : DA) : funDS (real _) tab (qax_tbl n) (qax_loops n) qax_an Try.f72 0 qax_a qax_res b_0 some = qax n b_0 := by kernel_rfl
def qax_E (n : Nat) : Entry := ⟨qax_a, qax_res, fun d => qax n d⟩
theorem qax_ok (n : Nat) : EOK Try.prog 72 (qax_E n) :=
 EOK.ofS zc zb zj (tbl := qax_tbl n) (loops := qax_loops n) (an := qax_an) (old := []) (n := n) (c := qax_c) (fn := Try.f72) (TblOK.cons (AllE.cons (qaw_ok n) AllE.nil) TblOK.nil) (by kernel_rfl) (by kernel_rfl) (by kernel_rfl) (by kernel_rfl) (fun d => by kernel_rfl) LT.nil (fun a => qax_run n a)
def qx_an : Ann := {}
def qx_c : Code := (match Try.f73.body with | some c => c | none => .skip)
def qx_a : StSh := ⟨.normal, [0], (.cons (.sl true false (.int .u8)) .nil), .nil⟩
def qx_res : List StSh := [⟨.ret, [0], (.cons (.ptr 0 0 0 0) .nil), (.cons (.bcells 0 false 1 (.cons (.sl false false (.int .u8)) (.cons .bool .nil))) .nil)⟩]
def qx_tbl (n : Nat) : FuncId → List Entry := fun f => []
def qx_loops (n : Nat) : Nat → Option LEntry := fun f => none
theorem qx_run (n : Nat) (b_0 : DA) : funDS (real _) tab (qx_tbl n) (qx_loops n) qx_an Try.f73 0 qx_a qx_res b_0 some = qx n b_0 := by kernel_rfl
def qx_E (n : Nat) : Entry := ⟨qx_a, qx_res, fun d => qx n d⟩
theorem qx_ok (n : Nat) : EOK Try.prog 73 (qx_E n) :=
 EOK.ofS zc zb zj (tbl := qx_tbl n) (loops := qx_loops n) (an := qx_an) (old := []) (n := n) (c := qx_c) (fn := Try.f73) TblOK.nil (by kernel_rfl) (by kernel_rfl) (by kernel_rfl) (by kernel_rfl) (fun d => by kernel_rfl) LT.nil (fun a => qx_run n a)
def qm_an : Ann := {}
def qm_c : Code := (match Try.f74.body with | some c => c | none => .skip)
def qm_a : StSh := ⟨.normal, [0, 1], (.cons (.ptr 0 0 0 0) (.cons (.int .i64) .nil)), (.cons (.bcells 0 false 1 (.cons (.sl false false (.int .u8)) (.cons .bool .nil))) .nil)⟩
def qv_an : Ann := {}
def qv_c : Code := (match Try.f75.body with | some c => c | none => .skip)
def qv_a : StSh := ⟨.normal, [0, 1], (.cons (.ptr 0 0 0 0) (.cons (.int .i64) .nil)), (.cons (.bcells 0 false 1 (.cons (.sl false false (.int .u8)) (.cons .bool .nil))) .nil)⟩
def qab_an : Ann := {}
def qab_c : Code := (match Try.f55.body with | some c => c | none => .skip)
def qab_a : StSh := ⟨.normal, [0], (.cons (.ptr 0 0 0 0) .nil), (.cons (.bcells 0 false 1 (.cons (.sl false false (.int .u8)) (.cons .bool .nil))) .nil)⟩
def qab_res : List StSh := [⟨.ret, [0], (.cons .bool .nil), (.cons (.bcells 0 false 1 (.cons (.sl false false (.int .u8)) (.cons .bool .nil))) .nil)⟩]
def qab_tbl (n : Nat) : FuncId → List Entry := fun f => []
def qab_loops (n : Nat) : Nat → Option LEntry := fun f => none
theorem qab_run (n : Nat) (m0 : DA) (m0_1 : Bool) : funDS (real _) tab (qab_tbl n) (qab_loops n) qab_an Try.f55 1 qab_a qab_res (m0, m0_1) some = qab n m0 m0_1 := by kernel_rfl
def qab_E (n : Nat) : Entry := ⟨qab_a, qab_res, fun d => qab n d.1 d.2⟩
theorem qab_ok (n : Nat) : EOK Try.prog 55 (qab_E n) :=
 EOK.ofS zc zb zj (tbl := qab_tbl n) (loops := qab_loops n) (an := qab_an) (old := [some true]) (n := n) (c := qab_c) (fn := Try.f55) TblOK.nil (by kernel_rfl) (by kernel_rfl) (by kernel_rfl) (by kernel_rfl) (fun d => by kernel_rfl) LT.nil (fun a => qab_run n a.1 a.2)
def qw_an : Ann := {}
def qw_c : Code := (match Try.f76.body with | some c => c | none => .skip)
def qw_a : StSh := ⟨.normal, [0], (.cons (.ptr 0 0 0 0) .nil), (.cons (.bcells 0 false 1 (.cons (.sl false false (.int .u8)) (.cons .bool .nil))) .nil)⟩
def qw_res : List StSh := [⟨.ret, [0], (.cons (.tup .nil) .nil), (.cons (.bcells 0 false 1 (.cons (.sl false false (.int .u8)) (.cons .bool .nil))) .nil)⟩]
def qw_tbl (n : Nat) : FuncId → List Entry := fun f => []
def qw_loops (n : Nat) : Nat → Option LEntry := fun f => none
theorem qw_run (n : Nat) (m0 : DA) (m0_1 : Bool) : funDS (real _) tab (qw_tbl n) (qw_loops n) qw_an Try.f76 1 qw_a qw_res (m0, m0_1) some = qw n m0 m0_1 := by kernel_rfl
def qw_E (n : Nat) : Entry := ⟨qw_a, qw_res, fun d => qw n d.1 d.2⟩
theorem qw_ok (n : Nat) : EOK Try.prog 76 (qw_E n) :=
 EOK.ofS zc zb zj (tbl := qw_tbl n) (loops := qw_loops n) (an := qw_an) (old := [some true]) (n := n) (c := qw_c) (fn := Try.f76) TblOK.nil (by kernel_rfl) (by kernel_rfl) (by kernel_rfl) (by kernel_rfl) (fun d => by kernel_rfl) LT.nil (fun a => qw_run n a.1 a.2)
def qv_res : List StSh := [⟨.ret, [0], (.cons (.sl false false (.int .u8)) .nil), (.cons (.bcells 0 false 1 (.cons (.sl false false (.int .u8)) (.cons .bool .nil))) .nil)⟩]
def qv_tbl (n : Nat) : FuncId → List Entry := fun f => bif Nat.beq f 55 then [qab_E n] else bif Nat.beq f 76 then [qw_E n] else []
def qv_loops (n : Nat) : Nat → Option LEntry := fun f => none
theorem qv_run (n : Nat) (n_1 : Int) (m0 : DA) (m0_1 : Bool) : funDS (real _) tab (qv_tbl n) (qv_loops n) qv_an Try.f75 1 qv_a qv_res (n_1, (m0, m0_1)) some = qv n n_1 m0 m0_1 := by kernel_rfl
def qv_E (n : Nat) : Entry := ⟨qv_a, qv_res, fun d => qv n d.1 d.2.1 d.2.2⟩
theorem qv_ok (n : Nat) : EOK Try.prog 75 (qv_E n) :=
 EOK.ofS zc zb zj (tbl := qv_tbl n) (loops := qv_loops n) (an := qv_an) (old := [some true]) (n := n) (c := qv_c) (fn := Try.f75) (TblOK.cons (AllE.cons (qab_ok n) AllE.nil) (TblOK.cons (AllE.cons (qw_ok n) AllE.nil) TblOK.nil)) (by kernel_rfl) (by kernel_rfl) (by kernel_rfl) (by kernel_rfl) (fun d => by kernel_rfl) LT.nil (fun a => qv_run n a.1 a.2.1 a.2.2)
def qz_an : Ann := {}
def qz_c : Code := (match Try.f95.body with | some c => c | none => .skip)
def qz_a : StSh := ⟨.normal, [0], (.cons (.sl true false (.int .u8)) .nil), .nil⟩
def qz_res : List StSh := [⟨.ret, [0], (.cons (.fn 99 .nil (.cons (.ptr 0 0 0 0) .nil)) .nil), (.cons (.bcells 0 false 1 (.cons (.sl true false (.int .u8)) .nil)) .nil)⟩]
def qz_tbl (n : Nat) : FuncId → List Entry := fun f => []
def qz_loops (n : Nat) : Nat → Option LEntry := fun f => none
theorem qz_run (n : Nat) (s_0 : DA) : funDS (real _) tab (qz_tbl n) (qz_loops n) qz_an Try.f95 0 qz_a qz_res s_0 some = qz n s_0 := by kernel_rfl
def qz_E (n : Nat) : Entry := ⟨qz_a, qz_res, fun d => qz n d⟩
theorem qz_ok (n : Nat) : EOK Try.prog 95 (qz_E n) :=
 EOK.ofS zc zb zj (tbl := qz_tbl n) (loops := qz_loops n) (an := qz_an) (old := []) (n := n) (c := qz_c) (fn := Try.f95) TblOK.nil (by kernel_rfl) (by kernel_rfl) (by kernel_rfl) (by kernel_rfl) (fun d => by kernel_rfl) LT.nil (fun a => qz_run n a)
def qm_res : List StSh := [⟨.ret, [0], (.cons (.int .u64) .nil), (.cons (.bcells 0 false 1 (.cons (.sl false false (.int .u8)) (.cons .bool .nil))) .nil)⟩]
def qm_tbl (n : Nat) : FuncId → List Entry := fun f => bif Nat.beq f 75 then [qv_E n] else bif Nat.beq f 95 then [qz_E n] else []
def qm_E (n : Nat) : Entry := ⟨qm_a, qm_res, fun d => qm n d.1 d.2.1 d.2.2⟩
end
end Sx
