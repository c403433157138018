import Derived.Test.YtdlbbdbbpoggfaaProg
import Derived.Test.YtdlbbdbbpoggfaaLib31
import Derived.Test.YtdlbbdbbpoggfaaSnSh
import Derived.KernelRfl
open Go Go.Ab Go.Proofs
set_option linter.unusedVariables false
set_option maxRecDepth 20000
namespace Sx
noncomputable section
abbrev yA : Ty := (.sl true (.cons (.int .i64) (.int .i64)))
abbrev yB : Ty := (.cons (.sl true (.cons (.int .i64) (.int .i64))) (.cons (.int .i64) (.int .i64)))
abbrev yC : Ty := (.cons (.sl true (.cons (.int .i64) (.int .i64))) (.cons (.int .i64) (.cons (.int .i64) (.cons (.sl true (.cons (.int .i64) (.int .i64))) (.sl true (.cons (.int .i64) (.cons (.int .i64) (.int .i64))))))))
abbrev yD : Ty := (.cons (.int .i64) (.int .i64))
abbrev yE : Ty := (.cons (.int .i64) (.cons (.int .i64) (.int .i64)))
abbrev yF : Ty := (.sl false (.int .u8))
def gtabL : DG := []
instance gTab : GTab := ⟨fun g => assoc g gtabL⟩
def ti2 : TI := ⟨.int .i64, 1, 8, false, some (.int .i64), false, [.int .i64 0]⟩
def ti3 : TI := ⟨.int .i64, 1, 8, false, some (.int .i64), false, [.int .i64 0]⟩
def ti4 : TI := ⟨.bool, 1, 1, false, some .bool, false, [.bool false]⟩
def ti5 : TI := ⟨.int .u8, 1, 1, false, some (.int .u8), false, [.int .u8 0]⟩
def ti6 : TI := ⟨.int .u8, 1, 1, false, some (.int .u8), false, [.int .u8 0]⟩
def ti7 : TI := ⟨.st [(0, 1, 2), (1, 1, 3), (2, 1, 4), (3, 1, 6)], 4, 24, true, some (.cons (.int .i64) (.cons (.int .i64) (.cons .bool (.int .u8)))), true, [.int .i64 0, .int .i64 0, .bool false, .int .u8 0]⟩
def ti8 : TI := ⟨.st [(0, 1, 2), (1, 1, 3), (2, 1, 4), (3, 1, 6)], 4, 24, true, some (.cons (.int .i64) (.cons (.int .i64) (.cons .bool (.int .u8)))), true, [.int .i64 0, .int .i64 0, .bool false, .int .u8 0]⟩
def ti9 : TI := ⟨.str, 1, 16, false, some .str, false, [.string (ByteArray.mk (List.toArray []))]⟩
def ti10 : TI := ⟨.str, 1, 16, false, some .str, false, [.string (ByteArray.mk (List.toArray []))]⟩
def ti11 : TI := ⟨.str, 1, 16, false, some .str, false, [.string (ByteArray.mk (List.toArray []))]⟩
def ti12 : TI := ⟨.int .u64, 1, 8, false, some (.int .u64), false, [.int .u64 0]⟩
def ti13 : TI := ⟨.st [(0, 1, 9), (1, 1, 12)], 2, 24, true, some (.cons .str (.int .u64)), false, [.string (ByteArray.mk (List.toArray [])), .int .u64 0]⟩
def ti14 : TI := ⟨.st [(0, 1, 9), (1, 1, 12)], 2, 24, true, some (.cons .str (.int .u64)), false, [.string (ByteArray.mk (List.toArray [])), .int .u64 0]⟩
def ti15 : TI := ⟨.ptr, 1, 8, false, none, false, [.pointer none]⟩
def ti16 : TI := ⟨.ptr, 1, 8, false, none, false, [.pointer none]⟩
def ti17 : TI := ⟨.ptr, 1, 8, false, none, false, [.pointer none]⟩
def ti18 : TI := ⟨.st [(0, 1, 17)], 1, 8, true, none, false, [.pointer none]⟩
def ti19 : TI := ⟨.st [(0, 1, 17)], 1, 8, true, none, false, [.pointer none]⟩
def ti21 : TI := ⟨.int .i32, 1, 4, false, some (.int .i32), false, [.int .i32 0]⟩
def ti22 : TI := ⟨.st [(0, 1, 3), (1, 1, 3)], 2, 16, true, some (.cons (.int .i64) (.int .i64)), true, [.int .i64 0, .int .i64 0]⟩
def ti23 : TI := ⟨.st [(0, 1, 3), (1, 1, 3)], 2, 16, true, some (.cons (.int .i64) (.int .i64)), true, [.int .i64 0, .int .i64 0]⟩
def ti24 : TI := ⟨.sl 23, 1, 24, false, some (.sl true (.cons (.int .i64) (.int .i64))), false, [.slice none 0 0]⟩
def ti25 : TI := ⟨.sl 40, 1, 24, false, some (.sl true (.cons (.int .i64) (.cons (.int .i64) (.int .i64)))), false, [.slice none 0 0]⟩
def ti26 : TI := ⟨.st [(0, 1, 24), (1, 2, 23), (3, 1, 24), (4, 1, 25)], 5, 88, true, some (.cons (.sl true (.cons (.int .i64) (.int .i64))) (.cons (.int .i64) (.cons (.int .i64) (.cons (.sl true (.cons (.int .i64) (.int .i64))) (.sl true (.cons (.int .i64) (.cons (.int .i64) (.int .i64)))))))), false, [.slice none 0 0, .int .i64 0, .int .i64 0, .slice none 0 0, .slice none 0 0]⟩
def ti27 : TI := ⟨.st [(0, 1, 24), (1, 2, 23), (3, 1, 24), (4, 1, 25)], 5, 88, true, some (.cons (.sl true (.cons (.int .i64) (.int .i64))) (.cons (.int .i64) (.cons (.int .i64) (.cons (.sl true (.cons (.int .i64) (.int .i64))) (.sl true (.cons (.int .i64) (.cons (.int .i64) (.int .i64)))))))), false, [.slice none 0 0, .int .i64 0, .int .i64 0, .slice none 0 0, .slice none 0 0]⟩
def ti28 : TI := ⟨.sl 27, 1, 24, false, some (.sl true (.cons (.sl true (.cons (.int .i64) (.int .i64))) (.cons (.int .i64) (.cons (.int .i64) (.cons (.sl true (.cons (.int .i64) (.int .i64))) (.sl true (.cons (.int .i64) (.cons (.int .i64) (.int .i64))))))))), false, [.slice none 0 0]⟩
def ti29 : TI := ⟨.sl 24, 1, 24, false, some (.sl false (.sl true (.cons (.int .i64) (.int .i64)))), false, [.slice none 0 0]⟩
def ti30 : TI := ⟨.sl 38, 1, 24, false, some (.sl true (.cons (.sl true (.cons (.int .i64) (.int .i64))) (.cons (.int .i64) (.int .i64)))), false, [.slice none 0 0]⟩
def ti31 : TI := ⟨.sl 36, 1, 24, false, some (.sl false (.int .u64)), false, [.slice none 0 0]⟩
def ti32 : TI := ⟨.sl 9, 1, 24, false, some (.sl false .str), false, [.slice none 0 0]⟩
def ti33 : TI := ⟨.st [(0, 1, 29), (1, 1, 28), (2, 1, 30), (3, 1, 31), (4, 1, 32)], 5, 120, true, some (.cons (.sl false (.sl true (.cons (.int .i64) (.int .i64)))) (.cons (.sl true (.cons (.sl true (.cons (.int .i64) (.int .i64))) (.cons (.int .i64) (.cons (.int .i64) (.cons (.sl true (.cons (.int .i64) (.int .i64))) (.sl true (.cons (.int .i64) (.cons (.int .i64) (.int .i64))))))))) (.cons (.sl true (.cons (.sl true (.cons (.int .i64) (.int .i64))) (.cons (.int .i64) (.int .i64)))) (.cons (.sl false (.int .u64)) (.sl false .str))))), false, [.slice none 0 0, .slice none 0 0, .slice none 0 0, .slice none 0 0, .slice none 0 0]⟩
def ti34 : TI := ⟨.st [(0, 1, 29), (1, 1, 28), (2, 1, 30), (3, 1, 31), (4, 1, 32)], 5, 120, true, some (.cons (.sl false (.sl true (.cons (.int .i64) (.int .i64)))) (.cons (.sl true (.cons (.sl true (.cons (.int .i64) (.int .i64))) (.cons (.int .i64) (.cons (.int .i64) (.cons (.sl true (.cons (.int .i64) (.int .i64))) (.sl true (.cons (.int .i64) (.cons (.int .i64) (.int .i64))))))))) (.cons (.sl true (.cons (.sl true (.cons (.int .i64) (.int .i64))) (.cons (.int .i64) (.int .i64)))) (.cons (.sl false (.int .u64)) (.sl false .str))))), false, [.slice none 0 0, .slice none 0 0, .slice none 0 0, .slice none 0 0, .slice none 0 0]⟩
def ti35 : TI := ⟨.sl 3, 1, 24, false, some (.sl false (.int .i64)), false, [.slice none 0 0]⟩
def ti36 : TI := ⟨.int .u64, 1, 8, false, some (.int .u64), false, [.int .u64 0]⟩
def ti37 : TI := ⟨.st [(0, 1, 24), (1, 2, 23)], 3, 40, true, some (.cons (.sl true (.cons (.int .i64) (.int .i64))) (.cons (.int .i64) (.int .i64))), false, [.slice none 0 0, .int .i64 0, .int .i64 0]⟩
def ti38 : TI := ⟨.st [(0, 1, 24), (1, 2, 23)], 3, 40, true, some (.cons (.sl true (.cons (.int .i64) (.int .i64))) (.cons (.int .i64) (.int .i64))), false, [.slice none 0 0, .int .i64 0, .int .i64 0]⟩
def ti39 : TI := ⟨.st [(0, 1, 3), (1, 1, 3), (2, 1, 3)], 3, 24, true, some (.cons (.int .i64) (.cons (.int .i64) (.int .i64))), true, [.int .i64 0, .int .i64 0, .int .i64 0]⟩
def ti40 : TI := ⟨.st [(0, 1, 3), (1, 1, 3), (2, 1, 3)], 3, 24, true, some (.cons (.int .i64) (.cons (.int .i64) (.int .i64))), true, [.int .i64 0, .int .i64 0, .int .i64 0]⟩
def ti41 : TI := ⟨.int .i64, 1, 8, false, some (.int .i64), false, [.int .i64 0]⟩
def ti45 : TI := ⟨.sl 54, 1, 24, false, some (.sl true (.cons (.int .i64) (.cons (.int .i64) (.cons (.sl false (.int .u64)) (.sl false (.int .u64)))))), false, [.slice none 0 0]⟩
def ti46 : TI := ⟨.sl 57, 1, 24, false, some (.sl true (.cons (.int .i64) (.cons (.int .i64) (.cons (.sl false (.int .u64)) (.sl false (.int .u8)))))), false, [.slice none 0 0]⟩
def ti47 : TI := ⟨.sl 59, 1, 24, false, some (.sl true (.cons (.int .i64) (.cons (.int .u64) .bool))), false, [.slice none 0 0]⟩
def ti48 : TI := ⟨.st [(0, 1, 45), (1, 1, 46), (2, 1, 47), (3, 1, 3), (4, 1, 3), (5, 1, 3), (6, 1, 36)], 7, 104, true, some (.cons (.sl true (.cons (.int .i64) (.cons (.int .i64) (.cons (.sl false (.int .u64)) (.sl false (.int .u64)))))) (.cons (.sl true (.cons (.int .i64) (.cons (.int .i64) (.cons (.sl false (.int .u64)) (.sl false (.int .u8)))))) (.cons (.sl true (.cons (.int .i64) (.cons (.int .u64) .bool))) (.cons (.int .i64) (.cons (.int .i64) (.cons (.int .i64) (.int .u64))))))), false, [.slice none 0 0, .slice none 0 0, .slice none 0 0, .int .i64 0, .int .i64 0, .int .i64 0, .int .u64 0]⟩
def ti49 : TI := ⟨.st [(0, 1, 45), (1, 1, 46), (2, 1, 47), (3, 1, 3), (4, 1, 3), (5, 1, 3), (6, 1, 36)], 7, 104, true, some (.cons (.sl true (.cons (.int .i64) (.cons (.int .i64) (.cons (.sl false (.int .u64)) (.sl false (.int .u64)))))) (.cons (.sl true (.cons (.int .i64) (.cons (.int .i64) (.cons (.sl false (.int .u64)) (.sl false (.int .u8)))))) (.cons (.sl true (.cons (.int .i64) (.cons (.int .u64) .bool))) (.cons (.int .i64) (.cons (.int .i64) (.cons (.int .i64) (.int .u64))))))), false, [.slice none 0 0, .slice none 0 0, .slice none 0 0, .int .i64 0, .int .i64 0, .int .i64 0, .int .u64 0]⟩
def ti53 : TI := ⟨.st [(0, 1, 3), (1, 1, 3), (2, 1, 31), (3, 1, 31)], 4, 64, true, some (.cons (.int .i64) (.cons (.int .i64) (.cons (.sl false (.int .u64)) (.sl false (.int .u64))))), false, [.int .i64 0, .int .i64 0, .slice none 0 0, .slice none 0 0]⟩
def ti54 : TI := ⟨.st [(0, 1, 3), (1, 1, 3), (2, 1, 31), (3, 1, 31)], 4, 64, true, some (.cons (.int .i64) (.cons (.int .i64) (.cons (.sl false (.int .u64)) (.sl false (.int .u64))))), false, [.int .i64 0, .int .i64 0, .slice none 0 0, .slice none 0 0]⟩
def ti55 : TI := ⟨.sl 5, 1, 24, false, some (.sl false (.int .u8)), false, [.slice none 0 0]⟩
def ti56 : TI := ⟨.st [(0, 1, 3), (1, 1, 3), (2, 1, 31), (3, 1, 55)], 4, 64, true, some (.cons (.int .i64) (.cons (.int .i64) (.cons (.sl false (.int .u64)) (.sl false (.int .u8))))), false, [.int .i64 0, .int .i64 0, .slice none 0 0, .slice none 0 0]⟩
def ti57 : TI := ⟨.st [(0, 1, 3), (1, 1, 3), (2, 1, 31), (3, 1, 55)], 4, 64, true, some (.cons (.int .i64) (.cons (.int .i64) (.cons (.sl false (.int .u64)) (.sl false (.int .u8))))), false, [.int .i64 0, .int .i64 0, .slice none 0 0, .slice none 0 0]⟩
def ti58 : TI := ⟨.st [(0, 1, 3), (1, 1, 36), (2, 1, 4)], 3, 24, true, some (.cons (.int .i64) (.cons (.int .u64) .bool)), true, [.int .i64 0, .int .u64 0, .bool false]⟩
def ti59 : TI := ⟨.st [(0, 1, 3), (1, 1, 36), (2, 1, 4)], 3, 24, true, some (.cons (.int .i64) (.cons (.int .u64) .bool)), true, [.int .i64 0, .int .u64 0, .bool false]⟩
def ti84 : TI := ⟨.sl 55, 1, 24, false, some (.sl false (.sl false (.int .u8))), false, [.slice none 0 0]⟩
def ti88 : TI := ⟨.int .u32, 1, 4, false, some (.int .u32), false, [.int .u32 0]⟩
def ti107 : TI := ⟨.ptr, 1, 8, false, none, false, [.pointer none]⟩
def ti108 : TI := ⟨.st [(0, 1, 55)], 1, 24, true, some (.sl false (.int .u8)), false, [.slice none 0 0]⟩
def ti109 : TI := ⟨.st [(0, 1, 55)], 1, 24, true, some (.sl false (.int .u8)), false, [.slice none 0 0]⟩
def ti117 : TI := ⟨.ptr, 1, 8, false, none, false, [.pointer none]⟩
def ti118 : TI := ⟨.ptr, 1, 8, false, none, false, [.pointer none]⟩
def ti120 : TI := ⟨.st [(0, 1, 118), (1, 1, 3), (2, 1, 4)], 3, 24, true, none, false, [.pointer none, .int .i64 0, .bool false]⟩
def ti121 : TI := ⟨.st [(0, 1, 118), (1, 1, 3), (2, 1, 4)], 3, 24, true, none, false, [.pointer none, .int .i64 0, .bool false]⟩
def ti150 : TI := ⟨.int .u64, 1, 8, false, some (.int .u64), false, [.int .u64 0]⟩
def ti152 : TI := ⟨.arr 2 3, 2, 16, true, none, false, [.int .i64 0, .int .i64 0]⟩
def ti156 : TI := ⟨.st [(0, 1, 55), (1, 1, 4)], 2, 32, true, some (.cons (.sl false (.int .u8)) .bool), false, [.slice none 0 0, .bool false]⟩
def ti157 : TI := ⟨.st [(0, 1, 55), (1, 1, 4)], 2, 32, true, some (.cons (.sl false (.int .u8)) .bool), false, [.slice none 0 0, .bool false]⟩
def ti169 : TI := ⟨.arr 2 36, 2, 16, true, none, false, [.int .u64 0, .int .u64 0]⟩
def ti170 : TI := ⟨.st [(0, 1, 17), (1, 1, 17), (2, 1, 17), (3, 1, 9)], 4, 40, true, none, false, [.pointer none, .pointer none, .pointer none, .string (ByteArray.mk (List.toArray []))]⟩
def ti171 : TI := ⟨.st [(0, 1, 17), (1, 1, 17), (2, 1, 17), (3, 1, 9)], 4, 40, true, none, false, [.pointer none, .pointer none, .pointer none, .string (ByteArray.mk (List.toArray []))]⟩
def ti172 : TI := ⟨.arr 0 16, 0, 0, true, none, false, []⟩
def ti173 : TI := ⟨.st [(0, 0, 172)], 0, 0, true, none, false, []⟩
def ti174 : TI := ⟨.st [(0, 0, 172)], 0, 0, true, none, false, []⟩
def ti175 : TI := ⟨.int .u8, 1, 1, false, some (.int .u8), false, [.int .u8 0]⟩
def ti176 : TI := ⟨.int .u8, 1, 1, false, some (.int .u8), false, [.int .u8 0]⟩
def ti178 : TI := ⟨.ptr, 1, 8, false, none, false, [.pointer none]⟩
def ti179 : TI := ⟨.int .i32, 1, 4, false, some (.int .i32), false, [.int .i32 0]⟩
def ti180 : TI := ⟨.int .i32, 1, 4, false, some (.int .i32), false, [.int .i32 0]⟩
def ti183 : TI := ⟨.other, 1, 8, false, none, false, [.pointer none]⟩
def tabL : List (Nat × TI) := [(2, ti2), (3, ti3), (4, ti4), (5, ti5), (6, ti6), (7, ti7), (8, ti8), (9, ti9), (10, ti10), (11, ti11), (12, ti12), (13, ti13), (14, ti14), (15, ti15), (16, ti16), (17, ti17), (18, ti18), (19, ti19), (21, ti21), (22, ti22), (23, ti23), (24, ti24), (25, ti25), (26, ti26), (27, ti27), (28, ti28), (29, ti29), (30, ti30), (31, ti31), (32, ti32), (33, ti33), (34, ti34), (35, ti35), (36, ti36), (37, ti37), (38, ti38), (39, ti39), (40, ti40), (41, ti41), (45, ti45), (46, ti46), (47, ti47), (48, ti48), (49, ti49), (53, ti53), (54, ti54), (55, ti55), (56, ti56), (57, ti57), (58, ti58), (59, ti59), (84, ti84), (88, ti88), (107, ti107), (108, ti108), (109, ti109), (117, ti117), (118, ti118), (120, ti120), (121, ti121), (150, ti150), (152, ti152), (156, ti156), (157, ti157), (169, ti169), (170, ti170), (171, ti171), (172, ti172), (173, ti173), (174, ti174), (175, ti175), (176, ti176), (178, ti178), (179, ti179), (180, ti180), (183, ti183)]
def tab : TypeId → Option TI := fun t => assoc t tabL
theorem zg : TabOK Try.prog tab := (show TabOK Try.prog (fun t => assoc t tabL) from TabOK.of_list _ (by kernel_rfl))
theorem zb : namesOK Try.prog = true := by kernel_rfl
theorem zc : Try.prog.follows .mixedOrders = true := by kernel_rfl
def law07SaneNames_an : Ann := { live := [(0, [5, 6, 7, 8, 9])], boxed := [(8, 3), (8, 4), (8, 5), (9, 2), (9, 3), (10, 2), (10, 3), (11, 4), (11, 5), (12, 8), (12, 9), (14, 4), (14, 6), (15, 5), (17, 6)], vars := [(14, 6)], own := [(3, 2), (14, 7)], tidy := [(12, [5, 6, 7, 8, 9], [(.tmp 7, 1, .const (.int .i64 0), 3)]), (14, [5, 6, 7, 8, 9], []), (16, [5, 7, 8], []), (18, [7, 10], [])] }
def law07SaneNames_c : Code := (match Try.f3.body with | some c => c | none => .skip)
def law07SaneNames_l0 : Code := (match assoc 0 (loopsIn law07SaneNames_c 0) with | some c => c | none => .skip)
def law07SaneNames_a : StSh := ⟨.normal, [0, 1], (.cons (.int .u8) (.cons (.int .u8) .nil)), .nil⟩
def law07SaneNames_h0 : List StSh := [⟨.normal, [5, 6, 7, 8, 9], (.cons (.int .i64) (.cons (.ptr 0 0 0 0) (.cons (.ptr 1 0 0 0) (.cons (.int .i64) (.cons (.int .i64) .nil))))), (.cons (.bcells 0 false 1 (.cons (.int .i64) (.cons (.int .i64) .nil))) (.cons (.bcells 0 false 1 (.cons .nilS (.cons (.msw 2 0) (.cons .nilS (.cons .nilS (.cons .nilS .nil)))))) (.cons (.bos 0 false (.cons (.sl true (.cons (.int .i64) (.int .i64))) (.cons (.int .i64) (.cons (.int .i64) (.cons (.sl true (.cons (.int .i64) (.int .i64))) (.sl true (.cons (.int .i64) (.cons (.int .i64) (.int .i64)))))))) .nil) .nil)))⟩, ⟨.normal, [5, 6, 7, 8, 9], (.cons (.int .i64) (.cons (.ptr 0 0 0 0) (.cons (.ptr 1 0 0 0) (.cons (.int .i64) (.cons (.int .i64) .nil))))), (.cons (.bcells 0 false 1 (.cons (.int .i64) (.cons (.int .i64) .nil))) (.cons (.bcells 0 false 1 (.cons (.msw 2 0) (.cons (.msw 3 0) (.cons (.msw 4 0) (.cons (.msw 5 0) (.cons (.msw 6 0) .nil)))))) (.cons (.bts 0 false false false yA) (.cons (.bos 0 false (.cons (.sl true (.cons (.int .i64) (.int .i64))) (.cons (.int .i64) (.cons (.int .i64) (.cons (.sl true (.cons (.int .i64) (.int .i64))) (.sl true (.cons (.int .i64) (.cons (.int .i64) (.int .i64)))))))) .nil) (.cons (.bts 0 false false true yB) (.cons (.bts 0 false false false (.int .u64)) (.cons (.bts 0 false false false .str) .nil)))))))⟩]
def law07SaneNames_o0 : List StSh := [⟨.exit 0, [5, 7, 8], (.cons (.int .i64) (.cons (.ptr 1 0 0 0) (.cons (.int .i64) .nil))), (.cons (.bcells 0 false 1 (.cons (.int .i64) (.cons (.int .i64) .nil))) (.cons (.bcells 0 false 1 (.cons .nilS (.cons (.msw 2 0) (.cons .nilS (.cons .nilS (.cons .nilS .nil)))))) (.cons (.bos 0 false (.cons (.sl true (.cons (.int .i64) (.int .i64))) (.cons (.int .i64) (.cons (.int .i64) (.cons (.sl true (.cons (.int .i64) (.int .i64))) (.sl true (.cons (.int .i64) (.cons (.int .i64) (.int .i64)))))))) .nil) .nil)))⟩, ⟨.exit 0, [5, 7, 8], (.cons (.int .i64) (.cons (.ptr 1 0 0 0) (.cons (.int .i64) .nil))), (.cons (.bcells 0 false 1 (.cons (.int .i64) (.cons (.int .i64) .nil))) (.cons (.bcells 0 false 1 (.cons (.msw 2 0) (.cons (.msw 3 0) (.cons (.msw 4 0) (.cons (.msw 5 0) (.cons (.msw 6 0) .nil)))))) (.cons (.bts 0 false false false yA) (.cons (.bos 0 false (.cons (.sl true (.cons (.int .i64) (.int .i64))) (.cons (.int .i64) (.cons (.int .i64) (.cons (.sl true (.cons (.int .i64) (.int .i64))) (.sl true (.cons (.int .i64) (.cons (.int .i64) (.int .i64)))))))) .nil) (.cons (.bts 0 false false true yB) (.cons (.bts 0 false false false (.int .u64)) (.cons (.bts 0 false false false .str) .nil)))))))⟩]
def law07SaneNames_L0 (n : Nat) : LEntry := ⟨law07SaneNames_h0, law07SaneNames_o0, law07SaneNames_W0 n⟩
def qar_an : Ann := { live := [(0, [1, 18, 19, 20])] }
def qar_c : Code := (match Try.f6.body with | some c => c | none => .skip)
def qar_l0 : Code := (match assoc 0 (loopsIn qar_c 0) with | some c => c | none => .skip)
def qar_a : StSh := ⟨.normal, [0], (.cons (.agg (.cons (.sl true false yA) (.cons (.sl true true yC) (.cons (.sl true true yB) (.cons (.sl true false (.int .u64)) (.cons (.sl true false .str) .nil)))))) .nil), .nil⟩
def qad_an : Ann := {}
def qad_c : Code := (match Try.f14.body with | some c => c | none => .skip)
def qad_a : StSh := ⟨.normal, [0], (.cons (.agg (.cons (.sl true false yA) (.cons (.sl true true yC) (.cons (.sl true true yB) (.cons (.sl true false (.int .u64)) (.cons (.sl true false .str) .nil)))))) .nil), .nil⟩
def qaq_an : Ann := {}
def qaq_c : Code := (match Try.f40.body with | some c => c | none => .skip)
def qaq_a : StSh := ⟨.normal, [0], (.cons (.agg (.cons (.sl true false yA) (.cons (.sl true true yC) (.cons (.sl true true yB) (.cons (.sl true false (.int .u64)) (.cons (.sl true false .str) .nil)))))) .nil), .nil⟩
def qh_an : Ann := {}
def qh_c : Code := (match Try.f61.body with | some c => c | none => .skip)
def qh_a : StSh := ⟨.normal, [0, 1], (.cons (.sl true false yA) (.cons (.fn 62 .nil (.cons (.ptr 0 0 0 0) .nil)) .nil)), (.cons (.bcells 0 false 1 (.cons (.int .i64) .nil)) .nil)⟩
def qq_an : Ann := { live := [(0, [0, 1, 7, 8])] }
def qq_c : Code := (match Try.f106.body with | some c => c | none => .skip)
def qq_l0 : Code := (match assoc 0 (loopsIn qq_c 0) with | some c => c | none => .skip)
def qq_a : StSh := ⟨.normal, [0, 1], (.cons (.sl true false yA) (.cons (.fn 62 .nil (.cons (.ptr 0 0 0 0) .nil)) .nil)), (.cons (.bcells 0 false 1 (.cons (.int .i64) .nil)) .nil)⟩
def qag_an : Ann := {}
def qag_c : Code := (match Try.f62.body with | some c => c | none => .skip)
def qag_a : StSh := ⟨.normal, [0, 1], (.cons (.sl true true yD) (.cons (.ptr 0 0 0 0) .nil)), (.cons (.bcells 0 false 1 (.cons (.int .i64) .nil)) .nil)⟩
def qan_an : Ann := {}
def qan_c : Code := (match Try.f63.body with | some c => c | none => .skip)
def qan_a : StSh := ⟨.normal, [0, 1, 2], (.cons (.sl true true yD) (.cons (.int .i64) (.cons (.int .i64) .nil))), .nil⟩
def qn_an : Ann := {}
def qn_c : Code := (match Try.f19.body with | some c => c | none => .skip)
def qn_a : StSh := ⟨.normal, [0, 1], (.cons (.sl true true yD) (.cons (.fn 107 .nil (.cons (.ptr 0 0 0 0) .nil)) .nil)), (.cons (.bcells 0 false 1 (.cons (.int .i64) .nil)) .nil)⟩
def qac_an : Ann := { live := [(0, [0, 1, 7, 8])] }
def qac_c : Code := (match Try.f52.body with | some c => c | none => .skip)
def qac_l0 : Code := (match assoc 0 (loopsIn qac_c 0) with | some c => c | none => .skip)
def qac_a : StSh := ⟨.normal, [0, 1], (.cons (.sl true true yD) (.cons (.fn 107 .nil (.cons (.ptr 0 0 0 0) .nil)) .nil)), (.cons (.bcells 0 false 1 (.cons (.int .i64) .nil)) .nil)⟩
def qak_an : Ann := {}
def qak_c : Code := (match Try.f107.body with | some c => c | none => .skip)
def qak_a : StSh := ⟨.normal, [0, 1], (.cons (.agg (.cons (.int .i64) (.cons (.int .i64) .nil))) (.cons (.ptr 0 0 0 0) .nil)), (.cons (.bcells 0 false 1 (.cons (.int .i64) .nil)) .nil)⟩
def qau_an : Ann := {}
def qau_c : Code := (match Try.f68.body with | some c => c | none => .skip)
def qau_a : StSh := ⟨.normal, [0, 1], (.cons (.agg (.cons (.int .i64) (.cons (.int .i64) .nil))) (.cons (.int .i64) .nil)), .nil⟩
def qau_res : List StSh := [⟨.ret, [0], (.cons .bool .nil), .nil⟩]
def qau_tbl (n : Nat) : FuncId → List Entry := fun f => []
def qau_loops (n : Nat) : Nat → Option LEntry := fun f => none
theorem qau_run (n : Nat) (t_0 : Int) (t_0_1 : Int) (recs_1 : Int) : funDS (real _) tab (qau_tbl n) (qau_loops n) qau_an Try.f68 0 qau_a qau_res ((t_0, t_0_1), recs_1) some = qau n t_0 t_0_1 recs_1 := by kernel_rfl
def qau_E (n : Nat) : Entry := ⟨qau_a, qau_res, fun d => qau n d.1.1 d.1.2 d.2⟩
theorem qau_ok (n : Nat) : EOK Try.prog 68 (qau_E n) :=
 EOK.ofS zb zc zg (tbl := qau_tbl n) (loops := qau_loops n) (an := qau_an) (old := []) (n := n) (c := qau_c) (fn := Try.f68) TblOK.nil (by kernel_rfl) (by kernel_rfl) (by kernel_rfl) (by kernel_rfl) (fun d => by kernel_rfl) LT.nil (fun a => qau_run n a.1.1 a.1.2 a.2)
def qak_res : List StSh := [⟨.ret, [0], (.cons .bool .nil), (.cons (.bcells 0 false 1 (.cons (.int .i64) .nil)) .nil)⟩]
def qak_tbl (n : Nat) : FuncId → List Entry := fun f => bif Nat.beq f 68 then [qau_E n] else []
def qak_loops (n : Nat) : Nat → Option LEntry := fun f => none
theorem qak_run (n : Nat) (t_0 : Int) (t_0_1 : Int) (m0 : Int) : funDS (real _) tab (qak_tbl n) (qak_loops n) qak_an Try.f107 1 qak_a qak_res ((t_0, t_0_1), m0) some = qak n t_0 t_0_1 m0 := by kernel_rfl
def qak_E (n : Nat) : Entry := ⟨qak_a, qak_res, fun d => qak n d.1.1 d.1.2 d.2⟩
theorem qak_ok (n : Nat) : EOK Try.prog 107 (qak_E n) :=
 EOK.ofS zb zc zg (tbl := qak_tbl n) (loops := qak_loops n) (an := qak_an) (old := [some true]) (n := n) (c := qak_c) (fn := Try.f107) (TblOK.cons (AllE.cons (qau_ok n) AllE.nil) TblOK.nil) (by kernel_rfl) (by kernel_rfl) (by kernel_rfl) (by kernel_rfl) (fun d => by kernel_rfl) LT.nil (fun a => qak_run n a.1.1 a.1.2 a.2)
def qac_h0 : List StSh := [⟨.normal, [0, 1, 7, 8], (.cons (.sl true true yD) (.cons (.fn 107 .nil (.cons (.ptr 0 0 0 0) .nil)) (.cons (.int .i64) (.cons (.int .i64) .nil)))), (.cons (.bcells 0 false 1 (.cons (.int .i64) .nil)) .nil)⟩]
def qac_o0 : List StSh := [⟨.ret, [4], (.cons (.int .i64) .nil), (.cons (.bcells 0 false 1 (.cons (.int .i64) .nil)) .nil)⟩, ⟨.exit 0, [], .nil, (.cons (.bcells 0 false 1 (.cons (.int .i64) .nil)) .nil)⟩]
def qac_L0 (n : Nat) : LEntry := ⟨qac_h0, qac_o0, qac_W0 n⟩
def qac_res : List StSh := [⟨.ret, [0], (.cons (.int .i64) .nil), (.cons (.bcells 0 false 1 (.cons (.int .i64) .nil)) .nil)⟩]
def qac_tbl (n : Nat) : FuncId → List Entry := fun f => bif Nat.beq f 107 then [qak_E n] else []
def qac_loops (n : Nat) : Nat → Option LEntry := fun f => bif Nat.beq f 0 then some (qac_L0 n) else none
theorem qac_r0 (n : Nat) (s_0 : DA) (t7 : Int) (t8 : Int) (m0 : Int) : roundK (real _) tab (qac_tbl n) (qac_loops n) qac_an [some true] qac_l0 0 [0, 1, 7, 8] qac_h0 qac_o0 ((s_0, (t7, t8)), m0) some = qac_B0 n s_0 t7 t8 m0 := by kernel_rfl
theorem qac_f0 (n : Nat) : LoopFact tab (qac_tbl n) (qac_loops n) qac_an [some true] n 0 qac_l0 (qac_L0 n) := ⟨[0, 1, 7, 8], (fun s => qac_B0 n s.1.1 s.1.2.1 s.1.2.2 s.2), by kernel_rfl, by kernel_rfl, fun s => rfl, fun s => qac_r0 n s.1.1 s.1.2.1 s.1.2.2 s.2⟩
theorem qac_run (n : Nat) (s_0 : DA) (m0 : Int) : funDS (real _) tab (qac_tbl n) (qac_loops n) qac_an Try.f52 1 qac_a qac_res (s_0, m0) some = qac n s_0 m0 := by kernel_rfl
def qac_E (n : Nat) : Entry := ⟨qac_a, qac_res, fun d => qac n d.1 d.2⟩
theorem qac_ok (n : Nat) : EOK Try.prog 52 (qac_E n) :=
 EOK.ofS zb zc zg (tbl := qac_tbl n) (loops := qac_loops n) (an := qac_an) (old := [some true]) (n := n) (c := qac_c) (fn := Try.f52) (TblOK.cons (AllE.cons (qak_ok n) AllE.nil) TblOK.nil) (by kernel_rfl) (by kernel_rfl) (by kernel_rfl) (by kernel_rfl) (fun d => by kernel_rfl) (LT.cons (by kernel_rfl) (qac_f0 n) LT.nil) (fun a => qac_run n a.1 a.2)
def qn_res : List StSh := [⟨.ret, [0], (.cons .bool .nil), (.cons (.bcells 0 false 1 (.cons (.int .i64) .nil)) .nil)⟩]
def qn_tbl (n : Nat) : FuncId → List Entry := fun f => bif Nat.beq f 52 then [qac_E n] else []
def qn_loops (n : Nat) : Nat → Option LEntry := fun f => none
theorem qn_run (n : Nat) (s_0 : DA) (m0 : Int) : funDS (real _) tab (qn_tbl n) (qn_loops n) qn_an Try.f19 1 qn_a qn_res (s_0, m0) some = qn n s_0 m0 := by kernel_rfl
def qn_E (n : Nat) : Entry := ⟨qn_a, qn_res, fun d => qn n d.1 d.2⟩
theorem qn_ok (n : Nat) : EOK Try.prog 19 (qn_E n) :=
 EOK.ofS zb zc zg (tbl := qn_tbl n) (loops := qn_loops n) (an := qn_an) (old := [some true]) (n := n) (c := qn_c) (fn := Try.f19) (TblOK.cons (AllE.cons (qac_ok n) AllE.nil) TblOK.nil) (by kernel_rfl) (by kernel_rfl) (by kernel_rfl) (by kernel_rfl) (fun d => by kernel_rfl) LT.nil (fun a => qn_run n a.1 a.2)
def qan_res : List StSh := [⟨.ret, [0], (.cons .bool .nil), .nil⟩]
def qan_tbl (n : Nat) : FuncId → List Entry := fun f => bif Nat.beq f 19 then [qn_E n] else []
def qan_loops (n : Nat) : Nat → Option LEntry := fun f => none
theorem qan_run (n : Nat) (list_0 : DA) (recs_1 : Int) (most_2 : Int) : funDS (real _) tab (qan_tbl n) (qan_loops n) qan_an Try.f63 0 qan_a qan_res (list_0, (recs_1, most_2)) some = qan n list_0 recs_1 most_2 := by kernel_rfl
def qan_E (n : Nat) : Entry := ⟨qan_a, qan_res, fun d => qan n d.1 d.2.1 d.2.2⟩
theorem qan_ok (n : Nat) : EOK Try.prog 63 (qan_E n) :=
 EOK.ofS zb zc zg (tbl := qan_tbl n) (loops := qan_loops n) (an := qan_an) (old := []) (n := n) (c := qan_c) (fn := Try.f63) (TblOK.cons (AllE.cons (qn_ok n) AllE.nil) TblOK.nil) (by kernel_rfl) (by kernel_rfl) (by kernel_rfl) (by kernel_rfl) (fun d => by kernel_rfl) LT.nil (fun a => qan_run n a.1 a.2.1 a.2.2)
def qag_res : List StSh := [⟨.ret, [0], (.cons .bool .nil), (.cons (.bcells 0 false 1 (.cons (.int .i64) .nil)) .nil)⟩]
def qag_tbl (n : Nat) : FuncId → List Entry := fun f => bif Nat.beq f 63 then [qan_E n] else []
def qag_loops (n : Nat) : Nat → Option LEntry := fun f => none
theorem qag_run (n : Nat) (l_0 : DA) (m0 : Int) : funDS (real _) tab (qag_tbl n) (qag_loops n) qag_an Try.f62 1 qag_a qag_res (l_0, m0) some = qag n l_0 m0 := by kernel_rfl
def qag_E (n : Nat) : Entry := ⟨qag_a, qag_res, fun d => qag n d.1 d.2⟩
theorem qag_ok (n : Nat) : EOK Try.prog 62 (qag_E n) :=
 EOK.ofS zb zc zg (tbl := qag_tbl n) (loops := qag_loops n) (an := qag_an) (old := [some true]) (n := n) (c := qag_c) (fn := Try.f62) (TblOK.cons (AllE.cons (qan_ok n) AllE.nil) TblOK.nil) (by kernel_rfl) (by kernel_rfl) (by kernel_rfl) (by kernel_rfl) (fun d => by kernel_rfl) LT.nil (fun a => qag_run n a.1 a.2)
def qq_h0 : List StSh := [⟨.normal, [0, 1, 7, 8], (.cons (.sl true false yA) (.cons (.fn 62 .nil (.cons (.ptr 0 0 0 0) .nil)) (.cons (.int .i64) (.cons (.int .i64) .nil)))), (.cons (.bcells 0 false 1 (.cons (.int .i64) .nil)) .nil)⟩]
def qq_o0 : List StSh := [⟨.ret, [4], (.cons (.int .i64) .nil), (.cons (.bcells 0 false 1 (.cons (.int .i64) .nil)) .nil)⟩, ⟨.exit 0, [], .nil, (.cons (.bcells 0 false 1 (.cons (.int .i64) .nil)) .nil)⟩]
def qq_L0 (n : Nat) : LEntry := ⟨qq_h0, qq_o0, qq_W0 n⟩
def qq_res : List StSh := [⟨.ret, [0], (.cons (.int .i64) .nil), (.cons (.bcells 0 false 1 (.cons (.int .i64) .nil)) .nil)⟩]
def qq_tbl (n : Nat) : FuncId → List Entry := fun f => bif Nat.beq f 62 then [qag_E n] else []
def qq_loops (n : Nat) : Nat → Option LEntry := fun f => bif Nat.beq f 0 then some (qq_L0 n) else none
theorem qq_r0 (n : Nat) (s_0 : DI) (t7 : Int) (t8 : Int) (m0 : Int) : roundK (real _) tab (qq_tbl n) (qq_loops n) qq_an [some true] qq_l0 0 [0, 1, 7, 8] qq_h0 qq_o0 ((s_0, (t7, t8)), m0) some = qq_B0 n s_0 t7 t8 m0 := by kernel_rfl
theorem qq_f0 (n : Nat) : LoopFact tab (qq_tbl n) (qq_loops n) qq_an [some true] n 0 qq_l0 (qq_L0 n) := ⟨[0, 1, 7, 8], (fun s => qq_B0 n s.1.1 s.1.2.1 s.1.2.2 s.2), by kernel_rfl, by kernel_rfl, fun s => rfl, fun s => qq_r0 n s.1.1 s.1.2.1 s.1.2.2 s.2⟩
theorem qq_run (n : Nat) (s_0 : DI) (m0 : Int) : funDS (real _) tab (qq_tbl n) (qq_loops n) qq_an Try.f106 1 qq_a qq_res (s_0, m0) some = qq n s_0 m0 := by kernel_rfl
def qq_E (n : Nat) : Entry := ⟨qq_a, qq_res, fun d => qq n d.1 d.2⟩
theorem qq_ok (n : Nat) : EOK Try.prog 106 (qq_E n) :=
 EOK.ofS zb zc zg (tbl := qq_tbl n) (loops := qq_loops n) (an := qq_an) (old := [some true]) (n := n) (c := qq_c) (fn := Try.f106) (TblOK.cons (AllE.cons (qag_ok n) AllE.nil) TblOK.nil) (by kernel_rfl) (by kernel_rfl) (by kernel_rfl) (by kernel_rfl) (fun d => by kernel_rfl) (LT.cons (by kernel_rfl) (qq_f0 n) LT.nil) (fun a => qq_run n a.1 a.2)
def qh_res : List StSh := [⟨.ret, [0], (.cons .bool .nil), (.cons (.bcells 0 false 1 (.cons (.int .i64) .nil)) .nil)⟩]
def qh_tbl (n : Nat) : FuncId → List Entry := fun f => bif Nat.beq f 106 then [qq_E n] else []
def qh_loops (n : Nat) : Nat → Option LEntry := fun f => none
theorem qh_run (n : Nat) (s_0 : DI) (m0 : Int) : funDS (real _) tab (qh_tbl n) (qh_loops n) qh_an Try.f61 1 qh_a qh_res (s_0, m0) some = qh n s_0 m0 := by kernel_rfl
def qh_E (n : Nat) : Entry := ⟨qh_a, qh_res, fun d => qh n d.1 d.2⟩
theorem qh_ok (n : Nat) : EOK Try.prog 61 (qh_E n) :=
 EOK.ofS zb zc zg (tbl := qh_tbl n) (loops := qh_loops n) (an := qh_an) (old := [some true]) (n := n) (c := qh_c) (fn := Try.f61) (TblOK.cons (AllE.cons (qq_ok n) AllE.nil) TblOK.nil) (by kernel_rfl) (by kernel_rfl) (by kernel_rfl) (by kernel_rfl) (fun d => by kernel_rfl) LT.nil (fun a => qh_run n a.1 a.2)
def qo_an : Ann := {}
def qo_c : Code := (match Try.f64.body with | some c => c | none => .skip)
def qo_a : StSh := ⟨.normal, [0, 1], (.cons (.sl true true yC) (.cons (.fn 65 .nil (.cons (.ptr 0 0 0 0) .nil)) .nil)), (.cons (.bcells 0 false 1 (.cons (.int .i64) .nil)) .nil)⟩
def qx_an : Ann := { live := [(0, [0, 1, 7, 8])] }
def qx_c : Code := (match Try.f108.body with | some c => c | none => .skip)
def qx_l0 : Code := (match assoc 0 (loopsIn qx_c 0) with | some c => c | none => .skip)
def qx_a : StSh := ⟨.normal, [0, 1], (.cons (.sl true true yC) (.cons (.fn 65 .nil (.cons (.ptr 0 0 0 0) .nil)) .nil)), (.cons (.bcells 0 false 1 (.cons (.int .i64) .nil)) .nil)⟩
def qah_an : Ann := {}
def qah_c : Code := (match Try.f65.body with | some c => c | none => .skip)
def qah_a : StSh := ⟨.normal, [0, 1], (.cons (.agg (.cons (.sl true true yD) (.cons (.int .i64) (.cons (.int .i64) (.cons (.sl true true yD) (.cons (.sl true true yE) .nil)))))) (.cons (.ptr 0 0 0 0) .nil)), (.cons (.bcells 0 false 1 (.cons (.int .i64) .nil)) .nil)⟩
def qz_an : Ann := {}
def qz_c : Code := (match Try.f66.body with | some c => c | none => .skip)
def qz_a : StSh := ⟨.normal, [0, 1], (.cons (.agg (.cons (.sl true true yD) (.cons (.int .i64) (.cons (.int .i64) (.cons (.sl true true yD) (.cons (.sl true true yE) .nil)))))) (.cons (.int .i64) .nil)), .nil⟩
def qi_an : Ann := {}
def qi_c : Code := (match Try.f18.body with | some c => c | none => .skip)
def qi_a : StSh := ⟨.normal, [0, 1], (.cons (.sl true true yE) (.cons (.fn 109 .nil .nil) .nil)), .nil⟩
def qw_an : Ann := { live := [(0, [0, 1, 7, 8])] }
def qw_c : Code := (match Try.f51.body with | some c => c | none => .skip)
def qw_l0 : Code := (match assoc 0 (loopsIn qw_c 0) with | some c => c | none => .skip)
def qw_a : StSh := ⟨.normal, [0, 1], (.cons (.sl true true yE) (.cons (.fn 109 .nil .nil) .nil)), .nil⟩
def qv_an : Ann := {}
def qv_c : Code := (match Try.f109.body with | some c => c | none => .skip)
def qv_a : StSh := ⟨.normal, [0], (.cons (.agg (.cons (.int .i64) (.cons (.int .i64) (.cons (.int .i64) .nil)))) .nil), .nil⟩
def qay_an : Ann := { live := [(0, [4, 39, 40, 41])], boxed := [(4, 3), (9, 4)] }
def qay_c : Code := (match Try.f75.body with | some c => c | none => .skip)
def qay_l0 : Code := (match assoc 0 (loopsIn qay_c 0) with | some c => c | none => .skip)
def qay_a : StSh := ⟨.normal, [0], (.cons (.agg (.cons (.int .i64) (.cons (.int .i64) (.cons (.int .i64) .nil)))) .nil), .nil⟩
def qat_an : Ann := {}
def qat_c : Code := (match Try.f111.body with | some c => c | none => .skip)
def qat_a : StSh := ⟨.normal, [0], (.cons (.int .i64) .nil), .nil⟩
def qat_res : List StSh := [⟨.ret, [0], (.cons (.int .i64) .nil), .nil⟩]
def qat_tbl (n : Nat) : FuncId → List Entry := fun f => []
def qat_loops (n : Nat) : Nat → Option LEntry := fun f => none
theorem qat_run (n : Nat) (op_0 : Int) : funDS (real _) tab (qat_tbl n) (qat_loops n) qat_an Try.f111 0 qat_a qat_res op_0 some = qat n op_0 := by kernel_rfl
def qat_E (n : Nat) : Entry := ⟨qat_a, qat_res, fun d => qat n d⟩
theorem qat_ok (n : Nat) : EOK Try.prog 111 (qat_E n) :=
 EOK.ofS zb zc zg (tbl := qat_tbl n) (loops := qat_loops n) (an := qat_an) (old := []) (n := n) (c := qat_c) (fn := Try.f111) TblOK.nil (by kernel_rfl) (by kernel_rfl) (by kernel_rfl) (by kernel_rfl) (fun d => by kernel_rfl) LT.nil (fun a => qat_run n a)
def qba_an : Ann := {}
def qba_c : Code := (match Try.f112.body with | some c => c | none => .skip)
def qba_a : StSh := ⟨.normal, [0, 1], (.cons (.int .i64) (.cons .bool .nil)), .nil⟩
def qba_res : List StSh := [⟨.ret, [0], (.cons .bool .nil), .nil⟩]
def qba_tbl (n : Nat) : FuncId → List Entry := fun f => []
def qba_loops (n : Nat) : Nat → Option LEntry := fun f => none
theorem qba_run (n : Nat) (n_0 : Int) (has_1 : Bool) : funDS (real _) tab (qba_tbl n) (qba_loops n) qba_an Try.f112 0 qba_a qba_res (n_0, has_1) some = qba n n_0 has_1 := by kernel_rfl
def qba_E (n : Nat) : Entry := ⟨qba_a, qba_res, fun d => qba n d.1 d.2⟩
theorem qba_ok (n : Nat) : EOK Try.prog 112 (qba_E n) :=
 EOK.ofS zb zc zg (tbl := qba_tbl n) (loops := qba_loops n) (an := qba_an) (old := []) (n := n) (c := qba_c) (fn := Try.f112) TblOK.nil (by kernel_rfl) (by kernel_rfl) (by kernel_rfl) (by kernel_rfl) (fun d => by kernel_rfl) LT.nil (fun a => qba_run n a.1 a.2)
def qbb_an : Ann := { live := [(0, [0, 3])], boxed := [(0, 0), (1, 0), (4, 5), (5, 4)] }
def qbb_c : Code := (match Try.f71.body with | some c => c | none => .skip)
def qbb_l0 : Code := (match assoc 0 (loopsIn qbb_c 0) with | some c => c | none => .skip)
def qbb_a : StSh := ⟨.normal, [0], (.cons (.int .u64) .nil), .nil⟩
def qbb_h0 : List StSh := [⟨.normal, [0, 3], (.cons (.int .u64) (.cons (.msw 0 0) .nil)), (.cons (.bts 0 false false false (.int .u8)) .nil)⟩]
def qbb_o0 : List StSh := [⟨.exit 0, [0, 3], (.cons (.int .u64) (.cons (.msw 0 0) .nil)), (.cons (.bts 0 false false false (.int .u8)) .nil)⟩]
def qbb_L0 (n : Nat) : LEntry := ⟨qbb_h0, qbb_o0, qbb_W0 n⟩
def qbb_res : List StSh := [⟨.ret, [0], (.cons (.msw 0 0) .nil), (.cons (.bts 0 false false false (.int .u8)) .nil)⟩]
def qbb_tbl (n : Nat) : FuncId → List Entry := fun f => []
def qbb_loops (n : Nat) : Nat → Option LEntry := fun f => bif Nat.beq f 0 then some (qbb_L0 n) else none
theorem qbb_r0 (n : Nat) (v_0 : Int) (m0 : DC) : roundK (real _) tab (qbb_tbl n) (qbb_loops n) qbb_an [] qbb_l0 0 [0, 3] qbb_h0 qbb_o0 (v_0, m0) some = qbb_B0 n v_0 m0 := by kernel_rfl
theorem qbb_f0 (n : Nat) : LoopFact tab (qbb_tbl n) (qbb_loops n) qbb_an [] n 0 qbb_l0 (qbb_L0 n) := ⟨[0, 3], (fun s => qbb_B0 n s.1 s.2), by kernel_rfl, by kernel_rfl, fun s => rfl, fun s => qbb_r0 n s.1 s.2⟩
theorem qbb_run (n : Nat) (v_0 : Int) : funD (real _) tab (qbb_tbl n) (qbb_loops n) qbb_an Try.f71 qbb_a qbb_res v_0 some = qbb n v_0 := by kernel_rfl
def qbb_E (n : Nat) : Entry := ⟨qbb_a, qbb_res, fun d => qbb n d⟩
theorem qbb_ok (n : Nat) : EOK Try.prog 71 (qbb_E n) :=
 EOK.of zb zc zg (tbl := qbb_tbl n) (loops := qbb_loops n) (an := qbb_an) (old := []) (n := n) (c := qbb_c) (fn := Try.f71) TblOK.nil (by kernel_rfl) (by kernel_rfl) (by kernel_rfl) (by kernel_rfl) (fun d => by kernel_rfl) (LT.cons (by kernel_rfl) (qbb_f0 n) LT.nil) (fun a => qbb_run n a)
def qay_h0 : List StSh := [⟨.normal, [4, 39, 40, 41], (.cons (.msw 0 0) (.cons (.ms 1 0) (.cons (.int .i64) (.cons (.int .i64) .nil)))), (.cons (.bts 0 false false false (.int .u8)) (.cons (.bcells 0 false 1 (.cons (.int .i64) (.cons (.int .i64) .nil))) .nil))⟩]
def qay_o0 : List StSh := [⟨.exit 0, [4], (.cons (.msw 0 0) .nil), (.cons (.bts 0 false false false (.int .u8)) (.cons (.bcells 0 false 1 (.cons (.int .i64) (.cons (.int .i64) .nil))) .nil))⟩]
def qay_L0 (n : Nat) : LEntry := ⟨qay_h0, qay_o0, qay_W0 n⟩
def qay_res : List StSh := [⟨.ret, [0], (.cons (.sl false false (.int .u8)) .nil), .nil⟩]
def qay_tbl (n : Nat) : FuncId → List Entry := fun f => bif Nat.beq f 111 then [qat_E n] else bif Nat.beq f 112 then [qba_E n] else bif Nat.beq f 71 then [qbb_E n] else []
def qay_loops (n : Nat) : Nat → Option LEntry := fun f => bif Nat.beq f 0 then some (qay_L0 n) else none
theorem qay_r0 (n : Nat) (t39 : Nat × Nat) (t40 : Int) (t41 : Int) (m0 : DC) (m1 : Int) (m1_1 : Int) : roundK (real _) tab (qay_tbl n) (qay_loops n) qay_an [] qay_l0 0 [4, 39, 40, 41] qay_h0 qay_o0 ((t39, (t40, t41)), (m0, (m1, m1_1))) some = qay_B0 n t39 t40 t41 m0 m1 m1_1 := by kernel_rfl
theorem qay_f0 (n : Nat) : LoopFact tab (qay_tbl n) (qay_loops n) qay_an [] n 0 qay_l0 (qay_L0 n) := ⟨[4, 39, 40, 41], (fun s => qay_B0 n s.1.1 s.1.2.1 s.1.2.2 s.2.1 s.2.2.1 s.2.2.2), by kernel_rfl, by kernel_rfl, fun s => rfl, fun s => qay_r0 n s.1.1 s.1.2.1 s.1.2.2 s.2.1 s.2.2.1 s.2.2.2⟩
theorem qay_run (n : Nat) (i_0 : Int) (i_0_1 : Int) (i_0_2 : Int) : funDS (real _) tab (qay_tbl n) (qay_loops n) qay_an Try.f75 0 qay_a qay_res (i_0, (i_0_1, i_0_2)) some = qay n i_0 i_0_1 i_0_2 := by kernel_rfl
def qay_E (n : Nat) : Entry := ⟨qay_a, qay_res, fun d => qay n d.1 d.2.1 d.2.2⟩
theorem qay_ok (n : Nat) : EOK Try.prog 75 (qay_E n) :=
 EOK.ofS zb zc zg (tbl := qay_tbl n) (loops := qay_loops n) (an := qay_an) (old := []) (n := n) (c := qay_c) (fn := Try.f75) (TblOK.cons (AllE.cons (qat_ok n) AllE.nil) (TblOK.cons (AllE.cons (qba_ok n) AllE.nil) (TblOK.cons (AllE.cons (qbb_ok n) AllE.nil) TblOK.nil))) (by kernel_rfl) (by kernel_rfl) (by kernel_rfl) (by kernel_rfl) (fun d => by kernel_rfl) (LT.cons (by kernel_rfl) (qay_f0 n) LT.nil) (fun a => qay_run n a.1 a.2.1 a.2.2)
def qv_res : List StSh := [⟨.ret, [0], (.cons .bool .nil), .nil⟩]
def qv_tbl (n : Nat) : FuncId → List Entry := fun f => bif Nat.beq f 75 then [qay_E n] else []
def qv_loops (n : Nat) : Nat → Option LEntry := fun f => none
theorem qv_run (n : Nat) (i_0 : Int) (i_0_1 : Int) (i_0_2 : Int) : funDS (real _) tab (qv_tbl n) (qv_loops n) qv_an Try.f109 0 qv_a qv_res (i_0, (i_0_1, i_0_2)) some = qv n i_0 i_0_1 i_0_2 := by kernel_rfl
def qv_E (n : Nat) : Entry := ⟨qv_a, qv_res, fun d => qv n d.1 d.2.1 d.2.2⟩
theorem qv_ok (n : Nat) : EOK Try.prog 109 (qv_E n) :=
 EOK.ofS zb zc zg (tbl := qv_tbl n) (loops := qv_loops n) (an := qv_an) (old := []) (n := n) (c := qv_c) (fn := Try.f109) (TblOK.cons (AllE.cons (qay_ok n) AllE.nil) TblOK.nil) (by kernel_rfl) (by kernel_rfl) (by kernel_rfl) (by kernel_rfl) (fun d => by kernel_rfl) LT.nil (fun a => qv_run n a.1 a.2.1 a.2.2)
def qw_h0 : List StSh := [⟨.normal, [0, 1, 7, 8], (.cons (.sl true true yE) (.cons (.fn 109 .nil .nil) (.cons (.int .i64) (.cons (.int .i64) .nil)))), .nil⟩]
def qw_o0 : List StSh := [⟨.ret, [4], (.cons (.int .i64) .nil), .nil⟩, ⟨.exit 0, [], .nil, .nil⟩]
def qw_L0 (n : Nat) : LEntry := ⟨qw_h0, qw_o0, qw_W0 n⟩
def qw_res : List StSh := [⟨.ret, [0], (.cons (.int .i64) .nil), .nil⟩]
def qw_tbl (n : Nat) : FuncId → List Entry := fun f => bif Nat.beq f 109 then [qv_E n] else []
def qw_loops (n : Nat) : Nat → Option LEntry := fun f => bif Nat.beq f 0 then some (qw_L0 n) else none
theorem qw_r0 (n : Nat) (s_0 : DB) (t7 : Int) (t8 : Int) : roundK (real _) tab (qw_tbl n) (qw_loops n) qw_an [] qw_l0 0 [0, 1, 7, 8] qw_h0 qw_o0 (s_0, (t7, t8)) some = qw_B0 n s_0 t7 t8 := by kernel_rfl
theorem qw_f0 (n : Nat) : LoopFact tab (qw_tbl n) (qw_loops n) qw_an [] n 0 qw_l0 (qw_L0 n) := ⟨[0, 1, 7, 8], (fun s => qw_B0 n s.1 s.2.1 s.2.2), by kernel_rfl, by kernel_rfl, fun s => rfl, fun s => qw_r0 n s.1 s.2.1 s.2.2⟩
theorem qw_run (n : Nat) (s_0 : DB) : funDS (real _) tab (qw_tbl n) (qw_loops n) qw_an Try.f51 0 qw_a qw_res s_0 some = qw n s_0 := by kernel_rfl
def qw_E (n : Nat) : Entry := ⟨qw_a, qw_res, fun d => qw n d⟩
theorem qw_ok (n : Nat) : EOK Try.prog 51 (qw_E n) :=
 EOK.ofS zb zc zg (tbl := qw_tbl n) (loops := qw_loops n) (an := qw_an) (old := []) (n := n) (c := qw_c) (fn := Try.f51) (TblOK.cons (AllE.cons (qv_ok n) AllE.nil) TblOK.nil) (by kernel_rfl) (by kernel_rfl) (by kernel_rfl) (by kernel_rfl) (fun d => by kernel_rfl) (LT.cons (by kernel_rfl) (qw_f0 n) LT.nil) (fun a => qw_run n a)
def qi_res : List StSh := [⟨.ret, [0], (.cons .bool .nil), .nil⟩]
def qi_tbl (n : Nat) : FuncId → List Entry := fun f => bif Nat.beq f 51 then [qw_E n] else []
def qi_loops (n : Nat) : Nat → Option LEntry := fun f => none
theorem qi_run (n : Nat) (s_0 : DB) : funDS (real _) tab (qi_tbl n) (qi_loops n) qi_an Try.f18 0 qi_a qi_res s_0 some = qi n s_0 := by kernel_rfl
def qi_E (n : Nat) : Entry := ⟨qi_a, qi_res, fun d => qi n d⟩
theorem qi_ok (n : Nat) : EOK Try.prog 18 (qi_E n) :=
 EOK.ofS zb zc zg (tbl := qi_tbl n) (loops := qi_loops n) (an := qi_an) (old := []) (n := n) (c := qi_c) (fn := Try.f18) (TblOK.cons (AllE.cons (qw_ok n) AllE.nil) TblOK.nil) (by kernel_rfl) (by kernel_rfl) (by kernel_rfl) (by kernel_rfl) (fun d => by kernel_rfl) LT.nil (fun a => qi_run n a)
def qz_res : List StSh := [⟨.ret, [0], (.cons .bool .nil), .nil⟩]
def qz_tbl (n : Nat) : FuncId → List Entry := fun f => bif Nat.beq f 63 then [qan_E n] else bif Nat.beq f 68 then [qau_E n] else bif Nat.beq f 18 then [qi_E n] else []
def qz_loops (n : Nat) : Nat → Option LEntry := fun f => none
theorem qz_run (n : Nat) (f_0 : DA) (f_0_1 : Int) (f_0_2 : Int) (f_0_3 : DA) (f_0_4 : DB) (recs_1 : Int) : funDS (real _) tab (qz_tbl n) (qz_loops n) qz_an Try.f66 0 qz_a qz_res ((f_0, (f_0_1, (f_0_2, (f_0_3, f_0_4)))), recs_1) some = qz n f_0 f_0_1 f_0_2 f_0_3 f_0_4 recs_1 := by kernel_rfl
def qz_E (n : Nat) : Entry := ⟨qz_a, qz_res, fun d => qz n d.1.1 d.1.2.1 d.1.2.2.1 d.1.2.2.2.1 d.1.2.2.2.2 d.2⟩
theorem qz_ok (n : Nat) : EOK Try.prog 66 (qz_E n) :=
 EOK.ofS zb zc zg (tbl := qz_tbl n) (loops := qz_loops n) (an := qz_an) (old := []) (n := n) (c := qz_c) (fn := Try.f66) (TblOK.cons (AllE.cons (qan_ok n) AllE.nil) (TblOK.cons (AllE.cons (qau_ok n) AllE.nil) (TblOK.cons (AllE.cons (qi_ok n) AllE.nil) TblOK.nil))) (by kernel_rfl) (by kernel_rfl) (by kernel_rfl) (by kernel_rfl) (fun d => by kernel_rfl) LT.nil (fun a => qz_run n a.1.1 a.1.2.1 a.1.2.2.1 a.1.2.2.2.1 a.1.2.2.2.2 a.2)
def qah_res : List StSh := [⟨.ret, [0], (.cons .bool .nil), (.cons (.bcells 0 false 1 (.cons (.int .i64) .nil)) .nil)⟩]
def qah_tbl (n : Nat) : FuncId → List Entry := fun f => bif Nat.beq f 66 then [qz_E n] else []
def qah_loops (n : Nat) : Nat → Option LEntry := fun f => none
theorem qah_run (n : Nat) (f_0 : DA) (f_0_1 : Int) (f_0_2 : Int) (f_0_3 : DA) (f_0_4 : DB) (m0 : Int) : funDS (real _) tab (qah_tbl n) (qah_loops n) qah_an Try.f65 1 qah_a qah_res ((f_0, (f_0_1, (f_0_2, (f_0_3, f_0_4)))), m0) some = qah n f_0 f_0_1 f_0_2 f_0_3 f_0_4 m0 := by kernel_rfl
def qah_E (n : Nat) : Entry := ⟨qah_a, qah_res, fun d => qah n d.1.1 d.1.2.1 d.1.2.2.1 d.1.2.2.2.1 d.1.2.2.2.2 d.2⟩
theorem qah_ok (n : Nat) : EOK Try.prog 65 (qah_E n) :=
 EOK.ofS zb zc zg (tbl := qah_tbl n) (loops := qah_loops n) (an := qah_an) (old := [some true]) (n := n) (c := qah_c) (fn := Try.f65) (TblOK.cons (AllE.cons (qz_ok n) AllE.nil) TblOK.nil) (by kernel_rfl) (by kernel_rfl) (by kernel_rfl) (by kernel_rfl) (fun d => by kernel_rfl) LT.nil (fun a => qah_run n a.1.1 a.1.2.1 a.1.2.2.1 a.1.2.2.2.1 a.1.2.2.2.2 a.2)
def qx_h0 : List StSh := [⟨.normal, [0, 1, 7, 8], (.cons (.sl true true yC) (.cons (.fn 65 .nil (.cons (.ptr 0 0 0 0) .nil)) (.cons (.int .i64) (.cons (.int .i64) .nil)))), (.cons (.bcells 0 false 1 (.cons (.int .i64) .nil)) .nil)⟩]
def qx_o0 : List StSh := [⟨.ret, [4], (.cons (.int .i64) .nil), (.cons (.bcells 0 false 1 (.cons (.int .i64) .nil)) .nil)⟩, ⟨.exit 0, [], .nil, (.cons (.bcells 0 false 1 (.cons (.int .i64) .nil)) .nil)⟩]
def qx_L0 (n : Nat) : LEntry := ⟨qx_h0, qx_o0, qx_W0 n⟩
def qx_res : List StSh := [⟨.ret, [0], (.cons (.int .i64) .nil), (.cons (.bcells 0 false 1 (.cons (.int .i64) .nil)) .nil)⟩]
def qx_tbl (n : Nat) : FuncId → List Entry := fun f => bif Nat.beq f 65 then [qah_E n] else []
def qx_loops (n : Nat) : Nat → Option LEntry := fun f => bif Nat.beq f 0 then some (qx_L0 n) else none
theorem qx_r0 (n : Nat) (s_0 : DH) (t7 : Int) (t8 : Int) (m0 : Int) : roundK (real _) tab (qx_tbl n) (qx_loops n) qx_an [some true] qx_l0 0 [0, 1, 7, 8] qx_h0 qx_o0 ((s_0, (t7, t8)), m0) some = qx_B0 n s_0 t7 t8 m0 := by kernel_rfl
theorem qx_f0 (n : Nat) : LoopFact tab (qx_tbl n) (qx_loops n) qx_an [some true] n 0 qx_l0 (qx_L0 n) := ⟨[0, 1, 7, 8], (fun s => qx_B0 n s.1.1 s.1.2.1 s.1.2.2 s.2), by kernel_rfl, by kernel_rfl, fun s => rfl, fun s => qx_r0 n s.1.1 s.1.2.1 s.1.2.2 s.2⟩
theorem qx_run (n : Nat) (s_0 : DH) (m0 : Int) : funDS (real _) tab (qx_tbl n) (qx_loops n) qx_an Try.f108 1 qx_a qx_res (s_0, m0) some = qx n s_0 m0 := by kernel_rfl
def qx_E (n : Nat) : Entry := ⟨qx_a, qx_res, fun d => qx n d.1 d.2⟩
theorem qx_ok (n : Nat) : EOK Try.prog 108 (qx_E n) :=
 EOK.ofS zb zc zg (tbl := qx_tbl n) (loops := qx_loops n) (an := qx_an) (old := [some true]) (n := n) (c := qx_c) (fn := Try.f108) (TblOK.cons (AllE.cons (qah_ok n) AllE.nil) TblOK.nil) (by kernel_rfl) (by kernel_rfl) (by kernel_rfl) (by kernel_rfl) (fun d => by kernel_rfl) (LT.cons (by kernel_rfl) (qx_f0 n) LT.nil) (fun a => qx_run n a.1 a.2)
def qo_res : List StSh := [⟨.ret, [0], (.cons .bool .nil), (.cons (.bcells 0 false 1 (.cons (.int .i64) .nil)) .nil)⟩]
def qo_tbl (n : Nat) : FuncId → List Entry := fun f => bif Nat.beq f 108 then [qx_E n] else []
def qo_loops (n : Nat) : Nat → Option LEntry := fun f => none
theorem qo_run (n : Nat) (s_0 : DH) (m0 : Int) : funDS (real _) tab (qo_tbl n) (qo_loops n) qo_an Try.f64 1 qo_a qo_res (s_0, m0) some = qo n s_0 m0 := by kernel_rfl
def qo_E (n : Nat) : Entry := ⟨qo_a, qo_res, fun d => qo n d.1 d.2⟩
theorem qo_ok (n : Nat) : EOK Try.prog 64 (qo_E n) :=
 EOK.ofS zb zc zg (tbl := qo_tbl n) (loops := qo_loops n) (an := qo_an) (old := [some true]) (n := n) (c := qo_c) (fn := Try.f64) (TblOK.cons (AllE.cons (qx_ok n) AllE.nil) TblOK.nil) (by kernel_rfl) (by kernel_rfl) (by kernel_rfl) (by kernel_rfl) (fun d => by kernel_rfl) LT.nil (fun a => qo_run n a.1 a.2)
def qe_an : Ann := {}
def qe_c : Code := (match Try.f24.body with | some c => c | none => .skip)
def qe_a : StSh := ⟨.normal, [0, 1], (.cons (.sl true true yB) (.cons (.fn 67 .nil (.cons (.ptr 0 0 0 0) .nil)) .nil)), (.cons (.bcells 0 false 1 (.cons (.int .i64) .nil)) .nil)⟩
def qu_an : Ann := { live := [(0, [0, 1, 7, 8])] }
def qu_c : Code := (match Try.f53.body with | some c => c | none => .skip)
def qu_l0 : Code := (match assoc 0 (loopsIn qu_c 0) with | some c => c | none => .skip)
def qu_a : StSh := ⟨.normal, [0, 1], (.cons (.sl true true yB) (.cons (.fn 67 .nil (.cons (.ptr 0 0 0 0) .nil)) .nil)), (.cons (.bcells 0 false 1 (.cons (.int .i64) .nil)) .nil)⟩
def qaf_an : Ann := {}
def qaf_c : Code := (match Try.f67.body with | some c => c | none => .skip)
def qaf_a : StSh := ⟨.normal, [0, 1], (.cons (.agg (.cons (.sl true true yD) (.cons (.int .i64) (.cons (.int .i64) .nil)))) (.cons (.ptr 0 0 0 0) .nil)), (.cons (.bcells 0 false 1 (.cons (.int .i64) .nil)) .nil)⟩
def qaf_res : List StSh := [⟨.ret, [0], (.cons .bool .nil), (.cons (.bcells 0 false 1 (.cons (.int .i64) .nil)) .nil)⟩]
def qaf_tbl (n : Nat) : FuncId → List Entry := fun f => bif Nat.beq f 63 then [qan_E n] else bif Nat.beq f 68 then [qau_E n] else []
def qaf_loops (n : Nat) : Nat → Option LEntry := fun f => none
theorem qaf_run (n : Nat) (i_0 : DA) (i_0_1 : Int) (i_0_2 : Int) (m0 : Int) : funDS (real _) tab (qaf_tbl n) (qaf_loops n) qaf_an Try.f67 1 qaf_a qaf_res ((i_0, (i_0_1, i_0_2)), m0) some = qaf n i_0 i_0_1 i_0_2 m0 := by kernel_rfl
def qaf_E (n : Nat) : Entry := ⟨qaf_a, qaf_res, fun d => qaf n d.1.1 d.1.2.1 d.1.2.2 d.2⟩
theorem qaf_ok (n : Nat) : EOK Try.prog 67 (qaf_E n) :=
 EOK.ofS zb zc zg (tbl := qaf_tbl n) (loops := qaf_loops n) (an := qaf_an) (old := [some true]) (n := n) (c := qaf_c) (fn := Try.f67) (TblOK.cons (AllE.cons (qan_ok n) AllE.nil) (TblOK.cons (AllE.cons (qau_ok n) AllE.nil) TblOK.nil)) (by kernel_rfl) (by kernel_rfl) (by kernel_rfl) (by kernel_rfl) (fun d => by kernel_rfl) LT.nil (fun a => qaf_run n a.1.1 a.1.2.1 a.1.2.2 a.2)
def qu_h0 : List StSh := [⟨.normal, [0, 1, 7, 8], (.cons (.sl true true yB) (.cons (.fn 67 .nil (.cons (.ptr 0 0 0 0) .nil)) (.cons (.int .i64) (.cons (.int .i64) .nil)))), (.cons (.bcells 0 false 1 (.cons (.int .i64) .nil)) .nil)⟩]
def qu_o0 : List StSh := [⟨.ret, [4], (.cons (.int .i64) .nil), (.cons (.bcells 0 false 1 (.cons (.int .i64) .nil)) .nil)⟩, ⟨.exit 0, [], .nil, (.cons (.bcells 0 false 1 (.cons (.int .i64) .nil)) .nil)⟩]
def qu_L0 (n : Nat) : LEntry := ⟨qu_h0, qu_o0, qu_W0 n⟩
def qu_res : List StSh := [⟨.ret, [0], (.cons (.int .i64) .nil), (.cons (.bcells 0 false 1 (.cons (.int .i64) .nil)) .nil)⟩]
def qu_tbl (n : Nat) : FuncId → List Entry := fun f => bif Nat.beq f 67 then [qaf_E n] else []
def qu_loops (n : Nat) : Nat → Option LEntry := fun f => bif Nat.beq f 0 then some (qu_L0 n) else none
theorem qu_r0 (n : Nat) (s_0 : DJ) (t7 : Int) (t8 : Int) (m0 : Int) : roundK (real _) tab (qu_tbl n) (qu_loops n) qu_an [some true] qu_l0 0 [0, 1, 7, 8] qu_h0 qu_o0 ((s_0, (t7, t8)), m0) some = qu_B0 n s_0 t7 t8 m0 := by kernel_rfl
theorem qu_f0 (n : Nat) : LoopFact tab (qu_tbl n) (qu_loops n) qu_an [some true] n 0 qu_l0 (qu_L0 n) := ⟨[0, 1, 7, 8], (fun s => qu_B0 n s.1.1 s.1.2.1 s.1.2.2 s.2), by kernel_rfl, by kernel_rfl, fun s => rfl, fun s => qu_r0 n s.1.1 s.1.2.1 s.1.2.2 s.2⟩
theorem qu_run (n : Nat) (s_0 : DJ) (m0 : Int) : funDS (real _) tab (qu_tbl n) (qu_loops n) qu_an Try.f53 1 qu_a qu_res (s_0, m0) some = qu n s_0 m0 := by kernel_rfl
def qu_E (n : Nat) : Entry := ⟨qu_a, qu_res, fun d => qu n d.1 d.2⟩
theorem qu_ok (n : Nat) : EOK Try.prog 53 (qu_E n) :=
 EOK.ofS zb zc zg (tbl := qu_tbl n) (loops := qu_loops n) (an := qu_an) (old := [some true]) (n := n) (c := qu_c) (fn := Try.f53) (TblOK.cons (AllE.cons (qaf_ok n) AllE.nil) TblOK.nil) (by kernel_rfl) (by kernel_rfl) (by kernel_rfl) (by kernel_rfl) (fun d => by kernel_rfl) (LT.cons (by kernel_rfl) (qu_f0 n) LT.nil) (fun a => qu_run n a.1 a.2)
def qe_res : List StSh := [⟨.ret, [0], (.cons .bool .nil), (.cons (.bcells 0 false 1 (.cons (.int .i64) .nil)) .nil)⟩]
def qe_tbl (n : Nat) : FuncId → List Entry := fun f => bif Nat.beq f 53 then [qu_E n] else []
def qe_loops (n : Nat) : Nat → Option LEntry := fun f => none
theorem qe_run (n : Nat) (s_0 : DJ) (m0 : Int) : funDS (real _) tab (qe_tbl n) (qe_loops n) qe_an Try.f24 1 qe_a qe_res (s_0, m0) some = qe n s_0 m0 := by kernel_rfl
def qe_E (n : Nat) : Entry := ⟨qe_a, qe_res, fun d => qe n d.1 d.2⟩
theorem qe_ok (n : Nat) : EOK Try.prog 24 (qe_E n) :=
 EOK.ofS zb zc zg (tbl := qe_tbl n) (loops := qe_loops n) (an := qe_an) (old := [some true]) (n := n) (c := qe_c) (fn := Try.f24) (TblOK.cons (AllE.cons (qu_ok n) AllE.nil) TblOK.nil) (by kernel_rfl) (by kernel_rfl) (by kernel_rfl) (by kernel_rfl) (fun d => by kernel_rfl) LT.nil (fun a => qe_run n a.1 a.2)
def qd_an : Ann := {}
def qd_c : Code := (match Try.f69.body with | some c => c | none => .skip)
def qd_a : StSh := ⟨.normal, [0, 1], (.cons (.sl true false .str) (.cons (.fn 70 .nil .nil) .nil)), .nil⟩
def qr_an : Ann := { live := [(0, [0, 1, 7, 8])] }
def qr_c : Code := (match Try.f110.body with | some c => c | none => .skip)
def qr_l0 : Code := (match assoc 0 (loopsIn qr_c 0) with | some c => c | none => .skip)
def qr_a : StSh := ⟨.normal, [0, 1], (.cons (.sl true false .str) (.cons (.fn 70 .nil .nil) .nil)), .nil⟩
def qai_an : Ann := {}
def qai_c : Code := (match Try.f70.body with | some c => c | none => .skip)
def qai_a : StSh := ⟨.normal, [0], (.cons .str .nil), .nil⟩
def qai_res : List StSh := [⟨.ret, [0], (.cons .bool .nil), .nil⟩]
def qai_tbl (n : Nat) : FuncId → List Entry := fun f => []
def qai_loops (n : Nat) : Nat → Option LEntry := fun f => none
theorem qai_run (n : Nat) (s_0 : ByteArray) : funDS (real _) tab (qai_tbl n) (qai_loops n) qai_an Try.f70 0 qai_a qai_res s_0 some = qai n s_0 := by kernel_rfl
def qai_E (n : Nat) : Entry := ⟨qai_a, qai_res, fun d => qai n d⟩
theorem qai_ok (n : Nat) : EOK Try.prog 70 (qai_E n) :=
 EOK.ofS zb zc zg (tbl := qai_tbl n) (loops := qai_loops n) (an := qai_an) (old := []) (n := n) (c := qai_c) (fn := Try.f70) TblOK.nil (by kernel_rfl) (by kernel_rfl) (by kernel_rfl) (by kernel_rfl) (fun d => by kernel_rfl) LT.nil (fun a => qai_run n a)
def qr_h0 : List StSh := [⟨.normal, [0, 1, 7, 8], (.cons (.sl true false .str) (.cons (.fn 70 .nil .nil) (.cons (.int .i64) (.cons (.int .i64) .nil)))), .nil⟩]
def qr_o0 : List StSh := [⟨.ret, [4], (.cons (.int .i64) .nil), .nil⟩, ⟨.exit 0, [], .nil, .nil⟩]
def qr_L0 (n : Nat) : LEntry := ⟨qr_h0, qr_o0, qr_W0 n⟩
def qr_res : List StSh := [⟨.ret, [0], (.cons (.int .i64) .nil), .nil⟩]
def qr_tbl (n : Nat) : FuncId → List Entry := fun f => bif Nat.beq f 70 then [qai_E n] else []
def qr_loops (n : Nat) : Nat → Option LEntry := fun f => bif Nat.beq f 0 then some (qr_L0 n) else none
theorem qr_r0 (n : Nat) (s_0 : DD) (t7 : Int) (t8 : Int) : roundK (real _) tab (qr_tbl n) (qr_loops n) qr_an [] qr_l0 0 [0, 1, 7, 8] qr_h0 qr_o0 (s_0, (t7, t8)) some = qr_B0 n s_0 t7 t8 := by kernel_rfl
theorem qr_f0 (n : Nat) : LoopFact tab (qr_tbl n) (qr_loops n) qr_an [] n 0 qr_l0 (qr_L0 n) := ⟨[0, 1, 7, 8], (fun s => qr_B0 n s.1 s.2.1 s.2.2), by kernel_rfl, by kernel_rfl, fun s => rfl, fun s => qr_r0 n s.1 s.2.1 s.2.2⟩
theorem qr_run (n : Nat) (s_0 : DD) : funDS (real _) tab (qr_tbl n) (qr_loops n) qr_an Try.f110 0 qr_a qr_res s_0 some = qr n s_0 := by kernel_rfl
def qr_E (n : Nat) : Entry := ⟨qr_a, qr_res, fun d => qr n d⟩
theorem qr_ok (n : Nat) : EOK Try.prog 110 (qr_E n) :=
 EOK.ofS zb zc zg (tbl := qr_tbl n) (loops := qr_loops n) (an := qr_an) (old := []) (n := n) (c := qr_c) (fn := Try.f110) (TblOK.cons (AllE.cons (qai_ok n) AllE.nil) TblOK.nil) (by kernel_rfl) (by kernel_rfl) (by kernel_rfl) (by kernel_rfl) (fun d => by kernel_rfl) (LT.cons (by kernel_rfl) (qr_f0 n) LT.nil) (fun a => qr_run n a)
def qd_res : List StSh := [⟨.ret, [0], (.cons .bool .nil), .nil⟩]
def qd_tbl (n : Nat) : FuncId → List Entry := fun f => bif Nat.beq f 110 then [qr_E n] else []
def qd_loops (n : Nat) : Nat → Option LEntry := fun f => none
theorem qd_run (n : Nat) (s_0 : DD) : funDS (real _) tab (qd_tbl n) (qd_loops n) qd_an Try.f69 0 qd_a qd_res s_0 some = qd n s_0 := by kernel_rfl
def qd_E (n : Nat) : Entry := ⟨qd_a, qd_res, fun d => qd n d⟩
theorem qd_ok (n : Nat) : EOK Try.prog 69 (qd_E n) :=
 EOK.ofS zb zc zg (tbl := qd_tbl n) (loops := qd_loops n) (an := qd_an) (old := []) (n := n) (c := qd_c) (fn := Try.f69) (TblOK.cons (AllE.cons (qr_ok n) AllE.nil) TblOK.nil) (by kernel_rfl) (by kernel_rfl) (by kernel_rfl) (by kernel_rfl) (fun d => by kernel_rfl) LT.nil (fun a => qd_run n a)
def qaq_res : List StSh := [⟨.ret, [0], (.cons .bool .nil), .nil⟩]
def qaq_tbl (n : Nat) : FuncId → List Entry := fun f => bif Nat.beq f 61 then [qh_E n] else bif Nat.beq f 64 then [qo_E n] else bif Nat.beq f 24 then [qe_E n] else bif Nat.beq f 69 then [qd_E n] else []
def qaq_loops (n : Nat) : Nat → Option LEntry := fun f => none
theorem qaq_run (n : Nat) (t0 : DI) (t0_1 : DH) (t0_2 : DJ) (t0_3 : DC) (t0_4 : DD) : funDS (real _) tab (qaq_tbl n) (qaq_loops n) qaq_an Try.f40 0 qaq_a qaq_res (t0, (t0_1, (t0_2, (t0_3, t0_4)))) some = qaq n t0 t0_1 t0_2 t0_3 t0_4 := by kernel_rfl
def qaq_E (n : Nat) : Entry := ⟨qaq_a, qaq_res, fun d => qaq n d.1 d.2.1 d.2.2.1 d.2.2.2.1 d.2.2.2.2⟩
theorem qaq_ok (n : Nat) : EOK Try.prog 40 (qaq_E n) :=
 EOK.ofS zb zc zg (tbl := qaq_tbl n) (loops := qaq_loops n) (an := qaq_an) (old := []) (n := n) (c := qaq_c) (fn := Try.f40) (TblOK.cons (AllE.cons (qh_ok n) AllE.nil) (TblOK.cons (AllE.cons (qo_ok n) AllE.nil) (TblOK.cons (AllE.cons (qe_ok n) AllE.nil) (TblOK.cons (AllE.cons (qd_ok n) AllE.nil) TblOK.nil)))) (by kernel_rfl) (by kernel_rfl) (by kernel_rfl) (by kernel_rfl) (fun d => by kernel_rfl) LT.nil (fun a => qaq_run n a.1 a.2.1 a.2.2.1 a.2.2.2.1 a.2.2.2.2)
def qy_an : Ann := { live := [(0, [3, 14, 15, 16])] }
def qy_c : Code := (match Try.f42.body with | some c => c | none => .skip)
def qy_l0 : Code := (match assoc 0 (loopsIn qy_c 0) with | some c => c | none => .skip)
def qy_a : StSh := ⟨.normal, [0], (.cons (.agg (.cons (.sl true false yA) (.cons (.sl true true yC) (.cons (.sl true true yB) (.cons (.sl true false (.int .u64)) (.cons (.sl true false .str) .nil)))))) .nil), .nil⟩
def ql_an : Ann := { boxed := [(0, 8)] }
def ql_c : Code := (match Try.f72.body with | some c => c | none => .skip)
def ql_a : StSh := ⟨.normal, [0, 1], (.cons (.ptr 0 0 0 0) (.cons (.int .i64) .nil)), (.cons (.bcells 0 false 1 (.cons .nilS .nil)) .nil)⟩
def ql_res : List StSh := [⟨.ret, [0], (.cons (.tup .nil) .nil), (.cons (.bcells 0 false 1 (.cons (.msw 1 0) .nil)) (.cons (.bts 0 false false false (.int .u8)) .nil))⟩]
def ql_tbl (n : Nat) : FuncId → List Entry := fun f => bif Nat.beq f 71 then [qbb_E n] else []
def ql_loops (n : Nat) : Nat → Option LEntry := fun f => none
theorem ql_run (n : Nat) (n_1 : Int) : funDS (real _) tab (ql_tbl n) (ql_loops n) ql_an Try.f72 1 ql_a ql_res n_1 some = ql n n_1 := by kernel_rfl
def ql_E (n : Nat) : Entry := ⟨ql_a, ql_res, fun d => ql n d⟩
theorem ql_ok (n : Nat) : EOK Try.prog 72 (ql_E n) :=
 EOK.ofS zb zc zg (tbl := ql_tbl n) (loops := ql_loops n) (an := ql_an) (old := [some true]) (n := n) (c := ql_c) (fn := Try.f72) (TblOK.cons (AllE.cons (qbb_ok n) AllE.nil) TblOK.nil) (by kernel_rfl) (by kernel_rfl) (by kernel_rfl) (by kernel_rfl) (fun d => by kernel_rfl) LT.nil (fun a => ql_run n a)
def qj_an : Ann := { live := [(0, [0, 10, 11, 12])], boxed := [(4, 7)] }
def qj_c : Code := (match Try.f73.body with | some c => c | none => .skip)
def qj_l0 : Code := (match assoc 0 (loopsIn qj_c 0) with | some c => c | none => .skip)
def qj_a : StSh := ⟨.normal, [0, 1], (.cons (.ptr 0 0 0 0) (.cons (.sl true true yD) .nil)), (.cons (.bcells 0 false 1 (.cons (.msw 1 0) .nil)) (.cons (.bts 0 false false false (.int .u8)) .nil))⟩
def qc_an : Ann := { boxed := [(0, 8)] }
def qc_c : Code := (match Try.f72.body with | some c => c | none => .skip)
def qc_a : StSh := ⟨.normal, [0, 1], (.cons (.ptr 0 0 0 0) (.cons (.int .i64) .nil)), (.cons (.bcells 0 false 1 (.cons (.msw 1 0) .nil)) (.cons (.bts 0 false false false (.int .u8)) .nil))⟩
def qc_res : List StSh := [⟨.ret, [0], (.cons (.tup .nil) .nil), (.cons (.bcells 0 false 1 (.cons (.msw 1 1) .nil)) (.cons (.bts 1 false false false (.int .u8)) .nil))⟩]
def qc_tbl (n : Nat) : FuncId → List Entry := fun f => bif Nat.beq f 71 then [qbb_E n] else []
def qc_loops (n : Nat) : Nat → Option LEntry := fun f => none
theorem qc_run (n : Nat) (n_1 : Int) (m1 : DC) : funDS (real _) tab (qc_tbl n) (qc_loops n) qc_an Try.f72 2 qc_a qc_res (n_1, m1) some = qc n n_1 m1 := by kernel_rfl
def qc_E (n : Nat) : Entry := ⟨qc_a, qc_res, fun d => qc n d.1 d.2⟩
theorem qc_ok (n : Nat) : EOK Try.prog 72 (qc_E n) :=
 EOK.ofS zb zc zg (tbl := qc_tbl n) (loops := qc_loops n) (an := qc_an) (old := [some true, some false]) (n := n) (c := qc_c) (fn := Try.f72) (TblOK.cons (AllE.cons (qbb_ok n) AllE.nil) TblOK.nil) (by kernel_rfl) (by kernel_rfl) (by kernel_rfl) (by kernel_rfl) (fun d => by kernel_rfl) LT.nil (fun a => qc_run n a.1 a.2)
def qaz_an : Ann := { raw := [(1, 4)] }
def qaz_c : Code := (match Try.f74.body with | some c => c | none => .skip)
def qaz_a : StSh := ⟨.normal, [0], (.cons (.agg (.cons (.int .i64) (.cons (.int .i64) .nil))) .nil), .nil⟩
def qaz_res : List StSh := [⟨.ret, [0], (.cons (.sl false false (.int .u8)) .nil), .nil⟩]
def qaz_tbl (n : Nat) : FuncId → List Entry := fun f => bif Nat.beq f 71 then [qbb_E n] else []
def qaz_loops (n : Nat) : Nat → Option LEntry := fun f => none
theorem qaz_run (n : Nat) (t_0 : Int) (t_0_1 : Int) : funDS (real _) tab (qaz_tbl n) (qaz_loops n) qaz_an Try.f74 0 qaz_a qaz_res (t_0, t_0_1) some = qaz n t_0 t_0_1 := by kernel_rfl
def qaz_E (n : Nat) : Entry := ⟨qaz_a, qaz_res, fun d => qaz n d.1 d.2⟩
theorem qaz_ok (n : Nat) : EOK Try.prog 74 (qaz_E n) :=
 EOK.ofS zb zc zg (tbl := qaz_tbl n) (loops := qaz_loops n) (an := qaz_an) (old := []) (n := n) (c := qaz_c) (fn := Try.f74) (TblOK.cons (AllE.cons (qbb_ok n) AllE.nil) TblOK.nil) (by kernel_rfl) (by kernel_rfl) (by kernel_rfl) (by kernel_rfl) (fun d => by kernel_rfl) LT.nil (fun a => qaz_run n a.1 a.2)
def qj_h0 : List StSh := [⟨.normal, [0, 10, 11, 12], (.cons (.ptr 0 0 0 0) (.cons (.sl true true yD) (.cons (.int .i64) (.cons (.int .i64) .nil)))), (.cons (.bcells 0 false 1 (.cons (.msw 1 1) .nil)) (.cons (.bts 1 false false false (.int .u8)) .nil))⟩]
def qj_o0 : List StSh := [⟨.exit 0, [], .nil, (.cons (.bcells 0 false 1 (.cons (.msw 1 1) .nil)) (.cons (.bts 1 false false false (.int .u8)) .nil))⟩]
def qj_L0 (n : Nat) : LEntry := ⟨qj_h0, qj_o0, qj_W0 n⟩
def qj_res : List StSh := [⟨.ret, [0], (.cons (.tup .nil) .nil), (.cons (.bcells 0 false 1 (.cons (.msw 1 1) .nil)) (.cons (.bts 1 false false false (.int .u8)) .nil))⟩]
def qj_tbl (n : Nat) : FuncId → List Entry := fun f => bif Nat.beq f 72 then [qc_E n] else bif Nat.beq f 74 then [qaz_E n] else []
def qj_loops (n : Nat) : Nat → Option LEntry := fun f => bif Nat.beq f 0 then some (qj_L0 n) else none
theorem qj_r0 (n : Nat) (t10 : DA) (t11 : Int) (t12 : Int) (m1 : DC) : roundK (real _) tab (qj_tbl n) (qj_loops n) qj_an [some true, some false] qj_l0 0 [0, 10, 11, 12] qj_h0 qj_o0 ((t10, (t11, t12)), m1) some = qj_B0 n t10 t11 t12 m1 := by kernel_rfl
theorem qj_f0 (n : Nat) : LoopFact tab (qj_tbl n) (qj_loops n) qj_an [some true, some false] n 0 qj_l0 (qj_L0 n) := ⟨[0, 10, 11, 12], (fun s => qj_B0 n s.1.1 s.1.2.1 s.1.2.2 s.2), by kernel_rfl, by kernel_rfl, fun s => rfl, fun s => qj_r0 n s.1.1 s.1.2.1 s.1.2.2 s.2⟩
theorem qj_run (n : Nat) (list_1 : DA) (m1 : DC) : funDS (real _) tab (qj_tbl n) (qj_loops n) qj_an Try.f73 2 qj_a qj_res (list_1, m1) some = qj n list_1 m1 := by kernel_rfl
def qj_E (n : Nat) : Entry := ⟨qj_a, qj_res, fun d => qj n d.1 d.2⟩
theorem qj_ok (n : Nat) : EOK Try.prog 73 (qj_E n) :=
 EOK.ofS zb zc zg (tbl := qj_tbl n) (loops := qj_loops n) (an := qj_an) (old := [some true, some false]) (n := n) (c := qj_c) (fn := Try.f73) (TblOK.cons (AllE.cons (qc_ok n) AllE.nil) (TblOK.cons (AllE.cons (qaz_ok n) AllE.nil) TblOK.nil)) (by kernel_rfl) (by kernel_rfl) (by kernel_rfl) (by kernel_rfl) (fun d => by kernel_rfl) (LT.cons (by kernel_rfl) (qj_f0 n) LT.nil) (fun a => qj_run n a.1 a.2)
def qy_h0 : List StSh := [⟨.normal, [3, 14, 15, 16], (.cons (.ptr 0 0 0 0) (.cons (.sl true false yA) (.cons (.int .i64) (.cons (.int .i64) .nil)))), (.cons (.bcells 0 false 1 (.cons (.msw 1 0) .nil)) (.cons (.bts 0 false false false (.int .u8)) .nil))⟩]
def qy_o0 : List StSh := [⟨.exit 0, [3], (.cons (.ptr 0 0 0 0) .nil), (.cons (.bcells 0 false 1 (.cons (.msw 1 0) .nil)) (.cons (.bts 0 false false false (.int .u8)) .nil))⟩]
def qy_L0 (n : Nat) : LEntry := ⟨qy_h0, qy_o0, qy_W0 n⟩
def qy_res : List StSh := [⟨.ret, [0], (.cons (.sl false false (.int .u8)) .nil), .nil⟩]
def qy_tbl (n : Nat) : FuncId → List Entry := fun f => bif Nat.beq f 72 then [ql_E n] else bif Nat.beq f 73 then [qj_E n] else []
def qy_loops (n : Nat) : Nat → Option LEntry := fun f => bif Nat.beq f 0 then some (qy_L0 n) else none
theorem qy_r0 (n : Nat) (t14 : DI) (t15 : Int) (t16 : Int) (m1 : DC) : roundK (real _) tab (qy_tbl n) (qy_loops n) qy_an [] qy_l0 0 [3, 14, 15, 16] qy_h0 qy_o0 ((t14, (t15, t16)), m1) some = qy_B0 n t14 t15 t16 m1 := by kernel_rfl
theorem qy_f0 (n : Nat) : LoopFact tab (qy_tbl n) (qy_loops n) qy_an [] n 0 qy_l0 (qy_L0 n) := ⟨[3, 14, 15, 16], (fun s => qy_B0 n s.1.1 s.1.2.1 s.1.2.2 s.2), by kernel_rfl, by kernel_rfl, fun s => rfl, fun s => qy_r0 n s.1.1 s.1.2.1 s.1.2.2 s.2⟩
theorem qy_run (n : Nat) (m_0 : DI) (m_0_1 : DH) (m_0_2 : DJ) (m_0_3 : DC) (m_0_4 : DD) : funDS (real _) tab (qy_tbl n) (qy_loops n) qy_an Try.f42 0 qy_a qy_res (m_0, (m_0_1, (m_0_2, (m_0_3, m_0_4)))) some = qy n m_0 m_0_1 m_0_2 m_0_3 m_0_4 := by kernel_rfl
def qy_E (n : Nat) : Entry := ⟨qy_a, qy_res, fun d => qy n d.1 d.2.1 d.2.2.1 d.2.2.2.1 d.2.2.2.2⟩
theorem qy_ok (n : Nat) : EOK Try.prog 42 (qy_E n) :=
 EOK.ofS zb zc zg (tbl := qy_tbl n) (loops := qy_loops n) (an := qy_an) (old := []) (n := n) (c := qy_c) (fn := Try.f42) (TblOK.cons (AllE.cons (ql_ok n) AllE.nil) (TblOK.cons (AllE.cons (qj_ok n) AllE.nil) TblOK.nil)) (by kernel_rfl) (by kernel_rfl) (by kernel_rfl) (by kernel_rfl) (fun d => by kernel_rfl) (LT.cons (by kernel_rfl) (qy_f0 n) LT.nil) (fun a => qy_run n a.1 a.2.1 a.2.2.1 a.2.2.2.1 a.2.2.2.2)
def qp_an : Ann := { live := [(0, [3, 16, 17, 18]), (2, [3, 16, 17, 18, 47, 48, 49])], boxed := [(7, 8), (13, 7)] }
def qp_c : Code := (match Try.f43.body with | some c => c | none => .skip)
def qp_l0 : Code := (match assoc 0 (loopsIn qp_c 0) with | some c => c | none => .skip)
def qp_l2 : Code := (match assoc 2 (loopsIn qp_c 0) with | some c => c | none => .skip)
def qp_a : StSh := ⟨.normal, [0], (.cons (.agg (.cons (.sl true false yA) (.cons (.sl true true yC) (.cons (.sl true true yB) (.cons (.sl true false (.int .u64)) (.cons (.sl true false .str) .nil)))))) .nil), .nil⟩
def qp_h2 : List StSh := [⟨.normal, [3, 16, 17, 18, 47, 48, 49], (.cons (.ptr 0 0 0 0) (.cons (.sl true true yC) (.cons (.int .i64) (.cons (.int .i64) (.cons (.sl true true yE) (.cons (.int .i64) (.cons (.int .i64) .nil))))))), (.cons (.bcells 0 false 1 (.cons (.msw 1 0) .nil)) (.cons (.bts 0 false false false (.int .u8)) .nil))⟩]
def qp_o2 : List StSh := [⟨.exit 2, [3, 16, 17, 18], (.cons (.ptr 0 0 0 0) (.cons (.sl true true yC) (.cons (.int .i64) (.cons (.int .i64) .nil)))), (.cons (.bcells 0 false 1 (.cons (.msw 1 0) .nil)) (.cons (.bts 0 false false false (.int .u8)) .nil))⟩]
def qp_L2 (n : Nat) : LEntry := ⟨qp_h2, qp_o2, qp_W2 n⟩
def qp_h0 : List StSh := [⟨.normal, [3, 16, 17, 18], (.cons (.ptr 0 0 0 0) (.cons (.sl true true yC) (.cons (.int .i64) (.cons (.int .i64) .nil)))), (.cons (.bcells 0 false 1 (.cons (.msw 1 0) .nil)) (.cons (.bts 0 false false false (.int .u8)) .nil))⟩]
def qp_o0 : List StSh := [⟨.exit 0, [3], (.cons (.ptr 0 0 0 0) .nil), (.cons (.bcells 0 false 1 (.cons (.msw 1 0) .nil)) (.cons (.bts 0 false false false (.int .u8)) .nil))⟩]
def qp_L0 (n : Nat) : LEntry := ⟨qp_h0, qp_o0, qp_W0 n⟩
def qp_res : List StSh := [⟨.ret, [0], (.cons (.sl false false (.int .u8)) .nil), .nil⟩]
def qp_tbl (n : Nat) : FuncId → List Entry := fun f => bif Nat.beq f 72 then [ql_E n, qc_E n] else bif Nat.beq f 73 then [qj_E n] else bif Nat.beq f 74 then [qaz_E n] else bif Nat.beq f 75 then [qay_E n] else []
def qp_loops (n : Nat) : Nat → Option LEntry := fun f => bif Nat.beq f 2 then some (qp_L2 n) else bif Nat.beq f 0 then some (qp_L0 n) else none
theorem qp_r2 (n : Nat) (t16 : DH) (t17 : Int) (t18 : Int) (t47 : DB) (t48 : Int) (t49 : Int) (m1 : DC) : roundK (real _) tab (qp_tbl n) (qp_loops n) qp_an [] qp_l2 2 [3, 16, 17, 18, 47, 48, 49] qp_h2 qp_o2 ((t16, (t17, (t18, (t47, (t48, t49))))), m1) some = qp_B2 n t16 t17 t18 t47 t48 t49 m1 := by kernel_rfl
theorem qp_f2 (n : Nat) : LoopFact tab (qp_tbl n) (qp_loops n) qp_an [] n 2 qp_l2 (qp_L2 n) := ⟨[3, 16, 17, 18, 47, 48, 49], (fun s => qp_B2 n s.1.1 s.1.2.1 s.1.2.2.1 s.1.2.2.2.1 s.1.2.2.2.2.1 s.1.2.2.2.2.2 s.2), by kernel_rfl, by kernel_rfl, fun s => rfl, fun s => qp_r2 n s.1.1 s.1.2.1 s.1.2.2.1 s.1.2.2.2.1 s.1.2.2.2.2.1 s.1.2.2.2.2.2 s.2⟩
theorem qp_r0 (n : Nat) (t16 : DH) (t17 : Int) (t18 : Int) (m1 : DC) : roundK (real _) tab (qp_tbl n) (qp_loops n) qp_an [] qp_l0 0 [3, 16, 17, 18] qp_h0 qp_o0 ((t16, (t17, t18)), m1) some = qp_B0 n t16 t17 t18 m1 := by kernel_rfl
theorem qp_f0 (n : Nat) : LoopFact tab (qp_tbl n) (qp_loops n) qp_an [] n 0 qp_l0 (qp_L0 n) := ⟨[3, 16, 17, 18], (fun s => qp_B0 n s.1.1 s.1.2.1 s.1.2.2 s.2), by kernel_rfl, by kernel_rfl, fun s => rfl, fun s => qp_r0 n s.1.1 s.1.2.1 s.1.2.2 s.2⟩
theorem qp_run (n : Nat) (t0 : DI) (t0_1 : DH) (t0_2 : DJ) (t0_3 : DC) (t0_4 : DD) : funDS (real _) tab (qp_tbl n) (qp_loops n) qp_an Try.f43 0 qp_a qp_res (t0, (t0_1, (t0_2, (t0_3, t0_4)))) some = qp n t0 t0_1 t0_2 t0_3 t0_4 := by kernel_rfl
def qp_E (n : Nat) : Entry := ⟨qp_a, qp_res, fun d => qp n d.1 d.2.1 d.2.2.1 d.2.2.2.1 d.2.2.2.2⟩
theorem qp_ok (n : Nat) : EOK Try.prog 43 (qp_E n) :=
 EOK.ofS zb zc zg (tbl := qp_tbl n) (loops := qp_loops n) (an := qp_an) (old := []) (n := n) (c := qp_c) (fn := Try.f43) (TblOK.cons (AllE.cons (ql_ok n) (AllE.cons (qc_ok n) AllE.nil)) (TblOK.cons (AllE.cons (qj_ok n) AllE.nil) (TblOK.cons (AllE.cons (qaz_ok n) AllE.nil) (TblOK.cons (AllE.cons (qay_ok n) AllE.nil) TblOK.nil)))) (by kernel_rfl) (by kernel_rfl) (by kernel_rfl) (by kernel_rfl) (fun d => by kernel_rfl) (LT.cons (by kernel_rfl) (qp_f2 n) (LT.cons (by kernel_rfl) (qp_f0 n) LT.nil)) (fun a => qp_run n a.1 a.2.1 a.2.2.1 a.2.2.2.1 a.2.2.2.2)
def qab_an : Ann := { live := [(0, [3, 14, 15, 16])], boxed := [(7, 8)] }
def qab_c : Code := (match Try.f44.body with | some c => c | none => .skip)
def qab_l0 : Code := (match assoc 0 (loopsIn qab_c 0) with | some c => c | none => .skip)
def qab_a : StSh := ⟨.normal, [0], (.cons (.agg (.cons (.sl true false yA) (.cons (.sl true true yC) (.cons (.sl true true yB) (.cons (.sl true false (.int .u64)) (.cons (.sl true false .str) .nil)))))) .nil), .nil⟩
def qab_h0 : List StSh := [⟨.normal, [3, 14, 15, 16], (.cons (.ptr 0 0 0 0) (.cons (.sl true true yB) (.cons (.int .i64) (.cons (.int .i64) .nil)))), (.cons (.bcells 0 false 1 (.cons (.msw 1 0) .nil)) (.cons (.bts 0 false false false (.int .u8)) .nil))⟩]
def qab_o0 : List StSh := [⟨.exit 0, [3], (.cons (.ptr 0 0 0 0) .nil), (.cons (.bcells 0 false 1 (.cons (.msw 1 0) .nil)) (.cons (.bts 0 false false false (.int .u8)) .nil))⟩]
def qab_L0 (n : Nat) : LEntry := ⟨qab_h0, qab_o0, qab_W0 n⟩
def qab_res : List StSh := [⟨.ret, [0], (.cons (.sl false false (.int .u8)) .nil), .nil⟩]
def qab_tbl (n : Nat) : FuncId → List Entry := fun f => bif Nat.beq f 72 then [ql_E n] else bif Nat.beq f 73 then [qj_E n] else bif Nat.beq f 74 then [qaz_E n] else []
def qab_loops (n : Nat) : Nat → Option LEntry := fun f => bif Nat.beq f 0 then some (qab_L0 n) else none
theorem qab_r0 (n : Nat) (t14 : DJ) (t15 : Int) (t16 : Int) (m1 : DC) : roundK (real _) tab (qab_tbl n) (qab_loops n) qab_an [] qab_l0 0 [3, 14, 15, 16] qab_h0 qab_o0 ((t14, (t15, t16)), m1) some = qab_B0 n t14 t15 t16 m1 := by kernel_rfl
theorem qab_f0 (n : Nat) : LoopFact tab (qab_tbl n) (qab_loops n) qab_an [] n 0 qab_l0 (qab_L0 n) := ⟨[3, 14, 15, 16], (fun s => qab_B0 n s.1.1 s.1.2.1 s.1.2.2 s.2), by kernel_rfl, by kernel_rfl, fun s => rfl, fun s => qab_r0 n s.1.1 s.1.2.1 s.1.2.2 s.2⟩
theorem qab_run (n : Nat) (m_0 : DI) (m_0_1 : DH) (m_0_2 : DJ) (m_0_3 : DC) (m_0_4 : DD) : funDS (real _) tab (qab_tbl n) (qab_loops n) qab_an Try.f44 0 qab_a qab_res (m_0, (m_0_1, (m_0_2, (m_0_3, m_0_4)))) some = qab n m_0 m_0_1 m_0_2 m_0_3 m_0_4 := by kernel_rfl
def qab_E (n : Nat) : Entry := ⟨qab_a, qab_res, fun d => qab n d.1 d.2.1 d.2.2.1 d.2.2.2.1 d.2.2.2.2⟩
theorem qab_ok (n : Nat) : EOK Try.prog 44 (qab_E n) :=
 EOK.ofS zb zc zg (tbl := qab_tbl n) (loops := qab_loops n) (an := qab_an) (old := []) (n := n) (c := qab_c) (fn := Try.f44) (TblOK.cons (AllE.cons (ql_ok n) AllE.nil) (TblOK.cons (AllE.cons (qj_ok n) AllE.nil) (TblOK.cons (AllE.cons (qaz_ok n) AllE.nil) TblOK.nil))) (by kernel_rfl) (by kernel_rfl) (by kernel_rfl) (by kernel_rfl) (fun d => by kernel_rfl) (LT.cons (by kernel_rfl) (qab_f0 n) LT.nil) (fun a => qab_run n a.1 a.2.1 a.2.2.1 a.2.2.2.1 a.2.2.2.2)
def qaa_an : Ann := { live := [(0, [3, 14, 15, 16])], boxed := [(6, 7)] }
def qaa_c : Code := (match Try.f45.body with | some c => c | none => .skip)
def qaa_l0 : Code := (match assoc 0 (loopsIn qaa_c 0) with | some c => c | none => .skip)
def qaa_a : StSh := ⟨.normal, [0], (.cons (.agg (.cons (.sl true false yA) (.cons (.sl true true yC) (.cons (.sl true true yB) (.cons (.sl true false (.int .u64)) (.cons (.sl true false .str) .nil)))))) .nil), .nil⟩
def qax_an : Ann := { live := [(0, [0, 5, 9, 10])], boxed := [(1, 0), (5, 7)] }
def qax_c : Code := (match Try.f76.body with | some c => c | none => .skip)
def qax_l0 : Code := (match assoc 0 (loopsIn qax_c 0) with | some c => c | none => .skip)
def qax_a : StSh := ⟨.normal, [0, 1], (.cons (.int .u64) (.cons (.int .i64) .nil)), .nil⟩
def qax_h0 : List StSh := [⟨.normal, [0, 5, 9, 10], (.cons (.int .u64) (.cons (.msw 0 0) (.cons (.int .i64) (.cons (.int .i64) .nil)))), (.cons (.bts 0 false false false (.int .u8)) .nil)⟩]
def qax_o0 : List StSh := [⟨.exit 0, [5], (.cons (.msw 0 0) .nil), (.cons (.bts 0 false false false (.int .u8)) .nil)⟩]
def qax_L0 (n : Nat) : LEntry := ⟨qax_h0, qax_o0, qax_W0 n⟩
def qax_res : List StSh := [⟨.ret, [0], (.cons (.sl false false (.int .u8)) .nil), .nil⟩]
def qax_tbl (n : Nat) : FuncId → List Entry := fun f => []
def qax_loops (n : Nat) : Nat → Option LEntry := fun f => bif Nat.beq f 0 then some (qax_L0 n) else none
theorem qax_r0 (n : Nat) (v_0 : Int) (t9 : Int) (t10 : Int) (m0 : DC) : roundK (real _) tab (qax_tbl n) (qax_loops n) qax_an [] qax_l0 0 [0, 5, 9, 10] qax_h0 qax_o0 ((v_0, (t9, t10)), m0) some = qax_B0 n v_0 t9 t10 m0 := by kernel_rfl
theorem qax_f0 (n : Nat) : LoopFact tab (qax_tbl n) (qax_loops n) qax_an [] n 0 qax_l0 (qax_L0 n) := ⟨[0, 5, 9, 10], (fun s => qax_B0 n s.1.1 s.1.2.1 s.1.2.2 s.2), by kernel_rfl, by kernel_rfl, fun s => rfl, fun s => qax_r0 n s.1.1 s.1.2.1 s.1.2.2 s.2⟩
theorem qax_run (n : Nat) (v_0 : Int) (n_1 : Int) : funDS (real _) tab (qax_tbl n) (qax_loops n) qax_an Try.f76 0 qax_a qax_res (v_0, n_1) some = qax n v_0 n_1 := by kernel_rfl
def qax_E (n : Nat) : Entry := ⟨qax_a, qax_res, fun d => qax n d.1 d.2⟩
theorem qax_ok (n : Nat) : EOK Try.prog 76 (qax_E n) :=
 EOK.ofS zb zc zg (tbl := qax_tbl n) (loops := qax_loops n) (an := qax_an) (old := []) (n := n) (c := qax_c) (fn := Try.f76) TblOK.nil (by kernel_rfl) (by kernel_rfl) (by kernel_rfl) (by kernel_rfl) (fun d => by kernel_rfl) (LT.cons (by kernel_rfl) (qax_f0 n) LT.nil) (fun a => qax_run n a.1 a.2)
def qaa_h0 : List StSh := [⟨.normal, [3, 14, 15, 16], (.cons (.ptr 0 0 0 0) (.cons (.sl true false (.int .u64)) (.cons (.int .i64) (.cons (.int .i64) .nil)))), (.cons (.bcells 0 false 1 (.cons (.msw 1 0) .nil)) (.cons (.bts 0 false false false (.int .u8)) .nil))⟩]
def qaa_o0 : List StSh := [⟨.exit 0, [3], (.cons (.ptr 0 0 0 0) .nil), (.cons (.bcells 0 false 1 (.cons (.msw 1 0) .nil)) (.cons (.bts 0 false false false (.int .u8)) .nil))⟩]
def qaa_L0 (n : Nat) : LEntry := ⟨qaa_h0, qaa_o0, qaa_W0 n⟩
def qaa_res : List StSh := [⟨.ret, [0], (.cons (.sl false false (.int .u8)) .nil), .nil⟩]
def qaa_tbl (n : Nat) : FuncId → List Entry := fun f => bif Nat.beq f 72 then [ql_E n] else bif Nat.beq f 76 then [qax_E n] else []
def qaa_loops (n : Nat) : Nat → Option LEntry := fun f => bif Nat.beq f 0 then some (qaa_L0 n) else none
theorem qaa_r0 (n : Nat) (t14 : DC) (t15 : Int) (t16 : Int) (m1 : DC) : roundK (real _) tab (qaa_tbl n) (qaa_loops n) qaa_an [] qaa_l0 0 [3, 14, 15, 16] qaa_h0 qaa_o0 ((t14, (t15, t16)), m1) some = qaa_B0 n t14 t15 t16 m1 := by kernel_rfl
theorem qaa_f0 (n : Nat) : LoopFact tab (qaa_tbl n) (qaa_loops n) qaa_an [] n 0 qaa_l0 (qaa_L0 n) := ⟨[3, 14, 15, 16], (fun s => qaa_B0 n s.1.1 s.1.2.1 s.1.2.2 s.2), by kernel_rfl, by kernel_rfl, fun s => rfl, fun s => qaa_r0 n s.1.1 s.1.2.1 s.1.2.2 s.2⟩
theorem qaa_run (n : Nat) (m_0 : DI) (m_0_1 : DH) (m_0_2 : DJ) (m_0_3 : DC) (m_0_4 : DD) : funDS (real _) tab (qaa_tbl n) (qaa_loops n) qaa_an Try.f45 0 qaa_a qaa_res (m_0, (m_0_1, (m_0_2, (m_0_3, m_0_4)))) some = qaa n m_0 m_0_1 m_0_2 m_0_3 m_0_4 := by kernel_rfl
def qaa_E (n : Nat) : Entry := ⟨qaa_a, qaa_res, fun d => qaa n d.1 d.2.1 d.2.2.1 d.2.2.2.1 d.2.2.2.2⟩
theorem qaa_ok (n : Nat) : EOK Try.prog 45 (qaa_E n) :=
 EOK.ofS zb zc zg (tbl := qaa_tbl n) (loops := qaa_loops n) (an := qaa_an) (old := []) (n := n) (c := qaa_c) (fn := Try.f45) (TblOK.cons (AllE.cons (ql_ok n) AllE.nil) (TblOK.cons (AllE.cons (qax_ok n) AllE.nil) TblOK.nil)) (by kernel_rfl) (by kernel_rfl) (by kernel_rfl) (by kernel_rfl) (fun d => by kernel_rfl) (LT.cons (by kernel_rfl) (qaa_f0 n) LT.nil) (fun a => qaa_run n a.1 a.2.1 a.2.2.1 a.2.2.2.1 a.2.2.2.2)
def qaj_an : Ann := { live := [(0, [3, 14, 15, 16])], boxed := [(7, 6)] }
def qaj_c : Code := (match Try.f46.body with | some c => c | none => .skip)
def qaj_l0 : Code := (match assoc 0 (loopsIn qaj_c 0) with | some c => c | none => .skip)
def qaj_a : StSh := ⟨.normal, [0], (.cons (.agg (.cons (.sl true false yA) (.cons (.sl true true yC) (.cons (.sl true true yB) (.cons (.sl true false (.int .u64)) (.cons (.sl true false .str) .nil)))))) .nil), .nil⟩
def qaj_h0 : List StSh := [⟨.normal, [3, 14, 15, 16], (.cons (.ptr 0 0 0 0) (.cons (.sl true false .str) (.cons (.int .i64) (.cons (.int .i64) .nil)))), (.cons (.bcells 0 false 1 (.cons (.msw 1 0) .nil)) (.cons (.bts 0 false false false (.int .u8)) .nil))⟩]
def qaj_o0 : List StSh := [⟨.exit 0, [3], (.cons (.ptr 0 0 0 0) .nil), (.cons (.bcells 0 false 1 (.cons (.msw 1 0) .nil)) (.cons (.bts 0 false false false (.int .u8)) .nil))⟩]
def qaj_L0 (n : Nat) : LEntry := ⟨qaj_h0, qaj_o0, qaj_W0 n⟩
def qaj_res : List StSh := [⟨.ret, [0], (.cons (.sl false false (.int .u8)) .nil), .nil⟩]
def qaj_tbl (n : Nat) : FuncId → List Entry := fun f => bif Nat.beq f 72 then [ql_E n, qc_E n] else []
def qaj_loops (n : Nat) : Nat → Option LEntry := fun f => bif Nat.beq f 0 then some (qaj_L0 n) else none
theorem qaj_r0 (n : Nat) (t14 : DD) (t15 : Int) (t16 : Int) (m1 : DC) : roundK (real _) tab (qaj_tbl n) (qaj_loops n) qaj_an [] qaj_l0 0 [3, 14, 15, 16] qaj_h0 qaj_o0 ((t14, (t15, t16)), m1) some = qaj_B0 n t14 t15 t16 m1 := by kernel_rfl
theorem qaj_f0 (n : Nat) : LoopFact tab (qaj_tbl n) (qaj_loops n) qaj_an [] n 0 qaj_l0 (qaj_L0 n) := ⟨[3, 14, 15, 16], (fun s => qaj_B0 n s.1.1 s.1.2.1 s.1.2.2 s.2), by kernel_rfl, by kernel_rfl, fun s => rfl, fun s => qaj_r0 n s.1.1 s.1.2.1 s.1.2.2 s.2⟩
theorem qaj_run (n : Nat) (m_0 : DI) (m_0_1 : DH) (m_0_2 : DJ) (m_0_3 : DC) (m_0_4 : DD) : funDS (real _) tab (qaj_tbl n) (qaj_loops n) qaj_an Try.f46 0 qaj_a qaj_res (m_0, (m_0_1, (m_0_2, (m_0_3, m_0_4)))) some = qaj n m_0 m_0_1 m_0_2 m_0_3 m_0_4 := by kernel_rfl
def qaj_E (n : Nat) : Entry := ⟨qaj_a, qaj_res, fun d => qaj n d.1 d.2.1 d.2.2.1 d.2.2.2.1 d.2.2.2.2⟩
theorem qaj_ok (n : Nat) : EOK Try.prog 46 (qaj_E n) :=
 EOK.ofS zb zc zg (tbl := qaj_tbl n) (loops := qaj_loops n) (an := qaj_an) (old := []) (n := n) (c := qaj_c) (fn := Try.f46) (TblOK.cons (AllE.cons (ql_ok n) (AllE.cons (qc_ok n) AllE.nil)) TblOK.nil) (by kernel_rfl) (by kernel_rfl) (by kernel_rfl) (by kernel_rfl) (fun d => by kernel_rfl) (LT.cons (by kernel_rfl) (qaj_f0 n) LT.nil) (fun a => qaj_run n a.1 a.2.1 a.2.2.1 a.2.2.2.1 a.2.2.2.2)
def qaw_an : Ann := { live := [(0, [3, 10, 11, 12])], boxed := [(5, 5), (6, 2)], raw := [(1, 3)] }
def qaw_c : Code := (match Try.f41.body with | some c => c | none => .skip)
def qaw_l0 : Code := (match assoc 0 (loopsIn qaw_c 0) with | some c => c | none => .skip)
def qaw_a : StSh := ⟨.normal, [0], (.cons (.sl true false yF) .nil), .nil⟩
def qaw_h0 : List StSh := [⟨.normal, [3, 10, 11, 12], (.cons (.msw 0 0) (.cons (.sl true false yF) (.cons (.int .i64) (.cons (.int .i64) .nil)))), (.cons (.bts 0 false false false (.int .u8)) .nil)⟩]
def qaw_o0 : List StSh := [⟨.exit 0, [3], (.cons (.msw 0 0) .nil), (.cons (.bts 0 false false false (.int .u8)) .nil)⟩]
def qaw_L0 (n : Nat) : LEntry := ⟨qaw_h0, qaw_o0, qaw_W0 n⟩
def qaw_res : List StSh := [⟨.ret, [0], (.cons (.sl false false (.int .u8)) .nil), .nil⟩]
def qaw_tbl (n : Nat) : FuncId → List Entry := fun f => bif Nat.beq f 71 then [qbb_E n] else []
def qaw_loops (n : Nat) : Nat → Option LEntry := fun f => bif Nat.beq f 0 then some (qaw_L0 n) else none
theorem qaw_r0 (n : Nat) (t10 : DK) (t11 : Int) (t12 : Int) (m0 : DC) : roundK (real _) tab (qaw_tbl n) (qaw_loops n) qaw_an [] qaw_l0 0 [3, 10, 11, 12] qaw_h0 qaw_o0 ((t10, (t11, t12)), m0) some = qaw_B0 n t10 t11 t12 m0 := by kernel_rfl
theorem qaw_f0 (n : Nat) : LoopFact tab (qaw_tbl n) (qaw_loops n) qaw_an [] n 0 qaw_l0 (qaw_L0 n) := ⟨[3, 10, 11, 12], (fun s => qaw_B0 n s.1.1 s.1.2.1 s.1.2.2 s.2), by kernel_rfl, by kernel_rfl, fun s => rfl, fun s => qaw_r0 n s.1.1 s.1.2.1 s.1.2.2 s.2⟩
theorem qaw_run (n : Nat) (parts_0 : DK) : funDS (real _) tab (qaw_tbl n) (qaw_loops n) qaw_an Try.f41 0 qaw_a qaw_res parts_0 some = qaw n parts_0 := by kernel_rfl
def qaw_E (n : Nat) : Entry := ⟨qaw_a, qaw_res, fun d => qaw n d⟩
theorem qaw_ok (n : Nat) : EOK Try.prog 41 (qaw_E n) :=
 EOK.ofS zb zc zg (tbl := qaw_tbl n) (loops := qaw_loops n) (an := qaw_an) (old := []) (n := n) (c := qaw_c) (fn := Try.f41) (TblOK.cons (AllE.cons (qbb_ok n) AllE.nil) TblOK.nil) (by kernel_rfl) (by kernel_rfl) (by kernel_rfl) (by kernel_rfl) (fun d => by kernel_rfl) (LT.cons (by kernel_rfl) (qaw_f0 n) LT.nil) (fun a => qaw_run n a)
def qad_res : List StSh := [⟨.ret, [0], (.cons (.tup (.cons (.sl false false (.int .u8)) (.cons (.int .i64) .nil))) .nil), .nil⟩]
def qad_tbl (n : Nat) : FuncId → List Entry := fun f => bif Nat.beq f 40 then [qaq_E n] else bif Nat.beq f 42 then [qy_E n] else bif Nat.beq f 43 then [qp_E n] else bif Nat.beq f 44 then [qab_E n] else bif Nat.beq f 45 then [qaa_E n] else bif Nat.beq f 46 then [qaj_E n] else bif Nat.beq f 41 then [qaw_E n] else []
def qad_loops (n : Nat) : Nat → Option LEntry := fun f => none
theorem qad_run (n : Nat) (m_0 : DI) (m_0_1 : DH) (m_0_2 : DJ) (m_0_3 : DC) (m_0_4 : DD) : funDS (real _) tab (qad_tbl n) (qad_loops n) qad_an Try.f14 0 qad_a qad_res (m_0, (m_0_1, (m_0_2, (m_0_3, m_0_4)))) some = qad n m_0 m_0_1 m_0_2 m_0_3 m_0_4 := by kernel_rfl
def qad_E (n : Nat) : Entry := ⟨qad_a, qad_res, fun d => qad n d.1 d.2.1 d.2.2.1 d.2.2.2.1 d.2.2.2.2⟩
theorem qad_ok (n : Nat) : EOK Try.prog 14 (qad_E n) :=
 EOK.ofS zb zc zg (tbl := qad_tbl n) (loops := qad_loops n) (an := qad_an) (old := []) (n := n) (c := qad_c) (fn := Try.f14) (TblOK.cons (AllE.cons (qaq_ok n) AllE.nil) (TblOK.cons (AllE.cons (qy_ok n) AllE.nil) (TblOK.cons (AllE.cons (qp_ok n) AllE.nil) (TblOK.cons (AllE.cons (qab_ok n) AllE.nil) (TblOK.cons (AllE.cons (qaa_ok n) AllE.nil) (TblOK.cons (AllE.cons (qaj_ok n) AllE.nil) (TblOK.cons (AllE.cons (qaw_ok n) AllE.nil) TblOK.nil))))))) (by kernel_rfl) (by kernel_rfl) (by kernel_rfl) (by kernel_rfl) (fun d => by kernel_rfl) LT.nil (fun a => qad_run n a.1 a.2.1 a.2.2.1 a.2.2.2.1 a.2.2.2.2)
def qb_an : Ann := {}
def qb_c : Code := (match Try.f18.body with | some c => c | none => .skip)
def qb_a : StSh := ⟨.normal, [0, 1], (.cons (.sl true true yE) (.cons (.fn 16 .nil (.cons (.ptr 0 0 0 0) (.cons (.ptr 1 0 0 0) .nil))) .nil)), (.cons (.bcells 0 false 1 (.cons (.sl true false yA) (.cons (.sl true true yC) (.cons (.sl true true yB) (.cons (.sl true false (.int .u64)) (.cons (.sl true false .str) .nil)))))) (.cons (.bcells 0 false 1 (.cons (.sl true true yD) (.cons (.int .i64) (.cons (.int .i64) (.cons (.sl true true yD) (.cons (.sl true true yE) .nil)))))) .nil))⟩
def qm_an : Ann := { live := [(0, [0, 1, 7, 8])] }
def qm_c : Code := (match Try.f51.body with | some c => c | none => .skip)
def qm_l0 : Code := (match assoc 0 (loopsIn qm_c 0) with | some c => c | none => .skip)
def qm_a : StSh := ⟨.normal, [0, 1], (.cons (.sl true true yE) (.cons (.fn 16 .nil (.cons (.ptr 0 0 0 0) (.cons (.ptr 1 0 0 0) .nil))) .nil)), (.cons (.bcells 0 false 1 (.cons (.sl true false yA) (.cons (.sl true true yC) (.cons (.sl true true yB) (.cons (.sl true false (.int .u64)) (.cons (.sl true false .str) .nil)))))) (.cons (.bcells 0 false 1 (.cons (.sl true true yD) (.cons (.int .i64) (.cons (.int .i64) (.cons (.sl true true yD) (.cons (.sl true true yE) .nil)))))) .nil))⟩
def qao_an : Ann := {}
def qao_c : Code := (match Try.f16.body with | some c => c | none => .skip)
def qao_a : StSh := ⟨.normal, [0, 1, 2], (.cons (.agg (.cons (.int .i64) (.cons (.int .i64) (.cons (.int .i64) .nil)))) (.cons (.ptr 0 0 0 0) (.cons (.ptr 1 0 0 0) .nil))), (.cons (.bcells 0 false 1 (.cons (.sl true false yA) (.cons (.sl true true yC) (.cons (.sl true true yB) (.cons (.sl true false (.int .u64)) (.cons (.sl true false .str) .nil)))))) (.cons (.bcells 0 false 1 (.cons (.sl true true yD) (.cons (.int .i64) (.cons (.int .i64) (.cons (.sl true true yD) (.cons (.sl true true yE) .nil)))))) .nil))⟩
def saneNames_an : Ann := {}
def saneNames_c : Code := (match Try.f17.body with | some c => c | none => .skip)
def saneNames_a : StSh := ⟨.normal, [0, 1, 2], (.cons (.agg (.cons (.sl true false yA) (.cons (.sl true true yC) (.cons (.sl true true yB) (.cons (.sl true false (.int .u64)) (.cons (.sl true false .str) .nil)))))) (.cons (.agg (.cons (.sl true true yD) (.cons (.int .i64) (.cons (.int .i64) (.cons (.sl true true yD) (.cons (.sl true true yE) .nil)))))) (.cons (.agg (.cons (.int .i64) (.cons (.int .i64) (.cons (.int .i64) .nil)))) .nil))), .nil⟩
def qas_an : Ann := {}
def qas_c : Code := (match Try.f50.body with | some c => c | none => .skip)
def qas_a : StSh := ⟨.normal, [0, 1], (.cons (.int .i64) (.cons (.int .i64) .nil)), .nil⟩
def qas_res : List StSh := [⟨.ret, [0], (.cons .bool .nil), .nil⟩]
def qas_tbl (n : Nat) : FuncId → List Entry := fun f => []
def qas_loops (n : Nat) : Nat → Option LEntry := fun f => none
theorem qas_run (n : Nat) (n_0 : Int) (most_1 : Int) : funDS (real _) tab (qas_tbl n) (qas_loops n) qas_an Try.f50 0 qas_a qas_res (n_0, most_1) some = qas n n_0 most_1 := by kernel_rfl
def qas_E (n : Nat) : Entry := ⟨qas_a, qas_res, fun d => qas n d.1 d.2⟩
theorem qas_ok (n : Nat) : EOK Try.prog 50 (qas_E n) :=
 EOK.ofS zb zc zg (tbl := qas_tbl n) (loops := qas_loops n) (an := qas_an) (old := []) (n := n) (c := qas_c) (fn := Try.f50) TblOK.nil (by kernel_rfl) (by kernel_rfl) (by kernel_rfl) (by kernel_rfl) (fun d => by kernel_rfl) LT.nil (fun a => qas_run n a.1 a.2)
def saneNames_res : List StSh := [⟨.ret, [0], (.cons .bool .nil), .nil⟩]
def saneNames_tbl (n : Nat) : FuncId → List Entry := fun f => bif Nat.beq f 50 then [qas_E n] else []
def saneNames_loops (n : Nat) : Nat → Option LEntry := fun f => none
theorem ziE (n : Nat) (t0 : DI) (t0_1 : DH) (t0_2 : DJ) (t0_3 : DC) (t0_4 : DD) (t1 : DA) (t1_1 : Int) (t1_2 : Int) (t1_3 : DA) (t1_4 : DB) (t2 : Int) (t2_1 : Int) (t2_2 : Int) : funDS (real _) tab (saneNames_tbl n) (saneNames_loops n) saneNames_an Try.f17 0 saneNames_a saneNames_res ((t0, (t0_1, (t0_2, (t0_3, t0_4)))), ((t1, (t1_1, (t1_2, (t1_3, t1_4)))), (t2, (t2_1, t2_2)))) some = saneNames n t0 t0_1 t0_2 t0_3 t0_4 t1 t1_1 t1_2 t1_3 t1_4 t2 t2_1 t2_2 := by kernel_rfl
def saneNames_E (n : Nat) : Entry := ⟨saneNames_a, saneNames_res, fun d => saneNames n d.1.1 d.1.2.1 d.1.2.2.1 d.1.2.2.2.1 d.1.2.2.2.2 d.2.1.1 d.2.1.2.1 d.2.1.2.2.1 d.2.1.2.2.2.1 d.2.1.2.2.2.2 d.2.2.1 d.2.2.2.1 d.2.2.2.2⟩
theorem zjT (n : Nat) : EOK Try.prog 17 (saneNames_E n) :=
 EOK.ofS zb zc zg (tbl := saneNames_tbl n) (loops := saneNames_loops n) (an := saneNames_an) (old := []) (n := n) (c := saneNames_c) (fn := Try.f17) (TblOK.cons (AllE.cons (qas_ok n) AllE.nil) TblOK.nil) (by kernel_rfl) (by kernel_rfl) (by kernel_rfl) (by kernel_rfl) (fun d => by kernel_rfl) LT.nil (fun a => ziE n a.1.1 a.1.2.1 a.1.2.2.1 a.1.2.2.2.1 a.1.2.2.2.2 a.2.1.1 a.2.1.2.1 a.2.1.2.2.1 a.2.1.2.2.2.1 a.2.1.2.2.2.2 a.2.2.1 a.2.2.2.1 a.2.2.2.2)
def qao_res : List StSh := [⟨.ret, [0], (.cons .bool .nil), (.cons (.bcells 0 false 1 (.cons (.sl true false yA) (.cons (.sl true true yC) (.cons (.sl true true yB) (.cons (.sl true false (.int .u64)) (.cons (.sl true false .str) .nil)))))) (.cons (.bcells 0 false 1 (.cons (.sl true true yD) (.cons (.int .i64) (.cons (.int .i64) (.cons (.sl true true yD) (.cons (.sl true true yE) .nil)))))) .nil))⟩]
def qao_tbl (n : Nat) : FuncId → List Entry := fun f => bif Nat.beq f 17 then [saneNames_E n] else []
def qao_loops (n : Nat) : Nat → Option LEntry := fun f => none
theorem qao_run (n : Nat) (i_0 : Int) (i_0_1 : Int) (i_0_2 : Int) (m0 : DI) (m0_1 : DH) (m0_2 : DJ) (m0_3 : DC) (m0_4 : DD) (m1 : DA) (m1_1 : Int) (m1_2 : Int) (m1_3 : DA) (m1_4 : DB) : funDS (real _) tab (qao_tbl n) (qao_loops n) qao_an Try.f16 2 qao_a qao_res ((i_0, (i_0_1, i_0_2)), ((m0, (m0_1, (m0_2, (m0_3, m0_4)))), (m1, (m1_1, (m1_2, (m1_3, m1_4)))))) some = qao n i_0 i_0_1 i_0_2 m0 m0_1 m0_2 m0_3 m0_4 m1 m1_1 m1_2 m1_3 m1_4 := by kernel_rfl
def qao_E (n : Nat) : Entry := ⟨qao_a, qao_res, fun d => qao n d.1.1 d.1.2.1 d.1.2.2 d.2.1.1 d.2.1.2.1 d.2.1.2.2.1 d.2.1.2.2.2.1 d.2.1.2.2.2.2 d.2.2.1 d.2.2.2.1 d.2.2.2.2.1 d.2.2.2.2.2.1 d.2.2.2.2.2.2⟩
theorem qao_ok (n : Nat) : EOK Try.prog 16 (qao_E n) :=
 EOK.ofS zb zc zg (tbl := qao_tbl n) (loops := qao_loops n) (an := qao_an) (old := [some true, some true]) (n := n) (c := qao_c) (fn := Try.f16) (TblOK.cons (AllE.cons (zjT n) AllE.nil) TblOK.nil) (by kernel_rfl) (by kernel_rfl) (by kernel_rfl) (by kernel_rfl) (fun d => by kernel_rfl) LT.nil (fun a => qao_run n a.1.1 a.1.2.1 a.1.2.2 a.2.1.1 a.2.1.2.1 a.2.1.2.2.1 a.2.1.2.2.2.1 a.2.1.2.2.2.2 a.2.2.1 a.2.2.2.1 a.2.2.2.2.1 a.2.2.2.2.2.1 a.2.2.2.2.2.2)
def qm_h0 : List StSh := [⟨.normal, [0, 1, 7, 8], (.cons (.sl true true yE) (.cons (.fn 16 .nil (.cons (.ptr 0 0 0 0) (.cons (.ptr 1 0 0 0) .nil))) (.cons (.int .i64) (.cons (.int .i64) .nil)))), (.cons (.bcells 0 false 1 (.cons (.sl true false yA) (.cons (.sl true true yC) (.cons (.sl true true yB) (.cons (.sl true false (.int .u64)) (.cons (.sl true false .str) .nil)))))) (.cons (.bcells 0 false 1 (.cons (.sl true true yD) (.cons (.int .i64) (.cons (.int .i64) (.cons (.sl true true yD) (.cons (.sl true true yE) .nil)))))) .nil))⟩]
def qm_o0 : List StSh := [⟨.ret, [4], (.cons (.int .i64) .nil), (.cons (.bcells 0 false 1 (.cons (.sl true false yA) (.cons (.sl true true yC) (.cons (.sl true true yB) (.cons (.sl true false (.int .u64)) (.cons (.sl true false .str) .nil)))))) (.cons (.bcells 0 false 1 (.cons (.sl true true yD) (.cons (.int .i64) (.cons (.int .i64) (.cons (.sl true true yD) (.cons (.sl true true yE) .nil)))))) .nil))⟩, ⟨.exit 0, [], .nil, (.cons (.bcells 0 false 1 (.cons (.sl true false yA) (.cons (.sl true true yC) (.cons (.sl true true yB) (.cons (.sl true false (.int .u64)) (.cons (.sl true false .str) .nil)))))) (.cons (.bcells 0 false 1 (.cons (.sl true true yD) (.cons (.int .i64) (.cons (.int .i64) (.cons (.sl true true yD) (.cons (.sl true true yE) .nil)))))) .nil))⟩]
def qm_L0 (n : Nat) : LEntry := ⟨qm_h0, qm_o0, qm_W0 n⟩
def qm_res : List StSh := [⟨.ret, [0], (.cons (.int .i64) .nil), (.cons (.bcells 0 false 1 (.cons (.sl true false yA) (.cons (.sl true true yC) (.cons (.sl true true yB) (.cons (.sl true false (.int .u64)) (.cons (.sl true false .str) .nil)))))) (.cons (.bcells 0 false 1 (.cons (.sl true true yD) (.cons (.int .i64) (.cons (.int .i64) (.cons (.sl true true yD) (.cons (.sl true true yE) .nil)))))) .nil))⟩]
def qm_tbl (n : Nat) : FuncId → List Entry := fun f => bif Nat.beq f 16 then [qao_E n] else []
def qm_loops (n : Nat) : Nat → Option LEntry := fun f => bif Nat.beq f 0 then some (qm_L0 n) else none
theorem qm_r0 (n : Nat) (s_0 : DB) (t7 : Int) (t8 : Int) (m0 : DI) (m0_1 : DH) (m0_2 : DJ) (m0_3 : DC) (m0_4 : DD) (m1 : DA) (m1_1 : Int) (m1_2 : Int) (m1_3 : DA) (m1_4 : DB) : roundK (real _) tab (qm_tbl n) (qm_loops n) qm_an [some true, some true] qm_l0 0 [0, 1, 7, 8] qm_h0 qm_o0 ((s_0, (t7, t8)), ((m0, (m0_1, (m0_2, (m0_3, m0_4)))), (m1, (m1_1, (m1_2, (m1_3, m1_4)))))) some = qm_B0 n s_0 t7 t8 m0 m0_1 m0_2 m0_3 m0_4 m1 m1_1 m1_2 m1_3 m1_4 := by kernel_rfl
theorem qm_f0 (n : Nat) : LoopFact tab (qm_tbl n) (qm_loops n) qm_an [some true, some true] n 0 qm_l0 (qm_L0 n) := ⟨[0, 1, 7, 8], (fun s => qm_B0 n s.1.1 s.1.2.1 s.1.2.2 s.2.1.1 s.2.1.2.1 s.2.1.2.2.1 s.2.1.2.2.2.1 s.2.1.2.2.2.2 s.2.2.1 s.2.2.2.1 s.2.2.2.2.1 s.2.2.2.2.2.1 s.2.2.2.2.2.2), by kernel_rfl, by kernel_rfl, fun s => rfl, fun s => qm_r0 n s.1.1 s.1.2.1 s.1.2.2 s.2.1.1 s.2.1.2.1 s.2.1.2.2.1 s.2.1.2.2.2.1 s.2.1.2.2.2.2 s.2.2.1 s.2.2.2.1 s.2.2.2.2.1 s.2.2.2.2.2.1 s.2.2.2.2.2.2⟩
theorem qm_run (n : Nat) (s_0 : DB) (m0 : DI) (m0_1 : DH) (m0_2 : DJ) (m0_3 : DC) (m0_4 : DD) (m1 : DA) (m1_1 : Int) (m1_2 : Int) (m1_3 : DA) (m1_4 : DB) : funDS (real _) tab (qm_tbl n) (qm_loops n) qm_an Try.f51 2 qm_a qm_res (s_0, ((m0, (m0_1, (m0_2, (m0_3, m0_4)))), (m1, (m1_1, (m1_2, (m1_3, m1_4)))))) some = qm n s_0 m0 m0_1 m0_2 m0_3 m0_4 m1 m1_1 m1_2 m1_3 m1_4 := by kernel_rfl
def qm_E (n : Nat) : Entry := ⟨qm_a, qm_res, fun d => qm n d.1 d.2.1.1 d.2.1.2.1 d.2.1.2.2.1 d.2.1.2.2.2.1 d.2.1.2.2.2.2 d.2.2.1 d.2.2.2.1 d.2.2.2.2.1 d.2.2.2.2.2.1 d.2.2.2.2.2.2⟩
theorem qm_ok (n : Nat) : EOK Try.prog 51 (qm_E n) :=
 EOK.ofS zb zc zg (tbl := qm_tbl n) (loops := qm_loops n) (an := qm_an) (old := [some true, some true]) (n := n) (c := qm_c) (fn := Try.f51) (TblOK.cons (AllE.cons (qao_ok n) AllE.nil) TblOK.nil) (by kernel_rfl) (by kernel_rfl) (by kernel_rfl) (by kernel_rfl) (fun d => by kernel_rfl) (LT.cons (by kernel_rfl) (qm_f0 n) LT.nil) (fun a => qm_run n a.1 a.2.1.1 a.2.1.2.1 a.2.1.2.2.1 a.2.1.2.2.2.1 a.2.1.2.2.2.2 a.2.2.1 a.2.2.2.1 a.2.2.2.2.1 a.2.2.2.2.2.1 a.2.2.2.2.2.2)
def qb_res : List StSh := [⟨.ret, [0], (.cons .bool .nil), (.cons (.bcells 0 false 1 (.cons (.sl true false yA) (.cons (.sl true true yC) (.cons (.sl true true yB) (.cons (.sl true false (.int .u64)) (.cons (.sl true false .str) .nil)))))) (.cons (.bcells 0 false 1 (.cons (.sl true true yD) (.cons (.int .i64) (.cons (.int .i64) (.cons (.sl true true yD) (.cons (.sl true true yE) .nil)))))) .nil))⟩]
def qb_tbl (n : Nat) : FuncId → List Entry := fun f => bif Nat.beq f 51 then [qm_E n] else []
def qb_loops (n : Nat) : Nat → Option LEntry := fun f => none
theorem qb_run (n : Nat) (s_0 : DB) (m0 : DI) (m0_1 : DH) (m0_2 : DJ) (m0_3 : DC) (m0_4 : DD) (m1 : DA) (m1_1 : Int) (m1_2 : Int) (m1_3 : DA) (m1_4 : DB) : funDS (real _) tab (qb_tbl n) (qb_loops n) qb_an Try.f18 2 qb_a qb_res (s_0, ((m0, (m0_1, (m0_2, (m0_3, m0_4)))), (m1, (m1_1, (m1_2, (m1_3, m1_4)))))) some = qb n s_0 m0 m0_1 m0_2 m0_3 m0_4 m1 m1_1 m1_2 m1_3 m1_4 := by kernel_rfl
def qb_E (n : Nat) : Entry := ⟨qb_a, qb_res, fun d => qb n d.1 d.2.1.1 d.2.1.2.1 d.2.1.2.2.1 d.2.1.2.2.2.1 d.2.1.2.2.2.2 d.2.2.1 d.2.2.2.1 d.2.2.2.2.1 d.2.2.2.2.2.1 d.2.2.2.2.2.2⟩
theorem qb_ok (n : Nat) : EOK Try.prog 18 (qb_E n) :=
 EOK.ofS zb zc zg (tbl := qb_tbl n) (loops := qb_loops n) (an := qb_an) (old := [some true, some true]) (n := n) (c := qb_c) (fn := Try.f18) (TblOK.cons (AllE.cons (qm_ok n) AllE.nil) TblOK.nil) (by kernel_rfl) (by kernel_rfl) (by kernel_rfl) (by kernel_rfl) (fun d => by kernel_rfl) LT.nil (fun a => qb_run n a.1 a.2.1.1 a.2.1.2.1 a.2.1.2.2.1 a.2.1.2.2.2.1 a.2.1.2.2.2.2 a.2.2.1 a.2.2.2.1 a.2.2.2.2.1 a.2.2.2.2.2.1 a.2.2.2.2.2.2)
def qg_an : Ann := {}
def qg_c : Code := (match Try.f19.body with | some c => c | none => .skip)
def qg_a : StSh := ⟨.normal, [0, 1], (.cons (.sl true true yD) (.cons (.fn 20 .nil .nil) .nil)), .nil⟩
def qt_an : Ann := { live := [(0, [0, 1, 7, 8])] }
def qt_c : Code := (match Try.f52.body with | some c => c | none => .skip)
def qt_l0 : Code := (match assoc 0 (loopsIn qt_c 0) with | some c => c | none => .skip)
def qt_a : StSh := ⟨.normal, [0, 1], (.cons (.sl true true yD) (.cons (.fn 20 .nil .nil) .nil)), .nil⟩
def qam_an : Ann := {}
def qam_c : Code := (match Try.f20.body with | some c => c | none => .skip)
def qam_a : StSh := ⟨.normal, [0], (.cons (.agg (.cons (.int .i64) (.cons (.int .i64) .nil))) .nil), .nil⟩
def qam_res : List StSh := [⟨.ret, [0], (.cons .bool .nil), .nil⟩]
def qam_tbl (n : Nat) : FuncId → List Entry := fun f => []
def qam_loops (n : Nat) : Nat → Option LEntry := fun f => none
theorem qam_run (n : Nat) (t_0 : Int) (t_0_1 : Int) : funDS (real _) tab (qam_tbl n) (qam_loops n) qam_an Try.f20 0 qam_a qam_res (t_0, t_0_1) some = qam n t_0 t_0_1 := by kernel_rfl
def qam_E (n : Nat) : Entry := ⟨qam_a, qam_res, fun d => qam n d.1 d.2⟩
theorem qam_ok (n : Nat) : EOK Try.prog 20 (qam_E n) :=
 EOK.ofS zb zc zg (tbl := qam_tbl n) (loops := qam_loops n) (an := qam_an) (old := []) (n := n) (c := qam_c) (fn := Try.f20) TblOK.nil (by kernel_rfl) (by kernel_rfl) (by kernel_rfl) (by kernel_rfl) (fun d => by kernel_rfl) LT.nil (fun a => qam_run n a.1 a.2)
def qt_h0 : List StSh := [⟨.normal, [0, 1, 7, 8], (.cons (.sl true true yD) (.cons (.fn 20 .nil .nil) (.cons (.int .i64) (.cons (.int .i64) .nil)))), .nil⟩]
def qt_o0 : List StSh := [⟨.ret, [4], (.cons (.int .i64) .nil), .nil⟩, ⟨.exit 0, [], .nil, .nil⟩]
def qt_L0 (n : Nat) : LEntry := ⟨qt_h0, qt_o0, qt_W0 n⟩
def qt_res : List StSh := [⟨.ret, [0], (.cons (.int .i64) .nil), .nil⟩]
def qt_tbl (n : Nat) : FuncId → List Entry := fun f => bif Nat.beq f 20 then [qam_E n] else []
def qt_loops (n : Nat) : Nat → Option LEntry := fun f => bif Nat.beq f 0 then some (qt_L0 n) else none
theorem qt_r0 (n : Nat) (s_0 : DA) (t7 : Int) (t8 : Int) : roundK (real _) tab (qt_tbl n) (qt_loops n) qt_an [] qt_l0 0 [0, 1, 7, 8] qt_h0 qt_o0 (s_0, (t7, t8)) some = qt_B0 n s_0 t7 t8 := by kernel_rfl
theorem qt_f0 (n : Nat) : LoopFact tab (qt_tbl n) (qt_loops n) qt_an [] n 0 qt_l0 (qt_L0 n) := ⟨[0, 1, 7, 8], (fun s => qt_B0 n s.1 s.2.1 s.2.2), by kernel_rfl, by kernel_rfl, fun s => rfl, fun s => qt_r0 n s.1 s.2.1 s.2.2⟩
theorem qt_run (n : Nat) (s_0 : DA) : funDS (real _) tab (qt_tbl n) (qt_loops n) qt_an Try.f52 0 qt_a qt_res s_0 some = qt n s_0 := by kernel_rfl
def qt_E (n : Nat) : Entry := ⟨qt_a, qt_res, fun d => qt n d⟩
theorem qt_ok (n : Nat) : EOK Try.prog 52 (qt_E n) :=
 EOK.ofS zb zc zg (tbl := qt_tbl n) (loops := qt_loops n) (an := qt_an) (old := []) (n := n) (c := qt_c) (fn := Try.f52) (TblOK.cons (AllE.cons (qam_ok n) AllE.nil) TblOK.nil) (by kernel_rfl) (by kernel_rfl) (by kernel_rfl) (by kernel_rfl) (fun d => by kernel_rfl) (LT.cons (by kernel_rfl) (qt_f0 n) LT.nil) (fun a => qt_run n a)
def qg_res : List StSh := [⟨.ret, [0], (.cons .bool .nil), .nil⟩]
def qg_tbl (n : Nat) : FuncId → List Entry := fun f => bif Nat.beq f 52 then [qt_E n] else []
def qg_loops (n : Nat) : Nat → Option LEntry := fun f => none
theorem qg_run (n : Nat) (s_0 : DA) : funDS (real _) tab (qg_tbl n) (qg_loops n) qg_an Try.f19 0 qg_a qg_res s_0 some = qg n s_0 := by kernel_rfl
def qg_E (n : Nat) : Entry := ⟨qg_a, qg_res, fun d => qg n d⟩
theorem qg_ok (n : Nat) : EOK Try.prog 19 (qg_E n) :=
 EOK.ofS zb zc zg (tbl := qg_tbl n) (loops := qg_loops n) (an := qg_an) (old := []) (n := n) (c := qg_c) (fn := Try.f19) (TblOK.cons (AllE.cons (qt_ok n) AllE.nil) TblOK.nil) (by kernel_rfl) (by kernel_rfl) (by kernel_rfl) (by kernel_rfl) (fun d => by kernel_rfl) LT.nil (fun a => qg_run n a)
def qar_h0 : List StSh := [⟨.normal, [1, 18, 19, 20], (.cons (.ptr 0 0 0 0) (.cons (.sl true true yC) (.cons (.int .i64) (.cons (.int .i64) .nil)))), (.cons (.bcells 0 false 1 (.cons (.sl true false yA) (.cons (.sl true true yC) (.cons (.sl true true yB) (.cons (.sl true false (.int .u64)) (.cons (.sl true false .str) .nil)))))) .nil)⟩]
def qar_o0 : List StSh := [⟨.ret, [2], (.cons (.int .i64) .nil), (.cons (.bcells 0 false 1 (.cons (.sl true false yA) (.cons (.sl true true yC) (.cons (.sl true true yB) (.cons (.sl true false (.int .u64)) (.cons (.sl true false .str) .nil)))))) (.cons (.bcells 0 false 1 (.cons (.sl true true yD) (.cons (.int .i64) (.cons (.int .i64) (.cons (.sl true true yD) (.cons (.sl true true yE) .nil)))))) .nil))⟩, ⟨.exit 0, [1], (.cons (.ptr 0 0 0 0) .nil), (.cons (.bcells 0 false 1 (.cons (.sl true false yA) (.cons (.sl true true yC) (.cons (.sl true true yB) (.cons (.sl true false (.int .u64)) (.cons (.sl true false .str) .nil)))))) .nil)⟩]
def qar_L0 (n : Nat) : LEntry := ⟨qar_h0, qar_o0, qar_W0 n⟩
def qa_an : Ann := {}
def qa_c : Code := (match Try.f24.body with | some c => c | none => .skip)
def qa_a : StSh := ⟨.normal, [0, 1], (.cons (.sl true true yB) (.cons (.fn 21 .nil .nil) .nil)), .nil⟩
def qk_an : Ann := { live := [(0, [0, 1, 7, 8])] }
def qk_c : Code := (match Try.f53.body with | some c => c | none => .skip)
def qk_l0 : Code := (match assoc 0 (loopsIn qk_c 0) with | some c => c | none => .skip)
def qk_a : StSh := ⟨.normal, [0, 1], (.cons (.sl true true yB) (.cons (.fn 21 .nil .nil) .nil)), .nil⟩
def qap_an : Ann := {}
def qap_c : Code := (match Try.f21.body with | some c => c | none => .skip)
def qap_a : StSh := ⟨.normal, [0], (.cons (.agg (.cons (.sl true true yD) (.cons (.int .i64) (.cons (.int .i64) .nil)))) .nil), .nil⟩
def qav_an : Ann := {}
def qav_c : Code := (match Try.f22.body with | some c => c | none => .skip)
def qav_a : StSh := ⟨.normal, [0], (.cons (.agg (.cons (.int .i64) (.cons (.int .i64) .nil))) .nil), .nil⟩
def qav_res : List StSh := [⟨.ret, [0], (.cons .bool .nil), .nil⟩]
def qav_tbl (n : Nat) : FuncId → List Entry := fun f => []
def qav_loops (n : Nat) : Nat → Option LEntry := fun f => none
theorem qav_run (n : Nat) (t_0 : Int) (t_0_1 : Int) : funDS (real _) tab (qav_tbl n) (qav_loops n) qav_an Try.f22 0 qav_a qav_res (t_0, t_0_1) some = qav n t_0 t_0_1 := by kernel_rfl
def qav_E (n : Nat) : Entry := ⟨qav_a, qav_res, fun d => qav n d.1 d.2⟩
theorem qav_ok (n : Nat) : EOK Try.prog 22 (qav_E n) :=
 EOK.ofS zb zc zg (tbl := qav_tbl n) (loops := qav_loops n) (an := qav_an) (old := []) (n := n) (c := qav_c) (fn := Try.f22) TblOK.nil (by kernel_rfl) (by kernel_rfl) (by kernel_rfl) (by kernel_rfl) (fun d => by kernel_rfl) LT.nil (fun a => qav_run n a.1 a.2)
def qf_an : Ann := {}
def qf_c : Code := (match Try.f19.body with | some c => c | none => .skip)
def qf_a : StSh := ⟨.normal, [0, 1], (.cons (.sl true true yD) (.cons (.fn 23 .nil .nil) .nil)), .nil⟩
def qs_an : Ann := { live := [(0, [0, 1, 7, 8])] }
def qs_c : Code := (match Try.f52.body with | some c => c | none => .skip)
def qs_l0 : Code := (match assoc 0 (loopsIn qs_c 0) with | some c => c | none => .skip)
def qs_a : StSh := ⟨.normal, [0, 1], (.cons (.sl true true yD) (.cons (.fn 23 .nil .nil) .nil)), .nil⟩
def qal_an : Ann := {}
def qal_c : Code := (match Try.f23.body with | some c => c | none => .skip)
def qal_a : StSh := ⟨.normal, [0], (.cons (.agg (.cons (.int .i64) (.cons (.int .i64) .nil))) .nil), .nil⟩
def qal_res : List StSh := [⟨.ret, [0], (.cons .bool .nil), .nil⟩]
def qal_tbl (n : Nat) : FuncId → List Entry := fun f => bif Nat.beq f 22 then [qav_E n] else []
def qal_loops (n : Nat) : Nat → Option LEntry := fun f => none
theorem qal_run (n : Nat) (t_0 : Int) (t_0_1 : Int) : funDS (real _) tab (qal_tbl n) (qal_loops n) qal_an Try.f23 0 qal_a qal_res (t_0, t_0_1) some = qal n t_0 t_0_1 := by kernel_rfl
def qal_E (n : Nat) : Entry := ⟨qal_a, qal_res, fun d => qal n d.1 d.2⟩
theorem qal_ok (n : Nat) : EOK Try.prog 23 (qal_E n) :=
 EOK.ofS zb zc zg (tbl := qal_tbl n) (loops := qal_loops n) (an := qal_an) (old := []) (n := n) (c := qal_c) (fn := Try.f23) (TblOK.cons (AllE.cons (qav_ok n) AllE.nil) TblOK.nil) (by kernel_rfl) (by kernel_rfl) (by kernel_rfl) (by kernel_rfl) (fun d => by kernel_rfl) LT.nil (fun a => qal_run n a.1 a.2)
def qs_h0 : List StSh := [⟨.normal, [0, 1, 7, 8], (.cons (.sl true true yD) (.cons (.fn 23 .nil .nil) (.cons (.int .i64) (.cons (.int .i64) .nil)))), .nil⟩]
def qs_o0 : List StSh := [⟨.ret, [4], (.cons (.int .i64) .nil), .nil⟩, ⟨.exit 0, [], .nil, .nil⟩]
def qs_L0 (n : Nat) : LEntry := ⟨qs_h0, qs_o0, qs_W0 n⟩
def qs_res : List StSh := [⟨.ret, [0], (.cons (.int .i64) .nil), .nil⟩]
def qs_tbl (n : Nat) : FuncId → List Entry := fun f => bif Nat.beq f 23 then [qal_E n] else []
def qs_loops (n : Nat) : Nat → Option LEntry := fun f => bif Nat.beq f 0 then some (qs_L0 n) else none
theorem qs_r0 (n : Nat) (s_0 : DA) (t7 : Int) (t8 : Int) : roundK (real _) tab (qs_tbl n) (qs_loops n) qs_an [] qs_l0 0 [0, 1, 7, 8] qs_h0 qs_o0 (s_0, (t7, t8)) some = qs_B0 n s_0 t7 t8 := by kernel_rfl
theorem qs_f0 (n : Nat) : LoopFact tab (qs_tbl n) (qs_loops n) qs_an [] n 0 qs_l0 (qs_L0 n) := ⟨[0, 1, 7, 8], (fun s => qs_B0 n s.1 s.2.1 s.2.2), by kernel_rfl, by kernel_rfl, fun s => rfl, fun s => qs_r0 n s.1 s.2.1 s.2.2⟩
theorem qs_run (n : Nat) (s_0 : DA) : funDS (real _) tab (qs_tbl n) (qs_loops n) qs_an Try.f52 0 qs_a qs_res s_0 some = qs n s_0 := by kernel_rfl
def qs_E (n : Nat) : Entry := ⟨qs_a, qs_res, fun d => qs n d⟩
theorem qs_ok (n : Nat) : EOK Try.prog 52 (qs_E n) :=
 EOK.ofS zb zc zg (tbl := qs_tbl n) (loops := qs_loops n) (an := qs_an) (old := []) (n := n) (c := qs_c) (fn := Try.f52) (TblOK.cons (AllE.cons (qal_ok n) AllE.nil) TblOK.nil) (by kernel_rfl) (by kernel_rfl) (by kernel_rfl) (by kernel_rfl) (fun d => by kernel_rfl) (LT.cons (by kernel_rfl) (qs_f0 n) LT.nil) (fun a => qs_run n a)
def qf_res : List StSh := [⟨.ret, [0], (.cons .bool .nil), .nil⟩]
def qf_tbl (n : Nat) : FuncId → List Entry := fun f => bif Nat.beq f 52 then [qs_E n] else []
def qf_loops (n : Nat) : Nat → Option LEntry := fun f => none
theorem qf_run (n : Nat) (s_0 : DA) : funDS (real _) tab (qf_tbl n) (qf_loops n) qf_an Try.f19 0 qf_a qf_res s_0 some = qf n s_0 := by kernel_rfl
def qf_E (n : Nat) : Entry := ⟨qf_a, qf_res, fun d => qf n d⟩
theorem qf_ok (n : Nat) : EOK Try.prog 19 (qf_E n) :=
 EOK.ofS zb zc zg (tbl := qf_tbl n) (loops := qf_loops n) (an := qf_an) (old := []) (n := n) (c := qf_c) (fn := Try.f19) (TblOK.cons (AllE.cons (qs_ok n) AllE.nil) TblOK.nil) (by kernel_rfl) (by kernel_rfl) (by kernel_rfl) (by kernel_rfl) (fun d => by kernel_rfl) LT.nil (fun a => qf_run n a)
def qap_res : List StSh := [⟨.ret, [0], (.cons .bool .nil), .nil⟩]
def qap_tbl (n : Nat) : FuncId → List Entry := fun f => bif Nat.beq f 22 then [qav_E n] else bif Nat.beq f 19 then [qf_E n] else []
def qap_loops (n : Nat) : Nat → Option LEntry := fun f => none
theorem qap_run (n : Nat) (i_0 : DA) (i_0_1 : Int) (i_0_2 : Int) : funDS (real _) tab (qap_tbl n) (qap_loops n) qap_an Try.f21 0 qap_a qap_res (i_0, (i_0_1, i_0_2)) some = qap n i_0 i_0_1 i_0_2 := by kernel_rfl
def qap_E (n : Nat) : Entry := ⟨qap_a, qap_res, fun d => qap n d.1 d.2.1 d.2.2⟩
theorem qap_ok (n : Nat) : EOK Try.prog 21 (qap_E n) :=
 EOK.ofS zb zc zg (tbl := qap_tbl n) (loops := qap_loops n) (an := qap_an) (old := []) (n := n) (c := qap_c) (fn := Try.f21) (TblOK.cons (AllE.cons (qav_ok n) AllE.nil) (TblOK.cons (AllE.cons (qf_ok n) AllE.nil) TblOK.nil)) (by kernel_rfl) (by kernel_rfl) (by kernel_rfl) (by kernel_rfl) (fun d => by kernel_rfl) LT.nil (fun a => qap_run n a.1 a.2.1 a.2.2)
def qk_h0 : List StSh := [⟨.normal, [0, 1, 7, 8], (.cons (.sl true true yB) (.cons (.fn 21 .nil .nil) (.cons (.int .i64) (.cons (.int .i64) .nil)))), .nil⟩]
def qk_o0 : List StSh := [⟨.ret, [4], (.cons (.int .i64) .nil), .nil⟩, ⟨.exit 0, [], .nil, .nil⟩]
def qk_L0 (n : Nat) : LEntry := ⟨qk_h0, qk_o0, qk_W0 n⟩
def qk_res : List StSh := [⟨.ret, [0], (.cons (.int .i64) .nil), .nil⟩]
def qk_tbl (n : Nat) : FuncId → List Entry := fun f => bif Nat.beq f 21 then [qap_E n] else []
def qk_loops (n : Nat) : Nat → Option LEntry := fun f => bif Nat.beq f 0 then some (qk_L0 n) else none
theorem qk_r0 (n : Nat) (s_0 : DJ) (t7 : Int) (t8 : Int) : roundK (real _) tab (qk_tbl n) (qk_loops n) qk_an [] qk_l0 0 [0, 1, 7, 8] qk_h0 qk_o0 (s_0, (t7, t8)) some = qk_B0 n s_0 t7 t8 := by kernel_rfl
theorem qk_f0 (n : Nat) : LoopFact tab (qk_tbl n) (qk_loops n) qk_an [] n 0 qk_l0 (qk_L0 n) := ⟨[0, 1, 7, 8], (fun s => qk_B0 n s.1 s.2.1 s.2.2), by kernel_rfl, by kernel_rfl, fun s => rfl, fun s => qk_r0 n s.1 s.2.1 s.2.2⟩
theorem qk_run (n : Nat) (s_0 : DJ) : funDS (real _) tab (qk_tbl n) (qk_loops n) qk_an Try.f53 0 qk_a qk_res s_0 some = qk n s_0 := by kernel_rfl
def qk_E (n : Nat) : Entry := ⟨qk_a, qk_res, fun d => qk n d⟩
theorem qk_ok (n : Nat) : EOK Try.prog 53 (qk_E n) :=
 EOK.ofS zb zc zg (tbl := qk_tbl n) (loops := qk_loops n) (an := qk_an) (old := []) (n := n) (c := qk_c) (fn := Try.f53) (TblOK.cons (AllE.cons (qap_ok n) AllE.nil) TblOK.nil) (by kernel_rfl) (by kernel_rfl) (by kernel_rfl) (by kernel_rfl) (fun d => by kernel_rfl) (LT.cons (by kernel_rfl) (qk_f0 n) LT.nil) (fun a => qk_run n a)
def qa_res : List StSh := [⟨.ret, [0], (.cons .bool .nil), .nil⟩]
def qa_tbl (n : Nat) : FuncId → List Entry := fun f => bif Nat.beq f 53 then [qk_E n] else []
def qa_loops (n : Nat) : Nat → Option LEntry := fun f => none
theorem qa_run (n : Nat) (s_0 : DJ) : funDS (real _) tab (qa_tbl n) (qa_loops n) qa_an Try.f24 0 qa_a qa_res s_0 some = qa n s_0 := by kernel_rfl
def qa_E (n : Nat) : Entry := ⟨qa_a, qa_res, fun d => qa n d⟩
theorem qa_ok (n : Nat) : EOK Try.prog 24 (qa_E n) :=
 EOK.ofS zb zc zg (tbl := qa_tbl n) (loops := qa_loops n) (an := qa_an) (old := []) (n := n) (c := qa_c) (fn := Try.f24) (TblOK.cons (AllE.cons (qk_ok n) AllE.nil) TblOK.nil) (by kernel_rfl) (by kernel_rfl) (by kernel_rfl) (by kernel_rfl) (fun d => by kernel_rfl) LT.nil (fun a => qa_run n a)
def qar_res : List StSh := [⟨.ret, [0], (.cons (.int .i64) .nil), .nil⟩]
def qar_tbl (n : Nat) : FuncId → List Entry := fun f => bif Nat.beq f 14 then [qad_E n] else bif Nat.beq f 18 then [qb_E n] else bif Nat.beq f 19 then [qg_E n] else bif Nat.beq f 24 then [qa_E n] else []
def qar_loops (n : Nat) : Nat → Option LEntry := fun f => bif Nat.beq f 0 then some (qar_L0 n) else none
theorem qar_r0 (n : Nat) (t18 : DH) (t19 : Int) (t20 : Int) (m0 : DI) (m0_1 : DH) (m0_2 : DJ) (m0_3 : DC) (m0_4 : DD) : roundK (real _) tab (qar_tbl n) (qar_loops n) qar_an [] qar_l0 0 [1, 18, 19, 20] qar_h0 qar_o0 ((t18, (t19, t20)), (m0, (m0_1, (m0_2, (m0_3, m0_4))))) some = qar_B0 n t18 t19 t20 m0 m0_1 m0_2 m0_3 m0_4 := by kernel_rfl
theorem qar_f0 (n : Nat) : LoopFact tab (qar_tbl n) (qar_loops n) qar_an [] n 0 qar_l0 (qar_L0 n) := ⟨[1, 18, 19, 20], (fun s => qar_B0 n s.1.1 s.1.2.1 s.1.2.2 s.2.1 s.2.2.1 s.2.2.2.1 s.2.2.2.2.1 s.2.2.2.2.2), by kernel_rfl, by kernel_rfl, fun s => rfl, fun s => qar_r0 n s.1.1 s.1.2.1 s.1.2.2 s.2.1 s.2.2.1 s.2.2.2.1 s.2.2.2.2.1 s.2.2.2.2.2⟩
theorem qar_run (n : Nat) (m_0 : DI) (m_0_1 : DH) (m_0_2 : DJ) (m_0_3 : DC) (m_0_4 : DD) : funDS (real _) tab (qar_tbl n) (qar_loops n) qar_an Try.f6 0 qar_a qar_res (m_0, (m_0_1, (m_0_2, (m_0_3, m_0_4)))) some = qar n m_0 m_0_1 m_0_2 m_0_3 m_0_4 := by kernel_rfl
def qar_E (n : Nat) : Entry := ⟨qar_a, qar_res, fun d => qar n d.1 d.2.1 d.2.2.1 d.2.2.2.1 d.2.2.2.2⟩
theorem qar_ok (n : Nat) : EOK Try.prog 6 (qar_E n) :=
 EOK.ofS zb zc zg (tbl := qar_tbl n) (loops := qar_loops n) (an := qar_an) (old := []) (n := n) (c := qar_c) (fn := Try.f6) (TblOK.cons (AllE.cons (qad_ok n) AllE.nil) (TblOK.cons (AllE.cons (qb_ok n) AllE.nil) (TblOK.cons (AllE.cons (qg_ok n) AllE.nil) (TblOK.cons (AllE.cons (qa_ok n) AllE.nil) TblOK.nil)))) (by kernel_rfl) (by kernel_rfl) (by kernel_rfl) (by kernel_rfl) (fun d => by kernel_rfl) (LT.cons (by kernel_rfl) (qar_f0 n) LT.nil) (fun a => qar_run n a.1 a.2.1 a.2.2.1 a.2.2.2.1 a.2.2.2.2)
def qae_an : Ann := {}
def qae_c : Code := (match Try.f7.body with | some c => c | none => .skip)
def qae_a : StSh := ⟨.normal, [], .nil, .nil⟩
def qae_res : List StSh := [⟨.ret, [0], (.cons .bool .nil), .nil⟩]
def qae_tbl (n : Nat) : FuncId → List Entry := fun f => bif Nat.beq f 6 then [qar_E n] else []
def qae_loops (n : Nat) : Nat → Option LEntry := fun f => none
theorem qae_run (n : Nat) : funDS (real _) tab (qae_tbl n) (qae_loops n) qae_an Try.f7 0 qae_a qae_res () some = qae n := by kernel_rfl
def qae_E (n : Nat) : Entry := ⟨qae_a, qae_res, fun d => qae n⟩
theorem qae_ok (n : Nat) : EOK Try.prog 7 (qae_E n) :=
 EOK.ofS zb zc zg (tbl := qae_tbl n) (loops := qae_loops n) (an := qae_an) (old := []) (n := n) (c := qae_c) (fn := Try.f7) (TblOK.cons (AllE.cons (qar_ok n) AllE.nil) TblOK.nil) (by kernel_rfl) (by kernel_rfl) (by kernel_rfl) (by kernel_rfl) (fun d => by kernel_rfl) LT.nil (fun a => qae_run n)
def law07SaneNames_res : List StSh := [⟨.ret, [0], (.cons .bool .nil), .nil⟩]
def law07SaneNames_tbl (n : Nat) : FuncId → List Entry := fun f => bif Nat.beq f 6 then [qar_E n] else bif Nat.beq f 7 then [qae_E n] else []
def law07SaneNames_loops (n : Nat) : Nat → Option LEntry := fun f => bif Nat.beq f 0 then some (law07SaneNames_L0 n) else none
theorem zdX (n : Nat) (t5 : Int) (t8 : Int) (t9 : Int) (m0 : Int) (m0_1 : Int) (m2 : DH) : roundK (real _) tab (law07SaneNames_tbl n) (law07SaneNames_loops n) law07SaneNames_an [] law07SaneNames_l0 0 [5, 6, 7, 8, 9] law07SaneNames_h0 law07SaneNames_o0 (Sum.inl ((t5, (t8, t9)), ((m0, m0_1), m2))) some = law07SaneNames_B0q0 n t5 t8 t9 m0 m0_1 m2 := by kernel_rfl
theorem zdW (n : Nat) (t5 : Int) (t8 : Int) (t9 : Int) (m0 : Int) (m0_1 : Int) (m2 : DI) (m3 : DH) (m4 : DJ) (m5 : DC) (m6 : DD) : roundK (real _) tab (law07SaneNames_tbl n) (law07SaneNames_loops n) law07SaneNames_an [] law07SaneNames_l0 0 [5, 6, 7, 8, 9] law07SaneNames_h0 law07SaneNames_o0 (Sum.inr ((t5, (t8, t9)), ((m0, m0_1), (m2, (m3, (m4, (m5, m6))))))) some = law07SaneNames_B0q1 n t5 t8 t9 m0 m0_1 m2 m3 m4 m5 m6 := by kernel_rfl
theorem zfr (n : Nat) : LoopFact tab (law07SaneNames_tbl n) (law07SaneNames_loops n) law07SaneNames_an [] n 0 law07SaneNames_l0 (law07SaneNames_L0 n) := ⟨[5, 6, 7, 8, 9], (law07SaneNames_M0 n), by kernel_rfl, by kernel_rfl, fun s => rfl, fun s => match s with | (Sum.inl a0) => zdX n a0.1.1 a0.1.2.1 a0.1.2.2 a0.2.1.1 a0.2.1.2 a0.2.2 | (Sum.inr a1) => zdW n a1.1.1 a1.1.2.1 a1.1.2.2 a1.2.1.1 a1.2.1.2 a1.2.2.1 a1.2.2.2.1 a1.2.2.2.2.1 a1.2.2.2.2.2.1 a1.2.2.2.2.2.2⟩
theorem zew (n : Nat) (t0 : Int) (t1 : Int) : funDS (real _) tab (law07SaneNames_tbl n) (law07SaneNames_loops n) law07SaneNames_an Try.f3 0 law07SaneNames_a law07SaneNames_res (t0, t1) some = law07SaneNames n t0 t1 := by kernel_rfl
def law07SaneNames_E (n : Nat) : Entry := ⟨law07SaneNames_a, law07SaneNames_res, fun d => law07SaneNames n d.1 d.2⟩
theorem zff (n : Nat) : EOK Try.prog 3 (law07SaneNames_E n) :=
 EOK.ofS zb zc zg (tbl := law07SaneNames_tbl n) (loops := law07SaneNames_loops n) (an := law07SaneNames_an) (old := []) (n := n) (c := law07SaneNames_c) (fn := Try.f3) (TblOK.cons (AllE.cons (qar_ok n) AllE.nil) (TblOK.cons (AllE.cons (qae_ok n) AllE.nil) TblOK.nil)) (by kernel_rfl) (by kernel_rfl) (by kernel_rfl) (by kernel_rfl) (fun d => by kernel_rfl) (LT.cons (by kernel_rfl) (zfr n) LT.nil) (fun a => zew n a.1 a.2)
end
end Sx
