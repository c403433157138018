import Derived.Test.YtliamnpngkojdaaDoorProg
import Derived.Test.YtliamnpngkojdaaDoorLib32
import Derived.Test.YtliamnpngkojdaaDoorFlSh
import Derived.KernelRfl
open Go Go.Ab Go.Proofs
set_option linter.unusedVariables false
set_option maxRecDepth 20000
namespace Sx
noncomputable section
abbrev yA : Ty := (.sl true (.cons (.int .i64) (.int .i64)))
abbrev yB : Ty := (.cons (.sl true (.cons (.int .i64) (.int .i64))) (.cons (.int .i64) (.cons (.int .i64) (.cons (.sl true (.cons (.int .i64) (.int .i64))) (.sl true (.cons (.int .i64) (.cons (.int .i64) (.int .i64))))))))
abbrev yC : Ty := (.cons (.sl true (.cons (.int .i64) (.int .i64))) (.cons (.int .i64) (.int .i64)))
abbrev yD : Ty := (.cons (.int .i64) (.int .i64))
abbrev yE : Ty := (.cons (.int .i64) (.cons (.int .i64) (.int .i64)))
abbrev yF : Ty := (.sl false (.int .u8))
abbrev yG : Ty := (.sl true (.cons .bool (.sl true (.cons (.int .i64) (.int .i64)))))
abbrev yH : Ty := (.cons .bool (.sl true (.cons (.int .i64) (.int .i64))))
def globL : List (String × Nat × Int × Int) := [("chrysalis/flow.number", 1, 1, 0), ("chrysalis/flow.octets", 3, 2, 0), ("chrysalis/flow.words", 2, 3, 0), ("chrysalis/flow.refs", 4, 7, 0), ("chrysalis/flow.use", 0, 8, 0)]
def gtabL : DG := [(1, 1, 0), (3, 2, 0), (2, 3, 0), (4, 7, 0), (0, 8, 0)]
instance gTab : GTab := ⟨fun g => assoc g gtabL⟩
def ti2 : TI := ⟨.int .i64, 1, 8, false, some (.int .i64), false, [.int .i64 0]⟩
def ti3 : TI := ⟨.int .i64, 1, 8, false, some (.int .i64), false, [.int .i64 0]⟩
def ti4 : TI := ⟨.bool, 1, 1, false, some .bool, false, [.bool false]⟩
def ti5 : TI := ⟨.int .u8, 1, 1, false, some (.int .u8), false, [.int .u8 0]⟩
def ti6 : TI := ⟨.int .u8, 1, 1, false, some (.int .u8), false, [.int .u8 0]⟩
def ti7 : TI := ⟨.st [(0, 1, 2), (1, 1, 3), (2, 1, 4), (3, 1, 6)], 4, 24, true, some (.cons (.int .i64) (.cons (.int .i64) (.cons .bool (.int .u8)))), true, [.int .i64 0, .int .i64 0, .bool false, .int .u8 0]⟩
def ti8 : TI := ⟨.st [(0, 1, 2), (1, 1, 3), (2, 1, 4), (3, 1, 6)], 4, 24, true, some (.cons (.int .i64) (.cons (.int .i64) (.cons .bool (.int .u8)))), true, [.int .i64 0, .int .i64 0, .bool false, .int .u8 0]⟩
def ti9 : TI := ⟨.str, 1, 16, false, some .str, false, [.string (ByteArray.mk (List.toArray []))]⟩
def ti10 : TI := ⟨.str, 1, 16, false, some .str, false, [.string (ByteArray.mk (List.toArray []))]⟩
def ti11 : TI := ⟨.str, 1, 16, false, some .str, false, [.string (ByteArray.mk (List.toArray []))]⟩
def ti12 : TI := ⟨.int .u64, 1, 8, false, some (.int .u64), false, [.int .u64 0]⟩
def ti13 : TI := ⟨.st [(0, 1, 9), (1, 1, 12)], 2, 24, true, some (.cons .str (.int .u64)), false, [.string (ByteArray.mk (List.toArray [])), .int .u64 0]⟩
def ti14 : TI := ⟨.st [(0, 1, 9), (1, 1, 12)], 2, 24, true, some (.cons .str (.int .u64)), false, [.string (ByteArray.mk (List.toArray [])), .int .u64 0]⟩
def ti15 : TI := ⟨.ptr, 1, 8, false, none, false, [.pointer none]⟩
def ti16 : TI := ⟨.ptr, 1, 8, false, none, false, [.pointer none]⟩
def ti17 : TI := ⟨.ptr, 1, 8, false, none, false, [.pointer none]⟩
def ti18 : TI := ⟨.st [(0, 1, 17)], 1, 8, true, none, false, [.pointer none]⟩
def ti19 : TI := ⟨.st [(0, 1, 17)], 1, 8, true, none, false, [.pointer none]⟩
def ti21 : TI := ⟨.int .i32, 1, 4, false, some (.int .i32), false, [.int .i32 0]⟩
def ti22 : TI := ⟨.sl 29, 1, 24, false, some (.sl false (.sl true (.cons (.int .i64) (.int .i64)))), false, [.slice none 0 0]⟩
def ti23 : TI := ⟨.sl 42, 1, 24, false, some (.sl true (.cons (.sl true (.cons (.int .i64) (.int .i64))) (.cons (.int .i64) (.cons (.int .i64) (.cons (.sl true (.cons (.int .i64) (.int .i64))) (.sl true (.cons (.int .i64) (.cons (.int .i64) (.int .i64))))))))), false, [.slice none 0 0]⟩
def ti24 : TI := ⟨.sl 63, 1, 24, false, some (.sl true (.cons (.sl true (.cons (.int .i64) (.int .i64))) (.cons (.int .i64) (.int .i64)))), false, [.slice none 0 0]⟩
def ti25 : TI := ⟨.sl 60, 1, 24, false, some (.sl false (.int .u64)), false, [.slice none 0 0]⟩
def ti26 : TI := ⟨.sl 9, 1, 24, false, some (.sl false .str), false, [.slice none 0 0]⟩
def ti27 : TI := ⟨.st [(0, 1, 22), (1, 1, 23), (2, 1, 24), (3, 1, 25), (4, 1, 26)], 5, 120, true, some (.cons (.sl false (.sl true (.cons (.int .i64) (.int .i64)))) (.cons (.sl true (.cons (.sl true (.cons (.int .i64) (.int .i64))) (.cons (.int .i64) (.cons (.int .i64) (.cons (.sl true (.cons (.int .i64) (.int .i64))) (.sl true (.cons (.int .i64) (.cons (.int .i64) (.int .i64))))))))) (.cons (.sl true (.cons (.sl true (.cons (.int .i64) (.int .i64))) (.cons (.int .i64) (.int .i64)))) (.cons (.sl false (.int .u64)) (.sl false .str))))), false, [.slice none 0 0, .slice none 0 0, .slice none 0 0, .slice none 0 0, .slice none 0 0]⟩
def ti28 : TI := ⟨.st [(0, 1, 22), (1, 1, 23), (2, 1, 24), (3, 1, 25), (4, 1, 26)], 5, 120, true, some (.cons (.sl false (.sl true (.cons (.int .i64) (.int .i64)))) (.cons (.sl true (.cons (.sl true (.cons (.int .i64) (.int .i64))) (.cons (.int .i64) (.cons (.int .i64) (.cons (.sl true (.cons (.int .i64) (.int .i64))) (.sl true (.cons (.int .i64) (.cons (.int .i64) (.int .i64))))))))) (.cons (.sl true (.cons (.sl true (.cons (.int .i64) (.int .i64))) (.cons (.int .i64) (.int .i64)))) (.cons (.sl false (.int .u64)) (.sl false .str))))), false, [.slice none 0 0, .slice none 0 0, .slice none 0 0, .slice none 0 0, .slice none 0 0]⟩
def ti29 : TI := ⟨.sl 39, 1, 24, false, some (.sl true (.cons (.int .i64) (.int .i64))), false, [.slice none 0 0]⟩
def ti32 : TI := ⟨.sl 3, 1, 24, false, some (.sl false (.int .i64)), false, [.slice none 0 0]⟩
def ti33 : TI := ⟨.int .i64, 1, 8, false, some (.int .i64), false, [.int .i64 0]⟩
def ti38 : TI := ⟨.st [(0, 1, 3), (1, 1, 3)], 2, 16, true, some (.cons (.int .i64) (.int .i64)), true, [.int .i64 0, .int .i64 0]⟩
def ti39 : TI := ⟨.st [(0, 1, 3), (1, 1, 3)], 2, 16, true, some (.cons (.int .i64) (.int .i64)), true, [.int .i64 0, .int .i64 0]⟩
def ti40 : TI := ⟨.sl 50, 1, 24, false, some (.sl true (.cons (.int .i64) (.cons (.int .i64) (.int .i64)))), false, [.slice none 0 0]⟩
def ti41 : TI := ⟨.st [(0, 1, 29), (1, 2, 39), (3, 1, 29), (4, 1, 40)], 5, 88, true, some (.cons (.sl true (.cons (.int .i64) (.int .i64))) (.cons (.int .i64) (.cons (.int .i64) (.cons (.sl true (.cons (.int .i64) (.int .i64))) (.sl true (.cons (.int .i64) (.cons (.int .i64) (.int .i64)))))))), false, [.slice none 0 0, .int .i64 0, .int .i64 0, .slice none 0 0, .slice none 0 0]⟩
def ti42 : TI := ⟨.st [(0, 1, 29), (1, 2, 39), (3, 1, 29), (4, 1, 40)], 5, 88, true, some (.cons (.sl true (.cons (.int .i64) (.int .i64))) (.cons (.int .i64) (.cons (.int .i64) (.cons (.sl true (.cons (.int .i64) (.int .i64))) (.sl true (.cons (.int .i64) (.cons (.int .i64) (.int .i64)))))))), false, [.slice none 0 0, .int .i64 0, .int .i64 0, .slice none 0 0, .slice none 0 0]⟩
def ti49 : TI := ⟨.st [(0, 1, 3), (1, 1, 3), (2, 1, 3)], 3, 24, true, some (.cons (.int .i64) (.cons (.int .i64) (.int .i64))), true, [.int .i64 0, .int .i64 0, .int .i64 0]⟩
def ti50 : TI := ⟨.st [(0, 1, 3), (1, 1, 3), (2, 1, 3)], 3, 24, true, some (.cons (.int .i64) (.cons (.int .i64) (.int .i64))), true, [.int .i64 0, .int .i64 0, .int .i64 0]⟩
def ti51 : TI := ⟨.sl 52, 1, 24, false, some (.sl false (.sl true (.cons .bool (.sl true (.cons (.int .i64) (.int .i64)))))), false, [.slice none 0 0]⟩
def ti52 : TI := ⟨.sl 58, 1, 24, false, some (.sl true (.cons .bool (.sl true (.cons (.int .i64) (.int .i64))))), false, [.slice none 0 0]⟩
def ti57 : TI := ⟨.st [(0, 1, 4), (1, 1, 29)], 2, 32, true, some (.cons .bool (.sl true (.cons (.int .i64) (.int .i64)))), false, [.bool false, .slice none 0 0]⟩
def ti58 : TI := ⟨.st [(0, 1, 4), (1, 1, 29)], 2, 32, true, some (.cons .bool (.sl true (.cons (.int .i64) (.int .i64)))), false, [.bool false, .slice none 0 0]⟩
def ti60 : TI := ⟨.int .u64, 1, 8, false, some (.int .u64), false, [.int .u64 0]⟩
def ti62 : TI := ⟨.st [(0, 1, 29), (1, 2, 39)], 3, 40, true, some (.cons (.sl true (.cons (.int .i64) (.int .i64))) (.cons (.int .i64) (.int .i64))), false, [.slice none 0 0, .int .i64 0, .int .i64 0]⟩
def ti63 : TI := ⟨.st [(0, 1, 29), (1, 2, 39)], 3, 40, true, some (.cons (.sl true (.cons (.int .i64) (.int .i64))) (.cons (.int .i64) (.int .i64))), false, [.slice none 0 0, .int .i64 0, .int .i64 0]⟩
def ti64 : TI := ⟨.sl 5, 1, 24, false, some (.sl false (.int .u8)), false, [.slice none 0 0]⟩
def ti72 : TI := ⟨.ptr, 1, 8, false, none, false, [.pointer none]⟩
def ti81 : TI := ⟨.st [(0, 1, 29), (1, 1, 29)], 2, 48, true, some (.cons (.sl true (.cons (.int .i64) (.int .i64))) (.sl true (.cons (.int .i64) (.int .i64)))), false, [.slice none 0 0, .slice none 0 0]⟩
def ti82 : TI := ⟨.st [(0, 1, 29), (1, 1, 29)], 2, 48, true, some (.cons (.sl true (.cons (.int .i64) (.int .i64))) (.sl true (.cons (.int .i64) (.int .i64)))), false, [.slice none 0 0, .slice none 0 0]⟩
def ti95 : TI := ⟨.sl 64, 1, 24, false, some (.sl false (.sl false (.int .u8))), false, [.slice none 0 0]⟩
def ti116 : TI := ⟨.ptr, 1, 8, false, none, false, [.pointer none]⟩
def ti117 : TI := ⟨.st [(0, 1, 64)], 1, 24, true, some (.sl false (.int .u8)), false, [.slice none 0 0]⟩
def ti118 : TI := ⟨.st [(0, 1, 64)], 1, 24, true, some (.sl false (.int .u8)), false, [.slice none 0 0]⟩
def ti125 : TI := ⟨.int .u64, 1, 8, false, some (.int .u64), false, [.int .u64 0]⟩
def ti127 : TI := ⟨.arr 2 3, 2, 16, true, none, false, [.int .i64 0, .int .i64 0]⟩
def ti129 : TI := ⟨.st [(0, 1, 17), (1, 1, 17), (2, 1, 17), (3, 1, 9)], 4, 40, true, none, false, [.pointer none, .pointer none, .pointer none, .string (ByteArray.mk (List.toArray []))]⟩
def ti130 : TI := ⟨.st [(0, 1, 17), (1, 1, 17), (2, 1, 17), (3, 1, 9)], 4, 40, true, none, false, [.pointer none, .pointer none, .pointer none, .string (ByteArray.mk (List.toArray []))]⟩
def ti131 : TI := ⟨.arr 0 16, 0, 0, true, none, false, []⟩
def ti132 : TI := ⟨.st [(0, 0, 131)], 0, 0, true, none, false, []⟩
def ti133 : TI := ⟨.st [(0, 0, 131)], 0, 0, true, none, false, []⟩
def ti135 : TI := ⟨.int .u32, 1, 4, false, some (.int .u32), false, [.int .u32 0]⟩
def ti136 : TI := ⟨.int .u8, 1, 1, false, some (.int .u8), false, [.int .u8 0]⟩
def ti137 : TI := ⟨.int .u8, 1, 1, false, some (.int .u8), false, [.int .u8 0]⟩
def ti139 : TI := ⟨.ptr, 1, 8, false, none, false, [.pointer none]⟩
def ti140 : TI := ⟨.int .i32, 1, 4, false, some (.int .i32), false, [.int .i32 0]⟩
def ti141 : TI := ⟨.int .i32, 1, 4, false, some (.int .i32), false, [.int .i32 0]⟩
def ti144 : TI := ⟨.other, 1, 8, false, none, false, [.pointer none]⟩
def tabL : List (Nat × TI) := [(2, ti2), (3, ti3), (4, ti4), (5, ti5), (6, ti6), (7, ti7), (8, ti8), (9, ti9), (10, ti10), (11, ti11), (12, ti12), (13, ti13), (14, ti14), (15, ti15), (16, ti16), (17, ti17), (18, ti18), (19, ti19), (21, ti21), (22, ti22), (23, ti23), (24, ti24), (25, ti25), (26, ti26), (27, ti27), (28, ti28), (29, ti29), (32, ti32), (33, ti33), (38, ti38), (39, ti39), (40, ti40), (41, ti41), (42, ti42), (49, ti49), (50, ti50), (51, ti51), (52, ti52), (57, ti57), (58, ti58), (60, ti60), (62, ti62), (63, ti63), (64, ti64), (72, ti72), (81, ti81), (82, ti82), (95, ti95), (116, ti116), (117, ti117), (118, ti118), (125, ti125), (127, ti127), (129, ti129), (130, ti130), (131, ti131), (132, ti132), (133, ti133), (135, ti135), (136, ti136), (137, ti137), (139, ti139), (140, ti140), (141, ti141), (144, ti144)]
def tab : TypeId → Option TI := fun t => assoc t tabL
theorem zf : TabOK Tryd.prog tab := (show TabOK Tryd.prog (fun t => assoc t tabL) from TabOK.of_list _ (by kernel_rfl))
theorem zc : namesOK Tryd.prog = true := by kernel_rfl
theorem zd : Tryd.prog.follows .mixedOrders = true := by kernel_rfl
def law08FlowSteps_an : Ann := { live := [(0, [11, 14, 16])], boxed := [(3, 0)] }
def law08FlowSteps_c : Code := (match Tryd.f3.body with | some c => c | none => .skip)
def law08FlowSteps_l0 : Code := (match assoc 0 (loopsIn law08FlowSteps_c 0) with | some c => c | none => .skip)
def law08FlowSteps_a : StSh := ⟨.normal, [0, 1, 2, 3], (.cons (.agg (.cons (.sl true false yA) (.cons (.sl true true yB) (.cons (.sl true true yC) (.cons (.sl true false (.int .u64)) (.cons (.sl true false .str) .nil)))))) (.cons (.int .i64) (.cons (.int .i64) (.cons (.sl true true yD) .nil)))), .nil⟩
def qaz_an : Ann := { live := [(0, [1, 3, 4]), (2, [1, 3, 5]), (4, [1, 3, 6]), (6, [1, 3, 7])] }
def qaz_c : Code := (match Tryd.f12.body with | some c => c | none => .skip)
def qaz_l0 : Code := (match assoc 0 (loopsIn qaz_c 0) with | some c => c | none => .skip)
def qaz_l2 : Code := (match assoc 2 (loopsIn qaz_c 0) with | some c => c | none => .skip)
def qaz_l4 : Code := (match assoc 4 (loopsIn qaz_c 0) with | some c => c | none => .skip)
def qaz_l6 : Code := (match assoc 6 (loopsIn qaz_c 0) with | some c => c | none => .skip)
def qaz_a : StSh := ⟨.normal, [0], (.cons (.agg (.cons (.sl true false yA) (.cons (.sl true true yB) (.cons (.sl true true yC) (.cons (.sl true false (.int .u64)) (.cons (.sl true false .str) .nil)))))) .nil), .nil⟩
def qaz_h0 : List StSh := [⟨.normal, [1, 3, 4], (.cons (.ptr 0 0 0 0) (.cons (.int .i64) (.cons (.int .i64) .nil))), (.cons (.bcells 0 false 1 (.cons (.sl true false yA) (.cons (.sl true true yB) (.cons (.sl true true yC) (.cons (.sl true false (.int .u64)) (.cons (.sl true false .str) .nil)))))) .nil)⟩]
def qaz_o0 : List StSh := [⟨.exit 0, [1, 3], (.cons (.ptr 0 0 0 0) (.cons (.int .i64) .nil)), (.cons (.bcells 0 false 1 (.cons (.sl true false yA) (.cons (.sl true true yB) (.cons (.sl true true yC) (.cons (.sl true false (.int .u64)) (.cons (.sl true false .str) .nil)))))) .nil)⟩]
def qaz_L0 (n : Nat) : LEntry := ⟨qaz_h0, qaz_o0, qaz_W0 n⟩
def qaz_h2 : List StSh := [⟨.normal, [1, 3, 5], (.cons (.ptr 0 0 0 0) (.cons (.int .i64) (.cons (.int .i64) .nil))), (.cons (.bcells 0 false 1 (.cons (.sl true false yA) (.cons (.sl true true yB) (.cons (.sl true true yC) (.cons (.sl true false (.int .u64)) (.cons (.sl true false .str) .nil)))))) .nil)⟩]
def qaz_o2 : List StSh := [⟨.exit 2, [1, 3], (.cons (.ptr 0 0 0 0) (.cons (.int .i64) .nil)), (.cons (.bcells 0 false 1 (.cons (.sl true false yA) (.cons (.sl true true yB) (.cons (.sl true true yC) (.cons (.sl true false (.int .u64)) (.cons (.sl true false .str) .nil)))))) .nil)⟩]
def qaz_L2 (n : Nat) : LEntry := ⟨qaz_h2, qaz_o2, qaz_W2 n⟩
def qaz_h4 : List StSh := [⟨.normal, [1, 3, 6], (.cons (.ptr 0 0 0 0) (.cons (.int .i64) (.cons (.int .i64) .nil))), (.cons (.bcells 0 false 1 (.cons (.sl true false yA) (.cons (.sl true true yB) (.cons (.sl true true yC) (.cons (.sl true false (.int .u64)) (.cons (.sl true false .str) .nil)))))) .nil)⟩]
def qaz_o4 : List StSh := [⟨.exit 4, [1, 3], (.cons (.ptr 0 0 0 0) (.cons (.int .i64) .nil)), (.cons (.bcells 0 false 1 (.cons (.sl true false yA) (.cons (.sl true true yB) (.cons (.sl true true yC) (.cons (.sl true false (.int .u64)) (.cons (.sl true false .str) .nil)))))) .nil)⟩]
def qaz_L4 (n : Nat) : LEntry := ⟨qaz_h4, qaz_o4, qaz_W4 n⟩
def qaz_h6 : List StSh := [⟨.normal, [1, 3, 7], (.cons (.ptr 0 0 0 0) (.cons (.int .i64) (.cons (.int .i64) .nil))), (.cons (.bcells 0 false 1 (.cons (.sl true false yA) (.cons (.sl true true yB) (.cons (.sl true true yC) (.cons (.sl true false (.int .u64)) (.cons (.sl true false .str) .nil)))))) .nil)⟩]
def qaz_o6 : List StSh := [⟨.exit 6, [3], (.cons (.int .i64) .nil), (.cons (.bcells 0 false 1 (.cons (.sl true false yA) (.cons (.sl true true yB) (.cons (.sl true true yC) (.cons (.sl true false (.int .u64)) (.cons (.sl true false .str) .nil)))))) .nil)⟩]
def qaz_L6 (n : Nat) : LEntry := ⟨qaz_h6, qaz_o6, qaz_W6 n⟩
def qaz_res : List StSh := [⟨.ret, [0], (.cons .bool .nil), .nil⟩]
def qaz_tbl (n : Nat) : FuncId → List Entry := fun f => []
def qaz_loops (n : Nat) : Nat → Option LEntry := fun f => bif Nat.beq f 0 then some (qaz_L0 n) else bif Nat.beq f 2 then some (qaz_L2 n) else bif Nat.beq f 4 then some (qaz_L4 n) else bif Nat.beq f 6 then some (qaz_L6 n) else none
theorem qaz_r0 (n : Nat) (t3 : Int) (t4 : Int) (m0 : DH) (m0_1 : DI) (m0_2 : DJ) (m0_3 : DC) (m0_4 : DD) : roundK (real _) tab (qaz_tbl n) (qaz_loops n) qaz_an [] qaz_l0 0 [1, 3, 4] qaz_h0 qaz_o0 ((t3, t4), (m0, (m0_1, (m0_2, (m0_3, m0_4))))) some = qaz_B0 n t3 t4 m0 m0_1 m0_2 m0_3 m0_4 := by kernel_rfl
theorem qaz_f0 (n : Nat) : LoopFact tab (qaz_tbl n) (qaz_loops n) qaz_an [] n 0 qaz_l0 (qaz_L0 n) := ⟨[1, 3, 4], (fun s => qaz_B0 n s.1.1 s.1.2 s.2.1 s.2.2.1 s.2.2.2.1 s.2.2.2.2.1 s.2.2.2.2.2), by kernel_rfl, by kernel_rfl, fun s => rfl, fun s => qaz_r0 n s.1.1 s.1.2 s.2.1 s.2.2.1 s.2.2.2.1 s.2.2.2.2.1 s.2.2.2.2.2⟩
theorem qaz_r2 (n : Nat) (t3 : Int) (t5 : Int) (m0 : DH) (m0_1 : DI) (m0_2 : DJ) (m0_3 : DC) (m0_4 : DD) : roundK (real _) tab (qaz_tbl n) (qaz_loops n) qaz_an [] qaz_l2 2 [1, 3, 5] qaz_h2 qaz_o2 ((t3, t5), (m0, (m0_1, (m0_2, (m0_3, m0_4))))) some = qaz_B2 n t3 t5 m0 m0_1 m0_2 m0_3 m0_4 := by kernel_rfl
theorem qaz_f2 (n : Nat) : LoopFact tab (qaz_tbl n) (qaz_loops n) qaz_an [] n 2 qaz_l2 (qaz_L2 n) := ⟨[1, 3, 5], (fun s => qaz_B2 n s.1.1 s.1.2 s.2.1 s.2.2.1 s.2.2.2.1 s.2.2.2.2.1 s.2.2.2.2.2), by kernel_rfl, by kernel_rfl, fun s => rfl, fun s => qaz_r2 n s.1.1 s.1.2 s.2.1 s.2.2.1 s.2.2.2.1 s.2.2.2.2.1 s.2.2.2.2.2⟩
theorem qaz_r4 (n : Nat) (t3 : Int) (t6 : Int) (m0 : DH) (m0_1 : DI) (m0_2 : DJ) (m0_3 : DC) (m0_4 : DD) : roundK (real _) tab (qaz_tbl n) (qaz_loops n) qaz_an [] qaz_l4 4 [1, 3, 6] qaz_h4 qaz_o4 ((t3, t6), (m0, (m0_1, (m0_2, (m0_3, m0_4))))) some = qaz_B4 n t3 t6 m0 m0_1 m0_2 m0_3 m0_4 := by kernel_rfl
theorem qaz_f4 (n : Nat) : LoopFact tab (qaz_tbl n) (qaz_loops n) qaz_an [] n 4 qaz_l4 (qaz_L4 n) := ⟨[1, 3, 6], (fun s => qaz_B4 n s.1.1 s.1.2 s.2.1 s.2.2.1 s.2.2.2.1 s.2.2.2.2.1 s.2.2.2.2.2), by kernel_rfl, by kernel_rfl, fun s => rfl, fun s => qaz_r4 n s.1.1 s.1.2 s.2.1 s.2.2.1 s.2.2.2.1 s.2.2.2.2.1 s.2.2.2.2.2⟩
theorem qaz_r6 (n : Nat) (t3 : Int) (t7 : Int) (m0 : DH) (m0_1 : DI) (m0_2 : DJ) (m0_3 : DC) (m0_4 : DD) : roundK (real _) tab (qaz_tbl n) (qaz_loops n) qaz_an [] qaz_l6 6 [1, 3, 7] qaz_h6 qaz_o6 ((t3, t7), (m0, (m0_1, (m0_2, (m0_3, m0_4))))) some = qaz_B6 n t3 t7 m0 m0_1 m0_2 m0_3 m0_4 := by kernel_rfl
theorem qaz_f6 (n : Nat) : LoopFact tab (qaz_tbl n) (qaz_loops n) qaz_an [] n 6 qaz_l6 (qaz_L6 n) := ⟨[1, 3, 7], (fun s => qaz_B6 n s.1.1 s.1.2 s.2.1 s.2.2.1 s.2.2.2.1 s.2.2.2.2.1 s.2.2.2.2.2), by kernel_rfl, by kernel_rfl, fun s => rfl, fun s => qaz_r6 n s.1.1 s.1.2 s.2.1 s.2.2.1 s.2.2.2.1 s.2.2.2.2.1 s.2.2.2.2.2⟩
theorem qaz_run (n : Nat) (t0 : DH) (t0_1 : DI) (t0_2 : DJ) (t0_3 : DC) (t0_4 : DD) : funDS (real _) tab (qaz_tbl n) (qaz_loops n) qaz_an Tryd.f12 0 qaz_a qaz_res (t0, (t0_1, (t0_2, (t0_3, t0_4)))) some = qaz n t0 t0_1 t0_2 t0_3 t0_4 := by kernel_rfl
def qaz_E (n : Nat) : Entry := ⟨qaz_a, qaz_res, fun d => qaz n d.1 d.2.1 d.2.2.1 d.2.2.2.1 d.2.2.2.2⟩
theorem qaz_ok (n : Nat) : EOK Tryd.prog 12 (qaz_E n) :=
 EOK.ofS zc zd zf (tbl := qaz_tbl n) (loops := qaz_loops n) (an := qaz_an) (old := []) (n := n) (c := qaz_c) (fn := Tryd.f12) TblOK.nil (by kernel_rfl) (by kernel_rfl) (by kernel_rfl) (by kernel_rfl) (fun d => by kernel_rfl) (LT.cons (by kernel_rfl) (qaz_f0 n) (LT.cons (by kernel_rfl) (qaz_f2 n) (LT.cons (by kernel_rfl) (qaz_f4 n) (LT.cons (by kernel_rfl) (qaz_f6 n) LT.nil)))) (fun a => qaz_run n a.1 a.2.1 a.2.2.1 a.2.2.2.1 a.2.2.2.2)
def qaf_an : Ann := {}
def qaf_c : Code := (match Tryd.f13.body with | some c => c | none => .skip)
def qaf_a : StSh := ⟨.normal, [], .nil, .nil⟩
def qcd_an : Ann := {}
def qcd_c : Code := (match Tryd.f14.body with | some c => c | none => .skip)
def qcd_a : StSh := ⟨.normal, [0, 1, 2, 3], (.cons (.agg (.cons (.sl true false yA) (.cons (.sl true true yB) (.cons (.sl true true yC) (.cons (.sl true false (.int .u64)) (.cons (.sl true false .str) .nil)))))) (.cons (.int .i64) (.cons (.int .i64) (.cons (.sl true true yD) .nil)))), .nil⟩
def qbv_an : Ann := { live := [(0, [1, 18, 19, 20])] }
def qbv_c : Code := (match Tryd.f28.body with | some c => c | none => .skip)
def qbv_l0 : Code := (match assoc 0 (loopsIn qbv_c 0) with | some c => c | none => .skip)
def qbv_a : StSh := ⟨.normal, [0], (.cons (.agg (.cons (.sl true false yA) (.cons (.sl true true yB) (.cons (.sl true true yC) (.cons (.sl true false (.int .u64)) (.cons (.sl true false .str) .nil)))))) .nil), .nil⟩
def qaj_an : Ann := {}
def qaj_c : Code := (match Tryd.f39.body with | some c => c | none => .skip)
def qaj_a : StSh := ⟨.normal, [0], (.cons (.agg (.cons (.sl true false yA) (.cons (.sl true true yB) (.cons (.sl true true yC) (.cons (.sl true false (.int .u64)) (.cons (.sl true false .str) .nil)))))) .nil), .nil⟩
def qav_an : Ann := {}
def qav_c : Code := (match Tryd.f64.body with | some c => c | none => .skip)
def qav_a : StSh := ⟨.normal, [0], (.cons (.agg (.cons (.sl true false yA) (.cons (.sl true true yB) (.cons (.sl true true yC) (.cons (.sl true false (.int .u64)) (.cons (.sl true false .str) .nil)))))) .nil), .nil⟩
def qg_an : Ann := {}
def qg_c : Code := (match Tryd.f81.body with | some c => c | none => .skip)
def qg_a : StSh := ⟨.normal, [0, 1], (.cons (.sl true false yA) (.cons (.fn 82 .nil (.cons (.ptr 0 0 0 0) .nil)) .nil)), (.cons (.bcells 0 false 1 (.cons (.int .i64) .nil)) .nil)⟩
def qt_an : Ann := { live := [(0, [0, 1, 7, 8])] }
def qt_c : Code := (match Tryd.f98.body with | some c => c | none => .skip)
def qt_l0 : Code := (match assoc 0 (loopsIn qt_c 0) with | some c => c | none => .skip)
def qt_a : StSh := ⟨.normal, [0, 1], (.cons (.sl true false yA) (.cons (.fn 82 .nil (.cons (.ptr 0 0 0 0) .nil)) .nil)), (.cons (.bcells 0 false 1 (.cons (.int .i64) .nil)) .nil)⟩
def qar_an : Ann := {}
def qar_c : Code := (match Tryd.f82.body with | some c => c | none => .skip)
def qar_a : StSh := ⟨.normal, [0, 1], (.cons (.sl true true yD) (.cons (.ptr 0 0 0 0) .nil)), (.cons (.bcells 0 false 1 (.cons (.int .i64) .nil)) .nil)⟩
def qau_an : Ann := {}
def qau_c : Code := (match Tryd.f83.body with | some c => c | none => .skip)
def qau_a : StSh := ⟨.normal, [0, 1, 2], (.cons (.sl true true yD) (.cons (.int .i64) (.cons (.int .i64) .nil))), .nil⟩
def qo_an : Ann := {}
def qo_c : Code := (match Tryd.f43.body with | some c => c | none => .skip)
def qo_a : StSh := ⟨.normal, [0, 1], (.cons (.sl true true yD) (.cons (.fn 99 .nil (.cons (.ptr 0 0 0 0) .nil)) .nil)), (.cons (.bcells 0 false 1 (.cons (.int .i64) .nil)) .nil)⟩
def qae_an : Ann := { live := [(0, [0, 1, 7, 8])] }
def qae_c : Code := (match Tryd.f73.body with | some c => c | none => .skip)
def qae_l0 : Code := (match assoc 0 (loopsIn qae_c 0) with | some c => c | none => .skip)
def qae_a : StSh := ⟨.normal, [0, 1], (.cons (.sl true true yD) (.cons (.fn 99 .nil (.cons (.ptr 0 0 0 0) .nil)) .nil)), (.cons (.bcells 0 false 1 (.cons (.int .i64) .nil)) .nil)⟩
def qan_an : Ann := {}
def qan_c : Code := (match Tryd.f99.body with | some c => c | none => .skip)
def qan_a : StSh := ⟨.normal, [0, 1], (.cons (.agg (.cons (.int .i64) (.cons (.int .i64) .nil))) (.cons (.ptr 0 0 0 0) .nil)), (.cons (.bcells 0 false 1 (.cons (.int .i64) .nil)) .nil)⟩
def qcc_an : Ann := {}
def qcc_c : Code := (match Tryd.f88.body with | some c => c | none => .skip)
def qcc_a : StSh := ⟨.normal, [0, 1], (.cons (.agg (.cons (.int .i64) (.cons (.int .i64) .nil))) (.cons (.int .i64) .nil)), .nil⟩
def qcc_res : List StSh := [⟨.ret, [0], (.cons .bool .nil), .nil⟩]
def qcc_tbl (n : Nat) : FuncId → List Entry := fun f => []
def qcc_loops (n : Nat) : Nat → Option LEntry := fun f => none
theorem qcc_run (n : Nat) (t_0 : Int) (t_0_1 : Int) (recs_1 : Int) : funDS (real _) tab (qcc_tbl n) (qcc_loops n) qcc_an Tryd.f88 0 qcc_a qcc_res ((t_0, t_0_1), recs_1) some = qcc n t_0 t_0_1 recs_1 := by kernel_rfl
def qcc_E (n : Nat) : Entry := ⟨qcc_a, qcc_res, fun d => qcc n d.1.1 d.1.2 d.2⟩
theorem qcc_ok (n : Nat) : EOK Tryd.prog 88 (qcc_E n) :=
 EOK.ofS zc zd zf (tbl := qcc_tbl n) (loops := qcc_loops n) (an := qcc_an) (old := []) (n := n) (c := qcc_c) (fn := Tryd.f88) TblOK.nil (by kernel_rfl) (by kernel_rfl) (by kernel_rfl) (by kernel_rfl) (fun d => by kernel_rfl) LT.nil (fun a => qcc_run n a.1.1 a.1.2 a.2)
def qan_res : List StSh := [⟨.ret, [0], (.cons .bool .nil), (.cons (.bcells 0 false 1 (.cons (.int .i64) .nil)) .nil)⟩]
def qan_tbl (n : Nat) : FuncId → List Entry := fun f => bif Nat.beq f 88 then [qcc_E n] else []
def qan_loops (n : Nat) : Nat → Option LEntry := fun f => none
theorem qan_run (n : Nat) (t_0 : Int) (t_0_1 : Int) (m0 : Int) : funDS (real _) tab (qan_tbl n) (qan_loops n) qan_an Tryd.f99 1 qan_a qan_res ((t_0, t_0_1), m0) some = qan n t_0 t_0_1 m0 := by kernel_rfl
def qan_E (n : Nat) : Entry := ⟨qan_a, qan_res, fun d => qan n d.1.1 d.1.2 d.2⟩
theorem qan_ok (n : Nat) : EOK Tryd.prog 99 (qan_E n) :=
 EOK.ofS zc zd zf (tbl := qan_tbl n) (loops := qan_loops n) (an := qan_an) (old := [some true]) (n := n) (c := qan_c) (fn := Tryd.f99) (TblOK.cons (AllE.cons (qcc_ok n) AllE.nil) TblOK.nil) (by kernel_rfl) (by kernel_rfl) (by kernel_rfl) (by kernel_rfl) (fun d => by kernel_rfl) LT.nil (fun a => qan_run n a.1.1 a.1.2 a.2)
def qae_h0 : List StSh := [⟨.normal, [0, 1, 7, 8], (.cons (.sl true true yD) (.cons (.fn 99 .nil (.cons (.ptr 0 0 0 0) .nil)) (.cons (.int .i64) (.cons (.int .i64) .nil)))), (.cons (.bcells 0 false 1 (.cons (.int .i64) .nil)) .nil)⟩]
def qae_o0 : List StSh := [⟨.ret, [4], (.cons (.int .i64) .nil), (.cons (.bcells 0 false 1 (.cons (.int .i64) .nil)) .nil)⟩, ⟨.exit 0, [], .nil, (.cons (.bcells 0 false 1 (.cons (.int .i64) .nil)) .nil)⟩]
def qae_L0 (n : Nat) : LEntry := ⟨qae_h0, qae_o0, qae_W0 n⟩
def qae_res : List StSh := [⟨.ret, [0], (.cons (.int .i64) .nil), (.cons (.bcells 0 false 1 (.cons (.int .i64) .nil)) .nil)⟩]
def qae_tbl (n : Nat) : FuncId → List Entry := fun f => bif Nat.beq f 99 then [qan_E n] else []
def qae_loops (n : Nat) : Nat → Option LEntry := fun f => bif Nat.beq f 0 then some (qae_L0 n) else none
theorem qae_r0 (n : Nat) (s_0 : DA) (t7 : Int) (t8 : Int) (m0 : Int) : roundK (real _) tab (qae_tbl n) (qae_loops n) qae_an [some true] qae_l0 0 [0, 1, 7, 8] qae_h0 qae_o0 ((s_0, (t7, t8)), m0) some = qae_B0 n s_0 t7 t8 m0 := by kernel_rfl
theorem qae_f0 (n : Nat) : LoopFact tab (qae_tbl n) (qae_loops n) qae_an [some true] n 0 qae_l0 (qae_L0 n) := ⟨[0, 1, 7, 8], (fun s => qae_B0 n s.1.1 s.1.2.1 s.1.2.2 s.2), by kernel_rfl, by kernel_rfl, fun s => rfl, fun s => qae_r0 n s.1.1 s.1.2.1 s.1.2.2 s.2⟩
theorem qae_run (n : Nat) (s_0 : DA) (m0 : Int) : funDS (real _) tab (qae_tbl n) (qae_loops n) qae_an Tryd.f73 1 qae_a qae_res (s_0, m0) some = qae n s_0 m0 := by kernel_rfl
def qae_E (n : Nat) : Entry := ⟨qae_a, qae_res, fun d => qae n d.1 d.2⟩
theorem qae_ok (n : Nat) : EOK Tryd.prog 73 (qae_E n) :=
 EOK.ofS zc zd zf (tbl := qae_tbl n) (loops := qae_loops n) (an := qae_an) (old := [some true]) (n := n) (c := qae_c) (fn := Tryd.f73) (TblOK.cons (AllE.cons (qan_ok n) AllE.nil) TblOK.nil) (by kernel_rfl) (by kernel_rfl) (by kernel_rfl) (by kernel_rfl) (fun d => by kernel_rfl) (LT.cons (by kernel_rfl) (qae_f0 n) LT.nil) (fun a => qae_run n a.1 a.2)
def qo_res : List StSh := [⟨.ret, [0], (.cons .bool .nil), (.cons (.bcells 0 false 1 (.cons (.int .i64) .nil)) .nil)⟩]
def qo_tbl (n : Nat) : FuncId → List Entry := fun f => bif Nat.beq f 73 then [qae_E n] else []
def qo_loops (n : Nat) : Nat → Option LEntry := fun f => none
theorem qo_run (n : Nat) (s_0 : DA) (m0 : Int) : funDS (real _) tab (qo_tbl n) (qo_loops n) qo_an Tryd.f43 1 qo_a qo_res (s_0, m0) some = qo n s_0 m0 := by kernel_rfl
def qo_E (n : Nat) : Entry := ⟨qo_a, qo_res, fun d => qo n d.1 d.2⟩
theorem qo_ok (n : Nat) : EOK Tryd.prog 43 (qo_E n) :=
 EOK.ofS zc zd zf (tbl := qo_tbl n) (loops := qo_loops n) (an := qo_an) (old := [some true]) (n := n) (c := qo_c) (fn := Tryd.f43) (TblOK.cons (AllE.cons (qae_ok n) AllE.nil) TblOK.nil) (by kernel_rfl) (by kernel_rfl) (by kernel_rfl) (by kernel_rfl) (fun d => by kernel_rfl) LT.nil (fun a => qo_run n a.1 a.2)
def qau_res : List StSh := [⟨.ret, [0], (.cons .bool .nil), .nil⟩]
def qau_tbl (n : Nat) : FuncId → List Entry := fun f => bif Nat.beq f 43 then [qo_E n] else []
def qau_loops (n : Nat) : Nat → Option LEntry := fun f => none
theorem qau_run (n : Nat) (list_0 : DA) (recs_1 : Int) (most_2 : Int) : funDS (real _) tab (qau_tbl n) (qau_loops n) qau_an Tryd.f83 0 qau_a qau_res (list_0, (recs_1, most_2)) some = qau n list_0 recs_1 most_2 := by kernel_rfl
def qau_E (n : Nat) : Entry := ⟨qau_a, qau_res, fun d => qau n d.1 d.2.1 d.2.2⟩
theorem qau_ok (n : Nat) : EOK Tryd.prog 83 (qau_E n) :=
 EOK.ofS zc zd zf (tbl := qau_tbl n) (loops := qau_loops n) (an := qau_an) (old := []) (n := n) (c := qau_c) (fn := Tryd.f83) (TblOK.cons (AllE.cons (qo_ok n) AllE.nil) TblOK.nil) (by kernel_rfl) (by kernel_rfl) (by kernel_rfl) (by kernel_rfl) (fun d => by kernel_rfl) LT.nil (fun a => qau_run n a.1 a.2.1 a.2.2)
def qar_res : List StSh := [⟨.ret, [0], (.cons .bool .nil), (.cons (.bcells 0 false 1 (.cons (.int .i64) .nil)) .nil)⟩]
def qar_tbl (n : Nat) : FuncId → List Entry := fun f => bif Nat.beq f 83 then [qau_E n] else []
def qar_loops (n : Nat) : Nat → Option LEntry := fun f => none
theorem qar_run (n : Nat) (l_0 : DA) (m0 : Int) : funDS (real _) tab (qar_tbl n) (qar_loops n) qar_an Tryd.f82 1 qar_a qar_res (l_0, m0) some = qar n l_0 m0 := by kernel_rfl
def qar_E (n : Nat) : Entry := ⟨qar_a, qar_res, fun d => qar n d.1 d.2⟩
theorem qar_ok (n : Nat) : EOK Tryd.prog 82 (qar_E n) :=
 EOK.ofS zc zd zf (tbl := qar_tbl n) (loops := qar_loops n) (an := qar_an) (old := [some true]) (n := n) (c := qar_c) (fn := Tryd.f82) (TblOK.cons (AllE.cons (qau_ok n) AllE.nil) TblOK.nil) (by kernel_rfl) (by kernel_rfl) (by kernel_rfl) (by kernel_rfl) (fun d => by kernel_rfl) LT.nil (fun a => qar_run n a.1 a.2)
def qt_h0 : List StSh := [⟨.normal, [0, 1, 7, 8], (.cons (.sl true false yA) (.cons (.fn 82 .nil (.cons (.ptr 0 0 0 0) .nil)) (.cons (.int .i64) (.cons (.int .i64) .nil)))), (.cons (.bcells 0 false 1 (.cons (.int .i64) .nil)) .nil)⟩]
def qt_o0 : List StSh := [⟨.ret, [4], (.cons (.int .i64) .nil), (.cons (.bcells 0 false 1 (.cons (.int .i64) .nil)) .nil)⟩, ⟨.exit 0, [], .nil, (.cons (.bcells 0 false 1 (.cons (.int .i64) .nil)) .nil)⟩]
def qt_L0 (n : Nat) : LEntry := ⟨qt_h0, qt_o0, qt_W0 n⟩
def qt_res : List StSh := [⟨.ret, [0], (.cons (.int .i64) .nil), (.cons (.bcells 0 false 1 (.cons (.int .i64) .nil)) .nil)⟩]
def qt_tbl (n : Nat) : FuncId → List Entry := fun f => bif Nat.beq f 82 then [qar_E n] else []
def qt_loops (n : Nat) : Nat → Option LEntry := fun f => bif Nat.beq f 0 then some (qt_L0 n) else none
theorem qt_r0 (n : Nat) (s_0 : DH) (t7 : Int) (t8 : Int) (m0 : Int) : roundK (real _) tab (qt_tbl n) (qt_loops n) qt_an [some true] qt_l0 0 [0, 1, 7, 8] qt_h0 qt_o0 ((s_0, (t7, t8)), m0) some = qt_B0 n s_0 t7 t8 m0 := by kernel_rfl
theorem qt_f0 (n : Nat) : LoopFact tab (qt_tbl n) (qt_loops n) qt_an [some true] n 0 qt_l0 (qt_L0 n) := ⟨[0, 1, 7, 8], (fun s => qt_B0 n s.1.1 s.1.2.1 s.1.2.2 s.2), by kernel_rfl, by kernel_rfl, fun s => rfl, fun s => qt_r0 n s.1.1 s.1.2.1 s.1.2.2 s.2⟩
theorem qt_run (n : Nat) (s_0 : DH) (m0 : Int) : funDS (real _) tab (qt_tbl n) (qt_loops n) qt_an Tryd.f98 1 qt_a qt_res (s_0, m0) some = qt n s_0 m0 := by kernel_rfl
def qt_E (n : Nat) : Entry := ⟨qt_a, qt_res, fun d => qt n d.1 d.2⟩
theorem qt_ok (n : Nat) : EOK Tryd.prog 98 (qt_E n) :=
 EOK.ofS zc zd zf (tbl := qt_tbl n) (loops := qt_loops n) (an := qt_an) (old := [some true]) (n := n) (c := qt_c) (fn := Tryd.f98) (TblOK.cons (AllE.cons (qar_ok n) AllE.nil) TblOK.nil) (by kernel_rfl) (by kernel_rfl) (by kernel_rfl) (by kernel_rfl) (fun d => by kernel_rfl) (LT.cons (by kernel_rfl) (qt_f0 n) LT.nil) (fun a => qt_run n a.1 a.2)
def qg_res : List StSh := [⟨.ret, [0], (.cons .bool .nil), (.cons (.bcells 0 false 1 (.cons (.int .i64) .nil)) .nil)⟩]
def qg_tbl (n : Nat) : FuncId → List Entry := fun f => bif Nat.beq f 98 then [qt_E n] else []
def qg_loops (n : Nat) : Nat → Option LEntry := fun f => none
theorem qg_run (n : Nat) (s_0 : DH) (m0 : Int) : funDS (real _) tab (qg_tbl n) (qg_loops n) qg_an Tryd.f81 1 qg_a qg_res (s_0, m0) some = qg n s_0 m0 := by kernel_rfl
def qg_E (n : Nat) : Entry := ⟨qg_a, qg_res, fun d => qg n d.1 d.2⟩
theorem qg_ok (n : Nat) : EOK Tryd.prog 81 (qg_E n) :=
 EOK.ofS zc zd zf (tbl := qg_tbl n) (loops := qg_loops n) (an := qg_an) (old := [some true]) (n := n) (c := qg_c) (fn := Tryd.f81) (TblOK.cons (AllE.cons (qt_ok n) AllE.nil) TblOK.nil) (by kernel_rfl) (by kernel_rfl) (by kernel_rfl) (by kernel_rfl) (fun d => by kernel_rfl) LT.nil (fun a => qg_run n a.1 a.2)
def qm_an : Ann := {}
def qm_c : Code := (match Tryd.f84.body with | some c => c | none => .skip)
def qm_a : StSh := ⟨.normal, [0, 1], (.cons (.sl true true yB) (.cons (.fn 85 .nil (.cons (.ptr 0 0 0 0) .nil)) .nil)), (.cons (.bcells 0 false 1 (.cons (.int .i64) .nil)) .nil)⟩
def qad_an : Ann := { live := [(0, [0, 1, 7, 8])] }
def qad_c : Code := (match Tryd.f100.body with | some c => c | none => .skip)
def qad_l0 : Code := (match assoc 0 (loopsIn qad_c 0) with | some c => c | none => .skip)
def qad_a : StSh := ⟨.normal, [0, 1], (.cons (.sl true true yB) (.cons (.fn 85 .nil (.cons (.ptr 0 0 0 0) .nil)) .nil)), (.cons (.bcells 0 false 1 (.cons (.int .i64) .nil)) .nil)⟩
def qal_an : Ann := {}
def qal_c : Code := (match Tryd.f85.body with | some c => c | none => .skip)
def qal_a : StSh := ⟨.normal, [0, 1], (.cons (.agg (.cons (.sl true true yD) (.cons (.int .i64) (.cons (.int .i64) (.cons (.sl true true yD) (.cons (.sl true true yE) .nil)))))) (.cons (.ptr 0 0 0 0) .nil)), (.cons (.bcells 0 false 1 (.cons (.int .i64) .nil)) .nil)⟩
def qac_an : Ann := {}
def qac_c : Code := (match Tryd.f86.body with | some c => c | none => .skip)
def qac_a : StSh := ⟨.normal, [0, 1], (.cons (.agg (.cons (.sl true true yD) (.cons (.int .i64) (.cons (.int .i64) (.cons (.sl true true yD) (.cons (.sl true true yE) .nil)))))) (.cons (.int .i64) .nil)), .nil⟩
def qi_an : Ann := {}
def qi_c : Code := (match Tryd.f42.body with | some c => c | none => .skip)
def qi_a : StSh := ⟨.normal, [0, 1], (.cons (.sl true true yE) (.cons (.fn 101 .nil .nil) .nil)), .nil⟩
def qw_an : Ann := { live := [(0, [0, 1, 7, 8])] }
def qw_c : Code := (match Tryd.f72.body with | some c => c | none => .skip)
def qw_l0 : Code := (match assoc 0 (loopsIn qw_c 0) with | some c => c | none => .skip)
def qw_a : StSh := ⟨.normal, [0, 1], (.cons (.sl true true yE) (.cons (.fn 101 .nil .nil) .nil)), .nil⟩
def qx_an : Ann := {}
def qx_c : Code := (match Tryd.f101.body with | some c => c | none => .skip)
def qx_a : StSh := ⟨.normal, [0], (.cons (.agg (.cons (.int .i64) (.cons (.int .i64) (.cons (.int .i64) .nil)))) .nil), .nil⟩
def qcn_an : Ann := { live := [(0, [4, 39, 40, 41])], boxed := [(4, 3), (9, 4)] }
def qcn_c : Code := (match Tryd.f95.body with | some c => c | none => .skip)
def qcn_l0 : Code := (match assoc 0 (loopsIn qcn_c 0) with | some c => c | none => .skip)
def qcn_a : StSh := ⟨.normal, [0], (.cons (.agg (.cons (.int .i64) (.cons (.int .i64) (.cons (.int .i64) .nil)))) .nil), .nil⟩
def qce_an : Ann := {}
def qce_c : Code := (match Tryd.f103.body with | some c => c | none => .skip)
def qce_a : StSh := ⟨.normal, [0], (.cons (.int .i64) .nil), .nil⟩
def qce_res : List StSh := [⟨.ret, [0], (.cons (.int .i64) .nil), .nil⟩]
def qce_tbl (n : Nat) : FuncId → List Entry := fun f => []
def qce_loops (n : Nat) : Nat → Option LEntry := fun f => none
theorem qce_run (n : Nat) (op_0 : Int) : funDS (real _) tab (qce_tbl n) (qce_loops n) qce_an Tryd.f103 0 qce_a qce_res op_0 some = qce n op_0 := by kernel_rfl
def qce_E (n : Nat) : Entry := ⟨qce_a, qce_res, fun d => qce n d⟩
theorem qce_ok (n : Nat) : EOK Tryd.prog 103 (qce_E n) :=
 EOK.ofS zc zd zf (tbl := qce_tbl n) (loops := qce_loops n) (an := qce_an) (old := []) (n := n) (c := qce_c) (fn := Tryd.f103) TblOK.nil (by kernel_rfl) (by kernel_rfl) (by kernel_rfl) (by kernel_rfl) (fun d => by kernel_rfl) LT.nil (fun a => qce_run n a)
def qco_an : Ann := {}
def qco_c : Code := (match Tryd.f104.body with | some c => c | none => .skip)
def qco_a : StSh := ⟨.normal, [0, 1], (.cons (.int .i64) (.cons .bool .nil)), .nil⟩
def qco_res : List StSh := [⟨.ret, [0], (.cons .bool .nil), .nil⟩]
def qco_tbl (n : Nat) : FuncId → List Entry := fun f => []
def qco_loops (n : Nat) : Nat → Option LEntry := fun f => none
theorem qco_run (n : Nat) (n_0 : Int) (has_1 : Bool) : funDS (real _) tab (qco_tbl n) (qco_loops n) qco_an Tryd.f104 0 qco_a qco_res (n_0, has_1) some = qco n n_0 has_1 := by kernel_rfl
def qco_E (n : Nat) : Entry := ⟨qco_a, qco_res, fun d => qco n d.1 d.2⟩
theorem qco_ok (n : Nat) : EOK Tryd.prog 104 (qco_E n) :=
 EOK.ofS zc zd zf (tbl := qco_tbl n) (loops := qco_loops n) (an := qco_an) (old := []) (n := n) (c := qco_c) (fn := Tryd.f104) TblOK.nil (by kernel_rfl) (by kernel_rfl) (by kernel_rfl) (by kernel_rfl) (fun d => by kernel_rfl) LT.nil (fun a => qco_run n a.1 a.2)
def qcs_an : Ann := { live := [(0, [0, 3])], boxed := [(0, 0), (1, 0), (4, 5), (5, 4)] }
def qcs_c : Code := (match Tryd.f91.body with | some c => c | none => .skip)
def qcs_l0 : Code := (match assoc 0 (loopsIn qcs_c 0) with | some c => c | none => .skip)
def qcs_a : StSh := ⟨.normal, [0], (.cons (.int .u64) .nil), .nil⟩
def qcs_h0 : List StSh := [⟨.normal, [0, 3], (.cons (.int .u64) (.cons (.msw 0 0) .nil)), (.cons (.bts 0 false false false (.int .u8)) .nil)⟩]
def qcs_o0 : List StSh := [⟨.exit 0, [0, 3], (.cons (.int .u64) (.cons (.msw 0 0) .nil)), (.cons (.bts 0 false false false (.int .u8)) .nil)⟩]
def qcs_L0 (n : Nat) : LEntry := ⟨qcs_h0, qcs_o0, qcs_W0 n⟩
def qcs_res : List StSh := [⟨.ret, [0], (.cons (.msw 0 0) .nil), (.cons (.bts 0 false false false (.int .u8)) .nil)⟩]
def qcs_tbl (n : Nat) : FuncId → List Entry := fun f => []
def qcs_loops (n : Nat) : Nat → Option LEntry := fun f => bif Nat.beq f 0 then some (qcs_L0 n) else none
theorem qcs_r0 (n : Nat) (v_0 : Int) (m0 : DC) : roundK (real _) tab (qcs_tbl n) (qcs_loops n) qcs_an [] qcs_l0 0 [0, 3] qcs_h0 qcs_o0 (v_0, m0) some = qcs_B0 n v_0 m0 := by kernel_rfl
theorem qcs_f0 (n : Nat) : LoopFact tab (qcs_tbl n) (qcs_loops n) qcs_an [] n 0 qcs_l0 (qcs_L0 n) := ⟨[0, 3], (fun s => qcs_B0 n s.1 s.2), by kernel_rfl, by kernel_rfl, fun s => rfl, fun s => qcs_r0 n s.1 s.2⟩
theorem qcs_run (n : Nat) (v_0 : Int) : funD (real _) tab (qcs_tbl n) (qcs_loops n) qcs_an Tryd.f91 qcs_a qcs_res v_0 some = qcs n v_0 := by kernel_rfl
def qcs_E (n : Nat) : Entry := ⟨qcs_a, qcs_res, fun d => qcs n d⟩
theorem qcs_ok (n : Nat) : EOK Tryd.prog 91 (qcs_E n) :=
 EOK.of zc zd zf (tbl := qcs_tbl n) (loops := qcs_loops n) (an := qcs_an) (old := []) (n := n) (c := qcs_c) (fn := Tryd.f91) TblOK.nil (by kernel_rfl) (by kernel_rfl) (by kernel_rfl) (by kernel_rfl) (fun d => by kernel_rfl) (LT.cons (by kernel_rfl) (qcs_f0 n) LT.nil) (fun a => qcs_run n a)
def qcn_h0 : List StSh := [⟨.normal, [4, 39, 40, 41], (.cons (.msw 0 0) (.cons (.ms 1 0) (.cons (.int .i64) (.cons (.int .i64) .nil)))), (.cons (.bts 0 false false false (.int .u8)) (.cons (.bcells 0 false 1 (.cons (.int .i64) (.cons (.int .i64) .nil))) .nil))⟩]
def qcn_o0 : List StSh := [⟨.exit 0, [4], (.cons (.msw 0 0) .nil), (.cons (.bts 0 false false false (.int .u8)) (.cons (.bcells 0 false 1 (.cons (.int .i64) (.cons (.int .i64) .nil))) .nil))⟩]
def qcn_L0 (n : Nat) : LEntry := ⟨qcn_h0, qcn_o0, qcn_W0 n⟩
def qcn_res : List StSh := [⟨.ret, [0], (.cons (.sl false false (.int .u8)) .nil), .nil⟩]
def qcn_tbl (n : Nat) : FuncId → List Entry := fun f => bif Nat.beq f 103 then [qce_E n] else bif Nat.beq f 104 then [qco_E n] else bif Nat.beq f 91 then [qcs_E n] else []
def qcn_loops (n : Nat) : Nat → Option LEntry := fun f => bif Nat.beq f 0 then some (qcn_L0 n) else none
theorem qcn_r0 (n : Nat) (t39 : Nat × Nat) (t40 : Int) (t41 : Int) (m0 : DC) (m1 : Int) (m1_1 : Int) : roundK (real _) tab (qcn_tbl n) (qcn_loops n) qcn_an [] qcn_l0 0 [4, 39, 40, 41] qcn_h0 qcn_o0 ((t39, (t40, t41)), (m0, (m1, m1_1))) some = qcn_B0 n t39 t40 t41 m0 m1 m1_1 := by kernel_rfl
theorem qcn_f0 (n : Nat) : LoopFact tab (qcn_tbl n) (qcn_loops n) qcn_an [] n 0 qcn_l0 (qcn_L0 n) := ⟨[4, 39, 40, 41], (fun s => qcn_B0 n s.1.1 s.1.2.1 s.1.2.2 s.2.1 s.2.2.1 s.2.2.2), by kernel_rfl, by kernel_rfl, fun s => rfl, fun s => qcn_r0 n s.1.1 s.1.2.1 s.1.2.2 s.2.1 s.2.2.1 s.2.2.2⟩
theorem qcn_run (n : Nat) (i_0 : Int) (i_0_1 : Int) (i_0_2 : Int) : funDS (real _) tab (qcn_tbl n) (qcn_loops n) qcn_an Tryd.f95 0 qcn_a qcn_res (i_0, (i_0_1, i_0_2)) some = qcn n i_0 i_0_1 i_0_2 := by kernel_rfl
def qcn_E (n : Nat) : Entry := ⟨qcn_a, qcn_res, fun d => qcn n d.1 d.2.1 d.2.2⟩
theorem qcn_ok (n : Nat) : EOK Tryd.prog 95 (qcn_E n) :=
 EOK.ofS zc zd zf (tbl := qcn_tbl n) (loops := qcn_loops n) (an := qcn_an) (old := []) (n := n) (c := qcn_c) (fn := Tryd.f95) (TblOK.cons (AllE.cons (qce_ok n) AllE.nil) (TblOK.cons (AllE.cons (qco_ok n) AllE.nil) (TblOK.cons (AllE.cons (qcs_ok n) AllE.nil) TblOK.nil))) (by kernel_rfl) (by kernel_rfl) (by kernel_rfl) (by kernel_rfl) (fun d => by kernel_rfl) (LT.cons (by kernel_rfl) (qcn_f0 n) LT.nil) (fun a => qcn_run n a.1 a.2.1 a.2.2)
def qx_res : List StSh := [⟨.ret, [0], (.cons .bool .nil), .nil⟩]
def qx_tbl (n : Nat) : FuncId → List Entry := fun f => bif Nat.beq f 95 then [qcn_E n] else []
def qx_loops (n : Nat) : Nat → Option LEntry := fun f => none
theorem qx_run (n : Nat) (i_0 : Int) (i_0_1 : Int) (i_0_2 : Int) : funDS (real _) tab (qx_tbl n) (qx_loops n) qx_an Tryd.f101 0 qx_a qx_res (i_0, (i_0_1, i_0_2)) some = qx n i_0 i_0_1 i_0_2 := by kernel_rfl
def qx_E (n : Nat) : Entry := ⟨qx_a, qx_res, fun d => qx n d.1 d.2.1 d.2.2⟩
theorem qx_ok (n : Nat) : EOK Tryd.prog 101 (qx_E n) :=
 EOK.ofS zc zd zf (tbl := qx_tbl n) (loops := qx_loops n) (an := qx_an) (old := []) (n := n) (c := qx_c) (fn := Tryd.f101) (TblOK.cons (AllE.cons (qcn_ok n) AllE.nil) TblOK.nil) (by kernel_rfl) (by kernel_rfl) (by kernel_rfl) (by kernel_rfl) (fun d => by kernel_rfl) LT.nil (fun a => qx_run n a.1 a.2.1 a.2.2)
def qw_h0 : List StSh := [⟨.normal, [0, 1, 7, 8], (.cons (.sl true true yE) (.cons (.fn 101 .nil .nil) (.cons (.int .i64) (.cons (.int .i64) .nil)))), .nil⟩]
def qw_o0 : List StSh := [⟨.ret, [4], (.cons (.int .i64) .nil), .nil⟩, ⟨.exit 0, [], .nil, .nil⟩]
def qw_L0 (n : Nat) : LEntry := ⟨qw_h0, qw_o0, qw_W0 n⟩
def qw_res : List StSh := [⟨.ret, [0], (.cons (.int .i64) .nil), .nil⟩]
def qw_tbl (n : Nat) : FuncId → List Entry := fun f => bif Nat.beq f 101 then [qx_E n] else []
def qw_loops (n : Nat) : Nat → Option LEntry := fun f => bif Nat.beq f 0 then some (qw_L0 n) else none
theorem qw_r0 (n : Nat) (s_0 : DB) (t7 : Int) (t8 : Int) : roundK (real _) tab (qw_tbl n) (qw_loops n) qw_an [] qw_l0 0 [0, 1, 7, 8] qw_h0 qw_o0 (s_0, (t7, t8)) some = qw_B0 n s_0 t7 t8 := by kernel_rfl
theorem qw_f0 (n : Nat) : LoopFact tab (qw_tbl n) (qw_loops n) qw_an [] n 0 qw_l0 (qw_L0 n) := ⟨[0, 1, 7, 8], (fun s => qw_B0 n s.1 s.2.1 s.2.2), by kernel_rfl, by kernel_rfl, fun s => rfl, fun s => qw_r0 n s.1 s.2.1 s.2.2⟩
theorem qw_run (n : Nat) (s_0 : DB) : funDS (real _) tab (qw_tbl n) (qw_loops n) qw_an Tryd.f72 0 qw_a qw_res s_0 some = qw n s_0 := by kernel_rfl
def qw_E (n : Nat) : Entry := ⟨qw_a, qw_res, fun d => qw n d⟩
theorem qw_ok (n : Nat) : EOK Tryd.prog 72 (qw_E n) :=
 EOK.ofS zc zd zf (tbl := qw_tbl n) (loops := qw_loops n) (an := qw_an) (old := []) (n := n) (c := qw_c) (fn := Tryd.f72) (TblOK.cons (AllE.cons (qx_ok n) AllE.nil) TblOK.nil) (by kernel_rfl) (by kernel_rfl) (by kernel_rfl) (by kernel_rfl) (fun d => by kernel_rfl) (LT.cons (by kernel_rfl) (qw_f0 n) LT.nil) (fun a => qw_run n a)
def qi_res : List StSh := [⟨.ret, [0], (.cons .bool .nil), .nil⟩]
def qi_tbl (n : Nat) : FuncId → List Entry := fun f => bif Nat.beq f 72 then [qw_E n] else []
def qi_loops (n : Nat) : Nat → Option LEntry := fun f => none
theorem qi_run (n : Nat) (s_0 : DB) : funDS (real _) tab (qi_tbl n) (qi_loops n) qi_an Tryd.f42 0 qi_a qi_res s_0 some = qi n s_0 := by kernel_rfl
def qi_E (n : Nat) : Entry := ⟨qi_a, qi_res, fun d => qi n d⟩
theorem qi_ok (n : Nat) : EOK Tryd.prog 42 (qi_E n) :=
 EOK.ofS zc zd zf (tbl := qi_tbl n) (loops := qi_loops n) (an := qi_an) (old := []) (n := n) (c := qi_c) (fn := Tryd.f42) (TblOK.cons (AllE.cons (qw_ok n) AllE.nil) TblOK.nil) (by kernel_rfl) (by kernel_rfl) (by kernel_rfl) (by kernel_rfl) (fun d => by kernel_rfl) LT.nil (fun a => qi_run n a)
def qac_res : List StSh := [⟨.ret, [0], (.cons .bool .nil), .nil⟩]
def qac_tbl (n : Nat) : FuncId → List Entry := fun f => bif Nat.beq f 83 then [qau_E n] else bif Nat.beq f 88 then [qcc_E n] else bif Nat.beq f 42 then [qi_E n] else []
def qac_loops (n : Nat) : Nat → Option LEntry := fun f => none
theorem qac_run (n : Nat) (f_0 : DA) (f_0_1 : Int) (f_0_2 : Int) (f_0_3 : DA) (f_0_4 : DB) (recs_1 : Int) : funDS (real _) tab (qac_tbl n) (qac_loops n) qac_an Tryd.f86 0 qac_a qac_res ((f_0, (f_0_1, (f_0_2, (f_0_3, f_0_4)))), recs_1) some = qac n f_0 f_0_1 f_0_2 f_0_3 f_0_4 recs_1 := by kernel_rfl
def qac_E (n : Nat) : Entry := ⟨qac_a, qac_res, fun d => qac n d.1.1 d.1.2.1 d.1.2.2.1 d.1.2.2.2.1 d.1.2.2.2.2 d.2⟩
theorem qac_ok (n : Nat) : EOK Tryd.prog 86 (qac_E n) :=
 EOK.ofS zc zd zf (tbl := qac_tbl n) (loops := qac_loops n) (an := qac_an) (old := []) (n := n) (c := qac_c) (fn := Tryd.f86) (TblOK.cons (AllE.cons (qau_ok n) AllE.nil) (TblOK.cons (AllE.cons (qcc_ok n) AllE.nil) (TblOK.cons (AllE.cons (qi_ok n) AllE.nil) TblOK.nil))) (by kernel_rfl) (by kernel_rfl) (by kernel_rfl) (by kernel_rfl) (fun d => by kernel_rfl) LT.nil (fun a => qac_run n a.1.1 a.1.2.1 a.1.2.2.1 a.1.2.2.2.1 a.1.2.2.2.2 a.2)
def qal_res : List StSh := [⟨.ret, [0], (.cons .bool .nil), (.cons (.bcells 0 false 1 (.cons (.int .i64) .nil)) .nil)⟩]
def qal_tbl (n : Nat) : FuncId → List Entry := fun f => bif Nat.beq f 86 then [qac_E n] else []
def qal_loops (n : Nat) : Nat → Option LEntry := fun f => none
theorem qal_run (n : Nat) (f_0 : DA) (f_0_1 : Int) (f_0_2 : Int) (f_0_3 : DA) (f_0_4 : DB) (m0 : Int) : funDS (real _) tab (qal_tbl n) (qal_loops n) qal_an Tryd.f85 1 qal_a qal_res ((f_0, (f_0_1, (f_0_2, (f_0_3, f_0_4)))), m0) some = qal n f_0 f_0_1 f_0_2 f_0_3 f_0_4 m0 := by kernel_rfl
def qal_E (n : Nat) : Entry := ⟨qal_a, qal_res, fun d => qal n d.1.1 d.1.2.1 d.1.2.2.1 d.1.2.2.2.1 d.1.2.2.2.2 d.2⟩
theorem qal_ok (n : Nat) : EOK Tryd.prog 85 (qal_E n) :=
 EOK.ofS zc zd zf (tbl := qal_tbl n) (loops := qal_loops n) (an := qal_an) (old := [some true]) (n := n) (c := qal_c) (fn := Tryd.f85) (TblOK.cons (AllE.cons (qac_ok n) AllE.nil) TblOK.nil) (by kernel_rfl) (by kernel_rfl) (by kernel_rfl) (by kernel_rfl) (fun d => by kernel_rfl) LT.nil (fun a => qal_run n a.1.1 a.1.2.1 a.1.2.2.1 a.1.2.2.2.1 a.1.2.2.2.2 a.2)
def qad_h0 : List StSh := [⟨.normal, [0, 1, 7, 8], (.cons (.sl true true yB) (.cons (.fn 85 .nil (.cons (.ptr 0 0 0 0) .nil)) (.cons (.int .i64) (.cons (.int .i64) .nil)))), (.cons (.bcells 0 false 1 (.cons (.int .i64) .nil)) .nil)⟩]
def qad_o0 : List StSh := [⟨.ret, [4], (.cons (.int .i64) .nil), (.cons (.bcells 0 false 1 (.cons (.int .i64) .nil)) .nil)⟩, ⟨.exit 0, [], .nil, (.cons (.bcells 0 false 1 (.cons (.int .i64) .nil)) .nil)⟩]
def qad_L0 (n : Nat) : LEntry := ⟨qad_h0, qad_o0, qad_W0 n⟩
def qad_res : List StSh := [⟨.ret, [0], (.cons (.int .i64) .nil), (.cons (.bcells 0 false 1 (.cons (.int .i64) .nil)) .nil)⟩]
def qad_tbl (n : Nat) : FuncId → List Entry := fun f => bif Nat.beq f 85 then [qal_E n] else []
def qad_loops (n : Nat) : Nat → Option LEntry := fun f => bif Nat.beq f 0 then some (qad_L0 n) else none
theorem qad_r0 (n : Nat) (s_0 : DI) (t7 : Int) (t8 : Int) (m0 : Int) : roundK (real _) tab (qad_tbl n) (qad_loops n) qad_an [some true] qad_l0 0 [0, 1, 7, 8] qad_h0 qad_o0 ((s_0, (t7, t8)), m0) some = qad_B0 n s_0 t7 t8 m0 := by kernel_rfl
theorem qad_f0 (n : Nat) : LoopFact tab (qad_tbl n) (qad_loops n) qad_an [some true] n 0 qad_l0 (qad_L0 n) := ⟨[0, 1, 7, 8], (fun s => qad_B0 n s.1.1 s.1.2.1 s.1.2.2 s.2), by kernel_rfl, by kernel_rfl, fun s => rfl, fun s => qad_r0 n s.1.1 s.1.2.1 s.1.2.2 s.2⟩
theorem qad_run (n : Nat) (s_0 : DI) (m0 : Int) : funDS (real _) tab (qad_tbl n) (qad_loops n) qad_an Tryd.f100 1 qad_a qad_res (s_0, m0) some = qad n s_0 m0 := by kernel_rfl
def qad_E (n : Nat) : Entry := ⟨qad_a, qad_res, fun d => qad n d.1 d.2⟩
theorem qad_ok (n : Nat) : EOK Tryd.prog 100 (qad_E n) :=
 EOK.ofS zc zd zf (tbl := qad_tbl n) (loops := qad_loops n) (an := qad_an) (old := [some true]) (n := n) (c := qad_c) (fn := Tryd.f100) (TblOK.cons (AllE.cons (qal_ok n) AllE.nil) TblOK.nil) (by kernel_rfl) (by kernel_rfl) (by kernel_rfl) (by kernel_rfl) (fun d => by kernel_rfl) (LT.cons (by kernel_rfl) (qad_f0 n) LT.nil) (fun a => qad_run n a.1 a.2)
def qm_res : List StSh := [⟨.ret, [0], (.cons .bool .nil), (.cons (.bcells 0 false 1 (.cons (.int .i64) .nil)) .nil)⟩]
def qm_tbl (n : Nat) : FuncId → List Entry := fun f => bif Nat.beq f 100 then [qad_E n] else []
def qm_loops (n : Nat) : Nat → Option LEntry := fun f => none
theorem qm_run (n : Nat) (s_0 : DI) (m0 : Int) : funDS (real _) tab (qm_tbl n) (qm_loops n) qm_an Tryd.f84 1 qm_a qm_res (s_0, m0) some = qm n s_0 m0 := by kernel_rfl
def qm_E (n : Nat) : Entry := ⟨qm_a, qm_res, fun d => qm n d.1 d.2⟩
theorem qm_ok (n : Nat) : EOK Tryd.prog 84 (qm_E n) :=
 EOK.ofS zc zd zf (tbl := qm_tbl n) (loops := qm_loops n) (an := qm_an) (old := [some true]) (n := n) (c := qm_c) (fn := Tryd.f84) (TblOK.cons (AllE.cons (qad_ok n) AllE.nil) TblOK.nil) (by kernel_rfl) (by kernel_rfl) (by kernel_rfl) (by kernel_rfl) (fun d => by kernel_rfl) LT.nil (fun a => qm_run n a.1 a.2)
def qh_an : Ann := {}
def qh_c : Code := (match Tryd.f48.body with | some c => c | none => .skip)
def qh_a : StSh := ⟨.normal, [0, 1], (.cons (.sl true true yC) (.cons (.fn 87 .nil (.cons (.ptr 0 0 0 0) .nil)) .nil)), (.cons (.bcells 0 false 1 (.cons (.int .i64) .nil)) .nil)⟩
def qq_an : Ann := { live := [(0, [0, 1, 7, 8])] }
def qq_c : Code := (match Tryd.f74.body with | some c => c | none => .skip)
def qq_l0 : Code := (match assoc 0 (loopsIn qq_c 0) with | some c => c | none => .skip)
def qq_a : StSh := ⟨.normal, [0, 1], (.cons (.sl true true yC) (.cons (.fn 87 .nil (.cons (.ptr 0 0 0 0) .nil)) .nil)), (.cons (.bcells 0 false 1 (.cons (.int .i64) .nil)) .nil)⟩
def qam_an : Ann := {}
def qam_c : Code := (match Tryd.f87.body with | some c => c | none => .skip)
def qam_a : StSh := ⟨.normal, [0, 1], (.cons (.agg (.cons (.sl true true yD) (.cons (.int .i64) (.cons (.int .i64) .nil)))) (.cons (.ptr 0 0 0 0) .nil)), (.cons (.bcells 0 false 1 (.cons (.int .i64) .nil)) .nil)⟩
def qam_res : List StSh := [⟨.ret, [0], (.cons .bool .nil), (.cons (.bcells 0 false 1 (.cons (.int .i64) .nil)) .nil)⟩]
def qam_tbl (n : Nat) : FuncId → List Entry := fun f => bif Nat.beq f 83 then [qau_E n] else bif Nat.beq f 88 then [qcc_E n] else []
def qam_loops (n : Nat) : Nat → Option LEntry := fun f => none
theorem qam_run (n : Nat) (i_0 : DA) (i_0_1 : Int) (i_0_2 : Int) (m0 : Int) : funDS (real _) tab (qam_tbl n) (qam_loops n) qam_an Tryd.f87 1 qam_a qam_res ((i_0, (i_0_1, i_0_2)), m0) some = qam n i_0 i_0_1 i_0_2 m0 := by kernel_rfl
def qam_E (n : Nat) : Entry := ⟨qam_a, qam_res, fun d => qam n d.1.1 d.1.2.1 d.1.2.2 d.2⟩
theorem qam_ok (n : Nat) : EOK Tryd.prog 87 (qam_E n) :=
 EOK.ofS zc zd zf (tbl := qam_tbl n) (loops := qam_loops n) (an := qam_an) (old := [some true]) (n := n) (c := qam_c) (fn := Tryd.f87) (TblOK.cons (AllE.cons (qau_ok n) AllE.nil) (TblOK.cons (AllE.cons (qcc_ok n) AllE.nil) TblOK.nil)) (by kernel_rfl) (by kernel_rfl) (by kernel_rfl) (by kernel_rfl) (fun d => by kernel_rfl) LT.nil (fun a => qam_run n a.1.1 a.1.2.1 a.1.2.2 a.2)
def qq_h0 : List StSh := [⟨.normal, [0, 1, 7, 8], (.cons (.sl true true yC) (.cons (.fn 87 .nil (.cons (.ptr 0 0 0 0) .nil)) (.cons (.int .i64) (.cons (.int .i64) .nil)))), (.cons (.bcells 0 false 1 (.cons (.int .i64) .nil)) .nil)⟩]
def qq_o0 : List StSh := [⟨.ret, [4], (.cons (.int .i64) .nil), (.cons (.bcells 0 false 1 (.cons (.int .i64) .nil)) .nil)⟩, ⟨.exit 0, [], .nil, (.cons (.bcells 0 false 1 (.cons (.int .i64) .nil)) .nil)⟩]
def qq_L0 (n : Nat) : LEntry := ⟨qq_h0, qq_o0, qq_W0 n⟩
def qq_res : List StSh := [⟨.ret, [0], (.cons (.int .i64) .nil), (.cons (.bcells 0 false 1 (.cons (.int .i64) .nil)) .nil)⟩]
def qq_tbl (n : Nat) : FuncId → List Entry := fun f => bif Nat.beq f 87 then [qam_E n] else []
def qq_loops (n : Nat) : Nat → Option LEntry := fun f => bif Nat.beq f 0 then some (qq_L0 n) else none
theorem qq_r0 (n : Nat) (s_0 : DJ) (t7 : Int) (t8 : Int) (m0 : Int) : roundK (real _) tab (qq_tbl n) (qq_loops n) qq_an [some true] qq_l0 0 [0, 1, 7, 8] qq_h0 qq_o0 ((s_0, (t7, t8)), m0) some = qq_B0 n s_0 t7 t8 m0 := by kernel_rfl
theorem qq_f0 (n : Nat) : LoopFact tab (qq_tbl n) (qq_loops n) qq_an [some true] n 0 qq_l0 (qq_L0 n) := ⟨[0, 1, 7, 8], (fun s => qq_B0 n s.1.1 s.1.2.1 s.1.2.2 s.2), by kernel_rfl, by kernel_rfl, fun s => rfl, fun s => qq_r0 n s.1.1 s.1.2.1 s.1.2.2 s.2⟩
theorem qq_run (n : Nat) (s_0 : DJ) (m0 : Int) : funDS (real _) tab (qq_tbl n) (qq_loops n) qq_an Tryd.f74 1 qq_a qq_res (s_0, m0) some = qq n s_0 m0 := by kernel_rfl
def qq_E (n : Nat) : Entry := ⟨qq_a, qq_res, fun d => qq n d.1 d.2⟩
theorem qq_ok (n : Nat) : EOK Tryd.prog 74 (qq_E n) :=
 EOK.ofS zc zd zf (tbl := qq_tbl n) (loops := qq_loops n) (an := qq_an) (old := [some true]) (n := n) (c := qq_c) (fn := Tryd.f74) (TblOK.cons (AllE.cons (qam_ok n) AllE.nil) TblOK.nil) (by kernel_rfl) (by kernel_rfl) (by kernel_rfl) (by kernel_rfl) (fun d => by kernel_rfl) (LT.cons (by kernel_rfl) (qq_f0 n) LT.nil) (fun a => qq_run n a.1 a.2)
def qh_res : List StSh := [⟨.ret, [0], (.cons .bool .nil), (.cons (.bcells 0 false 1 (.cons (.int .i64) .nil)) .nil)⟩]
def qh_tbl (n : Nat) : FuncId → List Entry := fun f => bif Nat.beq f 74 then [qq_E n] else []
def qh_loops (n : Nat) : Nat → Option LEntry := fun f => none
theorem qh_run (n : Nat) (s_0 : DJ) (m0 : Int) : funDS (real _) tab (qh_tbl n) (qh_loops n) qh_an Tryd.f48 1 qh_a qh_res (s_0, m0) some = qh n s_0 m0 := by kernel_rfl
def qh_E (n : Nat) : Entry := ⟨qh_a, qh_res, fun d => qh n d.1 d.2⟩
theorem qh_ok (n : Nat) : EOK Tryd.prog 48 (qh_E n) :=
 EOK.ofS zc zd zf (tbl := qh_tbl n) (loops := qh_loops n) (an := qh_an) (old := [some true]) (n := n) (c := qh_c) (fn := Tryd.f48) (TblOK.cons (AllE.cons (qq_ok n) AllE.nil) TblOK.nil) (by kernel_rfl) (by kernel_rfl) (by kernel_rfl) (by kernel_rfl) (fun d => by kernel_rfl) LT.nil (fun a => qh_run n a.1 a.2)
def qe_an : Ann := {}
def qe_c : Code := (match Tryd.f89.body with | some c => c | none => .skip)
def qe_a : StSh := ⟨.normal, [0, 1], (.cons (.sl true false .str) (.cons (.fn 90 .nil .nil) .nil)), .nil⟩
def qu_an : Ann := { live := [(0, [0, 1, 7, 8])] }
def qu_c : Code := (match Tryd.f102.body with | some c => c | none => .skip)
def qu_l0 : Code := (match assoc 0 (loopsIn qu_c 0) with | some c => c | none => .skip)
def qu_a : StSh := ⟨.normal, [0, 1], (.cons (.sl true false .str) (.cons (.fn 90 .nil .nil) .nil)), .nil⟩
def qak_an : Ann := {}
def qak_c : Code := (match Tryd.f90.body with | some c => c | none => .skip)
def qak_a : StSh := ⟨.normal, [0], (.cons .str .nil), .nil⟩
def qak_res : List StSh := [⟨.ret, [0], (.cons .bool .nil), .nil⟩]
def qak_tbl (n : Nat) : FuncId → List Entry := fun f => []
def qak_loops (n : Nat) : Nat → Option LEntry := fun f => none
theorem qak_run (n : Nat) (s_0 : ByteArray) : funDS (real _) tab (qak_tbl n) (qak_loops n) qak_an Tryd.f90 0 qak_a qak_res s_0 some = qak n s_0 := by kernel_rfl
def qak_E (n : Nat) : Entry := ⟨qak_a, qak_res, fun d => qak n d⟩
theorem qak_ok (n : Nat) : EOK Tryd.prog 90 (qak_E n) :=
 EOK.ofS zc zd zf (tbl := qak_tbl n) (loops := qak_loops n) (an := qak_an) (old := []) (n := n) (c := qak_c) (fn := Tryd.f90) TblOK.nil (by kernel_rfl) (by kernel_rfl) (by kernel_rfl) (by kernel_rfl) (fun d => by kernel_rfl) LT.nil (fun a => qak_run n a)
def qu_h0 : List StSh := [⟨.normal, [0, 1, 7, 8], (.cons (.sl true false .str) (.cons (.fn 90 .nil .nil) (.cons (.int .i64) (.cons (.int .i64) .nil)))), .nil⟩]
def qu_o0 : List StSh := [⟨.ret, [4], (.cons (.int .i64) .nil), .nil⟩, ⟨.exit 0, [], .nil, .nil⟩]
def qu_L0 (n : Nat) : LEntry := ⟨qu_h0, qu_o0, qu_W0 n⟩
def qu_res : List StSh := [⟨.ret, [0], (.cons (.int .i64) .nil), .nil⟩]
def qu_tbl (n : Nat) : FuncId → List Entry := fun f => bif Nat.beq f 90 then [qak_E n] else []
def qu_loops (n : Nat) : Nat → Option LEntry := fun f => bif Nat.beq f 0 then some (qu_L0 n) else none
theorem qu_r0 (n : Nat) (s_0 : DD) (t7 : Int) (t8 : Int) : roundK (real _) tab (qu_tbl n) (qu_loops n) qu_an [] qu_l0 0 [0, 1, 7, 8] qu_h0 qu_o0 (s_0, (t7, t8)) some = qu_B0 n s_0 t7 t8 := by kernel_rfl
theorem qu_f0 (n : Nat) : LoopFact tab (qu_tbl n) (qu_loops n) qu_an [] n 0 qu_l0 (qu_L0 n) := ⟨[0, 1, 7, 8], (fun s => qu_B0 n s.1 s.2.1 s.2.2), by kernel_rfl, by kernel_rfl, fun s => rfl, fun s => qu_r0 n s.1 s.2.1 s.2.2⟩
theorem qu_run (n : Nat) (s_0 : DD) : funDS (real _) tab (qu_tbl n) (qu_loops n) qu_an Tryd.f102 0 qu_a qu_res s_0 some = qu n s_0 := by kernel_rfl
def qu_E (n : Nat) : Entry := ⟨qu_a, qu_res, fun d => qu n d⟩
theorem qu_ok (n : Nat) : EOK Tryd.prog 102 (qu_E n) :=
 EOK.ofS zc zd zf (tbl := qu_tbl n) (loops := qu_loops n) (an := qu_an) (old := []) (n := n) (c := qu_c) (fn := Tryd.f102) (TblOK.cons (AllE.cons (qak_ok n) AllE.nil) TblOK.nil) (by kernel_rfl) (by kernel_rfl) (by kernel_rfl) (by kernel_rfl) (fun d => by kernel_rfl) (LT.cons (by kernel_rfl) (qu_f0 n) LT.nil) (fun a => qu_run n a)
def qe_res : List StSh := [⟨.ret, [0], (.cons .bool .nil), .nil⟩]
def qe_tbl (n : Nat) : FuncId → List Entry := fun f => bif Nat.beq f 102 then [qu_E n] else []
def qe_loops (n : Nat) : Nat → Option LEntry := fun f => none
theorem qe_run (n : Nat) (s_0 : DD) : funDS (real _) tab (qe_tbl n) (qe_loops n) qe_an Tryd.f89 0 qe_a qe_res s_0 some = qe n s_0 := by kernel_rfl
def qe_E (n : Nat) : Entry := ⟨qe_a, qe_res, fun d => qe n d⟩
theorem qe_ok (n : Nat) : EOK Tryd.prog 89 (qe_E n) :=
 EOK.ofS zc zd zf (tbl := qe_tbl n) (loops := qe_loops n) (an := qe_an) (old := []) (n := n) (c := qe_c) (fn := Tryd.f89) (TblOK.cons (AllE.cons (qu_ok n) AllE.nil) TblOK.nil) (by kernel_rfl) (by kernel_rfl) (by kernel_rfl) (by kernel_rfl) (fun d => by kernel_rfl) LT.nil (fun a => qe_run n a)
def qav_res : List StSh := [⟨.ret, [0], (.cons .bool .nil), .nil⟩]
def qav_tbl (n : Nat) : FuncId → List Entry := fun f => bif Nat.beq f 81 then [qg_E n] else bif Nat.beq f 84 then [qm_E n] else bif Nat.beq f 48 then [qh_E n] else bif Nat.beq f 89 then [qe_E n] else []
def qav_loops (n : Nat) : Nat → Option LEntry := fun f => none
theorem qav_run (n : Nat) (t0 : DH) (t0_1 : DI) (t0_2 : DJ) (t0_3 : DC) (t0_4 : DD) : funDS (real _) tab (qav_tbl n) (qav_loops n) qav_an Tryd.f64 0 qav_a qav_res (t0, (t0_1, (t0_2, (t0_3, t0_4)))) some = qav n t0 t0_1 t0_2 t0_3 t0_4 := by kernel_rfl
def qav_E (n : Nat) : Entry := ⟨qav_a, qav_res, fun d => qav n d.1 d.2.1 d.2.2.1 d.2.2.2.1 d.2.2.2.2⟩
theorem qav_ok (n : Nat) : EOK Tryd.prog 64 (qav_E n) :=
 EOK.ofS zc zd zf (tbl := qav_tbl n) (loops := qav_loops n) (an := qav_an) (old := []) (n := n) (c := qav_c) (fn := Tryd.f64) (TblOK.cons (AllE.cons (qg_ok n) AllE.nil) (TblOK.cons (AllE.cons (qm_ok n) AllE.nil) (TblOK.cons (AllE.cons (qh_ok n) AllE.nil) (TblOK.cons (AllE.cons (qe_ok n) AllE.nil) TblOK.nil)))) (by kernel_rfl) (by kernel_rfl) (by kernel_rfl) (by kernel_rfl) (fun d => by kernel_rfl) LT.nil (fun a => qav_run n a.1 a.2.1 a.2.2.1 a.2.2.2.1 a.2.2.2.2)
def qy_an : Ann := { live := [(0, [3, 14, 15, 16])] }
def qy_c : Code := (match Tryd.f66.body with | some c => c | none => .skip)
def qy_l0 : Code := (match assoc 0 (loopsIn qy_c 0) with | some c => c | none => .skip)
def qy_a : StSh := ⟨.normal, [0], (.cons (.agg (.cons (.sl true false yA) (.cons (.sl true true yB) (.cons (.sl true true yC) (.cons (.sl true false (.int .u64)) (.cons (.sl true false .str) .nil)))))) .nil), .nil⟩
def ql_an : Ann := { boxed := [(0, 8)] }
def ql_c : Code := (match Tryd.f92.body with | some c => c | none => .skip)
def ql_a : StSh := ⟨.normal, [0, 1], (.cons (.ptr 0 0 0 0) (.cons (.int .i64) .nil)), (.cons (.bcells 0 false 1 (.cons .nilS .nil)) .nil)⟩
def ql_res : List StSh := [⟨.ret, [0], (.cons (.tup .nil) .nil), (.cons (.bcells 0 false 1 (.cons (.msw 1 0) .nil)) (.cons (.bts 0 false false false (.int .u8)) .nil))⟩]
def ql_tbl (n : Nat) : FuncId → List Entry := fun f => bif Nat.beq f 91 then [qcs_E n] else []
def ql_loops (n : Nat) : Nat → Option LEntry := fun f => none
theorem ql_run (n : Nat) (n_1 : Int) : funDS (real _) tab (ql_tbl n) (ql_loops n) ql_an Tryd.f92 1 ql_a ql_res n_1 some = ql n n_1 := by kernel_rfl
def ql_E (n : Nat) : Entry := ⟨ql_a, ql_res, fun d => ql n d⟩
theorem ql_ok (n : Nat) : EOK Tryd.prog 92 (ql_E n) :=
 EOK.ofS zc zd zf (tbl := ql_tbl n) (loops := ql_loops n) (an := ql_an) (old := [some true]) (n := n) (c := ql_c) (fn := Tryd.f92) (TblOK.cons (AllE.cons (qcs_ok n) AllE.nil) TblOK.nil) (by kernel_rfl) (by kernel_rfl) (by kernel_rfl) (by kernel_rfl) (fun d => by kernel_rfl) LT.nil (fun a => ql_run n a)
def qk_an : Ann := { live := [(0, [0, 10, 11, 12])], boxed := [(4, 7)] }
def qk_c : Code := (match Tryd.f93.body with | some c => c | none => .skip)
def qk_l0 : Code := (match assoc 0 (loopsIn qk_c 0) with | some c => c | none => .skip)
def qk_a : StSh := ⟨.normal, [0, 1], (.cons (.ptr 0 0 0 0) (.cons (.sl true true yD) .nil)), (.cons (.bcells 0 false 1 (.cons (.msw 1 0) .nil)) (.cons (.bts 0 false false false (.int .u8)) .nil))⟩
def qc_an : Ann := { boxed := [(0, 8)] }
def qc_c : Code := (match Tryd.f92.body with | some c => c | none => .skip)
def qc_a : StSh := ⟨.normal, [0, 1], (.cons (.ptr 0 0 0 0) (.cons (.int .i64) .nil)), (.cons (.bcells 0 false 1 (.cons (.msw 1 0) .nil)) (.cons (.bts 0 false false false (.int .u8)) .nil))⟩
def qc_res : List StSh := [⟨.ret, [0], (.cons (.tup .nil) .nil), (.cons (.bcells 0 false 1 (.cons (.msw 1 0) .nil)) (.cons (.bts 0 false false false (.int .u8)) .nil))⟩]
def qc_tbl (n : Nat) : FuncId → List Entry := fun f => bif Nat.beq f 91 then [qcs_E n] else []
def qc_loops (n : Nat) : Nat → Option LEntry := fun f => none
theorem qc_run (n : Nat) (n_1 : Int) (m1 : DC) : funDS (real _) tab (qc_tbl n) (qc_loops n) qc_an Tryd.f92 2 qc_a qc_res (n_1, m1) some = qc n n_1 m1 := by kernel_rfl
def qc_E (n : Nat) : Entry := ⟨qc_a, qc_res, fun d => qc n d.1 d.2⟩
theorem qc_ok (n : Nat) : EOK Tryd.prog 92 (qc_E n) :=
 EOK.ofS zc zd zf (tbl := qc_tbl n) (loops := qc_loops n) (an := qc_an) (old := [some true, some false]) (n := n) (c := qc_c) (fn := Tryd.f92) (TblOK.cons (AllE.cons (qcs_ok n) AllE.nil) TblOK.nil) (by kernel_rfl) (by kernel_rfl) (by kernel_rfl) (by kernel_rfl) (fun d => by kernel_rfl) LT.nil (fun a => qc_run n a.1 a.2)
def qcr_an : Ann := { raw := [(1, 4)] }
def qcr_c : Code := (match Tryd.f94.body with | some c => c | none => .skip)
def qcr_a : StSh := ⟨.normal, [0], (.cons (.agg (.cons (.int .i64) (.cons (.int .i64) .nil))) .nil), .nil⟩
def qcr_res : List StSh := [⟨.ret, [0], (.cons (.sl false false (.int .u8)) .nil), .nil⟩]
def qcr_tbl (n : Nat) : FuncId → List Entry := fun f => bif Nat.beq f 91 then [qcs_E n] else []
def qcr_loops (n : Nat) : Nat → Option LEntry := fun f => none
theorem qcr_run (n : Nat) (t_0 : Int) (t_0_1 : Int) : funDS (real _) tab (qcr_tbl n) (qcr_loops n) qcr_an Tryd.f94 0 qcr_a qcr_res (t_0, t_0_1) some = qcr n t_0 t_0_1 := by kernel_rfl
def qcr_E (n : Nat) : Entry := ⟨qcr_a, qcr_res, fun d => qcr n d.1 d.2⟩
theorem qcr_ok (n : Nat) : EOK Tryd.prog 94 (qcr_E n) :=
 EOK.ofS zc zd zf (tbl := qcr_tbl n) (loops := qcr_loops n) (an := qcr_an) (old := []) (n := n) (c := qcr_c) (fn := Tryd.f94) (TblOK.cons (AllE.cons (qcs_ok n) AllE.nil) TblOK.nil) (by kernel_rfl) (by kernel_rfl) (by kernel_rfl) (by kernel_rfl) (fun d => by kernel_rfl) LT.nil (fun a => qcr_run n a.1 a.2)
def qk_h0 : List StSh := [⟨.normal, [0, 10, 11, 12], (.cons (.ptr 0 0 0 0) (.cons (.sl true true yD) (.cons (.int .i64) (.cons (.int .i64) .nil)))), (.cons (.bcells 0 false 1 (.cons (.msw 1 0) .nil)) (.cons (.bts 0 false false false (.int .u8)) .nil))⟩]
def qk_o0 : List StSh := [⟨.exit 0, [], .nil, (.cons (.bcells 0 false 1 (.cons (.msw 1 0) .nil)) (.cons (.bts 0 false false false (.int .u8)) .nil))⟩]
def qk_L0 (n : Nat) : LEntry := ⟨qk_h0, qk_o0, qk_W0 n⟩
def qk_res : List StSh := [⟨.ret, [0], (.cons (.tup .nil) .nil), (.cons (.bcells 0 false 1 (.cons (.msw 1 0) .nil)) (.cons (.bts 0 false false false (.int .u8)) .nil))⟩]
def qk_tbl (n : Nat) : FuncId → List Entry := fun f => bif Nat.beq f 92 then [qc_E n] else bif Nat.beq f 94 then [qcr_E n] else []
def qk_loops (n : Nat) : Nat → Option LEntry := fun f => bif Nat.beq f 0 then some (qk_L0 n) else none
theorem qk_r0 (n : Nat) (t10 : DA) (t11 : Int) (t12 : Int) (m1 : DC) : roundK (real _) tab (qk_tbl n) (qk_loops n) qk_an [some true, some false] qk_l0 0 [0, 10, 11, 12] qk_h0 qk_o0 ((t10, (t11, t12)), m1) some = qk_B0 n t10 t11 t12 m1 := by kernel_rfl
theorem qk_f0 (n : Nat) : LoopFact tab (qk_tbl n) (qk_loops n) qk_an [some true, some false] n 0 qk_l0 (qk_L0 n) := ⟨[0, 10, 11, 12], (fun s => qk_B0 n s.1.1 s.1.2.1 s.1.2.2 s.2), by kernel_rfl, by kernel_rfl, fun s => rfl, fun s => qk_r0 n s.1.1 s.1.2.1 s.1.2.2 s.2⟩
theorem qk_run (n : Nat) (list_1 : DA) (m1 : DC) : funDS (real _) tab (qk_tbl n) (qk_loops n) qk_an Tryd.f93 2 qk_a qk_res (list_1, m1) some = qk n list_1 m1 := by kernel_rfl
def qk_E (n : Nat) : Entry := ⟨qk_a, qk_res, fun d => qk n d.1 d.2⟩
theorem qk_ok (n : Nat) : EOK Tryd.prog 93 (qk_E n) :=
 EOK.ofS zc zd zf (tbl := qk_tbl n) (loops := qk_loops n) (an := qk_an) (old := [some true, some false]) (n := n) (c := qk_c) (fn := Tryd.f93) (TblOK.cons (AllE.cons (qc_ok n) AllE.nil) (TblOK.cons (AllE.cons (qcr_ok n) AllE.nil) TblOK.nil)) (by kernel_rfl) (by kernel_rfl) (by kernel_rfl) (by kernel_rfl) (fun d => by kernel_rfl) (LT.cons (by kernel_rfl) (qk_f0 n) LT.nil) (fun a => qk_run n a.1 a.2)
def qy_h0 : List StSh := [⟨.normal, [3, 14, 15, 16], (.cons (.ptr 0 0 0 0) (.cons (.sl true false yA) (.cons (.int .i64) (.cons (.int .i64) .nil)))), (.cons (.bcells 0 false 1 (.cons (.msw 1 0) .nil)) (.cons (.bts 0 false false false (.int .u8)) .nil))⟩]
def qy_o0 : List StSh := [⟨.exit 0, [3], (.cons (.ptr 0 0 0 0) .nil), (.cons (.bcells 0 false 1 (.cons (.msw 1 0) .nil)) (.cons (.bts 0 false false false (.int .u8)) .nil))⟩]
def qy_L0 (n : Nat) : LEntry := ⟨qy_h0, qy_o0, qy_W0 n⟩
def qy_res : List StSh := [⟨.ret, [0], (.cons (.sl false false (.int .u8)) .nil), .nil⟩]
def qy_tbl (n : Nat) : FuncId → List Entry := fun f => bif Nat.beq f 92 then [ql_E n] else bif Nat.beq f 93 then [qk_E n] else []
def qy_loops (n : Nat) : Nat → Option LEntry := fun f => bif Nat.beq f 0 then some (qy_L0 n) else none
theorem qy_r0 (n : Nat) (t14 : DH) (t15 : Int) (t16 : Int) (m1 : DC) : roundK (real _) tab (qy_tbl n) (qy_loops n) qy_an [] qy_l0 0 [3, 14, 15, 16] qy_h0 qy_o0 ((t14, (t15, t16)), m1) some = qy_B0 n t14 t15 t16 m1 := by kernel_rfl
theorem qy_f0 (n : Nat) : LoopFact tab (qy_tbl n) (qy_loops n) qy_an [] n 0 qy_l0 (qy_L0 n) := ⟨[3, 14, 15, 16], (fun s => qy_B0 n s.1.1 s.1.2.1 s.1.2.2 s.2), by kernel_rfl, by kernel_rfl, fun s => rfl, fun s => qy_r0 n s.1.1 s.1.2.1 s.1.2.2 s.2⟩
theorem qy_run (n : Nat) (m_0 : DH) (m_0_1 : DI) (m_0_2 : DJ) (m_0_3 : DC) (m_0_4 : DD) : funDS (real _) tab (qy_tbl n) (qy_loops n) qy_an Tryd.f66 0 qy_a qy_res (m_0, (m_0_1, (m_0_2, (m_0_3, m_0_4)))) some = qy n m_0 m_0_1 m_0_2 m_0_3 m_0_4 := by kernel_rfl
def qy_E (n : Nat) : Entry := ⟨qy_a, qy_res, fun d => qy n d.1 d.2.1 d.2.2.1 d.2.2.2.1 d.2.2.2.2⟩
theorem qy_ok (n : Nat) : EOK Tryd.prog 66 (qy_E n) :=
 EOK.ofS zc zd zf (tbl := qy_tbl n) (loops := qy_loops n) (an := qy_an) (old := []) (n := n) (c := qy_c) (fn := Tryd.f66) (TblOK.cons (AllE.cons (ql_ok n) AllE.nil) (TblOK.cons (AllE.cons (qk_ok n) AllE.nil) TblOK.nil)) (by kernel_rfl) (by kernel_rfl) (by kernel_rfl) (by kernel_rfl) (fun d => by kernel_rfl) (LT.cons (by kernel_rfl) (qy_f0 n) LT.nil) (fun a => qy_run n a.1 a.2.1 a.2.2.1 a.2.2.2.1 a.2.2.2.2)
def qr_an : Ann := { live := [(0, [3, 16, 17, 18]), (2, [3, 16, 17, 18, 47, 48, 49])], boxed := [(7, 8), (13, 7)] }
def qr_c : Code := (match Tryd.f67.body with | some c => c | none => .skip)
def qr_l0 : Code := (match assoc 0 (loopsIn qr_c 0) with | some c => c | none => .skip)
def qr_l2 : Code := (match assoc 2 (loopsIn qr_c 0) with | some c => c | none => .skip)
def qr_a : StSh := ⟨.normal, [0], (.cons (.agg (.cons (.sl true false yA) (.cons (.sl true true yB) (.cons (.sl true true yC) (.cons (.sl true false (.int .u64)) (.cons (.sl true false .str) .nil)))))) .nil), .nil⟩
def qr_h2 : List StSh := [⟨.normal, [3, 16, 17, 18, 47, 48, 49], (.cons (.ptr 0 0 0 0) (.cons (.sl true true yB) (.cons (.int .i64) (.cons (.int .i64) (.cons (.sl true true yE) (.cons (.int .i64) (.cons (.int .i64) .nil))))))), (.cons (.bcells 0 false 1 (.cons (.msw 1 0) .nil)) (.cons (.bts 0 false false false (.int .u8)) .nil))⟩]
def qr_o2 : List StSh := [⟨.exit 2, [3, 16, 17, 18], (.cons (.ptr 0 0 0 0) (.cons (.sl true true yB) (.cons (.int .i64) (.cons (.int .i64) .nil)))), (.cons (.bcells 0 false 1 (.cons (.msw 1 0) .nil)) (.cons (.bts 0 false false false (.int .u8)) .nil))⟩]
def qr_L2 (n : Nat) : LEntry := ⟨qr_h2, qr_o2, qr_W2 n⟩
def qr_h0 : List StSh := [⟨.normal, [3, 16, 17, 18], (.cons (.ptr 0 0 0 0) (.cons (.sl true true yB) (.cons (.int .i64) (.cons (.int .i64) .nil)))), (.cons (.bcells 0 false 1 (.cons (.msw 1 0) .nil)) (.cons (.bts 0 false false false (.int .u8)) .nil))⟩]
def qr_o0 : List StSh := [⟨.exit 0, [3], (.cons (.ptr 0 0 0 0) .nil), (.cons (.bcells 0 false 1 (.cons (.msw 1 0) .nil)) (.cons (.bts 0 false false false (.int .u8)) .nil))⟩]
def qr_L0 (n : Nat) : LEntry := ⟨qr_h0, qr_o0, qr_W0 n⟩
def qr_res : List StSh := [⟨.ret, [0], (.cons (.sl false false (.int .u8)) .nil), .nil⟩]
def qr_tbl (n : Nat) : FuncId → List Entry := fun f => bif Nat.beq f 92 then [ql_E n, qc_E n] else bif Nat.beq f 93 then [qk_E n] else bif Nat.beq f 94 then [qcr_E n] else bif Nat.beq f 95 then [qcn_E n] else []
def qr_loops (n : Nat) : Nat → Option LEntry := fun f => bif Nat.beq f 2 then some (qr_L2 n) else bif Nat.beq f 0 then some (qr_L0 n) else none
theorem qr_r2 (n : Nat) (t16 : DI) (t17 : Int) (t18 : Int) (t47 : DB) (t48 : Int) (t49 : Int) (m1 : DC) : roundK (real _) tab (qr_tbl n) (qr_loops n) qr_an [] qr_l2 2 [3, 16, 17, 18, 47, 48, 49] qr_h2 qr_o2 ((t16, (t17, (t18, (t47, (t48, t49))))), m1) some = qr_B2 n t16 t17 t18 t47 t48 t49 m1 := by kernel_rfl
theorem qr_f2 (n : Nat) : LoopFact tab (qr_tbl n) (qr_loops n) qr_an [] n 2 qr_l2 (qr_L2 n) := ⟨[3, 16, 17, 18, 47, 48, 49], (fun s => qr_B2 n s.1.1 s.1.2.1 s.1.2.2.1 s.1.2.2.2.1 s.1.2.2.2.2.1 s.1.2.2.2.2.2 s.2), by kernel_rfl, by kernel_rfl, fun s => rfl, fun s => qr_r2 n s.1.1 s.1.2.1 s.1.2.2.1 s.1.2.2.2.1 s.1.2.2.2.2.1 s.1.2.2.2.2.2 s.2⟩
theorem qr_r0 (n : Nat) (t16 : DI) (t17 : Int) (t18 : Int) (m1 : DC) : roundK (real _) tab (qr_tbl n) (qr_loops n) qr_an [] qr_l0 0 [3, 16, 17, 18] qr_h0 qr_o0 ((t16, (t17, t18)), m1) some = qr_B0 n t16 t17 t18 m1 := by kernel_rfl
theorem qr_f0 (n : Nat) : LoopFact tab (qr_tbl n) (qr_loops n) qr_an [] n 0 qr_l0 (qr_L0 n) := ⟨[3, 16, 17, 18], (fun s => qr_B0 n s.1.1 s.1.2.1 s.1.2.2 s.2), by kernel_rfl, by kernel_rfl, fun s => rfl, fun s => qr_r0 n s.1.1 s.1.2.1 s.1.2.2 s.2⟩
theorem qr_run (n : Nat) (t0 : DH) (t0_1 : DI) (t0_2 : DJ) (t0_3 : DC) (t0_4 : DD) : funDS (real _) tab (qr_tbl n) (qr_loops n) qr_an Tryd.f67 0 qr_a qr_res (t0, (t0_1, (t0_2, (t0_3, t0_4)))) some = qr n t0 t0_1 t0_2 t0_3 t0_4 := by kernel_rfl
def qr_E (n : Nat) : Entry := ⟨qr_a, qr_res, fun d => qr n d.1 d.2.1 d.2.2.1 d.2.2.2.1 d.2.2.2.2⟩
theorem qr_ok (n : Nat) : EOK Tryd.prog 67 (qr_E n) :=
 EOK.ofS zc zd zf (tbl := qr_tbl n) (loops := qr_loops n) (an := qr_an) (old := []) (n := n) (c := qr_c) (fn := Tryd.f67) (TblOK.cons (AllE.cons (ql_ok n) (AllE.cons (qc_ok n) AllE.nil)) (TblOK.cons (AllE.cons (qk_ok n) AllE.nil) (TblOK.cons (AllE.cons (qcr_ok n) AllE.nil) (TblOK.cons (AllE.cons (qcn_ok n) AllE.nil) TblOK.nil)))) (by kernel_rfl) (by kernel_rfl) (by kernel_rfl) (by kernel_rfl) (fun d => by kernel_rfl) (LT.cons (by kernel_rfl) (qr_f2 n) (LT.cons (by kernel_rfl) (qr_f0 n) LT.nil)) (fun a => qr_run n a.1 a.2.1 a.2.2.1 a.2.2.2.1 a.2.2.2.2)
def qz_an : Ann := { live := [(0, [3, 14, 15, 16])], boxed := [(7, 8)] }
def qz_c : Code := (match Tryd.f68.body with | some c => c | none => .skip)
def qz_l0 : Code := (match assoc 0 (loopsIn qz_c 0) with | some c => c | none => .skip)
def qz_a : StSh := ⟨.normal, [0], (.cons (.agg (.cons (.sl true false yA) (.cons (.sl true true yB) (.cons (.sl true true yC) (.cons (.sl true false (.int .u64)) (.cons (.sl true false .str) .nil)))))) .nil), .nil⟩
def qz_h0 : List StSh := [⟨.normal, [3, 14, 15, 16], (.cons (.ptr 0 0 0 0) (.cons (.sl true true yC) (.cons (.int .i64) (.cons (.int .i64) .nil)))), (.cons (.bcells 0 false 1 (.cons (.msw 1 0) .nil)) (.cons (.bts 0 false false false (.int .u8)) .nil))⟩]
def qz_o0 : List StSh := [⟨.exit 0, [3], (.cons (.ptr 0 0 0 0) .nil), (.cons (.bcells 0 false 1 (.cons (.msw 1 0) .nil)) (.cons (.bts 0 false false false (.int .u8)) .nil))⟩]
def qz_L0 (n : Nat) : LEntry := ⟨qz_h0, qz_o0, qz_W0 n⟩
def qz_res : List StSh := [⟨.ret, [0], (.cons (.sl false false (.int .u8)) .nil), .nil⟩]
def qz_tbl (n : Nat) : FuncId → List Entry := fun f => bif Nat.beq f 92 then [ql_E n] else bif Nat.beq f 93 then [qk_E n] else bif Nat.beq f 94 then [qcr_E n] else []
def qz_loops (n : Nat) : Nat → Option LEntry := fun f => bif Nat.beq f 0 then some (qz_L0 n) else none
theorem qz_r0 (n : Nat) (t14 : DJ) (t15 : Int) (t16 : Int) (m1 : DC) : roundK (real _) tab (qz_tbl n) (qz_loops n) qz_an [] qz_l0 0 [3, 14, 15, 16] qz_h0 qz_o0 ((t14, (t15, t16)), m1) some = qz_B0 n t14 t15 t16 m1 := by kernel_rfl
theorem qz_f0 (n : Nat) : LoopFact tab (qz_tbl n) (qz_loops n) qz_an [] n 0 qz_l0 (qz_L0 n) := ⟨[3, 14, 15, 16], (fun s => qz_B0 n s.1.1 s.1.2.1 s.1.2.2 s.2), by kernel_rfl, by kernel_rfl, fun s => rfl, fun s => qz_r0 n s.1.1 s.1.2.1 s.1.2.2 s.2⟩
theorem qz_run (n : Nat) (m_0 : DH) (m_0_1 : DI) (m_0_2 : DJ) (m_0_3 : DC) (m_0_4 : DD) : funDS (real _) tab (qz_tbl n) (qz_loops n) qz_an Tryd.f68 0 qz_a qz_res (m_0, (m_0_1, (m_0_2, (m_0_3, m_0_4)))) some = qz n m_0 m_0_1 m_0_2 m_0_3 m_0_4 := by kernel_rfl
def qz_E (n : Nat) : Entry := ⟨qz_a, qz_res, fun d => qz n d.1 d.2.1 d.2.2.1 d.2.2.2.1 d.2.2.2.2⟩
theorem qz_ok (n : Nat) : EOK Tryd.prog 68 (qz_E n) :=
 EOK.ofS zc zd zf (tbl := qz_tbl n) (loops := qz_loops n) (an := qz_an) (old := []) (n := n) (c := qz_c) (fn := Tryd.f68) (TblOK.cons (AllE.cons (ql_ok n) AllE.nil) (TblOK.cons (AllE.cons (qk_ok n) AllE.nil) (TblOK.cons (AllE.cons (qcr_ok n) AllE.nil) TblOK.nil))) (by kernel_rfl) (by kernel_rfl) (by kernel_rfl) (by kernel_rfl) (fun d => by kernel_rfl) (LT.cons (by kernel_rfl) (qz_f0 n) LT.nil) (fun a => qz_run n a.1 a.2.1 a.2.2.1 a.2.2.2.1 a.2.2.2.2)
def qab_an : Ann := { live := [(0, [3, 14, 15, 16])], boxed := [(6, 7)] }
def qab_c : Code := (match Tryd.f69.body with | some c => c | none => .skip)
def qab_l0 : Code := (match assoc 0 (loopsIn qab_c 0) with | some c => c | none => .skip)
def qab_a : StSh := ⟨.normal, [0], (.cons (.agg (.cons (.sl true false yA) (.cons (.sl true true yB) (.cons (.sl true true yC) (.cons (.sl true false (.int .u64)) (.cons (.sl true false .str) .nil)))))) .nil), .nil⟩
def qck_an : Ann := { live := [(0, [0, 5, 9, 10])], boxed := [(1, 0), (5, 7)] }
def qck_c : Code := (match Tryd.f96.body with | some c => c | none => .skip)
def qck_l0 : Code := (match assoc 0 (loopsIn qck_c 0) with | some c => c | none => .skip)
def qck_a : StSh := ⟨.normal, [0, 1], (.cons (.int .u64) (.cons (.int .i64) .nil)), .nil⟩
def qck_h0 : List StSh := [⟨.normal, [0, 5, 9, 10], (.cons (.int .u64) (.cons (.msw 0 0) (.cons (.int .i64) (.cons (.int .i64) .nil)))), (.cons (.bts 0 false false false (.int .u8)) .nil)⟩]
def qck_o0 : List StSh := [⟨.exit 0, [5], (.cons (.msw 0 0) .nil), (.cons (.bts 0 false false false (.int .u8)) .nil)⟩]
def qck_L0 (n : Nat) : LEntry := ⟨qck_h0, qck_o0, qck_W0 n⟩
def qck_res : List StSh := [⟨.ret, [0], (.cons (.sl false false (.int .u8)) .nil), .nil⟩]
def qck_tbl (n : Nat) : FuncId → List Entry := fun f => []
def qck_loops (n : Nat) : Nat → Option LEntry := fun f => bif Nat.beq f 0 then some (qck_L0 n) else none
theorem qck_r0 (n : Nat) (v_0 : Int) (t9 : Int) (t10 : Int) (m0 : DC) : roundK (real _) tab (qck_tbl n) (qck_loops n) qck_an [] qck_l0 0 [0, 5, 9, 10] qck_h0 qck_o0 ((v_0, (t9, t10)), m0) some = qck_B0 n v_0 t9 t10 m0 := by kernel_rfl
theorem qck_f0 (n : Nat) : LoopFact tab (qck_tbl n) (qck_loops n) qck_an [] n 0 qck_l0 (qck_L0 n) := ⟨[0, 5, 9, 10], (fun s => qck_B0 n s.1.1 s.1.2.1 s.1.2.2 s.2), by kernel_rfl, by kernel_rfl, fun s => rfl, fun s => qck_r0 n s.1.1 s.1.2.1 s.1.2.2 s.2⟩
theorem qck_run (n : Nat) (v_0 : Int) (n_1 : Int) : funDS (real _) tab (qck_tbl n) (qck_loops n) qck_an Tryd.f96 0 qck_a qck_res (v_0, n_1) some = qck n v_0 n_1 := by kernel_rfl
def qck_E (n : Nat) : Entry := ⟨qck_a, qck_res, fun d => qck n d.1 d.2⟩
theorem qck_ok (n : Nat) : EOK Tryd.prog 96 (qck_E n) :=
 EOK.ofS zc zd zf (tbl := qck_tbl n) (loops := qck_loops n) (an := qck_an) (old := []) (n := n) (c := qck_c) (fn := Tryd.f96) TblOK.nil (by kernel_rfl) (by kernel_rfl) (by kernel_rfl) (by kernel_rfl) (fun d => by kernel_rfl) (LT.cons (by kernel_rfl) (qck_f0 n) LT.nil) (fun a => qck_run n a.1 a.2)
def qab_h0 : List StSh := [⟨.normal, [3, 14, 15, 16], (.cons (.ptr 0 0 0 0) (.cons (.sl true false (.int .u64)) (.cons (.int .i64) (.cons (.int .i64) .nil)))), (.cons (.bcells 0 false 1 (.cons (.msw 1 0) .nil)) (.cons (.bts 0 false false false (.int .u8)) .nil))⟩]
def qab_o0 : List StSh := [⟨.exit 0, [3], (.cons (.ptr 0 0 0 0) .nil), (.cons (.bcells 0 false 1 (.cons (.msw 1 0) .nil)) (.cons (.bts 0 false false false (.int .u8)) .nil))⟩]
def qab_L0 (n : Nat) : LEntry := ⟨qab_h0, qab_o0, qab_W0 n⟩
def qab_res : List StSh := [⟨.ret, [0], (.cons (.sl false false (.int .u8)) .nil), .nil⟩]
def qab_tbl (n : Nat) : FuncId → List Entry := fun f => bif Nat.beq f 92 then [ql_E n] else bif Nat.beq f 96 then [qck_E n] else []
def qab_loops (n : Nat) : Nat → Option LEntry := fun f => bif Nat.beq f 0 then some (qab_L0 n) else none
theorem qab_r0 (n : Nat) (t14 : DC) (t15 : Int) (t16 : Int) (m1 : DC) : roundK (real _) tab (qab_tbl n) (qab_loops n) qab_an [] qab_l0 0 [3, 14, 15, 16] qab_h0 qab_o0 ((t14, (t15, t16)), m1) some = qab_B0 n t14 t15 t16 m1 := by kernel_rfl
theorem qab_f0 (n : Nat) : LoopFact tab (qab_tbl n) (qab_loops n) qab_an [] n 0 qab_l0 (qab_L0 n) := ⟨[3, 14, 15, 16], (fun s => qab_B0 n s.1.1 s.1.2.1 s.1.2.2 s.2), by kernel_rfl, by kernel_rfl, fun s => rfl, fun s => qab_r0 n s.1.1 s.1.2.1 s.1.2.2 s.2⟩
theorem qab_run (n : Nat) (m_0 : DH) (m_0_1 : DI) (m_0_2 : DJ) (m_0_3 : DC) (m_0_4 : DD) : funDS (real _) tab (qab_tbl n) (qab_loops n) qab_an Tryd.f69 0 qab_a qab_res (m_0, (m_0_1, (m_0_2, (m_0_3, m_0_4)))) some = qab n m_0 m_0_1 m_0_2 m_0_3 m_0_4 := by kernel_rfl
def qab_E (n : Nat) : Entry := ⟨qab_a, qab_res, fun d => qab n d.1 d.2.1 d.2.2.1 d.2.2.2.1 d.2.2.2.2⟩
theorem qab_ok (n : Nat) : EOK Tryd.prog 69 (qab_E n) :=
 EOK.ofS zc zd zf (tbl := qab_tbl n) (loops := qab_loops n) (an := qab_an) (old := []) (n := n) (c := qab_c) (fn := Tryd.f69) (TblOK.cons (AllE.cons (ql_ok n) AllE.nil) (TblOK.cons (AllE.cons (qck_ok n) AllE.nil) TblOK.nil)) (by kernel_rfl) (by kernel_rfl) (by kernel_rfl) (by kernel_rfl) (fun d => by kernel_rfl) (LT.cons (by kernel_rfl) (qab_f0 n) LT.nil) (fun a => qab_run n a.1 a.2.1 a.2.2.1 a.2.2.2.1 a.2.2.2.2)
def qaq_an : Ann := { live := [(0, [3, 14, 15, 16])], boxed := [(7, 6)] }
def qaq_c : Code := (match Tryd.f70.body with | some c => c | none => .skip)
def qaq_l0 : Code := (match assoc 0 (loopsIn qaq_c 0) with | some c => c | none => .skip)
def qaq_a : StSh := ⟨.normal, [0], (.cons (.agg (.cons (.sl true false yA) (.cons (.sl true true yB) (.cons (.sl true true yC) (.cons (.sl true false (.int .u64)) (.cons (.sl true false .str) .nil)))))) .nil), .nil⟩
def qaq_h0 : List StSh := [⟨.normal, [3, 14, 15, 16], (.cons (.ptr 0 0 0 0) (.cons (.sl true false .str) (.cons (.int .i64) (.cons (.int .i64) .nil)))), (.cons (.bcells 0 false 1 (.cons (.msw 1 0) .nil)) (.cons (.bts 0 false false false (.int .u8)) .nil))⟩]
def qaq_o0 : List StSh := [⟨.exit 0, [3], (.cons (.ptr 0 0 0 0) .nil), (.cons (.bcells 0 false 1 (.cons (.msw 1 0) .nil)) (.cons (.bts 0 false false false (.int .u8)) .nil))⟩]
def qaq_L0 (n : Nat) : LEntry := ⟨qaq_h0, qaq_o0, qaq_W0 n⟩
def qaq_res : List StSh := [⟨.ret, [0], (.cons (.sl false false (.int .u8)) .nil), .nil⟩]
def qaq_tbl (n : Nat) : FuncId → List Entry := fun f => bif Nat.beq f 92 then [ql_E n, qc_E n] else []
def qaq_loops (n : Nat) : Nat → Option LEntry := fun f => bif Nat.beq f 0 then some (qaq_L0 n) else none
theorem qaq_r0 (n : Nat) (t14 : DD) (t15 : Int) (t16 : Int) (m1 : DC) : roundK (real _) tab (qaq_tbl n) (qaq_loops n) qaq_an [] qaq_l0 0 [3, 14, 15, 16] qaq_h0 qaq_o0 ((t14, (t15, t16)), m1) some = qaq_B0 n t14 t15 t16 m1 := by kernel_rfl
theorem qaq_f0 (n : Nat) : LoopFact tab (qaq_tbl n) (qaq_loops n) qaq_an [] n 0 qaq_l0 (qaq_L0 n) := ⟨[3, 14, 15, 16], (fun s => qaq_B0 n s.1.1 s.1.2.1 s.1.2.2 s.2), by kernel_rfl, by kernel_rfl, fun s => rfl, fun s => qaq_r0 n s.1.1 s.1.2.1 s.1.2.2 s.2⟩
theorem qaq_run (n : Nat) (m_0 : DH) (m_0_1 : DI) (m_0_2 : DJ) (m_0_3 : DC) (m_0_4 : DD) : funDS (real _) tab (qaq_tbl n) (qaq_loops n) qaq_an Tryd.f70 0 qaq_a qaq_res (m_0, (m_0_1, (m_0_2, (m_0_3, m_0_4)))) some = qaq n m_0 m_0_1 m_0_2 m_0_3 m_0_4 := by kernel_rfl
def qaq_E (n : Nat) : Entry := ⟨qaq_a, qaq_res, fun d => qaq n d.1 d.2.1 d.2.2.1 d.2.2.2.1 d.2.2.2.2⟩
theorem qaq_ok (n : Nat) : EOK Tryd.prog 70 (qaq_E n) :=
 EOK.ofS zc zd zf (tbl := qaq_tbl n) (loops := qaq_loops n) (an := qaq_an) (old := []) (n := n) (c := qaq_c) (fn := Tryd.f70) (TblOK.cons (AllE.cons (ql_ok n) (AllE.cons (qc_ok n) AllE.nil)) TblOK.nil) (by kernel_rfl) (by kernel_rfl) (by kernel_rfl) (by kernel_rfl) (fun d => by kernel_rfl) (LT.cons (by kernel_rfl) (qaq_f0 n) LT.nil) (fun a => qaq_run n a.1 a.2.1 a.2.2.1 a.2.2.2.1 a.2.2.2.2)
def qbx_an : Ann := { live := [(0, [3, 10, 11, 12])], boxed := [(5, 5), (6, 2)], raw := [(1, 3)] }
def qbx_c : Code := (match Tryd.f65.body with | some c => c | none => .skip)
def qbx_l0 : Code := (match assoc 0 (loopsIn qbx_c 0) with | some c => c | none => .skip)
def qbx_a : StSh := ⟨.normal, [0], (.cons (.sl true false yF) .nil), .nil⟩
def qbx_h0 : List StSh := [⟨.normal, [3, 10, 11, 12], (.cons (.msw 0 0) (.cons (.sl true false yF) (.cons (.int .i64) (.cons (.int .i64) .nil)))), (.cons (.bts 0 false false false (.int .u8)) .nil)⟩]
def qbx_o0 : List StSh := [⟨.exit 0, [3], (.cons (.msw 0 0) .nil), (.cons (.bts 0 false false false (.int .u8)) .nil)⟩]
def qbx_L0 (n : Nat) : LEntry := ⟨qbx_h0, qbx_o0, qbx_W0 n⟩
def qbx_res : List StSh := [⟨.ret, [0], (.cons (.sl false false (.int .u8)) .nil), .nil⟩]
def qbx_tbl (n : Nat) : FuncId → List Entry := fun f => bif Nat.beq f 91 then [qcs_E n] else []
def qbx_loops (n : Nat) : Nat → Option LEntry := fun f => bif Nat.beq f 0 then some (qbx_L0 n) else none
theorem qbx_r0 (n : Nat) (t10 : DK) (t11 : Int) (t12 : Int) (m0 : DC) : roundK (real _) tab (qbx_tbl n) (qbx_loops n) qbx_an [] qbx_l0 0 [3, 10, 11, 12] qbx_h0 qbx_o0 ((t10, (t11, t12)), m0) some = qbx_B0 n t10 t11 t12 m0 := by kernel_rfl
theorem qbx_f0 (n : Nat) : LoopFact tab (qbx_tbl n) (qbx_loops n) qbx_an [] n 0 qbx_l0 (qbx_L0 n) := ⟨[3, 10, 11, 12], (fun s => qbx_B0 n s.1.1 s.1.2.1 s.1.2.2 s.2), by kernel_rfl, by kernel_rfl, fun s => rfl, fun s => qbx_r0 n s.1.1 s.1.2.1 s.1.2.2 s.2⟩
theorem qbx_run (n : Nat) (parts_0 : DK) : funDS (real _) tab (qbx_tbl n) (qbx_loops n) qbx_an Tryd.f65 0 qbx_a qbx_res parts_0 some = qbx n parts_0 := by kernel_rfl
def qbx_E (n : Nat) : Entry := ⟨qbx_a, qbx_res, fun d => qbx n d⟩
theorem qbx_ok (n : Nat) : EOK Tryd.prog 65 (qbx_E n) :=
 EOK.ofS zc zd zf (tbl := qbx_tbl n) (loops := qbx_loops n) (an := qbx_an) (old := []) (n := n) (c := qbx_c) (fn := Tryd.f65) (TblOK.cons (AllE.cons (qcs_ok n) AllE.nil) TblOK.nil) (by kernel_rfl) (by kernel_rfl) (by kernel_rfl) (by kernel_rfl) (fun d => by kernel_rfl) (LT.cons (by kernel_rfl) (qbx_f0 n) LT.nil) (fun a => qbx_run n a)
def qaj_res : List StSh := [⟨.ret, [0], (.cons (.tup (.cons (.sl false false (.int .u8)) (.cons (.int .i64) .nil))) .nil), .nil⟩]
def qaj_tbl (n : Nat) : FuncId → List Entry := fun f => bif Nat.beq f 64 then [qav_E n] else bif Nat.beq f 66 then [qy_E n] else bif Nat.beq f 67 then [qr_E n] else bif Nat.beq f 68 then [qz_E n] else bif Nat.beq f 69 then [qab_E n] else bif Nat.beq f 70 then [qaq_E n] else bif Nat.beq f 65 then [qbx_E n] else []
def qaj_loops (n : Nat) : Nat → Option LEntry := fun f => none
theorem qaj_run (n : Nat) (m_0 : DH) (m_0_1 : DI) (m_0_2 : DJ) (m_0_3 : DC) (m_0_4 : DD) : funDS (real _) tab (qaj_tbl n) (qaj_loops n) qaj_an Tryd.f39 0 qaj_a qaj_res (m_0, (m_0_1, (m_0_2, (m_0_3, m_0_4)))) some = qaj n m_0 m_0_1 m_0_2 m_0_3 m_0_4 := by kernel_rfl
def qaj_E (n : Nat) : Entry := ⟨qaj_a, qaj_res, fun d => qaj n d.1 d.2.1 d.2.2.1 d.2.2.2.1 d.2.2.2.2⟩
theorem qaj_ok (n : Nat) : EOK Tryd.prog 39 (qaj_E n) :=
 EOK.ofS zc zd zf (tbl := qaj_tbl n) (loops := qaj_loops n) (an := qaj_an) (old := []) (n := n) (c := qaj_c) (fn := Tryd.f39) (TblOK.cons (AllE.cons (qav_ok n) AllE.nil) (TblOK.cons (AllE.cons (qy_ok n) AllE.nil) (TblOK.cons (AllE.cons (qr_ok n) AllE.nil) (TblOK.cons (AllE.cons (qz_ok n) AllE.nil) (TblOK.cons (AllE.cons (qab_ok n) AllE.nil) (TblOK.cons (AllE.cons (qaq_ok n) AllE.nil) (TblOK.cons (AllE.cons (qbx_ok n) AllE.nil) TblOK.nil))))))) (by kernel_rfl) (by kernel_rfl) (by kernel_rfl) (by kernel_rfl) (fun d => by kernel_rfl) LT.nil (fun a => qaj_run n a.1 a.2.1 a.2.2.1 a.2.2.2.1 a.2.2.2.2)
def qb_an : Ann := {}
def qb_c : Code := (match Tryd.f42.body with | some c => c | none => .skip)
def qb_a : StSh := ⟨.normal, [0, 1], (.cons (.sl true true yE) (.cons (.fn 40 .nil (.cons (.ptr 0 0 0 0) (.cons (.ptr 1 0 0 0) .nil))) .nil)), (.cons (.bcells 0 false 1 (.cons (.sl true false yA) (.cons (.sl true true yB) (.cons (.sl true true yC) (.cons (.sl true false (.int .u64)) (.cons (.sl true false .str) .nil)))))) (.cons (.bcells 0 false 1 (.cons (.sl true true yD) (.cons (.int .i64) (.cons (.int .i64) (.cons (.sl true true yD) (.cons (.sl true true yE) .nil)))))) .nil))⟩
def qn_an : Ann := { live := [(0, [0, 1, 7, 8])] }
def qn_c : Code := (match Tryd.f72.body with | some c => c | none => .skip)
def qn_l0 : Code := (match assoc 0 (loopsIn qn_c 0) with | some c => c | none => .skip)
def qn_a : StSh := ⟨.normal, [0, 1], (.cons (.sl true true yE) (.cons (.fn 40 .nil (.cons (.ptr 0 0 0 0) (.cons (.ptr 1 0 0 0) .nil))) .nil)), (.cons (.bcells 0 false 1 (.cons (.sl true false yA) (.cons (.sl true true yB) (.cons (.sl true true yC) (.cons (.sl true false (.int .u64)) (.cons (.sl true false .str) .nil)))))) (.cons (.bcells 0 false 1 (.cons (.sl true true yD) (.cons (.int .i64) (.cons (.int .i64) (.cons (.sl true true yD) (.cons (.sl true true yE) .nil)))))) .nil))⟩
def qax_an : Ann := {}
def qax_c : Code := (match Tryd.f40.body with | some c => c | none => .skip)
def qax_a : StSh := ⟨.normal, [0, 1, 2], (.cons (.agg (.cons (.int .i64) (.cons (.int .i64) (.cons (.int .i64) .nil)))) (.cons (.ptr 0 0 0 0) (.cons (.ptr 1 0 0 0) .nil))), (.cons (.bcells 0 false 1 (.cons (.sl true false yA) (.cons (.sl true true yB) (.cons (.sl true true yC) (.cons (.sl true false (.int .u64)) (.cons (.sl true false .str) .nil)))))) (.cons (.bcells 0 false 1 (.cons (.sl true true yD) (.cons (.int .i64) (.cons (.int .i64) (.cons (.sl true true yD) (.cons (.sl true true yE) .nil)))))) .nil))⟩
def qbu_an : Ann := {}
def qbu_c : Code := (match Tryd.f41.body with | some c => c | none => .skip)
def qbu_a : StSh := ⟨.normal, [0, 1, 2], (.cons (.agg (.cons (.sl true false yA) (.cons (.sl true true yB) (.cons (.sl true true yC) (.cons (.sl true false (.int .u64)) (.cons (.sl true false .str) .nil)))))) (.cons (.agg (.cons (.sl true true yD) (.cons (.int .i64) (.cons (.int .i64) (.cons (.sl true true yD) (.cons (.sl true true yE) .nil)))))) (.cons (.agg (.cons (.int .i64) (.cons (.int .i64) (.cons (.int .i64) .nil)))) .nil))), .nil⟩
def qbs_an : Ann := {}
def qbs_c : Code := (match Tryd.f71.body with | some c => c | none => .skip)
def qbs_a : StSh := ⟨.normal, [0, 1], (.cons (.int .i64) (.cons (.int .i64) .nil)), .nil⟩
def qbs_res : List StSh := [⟨.ret, [0], (.cons .bool .nil), .nil⟩]
def qbs_tbl (n : Nat) : FuncId → List Entry := fun f => []
def qbs_loops (n : Nat) : Nat → Option LEntry := fun f => none
theorem qbs_run (n : Nat) (n_0 : Int) (most_1 : Int) : funDS (real _) tab (qbs_tbl n) (qbs_loops n) qbs_an Tryd.f71 0 qbs_a qbs_res (n_0, most_1) some = qbs n n_0 most_1 := by kernel_rfl
def qbs_E (n : Nat) : Entry := ⟨qbs_a, qbs_res, fun d => qbs n d.1 d.2⟩
theorem qbs_ok (n : Nat) : EOK Tryd.prog 71 (qbs_E n) :=
 EOK.ofS zc zd zf (tbl := qbs_tbl n) (loops := qbs_loops n) (an := qbs_an) (old := []) (n := n) (c := qbs_c) (fn := Tryd.f71) TblOK.nil (by kernel_rfl) (by kernel_rfl) (by kernel_rfl) (by kernel_rfl) (fun d => by kernel_rfl) LT.nil (fun a => qbs_run n a.1 a.2)
def qbu_res : List StSh := [⟨.ret, [0], (.cons .bool .nil), .nil⟩]
def qbu_tbl (n : Nat) : FuncId → List Entry := fun f => bif Nat.beq f 71 then [qbs_E n] else []
def qbu_loops (n : Nat) : Nat → Option LEntry := fun f => none
theorem qbu_run (n : Nat) (t0 : DH) (t0_1 : DI) (t0_2 : DJ) (t0_3 : DC) (t0_4 : DD) (t1 : DA) (t1_1 : Int) (t1_2 : Int) (t1_3 : DA) (t1_4 : DB) (t2 : Int) (t2_1 : Int) (t2_2 : Int) : funDS (real _) tab (qbu_tbl n) (qbu_loops n) qbu_an Tryd.f41 0 qbu_a qbu_res ((t0, (t0_1, (t0_2, (t0_3, t0_4)))), ((t1, (t1_1, (t1_2, (t1_3, t1_4)))), (t2, (t2_1, t2_2)))) some = qbu n t0 t0_1 t0_2 t0_3 t0_4 t1 t1_1 t1_2 t1_3 t1_4 t2 t2_1 t2_2 := by kernel_rfl
def qbu_E (n : Nat) : Entry := ⟨qbu_a, qbu_res, fun d => qbu n d.1.1 d.1.2.1 d.1.2.2.1 d.1.2.2.2.1 d.1.2.2.2.2 d.2.1.1 d.2.1.2.1 d.2.1.2.2.1 d.2.1.2.2.2.1 d.2.1.2.2.2.2 d.2.2.1 d.2.2.2.1 d.2.2.2.2⟩
theorem qbu_ok (n : Nat) : EOK Tryd.prog 41 (qbu_E n) :=
 EOK.ofS zc zd zf (tbl := qbu_tbl n) (loops := qbu_loops n) (an := qbu_an) (old := []) (n := n) (c := qbu_c) (fn := Tryd.f41) (TblOK.cons (AllE.cons (qbs_ok n) AllE.nil) TblOK.nil) (by kernel_rfl) (by kernel_rfl) (by kernel_rfl) (by kernel_rfl) (fun d => by kernel_rfl) LT.nil (fun a => qbu_run n a.1.1 a.1.2.1 a.1.2.2.1 a.1.2.2.2.1 a.1.2.2.2.2 a.2.1.1 a.2.1.2.1 a.2.1.2.2.1 a.2.1.2.2.2.1 a.2.1.2.2.2.2 a.2.2.1 a.2.2.2.1 a.2.2.2.2)
def qax_res : List StSh := [⟨.ret, [0], (.cons .bool .nil), (.cons (.bcells 0 false 1 (.cons (.sl true false yA) (.cons (.sl true true yB) (.cons (.sl true true yC) (.cons (.sl true false (.int .u64)) (.cons (.sl true false .str) .nil)))))) (.cons (.bcells 0 false 1 (.cons (.sl true true yD) (.cons (.int .i64) (.cons (.int .i64) (.cons (.sl true true yD) (.cons (.sl true true yE) .nil)))))) .nil))⟩]
def qax_tbl (n : Nat) : FuncId → List Entry := fun f => bif Nat.beq f 41 then [qbu_E n] else []
def qax_loops (n : Nat) : Nat → Option LEntry := fun f => none
theorem qax_run (n : Nat) (i_0 : Int) (i_0_1 : Int) (i_0_2 : Int) (m0 : DH) (m0_1 : DI) (m0_2 : DJ) (m0_3 : DC) (m0_4 : DD) (m1 : DA) (m1_1 : Int) (m1_2 : Int) (m1_3 : DA) (m1_4 : DB) : funDS (real _) tab (qax_tbl n) (qax_loops n) qax_an Tryd.f40 2 qax_a qax_res ((i_0, (i_0_1, i_0_2)), ((m0, (m0_1, (m0_2, (m0_3, m0_4)))), (m1, (m1_1, (m1_2, (m1_3, m1_4)))))) some = qax n i_0 i_0_1 i_0_2 m0 m0_1 m0_2 m0_3 m0_4 m1 m1_1 m1_2 m1_3 m1_4 := by kernel_rfl
def qax_E (n : Nat) : Entry := ⟨qax_a, qax_res, fun d => qax n d.1.1 d.1.2.1 d.1.2.2 d.2.1.1 d.2.1.2.1 d.2.1.2.2.1 d.2.1.2.2.2.1 d.2.1.2.2.2.2 d.2.2.1 d.2.2.2.1 d.2.2.2.2.1 d.2.2.2.2.2.1 d.2.2.2.2.2.2⟩
theorem qax_ok (n : Nat) : EOK Tryd.prog 40 (qax_E n) :=
 EOK.ofS zc zd zf (tbl := qax_tbl n) (loops := qax_loops n) (an := qax_an) (old := [some true, some true]) (n := n) (c := qax_c) (fn := Tryd.f40) (TblOK.cons (AllE.cons (qbu_ok n) AllE.nil) TblOK.nil) (by kernel_rfl) (by kernel_rfl) (by kernel_rfl) (by kernel_rfl) (fun d => by kernel_rfl) LT.nil (fun a => qax_run n a.1.1 a.1.2.1 a.1.2.2 a.2.1.1 a.2.1.2.1 a.2.1.2.2.1 a.2.1.2.2.2.1 a.2.1.2.2.2.2 a.2.2.1 a.2.2.2.1 a.2.2.2.2.1 a.2.2.2.2.2.1 a.2.2.2.2.2.2)
def qn_h0 : List StSh := [⟨.normal, [0, 1, 7, 8], (.cons (.sl true true yE) (.cons (.fn 40 .nil (.cons (.ptr 0 0 0 0) (.cons (.ptr 1 0 0 0) .nil))) (.cons (.int .i64) (.cons (.int .i64) .nil)))), (.cons (.bcells 0 false 1 (.cons (.sl true false yA) (.cons (.sl true true yB) (.cons (.sl true true yC) (.cons (.sl true false (.int .u64)) (.cons (.sl true false .str) .nil)))))) (.cons (.bcells 0 false 1 (.cons (.sl true true yD) (.cons (.int .i64) (.cons (.int .i64) (.cons (.sl true true yD) (.cons (.sl true true yE) .nil)))))) .nil))⟩]
def qn_o0 : List StSh := [⟨.ret, [4], (.cons (.int .i64) .nil), (.cons (.bcells 0 false 1 (.cons (.sl true false yA) (.cons (.sl true true yB) (.cons (.sl true true yC) (.cons (.sl true false (.int .u64)) (.cons (.sl true false .str) .nil)))))) (.cons (.bcells 0 false 1 (.cons (.sl true true yD) (.cons (.int .i64) (.cons (.int .i64) (.cons (.sl true true yD) (.cons (.sl true true yE) .nil)))))) .nil))⟩, ⟨.exit 0, [], .nil, (.cons (.bcells 0 false 1 (.cons (.sl true false yA) (.cons (.sl true true yB) (.cons (.sl true true yC) (.cons (.sl true false (.int .u64)) (.cons (.sl true false .str) .nil)))))) (.cons (.bcells 0 false 1 (.cons (.sl true true yD) (.cons (.int .i64) (.cons (.int .i64) (.cons (.sl true true yD) (.cons (.sl true true yE) .nil)))))) .nil))⟩]
def qn_L0 (n : Nat) : LEntry := ⟨qn_h0, qn_o0, qn_W0 n⟩
def qn_res : List StSh := [⟨.ret, [0], (.cons (.int .i64) .nil), (.cons (.bcells 0 false 1 (.cons (.sl true false yA) (.cons (.sl true true yB) (.cons (.sl true true yC) (.cons (.sl true false (.int .u64)) (.cons (.sl true false .str) .nil)))))) (.cons (.bcells 0 false 1 (.cons (.sl true true yD) (.cons (.int .i64) (.cons (.int .i64) (.cons (.sl true true yD) (.cons (.sl true true yE) .nil)))))) .nil))⟩]
def qn_tbl (n : Nat) : FuncId → List Entry := fun f => bif Nat.beq f 40 then [qax_E n] else []
def qn_loops (n : Nat) : Nat → Option LEntry := fun f => bif Nat.beq f 0 then some (qn_L0 n) else none
theorem qn_r0 (n : Nat) (s_0 : DB) (t7 : Int) (t8 : Int) (m0 : DH) (m0_1 : DI) (m0_2 : DJ) (m0_3 : DC) (m0_4 : DD) (m1 : DA) (m1_1 : Int) (m1_2 : Int) (m1_3 : DA) (m1_4 : DB) : roundK (real _) tab (qn_tbl n) (qn_loops n) qn_an [some true, some true] qn_l0 0 [0, 1, 7, 8] qn_h0 qn_o0 ((s_0, (t7, t8)), ((m0, (m0_1, (m0_2, (m0_3, m0_4)))), (m1, (m1_1, (m1_2, (m1_3, m1_4)))))) some = qn_B0 n s_0 t7 t8 m0 m0_1 m0_2 m0_3 m0_4 m1 m1_1 m1_2 m1_3 m1_4 := by kernel_rfl
theorem qn_f0 (n : Nat) : LoopFact tab (qn_tbl n) (qn_loops n) qn_an [some true, some true] n 0 qn_l0 (qn_L0 n) := ⟨[0, 1, 7, 8], (fun s => qn_B0 n s.1.1 s.1.2.1 s.1.2.2 s.2.1.1 s.2.1.2.1 s.2.1.2.2.1 s.2.1.2.2.2.1 s.2.1.2.2.2.2 s.2.2.1 s.2.2.2.1 s.2.2.2.2.1 s.2.2.2.2.2.1 s.2.2.2.2.2.2), by kernel_rfl, by kernel_rfl, fun s => rfl, fun s => qn_r0 n s.1.1 s.1.2.1 s.1.2.2 s.2.1.1 s.2.1.2.1 s.2.1.2.2.1 s.2.1.2.2.2.1 s.2.1.2.2.2.2 s.2.2.1 s.2.2.2.1 s.2.2.2.2.1 s.2.2.2.2.2.1 s.2.2.2.2.2.2⟩
theorem qn_run (n : Nat) (s_0 : DB) (m0 : DH) (m0_1 : DI) (m0_2 : DJ) (m0_3 : DC) (m0_4 : DD) (m1 : DA) (m1_1 : Int) (m1_2 : Int) (m1_3 : DA) (m1_4 : DB) : funDS (real _) tab (qn_tbl n) (qn_loops n) qn_an Tryd.f72 2 qn_a qn_res (s_0, ((m0, (m0_1, (m0_2, (m0_3, m0_4)))), (m1, (m1_1, (m1_2, (m1_3, m1_4)))))) some = qn n s_0 m0 m0_1 m0_2 m0_3 m0_4 m1 m1_1 m1_2 m1_3 m1_4 := by kernel_rfl
def qn_E (n : Nat) : Entry := ⟨qn_a, qn_res, fun d => qn n d.1 d.2.1.1 d.2.1.2.1 d.2.1.2.2.1 d.2.1.2.2.2.1 d.2.1.2.2.2.2 d.2.2.1 d.2.2.2.1 d.2.2.2.2.1 d.2.2.2.2.2.1 d.2.2.2.2.2.2⟩
theorem qn_ok (n : Nat) : EOK Tryd.prog 72 (qn_E n) :=
 EOK.ofS zc zd zf (tbl := qn_tbl n) (loops := qn_loops n) (an := qn_an) (old := [some true, some true]) (n := n) (c := qn_c) (fn := Tryd.f72) (TblOK.cons (AllE.cons (qax_ok n) AllE.nil) TblOK.nil) (by kernel_rfl) (by kernel_rfl) (by kernel_rfl) (by kernel_rfl) (fun d => by kernel_rfl) (LT.cons (by kernel_rfl) (qn_f0 n) LT.nil) (fun a => qn_run n a.1 a.2.1.1 a.2.1.2.1 a.2.1.2.2.1 a.2.1.2.2.2.1 a.2.1.2.2.2.2 a.2.2.1 a.2.2.2.1 a.2.2.2.2.1 a.2.2.2.2.2.1 a.2.2.2.2.2.2)
def qb_res : List StSh := [⟨.ret, [0], (.cons .bool .nil), (.cons (.bcells 0 false 1 (.cons (.sl true false yA) (.cons (.sl true true yB) (.cons (.sl true true yC) (.cons (.sl true false (.int .u64)) (.cons (.sl true false .str) .nil)))))) (.cons (.bcells 0 false 1 (.cons (.sl true true yD) (.cons (.int .i64) (.cons (.int .i64) (.cons (.sl true true yD) (.cons (.sl true true yE) .nil)))))) .nil))⟩]
def qb_tbl (n : Nat) : FuncId → List Entry := fun f => bif Nat.beq f 72 then [qn_E n] else []
def qb_loops (n : Nat) : Nat → Option LEntry := fun f => none
theorem qb_run (n : Nat) (s_0 : DB) (m0 : DH) (m0_1 : DI) (m0_2 : DJ) (m0_3 : DC) (m0_4 : DD) (m1 : DA) (m1_1 : Int) (m1_2 : Int) (m1_3 : DA) (m1_4 : DB) : funDS (real _) tab (qb_tbl n) (qb_loops n) qb_an Tryd.f42 2 qb_a qb_res (s_0, ((m0, (m0_1, (m0_2, (m0_3, m0_4)))), (m1, (m1_1, (m1_2, (m1_3, m1_4)))))) some = qb n s_0 m0 m0_1 m0_2 m0_3 m0_4 m1 m1_1 m1_2 m1_3 m1_4 := by kernel_rfl
def qb_E (n : Nat) : Entry := ⟨qb_a, qb_res, fun d => qb n d.1 d.2.1.1 d.2.1.2.1 d.2.1.2.2.1 d.2.1.2.2.2.1 d.2.1.2.2.2.2 d.2.2.1 d.2.2.2.1 d.2.2.2.2.1 d.2.2.2.2.2.1 d.2.2.2.2.2.2⟩
theorem qb_ok (n : Nat) : EOK Tryd.prog 42 (qb_E n) :=
 EOK.ofS zc zd zf (tbl := qb_tbl n) (loops := qb_loops n) (an := qb_an) (old := [some true, some true]) (n := n) (c := qb_c) (fn := Tryd.f42) (TblOK.cons (AllE.cons (qn_ok n) AllE.nil) TblOK.nil) (by kernel_rfl) (by kernel_rfl) (by kernel_rfl) (by kernel_rfl) (fun d => by kernel_rfl) LT.nil (fun a => qb_run n a.1 a.2.1.1 a.2.1.2.1 a.2.1.2.2.1 a.2.1.2.2.2.1 a.2.1.2.2.2.2 a.2.2.1 a.2.2.2.1 a.2.2.2.2.1 a.2.2.2.2.2.1 a.2.2.2.2.2.2)
def qd_an : Ann := {}
def qd_c : Code := (match Tryd.f43.body with | some c => c | none => .skip)
def qd_a : StSh := ⟨.normal, [0, 1], (.cons (.sl true true yD) (.cons (.fn 44 .nil .nil) .nil)), .nil⟩
def qv_an : Ann := { live := [(0, [0, 1, 7, 8])] }
def qv_c : Code := (match Tryd.f73.body with | some c => c | none => .skip)
def qv_l0 : Code := (match assoc 0 (loopsIn qv_c 0) with | some c => c | none => .skip)
def qv_a : StSh := ⟨.normal, [0, 1], (.cons (.sl true true yD) (.cons (.fn 44 .nil .nil) .nil)), .nil⟩
def qaw_an : Ann := {}
def qaw_c : Code := (match Tryd.f44.body with | some c => c | none => .skip)
def qaw_a : StSh := ⟨.normal, [0], (.cons (.agg (.cons (.int .i64) (.cons (.int .i64) .nil))) .nil), .nil⟩
def qaw_res : List StSh := [⟨.ret, [0], (.cons .bool .nil), .nil⟩]
def qaw_tbl (n : Nat) : FuncId → List Entry := fun f => []
def qaw_loops (n : Nat) : Nat → Option LEntry := fun f => none
theorem qaw_run (n : Nat) (t_0 : Int) (t_0_1 : Int) : funDS (real _) tab (qaw_tbl n) (qaw_loops n) qaw_an Tryd.f44 0 qaw_a qaw_res (t_0, t_0_1) some = qaw n t_0 t_0_1 := by kernel_rfl
def qaw_E (n : Nat) : Entry := ⟨qaw_a, qaw_res, fun d => qaw n d.1 d.2⟩
theorem qaw_ok (n : Nat) : EOK Tryd.prog 44 (qaw_E n) :=
 EOK.ofS zc zd zf (tbl := qaw_tbl n) (loops := qaw_loops n) (an := qaw_an) (old := []) (n := n) (c := qaw_c) (fn := Tryd.f44) TblOK.nil (by kernel_rfl) (by kernel_rfl) (by kernel_rfl) (by kernel_rfl) (fun d => by kernel_rfl) LT.nil (fun a => qaw_run n a.1 a.2)
def qv_h0 : List StSh := [⟨.normal, [0, 1, 7, 8], (.cons (.sl true true yD) (.cons (.fn 44 .nil .nil) (.cons (.int .i64) (.cons (.int .i64) .nil)))), .nil⟩]
def qv_o0 : List StSh := [⟨.ret, [4], (.cons (.int .i64) .nil), .nil⟩, ⟨.exit 0, [], .nil, .nil⟩]
def qv_L0 (n : Nat) : LEntry := ⟨qv_h0, qv_o0, qv_W0 n⟩
def qv_res : List StSh := [⟨.ret, [0], (.cons (.int .i64) .nil), .nil⟩]
def qv_tbl (n : Nat) : FuncId → List Entry := fun f => bif Nat.beq f 44 then [qaw_E n] else []
def qv_loops (n : Nat) : Nat → Option LEntry := fun f => bif Nat.beq f 0 then some (qv_L0 n) else none
theorem qv_r0 (n : Nat) (s_0 : DA) (t7 : Int) (t8 : Int) : roundK (real _) tab (qv_tbl n) (qv_loops n) qv_an [] qv_l0 0 [0, 1, 7, 8] qv_h0 qv_o0 (s_0, (t7, t8)) some = qv_B0 n s_0 t7 t8 := by kernel_rfl
theorem qv_f0 (n : Nat) : LoopFact tab (qv_tbl n) (qv_loops n) qv_an [] n 0 qv_l0 (qv_L0 n) := ⟨[0, 1, 7, 8], (fun s => qv_B0 n s.1 s.2.1 s.2.2), by kernel_rfl, by kernel_rfl, fun s => rfl, fun s => qv_r0 n s.1 s.2.1 s.2.2⟩
theorem qv_run (n : Nat) (s_0 : DA) : funDS (real _) tab (qv_tbl n) (qv_loops n) qv_an Tryd.f73 0 qv_a qv_res s_0 some = qv n s_0 := by kernel_rfl
def qv_E (n : Nat) : Entry := ⟨qv_a, qv_res, fun d => qv n d⟩
theorem qv_ok (n : Nat) : EOK Tryd.prog 73 (qv_E n) :=
 EOK.ofS zc zd zf (tbl := qv_tbl n) (loops := qv_loops n) (an := qv_an) (old := []) (n := n) (c := qv_c) (fn := Tryd.f73) (TblOK.cons (AllE.cons (qaw_ok n) AllE.nil) TblOK.nil) (by kernel_rfl) (by kernel_rfl) (by kernel_rfl) (by kernel_rfl) (fun d => by kernel_rfl) (LT.cons (by kernel_rfl) (qv_f0 n) LT.nil) (fun a => qv_run n a)
def qd_res : List StSh := [⟨.ret, [0], (.cons .bool .nil), .nil⟩]
def qd_tbl (n : Nat) : FuncId → List Entry := fun f => bif Nat.beq f 73 then [qv_E n] else []
def qd_loops (n : Nat) : Nat → Option LEntry := fun f => none
theorem qd_run (n : Nat) (s_0 : DA) : funDS (real _) tab (qd_tbl n) (qd_loops n) qd_an Tryd.f43 0 qd_a qd_res s_0 some = qd n s_0 := by kernel_rfl
def qd_E (n : Nat) : Entry := ⟨qd_a, qd_res, fun d => qd n d⟩
theorem qd_ok (n : Nat) : EOK Tryd.prog 43 (qd_E n) :=
 EOK.ofS zc zd zf (tbl := qd_tbl n) (loops := qd_loops n) (an := qd_an) (old := []) (n := n) (c := qd_c) (fn := Tryd.f43) (TblOK.cons (AllE.cons (qv_ok n) AllE.nil) TblOK.nil) (by kernel_rfl) (by kernel_rfl) (by kernel_rfl) (by kernel_rfl) (fun d => by kernel_rfl) LT.nil (fun a => qd_run n a)
def qbv_h0 : List StSh := [⟨.normal, [1, 18, 19, 20], (.cons (.ptr 0 0 0 0) (.cons (.sl true true yB) (.cons (.int .i64) (.cons (.int .i64) .nil)))), (.cons (.bcells 0 false 1 (.cons (.sl true false yA) (.cons (.sl true true yB) (.cons (.sl true true yC) (.cons (.sl true false (.int .u64)) (.cons (.sl true false .str) .nil)))))) .nil)⟩]
def qbv_o0 : List StSh := [⟨.ret, [2], (.cons (.int .i64) .nil), (.cons (.bcells 0 false 1 (.cons (.sl true false yA) (.cons (.sl true true yB) (.cons (.sl true true yC) (.cons (.sl true false (.int .u64)) (.cons (.sl true false .str) .nil)))))) (.cons (.bcells 0 false 1 (.cons (.sl true true yD) (.cons (.int .i64) (.cons (.int .i64) (.cons (.sl true true yD) (.cons (.sl true true yE) .nil)))))) .nil))⟩, ⟨.exit 0, [1], (.cons (.ptr 0 0 0 0) .nil), (.cons (.bcells 0 false 1 (.cons (.sl true false yA) (.cons (.sl true true yB) (.cons (.sl true true yC) (.cons (.sl true false (.int .u64)) (.cons (.sl true false .str) .nil)))))) .nil)⟩]
def qbv_L0 (n : Nat) : LEntry := ⟨qbv_h0, qbv_o0, qbv_W0 n⟩
def qa_an : Ann := {}
def qa_c : Code := (match Tryd.f48.body with | some c => c | none => .skip)
def qa_a : StSh := ⟨.normal, [0, 1], (.cons (.sl true true yC) (.cons (.fn 45 .nil .nil) .nil)), .nil⟩
def qj_an : Ann := { live := [(0, [0, 1, 7, 8])] }
def qj_c : Code := (match Tryd.f74.body with | some c => c | none => .skip)
def qj_l0 : Code := (match assoc 0 (loopsIn qj_c 0) with | some c => c | none => .skip)
def qj_a : StSh := ⟨.normal, [0, 1], (.cons (.sl true true yC) (.cons (.fn 45 .nil .nil) .nil)), .nil⟩
def qbd_an : Ann := {}
def qbd_c : Code := (match Tryd.f45.body with | some c => c | none => .skip)
def qbd_a : StSh := ⟨.normal, [0], (.cons (.agg (.cons (.sl true true yD) (.cons (.int .i64) (.cons (.int .i64) .nil)))) .nil), .nil⟩
def qcm_an : Ann := {}
def qcm_c : Code := (match Tryd.f46.body with | some c => c | none => .skip)
def qcm_a : StSh := ⟨.normal, [0], (.cons (.agg (.cons (.int .i64) (.cons (.int .i64) .nil))) .nil), .nil⟩
def qcm_res : List StSh := [⟨.ret, [0], (.cons .bool .nil), .nil⟩]
def qcm_tbl (n : Nat) : FuncId → List Entry := fun f => []
def qcm_loops (n : Nat) : Nat → Option LEntry := fun f => none
theorem qcm_run (n : Nat) (t_0 : Int) (t_0_1 : Int) : funDS (real _) tab (qcm_tbl n) (qcm_loops n) qcm_an Tryd.f46 0 qcm_a qcm_res (t_0, t_0_1) some = qcm n t_0 t_0_1 := by kernel_rfl
def qcm_E (n : Nat) : Entry := ⟨qcm_a, qcm_res, fun d => qcm n d.1 d.2⟩
theorem qcm_ok (n : Nat) : EOK Tryd.prog 46 (qcm_E n) :=
 EOK.ofS zc zd zf (tbl := qcm_tbl n) (loops := qcm_loops n) (an := qcm_an) (old := []) (n := n) (c := qcm_c) (fn := Tryd.f46) TblOK.nil (by kernel_rfl) (by kernel_rfl) (by kernel_rfl) (by kernel_rfl) (fun d => by kernel_rfl) LT.nil (fun a => qcm_run n a.1 a.2)
def qf_an : Ann := {}
def qf_c : Code := (match Tryd.f43.body with | some c => c | none => .skip)
def qf_a : StSh := ⟨.normal, [0, 1], (.cons (.sl true true yD) (.cons (.fn 47 .nil .nil) .nil)), .nil⟩
def qs_an : Ann := { live := [(0, [0, 1, 7, 8])] }
def qs_c : Code := (match Tryd.f73.body with | some c => c | none => .skip)
def qs_l0 : Code := (match assoc 0 (loopsIn qs_c 0) with | some c => c | none => .skip)
def qs_a : StSh := ⟨.normal, [0, 1], (.cons (.sl true true yD) (.cons (.fn 47 .nil .nil) .nil)), .nil⟩
def qap_an : Ann := {}
def qap_c : Code := (match Tryd.f47.body with | some c => c | none => .skip)
def qap_a : StSh := ⟨.normal, [0], (.cons (.agg (.cons (.int .i64) (.cons (.int .i64) .nil))) .nil), .nil⟩
def qap_res : List StSh := [⟨.ret, [0], (.cons .bool .nil), .nil⟩]
def qap_tbl (n : Nat) : FuncId → List Entry := fun f => bif Nat.beq f 46 then [qcm_E n] else []
def qap_loops (n : Nat) : Nat → Option LEntry := fun f => none
theorem qap_run (n : Nat) (t_0 : Int) (t_0_1 : Int) : funDS (real _) tab (qap_tbl n) (qap_loops n) qap_an Tryd.f47 0 qap_a qap_res (t_0, t_0_1) some = qap n t_0 t_0_1 := by kernel_rfl
def qap_E (n : Nat) : Entry := ⟨qap_a, qap_res, fun d => qap n d.1 d.2⟩
theorem qap_ok (n : Nat) : EOK Tryd.prog 47 (qap_E n) :=
 EOK.ofS zc zd zf (tbl := qap_tbl n) (loops := qap_loops n) (an := qap_an) (old := []) (n := n) (c := qap_c) (fn := Tryd.f47) (TblOK.cons (AllE.cons (qcm_ok n) AllE.nil) TblOK.nil) (by kernel_rfl) (by kernel_rfl) (by kernel_rfl) (by kernel_rfl) (fun d => by kernel_rfl) LT.nil (fun a => qap_run n a.1 a.2)
def qs_h0 : List StSh := [⟨.normal, [0, 1, 7, 8], (.cons (.sl true true yD) (.cons (.fn 47 .nil .nil) (.cons (.int .i64) (.cons (.int .i64) .nil)))), .nil⟩]
def qs_o0 : List StSh := [⟨.ret, [4], (.cons (.int .i64) .nil), .nil⟩, ⟨.exit 0, [], .nil, .nil⟩]
def qs_L0 (n : Nat) : LEntry := ⟨qs_h0, qs_o0, qs_W0 n⟩
def qs_res : List StSh := [⟨.ret, [0], (.cons (.int .i64) .nil), .nil⟩]
def qs_tbl (n : Nat) : FuncId → List Entry := fun f => bif Nat.beq f 47 then [qap_E n] else []
def qs_loops (n : Nat) : Nat → Option LEntry := fun f => bif Nat.beq f 0 then some (qs_L0 n) else none
theorem qs_r0 (n : Nat) (s_0 : DA) (t7 : Int) (t8 : Int) : roundK (real _) tab (qs_tbl n) (qs_loops n) qs_an [] qs_l0 0 [0, 1, 7, 8] qs_h0 qs_o0 (s_0, (t7, t8)) some = qs_B0 n s_0 t7 t8 := by kernel_rfl
theorem qs_f0 (n : Nat) : LoopFact tab (qs_tbl n) (qs_loops n) qs_an [] n 0 qs_l0 (qs_L0 n) := ⟨[0, 1, 7, 8], (fun s => qs_B0 n s.1 s.2.1 s.2.2), by kernel_rfl, by kernel_rfl, fun s => rfl, fun s => qs_r0 n s.1 s.2.1 s.2.2⟩
theorem qs_run (n : Nat) (s_0 : DA) : funDS (real _) tab (qs_tbl n) (qs_loops n) qs_an Tryd.f73 0 qs_a qs_res s_0 some = qs n s_0 := by kernel_rfl
def qs_E (n : Nat) : Entry := ⟨qs_a, qs_res, fun d => qs n d⟩
theorem qs_ok (n : Nat) : EOK Tryd.prog 73 (qs_E n) :=
 EOK.ofS zc zd zf (tbl := qs_tbl n) (loops := qs_loops n) (an := qs_an) (old := []) (n := n) (c := qs_c) (fn := Tryd.f73) (TblOK.cons (AllE.cons (qap_ok n) AllE.nil) TblOK.nil) (by kernel_rfl) (by kernel_rfl) (by kernel_rfl) (by kernel_rfl) (fun d => by kernel_rfl) (LT.cons (by kernel_rfl) (qs_f0 n) LT.nil) (fun a => qs_run n a)
def qf_res : List StSh := [⟨.ret, [0], (.cons .bool .nil), .nil⟩]
def qf_tbl (n : Nat) : FuncId → List Entry := fun f => bif Nat.beq f 73 then [qs_E n] else []
def qf_loops (n : Nat) : Nat → Option LEntry := fun f => none
theorem qf_run (n : Nat) (s_0 : DA) : funDS (real _) tab (qf_tbl n) (qf_loops n) qf_an Tryd.f43 0 qf_a qf_res s_0 some = qf n s_0 := by kernel_rfl
def qf_E (n : Nat) : Entry := ⟨qf_a, qf_res, fun d => qf n d⟩
theorem qf_ok (n : Nat) : EOK Tryd.prog 43 (qf_E n) :=
 EOK.ofS zc zd zf (tbl := qf_tbl n) (loops := qf_loops n) (an := qf_an) (old := []) (n := n) (c := qf_c) (fn := Tryd.f43) (TblOK.cons (AllE.cons (qs_ok n) AllE.nil) TblOK.nil) (by kernel_rfl) (by kernel_rfl) (by kernel_rfl) (by kernel_rfl) (fun d => by kernel_rfl) LT.nil (fun a => qf_run n a)
def qbd_res : List StSh := [⟨.ret, [0], (.cons .bool .nil), .nil⟩]
def qbd_tbl (n : Nat) : FuncId → List Entry := fun f => bif Nat.beq f 46 then [qcm_E n] else bif Nat.beq f 43 then [qf_E n] else []
def qbd_loops (n : Nat) : Nat → Option LEntry := fun f => none
theorem qbd_run (n : Nat) (i_0 : DA) (i_0_1 : Int) (i_0_2 : Int) : funDS (real _) tab (qbd_tbl n) (qbd_loops n) qbd_an Tryd.f45 0 qbd_a qbd_res (i_0, (i_0_1, i_0_2)) some = qbd n i_0 i_0_1 i_0_2 := by kernel_rfl
def qbd_E (n : Nat) : Entry := ⟨qbd_a, qbd_res, fun d => qbd n d.1 d.2.1 d.2.2⟩
theorem qbd_ok (n : Nat) : EOK Tryd.prog 45 (qbd_E n) :=
 EOK.ofS zc zd zf (tbl := qbd_tbl n) (loops := qbd_loops n) (an := qbd_an) (old := []) (n := n) (c := qbd_c) (fn := Tryd.f45) (TblOK.cons (AllE.cons (qcm_ok n) AllE.nil) (TblOK.cons (AllE.cons (qf_ok n) AllE.nil) TblOK.nil)) (by kernel_rfl) (by kernel_rfl) (by kernel_rfl) (by kernel_rfl) (fun d => by kernel_rfl) LT.nil (fun a => qbd_run n a.1 a.2.1 a.2.2)
def qj_h0 : List StSh := [⟨.normal, [0, 1, 7, 8], (.cons (.sl true true yC) (.cons (.fn 45 .nil .nil) (.cons (.int .i64) (.cons (.int .i64) .nil)))), .nil⟩]
def qj_o0 : List StSh := [⟨.ret, [4], (.cons (.int .i64) .nil), .nil⟩, ⟨.exit 0, [], .nil, .nil⟩]
def qj_L0 (n : Nat) : LEntry := ⟨qj_h0, qj_o0, qj_W0 n⟩
def qj_res : List StSh := [⟨.ret, [0], (.cons (.int .i64) .nil), .nil⟩]
def qj_tbl (n : Nat) : FuncId → List Entry := fun f => bif Nat.beq f 45 then [qbd_E n] else []
def qj_loops (n : Nat) : Nat → Option LEntry := fun f => bif Nat.beq f 0 then some (qj_L0 n) else none
theorem qj_r0 (n : Nat) (s_0 : DJ) (t7 : Int) (t8 : Int) : roundK (real _) tab (qj_tbl n) (qj_loops n) qj_an [] qj_l0 0 [0, 1, 7, 8] qj_h0 qj_o0 (s_0, (t7, t8)) some = qj_B0 n s_0 t7 t8 := by kernel_rfl
theorem qj_f0 (n : Nat) : LoopFact tab (qj_tbl n) (qj_loops n) qj_an [] n 0 qj_l0 (qj_L0 n) := ⟨[0, 1, 7, 8], (fun s => qj_B0 n s.1 s.2.1 s.2.2), by kernel_rfl, by kernel_rfl, fun s => rfl, fun s => qj_r0 n s.1 s.2.1 s.2.2⟩
theorem qj_run (n : Nat) (s_0 : DJ) : funDS (real _) tab (qj_tbl n) (qj_loops n) qj_an Tryd.f74 0 qj_a qj_res s_0 some = qj n s_0 := by kernel_rfl
def qj_E (n : Nat) : Entry := ⟨qj_a, qj_res, fun d => qj n d⟩
theorem qj_ok (n : Nat) : EOK Tryd.prog 74 (qj_E n) :=
 EOK.ofS zc zd zf (tbl := qj_tbl n) (loops := qj_loops n) (an := qj_an) (old := []) (n := n) (c := qj_c) (fn := Tryd.f74) (TblOK.cons (AllE.cons (qbd_ok n) AllE.nil) TblOK.nil) (by kernel_rfl) (by kernel_rfl) (by kernel_rfl) (by kernel_rfl) (fun d => by kernel_rfl) (LT.cons (by kernel_rfl) (qj_f0 n) LT.nil) (fun a => qj_run n a)
def qa_res : List StSh := [⟨.ret, [0], (.cons .bool .nil), .nil⟩]
def qa_tbl (n : Nat) : FuncId → List Entry := fun f => bif Nat.beq f 74 then [qj_E n] else []
def qa_loops (n : Nat) : Nat → Option LEntry := fun f => none
theorem qa_run (n : Nat) (s_0 : DJ) : funDS (real _) tab (qa_tbl n) (qa_loops n) qa_an Tryd.f48 0 qa_a qa_res s_0 some = qa n s_0 := by kernel_rfl
def qa_E (n : Nat) : Entry := ⟨qa_a, qa_res, fun d => qa n d⟩
theorem qa_ok (n : Nat) : EOK Tryd.prog 48 (qa_E n) :=
 EOK.ofS zc zd zf (tbl := qa_tbl n) (loops := qa_loops n) (an := qa_an) (old := []) (n := n) (c := qa_c) (fn := Tryd.f48) (TblOK.cons (AllE.cons (qj_ok n) AllE.nil) TblOK.nil) (by kernel_rfl) (by kernel_rfl) (by kernel_rfl) (by kernel_rfl) (fun d => by kernel_rfl) LT.nil (fun a => qa_run n a)
def qbv_res : List StSh := [⟨.ret, [0], (.cons (.int .i64) .nil), .nil⟩]
def qbv_tbl (n : Nat) : FuncId → List Entry := fun f => bif Nat.beq f 39 then [qaj_E n] else bif Nat.beq f 42 then [qb_E n] else bif Nat.beq f 43 then [qd_E n] else bif Nat.beq f 48 then [qa_E n] else []
def qbv_loops (n : Nat) : Nat → Option LEntry := fun f => bif Nat.beq f 0 then some (qbv_L0 n) else none
theorem qbv_r0 (n : Nat) (t18 : DI) (t19 : Int) (t20 : Int) (m0 : DH) (m0_1 : DI) (m0_2 : DJ) (m0_3 : DC) (m0_4 : DD) : roundK (real _) tab (qbv_tbl n) (qbv_loops n) qbv_an [] qbv_l0 0 [1, 18, 19, 20] qbv_h0 qbv_o0 ((t18, (t19, t20)), (m0, (m0_1, (m0_2, (m0_3, m0_4))))) some = qbv_B0 n t18 t19 t20 m0 m0_1 m0_2 m0_3 m0_4 := by kernel_rfl
theorem qbv_f0 (n : Nat) : LoopFact tab (qbv_tbl n) (qbv_loops n) qbv_an [] n 0 qbv_l0 (qbv_L0 n) := ⟨[1, 18, 19, 20], (fun s => qbv_B0 n s.1.1 s.1.2.1 s.1.2.2 s.2.1 s.2.2.1 s.2.2.2.1 s.2.2.2.2.1 s.2.2.2.2.2), by kernel_rfl, by kernel_rfl, fun s => rfl, fun s => qbv_r0 n s.1.1 s.1.2.1 s.1.2.2 s.2.1 s.2.2.1 s.2.2.2.1 s.2.2.2.2.1 s.2.2.2.2.2⟩
theorem qbv_run (n : Nat) (m_0 : DH) (m_0_1 : DI) (m_0_2 : DJ) (m_0_3 : DC) (m_0_4 : DD) : funDS (real _) tab (qbv_tbl n) (qbv_loops n) qbv_an Tryd.f28 0 qbv_a qbv_res (m_0, (m_0_1, (m_0_2, (m_0_3, m_0_4)))) some = qbv n m_0 m_0_1 m_0_2 m_0_3 m_0_4 := by kernel_rfl
def qbv_E (n : Nat) : Entry := ⟨qbv_a, qbv_res, fun d => qbv n d.1 d.2.1 d.2.2.1 d.2.2.2.1 d.2.2.2.2⟩
theorem qbv_ok (n : Nat) : EOK Tryd.prog 28 (qbv_E n) :=
 EOK.ofS zc zd zf (tbl := qbv_tbl n) (loops := qbv_loops n) (an := qbv_an) (old := []) (n := n) (c := qbv_c) (fn := Tryd.f28) (TblOK.cons (AllE.cons (qaj_ok n) AllE.nil) (TblOK.cons (AllE.cons (qb_ok n) AllE.nil) (TblOK.cons (AllE.cons (qd_ok n) AllE.nil) (TblOK.cons (AllE.cons (qa_ok n) AllE.nil) TblOK.nil)))) (by kernel_rfl) (by kernel_rfl) (by kernel_rfl) (by kernel_rfl) (fun d => by kernel_rfl) (LT.cons (by kernel_rfl) (qbv_f0 n) LT.nil) (fun a => qbv_run n a.1 a.2.1 a.2.2.1 a.2.2.2.1 a.2.2.2.2)
def qcl_an : Ann := { live := [(0, [2, 3, 11, 12, 14, 55, 56, 57])] }
def qcl_c : Code := (match Tryd.f29.body with | some c => c | none => .skip)
def qcl_l0 : Code := (match assoc 0 (loopsIn qcl_c 0) with | some c => c | none => .skip)
def qcl_a : StSh := ⟨.normal, [0, 1, 2, 3], (.cons (.agg (.cons (.sl true false yA) (.cons (.sl true true yB) (.cons (.sl true true yC) (.cons (.sl true false (.int .u64)) (.cons (.sl true false .str) .nil)))))) (.cons (.int .i64) (.cons (.int .i64) (.cons (.sl true true yD) .nil)))), .nil⟩
def qct_an : Ann := {}
def qct_c : Code := (match Tryd.f49.body with | some c => c | none => .skip)
def qct_a : StSh := ⟨.normal, [0, 1, 2, 3], (.cons (.agg (.cons (.sl true false yA) (.cons (.sl true true yB) (.cons (.sl true true yC) (.cons (.sl true false (.int .u64)) (.cons (.sl true false .str) .nil)))))) (.cons (.agg (.cons (.sl true true yD) (.cons (.int .i64) (.cons (.int .i64) (.cons (.sl true true yD) (.cons (.sl true true yE) .nil)))))) (.cons (.agg (.cons (.int .i64) (.cons (.int .i64) (.cons (.int .i64) .nil)))) (.cons (.sl true true yD) .nil)))), .nil⟩
def qci_an : Ann := {}
def qci_c : Code := (match Tryd.f75.body with | some c => c | none => .skip)
def qci_a : StSh := ⟨.normal, [0, 1], (.cons (.int .i64) (.cons (.sl true true yD) .nil)), .nil⟩
def qbt_an : Ann := {}
def qbt_c : Code := (match Tryd.f97.body with | some c => c | none => .skip)
def qbt_a : StSh := ⟨.normal, [0], (.cons (.sl true true yD) .nil), .nil⟩
def qbt_res : List StSh := [⟨.ret, [0], (.cons (.sl true true yD) .nil), .nil⟩]
def qbt_tbl (n : Nat) : FuncId → List Entry := fun f => []
def qbt_loops (n : Nat) : Nat → Option LEntry := fun f => none
theorem qbt_run (n : Nat) (list_0 : DA) : funDS (real _) tab (qbt_tbl n) (qbt_loops n) qbt_an Tryd.f97 0 qbt_a qbt_res list_0 some = qbt n list_0 := by kernel_rfl
def qbt_E (n : Nat) : Entry := ⟨qbt_a, qbt_res, fun d => qbt n d⟩
theorem qbt_ok (n : Nat) : EOK Tryd.prog 97 (qbt_E n) :=
 EOK.ofS zc zd zf (tbl := qbt_tbl n) (loops := qbt_loops n) (an := qbt_an) (old := []) (n := n) (c := qbt_c) (fn := Tryd.f97) TblOK.nil (by kernel_rfl) (by kernel_rfl) (by kernel_rfl) (by kernel_rfl) (fun d => by kernel_rfl) LT.nil (fun a => qbt_run n a)
def qci_res : List StSh := [⟨.ret, [0], (.cons (.tup (.cons (.agg (.cons (.sl true true yD) (.cons (.sl true true yD) .nil))) (.cons .bool .nil))) .nil), .nil⟩]
def qci_tbl (n : Nat) : FuncId → List Entry := fun f => bif Nat.beq f 97 then [qbt_E n] else []
def qci_loops (n : Nat) : Nat → Option LEntry := fun f => none
theorem qci_run (n : Nat) (t0 : Int) (t1 : DA) : funDS (real _) tab (qci_tbl n) (qci_loops n) qci_an Tryd.f75 0 qci_a qci_res (t0, t1) some = qci n t0 t1 := by kernel_rfl
def qci_E (n : Nat) : Entry := ⟨qci_a, qci_res, fun d => qci n d.1 d.2⟩
theorem qci_ok (n : Nat) : EOK Tryd.prog 75 (qci_E n) :=
 EOK.ofS zc zd zf (tbl := qci_tbl n) (loops := qci_loops n) (an := qci_an) (old := []) (n := n) (c := qci_c) (fn := Tryd.f75) (TblOK.cons (AllE.cons (qbt_ok n) AllE.nil) TblOK.nil) (by kernel_rfl) (by kernel_rfl) (by kernel_rfl) (by kernel_rfl) (fun d => by kernel_rfl) LT.nil (fun a => qci_run n a.1 a.2)
def qbw_an : Ann := {}
def qbw_c : Code := (match Tryd.f76.body with | some c => c | none => .skip)
def qbw_a : StSh := ⟨.normal, [0], (.cons (.int .i64) .nil), .nil⟩
def qbw_res : List StSh := [⟨.ret, [0], (.cons (.tup (.cons (.agg (.cons (.sl true true yD) (.cons (.sl true true yD) .nil))) (.cons .bool .nil))) .nil), .nil⟩]
def qbw_tbl (n : Nat) : FuncId → List Entry := fun f => bif Nat.beq f 97 then [qbt_E n] else []
def qbw_loops (n : Nat) : Nat → Option LEntry := fun f => none
theorem qbw_run (n : Nat) (t0 : Int) : funDS (real _) tab (qbw_tbl n) (qbw_loops n) qbw_an Tryd.f76 0 qbw_a qbw_res t0 some = qbw n t0 := by kernel_rfl
def qbw_E (n : Nat) : Entry := ⟨qbw_a, qbw_res, fun d => qbw n d⟩
theorem qbw_ok (n : Nat) : EOK Tryd.prog 76 (qbw_E n) :=
 EOK.ofS zc zd zf (tbl := qbw_tbl n) (loops := qbw_loops n) (an := qbw_an) (old := []) (n := n) (c := qbw_c) (fn := Tryd.f76) (TblOK.cons (AllE.cons (qbt_ok n) AllE.nil) TblOK.nil) (by kernel_rfl) (by kernel_rfl) (by kernel_rfl) (by kernel_rfl) (fun d => by kernel_rfl) LT.nil (fun a => qbw_run n a)
def qbm_an : Ann := {}
def qbm_c : Code := (match Tryd.f77.body with | some c => c | none => .skip)
def qbm_a : StSh := ⟨.normal, [0, 1, 2], (.cons (.agg (.cons (.sl true false yA) (.cons (.sl true true yB) (.cons (.sl true true yC) (.cons (.sl true false (.int .u64)) (.cons (.sl true false .str) .nil)))))) (.cons (.agg (.cons (.sl true true yD) (.cons (.int .i64) (.cons (.int .i64) (.cons (.sl true true yD) (.cons (.sl true true yE) .nil)))))) (.cons (.agg (.cons (.int .i64) (.cons (.int .i64) (.cons (.int .i64) .nil)))) .nil))), .nil⟩
def qbj_an : Ann := {}
def qbj_c : Code := (match Tryd.f18.body with | some c => c | none => .skip)
def qbj_a : StSh := ⟨.normal, [0, 1], (.cons (.agg (.cons (.sl true true yD) (.cons (.int .i64) (.cons (.int .i64) (.cons (.sl true true yD) (.cons (.sl true true yE) .nil)))))) (.cons (.int .i64) .nil)), .nil⟩
def qbj_res : List StSh := [⟨.ret, [0], (.cons (.agg (.cons (.int .i64) (.cons (.int .i64) .nil))) .nil), .nil⟩]
def qbj_tbl (n : Nat) : FuncId → List Entry := fun f => []
def qbj_loops (n : Nat) : Nat → Option LEntry := fun f => none
theorem qbj_run (n : Nat) (f_0 : DA) (f_0_1 : Int) (f_0_2 : Int) (f_0_3 : DA) (f_0_4 : DB) (n_1 : Int) : funDS (real _) tab (qbj_tbl n) (qbj_loops n) qbj_an Tryd.f18 0 qbj_a qbj_res ((f_0, (f_0_1, (f_0_2, (f_0_3, f_0_4)))), n_1) some = qbj n f_0 f_0_1 f_0_2 f_0_3 f_0_4 n_1 := by kernel_rfl
def qbj_E (n : Nat) : Entry := ⟨qbj_a, qbj_res, fun d => qbj n d.1.1 d.1.2.1 d.1.2.2.1 d.1.2.2.2.1 d.1.2.2.2.2 d.2⟩
theorem qbj_ok (n : Nat) : EOK Tryd.prog 18 (qbj_E n) :=
 EOK.ofS zc zd zf (tbl := qbj_tbl n) (loops := qbj_loops n) (an := qbj_an) (old := []) (n := n) (c := qbj_c) (fn := Tryd.f18) TblOK.nil (by kernel_rfl) (by kernel_rfl) (by kernel_rfl) (by kernel_rfl) (fun d => by kernel_rfl) LT.nil (fun a => qbj_run n a.1.1 a.1.2.1 a.1.2.2.1 a.1.2.2.2.1 a.1.2.2.2.2 a.2)
def qbm_res : List StSh := [⟨.ret, [0], (.cons (.agg (.cons (.sl true true yD) (.cons (.sl true true yD) .nil))) .nil), .nil⟩]
def qbm_tbl (n : Nat) : FuncId → List Entry := fun f => bif Nat.beq f 97 then [qbt_E n] else bif Nat.beq f 18 then [qbj_E n] else []
def qbm_loops (n : Nat) : Nat → Option LEntry := fun f => none
theorem qbm_run (n : Nat) (t0 : DH) (t0_1 : DI) (t0_2 : DJ) (t0_3 : DC) (t0_4 : DD) (t1 : DA) (t1_1 : Int) (t1_2 : Int) (t1_3 : DA) (t1_4 : DB) (t2 : Int) (t2_1 : Int) (t2_2 : Int) : funDS (real _) tab (qbm_tbl n) (qbm_loops n) qbm_an Tryd.f77 0 qbm_a qbm_res ((t0, (t0_1, (t0_2, (t0_3, t0_4)))), ((t1, (t1_1, (t1_2, (t1_3, t1_4)))), (t2, (t2_1, t2_2)))) some = qbm n t0 t0_1 t0_2 t0_3 t0_4 t1 t1_1 t1_2 t1_3 t1_4 t2 t2_1 t2_2 := by kernel_rfl
def qbm_E (n : Nat) : Entry := ⟨qbm_a, qbm_res, fun d => qbm n d.1.1 d.1.2.1 d.1.2.2.1 d.1.2.2.2.1 d.1.2.2.2.2 d.2.1.1 d.2.1.2.1 d.2.1.2.2.1 d.2.1.2.2.2.1 d.2.1.2.2.2.2 d.2.2.1 d.2.2.2.1 d.2.2.2.2⟩
theorem qbm_ok (n : Nat) : EOK Tryd.prog 77 (qbm_E n) :=
 EOK.ofS zc zd zf (tbl := qbm_tbl n) (loops := qbm_loops n) (an := qbm_an) (old := []) (n := n) (c := qbm_c) (fn := Tryd.f77) (TblOK.cons (AllE.cons (qbt_ok n) AllE.nil) (TblOK.cons (AllE.cons (qbj_ok n) AllE.nil) TblOK.nil)) (by kernel_rfl) (by kernel_rfl) (by kernel_rfl) (by kernel_rfl) (fun d => by kernel_rfl) LT.nil (fun a => qbm_run n a.1.1 a.1.2.1 a.1.2.2.1 a.1.2.2.2.1 a.1.2.2.2.2 a.2.1.1 a.2.1.2.1 a.2.1.2.2.1 a.2.1.2.2.2.1 a.2.1.2.2.2.2 a.2.2.1 a.2.2.2.1 a.2.2.2.2)
def qct_res : List StSh := [⟨.ret, [0], (.cons (.tup (.cons (.agg (.cons (.sl true true yD) (.cons (.sl true true yD) .nil))) (.cons .bool .nil))) .nil), .nil⟩]
def qct_tbl (n : Nat) : FuncId → List Entry := fun f => bif Nat.beq f 75 then [qci_E n] else bif Nat.beq f 76 then [qbw_E n] else bif Nat.beq f 77 then [qbm_E n] else []
def qct_loops (n : Nat) : Nat → Option LEntry := fun f => none
theorem qct_run (n : Nat) (m_0 : DH) (m_0_1 : DI) (m_0_2 : DJ) (m_0_3 : DC) (m_0_4 : DD) (f_1 : DA) (f_1_1 : Int) (f_1_2 : Int) (f_1_3 : DA) (f_1_4 : DB) (i_2 : Int) (i_2_1 : Int) (i_2_2 : Int) (stack_3 : DA) : funDS (real _) tab (qct_tbl n) (qct_loops n) qct_an Tryd.f49 0 qct_a qct_res ((m_0, (m_0_1, (m_0_2, (m_0_3, m_0_4)))), ((f_1, (f_1_1, (f_1_2, (f_1_3, f_1_4)))), ((i_2, (i_2_1, i_2_2)), stack_3))) some = qct n m_0 m_0_1 m_0_2 m_0_3 m_0_4 f_1 f_1_1 f_1_2 f_1_3 f_1_4 i_2 i_2_1 i_2_2 stack_3 := by kernel_rfl
def qct_E (n : Nat) : Entry := ⟨qct_a, qct_res, fun d => qct n d.1.1 d.1.2.1 d.1.2.2.1 d.1.2.2.2.1 d.1.2.2.2.2 d.2.1.1 d.2.1.2.1 d.2.1.2.2.1 d.2.1.2.2.2.1 d.2.1.2.2.2.2 d.2.2.1.1 d.2.2.1.2.1 d.2.2.1.2.2 d.2.2.2⟩
theorem qct_ok (n : Nat) : EOK Tryd.prog 49 (qct_E n) :=
 EOK.ofS zc zd zf (tbl := qct_tbl n) (loops := qct_loops n) (an := qct_an) (old := []) (n := n) (c := qct_c) (fn := Tryd.f49) (TblOK.cons (AllE.cons (qci_ok n) AllE.nil) (TblOK.cons (AllE.cons (qbw_ok n) AllE.nil) (TblOK.cons (AllE.cons (qbm_ok n) AllE.nil) TblOK.nil))) (by kernel_rfl) (by kernel_rfl) (by kernel_rfl) (by kernel_rfl) (fun d => by kernel_rfl) LT.nil (fun a => qct_run n a.1.1 a.1.2.1 a.1.2.2.1 a.1.2.2.2.1 a.1.2.2.2.2 a.2.1.1 a.2.1.2.1 a.2.1.2.2.1 a.2.1.2.2.2.1 a.2.1.2.2.2.2 a.2.2.1.1 a.2.2.1.2.1 a.2.2.1.2.2 a.2.2.2)
def qcp_an : Ann := {}
def qcp_c : Code := (match Tryd.f37.body with | some c => c | none => .skip)
def qcp_a : StSh := ⟨.normal, [0, 1], (.cons (.agg (.cons (.int .i64) (.cons (.int .i64) .nil))) (.cons (.agg (.cons (.int .i64) (.cons (.int .i64) .nil))) .nil)), .nil⟩
def qcq_an : Ann := {}
def qcq_c : Code := (match Tryd.f63.body with | some c => c | none => .skip)
def qcq_a : StSh := ⟨.normal, [0], (.cons (.agg (.cons (.int .i64) (.cons (.int .i64) .nil))) .nil), .nil⟩
def qcq_res : List StSh := [⟨.ret, [0], (.cons .bool .nil), .nil⟩]
def qcq_tbl (n : Nat) : FuncId → List Entry := fun f => []
def qcq_loops (n : Nat) : Nat → Option LEntry := fun f => none
theorem qcq_run (n : Nat) (t_0 : Int) (t_0_1 : Int) : funDS (real _) tab (qcq_tbl n) (qcq_loops n) qcq_an Tryd.f63 0 qcq_a qcq_res (t_0, t_0_1) some = qcq n t_0 t_0_1 := by kernel_rfl
def qcq_E (n : Nat) : Entry := ⟨qcq_a, qcq_res, fun d => qcq n d.1 d.2⟩
theorem qcq_ok (n : Nat) : EOK Tryd.prog 63 (qcq_E n) :=
 EOK.ofS zc zd zf (tbl := qcq_tbl n) (loops := qcq_loops n) (an := qcq_an) (old := []) (n := n) (c := qcq_c) (fn := Tryd.f63) TblOK.nil (by kernel_rfl) (by kernel_rfl) (by kernel_rfl) (by kernel_rfl) (fun d => by kernel_rfl) LT.nil (fun a => qcq_run n a.1 a.2)
def qcp_res : List StSh := [⟨.ret, [0], (.cons .bool .nil), .nil⟩]
def qcp_tbl (n : Nat) : FuncId → List Entry := fun f => bif Nat.beq f 63 then [qcq_E n] else []
def qcp_loops (n : Nat) : Nat → Option LEntry := fun f => none
theorem qcp_run (n : Nat) (a_0 : Int) (a_0_1 : Int) (b_1 : Int) (b_1_1 : Int) : funDS (real _) tab (qcp_tbl n) (qcp_loops n) qcp_an Tryd.f37 0 qcp_a qcp_res ((a_0, a_0_1), (b_1, b_1_1)) some = qcp n a_0 a_0_1 b_1 b_1_1 := by kernel_rfl
def qcp_E (n : Nat) : Entry := ⟨qcp_a, qcp_res, fun d => qcp n d.1.1 d.1.2 d.2.1 d.2.2⟩
theorem qcp_ok (n : Nat) : EOK Tryd.prog 37 (qcp_E n) :=
 EOK.ofS zc zd zf (tbl := qcp_tbl n) (loops := qcp_loops n) (an := qcp_an) (old := []) (n := n) (c := qcp_c) (fn := Tryd.f37) (TblOK.cons (AllE.cons (qcq_ok n) AllE.nil) TblOK.nil) (by kernel_rfl) (by kernel_rfl) (by kernel_rfl) (by kernel_rfl) (fun d => by kernel_rfl) LT.nil (fun a => qcp_run n a.1.1 a.1.2 a.2.1 a.2.2)
def qcl_h0 : List StSh := [⟨.normal, [2, 3, 11, 12, 14, 55, 56, 57], (.cons (.int .i64) (.cons (.sl true true yD) (.cons (.ptr 0 0 0 0) (.cons (.ptr 1 0 0 0) (.cons (.int .i64) (.cons (.sl true true yD) (.cons (.int .i64) (.cons (.int .i64) .nil)))))))), (.cons (.bcells 0 false 1 (.cons (.sl true true yD) (.cons (.int .i64) (.cons (.int .i64) (.cons (.sl true true yD) (.cons (.sl true true yE) .nil)))))) (.cons (.bcells 0 false 1 (.cons (.sl true true yD) (.cons (.sl true true yD) .nil))) .nil))⟩]
def qcl_o0 : List StSh := [⟨.ret, [8, 9, 10], (.cons (.sl false true yD) (.cons (.sl false false (.int .i64)) (.cons (.int .i64) .nil))), (.cons (.bcells 0 false 1 (.cons (.sl true true yD) (.cons (.int .i64) (.cons (.int .i64) (.cons (.sl true true yD) (.cons (.sl true true yE) .nil)))))) (.cons (.bcells 0 false 1 (.cons (.sl true true yD) (.cons (.sl true true yD) .nil))) (.cons (.bcells 0 false 1 (.cons (.int .i64) (.cons (.int .i64) .nil))) .nil)))⟩, ⟨.exit 0, [2, 3, 11, 12, 14], (.cons (.int .i64) (.cons (.sl true true yD) (.cons (.ptr 0 0 0 0) (.cons (.ptr 1 0 0 0) (.cons (.int .i64) .nil))))), (.cons (.bcells 0 false 1 (.cons (.sl true true yD) (.cons (.int .i64) (.cons (.int .i64) (.cons (.sl true true yD) (.cons (.sl true true yE) .nil)))))) (.cons (.bcells 0 false 1 (.cons (.sl true true yD) (.cons (.sl true true yD) .nil))) .nil))⟩]
def qcl_L0 (n : Nat) : LEntry := ⟨qcl_h0, qcl_o0, qcl_W0 n⟩
def qcf_an : Ann := {}
def qcf_c : Code := (match Tryd.f50.body with | some c => c | none => .skip)
def qcf_a : StSh := ⟨.normal, [0, 1], (.cons (.agg (.cons (.int .i64) (.cons (.int .i64) (.cons (.int .i64) .nil)))) (.cons (.int .i64) .nil)), .nil⟩
def qcf_res : List StSh := [⟨.ret, [0], (.cons (.sl false false (.int .i64)) .nil), .nil⟩]
def qcf_tbl (n : Nat) : FuncId → List Entry := fun f => []
def qcf_loops (n : Nat) : Nat → Option LEntry := fun f => none
theorem qcf_run (n : Nat) (i_0 : Int) (i_0_1 : Int) (i_0_2 : Int) (pc_1 : Int) : funDS (real _) tab (qcf_tbl n) (qcf_loops n) qcf_an Tryd.f50 0 qcf_a qcf_res ((i_0, (i_0_1, i_0_2)), pc_1) some = qcf n i_0 i_0_1 i_0_2 pc_1 := by kernel_rfl
def qcf_E (n : Nat) : Entry := ⟨qcf_a, qcf_res, fun d => qcf n d.1.1 d.1.2.1 d.1.2.2 d.2⟩
theorem qcf_ok (n : Nat) : EOK Tryd.prog 50 (qcf_E n) :=
 EOK.ofS zc zd zf (tbl := qcf_tbl n) (loops := qcf_loops n) (an := qcf_an) (old := []) (n := n) (c := qcf_c) (fn := Tryd.f50) TblOK.nil (by kernel_rfl) (by kernel_rfl) (by kernel_rfl) (by kernel_rfl) (fun d => by kernel_rfl) LT.nil (fun a => qcf_run n a.1.1 a.1.2.1 a.1.2.2 a.2)
def qbf_an : Ann := { live := [(0, [0, 3, 9, 10, 11]), (2, [6, 25, 26, 27])], boxed := [(2, 0), (4, 2), (5, 0), (5, 1), (5, 4), (6, 0), (8, 1), (9, 0), (9, 2), (10, 0), (12, 2), (13, 0), (13, 1), (13, 2), (13, 3), (14, 1), (15, 0), (15, 1)], raw := [(9, 1)] }
def qbf_c : Code := (match Tryd.f52.body with | some c => c | none => .skip)
def qbf_l0 : Code := (match assoc 0 (loopsIn qbf_c 0) with | some c => c | none => .skip)
def qbf_l2 : Code := (match assoc 2 (loopsIn qbf_c 0) with | some c => c | none => .skip)
def qbf_a : StSh := ⟨.normal, [0], (.cons (.sl true false yA) .nil), .nil⟩
def qbf_h0 : List StSh := [⟨.normal, [0, 3, 9, 10, 11], (.cons (.sl true false yA) (.cons (.int .i64) (.cons (.sl true false yA) (.cons (.int .i64) (.cons (.int .i64) .nil))))), .nil⟩]
def qbf_o0 : List StSh := [⟨.exit 0, [0, 3], (.cons (.sl true false yA) (.cons (.int .i64) .nil)), .nil⟩]
def qbf_L0 (n : Nat) : LEntry := ⟨qbf_h0, qbf_o0, qbf_W0 n⟩
def qcg_an : Ann := { boxed := [(0, 0), (1, 0), (3, 0), (3, 1), (3, 3), (3, 7), (4, 0), (5, 0), (5, 1), (5, 4), (5, 5), (5, 6), (5, 9), (6, 0), (6, 1)] }
def qcg_c : Code := (match Tryd.f78.body with | some c => c | none => .skip)
def qcg_a : StSh := ⟨.normal, [0, 1], (.cons .nilS (.cons (.int .i64) .nil)), .nil⟩
def qcg_res : List StSh := [⟨.ret, [0], (.cons (.ms 0 0) .nil), (.cons (.bts 0 false false true yD) .nil)⟩, ⟨.ret, [0], (.cons .nilS .nil), .nil⟩]
def qcg_tbl (n : Nat) : FuncId → List Entry := fun f => []
def qcg_loops (n : Nat) : Nat → Option LEntry := fun f => none
theorem qcg_run (n : Nat) (n_1 : Int) : funD (real _) tab (qcg_tbl n) (qcg_loops n) qcg_an Tryd.f78 qcg_a qcg_res n_1 some = qcg n n_1 := by kernel_rfl
def qcg_E (n : Nat) : Entry := ⟨qcg_a, qcg_res, fun d => qcg n d⟩
theorem qcg_ok (n : Nat) : EOK Tryd.prog 78 (qcg_E n) :=
 EOK.of zc zd zf (tbl := qcg_tbl n) (loops := qcg_loops n) (an := qcg_an) (old := []) (n := n) (c := qcg_c) (fn := Tryd.f78) TblOK.nil (by kernel_rfl) (by kernel_rfl) (by kernel_rfl) (by kernel_rfl) (fun d => by kernel_rfl) LT.nil (fun a => qcg_run n a)
def qbf_h2x1 : List StSh := [⟨.normal, [6, 25, 26, 27], (.cons (.ms 0 0) (.cons (.sl true false yA) (.cons (.int .i64) (.cons (.int .i64) .nil)))), (.cons (.bts 0 false false true yD) .nil)⟩, ⟨.normal, [6, 25, 26, 27], (.cons (.msw 0 0) (.cons (.sl true false yA) (.cons (.int .i64) (.cons (.int .i64) .nil)))), (.cons (.bts 0 false false true yD) .nil)⟩, ⟨.normal, [6, 25, 26, 27], (.cons .nilS (.cons (.sl true false yA) (.cons (.int .i64) (.cons (.int .i64) .nil)))), .nil⟩]
def qbf_o2x1 : List StSh := [⟨.exit 2, [6], (.cons (.ms 0 0) .nil), (.cons (.bts 0 false false true yD) .nil)⟩, ⟨.exit 2, [6], (.cons (.msw 0 0) .nil), (.cons (.bts 0 false false true yD) .nil)⟩, ⟨.exit 2, [6], (.cons .nilS .nil), .nil⟩]
def qbf_L2x1 (n : Nat) : LEntry := ⟨qbf_h2x1, qbf_o2x1, qbf_W2x1 n⟩
def qbf_res : List StSh := [⟨.ret, [0], (.cons (.ms 0 0) .nil), (.cons (.bts 0 false false true yD) .nil)⟩, ⟨.ret, [0], (.cons (.sl false true yD) .nil), .nil⟩]
def qbf_tbl (n : Nat) : FuncId → List Entry := fun f => bif Nat.beq f 78 then [qcg_E n] else []
def qbf_loops (n : Nat) : Nat → Option LEntry := fun f => bif Nat.beq f 0 then some (qbf_L0 n) else bif Nat.beq f 2 then some (qbf_L2x1 n) else none
theorem qbf_r0 (n : Nat) (slices_0 : DH) (size_3 : Int) (t9 : DH) (t10 : Int) (t11 : Int) : roundK (real _) tab (qbf_tbl n) (qbf_loops n) qbf_an [] qbf_l0 0 [0, 3, 9, 10, 11] qbf_h0 qbf_o0 (slices_0, (size_3, (t9, (t10, t11)))) some = qbf_B0 n slices_0 size_3 t9 t10 t11 := by kernel_rfl
theorem qbf_f0 (n : Nat) : LoopFact tab (qbf_tbl n) (qbf_loops n) qbf_an [] n 0 qbf_l0 (qbf_L0 n) := ⟨[0, 3, 9, 10, 11], (fun s => qbf_B0 n s.1 s.2.1 s.2.2.1 s.2.2.2.1 s.2.2.2.2), by kernel_rfl, by kernel_rfl, fun s => rfl, fun s => qbf_r0 n s.1 s.2.1 s.2.2.1 s.2.2.2.1 s.2.2.2.2⟩
theorem qbf_r2x1q0 (n : Nat) (newslice_6 : Nat × Nat) (t25 : DH) (t26 : Int) (t27 : Int) (m0 : DA) : roundK (real _) tab (qbf_tbl n) (qbf_loops n) qbf_an [] qbf_l2 2 [6, 25, 26, 27] qbf_h2x1 qbf_o2x1 (Sum.inl ((newslice_6, (t25, (t26, t27))), m0)) some = qbf_B2x1q0 n newslice_6 t25 t26 t27 m0 := by kernel_rfl
theorem qbf_r2x1q1 (n : Nat) (t25 : DH) (t26 : Int) (t27 : Int) (m0 : DA) : roundK (real _) tab (qbf_tbl n) (qbf_loops n) qbf_an [] qbf_l2 2 [6, 25, 26, 27] qbf_h2x1 qbf_o2x1 (Sum.inr (Sum.inl ((t25, (t26, t27)), m0))) some = qbf_B2x1q1 n t25 t26 t27 m0 := by kernel_rfl
theorem qbf_r2x1q2 (n : Nat) (t25 : DH) (t26 : Int) (t27 : Int) : roundK (real _) tab (qbf_tbl n) (qbf_loops n) qbf_an [] qbf_l2 2 [6, 25, 26, 27] qbf_h2x1 qbf_o2x1 (Sum.inr (Sum.inr (t25, (t26, t27)))) some = qbf_B2x1q2 n t25 t26 t27 := by kernel_rfl
theorem qbf_f2x1 (n : Nat) : LoopFact tab (qbf_tbl n) (qbf_loops n) qbf_an [] n 2 qbf_l2 (qbf_L2x1 n) := ⟨[6, 25, 26, 27], (qbf_M2x1 n), by kernel_rfl, by kernel_rfl, fun s => rfl, fun s => match s with | (Sum.inl a0) => qbf_r2x1q0 n a0.1.1 a0.1.2.1 a0.1.2.2.1 a0.1.2.2.2 a0.2 | (Sum.inr (Sum.inl a1)) => qbf_r2x1q1 n a1.1.1 a1.1.2.1 a1.1.2.2 a1.2 | (Sum.inr (Sum.inr a2)) => qbf_r2x1q2 n a2.1 a2.2.1 a2.2.2⟩
theorem qbf_run (n : Nat) (slices_0 : DH) : funDS (real _) tab (qbf_tbl n) (qbf_loops n) qbf_an Tryd.f52 0 qbf_a qbf_res slices_0 some = qbf n slices_0 := by kernel_rfl
def qbf_E (n : Nat) : Entry := ⟨qbf_a, qbf_res, fun d => qbf n d⟩
theorem qbf_ok (n : Nat) : EOK Tryd.prog 52 (qbf_E n) :=
 EOK.ofS zc zd zf (tbl := qbf_tbl n) (loops := qbf_loops n) (an := qbf_an) (old := []) (n := n) (c := qbf_c) (fn := Tryd.f52) (TblOK.cons (AllE.cons (qcg_ok n) AllE.nil) TblOK.nil) (by kernel_rfl) (by kernel_rfl) (by kernel_rfl) (by kernel_rfl) (fun d => by kernel_rfl) (LT.cons (by kernel_rfl) (qbf_f0 n) (LT.cons (by kernel_rfl) (qbf_f2x1 n) LT.nil)) (fun a => qbf_run n a)
def qcj_an : Ann := {}
def qcj_c : Code := (match Tryd.f51.body with | some c => c | none => .skip)
def qcj_a : StSh := ⟨.normal, [0], (.cons (.sl true true yD) .nil), .nil⟩
def qcj_res : List StSh := [⟨.ret, [0], (.cons (.sl true true yD) .nil), .nil⟩]
def qcj_tbl (n : Nat) : FuncId → List Entry := fun f => []
def qcj_loops (n : Nat) : Nat → Option LEntry := fun f => none
theorem qcj_run (n : Nat) (s_0 : DA) : funDS (real _) tab (qcj_tbl n) (qcj_loops n) qcj_an Tryd.f51 0 qcj_a qcj_res s_0 some = qcj n s_0 := by kernel_rfl
def qcj_E (n : Nat) : Entry := ⟨qcj_a, qcj_res, fun d => qcj n d⟩
theorem qcj_ok (n : Nat) : EOK Tryd.prog 51 (qcj_E n) :=
 EOK.ofS zc zd zf (tbl := qcj_tbl n) (loops := qcj_loops n) (an := qcj_an) (old := []) (n := n) (c := qcj_c) (fn := Tryd.f51) TblOK.nil (by kernel_rfl) (by kernel_rfl) (by kernel_rfl) (by kernel_rfl) (fun d => by kernel_rfl) LT.nil (fun a => qcj_run n a)
def qcl_res : List StSh := [⟨.ret, [0], (.cons (.tup (.cons (.sl true true yD) (.cons (.sl false false (.int .i64)) (.cons (.int .i64) .nil)))) .nil), .nil⟩]
def qcl_tbl (n : Nat) : FuncId → List Entry := fun f => bif Nat.beq f 49 then [qct_E n] else bif Nat.beq f 37 then [qcp_E n] else bif Nat.beq f 50 then [qcf_E n] else bif Nat.beq f 52 then [qbf_E n] else bif Nat.beq f 51 then [qcj_E n] else []
def qcl_loops (n : Nat) : Nat → Option LEntry := fun f => bif Nat.beq f 0 then some (qcl_L0 n) else none
theorem qcl_r0 (n : Nat) (t2 : Int) (t3 : DA) (t14 : Int) (t55 : DA) (t56 : Int) (t57 : Int) (m0 : DA) (m0_1 : Int) (m0_2 : Int) (m0_3 : DA) (m0_4 : DB) (m1 : DA) (m1_1 : DA) : roundK (real _) tab (qcl_tbl n) (qcl_loops n) qcl_an [] qcl_l0 0 [2, 3, 11, 12, 14, 55, 56, 57] qcl_h0 qcl_o0 ((t2, (t3, (t14, (t55, (t56, t57))))), ((m0, (m0_1, (m0_2, (m0_3, m0_4)))), (m1, m1_1))) some = qcl_B0 n t2 t3 t14 t55 t56 t57 m0 m0_1 m0_2 m0_3 m0_4 m1 m1_1 := by kernel_rfl
theorem qcl_f0 (n : Nat) : LoopFact tab (qcl_tbl n) (qcl_loops n) qcl_an [] n 0 qcl_l0 (qcl_L0 n) := ⟨[2, 3, 11, 12, 14, 55, 56, 57], (fun s => qcl_B0 n s.1.1 s.1.2.1 s.1.2.2.1 s.1.2.2.2.1 s.1.2.2.2.2.1 s.1.2.2.2.2.2 s.2.1.1 s.2.1.2.1 s.2.1.2.2.1 s.2.1.2.2.2.1 s.2.1.2.2.2.2 s.2.2.1 s.2.2.2), by kernel_rfl, by kernel_rfl, fun s => rfl, fun s => qcl_r0 n s.1.1 s.1.2.1 s.1.2.2.1 s.1.2.2.2.1 s.1.2.2.2.2.1 s.1.2.2.2.2.2 s.2.1.1 s.2.1.2.1 s.2.1.2.2.1 s.2.1.2.2.2.1 s.2.1.2.2.2.2 s.2.2.1 s.2.2.2⟩
theorem qcl_run (n : Nat) (t0 : DH) (t0_1 : DI) (t0_2 : DJ) (t0_3 : DC) (t0_4 : DD) (t1 : Int) (t2 : Int) (t3 : DA) : funDS (real _) tab (qcl_tbl n) (qcl_loops n) qcl_an Tryd.f29 0 qcl_a qcl_res ((t0, (t0_1, (t0_2, (t0_3, t0_4)))), (t1, (t2, t3))) some = qcl n t0 t0_1 t0_2 t0_3 t0_4 t1 t2 t3 := by kernel_rfl
def qcl_E (n : Nat) : Entry := ⟨qcl_a, qcl_res, fun d => qcl n d.1.1 d.1.2.1 d.1.2.2.1 d.1.2.2.2.1 d.1.2.2.2.2 d.2.1 d.2.2.1 d.2.2.2⟩
theorem qcl_ok (n : Nat) : EOK Tryd.prog 29 (qcl_E n) :=
 EOK.ofS zc zd zf (tbl := qcl_tbl n) (loops := qcl_loops n) (an := qcl_an) (old := []) (n := n) (c := qcl_c) (fn := Tryd.f29) (TblOK.cons (AllE.cons (qct_ok n) AllE.nil) (TblOK.cons (AllE.cons (qcp_ok n) AllE.nil) (TblOK.cons (AllE.cons (qcf_ok n) AllE.nil) (TblOK.cons (AllE.cons (qbf_ok n) AllE.nil) (TblOK.cons (AllE.cons (qcj_ok n) AllE.nil) TblOK.nil))))) (by kernel_rfl) (by kernel_rfl) (by kernel_rfl) (by kernel_rfl) (fun d => by kernel_rfl) (LT.cons (by kernel_rfl) (qcl_f0 n) LT.nil) (fun a => qcl_run n a.1.1 a.1.2.1 a.1.2.2.1 a.1.2.2.2.1 a.1.2.2.2.2 a.2.1 a.2.2.1 a.2.2.2)
def qcd_res : List StSh := [⟨.ret, [0], (.cons (.tup (.cons (.sl true true yD) (.cons (.sl false false (.int .i64)) (.cons (.int .i64) .nil)))) .nil), .nil⟩]
def qcd_tbl (n : Nat) : FuncId → List Entry := fun f => bif Nat.beq f 28 then [qbv_E n] else bif Nat.beq f 29 then [qcl_E n] else []
def qcd_loops (n : Nat) : Nat → Option LEntry := fun f => none
theorem qcd_run (n : Nat) (m_0 : DH) (m_0_1 : DI) (m_0_2 : DJ) (m_0_3 : DC) (m_0_4 : DD) (f_1 : Int) (pc_2 : Int) (stack_3 : DA) : funDS (real _) tab (qcd_tbl n) (qcd_loops n) qcd_an Tryd.f14 0 qcd_a qcd_res ((m_0, (m_0_1, (m_0_2, (m_0_3, m_0_4)))), (f_1, (pc_2, stack_3))) some = qcd n m_0 m_0_1 m_0_2 m_0_3 m_0_4 f_1 pc_2 stack_3 := by kernel_rfl
def qcd_E (n : Nat) : Entry := ⟨qcd_a, qcd_res, fun d => qcd n d.1.1 d.1.2.1 d.1.2.2.1 d.1.2.2.2.1 d.1.2.2.2.2 d.2.1 d.2.2.1 d.2.2.2⟩
theorem qcd_ok (n : Nat) : EOK Tryd.prog 14 (qcd_E n) :=
 EOK.ofS zc zd zf (tbl := qcd_tbl n) (loops := qcd_loops n) (an := qcd_an) (old := []) (n := n) (c := qcd_c) (fn := Tryd.f14) (TblOK.cons (AllE.cons (qbv_ok n) AllE.nil) (TblOK.cons (AllE.cons (qcl_ok n) AllE.nil) TblOK.nil)) (by kernel_rfl) (by kernel_rfl) (by kernel_rfl) (by kernel_rfl) (fun d => by kernel_rfl) LT.nil (fun a => qcd_run n a.1.1 a.1.2.1 a.1.2.2.1 a.1.2.2.2.1 a.1.2.2.2.2 a.2.1 a.2.2.1 a.2.2.2)
def qaf_res : List StSh := [⟨.ret, [0], (.cons .bool .nil), .nil⟩]
def qaf_tbl (n : Nat) : FuncId → List Entry := fun f => bif Nat.beq f 14 then [qcd_E n] else []
def qaf_loops (n : Nat) : Nat → Option LEntry := fun f => none
theorem qaf_run (n : Nat) : funDS (real _) tab (qaf_tbl n) (qaf_loops n) qaf_an Tryd.f13 0 qaf_a qaf_res () some = qaf n := by kernel_rfl
def qaf_E (n : Nat) : Entry := ⟨qaf_a, qaf_res, fun d => qaf n⟩
theorem qaf_ok (n : Nat) : EOK Tryd.prog 13 (qaf_E n) :=
 EOK.ofS zc zd zf (tbl := qaf_tbl n) (loops := qaf_loops n) (an := qaf_an) (old := []) (n := n) (c := qaf_c) (fn := Tryd.f13) (TblOK.cons (AllE.cons (qcd_ok n) AllE.nil) TblOK.nil) (by kernel_rfl) (by kernel_rfl) (by kernel_rfl) (by kernel_rfl) (fun d => by kernel_rfl) LT.nil (fun a => qaf_run n)
def qat_an : Ann := { live := [(0, [0, 1, 5])] }
def qat_c : Code := (match Tryd.f15.body with | some c => c | none => .skip)
def qat_l0 : Code := (match assoc 0 (loopsIn qat_c 0) with | some c => c | none => .skip)
def qat_a : StSh := ⟨.normal, [0, 1], (.cons (.sl true true yD) (.cons (.sl true true yD) .nil)), .nil⟩
def qat_h0 : List StSh := [⟨.normal, [0, 1, 5], (.cons (.sl true true yD) (.cons (.sl true true yD) (.cons (.int .i64) .nil))), .nil⟩]
def qat_o0 : List StSh := [⟨.ret, [4], (.cons .bool .nil), .nil⟩, ⟨.exit 0, [], .nil, .nil⟩]
def qat_L0 (n : Nat) : LEntry := ⟨qat_h0, qat_o0, qat_W0 n⟩
def qat_res : List StSh := [⟨.ret, [0], (.cons .bool .nil), .nil⟩]
def qat_tbl (n : Nat) : FuncId → List Entry := fun f => []
def qat_loops (n : Nat) : Nat → Option LEntry := fun f => bif Nat.beq f 0 then some (qat_L0 n) else none
theorem qat_r0 (n : Nat) (a_0 : DA) (b_1 : DA) (i_5 : Int) : roundK (real _) tab (qat_tbl n) (qat_loops n) qat_an [] qat_l0 0 [0, 1, 5] qat_h0 qat_o0 (a_0, (b_1, i_5)) some = qat_B0 n a_0 b_1 i_5 := by kernel_rfl
theorem qat_f0 (n : Nat) : LoopFact tab (qat_tbl n) (qat_loops n) qat_an [] n 0 qat_l0 (qat_L0 n) := ⟨[0, 1, 5], (fun s => qat_B0 n s.1 s.2.1 s.2.2), by kernel_rfl, by kernel_rfl, fun s => rfl, fun s => qat_r0 n s.1 s.2.1 s.2.2⟩
theorem qat_run (n : Nat) (a_0 : DA) (b_1 : DA) : funDS (real _) tab (qat_tbl n) (qat_loops n) qat_an Tryd.f15 0 qat_a qat_res (a_0, b_1) some = qat n a_0 b_1 := by kernel_rfl
def qat_E (n : Nat) : Entry := ⟨qat_a, qat_res, fun d => qat n d.1 d.2⟩
theorem qat_ok (n : Nat) : EOK Tryd.prog 15 (qat_E n) :=
 EOK.ofS zc zd zf (tbl := qat_tbl n) (loops := qat_loops n) (an := qat_an) (old := []) (n := n) (c := qat_c) (fn := Tryd.f15) TblOK.nil (by kernel_rfl) (by kernel_rfl) (by kernel_rfl) (by kernel_rfl) (fun d => by kernel_rfl) (LT.cons (by kernel_rfl) (qat_f0 n) LT.nil) (fun a => qat_run n a.1 a.2)
def qba_an : Ann := { live := [(0, [1, 5]), (2, [1, 5, 6, 7]), (4, [1, 5, 6, 8]), (6, [1, 9]), (8, [1, 9, 10, 11])] }
def qba_c : Code := (match Tryd.f16.body with | some c => c | none => .skip)
def qba_l0 : Code := (match assoc 0 (loopsIn qba_c 0) with | some c => c | none => .skip)
def qba_l2 : Code := (match assoc 2 (loopsIn qba_c 0) with | some c => c | none => .skip)
def qba_l4 : Code := (match assoc 4 (loopsIn qba_c 0) with | some c => c | none => .skip)
def qba_l6 : Code := (match assoc 6 (loopsIn qba_c 0) with | some c => c | none => .skip)
def qba_l8 : Code := (match assoc 8 (loopsIn qba_c 0) with | some c => c | none => .skip)
def qba_a : StSh := ⟨.normal, [0], (.cons (.agg (.cons (.sl true false yA) (.cons (.sl true true yB) (.cons (.sl true true yC) (.cons (.sl true false (.int .u64)) (.cons (.sl true false .str) .nil)))))) .nil), .nil⟩
def qao_an : Ann := { live := [(0, [1, 4, 5, 6, 7]), (2, [1, 4, 5, 6, 10, 11]), (4, [1, 4, 5, 6, 10, 11, 12, 17]), (6, [1, 4, 5, 6, 10, 19, 20]), (8, [1, 5, 6, 10, 19, 23, 24]), (10, [1, 5, 6, 10, 19, 23, 25, 26])], boxed := [(10, 2), (21, 2), (21, 6), (21, 8), (21, 14), (28, 2), (35, 2), (35, 10), (40, 7), (46, 9), (46, 15)], raw := [(5, 2), (11, 4), (29, 4), (36, 4), (41, 4)] }
def qao_c : Code := (match Tryd.f30.body with | some c => c | none => .skip)
def qao_l0 : Code := (match assoc 0 (loopsIn qao_c 0) with | some c => c | none => .skip)
def qao_l2 : Code := (match assoc 2 (loopsIn qao_c 0) with | some c => c | none => .skip)
def qao_l4 : Code := (match assoc 4 (loopsIn qao_c 0) with | some c => c | none => .skip)
def qao_l6 : Code := (match assoc 6 (loopsIn qao_c 0) with | some c => c | none => .skip)
def qao_l8 : Code := (match assoc 8 (loopsIn qao_c 0) with | some c => c | none => .skip)
def qao_l10 : Code := (match assoc 10 (loopsIn qao_c 0) with | some c => c | none => .skip)
def qao_a : StSh := ⟨.normal, [0], (.cons (.agg (.cons (.sl true false yA) (.cons (.sl true true yB) (.cons (.sl true true yC) (.cons (.sl true false (.int .u64)) (.cons (.sl true false .str) .nil)))))) .nil), .nil⟩
def qcb_an : Ann := { boxed := [(0, 0), (2, 2), (3, 4), (3, 8)] }
def qcb_c : Code := (match Tryd.f53.body with | some c => c | none => .skip)
def qcb_a : StSh := ⟨.normal, [0], (.cons (.int .u64) .nil), .nil⟩
def qcb_res : List StSh := [⟨.ret, [0], (.cons (.msw 0 0) .nil), (.cons (.bts 0 false false false (.int .u8)) .nil)⟩]
def qcb_Ed (n d : Nat) : Entry := ⟨qcb_a, qcb_res, qcb_D n d⟩
def qcb_tbl (n d : Nat) : FuncId → List Entry := fun f => bif Nat.beq f 53 then [qcb_Ed n d] else []
def qcb_loops (n : Nat) : Nat → Option LEntry := fun f => none
theorem qcb_run (n d : Nat) (v_0 : Int) : funD (real _) tab (qcb_tbl n d) (qcb_loops n) qcb_an Tryd.f53 qcb_a qcb_res v_0 some = qcb_D n (d + 1) v_0 := by kernel_rfl
def qcb_E (n : Nat) : Entry := ⟨qcb_a, qcb_res, fun d => qcb n d⟩
theorem qcb_okd (n : Nat) (d : Nat) : EOK Tryd.prog 53 (qcb_Ed n d) :=
 Nat.rec (EOK.none (by kernel_rfl) fun _ => rfl) (fun d ih => EOK.of zc zd zf (tbl := qcb_tbl n d) (loops := qcb_loops n) (an := qcb_an) (old := []) (n := n) (c := qcb_c) (fn := Tryd.f53) (TblOK.cons (AllE.cons ih AllE.nil) TblOK.nil) (by kernel_rfl) (by kernel_rfl) (by kernel_rfl) (by kernel_rfl) (fun d => by kernel_rfl) LT.nil (fun a => qcb_run n d a)) d
theorem qcb_ok (n : Nat) : EOK Tryd.prog 53 (qcb_E n) := qcb_okd n n
def qai_an : Ann := { live := [(0, [0, 1, 2, 8, 9])], boxed := [(7, 6)], raw := [(1, 3)] }
def qai_c : Code := (match Tryd.f54.body with | some c => c | none => .skip)
def qai_l0 : Code := (match assoc 0 (loopsIn qai_c 0) with | some c => c | none => .skip)
def qai_a : StSh := ⟨.normal, [0, 1, 2], (.cons (.sl true true yD) (.cons (.int .i64) (.cons (.int .i64) .nil))), .nil⟩
def qbl_an : Ann := {}
def qbl_c : Code := (match Tryd.f55.body with | some c => c | none => .skip)
def qbl_a : StSh := ⟨.normal, [0, 1], (.cons (.agg (.cons (.int .i64) (.cons (.int .i64) .nil))) (.cons (.int .i64) .nil)), .nil⟩
def qbl_res : List StSh := [⟨.ret, [0], (.cons .bool .nil), .nil⟩]
def qbl_tbl (n : Nat) : FuncId → List Entry := fun f => []
def qbl_loops (n : Nat) : Nat → Option LEntry := fun f => none
theorem qbl_run (n : Nat) (t_0 : Int) (t_0_1 : Int) (recs_1 : Int) : funDS (real _) tab (qbl_tbl n) (qbl_loops n) qbl_an Tryd.f55 0 qbl_a qbl_res ((t_0, t_0_1), recs_1) some = qbl n t_0 t_0_1 recs_1 := by kernel_rfl
def qbl_E (n : Nat) : Entry := ⟨qbl_a, qbl_res, fun d => qbl n d.1.1 d.1.2 d.2⟩
theorem qbl_ok (n : Nat) : EOK Tryd.prog 55 (qbl_E n) :=
 EOK.ofS zc zd zf (tbl := qbl_tbl n) (loops := qbl_loops n) (an := qbl_an) (old := []) (n := n) (c := qbl_c) (fn := Tryd.f55) TblOK.nil (by kernel_rfl) (by kernel_rfl) (by kernel_rfl) (by kernel_rfl) (fun d => by kernel_rfl) LT.nil (fun a => qbl_run n a.1.1 a.1.2 a.2)
def qbk_an : Ann := { raw := [(6, 2)] }
def qbk_c : Code := (match Tryd.f56.body with | some c => c | none => .skip)
def qbk_a : StSh := ⟨.normal, [0], (.cons (.agg (.cons (.int .i64) (.cons (.int .i64) .nil))) .nil), .nil⟩
def qbk_res : List StSh := [⟨.ret, [0], (.cons (.sl false false (.int .u8)) .nil), .nil⟩]
def qbk_tbl (n : Nat) : FuncId → List Entry := fun f => bif Nat.beq f 53 then [qcb_E n] else []
def qbk_loops (n : Nat) : Nat → Option LEntry := fun f => none
theorem qbk_run (n : Nat) (t_0 : Int) (t_0_1 : Int) : funDS (real _) tab (qbk_tbl n) (qbk_loops n) qbk_an Tryd.f56 0 qbk_a qbk_res (t_0, t_0_1) some = qbk n t_0 t_0_1 := by kernel_rfl
def qbk_E (n : Nat) : Entry := ⟨qbk_a, qbk_res, fun d => qbk n d.1 d.2⟩
theorem qbk_ok (n : Nat) : EOK Tryd.prog 56 (qbk_E n) :=
 EOK.ofS zc zd zf (tbl := qbk_tbl n) (loops := qbk_loops n) (an := qbk_an) (old := []) (n := n) (c := qbk_c) (fn := Tryd.f56) (TblOK.cons (AllE.cons (qcb_ok n) AllE.nil) TblOK.nil) (by kernel_rfl) (by kernel_rfl) (by kernel_rfl) (by kernel_rfl) (fun d => by kernel_rfl) LT.nil (fun a => qbk_run n a.1 a.2)
def qai_h0 : List StSh := [⟨.normal, [0, 1, 2, 8, 9], (.cons (.sl true true yD) (.cons (.int .i64) (.cons (.int .i64) (.cons (.msw 0 0) (.cons (.int .i64) .nil))))), (.cons (.bts 0 false false false (.int .u8)) .nil)⟩]
def qai_o0 : List StSh := [⟨.ret, [6, 7], (.cons (.sl false false (.int .u8)) (.cons .bool .nil)), (.cons (.bts 0 false false false (.int .u8)) .nil)⟩, ⟨.exit 0, [0, 2, 8], (.cons (.sl true true yD) (.cons (.int .i64) (.cons (.msw 0 0) .nil))), (.cons (.bts 0 false false false (.int .u8)) .nil)⟩]
def qai_L0 (n : Nat) : LEntry := ⟨qai_h0, qai_o0, qai_W0 n⟩
def qai_res : List StSh := [⟨.ret, [0], (.cons (.tup (.cons (.sl false false (.int .u8)) (.cons .bool .nil))) .nil), .nil⟩]
def qai_tbl (n : Nat) : FuncId → List Entry := fun f => bif Nat.beq f 53 then [qcb_E n] else bif Nat.beq f 55 then [qbl_E n] else bif Nat.beq f 56 then [qbk_E n] else []
def qai_loops (n : Nat) : Nat → Option LEntry := fun f => bif Nat.beq f 0 then some (qai_L0 n) else none
theorem qai_r0 (n : Nat) (l_0 : DA) (recs_1 : Int) (most_2 : Int) (i_9 : Int) (m0 : DC) : roundK (real _) tab (qai_tbl n) (qai_loops n) qai_an [] qai_l0 0 [0, 1, 2, 8, 9] qai_h0 qai_o0 ((l_0, (recs_1, (most_2, i_9))), m0) some = qai_B0 n l_0 recs_1 most_2 i_9 m0 := by kernel_rfl
theorem qai_f0 (n : Nat) : LoopFact tab (qai_tbl n) (qai_loops n) qai_an [] n 0 qai_l0 (qai_L0 n) := ⟨[0, 1, 2, 8, 9], (fun s => qai_B0 n s.1.1 s.1.2.1 s.1.2.2.1 s.1.2.2.2 s.2), by kernel_rfl, by kernel_rfl, fun s => rfl, fun s => qai_r0 n s.1.1 s.1.2.1 s.1.2.2.1 s.1.2.2.2 s.2⟩
theorem qai_run (n : Nat) (l_0 : DA) (recs_1 : Int) (most_2 : Int) : funDS (real _) tab (qai_tbl n) (qai_loops n) qai_an Tryd.f54 0 qai_a qai_res (l_0, (recs_1, most_2)) some = qai n l_0 recs_1 most_2 := by kernel_rfl
def qai_E (n : Nat) : Entry := ⟨qai_a, qai_res, fun d => qai n d.1 d.2.1 d.2.2⟩
theorem qai_ok (n : Nat) : EOK Tryd.prog 54 (qai_E n) :=
 EOK.ofS zc zd zf (tbl := qai_tbl n) (loops := qai_loops n) (an := qai_an) (old := []) (n := n) (c := qai_c) (fn := Tryd.f54) (TblOK.cons (AllE.cons (qcb_ok n) AllE.nil) (TblOK.cons (AllE.cons (qbl_ok n) AllE.nil) (TblOK.cons (AllE.cons (qbk_ok n) AllE.nil) TblOK.nil))) (by kernel_rfl) (by kernel_rfl) (by kernel_rfl) (by kernel_rfl) (fun d => by kernel_rfl) (LT.cons (by kernel_rfl) (qai_f0 n) LT.nil) (fun a => qai_run n a.1 a.2.1 a.2.2)
def qao_h0 : List StSh := [⟨.normal, [1, 4, 5, 6, 7], (.cons (.ptr 0 0 0 0) (.cons (.int .i64) (.cons .bool (.cons (.msw 1 0) (.cons (.int .i64) .nil))))), (.cons (.bcells 0 false 1 (.cons (.sl true false yA) (.cons (.sl true true yB) (.cons (.sl true true yC) (.cons (.sl true false (.int .u64)) (.cons (.sl true false .str) .nil)))))) (.cons (.bts 0 false false false (.int .u8)) .nil))⟩]
def qao_o0 : List StSh := [⟨.exit 0, [1, 4, 5, 6], (.cons (.ptr 0 0 0 0) (.cons (.int .i64) (.cons .bool (.cons (.msw 1 0) .nil)))), (.cons (.bcells 0 false 1 (.cons (.sl true false yA) (.cons (.sl true true yB) (.cons (.sl true true yC) (.cons (.sl true false (.int .u64)) (.cons (.sl true false .str) .nil)))))) (.cons (.bts 0 false false false (.int .u8)) .nil))⟩]
def qao_L0 (n : Nat) : LEntry := ⟨qao_h0, qao_o0, qao_W0 n⟩
def qas_an : Ann := { boxed := [(4, 3), (6, 5), (8, 5)] }
def qas_c : Code := (match Tryd.f57.body with | some c => c | none => .skip)
def qas_a : StSh := ⟨.normal, [0], (.cons (.agg (.cons (.int .i64) (.cons (.int .i64) (.cons (.int .i64) .nil)))) .nil), .nil⟩
def qbn_an : Ann := { live := [(0, [0, 3, 4])] }
def qbn_c : Code := (match Tryd.f79.body with | some c => c | none => .skip)
def qbn_l0 : Code := (match assoc 0 (loopsIn qbn_c 0) with | some c => c | none => .skip)
def qbn_a : StSh := ⟨.normal, [0], (.cons (.int .i64) .nil), .nil⟩
def qbn_h0 : List StSh := [⟨.normal, [0, 3, 4], (.cons (.int .i64) (.cons (.sl false false (.int .i64)) (.cons (.int .i64) .nil))), .nil⟩]
def qbn_o0 : List StSh := [⟨.ret, [2], (.cons (.int .i64) .nil), .nil⟩, ⟨.exit 0, [], .nil, .nil⟩]
def qbn_L0 (n : Nat) : LEntry := ⟨qbn_h0, qbn_o0, qbn_W0 n⟩
def qbn_res : List StSh := [⟨.ret, [0], (.cons (.int .i64) .nil), .nil⟩]
def qbn_tbl (n : Nat) : FuncId → List Entry := fun f => []
def qbn_loops (n : Nat) : Nat → Option LEntry := fun f => bif Nat.beq f 0 then some (qbn_L0 n) else none
theorem qbn_r0 (n : Nat) (op_0 : Int) (l_3 : DC) (i_4 : Int) : roundK (real _) tab (qbn_tbl n) (qbn_loops n) qbn_an [] qbn_l0 0 [0, 3, 4] qbn_h0 qbn_o0 (op_0, (l_3, i_4)) some = qbn_B0 n op_0 l_3 i_4 := by kernel_rfl
theorem qbn_f0 (n : Nat) : LoopFact tab (qbn_tbl n) (qbn_loops n) qbn_an [] n 0 qbn_l0 (qbn_L0 n) := ⟨[0, 3, 4], (fun s => qbn_B0 n s.1 s.2.1 s.2.2), by kernel_rfl, by kernel_rfl, fun s => rfl, fun s => qbn_r0 n s.1 s.2.1 s.2.2⟩
theorem qbn_run (n : Nat) (op_0 : Int) : funDS (real _) tab (qbn_tbl n) (qbn_loops n) qbn_an Tryd.f79 0 qbn_a qbn_res op_0 some = qbn n op_0 := by kernel_rfl
def qbn_E (n : Nat) : Entry := ⟨qbn_a, qbn_res, fun d => qbn n d⟩
theorem qbn_ok (n : Nat) : EOK Tryd.prog 79 (qbn_E n) :=
 EOK.ofS zc zd zf (tbl := qbn_tbl n) (loops := qbn_loops n) (an := qbn_an) (old := []) (n := n) (c := qbn_c) (fn := Tryd.f79) TblOK.nil (by kernel_rfl) (by kernel_rfl) (by kernel_rfl) (by kernel_rfl) (fun d => by kernel_rfl) (LT.cons (by kernel_rfl) (qbn_f0 n) LT.nil) (fun a => qbn_run n a)
def qas_res : List StSh := [⟨.ret, [0], (.cons (.sl false false (.int .u8)) .nil), .nil⟩]
def qas_tbl (n : Nat) : FuncId → List Entry := fun f => bif Nat.beq f 79 then [qbn_E n] else bif Nat.beq f 53 then [qcb_E n] else []
def qas_loops (n : Nat) : Nat → Option LEntry := fun f => none
theorem qas_run (n : Nat) (t0 : Int) (t0_1 : Int) (t0_2 : Int) : funDS (real _) tab (qas_tbl n) (qas_loops n) qas_an Tryd.f57 0 qas_a qas_res (t0, (t0_1, t0_2)) some = qas n t0 t0_1 t0_2 := by kernel_rfl
def qas_E (n : Nat) : Entry := ⟨qas_a, qas_res, fun d => qas n d.1 d.2.1 d.2.2⟩
theorem qas_ok (n : Nat) : EOK Tryd.prog 57 (qas_E n) :=
 EOK.ofS zc zd zf (tbl := qas_tbl n) (loops := qas_loops n) (an := qas_an) (old := []) (n := n) (c := qas_c) (fn := Tryd.f57) (TblOK.cons (AllE.cons (qbn_ok n) AllE.nil) (TblOK.cons (AllE.cons (qcb_ok n) AllE.nil) TblOK.nil)) (by kernel_rfl) (by kernel_rfl) (by kernel_rfl) (by kernel_rfl) (fun d => by kernel_rfl) LT.nil (fun a => qas_run n a.1 a.2.1 a.2.2)
def qao_h4 : List StSh := [⟨.normal, [1, 4, 5, 6, 10, 11, 12, 17], (.cons (.ptr 0 0 0 0) (.cons (.int .i64) (.cons .bool (.cons (.msw 1 0) (.cons (.msw 2 0) (.cons (.int .i64) (.cons (.ptr 3 0 0 0) (.cons (.int .i64) .nil)))))))), (.cons (.bcells 0 false 1 (.cons (.sl true false yA) (.cons (.sl true true yB) (.cons (.sl true true yC) (.cons (.sl true false (.int .u64)) (.cons (.sl true false .str) .nil)))))) (.cons (.bts 0 false false false (.int .u8)) (.cons (.bts 0 false false false (.int .u8)) (.cons (.bcells 0 false 1 (.cons (.sl true true yD) (.cons (.int .i64) (.cons (.int .i64) (.cons (.sl true true yD) (.cons (.sl true true yE) .nil)))))) .nil))))⟩]
def qao_o4 : List StSh := [⟨.ret, [2, 3], (.cons (.sl false false (.int .u8)) (.cons .bool .nil)), (.cons (.bcells 0 false 1 (.cons (.sl true false yA) (.cons (.sl true true yB) (.cons (.sl true true yC) (.cons (.sl true false (.int .u64)) (.cons (.sl true false .str) .nil)))))) (.cons (.bts 0 false false false (.int .u8)) (.cons (.bts 0 false false false (.int .u8)) (.cons (.bcells 0 false 1 (.cons (.sl true true yD) (.cons (.int .i64) (.cons (.int .i64) (.cons (.sl true true yD) (.cons (.sl true true yE) .nil)))))) .nil))))⟩, ⟨.exit 4, [1, 4, 5, 6, 10, 11], (.cons (.ptr 0 0 0 0) (.cons (.int .i64) (.cons .bool (.cons (.msw 1 0) (.cons (.msw 2 0) (.cons (.int .i64) .nil)))))), (.cons (.bcells 0 false 1 (.cons (.sl true false yA) (.cons (.sl true true yB) (.cons (.sl true true yC) (.cons (.sl true false (.int .u64)) (.cons (.sl true false .str) .nil)))))) (.cons (.bts 0 false false false (.int .u8)) (.cons (.bts 0 false false false (.int .u8)) (.cons (.bcells 0 false 1 (.cons (.sl true true yD) (.cons (.int .i64) (.cons (.int .i64) (.cons (.sl true true yD) (.cons (.sl true true yE) .nil)))))) .nil))))⟩]
def qao_L4 (n : Nat) : LEntry := ⟨qao_h4, qao_o4, qao_W4 n⟩
def qao_h2 : List StSh := [⟨.normal, [1, 4, 5, 6, 10, 11], (.cons (.ptr 0 0 0 0) (.cons (.int .i64) (.cons .bool (.cons (.msw 1 0) (.cons (.msw 2 0) (.cons (.int .i64) .nil)))))), (.cons (.bcells 0 false 1 (.cons (.sl true false yA) (.cons (.sl true true yB) (.cons (.sl true true yC) (.cons (.sl true false (.int .u64)) (.cons (.sl true false .str) .nil)))))) (.cons (.bts 0 false false false (.int .u8)) (.cons (.bts 0 false false false (.int .u8)) .nil)))⟩]
def qao_o2 : List StSh := [⟨.ret, [2, 3], (.cons (.sl false false (.int .u8)) (.cons .bool .nil)), (.cons (.bcells 0 false 1 (.cons (.sl true false yA) (.cons (.sl true true yB) (.cons (.sl true true yC) (.cons (.sl true false (.int .u64)) (.cons (.sl true false .str) .nil)))))) (.cons (.bts 0 false false false (.int .u8)) (.cons (.bts 0 false false false (.int .u8)) (.cons (.bcells 0 false 1 (.cons (.sl true true yD) (.cons (.int .i64) (.cons (.int .i64) (.cons (.sl true true yD) (.cons (.sl true true yE) .nil)))))) .nil))))⟩, ⟨.exit 2, [1, 4, 5, 6, 10], (.cons (.ptr 0 0 0 0) (.cons (.int .i64) (.cons .bool (.cons (.msw 1 0) (.cons (.msw 2 0) .nil))))), (.cons (.bcells 0 false 1 (.cons (.sl true false yA) (.cons (.sl true true yB) (.cons (.sl true true yC) (.cons (.sl true false (.int .u64)) (.cons (.sl true false .str) .nil)))))) (.cons (.bts 0 false false false (.int .u8)) (.cons (.bts 0 false false false (.int .u8)) .nil)))⟩]
def qao_L2 (n : Nat) : LEntry := ⟨qao_h2, qao_o2, qao_W2 n⟩
def qao_h6 : List StSh := [⟨.normal, [1, 4, 5, 6, 10, 19, 20], (.cons (.ptr 0 0 0 0) (.cons (.int .i64) (.cons .bool (.cons (.msw 1 0) (.cons (.msw 2 0) (.cons (.msw 3 0) (.cons (.int .i64) .nil))))))), (.cons (.bcells 0 false 1 (.cons (.sl true false yA) (.cons (.sl true true yB) (.cons (.sl true true yC) (.cons (.sl true false (.int .u64)) (.cons (.sl true false .str) .nil)))))) (.cons (.bts 0 false false false (.int .u8)) (.cons (.bts 0 false false false (.int .u8)) (.cons (.bts 0 false false false (.int .u8)) .nil))))⟩]
def qao_o6 : List StSh := [⟨.exit 6, [1, 5, 6, 10, 19], (.cons (.ptr 0 0 0 0) (.cons .bool (.cons (.msw 1 0) (.cons (.msw 2 0) (.cons (.msw 3 0) .nil))))), (.cons (.bcells 0 false 1 (.cons (.sl true false yA) (.cons (.sl true true yB) (.cons (.sl true true yC) (.cons (.sl true false (.int .u64)) (.cons (.sl true false .str) .nil)))))) (.cons (.bts 0 false false false (.int .u8)) (.cons (.bts 0 false false false (.int .u8)) (.cons (.bts 0 false false false (.int .u8)) .nil))))⟩]
def qao_L6 (n : Nat) : LEntry := ⟨qao_h6, qao_o6, qao_W6 n⟩
def qbb_an : Ann := { live := [(0, [0, 1, 5, 6])], boxed := [(1, 0), (5, 5)] }
def qbb_c : Code := (match Tryd.f58.body with | some c => c | none => .skip)
def qbb_l0 : Code := (match assoc 0 (loopsIn qbb_c 0) with | some c => c | none => .skip)
def qbb_a : StSh := ⟨.normal, [0, 1], (.cons (.int .u64) (.cons (.int .i64) .nil)), .nil⟩
def qbb_h0 : List StSh := [⟨.normal, [0, 1, 5, 6], (.cons (.int .u64) (.cons (.int .i64) (.cons (.msw 0 0) (.cons (.int .i64) .nil)))), (.cons (.bts 0 false false false (.int .u8)) .nil)⟩]
def qbb_o0 : List StSh := [⟨.exit 0, [5], (.cons (.msw 0 0) .nil), (.cons (.bts 0 false false false (.int .u8)) .nil)⟩]
def qbb_L0 (n : Nat) : LEntry := ⟨qbb_h0, qbb_o0, qbb_W0 n⟩
def qbb_res : List StSh := [⟨.ret, [0], (.cons (.sl false false (.int .u8)) .nil), .nil⟩]
def qbb_tbl (n : Nat) : FuncId → List Entry := fun f => []
def qbb_loops (n : Nat) : Nat → Option LEntry := fun f => bif Nat.beq f 0 then some (qbb_L0 n) else none
theorem qbb_r0 (n : Nat) (v_0 : Int) (n_1 : Int) (k_6 : Int) (m0 : DC) : roundK (real _) tab (qbb_tbl n) (qbb_loops n) qbb_an [] qbb_l0 0 [0, 1, 5, 6] qbb_h0 qbb_o0 ((v_0, (n_1, k_6)), m0) some = qbb_B0 n v_0 n_1 k_6 m0 := by kernel_rfl
theorem qbb_f0 (n : Nat) : LoopFact tab (qbb_tbl n) (qbb_loops n) qbb_an [] n 0 qbb_l0 (qbb_L0 n) := ⟨[0, 1, 5, 6], (fun s => qbb_B0 n s.1.1 s.1.2.1 s.1.2.2 s.2), by kernel_rfl, by kernel_rfl, fun s => rfl, fun s => qbb_r0 n s.1.1 s.1.2.1 s.1.2.2 s.2⟩
theorem qbb_run (n : Nat) (v_0 : Int) (n_1 : Int) : funDS (real _) tab (qbb_tbl n) (qbb_loops n) qbb_an Tryd.f58 0 qbb_a qbb_res (v_0, n_1) some = qbb n v_0 n_1 := by kernel_rfl
def qbb_E (n : Nat) : Entry := ⟨qbb_a, qbb_res, fun d => qbb n d.1 d.2⟩
theorem qbb_ok (n : Nat) : EOK Tryd.prog 58 (qbb_E n) :=
 EOK.ofS zc zd zf (tbl := qbb_tbl n) (loops := qbb_loops n) (an := qbb_an) (old := []) (n := n) (c := qbb_c) (fn := Tryd.f58) TblOK.nil (by kernel_rfl) (by kernel_rfl) (by kernel_rfl) (by kernel_rfl) (fun d => by kernel_rfl) (LT.cons (by kernel_rfl) (qbb_f0 n) LT.nil) (fun a => qbb_run n a.1 a.2)
def qao_h8 : List StSh := [⟨.normal, [1, 5, 6, 10, 19, 23, 24], (.cons (.ptr 0 0 0 0) (.cons .bool (.cons (.msw 1 0) (.cons (.msw 2 0) (.cons (.msw 3 0) (.cons (.msw 4 0) (.cons (.int .i64) .nil))))))), (.cons (.bcells 0 false 1 (.cons (.sl true false yA) (.cons (.sl true true yB) (.cons (.sl true true yC) (.cons (.sl true false (.int .u64)) (.cons (.sl true false .str) .nil)))))) (.cons (.bts 0 false false false (.int .u8)) (.cons (.bts 0 false false false (.int .u8)) (.cons (.bts 0 false false false (.int .u8)) (.cons (.bts 0 false false false (.int .u8)) .nil)))))⟩]
def qao_o8 : List StSh := [⟨.exit 8, [1, 5, 6, 10, 19, 23], (.cons (.ptr 0 0 0 0) (.cons .bool (.cons (.msw 1 0) (.cons (.msw 2 0) (.cons (.msw 3 0) (.cons (.msw 4 0) .nil)))))), (.cons (.bcells 0 false 1 (.cons (.sl true false yA) (.cons (.sl true true yB) (.cons (.sl true true yC) (.cons (.sl true false (.int .u64)) (.cons (.sl true false .str) .nil)))))) (.cons (.bts 0 false false false (.int .u8)) (.cons (.bts 0 false false false (.int .u8)) (.cons (.bts 0 false false false (.int .u8)) (.cons (.bts 0 false false false (.int .u8)) .nil)))))⟩]
def qao_L8 (n : Nat) : LEntry := ⟨qao_h8, qao_o8, qao_W8 n⟩
def qao_h10 : List StSh := [⟨.normal, [1, 5, 6, 10, 19, 23, 25, 26], (.cons (.ptr 0 0 0 0) (.cons .bool (.cons (.msw 1 0) (.cons (.msw 2 0) (.cons (.msw 3 0) (.cons (.msw 4 0) (.cons (.msw 5 0) (.cons (.int .i64) .nil)))))))), (.cons (.bcells 0 false 1 (.cons (.sl true false yA) (.cons (.sl true true yB) (.cons (.sl true true yC) (.cons (.sl true false (.int .u64)) (.cons (.sl true false .str) .nil)))))) (.cons (.bts 0 false false false (.int .u8)) (.cons (.bts 0 false false false (.int .u8)) (.cons (.bts 0 false false false (.int .u8)) (.cons (.bts 0 false false false (.int .u8)) (.cons (.bts 0 false false false (.int .u8)) .nil))))))⟩]
def qao_o10 : List StSh := [⟨.exit 10, [5, 6, 10, 19, 23, 25], (.cons .bool (.cons (.msw 1 0) (.cons (.msw 2 0) (.cons (.msw 3 0) (.cons (.msw 4 0) (.cons (.msw 5 0) .nil)))))), (.cons (.bcells 0 false 1 (.cons (.sl true false yA) (.cons (.sl true true yB) (.cons (.sl true true yC) (.cons (.sl true false (.int .u64)) (.cons (.sl true false .str) .nil)))))) (.cons (.bts 0 false false false (.int .u8)) (.cons (.bts 0 false false false (.int .u8)) (.cons (.bts 0 false false false (.int .u8)) (.cons (.bts 0 false false false (.int .u8)) (.cons (.bts 0 false false false (.int .u8)) .nil))))))⟩]
def qao_L10 (n : Nat) : LEntry := ⟨qao_h10, qao_o10, qao_W10 n⟩
def qbh_an : Ann := { live := [(0, [0, 3, 4])], boxed := [(5, 8), (5, 13)], raw := [(1, 3)] }
def qbh_c : Code := (match Tryd.f59.body with | some c => c | none => .skip)
def qbh_l0 : Code := (match assoc 0 (loopsIn qbh_c 0) with | some c => c | none => .skip)
def qbh_a : StSh := ⟨.normal, [0], (.cons (.sl true false yF) .nil), .nil⟩
def qbh_h0 : List StSh := [⟨.normal, [0, 3, 4], (.cons (.sl true false yF) (.cons (.msw 0 0) (.cons (.int .i64) .nil))), (.cons (.bts 0 false false false (.int .u8)) .nil)⟩]
def qbh_o0 : List StSh := [⟨.exit 0, [3], (.cons (.msw 0 0) .nil), (.cons (.bts 0 false false false (.int .u8)) .nil)⟩]
def qbh_L0 (n : Nat) : LEntry := ⟨qbh_h0, qbh_o0, qbh_W0 n⟩
def qbh_res : List StSh := [⟨.ret, [0], (.cons (.sl false false (.int .u8)) .nil), .nil⟩]
def qbh_tbl (n : Nat) : FuncId → List Entry := fun f => bif Nat.beq f 53 then [qcb_E n] else []
def qbh_loops (n : Nat) : Nat → Option LEntry := fun f => bif Nat.beq f 0 then some (qbh_L0 n) else none
theorem qbh_r0 (n : Nat) (l_0 : DK) (i_4 : Int) (m0 : DC) : roundK (real _) tab (qbh_tbl n) (qbh_loops n) qbh_an [] qbh_l0 0 [0, 3, 4] qbh_h0 qbh_o0 ((l_0, i_4), m0) some = qbh_B0 n l_0 i_4 m0 := by kernel_rfl
theorem qbh_f0 (n : Nat) : LoopFact tab (qbh_tbl n) (qbh_loops n) qbh_an [] n 0 qbh_l0 (qbh_L0 n) := ⟨[0, 3, 4], (fun s => qbh_B0 n s.1.1 s.1.2 s.2), by kernel_rfl, by kernel_rfl, fun s => rfl, fun s => qbh_r0 n s.1.1 s.1.2 s.2⟩
theorem qbh_run (n : Nat) (l_0 : DK) : funDS (real _) tab (qbh_tbl n) (qbh_loops n) qbh_an Tryd.f59 0 qbh_a qbh_res l_0 some = qbh n l_0 := by kernel_rfl
def qbh_E (n : Nat) : Entry := ⟨qbh_a, qbh_res, fun d => qbh n d⟩
theorem qbh_ok (n : Nat) : EOK Tryd.prog 59 (qbh_E n) :=
 EOK.ofS zc zd zf (tbl := qbh_tbl n) (loops := qbh_loops n) (an := qbh_an) (old := []) (n := n) (c := qbh_c) (fn := Tryd.f59) (TblOK.cons (AllE.cons (qcb_ok n) AllE.nil) TblOK.nil) (by kernel_rfl) (by kernel_rfl) (by kernel_rfl) (by kernel_rfl) (fun d => by kernel_rfl) (LT.cons (by kernel_rfl) (qbh_f0 n) LT.nil) (fun a => qbh_run n a)
def qao_res : List StSh := [⟨.ret, [0], (.cons (.tup (.cons (.sl false false (.int .u8)) (.cons .bool .nil))) .nil), .nil⟩]
def qao_tbl (n : Nat) : FuncId → List Entry := fun f => bif Nat.beq f 53 then [qcb_E n] else bif Nat.beq f 54 then [qai_E n] else bif Nat.beq f 55 then [qbl_E n] else bif Nat.beq f 56 then [qbk_E n] else bif Nat.beq f 57 then [qas_E n] else bif Nat.beq f 58 then [qbb_E n] else bif Nat.beq f 59 then [qbh_E n] else []
def qao_loops (n : Nat) : Nat → Option LEntry := fun f => bif Nat.beq f 0 then some (qao_L0 n) else bif Nat.beq f 4 then some (qao_L4 n) else bif Nat.beq f 2 then some (qao_L2 n) else bif Nat.beq f 6 then some (qao_L6 n) else bif Nat.beq f 8 then some (qao_L8 n) else bif Nat.beq f 10 then some (qao_L10 n) else none
theorem qao_r0 (n : Nat) (t4 : Int) (t5 : Bool) (t7 : Int) (m0 : DH) (m0_1 : DI) (m0_2 : DJ) (m0_3 : DC) (m0_4 : DD) (m1 : DC) : roundK (real _) tab (qao_tbl n) (qao_loops n) qao_an [] qao_l0 0 [1, 4, 5, 6, 7] qao_h0 qao_o0 ((t4, (t5, t7)), ((m0, (m0_1, (m0_2, (m0_3, m0_4)))), m1)) some = qao_B0 n t4 t5 t7 m0 m0_1 m0_2 m0_3 m0_4 m1 := by kernel_rfl
theorem qao_f0 (n : Nat) : LoopFact tab (qao_tbl n) (qao_loops n) qao_an [] n 0 qao_l0 (qao_L0 n) := ⟨[1, 4, 5, 6, 7], (fun s => qao_B0 n s.1.1 s.1.2.1 s.1.2.2 s.2.1.1 s.2.1.2.1 s.2.1.2.2.1 s.2.1.2.2.2.1 s.2.1.2.2.2.2 s.2.2), by kernel_rfl, by kernel_rfl, fun s => rfl, fun s => qao_r0 n s.1.1 s.1.2.1 s.1.2.2 s.2.1.1 s.2.1.2.1 s.2.1.2.2.1 s.2.1.2.2.2.1 s.2.1.2.2.2.2 s.2.2⟩
theorem qao_r4 (n : Nat) (t4 : Int) (t5 : Bool) (t11 : Int) (t17 : Int) (m0 : DH) (m0_1 : DI) (m0_2 : DJ) (m0_3 : DC) (m0_4 : DD) (m1 : DC) (m2 : DC) (m3 : DA) (m3_1 : Int) (m3_2 : Int) (m3_3 : DA) (m3_4 : DB) : roundK (real _) tab (qao_tbl n) (qao_loops n) qao_an [] qao_l4 4 [1, 4, 5, 6, 10, 11, 12, 17] qao_h4 qao_o4 ((t4, (t5, (t11, t17))), ((m0, (m0_1, (m0_2, (m0_3, m0_4)))), (m1, (m2, (m3, (m3_1, (m3_2, (m3_3, m3_4)))))))) some = qao_B4 n t4 t5 t11 t17 m0 m0_1 m0_2 m0_3 m0_4 m1 m2 m3 m3_1 m3_2 m3_3 m3_4 := by kernel_rfl
theorem qao_f4 (n : Nat) : LoopFact tab (qao_tbl n) (qao_loops n) qao_an [] n 4 qao_l4 (qao_L4 n) := ⟨[1, 4, 5, 6, 10, 11, 12, 17], (fun s => qao_B4 n s.1.1 s.1.2.1 s.1.2.2.1 s.1.2.2.2 s.2.1.1 s.2.1.2.1 s.2.1.2.2.1 s.2.1.2.2.2.1 s.2.1.2.2.2.2 s.2.2.1 s.2.2.2.1 s.2.2.2.2.1 s.2.2.2.2.2.1 s.2.2.2.2.2.2.1 s.2.2.2.2.2.2.2.1 s.2.2.2.2.2.2.2.2), by kernel_rfl, by kernel_rfl, fun s => rfl, fun s => qao_r4 n s.1.1 s.1.2.1 s.1.2.2.1 s.1.2.2.2 s.2.1.1 s.2.1.2.1 s.2.1.2.2.1 s.2.1.2.2.2.1 s.2.1.2.2.2.2 s.2.2.1 s.2.2.2.1 s.2.2.2.2.1 s.2.2.2.2.2.1 s.2.2.2.2.2.2.1 s.2.2.2.2.2.2.2.1 s.2.2.2.2.2.2.2.2⟩
theorem qao_r2 (n : Nat) (t4 : Int) (t5 : Bool) (t11 : Int) (m0 : DH) (m0_1 : DI) (m0_2 : DJ) (m0_3 : DC) (m0_4 : DD) (m1 : DC) (m2 : DC) : roundK (real _) tab (qao_tbl n) (qao_loops n) qao_an [] qao_l2 2 [1, 4, 5, 6, 10, 11] qao_h2 qao_o2 ((t4, (t5, t11)), ((m0, (m0_1, (m0_2, (m0_3, m0_4)))), (m1, m2))) some = qao_B2 n t4 t5 t11 m0 m0_1 m0_2 m0_3 m0_4 m1 m2 := by kernel_rfl
theorem qao_f2 (n : Nat) : LoopFact tab (qao_tbl n) (qao_loops n) qao_an [] n 2 qao_l2 (qao_L2 n) := ⟨[1, 4, 5, 6, 10, 11], (fun s => qao_B2 n s.1.1 s.1.2.1 s.1.2.2 s.2.1.1 s.2.1.2.1 s.2.1.2.2.1 s.2.1.2.2.2.1 s.2.1.2.2.2.2 s.2.2.1 s.2.2.2), by kernel_rfl, by kernel_rfl, fun s => rfl, fun s => qao_r2 n s.1.1 s.1.2.1 s.1.2.2 s.2.1.1 s.2.1.2.1 s.2.1.2.2.1 s.2.1.2.2.2.1 s.2.1.2.2.2.2 s.2.2.1 s.2.2.2⟩
theorem qao_r6 (n : Nat) (t4 : Int) (t5 : Bool) (t20 : Int) (m0 : DH) (m0_1 : DI) (m0_2 : DJ) (m0_3 : DC) (m0_4 : DD) (m1 : DC) (m2 : DC) (m3 : DC) : roundK (real _) tab (qao_tbl n) (qao_loops n) qao_an [] qao_l6 6 [1, 4, 5, 6, 10, 19, 20] qao_h6 qao_o6 ((t4, (t5, t20)), ((m0, (m0_1, (m0_2, (m0_3, m0_4)))), (m1, (m2, m3)))) some = qao_B6 n t4 t5 t20 m0 m0_1 m0_2 m0_3 m0_4 m1 m2 m3 := by kernel_rfl
theorem qao_f6 (n : Nat) : LoopFact tab (qao_tbl n) (qao_loops n) qao_an [] n 6 qao_l6 (qao_L6 n) := ⟨[1, 4, 5, 6, 10, 19, 20], (fun s => qao_B6 n s.1.1 s.1.2.1 s.1.2.2 s.2.1.1 s.2.1.2.1 s.2.1.2.2.1 s.2.1.2.2.2.1 s.2.1.2.2.2.2 s.2.2.1 s.2.2.2.1 s.2.2.2.2), by kernel_rfl, by kernel_rfl, fun s => rfl, fun s => qao_r6 n s.1.1 s.1.2.1 s.1.2.2 s.2.1.1 s.2.1.2.1 s.2.1.2.2.1 s.2.1.2.2.2.1 s.2.1.2.2.2.2 s.2.2.1 s.2.2.2.1 s.2.2.2.2⟩
theorem qao_r8 (n : Nat) (t5 : Bool) (t24 : Int) (m0 : DH) (m0_1 : DI) (m0_2 : DJ) (m0_3 : DC) (m0_4 : DD) (m1 : DC) (m2 : DC) (m3 : DC) (m4 : DC) : roundK (real _) tab (qao_tbl n) (qao_loops n) qao_an [] qao_l8 8 [1, 5, 6, 10, 19, 23, 24] qao_h8 qao_o8 ((t5, t24), ((m0, (m0_1, (m0_2, (m0_3, m0_4)))), (m1, (m2, (m3, m4))))) some = qao_B8 n t5 t24 m0 m0_1 m0_2 m0_3 m0_4 m1 m2 m3 m4 := by kernel_rfl
theorem qao_f8 (n : Nat) : LoopFact tab (qao_tbl n) (qao_loops n) qao_an [] n 8 qao_l8 (qao_L8 n) := ⟨[1, 5, 6, 10, 19, 23, 24], (fun s => qao_B8 n s.1.1 s.1.2 s.2.1.1 s.2.1.2.1 s.2.1.2.2.1 s.2.1.2.2.2.1 s.2.1.2.2.2.2 s.2.2.1 s.2.2.2.1 s.2.2.2.2.1 s.2.2.2.2.2), by kernel_rfl, by kernel_rfl, fun s => rfl, fun s => qao_r8 n s.1.1 s.1.2 s.2.1.1 s.2.1.2.1 s.2.1.2.2.1 s.2.1.2.2.2.1 s.2.1.2.2.2.2 s.2.2.1 s.2.2.2.1 s.2.2.2.2.1 s.2.2.2.2.2⟩
theorem qao_r10 (n : Nat) (t5 : Bool) (t26 : Int) (m0 : DH) (m0_1 : DI) (m0_2 : DJ) (m0_3 : DC) (m0_4 : DD) (m1 : DC) (m2 : DC) (m3 : DC) (m4 : DC) (m5 : DC) : roundK (real _) tab (qao_tbl n) (qao_loops n) qao_an [] qao_l10 10 [1, 5, 6, 10, 19, 23, 25, 26] qao_h10 qao_o10 ((t5, t26), ((m0, (m0_1, (m0_2, (m0_3, m0_4)))), (m1, (m2, (m3, (m4, m5)))))) some = qao_B10 n t5 t26 m0 m0_1 m0_2 m0_3 m0_4 m1 m2 m3 m4 m5 := by kernel_rfl
theorem qao_f10 (n : Nat) : LoopFact tab (qao_tbl n) (qao_loops n) qao_an [] n 10 qao_l10 (qao_L10 n) := ⟨[1, 5, 6, 10, 19, 23, 25, 26], (fun s => qao_B10 n s.1.1 s.1.2 s.2.1.1 s.2.1.2.1 s.2.1.2.2.1 s.2.1.2.2.2.1 s.2.1.2.2.2.2 s.2.2.1 s.2.2.2.1 s.2.2.2.2.1 s.2.2.2.2.2.1 s.2.2.2.2.2.2), by kernel_rfl, by kernel_rfl, fun s => rfl, fun s => qao_r10 n s.1.1 s.1.2 s.2.1.1 s.2.1.2.1 s.2.1.2.2.1 s.2.1.2.2.2.1 s.2.1.2.2.2.2 s.2.2.1 s.2.2.2.1 s.2.2.2.2.1 s.2.2.2.2.2.1 s.2.2.2.2.2.2⟩
theorem qao_run (n : Nat) (t0 : DH) (t0_1 : DI) (t0_2 : DJ) (t0_3 : DC) (t0_4 : DD) : funDS (real _) tab (qao_tbl n) (qao_loops n) qao_an Tryd.f30 0 qao_a qao_res (t0, (t0_1, (t0_2, (t0_3, t0_4)))) some = qao n t0 t0_1 t0_2 t0_3 t0_4 := by kernel_rfl
def qao_E (n : Nat) : Entry := ⟨qao_a, qao_res, fun d => qao n d.1 d.2.1 d.2.2.1 d.2.2.2.1 d.2.2.2.2⟩
theorem qao_ok (n : Nat) : EOK Tryd.prog 30 (qao_E n) :=
 EOK.ofS zc zd zf (tbl := qao_tbl n) (loops := qao_loops n) (an := qao_an) (old := []) (n := n) (c := qao_c) (fn := Tryd.f30) (TblOK.cons (AllE.cons (qcb_ok n) AllE.nil) (TblOK.cons (AllE.cons (qai_ok n) AllE.nil) (TblOK.cons (AllE.cons (qbl_ok n) AllE.nil) (TblOK.cons (AllE.cons (qbk_ok n) AllE.nil) (TblOK.cons (AllE.cons (qas_ok n) AllE.nil) (TblOK.cons (AllE.cons (qbb_ok n) AllE.nil) (TblOK.cons (AllE.cons (qbh_ok n) AllE.nil) TblOK.nil))))))) (by kernel_rfl) (by kernel_rfl) (by kernel_rfl) (by kernel_rfl) (fun d => by kernel_rfl) (LT.cons (by kernel_rfl) (qao_f0 n) (LT.cons (by kernel_rfl) (qao_f4 n) (LT.cons (by kernel_rfl) (qao_f2 n) (LT.cons (by kernel_rfl) (qao_f6 n) (LT.cons (by kernel_rfl) (qao_f8 n) (LT.cons (by kernel_rfl) (qao_f10 n) LT.nil)))))) (fun a => qao_run n a.1 a.2.1 a.2.2.1 a.2.2.2.1 a.2.2.2.2)
def qbg_an : Ann := {}
def qbg_c : Code := (match Tryd.f31.body with | some c => c | none => .skip)
def qbg_a : StSh := ⟨.normal, [0, 1, 2], (.cons (.agg (.cons (.sl true false yA) (.cons (.sl true true yB) (.cons (.sl true true yC) (.cons (.sl true false (.int .u64)) (.cons (.sl true false .str) .nil)))))) (.cons (.agg (.cons (.sl true true yD) (.cons (.int .i64) (.cons (.int .i64) (.cons (.sl true true yD) (.cons (.sl true true yE) .nil)))))) (.cons (.agg (.cons (.int .i64) (.cons (.int .i64) (.cons (.int .i64) .nil)))) .nil))), .nil⟩
def qbg_res : List StSh := [⟨.ret, [0], (.cons .bool .nil), .nil⟩]
def qbg_tbl (n : Nat) : FuncId → List Entry := fun f => []
def qbg_loops (n : Nat) : Nat → Option LEntry := fun f => none
theorem qbg_run (n : Nat) (t0 : DH) (t0_1 : DI) (t0_2 : DJ) (t0_3 : DC) (t0_4 : DD) (t1 : DA) (t1_1 : Int) (t1_2 : Int) (t1_3 : DA) (t1_4 : DB) (t2 : Int) (t2_1 : Int) (t2_2 : Int) : funDS (real _) tab (qbg_tbl n) (qbg_loops n) qbg_an Tryd.f31 0 qbg_a qbg_res ((t0, (t0_1, (t0_2, (t0_3, t0_4)))), ((t1, (t1_1, (t1_2, (t1_3, t1_4)))), (t2, (t2_1, t2_2)))) some = qbg n t0 t0_1 t0_2 t0_3 t0_4 t1 t1_1 t1_2 t1_3 t1_4 t2 t2_1 t2_2 := by kernel_rfl
def qbg_E (n : Nat) : Entry := ⟨qbg_a, qbg_res, fun d => qbg n d.1.1 d.1.2.1 d.1.2.2.1 d.1.2.2.2.1 d.1.2.2.2.2 d.2.1.1 d.2.1.2.1 d.2.1.2.2.1 d.2.1.2.2.2.1 d.2.1.2.2.2.2 d.2.2.1 d.2.2.2.1 d.2.2.2.2⟩
theorem qbg_ok (n : Nat) : EOK Tryd.prog 31 (qbg_E n) :=
 EOK.ofS zc zd zf (tbl := qbg_tbl n) (loops := qbg_loops n) (an := qbg_an) (old := []) (n := n) (c := qbg_c) (fn := Tryd.f31) TblOK.nil (by kernel_rfl) (by kernel_rfl) (by kernel_rfl) (by kernel_rfl) (fun d => by kernel_rfl) LT.nil (fun a => qbg_run n a.1.1 a.1.2.1 a.1.2.2.1 a.1.2.2.2.1 a.1.2.2.2.2 a.2.1.1 a.2.1.2.1 a.2.1.2.2.1 a.2.1.2.2.2.1 a.2.1.2.2.2.2 a.2.2.1 a.2.2.2.1 a.2.2.2.2)
def qba_h2 : List StSh := [⟨.normal, [1, 5, 6, 7], (.cons (.ptr 0 0 0 0) (.cons (.int .i64) (.cons (.ptr 1 0 0 0) (.cons (.int .i64) .nil)))), (.cons (.bcells 0 false 1 (.cons (.sl true false yA) (.cons (.sl true true yB) (.cons (.sl true true yC) (.cons (.sl true false (.int .u64)) (.cons (.sl true false .str) .nil)))))) (.cons (.bcells 0 false 1 (.cons (.sl true true yD) (.cons (.int .i64) (.cons (.int .i64) (.cons (.sl true true yD) (.cons (.sl true true yE) .nil)))))) .nil))⟩]
def qba_o2 : List StSh := [⟨.ret, [2], (.cons (.int .i64) .nil), (.cons (.bcells 0 false 1 (.cons (.sl true false yA) (.cons (.sl true true yB) (.cons (.sl true true yC) (.cons (.sl true false (.int .u64)) (.cons (.sl true false .str) .nil)))))) (.cons (.bcells 0 false 1 (.cons (.sl true true yD) (.cons (.int .i64) (.cons (.int .i64) (.cons (.sl true true yD) (.cons (.sl true true yE) .nil)))))) .nil))⟩, ⟨.exit 2, [1, 5, 6], (.cons (.ptr 0 0 0 0) (.cons (.int .i64) (.cons (.ptr 1 0 0 0) .nil))), (.cons (.bcells 0 false 1 (.cons (.sl true false yA) (.cons (.sl true true yB) (.cons (.sl true true yC) (.cons (.sl true false (.int .u64)) (.cons (.sl true false .str) .nil)))))) (.cons (.bcells 0 false 1 (.cons (.sl true true yD) (.cons (.int .i64) (.cons (.int .i64) (.cons (.sl true true yD) (.cons (.sl true true yE) .nil)))))) .nil))⟩]
def qba_L2 (n : Nat) : LEntry := ⟨qba_h2, qba_o2, qba_W2 n⟩
def qba_h4 : List StSh := [⟨.normal, [1, 5, 6, 8], (.cons (.ptr 0 0 0 0) (.cons (.int .i64) (.cons (.ptr 1 0 0 0) (.cons (.int .i64) .nil)))), (.cons (.bcells 0 false 1 (.cons (.sl true false yA) (.cons (.sl true true yB) (.cons (.sl true true yC) (.cons (.sl true false (.int .u64)) (.cons (.sl true false .str) .nil)))))) (.cons (.bcells 0 false 1 (.cons (.sl true true yD) (.cons (.int .i64) (.cons (.int .i64) (.cons (.sl true true yD) (.cons (.sl true true yE) .nil)))))) .nil))⟩]
def qba_o4 : List StSh := [⟨.ret, [2], (.cons (.int .i64) .nil), (.cons (.bcells 0 false 1 (.cons (.sl true false yA) (.cons (.sl true true yB) (.cons (.sl true true yC) (.cons (.sl true false (.int .u64)) (.cons (.sl true false .str) .nil)))))) (.cons (.bcells 0 false 1 (.cons (.sl true true yD) (.cons (.int .i64) (.cons (.int .i64) (.cons (.sl true true yD) (.cons (.sl true true yE) .nil)))))) .nil))⟩, ⟨.exit 4, [1, 5], (.cons (.ptr 0 0 0 0) (.cons (.int .i64) .nil)), (.cons (.bcells 0 false 1 (.cons (.sl true false yA) (.cons (.sl true true yB) (.cons (.sl true true yC) (.cons (.sl true false (.int .u64)) (.cons (.sl true false .str) .nil)))))) (.cons (.bcells 0 false 1 (.cons (.sl true true yD) (.cons (.int .i64) (.cons (.int .i64) (.cons (.sl true true yD) (.cons (.sl true true yE) .nil)))))) .nil))⟩]
def qba_L4 (n : Nat) : LEntry := ⟨qba_h4, qba_o4, qba_W4 n⟩
def qba_h0 : List StSh := [⟨.normal, [1, 5], (.cons (.ptr 0 0 0 0) (.cons (.int .i64) .nil)), (.cons (.bcells 0 false 1 (.cons (.sl true false yA) (.cons (.sl true true yB) (.cons (.sl true true yC) (.cons (.sl true false (.int .u64)) (.cons (.sl true false .str) .nil)))))) .nil)⟩]
def qba_o0 : List StSh := [⟨.ret, [2], (.cons (.int .i64) .nil), (.cons (.bcells 0 false 1 (.cons (.sl true false yA) (.cons (.sl true true yB) (.cons (.sl true true yC) (.cons (.sl true false (.int .u64)) (.cons (.sl true false .str) .nil)))))) (.cons (.bcells 0 false 1 (.cons (.sl true true yD) (.cons (.int .i64) (.cons (.int .i64) (.cons (.sl true true yD) (.cons (.sl true true yE) .nil)))))) .nil))⟩, ⟨.exit 0, [1], (.cons (.ptr 0 0 0 0) .nil), (.cons (.bcells 0 false 1 (.cons (.sl true false yA) (.cons (.sl true true yB) (.cons (.sl true true yC) (.cons (.sl true false (.int .u64)) (.cons (.sl true false .str) .nil)))))) .nil)⟩]
def qba_L0 (n : Nat) : LEntry := ⟨qba_h0, qba_o0, qba_W0 n⟩
def qbi_an : Ann := {}
def qbi_c : Code := (match Tryd.f32.body with | some c => c | none => .skip)
def qbi_a : StSh := ⟨.normal, [0], (.cons (.agg (.cons (.int .i64) (.cons (.int .i64) .nil))) .nil), .nil⟩
def qbi_res : List StSh := [⟨.ret, [0], (.cons .bool .nil), .nil⟩]
def qbi_tbl (n : Nat) : FuncId → List Entry := fun f => []
def qbi_loops (n : Nat) : Nat → Option LEntry := fun f => none
theorem qbi_run (n : Nat) (t_0 : Int) (t_0_1 : Int) : funDS (real _) tab (qbi_tbl n) (qbi_loops n) qbi_an Tryd.f32 0 qbi_a qbi_res (t_0, t_0_1) some = qbi n t_0 t_0_1 := by kernel_rfl
def qbi_E (n : Nat) : Entry := ⟨qbi_a, qbi_res, fun d => qbi n d.1 d.2⟩
theorem qbi_ok (n : Nat) : EOK Tryd.prog 32 (qbi_E n) :=
 EOK.ofS zc zd zf (tbl := qbi_tbl n) (loops := qbi_loops n) (an := qbi_an) (old := []) (n := n) (c := qbi_c) (fn := Tryd.f32) TblOK.nil (by kernel_rfl) (by kernel_rfl) (by kernel_rfl) (by kernel_rfl) (fun d => by kernel_rfl) LT.nil (fun a => qbi_run n a.1 a.2)
def qba_h8 : List StSh := [⟨.normal, [1, 9, 10, 11], (.cons (.ptr 0 0 0 0) (.cons (.int .i64) (.cons .bool (.cons (.int .i64) .nil)))), (.cons (.bcells 0 false 1 (.cons (.sl true false yA) (.cons (.sl true true yB) (.cons (.sl true true yC) (.cons (.sl true false (.int .u64)) (.cons (.sl true false .str) .nil)))))) .nil)⟩]
def qba_o8 : List StSh := [⟨.exit 8, [1, 9, 10], (.cons (.ptr 0 0 0 0) (.cons (.int .i64) (.cons .bool .nil))), (.cons (.bcells 0 false 1 (.cons (.sl true false yA) (.cons (.sl true true yB) (.cons (.sl true true yC) (.cons (.sl true false (.int .u64)) (.cons (.sl true false .str) .nil)))))) .nil)⟩]
def qba_L8 (n : Nat) : LEntry := ⟨qba_h8, qba_o8, qba_W8 n⟩
def qba_h6 : List StSh := [⟨.normal, [1, 9], (.cons (.ptr 0 0 0 0) (.cons (.int .i64) .nil)), (.cons (.bcells 0 false 1 (.cons (.sl true false yA) (.cons (.sl true true yB) (.cons (.sl true true yC) (.cons (.sl true false (.int .u64)) (.cons (.sl true false .str) .nil)))))) .nil)⟩]
def qba_o6 : List StSh := [⟨.ret, [2], (.cons (.int .i64) .nil), (.cons (.bcells 0 false 1 (.cons (.sl true false yA) (.cons (.sl true true yB) (.cons (.sl true true yC) (.cons (.sl true false (.int .u64)) (.cons (.sl true false .str) .nil)))))) .nil)⟩, ⟨.exit 6, [], .nil, (.cons (.bcells 0 false 1 (.cons (.sl true false yA) (.cons (.sl true true yB) (.cons (.sl true true yC) (.cons (.sl true false (.int .u64)) (.cons (.sl true false .str) .nil)))))) .nil)⟩]
def qba_L6 (n : Nat) : LEntry := ⟨qba_h6, qba_o6, qba_W6 n⟩
def qba_res : List StSh := [⟨.ret, [0], (.cons (.int .i64) .nil), .nil⟩]
def qba_tbl (n : Nat) : FuncId → List Entry := fun f => bif Nat.beq f 30 then [qao_E n] else bif Nat.beq f 31 then [qbg_E n] else bif Nat.beq f 32 then [qbi_E n] else []
def qba_loops (n : Nat) : Nat → Option LEntry := fun f => bif Nat.beq f 2 then some (qba_L2 n) else bif Nat.beq f 4 then some (qba_L4 n) else bif Nat.beq f 0 then some (qba_L0 n) else bif Nat.beq f 8 then some (qba_L8 n) else bif Nat.beq f 6 then some (qba_L6 n) else none
theorem qba_r2 (n : Nat) (t5 : Int) (t7 : Int) (m0 : DH) (m0_1 : DI) (m0_2 : DJ) (m0_3 : DC) (m0_4 : DD) (m1 : DA) (m1_1 : Int) (m1_2 : Int) (m1_3 : DA) (m1_4 : DB) : roundK (real _) tab (qba_tbl n) (qba_loops n) qba_an [] qba_l2 2 [1, 5, 6, 7] qba_h2 qba_o2 ((t5, t7), ((m0, (m0_1, (m0_2, (m0_3, m0_4)))), (m1, (m1_1, (m1_2, (m1_3, m1_4)))))) some = qba_B2 n t5 t7 m0 m0_1 m0_2 m0_3 m0_4 m1 m1_1 m1_2 m1_3 m1_4 := by kernel_rfl
theorem qba_f2 (n : Nat) : LoopFact tab (qba_tbl n) (qba_loops n) qba_an [] n 2 qba_l2 (qba_L2 n) := ⟨[1, 5, 6, 7], (fun s => qba_B2 n s.1.1 s.1.2 s.2.1.1 s.2.1.2.1 s.2.1.2.2.1 s.2.1.2.2.2.1 s.2.1.2.2.2.2 s.2.2.1 s.2.2.2.1 s.2.2.2.2.1 s.2.2.2.2.2.1 s.2.2.2.2.2.2), by kernel_rfl, by kernel_rfl, fun s => rfl, fun s => qba_r2 n s.1.1 s.1.2 s.2.1.1 s.2.1.2.1 s.2.1.2.2.1 s.2.1.2.2.2.1 s.2.1.2.2.2.2 s.2.2.1 s.2.2.2.1 s.2.2.2.2.1 s.2.2.2.2.2.1 s.2.2.2.2.2.2⟩
theorem qba_r4 (n : Nat) (t5 : Int) (t8 : Int) (m0 : DH) (m0_1 : DI) (m0_2 : DJ) (m0_3 : DC) (m0_4 : DD) (m1 : DA) (m1_1 : Int) (m1_2 : Int) (m1_3 : DA) (m1_4 : DB) : roundK (real _) tab (qba_tbl n) (qba_loops n) qba_an [] qba_l4 4 [1, 5, 6, 8] qba_h4 qba_o4 ((t5, t8), ((m0, (m0_1, (m0_2, (m0_3, m0_4)))), (m1, (m1_1, (m1_2, (m1_3, m1_4)))))) some = qba_B4 n t5 t8 m0 m0_1 m0_2 m0_3 m0_4 m1 m1_1 m1_2 m1_3 m1_4 := by kernel_rfl
theorem qba_f4 (n : Nat) : LoopFact tab (qba_tbl n) (qba_loops n) qba_an [] n 4 qba_l4 (qba_L4 n) := ⟨[1, 5, 6, 8], (fun s => qba_B4 n s.1.1 s.1.2 s.2.1.1 s.2.1.2.1 s.2.1.2.2.1 s.2.1.2.2.2.1 s.2.1.2.2.2.2 s.2.2.1 s.2.2.2.1 s.2.2.2.2.1 s.2.2.2.2.2.1 s.2.2.2.2.2.2), by kernel_rfl, by kernel_rfl, fun s => rfl, fun s => qba_r4 n s.1.1 s.1.2 s.2.1.1 s.2.1.2.1 s.2.1.2.2.1 s.2.1.2.2.2.1 s.2.1.2.2.2.2 s.2.2.1 s.2.2.2.1 s.2.2.2.2.1 s.2.2.2.2.2.1 s.2.2.2.2.2.2⟩
theorem qba_r0 (n : Nat) (t5 : Int) (m0 : DH) (m0_1 : DI) (m0_2 : DJ) (m0_3 : DC) (m0_4 : DD) : roundK (real _) tab (qba_tbl n) (qba_loops n) qba_an [] qba_l0 0 [1, 5] qba_h0 qba_o0 (t5, (m0, (m0_1, (m0_2, (m0_3, m0_4))))) some = qba_B0 n t5 m0 m0_1 m0_2 m0_3 m0_4 := by kernel_rfl
theorem qba_f0 (n : Nat) : LoopFact tab (qba_tbl n) (qba_loops n) qba_an [] n 0 qba_l0 (qba_L0 n) := ⟨[1, 5], (fun s => qba_B0 n s.1 s.2.1 s.2.2.1 s.2.2.2.1 s.2.2.2.2.1 s.2.2.2.2.2), by kernel_rfl, by kernel_rfl, fun s => rfl, fun s => qba_r0 n s.1 s.2.1 s.2.2.1 s.2.2.2.1 s.2.2.2.2.1 s.2.2.2.2.2⟩
theorem qba_r8 (n : Nat) (t9 : Int) (t10 : Bool) (t11 : Int) (m0 : DH) (m0_1 : DI) (m0_2 : DJ) (m0_3 : DC) (m0_4 : DD) : roundK (real _) tab (qba_tbl n) (qba_loops n) qba_an [] qba_l8 8 [1, 9, 10, 11] qba_h8 qba_o8 ((t9, (t10, t11)), (m0, (m0_1, (m0_2, (m0_3, m0_4))))) some = qba_B8 n t9 t10 t11 m0 m0_1 m0_2 m0_3 m0_4 := by kernel_rfl
theorem qba_f8 (n : Nat) : LoopFact tab (qba_tbl n) (qba_loops n) qba_an [] n 8 qba_l8 (qba_L8 n) := ⟨[1, 9, 10, 11], (fun s => qba_B8 n s.1.1 s.1.2.1 s.1.2.2 s.2.1 s.2.2.1 s.2.2.2.1 s.2.2.2.2.1 s.2.2.2.2.2), by kernel_rfl, by kernel_rfl, fun s => rfl, fun s => qba_r8 n s.1.1 s.1.2.1 s.1.2.2 s.2.1 s.2.2.1 s.2.2.2.1 s.2.2.2.2.1 s.2.2.2.2.2⟩
theorem qba_r6 (n : Nat) (t9 : Int) (m0 : DH) (m0_1 : DI) (m0_2 : DJ) (m0_3 : DC) (m0_4 : DD) : roundK (real _) tab (qba_tbl n) (qba_loops n) qba_an [] qba_l6 6 [1, 9] qba_h6 qba_o6 (t9, (m0, (m0_1, (m0_2, (m0_3, m0_4))))) some = qba_B6 n t9 m0 m0_1 m0_2 m0_3 m0_4 := by kernel_rfl
theorem qba_f6 (n : Nat) : LoopFact tab (qba_tbl n) (qba_loops n) qba_an [] n 6 qba_l6 (qba_L6 n) := ⟨[1, 9], (fun s => qba_B6 n s.1 s.2.1 s.2.2.1 s.2.2.2.1 s.2.2.2.2.1 s.2.2.2.2.2), by kernel_rfl, by kernel_rfl, fun s => rfl, fun s => qba_r6 n s.1 s.2.1 s.2.2.1 s.2.2.2.1 s.2.2.2.2.1 s.2.2.2.2.2⟩
theorem qba_run (n : Nat) (t0 : DH) (t0_1 : DI) (t0_2 : DJ) (t0_3 : DC) (t0_4 : DD) : funDS (real _) tab (qba_tbl n) (qba_loops n) qba_an Tryd.f16 0 qba_a qba_res (t0, (t0_1, (t0_2, (t0_3, t0_4)))) some = qba n t0 t0_1 t0_2 t0_3 t0_4 := by kernel_rfl
def qba_E (n : Nat) : Entry := ⟨qba_a, qba_res, fun d => qba n d.1 d.2.1 d.2.2.1 d.2.2.2.1 d.2.2.2.2⟩
theorem qba_ok (n : Nat) : EOK Tryd.prog 16 (qba_E n) :=
 EOK.ofS zc zd zf (tbl := qba_tbl n) (loops := qba_loops n) (an := qba_an) (old := []) (n := n) (c := qba_c) (fn := Tryd.f16) (TblOK.cons (AllE.cons (qao_ok n) AllE.nil) (TblOK.cons (AllE.cons (qbg_ok n) AllE.nil) (TblOK.cons (AllE.cons (qbi_ok n) AllE.nil) TblOK.nil))) (by kernel_rfl) (by kernel_rfl) (by kernel_rfl) (by kernel_rfl) (fun d => by kernel_rfl) (LT.cons (by kernel_rfl) (qba_f2 n) (LT.cons (by kernel_rfl) (qba_f4 n) (LT.cons (by kernel_rfl) (qba_f0 n) (LT.cons (by kernel_rfl) (qba_f8 n) (LT.cons (by kernel_rfl) (qba_f6 n) LT.nil))))) (fun a => qba_run n a.1 a.2.1 a.2.2.1 a.2.2.2.1 a.2.2.2.2)
end
end Sx
