import Derived.Test.YtmfemlkbeehioaaProg
import Derived.Test.YtmfemlkbeehioaaLib32
import Derived.Test.YtmfemlkbeehioaaModRSh
import Derived.KernelRfl
open Go Go.Ab Go.Proofs
set_option linter.unusedVariables false
set_option maxRecDepth 20000
namespace Sx
noncomputable section
abbrev yA : Ty := (.sl true (.cons (.int .i64) (.int .i64)))
abbrev yB : Ty := (.cons (.sl true (.cons (.int .i64) (.int .i64))) (.cons (.int .i64) (.cons (.int .i64) (.cons (.sl true (.cons (.int .i64) (.int .i64))) (.sl true (.cons (.int .i64) (.cons (.int .i64) (.int .i64))))))))
abbrev yC : Ty := (.cons (.sl true (.cons (.int .i64) (.int .i64))) (.cons (.int .i64) (.int .i64)))
abbrev yD : Ty := (.cons (.int .i64) (.int .i64))
abbrev yE : Ty := (.cons (.int .i64) (.cons (.int .i64) (.int .i64)))
abbrev yF : Ty := (.sl false (.int .u8))
def gtabL : DG := []
instance gTab : GTab := ⟨fun g => assoc g gtabL⟩
def ti2 : TI := ⟨.int .i64, 1, 8, false, some (.int .i64), false, [.int .i64 0]⟩
def ti3 : TI := ⟨.int .i64, 1, 8, false, some (.int .i64), false, [.int .i64 0]⟩
def ti4 : TI := ⟨.bool, 1, 1, false, some .bool, false, [.bool false]⟩
def ti5 : TI := ⟨.int .u8, 1, 1, false, some (.int .u8), false, [.int .u8 0]⟩
def ti6 : TI := ⟨.int .u8, 1, 1, false, some (.int .u8), false, [.int .u8 0]⟩
def ti7 : TI := ⟨.st [(0, 1, 2), (1, 1, 3), (2, 1, 4), (3, 1, 6)], 4, 24, true, some (.cons (.int .i64) (.cons (.int .i64) (.cons .bool (.int .u8)))), true, [.int .i64 0, .int .i64 0, .bool false, .int .u8 0]⟩
def ti8 : TI := ⟨.st [(0, 1, 2), (1, 1, 3), (2, 1, 4), (3, 1, 6)], 4, 24, true, some (.cons (.int .i64) (.cons (.int .i64) (.cons .bool (.int .u8)))), true, [.int .i64 0, .int .i64 0, .bool false, .int .u8 0]⟩
def ti9 : TI := ⟨.str, 1, 16, false, some .str, false, [.string (ByteArray.mk (List.toArray []))]⟩
def ti10 : TI := ⟨.str, 1, 16, false, some .str, false, [.string (ByteArray.mk (List.toArray []))]⟩
def ti11 : TI := ⟨.str, 1, 16, false, some .str, false, [.string (ByteArray.mk (List.toArray []))]⟩
def ti12 : TI := ⟨.int .u64, 1, 8, false, some (.int .u64), false, [.int .u64 0]⟩
def ti13 : TI := ⟨.st [(0, 1, 9), (1, 1, 12)], 2, 24, true, some (.cons .str (.int .u64)), false, [.string (ByteArray.mk (List.toArray [])), .int .u64 0]⟩
def ti14 : TI := ⟨.st [(0, 1, 9), (1, 1, 12)], 2, 24, true, some (.cons .str (.int .u64)), false, [.string (ByteArray.mk (List.toArray [])), .int .u64 0]⟩
def ti15 : TI := ⟨.ptr, 1, 8, false, none, false, [.pointer none]⟩
def ti16 : TI := ⟨.ptr, 1, 8, false, none, false, [.pointer none]⟩
def ti17 : TI := ⟨.ptr, 1, 8, false, none, false, [.pointer none]⟩
def ti18 : TI := ⟨.st [(0, 1, 17)], 1, 8, true, none, false, [.pointer none]⟩
def ti19 : TI := ⟨.st [(0, 1, 17)], 1, 8, true, none, false, [.pointer none]⟩
def ti21 : TI := ⟨.int .i32, 1, 4, false, some (.int .i32), false, [.int .i32 0]⟩
def ti22 : TI := ⟨.st [(0, 1, 3), (1, 1, 3)], 2, 16, true, some (.cons (.int .i64) (.int .i64)), true, [.int .i64 0, .int .i64 0]⟩
def ti23 : TI := ⟨.st [(0, 1, 3), (1, 1, 3)], 2, 16, true, some (.cons (.int .i64) (.int .i64)), true, [.int .i64 0, .int .i64 0]⟩
def ti24 : TI := ⟨.sl 23, 1, 24, false, some (.sl true (.cons (.int .i64) (.int .i64))), false, [.slice none 0 0]⟩
def ti25 : TI := ⟨.sl 40, 1, 24, false, some (.sl true (.cons (.int .i64) (.cons (.int .i64) (.int .i64)))), false, [.slice none 0 0]⟩
def ti26 : TI := ⟨.st [(0, 1, 24), (1, 2, 23), (3, 1, 24), (4, 1, 25)], 5, 88, true, some (.cons (.sl true (.cons (.int .i64) (.int .i64))) (.cons (.int .i64) (.cons (.int .i64) (.cons (.sl true (.cons (.int .i64) (.int .i64))) (.sl true (.cons (.int .i64) (.cons (.int .i64) (.int .i64)))))))), false, [.slice none 0 0, .int .i64 0, .int .i64 0, .slice none 0 0, .slice none 0 0]⟩
def ti27 : TI := ⟨.st [(0, 1, 24), (1, 2, 23), (3, 1, 24), (4, 1, 25)], 5, 88, true, some (.cons (.sl true (.cons (.int .i64) (.int .i64))) (.cons (.int .i64) (.cons (.int .i64) (.cons (.sl true (.cons (.int .i64) (.int .i64))) (.sl true (.cons (.int .i64) (.cons (.int .i64) (.int .i64)))))))), false, [.slice none 0 0, .int .i64 0, .int .i64 0, .slice none 0 0, .slice none 0 0]⟩
def ti28 : TI := ⟨.sl 27, 1, 24, false, some (.sl true (.cons (.sl true (.cons (.int .i64) (.int .i64))) (.cons (.int .i64) (.cons (.int .i64) (.cons (.sl true (.cons (.int .i64) (.int .i64))) (.sl true (.cons (.int .i64) (.cons (.int .i64) (.int .i64))))))))), false, [.slice none 0 0]⟩
def ti29 : TI := ⟨.sl 24, 1, 24, false, some (.sl false (.sl true (.cons (.int .i64) (.int .i64)))), false, [.slice none 0 0]⟩
def ti30 : TI := ⟨.sl 38, 1, 24, false, some (.sl true (.cons (.sl true (.cons (.int .i64) (.int .i64))) (.cons (.int .i64) (.int .i64)))), false, [.slice none 0 0]⟩
def ti31 : TI := ⟨.sl 36, 1, 24, false, some (.sl false (.int .u64)), false, [.slice none 0 0]⟩
def ti32 : TI := ⟨.sl 9, 1, 24, false, some (.sl false .str), false, [.slice none 0 0]⟩
def ti33 : TI := ⟨.st [(0, 1, 29), (1, 1, 28), (2, 1, 30), (3, 1, 31), (4, 1, 32)], 5, 120, true, some (.cons (.sl false (.sl true (.cons (.int .i64) (.int .i64)))) (.cons (.sl true (.cons (.sl true (.cons (.int .i64) (.int .i64))) (.cons (.int .i64) (.cons (.int .i64) (.cons (.sl true (.cons (.int .i64) (.int .i64))) (.sl true (.cons (.int .i64) (.cons (.int .i64) (.int .i64))))))))) (.cons (.sl true (.cons (.sl true (.cons (.int .i64) (.int .i64))) (.cons (.int .i64) (.int .i64)))) (.cons (.sl false (.int .u64)) (.sl false .str))))), false, [.slice none 0 0, .slice none 0 0, .slice none 0 0, .slice none 0 0, .slice none 0 0]⟩
def ti34 : TI := ⟨.st [(0, 1, 29), (1, 1, 28), (2, 1, 30), (3, 1, 31), (4, 1, 32)], 5, 120, true, some (.cons (.sl false (.sl true (.cons (.int .i64) (.int .i64)))) (.cons (.sl true (.cons (.sl true (.cons (.int .i64) (.int .i64))) (.cons (.int .i64) (.cons (.int .i64) (.cons (.sl true (.cons (.int .i64) (.int .i64))) (.sl true (.cons (.int .i64) (.cons (.int .i64) (.int .i64))))))))) (.cons (.sl true (.cons (.sl true (.cons (.int .i64) (.int .i64))) (.cons (.int .i64) (.int .i64)))) (.cons (.sl false (.int .u64)) (.sl false .str))))), false, [.slice none 0 0, .slice none 0 0, .slice none 0 0, .slice none 0 0, .slice none 0 0]⟩
def ti35 : TI := ⟨.sl 3, 1, 24, false, some (.sl false (.int .i64)), false, [.slice none 0 0]⟩
def ti36 : TI := ⟨.int .u64, 1, 8, false, some (.int .u64), false, [.int .u64 0]⟩
def ti37 : TI := ⟨.st [(0, 1, 24), (1, 2, 23)], 3, 40, true, some (.cons (.sl true (.cons (.int .i64) (.int .i64))) (.cons (.int .i64) (.int .i64))), false, [.slice none 0 0, .int .i64 0, .int .i64 0]⟩
def ti38 : TI := ⟨.st [(0, 1, 24), (1, 2, 23)], 3, 40, true, some (.cons (.sl true (.cons (.int .i64) (.int .i64))) (.cons (.int .i64) (.int .i64))), false, [.slice none 0 0, .int .i64 0, .int .i64 0]⟩
def ti39 : TI := ⟨.st [(0, 1, 3), (1, 1, 3), (2, 1, 3)], 3, 24, true, some (.cons (.int .i64) (.cons (.int .i64) (.int .i64))), true, [.int .i64 0, .int .i64 0, .int .i64 0]⟩
def ti40 : TI := ⟨.st [(0, 1, 3), (1, 1, 3), (2, 1, 3)], 3, 24, true, some (.cons (.int .i64) (.cons (.int .i64) (.int .i64))), true, [.int .i64 0, .int .i64 0, .int .i64 0]⟩
def ti41 : TI := ⟨.int .i64, 1, 8, false, some (.int .i64), false, [.int .i64 0]⟩
def ti49 : TI := ⟨.sl 5, 1, 24, false, some (.sl false (.int .u8)), false, [.slice none 0 0]⟩
def ti54 : TI := ⟨.int .u32, 1, 4, false, some (.int .u32), false, [.int .u32 0]⟩
def ti62 : TI := ⟨.int .u16, 1, 2, false, some (.int .u16), false, [.int .u16 0]⟩
def ti73 : TI := ⟨.sl 49, 1, 24, false, some (.sl false (.sl false (.int .u8))), false, [.slice none 0 0]⟩
def ti81 : TI := ⟨.ptr, 1, 8, false, none, false, [.pointer none]⟩
def ti82 : TI := ⟨.ptr, 1, 8, false, none, false, [.pointer none]⟩
def ti84 : TI := ⟨.st [(0, 1, 82), (1, 1, 3), (2, 1, 4)], 3, 24, true, none, false, [.pointer none, .int .i64 0, .bool false]⟩
def ti85 : TI := ⟨.st [(0, 1, 82), (1, 1, 3), (2, 1, 4)], 3, 24, true, none, false, [.pointer none, .int .i64 0, .bool false]⟩
def ti122 : TI := ⟨.ptr, 1, 8, false, none, false, [.pointer none]⟩
def ti123 : TI := ⟨.st [(0, 1, 49)], 1, 24, true, some (.sl false (.int .u8)), false, [.slice none 0 0]⟩
def ti124 : TI := ⟨.st [(0, 1, 49)], 1, 24, true, some (.sl false (.int .u8)), false, [.slice none 0 0]⟩
def ti127 : TI := ⟨.int .u64, 1, 8, false, some (.int .u64), false, [.int .u64 0]⟩
def ti131 : TI := ⟨.st [(0, 1, 49), (1, 1, 4)], 2, 32, true, some (.cons (.sl false (.int .u8)) .bool), false, [.slice none 0 0, .bool false]⟩
def ti132 : TI := ⟨.st [(0, 1, 49), (1, 1, 4)], 2, 32, true, some (.cons (.sl false (.int .u8)) .bool), false, [.slice none 0 0, .bool false]⟩
def ti145 : TI := ⟨.arr 2 3, 2, 16, true, none, false, [.int .i64 0, .int .i64 0]⟩
def ti149 : TI := ⟨.arr 2 36, 2, 16, true, none, false, [.int .u64 0, .int .u64 0]⟩
def ti150 : TI := ⟨.st [(0, 1, 17), (1, 1, 17), (2, 1, 17), (3, 1, 9)], 4, 40, true, none, false, [.pointer none, .pointer none, .pointer none, .string (ByteArray.mk (List.toArray []))]⟩
def ti151 : TI := ⟨.st [(0, 1, 17), (1, 1, 17), (2, 1, 17), (3, 1, 9)], 4, 40, true, none, false, [.pointer none, .pointer none, .pointer none, .string (ByteArray.mk (List.toArray []))]⟩
def ti152 : TI := ⟨.arr 0 16, 0, 0, true, none, false, []⟩
def ti153 : TI := ⟨.st [(0, 0, 152)], 0, 0, true, none, false, []⟩
def ti154 : TI := ⟨.st [(0, 0, 152)], 0, 0, true, none, false, []⟩
def ti155 : TI := ⟨.int .u8, 1, 1, false, some (.int .u8), false, [.int .u8 0]⟩
def ti156 : TI := ⟨.int .u8, 1, 1, false, some (.int .u8), false, [.int .u8 0]⟩
def ti158 : TI := ⟨.ptr, 1, 8, false, none, false, [.pointer none]⟩
def ti159 : TI := ⟨.int .i32, 1, 4, false, some (.int .i32), false, [.int .i32 0]⟩
def ti160 : TI := ⟨.int .i32, 1, 4, false, some (.int .i32), false, [.int .i32 0]⟩
def ti163 : TI := ⟨.other, 1, 8, false, none, false, [.pointer none]⟩
def tabL : List (Nat × TI) := [(2, ti2), (3, ti3), (4, ti4), (5, ti5), (6, ti6), (7, ti7), (8, ti8), (9, ti9), (10, ti10), (11, ti11), (12, ti12), (13, ti13), (14, ti14), (15, ti15), (16, ti16), (17, ti17), (18, ti18), (19, ti19), (21, ti21), (22, ti22), (23, ti23), (24, ti24), (25, ti25), (26, ti26), (27, ti27), (28, ti28), (29, ti29), (30, ti30), (31, ti31), (32, ti32), (33, ti33), (34, ti34), (35, ti35), (36, ti36), (37, ti37), (38, ti38), (39, ti39), (40, ti40), (41, ti41), (49, ti49), (54, ti54), (62, ti62), (73, ti73), (81, ti81), (82, ti82), (84, ti84), (85, ti85), (122, ti122), (123, ti123), (124, ti124), (127, ti127), (131, ti131), (132, ti132), (145, ti145), (149, ti149), (150, ti150), (151, ti151), (152, ti152), (153, ti153), (154, ti154), (155, ti155), (156, ti156), (158, ti158), (159, ti159), (160, ti160), (163, ti163)]
def tab : TypeId → Option TI := fun t => assoc t tabL
theorem ze : TabOK Try.prog tab := (show TabOK Try.prog (fun t => assoc t tabL) from TabOK.of_list _ (by kernel_rfl))
theorem zb : namesOK Try.prog = true := by kernel_rfl
theorem zc : Try.prog.follows .mixedOrders = true := by kernel_rfl
def law06ModuleBack_c : Code := (match Try.f7.body with | some c => c | none => .skip)
def qbr_an : Ann := { live := [(0, [1, 3, 4]), (2, [1, 3, 5]), (4, [1, 3, 6]), (6, [1, 3, 7])] }
def qbr_c : Code := (match Try.f14.body with | some c => c | none => .skip)
def qbr_l0 : Code := (match assoc 0 (loopsIn qbr_c 0) with | some c => c | none => .skip)
def qbr_l2 : Code := (match assoc 2 (loopsIn qbr_c 0) with | some c => c | none => .skip)
def qbr_l4 : Code := (match assoc 4 (loopsIn qbr_c 0) with | some c => c | none => .skip)
def qbr_l6 : Code := (match assoc 6 (loopsIn qbr_c 0) with | some c => c | none => .skip)
def qbr_a : StSh := ⟨.normal, [0], (.cons (.agg (.cons (.sl true false yA) (.cons (.sl true true yB) (.cons (.sl true true yC) (.cons (.sl true false (.int .u64)) (.cons (.sl true false .str) .nil)))))) .nil), .nil⟩
def qbr_h0 : List StSh := [⟨.normal, [1, 3, 4], (.cons (.ptr 0 0 0 0) (.cons (.int .i64) (.cons (.int .i64) .nil))), (.cons (.bcells 0 false 1 (.cons (.sl true false yA) (.cons (.sl true true yB) (.cons (.sl true true yC) (.cons (.sl true false (.int .u64)) (.cons (.sl true false .str) .nil)))))) .nil)⟩]
def qbr_o0 : List StSh := [⟨.exit 0, [1, 3], (.cons (.ptr 0 0 0 0) (.cons (.int .i64) .nil)), (.cons (.bcells 0 false 1 (.cons (.sl true false yA) (.cons (.sl true true yB) (.cons (.sl true true yC) (.cons (.sl true false (.int .u64)) (.cons (.sl true false .str) .nil)))))) .nil)⟩]
def qbr_L0 (n : Nat) : LEntry := ⟨qbr_h0, qbr_o0, qbr_W0 n⟩
def qbr_h2 : List StSh := [⟨.normal, [1, 3, 5], (.cons (.ptr 0 0 0 0) (.cons (.int .i64) (.cons (.int .i64) .nil))), (.cons (.bcells 0 false 1 (.cons (.sl true false yA) (.cons (.sl true true yB) (.cons (.sl true true yC) (.cons (.sl true false (.int .u64)) (.cons (.sl true false .str) .nil)))))) .nil)⟩]
def qbr_o2 : List StSh := [⟨.exit 2, [1, 3], (.cons (.ptr 0 0 0 0) (.cons (.int .i64) .nil)), (.cons (.bcells 0 false 1 (.cons (.sl true false yA) (.cons (.sl true true yB) (.cons (.sl true true yC) (.cons (.sl true false (.int .u64)) (.cons (.sl true false .str) .nil)))))) .nil)⟩]
def qbr_L2 (n : Nat) : LEntry := ⟨qbr_h2, qbr_o2, qbr_W2 n⟩
def qbr_h4 : List StSh := [⟨.normal, [1, 3, 6], (.cons (.ptr 0 0 0 0) (.cons (.int .i64) (.cons (.int .i64) .nil))), (.cons (.bcells 0 false 1 (.cons (.sl true false yA) (.cons (.sl true true yB) (.cons (.sl true true yC) (.cons (.sl true false (.int .u64)) (.cons (.sl true false .str) .nil)))))) .nil)⟩]
def qbr_o4 : List StSh := [⟨.exit 4, [1, 3], (.cons (.ptr 0 0 0 0) (.cons (.int .i64) .nil)), (.cons (.bcells 0 false 1 (.cons (.sl true false yA) (.cons (.sl true true yB) (.cons (.sl true true yC) (.cons (.sl true false (.int .u64)) (.cons (.sl true false .str) .nil)))))) .nil)⟩]
def qbr_L4 (n : Nat) : LEntry := ⟨qbr_h4, qbr_o4, qbr_W4 n⟩
def qbr_h6 : List StSh := [⟨.normal, [1, 3, 7], (.cons (.ptr 0 0 0 0) (.cons (.int .i64) (.cons (.int .i64) .nil))), (.cons (.bcells 0 false 1 (.cons (.sl true false yA) (.cons (.sl true true yB) (.cons (.sl true true yC) (.cons (.sl true false (.int .u64)) (.cons (.sl true false .str) .nil)))))) .nil)⟩]
def qbr_o6 : List StSh := [⟨.exit 6, [3], (.cons (.int .i64) .nil), (.cons (.bcells 0 false 1 (.cons (.sl true false yA) (.cons (.sl true true yB) (.cons (.sl true true yC) (.cons (.sl true false (.int .u64)) (.cons (.sl true false .str) .nil)))))) .nil)⟩]
def qbr_L6 (n : Nat) : LEntry := ⟨qbr_h6, qbr_o6, qbr_W6 n⟩
def qbr_res : List StSh := [⟨.ret, [0], (.cons .bool .nil), .nil⟩]
def qbr_tbl (n : Nat) : FuncId → List Entry := fun f => []
def qbr_loops (n : Nat) : Nat → Option LEntry := fun f => bif Nat.beq f 0 then some (qbr_L0 n) else bif Nat.beq f 2 then some (qbr_L2 n) else bif Nat.beq f 4 then some (qbr_L4 n) else bif Nat.beq f 6 then some (qbr_L6 n) else none
theorem qbr_r0 (n : Nat) (t3 : Int) (t4 : Int) (m0 : DH) (m0_1 : DI) (m0_2 : DJ) (m0_3 : DC) (m0_4 : DD) : roundK (real _) tab (qbr_tbl n) (qbr_loops n) qbr_an [] qbr_l0 0 [1, 3, 4] qbr_h0 qbr_o0 ((t3, t4), (m0, (m0_1, (m0_2, (m0_3, m0_4))))) some = qbr_B0 n t3 t4 m0 m0_1 m0_2 m0_3 m0_4 := by kernel_rfl
theorem qbr_f0 (n : Nat) : LoopFact tab (qbr_tbl n) (qbr_loops n) qbr_an [] n 0 qbr_l0 (qbr_L0 n) := ⟨[1, 3, 4], (fun s => qbr_B0 n s.1.1 s.1.2 s.2.1 s.2.2.1 s.2.2.2.1 s.2.2.2.2.1 s.2.2.2.2.2), by kernel_rfl, by kernel_rfl, fun s => rfl, fun s => qbr_r0 n s.1.1 s.1.2 s.2.1 s.2.2.1 s.2.2.2.1 s.2.2.2.2.1 s.2.2.2.2.2⟩
theorem qbr_r2 (n : Nat) (t3 : Int) (t5 : Int) (m0 : DH) (m0_1 : DI) (m0_2 : DJ) (m0_3 : DC) (m0_4 : DD) : roundK (real _) tab (qbr_tbl n) (qbr_loops n) qbr_an [] qbr_l2 2 [1, 3, 5] qbr_h2 qbr_o2 ((t3, t5), (m0, (m0_1, (m0_2, (m0_3, m0_4))))) some = qbr_B2 n t3 t5 m0 m0_1 m0_2 m0_3 m0_4 := by kernel_rfl
theorem qbr_f2 (n : Nat) : LoopFact tab (qbr_tbl n) (qbr_loops n) qbr_an [] n 2 qbr_l2 (qbr_L2 n) := ⟨[1, 3, 5], (fun s => qbr_B2 n s.1.1 s.1.2 s.2.1 s.2.2.1 s.2.2.2.1 s.2.2.2.2.1 s.2.2.2.2.2), by kernel_rfl, by kernel_rfl, fun s => rfl, fun s => qbr_r2 n s.1.1 s.1.2 s.2.1 s.2.2.1 s.2.2.2.1 s.2.2.2.2.1 s.2.2.2.2.2⟩
theorem qbr_r4 (n : Nat) (t3 : Int) (t6 : Int) (m0 : DH) (m0_1 : DI) (m0_2 : DJ) (m0_3 : DC) (m0_4 : DD) : roundK (real _) tab (qbr_tbl n) (qbr_loops n) qbr_an [] qbr_l4 4 [1, 3, 6] qbr_h4 qbr_o4 ((t3, t6), (m0, (m0_1, (m0_2, (m0_3, m0_4))))) some = qbr_B4 n t3 t6 m0 m0_1 m0_2 m0_3 m0_4 := by kernel_rfl
theorem qbr_f4 (n : Nat) : LoopFact tab (qbr_tbl n) (qbr_loops n) qbr_an [] n 4 qbr_l4 (qbr_L4 n) := ⟨[1, 3, 6], (fun s => qbr_B4 n s.1.1 s.1.2 s.2.1 s.2.2.1 s.2.2.2.1 s.2.2.2.2.1 s.2.2.2.2.2), by kernel_rfl, by kernel_rfl, fun s => rfl, fun s => qbr_r4 n s.1.1 s.1.2 s.2.1 s.2.2.1 s.2.2.2.1 s.2.2.2.2.1 s.2.2.2.2.2⟩
theorem qbr_r6 (n : Nat) (t3 : Int) (t7 : Int) (m0 : DH) (m0_1 : DI) (m0_2 : DJ) (m0_3 : DC) (m0_4 : DD) : roundK (real _) tab (qbr_tbl n) (qbr_loops n) qbr_an [] qbr_l6 6 [1, 3, 7] qbr_h6 qbr_o6 ((t3, t7), (m0, (m0_1, (m0_2, (m0_3, m0_4))))) some = qbr_B6 n t3 t7 m0 m0_1 m0_2 m0_3 m0_4 := by kernel_rfl
theorem qbr_f6 (n : Nat) : LoopFact tab (qbr_tbl n) (qbr_loops n) qbr_an [] n 6 qbr_l6 (qbr_L6 n) := ⟨[1, 3, 7], (fun s => qbr_B6 n s.1.1 s.1.2 s.2.1 s.2.2.1 s.2.2.2.1 s.2.2.2.2.1 s.2.2.2.2.2), by kernel_rfl, by kernel_rfl, fun s => rfl, fun s => qbr_r6 n s.1.1 s.1.2 s.2.1 s.2.2.1 s.2.2.2.1 s.2.2.2.2.1 s.2.2.2.2.2⟩
theorem qbr_run (n : Nat) (t0 : DH) (t0_1 : DI) (t0_2 : DJ) (t0_3 : DC) (t0_4 : DD) : funDS (real _) tab (qbr_tbl n) (qbr_loops n) qbr_an Try.f14 0 qbr_a qbr_res (t0, (t0_1, (t0_2, (t0_3, t0_4)))) some = qbr n t0 t0_1 t0_2 t0_3 t0_4 := by kernel_rfl
def qbr_E (n : Nat) : Entry := ⟨qbr_a, qbr_res, fun d => qbr n d.1 d.2.1 d.2.2.1 d.2.2.2.1 d.2.2.2.2⟩
theorem qbr_ok (n : Nat) : EOK Try.prog 14 (qbr_E n) :=
 EOK.ofS zb zc ze (tbl := qbr_tbl n) (loops := qbr_loops n) (an := qbr_an) (old := []) (n := n) (c := qbr_c) (fn := Try.f14) TblOK.nil (by kernel_rfl) (by kernel_rfl) (by kernel_rfl) (by kernel_rfl) (fun d => by kernel_rfl) (LT.cons (by kernel_rfl) (qbr_f0 n) (LT.cons (by kernel_rfl) (qbr_f2 n) (LT.cons (by kernel_rfl) (qbr_f4 n) (LT.cons (by kernel_rfl) (qbr_f6 n) LT.nil)))) (fun a => qbr_run n a.1 a.2.1 a.2.2.1 a.2.2.2.1 a.2.2.2.2)
def qbc_an : Ann := {}
def qbc_c : Code := (match Try.f19.body with | some c => c | none => .skip)
def qbc_a : StSh := ⟨.normal, [], .nil, .nil⟩
def qbe_an : Ann := {}
def qbe_c : Code := (match Try.f20.body with | some c => c | none => .skip)
def qbe_a : StSh := ⟨.normal, [0], (.cons (.agg (.cons (.sl true false yA) (.cons (.sl true true yB) (.cons (.sl true true yC) (.cons (.sl true false (.int .u64)) (.cons (.sl true false .str) .nil)))))) .nil), .nil⟩
def qbt_an : Ann := {}
def qbt_c : Code := (match Try.f39.body with | some c => c | none => .skip)
def qbt_a : StSh := ⟨.normal, [0], (.cons (.agg (.cons (.sl true false yA) (.cons (.sl true true yB) (.cons (.sl true true yC) (.cons (.sl true false (.int .u64)) (.cons (.sl true false .str) .nil)))))) .nil), .nil⟩
def qf_an : Ann := {}
def qf_c : Code := (match Try.f85.body with | some c => c | none => .skip)
def qf_a : StSh := ⟨.normal, [0, 1], (.cons (.sl true false yA) (.cons (.fn 86 .nil (.cons (.ptr 0 0 0 0) .nil)) .nil)), (.cons (.bcells 0 false 1 (.cons (.int .i64) .nil)) .nil)⟩
def qab_an : Ann := { live := [(0, [0, 1, 7, 8])] }
def qab_c : Code := (match Try.f111.body with | some c => c | none => .skip)
def qab_l0 : Code := (match assoc 0 (loopsIn qab_c 0) with | some c => c | none => .skip)
def qab_a : StSh := ⟨.normal, [0, 1], (.cons (.sl true false yA) (.cons (.fn 86 .nil (.cons (.ptr 0 0 0 0) .nil)) .nil)), (.cons (.bcells 0 false 1 (.cons (.int .i64) .nil)) .nil)⟩
def qbh_an : Ann := {}
def qbh_c : Code := (match Try.f86.body with | some c => c | none => .skip)
def qbh_a : StSh := ⟨.normal, [0, 1], (.cons (.sl true true yD) (.cons (.ptr 0 0 0 0) .nil)), (.cons (.bcells 0 false 1 (.cons (.int .i64) .nil)) .nil)⟩
def qby_an : Ann := {}
def qby_c : Code := (match Try.f87.body with | some c => c | none => .skip)
def qby_a : StSh := ⟨.normal, [0, 1, 2], (.cons (.sl true true yD) (.cons (.int .i64) (.cons (.int .i64) .nil))), .nil⟩
def qq_an : Ann := {}
def qq_c : Code := (match Try.f31.body with | some c => c | none => .skip)
def qq_a : StSh := ⟨.normal, [0, 1], (.cons (.sl true true yD) (.cons (.fn 112 .nil (.cons (.ptr 0 0 0 0) .nil)) .nil)), (.cons (.bcells 0 false 1 (.cons (.int .i64) .nil)) .nil)⟩
def qav_an : Ann := { live := [(0, [0, 1, 7, 8])] }
def qav_c : Code := (match Try.f83.body with | some c => c | none => .skip)
def qav_l0 : Code := (match assoc 0 (loopsIn qav_c 0) with | some c => c | none => .skip)
def qav_a : StSh := ⟨.normal, [0, 1], (.cons (.sl true true yD) (.cons (.fn 112 .nil (.cons (.ptr 0 0 0 0) .nil)) .nil)), (.cons (.bcells 0 false 1 (.cons (.int .i64) .nil)) .nil)⟩
def qbq_an : Ann := {}
def qbq_c : Code := (match Try.f112.body with | some c => c | none => .skip)
def qbq_a : StSh := ⟨.normal, [0, 1], (.cons (.agg (.cons (.int .i64) (.cons (.int .i64) .nil))) (.cons (.ptr 0 0 0 0) .nil)), (.cons (.bcells 0 false 1 (.cons (.int .i64) .nil)) .nil)⟩
def qch_an : Ann := {}
def qch_c : Code := (match Try.f92.body with | some c => c | none => .skip)
def qch_a : StSh := ⟨.normal, [0, 1], (.cons (.agg (.cons (.int .i64) (.cons (.int .i64) .nil))) (.cons (.int .i64) .nil)), .nil⟩
def qch_res : List StSh := [⟨.ret, [0], (.cons .bool .nil), .nil⟩]
def qch_tbl (n : Nat) : FuncId → List Entry := fun f => []
def qch_loops (n : Nat) : Nat → Option LEntry := fun f => none
theorem qch_run (n : Nat) (t_0 : Int) (t_0_1 : Int) (recs_1 : Int) : funDS (real _) tab (qch_tbl n) (qch_loops n) qch_an Try.f92 0 qch_a qch_res ((t_0, t_0_1), recs_1) some = qch n t_0 t_0_1 recs_1 := by kernel_rfl
def qch_E (n : Nat) : Entry := ⟨qch_a, qch_res, fun d => qch n d.1.1 d.1.2 d.2⟩
theorem qch_ok (n : Nat) : EOK Try.prog 92 (qch_E n) :=
 EOK.ofS zb zc ze (tbl := qch_tbl n) (loops := qch_loops n) (an := qch_an) (old := []) (n := n) (c := qch_c) (fn := Try.f92) TblOK.nil (by kernel_rfl) (by kernel_rfl) (by kernel_rfl) (by kernel_rfl) (fun d => by kernel_rfl) LT.nil (fun a => qch_run n a.1.1 a.1.2 a.2)
def qbq_res : List StSh := [⟨.ret, [0], (.cons .bool .nil), (.cons (.bcells 0 false 1 (.cons (.int .i64) .nil)) .nil)⟩]
def qbq_tbl (n : Nat) : FuncId → List Entry := fun f => bif Nat.beq f 92 then [qch_E n] else []
def qbq_loops (n : Nat) : Nat → Option LEntry := fun f => none
theorem qbq_run (n : Nat) (t_0 : Int) (t_0_1 : Int) (m0 : Int) : funDS (real _) tab (qbq_tbl n) (qbq_loops n) qbq_an Try.f112 1 qbq_a qbq_res ((t_0, t_0_1), m0) some = qbq n t_0 t_0_1 m0 := by kernel_rfl
def qbq_E (n : Nat) : Entry := ⟨qbq_a, qbq_res, fun d => qbq n d.1.1 d.1.2 d.2⟩
theorem qbq_ok (n : Nat) : EOK Try.prog 112 (qbq_E n) :=
 EOK.ofS zb zc ze (tbl := qbq_tbl n) (loops := qbq_loops n) (an := qbq_an) (old := [some true]) (n := n) (c := qbq_c) (fn := Try.f112) (TblOK.cons (AllE.cons (qch_ok n) AllE.nil) TblOK.nil) (by kernel_rfl) (by kernel_rfl) (by kernel_rfl) (by kernel_rfl) (fun d => by kernel_rfl) LT.nil (fun a => qbq_run n a.1.1 a.1.2 a.2)
def qav_h0 : List StSh := [⟨.normal, [0, 1, 7, 8], (.cons (.sl true true yD) (.cons (.fn 112 .nil (.cons (.ptr 0 0 0 0) .nil)) (.cons (.int .i64) (.cons (.int .i64) .nil)))), (.cons (.bcells 0 false 1 (.cons (.int .i64) .nil)) .nil)⟩]
def qav_o0 : List StSh := [⟨.ret, [4], (.cons (.int .i64) .nil), (.cons (.bcells 0 false 1 (.cons (.int .i64) .nil)) .nil)⟩, ⟨.exit 0, [], .nil, (.cons (.bcells 0 false 1 (.cons (.int .i64) .nil)) .nil)⟩]
def qav_L0 (n : Nat) : LEntry := ⟨qav_h0, qav_o0, qav_W0 n⟩
def qav_res : List StSh := [⟨.ret, [0], (.cons (.int .i64) .nil), (.cons (.bcells 0 false 1 (.cons (.int .i64) .nil)) .nil)⟩]
def qav_tbl (n : Nat) : FuncId → List Entry := fun f => bif Nat.beq f 112 then [qbq_E n] else []
def qav_loops (n : Nat) : Nat → Option LEntry := fun f => bif Nat.beq f 0 then some (qav_L0 n) else none
theorem qav_r0 (n : Nat) (s_0 : DA) (t7 : Int) (t8 : Int) (m0 : Int) : roundK (real _) tab (qav_tbl n) (qav_loops n) qav_an [some true] qav_l0 0 [0, 1, 7, 8] qav_h0 qav_o0 ((s_0, (t7, t8)), m0) some = qav_B0 n s_0 t7 t8 m0 := by kernel_rfl
theorem qav_f0 (n : Nat) : LoopFact tab (qav_tbl n) (qav_loops n) qav_an [some true] n 0 qav_l0 (qav_L0 n) := ⟨[0, 1, 7, 8], (fun s => qav_B0 n s.1.1 s.1.2.1 s.1.2.2 s.2), by kernel_rfl, by kernel_rfl, fun s => rfl, fun s => qav_r0 n s.1.1 s.1.2.1 s.1.2.2 s.2⟩
theorem qav_run (n : Nat) (s_0 : DA) (m0 : Int) : funDS (real _) tab (qav_tbl n) (qav_loops n) qav_an Try.f83 1 qav_a qav_res (s_0, m0) some = qav n s_0 m0 := by kernel_rfl
def qav_E (n : Nat) : Entry := ⟨qav_a, qav_res, fun d => qav n d.1 d.2⟩
theorem qav_ok (n : Nat) : EOK Try.prog 83 (qav_E n) :=
 EOK.ofS zb zc ze (tbl := qav_tbl n) (loops := qav_loops n) (an := qav_an) (old := [some true]) (n := n) (c := qav_c) (fn := Try.f83) (TblOK.cons (AllE.cons (qbq_ok n) AllE.nil) TblOK.nil) (by kernel_rfl) (by kernel_rfl) (by kernel_rfl) (by kernel_rfl) (fun d => by kernel_rfl) (LT.cons (by kernel_rfl) (qav_f0 n) LT.nil) (fun a => qav_run n a.1 a.2)
def qq_res : List StSh := [⟨.ret, [0], (.cons .bool .nil), (.cons (.bcells 0 false 1 (.cons (.int .i64) .nil)) .nil)⟩]
def qq_tbl (n : Nat) : FuncId → List Entry := fun f => bif Nat.beq f 83 then [qav_E n] else []
def qq_loops (n : Nat) : Nat → Option LEntry := fun f => none
theorem qq_run (n : Nat) (s_0 : DA) (m0 : Int) : funDS (real _) tab (qq_tbl n) (qq_loops n) qq_an Try.f31 1 qq_a qq_res (s_0, m0) some = qq n s_0 m0 := by kernel_rfl
def qq_E (n : Nat) : Entry := ⟨qq_a, qq_res, fun d => qq n d.1 d.2⟩
theorem qq_ok (n : Nat) : EOK Try.prog 31 (qq_E n) :=
 EOK.ofS zb zc ze (tbl := qq_tbl n) (loops := qq_loops n) (an := qq_an) (old := [some true]) (n := n) (c := qq_c) (fn := Try.f31) (TblOK.cons (AllE.cons (qav_ok n) AllE.nil) TblOK.nil) (by kernel_rfl) (by kernel_rfl) (by kernel_rfl) (by kernel_rfl) (fun d => by kernel_rfl) LT.nil (fun a => qq_run n a.1 a.2)
def qby_res : List StSh := [⟨.ret, [0], (.cons .bool .nil), .nil⟩]
def qby_tbl (n : Nat) : FuncId → List Entry := fun f => bif Nat.beq f 31 then [qq_E n] else []
def qby_loops (n : Nat) : Nat → Option LEntry := fun f => none
theorem qby_run (n : Nat) (list_0 : DA) (recs_1 : Int) (most_2 : Int) : funDS (real _) tab (qby_tbl n) (qby_loops n) qby_an Try.f87 0 qby_a qby_res (list_0, (recs_1, most_2)) some = qby n list_0 recs_1 most_2 := by kernel_rfl
def qby_E (n : Nat) : Entry := ⟨qby_a, qby_res, fun d => qby n d.1 d.2.1 d.2.2⟩
theorem qby_ok (n : Nat) : EOK Try.prog 87 (qby_E n) :=
 EOK.ofS zb zc ze (tbl := qby_tbl n) (loops := qby_loops n) (an := qby_an) (old := []) (n := n) (c := qby_c) (fn := Try.f87) (TblOK.cons (AllE.cons (qq_ok n) AllE.nil) TblOK.nil) (by kernel_rfl) (by kernel_rfl) (by kernel_rfl) (by kernel_rfl) (fun d => by kernel_rfl) LT.nil (fun a => qby_run n a.1 a.2.1 a.2.2)
def qbh_res : List StSh := [⟨.ret, [0], (.cons .bool .nil), (.cons (.bcells 0 false 1 (.cons (.int .i64) .nil)) .nil)⟩]
def qbh_tbl (n : Nat) : FuncId → List Entry := fun f => bif Nat.beq f 87 then [qby_E n] else []
def qbh_loops (n : Nat) : Nat → Option LEntry := fun f => none
theorem qbh_run (n : Nat) (l_0 : DA) (m0 : Int) : funDS (real _) tab (qbh_tbl n) (qbh_loops n) qbh_an Try.f86 1 qbh_a qbh_res (l_0, m0) some = qbh n l_0 m0 := by kernel_rfl
def qbh_E (n : Nat) : Entry := ⟨qbh_a, qbh_res, fun d => qbh n d.1 d.2⟩
theorem qbh_ok (n : Nat) : EOK Try.prog 86 (qbh_E n) :=
 EOK.ofS zb zc ze (tbl := qbh_tbl n) (loops := qbh_loops n) (an := qbh_an) (old := [some true]) (n := n) (c := qbh_c) (fn := Try.f86) (TblOK.cons (AllE.cons (qby_ok n) AllE.nil) TblOK.nil) (by kernel_rfl) (by kernel_rfl) (by kernel_rfl) (by kernel_rfl) (fun d => by kernel_rfl) LT.nil (fun a => qbh_run n a.1 a.2)
def qab_h0 : List StSh := [⟨.normal, [0, 1, 7, 8], (.cons (.sl true false yA) (.cons (.fn 86 .nil (.cons (.ptr 0 0 0 0) .nil)) (.cons (.int .i64) (.cons (.int .i64) .nil)))), (.cons (.bcells 0 false 1 (.cons (.int .i64) .nil)) .nil)⟩]
def qab_o0 : List StSh := [⟨.ret, [4], (.cons (.int .i64) .nil), (.cons (.bcells 0 false 1 (.cons (.int .i64) .nil)) .nil)⟩, ⟨.exit 0, [], .nil, (.cons (.bcells 0 false 1 (.cons (.int .i64) .nil)) .nil)⟩]
def qab_L0 (n : Nat) : LEntry := ⟨qab_h0, qab_o0, qab_W0 n⟩
def qab_res : List StSh := [⟨.ret, [0], (.cons (.int .i64) .nil), (.cons (.bcells 0 false 1 (.cons (.int .i64) .nil)) .nil)⟩]
def qab_tbl (n : Nat) : FuncId → List Entry := fun f => bif Nat.beq f 86 then [qbh_E n] else []
def qab_loops (n : Nat) : Nat → Option LEntry := fun f => bif Nat.beq f 0 then some (qab_L0 n) else none
theorem qab_r0 (n : Nat) (s_0 : DH) (t7 : Int) (t8 : Int) (m0 : Int) : roundK (real _) tab (qab_tbl n) (qab_loops n) qab_an [some true] qab_l0 0 [0, 1, 7, 8] qab_h0 qab_o0 ((s_0, (t7, t8)), m0) some = qab_B0 n s_0 t7 t8 m0 := by kernel_rfl
theorem qab_f0 (n : Nat) : LoopFact tab (qab_tbl n) (qab_loops n) qab_an [some true] n 0 qab_l0 (qab_L0 n) := ⟨[0, 1, 7, 8], (fun s => qab_B0 n s.1.1 s.1.2.1 s.1.2.2 s.2), by kernel_rfl, by kernel_rfl, fun s => rfl, fun s => qab_r0 n s.1.1 s.1.2.1 s.1.2.2 s.2⟩
theorem qab_run (n : Nat) (s_0 : DH) (m0 : Int) : funDS (real _) tab (qab_tbl n) (qab_loops n) qab_an Try.f111 1 qab_a qab_res (s_0, m0) some = qab n s_0 m0 := by kernel_rfl
def qab_E (n : Nat) : Entry := ⟨qab_a, qab_res, fun d => qab n d.1 d.2⟩
theorem qab_ok (n : Nat) : EOK Try.prog 111 (qab_E n) :=
 EOK.ofS zb zc ze (tbl := qab_tbl n) (loops := qab_loops n) (an := qab_an) (old := [some true]) (n := n) (c := qab_c) (fn := Try.f111) (TblOK.cons (AllE.cons (qbh_ok n) AllE.nil) TblOK.nil) (by kernel_rfl) (by kernel_rfl) (by kernel_rfl) (by kernel_rfl) (fun d => by kernel_rfl) (LT.cons (by kernel_rfl) (qab_f0 n) LT.nil) (fun a => qab_run n a.1 a.2)
def qf_res : List StSh := [⟨.ret, [0], (.cons .bool .nil), (.cons (.bcells 0 false 1 (.cons (.int .i64) .nil)) .nil)⟩]
def qf_tbl (n : Nat) : FuncId → List Entry := fun f => bif Nat.beq f 111 then [qab_E n] else []
def qf_loops (n : Nat) : Nat → Option LEntry := fun f => none
theorem qf_run (n : Nat) (s_0 : DH) (m0 : Int) : funDS (real _) tab (qf_tbl n) (qf_loops n) qf_an Try.f85 1 qf_a qf_res (s_0, m0) some = qf n s_0 m0 := by kernel_rfl
def qf_E (n : Nat) : Entry := ⟨qf_a, qf_res, fun d => qf n d.1 d.2⟩
theorem qf_ok (n : Nat) : EOK Try.prog 85 (qf_E n) :=
 EOK.ofS zb zc ze (tbl := qf_tbl n) (loops := qf_loops n) (an := qf_an) (old := [some true]) (n := n) (c := qf_c) (fn := Try.f85) (TblOK.cons (AllE.cons (qab_ok n) AllE.nil) TblOK.nil) (by kernel_rfl) (by kernel_rfl) (by kernel_rfl) (by kernel_rfl) (fun d => by kernel_rfl) LT.nil (fun a => qf_run n a.1 a.2)
def qv_an : Ann := {}
def qv_c : Code := (match Try.f88.body with | some c => c | none => .skip)
def qv_a : StSh := ⟨.normal, [0, 1], (.cons (.sl true true yB) (.cons (.fn 89 .nil (.cons (.ptr 0 0 0 0) .nil)) .nil)), (.cons (.bcells 0 false 1 (.cons (.int .i64) .nil)) .nil)⟩
def qax_an : Ann := { live := [(0, [0, 1, 7, 8])] }
def qax_c : Code := (match Try.f113.body with | some c => c | none => .skip)
def qax_l0 : Code := (match assoc 0 (loopsIn qax_c 0) with | some c => c | none => .skip)
def qax_a : StSh := ⟨.normal, [0, 1], (.cons (.sl true true yB) (.cons (.fn 89 .nil (.cons (.ptr 0 0 0 0) .nil)) .nil)), (.cons (.bcells 0 false 1 (.cons (.int .i64) .nil)) .nil)⟩
def qbi_an : Ann := {}
def qbi_c : Code := (match Try.f89.body with | some c => c | none => .skip)
def qbi_a : StSh := ⟨.normal, [0, 1], (.cons (.agg (.cons (.sl true true yD) (.cons (.int .i64) (.cons (.int .i64) (.cons (.sl true true yD) (.cons (.sl true true yE) .nil)))))) (.cons (.ptr 0 0 0 0) .nil)), (.cons (.bcells 0 false 1 (.cons (.int .i64) .nil)) .nil)⟩
def qak_an : Ann := {}
def qak_c : Code := (match Try.f90.body with | some c => c | none => .skip)
def qak_a : StSh := ⟨.normal, [0, 1], (.cons (.agg (.cons (.sl true true yD) (.cons (.int .i64) (.cons (.int .i64) (.cons (.sl true true yD) (.cons (.sl true true yE) .nil)))))) (.cons (.int .i64) .nil)), .nil⟩
def qi_an : Ann := {}
def qi_c : Code := (match Try.f30.body with | some c => c | none => .skip)
def qi_a : StSh := ⟨.normal, [0, 1], (.cons (.sl true true yE) (.cons (.fn 114 .nil .nil) .nil)), .nil⟩
def qaj_an : Ann := { live := [(0, [0, 1, 7, 8])] }
def qaj_c : Code := (match Try.f82.body with | some c => c | none => .skip)
def qaj_l0 : Code := (match assoc 0 (loopsIn qaj_c 0) with | some c => c | none => .skip)
def qaj_a : StSh := ⟨.normal, [0, 1], (.cons (.sl true true yE) (.cons (.fn 114 .nil .nil) .nil)), .nil⟩
def qah_an : Ann := {}
def qah_c : Code := (match Try.f114.body with | some c => c | none => .skip)
def qah_a : StSh := ⟨.normal, [0], (.cons (.agg (.cons (.int .i64) (.cons (.int .i64) (.cons (.int .i64) .nil)))) .nil), .nil⟩
def qco_an : Ann := { live := [(0, [4, 39, 40, 41])], boxed := [(4, 3), (9, 4)] }
def qco_c : Code := (match Try.f99.body with | some c => c | none => .skip)
def qco_l0 : Code := (match assoc 0 (loopsIn qco_c 0) with | some c => c | none => .skip)
def qco_a : StSh := ⟨.normal, [0], (.cons (.agg (.cons (.int .i64) (.cons (.int .i64) (.cons (.int .i64) .nil)))) .nil), .nil⟩
def qci_an : Ann := {}
def qci_c : Code := (match Try.f116.body with | some c => c | none => .skip)
def qci_a : StSh := ⟨.normal, [0], (.cons (.int .i64) .nil), .nil⟩
def qci_res : List StSh := [⟨.ret, [0], (.cons (.int .i64) .nil), .nil⟩]
def qci_tbl (n : Nat) : FuncId → List Entry := fun f => []
def qci_loops (n : Nat) : Nat → Option LEntry := fun f => none
theorem qci_run (n : Nat) (op_0 : Int) : funDS (real _) tab (qci_tbl n) (qci_loops n) qci_an Try.f116 0 qci_a qci_res op_0 some = qci n op_0 := by kernel_rfl
def qci_E (n : Nat) : Entry := ⟨qci_a, qci_res, fun d => qci n d⟩
theorem qci_ok (n : Nat) : EOK Try.prog 116 (qci_E n) :=
 EOK.ofS zb zc ze (tbl := qci_tbl n) (loops := qci_loops n) (an := qci_an) (old := []) (n := n) (c := qci_c) (fn := Try.f116) TblOK.nil (by kernel_rfl) (by kernel_rfl) (by kernel_rfl) (by kernel_rfl) (fun d => by kernel_rfl) LT.nil (fun a => qci_run n a)
def qcl_an : Ann := {}
def qcl_c : Code := (match Try.f117.body with | some c => c | none => .skip)
def qcl_a : StSh := ⟨.normal, [0, 1], (.cons (.int .i64) (.cons .bool .nil)), .nil⟩
def qcl_res : List StSh := [⟨.ret, [0], (.cons .bool .nil), .nil⟩]
def qcl_tbl (n : Nat) : FuncId → List Entry := fun f => []
def qcl_loops (n : Nat) : Nat → Option LEntry := fun f => none
theorem qcl_run (n : Nat) (n_0 : Int) (has_1 : Bool) : funDS (real _) tab (qcl_tbl n) (qcl_loops n) qcl_an Try.f117 0 qcl_a qcl_res (n_0, has_1) some = qcl n n_0 has_1 := by kernel_rfl
def qcl_E (n : Nat) : Entry := ⟨qcl_a, qcl_res, fun d => qcl n d.1 d.2⟩
theorem qcl_ok (n : Nat) : EOK Try.prog 117 (qcl_E n) :=
 EOK.ofS zb zc ze (tbl := qcl_tbl n) (loops := qcl_loops n) (an := qcl_an) (old := []) (n := n) (c := qcl_c) (fn := Try.f117) TblOK.nil (by kernel_rfl) (by kernel_rfl) (by kernel_rfl) (by kernel_rfl) (fun d => by kernel_rfl) LT.nil (fun a => qcl_run n a.1 a.2)
def qcq_an : Ann := { live := [(0, [0, 3])], boxed := [(0, 0), (1, 0), (4, 5), (5, 4)] }
def qcq_c : Code := (match Try.f95.body with | some c => c | none => .skip)
def qcq_l0 : Code := (match assoc 0 (loopsIn qcq_c 0) with | some c => c | none => .skip)
def qcq_a : StSh := ⟨.normal, [0], (.cons (.int .u64) .nil), .nil⟩
def qcq_h0 : List StSh := [⟨.normal, [0, 3], (.cons (.int .u64) (.cons (.msw 0 0) .nil)), (.cons (.bts 0 false false false (.int .u8)) .nil)⟩]
def qcq_o0 : List StSh := [⟨.exit 0, [0, 3], (.cons (.int .u64) (.cons (.msw 0 0) .nil)), (.cons (.bts 0 false false false (.int .u8)) .nil)⟩]
def qcq_L0 (n : Nat) : LEntry := ⟨qcq_h0, qcq_o0, qcq_W0 n⟩
def qcq_res : List StSh := [⟨.ret, [0], (.cons (.msw 0 0) .nil), (.cons (.bts 0 false false false (.int .u8)) .nil)⟩]
def qcq_tbl (n : Nat) : FuncId → List Entry := fun f => []
def qcq_loops (n : Nat) : Nat → Option LEntry := fun f => bif Nat.beq f 0 then some (qcq_L0 n) else none
theorem qcq_r0 (n : Nat) (v_0 : Int) (m0 : DC) : roundK (real _) tab (qcq_tbl n) (qcq_loops n) qcq_an [] qcq_l0 0 [0, 3] qcq_h0 qcq_o0 (v_0, m0) some = qcq_B0 n v_0 m0 := by kernel_rfl
theorem qcq_f0 (n : Nat) : LoopFact tab (qcq_tbl n) (qcq_loops n) qcq_an [] n 0 qcq_l0 (qcq_L0 n) := ⟨[0, 3], (fun s => qcq_B0 n s.1 s.2), by kernel_rfl, by kernel_rfl, fun s => rfl, fun s => qcq_r0 n s.1 s.2⟩
theorem qcq_run (n : Nat) (v_0 : Int) : funD (real _) tab (qcq_tbl n) (qcq_loops n) qcq_an Try.f95 qcq_a qcq_res v_0 some = qcq n v_0 := by kernel_rfl
def qcq_E (n : Nat) : Entry := ⟨qcq_a, qcq_res, fun d => qcq n d⟩
theorem qcq_ok (n : Nat) : EOK Try.prog 95 (qcq_E n) :=
 EOK.of zb zc ze (tbl := qcq_tbl n) (loops := qcq_loops n) (an := qcq_an) (old := []) (n := n) (c := qcq_c) (fn := Try.f95) TblOK.nil (by kernel_rfl) (by kernel_rfl) (by kernel_rfl) (by kernel_rfl) (fun d => by kernel_rfl) (LT.cons (by kernel_rfl) (qcq_f0 n) LT.nil) (fun a => qcq_run n a)
def qco_h0 : List StSh := [⟨.normal, [4, 39, 40, 41], (.cons (.msw 0 0) (.cons (.ms 1 0) (.cons (.int .i64) (.cons (.int .i64) .nil)))), (.cons (.bts 0 false false false (.int .u8)) (.cons (.bcells 0 false 1 (.cons (.int .i64) (.cons (.int .i64) .nil))) .nil))⟩]
def qco_o0 : List StSh := [⟨.exit 0, [4], (.cons (.msw 0 0) .nil), (.cons (.bts 0 false false false (.int .u8)) (.cons (.bcells 0 false 1 (.cons (.int .i64) (.cons (.int .i64) .nil))) .nil))⟩]
def qco_L0 (n : Nat) : LEntry := ⟨qco_h0, qco_o0, qco_W0 n⟩
def qco_res : List StSh := [⟨.ret, [0], (.cons (.sl false false (.int .u8)) .nil), .nil⟩]
def qco_tbl (n : Nat) : FuncId → List Entry := fun f => bif Nat.beq f 116 then [qci_E n] else bif Nat.beq f 117 then [qcl_E n] else bif Nat.beq f 95 then [qcq_E n] else []
def qco_loops (n : Nat) : Nat → Option LEntry := fun f => bif Nat.beq f 0 then some (qco_L0 n) else none
theorem qco_r0 (n : Nat) (t39 : Nat × Nat) (t40 : Int) (t41 : Int) (m0 : DC) (m1 : Int) (m1_1 : Int) : roundK (real _) tab (qco_tbl n) (qco_loops n) qco_an [] qco_l0 0 [4, 39, 40, 41] qco_h0 qco_o0 ((t39, (t40, t41)), (m0, (m1, m1_1))) some = qco_B0 n t39 t40 t41 m0 m1 m1_1 := by kernel_rfl
theorem qco_f0 (n : Nat) : LoopFact tab (qco_tbl n) (qco_loops n) qco_an [] n 0 qco_l0 (qco_L0 n) := ⟨[4, 39, 40, 41], (fun s => qco_B0 n s.1.1 s.1.2.1 s.1.2.2 s.2.1 s.2.2.1 s.2.2.2), by kernel_rfl, by kernel_rfl, fun s => rfl, fun s => qco_r0 n s.1.1 s.1.2.1 s.1.2.2 s.2.1 s.2.2.1 s.2.2.2⟩
theorem qco_run (n : Nat) (i_0 : Int) (i_0_1 : Int) (i_0_2 : Int) : funDS (real _) tab (qco_tbl n) (qco_loops n) qco_an Try.f99 0 qco_a qco_res (i_0, (i_0_1, i_0_2)) some = qco n i_0 i_0_1 i_0_2 := by kernel_rfl
def qco_E (n : Nat) : Entry := ⟨qco_a, qco_res, fun d => qco n d.1 d.2.1 d.2.2⟩
theorem qco_ok (n : Nat) : EOK Try.prog 99 (qco_E n) :=
 EOK.ofS zb zc ze (tbl := qco_tbl n) (loops := qco_loops n) (an := qco_an) (old := []) (n := n) (c := qco_c) (fn := Try.f99) (TblOK.cons (AllE.cons (qci_ok n) AllE.nil) (TblOK.cons (AllE.cons (qcl_ok n) AllE.nil) (TblOK.cons (AllE.cons (qcq_ok n) AllE.nil) TblOK.nil))) (by kernel_rfl) (by kernel_rfl) (by kernel_rfl) (by kernel_rfl) (fun d => by kernel_rfl) (LT.cons (by kernel_rfl) (qco_f0 n) LT.nil) (fun a => qco_run n a.1 a.2.1 a.2.2)
def qah_res : List StSh := [⟨.ret, [0], (.cons .bool .nil), .nil⟩]
def qah_tbl (n : Nat) : FuncId → List Entry := fun f => bif Nat.beq f 99 then [qco_E n] else []
def qah_loops (n : Nat) : Nat → Option LEntry := fun f => none
theorem qah_run (n : Nat) (i_0 : Int) (i_0_1 : Int) (i_0_2 : Int) : funDS (real _) tab (qah_tbl n) (qah_loops n) qah_an Try.f114 0 qah_a qah_res (i_0, (i_0_1, i_0_2)) some = qah n i_0 i_0_1 i_0_2 := by kernel_rfl
def qah_E (n : Nat) : Entry := ⟨qah_a, qah_res, fun d => qah n d.1 d.2.1 d.2.2⟩
theorem qah_ok (n : Nat) : EOK Try.prog 114 (qah_E n) :=
 EOK.ofS zb zc ze (tbl := qah_tbl n) (loops := qah_loops n) (an := qah_an) (old := []) (n := n) (c := qah_c) (fn := Try.f114) (TblOK.cons (AllE.cons (qco_ok n) AllE.nil) TblOK.nil) (by kernel_rfl) (by kernel_rfl) (by kernel_rfl) (by kernel_rfl) (fun d => by kernel_rfl) LT.nil (fun a => qah_run n a.1 a.2.1 a.2.2)
def qaj_h0 : List StSh := [⟨.normal, [0, 1, 7, 8], (.cons (.sl true true yE) (.cons (.fn 114 .nil .nil) (.cons (.int .i64) (.cons (.int .i64) .nil)))), .nil⟩]
def qaj_o0 : List StSh := [⟨.ret, [4], (.cons (.int .i64) .nil), .nil⟩, ⟨.exit 0, [], .nil, .nil⟩]
def qaj_L0 (n : Nat) : LEntry := ⟨qaj_h0, qaj_o0, qaj_W0 n⟩
def qaj_res : List StSh := [⟨.ret, [0], (.cons (.int .i64) .nil), .nil⟩]
def qaj_tbl (n : Nat) : FuncId → List Entry := fun f => bif Nat.beq f 114 then [qah_E n] else []
def qaj_loops (n : Nat) : Nat → Option LEntry := fun f => bif Nat.beq f 0 then some (qaj_L0 n) else none
theorem qaj_r0 (n : Nat) (s_0 : DB) (t7 : Int) (t8 : Int) : roundK (real _) tab (qaj_tbl n) (qaj_loops n) qaj_an [] qaj_l0 0 [0, 1, 7, 8] qaj_h0 qaj_o0 (s_0, (t7, t8)) some = qaj_B0 n s_0 t7 t8 := by kernel_rfl
theorem qaj_f0 (n : Nat) : LoopFact tab (qaj_tbl n) (qaj_loops n) qaj_an [] n 0 qaj_l0 (qaj_L0 n) := ⟨[0, 1, 7, 8], (fun s => qaj_B0 n s.1 s.2.1 s.2.2), by kernel_rfl, by kernel_rfl, fun s => rfl, fun s => qaj_r0 n s.1 s.2.1 s.2.2⟩
theorem qaj_run (n : Nat) (s_0 : DB) : funDS (real _) tab (qaj_tbl n) (qaj_loops n) qaj_an Try.f82 0 qaj_a qaj_res s_0 some = qaj n s_0 := by kernel_rfl
def qaj_E (n : Nat) : Entry := ⟨qaj_a, qaj_res, fun d => qaj n d⟩
theorem qaj_ok (n : Nat) : EOK Try.prog 82 (qaj_E n) :=
 EOK.ofS zb zc ze (tbl := qaj_tbl n) (loops := qaj_loops n) (an := qaj_an) (old := []) (n := n) (c := qaj_c) (fn := Try.f82) (TblOK.cons (AllE.cons (qah_ok n) AllE.nil) TblOK.nil) (by kernel_rfl) (by kernel_rfl) (by kernel_rfl) (by kernel_rfl) (fun d => by kernel_rfl) (LT.cons (by kernel_rfl) (qaj_f0 n) LT.nil) (fun a => qaj_run n a)
def qi_res : List StSh := [⟨.ret, [0], (.cons .bool .nil), .nil⟩]
def qi_tbl (n : Nat) : FuncId → List Entry := fun f => bif Nat.beq f 82 then [qaj_E n] else []
def qi_loops (n : Nat) : Nat → Option LEntry := fun f => none
theorem qi_run (n : Nat) (s_0 : DB) : funDS (real _) tab (qi_tbl n) (qi_loops n) qi_an Try.f30 0 qi_a qi_res s_0 some = qi n s_0 := by kernel_rfl
def qi_E (n : Nat) : Entry := ⟨qi_a, qi_res, fun d => qi n d⟩
theorem qi_ok (n : Nat) : EOK Try.prog 30 (qi_E n) :=
 EOK.ofS zb zc ze (tbl := qi_tbl n) (loops := qi_loops n) (an := qi_an) (old := []) (n := n) (c := qi_c) (fn := Try.f30) (TblOK.cons (AllE.cons (qaj_ok n) AllE.nil) TblOK.nil) (by kernel_rfl) (by kernel_rfl) (by kernel_rfl) (by kernel_rfl) (fun d => by kernel_rfl) LT.nil (fun a => qi_run n a)
def qak_res : List StSh := [⟨.ret, [0], (.cons .bool .nil), .nil⟩]
def qak_tbl (n : Nat) : FuncId → List Entry := fun f => bif Nat.beq f 87 then [qby_E n] else bif Nat.beq f 92 then [qch_E n] else bif Nat.beq f 30 then [qi_E n] else []
def qak_loops (n : Nat) : Nat → Option LEntry := fun f => none
theorem qak_run (n : Nat) (f_0 : DA) (f_0_1 : Int) (f_0_2 : Int) (f_0_3 : DA) (f_0_4 : DB) (recs_1 : Int) : funDS (real _) tab (qak_tbl n) (qak_loops n) qak_an Try.f90 0 qak_a qak_res ((f_0, (f_0_1, (f_0_2, (f_0_3, f_0_4)))), recs_1) some = qak n f_0 f_0_1 f_0_2 f_0_3 f_0_4 recs_1 := by kernel_rfl
def qak_E (n : Nat) : Entry := ⟨qak_a, qak_res, fun d => qak n d.1.1 d.1.2.1 d.1.2.2.1 d.1.2.2.2.1 d.1.2.2.2.2 d.2⟩
theorem qak_ok (n : Nat) : EOK Try.prog 90 (qak_E n) :=
 EOK.ofS zb zc ze (tbl := qak_tbl n) (loops := qak_loops n) (an := qak_an) (old := []) (n := n) (c := qak_c) (fn := Try.f90) (TblOK.cons (AllE.cons (qby_ok n) AllE.nil) (TblOK.cons (AllE.cons (qch_ok n) AllE.nil) (TblOK.cons (AllE.cons (qi_ok n) AllE.nil) TblOK.nil))) (by kernel_rfl) (by kernel_rfl) (by kernel_rfl) (by kernel_rfl) (fun d => by kernel_rfl) LT.nil (fun a => qak_run n a.1.1 a.1.2.1 a.1.2.2.1 a.1.2.2.2.1 a.1.2.2.2.2 a.2)
def qbi_res : List StSh := [⟨.ret, [0], (.cons .bool .nil), (.cons (.bcells 0 false 1 (.cons (.int .i64) .nil)) .nil)⟩]
def qbi_tbl (n : Nat) : FuncId → List Entry := fun f => bif Nat.beq f 90 then [qak_E n] else []
def qbi_loops (n : Nat) : Nat → Option LEntry := fun f => none
theorem qbi_run (n : Nat) (f_0 : DA) (f_0_1 : Int) (f_0_2 : Int) (f_0_3 : DA) (f_0_4 : DB) (m0 : Int) : funDS (real _) tab (qbi_tbl n) (qbi_loops n) qbi_an Try.f89 1 qbi_a qbi_res ((f_0, (f_0_1, (f_0_2, (f_0_3, f_0_4)))), m0) some = qbi n f_0 f_0_1 f_0_2 f_0_3 f_0_4 m0 := by kernel_rfl
def qbi_E (n : Nat) : Entry := ⟨qbi_a, qbi_res, fun d => qbi n d.1.1 d.1.2.1 d.1.2.2.1 d.1.2.2.2.1 d.1.2.2.2.2 d.2⟩
theorem qbi_ok (n : Nat) : EOK Try.prog 89 (qbi_E n) :=
 EOK.ofS zb zc ze (tbl := qbi_tbl n) (loops := qbi_loops n) (an := qbi_an) (old := [some true]) (n := n) (c := qbi_c) (fn := Try.f89) (TblOK.cons (AllE.cons (qak_ok n) AllE.nil) TblOK.nil) (by kernel_rfl) (by kernel_rfl) (by kernel_rfl) (by kernel_rfl) (fun d => by kernel_rfl) LT.nil (fun a => qbi_run n a.1.1 a.1.2.1 a.1.2.2.1 a.1.2.2.2.1 a.1.2.2.2.2 a.2)
def qax_h0 : List StSh := [⟨.normal, [0, 1, 7, 8], (.cons (.sl true true yB) (.cons (.fn 89 .nil (.cons (.ptr 0 0 0 0) .nil)) (.cons (.int .i64) (.cons (.int .i64) .nil)))), (.cons (.bcells 0 false 1 (.cons (.int .i64) .nil)) .nil)⟩]
def qax_o0 : List StSh := [⟨.ret, [4], (.cons (.int .i64) .nil), (.cons (.bcells 0 false 1 (.cons (.int .i64) .nil)) .nil)⟩, ⟨.exit 0, [], .nil, (.cons (.bcells 0 false 1 (.cons (.int .i64) .nil)) .nil)⟩]
def qax_L0 (n : Nat) : LEntry := ⟨qax_h0, qax_o0, qax_W0 n⟩
def qax_res : List StSh := [⟨.ret, [0], (.cons (.int .i64) .nil), (.cons (.bcells 0 false 1 (.cons (.int .i64) .nil)) .nil)⟩]
def qax_tbl (n : Nat) : FuncId → List Entry := fun f => bif Nat.beq f 89 then [qbi_E n] else []
def qax_loops (n : Nat) : Nat → Option LEntry := fun f => bif Nat.beq f 0 then some (qax_L0 n) else none
theorem qax_r0 (n : Nat) (s_0 : DI) (t7 : Int) (t8 : Int) (m0 : Int) : roundK (real _) tab (qax_tbl n) (qax_loops n) qax_an [some true] qax_l0 0 [0, 1, 7, 8] qax_h0 qax_o0 ((s_0, (t7, t8)), m0) some = qax_B0 n s_0 t7 t8 m0 := by kernel_rfl
theorem qax_f0 (n : Nat) : LoopFact tab (qax_tbl n) (qax_loops n) qax_an [some true] n 0 qax_l0 (qax_L0 n) := ⟨[0, 1, 7, 8], (fun s => qax_B0 n s.1.1 s.1.2.1 s.1.2.2 s.2), by kernel_rfl, by kernel_rfl, fun s => rfl, fun s => qax_r0 n s.1.1 s.1.2.1 s.1.2.2 s.2⟩
theorem qax_run (n : Nat) (s_0 : DI) (m0 : Int) : funDS (real _) tab (qax_tbl n) (qax_loops n) qax_an Try.f113 1 qax_a qax_res (s_0, m0) some = qax n s_0 m0 := by kernel_rfl
def qax_E (n : Nat) : Entry := ⟨qax_a, qax_res, fun d => qax n d.1 d.2⟩
theorem qax_ok (n : Nat) : EOK Try.prog 113 (qax_E n) :=
 EOK.ofS zb zc ze (tbl := qax_tbl n) (loops := qax_loops n) (an := qax_an) (old := [some true]) (n := n) (c := qax_c) (fn := Try.f113) (TblOK.cons (AllE.cons (qbi_ok n) AllE.nil) TblOK.nil) (by kernel_rfl) (by kernel_rfl) (by kernel_rfl) (by kernel_rfl) (fun d => by kernel_rfl) (LT.cons (by kernel_rfl) (qax_f0 n) LT.nil) (fun a => qax_run n a.1 a.2)
def qv_res : List StSh := [⟨.ret, [0], (.cons .bool .nil), (.cons (.bcells 0 false 1 (.cons (.int .i64) .nil)) .nil)⟩]
def qv_tbl (n : Nat) : FuncId → List Entry := fun f => bif Nat.beq f 113 then [qax_E n] else []
def qv_loops (n : Nat) : Nat → Option LEntry := fun f => none
theorem qv_run (n : Nat) (s_0 : DI) (m0 : Int) : funDS (real _) tab (qv_tbl n) (qv_loops n) qv_an Try.f88 1 qv_a qv_res (s_0, m0) some = qv n s_0 m0 := by kernel_rfl
def qv_E (n : Nat) : Entry := ⟨qv_a, qv_res, fun d => qv n d.1 d.2⟩
theorem qv_ok (n : Nat) : EOK Try.prog 88 (qv_E n) :=
 EOK.ofS zb zc ze (tbl := qv_tbl n) (loops := qv_loops n) (an := qv_an) (old := [some true]) (n := n) (c := qv_c) (fn := Try.f88) (TblOK.cons (AllE.cons (qax_ok n) AllE.nil) TblOK.nil) (by kernel_rfl) (by kernel_rfl) (by kernel_rfl) (by kernel_rfl) (fun d => by kernel_rfl) LT.nil (fun a => qv_run n a.1 a.2)
def qg_an : Ann := {}
def qg_c : Code := (match Try.f36.body with | some c => c | none => .skip)
def qg_a : StSh := ⟨.normal, [0, 1], (.cons (.sl true true yC) (.cons (.fn 91 .nil (.cons (.ptr 0 0 0 0) .nil)) .nil)), (.cons (.bcells 0 false 1 (.cons (.int .i64) .nil)) .nil)⟩
def qaa_an : Ann := { live := [(0, [0, 1, 7, 8])] }
def qaa_c : Code := (match Try.f84.body with | some c => c | none => .skip)
def qaa_l0 : Code := (match assoc 0 (loopsIn qaa_c 0) with | some c => c | none => .skip)
def qaa_a : StSh := ⟨.normal, [0, 1], (.cons (.sl true true yC) (.cons (.fn 91 .nil (.cons (.ptr 0 0 0 0) .nil)) .nil)), (.cons (.bcells 0 false 1 (.cons (.int .i64) .nil)) .nil)⟩
def qbp_an : Ann := {}
def qbp_c : Code := (match Try.f91.body with | some c => c | none => .skip)
def qbp_a : StSh := ⟨.normal, [0, 1], (.cons (.agg (.cons (.sl true true yD) (.cons (.int .i64) (.cons (.int .i64) .nil)))) (.cons (.ptr 0 0 0 0) .nil)), (.cons (.bcells 0 false 1 (.cons (.int .i64) .nil)) .nil)⟩
def qbp_res : List StSh := [⟨.ret, [0], (.cons .bool .nil), (.cons (.bcells 0 false 1 (.cons (.int .i64) .nil)) .nil)⟩]
def qbp_tbl (n : Nat) : FuncId → List Entry := fun f => bif Nat.beq f 87 then [qby_E n] else bif Nat.beq f 92 then [qch_E n] else []
def qbp_loops (n : Nat) : Nat → Option LEntry := fun f => none
theorem qbp_run (n : Nat) (i_0 : DA) (i_0_1 : Int) (i_0_2 : Int) (m0 : Int) : funDS (real _) tab (qbp_tbl n) (qbp_loops n) qbp_an Try.f91 1 qbp_a qbp_res ((i_0, (i_0_1, i_0_2)), m0) some = qbp n i_0 i_0_1 i_0_2 m0 := by kernel_rfl
def qbp_E (n : Nat) : Entry := ⟨qbp_a, qbp_res, fun d => qbp n d.1.1 d.1.2.1 d.1.2.2 d.2⟩
theorem qbp_ok (n : Nat) : EOK Try.prog 91 (qbp_E n) :=
 EOK.ofS zb zc ze (tbl := qbp_tbl n) (loops := qbp_loops n) (an := qbp_an) (old := [some true]) (n := n) (c := qbp_c) (fn := Try.f91) (TblOK.cons (AllE.cons (qby_ok n) AllE.nil) (TblOK.cons (AllE.cons (qch_ok n) AllE.nil) TblOK.nil)) (by kernel_rfl) (by kernel_rfl) (by kernel_rfl) (by kernel_rfl) (fun d => by kernel_rfl) LT.nil (fun a => qbp_run n a.1.1 a.1.2.1 a.1.2.2 a.2)
def qaa_h0 : List StSh := [⟨.normal, [0, 1, 7, 8], (.cons (.sl true true yC) (.cons (.fn 91 .nil (.cons (.ptr 0 0 0 0) .nil)) (.cons (.int .i64) (.cons (.int .i64) .nil)))), (.cons (.bcells 0 false 1 (.cons (.int .i64) .nil)) .nil)⟩]
def qaa_o0 : List StSh := [⟨.ret, [4], (.cons (.int .i64) .nil), (.cons (.bcells 0 false 1 (.cons (.int .i64) .nil)) .nil)⟩, ⟨.exit 0, [], .nil, (.cons (.bcells 0 false 1 (.cons (.int .i64) .nil)) .nil)⟩]
def qaa_L0 (n : Nat) : LEntry := ⟨qaa_h0, qaa_o0, qaa_W0 n⟩
def qaa_res : List StSh := [⟨.ret, [0], (.cons (.int .i64) .nil), (.cons (.bcells 0 false 1 (.cons (.int .i64) .nil)) .nil)⟩]
def qaa_tbl (n : Nat) : FuncId → List Entry := fun f => bif Nat.beq f 91 then [qbp_E n] else []
def qaa_loops (n : Nat) : Nat → Option LEntry := fun f => bif Nat.beq f 0 then some (qaa_L0 n) else none
theorem qaa_r0 (n : Nat) (s_0 : DJ) (t7 : Int) (t8 : Int) (m0 : Int) : roundK (real _) tab (qaa_tbl n) (qaa_loops n) qaa_an [some true] qaa_l0 0 [0, 1, 7, 8] qaa_h0 qaa_o0 ((s_0, (t7, t8)), m0) some = qaa_B0 n s_0 t7 t8 m0 := by kernel_rfl
theorem qaa_f0 (n : Nat) : LoopFact tab (qaa_tbl n) (qaa_loops n) qaa_an [some true] n 0 qaa_l0 (qaa_L0 n) := ⟨[0, 1, 7, 8], (fun s => qaa_B0 n s.1.1 s.1.2.1 s.1.2.2 s.2), by kernel_rfl, by kernel_rfl, fun s => rfl, fun s => qaa_r0 n s.1.1 s.1.2.1 s.1.2.2 s.2⟩
theorem qaa_run (n : Nat) (s_0 : DJ) (m0 : Int) : funDS (real _) tab (qaa_tbl n) (qaa_loops n) qaa_an Try.f84 1 qaa_a qaa_res (s_0, m0) some = qaa n s_0 m0 := by kernel_rfl
def qaa_E (n : Nat) : Entry := ⟨qaa_a, qaa_res, fun d => qaa n d.1 d.2⟩
theorem qaa_ok (n : Nat) : EOK Try.prog 84 (qaa_E n) :=
 EOK.ofS zb zc ze (tbl := qaa_tbl n) (loops := qaa_loops n) (an := qaa_an) (old := [some true]) (n := n) (c := qaa_c) (fn := Try.f84) (TblOK.cons (AllE.cons (qbp_ok n) AllE.nil) TblOK.nil) (by kernel_rfl) (by kernel_rfl) (by kernel_rfl) (by kernel_rfl) (fun d => by kernel_rfl) (LT.cons (by kernel_rfl) (qaa_f0 n) LT.nil) (fun a => qaa_run n a.1 a.2)
def qg_res : List StSh := [⟨.ret, [0], (.cons .bool .nil), (.cons (.bcells 0 false 1 (.cons (.int .i64) .nil)) .nil)⟩]
def qg_tbl (n : Nat) : FuncId → List Entry := fun f => bif Nat.beq f 84 then [qaa_E n] else []
def qg_loops (n : Nat) : Nat → Option LEntry := fun f => none
theorem qg_run (n : Nat) (s_0 : DJ) (m0 : Int) : funDS (real _) tab (qg_tbl n) (qg_loops n) qg_an Try.f36 1 qg_a qg_res (s_0, m0) some = qg n s_0 m0 := by kernel_rfl
def qg_E (n : Nat) : Entry := ⟨qg_a, qg_res, fun d => qg n d.1 d.2⟩
theorem qg_ok (n : Nat) : EOK Try.prog 36 (qg_E n) :=
 EOK.ofS zb zc ze (tbl := qg_tbl n) (loops := qg_loops n) (an := qg_an) (old := [some true]) (n := n) (c := qg_c) (fn := Try.f36) (TblOK.cons (AllE.cons (qaa_ok n) AllE.nil) TblOK.nil) (by kernel_rfl) (by kernel_rfl) (by kernel_rfl) (by kernel_rfl) (fun d => by kernel_rfl) LT.nil (fun a => qg_run n a.1 a.2)
def qe_an : Ann := {}
def qe_c : Code := (match Try.f93.body with | some c => c | none => .skip)
def qe_a : StSh := ⟨.normal, [0, 1], (.cons (.sl true false .str) (.cons (.fn 94 .nil .nil) .nil)), .nil⟩
def qad_an : Ann := { live := [(0, [0, 1, 7, 8])] }
def qad_c : Code := (match Try.f115.body with | some c => c | none => .skip)
def qad_l0 : Code := (match assoc 0 (loopsIn qad_c 0) with | some c => c | none => .skip)
def qad_a : StSh := ⟨.normal, [0, 1], (.cons (.sl true false .str) (.cons (.fn 94 .nil .nil) .nil)), .nil⟩
def qbk_an : Ann := {}
def qbk_c : Code := (match Try.f94.body with | some c => c | none => .skip)
def qbk_a : StSh := ⟨.normal, [0], (.cons .str .nil), .nil⟩
def qbk_res : List StSh := [⟨.ret, [0], (.cons .bool .nil), .nil⟩]
def qbk_tbl (n : Nat) : FuncId → List Entry := fun f => []
def qbk_loops (n : Nat) : Nat → Option LEntry := fun f => none
theorem qbk_run (n : Nat) (s_0 : ByteArray) : funDS (real _) tab (qbk_tbl n) (qbk_loops n) qbk_an Try.f94 0 qbk_a qbk_res s_0 some = qbk n s_0 := by kernel_rfl
def qbk_E (n : Nat) : Entry := ⟨qbk_a, qbk_res, fun d => qbk n d⟩
theorem qbk_ok (n : Nat) : EOK Try.prog 94 (qbk_E n) :=
 EOK.ofS zb zc ze (tbl := qbk_tbl n) (loops := qbk_loops n) (an := qbk_an) (old := []) (n := n) (c := qbk_c) (fn := Try.f94) TblOK.nil (by kernel_rfl) (by kernel_rfl) (by kernel_rfl) (by kernel_rfl) (fun d => by kernel_rfl) LT.nil (fun a => qbk_run n a)
def qad_h0 : List StSh := [⟨.normal, [0, 1, 7, 8], (.cons (.sl true false .str) (.cons (.fn 94 .nil .nil) (.cons (.int .i64) (.cons (.int .i64) .nil)))), .nil⟩]
def qad_o0 : List StSh := [⟨.ret, [4], (.cons (.int .i64) .nil), .nil⟩, ⟨.exit 0, [], .nil, .nil⟩]
def qad_L0 (n : Nat) : LEntry := ⟨qad_h0, qad_o0, qad_W0 n⟩
def qad_res : List StSh := [⟨.ret, [0], (.cons (.int .i64) .nil), .nil⟩]
def qad_tbl (n : Nat) : FuncId → List Entry := fun f => bif Nat.beq f 94 then [qbk_E n] else []
def qad_loops (n : Nat) : Nat → Option LEntry := fun f => bif Nat.beq f 0 then some (qad_L0 n) else none
theorem qad_r0 (n : Nat) (s_0 : DD) (t7 : Int) (t8 : Int) : roundK (real _) tab (qad_tbl n) (qad_loops n) qad_an [] qad_l0 0 [0, 1, 7, 8] qad_h0 qad_o0 (s_0, (t7, t8)) some = qad_B0 n s_0 t7 t8 := by kernel_rfl
theorem qad_f0 (n : Nat) : LoopFact tab (qad_tbl n) (qad_loops n) qad_an [] n 0 qad_l0 (qad_L0 n) := ⟨[0, 1, 7, 8], (fun s => qad_B0 n s.1 s.2.1 s.2.2), by kernel_rfl, by kernel_rfl, fun s => rfl, fun s => qad_r0 n s.1 s.2.1 s.2.2⟩
theorem qad_run (n : Nat) (s_0 : DD) : funDS (real _) tab (qad_tbl n) (qad_loops n) qad_an Try.f115 0 qad_a qad_res s_0 some = qad n s_0 := by kernel_rfl
def qad_E (n : Nat) : Entry := ⟨qad_a, qad_res, fun d => qad n d⟩
theorem qad_ok (n : Nat) : EOK Try.prog 115 (qad_E n) :=
 EOK.ofS zb zc ze (tbl := qad_tbl n) (loops := qad_loops n) (an := qad_an) (old := []) (n := n) (c := qad_c) (fn := Try.f115) (TblOK.cons (AllE.cons (qbk_ok n) AllE.nil) TblOK.nil) (by kernel_rfl) (by kernel_rfl) (by kernel_rfl) (by kernel_rfl) (fun d => by kernel_rfl) (LT.cons (by kernel_rfl) (qad_f0 n) LT.nil) (fun a => qad_run n a)
def qe_res : List StSh := [⟨.ret, [0], (.cons .bool .nil), .nil⟩]
def qe_tbl (n : Nat) : FuncId → List Entry := fun f => bif Nat.beq f 115 then [qad_E n] else []
def qe_loops (n : Nat) : Nat → Option LEntry := fun f => none
theorem qe_run (n : Nat) (s_0 : DD) : funDS (real _) tab (qe_tbl n) (qe_loops n) qe_an Try.f93 0 qe_a qe_res s_0 some = qe n s_0 := by kernel_rfl
def qe_E (n : Nat) : Entry := ⟨qe_a, qe_res, fun d => qe n d⟩
theorem qe_ok (n : Nat) : EOK Try.prog 93 (qe_E n) :=
 EOK.ofS zb zc ze (tbl := qe_tbl n) (loops := qe_loops n) (an := qe_an) (old := []) (n := n) (c := qe_c) (fn := Try.f93) (TblOK.cons (AllE.cons (qad_ok n) AllE.nil) TblOK.nil) (by kernel_rfl) (by kernel_rfl) (by kernel_rfl) (by kernel_rfl) (fun d => by kernel_rfl) LT.nil (fun a => qe_run n a)
def qbt_res : List StSh := [⟨.ret, [0], (.cons .bool .nil), .nil⟩]
def qbt_tbl (n : Nat) : FuncId → List Entry := fun f => bif Nat.beq f 85 then [qf_E n] else bif Nat.beq f 88 then [qv_E n] else bif Nat.beq f 36 then [qg_E n] else bif Nat.beq f 93 then [qe_E n] else []
def qbt_loops (n : Nat) : Nat → Option LEntry := fun f => none
theorem qbt_run (n : Nat) (t0 : DH) (t0_1 : DI) (t0_2 : DJ) (t0_3 : DC) (t0_4 : DD) : funDS (real _) tab (qbt_tbl n) (qbt_loops n) qbt_an Try.f39 0 qbt_a qbt_res (t0, (t0_1, (t0_2, (t0_3, t0_4)))) some = qbt n t0 t0_1 t0_2 t0_3 t0_4 := by kernel_rfl
def qbt_E (n : Nat) : Entry := ⟨qbt_a, qbt_res, fun d => qbt n d.1 d.2.1 d.2.2.1 d.2.2.2.1 d.2.2.2.2⟩
theorem qbt_ok (n : Nat) : EOK Try.prog 39 (qbt_E n) :=
 EOK.ofS zb zc ze (tbl := qbt_tbl n) (loops := qbt_loops n) (an := qbt_an) (old := []) (n := n) (c := qbt_c) (fn := Try.f39) (TblOK.cons (AllE.cons (qf_ok n) AllE.nil) (TblOK.cons (AllE.cons (qv_ok n) AllE.nil) (TblOK.cons (AllE.cons (qg_ok n) AllE.nil) (TblOK.cons (AllE.cons (qe_ok n) AllE.nil) TblOK.nil)))) (by kernel_rfl) (by kernel_rfl) (by kernel_rfl) (by kernel_rfl) (fun d => by kernel_rfl) LT.nil (fun a => qbt_run n a.1 a.2.1 a.2.2.1 a.2.2.2.1 a.2.2.2.2)
def qaq_an : Ann := { live := [(0, [3, 14, 15, 16])] }
def qaq_c : Code := (match Try.f41.body with | some c => c | none => .skip)
def qaq_l0 : Code := (match assoc 0 (loopsIn qaq_c 0) with | some c => c | none => .skip)
def qaq_a : StSh := ⟨.normal, [0], (.cons (.agg (.cons (.sl true false yA) (.cons (.sl true true yB) (.cons (.sl true true yC) (.cons (.sl true false (.int .u64)) (.cons (.sl true false .str) .nil)))))) .nil), .nil⟩
def qo_an : Ann := { boxed := [(0, 8)] }
def qo_c : Code := (match Try.f96.body with | some c => c | none => .skip)
def qo_a : StSh := ⟨.normal, [0, 1], (.cons (.ptr 0 0 0 0) (.cons (.int .i64) .nil)), (.cons (.bcells 0 false 1 (.cons .nilS .nil)) .nil)⟩
def qo_res : List StSh := [⟨.ret, [0], (.cons (.tup .nil) .nil), (.cons (.bcells 0 false 1 (.cons (.msw 1 0) .nil)) (.cons (.bts 0 false false false (.int .u8)) .nil))⟩]
def qo_tbl (n : Nat) : FuncId → List Entry := fun f => bif Nat.beq f 95 then [qcq_E n] else []
def qo_loops (n : Nat) : Nat → Option LEntry := fun f => none
theorem qo_run (n : Nat) (n_1 : Int) : funDS (real _) tab (qo_tbl n) (qo_loops n) qo_an Try.f96 1 qo_a qo_res n_1 some = qo n n_1 := by kernel_rfl
def qo_E (n : Nat) : Entry := ⟨qo_a, qo_res, fun d => qo n d⟩
theorem qo_ok (n : Nat) : EOK Try.prog 96 (qo_E n) :=
 EOK.ofS zb zc ze (tbl := qo_tbl n) (loops := qo_loops n) (an := qo_an) (old := [some true]) (n := n) (c := qo_c) (fn := Try.f96) (TblOK.cons (AllE.cons (qcq_ok n) AllE.nil) TblOK.nil) (by kernel_rfl) (by kernel_rfl) (by kernel_rfl) (by kernel_rfl) (fun d => by kernel_rfl) LT.nil (fun a => qo_run n a)
def qm_an : Ann := { live := [(0, [0, 10, 11, 12])], boxed := [(4, 7)] }
def qm_c : Code := (match Try.f97.body with | some c => c | none => .skip)
def qm_l0 : Code := (match assoc 0 (loopsIn qm_c 0) with | some c => c | none => .skip)
def qm_a : StSh := ⟨.normal, [0, 1], (.cons (.ptr 0 0 0 0) (.cons (.sl true true yD) .nil)), (.cons (.bcells 0 false 1 (.cons (.msw 1 0) .nil)) (.cons (.bts 0 false false false (.int .u8)) .nil))⟩
def qc_an : Ann := { boxed := [(0, 8)] }
def qc_c : Code := (match Try.f96.body with | some c => c | none => .skip)
def qc_a : StSh := ⟨.normal, [0, 1], (.cons (.ptr 0 0 0 0) (.cons (.int .i64) .nil)), (.cons (.bcells 0 false 1 (.cons (.msw 1 0) .nil)) (.cons (.bts 0 false false false (.int .u8)) .nil))⟩
def qc_res : List StSh := [⟨.ret, [0], (.cons (.tup .nil) .nil), (.cons (.bcells 0 false 1 (.cons (.msw 1 0) .nil)) (.cons (.bts 0 false false false (.int .u8)) .nil))⟩]
def qc_tbl (n : Nat) : FuncId → List Entry := fun f => bif Nat.beq f 95 then [qcq_E n] else []
def qc_loops (n : Nat) : Nat → Option LEntry := fun f => none
theorem qc_run (n : Nat) (n_1 : Int) (m1 : DC) : funDS (real _) tab (qc_tbl n) (qc_loops n) qc_an Try.f96 2 qc_a qc_res (n_1, m1) some = qc n n_1 m1 := by kernel_rfl
def qc_E (n : Nat) : Entry := ⟨qc_a, qc_res, fun d => qc n d.1 d.2⟩
theorem qc_ok (n : Nat) : EOK Try.prog 96 (qc_E n) :=
 EOK.ofS zb zc ze (tbl := qc_tbl n) (loops := qc_loops n) (an := qc_an) (old := [some true, some false]) (n := n) (c := qc_c) (fn := Try.f96) (TblOK.cons (AllE.cons (qcq_ok n) AllE.nil) TblOK.nil) (by kernel_rfl) (by kernel_rfl) (by kernel_rfl) (by kernel_rfl) (fun d => by kernel_rfl) LT.nil (fun a => qc_run n a.1 a.2)
def qcm_an : Ann := { raw := [(1, 4)] }
def qcm_c : Code := (match Try.f98.body with | some c => c | none => .skip)
def qcm_a : StSh := ⟨.normal, [0], (.cons (.agg (.cons (.int .i64) (.cons (.int .i64) .nil))) .nil), .nil⟩
def qcm_res : List StSh := [⟨.ret, [0], (.cons (.sl false false (.int .u8)) .nil), .nil⟩]
def qcm_tbl (n : Nat) : FuncId → List Entry := fun f => bif Nat.beq f 95 then [qcq_E n] else []
def qcm_loops (n : Nat) : Nat → Option LEntry := fun f => none
theorem qcm_run (n : Nat) (t_0 : Int) (t_0_1 : Int) : funDS (real _) tab (qcm_tbl n) (qcm_loops n) qcm_an Try.f98 0 qcm_a qcm_res (t_0, t_0_1) some = qcm n t_0 t_0_1 := by kernel_rfl
def qcm_E (n : Nat) : Entry := ⟨qcm_a, qcm_res, fun d => qcm n d.1 d.2⟩
theorem qcm_ok (n : Nat) : EOK Try.prog 98 (qcm_E n) :=
 EOK.ofS zb zc ze (tbl := qcm_tbl n) (loops := qcm_loops n) (an := qcm_an) (old := []) (n := n) (c := qcm_c) (fn := Try.f98) (TblOK.cons (AllE.cons (qcq_ok n) AllE.nil) TblOK.nil) (by kernel_rfl) (by kernel_rfl) (by kernel_rfl) (by kernel_rfl) (fun d => by kernel_rfl) LT.nil (fun a => qcm_run n a.1 a.2)
def qm_h0 : List StSh := [⟨.normal, [0, 10, 11, 12], (.cons (.ptr 0 0 0 0) (.cons (.sl true true yD) (.cons (.int .i64) (.cons (.int .i64) .nil)))), (.cons (.bcells 0 false 1 (.cons (.msw 1 0) .nil)) (.cons (.bts 0 false false false (.int .u8)) .nil))⟩]
def qm_o0 : List StSh := [⟨.exit 0, [], .nil, (.cons (.bcells 0 false 1 (.cons (.msw 1 0) .nil)) (.cons (.bts 0 false false false (.int .u8)) .nil))⟩]
def qm_L0 (n : Nat) : LEntry := ⟨qm_h0, qm_o0, qm_W0 n⟩
def qm_res : List StSh := [⟨.ret, [0], (.cons (.tup .nil) .nil), (.cons (.bcells 0 false 1 (.cons (.msw 1 0) .nil)) (.cons (.bts 0 false false false (.int .u8)) .nil))⟩]
def qm_tbl (n : Nat) : FuncId → List Entry := fun f => bif Nat.beq f 96 then [qc_E n] else bif Nat.beq f 98 then [qcm_E n] else []
def qm_loops (n : Nat) : Nat → Option LEntry := fun f => bif Nat.beq f 0 then some (qm_L0 n) else none
theorem qm_r0 (n : Nat) (t10 : DA) (t11 : Int) (t12 : Int) (m1 : DC) : roundK (real _) tab (qm_tbl n) (qm_loops n) qm_an [some true, some false] qm_l0 0 [0, 10, 11, 12] qm_h0 qm_o0 ((t10, (t11, t12)), m1) some = qm_B0 n t10 t11 t12 m1 := by kernel_rfl
theorem qm_f0 (n : Nat) : LoopFact tab (qm_tbl n) (qm_loops n) qm_an [some true, some false] n 0 qm_l0 (qm_L0 n) := ⟨[0, 10, 11, 12], (fun s => qm_B0 n s.1.1 s.1.2.1 s.1.2.2 s.2), by kernel_rfl, by kernel_rfl, fun s => rfl, fun s => qm_r0 n s.1.1 s.1.2.1 s.1.2.2 s.2⟩
theorem qm_run (n : Nat) (list_1 : DA) (m1 : DC) : funDS (real _) tab (qm_tbl n) (qm_loops n) qm_an Try.f97 2 qm_a qm_res (list_1, m1) some = qm n list_1 m1 := by kernel_rfl
def qm_E (n : Nat) : Entry := ⟨qm_a, qm_res, fun d => qm n d.1 d.2⟩
theorem qm_ok (n : Nat) : EOK Try.prog 97 (qm_E n) :=
 EOK.ofS zb zc ze (tbl := qm_tbl n) (loops := qm_loops n) (an := qm_an) (old := [some true, some false]) (n := n) (c := qm_c) (fn := Try.f97) (TblOK.cons (AllE.cons (qc_ok n) AllE.nil) (TblOK.cons (AllE.cons (qcm_ok n) AllE.nil) TblOK.nil)) (by kernel_rfl) (by kernel_rfl) (by kernel_rfl) (by kernel_rfl) (fun d => by kernel_rfl) (LT.cons (by kernel_rfl) (qm_f0 n) LT.nil) (fun a => qm_run n a.1 a.2)
def qaq_h0 : List StSh := [⟨.normal, [3, 14, 15, 16], (.cons (.ptr 0 0 0 0) (.cons (.sl true false yA) (.cons (.int .i64) (.cons (.int .i64) .nil)))), (.cons (.bcells 0 false 1 (.cons (.msw 1 0) .nil)) (.cons (.bts 0 false false false (.int .u8)) .nil))⟩]
def qaq_o0 : List StSh := [⟨.exit 0, [3], (.cons (.ptr 0 0 0 0) .nil), (.cons (.bcells 0 false 1 (.cons (.msw 1 0) .nil)) (.cons (.bts 0 false false false (.int .u8)) .nil))⟩]
def qaq_L0 (n : Nat) : LEntry := ⟨qaq_h0, qaq_o0, qaq_W0 n⟩
def qaq_res : List StSh := [⟨.ret, [0], (.cons (.sl false false (.int .u8)) .nil), .nil⟩]
def qaq_tbl (n : Nat) : FuncId → List Entry := fun f => bif Nat.beq f 96 then [qo_E n] else bif Nat.beq f 97 then [qm_E n] else []
def qaq_loops (n : Nat) : Nat → Option LEntry := fun f => bif Nat.beq f 0 then some (qaq_L0 n) else none
theorem qaq_r0 (n : Nat) (t14 : DH) (t15 : Int) (t16 : Int) (m1 : DC) : roundK (real _) tab (qaq_tbl n) (qaq_loops n) qaq_an [] qaq_l0 0 [3, 14, 15, 16] qaq_h0 qaq_o0 ((t14, (t15, t16)), m1) some = qaq_B0 n t14 t15 t16 m1 := by kernel_rfl
theorem qaq_f0 (n : Nat) : LoopFact tab (qaq_tbl n) (qaq_loops n) qaq_an [] n 0 qaq_l0 (qaq_L0 n) := ⟨[3, 14, 15, 16], (fun s => qaq_B0 n s.1.1 s.1.2.1 s.1.2.2 s.2), by kernel_rfl, by kernel_rfl, fun s => rfl, fun s => qaq_r0 n s.1.1 s.1.2.1 s.1.2.2 s.2⟩
theorem qaq_run (n : Nat) (m_0 : DH) (m_0_1 : DI) (m_0_2 : DJ) (m_0_3 : DC) (m_0_4 : DD) : funDS (real _) tab (qaq_tbl n) (qaq_loops n) qaq_an Try.f41 0 qaq_a qaq_res (m_0, (m_0_1, (m_0_2, (m_0_3, m_0_4)))) some = qaq n m_0 m_0_1 m_0_2 m_0_3 m_0_4 := by kernel_rfl
def qaq_E (n : Nat) : Entry := ⟨qaq_a, qaq_res, fun d => qaq n d.1 d.2.1 d.2.2.1 d.2.2.2.1 d.2.2.2.2⟩
theorem qaq_ok (n : Nat) : EOK Try.prog 41 (qaq_E n) :=
 EOK.ofS zb zc ze (tbl := qaq_tbl n) (loops := qaq_loops n) (an := qaq_an) (old := []) (n := n) (c := qaq_c) (fn := Try.f41) (TblOK.cons (AllE.cons (qo_ok n) AllE.nil) (TblOK.cons (AllE.cons (qm_ok n) AllE.nil) TblOK.nil)) (by kernel_rfl) (by kernel_rfl) (by kernel_rfl) (by kernel_rfl) (fun d => by kernel_rfl) (LT.cons (by kernel_rfl) (qaq_f0 n) LT.nil) (fun a => qaq_run n a.1 a.2.1 a.2.2.1 a.2.2.2.1 a.2.2.2.2)
def qz_an : Ann := { live := [(0, [3, 16, 17, 18]), (2, [3, 16, 17, 18, 47, 48, 49])], boxed := [(7, 8), (13, 7)] }
def qz_c : Code := (match Try.f42.body with | some c => c | none => .skip)
def qz_l0 : Code := (match assoc 0 (loopsIn qz_c 0) with | some c => c | none => .skip)
def qz_l2 : Code := (match assoc 2 (loopsIn qz_c 0) with | some c => c | none => .skip)
def qz_a : StSh := ⟨.normal, [0], (.cons (.agg (.cons (.sl true false yA) (.cons (.sl true true yB) (.cons (.sl true true yC) (.cons (.sl true false (.int .u64)) (.cons (.sl true false .str) .nil)))))) .nil), .nil⟩
def qz_h2 : List StSh := [⟨.normal, [3, 16, 17, 18, 47, 48, 49], (.cons (.ptr 0 0 0 0) (.cons (.sl true true yB) (.cons (.int .i64) (.cons (.int .i64) (.cons (.sl true true yE) (.cons (.int .i64) (.cons (.int .i64) .nil))))))), (.cons (.bcells 0 false 1 (.cons (.msw 1 0) .nil)) (.cons (.bts 0 false false false (.int .u8)) .nil))⟩]
def qz_o2 : List StSh := [⟨.exit 2, [3, 16, 17, 18], (.cons (.ptr 0 0 0 0) (.cons (.sl true true yB) (.cons (.int .i64) (.cons (.int .i64) .nil)))), (.cons (.bcells 0 false 1 (.cons (.msw 1 0) .nil)) (.cons (.bts 0 false false false (.int .u8)) .nil))⟩]
def qz_L2 (n : Nat) : LEntry := ⟨qz_h2, qz_o2, qz_W2 n⟩
def qz_h0 : List StSh := [⟨.normal, [3, 16, 17, 18], (.cons (.ptr 0 0 0 0) (.cons (.sl true true yB) (.cons (.int .i64) (.cons (.int .i64) .nil)))), (.cons (.bcells 0 false 1 (.cons (.msw 1 0) .nil)) (.cons (.bts 0 false false false (.int .u8)) .nil))⟩]
def qz_o0 : List StSh := [⟨.exit 0, [3], (.cons (.ptr 0 0 0 0) .nil), (.cons (.bcells 0 false 1 (.cons (.msw 1 0) .nil)) (.cons (.bts 0 false false false (.int .u8)) .nil))⟩]
def qz_L0 (n : Nat) : LEntry := ⟨qz_h0, qz_o0, qz_W0 n⟩
def qz_res : List StSh := [⟨.ret, [0], (.cons (.sl false false (.int .u8)) .nil), .nil⟩]
def qz_tbl (n : Nat) : FuncId → List Entry := fun f => bif Nat.beq f 96 then [qo_E n, qc_E n] else bif Nat.beq f 97 then [qm_E n] else bif Nat.beq f 98 then [qcm_E n] else bif Nat.beq f 99 then [qco_E n] else []
def qz_loops (n : Nat) : Nat → Option LEntry := fun f => bif Nat.beq f 2 then some (qz_L2 n) else bif Nat.beq f 0 then some (qz_L0 n) else none
theorem qz_r2 (n : Nat) (t16 : DI) (t17 : Int) (t18 : Int) (t47 : DB) (t48 : Int) (t49 : Int) (m1 : DC) : roundK (real _) tab (qz_tbl n) (qz_loops n) qz_an [] qz_l2 2 [3, 16, 17, 18, 47, 48, 49] qz_h2 qz_o2 ((t16, (t17, (t18, (t47, (t48, t49))))), m1) some = qz_B2 n t16 t17 t18 t47 t48 t49 m1 := by kernel_rfl
theorem qz_f2 (n : Nat) : LoopFact tab (qz_tbl n) (qz_loops n) qz_an [] n 2 qz_l2 (qz_L2 n) := ⟨[3, 16, 17, 18, 47, 48, 49], (fun s => qz_B2 n s.1.1 s.1.2.1 s.1.2.2.1 s.1.2.2.2.1 s.1.2.2.2.2.1 s.1.2.2.2.2.2 s.2), by kernel_rfl, by kernel_rfl, fun s => rfl, fun s => qz_r2 n s.1.1 s.1.2.1 s.1.2.2.1 s.1.2.2.2.1 s.1.2.2.2.2.1 s.1.2.2.2.2.2 s.2⟩
theorem qz_r0 (n : Nat) (t16 : DI) (t17 : Int) (t18 : Int) (m1 : DC) : roundK (real _) tab (qz_tbl n) (qz_loops n) qz_an [] qz_l0 0 [3, 16, 17, 18] qz_h0 qz_o0 ((t16, (t17, t18)), m1) some = qz_B0 n t16 t17 t18 m1 := by kernel_rfl
theorem qz_f0 (n : Nat) : LoopFact tab (qz_tbl n) (qz_loops n) qz_an [] n 0 qz_l0 (qz_L0 n) := ⟨[3, 16, 17, 18], (fun s => qz_B0 n s.1.1 s.1.2.1 s.1.2.2 s.2), by kernel_rfl, by kernel_rfl, fun s => rfl, fun s => qz_r0 n s.1.1 s.1.2.1 s.1.2.2 s.2⟩
theorem qz_run (n : Nat) (t0 : DH) (t0_1 : DI) (t0_2 : DJ) (t0_3 : DC) (t0_4 : DD) : funDS (real _) tab (qz_tbl n) (qz_loops n) qz_an Try.f42 0 qz_a qz_res (t0, (t0_1, (t0_2, (t0_3, t0_4)))) some = qz n t0 t0_1 t0_2 t0_3 t0_4 := by kernel_rfl
def qz_E (n : Nat) : Entry := ⟨qz_a, qz_res, fun d => qz n d.1 d.2.1 d.2.2.1 d.2.2.2.1 d.2.2.2.2⟩
theorem qz_ok (n : Nat) : EOK Try.prog 42 (qz_E n) :=
 EOK.ofS zb zc ze (tbl := qz_tbl n) (loops := qz_loops n) (an := qz_an) (old := []) (n := n) (c := qz_c) (fn := Try.f42) (TblOK.cons (AllE.cons (qo_ok n) (AllE.cons (qc_ok n) AllE.nil)) (TblOK.cons (AllE.cons (qm_ok n) AllE.nil) (TblOK.cons (AllE.cons (qcm_ok n) AllE.nil) (TblOK.cons (AllE.cons (qco_ok n) AllE.nil) TblOK.nil)))) (by kernel_rfl) (by kernel_rfl) (by kernel_rfl) (by kernel_rfl) (fun d => by kernel_rfl) (LT.cons (by kernel_rfl) (qz_f2 n) (LT.cons (by kernel_rfl) (qz_f0 n) LT.nil)) (fun a => qz_run n a.1 a.2.1 a.2.2.1 a.2.2.2.1 a.2.2.2.2)
def qao_an : Ann := { live := [(0, [3, 14, 15, 16])], boxed := [(7, 8)] }
def qao_c : Code := (match Try.f43.body with | some c => c | none => .skip)
def qao_l0 : Code := (match assoc 0 (loopsIn qao_c 0) with | some c => c | none => .skip)
def qao_a : StSh := ⟨.normal, [0], (.cons (.agg (.cons (.sl true false yA) (.cons (.sl true true yB) (.cons (.sl true true yC) (.cons (.sl true false (.int .u64)) (.cons (.sl true false .str) .nil)))))) .nil), .nil⟩
def qao_h0 : List StSh := [⟨.normal, [3, 14, 15, 16], (.cons (.ptr 0 0 0 0) (.cons (.sl true true yC) (.cons (.int .i64) (.cons (.int .i64) .nil)))), (.cons (.bcells 0 false 1 (.cons (.msw 1 0) .nil)) (.cons (.bts 0 false false false (.int .u8)) .nil))⟩]
def qao_o0 : List StSh := [⟨.exit 0, [3], (.cons (.ptr 0 0 0 0) .nil), (.cons (.bcells 0 false 1 (.cons (.msw 1 0) .nil)) (.cons (.bts 0 false false false (.int .u8)) .nil))⟩]
def qao_L0 (n : Nat) : LEntry := ⟨qao_h0, qao_o0, qao_W0 n⟩
def qao_res : List StSh := [⟨.ret, [0], (.cons (.sl false false (.int .u8)) .nil), .nil⟩]
def qao_tbl (n : Nat) : FuncId → List Entry := fun f => bif Nat.beq f 96 then [qo_E n] else bif Nat.beq f 97 then [qm_E n] else bif Nat.beq f 98 then [qcm_E n] else []
def qao_loops (n : Nat) : Nat → Option LEntry := fun f => bif Nat.beq f 0 then some (qao_L0 n) else none
theorem qao_r0 (n : Nat) (t14 : DJ) (t15 : Int) (t16 : Int) (m1 : DC) : roundK (real _) tab (qao_tbl n) (qao_loops n) qao_an [] qao_l0 0 [3, 14, 15, 16] qao_h0 qao_o0 ((t14, (t15, t16)), m1) some = qao_B0 n t14 t15 t16 m1 := by kernel_rfl
theorem qao_f0 (n : Nat) : LoopFact tab (qao_tbl n) (qao_loops n) qao_an [] n 0 qao_l0 (qao_L0 n) := ⟨[3, 14, 15, 16], (fun s => qao_B0 n s.1.1 s.1.2.1 s.1.2.2 s.2), by kernel_rfl, by kernel_rfl, fun s => rfl, fun s => qao_r0 n s.1.1 s.1.2.1 s.1.2.2 s.2⟩
theorem qao_run (n : Nat) (m_0 : DH) (m_0_1 : DI) (m_0_2 : DJ) (m_0_3 : DC) (m_0_4 : DD) : funDS (real _) tab (qao_tbl n) (qao_loops n) qao_an Try.f43 0 qao_a qao_res (m_0, (m_0_1, (m_0_2, (m_0_3, m_0_4)))) some = qao n m_0 m_0_1 m_0_2 m_0_3 m_0_4 := by kernel_rfl
def qao_E (n : Nat) : Entry := ⟨qao_a, qao_res, fun d => qao n d.1 d.2.1 d.2.2.1 d.2.2.2.1 d.2.2.2.2⟩
theorem qao_ok (n : Nat) : EOK Try.prog 43 (qao_E n) :=
 EOK.ofS zb zc ze (tbl := qao_tbl n) (loops := qao_loops n) (an := qao_an) (old := []) (n := n) (c := qao_c) (fn := Try.f43) (TblOK.cons (AllE.cons (qo_ok n) AllE.nil) (TblOK.cons (AllE.cons (qm_ok n) AllE.nil) (TblOK.cons (AllE.cons (qcm_ok n) AllE.nil) TblOK.nil))) (by kernel_rfl) (by kernel_rfl) (by kernel_rfl) (by kernel_rfl) (fun d => by kernel_rfl) (LT.cons (by kernel_rfl) (qao_f0 n) LT.nil) (fun a => qao_run n a.1 a.2.1 a.2.2.1 a.2.2.2.1 a.2.2.2.2)
def qas_an : Ann := { live := [(0, [3, 14, 15, 16])], boxed := [(6, 7)] }
def qas_c : Code := (match Try.f44.body with | some c => c | none => .skip)
def qas_l0 : Code := (match assoc 0 (loopsIn qas_c 0) with | some c => c | none => .skip)
def qas_a : StSh := ⟨.normal, [0], (.cons (.agg (.cons (.sl true false yA) (.cons (.sl true true yB) (.cons (.sl true true yC) (.cons (.sl true false (.int .u64)) (.cons (.sl true false .str) .nil)))))) .nil), .nil⟩
def qck_an : Ann := { live := [(0, [0, 5, 9, 10])], boxed := [(1, 0), (5, 7)] }
def qck_c : Code := (match Try.f100.body with | some c => c | none => .skip)
def qck_l0 : Code := (match assoc 0 (loopsIn qck_c 0) with | some c => c | none => .skip)
def qck_a : StSh := ⟨.normal, [0, 1], (.cons (.int .u64) (.cons (.int .i64) .nil)), .nil⟩
def qck_h0 : List StSh := [⟨.normal, [0, 5, 9, 10], (.cons (.int .u64) (.cons (.msw 0 0) (.cons (.int .i64) (.cons (.int .i64) .nil)))), (.cons (.bts 0 false false false (.int .u8)) .nil)⟩]
def qck_o0 : List StSh := [⟨.exit 0, [5], (.cons (.msw 0 0) .nil), (.cons (.bts 0 false false false (.int .u8)) .nil)⟩]
def qck_L0 (n : Nat) : LEntry := ⟨qck_h0, qck_o0, qck_W0 n⟩
def qck_res : List StSh := [⟨.ret, [0], (.cons (.sl false false (.int .u8)) .nil), .nil⟩]
def qck_tbl (n : Nat) : FuncId → List Entry := fun f => []
def qck_loops (n : Nat) : Nat → Option LEntry := fun f => bif Nat.beq f 0 then some (qck_L0 n) else none
theorem qck_r0 (n : Nat) (v_0 : Int) (t9 : Int) (t10 : Int) (m0 : DC) : roundK (real _) tab (qck_tbl n) (qck_loops n) qck_an [] qck_l0 0 [0, 5, 9, 10] qck_h0 qck_o0 ((v_0, (t9, t10)), m0) some = qck_B0 n v_0 t9 t10 m0 := by kernel_rfl
theorem qck_f0 (n : Nat) : LoopFact tab (qck_tbl n) (qck_loops n) qck_an [] n 0 qck_l0 (qck_L0 n) := ⟨[0, 5, 9, 10], (fun s => qck_B0 n s.1.1 s.1.2.1 s.1.2.2 s.2), by kernel_rfl, by kernel_rfl, fun s => rfl, fun s => qck_r0 n s.1.1 s.1.2.1 s.1.2.2 s.2⟩
theorem qck_run (n : Nat) (v_0 : Int) (n_1 : Int) : funDS (real _) tab (qck_tbl n) (qck_loops n) qck_an Try.f100 0 qck_a qck_res (v_0, n_1) some = qck n v_0 n_1 := by kernel_rfl
def qck_E (n : Nat) : Entry := ⟨qck_a, qck_res, fun d => qck n d.1 d.2⟩
theorem qck_ok (n : Nat) : EOK Try.prog 100 (qck_E n) :=
 EOK.ofS zb zc ze (tbl := qck_tbl n) (loops := qck_loops n) (an := qck_an) (old := []) (n := n) (c := qck_c) (fn := Try.f100) TblOK.nil (by kernel_rfl) (by kernel_rfl) (by kernel_rfl) (by kernel_rfl) (fun d => by kernel_rfl) (LT.cons (by kernel_rfl) (qck_f0 n) LT.nil) (fun a => qck_run n a.1 a.2)
def qas_h0 : List StSh := [⟨.normal, [3, 14, 15, 16], (.cons (.ptr 0 0 0 0) (.cons (.sl true false (.int .u64)) (.cons (.int .i64) (.cons (.int .i64) .nil)))), (.cons (.bcells 0 false 1 (.cons (.msw 1 0) .nil)) (.cons (.bts 0 false false false (.int .u8)) .nil))⟩]
def qas_o0 : List StSh := [⟨.exit 0, [3], (.cons (.ptr 0 0 0 0) .nil), (.cons (.bcells 0 false 1 (.cons (.msw 1 0) .nil)) (.cons (.bts 0 false false false (.int .u8)) .nil))⟩]
def qas_L0 (n : Nat) : LEntry := ⟨qas_h0, qas_o0, qas_W0 n⟩
def qas_res : List StSh := [⟨.ret, [0], (.cons (.sl false false (.int .u8)) .nil), .nil⟩]
def qas_tbl (n : Nat) : FuncId → List Entry := fun f => bif Nat.beq f 96 then [qo_E n] else bif Nat.beq f 100 then [qck_E n] else []
def qas_loops (n : Nat) : Nat → Option LEntry := fun f => bif Nat.beq f 0 then some (qas_L0 n) else none
theorem qas_r0 (n : Nat) (t14 : DC) (t15 : Int) (t16 : Int) (m1 : DC) : roundK (real _) tab (qas_tbl n) (qas_loops n) qas_an [] qas_l0 0 [3, 14, 15, 16] qas_h0 qas_o0 ((t14, (t15, t16)), m1) some = qas_B0 n t14 t15 t16 m1 := by kernel_rfl
theorem qas_f0 (n : Nat) : LoopFact tab (qas_tbl n) (qas_loops n) qas_an [] n 0 qas_l0 (qas_L0 n) := ⟨[3, 14, 15, 16], (fun s => qas_B0 n s.1.1 s.1.2.1 s.1.2.2 s.2), by kernel_rfl, by kernel_rfl, fun s => rfl, fun s => qas_r0 n s.1.1 s.1.2.1 s.1.2.2 s.2⟩
theorem qas_run (n : Nat) (m_0 : DH) (m_0_1 : DI) (m_0_2 : DJ) (m_0_3 : DC) (m_0_4 : DD) : funDS (real _) tab (qas_tbl n) (qas_loops n) qas_an Try.f44 0 qas_a qas_res (m_0, (m_0_1, (m_0_2, (m_0_3, m_0_4)))) some = qas n m_0 m_0_1 m_0_2 m_0_3 m_0_4 := by kernel_rfl
def qas_E (n : Nat) : Entry := ⟨qas_a, qas_res, fun d => qas n d.1 d.2.1 d.2.2.1 d.2.2.2.1 d.2.2.2.2⟩
theorem qas_ok (n : Nat) : EOK Try.prog 44 (qas_E n) :=
 EOK.ofS zb zc ze (tbl := qas_tbl n) (loops := qas_loops n) (an := qas_an) (old := []) (n := n) (c := qas_c) (fn := Try.f44) (TblOK.cons (AllE.cons (qo_ok n) AllE.nil) (TblOK.cons (AllE.cons (qck_ok n) AllE.nil) TblOK.nil)) (by kernel_rfl) (by kernel_rfl) (by kernel_rfl) (by kernel_rfl) (fun d => by kernel_rfl) (LT.cons (by kernel_rfl) (qas_f0 n) LT.nil) (fun a => qas_run n a.1 a.2.1 a.2.2.1 a.2.2.2.1 a.2.2.2.2)
def qbm_an : Ann := { live := [(0, [3, 14, 15, 16])], boxed := [(7, 6)] }
def qbm_c : Code := (match Try.f45.body with | some c => c | none => .skip)
def qbm_l0 : Code := (match assoc 0 (loopsIn qbm_c 0) with | some c => c | none => .skip)
def qbm_a : StSh := ⟨.normal, [0], (.cons (.agg (.cons (.sl true false yA) (.cons (.sl true true yB) (.cons (.sl true true yC) (.cons (.sl true false (.int .u64)) (.cons (.sl true false .str) .nil)))))) .nil), .nil⟩
def qbm_h0 : List StSh := [⟨.normal, [3, 14, 15, 16], (.cons (.ptr 0 0 0 0) (.cons (.sl true false .str) (.cons (.int .i64) (.cons (.int .i64) .nil)))), (.cons (.bcells 0 false 1 (.cons (.msw 1 0) .nil)) (.cons (.bts 0 false false false (.int .u8)) .nil))⟩]
def qbm_o0 : List StSh := [⟨.exit 0, [3], (.cons (.ptr 0 0 0 0) .nil), (.cons (.bcells 0 false 1 (.cons (.msw 1 0) .nil)) (.cons (.bts 0 false false false (.int .u8)) .nil))⟩]
def qbm_L0 (n : Nat) : LEntry := ⟨qbm_h0, qbm_o0, qbm_W0 n⟩
def qbm_res : List StSh := [⟨.ret, [0], (.cons (.sl false false (.int .u8)) .nil), .nil⟩]
def qbm_tbl (n : Nat) : FuncId → List Entry := fun f => bif Nat.beq f 96 then [qo_E n, qc_E n] else []
def qbm_loops (n : Nat) : Nat → Option LEntry := fun f => bif Nat.beq f 0 then some (qbm_L0 n) else none
theorem qbm_r0 (n : Nat) (t14 : DD) (t15 : Int) (t16 : Int) (m1 : DC) : roundK (real _) tab (qbm_tbl n) (qbm_loops n) qbm_an [] qbm_l0 0 [3, 14, 15, 16] qbm_h0 qbm_o0 ((t14, (t15, t16)), m1) some = qbm_B0 n t14 t15 t16 m1 := by kernel_rfl
theorem qbm_f0 (n : Nat) : LoopFact tab (qbm_tbl n) (qbm_loops n) qbm_an [] n 0 qbm_l0 (qbm_L0 n) := ⟨[3, 14, 15, 16], (fun s => qbm_B0 n s.1.1 s.1.2.1 s.1.2.2 s.2), by kernel_rfl, by kernel_rfl, fun s => rfl, fun s => qbm_r0 n s.1.1 s.1.2.1 s.1.2.2 s.2⟩
theorem qbm_run (n : Nat) (m_0 : DH) (m_0_1 : DI) (m_0_2 : DJ) (m_0_3 : DC) (m_0_4 : DD) : funDS (real _) tab (qbm_tbl n) (qbm_loops n) qbm_an Try.f45 0 qbm_a qbm_res (m_0, (m_0_1, (m_0_2, (m_0_3, m_0_4)))) some = qbm n m_0 m_0_1 m_0_2 m_0_3 m_0_4 := by kernel_rfl
def qbm_E (n : Nat) : Entry := ⟨qbm_a, qbm_res, fun d => qbm n d.1 d.2.1 d.2.2.1 d.2.2.2.1 d.2.2.2.2⟩
theorem qbm_ok (n : Nat) : EOK Try.prog 45 (qbm_E n) :=
 EOK.ofS zb zc ze (tbl := qbm_tbl n) (loops := qbm_loops n) (an := qbm_an) (old := []) (n := n) (c := qbm_c) (fn := Try.f45) (TblOK.cons (AllE.cons (qo_ok n) (AllE.cons (qc_ok n) AllE.nil)) TblOK.nil) (by kernel_rfl) (by kernel_rfl) (by kernel_rfl) (by kernel_rfl) (fun d => by kernel_rfl) (LT.cons (by kernel_rfl) (qbm_f0 n) LT.nil) (fun a => qbm_run n a.1 a.2.1 a.2.2.1 a.2.2.2.1 a.2.2.2.2)
def qcj_an : Ann := { live := [(0, [3, 10, 11, 12])], boxed := [(5, 5), (6, 2)], raw := [(1, 3)] }
def qcj_c : Code := (match Try.f40.body with | some c => c | none => .skip)
def qcj_l0 : Code := (match assoc 0 (loopsIn qcj_c 0) with | some c => c | none => .skip)
def qcj_a : StSh := ⟨.normal, [0], (.cons (.sl true false yF) .nil), .nil⟩
def qcj_h0 : List StSh := [⟨.normal, [3, 10, 11, 12], (.cons (.msw 0 0) (.cons (.sl true false yF) (.cons (.int .i64) (.cons (.int .i64) .nil)))), (.cons (.bts 0 false false false (.int .u8)) .nil)⟩]
def qcj_o0 : List StSh := [⟨.exit 0, [3], (.cons (.msw 0 0) .nil), (.cons (.bts 0 false false false (.int .u8)) .nil)⟩]
def qcj_L0 (n : Nat) : LEntry := ⟨qcj_h0, qcj_o0, qcj_W0 n⟩
def qcj_res : List StSh := [⟨.ret, [0], (.cons (.sl false false (.int .u8)) .nil), .nil⟩]
def qcj_tbl (n : Nat) : FuncId → List Entry := fun f => bif Nat.beq f 95 then [qcq_E n] else []
def qcj_loops (n : Nat) : Nat → Option LEntry := fun f => bif Nat.beq f 0 then some (qcj_L0 n) else none
theorem qcj_r0 (n : Nat) (t10 : DK) (t11 : Int) (t12 : Int) (m0 : DC) : roundK (real _) tab (qcj_tbl n) (qcj_loops n) qcj_an [] qcj_l0 0 [3, 10, 11, 12] qcj_h0 qcj_o0 ((t10, (t11, t12)), m0) some = qcj_B0 n t10 t11 t12 m0 := by kernel_rfl
theorem qcj_f0 (n : Nat) : LoopFact tab (qcj_tbl n) (qcj_loops n) qcj_an [] n 0 qcj_l0 (qcj_L0 n) := ⟨[3, 10, 11, 12], (fun s => qcj_B0 n s.1.1 s.1.2.1 s.1.2.2 s.2), by kernel_rfl, by kernel_rfl, fun s => rfl, fun s => qcj_r0 n s.1.1 s.1.2.1 s.1.2.2 s.2⟩
theorem qcj_run (n : Nat) (parts_0 : DK) : funDS (real _) tab (qcj_tbl n) (qcj_loops n) qcj_an Try.f40 0 qcj_a qcj_res parts_0 some = qcj n parts_0 := by kernel_rfl
def qcj_E (n : Nat) : Entry := ⟨qcj_a, qcj_res, fun d => qcj n d⟩
theorem qcj_ok (n : Nat) : EOK Try.prog 40 (qcj_E n) :=
 EOK.ofS zb zc ze (tbl := qcj_tbl n) (loops := qcj_loops n) (an := qcj_an) (old := []) (n := n) (c := qcj_c) (fn := Try.f40) (TblOK.cons (AllE.cons (qcq_ok n) AllE.nil) TblOK.nil) (by kernel_rfl) (by kernel_rfl) (by kernel_rfl) (by kernel_rfl) (fun d => by kernel_rfl) (LT.cons (by kernel_rfl) (qcj_f0 n) LT.nil) (fun a => qcj_run n a)
def qbe_res : List StSh := [⟨.ret, [0], (.cons (.tup (.cons (.sl false false (.int .u8)) (.cons (.int .i64) .nil))) .nil), .nil⟩]
def qbe_tbl (n : Nat) : FuncId → List Entry := fun f => bif Nat.beq f 39 then [qbt_E n] else bif Nat.beq f 41 then [qaq_E n] else bif Nat.beq f 42 then [qz_E n] else bif Nat.beq f 43 then [qao_E n] else bif Nat.beq f 44 then [qas_E n] else bif Nat.beq f 45 then [qbm_E n] else bif Nat.beq f 40 then [qcj_E n] else []
def qbe_loops (n : Nat) : Nat → Option LEntry := fun f => none
theorem qbe_run (n : Nat) (m_0 : DH) (m_0_1 : DI) (m_0_2 : DJ) (m_0_3 : DC) (m_0_4 : DD) : funDS (real _) tab (qbe_tbl n) (qbe_loops n) qbe_an Try.f20 0 qbe_a qbe_res (m_0, (m_0_1, (m_0_2, (m_0_3, m_0_4)))) some = qbe n m_0 m_0_1 m_0_2 m_0_3 m_0_4 := by kernel_rfl
def qbe_E (n : Nat) : Entry := ⟨qbe_a, qbe_res, fun d => qbe n d.1 d.2.1 d.2.2.1 d.2.2.2.1 d.2.2.2.2⟩
theorem qbe_ok (n : Nat) : EOK Try.prog 20 (qbe_E n) :=
 EOK.ofS zb zc ze (tbl := qbe_tbl n) (loops := qbe_loops n) (an := qbe_an) (old := []) (n := n) (c := qbe_c) (fn := Try.f20) (TblOK.cons (AllE.cons (qbt_ok n) AllE.nil) (TblOK.cons (AllE.cons (qaq_ok n) AllE.nil) (TblOK.cons (AllE.cons (qz_ok n) AllE.nil) (TblOK.cons (AllE.cons (qao_ok n) AllE.nil) (TblOK.cons (AllE.cons (qas_ok n) AllE.nil) (TblOK.cons (AllE.cons (qbm_ok n) AllE.nil) (TblOK.cons (AllE.cons (qcj_ok n) AllE.nil) TblOK.nil))))))) (by kernel_rfl) (by kernel_rfl) (by kernel_rfl) (by kernel_rfl) (fun d => by kernel_rfl) LT.nil (fun a => qbe_run n a.1 a.2.1 a.2.2.1 a.2.2.2.1 a.2.2.2.2)
def qba_an : Ann := {}
def qba_c : Code := (match Try.f23.body with | some c => c | none => .skip)
def qba_a : StSh := ⟨.normal, [0], (.cons (.sl true false (.int .u8)) .nil), .nil⟩
def qcf_an : Ann := { live := [(0, [6, 9, 22, 23])], boxed := [(5, 0), (11, 5)] }
def qcf_c : Code := (match Try.f53.body with | some c => c | none => .skip)
def qcf_l0 : Code := (match assoc 0 (loopsIn qcf_c 0) with | some c => c | none => .skip)
def qcf_a : StSh := ⟨.normal, [0, 1], (.cons (.sl true false (.int .u8)) (.cons (.int .i64) .nil)), .nil⟩
def qbg_an : Ann := {}
def qbg_c : Code := (match Try.f55.body with | some c => c | none => .skip)
def qbg_a : StSh := ⟨.normal, [0], (.cons (.sl true false (.int .u8)) .nil), .nil⟩
def qbg_res : List StSh := [⟨.ret, [0], (.cons (.ptr 0 0 0 0) .nil), (.cons (.bcells 0 false 1 (.cons (.sl false false (.int .u8)) (.cons .bool .nil))) .nil)⟩]
def qbg_tbl (n : Nat) : FuncId → List Entry := fun f => []
def qbg_loops (n : Nat) : Nat → Option LEntry := fun f => none
theorem qbg_run (n : Nat) (b_0 : DC) : funDS (real _) tab (qbg_tbl n) (qbg_loops n) qbg_an Try.f55 0 qbg_a qbg_res b_0 some = qbg n b_0 := by kernel_rfl
def qbg_E (n : Nat) : Entry := ⟨qbg_a, qbg_res, fun d => qbg n d⟩
theorem qbg_ok (n : Nat) : EOK Try.prog 55 (qbg_E n) :=
 EOK.ofS zb zc ze (tbl := qbg_tbl n) (loops := qbg_loops n) (an := qbg_an) (old := []) (n := n) (c := qbg_c) (fn := Try.f55) TblOK.nil (by kernel_rfl) (by kernel_rfl) (by kernel_rfl) (by kernel_rfl) (fun d => by kernel_rfl) LT.nil (fun a => qbg_run n a)
def qcd_an : Ann := {}
def qcd_c : Code := (match Try.f102.body with | some c => c | none => .skip)
def qcd_a : StSh := ⟨.normal, [0, 1], (.cons (.ptr 0 0 0 0) (.cons (.int .i64) .nil)), (.cons (.bcells 0 false 1 (.cons (.sl false false (.int .u8)) (.cons .bool .nil))) .nil)⟩
def qbb_an : Ann := { live := [(0, [0, 3, 4])] }
def qbb_c : Code := (match Try.f56.body with | some c => c | none => .skip)
def qbb_l0 : Code := (match assoc 0 (loopsIn qbb_c 0) with | some c => c | none => .skip)
def qbb_a : StSh := ⟨.normal, [0], (.cons (.ptr 0 0 0 0) .nil), (.cons (.bcells 0 false 1 (.cons (.sl false false (.int .u8)) (.cons .bool .nil))) .nil)⟩
def qaw_an : Ann := {}
def qaw_c : Code := (match Try.f70.body with | some c => c | none => .skip)
def qaw_a : StSh := ⟨.normal, [0, 1], (.cons (.ptr 0 0 0 0) (.cons (.int .i64) .nil)), (.cons (.bcells 0 false 1 (.cons (.sl false false (.int .u8)) (.cons .bool .nil))) .nil)⟩
def qbf_an : Ann := {}
def qbf_c : Code := (match Try.f104.body with | some c => c | none => .skip)
def qbf_a : StSh := ⟨.normal, [0], (.cons (.ptr 0 0 0 0) .nil), (.cons (.bcells 0 false 1 (.cons (.sl false false (.int .u8)) (.cons .bool .nil))) .nil)⟩
def qbf_res : List StSh := [⟨.ret, [0], (.cons .bool .nil), (.cons (.bcells 0 false 1 (.cons (.sl false false (.int .u8)) (.cons .bool .nil))) .nil)⟩]
def qbf_tbl (n : Nat) : FuncId → List Entry := fun f => []
def qbf_loops (n : Nat) : Nat → Option LEntry := fun f => none
theorem qbf_run (n : Nat) (m0 : DC) (m0_1 : Bool) : funDS (real _) tab (qbf_tbl n) (qbf_loops n) qbf_an Try.f104 1 qbf_a qbf_res (m0, m0_1) some = qbf n m0 m0_1 := by kernel_rfl
def qbf_E (n : Nat) : Entry := ⟨qbf_a, qbf_res, fun d => qbf n d.1 d.2⟩
theorem qbf_ok (n : Nat) : EOK Try.prog 104 (qbf_E n) :=
 EOK.ofS zb zc ze (tbl := qbf_tbl n) (loops := qbf_loops n) (an := qbf_an) (old := [some true]) (n := n) (c := qbf_c) (fn := Try.f104) TblOK.nil (by kernel_rfl) (by kernel_rfl) (by kernel_rfl) (by kernel_rfl) (fun d => by kernel_rfl) LT.nil (fun a => qbf_run n a.1 a.2)
def qau_an : Ann := {}
def qau_c : Code := (match Try.f105.body with | some c => c | none => .skip)
def qau_a : StSh := ⟨.normal, [0], (.cons (.ptr 0 0 0 0) .nil), (.cons (.bcells 0 false 1 (.cons (.sl false false (.int .u8)) (.cons .bool .nil))) .nil)⟩
def qau_res : List StSh := [⟨.ret, [0], (.cons (.tup .nil) .nil), (.cons (.bcells 0 false 1 (.cons (.sl false false (.int .u8)) (.cons .bool .nil))) .nil)⟩]
def qau_tbl (n : Nat) : FuncId → List Entry := fun f => []
def qau_loops (n : Nat) : Nat → Option LEntry := fun f => none
theorem qau_run (n : Nat) (m0 : DC) (m0_1 : Bool) : funDS (real _) tab (qau_tbl n) (qau_loops n) qau_an Try.f105 1 qau_a qau_res (m0, m0_1) some = qau n m0 m0_1 := by kernel_rfl
def qau_E (n : Nat) : Entry := ⟨qau_a, qau_res, fun d => qau n d.1 d.2⟩
theorem qau_ok (n : Nat) : EOK Try.prog 105 (qau_E n) :=
 EOK.ofS zb zc ze (tbl := qau_tbl n) (loops := qau_loops n) (an := qau_an) (old := [some true]) (n := n) (c := qau_c) (fn := Try.f105) TblOK.nil (by kernel_rfl) (by kernel_rfl) (by kernel_rfl) (by kernel_rfl) (fun d => by kernel_rfl) LT.nil (fun a => qau_run n a.1 a.2)
def qaw_res : List StSh := [⟨.ret, [0], (.cons (.sl false false (.int .u8)) .nil), (.cons (.bcells 0 false 1 (.cons (.sl false false (.int .u8)) (.cons .bool .nil))) .nil)⟩]
def qaw_tbl (n : Nat) : FuncId → List Entry := fun f => bif Nat.beq f 104 then [qbf_E n] else bif Nat.beq f 105 then [qau_E n] else []
def qaw_loops (n : Nat) : Nat → Option LEntry := fun f => none
theorem qaw_run (n : Nat) (n_1 : Int) (m0 : DC) (m0_1 : Bool) : funDS (real _) tab (qaw_tbl n) (qaw_loops n) qaw_an Try.f70 1 qaw_a qaw_res (n_1, (m0, m0_1)) some = qaw n n_1 m0 m0_1 := by kernel_rfl
def qaw_E (n : Nat) : Entry := ⟨qaw_a, qaw_res, fun d => qaw n d.1 d.2.1 d.2.2⟩
theorem qaw_ok (n : Nat) : EOK Try.prog 70 (qaw_E n) :=
 EOK.ofS zb zc ze (tbl := qaw_tbl n) (loops := qaw_loops n) (an := qaw_an) (old := [some true]) (n := n) (c := qaw_c) (fn := Try.f70) (TblOK.cons (AllE.cons (qbf_ok n) AllE.nil) (TblOK.cons (AllE.cons (qau_ok n) AllE.nil) TblOK.nil)) (by kernel_rfl) (by kernel_rfl) (by kernel_rfl) (by kernel_rfl) (fun d => by kernel_rfl) LT.nil (fun a => qaw_run n a.1 a.2.1 a.2.2)
def qbb_h0 : List StSh := [⟨.normal, [0, 3, 4], (.cons (.ptr 0 0 0 0) (.cons (.int .u64) (.cons (.int .i64) .nil))), (.cons (.bcells 0 false 1 (.cons (.sl false false (.int .u8)) (.cons .bool .nil))) .nil)⟩]
def qbb_o0 : List StSh := [⟨.ret, [2], (.cons (.int .u64) .nil), (.cons (.bcells 0 false 1 (.cons (.sl false false (.int .u8)) (.cons .bool .nil))) .nil)⟩]
def qbb_L0 (n : Nat) : LEntry := ⟨qbb_h0, qbb_o0, qbb_W0 n⟩
def qbb_res : List StSh := [⟨.ret, [0], (.cons (.int .u64) .nil), (.cons (.bcells 0 false 1 (.cons (.sl false false (.int .u8)) (.cons .bool .nil))) .nil)⟩]
def qbb_tbl (n : Nat) : FuncId → List Entry := fun f => bif Nat.beq f 70 then [qaw_E n] else bif Nat.beq f 105 then [qau_E n] else []
def qbb_loops (n : Nat) : Nat → Option LEntry := fun f => bif Nat.beq f 0 then some (qbb_L0 n) else none
theorem qbb_r0 (n : Nat) (v_3 : Int) (k_4 : Int) (m0 : DC) (m0_1 : Bool) : roundK (real _) tab (qbb_tbl n) (qbb_loops n) qbb_an [some true] qbb_l0 0 [0, 3, 4] qbb_h0 qbb_o0 ((v_3, k_4), (m0, m0_1)) some = qbb_B0 n v_3 k_4 m0 m0_1 := by kernel_rfl
theorem qbb_f0 (n : Nat) : LoopFact tab (qbb_tbl n) (qbb_loops n) qbb_an [some true] n 0 qbb_l0 (qbb_L0 n) := ⟨[0, 3, 4], (fun s => qbb_B0 n s.1.1 s.1.2 s.2.1 s.2.2), by kernel_rfl, by kernel_rfl, fun s => rfl, fun s => qbb_r0 n s.1.1 s.1.2 s.2.1 s.2.2⟩
theorem qbb_run (n : Nat) (m0 : DC) (m0_1 : Bool) : funDS (real _) tab (qbb_tbl n) (qbb_loops n) qbb_an Try.f56 1 qbb_a qbb_res (m0, m0_1) some = qbb n m0 m0_1 := by kernel_rfl
def qbb_E (n : Nat) : Entry := ⟨qbb_a, qbb_res, fun d => qbb n d.1 d.2⟩
theorem qbb_ok (n : Nat) : EOK Try.prog 56 (qbb_E n) :=
 EOK.ofS zb zc ze (tbl := qbb_tbl n) (loops := qbb_loops n) (an := qbb_an) (old := [some true]) (n := n) (c := qbb_c) (fn := Try.f56) (TblOK.cons (AllE.cons (qaw_ok n) AllE.nil) (TblOK.cons (AllE.cons (qau_ok n) AllE.nil) TblOK.nil)) (by kernel_rfl) (by kernel_rfl) (by kernel_rfl) (by kernel_rfl) (fun d => by kernel_rfl) (LT.cons (by kernel_rfl) (qbb_f0 n) LT.nil) (fun a => qbb_run n a.1 a.2)
def qcd_res : List StSh := [⟨.ret, [0], (.cons (.tup (.cons (.int .i64) (.cons .bool .nil))) .nil), (.cons (.bcells 0 false 1 (.cons (.sl false false (.int .u8)) (.cons .bool .nil))) .nil)⟩]
def qcd_tbl (n : Nat) : FuncId → List Entry := fun f => bif Nat.beq f 56 then [qbb_E n] else bif Nat.beq f 104 then [qbf_E n] else []
def qcd_loops (n : Nat) : Nat → Option LEntry := fun f => none
theorem qcd_run (n : Nat) (most_1 : Int) (m0 : DC) (m0_1 : Bool) : funDS (real _) tab (qcd_tbl n) (qcd_loops n) qcd_an Try.f102 1 qcd_a qcd_res (most_1, (m0, m0_1)) some = qcd n most_1 m0 m0_1 := by kernel_rfl
def qcd_E (n : Nat) : Entry := ⟨qcd_a, qcd_res, fun d => qcd n d.1 d.2.1 d.2.2⟩
theorem qcd_ok (n : Nat) : EOK Try.prog 102 (qcd_E n) :=
 EOK.ofS zb zc ze (tbl := qcd_tbl n) (loops := qcd_loops n) (an := qcd_an) (old := [some true]) (n := n) (c := qcd_c) (fn := Try.f102) (TblOK.cons (AllE.cons (qbb_ok n) AllE.nil) (TblOK.cons (AllE.cons (qbf_ok n) AllE.nil) TblOK.nil)) (by kernel_rfl) (by kernel_rfl) (by kernel_rfl) (by kernel_rfl) (fun d => by kernel_rfl) LT.nil (fun a => qcd_run n a.1 a.2.1 a.2.2)
def qat_an : Ann := {}
def qat_c : Code := (match Try.f103.body with | some c => c | none => .skip)
def qat_a : StSh := ⟨.normal, [0], (.cons (.ptr 0 0 0 0) .nil), (.cons (.bcells 0 false 1 (.cons (.sl false false (.int .u8)) (.cons .bool .nil))) .nil)⟩
def qat_res : List StSh := [⟨.ret, [0], (.cons (.int .i64) .nil), (.cons (.bcells 0 false 1 (.cons (.sl false false (.int .u8)) (.cons .bool .nil))) .nil)⟩]
def qat_tbl (n : Nat) : FuncId → List Entry := fun f => bif Nat.beq f 104 then [qbf_E n] else []
def qat_loops (n : Nat) : Nat → Option LEntry := fun f => none
theorem qat_run (n : Nat) (m0 : DC) (m0_1 : Bool) : funDS (real _) tab (qat_tbl n) (qat_loops n) qat_an Try.f103 1 qat_a qat_res (m0, m0_1) some = qat n m0 m0_1 := by kernel_rfl
def qat_E (n : Nat) : Entry := ⟨qat_a, qat_res, fun d => qat n d.1 d.2⟩
theorem qat_ok (n : Nat) : EOK Try.prog 103 (qat_E n) :=
 EOK.ofS zb zc ze (tbl := qat_tbl n) (loops := qat_loops n) (an := qat_an) (old := [some true]) (n := n) (c := qat_c) (fn := Try.f103) (TblOK.cons (AllE.cons (qbf_ok n) AllE.nil) TblOK.nil) (by kernel_rfl) (by kernel_rfl) (by kernel_rfl) (by kernel_rfl) (fun d => by kernel_rfl) LT.nil (fun a => qat_run n a.1 a.2)
def qcf_h0 : List StSh := [⟨.normal, [6, 9, 22, 23], (.cons (.ptr 0 0 0 0) (.cons (.msw 1 0) (.cons (.int .i64) (.cons (.int .i64) .nil)))), (.cons (.bcells 0 false 1 (.cons (.sl false false (.int .u8)) (.cons .bool .nil))) (.cons (.bts 0 false false false yF) .nil))⟩]
def qcf_o0 : List StSh := [⟨.ret, [4, 5], (.cons (.sl false false yF) (.cons (.int .i64) .nil)), (.cons (.bcells 0 false 1 (.cons (.sl false false (.int .u8)) (.cons .bool .nil))) (.cons (.bts 0 false false false yF) .nil))⟩, ⟨.ret, [4, 5], (.cons (.sl false false yF) (.cons (.int .i64) .nil)), (.cons (.bcells 0 false 1 (.cons (.sl false false (.int .u8)) (.cons .bool .nil))) (.cons (.bts 1 false false false yF) .nil))⟩, ⟨.exit 0, [6, 9], (.cons (.ptr 0 0 0 0) (.cons (.msw 1 0) .nil)), (.cons (.bcells 0 false 1 (.cons (.sl false false (.int .u8)) (.cons .bool .nil))) (.cons (.bts 0 false false false yF) .nil))⟩]
def qcf_L0 (n : Nat) : LEntry := ⟨qcf_h0, qcf_o0, qcf_W0 n⟩
def qcf_res : List StSh := [⟨.ret, [0], (.cons (.tup (.cons (.sl false false yF) (.cons (.int .i64) .nil))) .nil), .nil⟩]
def qcf_tbl (n : Nat) : FuncId → List Entry := fun f => bif Nat.beq f 55 then [qbg_E n] else bif Nat.beq f 102 then [qcd_E n] else bif Nat.beq f 103 then [qat_E n] else bif Nat.beq f 70 then [qaw_E n] else bif Nat.beq f 104 then [qbf_E n] else []
def qcf_loops (n : Nat) : Nat → Option LEntry := fun f => bif Nat.beq f 0 then some (qcf_L0 n) else none
theorem qcf_r0 (n : Nat) (t22 : Int) (t23 : Int) (m0 : DC) (m0_1 : Bool) (m1 : DK) : roundK (real _) tab (qcf_tbl n) (qcf_loops n) qcf_an [] qcf_l0 0 [6, 9, 22, 23] qcf_h0 qcf_o0 ((t22, t23), ((m0, m0_1), m1)) some = qcf_B0 n t22 t23 m0 m0_1 m1 := by kernel_rfl
theorem qcf_f0 (n : Nat) : LoopFact tab (qcf_tbl n) (qcf_loops n) qcf_an [] n 0 qcf_l0 (qcf_L0 n) := ⟨[6, 9, 22, 23], (fun s => qcf_B0 n s.1.1 s.1.2 s.2.1.1 s.2.1.2 s.2.2), by kernel_rfl, by kernel_rfl, fun s => rfl, fun s => qcf_r0 n s.1.1 s.1.2 s.2.1.1 s.2.1.2 s.2.2⟩
theorem qcf_run (n : Nat) (b_0 : DC) (most_1 : Int) : funDS (real _) tab (qcf_tbl n) (qcf_loops n) qcf_an Try.f53 0 qcf_a qcf_res (b_0, most_1) some = qcf n b_0 most_1 := by kernel_rfl
def qcf_E (n : Nat) : Entry := ⟨qcf_a, qcf_res, fun d => qcf n d.1 d.2⟩
theorem qcf_ok (n : Nat) : EOK Try.prog 53 (qcf_E n) :=
 EOK.ofS zb zc ze (tbl := qcf_tbl n) (loops := qcf_loops n) (an := qcf_an) (old := []) (n := n) (c := qcf_c) (fn := Try.f53) (TblOK.cons (AllE.cons (qbg_ok n) AllE.nil) (TblOK.cons (AllE.cons (qcd_ok n) AllE.nil) (TblOK.cons (AllE.cons (qat_ok n) AllE.nil) (TblOK.cons (AllE.cons (qaw_ok n) AllE.nil) (TblOK.cons (AllE.cons (qbf_ok n) AllE.nil) TblOK.nil))))) (by kernel_rfl) (by kernel_rfl) (by kernel_rfl) (by kernel_rfl) (fun d => by kernel_rfl) (LT.cons (by kernel_rfl) (qcf_f0 n) LT.nil) (fun a => qcf_run n a.1 a.2)
def qan_an : Ann := {}
def qan_c : Code := (match Try.f54.body with | some c => c | none => .skip)
def qan_a : StSh := ⟨.normal, [0, 1, 2], (.cons (.int .i64) (.cons (.ptr 0 0 0 0) (.cons (.ptr 1 0 0 0) .nil))), (.cons (.bcells 0 false 1 (.cons (.sl false false yF) .nil)) (.cons (.bcells 0 false 1 (.cons .nilS (.cons .nilS (.cons .nilS (.cons .nilS (.cons .nilS .nil)))))) .nil))⟩
def qan_res : List StSh := [⟨.ret, [0], (.cons (.ptr 2 0 0 0) .nil), (.cons (.bcells 0 false 1 (.cons (.sl false false yF) .nil)) (.cons (.bcells 0 false 1 (.cons .nilS (.cons .nilS (.cons .nilS (.cons .nilS (.cons .nilS .nil)))))) (.cons (.bcells 0 false 1 (.cons (.ptr 3 0 0 0) (.cons (.int .i64) (.cons .bool .nil)))) (.cons (.bcells 0 false 1 (.cons (.sl false false (.int .u8)) (.cons .bool .nil))) .nil))))⟩]
def qan_tbl (n : Nat) : FuncId → List Entry := fun f => bif Nat.beq f 55 then [qbg_E n] else []
def qan_loops (n : Nat) : Nat → Option LEntry := fun f => none
theorem qan_run (n : Nat) (k_0 : Int) (m0 : DK) : funDS (real _) tab (qan_tbl n) (qan_loops n) qan_an Try.f54 2 qan_a qan_res (k_0, m0) some = qan n k_0 m0 := by kernel_rfl
def qan_E (n : Nat) : Entry := ⟨qan_a, qan_res, fun d => qan n d.1 d.2⟩
theorem qan_ok (n : Nat) : EOK Try.prog 54 (qan_E n) :=
 EOK.ofS zb zc ze (tbl := qan_tbl n) (loops := qan_loops n) (an := qan_an) (old := [some true, some true]) (n := n) (c := qan_c) (fn := Try.f54) (TblOK.cons (AllE.cons (qbg_ok n) AllE.nil) TblOK.nil) (by kernel_rfl) (by kernel_rfl) (by kernel_rfl) (by kernel_rfl) (fun d => by kernel_rfl) LT.nil (fun a => qan_run n a.1 a.2)
def qj_an : Ann := { live := [(0, [0, 2, 7, 10, 11])], boxed := [(1, 0), (5, 4)] }
def qj_c : Code := (match Try.f57.body with | some c => c | none => .skip)
def qj_l0 : Code := (match assoc 0 (loopsIn qj_c 0) with | some c => c | none => .skip)
def qj_a : StSh := ⟨.normal, [0, 1, 2], (.cons (.ptr 0 0 0 0) (.cons (.int .i64) (.cons (.fn 58 .nil (.cons (.ptr 1 0 0 0) .nil)) .nil))), (.cons (.bcells 0 false 1 (.cons (.ptr 2 0 0 0) (.cons (.int .i64) (.cons .bool .nil)))) (.cons (.bcells 0 false 1 (.cons (.ptr 0 0 0 0) .nil)) (.cons (.bcells 0 false 1 (.cons (.sl false false (.int .u8)) (.cons .bool .nil))) .nil)))⟩
def qk_an : Ann := {}
def qk_c : Code := (match Try.f71.body with | some c => c | none => .skip)
def qk_a : StSh := ⟨.normal, [0, 1], (.cons (.ptr 0 0 0 0) (.cons (.int .i64) .nil)), (.cons (.bcells 0 false 1 (.cons (.ptr 1 0 0 0) (.cons (.int .i64) (.cons .bool .nil)))) (.cons (.bcells 0 false 1 (.cons (.sl false false (.int .u8)) (.cons .bool .nil))) .nil))⟩
def qk_res : List StSh := [⟨.ret, [0], (.cons (.int .i64) .nil), (.cons (.bcells 0 false 1 (.cons (.ptr 1 0 0 0) (.cons (.int .i64) (.cons .bool .nil)))) (.cons (.bcells 0 false 1 (.cons (.sl false false (.int .u8)) (.cons .bool .nil))) .nil))⟩]
def qk_tbl (n : Nat) : FuncId → List Entry := fun f => bif Nat.beq f 56 then [qbb_E n] else bif Nat.beq f 104 then [qbf_E n] else []
def qk_loops (n : Nat) : Nat → Option LEntry := fun f => none
theorem qk_run (n : Nat) (most_1 : Int) (m0 : Int) (m0_1 : Bool) (m1 : DC) (m1_1 : Bool) : funDS (real _) tab (qk_tbl n) (qk_loops n) qk_an Try.f71 2 qk_a qk_res (most_1, ((m0, m0_1), (m1, m1_1))) some = qk n most_1 m0 m0_1 m1 m1_1 := by kernel_rfl
def qk_E (n : Nat) : Entry := ⟨qk_a, qk_res, fun d => qk n d.1 d.2.1.1 d.2.1.2 d.2.2.1 d.2.2.2⟩
theorem qk_ok (n : Nat) : EOK Try.prog 71 (qk_E n) :=
 EOK.ofS zb zc ze (tbl := qk_tbl n) (loops := qk_loops n) (an := qk_an) (old := [some true, some true]) (n := n) (c := qk_c) (fn := Try.f71) (TblOK.cons (AllE.cons (qbb_ok n) AllE.nil) (TblOK.cons (AllE.cons (qbf_ok n) AllE.nil) TblOK.nil)) (by kernel_rfl) (by kernel_rfl) (by kernel_rfl) (by kernel_rfl) (fun d => by kernel_rfl) LT.nil (fun a => qk_run n a.1 a.2.1.1 a.2.1.2 a.2.2.1 a.2.2.2)
def qap_an : Ann := {}
def qap_c : Code := (match Try.f58.body with | some c => c | none => .skip)
def qap_a : StSh := ⟨.normal, [0], (.cons (.ptr 0 0 0 0) .nil), (.cons (.bcells 0 false 1 (.cons (.ptr 1 0 0 0) .nil)) (.cons (.bcells 0 false 1 (.cons (.ptr 2 0 0 0) (.cons (.int .i64) (.cons .bool .nil)))) (.cons (.bcells 0 false 1 (.cons (.sl false false (.int .u8)) (.cons .bool .nil))) .nil)))⟩
def qb_an : Ann := { live := [(0, [0, 2, 7, 10, 11])], boxed := [(1, 0), (5, 4)] }
def qb_c : Code := (match Try.f59.body with | some c => c | none => .skip)
def qb_l0 : Code := (match assoc 0 (loopsIn qb_c 0) with | some c => c | none => .skip)
def qb_a : StSh := ⟨.normal, [0, 1, 2], (.cons (.ptr 0 0 0 0) (.cons (.int .i64) (.cons (.fn 60 (.cons (.ptr 0 0 0 0) .nil) .nil) .nil))), (.cons (.bcells 0 false 1 (.cons (.ptr 1 0 0 0) (.cons (.int .i64) (.cons .bool .nil)))) (.cons (.bcells 0 false 1 (.cons (.sl false false (.int .u8)) (.cons .bool .nil))) .nil))⟩
def qx_an : Ann := {}
def qx_c : Code := (match Try.f60.body with | some c => c | none => .skip)
def qx_a : StSh := ⟨.normal, [0], (.cons (.ptr 0 0 0 0) .nil), (.cons (.bcells 0 false 1 (.cons (.ptr 1 0 0 0) (.cons (.int .i64) (.cons .bool .nil)))) (.cons (.bcells 0 false 1 (.cons (.sl false false (.int .u8)) (.cons .bool .nil))) .nil))⟩
def qcn_an : Ann := {}
def qcn_c : Code := (match Try.f106.body with | some c => c | none => .skip)
def qcn_a : StSh := ⟨.normal, [0, 1], (.cons (.ptr 0 0 0 0) (.cons (.int .i64) .nil)), (.cons (.bcells 0 false 1 (.cons (.sl false false (.int .u8)) (.cons .bool .nil))) .nil)⟩
def qcn_res : List StSh := [⟨.ret, [0], (.cons (.tup (.cons (.agg (.cons (.int .i64) (.cons (.int .i64) .nil))) (.cons .bool .nil))) .nil), (.cons (.bcells 0 false 1 (.cons (.sl false false (.int .u8)) (.cons .bool .nil))) .nil)⟩]
def qcn_tbl (n : Nat) : FuncId → List Entry := fun f => bif Nat.beq f 56 then [qbb_E n] else bif Nat.beq f 104 then [qbf_E n] else bif Nat.beq f 92 then [qch_E n] else []
def qcn_loops (n : Nat) : Nat → Option LEntry := fun f => none
theorem qcn_run (n : Nat) (recs_1 : Int) (m0 : DC) (m0_1 : Bool) : funDS (real _) tab (qcn_tbl n) (qcn_loops n) qcn_an Try.f106 1 qcn_a qcn_res (recs_1, (m0, m0_1)) some = qcn n recs_1 m0 m0_1 := by kernel_rfl
def qcn_E (n : Nat) : Entry := ⟨qcn_a, qcn_res, fun d => qcn n d.1 d.2.1 d.2.2⟩
theorem qcn_ok (n : Nat) : EOK Try.prog 106 (qcn_E n) :=
 EOK.ofS zb zc ze (tbl := qcn_tbl n) (loops := qcn_loops n) (an := qcn_an) (old := [some true]) (n := n) (c := qcn_c) (fn := Try.f106) (TblOK.cons (AllE.cons (qbb_ok n) AllE.nil) (TblOK.cons (AllE.cons (qbf_ok n) AllE.nil) (TblOK.cons (AllE.cons (qch_ok n) AllE.nil) TblOK.nil))) (by kernel_rfl) (by kernel_rfl) (by kernel_rfl) (by kernel_rfl) (fun d => by kernel_rfl) LT.nil (fun a => qcn_run n a.1 a.2.1 a.2.2)
def qx_res : List StSh := [⟨.ret, [0], (.cons (.agg (.cons (.int .i64) (.cons (.int .i64) .nil))) .nil), (.cons (.bcells 0 false 1 (.cons (.ptr 1 0 0 0) (.cons (.int .i64) (.cons .bool .nil)))) (.cons (.bcells 0 false 1 (.cons (.sl false false (.int .u8)) (.cons .bool .nil))) .nil))⟩]
def qx_tbl (n : Nat) : FuncId → List Entry := fun f => bif Nat.beq f 106 then [qcn_E n] else []
def qx_loops (n : Nat) : Nat → Option LEntry := fun f => none
theorem qx_run (n : Nat) (m0 : Int) (m0_1 : Bool) (m1 : DC) (m1_1 : Bool) : funDS (real _) tab (qx_tbl n) (qx_loops n) qx_an Try.f60 2 qx_a qx_res ((m0, m0_1), (m1, m1_1)) some = qx n m0 m0_1 m1 m1_1 := by kernel_rfl
def qx_E (n : Nat) : Entry := ⟨qx_a, qx_res, fun d => qx n d.1.1 d.1.2 d.2.1 d.2.2⟩
theorem qx_ok (n : Nat) : EOK Try.prog 60 (qx_E n) :=
 EOK.ofS zb zc ze (tbl := qx_tbl n) (loops := qx_loops n) (an := qx_an) (old := [some true, some true]) (n := n) (c := qx_c) (fn := Try.f60) (TblOK.cons (AllE.cons (qcn_ok n) AllE.nil) TblOK.nil) (by kernel_rfl) (by kernel_rfl) (by kernel_rfl) (by kernel_rfl) (fun d => by kernel_rfl) LT.nil (fun a => qx_run n a.1.1 a.1.2 a.2.1 a.2.2)
def qb_h0 : List StSh := [⟨.normal, [0, 2, 7, 10, 11], (.cons (.ptr 0 0 0 0) (.cons (.fn 60 (.cons (.ptr 0 0 0 0) .nil) .nil) (.cons (.msw 2 0) (.cons (.int .i64) (.cons (.int .i64) .nil))))), (.cons (.bcells 0 false 1 (.cons (.ptr 1 0 0 0) (.cons (.int .i64) (.cons .bool .nil)))) (.cons (.bcells 0 false 1 (.cons (.sl false false (.int .u8)) (.cons .bool .nil))) (.cons (.bts 0 false false true yD) .nil)))⟩]
def qb_o0 : List StSh := [⟨.exit 0, [7], (.cons (.msw 2 0) .nil), (.cons (.bcells 0 false 1 (.cons (.ptr 1 0 0 0) (.cons (.int .i64) (.cons .bool .nil)))) (.cons (.bcells 0 false 1 (.cons (.sl false false (.int .u8)) (.cons .bool .nil))) (.cons (.bts 0 false false true yD) .nil)))⟩]
def qb_L0 (n : Nat) : LEntry := ⟨qb_h0, qb_o0, qb_W0 n⟩
def qb_res : List StSh := [⟨.ret, [0], (.cons (.sl false true yD) .nil), (.cons (.bcells 0 false 1 (.cons (.ptr 1 0 0 0) (.cons (.int .i64) (.cons .bool .nil)))) (.cons (.bcells 0 false 1 (.cons (.sl false false (.int .u8)) (.cons .bool .nil))) .nil))⟩]
def qb_tbl (n : Nat) : FuncId → List Entry := fun f => bif Nat.beq f 71 then [qk_E n] else bif Nat.beq f 60 then [qx_E n] else []
def qb_loops (n : Nat) : Nat → Option LEntry := fun f => bif Nat.beq f 0 then some (qb_L0 n) else none
theorem qb_r0 (n : Nat) (t10 : Int) (t11 : Int) (m0 : Int) (m0_1 : Bool) (m1 : DC) (m1_1 : Bool) (m2 : DA) : roundK (real _) tab (qb_tbl n) (qb_loops n) qb_an [some true, some true] qb_l0 0 [0, 2, 7, 10, 11] qb_h0 qb_o0 ((t10, t11), ((m0, m0_1), ((m1, m1_1), m2))) some = qb_B0 n t10 t11 m0 m0_1 m1 m1_1 m2 := by kernel_rfl
theorem qb_f0 (n : Nat) : LoopFact tab (qb_tbl n) (qb_loops n) qb_an [some true, some true] n 0 qb_l0 (qb_L0 n) := ⟨[0, 2, 7, 10, 11], (fun s => qb_B0 n s.1.1 s.1.2 s.2.1.1 s.2.1.2 s.2.2.1.1 s.2.2.1.2 s.2.2.2), by kernel_rfl, by kernel_rfl, fun s => rfl, fun s => qb_r0 n s.1.1 s.1.2 s.2.1.1 s.2.1.2 s.2.2.1.1 s.2.2.1.2 s.2.2.2⟩
theorem qb_run (n : Nat) (most_1 : Int) (m0 : Int) (m0_1 : Bool) (m1 : DC) (m1_1 : Bool) : funDS (real _) tab (qb_tbl n) (qb_loops n) qb_an Try.f59 2 qb_a qb_res (most_1, ((m0, m0_1), (m1, m1_1))) some = qb n most_1 m0 m0_1 m1 m1_1 := by kernel_rfl
def qb_E (n : Nat) : Entry := ⟨qb_a, qb_res, fun d => qb n d.1 d.2.1.1 d.2.1.2 d.2.2.1 d.2.2.2⟩
theorem qb_ok (n : Nat) : EOK Try.prog 59 (qb_E n) :=
 EOK.ofS zb zc ze (tbl := qb_tbl n) (loops := qb_loops n) (an := qb_an) (old := [some true, some true]) (n := n) (c := qb_c) (fn := Try.f59) (TblOK.cons (AllE.cons (qk_ok n) AllE.nil) (TblOK.cons (AllE.cons (qx_ok n) AllE.nil) TblOK.nil)) (by kernel_rfl) (by kernel_rfl) (by kernel_rfl) (by kernel_rfl) (fun d => by kernel_rfl) (LT.cons (by kernel_rfl) (qb_f0 n) LT.nil) (fun a => qb_run n a.1 a.2.1.1 a.2.1.2 a.2.2.1 a.2.2.2)
def qap_res : List StSh := [⟨.ret, [0], (.cons (.sl false true yD) .nil), (.cons (.bcells 0 false 1 (.cons (.ptr 1 0 0 0) .nil)) (.cons (.bcells 0 false 1 (.cons (.ptr 2 0 0 0) (.cons (.int .i64) (.cons .bool .nil)))) (.cons (.bcells 0 false 1 (.cons (.sl false false (.int .u8)) (.cons .bool .nil))) .nil)))⟩]
def qap_tbl (n : Nat) : FuncId → List Entry := fun f => bif Nat.beq f 59 then [qb_E n] else []
def qap_loops (n : Nat) : Nat → Option LEntry := fun f => none
theorem qap_run (n : Nat) (m1 : Int) (m1_1 : Bool) (m2 : DC) (m2_1 : Bool) : funDS (real _) tab (qap_tbl n) (qap_loops n) qap_an Try.f58 3 qap_a qap_res ((m1, m1_1), (m2, m2_1)) some = qap n m1 m1_1 m2 m2_1 := by kernel_rfl
def qap_E (n : Nat) : Entry := ⟨qap_a, qap_res, fun d => qap n d.1.1 d.1.2 d.2.1 d.2.2⟩
theorem qap_ok (n : Nat) : EOK Try.prog 58 (qap_E n) :=
 EOK.ofS zb zc ze (tbl := qap_tbl n) (loops := qap_loops n) (an := qap_an) (old := [some true, some true, some true]) (n := n) (c := qap_c) (fn := Try.f58) (TblOK.cons (AllE.cons (qb_ok n) AllE.nil) TblOK.nil) (by kernel_rfl) (by kernel_rfl) (by kernel_rfl) (by kernel_rfl) (fun d => by kernel_rfl) LT.nil (fun a => qap_run n a.1.1 a.1.2 a.2.1 a.2.2)
def qj_h0 : List StSh := [⟨.normal, [0, 2, 7, 10, 11], (.cons (.ptr 0 0 0 0) (.cons (.fn 58 .nil (.cons (.ptr 1 0 0 0) .nil)) (.cons (.msw 3 0) (.cons (.int .i64) (.cons (.int .i64) .nil))))), (.cons (.bcells 0 false 1 (.cons (.ptr 2 0 0 0) (.cons (.int .i64) (.cons .bool .nil)))) (.cons (.bcells 0 false 1 (.cons (.ptr 0 0 0 0) .nil)) (.cons (.bcells 0 false 1 (.cons (.sl false false (.int .u8)) (.cons .bool .nil))) (.cons (.bts 0 false false false yA) .nil))))⟩]
def qj_o0 : List StSh := [⟨.exit 0, [7], (.cons (.msw 3 0) .nil), (.cons (.bcells 0 false 1 (.cons (.ptr 2 0 0 0) (.cons (.int .i64) (.cons .bool .nil)))) (.cons (.bcells 0 false 1 (.cons (.ptr 0 0 0 0) .nil)) (.cons (.bcells 0 false 1 (.cons (.sl false false (.int .u8)) (.cons .bool .nil))) (.cons (.bts 0 false false false yA) .nil))))⟩]
def qj_L0 (n : Nat) : LEntry := ⟨qj_h0, qj_o0, qj_W0 n⟩
def qj_res : List StSh := [⟨.ret, [0], (.cons (.sl false false yA) .nil), (.cons (.bcells 0 false 1 (.cons (.ptr 2 0 0 0) (.cons (.int .i64) (.cons .bool .nil)))) (.cons (.bcells 0 false 1 (.cons (.ptr 0 0 0 0) .nil)) (.cons (.bcells 0 false 1 (.cons (.sl false false (.int .u8)) (.cons .bool .nil))) .nil)))⟩]
def qj_tbl (n : Nat) : FuncId → List Entry := fun f => bif Nat.beq f 71 then [qk_E n] else bif Nat.beq f 58 then [qap_E n] else []
def qj_loops (n : Nat) : Nat → Option LEntry := fun f => bif Nat.beq f 0 then some (qj_L0 n) else none
theorem qj_r0 (n : Nat) (t10 : Int) (t11 : Int) (m0 : Int) (m0_1 : Bool) (m2 : DC) (m2_1 : Bool) (m3 : DH) : roundK (real _) tab (qj_tbl n) (qj_loops n) qj_an [some true, some true, some true] qj_l0 0 [0, 2, 7, 10, 11] qj_h0 qj_o0 ((t10, t11), ((m0, m0_1), ((m2, m2_1), m3))) some = qj_B0 n t10 t11 m0 m0_1 m2 m2_1 m3 := by kernel_rfl
theorem qj_f0 (n : Nat) : LoopFact tab (qj_tbl n) (qj_loops n) qj_an [some true, some true, some true] n 0 qj_l0 (qj_L0 n) := ⟨[0, 2, 7, 10, 11], (fun s => qj_B0 n s.1.1 s.1.2 s.2.1.1 s.2.1.2 s.2.2.1.1 s.2.2.1.2 s.2.2.2), by kernel_rfl, by kernel_rfl, fun s => rfl, fun s => qj_r0 n s.1.1 s.1.2 s.2.1.1 s.2.1.2 s.2.2.1.1 s.2.2.1.2 s.2.2.2⟩
theorem qj_run (n : Nat) (most_1 : Int) (m0 : Int) (m0_1 : Bool) (m2 : DC) (m2_1 : Bool) : funDS (real _) tab (qj_tbl n) (qj_loops n) qj_an Try.f57 3 qj_a qj_res (most_1, ((m0, m0_1), (m2, m2_1))) some = qj n most_1 m0 m0_1 m2 m2_1 := by kernel_rfl
def qj_E (n : Nat) : Entry := ⟨qj_a, qj_res, fun d => qj n d.1 d.2.1.1 d.2.1.2 d.2.2.1 d.2.2.2⟩
theorem qj_ok (n : Nat) : EOK Try.prog 57 (qj_E n) :=
 EOK.ofS zb zc ze (tbl := qj_tbl n) (loops := qj_loops n) (an := qj_an) (old := [some true, some true, some true]) (n := n) (c := qj_c) (fn := Try.f57) (TblOK.cons (AllE.cons (qk_ok n) AllE.nil) (TblOK.cons (AllE.cons (qap_ok n) AllE.nil) TblOK.nil)) (by kernel_rfl) (by kernel_rfl) (by kernel_rfl) (by kernel_rfl) (fun d => by kernel_rfl) (LT.cons (by kernel_rfl) (qj_f0 n) LT.nil) (fun a => qj_run n a.1 a.2.1.1 a.2.1.2 a.2.2.1 a.2.2.2)
def qac_an : Ann := {}
def qac_c : Code := (match Try.f54.body with | some c => c | none => .skip)
def qac_a : StSh := ⟨.normal, [0, 1, 2], (.cons (.int .i64) (.cons (.ptr 0 0 0 0) (.cons (.ptr 1 0 0 0) .nil))), (.cons (.bcells 0 false 1 (.cons (.sl false false yF) .nil)) (.cons (.bcells 0 false 1 (.cons (.sl false false yA) (.cons .nilS (.cons .nilS (.cons .nilS (.cons .nilS .nil)))))) .nil))⟩
def qac_res : List StSh := [⟨.ret, [0], (.cons (.ptr 2 0 0 0) .nil), (.cons (.bcells 0 false 1 (.cons (.sl false false yF) .nil)) (.cons (.bcells 0 false 1 (.cons (.sl false false yA) (.cons .nilS (.cons .nilS (.cons .nilS (.cons .nilS .nil)))))) (.cons (.bcells 0 false 1 (.cons (.ptr 3 0 0 0) (.cons (.int .i64) (.cons .bool .nil)))) (.cons (.bcells 0 false 1 (.cons (.sl false false (.int .u8)) (.cons .bool .nil))) .nil))))⟩]
def qac_tbl (n : Nat) : FuncId → List Entry := fun f => bif Nat.beq f 55 then [qbg_E n] else []
def qac_loops (n : Nat) : Nat → Option LEntry := fun f => none
theorem qac_run (n : Nat) (k_0 : Int) (m0 : DK) (m1 : DH) : funDS (real _) tab (qac_tbl n) (qac_loops n) qac_an Try.f54 2 qac_a qac_res (k_0, (m0, m1)) some = qac n k_0 m0 m1 := by kernel_rfl
def qac_E (n : Nat) : Entry := ⟨qac_a, qac_res, fun d => qac n d.1 d.2.1 d.2.2⟩
theorem qac_ok (n : Nat) : EOK Try.prog 54 (qac_E n) :=
 EOK.ofS zb zc ze (tbl := qac_tbl n) (loops := qac_loops n) (an := qac_an) (old := [some true, some true]) (n := n) (c := qac_c) (fn := Try.f54) (TblOK.cons (AllE.cons (qbg_ok n) AllE.nil) TblOK.nil) (by kernel_rfl) (by kernel_rfl) (by kernel_rfl) (by kernel_rfl) (fun d => by kernel_rfl) LT.nil (fun a => qac_run n a.1 a.2.1 a.2.2)
def qp_an : Ann := { live := [(0, [0, 2, 7, 10, 11])], boxed := [(1, 0), (5, 4)] }
def qp_c : Code := (match Try.f61.body with | some c => c | none => .skip)
def qp_l0 : Code := (match assoc 0 (loopsIn qp_c 0) with | some c => c | none => .skip)
def qp_a : StSh := ⟨.normal, [0, 1, 2], (.cons (.ptr 0 0 0 0) (.cons (.int .i64) (.cons (.fn 62 (.cons (.ptr 0 0 0 0) .nil) .nil) .nil))), (.cons (.bcells 0 false 1 (.cons (.ptr 1 0 0 0) (.cons (.int .i64) (.cons .bool .nil)))) (.cons (.bcells 0 false 1 (.cons (.sl false false (.int .u8)) (.cons .bool .nil))) .nil))⟩
def qa_an : Ann := {}
def qa_c : Code := (match Try.f62.body with | some c => c | none => .skip)
def qa_a : StSh := ⟨.normal, [0], (.cons (.ptr 0 0 0 0) .nil), (.cons (.bcells 0 false 1 (.cons (.ptr 1 0 0 0) (.cons (.int .i64) (.cons .bool .nil)))) (.cons (.bcells 0 false 1 (.cons (.sl false false (.int .u8)) (.cons .bool .nil))) .nil))⟩
def qh_an : Ann := { live := [(0, [0, 2, 7, 10, 11])], boxed := [(1, 0), (5, 4)] }
def qh_c : Code := (match Try.f107.body with | some c => c | none => .skip)
def qh_l0 : Code := (match assoc 0 (loopsIn qh_c 0) with | some c => c | none => .skip)
def qh_a : StSh := ⟨.normal, [0, 1, 2], (.cons (.ptr 0 0 0 0) (.cons (.int .i64) (.cons (.fn 108 (.cons (.ptr 0 0 0 0) .nil) .nil) .nil))), (.cons (.bcells 0 false 1 (.cons (.ptr 1 0 0 0) (.cons (.int .i64) (.cons .bool .nil)))) (.cons (.bcells 0 false 1 (.cons (.sl false false (.int .u8)) (.cons .bool .nil))) .nil))⟩
def qn_an : Ann := {}
def qn_c : Code := (match Try.f108.body with | some c => c | none => .skip)
def qn_a : StSh := ⟨.normal, [0], (.cons (.ptr 0 0 0 0) .nil), (.cons (.bcells 0 false 1 (.cons (.ptr 1 0 0 0) (.cons (.int .i64) (.cons .bool .nil)))) (.cons (.bcells 0 false 1 (.cons (.sl false false (.int .u8)) (.cons .bool .nil))) .nil))⟩
def qcp_an : Ann := { live := [(0, [0, 2, 4, 6, 20, 21])] }
def qcp_c : Code := (match Try.f118.body with | some c => c | none => .skip)
def qcp_l0 : Code := (match assoc 0 (loopsIn qcp_c 0) with | some c => c | none => .skip)
def qcp_a : StSh := ⟨.normal, [0], (.cons (.ptr 0 0 0 0) .nil), (.cons (.bcells 0 false 1 (.cons (.sl false false (.int .u8)) (.cons .bool .nil))) .nil)⟩
def qai_an : Ann := {}
def qai_c : Code := (match Try.f67.body with | some c => c | none => .skip)
def qai_a : StSh := ⟨.normal, [0, 1], (.cons (.ptr 0 0 0 0) (.cons (.int .i64) .nil)), (.cons (.bcells 0 false 1 (.cons (.sl false false (.int .u8)) (.cons .bool .nil))) .nil)⟩
def qaz_an : Ann := {}
def qaz_c : Code := (match Try.f109.body with | some c => c | none => .skip)
def qaz_a : StSh := ⟨.normal, [0], (.cons (.sl true false (.int .u8)) .nil), .nil⟩
def qaz_res : List StSh := [⟨.ret, [0], (.cons (.fn 119 .nil (.cons (.ptr 0 0 0 0) .nil)) .nil), (.cons (.bcells 0 false 1 (.cons (.sl true false (.int .u8)) .nil)) .nil)⟩]
def qaz_tbl (n : Nat) : FuncId → List Entry := fun f => []
def qaz_loops (n : Nat) : Nat → Option LEntry := fun f => none
theorem qaz_run (n : Nat) (s_0 : DC) : funDS (real _) tab (qaz_tbl n) (qaz_loops n) qaz_an Try.f109 0 qaz_a qaz_res s_0 some = qaz n s_0 := by kernel_rfl
def qaz_E (n : Nat) : Entry := ⟨qaz_a, qaz_res, fun d => qaz n d⟩
theorem qaz_ok (n : Nat) : EOK Try.prog 109 (qaz_E n) :=
 EOK.ofS zb zc ze (tbl := qaz_tbl n) (loops := qaz_loops n) (an := qaz_an) (old := []) (n := n) (c := qaz_c) (fn := Try.f109) TblOK.nil (by kernel_rfl) (by kernel_rfl) (by kernel_rfl) (by kernel_rfl) (fun d => by kernel_rfl) LT.nil (fun a => qaz_run n a)
def qai_res : List StSh := [⟨.ret, [0], (.cons (.int .u64) .nil), (.cons (.bcells 0 false 1 (.cons (.sl false false (.int .u8)) (.cons .bool .nil))) .nil)⟩]
def qai_tbl (n : Nat) : FuncId → List Entry := fun f => bif Nat.beq f 70 then [qaw_E n] else bif Nat.beq f 109 then [qaz_E n] else []
def qai_E (n : Nat) : Entry := ⟨qai_a, qai_res, fun d => qai n d.1 d.2.1 d.2.2⟩
end
end Sx
