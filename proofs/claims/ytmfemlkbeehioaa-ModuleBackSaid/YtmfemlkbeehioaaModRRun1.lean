import Derived.Test.YtmfemlkbeehioaaProg
import Derived.Test.YtmfemlkbeehioaaLib32
import Derived.Test.YtmfemlkbeehioaaModRSh
import Derived.KernelRfl
open Go Go.Ab Go.Proofs
set_option linter.unusedVariables false
set_option maxRecDepth 20000
namespace Sx
noncomputable section
abbrev yA : Ty := (.sl true (.cons (.int .i64) (.int .i64)))
abbrev yB : Ty := (.cons (.sl true (.cons (.int .i64) (.int .i64))) (.cons (.int .i64) (.cons (.int .i64) (.cons (.sl true (.cons (.int .i64) (.int .i64))) (.sl true (.cons (.int .i64) (.cons (.int .i64) (.int .i64))))))))
abbrev yC : Ty := (.cons (.sl true (.cons (.int .i64) (.int .i64))) (.cons (.int .i64) (.int .i64)))
abbrev yD : Ty := (.cons (.int .i64) (.int .i64))
abbrev yE : Ty := (.cons (.int .i64) (.cons (.int .i64) (.int .i64)))
abbrev yF : Ty := (.sl false (.int .u8))
def gtabL : DG := []
instance gTab : GTab := ⟨fun g => assoc g gtabL⟩
def ti2 : TI := ⟨.int .i64, 1, 8, false, some (.int .i64), false, [.int .i64 0]⟩
def ti3 : TI := ⟨.int .i64, 1, 8, false, some (.int .i64), false, [.int .i64 0]⟩
def ti4 : TI := ⟨.bool, 1, 1, false, some .bool, false, [.bool false]⟩
def ti5 : TI := ⟨.int .u8, 1, 1, false, some (.int .u8), false, [.int .u8 0]⟩
def ti6 : TI := ⟨.int .u8, 1, 1, false, some (.int .u8), false, [.int .u8 0]⟩
def ti7 : TI := ⟨.st [(0, 1, 2), (1, 1, 3), (2, 1, 4), (3, 1, 6)], 4, 24, true, some (.cons (.int .i64) (.cons (.int .i64) (.cons .bool (.int .u8)))), true, [.int .i64 0, .int .i64 0, .bool false, .int .u8 0]⟩
def ti8 : TI := ⟨.st [(0, 1, 2), (1, 1, 3), (2, 1, 4), (3, 1, 6)], 4, 24, true, some (.cons (.int .i64) (.cons (.int .i64) (.cons .bool (.int .u8)))), true, [.int .i64 0, .int .i64 0, .bool false, .int .u8 0]⟩
def ti9 : TI := ⟨.str, 1, 16, false, some .str, false, [.string (ByteArray.mk (List.toArray []))]⟩
def ti10 : TI := ⟨.str, 1, 16, false, some .str, false, [.string (ByteArray.mk (List.toArray []))]⟩
def ti11 : TI := ⟨.str, 1, 16, false, some .str, false, [.string (ByteArray.mk (List.toArray []))]⟩
def ti12 : TI := ⟨.int .u64, 1, 8, false, some (.int .u64), false, [.int .u64 0]⟩
def ti13 : TI := ⟨.st [(0, 1, 9), (1, 1, 12)], 2, 24, true, some (.cons .str (.int .u64)), false, [.string (ByteArray.mk (List.toArray [])), .int .u64 0]⟩
def ti14 : TI := ⟨.st [(0, 1, 9), (1, 1, 12)], 2, 24, true, some (.cons .str (.int .u64)), false, [.string (ByteArray.mk (List.toArray [])), .int .u64 0]⟩
def ti15 : TI := ⟨.ptr, 1, 8, false, none, false, [.pointer none]⟩
def ti16 : TI := ⟨.ptr, 1, 8, false, none, false, [.pointer none]⟩
def ti17 : TI := ⟨.ptr, 1, 8, false, none, false, [.pointer none]⟩
def ti18 : TI := ⟨.st [(0, 1, 17)], 1, 8, true, none, false, [.pointer none]⟩
def ti19 : TI := ⟨.st [(0, 1, 17)], 1, 8, true, none, false, [.pointer none]⟩
def ti21 : TI := ⟨.int .i32, 1, 4, false, some (.int .i32), false, [.int .i32 0]⟩
def ti22 : TI := ⟨.st [(0, 1, 3), (1, 1, 3)], 2, 16, true, some (.cons (.int .i64) (.int .i64)), true, [.int .i64 0, .int .i64 0]⟩
def ti23 : TI := ⟨.st [(0, 1, 3), (1, 1, 3)], 2, 16, true, some (.cons (.int .i64) (.int .i64)), true, [.int .i64 0, .int .i64 0]⟩
def ti24 : TI := ⟨.sl 23, 1, 24, false, some (.sl true (.cons (.int .i64) (.int .i64))), false, [.slice none 0 0]⟩
def ti25 : TI := ⟨.sl 40, 1, 24, false, some (.sl true (.cons (.int .i64) (.cons (.int .i64) (.int .i64)))), false, [.slice none 0 0]⟩
def ti26 : TI := ⟨.st [(0, 1, 24), (1, 2, 23), (3, 1, 24), (4, 1, 25)], 5, 88, true, some (.cons (.sl true (.cons (.int .i64) (.int .i64))) (.cons (.int .i64) (.cons (.int .i64) (.cons (.sl true (.cons (.int .i64) (.int .i64))) (.sl true (.cons (.int .i64) (.cons (.int .i64) (.int .i64)))))))), false, [.slice none 0 0, .int .i64 0, .int .i64 0, .slice none 0 0, .slice none 0 0]⟩
def ti27 : TI := ⟨.st [(0, 1, 24), (1, 2, 23), (3, 1, 24), (4, 1, 25)], 5, 88, true, some (.cons (.sl true (.cons (.int .i64) (.int .i64))) (.cons (.int .i64) (.cons (.int .i64) (.cons (.sl true (.cons (.int .i64) (.int .i64))) (.sl true (.cons (.int .i64) (.cons (.int .i64) (.int .i64)))))))), false, [.slice none 0 0, .int .i64 0, .int .i64 0, .slice none 0 0, .slice none 0 0]⟩
def ti28 : TI := ⟨.sl 27, 1, 24, false, some (.sl true (.cons (.sl true (.cons (.int .i64) (.int .i64))) (.cons (.int .i64) (.cons (.int .i64) (.cons (.sl true (.cons (.int .i64) (.int .i64))) (.sl true (.cons (.int .i64) (.cons (.int .i64) (.int .i64))))))))), false, [.slice none 0 0]⟩
def ti29 : TI := ⟨.sl 24, 1, 24, false, some (.sl false (.sl true (.cons (.int .i64) (.int .i64)))), false, [.slice none 0 0]⟩
def ti30 : TI := ⟨.sl 38, 1, 24, false, some (.sl true (.cons (.sl true (.cons (.int .i64) (.int .i64))) (.cons (.int .i64) (.int .i64)))), false, [.slice none 0 0]⟩
def ti31 : TI := ⟨.sl 36, 1, 24, false, some (.sl false (.int .u64)), false, [.slice none 0 0]⟩
def ti32 : TI := ⟨.sl 9, 1, 24, false, some (.sl false .str), false, [.slice none 0 0]⟩
def ti33 : TI := ⟨.st [(0, 1, 29), (1, 1, 28), (2, 1, 30), (3, 1, 31), (4, 1, 32)], 5, 120, true, some (.cons (.sl false (.sl true (.cons (.int .i64) (.int .i64)))) (.cons (.sl true (.cons (.sl true (.cons (.int .i64) (.int .i64))) (.cons (.int .i64) (.cons (.int .i64) (.cons (.sl true (.cons (.int .i64) (.int .i64))) (.sl true (.cons (.int .i64) (.cons (.int .i64) (.int .i64))))))))) (.cons (.sl true (.cons (.sl true (.cons (.int .i64) (.int .i64))) (.cons (.int .i64) (.int .i64)))) (.cons (.sl false (.int .u64)) (.sl false .str))))), false, [.slice none 0 0, .slice none 0 0, .slice none 0 0, .slice none 0 0, .slice none 0 0]⟩
def ti34 : TI := ⟨.st [(0, 1, 29), (1, 1, 28), (2, 1, 30), (3, 1, 31), (4, 1, 32)], 5, 120, true, some (.cons (.sl false (.sl true (.cons (.int .i64) (.int .i64)))) (.cons (.sl true (.cons (.sl true (.cons (.int .i64) (.int .i64))) (.cons (.int .i64) (.cons (.int .i64) (.cons (.sl true (.cons (.int .i64) (.int .i64))) (.sl true (.cons (.int .i64) (.cons (.int .i64) (.int .i64))))))))) (.cons (.sl true (.cons (.sl true (.cons (.int .i64) (.int .i64))) (.cons (.int .i64) (.int .i64)))) (.cons (.sl false (.int .u64)) (.sl false .str))))), false, [.slice none 0 0, .slice none 0 0, .slice none 0 0, .slice none 0 0, .slice none 0 0]⟩
def ti35 : TI := ⟨.sl 3, 1, 24, false, some (.sl false (.int .i64)), false, [.slice none 0 0]⟩
def ti36 : TI := ⟨.int .u64, 1, 8, false, some (.int .u64), false, [.int .u64 0]⟩
def ti37 : TI := ⟨.st [(0, 1, 24), (1, 2, 23)], 3, 40, true, some (.cons (.sl true (.cons (.int .i64) (.int .i64))) (.cons (.int .i64) (.int .i64))), false, [.slice none 0 0, .int .i64 0, .int .i64 0]⟩
def ti38 : TI := ⟨.st [(0, 1, 24), (1, 2, 23)], 3, 40, true, some (.cons (.sl true (.cons (.int .i64) (.int .i64))) (.cons (.int .i64) (.int .i64))), false, [.slice none 0 0, .int .i64 0, .int .i64 0]⟩
def ti39 : TI := ⟨.st [(0, 1, 3), (1, 1, 3), (2, 1, 3)], 3, 24, true, some (.cons (.int .i64) (.cons (.int .i64) (.int .i64))), true, [.int .i64 0, .int .i64 0, .int .i64 0]⟩
def ti40 : TI := ⟨.st [(0, 1, 3), (1, 1, 3), (2, 1, 3)], 3, 24, true, some (.cons (.int .i64) (.cons (.int .i64) (.int .i64))), true, [.int .i64 0, .int .i64 0, .int .i64 0]⟩
def ti41 : TI := ⟨.int .i64, 1, 8, false, some (.int .i64), false, [.int .i64 0]⟩
def ti49 : TI := ⟨.sl 5, 1, 24, false, some (.sl false (.int .u8)), false, [.slice none 0 0]⟩
def ti54 : TI := ⟨.int .u32, 1, 4, false, some (.int .u32), false, [.int .u32 0]⟩
def ti62 : TI := ⟨.int .u16, 1, 2, false, some (.int .u16), false, [.int .u16 0]⟩
def ti73 : TI := ⟨.sl 49, 1, 24, false, some (.sl false (.sl false (.int .u8))), false, [.slice none 0 0]⟩
def ti81 : TI := ⟨.ptr, 1, 8, false, none, false, [.pointer none]⟩
def ti82 : TI := ⟨.ptr, 1, 8, false, none, false, [.pointer none]⟩
def ti84 : TI := ⟨.st [(0, 1, 82), (1, 1, 3), (2, 1, 4)], 3, 24, true, none, false, [.pointer none, .int .i64 0, .bool false]⟩
def ti85 : TI := ⟨.st [(0, 1, 82), (1, 1, 3), (2, 1, 4)], 3, 24, true, none, false, [.pointer none, .int .i64 0, .bool false]⟩
def ti122 : TI := ⟨.ptr, 1, 8, false, none, false, [.pointer none]⟩
def ti123 : TI := ⟨.st [(0, 1, 49)], 1, 24, true, some (.sl false (.int .u8)), false, [.slice none 0 0]⟩
def ti124 : TI := ⟨.st [(0, 1, 49)], 1, 24, true, some (.sl false (.int .u8)), false, [.slice none 0 0]⟩
def ti127 : TI := ⟨.int .u64, 1, 8, false, some (.int .u64), false, [.int .u64 0]⟩
def ti131 : TI := ⟨.st [(0, 1, 49), (1, 1, 4)], 2, 32, true, some (.cons (.sl false (.int .u8)) .bool), false, [.slice none 0 0, .bool false]⟩
def ti132 : TI := ⟨.st [(0, 1, 49), (1, 1, 4)], 2, 32, true, some (.cons (.sl false (.int .u8)) .bool), false, [.slice none 0 0, .bool false]⟩
def ti145 : TI := ⟨.arr 2 3, 2, 16, true, none, false, [.int .i64 0, .int .i64 0]⟩
def ti149 : TI := ⟨.arr 2 36, 2, 16, true, none, false, [.int .u64 0, .int .u64 0]⟩
def ti150 : TI := ⟨.st [(0, 1, 17), (1, 1, 17), (2, 1, 17), (3, 1, 9)], 4, 40, true, none, false, [.pointer none, .pointer none, .pointer none, .string (ByteArray.mk (List.toArray []))]⟩
def ti151 : TI := ⟨.st [(0, 1, 17), (1, 1, 17), (2, 1, 17), (3, 1, 9)], 4, 40, true, none, false, [.pointer none, .pointer none, .pointer none, .string (ByteArray.mk (List.toArray []))]⟩
def ti152 : TI := ⟨.arr 0 16, 0, 0, true, none, false, []⟩
def ti153 : TI := ⟨.st [(0, 0, 152)], 0, 0, true, none, false, []⟩
def ti154 : TI := ⟨.st [(0, 0, 152)], 0, 0, true, none, false, []⟩
def ti155 : TI := ⟨.int .u8, 1, 1, false, some (.int .u8), false, [.int .u8 0]⟩
def ti156 : TI := ⟨.int .u8, 1, 1, false, some (.int .u8), false, [.int .u8 0]⟩
def ti158 : TI := ⟨.ptr, 1, 8, false, none, false, [.pointer none]⟩
def ti159 : TI := ⟨.int .i32, 1, 4, false, some (.int .i32), false, [.int .i32 0]⟩
def ti160 : TI := ⟨.int .i32, 1, 4, false, some (.int .i32), false, [.int .i32 0]⟩
def ti163 : TI := ⟨.other, 1, 8, false, none, false, [.pointer none]⟩
def tabL : List (Nat × TI) := [(2, ti2), (3, ti3), (4, ti4), (5, ti5), (6, ti6), (7, ti7), (8, ti8), (9, ti9), (10, ti10), (11, ti11), (12, ti12), (13, ti13), (14, ti14), (15, ti15), (16, ti16), (17, ti17), (18, ti18), (19, ti19), (21, ti21), (22, ti22), (23, ti23), (24, ti24), (25, ti25), (26, ti26), (27, ti27), (28, ti28), (29, ti29), (30, ti30), (31, ti31), (32, ti32), (33, ti33), (34, ti34), (35, ti35), (36, ti36), (37, ti37), (38, ti38), (39, ti39), (40, ti40), (41, ti41), (49, ti49), (54, ti54), (62, ti62), (73, ti73), (81, ti81), (82, ti82), (84, ti84), (85, ti85), (122, ti122), (123, ti123), (124, ti124), (127, ti127), (131, ti131), (132, ti132), (145, ti145), (149, ti149), (150, ti150), (151, ti151), (152, ti152), (153, ti153), (154, ti154), (155, ti155), (156, ti156), (158, ti158), (159, ti159), (160, ti160), (163, ti163)]
def tab : TypeId → Option TI := fun t => assoc t tabL
theorem ze : TabOK Try.prog tab := (show TabOK Try.prog (fun t => assoc t tabL) from TabOK.of_list _ (by kernel_rfl))
theorem zc : namesOK Try.prog = true := by kernel_rfl
theorem zb : Try.prog.follows .mixedOrders = true := by kernel_rfl
def law06ModuleBack_an : Ann := {}
def law06ModuleBack_c : Code := (match Try.f7.body with | some c => c | none => .skip)
def law06ModuleBack_a : StSh := ⟨.normal, [0], (.cons (.agg (.cons (.sl true false yA) (.cons (.sl true true yB) (.cons (.sl true true yC) (.cons (.sl true false (.int .u64)) (.cons (.sl true false .str) .nil)))))) .nil), .nil⟩
def qby_an : Ann := { live := [(0, [1, 3, 4]), (2, [1, 3, 5]), (4, [1, 3, 6]), (6, [1, 3, 7])] }
def qby_c : Code := (match Try.f14.body with | some c => c | none => .skip)
def qby_l0 : Code := (match assoc 0 (loopsIn qby_c 0) with | some c => c | none => .skip)
def qby_l2 : Code := (match assoc 2 (loopsIn qby_c 0) with | some c => c | none => .skip)
def qby_l4 : Code := (match assoc 4 (loopsIn qby_c 0) with | some c => c | none => .skip)
def qby_l6 : Code := (match assoc 6 (loopsIn qby_c 0) with | some c => c | none => .skip)
def qby_a : StSh := ⟨.normal, [0], (.cons (.agg (.cons (.sl true false yA) (.cons (.sl true true yB) (.cons (.sl true true yC) (.cons (.sl true false (.int .u64)) (.cons (.sl true false .str) .nil)))))) .nil), .nil⟩
def qby_h0 : List StSh := [⟨.normal, [1, 3, 4], (.cons (.ptr 0 0 0 0) (.cons (.int .i64) (.cons (.int .i64) .nil))), (.cons (.bcells 0 false 1 (.cons (.sl true false yA) (.cons (.sl true true yB) (.cons (.sl true true yC) (.cons (.sl true false (.int .u64)) (.cons (.sl true false .str) .nil)))))) .nil)⟩]
def qby_o0 : List StSh := [⟨.exit 0, [1, 3], (.cons (.ptr 0 0 0 0) (.cons (.int .i64) .nil)), (.cons (.bcells 0 false 1 (.cons (.sl true false yA) (.cons (.sl true true yB) (.cons (.sl true true yC) (.cons (.sl true false (.int .u64)) (.cons (.sl true false .str) .nil)))))) .nil)⟩]
def qby_L0 (n : Nat) : LEntry := ⟨qby_h0, qby_o0, qby_W0 n⟩
def qby_h2 : List StSh := [⟨.normal, [1, 3, 5], (.cons (.ptr 0 0 0 0) (.cons (.int .i64) (.cons (.int .i64) .nil))), (.cons (.bcells 0 false 1 (.cons (.sl true false yA) (.cons (.sl true true yB) (.cons (.sl true true yC) (.cons (.sl true false (.int .u64)) (.cons (.sl true false .str) .nil)))))) .nil)⟩]
def qby_o2 : List StSh := [⟨.exit 2, [1, 3], (.cons (.ptr 0 0 0 0) (.cons (.int .i64) .nil)), (.cons (.bcells 0 false 1 (.cons (.sl true false yA) (.cons (.sl true true yB) (.cons (.sl true true yC) (.cons (.sl true false (.int .u64)) (.cons (.sl true false .str) .nil)))))) .nil)⟩]
def qby_L2 (n : Nat) : LEntry := ⟨qby_h2, qby_o2, qby_W2 n⟩
def qby_h4 : List StSh := [⟨.normal, [1, 3, 6], (.cons (.ptr 0 0 0 0) (.cons (.int .i64) (.cons (.int .i64) .nil))), (.cons (.bcells 0 false 1 (.cons (.sl true false yA) (.cons (.sl true true yB) (.cons (.sl true true yC) (.cons (.sl true false (.int .u64)) (.cons (.sl true false .str) .nil)))))) .nil)⟩]
def qby_o4 : List StSh := [⟨.exit 4, [1, 3], (.cons (.ptr 0 0 0 0) (.cons (.int .i64) .nil)), (.cons (.bcells 0 false 1 (.cons (.sl true false yA) (.cons (.sl true true yB) (.cons (.sl true true yC) (.cons (.sl true false (.int .u64)) (.cons (.sl true false .str) .nil)))))) .nil)⟩]
def qby_L4 (n : Nat) : LEntry := ⟨qby_h4, qby_o4, qby_W4 n⟩
def qby_h6 : List StSh := [⟨.normal, [1, 3, 7], (.cons (.ptr 0 0 0 0) (.cons (.int .i64) (.cons (.int .i64) .nil))), (.cons (.bcells 0 false 1 (.cons (.sl true false yA) (.cons (.sl true true yB) (.cons (.sl true true yC) (.cons (.sl true false (.int .u64)) (.cons (.sl true false .str) .nil)))))) .nil)⟩]
def qby_o6 : List StSh := [⟨.exit 6, [3], (.cons (.int .i64) .nil), (.cons (.bcells 0 false 1 (.cons (.sl true false yA) (.cons (.sl true true yB) (.cons (.sl true true yC) (.cons (.sl true false (.int .u64)) (.cons (.sl true false .str) .nil)))))) .nil)⟩]
def qby_L6 (n : Nat) : LEntry := ⟨qby_h6, qby_o6, qby_W6 n⟩
def qby_res : List StSh := [⟨.ret, [0], (.cons .bool .nil), .nil⟩]
def qby_tbl (n : Nat) : FuncId → List Entry := fun f => []
def qby_loops (n : Nat) : Nat → Option LEntry := fun f => bif Nat.beq f 0 then some (qby_L0 n) else bif Nat.beq f 2 then some (qby_L2 n) else bif Nat.beq f 4 then some (qby_L4 n) else bif Nat.beq f 6 then some (qby_L6 n) else none
theorem qby_r0 (n : Nat) (t3 : Int) (t4 : Int) (m0 : DH) (m0_1 : DI) (m0_2 : DJ) (m0_3 : DC) (m0_4 : DD) : roundK (real _) tab (qby_tbl n) (qby_loops n) qby_an [] qby_l0 0 [1, 3, 4] qby_h0 qby_o0 ((t3, t4), (m0, (m0_1, (m0_2, (m0_3, m0_4))))) some = qby_B0 n t3 t4 m0 m0_1 m0_2 m0_3 m0_4 := by kernel_rfl
theorem qby_f0 (n : Nat) : LoopFact tab (qby_tbl n) (qby_loops n) qby_an [] n 0 qby_l0 (qby_L0 n) := ⟨[1, 3, 4], (fun s => qby_B0 n s.1.1 s.1.2 s.2.1 s.2.2.1 s.2.2.2.1 s.2.2.2.2.1 s.2.2.2.2.2), by kernel_rfl, by kernel_rfl, fun s => rfl, fun s => qby_r0 n s.1.1 s.1.2 s.2.1 s.2.2.1 s.2.2.2.1 s.2.2.2.2.1 s.2.2.2.2.2⟩
theorem qby_r2 (n : Nat) (t3 : Int) (t5 : Int) (m0 : DH) (m0_1 : DI) (m0_2 : DJ) (m0_3 : DC) (m0_4 : DD) : roundK (real _) tab (qby_tbl n) (qby_loops n) qby_an [] qby_l2 2 [1, 3, 5] qby_h2 qby_o2 ((t3, t5), (m0, (m0_1, (m0_2, (m0_3, m0_4))))) some = qby_B2 n t3 t5 m0 m0_1 m0_2 m0_3 m0_4 := by kernel_rfl
theorem qby_f2 (n : Nat) : LoopFact tab (qby_tbl n) (qby_loops n) qby_an [] n 2 qby_l2 (qby_L2 n) := ⟨[1, 3, 5], (fun s => qby_B2 n s.1.1 s.1.2 s.2.1 s.2.2.1 s.2.2.2.1 s.2.2.2.2.1 s.2.2.2.2.2), by kernel_rfl, by kernel_rfl, fun s => rfl, fun s => qby_r2 n s.1.1 s.1.2 s.2.1 s.2.2.1 s.2.2.2.1 s.2.2.2.2.1 s.2.2.2.2.2⟩
theorem qby_r4 (n : Nat) (t3 : Int) (t6 : Int) (m0 : DH) (m0_1 : DI) (m0_2 : DJ) (m0_3 : DC) (m0_4 : DD) : roundK (real _) tab (qby_tbl n) (qby_loops n) qby_an [] qby_l4 4 [1, 3, 6] qby_h4 qby_o4 ((t3, t6), (m0, (m0_1, (m0_2, (m0_3, m0_4))))) some = qby_B4 n t3 t6 m0 m0_1 m0_2 m0_3 m0_4 := by kernel_rfl
theorem qby_f4 (n : Nat) : LoopFact tab (qby_tbl n) (qby_loops n) qby_an [] n 4 qby_l4 (qby_L4 n) := ⟨[1, 3, 6], (fun s => qby_B4 n s.1.1 s.1.2 s.2.1 s.2.2.1 s.2.2.2.1 s.2.2.2.2.1 s.2.2.2.2.2), by kernel_rfl, by kernel_rfl, fun s => rfl, fun s => qby_r4 n s.1.1 s.1.2 s.2.1 s.2.2.1 s.2.2.2.1 s.2.2.2.2.1 s.2.2.2.2.2⟩
theorem qby_r6 (n : Nat) (t3 : Int) (t7 : Int) (m0 : DH) (m0_1 : DI) (m0_2 : DJ) (m0_3 : DC) (m0_4 : DD) : roundK (real _) tab (qby_tbl n) (qby_loops n) qby_an [] qby_l6 6 [1, 3, 7] qby_h6 qby_o6 ((t3, t7), (m0, (m0_1, (m0_2, (m0_3, m0_4))))) some = qby_B6 n t3 t7 m0 m0_1 m0_2 m0_3 m0_4 := by kernel_rfl
theorem qby_f6 (n : Nat) : LoopFact tab (qby_tbl n) (qby_loops n) qby_an [] n 6 qby_l6 (qby_L6 n) := ⟨[1, 3, 7], (fun s => qby_B6 n s.1.1 s.1.2 s.2.1 s.2.2.1 s.2.2.2.1 s.2.2.2.2.1 s.2.2.2.2.2), by kernel_rfl, by kernel_rfl, fun s => rfl, fun s => qby_r6 n s.1.1 s.1.2 s.2.1 s.2.2.1 s.2.2.2.1 s.2.2.2.2.1 s.2.2.2.2.2⟩
theorem qby_run (n : Nat) (t0 : DH) (t0_1 : DI) (t0_2 : DJ) (t0_3 : DC) (t0_4 : DD) : funDS (real _) tab (qby_tbl n) (qby_loops n) qby_an Try.f14 0 qby_a qby_res (t0, (t0_1, (t0_2, (t0_3, t0_4)))) some = qby n t0 t0_1 t0_2 t0_3 t0_4 := by kernel_rfl
def qby_E (n : Nat) : Entry := ⟨qby_a, qby_res, fun d => qby n d.1 d.2.1 d.2.2.1 d.2.2.2.1 d.2.2.2.2⟩
theorem qby_ok (n : Nat) : EOK Try.prog 14 (qby_E n) :=
 EOK.ofS zc zb ze (tbl := qby_tbl n) (loops := qby_loops n) (an := qby_an) (old := []) (n := n) (c := qby_c) (fn := Try.f14) TblOK.nil (by kernel_rfl) (by kernel_rfl) (by kernel_rfl) (by kernel_rfl) (fun d => by kernel_rfl) (LT.cons (by kernel_rfl) (qby_f0 n) (LT.cons (by kernel_rfl) (qby_f2 n) (LT.cons (by kernel_rfl) (qby_f4 n) (LT.cons (by kernel_rfl) (qby_f6 n) LT.nil)))) (fun a => qby_run n a.1 a.2.1 a.2.2.1 a.2.2.2.1 a.2.2.2.2)
def qbd_an : Ann := {}
def qbd_c : Code := (match Try.f19.body with | some c => c | none => .skip)
def qbd_a : StSh := ⟨.normal, [], .nil, .nil⟩
def qbe_an : Ann := {}
def qbe_c : Code := (match Try.f20.body with | some c => c | none => .skip)
def qbe_a : StSh := ⟨.normal, [0], (.cons (.agg (.cons (.sl true false yA) (.cons (.sl true true yB) (.cons (.sl true true yC) (.cons (.sl true false (.int .u64)) (.cons (.sl true false .str) .nil)))))) .nil), .nil⟩
def qbu_an : Ann := {}
def qbu_c : Code := (match Try.f39.body with | some c => c | none => .skip)
def qbu_a : StSh := ⟨.normal, [0], (.cons (.agg (.cons (.sl true false yA) (.cons (.sl true true yB) (.cons (.sl true true yC) (.cons (.sl true false (.int .u64)) (.cons (.sl true false .str) .nil)))))) .nil), .nil⟩
def qh_an : Ann := {}
def qh_c : Code := (match Try.f85.body with | some c => c | none => .skip)
def qh_a : StSh := ⟨.normal, [0, 1], (.cons (.sl true false yA) (.cons (.fn 86 .nil (.cons (.ptr 0 0 0 0) .nil)) .nil)), (.cons (.bcells 0 false 1 (.cons (.int .i64) .nil)) .nil)⟩
def qaa_an : Ann := { live := [(0, [0, 1, 7, 8])] }
def qaa_c : Code := (match Try.f111.body with | some c => c | none => .skip)
def qaa_l0 : Code := (match assoc 0 (loopsIn qaa_c 0) with | some c => c | none => .skip)
def qaa_a : StSh := ⟨.normal, [0, 1], (.cons (.sl true false yA) (.cons (.fn 86 .nil (.cons (.ptr 0 0 0 0) .nil)) .nil)), (.cons (.bcells 0 false 1 (.cons (.int .i64) .nil)) .nil)⟩
def qbm_an : Ann := {}
def qbm_c : Code := (match Try.f86.body with | some c => c | none => .skip)
def qbm_a : StSh := ⟨.normal, [0, 1], (.cons (.sl true true yD) (.cons (.ptr 0 0 0 0) .nil)), (.cons (.bcells 0 false 1 (.cons (.int .i64) .nil)) .nil)⟩
def qbr_an : Ann := {}
def qbr_c : Code := (match Try.f87.body with | some c => c | none => .skip)
def qbr_a : StSh := ⟨.normal, [0, 1, 2], (.cons (.sl true true yD) (.cons (.int .i64) (.cons (.int .i64) .nil))), .nil⟩
def qv_an : Ann := {}
def qv_c : Code := (match Try.f31.body with | some c => c | none => .skip)
def qv_a : StSh := ⟨.normal, [0, 1], (.cons (.sl true true yD) (.cons (.fn 112 .nil (.cons (.ptr 0 0 0 0) .nil)) .nil)), (.cons (.bcells 0 false 1 (.cons (.int .i64) .nil)) .nil)⟩
def qal_an : Ann := { live := [(0, [0, 1, 7, 8])] }
def qal_c : Code := (match Try.f83.body with | some c => c | none => .skip)
def qal_l0 : Code := (match assoc 0 (loopsIn qal_c 0) with | some c => c | none => .skip)
def qal_a : StSh := ⟨.normal, [0, 1], (.cons (.sl true true yD) (.cons (.fn 112 .nil (.cons (.ptr 0 0 0 0) .nil)) .nil)), (.cons (.bcells 0 false 1 (.cons (.int .i64) .nil)) .nil)⟩
def qbj_an : Ann := {}
def qbj_c : Code := (match Try.f112.body with | some c => c | none => .skip)
def qbj_a : StSh := ⟨.normal, [0, 1], (.cons (.agg (.cons (.int .i64) (.cons (.int .i64) .nil))) (.cons (.ptr 0 0 0 0) .nil)), (.cons (.bcells 0 false 1 (.cons (.int .i64) .nil)) .nil)⟩
def qck_an : Ann := {}
def qck_c : Code := (match Try.f92.body with | some c => c | none => .skip)
def qck_a : StSh := ⟨.normal, [0, 1], (.cons (.agg (.cons (.int .i64) (.cons (.int .i64) .nil))) (.cons (.int .i64) .nil)), .nil⟩
def qck_res : List StSh := [⟨.ret, [0], (.cons .bool .nil), .nil⟩]
def qck_tbl (n : Nat) : FuncId → List Entry := fun f => []
def qck_loops (n : Nat) : Nat → Option LEntry := fun f => none
theorem qck_run (n : Nat) (t_0 : Int) (t_0_1 : Int) (recs_1 : Int) : funDS (real _) tab (qck_tbl n) (qck_loops n) qck_an Try.f92 0 qck_a qck_res ((t_0, t_0_1), recs_1) some = qck n t_0 t_0_1 recs_1 := by kernel_rfl
def qck_E (n : Nat) : Entry := ⟨qck_a, qck_res, fun d => qck n d.1.1 d.1.2 d.2⟩
theorem qck_ok (n : Nat) : EOK Try.prog 92 (qck_E n) :=
 EOK.ofS zc zb ze (tbl := qck_tbl n) (loops := qck_loops n) (an := qck_an) (old := []) (n := n) (c := qck_c) (fn := Try.f92) TblOK.nil (by kernel_rfl) (by kernel_rfl) (by kernel_rfl) (by kernel_rfl) (fun d => by kernel_rfl) LT.nil (fun a => qck_run n a.1.1 a.1.2 a.2)
def qbj_res : List StSh := [⟨.ret, [0], (.cons .bool .nil), (.cons (.bcells 0 false 1 (.cons (.int .i64) .nil)) .nil)⟩]
def qbj_tbl (n : Nat) : FuncId → List Entry := fun f => bif Nat.beq f 92 then [qck_E n] else []
def qbj_loops (n : Nat) : Nat → Option LEntry := fun f => none
theorem qbj_run (n : Nat) (t_0 : Int) (t_0_1 : Int) (m0 : Int) : funDS (real _) tab (qbj_tbl n) (qbj_loops n) qbj_an Try.f112 1 qbj_a qbj_res ((t_0, t_0_1), m0) some = qbj n t_0 t_0_1 m0 := by kernel_rfl
def qbj_E (n : Nat) : Entry := ⟨qbj_a, qbj_res, fun d => qbj n d.1.1 d.1.2 d.2⟩
theorem qbj_ok (n : Nat) : EOK Try.prog 112 (qbj_E n) :=
 EOK.ofS zc zb ze (tbl := qbj_tbl n) (loops := qbj_loops n) (an := qbj_an) (old := [some true]) (n := n) (c := qbj_c) (fn := Try.f112) (TblOK.cons (AllE.cons (qck_ok n) AllE.nil) TblOK.nil) (by kernel_rfl) (by kernel_rfl) (by kernel_rfl) (by kernel_rfl) (fun d => by kernel_rfl) LT.nil (fun a => qbj_run n a.1.1 a.1.2 a.2)
def qal_h0 : List StSh := [⟨.normal, [0, 1, 7, 8], (.cons (.sl true true yD) (.cons (.fn 112 .nil (.cons (.ptr 0 0 0 0) .nil)) (.cons (.int .i64) (.cons (.int .i64) .nil)))), (.cons (.bcells 0 false 1 (.cons (.int .i64) .nil)) .nil)⟩]
def qal_o0 : List StSh := [⟨.ret, [4], (.cons (.int .i64) .nil), (.cons (.bcells 0 false 1 (.cons (.int .i64) .nil)) .nil)⟩, ⟨.exit 0, [], .nil, (.cons (.bcells 0 false 1 (.cons (.int .i64) .nil)) .nil)⟩]
def qal_L0 (n : Nat) : LEntry := ⟨qal_h0, qal_o0, qal_W0 n⟩
def qal_res : List StSh := [⟨.ret, [0], (.cons (.int .i64) .nil), (.cons (.bcells 0 false 1 (.cons (.int .i64) .nil)) .nil)⟩]
def qal_tbl (n : Nat) : FuncId → List Entry := fun f => bif Nat.beq f 112 then [qbj_E n] else []
def qal_loops (n : Nat) : Nat → Option LEntry := fun f => bif Nat.beq f 0 then some (qal_L0 n) else none
theorem qal_r0 (n : Nat) (s_0 : DA) (t7 : Int) (t8 : Int) (m0 : Int) : roundK (real _) tab (qal_tbl n) (qal_loops n) qal_an [some true] qal_l0 0 [0, 1, 7, 8] qal_h0 qal_o0 ((s_0, (t7, t8)), m0) some = qal_B0 n s_0 t7 t8 m0 := by kernel_rfl
theorem qal_f0 (n : Nat) : LoopFact tab (qal_tbl n) (qal_loops n) qal_an [some true] n 0 qal_l0 (qal_L0 n) := ⟨[0, 1, 7, 8], (fun s => qal_B0 n s.1.1 s.1.2.1 s.1.2.2 s.2), by kernel_rfl, by kernel_rfl, fun s => rfl, fun s => qal_r0 n s.1.1 s.1.2.1 s.1.2.2 s.2⟩
theorem qal_run (n : Nat) (s_0 : DA) (m0 : Int) : funDS (real _) tab (qal_tbl n) (qal_loops n) qal_an Try.f83 1 qal_a qal_res (s_0, m0) some = qal n s_0 m0 := by kernel_rfl
def qal_E (n : Nat) : Entry := ⟨qal_a, qal_res, fun d => qal n d.1 d.2⟩
theorem qal_ok (n : Nat) : EOK Try.prog 83 (qal_E n) :=
 EOK.ofS zc zb ze (tbl := qal_tbl n) (loops := qal_loops n) (an := qal_an) (old := [some true]) (n := n) (c := qal_c) (fn := Try.f83) (TblOK.cons (AllE.cons (qbj_ok n) AllE.nil) TblOK.nil) (by kernel_rfl) (by kernel_rfl) (by kernel_rfl) (by kernel_rfl) (fun d => by kernel_rfl) (LT.cons (by kernel_rfl) (qal_f0 n) LT.nil) (fun a => qal_run n a.1 a.2)
def qv_res : List StSh := [⟨.ret, [0], (.cons .bool .nil), (.cons (.bcells 0 false 1 (.cons (.int .i64) .nil)) .nil)⟩]
def qv_tbl (n : Nat) : FuncId → List Entry := fun f => bif Nat.beq f 83 then [qal_E n] else []
def qv_loops (n : Nat) : Nat → Option LEntry := fun f => none
theorem qv_run (n : Nat) (s_0 : DA) (m0 : Int) : funDS (real _) tab (qv_tbl n) (qv_loops n) qv_an Try.f31 1 qv_a qv_res (s_0, m0) some = qv n s_0 m0 := by kernel_rfl
def qv_E (n : Nat) : Entry := ⟨qv_a, qv_res, fun d => qv n d.1 d.2⟩
theorem qv_ok (n : Nat) : EOK Try.prog 31 (qv_E n) :=
 EOK.ofS zc zb ze (tbl := qv_tbl n) (loops := qv_loops n) (an := qv_an) (old := [some true]) (n := n) (c := qv_c) (fn := Try.f31) (TblOK.cons (AllE.cons (qal_ok n) AllE.nil) TblOK.nil) (by kernel_rfl) (by kernel_rfl) (by kernel_rfl) (by kernel_rfl) (fun d => by kernel_rfl) LT.nil (fun a => qv_run n a.1 a.2)
def qbr_res : List StSh := [⟨.ret, [0], (.cons .bool .nil), .nil⟩]
def qbr_tbl (n : Nat) : FuncId → List Entry := fun f => bif Nat.beq f 31 then [qv_E n] else []
def qbr_loops (n : Nat) : Nat → Option LEntry := fun f => none
theorem qbr_run (n : Nat) (list_0 : DA) (recs_1 : Int) (most_2 : Int) : funDS (real _) tab (qbr_tbl n) (qbr_loops n) qbr_an Try.f87 0 qbr_a qbr_res (list_0, (recs_1, most_2)) some = qbr n list_0 recs_1 most_2 := by kernel_rfl
def qbr_E (n : Nat) : Entry := ⟨qbr_a, qbr_res, fun d => qbr n d.1 d.2.1 d.2.2⟩
theorem qbr_ok (n : Nat) : EOK Try.prog 87 (qbr_E n) :=
 EOK.ofS zc zb ze (tbl := qbr_tbl n) (loops := qbr_loops n) (an := qbr_an) (old := []) (n := n) (c := qbr_c) (fn := Try.f87) (TblOK.cons (AllE.cons (qv_ok n) AllE.nil) TblOK.nil) (by kernel_rfl) (by kernel_rfl) (by kernel_rfl) (by kernel_rfl) (fun d => by kernel_rfl) LT.nil (fun a => qbr_run n a.1 a.2.1 a.2.2)
def qbm_res : List StSh := [⟨.ret, [0], (.cons .bool .nil), (.cons (.bcells 0 false 1 (.cons (.int .i64) .nil)) .nil)⟩]
def qbm_tbl (n : Nat) : FuncId → List Entry := fun f => bif Nat.beq f 87 then [qbr_E n] else []
def qbm_loops (n : Nat) : Nat → Option LEntry := fun f => none
theorem qbm_run (n : Nat) (l_0 : DA) (m0 : Int) : funDS (real _) tab (qbm_tbl n) (qbm_loops n) qbm_an Try.f86 1 qbm_a qbm_res (l_0, m0) some = qbm n l_0 m0 := by kernel_rfl
def qbm_E (n : Nat) : Entry := ⟨qbm_a, qbm_res, fun d => qbm n d.1 d.2⟩
theorem qbm_ok (n : Nat) : EOK Try.prog 86 (qbm_E n) :=
 EOK.ofS zc zb ze (tbl := qbm_tbl n) (loops := qbm_loops n) (an := qbm_an) (old := [some true]) (n := n) (c := qbm_c) (fn := Try.f86) (TblOK.cons (AllE.cons (qbr_ok n) AllE.nil) TblOK.nil) (by kernel_rfl) (by kernel_rfl) (by kernel_rfl) (by kernel_rfl) (fun d => by kernel_rfl) LT.nil (fun a => qbm_run n a.1 a.2)
def qaa_h0 : List StSh := [⟨.normal, [0, 1, 7, 8], (.cons (.sl true false yA) (.cons (.fn 86 .nil (.cons (.ptr 0 0 0 0) .nil)) (.cons (.int .i64) (.cons (.int .i64) .nil)))), (.cons (.bcells 0 false 1 (.cons (.int .i64) .nil)) .nil)⟩]
def qaa_o0 : List StSh := [⟨.ret, [4], (.cons (.int .i64) .nil), (.cons (.bcells 0 false 1 (.cons (.int .i64) .nil)) .nil)⟩, ⟨.exit 0, [], .nil, (.cons (.bcells 0 false 1 (.cons (.int .i64) .nil)) .nil)⟩]
def qaa_L0 (n : Nat) : LEntry := ⟨qaa_h0, qaa_o0, qaa_W0 n⟩
def qaa_res : List StSh := [⟨.ret, [0], (.cons (.int .i64) .nil), (.cons (.bcells 0 false 1 (.cons (.int .i64) .nil)) .nil)⟩]
def qaa_tbl (n : Nat) : FuncId → List Entry := fun f => bif Nat.beq f 86 then [qbm_E n] else []
def qaa_loops (n : Nat) : Nat → Option LEntry := fun f => bif Nat.beq f 0 then some (qaa_L0 n) else none
theorem qaa_r0 (n : Nat) (s_0 : DH) (t7 : Int) (t8 : Int) (m0 : Int) : roundK (real _) tab (qaa_tbl n) (qaa_loops n) qaa_an [some true] qaa_l0 0 [0, 1, 7, 8] qaa_h0 qaa_o0 ((s_0, (t7, t8)), m0) some = qaa_B0 n s_0 t7 t8 m0 := by kernel_rfl
theorem qaa_f0 (n : Nat) : LoopFact tab (qaa_tbl n) (qaa_loops n) qaa_an [some true] n 0 qaa_l0 (qaa_L0 n) := ⟨[0, 1, 7, 8], (fun s => qaa_B0 n s.1.1 s.1.2.1 s.1.2.2 s.2), by kernel_rfl, by kernel_rfl, fun s => rfl, fun s => qaa_r0 n s.1.1 s.1.2.1 s.1.2.2 s.2⟩
theorem qaa_run (n : Nat) (s_0 : DH) (m0 : Int) : funDS (real _) tab (qaa_tbl n) (qaa_loops n) qaa_an Try.f111 1 qaa_a qaa_res (s_0, m0) some = qaa n s_0 m0 := by kernel_rfl
def qaa_E (n : Nat) : Entry := ⟨qaa_a, qaa_res, fun d => qaa n d.1 d.2⟩
theorem qaa_ok (n : Nat) : EOK Try.prog 111 (qaa_E n) :=
 EOK.ofS zc zb ze (tbl := qaa_tbl n) (loops := qaa_loops n) (an := qaa_an) (old := [some true]) (n := n) (c := qaa_c) (fn := Try.f111) (TblOK.cons (AllE.cons (qbm_ok n) AllE.nil) TblOK.nil) (by kernel_rfl) (by kernel_rfl) (by kernel_rfl) (by kernel_rfl) (fun d => by kernel_rfl) (LT.cons (by kernel_rfl) (qaa_f0 n) LT.nil) (fun a => qaa_run n a.1 a.2)
def qh_res : List StSh := [⟨.ret, [0], (.cons .bool .nil), (.cons (.bcells 0 false 1 (.cons (.int .i64) .nil)) .nil)⟩]
def qh_tbl (n : Nat) : FuncId → List Entry := fun f => bif Nat.beq f 111 then [qaa_E n] else []
def qh_loops (n : Nat) : Nat → Option LEntry := fun f => none
theorem qh_run (n : Nat) (s_0 : DH) (m0 : Int) : funDS (real _) tab (qh_tbl n) (qh_loops n) qh_an Try.f85 1 qh_a qh_res (s_0, m0) some = qh n s_0 m0 := by kernel_rfl
def qh_E (n : Nat) : Entry := ⟨qh_a, qh_res, fun d => qh n d.1 d.2⟩
theorem qh_ok (n : Nat) : EOK Try.prog 85 (qh_E n) :=
 EOK.ofS zc zb ze (tbl := qh_tbl n) (loops := qh_loops n) (an := qh_an) (old := [some true]) (n := n) (c := qh_c) (fn := Try.f85) (TblOK.cons (AllE.cons (qaa_ok n) AllE.nil) TblOK.nil) (by kernel_rfl) (by kernel_rfl) (by kernel_rfl) (by kernel_rfl) (fun d => by kernel_rfl) LT.nil (fun a => qh_run n a.1 a.2)
def qs_an : Ann := {}
def qs_c : Code := (match Try.f88.body with | some c => c | none => .skip)
def qs_a : StSh := ⟨.normal, [0, 1], (.cons (.sl true true yB) (.cons (.fn 89 .nil (.cons (.ptr 0 0 0 0) .nil)) .nil)), (.cons (.bcells 0 false 1 (.cons (.int .i64) .nil)) .nil)⟩
def qak_an : Ann := { live := [(0, [0, 1, 7, 8])] }
def qak_c : Code := (match Try.f113.body with | some c => c | none => .skip)
def qak_l0 : Code := (match assoc 0 (loopsIn qak_c 0) with | some c => c | none => .skip)
def qak_a : StSh := ⟨.normal, [0, 1], (.cons (.sl true true yB) (.cons (.fn 89 .nil (.cons (.ptr 0 0 0 0) .nil)) .nil)), (.cons (.bcells 0 false 1 (.cons (.int .i64) .nil)) .nil)⟩
def qbo_an : Ann := {}
def qbo_c : Code := (match Try.f89.body with | some c => c | none => .skip)
def qbo_a : StSh := ⟨.normal, [0, 1], (.cons (.agg (.cons (.sl true true yD) (.cons (.int .i64) (.cons (.int .i64) (.cons (.sl true true yD) (.cons (.sl true true yE) .nil)))))) (.cons (.ptr 0 0 0 0) .nil)), (.cons (.bcells 0 false 1 (.cons (.int .i64) .nil)) .nil)⟩
def qas_an : Ann := {}
def qas_c : Code := (match Try.f90.body with | some c => c | none => .skip)
def qas_a : StSh := ⟨.normal, [0, 1], (.cons (.agg (.cons (.sl true true yD) (.cons (.int .i64) (.cons (.int .i64) (.cons (.sl true true yD) (.cons (.sl true true yE) .nil)))))) (.cons (.int .i64) .nil)), .nil⟩
def qj_an : Ann := {}
def qj_c : Code := (match Try.f30.body with | some c => c | none => .skip)
def qj_a : StSh := ⟨.normal, [0, 1], (.cons (.sl true true yE) (.cons (.fn 114 .nil .nil) .nil)), .nil⟩
def qah_an : Ann := { live := [(0, [0, 1, 7, 8])] }
def qah_c : Code := (match Try.f82.body with | some c => c | none => .skip)
def qah_l0 : Code := (match assoc 0 (loopsIn qah_c 0) with | some c => c | none => .skip)
def qah_a : StSh := ⟨.normal, [0, 1], (.cons (.sl true true yE) (.cons (.fn 114 .nil .nil) .nil)), .nil⟩
def qaj_an : Ann := {}
def qaj_c : Code := (match Try.f114.body with | some c => c | none => .skip)
def qaj_a : StSh := ⟨.normal, [0], (.cons (.agg (.cons (.int .i64) (.cons (.int .i64) (.cons (.int .i64) .nil)))) .nil), .nil⟩
def qcr_an : Ann := { live := [(0, [4, 39, 40, 41])], boxed := [(4, 3), (9, 4)] }
def qcr_c : Code := (match Try.f99.body with | some c => c | none => .skip)
def qcr_l0 : Code := (match assoc 0 (loopsIn qcr_c 0) with | some c => c | none => .skip)
def qcr_a : StSh := ⟨.normal, [0], (.cons (.agg (.cons (.int .i64) (.cons (.int .i64) (.cons (.int .i64) .nil)))) .nil), .nil⟩
def qcl_an : Ann := {}
def qcl_c : Code := (match Try.f116.body with | some c => c | none => .skip)
def qcl_a : StSh := ⟨.normal, [0], (.cons (.int .i64) .nil), .nil⟩
def qcl_res : List StSh := [⟨.ret, [0], (.cons (.int .i64) .nil), .nil⟩]
def qcl_tbl (n : Nat) : FuncId → List Entry := fun f => []
def qcl_loops (n : Nat) : Nat → Option LEntry := fun f => none
theorem qcl_run (n : Nat) (op_0 : Int) : funDS (real _) tab (qcl_tbl n) (qcl_loops n) qcl_an Try.f116 0 qcl_a qcl_res op_0 some = qcl n op_0 := by kernel_rfl
def qcl_E (n : Nat) : Entry := ⟨qcl_a, qcl_res, fun d => qcl n d⟩
theorem qcl_ok (n : Nat) : EOK Try.prog 116 (qcl_E n) :=
 EOK.ofS zc zb ze (tbl := qcl_tbl n) (loops := qcl_loops n) (an := qcl_an) (old := []) (n := n) (c := qcl_c) (fn := Try.f116) TblOK.nil (by kernel_rfl) (by kernel_rfl) (by kernel_rfl) (by kernel_rfl) (fun d => by kernel_rfl) LT.nil (fun a => qcl_run n a)
def qco_an : Ann := {}
def qco_c : Code := (match Try.f117.body with | some c => c | none => .skip)
def qco_a : StSh := ⟨.normal, [0, 1], (.cons (.int .i64) (.cons .bool .nil)), .nil⟩
def qco_res : List StSh := [⟨.ret, [0], (.cons .bool .nil), .nil⟩]
def qco_tbl (n : Nat) : FuncId → List Entry := fun f => []
def qco_loops (n : Nat) : Nat → Option LEntry := fun f => none
theorem qco_run (n : Nat) (n_0 : Int) (has_1 : Bool) : funDS (real _) tab (qco_tbl n) (qco_loops n) qco_an Try.f117 0 qco_a qco_res (n_0, has_1) some = qco n n_0 has_1 := by kernel_rfl
def qco_E (n : Nat) : Entry := ⟨qco_a, qco_res, fun d => qco n d.1 d.2⟩
theorem qco_ok (n : Nat) : EOK Try.prog 117 (qco_E n) :=
 EOK.ofS zc zb ze (tbl := qco_tbl n) (loops := qco_loops n) (an := qco_an) (old := []) (n := n) (c := qco_c) (fn := Try.f117) TblOK.nil (by kernel_rfl) (by kernel_rfl) (by kernel_rfl) (by kernel_rfl) (fun d => by kernel_rfl) LT.nil (fun a => qco_run n a.1 a.2)
def qcs_an : Ann := { live := [(0, [0, 3])], boxed := [(0, 0), (1, 0), (4, 5), (5, 4)] }
def qcs_c : Code := (match Try.f95.body with | some c => c | none => .skip)
def qcs_l0 : Code := (match assoc 0 (loopsIn qcs_c 0) with | some c => c | none => .skip)
def qcs_a : StSh := ⟨.normal, [0], (.cons (.int .u64) .nil), .nil⟩
def qcs_h0 : List StSh := [⟨.normal, [0, 3], (.cons (.int .u64) (.cons (.msw 0 0) .nil)), (.cons (.bts 0 false false false (.int .u8)) .nil)⟩]
def qcs_o0 : List StSh := [⟨.exit 0, [0, 3], (.cons (.int .u64) (.cons (.msw 0 0) .nil)), (.cons (.bts 0 false false false (.int .u8)) .nil)⟩]
def qcs_L0 (n : Nat) : LEntry := ⟨qcs_h0, qcs_o0, qcs_W0 n⟩
def qcs_res : List StSh := [⟨.ret, [0], (.cons (.msw 0 0) .nil), (.cons (.bts 0 false false false (.int .u8)) .nil)⟩]
def qcs_tbl (n : Nat) : FuncId → List Entry := fun f => []
def qcs_loops (n : Nat) : Nat → Option LEntry := fun f => bif Nat.beq f 0 then some (qcs_L0 n) else none
theorem qcs_r0 (n : Nat) (v_0 : Int) (m0 : DC) : roundK (real _) tab (qcs_tbl n) (qcs_loops n) qcs_an [] qcs_l0 0 [0, 3] qcs_h0 qcs_o0 (v_0, m0) some = qcs_B0 n v_0 m0 := by kernel_rfl
theorem qcs_f0 (n : Nat) : LoopFact tab (qcs_tbl n) (qcs_loops n) qcs_an [] n 0 qcs_l0 (qcs_L0 n) := ⟨[0, 3], (fun s => qcs_B0 n s.1 s.2), by kernel_rfl, by kernel_rfl, fun s => rfl, fun s => qcs_r0 n s.1 s.2⟩
theorem qcs_run (n : Nat) (v_0 : Int) : funD (real _) tab (qcs_tbl n) (qcs_loops n) qcs_an Try.f95 qcs_a qcs_res v_0 some = qcs n v_0 := by kernel_rfl
def qcs_E (n : Nat) : Entry := ⟨qcs_a, qcs_res, fun d => qcs n d⟩
theorem qcs_ok (n : Nat) : EOK Try.prog 95 (qcs_E n) :=
 EOK.of zc zb ze (tbl := qcs_tbl n) (loops := qcs_loops n) (an := qcs_an) (old := []) (n := n) (c := qcs_c) (fn := Try.f95) TblOK.nil (by kernel_rfl) (by kernel_rfl) (by kernel_rfl) (by kernel_rfl) (fun d => by kernel_rfl) (LT.cons (by kernel_rfl) (qcs_f0 n) LT.nil) (fun a => qcs_run n a)
def qcr_h0 : List StSh := [⟨.normal, [4, 39, 40, 41], (.cons (.msw 0 0) (.cons (.ms 1 0) (.cons (.int .i64) (.cons (.int .i64) .nil)))), (.cons (.bts 0 false false false (.int .u8)) (.cons (.bcells 0 false 1 (.cons (.int .i64) (.cons (.int .i64) .nil))) .nil))⟩]
def qcr_o0 : List StSh := [⟨.exit 0, [4], (.cons (.msw 0 0) .nil), (.cons (.bts 0 false false false (.int .u8)) (.cons (.bcells 0 false 1 (.cons (.int .i64) (.cons (.int .i64) .nil))) .nil))⟩]
def qcr_L0 (n : Nat) : LEntry := ⟨qcr_h0, qcr_o0, qcr_W0 n⟩
def qcr_res : List StSh := [⟨.ret, [0], (.cons (.sl false false (.int .u8)) .nil), .nil⟩]
def qcr_tbl (n : Nat) : FuncId → List Entry := fun f => bif Nat.beq f 116 then [qcl_E n] else bif Nat.beq f 117 then [qco_E n] else bif Nat.beq f 95 then [qcs_E n] else []
def qcr_loops (n : Nat) : Nat → Option LEntry := fun f => bif Nat.beq f 0 then some (qcr_L0 n) else none
theorem qcr_r0 (n : Nat) (t39 : Nat × Nat) (t40 : Int) (t41 : Int) (m0 : DC) (m1 : Int) (m1_1 : Int) : roundK (real _) tab (qcr_tbl n) (qcr_loops n) qcr_an [] qcr_l0 0 [4, 39, 40, 41] qcr_h0 qcr_o0 ((t39, (t40, t41)), (m0, (m1, m1_1))) some = qcr_B0 n t39 t40 t41 m0 m1 m1_1 := by kernel_rfl
theorem qcr_f0 (n : Nat) : LoopFact tab (qcr_tbl n) (qcr_loops n) qcr_an [] n 0 qcr_l0 (qcr_L0 n) := ⟨[4, 39, 40, 41], (fun s => qcr_B0 n s.1.1 s.1.2.1 s.1.2.2 s.2.1 s.2.2.1 s.2.2.2), by kernel_rfl, by kernel_rfl, fun s => rfl, fun s => qcr_r0 n s.1.1 s.1.2.1 s.1.2.2 s.2.1 s.2.2.1 s.2.2.2⟩
theorem qcr_run (n : Nat) (i_0 : Int) (i_0_1 : Int) (i_0_2 : Int) : funDS (real _) tab (qcr_tbl n) (qcr_loops n) qcr_an Try.f99 0 qcr_a qcr_res (i_0, (i_0_1, i_0_2)) some = qcr n i_0 i_0_1 i_0_2 := by kernel_rfl
def qcr_E (n : Nat) : Entry := ⟨qcr_a, qcr_res, fun d => qcr n d.1 d.2.1 d.2.2⟩
theorem qcr_ok (n : Nat) : EOK Try.prog 99 (qcr_E n) :=
 EOK.ofS zc zb ze (tbl := qcr_tbl n) (loops := qcr_loops n) (an := qcr_an) (old := []) (n := n) (c := qcr_c) (fn := Try.f99) (TblOK.cons (AllE.cons (qcl_ok n) AllE.nil) (TblOK.cons (AllE.cons (qco_ok n) AllE.nil) (TblOK.cons (AllE.cons (qcs_ok n) AllE.nil) TblOK.nil))) (by kernel_rfl) (by kernel_rfl) (by kernel_rfl) (by kernel_rfl) (fun d => by kernel_rfl) (LT.cons (by kernel_rfl) (qcr_f0 n) LT.nil) (fun a => qcr_run n a.1 a.2.1 a.2.2)
def qaj_res : List StSh := [⟨.ret, [0], (.cons .bool .nil), .nil⟩]
def qaj_tbl (n : Nat) : FuncId → List Entry := fun f => bif Nat.beq f 99 then [qcr_E n] else []
def qaj_loops (n : Nat) : Nat → Option LEntry := fun f => none
theorem qaj_run (n : Nat) (i_0 : Int) (i_0_1 : Int) (i_0_2 : Int) : funDS (real _) tab (qaj_tbl n) (qaj_loops n) qaj_an Try.f114 0 qaj_a qaj_res (i_0, (i_0_1, i_0_2)) some = qaj n i_0 i_0_1 i_0_2 := by kernel_rfl
def qaj_E (n : Nat) : Entry := ⟨qaj_a, qaj_res, fun d => qaj n d.1 d.2.1 d.2.2⟩
theorem qaj_ok (n : Nat) : EOK Try.prog 114 (qaj_E n) :=
 EOK.ofS zc zb ze (tbl := qaj_tbl n) (loops := qaj_loops n) (an := qaj_an) (old := []) (n := n) (c := qaj_c) (fn := Try.f114) (TblOK.cons (AllE.cons (qcr_ok n) AllE.nil) TblOK.nil) (by kernel_rfl) (by kernel_rfl) (by kernel_rfl) (by kernel_rfl) (fun d => by kernel_rfl) LT.nil (fun a => qaj_run n a.1 a.2.1 a.2.2)
def qah_h0 : List StSh := [⟨.normal, [0, 1, 7, 8], (.cons (.sl true true yE) (.cons (.fn 114 .nil .nil) (.cons (.int .i64) (.cons (.int .i64) .nil)))), .nil⟩]
def qah_o0 : List StSh := [⟨.ret, [4], (.cons (.int .i64) .nil), .nil⟩, ⟨.exit 0, [], .nil, .nil⟩]
def qah_L0 (n : Nat) : LEntry := ⟨qah_h0, qah_o0, qah_W0 n⟩
def qah_res : List StSh := [⟨.ret, [0], (.cons (.int .i64) .nil), .nil⟩]
def qah_tbl (n : Nat) : FuncId → List Entry := fun f => bif Nat.beq f 114 then [qaj_E n] else []
def qah_loops (n : Nat) : Nat → Option LEntry := fun f => bif Nat.beq f 0 then some (qah_L0 n) else none
theorem qah_r0 (n : Nat) (s_0 : DB) (t7 : Int) (t8 : Int) : roundK (real _) tab (qah_tbl n) (qah_loops n) qah_an [] qah_l0 0 [0, 1, 7, 8] qah_h0 qah_o0 (s_0, (t7, t8)) some = qah_B0 n s_0 t7 t8 := by kernel_rfl
theorem qah_f0 (n : Nat) : LoopFact tab (qah_tbl n) (qah_loops n) qah_an [] n 0 qah_l0 (qah_L0 n) := ⟨[0, 1, 7, 8], (fun s => qah_B0 n s.1 s.2.1 s.2.2), by kernel_rfl, by kernel_rfl, fun s => rfl, fun s => qah_r0 n s.1 s.2.1 s.2.2⟩
theorem qah_run (n : Nat) (s_0 : DB) : funDS (real _) tab (qah_tbl n) (qah_loops n) qah_an Try.f82 0 qah_a qah_res s_0 some = qah n s_0 := by kernel_rfl
def qah_E (n : Nat) : Entry := ⟨qah_a, qah_res, fun d => qah n d⟩
theorem qah_ok (n : Nat) : EOK Try.prog 82 (qah_E n) :=
 EOK.ofS zc zb ze (tbl := qah_tbl n) (loops := qah_loops n) (an := qah_an) (old := []) (n := n) (c := qah_c) (fn := Try.f82) (TblOK.cons (AllE.cons (qaj_ok n) AllE.nil) TblOK.nil) (by kernel_rfl) (by kernel_rfl) (by kernel_rfl) (by kernel_rfl) (fun d => by kernel_rfl) (LT.cons (by kernel_rfl) (qah_f0 n) LT.nil) (fun a => qah_run n a)
def qj_res : List StSh := [⟨.ret, [0], (.cons .bool .nil), .nil⟩]
def qj_tbl (n : Nat) : FuncId → List Entry := fun f => bif Nat.beq f 82 then [qah_E n] else []
def qj_loops (n : Nat) : Nat → Option LEntry := fun f => none
theorem qj_run (n : Nat) (s_0 : DB) : funDS (real _) tab (qj_tbl n) (qj_loops n) qj_an Try.f30 0 qj_a qj_res s_0 some = qj n s_0 := by kernel_rfl
def qj_E (n : Nat) : Entry := ⟨qj_a, qj_res, fun d => qj n d⟩
theorem qj_ok (n : Nat) : EOK Try.prog 30 (qj_E n) :=
 EOK.ofS zc zb ze (tbl := qj_tbl n) (loops := qj_loops n) (an := qj_an) (old := []) (n := n) (c := qj_c) (fn := Try.f30) (TblOK.cons (AllE.cons (qah_ok n) AllE.nil) TblOK.nil) (by kernel_rfl) (by kernel_rfl) (by kernel_rfl) (by kernel_rfl) (fun d => by kernel_rfl) LT.nil (fun a => qj_run n a)
def qas_res : List StSh := [⟨.ret, [0], (.cons .bool .nil), .nil⟩]
def qas_tbl (n : Nat) : FuncId → List Entry := fun f => bif Nat.beq f 87 then [qbr_E n] else bif Nat.beq f 92 then [qck_E n] else bif Nat.beq f 30 then [qj_E n] else []
def qas_loops (n : Nat) : Nat → Option LEntry := fun f => none
theorem qas_run (n : Nat) (f_0 : DA) (f_0_1 : Int) (f_0_2 : Int) (f_0_3 : DA) (f_0_4 : DB) (recs_1 : Int) : funDS (real _) tab (qas_tbl n) (qas_loops n) qas_an Try.f90 0 qas_a qas_res ((f_0, (f_0_1, (f_0_2, (f_0_3, f_0_4)))), recs_1) some = qas n f_0 f_0_1 f_0_2 f_0_3 f_0_4 recs_1 := by kernel_rfl
def qas_E (n : Nat) : Entry := ⟨qas_a, qas_res, fun d => qas n d.1.1 d.1.2.1 d.1.2.2.1 d.1.2.2.2.1 d.1.2.2.2.2 d.2⟩
theorem qas_ok (n : Nat) : EOK Try.prog 90 (qas_E n) :=
 EOK.ofS zc zb ze (tbl := qas_tbl n) (loops := qas_loops n) (an := qas_an) (old := []) (n := n) (c := qas_c) (fn := Try.f90) (TblOK.cons (AllE.cons (qbr_ok n) AllE.nil) (TblOK.cons (AllE.cons (qck_ok n) AllE.nil) (TblOK.cons (AllE.cons (qj_ok n) AllE.nil) TblOK.nil))) (by kernel_rfl) (by kernel_rfl) (by kernel_rfl) (by kernel_rfl) (fun d => by kernel_rfl) LT.nil (fun a => qas_run n a.1.1 a.1.2.1 a.1.2.2.1 a.1.2.2.2.1 a.1.2.2.2.2 a.2)
def qbo_res : List StSh := [⟨.ret, [0], (.cons .bool .nil), (.cons (.bcells 0 false 1 (.cons (.int .i64) .nil)) .nil)⟩]
def qbo_tbl (n : Nat) : FuncId → List Entry := fun f => bif Nat.beq f 90 then [qas_E n] else []
def qbo_loops (n : Nat) : Nat → Option LEntry := fun f => none
theorem qbo_run (n : Nat) (f_0 : DA) (f_0_1 : Int) (f_0_2 : Int) (f_0_3 : DA) (f_0_4 : DB) (m0 : Int) : funDS (real _) tab (qbo_tbl n) (qbo_loops n) qbo_an Try.f89 1 qbo_a qbo_res ((f_0, (f_0_1, (f_0_2, (f_0_3, f_0_4)))), m0) some = qbo n f_0 f_0_1 f_0_2 f_0_3 f_0_4 m0 := by kernel_rfl
def qbo_E (n : Nat) : Entry := ⟨qbo_a, qbo_res, fun d => qbo n d.1.1 d.1.2.1 d.1.2.2.1 d.1.2.2.2.1 d.1.2.2.2.2 d.2⟩
theorem qbo_ok (n : Nat) : EOK Try.prog 89 (qbo_E n) :=
 EOK.ofS zc zb ze (tbl := qbo_tbl n) (loops := qbo_loops n) (an := qbo_an) (old := [some true]) (n := n) (c := qbo_c) (fn := Try.f89) (TblOK.cons (AllE.cons (qas_ok n) AllE.nil) TblOK.nil) (by kernel_rfl) (by kernel_rfl) (by kernel_rfl) (by kernel_rfl) (fun d => by kernel_rfl) LT.nil (fun a => qbo_run n a.1.1 a.1.2.1 a.1.2.2.1 a.1.2.2.2.1 a.1.2.2.2.2 a.2)
def qak_h0 : List StSh := [⟨.normal, [0, 1, 7, 8], (.cons (.sl true true yB) (.cons (.fn 89 .nil (.cons (.ptr 0 0 0 0) .nil)) (.cons (.int .i64) (.cons (.int .i64) .nil)))), (.cons (.bcells 0 false 1 (.cons (.int .i64) .nil)) .nil)⟩]
def qak_o0 : List StSh := [⟨.ret, [4], (.cons (.int .i64) .nil), (.cons (.bcells 0 false 1 (.cons (.int .i64) .nil)) .nil)⟩, ⟨.exit 0, [], .nil, (.cons (.bcells 0 false 1 (.cons (.int .i64) .nil)) .nil)⟩]
def qak_L0 (n : Nat) : LEntry := ⟨qak_h0, qak_o0, qak_W0 n⟩
def qak_res : List StSh := [⟨.ret, [0], (.cons (.int .i64) .nil), (.cons (.bcells 0 false 1 (.cons (.int .i64) .nil)) .nil)⟩]
def qak_tbl (n : Nat) : FuncId → List Entry := fun f => bif Nat.beq f 89 then [qbo_E n] else []
def qak_loops (n : Nat) : Nat → Option LEntry := fun f => bif Nat.beq f 0 then some (qak_L0 n) else none
theorem qak_r0 (n : Nat) (s_0 : DI) (t7 : Int) (t8 : Int) (m0 : Int) : roundK (real _) tab (qak_tbl n) (qak_loops n) qak_an [some true] qak_l0 0 [0, 1, 7, 8] qak_h0 qak_o0 ((s_0, (t7, t8)), m0) some = qak_B0 n s_0 t7 t8 m0 := by kernel_rfl
theorem qak_f0 (n : Nat) : LoopFact tab (qak_tbl n) (qak_loops n) qak_an [some true] n 0 qak_l0 (qak_L0 n) := ⟨[0, 1, 7, 8], (fun s => qak_B0 n s.1.1 s.1.2.1 s.1.2.2 s.2), by kernel_rfl, by kernel_rfl, fun s => rfl, fun s => qak_r0 n s.1.1 s.1.2.1 s.1.2.2 s.2⟩
theorem qak_run (n : Nat) (s_0 : DI) (m0 : Int) : funDS (real _) tab (qak_tbl n) (qak_loops n) qak_an Try.f113 1 qak_a qak_res (s_0, m0) some = qak n s_0 m0 := by kernel_rfl
def qak_E (n : Nat) : Entry := ⟨qak_a, qak_res, fun d => qak n d.1 d.2⟩
theorem qak_ok (n : Nat) : EOK Try.prog 113 (qak_E n) :=
 EOK.ofS zc zb ze (tbl := qak_tbl n) (loops := qak_loops n) (an := qak_an) (old := [some true]) (n := n) (c := qak_c) (fn := Try.f113) (TblOK.cons (AllE.cons (qbo_ok n) AllE.nil) TblOK.nil) (by kernel_rfl) (by kernel_rfl) (by kernel_rfl) (by kernel_rfl) (fun d => by kernel_rfl) (LT.cons (by kernel_rfl) (qak_f0 n) LT.nil) (fun a => qak_run n a.1 a.2)
def qs_res : List StSh := [⟨.ret, [0], (.cons .bool .nil), (.cons (.bcells 0 false 1 (.cons (.int .i64) .nil)) .nil)⟩]
def qs_tbl (n : Nat) : FuncId → List Entry := fun f => bif Nat.beq f 113 then [qak_E n] else []
def qs_loops (n : Nat) : Nat → Option LEntry := fun f => none
theorem qs_run (n : Nat) (s_0 : DI) (m0 : Int) : funDS (real _) tab (qs_tbl n) (qs_loops n) qs_an Try.f88 1 qs_a qs_res (s_0, m0) some = qs n s_0 m0 := by kernel_rfl
def qs_E (n : Nat) : Entry := ⟨qs_a, qs_res, fun d => qs n d.1 d.2⟩
theorem qs_ok (n : Nat) : EOK Try.prog 88 (qs_E n) :=
 EOK.ofS zc zb ze (tbl := qs_tbl n) (loops := qs_loops n) (an := qs_an) (old := [some true]) (n := n) (c := qs_c) (fn := Try.f88) (TblOK.cons (AllE.cons (qak_ok n) AllE.nil) TblOK.nil) (by kernel_rfl) (by kernel_rfl) (by kernel_rfl) (by kernel_rfl) (fun d => by kernel_rfl) LT.nil (fun a => qs_run n a.1 a.2)
def qe_an : Ann := {}
def qe_c : Code := (match Try.f36.body with | some c => c | none => .skip)
def qe_a : StSh := ⟨.normal, [0, 1], (.cons (.sl true true yC) (.cons (.fn 91 .nil (.cons (.ptr 0 0 0 0) .nil)) .nil)), (.cons (.bcells 0 false 1 (.cons (.int .i64) .nil)) .nil)⟩
def qag_an : Ann := { live := [(0, [0, 1, 7, 8])] }
def qag_c : Code := (match Try.f84.body with | some c => c | none => .skip)
def qag_l0 : Code := (match assoc 0 (loopsIn qag_c 0) with | some c => c | none => .skip)
def qag_a : StSh := ⟨.normal, [0, 1], (.cons (.sl true true yC) (.cons (.fn 91 .nil (.cons (.ptr 0 0 0 0) .nil)) .nil)), (.cons (.bcells 0 false 1 (.cons (.int .i64) .nil)) .nil)⟩
def qbi_an : Ann := {}
def qbi_c : Code := (match Try.f91.body with | some c => c | none => .skip)
def qbi_a : StSh := ⟨.normal, [0, 1], (.cons (.agg (.cons (.sl true true yD) (.cons (.int .i64) (.cons (.int .i64) .nil)))) (.cons (.ptr 0 0 0 0) .nil)), (.cons (.bcells 0 false 1 (.cons (.int .i64) .nil)) .nil)⟩
def qbi_res : List StSh := [⟨.ret, [0], (.cons .bool .nil), (.cons (.bcells 0 false 1 (.cons (.int .i64) .nil)) .nil)⟩]
def qbi_tbl (n : Nat) : FuncId → List Entry := fun f => bif Nat.beq f 87 then [qbr_E n] else bif Nat.beq f 92 then [qck_E n] else []
def qbi_loops (n : Nat) : Nat → Option LEntry := fun f => none
theorem qbi_run (n : Nat) (i_0 : DA) (i_0_1 : Int) (i_0_2 : Int) (m0 : Int) : funDS (real _) tab (qbi_tbl n) (qbi_loops n) qbi_an Try.f91 1 qbi_a qbi_res ((i_0, (i_0_1, i_0_2)), m0) some = qbi n i_0 i_0_1 i_0_2 m0 := by kernel_rfl
def qbi_E (n : Nat) : Entry := ⟨qbi_a, qbi_res, fun d => qbi n d.1.1 d.1.2.1 d.1.2.2 d.2⟩
theorem qbi_ok (n : Nat) : EOK Try.prog 91 (qbi_E n) :=
 EOK.ofS zc zb ze (tbl := qbi_tbl n) (loops := qbi_loops n) (an := qbi_an) (old := [some true]) (n := n) (c := qbi_c) (fn := Try.f91) (TblOK.cons (AllE.cons (qbr_ok n) AllE.nil) (TblOK.cons (AllE.cons (qck_ok n) AllE.nil) TblOK.nil)) (by kernel_rfl) (by kernel_rfl) (by kernel_rfl) (by kernel_rfl) (fun d => by kernel_rfl) LT.nil (fun a => qbi_run n a.1.1 a.1.2.1 a.1.2.2 a.2)
def qag_h0 : List StSh := [⟨.normal, [0, 1, 7, 8], (.cons (.sl true true yC) (.cons (.fn 91 .nil (.cons (.ptr 0 0 0 0) .nil)) (.cons (.int .i64) (.cons (.int .i64) .nil)))), (.cons (.bcells 0 false 1 (.cons (.int .i64) .nil)) .nil)⟩]
def qag_o0 : List StSh := [⟨.ret, [4], (.cons (.int .i64) .nil), (.cons (.bcells 0 false 1 (.cons (.int .i64) .nil)) .nil)⟩, ⟨.exit 0, [], .nil, (.cons (.bcells 0 false 1 (.cons (.int .i64) .nil)) .nil)⟩]
def qag_L0 (n : Nat) : LEntry := ⟨qag_h0, qag_o0, qag_W0 n⟩
def qag_res : List StSh := [⟨.ret, [0], (.cons (.int .i64) .nil), (.cons (.bcells 0 false 1 (.cons (.int .i64) .nil)) .nil)⟩]
def qag_tbl (n : Nat) : FuncId → List Entry := fun f => bif Nat.beq f 91 then [qbi_E n] else []
def qag_loops (n : Nat) : Nat → Option LEntry := fun f => bif Nat.beq f 0 then some (qag_L0 n) else none
theorem qag_r0 (n : Nat) (s_0 : DJ) (t7 : Int) (t8 : Int) (m0 : Int) : roundK (real _) tab (qag_tbl n) (qag_loops n) qag_an [some true] qag_l0 0 [0, 1, 7, 8] qag_h0 qag_o0 ((s_0, (t7, t8)), m0) some = qag_B0 n s_0 t7 t8 m0 := by kernel_rfl
theorem qag_f0 (n : Nat) : LoopFact tab (qag_tbl n) (qag_loops n) qag_an [some true] n 0 qag_l0 (qag_L0 n) := ⟨[0, 1, 7, 8], (fun s => qag_B0 n s.1.1 s.1.2.1 s.1.2.2 s.2), by kernel_rfl, by kernel_rfl, fun s => rfl, fun s => qag_r0 n s.1.1 s.1.2.1 s.1.2.2 s.2⟩
theorem qag_run (n : Nat) (s_0 : DJ) (m0 : Int) : funDS (real _) tab (qag_tbl n) (qag_loops n) qag_an Try.f84 1 qag_a qag_res (s_0, m0) some = qag n s_0 m0 := by kernel_rfl
def qag_E (n : Nat) : Entry := ⟨qag_a, qag_res, fun d => qag n d.1 d.2⟩
theorem qag_ok (n : Nat) : EOK Try.prog 84 (qag_E n) :=
 EOK.ofS zc zb ze (tbl := qag_tbl n) (loops := qag_loops n) (an := qag_an) (old := [some true]) (n := n) (c := qag_c) (fn := Try.f84) (TblOK.cons (AllE.cons (qbi_ok n) AllE.nil) TblOK.nil) (by kernel_rfl) (by kernel_rfl) (by kernel_rfl) (by kernel_rfl) (fun d => by kernel_rfl) (LT.cons (by kernel_rfl) (qag_f0 n) LT.nil) (fun a => qag_run n a.1 a.2)
def qe_res : List StSh := [⟨.ret, [0], (.cons .bool .nil), (.cons (.bcells 0 false 1 (.cons (.int .i64) .nil)) .nil)⟩]
def qe_tbl (n : Nat) : FuncId → List Entry := fun f => bif Nat.beq f 84 then [qag_E n] else []
def qe_loops (n : Nat) : Nat → Option LEntry := fun f => none
theorem qe_run (n : Nat) (s_0 : DJ) (m0 : Int) : funDS (real _) tab (qe_tbl n) (qe_loops n) qe_an Try.f36 1 qe_a qe_res (s_0, m0) some = qe n s_0 m0 := by kernel_rfl
def qe_E (n : Nat) : Entry := ⟨qe_a, qe_res, fun d => qe n d.1 d.2⟩
theorem qe_ok (n : Nat) : EOK Try.prog 36 (qe_E n) :=
 EOK.ofS zc zb ze (tbl := qe_tbl n) (loops := qe_loops n) (an := qe_an) (old := [some true]) (n := n) (c := qe_c) (fn := Try.f36) (TblOK.cons (AllE.cons (qag_ok n) AllE.nil) TblOK.nil) (by kernel_rfl) (by kernel_rfl) (by kernel_rfl) (by kernel_rfl) (fun d => by kernel_rfl) LT.nil (fun a => qe_run n a.1 a.2)
def qf_an : Ann := {}
def qf_c : Code := (match Try.f93.body with | some c => c | none => .skip)
def qf_a : StSh := ⟨.normal, [0, 1], (.cons (.sl true false .str) (.cons (.fn 94 .nil .nil) .nil)), .nil⟩
def qae_an : Ann := { live := [(0, [0, 1, 7, 8])] }
def qae_c : Code := (match Try.f115.body with | some c => c | none => .skip)
def qae_l0 : Code := (match assoc 0 (loopsIn qae_c 0) with | some c => c | none => .skip)
def qae_a : StSh := ⟨.normal, [0, 1], (.cons (.sl true false .str) (.cons (.fn 94 .nil .nil) .nil)), .nil⟩
def qbq_an : Ann := {}
def qbq_c : Code := (match Try.f94.body with | some c => c | none => .skip)
def qbq_a : StSh := ⟨.normal, [0], (.cons .str .nil), .nil⟩
def qbq_res : List StSh := [⟨.ret, [0], (.cons .bool .nil), .nil⟩]
def qbq_tbl (n : Nat) : FuncId → List Entry := fun f => []
def qbq_loops (n : Nat) : Nat → Option LEntry := fun f => none
theorem qbq_run (n : Nat) (s_0 : ByteArray) : funDS (real _) tab (qbq_tbl n) (qbq_loops n) qbq_an Try.f94 0 qbq_a qbq_res s_0 some = qbq n s_0 := by kernel_rfl
def qbq_E (n : Nat) : Entry := ⟨qbq_a, qbq_res, fun d => qbq n d⟩
theorem qbq_ok (n : Nat) : EOK Try.prog 94 (qbq_E n) :=
 EOK.ofS zc zb ze (tbl := qbq_tbl n) (loops := qbq_loops n) (an := qbq_an) (old := []) (n := n) (c := qbq_c) (fn := Try.f94) TblOK.nil (by kernel_rfl) (by kernel_rfl) (by kernel_rfl) (by kernel_rfl) (fun d => by kernel_rfl) LT.nil (fun a => qbq_run n a)
def qae_h0 : List StSh := [⟨.normal, [0, 1, 7, 8], (.cons (.sl true false .str) (.cons (.fn 94 .nil .nil) (.cons (.int .i64) (.cons (.int .i64) .nil)))), .nil⟩]
def qae_o0 : List StSh := [⟨.ret, [4], (.cons (.int .i64) .nil), .nil⟩, ⟨.exit 0, [], .nil, .nil⟩]
def qae_L0 (n : Nat) : LEntry := ⟨qae_h0, qae_o0, qae_W0 n⟩
def qae_res : List StSh := [⟨.ret, [0], (.cons (.int .i64) .nil), .nil⟩]
def qae_tbl (n : Nat) : FuncId → List Entry := fun f => bif Nat.beq f 94 then [qbq_E n] else []
def qae_loops (n : Nat) : Nat → Option LEntry := fun f => bif Nat.beq f 0 then some (qae_L0 n) else none
theorem qae_r0 (n : Nat) (s_0 : DD) (t7 : Int) (t8 : Int) : roundK (real _) tab (qae_tbl n) (qae_loops n) qae_an [] qae_l0 0 [0, 1, 7, 8] qae_h0 qae_o0 (s_0, (t7, t8)) some = qae_B0 n s_0 t7 t8 := by kernel_rfl
theorem qae_f0 (n : Nat) : LoopFact tab (qae_tbl n) (qae_loops n) qae_an [] n 0 qae_l0 (qae_L0 n) := ⟨[0, 1, 7, 8], (fun s => qae_B0 n s.1 s.2.1 s.2.2), by kernel_rfl, by kernel_rfl, fun s => rfl, fun s => qae_r0 n s.1 s.2.1 s.2.2⟩
theorem qae_run (n : Nat) (s_0 : DD) : funDS (real _) tab (qae_tbl n) (qae_loops n) qae_an Try.f115 0 qae_a qae_res s_0 some = qae n s_0 := by kernel_rfl
def qae_E (n : Nat) : Entry := ⟨qae_a, qae_res, fun d => qae n d⟩
theorem qae_ok (n : Nat) : EOK Try.prog 115 (qae_E n) :=
 EOK.ofS zc zb ze (tbl := qae_tbl n) (loops := qae_loops n) (an := qae_an) (old := []) (n := n) (c := qae_c) (fn := Try.f115) (TblOK.cons (AllE.cons (qbq_ok n) AllE.nil) TblOK.nil) (by kernel_rfl) (by kernel_rfl) (by kernel_rfl) (by kernel_rfl) (fun d => by kernel_rfl) (LT.cons (by kernel_rfl) (qae_f0 n) LT.nil) (fun a => qae_run n a)
def qf_res : List StSh := [⟨.ret, [0], (.cons .bool .nil), .nil⟩]
def qf_tbl (n : Nat) : FuncId → List Entry := fun f => bif Nat.beq f 115 then [qae_E n] else []
def qf_loops (n : Nat) : Nat → Option LEntry := fun f => none
theorem qf_run (n : Nat) (s_0 : DD) : funDS (real _) tab (qf_tbl n) (qf_loops n) qf_an Try.f93 0 qf_a qf_res s_0 some = qf n s_0 := by kernel_rfl
def qf_E (n : Nat) : Entry := ⟨qf_a, qf_res, fun d => qf n d⟩
theorem qf_ok (n : Nat) : EOK Try.prog 93 (qf_E n) :=
 EOK.ofS zc zb ze (tbl := qf_tbl n) (loops := qf_loops n) (an := qf_an) (old := []) (n := n) (c := qf_c) (fn := Try.f93) (TblOK.cons (AllE.cons (qae_ok n) AllE.nil) TblOK.nil) (by kernel_rfl) (by kernel_rfl) (by kernel_rfl) (by kernel_rfl) (fun d => by kernel_rfl) LT.nil (fun a => qf_run n a)
def qbu_res : List StSh := [⟨.ret, [0], (.cons .bool .nil), .nil⟩]
def qbu_tbl (n : Nat) : FuncId → List Entry := fun f => bif Nat.beq f 85 then [qh_E n] else bif Nat.beq f 88 then [qs_E n] else bif Nat.beq f 36 then [qe_E n] else bif Nat.beq f 93 then [qf_E n] else []
def qbu_loops (n : Nat) : Nat → Option LEntry := fun f => none
theorem qbu_run (n : Nat) (t0 : DH) (t0_1 : DI) (t0_2 : DJ) (t0_3 : DC) (t0_4 : DD) : funDS (real _) tab (qbu_tbl n) (qbu_loops n) qbu_an Try.f39 0 qbu_a qbu_res (t0, (t0_1, (t0_2, (t0_3, t0_4)))) some = qbu n t0 t0_1 t0_2 t0_3 t0_4 := by kernel_rfl
def qbu_E (n : Nat) : Entry := ⟨qbu_a, qbu_res, fun d => qbu n d.1 d.2.1 d.2.2.1 d.2.2.2.1 d.2.2.2.2⟩
theorem qbu_ok (n : Nat) : EOK Try.prog 39 (qbu_E n) :=
 EOK.ofS zc zb ze (tbl := qbu_tbl n) (loops := qbu_loops n) (an := qbu_an) (old := []) (n := n) (c := qbu_c) (fn := Try.f39) (TblOK.cons (AllE.cons (qh_ok n) AllE.nil) (TblOK.cons (AllE.cons (qs_ok n) AllE.nil) (TblOK.cons (AllE.cons (qe_ok n) AllE.nil) (TblOK.cons (AllE.cons (qf_ok n) AllE.nil) TblOK.nil)))) (by kernel_rfl) (by kernel_rfl) (by kernel_rfl) (by kernel_rfl) (fun d => by kernel_rfl) LT.nil (fun a => qbu_run n a.1 a.2.1 a.2.2.1 a.2.2.2.1 a.2.2.2.2)
def qaq_an : Ann := { live := [(0, [3, 14, 15, 16])] }
def qaq_c : Code := (match Try.f41.body with | some c => c | none => .skip)
def qaq_l0 : Code := (match assoc 0 (loopsIn qaq_c 0) with | some c => c | none => .skip)
def qaq_a : StSh := ⟨.normal, [0], (.cons (.agg (.cons (.sl true false yA) (.cons (.sl true true yB) (.cons (.sl true true yC) (.cons (.sl true false (.int .u64)) (.cons (.sl true false .str) .nil)))))) .nil), .nil⟩
def qm_an : Ann := { boxed := [(0, 8)] }
def qm_c : Code := (match Try.f96.body with | some c => c | none => .skip)
def qm_a : StSh := ⟨.normal, [0, 1], (.cons (.ptr 0 0 0 0) (.cons (.int .i64) .nil)), (.cons (.bcells 0 false 1 (.cons .nilS .nil)) .nil)⟩
def qm_res : List StSh := [⟨.ret, [0], (.cons (.tup .nil) .nil), (.cons (.bcells 0 false 1 (.cons (.msw 1 0) .nil)) (.cons (.bts 0 false false false (.int .u8)) .nil))⟩]
def qm_tbl (n : Nat) : FuncId → List Entry := fun f => bif Nat.beq f 95 then [qcs_E n] else []
def qm_loops (n : Nat) : Nat → Option LEntry := fun f => none
theorem qm_run (n : Nat) (n_1 : Int) : funDS (real _) tab (qm_tbl n) (qm_loops n) qm_an Try.f96 1 qm_a qm_res n_1 some = qm n n_1 := by kernel_rfl
def qm_E (n : Nat) : Entry := ⟨qm_a, qm_res, fun d => qm n d⟩
theorem qm_ok (n : Nat) : EOK Try.prog 96 (qm_E n) :=
 EOK.ofS zc zb ze (tbl := qm_tbl n) (loops := qm_loops n) (an := qm_an) (old := [some true]) (n := n) (c := qm_c) (fn := Try.f96) (TblOK.cons (AllE.cons (qcs_ok n) AllE.nil) TblOK.nil) (by kernel_rfl) (by kernel_rfl) (by kernel_rfl) (by kernel_rfl) (fun d => by kernel_rfl) LT.nil (fun a => qm_run n a)
def qi_an : Ann := { live := [(0, [0, 10, 11, 12])], boxed := [(4, 7)] }
def qi_c : Code := (match Try.f97.body with | some c => c | none => .skip)
def qi_l0 : Code := (match assoc 0 (loopsIn qi_c 0) with | some c => c | none => .skip)
def qi_a : StSh := ⟨.normal, [0, 1], (.cons (.ptr 0 0 0 0) (.cons (.sl true true yD) .nil)), (.cons (.bcells 0 false 1 (.cons (.msw 1 0) .nil)) (.cons (.bts 0 false false false (.int .u8)) .nil))⟩
def qc_an : Ann := { boxed := [(0, 8)] }
def qc_c : Code := (match Try.f96.body with | some c => c | none => .skip)
def qc_a : StSh := ⟨.normal, [0, 1], (.cons (.ptr 0 0 0 0) (.cons (.int .i64) .nil)), (.cons (.bcells 0 false 1 (.cons (.msw 1 0) .nil)) (.cons (.bts 0 false false false (.int .u8)) .nil))⟩
def qc_res : List StSh := [⟨.ret, [0], (.cons (.tup .nil) .nil), (.cons (.bcells 0 false 1 (.cons (.msw 1 0) .nil)) (.cons (.bts 0 false false false (.int .u8)) .nil))⟩]
def qc_tbl (n : Nat) : FuncId → List Entry := fun f => bif Nat.beq f 95 then [qcs_E n] else []
def qc_loops (n : Nat) : Nat → Option LEntry := fun f => none
theorem qc_run (n : Nat) (n_1 : Int) (m1 : DC) : funDS (real _) tab (qc_tbl n) (qc_loops n) qc_an Try.f96 2 qc_a qc_res (n_1, m1) some = qc n n_1 m1 := by kernel_rfl
def qc_E (n : Nat) : Entry := ⟨qc_a, qc_res, fun d => qc n d.1 d.2⟩
theorem qc_ok (n : Nat) : EOK Try.prog 96 (qc_E n) :=
 EOK.ofS zc zb ze (tbl := qc_tbl n) (loops := qc_loops n) (an := qc_an) (old := [some true, some false]) (n := n) (c := qc_c) (fn := Try.f96) (TblOK.cons (AllE.cons (qcs_ok n) AllE.nil) TblOK.nil) (by kernel_rfl) (by kernel_rfl) (by kernel_rfl) (by kernel_rfl) (fun d => by kernel_rfl) LT.nil (fun a => qc_run n a.1 a.2)
def qcp_an : Ann := { raw := [(1, 4)] }
def qcp_c : Code := (match Try.f98.body with | some c => c | none => .skip)
def qcp_a : StSh := ⟨.normal, [0], (.cons (.agg (.cons (.int .i64) (.cons (.int .i64) .nil))) .nil), .nil⟩
def qcp_res : List StSh := [⟨.ret, [0], (.cons (.sl false false (.int .u8)) .nil), .nil⟩]
def qcp_tbl (n : Nat) : FuncId → List Entry := fun f => bif Nat.beq f 95 then [qcs_E n] else []
def qcp_loops (n : Nat) : Nat → Option LEntry := fun f => none
theorem qcp_run (n : Nat) (t_0 : Int) (t_0_1 : Int) : funDS (real _) tab (qcp_tbl n) (qcp_loops n) qcp_an Try.f98 0 qcp_a qcp_res (t_0, t_0_1) some = qcp n t_0 t_0_1 := by kernel_rfl
def qcp_E (n : Nat) : Entry := ⟨qcp_a, qcp_res, fun d => qcp n d.1 d.2⟩
theorem qcp_ok (n : Nat) : EOK Try.prog 98 (qcp_E n) :=
 EOK.ofS zc zb ze (tbl := qcp_tbl n) (loops := qcp_loops n) (an := qcp_an) (old := []) (n := n) (c := qcp_c) (fn := Try.f98) (TblOK.cons (AllE.cons (qcs_ok n) AllE.nil) TblOK.nil) (by kernel_rfl) (by kernel_rfl) (by kernel_rfl) (by kernel_rfl) (fun d => by kernel_rfl) LT.nil (fun a => qcp_run n a.1 a.2)
def qi_h0 : List StSh := [⟨.normal, [0, 10, 11, 12], (.cons (.ptr 0 0 0 0) (.cons (.sl true true yD) (.cons (.int .i64) (.cons (.int .i64) .nil)))), (.cons (.bcells 0 false 1 (.cons (.msw 1 0) .nil)) (.cons (.bts 0 false false false (.int .u8)) .nil))⟩]
def qi_o0 : List StSh := [⟨.exit 0, [], .nil, (.cons (.bcells 0 false 1 (.cons (.msw 1 0) .nil)) (.cons (.bts 0 false false false (.int .u8)) .nil))⟩]
def qi_L0 (n : Nat) : LEntry := ⟨qi_h0, qi_o0, qi_W0 n⟩
def qi_res : List StSh := [⟨.ret, [0], (.cons (.tup .nil) .nil), (.cons (.bcells 0 false 1 (.cons (.msw 1 0) .nil)) (.cons (.bts 0 false false false (.int .u8)) .nil))⟩]
def qi_tbl (n : Nat) : FuncId → List Entry := fun f => bif Nat.beq f 96 then [qc_E n] else bif Nat.beq f 98 then [qcp_E n] else []
def qi_loops (n : Nat) : Nat → Option LEntry := fun f => bif Nat.beq f 0 then some (qi_L0 n) else none
theorem qi_r0 (n : Nat) (t10 : DA) (t11 : Int) (t12 : Int) (m1 : DC) : roundK (real _) tab (qi_tbl n) (qi_loops n) qi_an [some true, some false] qi_l0 0 [0, 10, 11, 12] qi_h0 qi_o0 ((t10, (t11, t12)), m1) some = qi_B0 n t10 t11 t12 m1 := by kernel_rfl
theorem qi_f0 (n : Nat) : LoopFact tab (qi_tbl n) (qi_loops n) qi_an [some true, some false] n 0 qi_l0 (qi_L0 n) := ⟨[0, 10, 11, 12], (fun s => qi_B0 n s.1.1 s.1.2.1 s.1.2.2 s.2), by kernel_rfl, by kernel_rfl, fun s => rfl, fun s => qi_r0 n s.1.1 s.1.2.1 s.1.2.2 s.2⟩
theorem qi_run (n : Nat) (list_1 : DA) (m1 : DC) : funDS (real _) tab (qi_tbl n) (qi_loops n) qi_an Try.f97 2 qi_a qi_res (list_1, m1) some = qi n list_1 m1 := by kernel_rfl
def qi_E (n : Nat) : Entry := ⟨qi_a, qi_res, fun d => qi n d.1 d.2⟩
theorem qi_ok (n : Nat) : EOK Try.prog 97 (qi_E n) :=
 EOK.ofS zc zb ze (tbl := qi_tbl n) (loops := qi_loops n) (an := qi_an) (old := [some true, some false]) (n := n) (c := qi_c) (fn := Try.f97) (TblOK.cons (AllE.cons (qc_ok n) AllE.nil) (TblOK.cons (AllE.cons (qcp_ok n) AllE.nil) TblOK.nil)) (by kernel_rfl) (by kernel_rfl) (by kernel_rfl) (by kernel_rfl) (fun d => by kernel_rfl) (LT.cons (by kernel_rfl) (qi_f0 n) LT.nil) (fun a => qi_run n a.1 a.2)
def qaq_h0 : List StSh := [⟨.normal, [3, 14, 15, 16], (.cons (.ptr 0 0 0 0) (.cons (.sl true false yA) (.cons (.int .i64) (.cons (.int .i64) .nil)))), (.cons (.bcells 0 false 1 (.cons (.msw 1 0) .nil)) (.cons (.bts 0 false false false (.int .u8)) .nil))⟩]
def qaq_o0 : List StSh := [⟨.exit 0, [3], (.cons (.ptr 0 0 0 0) .nil), (.cons (.bcells 0 false 1 (.cons (.msw 1 0) .nil)) (.cons (.bts 0 false false false (.int .u8)) .nil))⟩]
def qaq_L0 (n : Nat) : LEntry := ⟨qaq_h0, qaq_o0, qaq_W0 n⟩
def qaq_res : List StSh := [⟨.ret, [0], (.cons (.sl false false (.int .u8)) .nil), .nil⟩]
def qaq_tbl (n : Nat) : FuncId → List Entry := fun f => bif Nat.beq f 96 then [qm_E n] else bif Nat.beq f 97 then [qi_E n] else []
def qaq_loops (n : Nat) : Nat → Option LEntry := fun f => bif Nat.beq f 0 then some (qaq_L0 n) else none
theorem qaq_r0 (n : Nat) (t14 : DH) (t15 : Int) (t16 : Int) (m1 : DC) : roundK (real _) tab (qaq_tbl n) (qaq_loops n) qaq_an [] qaq_l0 0 [3, 14, 15, 16] qaq_h0 qaq_o0 ((t14, (t15, t16)), m1) some = qaq_B0 n t14 t15 t16 m1 := by kernel_rfl
theorem qaq_f0 (n : Nat) : LoopFact tab (qaq_tbl n) (qaq_loops n) qaq_an [] n 0 qaq_l0 (qaq_L0 n) := ⟨[3, 14, 15, 16], (fun s => qaq_B0 n s.1.1 s.1.2.1 s.1.2.2 s.2), by kernel_rfl, by kernel_rfl, fun s => rfl, fun s => qaq_r0 n s.1.1 s.1.2.1 s.1.2.2 s.2⟩
theorem qaq_run (n : Nat) (m_0 : DH) (m_0_1 : DI) (m_0_2 : DJ) (m_0_3 : DC) (m_0_4 : DD) : funDS (real _) tab (qaq_tbl n) (qaq_loops n) qaq_an Try.f41 0 qaq_a qaq_res (m_0, (m_0_1, (m_0_2, (m_0_3, m_0_4)))) some = qaq n m_0 m_0_1 m_0_2 m_0_3 m_0_4 := by kernel_rfl
def qaq_E (n : Nat) : Entry := ⟨qaq_a, qaq_res, fun d => qaq n d.1 d.2.1 d.2.2.1 d.2.2.2.1 d.2.2.2.2⟩
theorem qaq_ok (n : Nat) : EOK Try.prog 41 (qaq_E n) :=
 EOK.ofS zc zb ze (tbl := qaq_tbl n) (loops := qaq_loops n) (an := qaq_an) (old := []) (n := n) (c := qaq_c) (fn := Try.f41) (TblOK.cons (AllE.cons (qm_ok n) AllE.nil) (TblOK.cons (AllE.cons (qi_ok n) AllE.nil) TblOK.nil)) (by kernel_rfl) (by kernel_rfl) (by kernel_rfl) (by kernel_rfl) (fun d => by kernel_rfl) (LT.cons (by kernel_rfl) (qaq_f0 n) LT.nil) (fun a => qaq_run n a.1 a.2.1 a.2.2.1 a.2.2.2.1 a.2.2.2.2)
def qab_an : Ann := { live := [(0, [3, 16, 17, 18]), (2, [3, 16, 17, 18, 47, 48, 49])], boxed := [(7, 8), (13, 7)] }
def qab_c : Code := (match Try.f42.body with | some c => c | none => .skip)
def qab_l0 : Code := (match assoc 0 (loopsIn qab_c 0) with | some c => c | none => .skip)
def qab_l2 : Code := (match assoc 2 (loopsIn qab_c 0) with | some c => c | none => .skip)
def qab_a : StSh := ⟨.normal, [0], (.cons (.agg (.cons (.sl true false yA) (.cons (.sl true true yB) (.cons (.sl true true yC) (.cons (.sl true false (.int .u64)) (.cons (.sl true false .str) .nil)))))) .nil), .nil⟩
def qab_h2 : List StSh := [⟨.normal, [3, 16, 17, 18, 47, 48, 49], (.cons (.ptr 0 0 0 0) (.cons (.sl true true yB) (.cons (.int .i64) (.cons (.int .i64) (.cons (.sl true true yE) (.cons (.int .i64) (.cons (.int .i64) .nil))))))), (.cons (.bcells 0 false 1 (.cons (.msw 1 0) .nil)) (.cons (.bts 0 false false false (.int .u8)) .nil))⟩]
def qab_o2 : List StSh := [⟨.exit 2, [3, 16, 17, 18], (.cons (.ptr 0 0 0 0) (.cons (.sl true true yB) (.cons (.int .i64) (.cons (.int .i64) .nil)))), (.cons (.bcells 0 false 1 (.cons (.msw 1 0) .nil)) (.cons (.bts 0 false false false (.int .u8)) .nil))⟩]
def qab_L2 (n : Nat) : LEntry := ⟨qab_h2, qab_o2, qab_W2 n⟩
def qab_h0 : List StSh := [⟨.normal, [3, 16, 17, 18], (.cons (.ptr 0 0 0 0) (.cons (.sl true true yB) (.cons (.int .i64) (.cons (.int .i64) .nil)))), (.cons (.bcells 0 false 1 (.cons (.msw 1 0) .nil)) (.cons (.bts 0 false false false (.int .u8)) .nil))⟩]
def qab_o0 : List StSh := [⟨.exit 0, [3], (.cons (.ptr 0 0 0 0) .nil), (.cons (.bcells 0 false 1 (.cons (.msw 1 0) .nil)) (.cons (.bts 0 false false false (.int .u8)) .nil))⟩]
def qab_L0 (n : Nat) : LEntry := ⟨qab_h0, qab_o0, qab_W0 n⟩
def qab_res : List StSh := [⟨.ret, [0], (.cons (.sl false false (.int .u8)) .nil), .nil⟩]
def qab_tbl (n : Nat) : FuncId → List Entry := fun f => bif Nat.beq f 96 then [qm_E n, qc_E n] else bif Nat.beq f 97 then [qi_E n] else bif Nat.beq f 98 then [qcp_E n] else bif Nat.beq f 99 then [qcr_E n] else []
def qab_loops (n : Nat) : Nat → Option LEntry := fun f => bif Nat.beq f 2 then some (qab_L2 n) else bif Nat.beq f 0 then some (qab_L0 n) else none
theorem qab_r2 (n : Nat) (t16 : DI) (t17 : Int) (t18 : Int) (t47 : DB) (t48 : Int) (t49 : Int) (m1 : DC) : roundK (real _) tab (qab_tbl n) (qab_loops n) qab_an [] qab_l2 2 [3, 16, 17, 18, 47, 48, 49] qab_h2 qab_o2 ((t16, (t17, (t18, (t47, (t48, t49))))), m1) some = qab_B2 n t16 t17 t18 t47 t48 t49 m1 := by kernel_rfl
theorem qab_f2 (n : Nat) : LoopFact tab (qab_tbl n) (qab_loops n) qab_an [] n 2 qab_l2 (qab_L2 n) := ⟨[3, 16, 17, 18, 47, 48, 49], (fun s => qab_B2 n s.1.1 s.1.2.1 s.1.2.2.1 s.1.2.2.2.1 s.1.2.2.2.2.1 s.1.2.2.2.2.2 s.2), by kernel_rfl, by kernel_rfl, fun s => rfl, fun s => qab_r2 n s.1.1 s.1.2.1 s.1.2.2.1 s.1.2.2.2.1 s.1.2.2.2.2.1 s.1.2.2.2.2.2 s.2⟩
theorem qab_r0 (n : Nat) (t16 : DI) (t17 : Int) (t18 : Int) (m1 : DC) : roundK (real _) tab (qab_tbl n) (qab_loops n) qab_an [] qab_l0 0 [3, 16, 17, 18] qab_h0 qab_o0 ((t16, (t17, t18)), m1) some = qab_B0 n t16 t17 t18 m1 := by kernel_rfl
theorem qab_f0 (n : Nat) : LoopFact tab (qab_tbl n) (qab_loops n) qab_an [] n 0 qab_l0 (qab_L0 n) := ⟨[3, 16, 17, 18], (fun s => qab_B0 n s.1.1 s.1.2.1 s.1.2.2 s.2), by kernel_rfl, by kernel_rfl, fun s => rfl, fun s => qab_r0 n s.1.1 s.1.2.1 s.1.2.2 s.2⟩
theorem qab_run (n : Nat) (t0 : DH) (t0_1 : DI) (t0_2 : DJ) (t0_3 : DC) (t0_4 : DD) : funDS (real _) tab (qab_tbl n) (qab_loops n) qab_an Try.f42 0 qab_a qab_res (t0, (t0_1, (t0_2, (t0_3, t0_4)))) some = qab n t0 t0_1 t0_2 t0_3 t0_4 := by kernel_rfl
def qab_E (n : Nat) : Entry := ⟨qab_a, qab_res, fun d => qab n d.1 d.2.1 d.2.2.1 d.2.2.2.1 d.2.2.2.2⟩
theorem qab_ok (n : Nat) : EOK Try.prog 42 (qab_E n) :=
 EOK.ofS zc zb ze (tbl := qab_tbl n) (loops := qab_loops n) (an := qab_an) (old := []) (n := n) (c := qab_c) (fn := Try.f42) (TblOK.cons (AllE.cons (qm_ok n) (AllE.cons (qc_ok n) AllE.nil)) (TblOK.cons (AllE.cons (qi_ok n) AllE.nil) (TblOK.cons (AllE.cons (qcp_ok n) AllE.nil) (TblOK.cons (AllE.cons (qcr_ok n) AllE.nil) TblOK.nil)))) (by kernel_rfl) (by kernel_rfl) (by kernel_rfl) (by kernel_rfl) (fun d => by kernel_rfl) (LT.cons (by kernel_rfl) (qab_f2 n) (LT.cons (by kernel_rfl) (qab_f0 n) LT.nil)) (fun a => qab_run n a.1 a.2.1 a.2.2.1 a.2.2.2.1 a.2.2.2.2)
def qam_an : Ann := { live := [(0, [3, 14, 15, 16])], boxed := [(7, 8)] }
def qam_c : Code := (match Try.f43.body with | some c => c | none => .skip)
def qam_l0 : Code := (match assoc 0 (loopsIn qam_c 0) with | some c => c | none => .skip)
def qam_a : StSh := ⟨.normal, [0], (.cons (.agg (.cons (.sl true false yA) (.cons (.sl true true yB) (.cons (.sl true true yC) (.cons (.sl true false (.int .u64)) (.cons (.sl true false .str) .nil)))))) .nil), .nil⟩
def qam_h0 : List StSh := [⟨.normal, [3, 14, 15, 16], (.cons (.ptr 0 0 0 0) (.cons (.sl true true yC) (.cons (.int .i64) (.cons (.int .i64) .nil)))), (.cons (.bcells 0 false 1 (.cons (.msw 1 0) .nil)) (.cons (.bts 0 false false false (.int .u8)) .nil))⟩]
def qam_o0 : List StSh := [⟨.exit 0, [3], (.cons (.ptr 0 0 0 0) .nil), (.cons (.bcells 0 false 1 (.cons (.msw 1 0) .nil)) (.cons (.bts 0 false false false (.int .u8)) .nil))⟩]
def qam_L0 (n : Nat) : LEntry := ⟨qam_h0, qam_o0, qam_W0 n⟩
def qam_res : List StSh := [⟨.ret, [0], (.cons (.sl false false (.int .u8)) .nil), .nil⟩]
def qam_tbl (n : Nat) : FuncId → List Entry := fun f => bif Nat.beq f 96 then [qm_E n] else bif Nat.beq f 97 then [qi_E n] else bif Nat.beq f 98 then [qcp_E n] else []
def qam_loops (n : Nat) : Nat → Option LEntry := fun f => bif Nat.beq f 0 then some (qam_L0 n) else none
theorem qam_r0 (n : Nat) (t14 : DJ) (t15 : Int) (t16 : Int) (m1 : DC) : roundK (real _) tab (qam_tbl n) (qam_loops n) qam_an [] qam_l0 0 [3, 14, 15, 16] qam_h0 qam_o0 ((t14, (t15, t16)), m1) some = qam_B0 n t14 t15 t16 m1 := by kernel_rfl
theorem qam_f0 (n : Nat) : LoopFact tab (qam_tbl n) (qam_loops n) qam_an [] n 0 qam_l0 (qam_L0 n) := ⟨[3, 14, 15, 16], (fun s => qam_B0 n s.1.1 s.1.2.1 s.1.2.2 s.2), by kernel_rfl, by kernel_rfl, fun s => rfl, fun s => qam_r0 n s.1.1 s.1.2.1 s.1.2.2 s.2⟩
theorem qam_run (n : Nat) (m_0 : DH) (m_0_1 : DI) (m_0_2 : DJ) (m_0_3 : DC) (m_0_4 : DD) : funDS (real _) tab (qam_tbl n) (qam_loops n) qam_an Try.f43 0 qam_a qam_res (m_0, (m_0_1, (m_0_2, (m_0_3, m_0_4)))) some = qam n m_0 m_0_1 m_0_2 m_0_3 m_0_4 := by kernel_rfl
def qam_E (n : Nat) : Entry := ⟨qam_a, qam_res, fun d => qam n d.1 d.2.1 d.2.2.1 d.2.2.2.1 d.2.2.2.2⟩
theorem qam_ok (n : Nat) : EOK Try.prog 43 (qam_E n) :=
 EOK.ofS zc zb ze (tbl := qam_tbl n) (loops := qam_loops n) (an := qam_an) (old := []) (n := n) (c := qam_c) (fn := Try.f43) (TblOK.cons (AllE.cons (qm_ok n) AllE.nil) (TblOK.cons (AllE.cons (qi_ok n) AllE.nil) (TblOK.cons (AllE.cons (qcp_ok n) AllE.nil) TblOK.nil))) (by kernel_rfl) (by kernel_rfl) (by kernel_rfl) (by kernel_rfl) (fun d => by kernel_rfl) (LT.cons (by kernel_rfl) (qam_f0 n) LT.nil) (fun a => qam_run n a.1 a.2.1 a.2.2.1 a.2.2.2.1 a.2.2.2.2)
def qav_an : Ann := { live := [(0, [3, 14, 15, 16])], boxed := [(6, 7)] }
def qav_c : Code := (match Try.f44.body with | some c => c | none => .skip)
def qav_l0 : Code := (match assoc 0 (loopsIn qav_c 0) with | some c => c | none => .skip)
def qav_a : StSh := ⟨.normal, [0], (.cons (.agg (.cons (.sl true false yA) (.cons (.sl true true yB) (.cons (.sl true true yC) (.cons (.sl true false (.int .u64)) (.cons (.sl true false .str) .nil)))))) .nil), .nil⟩
def qcm_an : Ann := { live := [(0, [0, 5, 9, 10])], boxed := [(1, 0), (5, 7)] }
def qcm_c : Code := (match Try.f100.body with | some c => c | none => .skip)
def qcm_l0 : Code := (match assoc 0 (loopsIn qcm_c 0) with | some c => c | none => .skip)
def qcm_a : StSh := ⟨.normal, [0, 1], (.cons (.int .u64) (.cons (.int .i64) .nil)), .nil⟩
def qcm_h0 : List StSh := [⟨.normal, [0, 5, 9, 10], (.cons (.int .u64) (.cons (.msw 0 0) (.cons (.int .i64) (.cons (.int .i64) .nil)))), (.cons (.bts 0 false false false (.int .u8)) .nil)⟩]
def qcm_o0 : List StSh := [⟨.exit 0, [5], (.cons (.msw 0 0) .nil), (.cons (.bts 0 false false false (.int .u8)) .nil)⟩]
def qcm_L0 (n : Nat) : LEntry := ⟨qcm_h0, qcm_o0, qcm_W0 n⟩
def qcm_res : List StSh := [⟨.ret, [0], (.cons (.sl false false (.int .u8)) .nil), .nil⟩]
def qcm_tbl (n : Nat) : FuncId → List Entry := fun f => []
def qcm_loops (n : Nat) : Nat → Option LEntry := fun f => bif Nat.beq f 0 then some (qcm_L0 n) else none
theorem qcm_r0 (n : Nat) (v_0 : Int) (t9 : Int) (t10 : Int) (m0 : DC) : roundK (real _) tab (qcm_tbl n) (qcm_loops n) qcm_an [] qcm_l0 0 [0, 5, 9, 10] qcm_h0 qcm_o0 ((v_0, (t9, t10)), m0) some = qcm_B0 n v_0 t9 t10 m0 := by kernel_rfl
theorem qcm_f0 (n : Nat) : LoopFact tab (qcm_tbl n) (qcm_loops n) qcm_an [] n 0 qcm_l0 (qcm_L0 n) := ⟨[0, 5, 9, 10], (fun s => qcm_B0 n s.1.1 s.1.2.1 s.1.2.2 s.2), by kernel_rfl, by kernel_rfl, fun s => rfl, fun s => qcm_r0 n s.1.1 s.1.2.1 s.1.2.2 s.2⟩
theorem qcm_run (n : Nat) (v_0 : Int) (n_1 : Int) : funDS (real _) tab (qcm_tbl n) (qcm_loops n) qcm_an Try.f100 0 qcm_a qcm_res (v_0, n_1) some = qcm n v_0 n_1 := by kernel_rfl
def qcm_E (n : Nat) : Entry := ⟨qcm_a, qcm_res, fun d => qcm n d.1 d.2⟩
theorem qcm_ok (n : Nat) : EOK Try.prog 100 (qcm_E n) :=
 EOK.ofS zc zb ze (tbl := qcm_tbl n) (loops := qcm_loops n) (an := qcm_an) (old := []) (n := n) (c := qcm_c) (fn := Try.f100) TblOK.nil (by kernel_rfl) (by kernel_rfl) (by kernel_rfl) (by kernel_rfl) (fun d => by kernel_rfl) (LT.cons (by kernel_rfl) (qcm_f0 n) LT.nil) (fun a => qcm_run n a.1 a.2)
def qav_h0 : List StSh := [⟨.normal, [3, 14, 15, 16], (.cons (.ptr 0 0 0 0) (.cons (.sl true false (.int .u64)) (.cons (.int .i64) (.cons (.int .i64) .nil)))), (.cons (.bcells 0 false 1 (.cons (.msw 1 0) .nil)) (.cons (.bts 0 false false false (.int .u8)) .nil))⟩]
def qav_o0 : List StSh := [⟨.exit 0, [3], (.cons (.ptr 0 0 0 0) .nil), (.cons (.bcells 0 false 1 (.cons (.msw 1 0) .nil)) (.cons (.bts 0 false false false (.int .u8)) .nil))⟩]
def qav_L0 (n : Nat) : LEntry := ⟨qav_h0, qav_o0, qav_W0 n⟩
def qav_res : List StSh := [⟨.ret, [0], (.cons (.sl false false (.int .u8)) .nil), .nil⟩]
def qav_tbl (n : Nat) : FuncId → List Entry := fun f => bif Nat.beq f 96 then [qm_E n] else bif Nat.beq f 100 then [qcm_E n] else []
def qav_loops (n : Nat) : Nat → Option LEntry := fun f => bif Nat.beq f 0 then some (qav_L0 n) else none
theorem qav_r0 (n : Nat) (t14 : DC) (t15 : Int) (t16 : Int) (m1 : DC) : roundK (real _) tab (qav_tbl n) (qav_loops n) qav_an [] qav_l0 0 [3, 14, 15, 16] qav_h0 qav_o0 ((t14, (t15, t16)), m1) some = qav_B0 n t14 t15 t16 m1 := by kernel_rfl
theorem qav_f0 (n : Nat) : LoopFact tab (qav_tbl n) (qav_loops n) qav_an [] n 0 qav_l0 (qav_L0 n) := ⟨[3, 14, 15, 16], (fun s => qav_B0 n s.1.1 s.1.2.1 s.1.2.2 s.2), by kernel_rfl, by kernel_rfl, fun s => rfl, fun s => qav_r0 n s.1.1 s.1.2.1 s.1.2.2 s.2⟩
theorem qav_run (n : Nat) (m_0 : DH) (m_0_1 : DI) (m_0_2 : DJ) (m_0_3 : DC) (m_0_4 : DD) : funDS (real _) tab (qav_tbl n) (qav_loops n) qav_an Try.f44 0 qav_a qav_res (m_0, (m_0_1, (m_0_2, (m_0_3, m_0_4)))) some = qav n m_0 m_0_1 m_0_2 m_0_3 m_0_4 := by kernel_rfl
def qav_E (n : Nat) : Entry := ⟨qav_a, qav_res, fun d => qav n d.1 d.2.1 d.2.2.1 d.2.2.2.1 d.2.2.2.2⟩
theorem qav_ok (n : Nat) : EOK Try.prog 44 (qav_E n) :=
 EOK.ofS zc zb ze (tbl := qav_tbl n) (loops := qav_loops n) (an := qav_an) (old := []) (n := n) (c := qav_c) (fn := Try.f44) (TblOK.cons (AllE.cons (qm_ok n) AllE.nil) (TblOK.cons (AllE.cons (qcm_ok n) AllE.nil) TblOK.nil)) (by kernel_rfl) (by kernel_rfl) (by kernel_rfl) (by kernel_rfl) (fun d => by kernel_rfl) (LT.cons (by kernel_rfl) (qav_f0 n) LT.nil) (fun a => qav_run n a.1 a.2.1 a.2.2.1 a.2.2.2.1 a.2.2.2.2)
def qbn_an : Ann := { live := [(0, [3, 14, 15, 16])], boxed := [(7, 6)] }
def qbn_c : Code := (match Try.f45.body with | some c => c | none => .skip)
def qbn_l0 : Code := (match assoc 0 (loopsIn qbn_c 0) with | some c => c | none => .skip)
def qbn_a : StSh := ⟨.normal, [0], (.cons (.agg (.cons (.sl true false yA) (.cons (.sl true true yB) (.cons (.sl true true yC) (.cons (.sl true false (.int .u64)) (.cons (.sl true false .str) .nil)))))) .nil), .nil⟩
def qbn_h0 : List StSh := [⟨.normal, [3, 14, 15, 16], (.cons (.ptr 0 0 0 0) (.cons (.sl true false .str) (.cons (.int .i64) (.cons (.int .i64) .nil)))), (.cons (.bcells 0 false 1 (.cons (.msw 1 0) .nil)) (.cons (.bts 0 false false false (.int .u8)) .nil))⟩]
def qbn_o0 : List StSh := [⟨.exit 0, [3], (.cons (.ptr 0 0 0 0) .nil), (.cons (.bcells 0 false 1 (.cons (.msw 1 0) .nil)) (.cons (.bts 0 false false false (.int .u8)) .nil))⟩]
def qbn_L0 (n : Nat) : LEntry := ⟨qbn_h0, qbn_o0, qbn_W0 n⟩
def qbn_res : List StSh := [⟨.ret, [0], (.cons (.sl false false (.int .u8)) .nil), .nil⟩]
def qbn_tbl (n : Nat) : FuncId → List Entry := fun f => bif Nat.beq f 96 then [qm_E n, qc_E n] else []
def qbn_loops (n : Nat) : Nat → Option LEntry := fun f => bif Nat.beq f 0 then some (qbn_L0 n) else none
theorem qbn_r0 (n : Nat) (t14 : DD) (t15 : Int) (t16 : Int) (m1 : DC) : roundK (real _) tab (qbn_tbl n) (qbn_loops n) qbn_an [] qbn_l0 0 [3, 14, 15, 16] qbn_h0 qbn_o0 ((t14, (t15, t16)), m1) some = qbn_B0 n t14 t15 t16 m1 := by kernel_rfl
theorem qbn_f0 (n : Nat) : LoopFact tab (qbn_tbl n) (qbn_loops n) qbn_an [] n 0 qbn_l0 (qbn_L0 n) := ⟨[3, 14, 15, 16], (fun s => qbn_B0 n s.1.1 s.1.2.1 s.1.2.2 s.2), by kernel_rfl, by kernel_rfl, fun s => rfl, fun s => qbn_r0 n s.1.1 s.1.2.1 s.1.2.2 s.2⟩
theorem qbn_run (n : Nat) (m_0 : DH) (m_0_1 : DI) (m_0_2 : DJ) (m_0_3 : DC) (m_0_4 : DD) : funDS (real _) tab (qbn_tbl n) (qbn_loops n) qbn_an Try.f45 0 qbn_a qbn_res (m_0, (m_0_1, (m_0_2, (m_0_3, m_0_4)))) some = qbn n m_0 m_0_1 m_0_2 m_0_3 m_0_4 := by kernel_rfl
def qbn_E (n : Nat) : Entry := ⟨qbn_a, qbn_res, fun d => qbn n d.1 d.2.1 d.2.2.1 d.2.2.2.1 d.2.2.2.2⟩
theorem qbn_ok (n : Nat) : EOK Try.prog 45 (qbn_E n) :=
 EOK.ofS zc zb ze (tbl := qbn_tbl n) (loops := qbn_loops n) (an := qbn_an) (old := []) (n := n) (c := qbn_c) (fn := Try.f45) (TblOK.cons (AllE.cons (qm_ok n) (AllE.cons (qc_ok n) AllE.nil)) TblOK.nil) (by kernel_rfl) (by kernel_rfl) (by kernel_rfl) (by kernel_rfl) (fun d => by kernel_rfl) (LT.cons (by kernel_rfl) (qbn_f0 n) LT.nil) (fun a => qbn_run n a.1 a.2.1 a.2.2.1 a.2.2.2.1 a.2.2.2.2)
def qcj_an : Ann := { live := [(0, [3, 10, 11, 12])], boxed := [(5, 5), (6, 2)], raw := [(1, 3)] }
def qcj_c : Code := (match Try.f40.body with | some c => c | none => .skip)
def qcj_l0 : Code := (match assoc 0 (loopsIn qcj_c 0) with | some c => c | none => .skip)
def qcj_a : StSh := ⟨.normal, [0], (.cons (.sl true false yF) .nil), .nil⟩
def qcj_h0 : List StSh := [⟨.normal, [3, 10, 11, 12], (.cons (.msw 0 0) (.cons (.sl true false yF) (.cons (.int .i64) (.cons (.int .i64) .nil)))), (.cons (.bts 0 false false false (.int .u8)) .nil)⟩]
def qcj_o0 : List StSh := [⟨.exit 0, [3], (.cons (.msw 0 0) .nil), (.cons (.bts 0 false false false (.int .u8)) .nil)⟩]
def qcj_L0 (n : Nat) : LEntry := ⟨qcj_h0, qcj_o0, qcj_W0 n⟩
def qcj_res : List StSh := [⟨.ret, [0], (.cons (.sl false false (.int .u8)) .nil), .nil⟩]
def qcj_tbl (n : Nat) : FuncId → List Entry := fun f => bif Nat.beq f 95 then [qcs_E n] else []
def qcj_loops (n : Nat) : Nat → Option LEntry := fun f => bif Nat.beq f 0 then some (qcj_L0 n) else none
theorem qcj_r0 (n : Nat) (t10 : DK) (t11 : Int) (t12 : Int) (m0 : DC) : roundK (real _) tab (qcj_tbl n) (qcj_loops n) qcj_an [] qcj_l0 0 [3, 10, 11, 12] qcj_h0 qcj_o0 ((t10, (t11, t12)), m0) some = qcj_B0 n t10 t11 t12 m0 := by kernel_rfl
theorem qcj_f0 (n : Nat) : LoopFact tab (qcj_tbl n) (qcj_loops n) qcj_an [] n 0 qcj_l0 (qcj_L0 n) := ⟨[3, 10, 11, 12], (fun s => qcj_B0 n s.1.1 s.1.2.1 s.1.2.2 s.2), by kernel_rfl, by kernel_rfl, fun s => rfl, fun s => qcj_r0 n s.1.1 s.1.2.1 s.1.2.2 s.2⟩
theorem qcj_run (n : Nat) (parts_0 : DK) : funDS (real _) tab (qcj_tbl n) (qcj_loops n) qcj_an Try.f40 0 qcj_a qcj_res parts_0 some = qcj n parts_0 := by kernel_rfl
def qcj_E (n : Nat) : Entry := ⟨qcj_a, qcj_res, fun d => qcj n d⟩
theorem qcj_ok (n : Nat) : EOK Try.prog 40 (qcj_E n) :=
 EOK.ofS zc zb ze (tbl := qcj_tbl n) (loops := qcj_loops n) (an := qcj_an) (old := []) (n := n) (c := qcj_c) (fn := Try.f40) (TblOK.cons (AllE.cons (qcs_ok n) AllE.nil) TblOK.nil) (by kernel_rfl) (by kernel_rfl) (by kernel_rfl) (by kernel_rfl) (fun d => by kernel_rfl) (LT.cons (by kernel_rfl) (qcj_f0 n) LT.nil) (fun a => qcj_run n a)
def qbe_res : List StSh := [⟨.ret, [0], (.cons (.tup (.cons (.sl false false (.int .u8)) (.cons (.int .i64) .nil))) .nil), .nil⟩]
def qbe_tbl (n : Nat) : FuncId → List Entry := fun f => bif Nat.beq f 39 then [qbu_E n] else bif Nat.beq f 41 then [qaq_E n] else bif Nat.beq f 42 then [qab_E n] else bif Nat.beq f 43 then [qam_E n] else bif Nat.beq f 44 then [qav_E n] else bif Nat.beq f 45 then [qbn_E n] else bif Nat.beq f 40 then [qcj_E n] else []
def qbe_loops (n : Nat) : Nat → Option LEntry := fun f => none
theorem qbe_run (n : Nat) (m_0 : DH) (m_0_1 : DI) (m_0_2 : DJ) (m_0_3 : DC) (m_0_4 : DD) : funDS (real _) tab (qbe_tbl n) (qbe_loops n) qbe_an Try.f20 0 qbe_a qbe_res (m_0, (m_0_1, (m_0_2, (m_0_3, m_0_4)))) some = qbe n m_0 m_0_1 m_0_2 m_0_3 m_0_4 := by kernel_rfl
def qbe_E (n : Nat) : Entry := ⟨qbe_a, qbe_res, fun d => qbe n d.1 d.2.1 d.2.2.1 d.2.2.2.1 d.2.2.2.2⟩
theorem qbe_ok (n : Nat) : EOK Try.prog 20 (qbe_E n) :=
 EOK.ofS zc zb ze (tbl := qbe_tbl n) (loops := qbe_loops n) (an := qbe_an) (old := []) (n := n) (c := qbe_c) (fn := Try.f20) (TblOK.cons (AllE.cons (qbu_ok n) AllE.nil) (TblOK.cons (AllE.cons (qaq_ok n) AllE.nil) (TblOK.cons (AllE.cons (qab_ok n) AllE.nil) (TblOK.cons (AllE.cons (qam_ok n) AllE.nil) (TblOK.cons (AllE.cons (qav_ok n) AllE.nil) (TblOK.cons (AllE.cons (qbn_ok n) AllE.nil) (TblOK.cons (AllE.cons (qcj_ok n) AllE.nil) TblOK.nil))))))) (by kernel_rfl) (by kernel_rfl) (by kernel_rfl) (by kernel_rfl) (fun d => by kernel_rfl) LT.nil (fun a => qbe_run n a.1 a.2.1 a.2.2.1 a.2.2.2.1 a.2.2.2.2)
def qbf_an : Ann := {}
def qbf_c : Code := (match Try.f23.body with | some c => c | none => .skip)
def qbf_a : StSh := ⟨.normal, [0], (.cons (.sl true false (.int .u8)) .nil), .nil⟩
def qcc_an : Ann := { live := [(0, [6, 9, 22, 23])], boxed := [(5, 0), (11, 5)] }
def qcc_c : Code := (match Try.f53.body with | some c => c | none => .skip)
def qcc_l0 : Code := (match assoc 0 (loopsIn qcc_c 0) with | some c => c | none => .skip)
def qcc_a : StSh := ⟨.normal, [0, 1], (.cons (.sl true false (.int .u8)) (.cons (.int .i64) .nil)), .nil⟩
def qbb_an : Ann := {}
def qbb_c : Code := (match Try.f55.body with | some c => c | none => .skip)
def qbb_a : StSh := ⟨.normal, [0], (.cons (.sl true false (.int .u8)) .nil), .nil⟩
def qbb_res : List StSh := [⟨.ret, [0], (.cons (.ptr 0 0 0 0) .nil), (.cons (.bcells 0 false 1 (.cons (.sl false false (.int .u8)) (.cons .bool .nil))) .nil)⟩]
def qbb_tbl (n : Nat) : FuncId → List Entry := fun f => []
def qbb_loops (n : Nat) : Nat → Option LEntry := fun f => none
theorem qbb_run (n : Nat) (b_0 : DC) : funDS (real _) tab (qbb_tbl n) (qbb_loops n) qbb_an Try.f55 0 qbb_a qbb_res b_0 some = qbb n b_0 := by kernel_rfl
def qbb_E (n : Nat) : Entry := ⟨qbb_a, qbb_res, fun d => qbb n d⟩
theorem qbb_ok (n : Nat) : EOK Try.prog 55 (qbb_E n) :=
 EOK.ofS zc zb ze (tbl := qbb_tbl n) (loops := qbb_loops n) (an := qbb_an) (old := []) (n := n) (c := qbb_c) (fn := Try.f55) TblOK.nil (by kernel_rfl) (by kernel_rfl) (by kernel_rfl) (by kernel_rfl) (fun d => by kernel_rfl) LT.nil (fun a => qbb_run n a)
def qcd_an : Ann := {}
def qcd_c : Code := (match Try.f102.body with | some c => c | none => .skip)
def qcd_a : StSh := ⟨.normal, [0, 1], (.cons (.ptr 0 0 0 0) (.cons (.int .i64) .nil)), (.cons (.bcells 0 false 1 (.cons (.sl false false (.int .u8)) (.cons .bool .nil))) .nil)⟩
def qbg_an : Ann := { live := [(0, [0, 3, 4])] }
def qbg_c : Code := (match Try.f56.body with | some c => c | none => .skip)
def qbg_l0 : Code := (match assoc 0 (loopsIn qbg_c 0) with | some c => c | none => .skip)
def qbg_a : StSh := ⟨.normal, [0], (.cons (.ptr 0 0 0 0) .nil), (.cons (.bcells 0 false 1 (.cons (.sl false false (.int .u8)) (.cons .bool .nil))) .nil)⟩
def qay_an : Ann := {}
def qay_c : Code := (match Try.f70.body with | some c => c | none => .skip)
def qay_a : StSh := ⟨.normal, [0, 1], (.cons (.ptr 0 0 0 0) (.cons (.int .i64) .nil)), (.cons (.bcells 0 false 1 (.cons (.sl false false (.int .u8)) (.cons .bool .nil))) .nil)⟩
def qbc_an : Ann := {}
def qbc_c : Code := (match Try.f104.body with | some c => c | none => .skip)
def qbc_a : StSh := ⟨.normal, [0], (.cons (.ptr 0 0 0 0) .nil), (.cons (.bcells 0 false 1 (.cons (.sl false false (.int .u8)) (.cons .bool .nil))) .nil)⟩
def qbc_res : List StSh := [⟨.ret, [0], (.cons .bool .nil), (.cons (.bcells 0 false 1 (.cons (.sl false false (.int .u8)) (.cons .bool .nil))) .nil)⟩]
def qbc_tbl (n : Nat) : FuncId → List Entry := fun f => []
def qbc_loops (n : Nat) : Nat → Option LEntry := fun f => none
theorem qbc_run (n : Nat) (m0 : DC) (m0_1 : Bool) : funDS (real _) tab (qbc_tbl n) (qbc_loops n) qbc_an Try.f104 1 qbc_a qbc_res (m0, m0_1) some = qbc n m0 m0_1 := by kernel_rfl
def qbc_E (n : Nat) : Entry := ⟨qbc_a, qbc_res, fun d => qbc n d.1 d.2⟩
theorem qbc_ok (n : Nat) : EOK Try.prog 104 (qbc_E n) :=
 EOK.ofS zc zb ze (tbl := qbc_tbl n) (loops := qbc_loops n) (an := qbc_an) (old := [some true]) (n := n) (c := qbc_c) (fn := Try.f104) TblOK.nil (by kernel_rfl) (by kernel_rfl) (by kernel_rfl) (by kernel_rfl) (fun d => by kernel_rfl) LT.nil (fun a => qbc_run n a.1 a.2)
def qar_an : Ann := {}
def qar_c : Code := (match Try.f105.body with | some c => c | none => .skip)
def qar_a : StSh := ⟨.normal, [0], (.cons (.ptr 0 0 0 0) .nil), (.cons (.bcells 0 false 1 (.cons (.sl false false (.int .u8)) (.cons .bool .nil))) .nil)⟩
def qar_res : List StSh := [⟨.ret, [0], (.cons (.tup .nil) .nil), (.cons (.bcells 0 false 1 (.cons (.sl false false (.int .u8)) (.cons .bool .nil))) .nil)⟩]
def qar_tbl (n : Nat) : FuncId → List Entry := fun f => []
def qar_loops (n : Nat) : Nat → Option LEntry := fun f => none
theorem qar_run (n : Nat) (m0 : DC) (m0_1 : Bool) : funDS (real _) tab (qar_tbl n) (qar_loops n) qar_an Try.f105 1 qar_a qar_res (m0, m0_1) some = qar n m0 m0_1 := by kernel_rfl
def qar_E (n : Nat) : Entry := ⟨qar_a, qar_res, fun d => qar n d.1 d.2⟩
theorem qar_ok (n : Nat) : EOK Try.prog 105 (qar_E n) :=
 EOK.ofS zc zb ze (tbl := qar_tbl n) (loops := qar_loops n) (an := qar_an) (old := [some true]) (n := n) (c := qar_c) (fn := Try.f105) TblOK.nil (by kernel_rfl) (by kernel_rfl) (by kernel_rfl) (by kernel_rfl) (fun d => by kernel_rfl) LT.nil (fun a => qar_run n a.1 a.2)
def qay_res : List StSh := [⟨.ret, [0], (.cons (.sl false false (.int .u8)) .nil), (.cons (.bcells 0 false 1 (.cons (.sl false false (.int .u8)) (.cons .bool .nil))) .nil)⟩]
def qay_tbl (n : Nat) : FuncId → List Entry := fun f => bif Nat.beq f 104 then [qbc_E n] else bif Nat.beq f 105 then [qar_E n] else []
def qay_loops (n : Nat) : Nat → Option LEntry := fun f => none
theorem qay_run (n : Nat) (n_1 : Int) (m0 : DC) (m0_1 : Bool) : funDS (real _) tab (qay_tbl n) (qay_loops n) qay_an Try.f70 1 qay_a qay_res (n_1, (m0, m0_1)) some = qay n n_1 m0 m0_1 := by kernel_rfl
def qay_E (n : Nat) : Entry := ⟨qay_a, qay_res, fun d => qay n d.1 d.2.1 d.2.2⟩
theorem qay_ok (n : Nat) : EOK Try.prog 70 (qay_E n) :=
 EOK.ofS zc zb ze (tbl := qay_tbl n) (loops := qay_loops n) (an := qay_an) (old := [some true]) (n := n) (c := qay_c) (fn := Try.f70) (TblOK.cons (AllE.cons (qbc_ok n) AllE.nil) (TblOK.cons (AllE.cons (qar_ok n) AllE.nil) TblOK.nil)) (by kernel_rfl) (by kernel_rfl) (by kernel_rfl) (by kernel_rfl) (fun d => by kernel_rfl) LT.nil (fun a => qay_run n a.1 a.2.1 a.2.2)
def qbg_h0 : List StSh := [⟨.normal, [0, 3, 4], (.cons (.ptr 0 0 0 0) (.cons (.int .u64) (.cons (.int .i64) .nil))), (.cons (.bcells 0 false 1 (.cons (.sl false false (.int .u8)) (.cons .bool .nil))) .nil)⟩]
def qbg_o0 : List StSh := [⟨.ret, [2], (.cons (.int .u64) .nil), (.cons (.bcells 0 false 1 (.cons (.sl false false (.int .u8)) (.cons .bool .nil))) .nil)⟩]
def qbg_L0 (n : Nat) : LEntry := ⟨qbg_h0, qbg_o0, qbg_W0 n⟩
def qbg_res : List StSh := [⟨.ret, [0], (.cons (.int .u64) .nil), (.cons (.bcells 0 false 1 (.cons (.sl false false (.int .u8)) (.cons .bool .nil))) .nil)⟩]
def qbg_tbl (n : Nat) : FuncId → List Entry := fun f => bif Nat.beq f 70 then [qay_E n] else bif Nat.beq f 105 then [qar_E n] else []
def qbg_loops (n : Nat) : Nat → Option LEntry := fun f => bif Nat.beq f 0 then some (qbg_L0 n) else none
theorem qbg_r0 (n : Nat) (v_3 : Int) (k_4 : Int) (m0 : DC) (m0_1 : Bool) : roundK (real _) tab (qbg_tbl n) (qbg_loops n) qbg_an [some true] qbg_l0 0 [0, 3, 4] qbg_h0 qbg_o0 ((v_3, k_4), (m0, m0_1)) some = qbg_B0 n v_3 k_4 m0 m0_1 := by kernel_rfl
theorem qbg_f0 (n : Nat) : LoopFact tab (qbg_tbl n) (qbg_loops n) qbg_an [some true] n 0 qbg_l0 (qbg_L0 n) := ⟨[0, 3, 4], (fun s => qbg_B0 n s.1.1 s.1.2 s.2.1 s.2.2), by kernel_rfl, by kernel_rfl, fun s => rfl, fun s => qbg_r0 n s.1.1 s.1.2 s.2.1 s.2.2⟩
theorem qbg_run (n : Nat) (m0 : DC) (m0_1 : Bool) : funDS (real _) tab (qbg_tbl n) (qbg_loops n) qbg_an Try.f56 1 qbg_a qbg_res (m0, m0_1) some = qbg n m0 m0_1 := by kernel_rfl
def qbg_E (n : Nat) : Entry := ⟨qbg_a, qbg_res, fun d => qbg n d.1 d.2⟩
theorem qbg_ok (n : Nat) : EOK Try.prog 56 (qbg_E n) :=
 EOK.ofS zc zb ze (tbl := qbg_tbl n) (loops := qbg_loops n) (an := qbg_an) (old := [some true]) (n := n) (c := qbg_c) (fn := Try.f56) (TblOK.cons (AllE.cons (qay_ok n) AllE.nil) (TblOK.cons (AllE.cons (qar_ok n) AllE.nil) TblOK.nil)) (by kernel_rfl) (by kernel_rfl) (by kernel_rfl) (by kernel_rfl) (fun d => by kernel_rfl) (LT.cons (by kernel_rfl) (qbg_f0 n) LT.nil) (fun a => qbg_run n a.1 a.2)
def qcd_res : List StSh := [⟨.ret, [0], (.cons (.tup (.cons (.int .i64) (.cons .bool .nil))) .nil), (.cons (.bcells 0 false 1 (.cons (.sl false false (.int .u8)) (.cons .bool .nil))) .nil)⟩]
def qcd_tbl (n : Nat) : FuncId → List Entry := fun f => bif Nat.beq f 56 then [qbg_E n] else bif Nat.beq f 104 then [qbc_E n] else []
def qcd_loops (n : Nat) : Nat → Option LEntry := fun f => none
theorem qcd_run (n : Nat) (most_1 : Int) (m0 : DC) (m0_1 : Bool) : funDS (real _) tab (qcd_tbl n) (qcd_loops n) qcd_an Try.f102 1 qcd_a qcd_res (most_1, (m0, m0_1)) some = qcd n most_1 m0 m0_1 := by kernel_rfl
def qcd_E (n : Nat) : Entry := ⟨qcd_a, qcd_res, fun d => qcd n d.1 d.2.1 d.2.2⟩
theorem qcd_ok (n : Nat) : EOK Try.prog 102 (qcd_E n) :=
 EOK.ofS zc zb ze (tbl := qcd_tbl n) (loops := qcd_loops n) (an := qcd_an) (old := [some true]) (n := n) (c := qcd_c) (fn := Try.f102) (TblOK.cons (AllE.cons (qbg_ok n) AllE.nil) (TblOK.cons (AllE.cons (qbc_ok n) AllE.nil) TblOK.nil)) (by kernel_rfl) (by kernel_rfl) (by kernel_rfl) (by kernel_rfl) (fun d => by kernel_rfl) LT.nil (fun a => qcd_run n a.1 a.2.1 a.2.2)
def qau_an : Ann := {}
def qau_c : Code := (match Try.f103.body with | some c => c | none => .skip)
def qau_a : StSh := ⟨.normal, [0], (.cons (.ptr 0 0 0 0) .nil), (.cons (.bcells 0 false 1 (.cons (.sl false false (.int .u8)) (.cons .bool .nil))) .nil)⟩
def qau_res : List StSh := [⟨.ret, [0], (.cons (.int .i64) .nil), (.cons (.bcells 0 false 1 (.cons (.sl false false (.int .u8)) (.cons .bool .nil))) .nil)⟩]
def qau_tbl (n : Nat) : FuncId → List Entry := fun f => bif Nat.beq f 104 then [qbc_E n] else []
def qau_loops (n : Nat) : Nat → Option LEntry := fun f => none
theorem qau_run (n : Nat) (m0 : DC) (m0_1 : Bool) : funDS (real _) tab (qau_tbl n) (qau_loops n) qau_an Try.f103 1 qau_a qau_res (m0, m0_1) some = qau n m0 m0_1 := by kernel_rfl
def qau_E (n : Nat) : Entry := ⟨qau_a, qau_res, fun d => qau n d.1 d.2⟩
theorem qau_ok (n : Nat) : EOK Try.prog 103 (qau_E n) :=
 EOK.ofS zc zb ze (tbl := qau_tbl n) (loops := qau_loops n) (an := qau_an) (old := [some true]) (n := n) (c := qau_c) (fn := Try.f103) (TblOK.cons (AllE.cons (qbc_ok n) AllE.nil) TblOK.nil) (by kernel_rfl) (by kernel_rfl) (by kernel_rfl) (by kernel_rfl) (fun d => by kernel_rfl) LT.nil (fun a => qau_run n a.1 a.2)
def qcc_h0 : List StSh := [⟨.normal, [6, 9, 22, 23], (.cons (.ptr 0 0 0 0) (.cons (.msw 1 0) (.cons (.int .i64) (.cons (.int .i64) .nil)))), (.cons (.bcells 0 false 1 (.cons (.sl false false (.int .u8)) (.cons .bool .nil))) (.cons (.bts 0 false false false yF) .nil))⟩]
def qcc_o0 : List StSh := [⟨.ret, [4, 5], (.cons (.sl false false yF) (.cons (.int .i64) .nil)), (.cons (.bcells 0 false 1 (.cons (.sl false false (.int .u8)) (.cons .bool .nil))) (.cons (.bts 0 false false false yF) .nil))⟩, ⟨.ret, [4, 5], (.cons (.sl false false yF) (.cons (.int .i64) .nil)), (.cons (.bcells 0 false 1 (.cons (.sl false false (.int .u8)) (.cons .bool .nil))) (.cons (.bts 1 false false false yF) .nil))⟩, ⟨.exit 0, [6, 9], (.cons (.ptr 0 0 0 0) (.cons (.msw 1 0) .nil)), (.cons (.bcells 0 false 1 (.cons (.sl false false (.int .u8)) (.cons .bool .nil))) (.cons (.bts 0 false false false yF) .nil))⟩]
def qcc_L0 (n : Nat) : LEntry := ⟨qcc_h0, qcc_o0, qcc_W0 n⟩
def qcc_res : List StSh := [⟨.ret, [0], (.cons (.tup (.cons (.sl false false yF) (.cons (.int .i64) .nil))) .nil), .nil⟩]
def qcc_tbl (n : Nat) : FuncId → List Entry := fun f => bif Nat.beq f 55 then [qbb_E n] else bif Nat.beq f 102 then [qcd_E n] else bif Nat.beq f 103 then [qau_E n] else bif Nat.beq f 70 then [qay_E n] else bif Nat.beq f 104 then [qbc_E n] else []
def qcc_loops (n : Nat) : Nat → Option LEntry := fun f => bif Nat.beq f 0 then some (qcc_L0 n) else none
theorem qcc_r0 (n : Nat) (t22 : Int) (t23 : Int) (m0 : DC) (m0_1 : Bool) (m1 : DK) : roundK (real _) tab (qcc_tbl n) (qcc_loops n) qcc_an [] qcc_l0 0 [6, 9, 22, 23] qcc_h0 qcc_o0 ((t22, t23), ((m0, m0_1), m1)) some = qcc_B0 n t22 t23 m0 m0_1 m1 := by kernel_rfl
theorem qcc_f0 (n : Nat) : LoopFact tab (qcc_tbl n) (qcc_loops n) qcc_an [] n 0 qcc_l0 (qcc_L0 n) := ⟨[6, 9, 22, 23], (fun s => qcc_B0 n s.1.1 s.1.2 s.2.1.1 s.2.1.2 s.2.2), by kernel_rfl, by kernel_rfl, fun s => rfl, fun s => qcc_r0 n s.1.1 s.1.2 s.2.1.1 s.2.1.2 s.2.2⟩
theorem qcc_run (n : Nat) (b_0 : DC) (most_1 : Int) : funDS (real _) tab (qcc_tbl n) (qcc_loops n) qcc_an Try.f53 0 qcc_a qcc_res (b_0, most_1) some = qcc n b_0 most_1 := by kernel_rfl
def qcc_E (n : Nat) : Entry := ⟨qcc_a, qcc_res, fun d => qcc n d.1 d.2⟩
theorem qcc_ok (n : Nat) : EOK Try.prog 53 (qcc_E n) :=
 EOK.ofS zc zb ze (tbl := qcc_tbl n) (loops := qcc_loops n) (an := qcc_an) (old := []) (n := n) (c := qcc_c) (fn := Try.f53) (TblOK.cons (AllE.cons (qbb_ok n) AllE.nil) (TblOK.cons (AllE.cons (qcd_ok n) AllE.nil) (TblOK.cons (AllE.cons (qau_ok n) AllE.nil) (TblOK.cons (AllE.cons (qay_ok n) AllE.nil) (TblOK.cons (AllE.cons (qbc_ok n) AllE.nil) TblOK.nil))))) (by kernel_rfl) (by kernel_rfl) (by kernel_rfl) (by kernel_rfl) (fun d => by kernel_rfl) (LT.cons (by kernel_rfl) (qcc_f0 n) LT.nil) (fun a => qcc_run n a.1 a.2)
def qaw_an : Ann := {}
def qaw_c : Code := (match Try.f54.body with | some c => c | none => .skip)
def qaw_a : StSh := ⟨.normal, [0, 1, 2], (.cons (.int .i64) (.cons (.ptr 0 0 0 0) (.cons (.ptr 1 0 0 0) .nil))), (.cons (.bcells 0 false 1 (.cons (.sl false false yF) .nil)) (.cons (.bcells 0 false 1 (.cons .nilS (.cons .nilS (.cons .nilS (.cons .nilS (.cons .nilS .nil)))))) .nil))⟩
def qaw_res : List StSh := [⟨.ret, [0], (.cons (.ptr 2 0 0 0) .nil), (.cons (.bcells 0 false 1 (.cons (.sl false false yF) .nil)) (.cons (.bcells 0 false 1 (.cons .nilS (.cons .nilS (.cons .nilS (.cons .nilS (.cons .nilS .nil)))))) (.cons (.bcells 0 false 1 (.cons (.ptr 3 0 0 0) (.cons (.int .i64) (.cons .bool .nil)))) (.cons (.bcells 0 false 1 (.cons (.sl false false (.int .u8)) (.cons .bool .nil))) .nil))))⟩]
def qaw_tbl (n : Nat) : FuncId → List Entry := fun f => bif Nat.beq f 55 then [qbb_E n] else []
def qaw_loops (n : Nat) : Nat → Option LEntry := fun f => none
theorem qaw_run (n : Nat) (k_0 : Int) (m0 : DK) : funDS (real _) tab (qaw_tbl n) (qaw_loops n) qaw_an Try.f54 2 qaw_a qaw_res (k_0, m0) some = qaw n k_0 m0 := by kernel_rfl
def qaw_E (n : Nat) : Entry := ⟨qaw_a, qaw_res, fun d => qaw n d.1 d.2⟩
theorem qaw_ok (n : Nat) : EOK Try.prog 54 (qaw_E n) :=
 EOK.ofS zc zb ze (tbl := qaw_tbl n) (loops := qaw_loops n) (an := qaw_an) (old := [some true, some true]) (n := n) (c := qaw_c) (fn := Try.f54) (TblOK.cons (AllE.cons (qbb_ok n) AllE.nil) TblOK.nil) (by kernel_rfl) (by kernel_rfl) (by kernel_rfl) (by kernel_rfl) (fun d => by kernel_rfl) LT.nil (fun a => qaw_run n a.1 a.2)
def qk_an : Ann := { live := [(0, [0, 2, 7, 10, 11])], boxed := [(1, 0), (5, 4)] }
def qk_c : Code := (match Try.f57.body with | some c => c | none => .skip)
def qk_l0 : Code := (match assoc 0 (loopsIn qk_c 0) with | some c => c | none => .skip)
def qk_a : StSh := ⟨.normal, [0, 1, 2], (.cons (.ptr 0 0 0 0) (.cons (.int .i64) (.cons (.fn 58 .nil (.cons (.ptr 1 0 0 0) .nil)) .nil))), (.cons (.bcells 0 false 1 (.cons (.ptr 2 0 0 0) (.cons (.int .i64) (.cons .bool .nil)))) (.cons (.bcells 0 false 1 (.cons (.ptr 0 0 0 0) .nil)) (.cons (.bcells 0 false 1 (.cons (.sl false false (.int .u8)) (.cons .bool .nil))) .nil)))⟩
def qn_an : Ann := {}
def qn_c : Code := (match Try.f71.body with | some c => c | none => .skip)
def qn_a : StSh := ⟨.normal, [0, 1], (.cons (.ptr 0 0 0 0) (.cons (.int .i64) .nil)), (.cons (.bcells 0 false 1 (.cons (.ptr 1 0 0 0) (.cons (.int .i64) (.cons .bool .nil)))) (.cons (.bcells 0 false 1 (.cons (.sl false false (.int .u8)) (.cons .bool .nil))) .nil))⟩
def qn_res : List StSh := [⟨.ret, [0], (.cons (.int .i64) .nil), (.cons (.bcells 0 false 1 (.cons (.ptr 1 0 0 0) (.cons (.int .i64) (.cons .bool .nil)))) (.cons (.bcells 0 false 1 (.cons (.sl false false (.int .u8)) (.cons .bool .nil))) .nil))⟩]
def qn_tbl (n : Nat) : FuncId → List Entry := fun f => bif Nat.beq f 56 then [qbg_E n] else bif Nat.beq f 104 then [qbc_E n] else []
def qn_loops (n : Nat) : Nat → Option LEntry := fun f => none
theorem qn_run (n : Nat) (most_1 : Int) (m0 : Int) (m0_1 : Bool) (m1 : DC) (m1_1 : Bool) : funDS (real _) tab (qn_tbl n) (qn_loops n) qn_an Try.f71 2 qn_a qn_res (most_1, ((m0, m0_1), (m1, m1_1))) some = qn n most_1 m0 m0_1 m1 m1_1 := by kernel_rfl
def qn_E (n : Nat) : Entry := ⟨qn_a, qn_res, fun d => qn n d.1 d.2.1.1 d.2.1.2 d.2.2.1 d.2.2.2⟩
theorem qn_ok (n : Nat) : EOK Try.prog 71 (qn_E n) :=
 EOK.ofS zc zb ze (tbl := qn_tbl n) (loops := qn_loops n) (an := qn_an) (old := [some true, some true]) (n := n) (c := qn_c) (fn := Try.f71) (TblOK.cons (AllE.cons (qbg_ok n) AllE.nil) (TblOK.cons (AllE.cons (qbc_ok n) AllE.nil) TblOK.nil)) (by kernel_rfl) (by kernel_rfl) (by kernel_rfl) (by kernel_rfl) (fun d => by kernel_rfl) LT.nil (fun a => qn_run n a.1 a.2.1.1 a.2.1.2 a.2.2.1 a.2.2.2)
def qax_an : Ann := {}
def qax_c : Code := (match Try.f58.body with | some c => c | none => .skip)
def qax_a : StSh := ⟨.normal, [0], (.cons (.ptr 0 0 0 0) .nil), (.cons (.bcells 0 false 1 (.cons (.ptr 1 0 0 0) .nil)) (.cons (.bcells 0 false 1 (.cons (.ptr 2 0 0 0) (.cons (.int .i64) (.cons .bool .nil)))) (.cons (.bcells 0 false 1 (.cons (.sl false false (.int .u8)) (.cons .bool .nil))) .nil)))⟩
def qb_an : Ann := { live := [(0, [0, 2, 7, 10, 11])], boxed := [(1, 0), (5, 4)] }
def qb_c : Code := (match Try.f59.body with | some c => c | none => .skip)
def qb_l0 : Code := (match assoc 0 (loopsIn qb_c 0) with | some c => c | none => .skip)
def qb_a : StSh := ⟨.normal, [0, 1, 2], (.cons (.ptr 0 0 0 0) (.cons (.int .i64) (.cons (.fn 60 (.cons (.ptr 0 0 0 0) .nil) .nil) .nil))), (.cons (.bcells 0 false 1 (.cons (.ptr 1 0 0 0) (.cons (.int .i64) (.cons .bool .nil)))) (.cons (.bcells 0 false 1 (.cons (.sl false false (.int .u8)) (.cons .bool .nil))) .nil))⟩
def qw_an : Ann := {}
def qw_c : Code := (match Try.f60.body with | some c => c | none => .skip)
def qw_a : StSh := ⟨.normal, [0], (.cons (.ptr 0 0 0 0) .nil), (.cons (.bcells 0 false 1 (.cons (.ptr 1 0 0 0) (.cons (.int .i64) (.cons .bool .nil)))) (.cons (.bcells 0 false 1 (.cons (.sl false false (.int .u8)) (.cons .bool .nil))) .nil))⟩
def qcn_an : Ann := {}
def qcn_c : Code := (match Try.f106.body with | some c => c | none => .skip)
def qcn_a : StSh := ⟨.normal, [0, 1], (.cons (.ptr 0 0 0 0) (.cons (.int .i64) .nil)), (.cons (.bcells 0 false 1 (.cons (.sl false false (.int .u8)) (.cons .bool .nil))) .nil)⟩
def qcn_res : List StSh := [⟨.ret, [0], (.cons (.tup (.cons (.agg (.cons (.int .i64) (.cons (.int .i64) .nil))) (.cons .bool .nil))) .nil), (.cons (.bcells 0 false 1 (.cons (.sl false false (.int .u8)) (.cons .bool .nil))) .nil)⟩]
def qcn_tbl (n : Nat) : FuncId → List Entry := fun f => bif Nat.beq f 56 then [qbg_E n] else bif Nat.beq f 104 then [qbc_E n] else bif Nat.beq f 92 then [qck_E n] else []
def qcn_loops (n : Nat) : Nat → Option LEntry := fun f => none
theorem qcn_run (n : Nat) (recs_1 : Int) (m0 : DC) (m0_1 : Bool) : funDS (real _) tab (qcn_tbl n) (qcn_loops n) qcn_an Try.f106 1 qcn_a qcn_res (recs_1, (m0, m0_1)) some = qcn n recs_1 m0 m0_1 := by kernel_rfl
def qcn_E (n : Nat) : Entry := ⟨qcn_a, qcn_res, fun d => qcn n d.1 d.2.1 d.2.2⟩
theorem qcn_ok (n : Nat) : EOK Try.prog 106 (qcn_E n) :=
 EOK.ofS zc zb ze (tbl := qcn_tbl n) (loops := qcn_loops n) (an := qcn_an) (old := [some true]) (n := n) (c := qcn_c) (fn := Try.f106) (TblOK.cons (AllE.cons (qbg_ok n) AllE.nil) (TblOK.cons (AllE.cons (qbc_ok n) AllE.nil) (TblOK.cons (AllE.cons (qck_ok n) AllE.nil) TblOK.nil))) (by kernel_rfl) (by kernel_rfl) (by kernel_rfl) (by kernel_rfl) (fun d => by kernel_rfl) LT.nil (fun a => qcn_run n a.1 a.2.1 a.2.2)
def qw_res : List StSh := [⟨.ret, [0], (.cons (.agg (.cons (.int .i64) (.cons (.int .i64) .nil))) .nil), (.cons (.bcells 0 false 1 (.cons (.ptr 1 0 0 0) (.cons (.int .i64) (.cons .bool .nil)))) (.cons (.bcells 0 false 1 (.cons (.sl false false (.int .u8)) (.cons .bool .nil))) .nil))⟩]
def qw_tbl (n : Nat) : FuncId → List Entry := fun f => bif Nat.beq f 106 then [qcn_E n] else []
def qw_loops (n : Nat) : Nat → Option LEntry := fun f => none
theorem qw_run (n : Nat) (m0 : Int) (m0_1 : Bool) (m1 : DC) (m1_1 : Bool) : funDS (real _) tab (qw_tbl n) (qw_loops n) qw_an Try.f60 2 qw_a qw_res ((m0, m0_1), (m1, m1_1)) some = qw n m0 m0_1 m1 m1_1 := by kernel_rfl
def qw_E (n : Nat) : Entry := ⟨qw_a, qw_res, fun d => qw n d.1.1 d.1.2 d.2.1 d.2.2⟩
theorem qw_ok (n : Nat) : EOK Try.prog 60 (qw_E n) :=
 EOK.ofS zc zb ze (tbl := qw_tbl n) (loops := qw_loops n) (an := qw_an) (old := [some true, some true]) (n := n) (c := qw_c) (fn := Try.f60) (TblOK.cons (AllE.cons (qcn_ok n) AllE.nil) TblOK.nil) (by kernel_rfl) (by kernel_rfl) (by kernel_rfl) (by kernel_rfl) (fun d => by kernel_rfl) LT.nil (fun a => qw_run n a.1.1 a.1.2 a.2.1 a.2.2)
def qb_h0 : List StSh := [⟨.normal, [0, 2, 7, 10, 11], (.cons (.ptr 0 0 0 0) (.cons (.fn 60 (.cons (.ptr 0 0 0 0) .nil) .nil) (.cons (.msw 2 0) (.cons (.int .i64) (.cons (.int .i64) .nil))))), (.cons (.bcells 0 false 1 (.cons (.ptr 1 0 0 0) (.cons (.int .i64) (.cons .bool .nil)))) (.cons (.bcells 0 false 1 (.cons (.sl false false (.int .u8)) (.cons .bool .nil))) (.cons (.bts 0 false false true yD) .nil)))⟩]
def qb_o0 : List StSh := [⟨.exit 0, [7], (.cons (.msw 2 0) .nil), (.cons (.bcells 0 false 1 (.cons (.ptr 1 0 0 0) (.cons (.int .i64) (.cons .bool .nil)))) (.cons (.bcells 0 false 1 (.cons (.sl false false (.int .u8)) (.cons .bool .nil))) (.cons (.bts 0 false false true yD) .nil)))⟩]
def qb_L0 (n : Nat) : LEntry := ⟨qb_h0, qb_o0, qb_W0 n⟩
def qb_res : List StSh := [⟨.ret, [0], (.cons (.sl false true yD) .nil), (.cons (.bcells 0 false 1 (.cons (.ptr 1 0 0 0) (.cons (.int .i64) (.cons .bool .nil)))) (.cons (.bcells 0 false 1 (.cons (.sl false false (.int .u8)) (.cons .bool .nil))) .nil))⟩]
def qb_tbl (n : Nat) : FuncId → List Entry := fun f => bif Nat.beq f 71 then [qn_E n] else bif Nat.beq f 60 then [qw_E n] else []
def qb_loops (n : Nat) : Nat → Option LEntry := fun f => bif Nat.beq f 0 then some (qb_L0 n) else none
theorem qb_r0 (n : Nat) (t10 : Int) (t11 : Int) (m0 : Int) (m0_1 : Bool) (m1 : DC) (m1_1 : Bool) (m2 : DA) : roundK (real _) tab (qb_tbl n) (qb_loops n) qb_an [some true, some true] qb_l0 0 [0, 2, 7, 10, 11] qb_h0 qb_o0 ((t10, t11), ((m0, m0_1), ((m1, m1_1), m2))) some = qb_B0 n t10 t11 m0 m0_1 m1 m1_1 m2 := by kernel_rfl
theorem qb_f0 (n : Nat) : LoopFact tab (qb_tbl n) (qb_loops n) qb_an [some true, some true] n 0 qb_l0 (qb_L0 n) := ⟨[0, 2, 7, 10, 11], (fun s => qb_B0 n s.1.1 s.1.2 s.2.1.1 s.2.1.2 s.2.2.1.1 s.2.2.1.2 s.2.2.2), by kernel_rfl, by kernel_rfl, fun s => rfl, fun s => qb_r0 n s.1.1 s.1.2 s.2.1.1 s.2.1.2 s.2.2.1.1 s.2.2.1.2 s.2.2.2⟩
theorem qb_run (n : Nat) (most_1 : Int) (m0 : Int) (m0_1 : Bool) (m1 : DC) (m1_1 : Bool) : funDS (real _) tab (qb_tbl n) (qb_loops n) qb_an Try.f59 2 qb_a qb_res (most_1, ((m0, m0_1), (m1, m1_1))) some = qb n most_1 m0 m0_1 m1 m1_1 := by kernel_rfl
def qb_E (n : Nat) : Entry := ⟨qb_a, qb_res, fun d => qb n d.1 d.2.1.1 d.2.1.2 d.2.2.1 d.2.2.2⟩
theorem qb_ok (n : Nat) : EOK Try.prog 59 (qb_E n) :=
 EOK.ofS zc zb ze (tbl := qb_tbl n) (loops := qb_loops n) (an := qb_an) (old := [some true, some true]) (n := n) (c := qb_c) (fn := Try.f59) (TblOK.cons (AllE.cons (qn_ok n) AllE.nil) (TblOK.cons (AllE.cons (qw_ok n) AllE.nil) TblOK.nil)) (by kernel_rfl) (by kernel_rfl) (by kernel_rfl) (by kernel_rfl) (fun d => by kernel_rfl) (LT.cons (by kernel_rfl) (qb_f0 n) LT.nil) (fun a => qb_run n a.1 a.2.1.1 a.2.1.2 a.2.2.1 a.2.2.2)
def qax_res : List StSh := [⟨.ret, [0], (.cons (.sl false true yD) .nil), (.cons (.bcells 0 false 1 (.cons (.ptr 1 0 0 0) .nil)) (.cons (.bcells 0 false 1 (.cons (.ptr 2 0 0 0) (.cons (.int .i64) (.cons .bool .nil)))) (.cons (.bcells 0 false 1 (.cons (.sl false false (.int .u8)) (.cons .bool .nil))) .nil)))⟩]
def qax_tbl (n : Nat) : FuncId → List Entry := fun f => bif Nat.beq f 59 then [qb_E n] else []
def qax_loops (n : Nat) : Nat → Option LEntry := fun f => none
theorem qax_run (n : Nat) (m1 : Int) (m1_1 : Bool) (m2 : DC) (m2_1 : Bool) : funDS (real _) tab (qax_tbl n) (qax_loops n) qax_an Try.f58 3 qax_a qax_res ((m1, m1_1), (m2, m2_1)) some = qax n m1 m1_1 m2 m2_1 := by kernel_rfl
def qax_E (n : Nat) : Entry := ⟨qax_a, qax_res, fun d => qax n d.1.1 d.1.2 d.2.1 d.2.2⟩
theorem qax_ok (n : Nat) : EOK Try.prog 58 (qax_E n) :=
 EOK.ofS zc zb ze (tbl := qax_tbl n) (loops := qax_loops n) (an := qax_an) (old := [some true, some true, some true]) (n := n) (c := qax_c) (fn := Try.f58) (TblOK.cons (AllE.cons (qb_ok n) AllE.nil) TblOK.nil) (by kernel_rfl) (by kernel_rfl) (by kernel_rfl) (by kernel_rfl) (fun d => by kernel_rfl) LT.nil (fun a => qax_run n a.1.1 a.1.2 a.2.1 a.2.2)
def qk_h0 : List StSh := [⟨.normal, [0, 2, 7, 10, 11], (.cons (.ptr 0 0 0 0) (.cons (.fn 58 .nil (.cons (.ptr 1 0 0 0) .nil)) (.cons (.msw 3 0) (.cons (.int .i64) (.cons (.int .i64) .nil))))), (.cons (.bcells 0 false 1 (.cons (.ptr 2 0 0 0) (.cons (.int .i64) (.cons .bool .nil)))) (.cons (.bcells 0 false 1 (.cons (.ptr 0 0 0 0) .nil)) (.cons (.bcells 0 false 1 (.cons (.sl false false (.int .u8)) (.cons .bool .nil))) (.cons (.bts 0 false false false yA) .nil))))⟩]
def qk_o0 : List StSh := [⟨.exit 0, [7], (.cons (.msw 3 0) .nil), (.cons (.bcells 0 false 1 (.cons (.ptr 2 0 0 0) (.cons (.int .i64) (.cons .bool .nil)))) (.cons (.bcells 0 false 1 (.cons (.ptr 0 0 0 0) .nil)) (.cons (.bcells 0 false 1 (.cons (.sl false false (.int .u8)) (.cons .bool .nil))) (.cons (.bts 0 false false false yA) .nil))))⟩]
def qk_L0 (n : Nat) : LEntry := ⟨qk_h0, qk_o0, qk_W0 n⟩
def qk_res : List StSh := [⟨.ret, [0], (.cons (.sl false false yA) .nil), (.cons (.bcells 0 false 1 (.cons (.ptr 2 0 0 0) (.cons (.int .i64) (.cons .bool .nil)))) (.cons (.bcells 0 false 1 (.cons (.ptr 0 0 0 0) .nil)) (.cons (.bcells 0 false 1 (.cons (.sl false false (.int .u8)) (.cons .bool .nil))) .nil)))⟩]
def qk_tbl (n : Nat) : FuncId → List Entry := fun f => bif Nat.beq f 71 then [qn_E n] else bif Nat.beq f 58 then [qax_E n] else []
def qk_loops (n : Nat) : Nat → Option LEntry := fun f => bif Nat.beq f 0 then some (qk_L0 n) else none
theorem qk_r0 (n : Nat) (t10 : Int) (t11 : Int) (m0 : Int) (m0_1 : Bool) (m2 : DC) (m2_1 : Bool) (m3 : DH) : roundK (real _) tab (qk_tbl n) (qk_loops n) qk_an [some true, some true, some true] qk_l0 0 [0, 2, 7, 10, 11] qk_h0 qk_o0 ((t10, t11), ((m0, m0_1), ((m2, m2_1), m3))) some = qk_B0 n t10 t11 m0 m0_1 m2 m2_1 m3 := by kernel_rfl
theorem qk_f0 (n : Nat) : LoopFact tab (qk_tbl n) (qk_loops n) qk_an [some true, some true, some true] n 0 qk_l0 (qk_L0 n) := ⟨[0, 2, 7, 10, 11], (fun s => qk_B0 n s.1.1 s.1.2 s.2.1.1 s.2.1.2 s.2.2.1.1 s.2.2.1.2 s.2.2.2), by kernel_rfl, by kernel_rfl, fun s => rfl, fun s => qk_r0 n s.1.1 s.1.2 s.2.1.1 s.2.1.2 s.2.2.1.1 s.2.2.1.2 s.2.2.2⟩
theorem qk_run (n : Nat) (most_1 : Int) (m0 : Int) (m0_1 : Bool) (m2 : DC) (m2_1 : Bool) : funDS (real _) tab (qk_tbl n) (qk_loops n) qk_an Try.f57 3 qk_a qk_res (most_1, ((m0, m0_1), (m2, m2_1))) some = qk n most_1 m0 m0_1 m2 m2_1 := by kernel_rfl
def qk_E (n : Nat) : Entry := ⟨qk_a, qk_res, fun d => qk n d.1 d.2.1.1 d.2.1.2 d.2.2.1 d.2.2.2⟩
theorem qk_ok (n : Nat) : EOK Try.prog 57 (qk_E n) :=
 EOK.ofS zc zb ze (tbl := qk_tbl n) (loops := qk_loops n) (an := qk_an) (old := [some true, some true, some true]) (n := n) (c := qk_c) (fn := Try.f57) (TblOK.cons (AllE.cons (qn_ok n) AllE.nil) (TblOK.cons (AllE.cons (qax_ok n) AllE.nil) TblOK.nil)) (by kernel_rfl) (by kernel_rfl) (by kernel_rfl) (by kernel_rfl) (fun d => by kernel_rfl) (LT.cons (by kernel_rfl) (qk_f0 n) LT.nil) (fun a => qk_run n a.1 a.2.1.1 a.2.1.2 a.2.2.1 a.2.2.2)
def qx_an : Ann := {}
def qx_c : Code := (match Try.f54.body with | some c => c | none => .skip)
def qx_a : StSh := ⟨.normal, [0, 1, 2], (.cons (.int .i64) (.cons (.ptr 0 0 0 0) (.cons (.ptr 1 0 0 0) .nil))), (.cons (.bcells 0 false 1 (.cons (.sl false false yF) .nil)) (.cons (.bcells 0 false 1 (.cons (.sl false false yA) (.cons .nilS (.cons .nilS (.cons .nilS (.cons .nilS .nil)))))) .nil))⟩
def qx_res : List StSh := [⟨.ret, [0], (.cons (.ptr 2 0 0 0) .nil), (.cons (.bcells 0 false 1 (.cons (.sl false false yF) .nil)) (.cons (.bcells 0 false 1 (.cons (.sl false false yA) (.cons .nilS (.cons .nilS (.cons .nilS (.cons .nilS .nil)))))) (.cons (.bcells 0 false 1 (.cons (.ptr 3 0 0 0) (.cons (.int .i64) (.cons .bool .nil)))) (.cons (.bcells 0 false 1 (.cons (.sl false false (.int .u8)) (.cons .bool .nil))) .nil))))⟩]
def qx_tbl (n : Nat) : FuncId → List Entry := fun f => bif Nat.beq f 55 then [qbb_E n] else []
def qx_loops (n : Nat) : Nat → Option LEntry := fun f => none
theorem qx_run (n : Nat) (k_0 : Int) (m0 : DK) (m1 : DH) : funDS (real _) tab (qx_tbl n) (qx_loops n) qx_an Try.f54 2 qx_a qx_res (k_0, (m0, m1)) some = qx n k_0 m0 m1 := by kernel_rfl
def qx_E (n : Nat) : Entry := ⟨qx_a, qx_res, fun d => qx n d.1 d.2.1 d.2.2⟩
theorem qx_ok (n : Nat) : EOK Try.prog 54 (qx_E n) :=
 EOK.ofS zc zb ze (tbl := qx_tbl n) (loops := qx_loops n) (an := qx_an) (old := [some true, some true]) (n := n) (c := qx_c) (fn := Try.f54) (TblOK.cons (AllE.cons (qbb_ok n) AllE.nil) TblOK.nil) (by kernel_rfl) (by kernel_rfl) (by kernel_rfl) (by kernel_rfl) (fun d => by kernel_rfl) LT.nil (fun a => qx_run n a.1 a.2.1 a.2.2)
def qp_an : Ann := { live := [(0, [0, 2, 7, 10, 11])], boxed := [(1, 0), (5, 4)] }
def qp_c : Code := (match Try.f61.body with | some c => c | none => .skip)
def qp_l0 : Code := (match assoc 0 (loopsIn qp_c 0) with | some c => c | none => .skip)
def qp_a : StSh := ⟨.normal, [0, 1, 2], (.cons (.ptr 0 0 0 0) (.cons (.int .i64) (.cons (.fn 62 (.cons (.ptr 0 0 0 0) .nil) .nil) .nil))), (.cons (.bcells 0 false 1 (.cons (.ptr 1 0 0 0) (.cons (.int .i64) (.cons .bool .nil)))) (.cons (.bcells 0 false 1 (.cons (.sl false false (.int .u8)) (.cons .bool .nil))) .nil))⟩
def qa_an : Ann := {}
def qa_c : Code := (match Try.f62.body with | some c => c | none => .skip)
def qa_a : StSh := ⟨.normal, [0], (.cons (.ptr 0 0 0 0) .nil), (.cons (.bcells 0 false 1 (.cons (.ptr 1 0 0 0) (.cons (.int .i64) (.cons .bool .nil)))) (.cons (.bcells 0 false 1 (.cons (.sl false false (.int .u8)) (.cons .bool .nil))) .nil))⟩
def qg_an : Ann := { live := [(0, [0, 2, 7, 10, 11])], boxed := [(1, 0), (5, 4)] }
def qg_c : Code := (match Try.f107.body with | some c => c | none => .skip)
def qg_l0 : Code := (match assoc 0 (loopsIn qg_c 0) with | some c => c | none => .skip)
def qg_a : StSh := ⟨.normal, [0, 1, 2], (.cons (.ptr 0 0 0 0) (.cons (.int .i64) (.cons (.fn 108 (.cons (.ptr 0 0 0 0) .nil) .nil) .nil))), (.cons (.bcells 0 false 1 (.cons (.ptr 1 0 0 0) (.cons (.int .i64) (.cons .bool .nil)))) (.cons (.bcells 0 false 1 (.cons (.sl false false (.int .u8)) (.cons .bool .nil))) .nil))⟩
def ql_an : Ann := {}
def ql_c : Code := (match Try.f108.body with | some c => c | none => .skip)
def ql_a : StSh := ⟨.normal, [0], (.cons (.ptr 0 0 0 0) .nil), (.cons (.bcells 0 false 1 (.cons (.ptr 1 0 0 0) (.cons (.int .i64) (.cons .bool .nil)))) (.cons (.bcells 0 false 1 (.cons (.sl false false (.int .u8)) (.cons .bool .nil))) .nil))⟩
def qcq_an : Ann := { live := [(0, [0, 2, 4, 6, 20, 21])] }
def qcq_c : Code := (match Try.f118.body with | some c => c | none => .skip)
def qcq_l0 : Code := (match assoc 0 (loopsIn qcq_c 0) with | some c => c | none => .skip)
def qcq_a : StSh := ⟨.normal, [0], (.cons (.ptr 0 0 0 0) .nil), (.cons (.bcells 0 false 1 (.cons (.sl false false (.int .u8)) (.cons .bool .nil))) .nil)⟩
def qai_an : Ann := {}
def qai_c : Code := (match Try.f67.body with | some c => c | none => .skip)
def qai_a : StSh := ⟨.normal, [0, 1], (.cons (.ptr 0 0 0 0) (.cons (.int .i64) .nil)), (.cons (.bcells 0 false 1 (.cons (.sl false false (.int .u8)) (.cons .bool .nil))) .nil)⟩
def qaz_an : Ann := {}
def qaz_c : Code := (match Try.f109.body with | some c => c | none => .skip)
def qaz_a : StSh := ⟨.normal, [0], (.cons (.sl true false (.int .u8)) .nil), .nil⟩
def qaz_res : List StSh := [⟨.ret, [0], (.cons (.fn 119 .nil (.cons (.ptr 0 0 0 0) .nil)) .nil), (.cons (.bcells 0 false 1 (.cons (.sl true false (.int .u8)) .nil)) .nil)⟩]
def qaz_tbl (n : Nat) : FuncId → List Entry := fun f => []
def qaz_loops (n : Nat) : Nat → Option LEntry := fun f => none
theorem qaz_run (n : Nat) (s_0 : DC) : funDS (real _) tab (qaz_tbl n) (qaz_loops n) qaz_an Try.f109 0 qaz_a qaz_res s_0 some = qaz n s_0 := by kernel_rfl
def qaz_E (n : Nat) : Entry := ⟨qaz_a, qaz_res, fun d => qaz n d⟩
theorem qaz_ok (n : Nat) : EOK Try.prog 109 (qaz_E n) :=
 EOK.ofS zc zb ze (tbl := qaz_tbl n) (loops := qaz_loops n) (an := qaz_an) (old := []) (n := n) (c := qaz_c) (fn := Try.f109) TblOK.nil (by kernel_rfl) (by kernel_rfl) (by kernel_rfl) (by kernel_rfl) (fun d => by kernel_rfl) LT.nil (fun a => qaz_run n a)
def qai_res : List StSh := [⟨.ret, [0], (.cons (.int .u64) .nil), (.cons (.bcells 0 false 1 (.cons (.sl false false (.int .u8)) (.cons .bool .nil))) .nil)⟩]
def qai_tbl (n : Nat) : FuncId → List Entry := fun f => bif Nat.beq f 70 then [qay_E n] else bif Nat.beq f 109 then [qaz_E n] else []
def qai_E (n : Nat) : Entry := ⟨qai_a, qai_res, fun d => qai n d.1 d.2.1 d.2.2⟩
end
end Sx
