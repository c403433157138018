import Derived.Test.YtmfemlkbeehioaaProg
import Derived.Test.YtmfemlkbeehioaaLib32
import Derived.Test.YtmfemlkbeehioaaModRSh
import Derived.KernelRfl
open Go Go.Ab Go.Proofs
set_option linter.unusedVariables false
set_option maxRecDepth 20000
namespace Sx
noncomputable section
abbrev yA : Ty := (.sl true (.cons (.int .i64) (.int .i64)))
abbrev yB : Ty := (.cons (.sl true (.cons (.int .i64) (.int .i64))) (.cons (.int .i64) (.cons (.int .i64) (.cons (.sl true (.cons (.int .i64) (.int .i64))) (.sl true (.cons (.int .i64) (.cons (.int .i64) (.int .i64))))))))
abbrev yC : Ty := (.cons (.sl true (.cons (.int .i64) (.int .i64))) (.cons (.int .i64) (.int .i64)))
abbrev yD : Ty := (.cons (.int .i64) (.int .i64))
abbrev yE : Ty := (.cons (.int .i64) (.cons (.int .i64) (.int .i64)))
abbrev yF : Ty := (.sl false (.int .u8))
def ti2 : TI := ⟨.int .i64, 1, 8, false, some (.int .i64), false, [.int .i64 0]⟩
def ti3 : TI := ⟨.int .i64, 1, 8, false, some (.int .i64), false, [.int .i64 0]⟩
def ti4 : TI := ⟨.bool, 1, 1, false, some .bool, false, [.bool false]⟩
def ti5 : TI := ⟨.int .u8, 1, 1, false, some (.int .u8), false, [.int .u8 0]⟩
def ti6 : TI := ⟨.int .u8, 1, 1, false, some (.int .u8), false, [.int .u8 0]⟩
def ti7 : TI := ⟨.st [(0, 1, 2), (1, 1, 3), (2, 1, 4), (3, 1, 6)], 4, 24, true, some (.cons (.int .i64) (.cons (.int .i64) (.cons .bool (.int .u8)))), true, [.int .i64 0, .int .i64 0, .bool false, .int .u8 0]⟩
def ti8 : TI := ⟨.st [(0, 1, 2), (1, 1, 3), (2, 1, 4), (3, 1, 6)], 4, 24, true, some (.cons (.int .i64) (.cons (.int .i64) (.cons .bool (.int .u8)))), true, [.int .i64 0, .int .i64 0, .bool false, .int .u8 0]⟩
def ti9 : TI := ⟨.str, 1, 16, false, some .str, false, [.string (ByteArray.mk (List.toArray []))]⟩
def ti10 : TI := ⟨.str, 1, 16, false, some .str, false, [.string (ByteArray.mk (List.toArray []))]⟩
def ti11 : TI := ⟨.str, 1, 16, false, some .str, false, [.string (ByteArray.mk (List.toArray []))]⟩
def ti12 : TI := ⟨.int .u64, 1, 8, false, some (.int .u64), false, [.int .u64 0]⟩
def ti13 : TI := ⟨.st [(0, 1, 9), (1, 1, 12)], 2, 24, true, some (.cons .str (.int .u64)), false, [.string (ByteArray.mk (List.toArray [])), .int .u64 0]⟩
def ti14 : TI := ⟨.st [(0, 1, 9), (1, 1, 12)], 2, 24, true, some (.cons .str (.int .u64)), false, [.string (ByteArray.mk (List.toArray [])), .int .u64 0]⟩
def ti15 : TI := ⟨.ptr, 1, 8, false, none, false, [.pointer none]⟩
def ti16 : TI := ⟨.ptr, 1, 8, false, none, false, [.pointer none]⟩
def ti17 : TI := ⟨.ptr, 1, 8, false, none, false, [.pointer none]⟩
def ti18 : TI := ⟨.st [(0, 1, 17)], 1, 8, true, none, false, [.pointer none]⟩
def ti19 : TI := ⟨.st [(0, 1, 17)], 1, 8, true, none, false, [.pointer none]⟩
def ti21 : TI := ⟨.int .i32, 1, 4, false, some (.int .i32), false, [.int .i32 0]⟩
def ti22 : TI := ⟨.st [(0, 1, 3), (1, 1, 3)], 2, 16, true, some (.cons (.int .i64) (.int .i64)), true, [.int .i64 0, .int .i64 0]⟩
def ti23 : TI := ⟨.st [(0, 1, 3), (1, 1, 3)], 2, 16, true, some (.cons (.int .i64) (.int .i64)), true, [.int .i64 0, .int .i64 0]⟩
def ti24 : TI := ⟨.sl 23, 1, 24, false, some (.sl true (.cons (.int .i64) (.int .i64))), false, [.slice none 0 0]⟩
def ti25 : TI := ⟨.sl 40, 1, 24, false, some (.sl true (.cons (.int .i64) (.cons (.int .i64) (.int .i64)))), false, [.slice none 0 0]⟩
def ti26 : TI := ⟨.st [(0, 1, 24), (1, 2, 23), (3, 1, 24), (4, 1, 25)], 5, 88, true, some (.cons (.sl true (.cons (.int .i64) (.int .i64))) (.cons (.int .i64) (.cons (.int .i64) (.cons (.sl true (.cons (.int .i64) (.int .i64))) (.sl true (.cons (.int .i64) (.cons (.int .i64) (.int .i64)))))))), false, [.slice none 0 0, .int .i64 0, .int .i64 0, .slice none 0 0, .slice none 0 0]⟩
def ti27 : TI := ⟨.st [(0, 1, 24), (1, 2, 23), (3, 1, 24), (4, 1, 25)], 5, 88, true, some (.cons (.sl true (.cons (.int .i64) (.int .i64))) (.cons (.int .i64) (.cons (.int .i64) (.cons (.sl true (.cons (.int .i64) (.int .i64))) (.sl true (.cons (.int .i64) (.cons (.int .i64) (.int .i64)))))))), false, [.slice none 0 0, .int .i64 0, .int .i64 0, .slice none 0 0, .slice none 0 0]⟩
def ti28 : TI := ⟨.sl 27, 1, 24, false, some (.sl true (.cons (.sl true (.cons (.int .i64) (.int .i64))) (.cons (.int .i64) (.cons (.int .i64) (.cons (.sl true (.cons (.int .i64) (.int .i64))) (.sl true (.cons (.int .i64) (.cons (.int .i64) (.int .i64))))))))), false, [.slice none 0 0]⟩
def ti29 : TI := ⟨.sl 24, 1, 24, false, some (.sl false (.sl true (.cons (.int .i64) (.int .i64)))), false, [.slice none 0 0]⟩
def ti30 : TI := ⟨.sl 38, 1, 24, false, some (.sl true (.cons (.sl true (.cons (.int .i64) (.int .i64))) (.cons (.int .i64) (.int .i64)))), false, [.slice none 0 0]⟩
def ti31 : TI := ⟨.sl 36, 1, 24, false, some (.sl false (.int .u64)), false, [.slice none 0 0]⟩
def ti32 : TI := ⟨.sl 9, 1, 24, false, some (.sl false .str), false, [.slice none 0 0]⟩
def ti33 : TI := ⟨.st [(0, 1, 29), (1, 1, 28), (2, 1, 30), (3, 1, 31), (4, 1, 32)], 5, 120, true, some (.cons (.sl false (.sl true (.cons (.int .i64) (.int .i64)))) (.cons (.sl true (.cons (.sl true (.cons (.int .i64) (.int .i64))) (.cons (.int .i64) (.cons (.int .i64) (.cons (.sl true (.cons (.int .i64) (.int .i64))) (.sl true (.cons (.int .i64) (.cons (.int .i64) (.int .i64))))))))) (.cons (.sl true (.cons (.sl true (.cons (.int .i64) (.int .i64))) (.cons (.int .i64) (.int .i64)))) (.cons (.sl false (.int .u64)) (.sl false .str))))), false, [.slice none 0 0, .slice none 0 0, .slice none 0 0, .slice none 0 0, .slice none 0 0]⟩
def ti34 : TI := ⟨.st [(0, 1, 29), (1, 1, 28), (2, 1, 30), (3, 1, 31), (4, 1, 32)], 5, 120, true, some (.cons (.sl false (.sl true (.cons (.int .i64) (.int .i64)))) (.cons (.sl true (.cons (.sl true (.cons (.int .i64) (.int .i64))) (.cons (.int .i64) (.cons (.int .i64) (.cons (.sl true (.cons (.int .i64) (.int .i64))) (.sl true (.cons (.int .i64) (.cons (.int .i64) (.int .i64))))))))) (.cons (.sl true (.cons (.sl true (.cons (.int .i64) (.int .i64))) (.cons (.int .i64) (.int .i64)))) (.cons (.sl false (.int .u64)) (.sl false .str))))), false, [.slice none 0 0, .slice none 0 0, .slice none 0 0, .slice none 0 0, .slice none 0 0]⟩
def ti35 : TI := ⟨.sl 3, 1, 24, false, some (.sl false (.int .i64)), false, [.slice none 0 0]⟩
def ti36 : TI := ⟨.int .u64, 1, 8, false, some (.int .u64), false, [.int .u64 0]⟩
def ti37 : TI := ⟨.st [(0, 1, 24), (1, 2, 23)], 3, 40, true, some (.cons (.sl true (.cons (.int .i64) (.int .i64))) (.cons (.int .i64) (.int .i64))), false, [.slice none 0 0, .int .i64 0, .int .i64 0]⟩
def ti38 : TI := ⟨.st [(0, 1, 24), (1, 2, 23)], 3, 40, true, some (.cons (.sl true (.cons (.int .i64) (.int .i64))) (.cons (.int .i64) (.int .i64))), false, [.slice none 0 0, .int .i64 0, .int .i64 0]⟩
def ti39 : TI := ⟨.st [(0, 1, 3), (1, 1, 3), (2, 1, 3)], 3, 24, true, some (.cons (.int .i64) (.cons (.int .i64) (.int .i64))), true, [.int .i64 0, .int .i64 0, .int .i64 0]⟩
def ti40 : TI := ⟨.st [(0, 1, 3), (1, 1, 3), (2, 1, 3)], 3, 24, true, some (.cons (.int .i64) (.cons (.int .i64) (.int .i64))), true, [.int .i64 0, .int .i64 0, .int .i64 0]⟩
def ti41 : TI := ⟨.int .i64, 1, 8, false, some (.int .i64), false, [.int .i64 0]⟩
def ti49 : TI := ⟨.sl 5, 1, 24, false, some (.sl false (.int .u8)), false, [.slice none 0 0]⟩
def ti54 : TI := ⟨.int .u32, 1, 4, false, some (.int .u32), false, [.int .u32 0]⟩
def ti62 : TI := ⟨.int .u16, 1, 2, false, some (.int .u16), false, [.int .u16 0]⟩
def ti73 : TI := ⟨.sl 49, 1, 24, false, some (.sl false (.sl false (.int .u8))), false, [.slice none 0 0]⟩
def ti81 : TI := ⟨.ptr, 1, 8, false, none, false, [.pointer none]⟩
def ti82 : TI := ⟨.ptr, 1, 8, false, none, false, [.pointer none]⟩
def ti84 : TI := ⟨.st [(0, 1, 82), (1, 1, 3), (2, 1, 4)], 3, 24, true, none, false, [.pointer none, .int .i64 0, .bool false]⟩
def ti85 : TI := ⟨.st [(0, 1, 82), (1, 1, 3), (2, 1, 4)], 3, 24, true, none, false, [.pointer none, .int .i64 0, .bool false]⟩
def ti122 : TI := ⟨.ptr, 1, 8, false, none, false, [.pointer none]⟩
def ti123 : TI := ⟨.st [(0, 1, 49)], 1, 24, true, some (.sl false (.int .u8)), false, [.slice none 0 0]⟩
def ti124 : TI := ⟨.st [(0, 1, 49)], 1, 24, true, some (.sl false (.int .u8)), false, [.slice none 0 0]⟩
def ti127 : TI := ⟨.int .u64, 1, 8, false, some (.int .u64), false, [.int .u64 0]⟩
def ti131 : TI := ⟨.st [(0, 1, 49), (1, 1, 4)], 2, 32, true, some (.cons (.sl false (.int .u8)) .bool), false, [.slice none 0 0, .bool false]⟩
def ti132 : TI := ⟨.st [(0, 1, 49), (1, 1, 4)], 2, 32, true, some (.cons (.sl false (.int .u8)) .bool), false, [.slice none 0 0, .bool false]⟩
def ti145 : TI := ⟨.arr 2 3, 2, 16, true, none, false, [.int .i64 0, .int .i64 0]⟩
def ti149 : TI := ⟨.arr 2 36, 2, 16, true, none, false, [.int .u64 0, .int .u64 0]⟩
def ti150 : TI := ⟨.st [(0, 1, 17), (1, 1, 17), (2, 1, 17), (3, 1, 9)], 4, 40, true, none, false, [.pointer none, .pointer none, .pointer none, .string (ByteArray.mk (List.toArray []))]⟩
def ti151 : TI := ⟨.st [(0, 1, 17), (1, 1, 17), (2, 1, 17), (3, 1, 9)], 4, 40, true, none, false, [.pointer none, .pointer none, .pointer none, .string (ByteArray.mk (List.toArray []))]⟩
def ti152 : TI := ⟨.arr 0 16, 0, 0, true, none, false, []⟩
def ti153 : TI := ⟨.st [(0, 0, 152)], 0, 0, true, none, false, []⟩
def ti154 : TI := ⟨.st [(0, 0, 152)], 0, 0, true, none, false, []⟩
def ti155 : TI := ⟨.int .u8, 1, 1, false, some (.int .u8), false, [.int .u8 0]⟩
def ti156 : TI := ⟨.int .u8, 1, 1, false, some (.int .u8), false, [.int .u8 0]⟩
def ti158 : TI := ⟨.ptr, 1, 8, false, none, false, [.pointer none]⟩
def ti159 : TI := ⟨.int .i32, 1, 4, false, some (.int .i32), false, [.int .i32 0]⟩
def ti160 : TI := ⟨.int .i32, 1, 4, false, some (.int .i32), false, [.int .i32 0]⟩
def ti163 : TI := ⟨.other, 1, 8, false, none, false, [.pointer none]⟩
def tabL : List (Nat × TI) := [(2, ti2), (3, ti3), (4, ti4), (5, ti5), (6, ti6), (7, ti7), (8, ti8), (9, ti9), (10, ti10), (11, ti11), (12, ti12), (13, ti13), (14, ti14), (15, ti15), (16, ti16), (17, ti17), (18, ti18), (19, ti19), (21, ti21), (22, ti22), (23, ti23), (24, ti24), (25, ti25), (26, ti26), (27, ti27), (28, ti28), (29, ti29), (30, ti30), (31, ti31), (32, ti32), (33, ti33), (34, ti34), (35, ti35), (36, ti36), (37, ti37), (38, ti38), (39, ti39), (40, ti40), (41, ti41), (49, ti49), (54, ti54), (62, ti62), (73, ti73), (81, ti81), (82, ti82), (84, ti84), (85, ti85), (122, ti122), (123, ti123), (124, ti124), (127, ti127), (131, ti131), (132, ti132), (145, ti145), (149, ti149), (150, ti150), (151, ti151), (152, ti152), (153, ti153), (154, ti154), (155, ti155), (156, ti156), (158, ti158), (159, ti159), (160, ti160), (163, ti163)]
def tab : TypeId → Option TI := fun t => assoc t tabL
theorem tab_ok : TabOK Try.prog tab := (show TabOK Try.prog (fun t => assoc t tabL) from TabOK.of_list _ (by kernel_rfl))
theorem prog_names : namesOK Try.prog = true := by kernel_rfl
theorem prog_mixed : Try.prog.follows .mixedOrders = true := by kernel_rfl
def law06ModuleBack_c : Code := (match Try.f7.body with | some c => c | none => .skip)
def qbg_an : Ann := {}
def qbg_c : Code := (match Try.f19.body with | some c => c | none => .skip)
def qbg_a : StSh := ⟨.normal, [], .nil, .nil⟩
def qbf_an : Ann := {}
def qbf_c : Code := (match Try.f20.body with | some c => c | none => .skip)
def qbf_a : StSh := ⟨.normal, [0], (.cons (.agg (.cons (.sl true false yA) (.cons (.sl true true yB) (.cons (.sl true true yC) (.cons (.sl true false (.int .u64)) (.cons (.sl true false .str) .nil)))))) .nil), .nil⟩
def qbx_an : Ann := {}
def qbx_c : Code := (match Try.f39.body with | some c => c | none => .skip)
def qbx_a : StSh := ⟨.normal, [0], (.cons (.agg (.cons (.sl true false yA) (.cons (.sl true true yB) (.cons (.sl true true yC) (.cons (.sl true false (.int .u64)) (.cons (.sl true false .str) .nil)))))) .nil), .nil⟩
def qg_an : Ann := {}
def qg_c : Code := (match Try.f85.body with | some c => c | none => .skip)
def qg_a : StSh := ⟨.normal, [0, 1], (.cons (.sl true false yA) (.cons (.fn 86 .nil (.cons (.ptr 0 0 0 0) .nil)) .nil)), (.cons (.bcells 0 false 1 (.cons (.int .i64) .nil)) .nil)⟩
def qy_an : Ann := { live := [(0, [0, 1, 7, 8])] }
def qy_c : Code := (match Try.f111.body with | some c => c | none => .skip)
def qy_l0 : Code := (match assoc 0 (loopsIn qy_c 0) with | some c => c | none => .skip)
def qy_a : StSh := ⟨.normal, [0, 1], (.cons (.sl true false yA) (.cons (.fn 86 .nil (.cons (.ptr 0 0 0 0) .nil)) .nil)), (.cons (.bcells 0 false 1 (.cons (.int .i64) .nil)) .nil)⟩
def qbn_an : Ann := {}
def qbn_c : Code := (match Try.f86.body with | some c => c | none => .skip)
def qbn_a : StSh := ⟨.normal, [0, 1], (.cons (.sl true true yD) (.cons (.ptr 0 0 0 0) .nil)), (.cons (.bcells 0 false 1 (.cons (.int .i64) .nil)) .nil)⟩
def qbt_an : Ann := {}
def qbt_c : Code := (match Try.f87.body with | some c => c | none => .skip)
def qbt_a : StSh := ⟨.normal, [0, 1, 2], (.cons (.sl true true yD) (.cons (.int .i64) (.cons (.int .i64) .nil))), .nil⟩
def qt_an : Ann := {}
def qt_c : Code := (match Try.f31.body with | some c => c | none => .skip)
def qt_a : StSh := ⟨.normal, [0, 1], (.cons (.sl true true yD) (.cons (.fn 112 .nil (.cons (.ptr 0 0 0 0) .nil)) .nil)), (.cons (.bcells 0 false 1 (.cons (.int .i64) .nil)) .nil)⟩
def qan_an : Ann := { live := [(0, [0, 1, 7, 8])] }
def qan_c : Code := (match Try.f83.body with | some c => c | none => .skip)
def qan_l0 : Code := (match assoc 0 (loopsIn qan_c 0) with | some c => c | none => .skip)
def qan_a : StSh := ⟨.normal, [0, 1], (.cons (.sl true true yD) (.cons (.fn 112 .nil (.cons (.ptr 0 0 0 0) .nil)) .nil)), (.cons (.bcells 0 false 1 (.cons (.int .i64) .nil)) .nil)⟩
def qbj_an : Ann := {}
def qbj_c : Code := (match Try.f112.body with | some c => c | none => .skip)
def qbj_a : StSh := ⟨.normal, [0, 1], (.cons (.agg (.cons (.int .i64) (.cons (.int .i64) .nil))) (.cons (.ptr 0 0 0 0) .nil)), (.cons (.bcells 0 false 1 (.cons (.int .i64) .nil)) .nil)⟩
def qci_an : Ann := {}
def qci_c : Code := (match Try.f92.body with | some c => c | none => .skip)
def qci_a : StSh := ⟨.normal, [0, 1], (.cons (.agg (.cons (.int .i64) (.cons (.int .i64) .nil))) (.cons (.int .i64) .nil)), .nil⟩
def qci_res : List StSh := [⟨.ret, [0], (.cons .bool .nil), .nil⟩]
def qci_tbl (n : Nat) : FuncId → List Entry := fun f => []
def qci_loops (n : Nat) : Nat → Option LEntry := fun f => none
theorem qci_run (n : Nat) (t_0 : Int) (t_0_1 : Int) (recs_1 : Int) : funDS (real _) tab (qci_tbl n) (qci_loops n) qci_an Try.f92 0 qci_a qci_res ((t_0, t_0_1), recs_1) some = qci n t_0 t_0_1 recs_1 := by kernel_rfl
def qci_E (n : Nat) : Entry := ⟨qci_a, qci_res, fun d => qci n d.1.1 d.1.2 d.2⟩
theorem qci_ok (n : Nat) : EOK Try.prog 92 (qci_E n) :=
 EOK.ofS prog_names prog_mixed tab_ok (tbl := qci_tbl n) (loops := qci_loops n) (an := qci_an) (old := []) (n := n) (c := qci_c) (fn := Try.f92) TblOK.nil (by kernel_rfl) (by kernel_rfl) (by kernel_rfl) (by kernel_rfl) (fun d => by kernel_rfl) LT.nil (fun a => qci_run n a.1.1 a.1.2 a.2)
def qbj_res : List StSh := [⟨.ret, [0], (.cons .bool .nil), (.cons (.bcells 0 false 1 (.cons (.int .i64) .nil)) .nil)⟩]
def qbj_tbl (n : Nat) : FuncId → List Entry := fun f => bif Nat.beq f 92 then [qci_E n] else []
def qbj_loops (n : Nat) : Nat → Option LEntry := fun f => none
theorem qbj_run (n : Nat) (t_0 : Int) (t_0_1 : Int) (m0 : Int) : funDS (real _) tab (qbj_tbl n) (qbj_loops n) qbj_an Try.f112 1 qbj_a qbj_res ((t_0, t_0_1), m0) some = qbj n t_0 t_0_1 m0 := by kernel_rfl
def qbj_E (n : Nat) : Entry := ⟨qbj_a, qbj_res, fun d => qbj n d.1.1 d.1.2 d.2⟩
theorem qbj_ok (n : Nat) : EOK Try.prog 112 (qbj_E n) :=
 EOK.ofS prog_names prog_mixed tab_ok (tbl := qbj_tbl n) (loops := qbj_loops n) (an := qbj_an) (old := [some true]) (n := n) (c := qbj_c) (fn := Try.f112) (TblOK.cons (AllE.cons (qci_ok n) AllE.nil) TblOK.nil) (by kernel_rfl) (by kernel_rfl) (by kernel_rfl) (by kernel_rfl) (fun d => by kernel_rfl) LT.nil (fun a => qbj_run n a.1.1 a.1.2 a.2)
def qan_h0 : List StSh := [⟨.normal, [0, 1, 7, 8], (.cons (.sl true true yD) (.cons (.fn 112 .nil (.cons (.ptr 0 0 0 0) .nil)) (.cons (.int .i64) (.cons (.int .i64) .nil)))), (.cons (.bcells 0 false 1 (.cons (.int .i64) .nil)) .nil)⟩]
def qan_o0 : List StSh := [⟨.ret, [4], (.cons (.int .i64) .nil), (.cons (.bcells 0 false 1 (.cons (.int .i64) .nil)) .nil)⟩, ⟨.exit 0, [], .nil, (.cons (.bcells 0 false 1 (.cons (.int .i64) .nil)) .nil)⟩]
def qan_L0 (n : Nat) : LEntry := ⟨qan_h0, qan_o0, qan_W0 n⟩
def qan_res : List StSh := [⟨.ret, [0], (.cons (.int .i64) .nil), (.cons (.bcells 0 false 1 (.cons (.int .i64) .nil)) .nil)⟩]
def qan_tbl (n : Nat) : FuncId → List Entry := fun f => bif Nat.beq f 112 then [qbj_E n] else []
def qan_loops (n : Nat) : Nat → Option LEntry := fun f => bif Nat.beq f 0 then some (qan_L0 n) else none
theorem qan_r0 (n : Nat) (s_0 : DA) (t7 : Int) (t8 : Int) (m0 : Int) : roundK (real _) tab (qan_tbl n) (qan_loops n) qan_an [some true] qan_l0 0 [0, 1, 7, 8] qan_h0 qan_o0 ((s_0, (t7, t8)), m0) some = qan_B0 n s_0 t7 t8 m0 := by kernel_rfl
theorem qan_f0 (n : Nat) : LoopFact tab (qan_tbl n) (qan_loops n) qan_an [some true] n 0 qan_l0 (qan_L0 n) := ⟨[0, 1, 7, 8], (fun s => qan_B0 n s.1.1 s.1.2.1 s.1.2.2 s.2), by kernel_rfl, by kernel_rfl, fun s => rfl, fun s => qan_r0 n s.1.1 s.1.2.1 s.1.2.2 s.2⟩
theorem qan_run (n : Nat) (s_0 : DA) (m0 : Int) : funDS (real _) tab (qan_tbl n) (qan_loops n) qan_an Try.f83 1 qan_a qan_res (s_0, m0) some = qan n s_0 m0 := by kernel_rfl
def qan_E (n : Nat) : Entry := ⟨qan_a, qan_res, fun d => qan n d.1 d.2⟩
theorem qan_ok (n : Nat) : EOK Try.prog 83 (qan_E n) :=
 EOK.ofS prog_names prog_mixed tab_ok (tbl := qan_tbl n) (loops := qan_loops n) (an := qan_an) (old := [some true]) (n := n) (c := qan_c) (fn := Try.f83) (TblOK.cons (AllE.cons (qbj_ok n) AllE.nil) TblOK.nil) (by kernel_rfl) (by kernel_rfl) (by kernel_rfl) (by kernel_rfl) (fun d => by kernel_rfl) (LT.cons (by kernel_rfl) (qan_f0 n) LT.nil) (fun a => qan_run n a.1 a.2)
def qt_res : List StSh := [⟨.ret, [0], (.cons .bool .nil), (.cons (.bcells 0 false 1 (.cons (.int .i64) .nil)) .nil)⟩]
def qt_tbl (n : Nat) : FuncId → List Entry := fun f => bif Nat.beq f 83 then [qan_E n] else []
def qt_loops (n : Nat) : Nat → Option LEntry := fun f => none
theorem qt_run (n : Nat) (s_0 : DA) (m0 : Int) : funDS (real _) tab (qt_tbl n) (qt_loops n) qt_an Try.f31 1 qt_a qt_res (s_0, m0) some = qt n s_0 m0 := by kernel_rfl
def qt_E (n : Nat) : Entry := ⟨qt_a, qt_res, fun d => qt n d.1 d.2⟩
theorem qt_ok (n : Nat) : EOK Try.prog 31 (qt_E n) :=
 EOK.ofS prog_names prog_mixed tab_ok (tbl := qt_tbl n) (loops := qt_loops n) (an := qt_an) (old := [some true]) (n := n) (c := qt_c) (fn := Try.f31) (TblOK.cons (AllE.cons (qan_ok n) AllE.nil) TblOK.nil) (by kernel_rfl) (by kernel_rfl) (by kernel_rfl) (by kernel_rfl) (fun d => by kernel_rfl) LT.nil (fun a => qt_run n a.1 a.2)
def qbt_res : List StSh := [⟨.ret, [0], (.cons .bool .nil), .nil⟩]
def qbt_tbl (n : Nat) : FuncId → List Entry := fun f => bif Nat.beq f 31 then [qt_E n] else []
def qbt_loops (n : Nat) : Nat → Option LEntry := fun f => none
theorem qbt_run (n : Nat) (list_0 : DA) (recs_1 : Int) (most_2 : Int) : funDS (real _) tab (qbt_tbl n) (qbt_loops n) qbt_an Try.f87 0 qbt_a qbt_res (list_0, (recs_1, most_2)) some = qbt n list_0 recs_1 most_2 := by kernel_rfl
def qbt_E (n : Nat) : Entry := ⟨qbt_a, qbt_res, fun d => qbt n d.1 d.2.1 d.2.2⟩
theorem qbt_ok (n : Nat) : EOK Try.prog 87 (qbt_E n) :=
 EOK.ofS prog_names prog_mixed tab_ok (tbl := qbt_tbl n) (loops := qbt_loops n) (an := qbt_an) (old := []) (n := n) (c := qbt_c) (fn := Try.f87) (TblOK.cons (AllE.cons (qt_ok n) AllE.nil) TblOK.nil) (by kernel_rfl) (by kernel_rfl) (by kernel_rfl) (by kernel_rfl) (fun d => by kernel_rfl) LT.nil (fun a => qbt_run n a.1 a.2.1 a.2.2)
def qbn_res : List StSh := [⟨.ret, [0], (.cons .bool .nil), (.cons (.bcells 0 false 1 (.cons (.int .i64) .nil)) .nil)⟩]
def qbn_tbl (n : Nat) : FuncId → List Entry := fun f => bif Nat.beq f 87 then [qbt_E n] else []
def qbn_loops (n : Nat) : Nat → Option LEntry := fun f => none
theorem qbn_run (n : Nat) (l_0 : DA) (m0 : Int) : funDS (real _) tab (qbn_tbl n) (qbn_loops n) qbn_an Try.f86 1 qbn_a qbn_res (l_0, m0) some = qbn n l_0 m0 := by kernel_rfl
def qbn_E (n : Nat) : Entry := ⟨qbn_a, qbn_res, fun d => qbn n d.1 d.2⟩
theorem qbn_ok (n : Nat) : EOK Try.prog 86 (qbn_E n) :=
 EOK.ofS prog_names prog_mixed tab_ok (tbl := qbn_tbl n) (loops := qbn_loops n) (an := qbn_an) (old := [some true]) (n := n) (c := qbn_c) (fn := Try.f86) (TblOK.cons (AllE.cons (qbt_ok n) AllE.nil) TblOK.nil) (by kernel_rfl) (by kernel_rfl) (by kernel_rfl) (by kernel_rfl) (fun d => by kernel_rfl) LT.nil (fun a => qbn_run n a.1 a.2)
def qy_h0 : List StSh := [⟨.normal, [0, 1, 7, 8], (.cons (.sl true false yA) (.cons (.fn 86 .nil (.cons (.ptr 0 0 0 0) .nil)) (.cons (.int .i64) (.cons (.int .i64) .nil)))), (.cons (.bcells 0 false 1 (.cons (.int .i64) .nil)) .nil)⟩]
def qy_o0 : List StSh := [⟨.ret, [4], (.cons (.int .i64) .nil), (.cons (.bcells 0 false 1 (.cons (.int .i64) .nil)) .nil)⟩, ⟨.exit 0, [], .nil, (.cons (.bcells 0 false 1 (.cons (.int .i64) .nil)) .nil)⟩]
def qy_L0 (n : Nat) : LEntry := ⟨qy_h0, qy_o0, qy_W0 n⟩
def qy_res : List StSh := [⟨.ret, [0], (.cons (.int .i64) .nil), (.cons (.bcells 0 false 1 (.cons (.int .i64) .nil)) .nil)⟩]
def qy_tbl (n : Nat) : FuncId → List Entry := fun f => bif Nat.beq f 86 then [qbn_E n] else []
def qy_loops (n : Nat) : Nat → Option LEntry := fun f => bif Nat.beq f 0 then some (qy_L0 n) else none
theorem qy_r0 (n : Nat) (s_0 : DG) (t7 : Int) (t8 : Int) (m0 : Int) : roundK (real _) tab (qy_tbl n) (qy_loops n) qy_an [some true] qy_l0 0 [0, 1, 7, 8] qy_h0 qy_o0 ((s_0, (t7, t8)), m0) some = qy_B0 n s_0 t7 t8 m0 := by kernel_rfl
theorem qy_f0 (n : Nat) : LoopFact tab (qy_tbl n) (qy_loops n) qy_an [some true] n 0 qy_l0 (qy_L0 n) := ⟨[0, 1, 7, 8], (fun s => qy_B0 n s.1.1 s.1.2.1 s.1.2.2 s.2), by kernel_rfl, by kernel_rfl, fun s => rfl, fun s => qy_r0 n s.1.1 s.1.2.1 s.1.2.2 s.2⟩
theorem qy_run (n : Nat) (s_0 : DG) (m0 : Int) : funDS (real _) tab (qy_tbl n) (qy_loops n) qy_an Try.f111 1 qy_a qy_res (s_0, m0) some = qy n s_0 m0 := by kernel_rfl
def qy_E (n : Nat) : Entry := ⟨qy_a, qy_res, fun d => qy n d.1 d.2⟩
theorem qy_ok (n : Nat) : EOK Try.prog 111 (qy_E n) :=
 EOK.ofS prog_names prog_mixed tab_ok (tbl := qy_tbl n) (loops := qy_loops n) (an := qy_an) (old := [some true]) (n := n) (c := qy_c) (fn := Try.f111) (TblOK.cons (AllE.cons (qbn_ok n) AllE.nil) TblOK.nil) (by kernel_rfl) (by kernel_rfl) (by kernel_rfl) (by kernel_rfl) (fun d => by kernel_rfl) (LT.cons (by kernel_rfl) (qy_f0 n) LT.nil) (fun a => qy_run n a.1 a.2)
def qg_res : List StSh := [⟨.ret, [0], (.cons .bool .nil), (.cons (.bcells 0 false 1 (.cons (.int .i64) .nil)) .nil)⟩]
def qg_tbl (n : Nat) : FuncId → List Entry := fun f => bif Nat.beq f 111 then [qy_E n] else []
def qg_loops (n : Nat) : Nat → Option LEntry := fun f => none
theorem qg_run (n : Nat) (s_0 : DG) (m0 : Int) : funDS (real _) tab (qg_tbl n) (qg_loops n) qg_an Try.f85 1 qg_a qg_res (s_0, m0) some = qg n s_0 m0 := by kernel_rfl
def qg_E (n : Nat) : Entry := ⟨qg_a, qg_res, fun d => qg n d.1 d.2⟩
theorem qg_ok (n : Nat) : EOK Try.prog 85 (qg_E n) :=
 EOK.ofS prog_names prog_mixed tab_ok (tbl := qg_tbl n) (loops := qg_loops n) (an := qg_an) (old := [some true]) (n := n) (c := qg_c) (fn := Try.f85) (TblOK.cons (AllE.cons (qy_ok n) AllE.nil) TblOK.nil) (by kernel_rfl) (by kernel_rfl) (by kernel_rfl) (by kernel_rfl) (fun d => by kernel_rfl) LT.nil (fun a => qg_run n a.1 a.2)
def qs_an : Ann := {}
def qs_c : Code := (match Try.f88.body with | some c => c | none => .skip)
def qs_a : StSh := ⟨.normal, [0, 1], (.cons (.sl true true yB) (.cons (.fn 89 .nil (.cons (.ptr 0 0 0 0) .nil)) .nil)), (.cons (.bcells 0 false 1 (.cons (.int .i64) .nil)) .nil)⟩
def qaw_an : Ann := { live := [(0, [0, 1, 7, 8])] }
def qaw_c : Code := (match Try.f113.body with | some c => c | none => .skip)
def qaw_l0 : Code := (match assoc 0 (loopsIn qaw_c 0) with | some c => c | none => .skip)
def qaw_a : StSh := ⟨.normal, [0, 1], (.cons (.sl true true yB) (.cons (.fn 89 .nil (.cons (.ptr 0 0 0 0) .nil)) .nil)), (.cons (.bcells 0 false 1 (.cons (.int .i64) .nil)) .nil)⟩
def qbo_an : Ann := {}
def qbo_c : Code := (match Try.f89.body with | some c => c | none => .skip)
def qbo_a : StSh := ⟨.normal, [0, 1], (.cons (.agg (.cons (.sl true true yD) (.cons (.int .i64) (.cons (.int .i64) (.cons (.sl true true yD) (.cons (.sl true true yE) .nil)))))) (.cons (.ptr 0 0 0 0) .nil)), (.cons (.bcells 0 false 1 (.cons (.int .i64) .nil)) .nil)⟩
def qam_an : Ann := {}
def qam_c : Code := (match Try.f90.body with | some c => c | none => .skip)
def qam_a : StSh := ⟨.normal, [0, 1], (.cons (.agg (.cons (.sl true true yD) (.cons (.int .i64) (.cons (.int .i64) (.cons (.sl true true yD) (.cons (.sl true true yE) .nil)))))) (.cons (.int .i64) .nil)), .nil⟩
def qo_an : Ann := {}
def qo_c : Code := (match Try.f30.body with | some c => c | none => .skip)
def qo_a : StSh := ⟨.normal, [0, 1], (.cons (.sl true true yE) (.cons (.fn 114 .nil .nil) .nil)), .nil⟩
def qai_an : Ann := { live := [(0, [0, 1, 7, 8])] }
def qai_c : Code := (match Try.f82.body with | some c => c | none => .skip)
def qai_l0 : Code := (match assoc 0 (loopsIn qai_c 0) with | some c => c | none => .skip)
def qai_a : StSh := ⟨.normal, [0, 1], (.cons (.sl true true yE) (.cons (.fn 114 .nil .nil) .nil)), .nil⟩
def qah_an : Ann := {}
def qah_c : Code := (match Try.f114.body with | some c => c | none => .skip)
def qah_a : StSh := ⟨.normal, [0], (.cons (.agg (.cons (.int .i64) (.cons (.int .i64) (.cons (.int .i64) .nil)))) .nil), .nil⟩
def qcn_an : Ann := { live := [(0, [4, 39, 40, 41])], boxed := [(4, 3), (9, 4)] }
def qcn_c : Code := (match Try.f99.body with | some c => c | none => .skip)
def qcn_l0 : Code := (match assoc 0 (loopsIn qcn_c 0) with | some c => c | none => .skip)
def qcn_a : StSh := ⟨.normal, [0], (.cons (.agg (.cons (.int .i64) (.cons (.int .i64) (.cons (.int .i64) .nil)))) .nil), .nil⟩
def qcj_an : Ann := {}
def qcj_c : Code := (match Try.f116.body with | some c => c | none => .skip)
def qcj_a : StSh := ⟨.normal, [0], (.cons (.int .i64) .nil), .nil⟩
def qcj_res : List StSh := [⟨.ret, [0], (.cons (.int .i64) .nil), .nil⟩]
def qcj_tbl (n : Nat) : FuncId → List Entry := fun f => []
def qcj_loops (n : Nat) : Nat → Option LEntry := fun f => none
theorem qcj_run (n : Nat) (op_0 : Int) : funDS (real _) tab (qcj_tbl n) (qcj_loops n) qcj_an Try.f116 0 qcj_a qcj_res op_0 some = qcj n op_0 := by kernel_rfl
def qcj_E (n : Nat) : Entry := ⟨qcj_a, qcj_res, fun d => qcj n d⟩
theorem qcj_ok (n : Nat) : EOK Try.prog 116 (qcj_E n) :=
 EOK.ofS prog_names prog_mixed tab_ok (tbl := qcj_tbl n) (loops := qcj_loops n) (an := qcj_an) (old := []) (n := n) (c := qcj_c) (fn := Try.f116) TblOK.nil (by kernel_rfl) (by kernel_rfl) (by kernel_rfl) (by kernel_rfl) (fun d => by kernel_rfl) LT.nil (fun a => qcj_run n a)
def qco_an : Ann := {}
def qco_c : Code := (match Try.f117.body with | some c => c | none => .skip)
def qco_a : StSh := ⟨.normal, [0, 1], (.cons (.int .i64) (.cons .bool .nil)), .nil⟩
def qco_res : List StSh := [⟨.ret, [0], (.cons .bool .nil), .nil⟩]
def qco_tbl (n : Nat) : FuncId → List Entry := fun f => []
def qco_loops (n : Nat) : Nat → Option LEntry := fun f => none
theorem qco_run (n : Nat) (n_0 : Int) (has_1 : Bool) : funDS (real _) tab (qco_tbl n) (qco_loops n) qco_an Try.f117 0 qco_a qco_res (n_0, has_1) some = qco n n_0 has_1 := by kernel_rfl
def qco_E (n : Nat) : Entry := ⟨qco_a, qco_res, fun d => qco n d.1 d.2⟩
theorem qco_ok (n : Nat) : EOK Try.prog 117 (qco_E n) :=
 EOK.ofS prog_names prog_mixed tab_ok (tbl := qco_tbl n) (loops := qco_loops n) (an := qco_an) (old := []) (n := n) (c := qco_c) (fn := Try.f117) TblOK.nil (by kernel_rfl) (by kernel_rfl) (by kernel_rfl) (by kernel_rfl) (fun d => by kernel_rfl) LT.nil (fun a => qco_run n a.1 a.2)
def qcq_an : Ann := { live := [(0, [0, 3])], boxed := [(0, 0), (1, 0), (4, 5), (5, 4)] }
def qcq_c : Code := (match Try.f95.body with | some c => c | none => .skip)
def qcq_l0 : Code := (match assoc 0 (loopsIn qcq_c 0) with | some c => c | none => .skip)
def qcq_a : StSh := ⟨.normal, [0], (.cons (.int .u64) .nil), .nil⟩
def qcq_h0 : List StSh := [⟨.normal, [0, 3], (.cons (.int .u64) (.cons (.msw 0 0) .nil)), (.cons (.bts 0 false false false (.int .u8)) .nil)⟩]
def qcq_o0 : List StSh := [⟨.exit 0, [0, 3], (.cons (.int .u64) (.cons (.msw 0 0) .nil)), (.cons (.bts 0 false false false (.int .u8)) .nil)⟩]
def qcq_L0 (n : Nat) : LEntry := ⟨qcq_h0, qcq_o0, qcq_W0 n⟩
def qcq_res : List StSh := [⟨.ret, [0], (.cons (.msw 0 0) .nil), (.cons (.bts 0 false false false (.int .u8)) .nil)⟩]
def qcq_tbl (n : Nat) : FuncId → List Entry := fun f => []
def qcq_loops (n : Nat) : Nat → Option LEntry := fun f => bif Nat.beq f 0 then some (qcq_L0 n) else none
theorem qcq_r0 (n : Nat) (v_0 : Int) (m0 : DC) : roundK (real _) tab (qcq_tbl n) (qcq_loops n) qcq_an [] qcq_l0 0 [0, 3] qcq_h0 qcq_o0 (v_0, m0) some = qcq_B0 n v_0 m0 := by kernel_rfl
theorem qcq_f0 (n : Nat) : LoopFact tab (qcq_tbl n) (qcq_loops n) qcq_an [] n 0 qcq_l0 (qcq_L0 n) := ⟨[0, 3], (fun s => qcq_B0 n s.1 s.2), by kernel_rfl, by kernel_rfl, fun s => rfl, fun s => qcq_r0 n s.1 s.2⟩
theorem qcq_run (n : Nat) (v_0 : Int) : funD (real _) tab (qcq_tbl n) (qcq_loops n) qcq_an Try.f95 qcq_a qcq_res v_0 some = qcq n v_0 := by kernel_rfl
def qcq_E (n : Nat) : Entry := ⟨qcq_a, qcq_res, fun d => qcq n d⟩
theorem qcq_ok (n : Nat) : EOK Try.prog 95 (qcq_E n) :=
 EOK.of prog_names prog_mixed tab_ok (tbl := qcq_tbl n) (loops := qcq_loops n) (an := qcq_an) (old := []) (n := n) (c := qcq_c) (fn := Try.f95) TblOK.nil (by kernel_rfl) (by kernel_rfl) (by kernel_rfl) (by kernel_rfl) (fun d => by kernel_rfl) (LT.cons (by kernel_rfl) (qcq_f0 n) LT.nil) (fun a => qcq_run n a)
def qcn_h0 : List StSh := [⟨.normal, [4, 39, 40, 41], (.cons (.msw 0 0) (.cons (.ms 1 0) (.cons (.int .i64) (.cons (.int .i64) .nil)))), (.cons (.bts 0 false false false (.int .u8)) (.cons (.bcells 0 false 1 (.cons (.int .i64) (.cons (.int .i64) .nil))) .nil))⟩]
def qcn_o0 : List StSh := [⟨.exit 0, [4], (.cons (.msw 0 0) .nil), (.cons (.bts 0 false false false (.int .u8)) (.cons (.bcells 0 false 1 (.cons (.int .i64) (.cons (.int .i64) .nil))) .nil))⟩]
def qcn_L0 (n : Nat) : LEntry := ⟨qcn_h0, qcn_o0, qcn_W0 n⟩
def qcn_res : List StSh := [⟨.ret, [0], (.cons (.sl false false (.int .u8)) .nil), .nil⟩]
def qcn_tbl (n : Nat) : FuncId → List Entry := fun f => bif Nat.beq f 116 then [qcj_E n] else bif Nat.beq f 117 then [qco_E n] else bif Nat.beq f 95 then [qcq_E n] else []
def qcn_loops (n : Nat) : Nat → Option LEntry := fun f => bif Nat.beq f 0 then some (qcn_L0 n) else none
theorem qcn_r0 (n : Nat) (t39 : Nat × Nat) (t40 : Int) (t41 : Int) (m0 : DC) (m1 : Int) (m1_1 : Int) : roundK (real _) tab (qcn_tbl n) (qcn_loops n) qcn_an [] qcn_l0 0 [4, 39, 40, 41] qcn_h0 qcn_o0 ((t39, (t40, t41)), (m0, (m1, m1_1))) some = qcn_B0 n t39 t40 t41 m0 m1 m1_1 := by kernel_rfl
theorem qcn_f0 (n : Nat) : LoopFact tab (qcn_tbl n) (qcn_loops n) qcn_an [] n 0 qcn_l0 (qcn_L0 n) := ⟨[4, 39, 40, 41], (fun s => qcn_B0 n s.1.1 s.1.2.1 s.1.2.2 s.2.1 s.2.2.1 s.2.2.2), by kernel_rfl, by kernel_rfl, fun s => rfl, fun s => qcn_r0 n s.1.1 s.1.2.1 s.1.2.2 s.2.1 s.2.2.1 s.2.2.2⟩
theorem qcn_run (n : Nat) (i_0 : Int) (i_0_1 : Int) (i_0_2 : Int) : funDS (real _) tab (qcn_tbl n) (qcn_loops n) qcn_an Try.f99 0 qcn_a qcn_res (i_0, (i_0_1, i_0_2)) some = qcn n i_0 i_0_1 i_0_2 := by kernel_rfl
def qcn_E (n : Nat) : Entry := ⟨qcn_a, qcn_res, fun d => qcn n d.1 d.2.1 d.2.2⟩
theorem qcn_ok (n : Nat) : EOK Try.prog 99 (qcn_E n) :=
 EOK.ofS prog_names prog_mixed tab_ok (tbl := qcn_tbl n) (loops := qcn_loops n) (an := qcn_an) (old := []) (n := n) (c := qcn_c) (fn := Try.f99) (TblOK.cons (AllE.cons (qcj_ok n) AllE.nil) (TblOK.cons (AllE.cons (qco_ok n) AllE.nil) (TblOK.cons (AllE.cons (qcq_ok n) AllE.nil) TblOK.nil))) (by kernel_rfl) (by kernel_rfl) (by kernel_rfl) (by kernel_rfl) (fun d => by kernel_rfl) (LT.cons (by kernel_rfl) (qcn_f0 n) LT.nil) (fun a => qcn_run n a.1 a.2.1 a.2.2)
def qah_res : List StSh := [⟨.ret, [0], (.cons .bool .nil), .nil⟩]
def qah_tbl (n : Nat) : FuncId → List Entry := fun f => bif Nat.beq f 99 then [qcn_E n] else []
def qah_loops (n : Nat) : Nat → Option LEntry := fun f => none
theorem qah_run (n : Nat) (i_0 : Int) (i_0_1 : Int) (i_0_2 : Int) : funDS (real _) tab (qah_tbl n) (qah_loops n) qah_an Try.f114 0 qah_a qah_res (i_0, (i_0_1, i_0_2)) some = qah n i_0 i_0_1 i_0_2 := by kernel_rfl
def qah_E (n : Nat) : Entry := ⟨qah_a, qah_res, fun d => qah n d.1 d.2.1 d.2.2⟩
theorem qah_ok (n : Nat) : EOK Try.prog 114 (qah_E n) :=
 EOK.ofS prog_names prog_mixed tab_ok (tbl := qah_tbl n) (loops := qah_loops n) (an := qah_an) (old := []) (n := n) (c := qah_c) (fn := Try.f114) (TblOK.cons (AllE.cons (qcn_ok n) AllE.nil) TblOK.nil) (by kernel_rfl) (by kernel_rfl) (by kernel_rfl) (by kernel_rfl) (fun d => by kernel_rfl) LT.nil (fun a => qah_run n a.1 a.2.1 a.2.2)
def qai_h0 : List StSh := [⟨.normal, [0, 1, 7, 8], (.cons (.sl true true yE) (.cons (.fn 114 .nil .nil) (.cons (.int .i64) (.cons (.int .i64) .nil)))), .nil⟩]
def qai_o0 : List StSh := [⟨.ret, [4], (.cons (.int .i64) .nil), .nil⟩, ⟨.exit 0, [], .nil, .nil⟩]
def qai_L0 (n : Nat) : LEntry := ⟨qai_h0, qai_o0, qai_W0 n⟩
def qai_res : List StSh := [⟨.ret, [0], (.cons (.int .i64) .nil), .nil⟩]
def qai_tbl (n : Nat) : FuncId → List Entry := fun f => bif Nat.beq f 114 then [qah_E n] else []
def qai_loops (n : Nat) : Nat → Option LEntry := fun f => bif Nat.beq f 0 then some (qai_L0 n) else none
theorem qai_r0 (n : Nat) (s_0 : DB) (t7 : Int) (t8 : Int) : roundK (real _) tab (qai_tbl n) (qai_loops n) qai_an [] qai_l0 0 [0, 1, 7, 8] qai_h0 qai_o0 (s_0, (t7, t8)) some = qai_B0 n s_0 t7 t8 := by kernel_rfl
theorem qai_f0 (n : Nat) : LoopFact tab (qai_tbl n) (qai_loops n) qai_an [] n 0 qai_l0 (qai_L0 n) := ⟨[0, 1, 7, 8], (fun s => qai_B0 n s.1 s.2.1 s.2.2), by kernel_rfl, by kernel_rfl, fun s => rfl, fun s => qai_r0 n s.1 s.2.1 s.2.2⟩
theorem qai_run (n : Nat) (s_0 : DB) : funDS (real _) tab (qai_tbl n) (qai_loops n) qai_an Try.f82 0 qai_a qai_res s_0 some = qai n s_0 := by kernel_rfl
def qai_E (n : Nat) : Entry := ⟨qai_a, qai_res, fun d => qai n d⟩
theorem qai_ok (n : Nat) : EOK Try.prog 82 (qai_E n) :=
 EOK.ofS prog_names prog_mixed tab_ok (tbl := qai_tbl n) (loops := qai_loops n) (an := qai_an) (old := []) (n := n) (c := qai_c) (fn := Try.f82) (TblOK.cons (AllE.cons (qah_ok n) AllE.nil) TblOK.nil) (by kernel_rfl) (by kernel_rfl) (by kernel_rfl) (by kernel_rfl) (fun d => by kernel_rfl) (LT.cons (by kernel_rfl) (qai_f0 n) LT.nil) (fun a => qai_run n a)
def qo_res : List StSh := [⟨.ret, [0], (.cons .bool .nil), .nil⟩]
def qo_tbl (n : Nat) : FuncId → List Entry := fun f => bif Nat.beq f 82 then [qai_E n] else []
def qo_loops (n : Nat) : Nat → Option LEntry := fun f => none
theorem qo_run (n : Nat) (s_0 : DB) : funDS (real _) tab (qo_tbl n) (qo_loops n) qo_an Try.f30 0 qo_a qo_res s_0 some = qo n s_0 := by kernel_rfl
def qo_E (n : Nat) : Entry := ⟨qo_a, qo_res, fun d => qo n d⟩
theorem qo_ok (n : Nat) : EOK Try.prog 30 (qo_E n) :=
 EOK.ofS prog_names prog_mixed tab_ok (tbl := qo_tbl n) (loops := qo_loops n) (an := qo_an) (old := []) (n := n) (c := qo_c) (fn := Try.f30) (TblOK.cons (AllE.cons (qai_ok n) AllE.nil) TblOK.nil) (by kernel_rfl) (by kernel_rfl) (by kernel_rfl) (by kernel_rfl) (fun d => by kernel_rfl) LT.nil (fun a => qo_run n a)
def qam_res : List StSh := [⟨.ret, [0], (.cons .bool .nil), .nil⟩]
def qam_tbl (n : Nat) : FuncId → List Entry := fun f => bif Nat.beq f 87 then [qbt_E n] else bif Nat.beq f 92 then [qci_E n] else bif Nat.beq f 30 then [qo_E n] else []
def qam_loops (n : Nat) : Nat → Option LEntry := fun f => none
theorem qam_run (n : Nat) (f_0 : DA) (f_0_1 : Int) (f_0_2 : Int) (f_0_3 : DA) (f_0_4 : DB) (recs_1 : Int) : funDS (real _) tab (qam_tbl n) (qam_loops n) qam_an Try.f90 0 qam_a qam_res ((f_0, (f_0_1, (f_0_2, (f_0_3, f_0_4)))), recs_1) some = qam n f_0 f_0_1 f_0_2 f_0_3 f_0_4 recs_1 := by kernel_rfl
def qam_E (n : Nat) : Entry := ⟨qam_a, qam_res, fun d => qam n d.1.1 d.1.2.1 d.1.2.2.1 d.1.2.2.2.1 d.1.2.2.2.2 d.2⟩
theorem qam_ok (n : Nat) : EOK Try.prog 90 (qam_E n) :=
 EOK.ofS prog_names prog_mixed tab_ok (tbl := qam_tbl n) (loops := qam_loops n) (an := qam_an) (old := []) (n := n) (c := qam_c) (fn := Try.f90) (TblOK.cons (AllE.cons (qbt_ok n) AllE.nil) (TblOK.cons (AllE.cons (qci_ok n) AllE.nil) (TblOK.cons (AllE.cons (qo_ok n) AllE.nil) TblOK.nil))) (by kernel_rfl) (by kernel_rfl) (by kernel_rfl) (by kernel_rfl) (fun d => by kernel_rfl) LT.nil (fun a => qam_run n a.1.1 a.1.2.1 a.1.2.2.1 a.1.2.2.2.1 a.1.2.2.2.2 a.2)
def qbo_res : List StSh := [⟨.ret, [0], (.cons .bool .nil), (.cons (.bcells 0 false 1 (.cons (.int .i64) .nil)) .nil)⟩]
def qbo_tbl (n : Nat) : FuncId → List Entry := fun f => bif Nat.beq f 90 then [qam_E n] else []
def qbo_loops (n : Nat) : Nat → Option LEntry := fun f => none
theorem qbo_run (n : Nat) (f_0 : DA) (f_0_1 : Int) (f_0_2 : Int) (f_0_3 : DA) (f_0_4 : DB) (m0 : Int) : funDS (real _) tab (qbo_tbl n) (qbo_loops n) qbo_an Try.f89 1 qbo_a qbo_res ((f_0, (f_0_1, (f_0_2, (f_0_3, f_0_4)))), m0) some = qbo n f_0 f_0_1 f_0_2 f_0_3 f_0_4 m0 := by kernel_rfl
def qbo_E (n : Nat) : Entry := ⟨qbo_a, qbo_res, fun d => qbo n d.1.1 d.1.2.1 d.1.2.2.1 d.1.2.2.2.1 d.1.2.2.2.2 d.2⟩
theorem qbo_ok (n : Nat) : EOK Try.prog 89 (qbo_E n) :=
 EOK.ofS prog_names prog_mixed tab_ok (tbl := qbo_tbl n) (loops := qbo_loops n) (an := qbo_an) (old := [some true]) (n := n) (c := qbo_c) (fn := Try.f89) (TblOK.cons (AllE.cons (qam_ok n) AllE.nil) TblOK.nil) (by kernel_rfl) (by kernel_rfl) (by kernel_rfl) (by kernel_rfl) (fun d => by kernel_rfl) LT.nil (fun a => qbo_run n a.1.1 a.1.2.1 a.1.2.2.1 a.1.2.2.2.1 a.1.2.2.2.2 a.2)
def qaw_h0 : List StSh := [⟨.normal, [0, 1, 7, 8], (.cons (.sl true true yB) (.cons (.fn 89 .nil (.cons (.ptr 0 0 0 0) .nil)) (.cons (.int .i64) (.cons (.int .i64) .nil)))), (.cons (.bcells 0 false 1 (.cons (.int .i64) .nil)) .nil)⟩]
def qaw_o0 : List StSh := [⟨.ret, [4], (.cons (.int .i64) .nil), (.cons (.bcells 0 false 1 (.cons (.int .i64) .nil)) .nil)⟩, ⟨.exit 0, [], .nil, (.cons (.bcells 0 false 1 (.cons (.int .i64) .nil)) .nil)⟩]
def qaw_L0 (n : Nat) : LEntry := ⟨qaw_h0, qaw_o0, qaw_W0 n⟩
def qaw_res : List StSh := [⟨.ret, [0], (.cons (.int .i64) .nil), (.cons (.bcells 0 false 1 (.cons (.int .i64) .nil)) .nil)⟩]
def qaw_tbl (n : Nat) : FuncId → List Entry := fun f => bif Nat.beq f 89 then [qbo_E n] else []
def qaw_loops (n : Nat) : Nat → Option LEntry := fun f => bif Nat.beq f 0 then some (qaw_L0 n) else none
theorem qaw_r0 (n : Nat) (s_0 : DH) (t7 : Int) (t8 : Int) (m0 : Int) : roundK (real _) tab (qaw_tbl n) (qaw_loops n) qaw_an [some true] qaw_l0 0 [0, 1, 7, 8] qaw_h0 qaw_o0 ((s_0, (t7, t8)), m0) some = qaw_B0 n s_0 t7 t8 m0 := by kernel_rfl
theorem qaw_f0 (n : Nat) : LoopFact tab (qaw_tbl n) (qaw_loops n) qaw_an [some true] n 0 qaw_l0 (qaw_L0 n) := ⟨[0, 1, 7, 8], (fun s => qaw_B0 n s.1.1 s.1.2.1 s.1.2.2 s.2), by kernel_rfl, by kernel_rfl, fun s => rfl, fun s => qaw_r0 n s.1.1 s.1.2.1 s.1.2.2 s.2⟩
theorem qaw_run (n : Nat) (s_0 : DH) (m0 : Int) : funDS (real _) tab (qaw_tbl n) (qaw_loops n) qaw_an Try.f113 1 qaw_a qaw_res (s_0, m0) some = qaw n s_0 m0 := by kernel_rfl
def qaw_E (n : Nat) : Entry := ⟨qaw_a, qaw_res, fun d => qaw n d.1 d.2⟩
theorem qaw_ok (n : Nat) : EOK Try.prog 113 (qaw_E n) :=
 EOK.ofS prog_names prog_mixed tab_ok (tbl := qaw_tbl n) (loops := qaw_loops n) (an := qaw_an) (old := [some true]) (n := n) (c := qaw_c) (fn := Try.f113) (TblOK.cons (AllE.cons (qbo_ok n) AllE.nil) TblOK.nil) (by kernel_rfl) (by kernel_rfl) (by kernel_rfl) (by kernel_rfl) (fun d => by kernel_rfl) (LT.cons (by kernel_rfl) (qaw_f0 n) LT.nil) (fun a => qaw_run n a.1 a.2)
def qs_res : List StSh := [⟨.ret, [0], (.cons .bool .nil), (.cons (.bcells 0 false 1 (.cons (.int .i64) .nil)) .nil)⟩]
def qs_tbl (n : Nat) : FuncId → List Entry := fun f => bif Nat.beq f 113 then [qaw_E n] else []
def qs_loops (n : Nat) : Nat → Option LEntry := fun f => none
theorem qs_run (n : Nat) (s_0 : DH) (m0 : Int) : funDS (real _) tab (qs_tbl n) (qs_loops n) qs_an Try.f88 1 qs_a qs_res (s_0, m0) some = qs n s_0 m0 := by kernel_rfl
def qs_E (n : Nat) : Entry := ⟨qs_a, qs_res, fun d => qs n d.1 d.2⟩
theorem qs_ok (n : Nat) : EOK Try.prog 88 (qs_E n) :=
 EOK.ofS prog_names prog_mixed tab_ok (tbl := qs_tbl n) (loops := qs_loops n) (an := qs_an) (old := [some true]) (n := n) (c := qs_c) (fn := Try.f88) (TblOK.cons (AllE.cons (qaw_ok n) AllE.nil) TblOK.nil) (by kernel_rfl) (by kernel_rfl) (by kernel_rfl) (by kernel_rfl) (fun d => by kernel_rfl) LT.nil (fun a => qs_run n a.1 a.2)
def qe_an : Ann := {}
def qe_c : Code := (match Try.f36.body with | some c => c | none => .skip)
def qe_a : StSh := ⟨.normal, [0, 1], (.cons (.sl true true yC) (.cons (.fn 91 .nil (.cons (.ptr 0 0 0 0) .nil)) .nil)), (.cons (.bcells 0 false 1 (.cons (.int .i64) .nil)) .nil)⟩
def qaa_an : Ann := { live := [(0, [0, 1, 7, 8])] }
def qaa_c : Code := (match Try.f84.body with | some c => c | none => .skip)
def qaa_l0 : Code := (match assoc 0 (loopsIn qaa_c 0) with | some c => c | none => .skip)
def qaa_a : StSh := ⟨.normal, [0, 1], (.cons (.sl true true yC) (.cons (.fn 91 .nil (.cons (.ptr 0 0 0 0) .nil)) .nil)), (.cons (.bcells 0 false 1 (.cons (.int .i64) .nil)) .nil)⟩
def qbi_an : Ann := {}
def qbi_c : Code := (match Try.f91.body with | some c => c | none => .skip)
def qbi_a : StSh := ⟨.normal, [0, 1], (.cons (.agg (.cons (.sl true true yD) (.cons (.int .i64) (.cons (.int .i64) .nil)))) (.cons (.ptr 0 0 0 0) .nil)), (.cons (.bcells 0 false 1 (.cons (.int .i64) .nil)) .nil)⟩
def qbi_res : List StSh := [⟨.ret, [0], (.cons .bool .nil), (.cons (.bcells 0 false 1 (.cons (.int .i64) .nil)) .nil)⟩]
def qbi_tbl (n : Nat) : FuncId → List Entry := fun f => bif Nat.beq f 87 then [qbt_E n] else bif Nat.beq f 92 then [qci_E n] else []
def qbi_loops (n : Nat) : Nat → Option LEntry := fun f => none
theorem qbi_run (n : Nat) (i_0 : DA) (i_0_1 : Int) (i_0_2 : Int) (m0 : Int) : funDS (real _) tab (qbi_tbl n) (qbi_loops n) qbi_an Try.f91 1 qbi_a qbi_res ((i_0, (i_0_1, i_0_2)), m0) some = qbi n i_0 i_0_1 i_0_2 m0 := by kernel_rfl
def qbi_E (n : Nat) : Entry := ⟨qbi_a, qbi_res, fun d => qbi n d.1.1 d.1.2.1 d.1.2.2 d.2⟩
theorem qbi_ok (n : Nat) : EOK Try.prog 91 (qbi_E n) :=
 EOK.ofS prog_names prog_mixed tab_ok (tbl := qbi_tbl n) (loops := qbi_loops n) (an := qbi_an) (old := [some true]) (n := n) (c := qbi_c) (fn := Try.f91) (TblOK.cons (AllE.cons (qbt_ok n) AllE.nil) (TblOK.cons (AllE.cons (qci_ok n) AllE.nil) TblOK.nil)) (by kernel_rfl) (by kernel_rfl) (by kernel_rfl) (by kernel_rfl) (fun d => by kernel_rfl) LT.nil (fun a => qbi_run n a.1.1 a.1.2.1 a.1.2.2 a.2)
def qaa_h0 : List StSh := [⟨.normal, [0, 1, 7, 8], (.cons (.sl true true yC) (.cons (.fn 91 .nil (.cons (.ptr 0 0 0 0) .nil)) (.cons (.int .i64) (.cons (.int .i64) .nil)))), (.cons (.bcells 0 false 1 (.cons (.int .i64) .nil)) .nil)⟩]
def qaa_o0 : List StSh := [⟨.ret, [4], (.cons (.int .i64) .nil), (.cons (.bcells 0 false 1 (.cons (.int .i64) .nil)) .nil)⟩, ⟨.exit 0, [], .nil, (.cons (.bcells 0 false 1 (.cons (.int .i64) .nil)) .nil)⟩]
def qaa_L0 (n : Nat) : LEntry := ⟨qaa_h0, qaa_o0, qaa_W0 n⟩
def qaa_res : List StSh := [⟨.ret, [0], (.cons (.int .i64) .nil), (.cons (.bcells 0 false 1 (.cons (.int .i64) .nil)) .nil)⟩]
def qaa_tbl (n : Nat) : FuncId → List Entry := fun f => bif Nat.beq f 91 then [qbi_E n] else []
def qaa_loops (n : Nat) : Nat → Option LEntry := fun f => bif Nat.beq f 0 then some (qaa_L0 n) else none
theorem qaa_r0 (n : Nat) (s_0 : DI) (t7 : Int) (t8 : Int) (m0 : Int) : roundK (real _) tab (qaa_tbl n) (qaa_loops n) qaa_an [some true] qaa_l0 0 [0, 1, 7, 8] qaa_h0 qaa_o0 ((s_0, (t7, t8)), m0) some = qaa_B0 n s_0 t7 t8 m0 := by kernel_rfl
theorem qaa_f0 (n : Nat) : LoopFact tab (qaa_tbl n) (qaa_loops n) qaa_an [some true] n 0 qaa_l0 (qaa_L0 n) := ⟨[0, 1, 7, 8], (fun s => qaa_B0 n s.1.1 s.1.2.1 s.1.2.2 s.2), by kernel_rfl, by kernel_rfl, fun s => rfl, fun s => qaa_r0 n s.1.1 s.1.2.1 s.1.2.2 s.2⟩
theorem qaa_run (n : Nat) (s_0 : DI) (m0 : Int) : funDS (real _) tab (qaa_tbl n) (qaa_loops n) qaa_an Try.f84 1 qaa_a qaa_res (s_0, m0) some = qaa n s_0 m0 := by kernel_rfl
def qaa_E (n : Nat) : Entry := ⟨qaa_a, qaa_res, fun d => qaa n d.1 d.2⟩
theorem qaa_ok (n : Nat) : EOK Try.prog 84 (qaa_E n) :=
 EOK.ofS prog_names prog_mixed tab_ok (tbl := qaa_tbl n) (loops := qaa_loops n) (an := qaa_an) (old := [some true]) (n := n) (c := qaa_c) (fn := Try.f84) (TblOK.cons (AllE.cons (qbi_ok n) AllE.nil) TblOK.nil) (by kernel_rfl) (by kernel_rfl) (by kernel_rfl) (by kernel_rfl) (fun d => by kernel_rfl) (LT.cons (by kernel_rfl) (qaa_f0 n) LT.nil) (fun a => qaa_run n a.1 a.2)
def qe_res : List StSh := [⟨.ret, [0], (.cons .bool .nil), (.cons (.bcells 0 false 1 (.cons (.int .i64) .nil)) .nil)⟩]
def qe_tbl (n : Nat) : FuncId → List Entry := fun f => bif Nat.beq f 84 then [qaa_E n] else []
def qe_loops (n : Nat) : Nat → Option LEntry := fun f => none
theorem qe_run (n : Nat) (s_0 : DI) (m0 : Int) : funDS (real _) tab (qe_tbl n) (qe_loops n) qe_an Try.f36 1 qe_a qe_res (s_0, m0) some = qe n s_0 m0 := by kernel_rfl
def qe_E (n : Nat) : Entry := ⟨qe_a, qe_res, fun d => qe n d.1 d.2⟩
theorem qe_ok (n : Nat) : EOK Try.prog 36 (qe_E n) :=
 EOK.ofS prog_names prog_mixed tab_ok (tbl := qe_tbl n) (loops := qe_loops n) (an := qe_an) (old := [some true]) (n := n) (c := qe_c) (fn := Try.f36) (TblOK.cons (AllE.cons (qaa_ok n) AllE.nil) TblOK.nil) (by kernel_rfl) (by kernel_rfl) (by kernel_rfl) (by kernel_rfl) (fun d => by kernel_rfl) LT.nil (fun a => qe_run n a.1 a.2)
def qh_an : Ann := {}
def qh_c : Code := (match Try.f93.body with | some c => c | none => .skip)
def qh_a : StSh := ⟨.normal, [0, 1], (.cons (.sl true false .str) (.cons (.fn 94 .nil .nil) .nil)), .nil⟩
def qaf_an : Ann := { live := [(0, [0, 1, 7, 8])] }
def qaf_c : Code := (match Try.f115.body with | some c => c | none => .skip)
def qaf_l0 : Code := (match assoc 0 (loopsIn qaf_c 0) with | some c => c | none => .skip)
def qaf_a : StSh := ⟨.normal, [0, 1], (.cons (.sl true false .str) (.cons (.fn 94 .nil .nil) .nil)), .nil⟩
def qbk_an : Ann := {}
def qbk_c : Code := (match Try.f94.body with | some c => c | none => .skip)
def qbk_a : StSh := ⟨.normal, [0], (.cons .str .nil), .nil⟩
def qbk_res : List StSh := [⟨.ret, [0], (.cons .bool .nil), .nil⟩]
def qbk_tbl (n : Nat) : FuncId → List Entry := fun f => []
def qbk_loops (n : Nat) : Nat → Option LEntry := fun f => none
theorem qbk_run (n : Nat) (s_0 : ByteArray) : funDS (real _) tab (qbk_tbl n) (qbk_loops n) qbk_an Try.f94 0 qbk_a qbk_res s_0 some = qbk n s_0 := by kernel_rfl
def qbk_E (n : Nat) : Entry := ⟨qbk_a, qbk_res, fun d => qbk n d⟩
theorem qbk_ok (n : Nat) : EOK Try.prog 94 (qbk_E n) :=
 EOK.ofS prog_names prog_mixed tab_ok (tbl := qbk_tbl n) (loops := qbk_loops n) (an := qbk_an) (old := []) (n := n) (c := qbk_c) (fn := Try.f94) TblOK.nil (by kernel_rfl) (by kernel_rfl) (by kernel_rfl) (by kernel_rfl) (fun d => by kernel_rfl) LT.nil (fun a => qbk_run n a)
def qaf_h0 : List StSh := [⟨.normal, [0, 1, 7, 8], (.cons (.sl true false .str) (.cons (.fn 94 .nil .nil) (.cons (.int .i64) (.cons (.int .i64) .nil)))), .nil⟩]
def qaf_o0 : List StSh := [⟨.ret, [4], (.cons (.int .i64) .nil), .nil⟩, ⟨.exit 0, [], .nil, .nil⟩]
def qaf_L0 (n : Nat) : LEntry := ⟨qaf_h0, qaf_o0, qaf_W0 n⟩
def qaf_res : List StSh := [⟨.ret, [0], (.cons (.int .i64) .nil), .nil⟩]
def qaf_tbl (n : Nat) : FuncId → List Entry := fun f => bif Nat.beq f 94 then [qbk_E n] else []
def qaf_loops (n : Nat) : Nat → Option LEntry := fun f => bif Nat.beq f 0 then some (qaf_L0 n) else none
theorem qaf_r0 (n : Nat) (s_0 : DD) (t7 : Int) (t8 : Int) : roundK (real _) tab (qaf_tbl n) (qaf_loops n) qaf_an [] qaf_l0 0 [0, 1, 7, 8] qaf_h0 qaf_o0 (s_0, (t7, t8)) some = qaf_B0 n s_0 t7 t8 := by kernel_rfl
theorem qaf_f0 (n : Nat) : LoopFact tab (qaf_tbl n) (qaf_loops n) qaf_an [] n 0 qaf_l0 (qaf_L0 n) := ⟨[0, 1, 7, 8], (fun s => qaf_B0 n s.1 s.2.1 s.2.2), by kernel_rfl, by kernel_rfl, fun s => rfl, fun s => qaf_r0 n s.1 s.2.1 s.2.2⟩
theorem qaf_run (n : Nat) (s_0 : DD) : funDS (real _) tab (qaf_tbl n) (qaf_loops n) qaf_an Try.f115 0 qaf_a qaf_res s_0 some = qaf n s_0 := by kernel_rfl
def qaf_E (n : Nat) : Entry := ⟨qaf_a, qaf_res, fun d => qaf n d⟩
theorem qaf_ok (n : Nat) : EOK Try.prog 115 (qaf_E n) :=
 EOK.ofS prog_names prog_mixed tab_ok (tbl := qaf_tbl n) (loops := qaf_loops n) (an := qaf_an) (old := []) (n := n) (c := qaf_c) (fn := Try.f115) (TblOK.cons (AllE.cons (qbk_ok n) AllE.nil) TblOK.nil) (by kernel_rfl) (by kernel_rfl) (by kernel_rfl) (by kernel_rfl) (fun d => by kernel_rfl) (LT.cons (by kernel_rfl) (qaf_f0 n) LT.nil) (fun a => qaf_run n a)
def qh_res : List StSh := [⟨.ret, [0], (.cons .bool .nil), .nil⟩]
def qh_tbl (n : Nat) : FuncId → List Entry := fun f => bif Nat.beq f 115 then [qaf_E n] else []
def qh_loops (n : Nat) : Nat → Option LEntry := fun f => none
theorem qh_run (n : Nat) (s_0 : DD) : funDS (real _) tab (qh_tbl n) (qh_loops n) qh_an Try.f93 0 qh_a qh_res s_0 some = qh n s_0 := by kernel_rfl
def qh_E (n : Nat) : Entry := ⟨qh_a, qh_res, fun d => qh n d⟩
theorem qh_ok (n : Nat) : EOK Try.prog 93 (qh_E n) :=
 EOK.ofS prog_names prog_mixed tab_ok (tbl := qh_tbl n) (loops := qh_loops n) (an := qh_an) (old := []) (n := n) (c := qh_c) (fn := Try.f93) (TblOK.cons (AllE.cons (qaf_ok n) AllE.nil) TblOK.nil) (by kernel_rfl) (by kernel_rfl) (by kernel_rfl) (by kernel_rfl) (fun d => by kernel_rfl) LT.nil (fun a => qh_run n a)
def qbx_res : List StSh := [⟨.ret, [0], (.cons .bool .nil), .nil⟩]
def qbx_tbl (n : Nat) : FuncId → List Entry := fun f => bif Nat.beq f 85 then [qg_E n] else bif Nat.beq f 88 then [qs_E n] else bif Nat.beq f 36 then [qe_E n] else bif Nat.beq f 93 then [qh_E n] else []
def qbx_loops (n : Nat) : Nat → Option LEntry := fun f => none
theorem qbx_run (n : Nat) (t0 : DG) (t0_1 : DH) (t0_2 : DI) (t0_3 : DC) (t0_4 : DD) : funDS (real _) tab (qbx_tbl n) (qbx_loops n) qbx_an Try.f39 0 qbx_a qbx_res (t0, (t0_1, (t0_2, (t0_3, t0_4)))) some = qbx n t0 t0_1 t0_2 t0_3 t0_4 := by kernel_rfl
def qbx_E (n : Nat) : Entry := ⟨qbx_a, qbx_res, fun d => qbx n d.1 d.2.1 d.2.2.1 d.2.2.2.1 d.2.2.2.2⟩
theorem qbx_ok (n : Nat) : EOK Try.prog 39 (qbx_E n) :=
 EOK.ofS prog_names prog_mixed tab_ok (tbl := qbx_tbl n) (loops := qbx_loops n) (an := qbx_an) (old := []) (n := n) (c := qbx_c) (fn := Try.f39) (TblOK.cons (AllE.cons (qg_ok n) AllE.nil) (TblOK.cons (AllE.cons (qs_ok n) AllE.nil) (TblOK.cons (AllE.cons (qe_ok n) AllE.nil) (TblOK.cons (AllE.cons (qh_ok n) AllE.nil) TblOK.nil)))) (by kernel_rfl) (by kernel_rfl) (by kernel_rfl) (by kernel_rfl) (fun d => by kernel_rfl) LT.nil (fun a => qbx_run n a.1 a.2.1 a.2.2.1 a.2.2.2.1 a.2.2.2.2)
def qaq_an : Ann := { live := [(0, [3, 14, 15, 16])] }
def qaq_c : Code := (match Try.f41.body with | some c => c | none => .skip)
def qaq_l0 : Code := (match assoc 0 (loopsIn qaq_c 0) with | some c => c | none => .skip)
def qaq_a : StSh := ⟨.normal, [0], (.cons (.agg (.cons (.sl true false yA) (.cons (.sl true true yB) (.cons (.sl true true yC) (.cons (.sl true false (.int .u64)) (.cons (.sl true false .str) .nil)))))) .nil), .nil⟩
def qi_an : Ann := { boxed := [(0, 8)] }
def qi_c : Code := (match Try.f96.body with | some c => c | none => .skip)
def qi_a : StSh := ⟨.normal, [0, 1], (.cons (.ptr 0 0 0 0) (.cons (.int .i64) .nil)), (.cons (.bcells 0 false 1 (.cons .nilS .nil)) .nil)⟩
def qi_res : List StSh := [⟨.ret, [0], (.cons (.tup .nil) .nil), (.cons (.bcells 0 false 1 (.cons (.msw 1 0) .nil)) (.cons (.bts 0 false false false (.int .u8)) .nil))⟩]
def qi_tbl (n : Nat) : FuncId → List Entry := fun f => bif Nat.beq f 95 then [qcq_E n] else []
def qi_loops (n : Nat) : Nat → Option LEntry := fun f => none
theorem qi_run (n : Nat) (n_1 : Int) : funDS (real _) tab (qi_tbl n) (qi_loops n) qi_an Try.f96 1 qi_a qi_res n_1 some = qi n n_1 := by kernel_rfl
def qi_E (n : Nat) : Entry := ⟨qi_a, qi_res, fun d => qi n d⟩
theorem qi_ok (n : Nat) : EOK Try.prog 96 (qi_E n) :=
 EOK.ofS prog_names prog_mixed tab_ok (tbl := qi_tbl n) (loops := qi_loops n) (an := qi_an) (old := [some true]) (n := n) (c := qi_c) (fn := Try.f96) (TblOK.cons (AllE.cons (qcq_ok n) AllE.nil) TblOK.nil) (by kernel_rfl) (by kernel_rfl) (by kernel_rfl) (by kernel_rfl) (fun d => by kernel_rfl) LT.nil (fun a => qi_run n a)
def qm_an : Ann := { live := [(0, [0, 10, 11, 12])], boxed := [(4, 7)] }
def qm_c : Code := (match Try.f97.body with | some c => c | none => .skip)
def qm_l0 : Code := (match assoc 0 (loopsIn qm_c 0) with | some c => c | none => .skip)
def qm_a : StSh := ⟨.normal, [0, 1], (.cons (.ptr 0 0 0 0) (.cons (.sl true true yD) .nil)), (.cons (.bcells 0 false 1 (.cons (.msw 1 0) .nil)) (.cons (.bts 0 false false false (.int .u8)) .nil))⟩
def qc_an : Ann := { boxed := [(0, 8)] }
def qc_c : Code := (match Try.f96.body with | some c => c | none => .skip)
def qc_a : StSh := ⟨.normal, [0, 1], (.cons (.ptr 0 0 0 0) (.cons (.int .i64) .nil)), (.cons (.bcells 0 false 1 (.cons (.msw 1 0) .nil)) (.cons (.bts 0 false false false (.int .u8)) .nil))⟩
def qc_res : List StSh := [⟨.ret, [0], (.cons (.tup .nil) .nil), (.cons (.bcells 0 false 1 (.cons (.msw 1 0) .nil)) (.cons (.bts 0 false false false (.int .u8)) .nil))⟩]
def qc_tbl (n : Nat) : FuncId → List Entry := fun f => bif Nat.beq f 95 then [qcq_E n] else []
def qc_loops (n : Nat) : Nat → Option LEntry := fun f => none
theorem qc_run (n : Nat) (n_1 : Int) (m1 : DC) : funDS (real _) tab (qc_tbl n) (qc_loops n) qc_an Try.f96 2 qc_a qc_res (n_1, m1) some = qc n n_1 m1 := by kernel_rfl
def qc_E (n : Nat) : Entry := ⟨qc_a, qc_res, fun d => qc n d.1 d.2⟩
theorem qc_ok (n : Nat) : EOK Try.prog 96 (qc_E n) :=
 EOK.ofS prog_names prog_mixed tab_ok (tbl := qc_tbl n) (loops := qc_loops n) (an := qc_an) (old := [some true, some false]) (n := n) (c := qc_c) (fn := Try.f96) (TblOK.cons (AllE.cons (qcq_ok n) AllE.nil) TblOK.nil) (by kernel_rfl) (by kernel_rfl) (by kernel_rfl) (by kernel_rfl) (fun d => by kernel_rfl) LT.nil (fun a => qc_run n a.1 a.2)
def qcm_an : Ann := { raw := [(1, 4)] }
def qcm_c : Code := (match Try.f98.body with | some c => c | none => .skip)
def qcm_a : StSh := ⟨.normal, [0], (.cons (.agg (.cons (.int .i64) (.cons (.int .i64) .nil))) .nil), .nil⟩
def qcm_res : List StSh := [⟨.ret, [0], (.cons (.sl false false (.int .u8)) .nil), .nil⟩]
def qcm_tbl (n : Nat) : FuncId → List Entry := fun f => bif Nat.beq f 95 then [qcq_E n] else []
def qcm_loops (n : Nat) : Nat → Option LEntry := fun f => none
theorem qcm_run (n : Nat) (t_0 : Int) (t_0_1 : Int) : funDS (real _) tab (qcm_tbl n) (qcm_loops n) qcm_an Try.f98 0 qcm_a qcm_res (t_0, t_0_1) some = qcm n t_0 t_0_1 := by kernel_rfl
def qcm_E (n : Nat) : Entry := ⟨qcm_a, qcm_res, fun d => qcm n d.1 d.2⟩
theorem qcm_ok (n : Nat) : EOK Try.prog 98 (qcm_E n) :=
 EOK.ofS prog_names prog_mixed tab_ok (tbl := qcm_tbl n) (loops := qcm_loops n) (an := qcm_an) (old := []) (n := n) (c := qcm_c) (fn := Try.f98) (TblOK.cons (AllE.cons (qcq_ok n) AllE.nil) TblOK.nil) (by kernel_rfl) (by kernel_rfl) (by kernel_rfl) (by kernel_rfl) (fun d => by kernel_rfl) LT.nil (fun a => qcm_run n a.1 a.2)
def qm_h0 : List StSh := [⟨.normal, [0, 10, 11, 12], (.cons (.ptr 0 0 0 0) (.cons (.sl true true yD) (.cons (.int .i64) (.cons (.int .i64) .nil)))), (.cons (.bcells 0 false 1 (.cons (.msw 1 0) .nil)) (.cons (.bts 0 false false false (.int .u8)) .nil))⟩]
def qm_o0 : List StSh := [⟨.exit 0, [], .nil, (.cons (.bcells 0 false 1 (.cons (.msw 1 0) .nil)) (.cons (.bts 0 false false false (.int .u8)) .nil))⟩]
def qm_L0 (n : Nat) : LEntry := ⟨qm_h0, qm_o0, qm_W0 n⟩
def qm_res : List StSh := [⟨.ret, [0], (.cons (.tup .nil) .nil), (.cons (.bcells 0 false 1 (.cons (.msw 1 0) .nil)) (.cons (.bts 0 false false false (.int .u8)) .nil))⟩]
def qm_tbl (n : Nat) : FuncId → List Entry := fun f => bif Nat.beq f 96 then [qc_E n] else bif Nat.beq f 98 then [qcm_E n] else []
def qm_loops (n : Nat) : Nat → Option LEntry := fun f => bif Nat.beq f 0 then some (qm_L0 n) else none
theorem qm_r0 (n : Nat) (t10 : DA) (t11 : Int) (t12 : Int) (m1 : DC) : roundK (real _) tab (qm_tbl n) (qm_loops n) qm_an [some true, some false] qm_l0 0 [0, 10, 11, 12] qm_h0 qm_o0 ((t10, (t11, t12)), m1) some = qm_B0 n t10 t11 t12 m1 := by kernel_rfl
theorem qm_f0 (n : Nat) : LoopFact tab (qm_tbl n) (qm_loops n) qm_an [some true, some false] n 0 qm_l0 (qm_L0 n) := ⟨[0, 10, 11, 12], (fun s => qm_B0 n s.1.1 s.1.2.1 s.1.2.2 s.2), by kernel_rfl, by kernel_rfl, fun s => rfl, fun s => qm_r0 n s.1.1 s.1.2.1 s.1.2.2 s.2⟩
theorem qm_run (n : Nat) (list_1 : DA) (m1 : DC) : funDS (real _) tab (qm_tbl n) (qm_loops n) qm_an Try.f97 2 qm_a qm_res (list_1, m1) some = qm n list_1 m1 := by kernel_rfl
def qm_E (n : Nat) : Entry := ⟨qm_a, qm_res, fun d => qm n d.1 d.2⟩
theorem qm_ok (n : Nat) : EOK Try.prog 97 (qm_E n) :=
 EOK.ofS prog_names prog_mixed tab_ok (tbl := qm_tbl n) (loops := qm_loops n) (an := qm_an) (old := [some true, some false]) (n := n) (c := qm_c) (fn := Try.f97) (TblOK.cons (AllE.cons (qc_ok n) AllE.nil) (TblOK.cons (AllE.cons (qcm_ok n) AllE.nil) TblOK.nil)) (by kernel_rfl) (by kernel_rfl) (by kernel_rfl) (by kernel_rfl) (fun d => by kernel_rfl) (LT.cons (by kernel_rfl) (qm_f0 n) LT.nil) (fun a => qm_run n a.1 a.2)
def qaq_h0 : List StSh := [⟨.normal, [3, 14, 15, 16], (.cons (.ptr 0 0 0 0) (.cons (.sl true false yA) (.cons (.int .i64) (.cons (.int .i64) .nil)))), (.cons (.bcells 0 false 1 (.cons (.msw 1 0) .nil)) (.cons (.bts 0 false false false (.int .u8)) .nil))⟩]
def qaq_o0 : List StSh := [⟨.exit 0, [3], (.cons (.ptr 0 0 0 0) .nil), (.cons (.bcells 0 false 1 (.cons (.msw 1 0) .nil)) (.cons (.bts 0 false false false (.int .u8)) .nil))⟩]
def qaq_L0 (n : Nat) : LEntry := ⟨qaq_h0, qaq_o0, qaq_W0 n⟩
def qaq_res : List StSh := [⟨.ret, [0], (.cons (.sl false false (.int .u8)) .nil), .nil⟩]
def qaq_tbl (n : Nat) : FuncId → List Entry := fun f => bif Nat.beq f 96 then [qi_E n] else bif Nat.beq f 97 then [qm_E n] else []
def qaq_loops (n : Nat) : Nat → Option LEntry := fun f => bif Nat.beq f 0 then some (qaq_L0 n) else none
theorem qaq_r0 (n : Nat) (t14 : DG) (t15 : Int) (t16 : Int) (m1 : DC) : roundK (real _) tab (qaq_tbl n) (qaq_loops n) qaq_an [] qaq_l0 0 [3, 14, 15, 16] qaq_h0 qaq_o0 ((t14, (t15, t16)), m1) some = qaq_B0 n t14 t15 t16 m1 := by kernel_rfl
theorem qaq_f0 (n : Nat) : LoopFact tab (qaq_tbl n) (qaq_loops n) qaq_an [] n 0 qaq_l0 (qaq_L0 n) := ⟨[3, 14, 15, 16], (fun s => qaq_B0 n s.1.1 s.1.2.1 s.1.2.2 s.2), by kernel_rfl, by kernel_rfl, fun s => rfl, fun s => qaq_r0 n s.1.1 s.1.2.1 s.1.2.2 s.2⟩
theorem qaq_run (n : Nat) (m_0 : DG) (m_0_1 : DH) (m_0_2 : DI) (m_0_3 : DC) (m_0_4 : DD) : funDS (real _) tab (qaq_tbl n) (qaq_loops n) qaq_an Try.f41 0 qaq_a qaq_res (m_0, (m_0_1, (m_0_2, (m_0_3, m_0_4)))) some = qaq n m_0 m_0_1 m_0_2 m_0_3 m_0_4 := by kernel_rfl
def qaq_E (n : Nat) : Entry := ⟨qaq_a, qaq_res, fun d => qaq n d.1 d.2.1 d.2.2.1 d.2.2.2.1 d.2.2.2.2⟩
theorem qaq_ok (n : Nat) : EOK Try.prog 41 (qaq_E n) :=
 EOK.ofS prog_names prog_mixed tab_ok (tbl := qaq_tbl n) (loops := qaq_loops n) (an := qaq_an) (old := []) (n := n) (c := qaq_c) (fn := Try.f41) (TblOK.cons (AllE.cons (qi_ok n) AllE.nil) (TblOK.cons (AllE.cons (qm_ok n) AllE.nil) TblOK.nil)) (by kernel_rfl) (by kernel_rfl) (by kernel_rfl) (by kernel_rfl) (fun d => by kernel_rfl) (LT.cons (by kernel_rfl) (qaq_f0 n) LT.nil) (fun a => qaq_run n a.1 a.2.1 a.2.2.1 a.2.2.2.1 a.2.2.2.2)
def qab_an : Ann := { live := [(0, [3, 16, 17, 18]), (2, [3, 16, 17, 18, 47, 48, 49])], boxed := [(7, 8), (13, 7)] }
def qab_c : Code := (match Try.f42.body with | some c => c | none => .skip)
def qab_l0 : Code := (match assoc 0 (loopsIn qab_c 0) with | some c => c | none => .skip)
def qab_l2 : Code := (match assoc 2 (loopsIn qab_c 0) with | some c => c | none => .skip)
def qab_a : StSh := ⟨.normal, [0], (.cons (.agg (.cons (.sl true false yA) (.cons (.sl true true yB) (.cons (.sl true true yC) (.cons (.sl true false (.int .u64)) (.cons (.sl true false .str) .nil)))))) .nil), .nil⟩
def qab_h2 : List StSh := [⟨.normal, [3, 16, 17, 18, 47, 48, 49], (.cons (.ptr 0 0 0 0) (.cons (.sl true true yB) (.cons (.int .i64) (.cons (.int .i64) (.cons (.sl true true yE) (.cons (.int .i64) (.cons (.int .i64) .nil))))))), (.cons (.bcells 0 false 1 (.cons (.msw 1 0) .nil)) (.cons (.bts 0 false false false (.int .u8)) .nil))⟩]
def qab_o2 : List StSh := [⟨.exit 2, [3, 16, 17, 18], (.cons (.ptr 0 0 0 0) (.cons (.sl true true yB) (.cons (.int .i64) (.cons (.int .i64) .nil)))), (.cons (.bcells 0 false 1 (.cons (.msw 1 0) .nil)) (.cons (.bts 0 false false false (.int .u8)) .nil))⟩]
def qab_L2 (n : Nat) : LEntry := ⟨qab_h2, qab_o2, qab_W2 n⟩
def qab_h0 : List StSh := [⟨.normal, [3, 16, 17, 18], (.cons (.ptr 0 0 0 0) (.cons (.sl true true yB) (.cons (.int .i64) (.cons (.int .i64) .nil)))), (.cons (.bcells 0 false 1 (.cons (.msw 1 0) .nil)) (.cons (.bts 0 false false false (.int .u8)) .nil))⟩]
def qab_o0 : List StSh := [⟨.exit 0, [3], (.cons (.ptr 0 0 0 0) .nil), (.cons (.bcells 0 false 1 (.cons (.msw 1 0) .nil)) (.cons (.bts 0 false false false (.int .u8)) .nil))⟩]
def qab_L0 (n : Nat) : LEntry := ⟨qab_h0, qab_o0, qab_W0 n⟩
def qab_res : List StSh := [⟨.ret, [0], (.cons (.sl false false (.int .u8)) .nil), .nil⟩]
def qab_tbl (n : Nat) : FuncId → List Entry := fun f => bif Nat.beq f 96 then [qi_E n, qc_E n] else bif Nat.beq f 97 then [qm_E n] else bif Nat.beq f 98 then [qcm_E n] else bif Nat.beq f 99 then [qcn_E n] else []
def qab_loops (n : Nat) : Nat → Option LEntry := fun f => bif Nat.beq f 2 then some (qab_L2 n) else bif Nat.beq f 0 then some (qab_L0 n) else none
theorem qab_r2 (n : Nat) (t16 : DH) (t17 : Int) (t18 : Int) (t47 : DB) (t48 : Int) (t49 : Int) (m1 : DC) : roundK (real _) tab (qab_tbl n) (qab_loops n) qab_an [] qab_l2 2 [3, 16, 17, 18, 47, 48, 49] qab_h2 qab_o2 ((t16, (t17, (t18, (t47, (t48, t49))))), m1) some = qab_B2 n t16 t17 t18 t47 t48 t49 m1 := by kernel_rfl
theorem qab_f2 (n : Nat) : LoopFact tab (qab_tbl n) (qab_loops n) qab_an [] n 2 qab_l2 (qab_L2 n) := ⟨[3, 16, 17, 18, 47, 48, 49], (fun s => qab_B2 n s.1.1 s.1.2.1 s.1.2.2.1 s.1.2.2.2.1 s.1.2.2.2.2.1 s.1.2.2.2.2.2 s.2), by kernel_rfl, by kernel_rfl, fun s => rfl, fun s => qab_r2 n s.1.1 s.1.2.1 s.1.2.2.1 s.1.2.2.2.1 s.1.2.2.2.2.1 s.1.2.2.2.2.2 s.2⟩
theorem qab_r0 (n : Nat) (t16 : DH) (t17 : Int) (t18 : Int) (m1 : DC) : roundK (real _) tab (qab_tbl n) (qab_loops n) qab_an [] qab_l0 0 [3, 16, 17, 18] qab_h0 qab_o0 ((t16, (t17, t18)), m1) some = qab_B0 n t16 t17 t18 m1 := by kernel_rfl
theorem qab_f0 (n : Nat) : LoopFact tab (qab_tbl n) (qab_loops n) qab_an [] n 0 qab_l0 (qab_L0 n) := ⟨[3, 16, 17, 18], (fun s => qab_B0 n s.1.1 s.1.2.1 s.1.2.2 s.2), by kernel_rfl, by kernel_rfl, fun s => rfl, fun s => qab_r0 n s.1.1 s.1.2.1 s.1.2.2 s.2⟩
theorem qab_run (n : Nat) (t0 : DG) (t0_1 : DH) (t0_2 : DI) (t0_3 : DC) (t0_4 : DD) : funDS (real _) tab (qab_tbl n) (qab_loops n) qab_an Try.f42 0 qab_a qab_res (t0, (t0_1, (t0_2, (t0_3, t0_4)))) some = qab n t0 t0_1 t0_2 t0_3 t0_4 := by kernel_rfl
def qab_E (n : Nat) : Entry := ⟨qab_a, qab_res, fun d => qab n d.1 d.2.1 d.2.2.1 d.2.2.2.1 d.2.2.2.2⟩
theorem qab_ok (n : Nat) : EOK Try.prog 42 (qab_E n) :=
 EOK.ofS prog_names prog_mixed tab_ok (tbl := qab_tbl n) (loops := qab_loops n) (an := qab_an) (old := []) (n := n) (c := qab_c) (fn := Try.f42) (TblOK.cons (AllE.cons (qi_ok n) (AllE.cons (qc_ok n) AllE.nil)) (TblOK.cons (AllE.cons (qm_ok n) AllE.nil) (TblOK.cons (AllE.cons (qcm_ok n) AllE.nil) (TblOK.cons (AllE.cons (qcn_ok n) AllE.nil) TblOK.nil)))) (by kernel_rfl) (by kernel_rfl) (by kernel_rfl) (by kernel_rfl) (fun d => by kernel_rfl) (LT.cons (by kernel_rfl) (qab_f2 n) (LT.cons (by kernel_rfl) (qab_f0 n) LT.nil)) (fun a => qab_run n a.1 a.2.1 a.2.2.1 a.2.2.2.1 a.2.2.2.2)
def qak_an : Ann := { live := [(0, [3, 14, 15, 16])], boxed := [(7, 8)] }
def qak_c : Code := (match Try.f43.body with | some c => c | none => .skip)
def qak_l0 : Code := (match assoc 0 (loopsIn qak_c 0) with | some c => c | none => .skip)
def qak_a : StSh := ⟨.normal, [0], (.cons (.agg (.cons (.sl true false yA) (.cons (.sl true true yB) (.cons (.sl true true yC) (.cons (.sl true false (.int .u64)) (.cons (.sl true false .str) .nil)))))) .nil), .nil⟩
def qak_h0 : List StSh := [⟨.normal, [3, 14, 15, 16], (.cons (.ptr 0 0 0 0) (.cons (.sl true true yC) (.cons (.int .i64) (.cons (.int .i64) .nil)))), (.cons (.bcells 0 false 1 (.cons (.msw 1 0) .nil)) (.cons (.bts 0 false false false (.int .u8)) .nil))⟩]
def qak_o0 : List StSh := [⟨.exit 0, [3], (.cons (.ptr 0 0 0 0) .nil), (.cons (.bcells 0 false 1 (.cons (.msw 1 0) .nil)) (.cons (.bts 0 false false false (.int .u8)) .nil))⟩]
def qak_L0 (n : Nat) : LEntry := ⟨qak_h0, qak_o0, qak_W0 n⟩
def qak_res : List StSh := [⟨.ret, [0], (.cons (.sl false false (.int .u8)) .nil), .nil⟩]
def qak_tbl (n : Nat) : FuncId → List Entry := fun f => bif Nat.beq f 96 then [qi_E n] else bif Nat.beq f 97 then [qm_E n] else bif Nat.beq f 98 then [qcm_E n] else []
def qak_loops (n : Nat) : Nat → Option LEntry := fun f => bif Nat.beq f 0 then some (qak_L0 n) else none
theorem qak_r0 (n : Nat) (t14 : DI) (t15 : Int) (t16 : Int) (m1 : DC) : roundK (real _) tab (qak_tbl n) (qak_loops n) qak_an [] qak_l0 0 [3, 14, 15, 16] qak_h0 qak_o0 ((t14, (t15, t16)), m1) some = qak_B0 n t14 t15 t16 m1 := by kernel_rfl
theorem qak_f0 (n : Nat) : LoopFact tab (qak_tbl n) (qak_loops n) qak_an [] n 0 qak_l0 (qak_L0 n) := ⟨[3, 14, 15, 16], (fun s => qak_B0 n s.1.1 s.1.2.1 s.1.2.2 s.2), by kernel_rfl, by kernel_rfl, fun s => rfl, fun s => qak_r0 n s.1.1 s.1.2.1 s.1.2.2 s.2⟩
theorem qak_run (n : Nat) (m_0 : DG) (m_0_1 : DH) (m_0_2 : DI) (m_0_3 : DC) (m_0_4 : DD) : funDS (real _) tab (qak_tbl n) (qak_loops n) qak_an Try.f43 0 qak_a qak_res (m_0, (m_0_1, (m_0_2, (m_0_3, m_0_4)))) some = qak n m_0 m_0_1 m_0_2 m_0_3 m_0_4 := by kernel_rfl
def qak_E (n : Nat) : Entry := ⟨qak_a, qak_res, fun d => qak n d.1 d.2.1 d.2.2.1 d.2.2.2.1 d.2.2.2.2⟩
theorem qak_ok (n : Nat) : EOK Try.prog 43 (qak_E n) :=
 EOK.ofS prog_names prog_mixed tab_ok (tbl := qak_tbl n) (loops := qak_loops n) (an := qak_an) (old := []) (n := n) (c := qak_c) (fn := Try.f43) (TblOK.cons (AllE.cons (qi_ok n) AllE.nil) (TblOK.cons (AllE.cons (qm_ok n) AllE.nil) (TblOK.cons (AllE.cons (qcm_ok n) AllE.nil) TblOK.nil))) (by kernel_rfl) (by kernel_rfl) (by kernel_rfl) (by kernel_rfl) (fun d => by kernel_rfl) (LT.cons (by kernel_rfl) (qak_f0 n) LT.nil) (fun a => qak_run n a.1 a.2.1 a.2.2.1 a.2.2.2.1 a.2.2.2.2)
def qar_an : Ann := { live := [(0, [3, 14, 15, 16])], boxed := [(6, 7)] }
def qar_c : Code := (match Try.f44.body with | some c => c | none => .skip)
def qar_l0 : Code := (match assoc 0 (loopsIn qar_c 0) with | some c => c | none => .skip)
def qar_a : StSh := ⟨.normal, [0], (.cons (.agg (.cons (.sl true false yA) (.cons (.sl true true yB) (.cons (.sl true true yC) (.cons (.sl true false (.int .u64)) (.cons (.sl true false .str) .nil)))))) .nil), .nil⟩
def qcg_an : Ann := { live := [(0, [0, 5, 9, 10])], boxed := [(1, 0), (5, 7)] }
def qcg_c : Code := (match Try.f100.body with | some c => c | none => .skip)
def qcg_l0 : Code := (match assoc 0 (loopsIn qcg_c 0) with | some c => c | none => .skip)
def qcg_a : StSh := ⟨.normal, [0, 1], (.cons (.int .u64) (.cons (.int .i64) .nil)), .nil⟩
def qcg_h0 : List StSh := [⟨.normal, [0, 5, 9, 10], (.cons (.int .u64) (.cons (.msw 0 0) (.cons (.int .i64) (.cons (.int .i64) .nil)))), (.cons (.bts 0 false false false (.int .u8)) .nil)⟩]
def qcg_o0 : List StSh := [⟨.exit 0, [5], (.cons (.msw 0 0) .nil), (.cons (.bts 0 false false false (.int .u8)) .nil)⟩]
def qcg_L0 (n : Nat) : LEntry := ⟨qcg_h0, qcg_o0, qcg_W0 n⟩
def qcg_res : List StSh := [⟨.ret, [0], (.cons (.sl false false (.int .u8)) .nil), .nil⟩]
def qcg_tbl (n : Nat) : FuncId → List Entry := fun f => []
def qcg_loops (n : Nat) : Nat → Option LEntry := fun f => bif Nat.beq f 0 then some (qcg_L0 n) else none
theorem qcg_r0 (n : Nat) (v_0 : Int) (t9 : Int) (t10 : Int) (m0 : DC) : roundK (real _) tab (qcg_tbl n) (qcg_loops n) qcg_an [] qcg_l0 0 [0, 5, 9, 10] qcg_h0 qcg_o0 ((v_0, (t9, t10)), m0) some = qcg_B0 n v_0 t9 t10 m0 := by kernel_rfl
theorem qcg_f0 (n : Nat) : LoopFact tab (qcg_tbl n) (qcg_loops n) qcg_an [] n 0 qcg_l0 (qcg_L0 n) := ⟨[0, 5, 9, 10], (fun s => qcg_B0 n s.1.1 s.1.2.1 s.1.2.2 s.2), by kernel_rfl, by kernel_rfl, fun s => rfl, fun s => qcg_r0 n s.1.1 s.1.2.1 s.1.2.2 s.2⟩
theorem qcg_run (n : Nat) (v_0 : Int) (n_1 : Int) : funDS (real _) tab (qcg_tbl n) (qcg_loops n) qcg_an Try.f100 0 qcg_a qcg_res (v_0, n_1) some = qcg n v_0 n_1 := by kernel_rfl
def qcg_E (n : Nat) : Entry := ⟨qcg_a, qcg_res, fun d => qcg n d.1 d.2⟩
theorem qcg_ok (n : Nat) : EOK Try.prog 100 (qcg_E n) :=
 EOK.ofS prog_names prog_mixed tab_ok (tbl := qcg_tbl n) (loops := qcg_loops n) (an := qcg_an) (old := []) (n := n) (c := qcg_c) (fn := Try.f100) TblOK.nil (by kernel_rfl) (by kernel_rfl) (by kernel_rfl) (by kernel_rfl) (fun d => by kernel_rfl) (LT.cons (by kernel_rfl) (qcg_f0 n) LT.nil) (fun a => qcg_run n a.1 a.2)
def qar_h0 : List StSh := [⟨.normal, [3, 14, 15, 16], (.cons (.ptr 0 0 0 0) (.cons (.sl true false (.int .u64)) (.cons (.int .i64) (.cons (.int .i64) .nil)))), (.cons (.bcells 0 false 1 (.cons (.msw 1 0) .nil)) (.cons (.bts 0 false false false (.int .u8)) .nil))⟩]
def qar_o0 : List StSh := [⟨.exit 0, [3], (.cons (.ptr 0 0 0 0) .nil), (.cons (.bcells 0 false 1 (.cons (.msw 1 0) .nil)) (.cons (.bts 0 false false false (.int .u8)) .nil))⟩]
def qar_L0 (n : Nat) : LEntry := ⟨qar_h0, qar_o0, qar_W0 n⟩
def qar_res : List StSh := [⟨.ret, [0], (.cons (.sl false false (.int .u8)) .nil), .nil⟩]
def qar_tbl (n : Nat) : FuncId → List Entry := fun f => bif Nat.beq f 96 then [qi_E n] else bif Nat.beq f 100 then [qcg_E n] else []
def qar_loops (n : Nat) : Nat → Option LEntry := fun f => bif Nat.beq f 0 then some (qar_L0 n) else none
theorem qar_r0 (n : Nat) (t14 : DC) (t15 : Int) (t16 : Int) (m1 : DC) : roundK (real _) tab (qar_tbl n) (qar_loops n) qar_an [] qar_l0 0 [3, 14, 15, 16] qar_h0 qar_o0 ((t14, (t15, t16)), m1) some = qar_B0 n t14 t15 t16 m1 := by kernel_rfl
theorem qar_f0 (n : Nat) : LoopFact tab (qar_tbl n) (qar_loops n) qar_an [] n 0 qar_l0 (qar_L0 n) := ⟨[3, 14, 15, 16], (fun s => qar_B0 n s.1.1 s.1.2.1 s.1.2.2 s.2), by kernel_rfl, by kernel_rfl, fun s => rfl, fun s => qar_r0 n s.1.1 s.1.2.1 s.1.2.2 s.2⟩
theorem qar_run (n : Nat) (m_0 : DG) (m_0_1 : DH) (m_0_2 : DI) (m_0_3 : DC) (m_0_4 : DD) : funDS (real _) tab (qar_tbl n) (qar_loops n) qar_an Try.f44 0 qar_a qar_res (m_0, (m_0_1, (m_0_2, (m_0_3, m_0_4)))) some = qar n m_0 m_0_1 m_0_2 m_0_3 m_0_4 := by kernel_rfl
def qar_E (n : Nat) : Entry := ⟨qar_a, qar_res, fun d => qar n d.1 d.2.1 d.2.2.1 d.2.2.2.1 d.2.2.2.2⟩
theorem qar_ok (n : Nat) : EOK Try.prog 44 (qar_E n) :=
 EOK.ofS prog_names prog_mixed tab_ok (tbl := qar_tbl n) (loops := qar_loops n) (an := qar_an) (old := []) (n := n) (c := qar_c) (fn := Try.f44) (TblOK.cons (AllE.cons (qi_ok n) AllE.nil) (TblOK.cons (AllE.cons (qcg_ok n) AllE.nil) TblOK.nil)) (by kernel_rfl) (by kernel_rfl) (by kernel_rfl) (by kernel_rfl) (fun d => by kernel_rfl) (LT.cons (by kernel_rfl) (qar_f0 n) LT.nil) (fun a => qar_run n a.1 a.2.1 a.2.2.1 a.2.2.2.1 a.2.2.2.2)
def qbp_an : Ann := { live := [(0, [3, 14, 15, 16])], boxed := [(7, 6)] }
def qbp_c : Code := (match Try.f45.body with | some c => c | none => .skip)
def qbp_l0 : Code := (match assoc 0 (loopsIn qbp_c 0) with | some c => c | none => .skip)
def qbp_a : StSh := ⟨.normal, [0], (.cons (.agg (.cons (.sl true false yA) (.cons (.sl true true yB) (.cons (.sl true true yC) (.cons (.sl true false (.int .u64)) (.cons (.sl true false .str) .nil)))))) .nil), .nil⟩
def qbp_h0 : List StSh := [⟨.normal, [3, 14, 15, 16], (.cons (.ptr 0 0 0 0) (.cons (.sl true false .str) (.cons (.int .i64) (.cons (.int .i64) .nil)))), (.cons (.bcells 0 false 1 (.cons (.msw 1 0) .nil)) (.cons (.bts 0 false false false (.int .u8)) .nil))⟩]
def qbp_o0 : List StSh := [⟨.exit 0, [3], (.cons (.ptr 0 0 0 0) .nil), (.cons (.bcells 0 false 1 (.cons (.msw 1 0) .nil)) (.cons (.bts 0 false false false (.int .u8)) .nil))⟩]
def qbp_L0 (n : Nat) : LEntry := ⟨qbp_h0, qbp_o0, qbp_W0 n⟩
def qbp_res : List StSh := [⟨.ret, [0], (.cons (.sl false false (.int .u8)) .nil), .nil⟩]
def qbp_tbl (n : Nat) : FuncId → List Entry := fun f => bif Nat.beq f 96 then [qi_E n, qc_E n] else []
def qbp_loops (n : Nat) : Nat → Option LEntry := fun f => bif Nat.beq f 0 then some (qbp_L0 n) else none
theorem qbp_r0 (n : Nat) (t14 : DD) (t15 : Int) (t16 : Int) (m1 : DC) : roundK (real _) tab (qbp_tbl n) (qbp_loops n) qbp_an [] qbp_l0 0 [3, 14, 15, 16] qbp_h0 qbp_o0 ((t14, (t15, t16)), m1) some = qbp_B0 n t14 t15 t16 m1 := by kernel_rfl
theorem qbp_f0 (n : Nat) : LoopFact tab (qbp_tbl n) (qbp_loops n) qbp_an [] n 0 qbp_l0 (qbp_L0 n) := ⟨[3, 14, 15, 16], (fun s => qbp_B0 n s.1.1 s.1.2.1 s.1.2.2 s.2), by kernel_rfl, by kernel_rfl, fun s => rfl, fun s => qbp_r0 n s.1.1 s.1.2.1 s.1.2.2 s.2⟩
theorem qbp_run (n : Nat) (m_0 : DG) (m_0_1 : DH) (m_0_2 : DI) (m_0_3 : DC) (m_0_4 : DD) : funDS (real _) tab (qbp_tbl n) (qbp_loops n) qbp_an Try.f45 0 qbp_a qbp_res (m_0, (m_0_1, (m_0_2, (m_0_3, m_0_4)))) some = qbp n m_0 m_0_1 m_0_2 m_0_3 m_0_4 := by kernel_rfl
def qbp_E (n : Nat) : Entry := ⟨qbp_a, qbp_res, fun d => qbp n d.1 d.2.1 d.2.2.1 d.2.2.2.1 d.2.2.2.2⟩
theorem qbp_ok (n : Nat) : EOK Try.prog 45 (qbp_E n) :=
 EOK.ofS prog_names prog_mixed tab_ok (tbl := qbp_tbl n) (loops := qbp_loops n) (an := qbp_an) (old := []) (n := n) (c := qbp_c) (fn := Try.f45) (TblOK.cons (AllE.cons (qi_ok n) (AllE.cons (qc_ok n) AllE.nil)) TblOK.nil) (by kernel_rfl) (by kernel_rfl) (by kernel_rfl) (by kernel_rfl) (fun d => by kernel_rfl) (LT.cons (by kernel_rfl) (qbp_f0 n) LT.nil) (fun a => qbp_run n a.1 a.2.1 a.2.2.1 a.2.2.2.1 a.2.2.2.2)
def qck_an : Ann := { live := [(0, [3, 10, 11, 12])], boxed := [(5, 5), (6, 2)], raw := [(1, 3)] }
def qck_c : Code := (match Try.f40.body with | some c => c | none => .skip)
def qck_l0 : Code := (match assoc 0 (loopsIn qck_c 0) with | some c => c | none => .skip)
def qck_a : StSh := ⟨.normal, [0], (.cons (.sl true false yF) .nil), .nil⟩
def qck_h0 : List StSh := [⟨.normal, [3, 10, 11, 12], (.cons (.msw 0 0) (.cons (.sl true false yF) (.cons (.int .i64) (.cons (.int .i64) .nil)))), (.cons (.bts 0 false false false (.int .u8)) .nil)⟩]
def qck_o0 : List StSh := [⟨.exit 0, [3], (.cons (.msw 0 0) .nil), (.cons (.bts 0 false false false (.int .u8)) .nil)⟩]
def qck_L0 (n : Nat) : LEntry := ⟨qck_h0, qck_o0, qck_W0 n⟩
def qck_res : List StSh := [⟨.ret, [0], (.cons (.sl false false (.int .u8)) .nil), .nil⟩]
def qck_tbl (n : Nat) : FuncId → List Entry := fun f => bif Nat.beq f 95 then [qcq_E n] else []
def qck_loops (n : Nat) : Nat → Option LEntry := fun f => bif Nat.beq f 0 then some (qck_L0 n) else none
theorem qck_r0 (n : Nat) (t10 : DJ) (t11 : Int) (t12 : Int) (m0 : DC) : roundK (real _) tab (qck_tbl n) (qck_loops n) qck_an [] qck_l0 0 [3, 10, 11, 12] qck_h0 qck_o0 ((t10, (t11, t12)), m0) some = qck_B0 n t10 t11 t12 m0 := by kernel_rfl
theorem qck_f0 (n : Nat) : LoopFact tab (qck_tbl n) (qck_loops n) qck_an [] n 0 qck_l0 (qck_L0 n) := ⟨[3, 10, 11, 12], (fun s => qck_B0 n s.1.1 s.1.2.1 s.1.2.2 s.2), by kernel_rfl, by kernel_rfl, fun s => rfl, fun s => qck_r0 n s.1.1 s.1.2.1 s.1.2.2 s.2⟩
theorem qck_run (n : Nat) (parts_0 : DJ) : funDS (real _) tab (qck_tbl n) (qck_loops n) qck_an Try.f40 0 qck_a qck_res parts_0 some = qck n parts_0 := by kernel_rfl
def qck_E (n : Nat) : Entry := ⟨qck_a, qck_res, fun d => qck n d⟩
theorem qck_ok (n : Nat) : EOK Try.prog 40 (qck_E n) :=
 EOK.ofS prog_names prog_mixed tab_ok (tbl := qck_tbl n) (loops := qck_loops n) (an := qck_an) (old := []) (n := n) (c := qck_c) (fn := Try.f40) (TblOK.cons (AllE.cons (qcq_ok n) AllE.nil) TblOK.nil) (by kernel_rfl) (by kernel_rfl) (by kernel_rfl) (by kernel_rfl) (fun d => by kernel_rfl) (LT.cons (by kernel_rfl) (qck_f0 n) LT.nil) (fun a => qck_run n a)
def qbf_res : List StSh := [⟨.ret, [0], (.cons (.tup (.cons (.sl false false (.int .u8)) (.cons (.int .i64) .nil))) .nil), .nil⟩]
def qbf_tbl (n : Nat) : FuncId → List Entry := fun f => bif Nat.beq f 39 then [qbx_E n] else bif Nat.beq f 41 then [qaq_E n] else bif Nat.beq f 42 then [qab_E n] else bif Nat.beq f 43 then [qak_E n] else bif Nat.beq f 44 then [qar_E n] else bif Nat.beq f 45 then [qbp_E n] else bif Nat.beq f 40 then [qck_E n] else []
def qbf_loops (n : Nat) : Nat → Option LEntry := fun f => none
theorem qbf_run (n : Nat) (m_0 : DG) (m_0_1 : DH) (m_0_2 : DI) (m_0_3 : DC) (m_0_4 : DD) : funDS (real _) tab (qbf_tbl n) (qbf_loops n) qbf_an Try.f20 0 qbf_a qbf_res (m_0, (m_0_1, (m_0_2, (m_0_3, m_0_4)))) some = qbf n m_0 m_0_1 m_0_2 m_0_3 m_0_4 := by kernel_rfl
def qbf_E (n : Nat) : Entry := ⟨qbf_a, qbf_res, fun d => qbf n d.1 d.2.1 d.2.2.1 d.2.2.2.1 d.2.2.2.2⟩
theorem qbf_ok (n : Nat) : EOK Try.prog 20 (qbf_E n) :=
 EOK.ofS prog_names prog_mixed tab_ok (tbl := qbf_tbl n) (loops := qbf_loops n) (an := qbf_an) (old := []) (n := n) (c := qbf_c) (fn := Try.f20) (TblOK.cons (AllE.cons (qbx_ok n) AllE.nil) (TblOK.cons (AllE.cons (qaq_ok n) AllE.nil) (TblOK.cons (AllE.cons (qab_ok n) AllE.nil) (TblOK.cons (AllE.cons (qak_ok n) AllE.nil) (TblOK.cons (AllE.cons (qar_ok n) AllE.nil) (TblOK.cons (AllE.cons (qbp_ok n) AllE.nil) (TblOK.cons (AllE.cons (qck_ok n) AllE.nil) TblOK.nil))))))) (by kernel_rfl) (by kernel_rfl) (by kernel_rfl) (by kernel_rfl) (fun d => by kernel_rfl) LT.nil (fun a => qbf_run n a.1 a.2.1 a.2.2.1 a.2.2.2.1 a.2.2.2.2)
def qba_an : Ann := {}
def qba_c : Code := (match Try.f23.body with | some c => c | none => .skip)
def qba_a : StSh := ⟨.normal, [0], (.cons (.sl true false (.int .u8)) .nil), .nil⟩
def qcb_an : Ann := { live := [(0, [6, 9, 22, 23])], boxed := [(5, 0), (11, 5)] }
def qcb_c : Code := (match Try.f53.body with | some c => c | none => .skip)
def qcb_l0 : Code := (match assoc 0 (loopsIn qcb_c 0) with | some c => c | none => .skip)
def qcb_a : StSh := ⟨.normal, [0, 1], (.cons (.sl true false (.int .u8)) (.cons (.int .i64) .nil)), .nil⟩
def qbd_an : Ann := {}
def qbd_c : Code := (match Try.f55.body with | some c => c | none => .skip)
def qbd_a : StSh := ⟨.normal, [0], (.cons (.sl true false (.int .u8)) .nil), .nil⟩
def qbd_res : List StSh := [⟨.ret, [0], (.cons (.ptr 0 0 0 0) .nil), (.cons (.bcells 0 false 1 (.cons (.sl false false (.int .u8)) (.cons .bool .nil))) .nil)⟩]
def qbd_tbl (n : Nat) : FuncId → List Entry := fun f => []
def qbd_loops (n : Nat) : Nat → Option LEntry := fun f => none
theorem qbd_run (n : Nat) (b_0 : DC) : funDS (real _) tab (qbd_tbl n) (qbd_loops n) qbd_an Try.f55 0 qbd_a qbd_res b_0 some = qbd n b_0 := by kernel_rfl
def qbd_E (n : Nat) : Entry := ⟨qbd_a, qbd_res, fun d => qbd n d⟩
theorem qbd_ok (n : Nat) : EOK Try.prog 55 (qbd_E n) :=
 EOK.ofS prog_names prog_mixed tab_ok (tbl := qbd_tbl n) (loops := qbd_loops n) (an := qbd_an) (old := []) (n := n) (c := qbd_c) (fn := Try.f55) TblOK.nil (by kernel_rfl) (by kernel_rfl) (by kernel_rfl) (by kernel_rfl) (fun d => by kernel_rfl) LT.nil (fun a => qbd_run n a)
def qcf_an : Ann := {}
def qcf_c : Code := (match Try.f102.body with | some c => c | none => .skip)
def qcf_a : StSh := ⟨.normal, [0, 1], (.cons (.ptr 0 0 0 0) (.cons (.int .i64) .nil)), (.cons (.bcells 0 false 1 (.cons (.sl false false (.int .u8)) (.cons .bool .nil))) .nil)⟩
def qaz_an : Ann := { live := [(0, [0, 3, 4])] }
def qaz_c : Code := (match Try.f56.body with | some c => c | none => .skip)
def qaz_l0 : Code := (match assoc 0 (loopsIn qaz_c 0) with | some c => c | none => .skip)
def qaz_a : StSh := ⟨.normal, [0], (.cons (.ptr 0 0 0 0) .nil), (.cons (.bcells 0 false 1 (.cons (.sl false false (.int .u8)) (.cons .bool .nil))) .nil)⟩
def qat_an : Ann := {}
def qat_c : Code := (match Try.f70.body with | some c => c | none => .skip)
def qat_a : StSh := ⟨.normal, [0, 1], (.cons (.ptr 0 0 0 0) (.cons (.int .i64) .nil)), (.cons (.bcells 0 false 1 (.cons (.sl false false (.int .u8)) (.cons .bool .nil))) .nil)⟩
def qbb_an : Ann := {}
def qbb_c : Code := (match Try.f104.body with | some c => c | none => .skip)
def qbb_a : StSh := ⟨.normal, [0], (.cons (.ptr 0 0 0 0) .nil), (.cons (.bcells 0 false 1 (.cons (.sl false false (.int .u8)) (.cons .bool .nil))) .nil)⟩
def qbb_res : List StSh := [⟨.ret, [0], (.cons .bool .nil), (.cons (.bcells 0 false 1 (.cons (.sl false false (.int .u8)) (.cons .bool .nil))) .nil)⟩]
def qbb_tbl (n : Nat) : FuncId → List Entry := fun f => []
def qbb_loops (n : Nat) : Nat → Option LEntry := fun f => none
theorem qbb_run (n : Nat) (m0 : DC) (m0_1 : Bool) : funDS (real _) tab (qbb_tbl n) (qbb_loops n) qbb_an Try.f104 1 qbb_a qbb_res (m0, m0_1) some = qbb n m0 m0_1 := by kernel_rfl
def qbb_E (n : Nat) : Entry := ⟨qbb_a, qbb_res, fun d => qbb n d.1 d.2⟩
theorem qbb_ok (n : Nat) : EOK Try.prog 104 (qbb_E n) :=
 EOK.ofS prog_names prog_mixed tab_ok (tbl := qbb_tbl n) (loops := qbb_loops n) (an := qbb_an) (old := [some true]) (n := n) (c := qbb_c) (fn := Try.f104) TblOK.nil (by kernel_rfl) (by kernel_rfl) (by kernel_rfl) (by kernel_rfl) (fun d => by kernel_rfl) LT.nil (fun a => qbb_run n a.1 a.2)
def qas_an : Ann := {}
def qas_c : Code := (match Try.f105.body with | some c => c | none => .skip)
def qas_a : StSh := ⟨.normal, [0], (.cons (.ptr 0 0 0 0) .nil), (.cons (.bcells 0 false 1 (.cons (.sl false false (.int .u8)) (.cons .bool .nil))) .nil)⟩
def qas_res : List StSh := [⟨.ret, [0], (.cons (.tup .nil) .nil), (.cons (.bcells 0 false 1 (.cons (.sl false false (.int .u8)) (.cons .bool .nil))) .nil)⟩]
def qas_tbl (n : Nat) : FuncId → List Entry := fun f => []
def qas_loops (n : Nat) : Nat → Option LEntry := fun f => none
theorem qas_run (n : Nat) (m0 : DC) (m0_1 : Bool) : funDS (real _) tab (qas_tbl n) (qas_loops n) qas_an Try.f105 1 qas_a qas_res (m0, m0_1) some = qas n m0 m0_1 := by kernel_rfl
def qas_E (n : Nat) : Entry := ⟨qas_a, qas_res, fun d => qas n d.1 d.2⟩
theorem qas_ok (n : Nat) : EOK Try.prog 105 (qas_E n) :=
 EOK.ofS prog_names prog_mixed tab_ok (tbl := qas_tbl n) (loops := qas_loops n) (an := qas_an) (old := [some true]) (n := n) (c := qas_c) (fn := Try.f105) TblOK.nil (by kernel_rfl) (by kernel_rfl) (by kernel_rfl) (by kernel_rfl) (fun d => by kernel_rfl) LT.nil (fun a => qas_run n a.1 a.2)
def qat_res : List StSh := [⟨.ret, [0], (.cons (.sl false false (.int .u8)) .nil), (.cons (.bcells 0 false 1 (.cons (.sl false false (.int .u8)) (.cons .bool .nil))) .nil)⟩]
def qat_tbl (n : Nat) : FuncId → List Entry := fun f => bif Nat.beq f 104 then [qbb_E n] else bif Nat.beq f 105 then [qas_E n] else []
def qat_loops (n : Nat) : Nat → Option LEntry := fun f => none
theorem qat_run (n : Nat) (n_1 : Int) (m0 : DC) (m0_1 : Bool) : funDS (real _) tab (qat_tbl n) (qat_loops n) qat_an Try.f70 1 qat_a qat_res (n_1, (m0, m0_1)) some = qat n n_1 m0 m0_1 := by kernel_rfl
def qat_E (n : Nat) : Entry := ⟨qat_a, qat_res, fun d => qat n d.1 d.2.1 d.2.2⟩
theorem qat_ok (n : Nat) : EOK Try.prog 70 (qat_E n) :=
 EOK.ofS prog_names prog_mixed tab_ok (tbl := qat_tbl n) (loops := qat_loops n) (an := qat_an) (old := [some true]) (n := n) (c := qat_c) (fn := Try.f70) (TblOK.cons (AllE.cons (qbb_ok n) AllE.nil) (TblOK.cons (AllE.cons (qas_ok n) AllE.nil) TblOK.nil)) (by kernel_rfl) (by kernel_rfl) (by kernel_rfl) (by kernel_rfl) (fun d => by kernel_rfl) LT.nil (fun a => qat_run n a.1 a.2.1 a.2.2)
def qaz_h0 : List StSh := [⟨.normal, [0, 3, 4], (.cons (.ptr 0 0 0 0) (.cons (.int .u64) (.cons (.int .i64) .nil))), (.cons (.bcells 0 false 1 (.cons (.sl false false (.int .u8)) (.cons .bool .nil))) .nil)⟩]
def qaz_o0 : List StSh := [⟨.ret, [2], (.cons (.int .u64) .nil), (.cons (.bcells 0 false 1 (.cons (.sl false false (.int .u8)) (.cons .bool .nil))) .nil)⟩]
def qaz_L0 (n : Nat) : LEntry := ⟨qaz_h0, qaz_o0, qaz_W0 n⟩
def qaz_res : List StSh := [⟨.ret, [0], (.cons (.int .u64) .nil), (.cons (.bcells 0 false 1 (.cons (.sl false false (.int .u8)) (.cons .bool .nil))) .nil)⟩]
def qaz_tbl (n : Nat) : FuncId → List Entry := fun f => bif Nat.beq f 70 then [qat_E n] else bif Nat.beq f 105 then [qas_E n] else []
def qaz_loops (n : Nat) : Nat → Option LEntry := fun f => bif Nat.beq f 0 then some (qaz_L0 n) else none
theorem qaz_r0 (n : Nat) (v_3 : Int) (k_4 : Int) (m0 : DC) (m0_1 : Bool) : roundK (real _) tab (qaz_tbl n) (qaz_loops n) qaz_an [some true] qaz_l0 0 [0, 3, 4] qaz_h0 qaz_o0 ((v_3, k_4), (m0, m0_1)) some = qaz_B0 n v_3 k_4 m0 m0_1 := by kernel_rfl
theorem qaz_f0 (n : Nat) : LoopFact tab (qaz_tbl n) (qaz_loops n) qaz_an [some true] n 0 qaz_l0 (qaz_L0 n) := ⟨[0, 3, 4], (fun s => qaz_B0 n s.1.1 s.1.2 s.2.1 s.2.2), by kernel_rfl, by kernel_rfl, fun s => rfl, fun s => qaz_r0 n s.1.1 s.1.2 s.2.1 s.2.2⟩
theorem qaz_run (n : Nat) (m0 : DC) (m0_1 : Bool) : funDS (real _) tab (qaz_tbl n) (qaz_loops n) qaz_an Try.f56 1 qaz_a qaz_res (m0, m0_1) some = qaz n m0 m0_1 := by kernel_rfl
def qaz_E (n : Nat) : Entry := ⟨qaz_a, qaz_res, fun d => qaz n d.1 d.2⟩
theorem qaz_ok (n : Nat) : EOK Try.prog 56 (qaz_E n) :=
 EOK.ofS prog_names prog_mixed tab_ok (tbl := qaz_tbl n) (loops := qaz_loops n) (an := qaz_an) (old := [some true]) (n := n) (c := qaz_c) (fn := Try.f56) (TblOK.cons (AllE.cons (qat_ok n) AllE.nil) (TblOK.cons (AllE.cons (qas_ok n) AllE.nil) TblOK.nil)) (by kernel_rfl) (by kernel_rfl) (by kernel_rfl) (by kernel_rfl) (fun d => by kernel_rfl) (LT.cons (by kernel_rfl) (qaz_f0 n) LT.nil) (fun a => qaz_run n a.1 a.2)
def qcf_res : List StSh := [⟨.ret, [0], (.cons (.tup (.cons (.int .i64) (.cons .bool .nil))) .nil), (.cons (.bcells 0 false 1 (.cons (.sl false false (.int .u8)) (.cons .bool .nil))) .nil)⟩]
def qcf_tbl (n : Nat) : FuncId → List Entry := fun f => bif Nat.beq f 56 then [qaz_E n] else bif Nat.beq f 104 then [qbb_E n] else []
def qcf_loops (n : Nat) : Nat → Option LEntry := fun f => none
theorem qcf_run (n : Nat) (most_1 : Int) (m0 : DC) (m0_1 : Bool) : funDS (real _) tab (qcf_tbl n) (qcf_loops n) qcf_an Try.f102 1 qcf_a qcf_res (most_1, (m0, m0_1)) some = qcf n most_1 m0 m0_1 := by kernel_rfl
def qcf_E (n : Nat) : Entry := ⟨qcf_a, qcf_res, fun d => qcf n d.1 d.2.1 d.2.2⟩
theorem qcf_ok (n : Nat) : EOK Try.prog 102 (qcf_E n) :=
 EOK.ofS prog_names prog_mixed tab_ok (tbl := qcf_tbl n) (loops := qcf_loops n) (an := qcf_an) (old := [some true]) (n := n) (c := qcf_c) (fn := Try.f102) (TblOK.cons (AllE.cons (qaz_ok n) AllE.nil) (TblOK.cons (AllE.cons (qbb_ok n) AllE.nil) TblOK.nil)) (by kernel_rfl) (by kernel_rfl) (by kernel_rfl) (by kernel_rfl) (fun d => by kernel_rfl) LT.nil (fun a => qcf_run n a.1 a.2.1 a.2.2)
def qao_an : Ann := {}
def qao_c : Code := (match Try.f103.body with | some c => c | none => .skip)
def qao_a : StSh := ⟨.normal, [0], (.cons (.ptr 0 0 0 0) .nil), (.cons (.bcells 0 false 1 (.cons (.sl false false (.int .u8)) (.cons .bool .nil))) .nil)⟩
def qao_res : List StSh := [⟨.ret, [0], (.cons (.int .i64) .nil), (.cons (.bcells 0 false 1 (.cons (.sl false false (.int .u8)) (.cons .bool .nil))) .nil)⟩]
def qao_tbl (n : Nat) : FuncId → List Entry := fun f => bif Nat.beq f 104 then [qbb_E n] else []
def qao_loops (n : Nat) : Nat → Option LEntry := fun f => none
theorem qao_run (n : Nat) (m0 : DC) (m0_1 : Bool) : funDS (real _) tab (qao_tbl n) (qao_loops n) qao_an Try.f103 1 qao_a qao_res (m0, m0_1) some = qao n m0 m0_1 := by kernel_rfl
def qao_E (n : Nat) : Entry := ⟨qao_a, qao_res, fun d => qao n d.1 d.2⟩
theorem qao_ok (n : Nat) : EOK Try.prog 103 (qao_E n) :=
 EOK.ofS prog_names prog_mixed tab_ok (tbl := qao_tbl n) (loops := qao_loops n) (an := qao_an) (old := [some true]) (n := n) (c := qao_c) (fn := Try.f103) (TblOK.cons (AllE.cons (qbb_ok n) AllE.nil) TblOK.nil) (by kernel_rfl) (by kernel_rfl) (by kernel_rfl) (by kernel_rfl) (fun d => by kernel_rfl) LT.nil (fun a => qao_run n a.1 a.2)
def qcb_h0 : List StSh := [⟨.normal, [6, 9, 22, 23], (.cons (.ptr 0 0 0 0) (.cons (.msw 1 0) (.cons (.int .i64) (.cons (.int .i64) .nil)))), (.cons (.bcells 0 false 1 (.cons (.sl false false (.int .u8)) (.cons .bool .nil))) (.cons (.bts 0 false false false yF) .nil))⟩]
def qcb_o0 : List StSh := [⟨.ret, [4, 5], (.cons (.sl false false yF) (.cons (.int .i64) .nil)), (.cons (.bcells 0 false 1 (.cons (.sl false false (.int .u8)) (.cons .bool .nil))) (.cons (.bts 0 false false false yF) .nil))⟩, ⟨.ret, [4, 5], (.cons (.sl false false yF) (.cons (.int .i64) .nil)), (.cons (.bcells 0 false 1 (.cons (.sl false false (.int .u8)) (.cons .bool .nil))) (.cons (.bts 1 false false false yF) .nil))⟩, ⟨.exit 0, [6, 9], (.cons (.ptr 0 0 0 0) (.cons (.msw 1 0) .nil)), (.cons (.bcells 0 false 1 (.cons (.sl false false (.int .u8)) (.cons .bool .nil))) (.cons (.bts 0 false false false yF) .nil))⟩]
def qcb_L0 (n : Nat) : LEntry := ⟨qcb_h0, qcb_o0, qcb_W0 n⟩
def qcb_res : List StSh := [⟨.ret, [0], (.cons (.tup (.cons (.sl false false yF) (.cons (.int .i64) .nil))) .nil), .nil⟩]
def qcb_tbl (n : Nat) : FuncId → List Entry := fun f => bif Nat.beq f 55 then [qbd_E n] else bif Nat.beq f 102 then [qcf_E n] else bif Nat.beq f 103 then [qao_E n] else bif Nat.beq f 70 then [qat_E n] else bif Nat.beq f 104 then [qbb_E n] else []
def qcb_loops (n : Nat) : Nat → Option LEntry := fun f => bif Nat.beq f 0 then some (qcb_L0 n) else none
theorem qcb_r0 (n : Nat) (t22 : Int) (t23 : Int) (m0 : DC) (m0_1 : Bool) (m1 : DJ) : roundK (real _) tab (qcb_tbl n) (qcb_loops n) qcb_an [] qcb_l0 0 [6, 9, 22, 23] qcb_h0 qcb_o0 ((t22, t23), ((m0, m0_1), m1)) some = qcb_B0 n t22 t23 m0 m0_1 m1 := by kernel_rfl
theorem qcb_f0 (n : Nat) : LoopFact tab (qcb_tbl n) (qcb_loops n) qcb_an [] n 0 qcb_l0 (qcb_L0 n) := ⟨[6, 9, 22, 23], (fun s => qcb_B0 n s.1.1 s.1.2 s.2.1.1 s.2.1.2 s.2.2), by kernel_rfl, by kernel_rfl, fun s => rfl, fun s => qcb_r0 n s.1.1 s.1.2 s.2.1.1 s.2.1.2 s.2.2⟩
theorem qcb_run (n : Nat) (b_0 : DC) (most_1 : Int) : funDS (real _) tab (qcb_tbl n) (qcb_loops n) qcb_an Try.f53 0 qcb_a qcb_res (b_0, most_1) some = qcb n b_0 most_1 := by kernel_rfl
def qcb_E (n : Nat) : Entry := ⟨qcb_a, qcb_res, fun d => qcb n d.1 d.2⟩
theorem qcb_ok (n : Nat) : EOK Try.prog 53 (qcb_E n) :=
 EOK.ofS prog_names prog_mixed tab_ok (tbl := qcb_tbl n) (loops := qcb_loops n) (an := qcb_an) (old := []) (n := n) (c := qcb_c) (fn := Try.f53) (TblOK.cons (AllE.cons (qbd_ok n) AllE.nil) (TblOK.cons (AllE.cons (qcf_ok n) AllE.nil) (TblOK.cons (AllE.cons (qao_ok n) AllE.nil) (TblOK.cons (AllE.cons (qat_ok n) AllE.nil) (TblOK.cons (AllE.cons (qbb_ok n) AllE.nil) TblOK.nil))))) (by kernel_rfl) (by kernel_rfl) (by kernel_rfl) (by kernel_rfl) (fun d => by kernel_rfl) (LT.cons (by kernel_rfl) (qcb_f0 n) LT.nil) (fun a => qcb_run n a.1 a.2)
def qau_an : Ann := {}
def qau_c : Code := (match Try.f54.body with | some c => c | none => .skip)
def qau_a : StSh := ⟨.normal, [0, 1, 2], (.cons (.int .i64) (.cons (.ptr 0 0 0 0) (.cons (.ptr 1 0 0 0) .nil))), (.cons (.bcells 0 false 1 (.cons (.sl false false yF) .nil)) (.cons (.bcells 0 false 1 (.cons .nilS (.cons .nilS (.cons .nilS (.cons .nilS (.cons .nilS .nil)))))) .nil))⟩
def qau_res : List StSh := [⟨.ret, [0], (.cons (.ptr 2 0 0 0) .nil), (.cons (.bcells 0 false 1 (.cons (.sl false false yF) .nil)) (.cons (.bcells 0 false 1 (.cons .nilS (.cons .nilS (.cons .nilS (.cons .nilS (.cons .nilS .nil)))))) (.cons (.bcells 0 false 1 (.cons (.ptr 3 0 0 0) (.cons (.int .i64) (.cons .bool .nil)))) (.cons (.bcells 0 false 1 (.cons (.sl false false (.int .u8)) (.cons .bool .nil))) .nil))))⟩]
def qau_tbl (n : Nat) : FuncId → List Entry := fun f => bif Nat.beq f 55 then [qbd_E n] else []
def qau_loops (n : Nat) : Nat → Option LEntry := fun f => none
theorem qau_run (n : Nat) (k_0 : Int) (m0 : DJ) : funDS (real _) tab (qau_tbl n) (qau_loops n) qau_an Try.f54 2 qau_a qau_res (k_0, m0) some = qau n k_0 m0 := by kernel_rfl
def qau_E (n : Nat) : Entry := ⟨qau_a, qau_res, fun d => qau n d.1 d.2⟩
theorem qau_ok (n : Nat) : EOK Try.prog 54 (qau_E n) :=
 EOK.ofS prog_names prog_mixed tab_ok (tbl := qau_tbl n) (loops := qau_loops n) (an := qau_an) (old := [some true, some true]) (n := n) (c := qau_c) (fn := Try.f54) (TblOK.cons (AllE.cons (qbd_ok n) AllE.nil) TblOK.nil) (by kernel_rfl) (by kernel_rfl) (by kernel_rfl) (by kernel_rfl) (fun d => by kernel_rfl) LT.nil (fun a => qau_run n a.1 a.2)
def qk_an : Ann := { live := [(0, [0, 2, 7, 10, 11])], boxed := [(1, 0), (5, 4)] }
def qk_c : Code := (match Try.f57.body with | some c => c | none => .skip)
def qk_l0 : Code := (match assoc 0 (loopsIn qk_c 0) with | some c => c | none => .skip)
def qk_a : StSh := ⟨.normal, [0, 1, 2], (.cons (.ptr 0 0 0 0) (.cons (.int .i64) (.cons (.fn 58 .nil (.cons (.ptr 1 0 0 0) .nil)) .nil))), (.cons (.bcells 0 false 1 (.cons (.ptr 2 0 0 0) (.cons (.int .i64) (.cons .bool .nil)))) (.cons (.bcells 0 false 1 (.cons (.ptr 0 0 0 0) .nil)) (.cons (.bcells 0 false 1 (.cons (.sl false false (.int .u8)) (.cons .bool .nil))) .nil)))⟩
def ql_an : Ann := {}
def ql_c : Code := (match Try.f71.body with | some c => c | none => .skip)
def ql_a : StSh := ⟨.normal, [0, 1], (.cons (.ptr 0 0 0 0) (.cons (.int .i64) .nil)), (.cons (.bcells 0 false 1 (.cons (.ptr 1 0 0 0) (.cons (.int .i64) (.cons .bool .nil)))) (.cons (.bcells 0 false 1 (.cons (.sl false false (.int .u8)) (.cons .bool .nil))) .nil))⟩
def ql_res : List StSh := [⟨.ret, [0], (.cons (.int .i64) .nil), (.cons (.bcells 0 false 1 (.cons (.ptr 1 0 0 0) (.cons (.int .i64) (.cons .bool .nil)))) (.cons (.bcells 0 false 1 (.cons (.sl false false (.int .u8)) (.cons .bool .nil))) .nil))⟩]
def ql_tbl (n : Nat) : FuncId → List Entry := fun f => bif Nat.beq f 56 then [qaz_E n] else bif Nat.beq f 104 then [qbb_E n] else []
def ql_loops (n : Nat) : Nat → Option LEntry := fun f => none
theorem ql_run (n : Nat) (most_1 : Int) (m0 : Int) (m0_1 : Bool) (m1 : DC) (m1_1 : Bool) : funDS (real _) tab (ql_tbl n) (ql_loops n) ql_an Try.f71 2 ql_a ql_res (most_1, ((m0, m0_1), (m1, m1_1))) some = ql n most_1 m0 m0_1 m1 m1_1 := by kernel_rfl
def ql_E (n : Nat) : Entry := ⟨ql_a, ql_res, fun d => ql n d.1 d.2.1.1 d.2.1.2 d.2.2.1 d.2.2.2⟩
theorem ql_ok (n : Nat) : EOK Try.prog 71 (ql_E n) :=
 EOK.ofS prog_names prog_mixed tab_ok (tbl := ql_tbl n) (loops := ql_loops n) (an := ql_an) (old := [some true, some true]) (n := n) (c := ql_c) (fn := Try.f71) (TblOK.cons (AllE.cons (qaz_ok n) AllE.nil) (TblOK.cons (AllE.cons (qbb_ok n) AllE.nil) TblOK.nil)) (by kernel_rfl) (by kernel_rfl) (by kernel_rfl) (by kernel_rfl) (fun d => by kernel_rfl) LT.nil (fun a => ql_run n a.1 a.2.1.1 a.2.1.2 a.2.2.1 a.2.2.2)
def qay_an : Ann := {}
def qay_c : Code := (match Try.f58.body with | some c => c | none => .skip)
def qay_a : StSh := ⟨.normal, [0], (.cons (.ptr 0 0 0 0) .nil), (.cons (.bcells 0 false 1 (.cons (.ptr 1 0 0 0) .nil)) (.cons (.bcells 0 false 1 (.cons (.ptr 2 0 0 0) (.cons (.int .i64) (.cons .bool .nil)))) (.cons (.bcells 0 false 1 (.cons (.sl false false (.int .u8)) (.cons .bool .nil))) .nil)))⟩
def qd_an : Ann := { live := [(0, [0, 2, 7, 10, 11])], boxed := [(1, 0), (5, 4)] }
def qd_c : Code := (match Try.f59.body with | some c => c | none => .skip)
def qd_l0 : Code := (match assoc 0 (loopsIn qd_c 0) with | some c => c | none => .skip)
def qd_a : StSh := ⟨.normal, [0, 1, 2], (.cons (.ptr 0 0 0 0) (.cons (.int .i64) (.cons (.fn 60 (.cons (.ptr 0 0 0 0) .nil) .nil) .nil))), (.cons (.bcells 0 false 1 (.cons (.ptr 1 0 0 0) (.cons (.int .i64) (.cons .bool .nil)))) (.cons (.bcells 0 false 1 (.cons (.sl false false (.int .u8)) (.cons .bool .nil))) .nil))⟩
def qz_an : Ann := {}
def qz_c : Code := (match Try.f60.body with | some c => c | none => .skip)
def qz_a : StSh := ⟨.normal, [0], (.cons (.ptr 0 0 0 0) .nil), (.cons (.bcells 0 false 1 (.cons (.ptr 1 0 0 0) (.cons (.int .i64) (.cons .bool .nil)))) (.cons (.bcells 0 false 1 (.cons (.sl false false (.int .u8)) (.cons .bool .nil))) .nil))⟩
def qcl_an : Ann := {}
def qcl_c : Code := (match Try.f106.body with | some c => c | none => .skip)
def qcl_a : StSh := ⟨.normal, [0, 1], (.cons (.ptr 0 0 0 0) (.cons (.int .i64) .nil)), (.cons (.bcells 0 false 1 (.cons (.sl false false (.int .u8)) (.cons .bool .nil))) .nil)⟩
def qcl_res : List StSh := [⟨.ret, [0], (.cons (.tup (.cons (.agg (.cons (.int .i64) (.cons (.int .i64) .nil))) (.cons .bool .nil))) .nil), (.cons (.bcells 0 false 1 (.cons (.sl false false (.int .u8)) (.cons .bool .nil))) .nil)⟩]
def qcl_tbl (n : Nat) : FuncId → List Entry := fun f => bif Nat.beq f 56 then [qaz_E n] else bif Nat.beq f 104 then [qbb_E n] else bif Nat.beq f 92 then [qci_E n] else []
def qcl_loops (n : Nat) : Nat → Option LEntry := fun f => none
theorem qcl_run (n : Nat) (recs_1 : Int) (m0 : DC) (m0_1 : Bool) : funDS (real _) tab (qcl_tbl n) (qcl_loops n) qcl_an Try.f106 1 qcl_a qcl_res (recs_1, (m0, m0_1)) some = qcl n recs_1 m0 m0_1 := by kernel_rfl
def qcl_E (n : Nat) : Entry := ⟨qcl_a, qcl_res, fun d => qcl n d.1 d.2.1 d.2.2⟩
theorem qcl_ok (n : Nat) : EOK Try.prog 106 (qcl_E n) :=
 EOK.ofS prog_names prog_mixed tab_ok (tbl := qcl_tbl n) (loops := qcl_loops n) (an := qcl_an) (old := [some true]) (n := n) (c := qcl_c) (fn := Try.f106) (TblOK.cons (AllE.cons (qaz_ok n) AllE.nil) (TblOK.cons (AllE.cons (qbb_ok n) AllE.nil) (TblOK.cons (AllE.cons (qci_ok n) AllE.nil) TblOK.nil))) (by kernel_rfl) (by kernel_rfl) (by kernel_rfl) (by kernel_rfl) (fun d => by kernel_rfl) LT.nil (fun a => qcl_run n a.1 a.2.1 a.2.2)
def qz_res : List StSh := [⟨.ret, [0], (.cons (.agg (.cons (.int .i64) (.cons (.int .i64) .nil))) .nil), (.cons (.bcells 0 false 1 (.cons (.ptr 1 0 0 0) (.cons (.int .i64) (.cons .bool .nil)))) (.cons (.bcells 0 false 1 (.cons (.sl false false (.int .u8)) (.cons .bool .nil))) .nil))⟩]
def qz_tbl (n : Nat) : FuncId → List Entry := fun f => bif Nat.beq f 106 then [qcl_E n] else []
def qz_loops (n : Nat) : Nat → Option LEntry := fun f => none
theorem qz_run (n : Nat) (m0 : Int) (m0_1 : Bool) (m1 : DC) (m1_1 : Bool) : funDS (real _) tab (qz_tbl n) (qz_loops n) qz_an Try.f60 2 qz_a qz_res ((m0, m0_1), (m1, m1_1)) some = qz n m0 m0_1 m1 m1_1 := by kernel_rfl
def qz_E (n : Nat) : Entry := ⟨qz_a, qz_res, fun d => qz n d.1.1 d.1.2 d.2.1 d.2.2⟩
theorem qz_ok (n : Nat) : EOK Try.prog 60 (qz_E n) :=
 EOK.ofS prog_names prog_mixed tab_ok (tbl := qz_tbl n) (loops := qz_loops n) (an := qz_an) (old := [some true, some true]) (n := n) (c := qz_c) (fn := Try.f60) (TblOK.cons (AllE.cons (qcl_ok n) AllE.nil) TblOK.nil) (by kernel_rfl) (by kernel_rfl) (by kernel_rfl) (by kernel_rfl) (fun d => by kernel_rfl) LT.nil (fun a => qz_run n a.1.1 a.1.2 a.2.1 a.2.2)
def qd_h0 : List StSh := [⟨.normal, [0, 2, 7, 10, 11], (.cons (.ptr 0 0 0 0) (.cons (.fn 60 (.cons (.ptr 0 0 0 0) .nil) .nil) (.cons (.msw 2 0) (.cons (.int .i64) (.cons (.int .i64) .nil))))), (.cons (.bcells 0 false 1 (.cons (.ptr 1 0 0 0) (.cons (.int .i64) (.cons .bool .nil)))) (.cons (.bcells 0 false 1 (.cons (.sl false false (.int .u8)) (.cons .bool .nil))) (.cons (.bts 0 false false true yD) .nil)))⟩]
def qd_o0 : List StSh := [⟨.exit 0, [7], (.cons (.msw 2 0) .nil), (.cons (.bcells 0 false 1 (.cons (.ptr 1 0 0 0) (.cons (.int .i64) (.cons .bool .nil)))) (.cons (.bcells 0 false 1 (.cons (.sl false false (.int .u8)) (.cons .bool .nil))) (.cons (.bts 0 false false true yD) .nil)))⟩]
def qd_L0 (n : Nat) : LEntry := ⟨qd_h0, qd_o0, qd_W0 n⟩
def qd_res : List StSh := [⟨.ret, [0], (.cons (.sl false true yD) .nil), (.cons (.bcells 0 false 1 (.cons (.ptr 1 0 0 0) (.cons (.int .i64) (.cons .bool .nil)))) (.cons (.bcells 0 false 1 (.cons (.sl false false (.int .u8)) (.cons .bool .nil))) .nil))⟩]
def qd_tbl (n : Nat) : FuncId → List Entry := fun f => bif Nat.beq f 71 then [ql_E n] else bif Nat.beq f 60 then [qz_E n] else []
def qd_loops (n : Nat) : Nat → Option LEntry := fun f => bif Nat.beq f 0 then some (qd_L0 n) else none
theorem qd_r0 (n : Nat) (t10 : Int) (t11 : Int) (m0 : Int) (m0_1 : Bool) (m1 : DC) (m1_1 : Bool) (m2 : DA) : roundK (real _) tab (qd_tbl n) (qd_loops n) qd_an [some true, some true] qd_l0 0 [0, 2, 7, 10, 11] qd_h0 qd_o0 ((t10, t11), ((m0, m0_1), ((m1, m1_1), m2))) some = qd_B0 n t10 t11 m0 m0_1 m1 m1_1 m2 := by kernel_rfl
theorem qd_f0 (n : Nat) : LoopFact tab (qd_tbl n) (qd_loops n) qd_an [some true, some true] n 0 qd_l0 (qd_L0 n) := ⟨[0, 2, 7, 10, 11], (fun s => qd_B0 n s.1.1 s.1.2 s.2.1.1 s.2.1.2 s.2.2.1.1 s.2.2.1.2 s.2.2.2), by kernel_rfl, by kernel_rfl, fun s => rfl, fun s => qd_r0 n s.1.1 s.1.2 s.2.1.1 s.2.1.2 s.2.2.1.1 s.2.2.1.2 s.2.2.2⟩
theorem qd_run (n : Nat) (most_1 : Int) (m0 : Int) (m0_1 : Bool) (m1 : DC) (m1_1 : Bool) : funDS (real _) tab (qd_tbl n) (qd_loops n) qd_an Try.f59 2 qd_a qd_res (most_1, ((m0, m0_1), (m1, m1_1))) some = qd n most_1 m0 m0_1 m1 m1_1 := by kernel_rfl
def qd_E (n : Nat) : Entry := ⟨qd_a, qd_res, fun d => qd n d.1 d.2.1.1 d.2.1.2 d.2.2.1 d.2.2.2⟩
theorem qd_ok (n : Nat) : EOK Try.prog 59 (qd_E n) :=
 EOK.ofS prog_names prog_mixed tab_ok (tbl := qd_tbl n) (loops := qd_loops n) (an := qd_an) (old := [some true, some true]) (n := n) (c := qd_c) (fn := Try.f59) (TblOK.cons (AllE.cons (ql_ok n) AllE.nil) (TblOK.cons (AllE.cons (qz_ok n) AllE.nil) TblOK.nil)) (by kernel_rfl) (by kernel_rfl) (by kernel_rfl) (by kernel_rfl) (fun d => by kernel_rfl) (LT.cons (by kernel_rfl) (qd_f0 n) LT.nil) (fun a => qd_run n a.1 a.2.1.1 a.2.1.2 a.2.2.1 a.2.2.2)
def qay_res : List StSh := [⟨.ret, [0], (.cons (.sl false true yD) .nil), (.cons (.bcells 0 false 1 (.cons (.ptr 1 0 0 0) .nil)) (.cons (.bcells 0 false 1 (.cons (.ptr 2 0 0 0) (.cons (.int .i64) (.cons .bool .nil)))) (.cons (.bcells 0 false 1 (.cons (.sl false false (.int .u8)) (.cons .bool .nil))) .nil)))⟩]
def qay_tbl (n : Nat) : FuncId → List Entry := fun f => bif Nat.beq f 59 then [qd_E n] else []
def qay_loops (n : Nat) : Nat → Option LEntry := fun f => none
theorem qay_run (n : Nat) (m1 : Int) (m1_1 : Bool) (m2 : DC) (m2_1 : Bool) : funDS (real _) tab (qay_tbl n) (qay_loops n) qay_an Try.f58 3 qay_a qay_res ((m1, m1_1), (m2, m2_1)) some = qay n m1 m1_1 m2 m2_1 := by kernel_rfl
def qay_E (n : Nat) : Entry := ⟨qay_a, qay_res, fun d => qay n d.1.1 d.1.2 d.2.1 d.2.2⟩
theorem qay_ok (n : Nat) : EOK Try.prog 58 (qay_E n) :=
 EOK.ofS prog_names prog_mixed tab_ok (tbl := qay_tbl n) (loops := qay_loops n) (an := qay_an) (old := [some true, some true, some true]) (n := n) (c := qay_c) (fn := Try.f58) (TblOK.cons (AllE.cons (qd_ok n) AllE.nil) TblOK.nil) (by kernel_rfl) (by kernel_rfl) (by kernel_rfl) (by kernel_rfl) (fun d => by kernel_rfl) LT.nil (fun a => qay_run n a.1.1 a.1.2 a.2.1 a.2.2)
def qk_h0 : List StSh := [⟨.normal, [0, 2, 7, 10, 11], (.cons (.ptr 0 0 0 0) (.cons (.fn 58 .nil (.cons (.ptr 1 0 0 0) .nil)) (.cons (.msw 3 0) (.cons (.int .i64) (.cons (.int .i64) .nil))))), (.cons (.bcells 0 false 1 (.cons (.ptr 2 0 0 0) (.cons (.int .i64) (.cons .bool .nil)))) (.cons (.bcells 0 false 1 (.cons (.ptr 0 0 0 0) .nil)) (.cons (.bcells 0 false 1 (.cons (.sl false false (.int .u8)) (.cons .bool .nil))) (.cons (.bts 0 false false false yA) .nil))))⟩]
def qk_o0 : List StSh := [⟨.exit 0, [7], (.cons (.msw 3 0) .nil), (.cons (.bcells 0 false 1 (.cons (.ptr 2 0 0 0) (.cons (.int .i64) (.cons .bool .nil)))) (.cons (.bcells 0 false 1 (.cons (.ptr 0 0 0 0) .nil)) (.cons (.bcells 0 false 1 (.cons (.sl false false (.int .u8)) (.cons .bool .nil))) (.cons (.bts 0 false false false yA) .nil))))⟩]
def qk_L0 (n : Nat) : LEntry := ⟨qk_h0, qk_o0, qk_W0 n⟩
def qk_res : List StSh := [⟨.ret, [0], (.cons (.sl false false yA) .nil), (.cons (.bcells 0 false 1 (.cons (.ptr 2 0 0 0) (.cons (.int .i64) (.cons .bool .nil)))) (.cons (.bcells 0 false 1 (.cons (.ptr 0 0 0 0) .nil)) (.cons (.bcells 0 false 1 (.cons (.sl false false (.int .u8)) (.cons .bool .nil))) .nil)))⟩]
def qk_tbl (n : Nat) : FuncId → List Entry := fun f => bif Nat.beq f 71 then [ql_E n] else bif Nat.beq f 58 then [qay_E n] else []
def qk_loops (n : Nat) : Nat → Option LEntry := fun f => bif Nat.beq f 0 then some (qk_L0 n) else none
theorem qk_r0 (n : Nat) (t10 : Int) (t11 : Int) (m0 : Int) (m0_1 : Bool) (m2 : DC) (m2_1 : Bool) (m3 : DG) : roundK (real _) tab (qk_tbl n) (qk_loops n) qk_an [some true, some true, some true] qk_l0 0 [0, 2, 7, 10, 11] qk_h0 qk_o0 ((t10, t11), ((m0, m0_1), ((m2, m2_1), m3))) some = qk_B0 n t10 t11 m0 m0_1 m2 m2_1 m3 := by kernel_rfl
theorem qk_f0 (n : Nat) : LoopFact tab (qk_tbl n) (qk_loops n) qk_an [some true, some true, some true] n 0 qk_l0 (qk_L0 n) := ⟨[0, 2, 7, 10, 11], (fun s => qk_B0 n s.1.1 s.1.2 s.2.1.1 s.2.1.2 s.2.2.1.1 s.2.2.1.2 s.2.2.2), by kernel_rfl, by kernel_rfl, fun s => rfl, fun s => qk_r0 n s.1.1 s.1.2 s.2.1.1 s.2.1.2 s.2.2.1.1 s.2.2.1.2 s.2.2.2⟩
theorem qk_run (n : Nat) (most_1 : Int) (m0 : Int) (m0_1 : Bool) (m2 : DC) (m2_1 : Bool) : funDS (real _) tab (qk_tbl n) (qk_loops n) qk_an Try.f57 3 qk_a qk_res (most_1, ((m0, m0_1), (m2, m2_1))) some = qk n most_1 m0 m0_1 m2 m2_1 := by kernel_rfl
def qk_E (n : Nat) : Entry := ⟨qk_a, qk_res, fun d => qk n d.1 d.2.1.1 d.2.1.2 d.2.2.1 d.2.2.2⟩
theorem qk_ok (n : Nat) : EOK Try.prog 57 (qk_E n) :=
 EOK.ofS prog_names prog_mixed tab_ok (tbl := qk_tbl n) (loops := qk_loops n) (an := qk_an) (old := [some true, some true, some true]) (n := n) (c := qk_c) (fn := Try.f57) (TblOK.cons (AllE.cons (ql_ok n) AllE.nil) (TblOK.cons (AllE.cons (qay_ok n) AllE.nil) TblOK.nil)) (by kernel_rfl) (by kernel_rfl) (by kernel_rfl) (by kernel_rfl) (fun d => by kernel_rfl) (LT.cons (by kernel_rfl) (qk_f0 n) LT.nil) (fun a => qk_run n a.1 a.2.1.1 a.2.1.2 a.2.2.1 a.2.2.2)
def qx_an : Ann := {}
def qx_c : Code := (match Try.f54.body with | some c => c | none => .skip)
def qx_a : StSh := ⟨.normal, [0, 1, 2], (.cons (.int .i64) (.cons (.ptr 0 0 0 0) (.cons (.ptr 1 0 0 0) .nil))), (.cons (.bcells 0 false 1 (.cons (.sl false false yF) .nil)) (.cons (.bcells 0 false 1 (.cons (.sl false false yA) (.cons .nilS (.cons .nilS (.cons .nilS (.cons .nilS .nil)))))) .nil))⟩
def qx_res : List StSh := [⟨.ret, [0], (.cons (.ptr 2 0 0 0) .nil), (.cons (.bcells 0 false 1 (.cons (.sl false false yF) .nil)) (.cons (.bcells 0 false 1 (.cons (.sl false false yA) (.cons .nilS (.cons .nilS (.cons .nilS (.cons .nilS .nil)))))) (.cons (.bcells 0 false 1 (.cons (.ptr 3 0 0 0) (.cons (.int .i64) (.cons .bool .nil)))) (.cons (.bcells 0 false 1 (.cons (.sl false false (.int .u8)) (.cons .bool .nil))) .nil))))⟩]
def qx_tbl (n : Nat) : FuncId → List Entry := fun f => bif Nat.beq f 55 then [qbd_E n] else []
def qx_loops (n : Nat) : Nat → Option LEntry := fun f => none
theorem qx_run (n : Nat) (k_0 : Int) (m0 : DJ) (m1 : DG) : funDS (real _) tab (qx_tbl n) (qx_loops n) qx_an Try.f54 2 qx_a qx_res (k_0, (m0, m1)) some = qx n k_0 m0 m1 := by kernel_rfl
def qx_E (n : Nat) : Entry := ⟨qx_a, qx_res, fun d => qx n d.1 d.2.1 d.2.2⟩
theorem qx_ok (n : Nat) : EOK Try.prog 54 (qx_E n) :=
 EOK.ofS prog_names prog_mixed tab_ok (tbl := qx_tbl n) (loops := qx_loops n) (an := qx_an) (old := [some true, some true]) (n := n) (c := qx_c) (fn := Try.f54) (TblOK.cons (AllE.cons (qbd_ok n) AllE.nil) TblOK.nil) (by kernel_rfl) (by kernel_rfl) (by kernel_rfl) (by kernel_rfl) (fun d => by kernel_rfl) LT.nil (fun a => qx_run n a.1 a.2.1 a.2.2)
def qn_an : Ann := { live := [(0, [0, 2, 7, 10, 11])], boxed := [(1, 0), (5, 4)] }
def qn_c : Code := (match Try.f61.body with | some c => c | none => .skip)
def qn_l0 : Code := (match assoc 0 (loopsIn qn_c 0) with | some c => c | none => .skip)
def qn_a : StSh := ⟨.normal, [0, 1, 2], (.cons (.ptr 0 0 0 0) (.cons (.int .i64) (.cons (.fn 62 (.cons (.ptr 0 0 0 0) .nil) .nil) .nil))), (.cons (.bcells 0 false 1 (.cons (.ptr 1 0 0 0) (.cons (.int .i64) (.cons .bool .nil)))) (.cons (.bcells 0 false 1 (.cons (.sl false false (.int .u8)) (.cons .bool .nil))) .nil))⟩
def qa_an : Ann := {}
def qa_c : Code := (match Try.f62.body with | some c => c | none => .skip)
def qa_a : StSh := ⟨.normal, [0], (.cons (.ptr 0 0 0 0) .nil), (.cons (.bcells 0 false 1 (.cons (.ptr 1 0 0 0) (.cons (.int .i64) (.cons .bool .nil)))) (.cons (.bcells 0 false 1 (.cons (.sl false false (.int .u8)) (.cons .bool .nil))) .nil))⟩
def qf_an : Ann := { live := [(0, [0, 2, 7, 10, 11])], boxed := [(1, 0), (5, 4)] }
def qf_c : Code := (match Try.f107.body with | some c => c | none => .skip)
def qf_l0 : Code := (match assoc 0 (loopsIn qf_c 0) with | some c => c | none => .skip)
def qf_a : StSh := ⟨.normal, [0, 1, 2], (.cons (.ptr 0 0 0 0) (.cons (.int .i64) (.cons (.fn 108 (.cons (.ptr 0 0 0 0) .nil) .nil) .nil))), (.cons (.bcells 0 false 1 (.cons (.ptr 1 0 0 0) (.cons (.int .i64) (.cons .bool .nil)))) (.cons (.bcells 0 false 1 (.cons (.sl false false (.int .u8)) (.cons .bool .nil))) .nil))⟩
def qj_an : Ann := {}
def qj_c : Code := (match Try.f108.body with | some c => c | none => .skip)
def qj_a : StSh := ⟨.normal, [0], (.cons (.ptr 0 0 0 0) .nil), (.cons (.bcells 0 false 1 (.cons (.ptr 1 0 0 0) (.cons (.int .i64) (.cons .bool .nil)))) (.cons (.bcells 0 false 1 (.cons (.sl false false (.int .u8)) (.cons .bool .nil))) .nil))⟩
def qcp_an : Ann := { live := [(0, [0, 2, 4, 6, 20, 21])] }
def qcp_c : Code := (match Try.f118.body with | some c => c | none => .skip)
def qcp_l0 : Code := (match assoc 0 (loopsIn qcp_c 0) with | some c => c | none => .skip)
def qcp_a : StSh := ⟨.normal, [0], (.cons (.ptr 0 0 0 0) .nil), (.cons (.bcells 0 false 1 (.cons (.sl false false (.int .u8)) (.cons .bool .nil))) .nil)⟩
def qaj_an : Ann := {}
def qaj_c : Code := (match Try.f67.body with | some c => c | none => .skip)
def qaj_a : StSh := ⟨.normal, [0, 1], (.cons (.ptr 0 0 0 0) (.cons (.int .i64) .nil)), (.cons (.bcells 0 false 1 (.cons (.sl false false (.int .u8)) (.cons .bool .nil))) .nil)⟩
def qbc_an : Ann := {}
def qbc_c : Code := (match Try.f109.body with | some c => c | none => .skip)
def qbc_a : StSh := ⟨.normal, [0], (.cons (.sl true false (.int .u8)) .nil), .nil⟩
def qbc_res : List StSh := [⟨.ret, [0], (.cons (.fn 119 .nil (.cons (.ptr 0 0 0 0) .nil)) .nil), (.cons (.bcells 0 false 1 (.cons (.sl true false (.int .u8)) .nil)) .nil)⟩]
def qbc_tbl (n : Nat) : FuncId → List Entry := fun f => []
def qbc_loops (n : Nat) : Nat → Option LEntry := fun f => none
theorem qbc_run (n : Nat) (s_0 : DC) : funDS (real _) tab (qbc_tbl n) (qbc_loops n) qbc_an Try.f109 0 qbc_a qbc_res s_0 some = qbc n s_0 := by kernel_rfl
def qbc_E (n : Nat) : Entry := ⟨qbc_a, qbc_res, fun d => qbc n d⟩
theorem qbc_ok (n : Nat) : EOK Try.prog 109 (qbc_E n) :=
 EOK.ofS prog_names prog_mixed tab_ok (tbl := qbc_tbl n) (loops := qbc_loops n) (an := qbc_an) (old := []) (n := n) (c := qbc_c) (fn := Try.f109) TblOK.nil (by kernel_rfl) (by kernel_rfl) (by kernel_rfl) (by kernel_rfl) (fun d => by kernel_rfl) LT.nil (fun a => qbc_run n a)
def qaj_res : List StSh := [⟨.ret, [0], (.cons (.int .u64) .nil), (.cons (.bcells 0 false 1 (.cons (.sl false false (.int .u8)) (.cons .bool .nil))) .nil)⟩]
def qaj_tbl (n : Nat) : FuncId → List Entry := fun f => bif Nat.beq f 70 then [qat_E n] else bif Nat.beq f 109 then [qbc_E n] else []
def qaj_E (n : Nat) : Entry := ⟨qaj_a, qaj_res, fun d => qaj n d.1 d.2.1 d.2.2⟩
end
end Sx
