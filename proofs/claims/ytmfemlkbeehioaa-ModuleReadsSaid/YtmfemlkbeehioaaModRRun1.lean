import Derived.Test.YtmfemlkbeehioaaProg
import Derived.Test.YtmfemlkbeehioaaLib32
import Derived.Test.YtmfemlkbeehioaaModRSh
import Derived.KernelRfl
open Go Go.Ab Go.Proofs
set_option linter.unusedVariables false
set_option maxRecDepth 20000
namespace Sx
noncomputable section
abbrev yA : Ty := (.sl true (.cons (.int .i64) (.int .i64)))
abbrev yB : Ty := (.cons (.sl true (.cons (.int .i64) (.int .i64))) (.cons (.int .i64) (.cons (.int .i64) (.cons (.sl true (.cons (.int .i64) (.int .i64))) (.sl true (.cons (.int .i64) (.cons (.int .i64) (.int .i64))))))))
abbrev yC : Ty := (.cons (.sl true (.cons (.int .i64) (.int .i64))) (.cons (.int .i64) (.int .i64)))
abbrev yD : Ty := (.cons (.int .i64) (.int .i64))
abbrev yE : Ty := (.cons (.int .i64) (.cons (.int .i64) (.int .i64)))
abbrev yF : Ty := (.sl false (.int .u8))
def ti2 : TI := ⟨.int .i64, 1, 8, false, some (.int .i64), false, [.int .i64 0]⟩
def ti3 : TI := ⟨.int .i64, 1, 8, false, some (.int .i64), false, [.int .i64 0]⟩
def ti4 : TI := ⟨.bool, 1, 1, false, some .bool, false, [.bool false]⟩
def ti5 : TI := ⟨.int .u8, 1, 1, false, some (.int .u8), false, [.int .u8 0]⟩
def ti6 : TI := ⟨.int .u8, 1, 1, false, some (.int .u8), false, [.int .u8 0]⟩
def ti7 : TI := ⟨.st [(0, 1, 2), (1, 1, 3), (2, 1, 4), (3, 1, 6)], 4, 24, true, some (.cons (.int .i64) (.cons (.int .i64) (.cons .bool (.int .u8)))), true, [.int .i64 0, .int .i64 0, .bool false, .int .u8 0]⟩
def ti8 : TI := ⟨.st [(0, 1, 2), (1, 1, 3), (2, 1, 4), (3, 1, 6)], 4, 24, true, some (.cons (.int .i64) (.cons (.int .i64) (.cons .bool (.int .u8)))), true, [.int .i64 0, .int .i64 0, .bool false, .int .u8 0]⟩
def ti9 : TI := ⟨.str, 1, 16, false, some .str, false, [.string (ByteArray.mk (List.toArray []))]⟩
def ti10 : TI := ⟨.str, 1, 16, false, some .str, false, [.string (ByteArray.mk (List.toArray []))]⟩
def ti11 : TI := ⟨.str, 1, 16, false, some .str, false, [.string (ByteArray.mk (List.toArray []))]⟩
def ti12 : TI := ⟨.int .u64, 1, 8, false, some (.int .u64), false, [.int .u64 0]⟩
def ti13 : TI := ⟨.st [(0, 1, 9), (1, 1, 12)], 2, 24, true, some (.cons .str (.int .u64)), false, [.string (ByteArray.mk (List.toArray [])), .int .u64 0]⟩
def ti14 : TI := ⟨.st [(0, 1, 9), (1, 1, 12)], 2, 24, true, some (.cons .str (.int .u64)), false, [.string (ByteArray.mk (List.toArray [])), .int .u64 0]⟩
def ti15 : TI := ⟨.ptr, 1, 8, false, none, false, [.pointer none]⟩
def ti16 : TI := ⟨.ptr, 1, 8, false, none, false, [.pointer none]⟩
def ti17 : TI := ⟨.ptr, 1, 8, false, none, false, [.pointer none]⟩
def ti18 : TI := ⟨.st [(0, 1, 17)], 1, 8, true, none, false, [.pointer none]⟩
def ti19 : TI := ⟨.st [(0, 1, 17)], 1, 8, true, none, false, [.pointer none]⟩
def ti21 : TI := ⟨.int .i32, 1, 4, false, some (.int .i32), false, [.int .i32 0]⟩
def ti22 : TI := ⟨.st [(0, 1, 3), (1, 1, 3)], 2, 16, true, some (.cons (.int .i64) (.int .i64)), true, [.int .i64 0, .int .i64 0]⟩
def ti23 : TI := ⟨.st [(0, 1, 3), (1, 1, 3)], 2, 16, true, some (.cons (.int .i64) (.int .i64)), true, [.int .i64 0, .int .i64 0]⟩
def ti24 : TI := ⟨.sl 23, 1, 24, false, some (.sl true (.cons (.int .i64) (.int .i64))), false, [.slice none 0 0]⟩
def ti25 : TI := ⟨.sl 40, 1, 24, false, some (.sl true (.cons (.int .i64) (.cons (.int .i64) (.int .i64)))), false, [.slice none 0 0]⟩
def ti26 : TI := ⟨.st [(0, 1, 24), (1, 2, 23), (3, 1, 24), (4, 1, 25)], 5, 88, true, some (.cons (.sl true (.cons (.int .i64) (.int .i64))) (.cons (.int .i64) (.cons (.int .i64) (.cons (.sl true (.cons (.int .i64) (.int .i64))) (.sl true (.cons (.int .i64) (.cons (.int .i64) (.int .i64)))))))), false, [.slice none 0 0, .int .i64 0, .int .i64 0, .slice none 0 0, .slice none 0 0]⟩
def ti27 : TI := ⟨.st [(0, 1, 24), (1, 2, 23), (3, 1, 24), (4, 1, 25)], 5, 88, true, some (.cons (.sl true (.cons (.int .i64) (.int .i64))) (.cons (.int .i64) (.cons (.int .i64) (.cons (.sl true (.cons (.int .i64) (.int .i64))) (.sl true (.cons (.int .i64) (.cons (.int .i64) (.int .i64)))))))), false, [.slice none 0 0, .int .i64 0, .int .i64 0, .slice none 0 0, .slice none 0 0]⟩
def ti28 : TI := ⟨.sl 27, 1, 24, false, some (.sl true (.cons (.sl true (.cons (.int .i64) (.int .i64))) (.cons (.int .i64) (.cons (.int .i64) (.cons (.sl true (.cons (.int .i64) (.int .i64))) (.sl true (.cons (.int .i64) (.cons (.int .i64) (.int .i64))))))))), false, [.slice none 0 0]⟩
def ti29 : TI := ⟨.sl 24, 1, 24, false, some (.sl false (.sl true (.cons (.int .i64) (.int .i64)))), false, [.slice none 0 0]⟩
def ti30 : TI := ⟨.sl 38, 1, 24, false, some (.sl true (.cons (.sl true (.cons (.int .i64) (.int .i64))) (.cons (.int .i64) (.int .i64)))), false, [.slice none 0 0]⟩
def ti31 : TI := ⟨.sl 36, 1, 24, false, some (.sl false (.int .u64)), false, [.slice none 0 0]⟩
def ti32 : TI := ⟨.sl 9, 1, 24, false, some (.sl false .str), false, [.slice none 0 0]⟩
def ti33 : TI := ⟨.st [(0, 1, 29), (1, 1, 28), (2, 1, 30), (3, 1, 31), (4, 1, 32)], 5, 120, true, some (.cons (.sl false (.sl true (.cons (.int .i64) (.int .i64)))) (.cons (.sl true (.cons (.sl true (.cons (.int .i64) (.int .i64))) (.cons (.int .i64) (.cons (.int .i64) (.cons (.sl true (.cons (.int .i64) (.int .i64))) (.sl true (.cons (.int .i64) (.cons (.int .i64) (.int .i64))))))))) (.cons (.sl true (.cons (.sl true (.cons (.int .i64) (.int .i64))) (.cons (.int .i64) (.int .i64)))) (.cons (.sl false (.int .u64)) (.sl false .str))))), false, [.slice none 0 0, .slice none 0 0, .slice none 0 0, .slice none 0 0, .slice none 0 0]⟩
def ti34 : TI := ⟨.st [(0, 1, 29), (1, 1, 28), (2, 1, 30), (3, 1, 31), (4, 1, 32)], 5, 120, true, some (.cons (.sl false (.sl true (.cons (.int .i64) (.int .i64)))) (.cons (.sl true (.cons (.sl true (.cons (.int .i64) (.int .i64))) (.cons (.int .i64) (.cons (.int .i64) (.cons (.sl true (.cons (.int .i64) (.int .i64))) (.sl true (.cons (.int .i64) (.cons (.int .i64) (.int .i64))))))))) (.cons (.sl true (.cons (.sl true (.cons (.int .i64) (.int .i64))) (.cons (.int .i64) (.int .i64)))) (.cons (.sl false (.int .u64)) (.sl false .str))))), false, [.slice none 0 0, .slice none 0 0, .slice none 0 0, .slice none 0 0, .slice none 0 0]⟩
def ti35 : TI := ⟨.sl 3, 1, 24, false, some (.sl false (.int .i64)), false, [.slice none 0 0]⟩
def ti36 : TI := ⟨.int .u64, 1, 8, false, some (.int .u64), false, [.int .u64 0]⟩
def ti37 : TI := ⟨.st [(0, 1, 24), (1, 2, 23)], 3, 40, true, some (.cons (.sl true (.cons (.int .i64) (.int .i64))) (.cons (.int .i64) (.int .i64))), false, [.slice none 0 0, .int .i64 0, .int .i64 0]⟩
def ti38 : TI := ⟨.st [(0, 1, 24), (1, 2, 23)], 3, 40, true, some (.cons (.sl true (.cons (.int .i64) (.int .i64))) (.cons (.int .i64) (.int .i64))), false, [.slice none 0 0, .int .i64 0, .int .i64 0]⟩
def ti39 : TI := ⟨.st [(0, 1, 3), (1, 1, 3), (2, 1, 3)], 3, 24, true, some (.cons (.int .i64) (.cons (.int .i64) (.int .i64))), true, [.int .i64 0, .int .i64 0, .int .i64 0]⟩
def ti40 : TI := ⟨.st [(0, 1, 3), (1, 1, 3), (2, 1, 3)], 3, 24, true, some (.cons (.int .i64) (.cons (.int .i64) (.int .i64))), true, [.int .i64 0, .int .i64 0, .int .i64 0]⟩
def ti41 : TI := ⟨.int .i64, 1, 8, false, some (.int .i64), false, [.int .i64 0]⟩
def ti49 : TI := ⟨.sl 5, 1, 24, false, some (.sl false (.int .u8)), false, [.slice none 0 0]⟩
def ti54 : TI := ⟨.int .u32, 1, 4, false, some (.int .u32), false, [.int .u32 0]⟩
def ti62 : TI := ⟨.int .u16, 1, 2, false, some (.int .u16), false, [.int .u16 0]⟩
def ti73 : TI := ⟨.sl 49, 1, 24, false, some (.sl false (.sl false (.int .u8))), false, [.slice none 0 0]⟩
def ti81 : TI := ⟨.ptr, 1, 8, false, none, false, [.pointer none]⟩
def ti82 : TI := ⟨.ptr, 1, 8, false, none, false, [.pointer none]⟩
def ti84 : TI := ⟨.st [(0, 1, 82), (1, 1, 3), (2, 1, 4)], 3, 24, true, none, false, [.pointer none, .int .i64 0, .bool false]⟩
def ti85 : TI := ⟨.st [(0, 1, 82), (1, 1, 3), (2, 1, 4)], 3, 24, true, none, false, [.pointer none, .int .i64 0, .bool false]⟩
def ti122 : TI := ⟨.ptr, 1, 8, false, none, false, [.pointer none]⟩
def ti123 : TI := ⟨.st [(0, 1, 49)], 1, 24, true, some (.sl false (.int .u8)), false, [.slice none 0 0]⟩
def ti124 : TI := ⟨.st [(0, 1, 49)], 1, 24, true, some (.sl false (.int .u8)), false, [.slice none 0 0]⟩
def ti127 : TI := ⟨.int .u64, 1, 8, false, some (.int .u64), false, [.int .u64 0]⟩
def ti131 : TI := ⟨.st [(0, 1, 49), (1, 1, 4)], 2, 32, true, some (.cons (.sl false (.int .u8)) .bool), false, [.slice none 0 0, .bool false]⟩
def ti132 : TI := ⟨.st [(0, 1, 49), (1, 1, 4)], 2, 32, true, some (.cons (.sl false (.int .u8)) .bool), false, [.slice none 0 0, .bool false]⟩
def ti145 : TI := ⟨.arr 2 3, 2, 16, true, none, false, [.int .i64 0, .int .i64 0]⟩
def ti149 : TI := ⟨.arr 2 36, 2, 16, true, none, false, [.int .u64 0, .int .u64 0]⟩
def ti150 : TI := ⟨.st [(0, 1, 17), (1, 1, 17), (2, 1, 17), (3, 1, 9)], 4, 40, true, none, false, [.pointer none, .pointer none, .pointer none, .string (ByteArray.mk (List.toArray []))]⟩
def ti151 : TI := ⟨.st [(0, 1, 17), (1, 1, 17), (2, 1, 17), (3, 1, 9)], 4, 40, true, none, false, [.pointer none, .pointer none, .pointer none, .string (ByteArray.mk (List.toArray []))]⟩
def ti152 : TI := ⟨.arr 0 16, 0, 0, true, none, false, []⟩
def ti153 : TI := ⟨.st [(0, 0, 152)], 0, 0, true, none, false, []⟩
def ti154 : TI := ⟨.st [(0, 0, 152)], 0, 0, true, none, false, []⟩
def ti155 : TI := ⟨.int .u8, 1, 1, false, some (.int .u8), false, [.int .u8 0]⟩
def ti156 : TI := ⟨.int .u8, 1, 1, false, some (.int .u8), false, [.int .u8 0]⟩
def ti158 : TI := ⟨.ptr, 1, 8, false, none, false, [.pointer none]⟩
def ti159 : TI := ⟨.int .i32, 1, 4, false, some (.int .i32), false, [.int .i32 0]⟩
def ti160 : TI := ⟨.int .i32, 1, 4, false, some (.int .i32), false, [.int .i32 0]⟩
def ti163 : TI := ⟨.other, 1, 8, false, none, false, [.pointer none]⟩
def tabL : List (Nat × TI) := [(2, ti2), (3, ti3), (4, ti4), (5, ti5), (6, ti6), (7, ti7), (8, ti8), (9, ti9), (10, ti10), (11, ti11), (12, ti12), (13, ti13), (14, ti14), (15, ti15), (16, ti16), (17, ti17), (18, ti18), (19, ti19), (21, ti21), (22, ti22), (23, ti23), (24, ti24), (25, ti25), (26, ti26), (27, ti27), (28, ti28), (29, ti29), (30, ti30), (31, ti31), (32, ti32), (33, ti33), (34, ti34), (35, ti35), (36, ti36), (37, ti37), (38, ti38), (39, ti39), (40, ti40), (41, ti41), (49, ti49), (54, ti54), (62, ti62), (73, ti73), (81, ti81), (82, ti82), (84, ti84), (85, ti85), (122, ti122), (123, ti123), (124, ti124), (127, ti127), (131, ti131), (132, ti132), (145, ti145), (149, ti149), (150, ti150), (151, ti151), (152, ti152), (153, ti153), (154, ti154), (155, ti155), (156, ti156), (158, ti158), (159, ti159), (160, ti160), (163, ti163)]
def tab : TypeId → Option TI := fun t => assoc t tabL
theorem tab_ok : TabOK Try.prog tab := (show TabOK Try.prog (fun t => assoc t tabL) from TabOK.of_list _ (by kernel_rfl))
theorem prog_names : namesOK Try.prog = true := by kernel_rfl
theorem prog_mixed : Try.prog.follows .mixedOrders = true := by kernel_rfl
def law06ModuleBack_c : Code := (match Try.f7.body with | some c => c | none => .skip)
def qbd_an : Ann := {}
def qbd_c : Code := (match Try.f19.body with | some c => c | none => .skip)
def qbd_a : StSh := ⟨.normal, [], .nil, .nil⟩
def qbc_an : Ann := {}
def qbc_c : Code := (match Try.f20.body with | some c => c | none => .skip)
def qbc_a : StSh := ⟨.normal, [0], (.cons (.agg (.cons (.sl true false yA) (.cons (.sl true true yB) (.cons (.sl true true yC) (.cons (.sl true false (.int .u64)) (.cons (.sl true false .str) .nil)))))) .nil), .nil⟩
def qbx_an : Ann := {}
def qbx_c : Code := (match Try.f39.body with | some c => c | none => .skip)
def qbx_a : StSh := ⟨.normal, [0], (.cons (.agg (.cons (.sl true false yA) (.cons (.sl true true yB) (.cons (.sl true true yC) (.cons (.sl true false (.int .u64)) (.cons (.sl true false .str) .nil)))))) .nil), .nil⟩
def qf_an : Ann := {}
def qf_c : Code := (match Try.f85.body with | some c => c | none => .skip)
def qf_a : StSh := ⟨.normal, [0, 1], (.cons (.sl true false yA) (.cons (.fn 86 .nil (.cons (.ptr 0 0 0 0) .nil)) .nil)), (.cons (.bcells 0 false 1 (.cons (.int .i64) .nil)) .nil)⟩
def qx_an : Ann := { live := [(0, [0, 1, 7, 8])] }
def qx_c : Code := (match Try.f111.body with | some c => c | none => .skip)
def qx_l0 : Code := (match assoc 0 (loopsIn qx_c 0) with | some c => c | none => .skip)
def qx_a : StSh := ⟨.normal, [0, 1], (.cons (.sl true false yA) (.cons (.fn 86 .nil (.cons (.ptr 0 0 0 0) .nil)) .nil)), (.cons (.bcells 0 false 1 (.cons (.int .i64) .nil)) .nil)⟩
def qbl_an : Ann := {}
def qbl_c : Code := (match Try.f86.body with | some c => c | none => .skip)
def qbl_a : StSh := ⟨.normal, [0, 1], (.cons (.sl true true yD) (.cons (.ptr 0 0 0 0) .nil)), (.cons (.bcells 0 false 1 (.cons (.int .i64) .nil)) .nil)⟩
def qbt_an : Ann := {}
def qbt_c : Code := (match Try.f87.body with | some c => c | none => .skip)
def qbt_a : StSh := ⟨.normal, [0, 1, 2], (.cons (.sl true true yD) (.cons (.int .i64) (.cons (.int .i64) .nil))), .nil⟩
def qv_an : Ann := {}
def qv_c : Code := (match Try.f31.body with | some c => c | none => .skip)
def qv_a : StSh := ⟨.normal, [0, 1], (.cons (.sl true true yD) (.cons (.fn 112 .nil (.cons (.ptr 0 0 0 0) .nil)) .nil)), (.cons (.bcells 0 false 1 (.cons (.int .i64) .nil)) .nil)⟩
def qaw_an : Ann := { live := [(0, [0, 1, 7, 8])] }
def qaw_c : Code := (match Try.f83.body with | some c => c | none => .skip)
def qaw_l0 : Code := (match assoc 0 (loopsIn qaw_c 0) with | some c => c | none => .skip)
def qaw_a : StSh := ⟨.normal, [0, 1], (.cons (.sl true true yD) (.cons (.fn 112 .nil (.cons (.ptr 0 0 0 0) .nil)) .nil)), (.cons (.bcells 0 false 1 (.cons (.int .i64) .nil)) .nil)⟩
def qbj_an : Ann := {}
def qbj_c : Code := (match Try.f112.body with | some c => c | none => .skip)
def qbj_a : StSh := ⟨.normal, [0, 1], (.cons (.agg (.cons (.int .i64) (.cons (.int .i64) .nil))) (.cons (.ptr 0 0 0 0) .nil)), (.cons (.bcells 0 false 1 (.cons (.int .i64) .nil)) .nil)⟩
def qcj_an : Ann := {}
def qcj_c : Code := (match Try.f92.body with | some c => c | none => .skip)
def qcj_a : StSh := ⟨.normal, [0, 1], (.cons (.agg (.cons (.int .i64) (.cons (.int .i64) .nil))) (.cons (.int .i64) .nil)), .nil⟩
def qcj_res : List StSh := [⟨.ret, [0], (.cons .bool .nil), .nil⟩]
def qcj_tbl (n : Nat) : FuncId → List Entry := fun f => []
def qcj_loops (n : Nat) : Nat → Option LEntry := fun f => none
theorem qcj_run (n : Nat) (t_0 : Int) (t_0_1 : Int) (recs_1 : Int) : funDS (real _) tab (qcj_tbl n) (qcj_loops n) qcj_an Try.f92 0 qcj_a qcj_res ((t_0, t_0_1), recs_1) some = qcj n t_0 t_0_1 recs_1 := by kernel_rfl
def qcj_E (n : Nat) : Entry := ⟨qcj_a, qcj_res, fun d => qcj n d.1.1 d.1.2 d.2⟩
theorem qcj_ok (n : Nat) : EOK Try.prog 92 (qcj_E n) :=
 EOK.ofS prog_names prog_mixed tab_ok (tbl := qcj_tbl n) (loops := qcj_loops n) (an := qcj_an) (old := []) (n := n) (c := qcj_c) (fn := Try.f92) TblOK.nil (by kernel_rfl) (by kernel_rfl) (by kernel_rfl) (by kernel_rfl) (fun d => by kernel_rfl) LT.nil (fun a => qcj_run n a.1.1 a.1.2 a.2)
def qbj_res : List StSh := [⟨.ret, [0], (.cons .bool .nil), (.cons (.bcells 0 false 1 (.cons (.int .i64) .nil)) .nil)⟩]
def qbj_tbl (n : Nat) : FuncId → List Entry := fun f => bif Nat.beq f 92 then [qcj_E n] else []
def qbj_loops (n : Nat) : Nat → Option LEntry := fun f => none
theorem qbj_run (n : Nat) (t_0 : Int) (t_0_1 : Int) (m0 : Int) : funDS (real _) tab (qbj_tbl n) (qbj_loops n) qbj_an Try.f112 1 qbj_a qbj_res ((t_0, t_0_1), m0) some = qbj n t_0 t_0_1 m0 := by kernel_rfl
def qbj_E (n : Nat) : Entry := ⟨qbj_a, qbj_res, fun d => qbj n d.1.1 d.1.2 d.2⟩
theorem qbj_ok (n : Nat) : EOK Try.prog 112 (qbj_E n) :=
 EOK.ofS prog_names prog_mixed tab_ok (tbl := qbj_tbl n) (loops := qbj_loops n) (an := qbj_an) (old := [some true]) (n := n) (c := qbj_c) (fn := Try.f112) (TblOK.cons (AllE.cons (qcj_ok n) AllE.nil) TblOK.nil) (by kernel_rfl) (by kernel_rfl) (by kernel_rfl) (by kernel_rfl) (fun d => by kernel_rfl) LT.nil (fun a => qbj_run n a.1.1 a.1.2 a.2)
def qaw_h0 : List StSh := [⟨.normal, [0, 1, 7, 8], (.cons (.sl true true yD) (.cons (.fn 112 .nil (.cons (.ptr 0 0 0 0) .nil)) (.cons (.int .i64) (.cons (.int .i64) .nil)))), (.cons (.bcells 0 false 1 (.cons (.int .i64) .nil)) .nil)⟩]
def qaw_o0 : List StSh := [⟨.ret, [4], (.cons (.int .i64) .nil), (.cons (.bcells 0 false 1 (.cons (.int .i64) .nil)) .nil)⟩, ⟨.exit 0, [], .nil, (.cons (.bcells 0 false 1 (.cons (.int .i64) .nil)) .nil)⟩]
def qaw_L0 (n : Nat) : LEntry := ⟨qaw_h0, qaw_o0, qaw_W0 n⟩
def qaw_res : List StSh := [⟨.ret, [0], (.cons (.int .i64) .nil), (.cons (.bcells 0 false 1 (.cons (.int .i64) .nil)) .nil)⟩]
def qaw_tbl (n : Nat) : FuncId → List Entry := fun f => bif Nat.beq f 112 then [qbj_E n] else []
def qaw_loops (n : Nat) : Nat → Option LEntry := fun f => bif Nat.beq f 0 then some (qaw_L0 n) else none
theorem qaw_r0 (n : Nat) (s_0 : DA) (t7 : Int) (t8 : Int) (m0 : Int) : roundK (real _) tab (qaw_tbl n) (qaw_loops n) qaw_an [some true] qaw_l0 0 [0, 1, 7, 8] qaw_h0 qaw_o0 ((s_0, (t7, t8)), m0) some = qaw_B0 n s_0 t7 t8 m0 := by kernel_rfl
theorem qaw_f0 (n : Nat) : LoopFact tab (qaw_tbl n) (qaw_loops n) qaw_an [some true] n 0 qaw_l0 (qaw_L0 n) := ⟨[0, 1, 7, 8], (fun s => qaw_B0 n s.1.1 s.1.2.1 s.1.2.2 s.2), by kernel_rfl, by kernel_rfl, fun s => rfl, fun s => qaw_r0 n s.1.1 s.1.2.1 s.1.2.2 s.2⟩
theorem qaw_run (n : Nat) (s_0 : DA) (m0 : Int) : funDS (real _) tab (qaw_tbl n) (qaw_loops n) qaw_an Try.f83 1 qaw_a qaw_res (s_0, m0) some = qaw n s_0 m0 := by kernel_rfl
def qaw_E (n : Nat) : Entry := ⟨qaw_a, qaw_res, fun d => qaw n d.1 d.2⟩
theorem qaw_ok (n : Nat) : EOK Try.prog 83 (qaw_E n) :=
 EOK.ofS prog_names prog_mixed tab_ok (tbl := qaw_tbl n) (loops := qaw_loops n) (an := qaw_an) (old := [some true]) (n := n) (c := qaw_c) (fn := Try.f83) (TblOK.cons (AllE.cons (qbj_ok n) AllE.nil) TblOK.nil) (by kernel_rfl) (by kernel_rfl) (by kernel_rfl) (by kernel_rfl) (fun d => by kernel_rfl) (LT.cons (by kernel_rfl) (qaw_f0 n) LT.nil) (fun a => qaw_run n a.1 a.2)
def qv_res : List StSh := [⟨.ret, [0], (.cons .bool .nil), (.cons (.bcells 0 false 1 (.cons (.int .i64) .nil)) .nil)⟩]
def qv_tbl (n : Nat) : FuncId → List Entry := fun f => bif Nat.beq f 83 then [qaw_E n] else []
def qv_loops (n : Nat) : Nat → Option LEntry := fun f => none
theorem qv_run (n : Nat) (s_0 : DA) (m0 : Int) : funDS (real _) tab (qv_tbl n) (qv_loops n) qv_an Try.f31 1 qv_a qv_res (s_0, m0) some = qv n s_0 m0 := by kernel_rfl
def qv_E (n : Nat) : Entry := ⟨qv_a, qv_res, fun d => qv n d.1 d.2⟩
theorem qv_ok (n : Nat) : EOK Try.prog 31 (qv_E n) :=
 EOK.ofS prog_names prog_mixed tab_ok (tbl := qv_tbl n) (loops := qv_loops n) (an := qv_an) (old := [some true]) (n := n) (c := qv_c) (fn := Try.f31) (TblOK.cons (AllE.cons (qaw_ok n) AllE.nil) TblOK.nil) (by kernel_rfl) (by kernel_rfl) (by kernel_rfl) (by kernel_rfl) (fun d => by kernel_rfl) LT.nil (fun a => qv_run n a.1 a.2)
def qbt_res : List StSh := [⟨.ret, [0], (.cons .bool .nil), .nil⟩]
def qbt_tbl (n : Nat) : FuncId → List Entry := fun f => bif Nat.beq f 31 then [qv_E n] else []
def qbt_loops (n : Nat) : Nat → Option LEntry := fun f => none
theorem qbt_run (n : Nat) (list_0 : DA) (recs_1 : Int) (most_2 : Int) : funDS (real _) tab (qbt_tbl n) (qbt_loops n) qbt_an Try.f87 0 qbt_a qbt_res (list_0, (recs_1, most_2)) some = qbt n list_0 recs_1 most_2 := by kernel_rfl
def qbt_E (n : Nat) : Entry := ⟨qbt_a, qbt_res, fun d => qbt n d.1 d.2.1 d.2.2⟩
theorem qbt_ok (n : Nat) : EOK Try.prog 87 (qbt_E n) :=
 EOK.ofS prog_names prog_mixed tab_ok (tbl := qbt_tbl n) (loops := qbt_loops n) (an := qbt_an) (old := []) (n := n) (c := qbt_c) (fn := Try.f87) (TblOK.cons (AllE.cons (qv_ok n) AllE.nil) TblOK.nil) (by kernel_rfl) (by kernel_rfl) (by kernel_rfl) (by kernel_rfl) (fun d => by kernel_rfl) LT.nil (fun a => qbt_run n a.1 a.2.1 a.2.2)
def qbl_res : List StSh := [⟨.ret, [0], (.cons .bool .nil), (.cons (.bcells 0 false 1 (.cons (.int .i64) .nil)) .nil)⟩]
def qbl_tbl (n : Nat) : FuncId → List Entry := fun f => bif Nat.beq f 87 then [qbt_E n] else []
def qbl_loops (n : Nat) : Nat → Option LEntry := fun f => none
theorem qbl_run (n : Nat) (l_0 : DA) (m0 : Int) : funDS (real _) tab (qbl_tbl n) (qbl_loops n) qbl_an Try.f86 1 qbl_a qbl_res (l_0, m0) some = qbl n l_0 m0 := by kernel_rfl
def qbl_E (n : Nat) : Entry := ⟨qbl_a, qbl_res, fun d => qbl n d.1 d.2⟩
theorem qbl_ok (n : Nat) : EOK Try.prog 86 (qbl_E n) :=
 EOK.ofS prog_names prog_mixed tab_ok (tbl := qbl_tbl n) (loops := qbl_loops n) (an := qbl_an) (old := [some true]) (n := n) (c := qbl_c) (fn := Try.f86) (TblOK.cons (AllE.cons (qbt_ok n) AllE.nil) TblOK.nil) (by kernel_rfl) (by kernel_rfl) (by kernel_rfl) (by kernel_rfl) (fun d => by kernel_rfl) LT.nil (fun a => qbl_run n a.1 a.2)
def qx_h0 : List StSh := [⟨.normal, [0, 1, 7, 8], (.cons (.sl true false yA) (.cons (.fn 86 .nil (.cons (.ptr 0 0 0 0) .nil)) (.cons (.int .i64) (.cons (.int .i64) .nil)))), (.cons (.bcells 0 false 1 (.cons (.int .i64) .nil)) .nil)⟩]
def qx_o0 : List StSh := [⟨.ret, [4], (.cons (.int .i64) .nil), (.cons (.bcells 0 false 1 (.cons (.int .i64) .nil)) .nil)⟩, ⟨.exit 0, [], .nil, (.cons (.bcells 0 false 1 (.cons (.int .i64) .nil)) .nil)⟩]
def qx_L0 (n : Nat) : LEntry := ⟨qx_h0, qx_o0, qx_W0 n⟩
def qx_res : List StSh := [⟨.ret, [0], (.cons (.int .i64) .nil), (.cons (.bcells 0 false 1 (.cons (.int .i64) .nil)) .nil)⟩]
def qx_tbl (n : Nat) : FuncId → List Entry := fun f => bif Nat.beq f 86 then [qbl_E n] else []
def qx_loops (n : Nat) : Nat → Option LEntry := fun f => bif Nat.beq f 0 then some (qx_L0 n) else none
theorem qx_r0 (n : Nat) (s_0 : DG) (t7 : Int) (t8 : Int) (m0 : Int) : roundK (real _) tab (qx_tbl n) (qx_loops n) qx_an [some true] qx_l0 0 [0, 1, 7, 8] qx_h0 qx_o0 ((s_0, (t7, t8)), m0) some = qx_B0 n s_0 t7 t8 m0 := by kernel_rfl
theorem qx_f0 (n : Nat) : LoopFact tab (qx_tbl n) (qx_loops n) qx_an [some true] n 0 qx_l0 (qx_L0 n) := ⟨[0, 1, 7, 8], (fun s => qx_B0 n s.1.1 s.1.2.1 s.1.2.2 s.2), by kernel_rfl, by kernel_rfl, fun s => rfl, fun s => qx_r0 n s.1.1 s.1.2.1 s.1.2.2 s.2⟩
theorem qx_run (n : Nat) (s_0 : DG) (m0 : Int) : funDS (real _) tab (qx_tbl n) (qx_loops n) qx_an Try.f111 1 qx_a qx_res (s_0, m0) some = qx n s_0 m0 := by kernel_rfl
def qx_E (n : Nat) : Entry := ⟨qx_a, qx_res, fun d => qx n d.1 d.2⟩
theorem qx_ok (n : Nat) : EOK Try.prog 111 (qx_E n) :=
 EOK.ofS prog_names prog_mixed tab_ok (tbl := qx_tbl n) (loops := qx_loops n) (an := qx_an) (old := [some true]) (n := n) (c := qx_c) (fn := Try.f111) (TblOK.cons (AllE.cons (qbl_ok n) AllE.nil) TblOK.nil) (by kernel_rfl) (by kernel_rfl) (by kernel_rfl) (by kernel_rfl) (fun d => by kernel_rfl) (LT.cons (by kernel_rfl) (qx_f0 n) LT.nil) (fun a => qx_run n a.1 a.2)
def qf_res : List StSh := [⟨.ret, [0], (.cons .bool .nil), (.cons (.bcells 0 false 1 (.cons (.int .i64) .nil)) .nil)⟩]
def qf_tbl (n : Nat) : FuncId → List Entry := fun f => bif Nat.beq f 111 then [qx_E n] else []
def qf_loops (n : Nat) : Nat → Option LEntry := fun f => none
theorem qf_run (n : Nat) (s_0 : DG) (m0 : Int) : funDS (real _) tab (qf_tbl n) (qf_loops n) qf_an Try.f85 1 qf_a qf_res (s_0, m0) some = qf n s_0 m0 := by kernel_rfl
def qf_E (n : Nat) : Entry := ⟨qf_a, qf_res, fun d => qf n d.1 d.2⟩
theorem qf_ok (n : Nat) : EOK Try.prog 85 (qf_E n) :=
 EOK.ofS prog_names prog_mixed tab_ok (tbl := qf_tbl n) (loops := qf_loops n) (an := qf_an) (old := [some true]) (n := n) (c := qf_c) (fn := Try.f85) (TblOK.cons (AllE.cons (qx_ok n) AllE.nil) TblOK.nil) (by kernel_rfl) (by kernel_rfl) (by kernel_rfl) (by kernel_rfl) (fun d => by kernel_rfl) LT.nil (fun a => qf_run n a.1 a.2)
def qq_an : Ann := {}
def qq_c : Code := (match Try.f88.body with | some c => c | none => .skip)
def qq_a : StSh := ⟨.normal, [0, 1], (.cons (.sl true true yB) (.cons (.fn 89 .nil (.cons (.ptr 0 0 0 0) .nil)) .nil)), (.cons (.bcells 0 false 1 (.cons (.int .i64) .nil)) .nil)⟩
def qat_an : Ann := { live := [(0, [0, 1, 7, 8])] }
def qat_c : Code := (match Try.f113.body with | some c => c | none => .skip)
def qat_l0 : Code := (match assoc 0 (loopsIn qat_c 0) with | some c => c | none => .skip)
def qat_a : StSh := ⟨.normal, [0, 1], (.cons (.sl true true yB) (.cons (.fn 89 .nil (.cons (.ptr 0 0 0 0) .nil)) .nil)), (.cons (.bcells 0 false 1 (.cons (.int .i64) .nil)) .nil)⟩
def qbo_an : Ann := {}
def qbo_c : Code := (match Try.f89.body with | some c => c | none => .skip)
def qbo_a : StSh := ⟨.normal, [0, 1], (.cons (.agg (.cons (.sl true true yD) (.cons (.int .i64) (.cons (.int .i64) (.cons (.sl true true yD) (.cons (.sl true true yE) .nil)))))) (.cons (.ptr 0 0 0 0) .nil)), (.cons (.bcells 0 false 1 (.cons (.int .i64) .nil)) .nil)⟩
def qap_an : Ann := {}
def qap_c : Code := (match Try.f90.body with | some c => c | none => .skip)
def qap_a : StSh := ⟨.normal, [0, 1], (.cons (.agg (.cons (.sl true true yD) (.cons (.int .i64) (.cons (.int .i64) (.cons (.sl true true yD) (.cons (.sl true true yE) .nil)))))) (.cons (.int .i64) .nil)), .nil⟩
def qj_an : Ann := {}
def qj_c : Code := (match Try.f30.body with | some c => c | none => .skip)
def qj_a : StSh := ⟨.normal, [0, 1], (.cons (.sl true true yE) (.cons (.fn 114 .nil .nil) .nil)), .nil⟩
def qai_an : Ann := { live := [(0, [0, 1, 7, 8])] }
def qai_c : Code := (match Try.f82.body with | some c => c | none => .skip)
def qai_l0 : Code := (match assoc 0 (loopsIn qai_c 0) with | some c => c | none => .skip)
def qai_a : StSh := ⟨.normal, [0, 1], (.cons (.sl true true yE) (.cons (.fn 114 .nil .nil) .nil)), .nil⟩
def qak_an : Ann := {}
def qak_c : Code := (match Try.f114.body with | some c => c | none => .skip)
def qak_a : StSh := ⟨.normal, [0], (.cons (.agg (.cons (.int .i64) (.cons (.int .i64) (.cons (.int .i64) .nil)))) .nil), .nil⟩
def qco_an : Ann := { live := [(0, [4, 39, 40, 41])], boxed := [(4, 3), (9, 4)] }
def qco_c : Code := (match Try.f99.body with | some c => c | none => .skip)
def qco_l0 : Code := (match assoc 0 (loopsIn qco_c 0) with | some c => c | none => .skip)
def qco_a : StSh := ⟨.normal, [0], (.cons (.agg (.cons (.int .i64) (.cons (.int .i64) (.cons (.int .i64) .nil)))) .nil), .nil⟩
def qcl_an : Ann := {}
def qcl_c : Code := (match Try.f116.body with | some c => c | none => .skip)
def qcl_a : StSh := ⟨.normal, [0], (.cons (.int .i64) .nil), .nil⟩
def qcl_res : List StSh := [⟨.ret, [0], (.cons (.int .i64) .nil), .nil⟩]
def qcl_tbl (n : Nat) : FuncId → List Entry := fun f => []
def qcl_loops (n : Nat) : Nat → Option LEntry := fun f => none
theorem qcl_run (n : Nat) (op_0 : Int) : funDS (real _) tab (qcl_tbl n) (qcl_loops n) qcl_an Try.f116 0 qcl_a qcl_res op_0 some = qcl n op_0 := by kernel_rfl
def qcl_E (n : Nat) : Entry := ⟨qcl_a, qcl_res, fun d => qcl n d⟩
theorem qcl_ok (n : Nat) : EOK Try.prog 116 (qcl_E n) :=
 EOK.ofS prog_names prog_mixed tab_ok (tbl := qcl_tbl n) (loops := qcl_loops n) (an := qcl_an) (old := []) (n := n) (c := qcl_c) (fn := Try.f116) TblOK.nil (by kernel_rfl) (by kernel_rfl) (by kernel_rfl) (by kernel_rfl) (fun d => by kernel_rfl) LT.nil (fun a => qcl_run n a)
def qcp_an : Ann := {}
def qcp_c : Code := (match Try.f117.body with | some c => c | none => .skip)
def qcp_a : StSh := ⟨.normal, [0, 1], (.cons (.int .i64) (.cons .bool .nil)), .nil⟩
def qcp_res : List StSh := [⟨.ret, [0], (.cons .bool .nil), .nil⟩]
def qcp_tbl (n : Nat) : FuncId → List Entry := fun f => []
def qcp_loops (n : Nat) : Nat → Option LEntry := fun f => none
theorem qcp_run (n : Nat) (n_0 : Int) (has_1 : Bool) : funDS (real _) tab (qcp_tbl n) (qcp_loops n) qcp_an Try.f117 0 qcp_a qcp_res (n_0, has_1) some = qcp n n_0 has_1 := by kernel_rfl
def qcp_E (n : Nat) : Entry := ⟨qcp_a, qcp_res, fun d => qcp n d.1 d.2⟩
theorem qcp_ok (n : Nat) : EOK Try.prog 117 (qcp_E n) :=
 EOK.ofS prog_names prog_mixed tab_ok (tbl := qcp_tbl n) (loops := qcp_loops n) (an := qcp_an) (old := []) (n := n) (c := qcp_c) (fn := Try.f117) TblOK.nil (by kernel_rfl) (by kernel_rfl) (by kernel_rfl) (by kernel_rfl) (fun d => by kernel_rfl) LT.nil (fun a => qcp_run n a.1 a.2)
def qcr_an : Ann := { live := [(0, [0, 3])], boxed := [(0, 0), (1, 0), (4, 5), (5, 4)] }
def qcr_c : Code := (match Try.f95.body with | some c => c | none => .skip)
def qcr_l0 : Code := (match assoc 0 (loopsIn qcr_c 0) with | some c => c | none => .skip)
def qcr_a : StSh := ⟨.normal, [0], (.cons (.int .u64) .nil), .nil⟩
def qcr_h0 : List StSh := [⟨.normal, [0, 3], (.cons (.int .u64) (.cons (.msw 0 0) .nil)), (.cons (.bts 0 false false false (.int .u8)) .nil)⟩]
def qcr_o0 : List StSh := [⟨.exit 0, [0, 3], (.cons (.int .u64) (.cons (.msw 0 0) .nil)), (.cons (.bts 0 false false false (.int .u8)) .nil)⟩]
def qcr_L0 (n : Nat) : LEntry := ⟨qcr_h0, qcr_o0, qcr_W0 n⟩
def qcr_res : List StSh := [⟨.ret, [0], (.cons (.msw 0 0) .nil), (.cons (.bts 0 false false false (.int .u8)) .nil)⟩]
def qcr_tbl (n : Nat) : FuncId → List Entry := fun f => []
def qcr_loops (n : Nat) : Nat → Option LEntry := fun f => bif Nat.beq f 0 then some (qcr_L0 n) else none
theorem qcr_r0 (n : Nat) (v_0 : Int) (m0 : DC) : roundK (real _) tab (qcr_tbl n) (qcr_loops n) qcr_an [] qcr_l0 0 [0, 3] qcr_h0 qcr_o0 (v_0, m0) some = qcr_B0 n v_0 m0 := by kernel_rfl
theorem qcr_f0 (n : Nat) : LoopFact tab (qcr_tbl n) (qcr_loops n) qcr_an [] n 0 qcr_l0 (qcr_L0 n) := ⟨[0, 3], (fun s => qcr_B0 n s.1 s.2), by kernel_rfl, by kernel_rfl, fun s => rfl, fun s => qcr_r0 n s.1 s.2⟩
theorem qcr_run (n : Nat) (v_0 : Int) : funD (real _) tab (qcr_tbl n) (qcr_loops n) qcr_an Try.f95 qcr_a qcr_res v_0 some = qcr n v_0 := by kernel_rfl
def qcr_E (n : Nat) : Entry := ⟨qcr_a, qcr_res, fun d => qcr n d⟩
theorem qcr_ok (n : Nat) : EOK Try.prog 95 (qcr_E n) :=
 EOK.of prog_names prog_mixed tab_ok (tbl := qcr_tbl n) (loops := qcr_loops n) (an := qcr_an) (old := []) (n := n) (c := qcr_c) (fn := Try.f95) TblOK.nil (by kernel_rfl) (by kernel_rfl) (by kernel_rfl) (by kernel_rfl) (fun d => by kernel_rfl) (LT.cons (by kernel_rfl) (qcr_f0 n) LT.nil) (fun a => qcr_run n a)
def qco_h0 : List StSh := [⟨.normal, [4, 39, 40, 41], (.cons (.msw 0 0) (.cons (.ms 1 0) (.cons (.int .i64) (.cons (.int .i64) .nil)))), (.cons (.bts 0 false false false (.int .u8)) (.cons (.bcells 0 false 1 (.cons (.int .i64) (.cons (.int .i64) .nil))) .nil))⟩]
def qco_o0 : List StSh := [⟨.exit 0, [4], (.cons (.msw 0 0) .nil), (.cons (.bts 0 false false false (.int .u8)) (.cons (.bcells 0 false 1 (.cons (.int .i64) (.cons (.int .i64) .nil))) .nil))⟩]
def qco_L0 (n : Nat) : LEntry := ⟨qco_h0, qco_o0, qco_W0 n⟩
def qco_res : List StSh := [⟨.ret, [0], (.cons (.sl false false (.int .u8)) .nil), .nil⟩]
def qco_tbl (n : Nat) : FuncId → List Entry := fun f => bif Nat.beq f 116 then [qcl_E n] else bif Nat.beq f 117 then [qcp_E n] else bif Nat.beq f 95 then [qcr_E n] else []
def qco_loops (n : Nat) : Nat → Option LEntry := fun f => bif Nat.beq f 0 then some (qco_L0 n) else none
theorem qco_r0 (n : Nat) (t39 : Nat × Nat) (t40 : Int) (t41 : Int) (m0 : DC) (m1 : Int) (m1_1 : Int) : roundK (real _) tab (qco_tbl n) (qco_loops n) qco_an [] qco_l0 0 [4, 39, 40, 41] qco_h0 qco_o0 ((t39, (t40, t41)), (m0, (m1, m1_1))) some = qco_B0 n t39 t40 t41 m0 m1 m1_1 := by kernel_rfl
theorem qco_f0 (n : Nat) : LoopFact tab (qco_tbl n) (qco_loops n) qco_an [] n 0 qco_l0 (qco_L0 n) := ⟨[4, 39, 40, 41], (fun s => qco_B0 n s.1.1 s.1.2.1 s.1.2.2 s.2.1 s.2.2.1 s.2.2.2), by kernel_rfl, by kernel_rfl, fun s => rfl, fun s => qco_r0 n s.1.1 s.1.2.1 s.1.2.2 s.2.1 s.2.2.1 s.2.2.2⟩
theorem qco_run (n : Nat) (i_0 : Int) (i_0_1 : Int) (i_0_2 : Int) : funDS (real _) tab (qco_tbl n) (qco_loops n) qco_an Try.f99 0 qco_a qco_res (i_0, (i_0_1, i_0_2)) some = qco n i_0 i_0_1 i_0_2 := by kernel_rfl
def qco_E (n : Nat) : Entry := ⟨qco_a, qco_res, fun d => qco n d.1 d.2.1 d.2.2⟩
theorem qco_ok (n : Nat) : EOK Try.prog 99 (qco_E n) :=
 EOK.ofS prog_names prog_mixed tab_ok (tbl := qco_tbl n) (loops := qco_loops n) (an := qco_an) (old := []) (n := n) (c := qco_c) (fn := Try.f99) (TblOK.cons (AllE.cons (qcl_ok n) AllE.nil) (TblOK.cons (AllE.cons (qcp_ok n) AllE.nil) (TblOK.cons (AllE.cons (qcr_ok n) AllE.nil) TblOK.nil))) (by kernel_rfl) (by kernel_rfl) (by kernel_rfl) (by kernel_rfl) (fun d => by kernel_rfl) (LT.cons (by kernel_rfl) (qco_f0 n) LT.nil) (fun a => qco_run n a.1 a.2.1 a.2.2)
def qak_res : List StSh := [⟨.ret, [0], (.cons .bool .nil), .nil⟩]
def qak_tbl (n : Nat) : FuncId → List Entry := fun f => bif Nat.beq f 99 then [qco_E n] else []
def qak_loops (n : Nat) : Nat → Option LEntry := fun f => none
theorem qak_run (n : Nat) (i_0 : Int) (i_0_1 : Int) (i_0_2 : Int) : funDS (real _) tab (qak_tbl n) (qak_loops n) qak_an Try.f114 0 qak_a qak_res (i_0, (i_0_1, i_0_2)) some = qak n i_0 i_0_1 i_0_2 := by kernel_rfl
def qak_E (n : Nat) : Entry := ⟨qak_a, qak_res, fun d => qak n d.1 d.2.1 d.2.2⟩
theorem qak_ok (n : Nat) : EOK Try.prog 114 (qak_E n) :=
 EOK.ofS prog_names prog_mixed tab_ok (tbl := qak_tbl n) (loops := qak_loops n) (an := qak_an) (old := []) (n := n) (c := qak_c) (fn := Try.f114) (TblOK.cons (AllE.cons (qco_ok n) AllE.nil) TblOK.nil) (by kernel_rfl) (by kernel_rfl) (by kernel_rfl) (by kernel_rfl) (fun d => by kernel_rfl) LT.nil (fun a => qak_run n a.1 a.2.1 a.2.2)
def qai_h0 : List StSh := [⟨.normal, [0, 1, 7, 8], (.cons (.sl true true yE) (.cons (.fn 114 .nil .nil) (.cons (.int .i64) (.cons (.int .i64) .nil)))), .nil⟩]
def qai_o0 : List StSh := [⟨.ret, [4], (.cons (.int .i64) .nil), .nil⟩, ⟨.exit 0, [], .nil, .nil⟩]
def qai_L0 (n : Nat) : LEntry := ⟨qai_h0, qai_o0, qai_W0 n⟩
def qai_res : List StSh := [⟨.ret, [0], (.cons (.int .i64) .nil), .nil⟩]
def qai_tbl (n : Nat) : FuncId → List Entry := fun f => bif Nat.beq f 114 then [qak_E n] else []
def qai_loops (n : Nat) : Nat → Option LEntry := fun f => bif Nat.beq f 0 then some (qai_L0 n) else none
theorem qai_r0 (n : Nat) (s_0 : DB) (t7 : Int) (t8 : Int) : roundK (real _) tab (qai_tbl n) (qai_loops n) qai_an [] qai_l0 0 [0, 1, 7, 8] qai_h0 qai_o0 (s_0, (t7, t8)) some = qai_B0 n s_0 t7 t8 := by kernel_rfl
theorem qai_f0 (n : Nat) : LoopFact tab (qai_tbl n) (qai_loops n) qai_an [] n 0 qai_l0 (qai_L0 n) := ⟨[0, 1, 7, 8], (fun s => qai_B0 n s.1 s.2.1 s.2.2), by kernel_rfl, by kernel_rfl, fun s => rfl, fun s => qai_r0 n s.1 s.2.1 s.2.2⟩
theorem qai_run (n : Nat) (s_0 : DB) : funDS (real _) tab (qai_tbl n) (qai_loops n) qai_an Try.f82 0 qai_a qai_res s_0 some = qai n s_0 := by kernel_rfl
def qai_E (n : Nat) : Entry := ⟨qai_a, qai_res, fun d => qai n d⟩
theorem qai_ok (n : Nat) : EOK Try.prog 82 (qai_E n) :=
 EOK.ofS prog_names prog_mixed tab_ok (tbl := qai_tbl n) (loops := qai_loops n) (an := qai_an) (old := []) (n := n) (c := qai_c) (fn := Try.f82) (TblOK.cons (AllE.cons (qak_ok n) AllE.nil) TblOK.nil) (by kernel_rfl) (by kernel_rfl) (by kernel_rfl) (by kernel_rfl) (fun d => by kernel_rfl) (LT.cons (by kernel_rfl) (qai_f0 n) LT.nil) (fun a => qai_run n a)
def qj_res : List StSh := [⟨.ret, [0], (.cons .bool .nil), .nil⟩]
def qj_tbl (n : Nat) : FuncId → List Entry := fun f => bif Nat.beq f 82 then [qai_E n] else []
def qj_loops (n : Nat) : Nat → Option LEntry := fun f => none
theorem qj_run (n : Nat) (s_0 : DB) : funDS (real _) tab (qj_tbl n) (qj_loops n) qj_an Try.f30 0 qj_a qj_res s_0 some = qj n s_0 := by kernel_rfl
def qj_E (n : Nat) : Entry := ⟨qj_a, qj_res, fun d => qj n d⟩
theorem qj_ok (n : Nat) : EOK Try.prog 30 (qj_E n) :=
 EOK.ofS prog_names prog_mixed tab_ok (tbl := qj_tbl n) (loops := qj_loops n) (an := qj_an) (old := []) (n := n) (c := qj_c) (fn := Try.f30) (TblOK.cons (AllE.cons (qai_ok n) AllE.nil) TblOK.nil) (by kernel_rfl) (by kernel_rfl) (by kernel_rfl) (by kernel_rfl) (fun d => by kernel_rfl) LT.nil (fun a => qj_run n a)
def qap_res : List StSh := [⟨.ret, [0], (.cons .bool .nil), .nil⟩]
def qap_tbl (n : Nat) : FuncId → List Entry := fun f => bif Nat.beq f 87 then [qbt_E n] else bif Nat.beq f 92 then [qcj_E n] else bif Nat.beq f 30 then [qj_E n] else []
def qap_loops (n : Nat) : Nat → Option LEntry := fun f => none
theorem qap_run (n : Nat) (f_0 : DA) (f_0_1 : Int) (f_0_2 : Int) (f_0_3 : DA) (f_0_4 : DB) (recs_1 : Int) : funDS (real _) tab (qap_tbl n) (qap_loops n) qap_an Try.f90 0 qap_a qap_res ((f_0, (f_0_1, (f_0_2, (f_0_3, f_0_4)))), recs_1) some = qap n f_0 f_0_1 f_0_2 f_0_3 f_0_4 recs_1 := by kernel_rfl
def qap_E (n : Nat) : Entry := ⟨qap_a, qap_res, fun d => qap n d.1.1 d.1.2.1 d.1.2.2.1 d.1.2.2.2.1 d.1.2.2.2.2 d.2⟩
theorem qap_ok (n : Nat) : EOK Try.prog 90 (qap_E n) :=
 EOK.ofS prog_names prog_mixed tab_ok (tbl := qap_tbl n) (loops := qap_loops n) (an := qap_an) (old := []) (n := n) (c := qap_c) (fn := Try.f90) (TblOK.cons (AllE.cons (qbt_ok n) AllE.nil) (TblOK.cons (AllE.cons (qcj_ok n) AllE.nil) (TblOK.cons (AllE.cons (qj_ok n) AllE.nil) TblOK.nil))) (by kernel_rfl) (by kernel_rfl) (by kernel_rfl) (by kernel_rfl) (fun d => by kernel_rfl) LT.nil (fun a => qap_run n a.1.1 a.1.2.1 a.1.2.2.1 a.1.2.2.2.1 a.1.2.2.2.2 a.2)
def qbo_res : List StSh := [⟨.ret, [0], (.cons .bool .nil), (.cons (.bcells 0 false 1 (.cons (.int .i64) .nil)) .nil)⟩]
def qbo_tbl (n : Nat) : FuncId → List Entry := fun f => bif Nat.beq f 90 then [qap_E n] else []
def qbo_loops (n : Nat) : Nat → Option LEntry := fun f => none
theorem qbo_run (n : Nat) (f_0 : DA) (f_0_1 : Int) (f_0_2 : Int) (f_0_3 : DA) (f_0_4 : DB) (m0 : Int) : funDS (real _) tab (qbo_tbl n) (qbo_loops n) qbo_an Try.f89 1 qbo_a qbo_res ((f_0, (f_0_1, (f_0_2, (f_0_3, f_0_4)))), m0) some = qbo n f_0 f_0_1 f_0_2 f_0_3 f_0_4 m0 := by kernel_rfl
def qbo_E (n : Nat) : Entry := ⟨qbo_a, qbo_res, fun d => qbo n d.1.1 d.1.2.1 d.1.2.2.1 d.1.2.2.2.1 d.1.2.2.2.2 d.2⟩
theorem qbo_ok (n : Nat) : EOK Try.prog 89 (qbo_E n) :=
 EOK.ofS prog_names prog_mixed tab_ok (tbl := qbo_tbl n) (loops := qbo_loops n) (an := qbo_an) (old := [some true]) (n := n) (c := qbo_c) (fn := Try.f89) (TblOK.cons (AllE.cons (qap_ok n) AllE.nil) TblOK.nil) (by kernel_rfl) (by kernel_rfl) (by kernel_rfl) (by kernel_rfl) (fun d => by kernel_rfl) LT.nil (fun a => qbo_run n a.1.1 a.1.2.1 a.1.2.2.1 a.1.2.2.2.1 a.1.2.2.2.2 a.2)
def qat_h0 : List StSh := [⟨.normal, [0, 1, 7, 8], (.cons (.sl true true yB) (.cons (.fn 89 .nil (.cons (.ptr 0 0 0 0) .nil)) (.cons (.int .i64) (.cons (.int .i64) .nil)))), (.cons (.bcells 0 false 1 (.cons (.int .i64) .nil)) .nil)⟩]
def qat_o0 : List StSh := [⟨.ret, [4], (.cons (.int .i64) .nil), (.cons (.bcells 0 false 1 (.cons (.int .i64) .nil)) .nil)⟩, ⟨.exit 0, [], .nil, (.cons (.bcells 0 false 1 (.cons (.int .i64) .nil)) .nil)⟩]
def qat_L0 (n : Nat) : LEntry := ⟨qat_h0, qat_o0, qat_W0 n⟩
def qat_res : List StSh := [⟨.ret, [0], (.cons (.int .i64) .nil), (.cons (.bcells 0 false 1 (.cons (.int .i64) .nil)) .nil)⟩]
def qat_tbl (n : Nat) : FuncId → List Entry := fun f => bif Nat.beq f 89 then [qbo_E n] else []
def qat_loops (n : Nat) : Nat → Option LEntry := fun f => bif Nat.beq f 0 then some (qat_L0 n) else none
theorem qat_r0 (n : Nat) (s_0 : DH) (t7 : Int) (t8 : Int) (m0 : Int) : roundK (real _) tab (qat_tbl n) (qat_loops n) qat_an [some true] qat_l0 0 [0, 1, 7, 8] qat_h0 qat_o0 ((s_0, (t7, t8)), m0) some = qat_B0 n s_0 t7 t8 m0 := by kernel_rfl
theorem qat_f0 (n : Nat) : LoopFact tab (qat_tbl n) (qat_loops n) qat_an [some true] n 0 qat_l0 (qat_L0 n) := ⟨[0, 1, 7, 8], (fun s => qat_B0 n s.1.1 s.1.2.1 s.1.2.2 s.2), by kernel_rfl, by kernel_rfl, fun s => rfl, fun s => qat_r0 n s.1.1 s.1.2.1 s.1.2.2 s.2⟩
theorem qat_run (n : Nat) (s_0 : DH) (m0 : Int) : funDS (real _) tab (qat_tbl n) (qat_loops n) qat_an Try.f113 1 qat_a qat_res (s_0, m0) some = qat n s_0 m0 := by kernel_rfl
def qat_E (n : Nat) : Entry := ⟨qat_a, qat_res, fun d => qat n d.1 d.2⟩
theorem qat_ok (n : Nat) : EOK Try.prog 113 (qat_E n) :=
 EOK.ofS prog_names prog_mixed tab_ok (tbl := qat_tbl n) (loops := qat_loops n) (an := qat_an) (old := [some true]) (n := n) (c := qat_c) (fn := Try.f113) (TblOK.cons (AllE.cons (qbo_ok n) AllE.nil) TblOK.nil) (by kernel_rfl) (by kernel_rfl) (by kernel_rfl) (by kernel_rfl) (fun d => by kernel_rfl) (LT.cons (by kernel_rfl) (qat_f0 n) LT.nil) (fun a => qat_run n a.1 a.2)
def qq_res : List StSh := [⟨.ret, [0], (.cons .bool .nil), (.cons (.bcells 0 false 1 (.cons (.int .i64) .nil)) .nil)⟩]
def qq_tbl (n : Nat) : FuncId → List Entry := fun f => bif Nat.beq f 113 then [qat_E n] else []
def qq_loops (n : Nat) : Nat → Option LEntry := fun f => none
theorem qq_run (n : Nat) (s_0 : DH) (m0 : Int) : funDS (real _) tab (qq_tbl n) (qq_loops n) qq_an Try.f88 1 qq_a qq_res (s_0, m0) some = qq n s_0 m0 := by kernel_rfl
def qq_E (n : Nat) : Entry := ⟨qq_a, qq_res, fun d => qq n d.1 d.2⟩
theorem qq_ok (n : Nat) : EOK Try.prog 88 (qq_E n) :=
 EOK.ofS prog_names prog_mixed tab_ok (tbl := qq_tbl n) (loops := qq_loops n) (an := qq_an) (old := [some true]) (n := n) (c := qq_c) (fn := Try.f88) (TblOK.cons (AllE.cons (qat_ok n) AllE.nil) TblOK.nil) (by kernel_rfl) (by kernel_rfl) (by kernel_rfl) (by kernel_rfl) (fun d => by kernel_rfl) LT.nil (fun a => qq_run n a.1 a.2)
def qe_an : Ann := {}
def qe_c : Code := (match Try.f36.body with | some c => c | none => .skip)
def qe_a : StSh := ⟨.normal, [0, 1], (.cons (.sl true true yC) (.cons (.fn 91 .nil (.cons (.ptr 0 0 0 0) .nil)) .nil)), (.cons (.bcells 0 false 1 (.cons (.int .i64) .nil)) .nil)⟩
def qab_an : Ann := { live := [(0, [0, 1, 7, 8])] }
def qab_c : Code := (match Try.f84.body with | some c => c | none => .skip)
def qab_l0 : Code := (match assoc 0 (loopsIn qab_c 0) with | some c => c | none => .skip)
def qab_a : StSh := ⟨.normal, [0, 1], (.cons (.sl true true yC) (.cons (.fn 91 .nil (.cons (.ptr 0 0 0 0) .nil)) .nil)), (.cons (.bcells 0 false 1 (.cons (.int .i64) .nil)) .nil)⟩
def qbq_an : Ann := {}
def qbq_c : Code := (match Try.f91.body with | some c => c | none => .skip)
def qbq_a : StSh := ⟨.normal, [0, 1], (.cons (.agg (.cons (.sl true true yD) (.cons (.int .i64) (.cons (.int .i64) .nil)))) (.cons (.ptr 0 0 0 0) .nil)), (.cons (.bcells 0 false 1 (.cons (.int .i64) .nil)) .nil)⟩
def qbq_res : List StSh := [⟨.ret, [0], (.cons .bool .nil), (.cons (.bcells 0 false 1 (.cons (.int .i64) .nil)) .nil)⟩]
def qbq_tbl (n : Nat) : FuncId → List Entry := fun f => bif Nat.beq f 87 then [qbt_E n] else bif Nat.beq f 92 then [qcj_E n] else []
def qbq_loops (n : Nat) : Nat → Option LEntry := fun f => none
theorem qbq_run (n : Nat) (i_0 : DA) (i_0_1 : Int) (i_0_2 : Int) (m0 : Int) : funDS (real _) tab (qbq_tbl n) (qbq_loops n) qbq_an Try.f91 1 qbq_a qbq_res ((i_0, (i_0_1, i_0_2)), m0) some = qbq n i_0 i_0_1 i_0_2 m0 := by kernel_rfl
def qbq_E (n : Nat) : Entry := ⟨qbq_a, qbq_res, fun d => qbq n d.1.1 d.1.2.1 d.1.2.2 d.2⟩
theorem qbq_ok (n : Nat) : EOK Try.prog 91 (qbq_E n) :=
 EOK.ofS prog_names prog_mixed tab_ok (tbl := qbq_tbl n) (loops := qbq_loops n) (an := qbq_an) (old := [some true]) (n := n) (c := qbq_c) (fn := Try.f91) (TblOK.cons (AllE.cons (qbt_ok n) AllE.nil) (TblOK.cons (AllE.cons (qcj_ok n) AllE.nil) TblOK.nil)) (by kernel_rfl) (by kernel_rfl) (by kernel_rfl) (by kernel_rfl) (fun d => by kernel_rfl) LT.nil (fun a => qbq_run n a.1.1 a.1.2.1 a.1.2.2 a.2)
def qab_h0 : List StSh := [⟨.normal, [0, 1, 7, 8], (.cons (.sl true true yC) (.cons (.fn 91 .nil (.cons (.ptr 0 0 0 0) .nil)) (.cons (.int .i64) (.cons (.int .i64) .nil)))), (.cons (.bcells 0 false 1 (.cons (.int .i64) .nil)) .nil)⟩]
def qab_o0 : List StSh := [⟨.ret, [4], (.cons (.int .i64) .nil), (.cons (.bcells 0 false 1 (.cons (.int .i64) .nil)) .nil)⟩, ⟨.exit 0, [], .nil, (.cons (.bcells 0 false 1 (.cons (.int .i64) .nil)) .nil)⟩]
def qab_L0 (n : Nat) : LEntry := ⟨qab_h0, qab_o0, qab_W0 n⟩
def qab_res : List StSh := [⟨.ret, [0], (.cons (.int .i64) .nil), (.cons (.bcells 0 false 1 (.cons (.int .i64) .nil)) .nil)⟩]
def qab_tbl (n : Nat) : FuncId → List Entry := fun f => bif Nat.beq f 91 then [qbq_E n] else []
def qab_loops (n : Nat) : Nat → Option LEntry := fun f => bif Nat.beq f 0 then some (qab_L0 n) else none
theorem qab_r0 (n : Nat) (s_0 : DI) (t7 : Int) (t8 : Int) (m0 : Int) : roundK (real _) tab (qab_tbl n) (qab_loops n) qab_an [some true] qab_l0 0 [0, 1, 7, 8] qab_h0 qab_o0 ((s_0, (t7, t8)), m0) some = qab_B0 n s_0 t7 t8 m0 := by kernel_rfl
theorem qab_f0 (n : Nat) : LoopFact tab (qab_tbl n) (qab_loops n) qab_an [some true] n 0 qab_l0 (qab_L0 n) := ⟨[0, 1, 7, 8], (fun s => qab_B0 n s.1.1 s.1.2.1 s.1.2.2 s.2), by kernel_rfl, by kernel_rfl, fun s => rfl, fun s => qab_r0 n s.1.1 s.1.2.1 s.1.2.2 s.2⟩
theorem qab_run (n : Nat) (s_0 : DI) (m0 : Int) : funDS (real _) tab (qab_tbl n) (qab_loops n) qab_an Try.f84 1 qab_a qab_res (s_0, m0) some = qab n s_0 m0 := by kernel_rfl
def qab_E (n : Nat) : Entry := ⟨qab_a, qab_res, fun d => qab n d.1 d.2⟩
theorem qab_ok (n : Nat) : EOK Try.prog 84 (qab_E n) :=
 EOK.ofS prog_names prog_mixed tab_ok (tbl := qab_tbl n) (loops := qab_loops n) (an := qab_an) (old := [some true]) (n := n) (c := qab_c) (fn := Try.f84) (TblOK.cons (AllE.cons (qbq_ok n) AllE.nil) TblOK.nil) (by kernel_rfl) (by kernel_rfl) (by kernel_rfl) (by kernel_rfl) (fun d => by kernel_rfl) (LT.cons (by kernel_rfl) (qab_f0 n) LT.nil) (fun a => qab_run n a.1 a.2)
def qe_res : List StSh := [⟨.ret, [0], (.cons .bool .nil), (.cons (.bcells 0 false 1 (.cons (.int .i64) .nil)) .nil)⟩]
def qe_tbl (n : Nat) : FuncId → List Entry := fun f => bif Nat.beq f 84 then [qab_E n] else []
def qe_loops (n : Nat) : Nat → Option LEntry := fun f => none
theorem qe_run (n : Nat) (s_0 : DI) (m0 : Int) : funDS (real _) tab (qe_tbl n) (qe_loops n) qe_an Try.f36 1 qe_a qe_res (s_0, m0) some = qe n s_0 m0 := by kernel_rfl
def qe_E (n : Nat) : Entry := ⟨qe_a, qe_res, fun d => qe n d.1 d.2⟩
theorem qe_ok (n : Nat) : EOK Try.prog 36 (qe_E n) :=
 EOK.ofS prog_names prog_mixed tab_ok (tbl := qe_tbl n) (loops := qe_loops n) (an := qe_an) (old := [some true]) (n := n) (c := qe_c) (fn := Try.f36) (TblOK.cons (AllE.cons (qab_ok n) AllE.nil) TblOK.nil) (by kernel_rfl) (by kernel_rfl) (by kernel_rfl) (by kernel_rfl) (fun d => by kernel_rfl) LT.nil (fun a => qe_run n a.1 a.2)
def qh_an : Ann := {}
def qh_c : Code := (match Try.f93.body with | some c => c | none => .skip)
def qh_a : StSh := ⟨.normal, [0, 1], (.cons (.sl true false .str) (.cons (.fn 94 .nil .nil) .nil)), .nil⟩
def qae_an : Ann := { live := [(0, [0, 1, 7, 8])] }
def qae_c : Code := (match Try.f115.body with | some c => c | none => .skip)
def qae_l0 : Code := (match assoc 0 (loopsIn qae_c 0) with | some c => c | none => .skip)
def qae_a : StSh := ⟨.normal, [0, 1], (.cons (.sl true false .str) (.cons (.fn 94 .nil .nil) .nil)), .nil⟩
def qbp_an : Ann := {}
def qbp_c : Code := (match Try.f94.body with | some c => c | none => .skip)
def qbp_a : StSh := ⟨.normal, [0], (.cons .str .nil), .nil⟩
def qbp_res : List StSh := [⟨.ret, [0], (.cons .bool .nil), .nil⟩]
def qbp_tbl (n : Nat) : FuncId → List Entry := fun f => []
def qbp_loops (n : Nat) : Nat → Option LEntry := fun f => none
theorem qbp_run (n : Nat) (s_0 : ByteArray) : funDS (real _) tab (qbp_tbl n) (qbp_loops n) qbp_an Try.f94 0 qbp_a qbp_res s_0 some = qbp n s_0 := by kernel_rfl
def qbp_E (n : Nat) : Entry := ⟨qbp_a, qbp_res, fun d => qbp n d⟩
theorem qbp_ok (n : Nat) : EOK Try.prog 94 (qbp_E n) :=
 EOK.ofS prog_names prog_mixed tab_ok (tbl := qbp_tbl n) (loops := qbp_loops n) (an := qbp_an) (old := []) (n := n) (c := qbp_c) (fn := Try.f94) TblOK.nil (by kernel_rfl) (by kernel_rfl) (by kernel_rfl) (by kernel_rfl) (fun d => by kernel_rfl) LT.nil (fun a => qbp_run n a)
def qae_h0 : List StSh := [⟨.normal, [0, 1, 7, 8], (.cons (.sl true false .str) (.cons (.fn 94 .nil .nil) (.cons (.int .i64) (.cons (.int .i64) .nil)))), .nil⟩]
def qae_o0 : List StSh := [⟨.ret, [4], (.cons (.int .i64) .nil), .nil⟩, ⟨.exit 0, [], .nil, .nil⟩]
def qae_L0 (n : Nat) : LEntry := ⟨qae_h0, qae_o0, qae_W0 n⟩
def qae_res : List StSh := [⟨.ret, [0], (.cons (.int .i64) .nil), .nil⟩]
def qae_tbl (n : Nat) : FuncId → List Entry := fun f => bif Nat.beq f 94 then [qbp_E n] else []
def qae_loops (n : Nat) : Nat → Option LEntry := fun f => bif Nat.beq f 0 then some (qae_L0 n) else none
theorem qae_r0 (n : Nat) (s_0 : DD) (t7 : Int) (t8 : Int) : roundK (real _) tab (qae_tbl n) (qae_loops n) qae_an [] qae_l0 0 [0, 1, 7, 8] qae_h0 qae_o0 (s_0, (t7, t8)) some = qae_B0 n s_0 t7 t8 := by kernel_rfl
theorem qae_f0 (n : Nat) : LoopFact tab (qae_tbl n) (qae_loops n) qae_an [] n 0 qae_l0 (qae_L0 n) := ⟨[0, 1, 7, 8], (fun s => qae_B0 n s.1 s.2.1 s.2.2), by kernel_rfl, by kernel_rfl, fun s => rfl, fun s => qae_r0 n s.1 s.2.1 s.2.2⟩
theorem qae_run (n : Nat) (s_0 : DD) : funDS (real _) tab (qae_tbl n) (qae_loops n) qae_an Try.f115 0 qae_a qae_res s_0 some = qae n s_0 := by kernel_rfl
def qae_E (n : Nat) : Entry := ⟨qae_a, qae_res, fun d => qae n d⟩
theorem qae_ok (n : Nat) : EOK Try.prog 115 (qae_E n) :=
 EOK.ofS prog_names prog_mixed tab_ok (tbl := qae_tbl n) (loops := qae_loops n) (an := qae_an) (old := []) (n := n) (c := qae_c) (fn := Try.f115) (TblOK.cons (AllE.cons (qbp_ok n) AllE.nil) TblOK.nil) (by kernel_rfl) (by kernel_rfl) (by kernel_rfl) (by kernel_rfl) (fun d => by kernel_rfl) (LT.cons (by kernel_rfl) (qae_f0 n) LT.nil) (fun a => qae_run n a)
def qh_res : List StSh := [⟨.ret, [0], (.cons .bool .nil), .nil⟩]
def qh_tbl (n : Nat) : FuncId → List Entry := fun f => bif Nat.beq f 115 then [qae_E n] else []
def qh_loops (n : Nat) : Nat → Option LEntry := fun f => none
theorem qh_run (n : Nat) (s_0 : DD) : funDS (real _) tab (qh_tbl n) (qh_loops n) qh_an Try.f93 0 qh_a qh_res s_0 some = qh n s_0 := by kernel_rfl
def qh_E (n : Nat) : Entry := ⟨qh_a, qh_res, fun d => qh n d⟩
theorem qh_ok (n : Nat) : EOK Try.prog 93 (qh_E n) :=
 EOK.ofS prog_names prog_mixed tab_ok (tbl := qh_tbl n) (loops := qh_loops n) (an := qh_an) (old := []) (n := n) (c := qh_c) (fn := Try.f93) (TblOK.cons (AllE.cons (qae_ok n) AllE.nil) TblOK.nil) (by kernel_rfl) (by kernel_rfl) (by kernel_rfl) (by kernel_rfl) (fun d => by kernel_rfl) LT.nil (fun a => qh_run n a)
def qbx_res : List StSh := [⟨.ret, [0], (.cons .bool .nil), .nil⟩]
def qbx_tbl (n : Nat) : FuncId → List Entry := fun f => bif Nat.beq f 85 then [qf_E n] else bif Nat.beq f 88 then [qq_E n] else bif Nat.beq f 36 then [qe_E n] else bif Nat.beq f 93 then [qh_E n] else []
def qbx_loops (n : Nat) : Nat → Option LEntry := fun f => none
theorem qbx_run (n : Nat) (t0 : DG) (t0_1 : DH) (t0_2 : DI) (t0_3 : DC) (t0_4 : DD) : funDS (real _) tab (qbx_tbl n) (qbx_loops n) qbx_an Try.f39 0 qbx_a qbx_res (t0, (t0_1, (t0_2, (t0_3, t0_4)))) some = qbx n t0 t0_1 t0_2 t0_3 t0_4 := by kernel_rfl
def qbx_E (n : Nat) : Entry := ⟨qbx_a, qbx_res, fun d => qbx n d.1 d.2.1 d.2.2.1 d.2.2.2.1 d.2.2.2.2⟩
theorem qbx_ok (n : Nat) : EOK Try.prog 39 (qbx_E n) :=
 EOK.ofS prog_names prog_mixed tab_ok (tbl := qbx_tbl n) (loops := qbx_loops n) (an := qbx_an) (old := []) (n := n) (c := qbx_c) (fn := Try.f39) (TblOK.cons (AllE.cons (qf_ok n) AllE.nil) (TblOK.cons (AllE.cons (qq_ok n) AllE.nil) (TblOK.cons (AllE.cons (qe_ok n) AllE.nil) (TblOK.cons (AllE.cons (qh_ok n) AllE.nil) TblOK.nil)))) (by kernel_rfl) (by kernel_rfl) (by kernel_rfl) (by kernel_rfl) (fun d => by kernel_rfl) LT.nil (fun a => qbx_run n a.1 a.2.1 a.2.2.1 a.2.2.2.1 a.2.2.2.2)
def qay_an : Ann := { live := [(0, [3, 14, 15, 16])] }
def qay_c : Code := (match Try.f41.body with | some c => c | none => .skip)
def qay_l0 : Code := (match assoc 0 (loopsIn qay_c 0) with | some c => c | none => .skip)
def qay_a : StSh := ⟨.normal, [0], (.cons (.agg (.cons (.sl true false yA) (.cons (.sl true true yB) (.cons (.sl true true yC) (.cons (.sl true false (.int .u64)) (.cons (.sl true false .str) .nil)))))) .nil), .nil⟩
def qp_an : Ann := { boxed := [(0, 8)] }
def qp_c : Code := (match Try.f96.body with | some c => c | none => .skip)
def qp_a : StSh := ⟨.normal, [0, 1], (.cons (.ptr 0 0 0 0) (.cons (.int .i64) .nil)), (.cons (.bcells 0 false 1 (.cons .nilS .nil)) .nil)⟩
def qp_res : List StSh := [⟨.ret, [0], (.cons (.tup .nil) .nil), (.cons (.bcells 0 false 1 (.cons (.msw 1 0) .nil)) (.cons (.bts 0 false false false (.int .u8)) .nil))⟩]
def qp_tbl (n : Nat) : FuncId → List Entry := fun f => bif Nat.beq f 95 then [qcr_E n] else []
def qp_loops (n : Nat) : Nat → Option LEntry := fun f => none
theorem qp_run (n : Nat) (n_1 : Int) : funDS (real _) tab (qp_tbl n) (qp_loops n) qp_an Try.f96 1 qp_a qp_res n_1 some = qp n n_1 := by kernel_rfl
def qp_E (n : Nat) : Entry := ⟨qp_a, qp_res, fun d => qp n d⟩
theorem qp_ok (n : Nat) : EOK Try.prog 96 (qp_E n) :=
 EOK.ofS prog_names prog_mixed tab_ok (tbl := qp_tbl n) (loops := qp_loops n) (an := qp_an) (old := [some true]) (n := n) (c := qp_c) (fn := Try.f96) (TblOK.cons (AllE.cons (qcr_ok n) AllE.nil) TblOK.nil) (by kernel_rfl) (by kernel_rfl) (by kernel_rfl) (by kernel_rfl) (fun d => by kernel_rfl) LT.nil (fun a => qp_run n a)
def qi_an : Ann := { live := [(0, [0, 10, 11, 12])], boxed := [(4, 7)] }
def qi_c : Code := (match Try.f97.body with | some c => c | none => .skip)
def qi_l0 : Code := (match assoc 0 (loopsIn qi_c 0) with | some c => c | none => .skip)
def qi_a : StSh := ⟨.normal, [0, 1], (.cons (.ptr 0 0 0 0) (.cons (.sl true true yD) .nil)), (.cons (.bcells 0 false 1 (.cons (.msw 1 0) .nil)) (.cons (.bts 0 false false false (.int .u8)) .nil))⟩
def qd_an : Ann := { boxed := [(0, 8)] }
def qd_c : Code := (match Try.f96.body with | some c => c | none => .skip)
def qd_a : StSh := ⟨.normal, [0, 1], (.cons (.ptr 0 0 0 0) (.cons (.int .i64) .nil)), (.cons (.bcells 0 false 1 (.cons (.msw 1 0) .nil)) (.cons (.bts 0 false false false (.int .u8)) .nil))⟩
def qd_res : List StSh := [⟨.ret, [0], (.cons (.tup .nil) .nil), (.cons (.bcells 0 false 1 (.cons (.msw 1 0) .nil)) (.cons (.bts 0 false false false (.int .u8)) .nil))⟩]
def qd_tbl (n : Nat) : FuncId → List Entry := fun f => bif Nat.beq f 95 then [qcr_E n] else []
def qd_loops (n : Nat) : Nat → Option LEntry := fun f => none
theorem qd_run (n : Nat) (n_1 : Int) (m1 : DC) : funDS (real _) tab (qd_tbl n) (qd_loops n) qd_an Try.f96 2 qd_a qd_res (n_1, m1) some = qd n n_1 m1 := by kernel_rfl
def qd_E (n : Nat) : Entry := ⟨qd_a, qd_res, fun d => qd n d.1 d.2⟩
theorem qd_ok (n : Nat) : EOK Try.prog 96 (qd_E n) :=
 EOK.ofS prog_names prog_mixed tab_ok (tbl := qd_tbl n) (loops := qd_loops n) (an := qd_an) (old := [some true, some false]) (n := n) (c := qd_c) (fn := Try.f96) (TblOK.cons (AllE.cons (qcr_ok n) AllE.nil) TblOK.nil) (by kernel_rfl) (by kernel_rfl) (by kernel_rfl) (by kernel_rfl) (fun d => by kernel_rfl) LT.nil (fun a => qd_run n a.1 a.2)
def qcn_an : Ann := { raw := [(1, 4)] }
def qcn_c : Code := (match Try.f98.body with | some c => c | none => .skip)
def qcn_a : StSh := ⟨.normal, [0], (.cons (.agg (.cons (.int .i64) (.cons (.int .i64) .nil))) .nil), .nil⟩
def qcn_res : List StSh := [⟨.ret, [0], (.cons (.sl false false (.int .u8)) .nil), .nil⟩]
def qcn_tbl (n : Nat) : FuncId → List Entry := fun f => bif Nat.beq f 95 then [qcr_E n] else []
def qcn_loops (n : Nat) : Nat → Option LEntry := fun f => none
theorem qcn_run (n : Nat) (t_0 : Int) (t_0_1 : Int) : funDS (real _) tab (qcn_tbl n) (qcn_loops n) qcn_an Try.f98 0 qcn_a qcn_res (t_0, t_0_1) some = qcn n t_0 t_0_1 := by kernel_rfl
def qcn_E (n : Nat) : Entry := ⟨qcn_a, qcn_res, fun d => qcn n d.1 d.2⟩
theorem qcn_ok (n : Nat) : EOK Try.prog 98 (qcn_E n) :=
 EOK.ofS prog_names prog_mixed tab_ok (tbl := qcn_tbl n) (loops := qcn_loops n) (an := qcn_an) (old := []) (n := n) (c := qcn_c) (fn := Try.f98) (TblOK.cons (AllE.cons (qcr_ok n) AllE.nil) TblOK.nil) (by kernel_rfl) (by kernel_rfl) (by kernel_rfl) (by kernel_rfl) (fun d => by kernel_rfl) LT.nil (fun a => qcn_run n a.1 a.2)
def qi_h0 : List StSh := [⟨.normal, [0, 10, 11, 12], (.cons (.ptr 0 0 0 0) (.cons (.sl true true yD) (.cons (.int .i64) (.cons (.int .i64) .nil)))), (.cons (.bcells 0 false 1 (.cons (.msw 1 0) .nil)) (.cons (.bts 0 false false false (.int .u8)) .nil))⟩]
def qi_o0 : List StSh := [⟨.exit 0, [], .nil, (.cons (.bcells 0 false 1 (.cons (.msw 1 0) .nil)) (.cons (.bts 0 false false false (.int .u8)) .nil))⟩]
def qi_L0 (n : Nat) : LEntry := ⟨qi_h0, qi_o0, qi_W0 n⟩
def qi_res : List StSh := [⟨.ret, [0], (.cons (.tup .nil) .nil), (.cons (.bcells 0 false 1 (.cons (.msw 1 0) .nil)) (.cons (.bts 0 false false false (.int .u8)) .nil))⟩]
def qi_tbl (n : Nat) : FuncId → List Entry := fun f => bif Nat.beq f 96 then [qd_E n] else bif Nat.beq f 98 then [qcn_E n] else []
def qi_loops (n : Nat) : Nat → Option LEntry := fun f => bif Nat.beq f 0 then some (qi_L0 n) else none
theorem qi_r0 (n : Nat) (t10 : DA) (t11 : Int) (t12 : Int) (m1 : DC) : roundK (real _) tab (qi_tbl n) (qi_loops n) qi_an [some true, some false] qi_l0 0 [0, 10, 11, 12] qi_h0 qi_o0 ((t10, (t11, t12)), m1) some = qi_B0 n t10 t11 t12 m1 := by kernel_rfl
theorem qi_f0 (n : Nat) : LoopFact tab (qi_tbl n) (qi_loops n) qi_an [some true, some false] n 0 qi_l0 (qi_L0 n) := ⟨[0, 10, 11, 12], (fun s => qi_B0 n s.1.1 s.1.2.1 s.1.2.2 s.2), by kernel_rfl, by kernel_rfl, fun s => rfl, fun s => qi_r0 n s.1.1 s.1.2.1 s.1.2.2 s.2⟩
theorem qi_run (n : Nat) (list_1 : DA) (m1 : DC) : funDS (real _) tab (qi_tbl n) (qi_loops n) qi_an Try.f97 2 qi_a qi_res (list_1, m1) some = qi n list_1 m1 := by kernel_rfl
def qi_E (n : Nat) : Entry := ⟨qi_a, qi_res, fun d => qi n d.1 d.2⟩
theorem qi_ok (n : Nat) : EOK Try.prog 97 (qi_E n) :=
 EOK.ofS prog_names prog_mixed tab_ok (tbl := qi_tbl n) (loops := qi_loops n) (an := qi_an) (old := [some true, some false]) (n := n) (c := qi_c) (fn := Try.f97) (TblOK.cons (AllE.cons (qd_ok n) AllE.nil) (TblOK.cons (AllE.cons (qcn_ok n) AllE.nil) TblOK.nil)) (by kernel_rfl) (by kernel_rfl) (by kernel_rfl) (by kernel_rfl) (fun d => by kernel_rfl) (LT.cons (by kernel_rfl) (qi_f0 n) LT.nil) (fun a => qi_run n a.1 a.2)
def qay_h0 : List StSh := [⟨.normal, [3, 14, 15, 16], (.cons (.ptr 0 0 0 0) (.cons (.sl true false yA) (.cons (.int .i64) (.cons (.int .i64) .nil)))), (.cons (.bcells 0 false 1 (.cons (.msw 1 0) .nil)) (.cons (.bts 0 false false false (.int .u8)) .nil))⟩]
def qay_o0 : List StSh := [⟨.exit 0, [3], (.cons (.ptr 0 0 0 0) .nil), (.cons (.bcells 0 false 1 (.cons (.msw 1 0) .nil)) (.cons (.bts 0 false false false (.int .u8)) .nil))⟩]
def qay_L0 (n : Nat) : LEntry := ⟨qay_h0, qay_o0, qay_W0 n⟩
def qay_res : List StSh := [⟨.ret, [0], (.cons (.sl false false (.int .u8)) .nil), .nil⟩]
def qay_tbl (n : Nat) : FuncId → List Entry := fun f => bif Nat.beq f 96 then [qp_E n] else bif Nat.beq f 97 then [qi_E n] else []
def qay_loops (n : Nat) : Nat → Option LEntry := fun f => bif Nat.beq f 0 then some (qay_L0 n) else none
theorem qay_r0 (n : Nat) (t14 : DG) (t15 : Int) (t16 : Int) (m1 : DC) : roundK (real _) tab (qay_tbl n) (qay_loops n) qay_an [] qay_l0 0 [3, 14, 15, 16] qay_h0 qay_o0 ((t14, (t15, t16)), m1) some = qay_B0 n t14 t15 t16 m1 := by kernel_rfl
theorem qay_f0 (n : Nat) : LoopFact tab (qay_tbl n) (qay_loops n) qay_an [] n 0 qay_l0 (qay_L0 n) := ⟨[3, 14, 15, 16], (fun s => qay_B0 n s.1.1 s.1.2.1 s.1.2.2 s.2), by kernel_rfl, by kernel_rfl, fun s => rfl, fun s => qay_r0 n s.1.1 s.1.2.1 s.1.2.2 s.2⟩
theorem qay_run (n : Nat) (m_0 : DG) (m_0_1 : DH) (m_0_2 : DI) (m_0_3 : DC) (m_0_4 : DD) : funDS (real _) tab (qay_tbl n) (qay_loops n) qay_an Try.f41 0 qay_a qay_res (m_0, (m_0_1, (m_0_2, (m_0_3, m_0_4)))) some = qay n m_0 m_0_1 m_0_2 m_0_3 m_0_4 := by kernel_rfl
def qay_E (n : Nat) : Entry := ⟨qay_a, qay_res, fun d => qay n d.1 d.2.1 d.2.2.1 d.2.2.2.1 d.2.2.2.2⟩
theorem qay_ok (n : Nat) : EOK Try.prog 41 (qay_E n) :=
 EOK.ofS prog_names prog_mixed tab_ok (tbl := qay_tbl n) (loops := qay_loops n) (an := qay_an) (old := []) (n := n) (c := qay_c) (fn := Try.f41) (TblOK.cons (AllE.cons (qp_ok n) AllE.nil) (TblOK.cons (AllE.cons (qi_ok n) AllE.nil) TblOK.nil)) (by kernel_rfl) (by kernel_rfl) (by kernel_rfl) (by kernel_rfl) (fun d => by kernel_rfl) (LT.cons (by kernel_rfl) (qay_f0 n) LT.nil) (fun a => qay_run n a.1 a.2.1 a.2.2.1 a.2.2.2.1 a.2.2.2.2)
def qz_an : Ann := { live := [(0, [3, 16, 17, 18]), (2, [3, 16, 17, 18, 47, 48, 49])], boxed := [(7, 8), (13, 7)] }
def qz_c : Code := (match Try.f42.body with | some c => c | none => .skip)
def qz_l0 : Code := (match assoc 0 (loopsIn qz_c 0) with | some c => c | none => .skip)
def qz_l2 : Code := (match assoc 2 (loopsIn qz_c 0) with | some c => c | none => .skip)
def qz_a : StSh := ⟨.normal, [0], (.cons (.agg (.cons (.sl true false yA) (.cons (.sl true true yB) (.cons (.sl true true yC) (.cons (.sl true false (.int .u64)) (.cons (.sl true false .str) .nil)))))) .nil), .nil⟩
def qz_h2 : List StSh := [⟨.normal, [3, 16, 17, 18, 47, 48, 49], (.cons (.ptr 0 0 0 0) (.cons (.sl true true yB) (.cons (.int .i64) (.cons (.int .i64) (.cons (.sl true true yE) (.cons (.int .i64) (.cons (.int .i64) .nil))))))), (.cons (.bcells 0 false 1 (.cons (.msw 1 0) .nil)) (.cons (.bts 0 false false false (.int .u8)) .nil))⟩]
def qz_o2 : List StSh := [⟨.exit 2, [3, 16, 17, 18], (.cons (.ptr 0 0 0 0) (.cons (.sl true true yB) (.cons (.int .i64) (.cons (.int .i64) .nil)))), (.cons (.bcells 0 false 1 (.cons (.msw 1 0) .nil)) (.cons (.bts 0 false false false (.int .u8)) .nil))⟩]
def qz_L2 (n : Nat) : LEntry := ⟨qz_h2, qz_o2, qz_W2 n⟩
def qz_h0 : List StSh := [⟨.normal, [3, 16, 17, 18], (.cons (.ptr 0 0 0 0) (.cons (.sl true true yB) (.cons (.int .i64) (.cons (.int .i64) .nil)))), (.cons (.bcells 0 false 1 (.cons (.msw 1 0) .nil)) (.cons (.bts 0 false false false (.int .u8)) .nil))⟩]
def qz_o0 : List StSh := [⟨.exit 0, [3], (.cons (.ptr 0 0 0 0) .nil), (.cons (.bcells 0 false 1 (.cons (.msw 1 0) .nil)) (.cons (.bts 0 false false false (.int .u8)) .nil))⟩]
def qz_L0 (n : Nat) : LEntry := ⟨qz_h0, qz_o0, qz_W0 n⟩
def qz_res : List StSh := [⟨.ret, [0], (.cons (.sl false false (.int .u8)) .nil), .nil⟩]
def qz_tbl (n : Nat) : FuncId → List Entry := fun f => bif Nat.beq f 96 then [qp_E n, qd_E n] else bif Nat.beq f 97 then [qi_E n] else bif Nat.beq f 98 then [qcn_E n] else bif Nat.beq f 99 then [qco_E n] else []
def qz_loops (n : Nat) : Nat → Option LEntry := fun f => bif Nat.beq f 2 then some (qz_L2 n) else bif Nat.beq f 0 then some (qz_L0 n) else none
theorem qz_r2 (n : Nat) (t16 : DH) (t17 : Int) (t18 : Int) (t47 : DB) (t48 : Int) (t49 : Int) (m1 : DC) : roundK (real _) tab (qz_tbl n) (qz_loops n) qz_an [] qz_l2 2 [3, 16, 17, 18, 47, 48, 49] qz_h2 qz_o2 ((t16, (t17, (t18, (t47, (t48, t49))))), m1) some = qz_B2 n t16 t17 t18 t47 t48 t49 m1 := by kernel_rfl
theorem qz_f2 (n : Nat) : LoopFact tab (qz_tbl n) (qz_loops n) qz_an [] n 2 qz_l2 (qz_L2 n) := ⟨[3, 16, 17, 18, 47, 48, 49], (fun s => qz_B2 n s.1.1 s.1.2.1 s.1.2.2.1 s.1.2.2.2.1 s.1.2.2.2.2.1 s.1.2.2.2.2.2 s.2), by kernel_rfl, by kernel_rfl, fun s => rfl, fun s => qz_r2 n s.1.1 s.1.2.1 s.1.2.2.1 s.1.2.2.2.1 s.1.2.2.2.2.1 s.1.2.2.2.2.2 s.2⟩
theorem qz_r0 (n : Nat) (t16 : DH) (t17 : Int) (t18 : Int) (m1 : DC) : roundK (real _) tab (qz_tbl n) (qz_loops n) qz_an [] qz_l0 0 [3, 16, 17, 18] qz_h0 qz_o0 ((t16, (t17, t18)), m1) some = qz_B0 n t16 t17 t18 m1 := by kernel_rfl
theorem qz_f0 (n : Nat) : LoopFact tab (qz_tbl n) (qz_loops n) qz_an [] n 0 qz_l0 (qz_L0 n) := ⟨[3, 16, 17, 18], (fun s => qz_B0 n s.1.1 s.1.2.1 s.1.2.2 s.2), by kernel_rfl, by kernel_rfl, fun s => rfl, fun s => qz_r0 n s.1.1 s.1.2.1 s.1.2.2 s.2⟩
theorem qz_run (n : Nat) (t0 : DG) (t0_1 : DH) (t0_2 : DI) (t0_3 : DC) (t0_4 : DD) : funDS (real _) tab (qz_tbl n) (qz_loops n) qz_an Try.f42 0 qz_a qz_res (t0, (t0_1, (t0_2, (t0_3, t0_4)))) some = qz n t0 t0_1 t0_2 t0_3 t0_4 := by kernel_rfl
def qz_E (n : Nat) : Entry := ⟨qz_a, qz_res, fun d => qz n d.1 d.2.1 d.2.2.1 d.2.2.2.1 d.2.2.2.2⟩
theorem qz_ok (n : Nat) : EOK Try.prog 42 (qz_E n) :=
 EOK.ofS prog_names prog_mixed tab_ok (tbl := qz_tbl n) (loops := qz_loops n) (an := qz_an) (old := []) (n := n) (c := qz_c) (fn := Try.f42) (TblOK.cons (AllE.cons (qp_ok n) (AllE.cons (qd_ok n) AllE.nil)) (TblOK.cons (AllE.cons (qi_ok n) AllE.nil) (TblOK.cons (AllE.cons (qcn_ok n) AllE.nil) (TblOK.cons (AllE.cons (qco_ok n) AllE.nil) TblOK.nil)))) (by kernel_rfl) (by kernel_rfl) (by kernel_rfl) (by kernel_rfl) (fun d => by kernel_rfl) (LT.cons (by kernel_rfl) (qz_f2 n) (LT.cons (by kernel_rfl) (qz_f0 n) LT.nil)) (fun a => qz_run n a.1 a.2.1 a.2.2.1 a.2.2.2.1 a.2.2.2.2)
def qar_an : Ann := { live := [(0, [3, 14, 15, 16])], boxed := [(7, 8)] }
def qar_c : Code := (match Try.f43.body with | some c => c | none => .skip)
def qar_l0 : Code := (match assoc 0 (loopsIn qar_c 0) with | some c => c | none => .skip)
def qar_a : StSh := ⟨.normal, [0], (.cons (.agg (.cons (.sl true false yA) (.cons (.sl true true yB) (.cons (.sl true true yC) (.cons (.sl true false (.int .u64)) (.cons (.sl true false .str) .nil)))))) .nil), .nil⟩
def qar_h0 : List StSh := [⟨.normal, [3, 14, 15, 16], (.cons (.ptr 0 0 0 0) (.cons (.sl true true yC) (.cons (.int .i64) (.cons (.int .i64) .nil)))), (.cons (.bcells 0 false 1 (.cons (.msw 1 0) .nil)) (.cons (.bts 0 false false false (.int .u8)) .nil))⟩]
def qar_o0 : List StSh := [⟨.exit 0, [3], (.cons (.ptr 0 0 0 0) .nil), (.cons (.bcells 0 false 1 (.cons (.msw 1 0) .nil)) (.cons (.bts 0 false false false (.int .u8)) .nil))⟩]
def qar_L0 (n : Nat) : LEntry := ⟨qar_h0, qar_o0, qar_W0 n⟩
def qar_res : List StSh := [⟨.ret, [0], (.cons (.sl false false (.int .u8)) .nil), .nil⟩]
def qar_tbl (n : Nat) : FuncId → List Entry := fun f => bif Nat.beq f 96 then [qp_E n] else bif Nat.beq f 97 then [qi_E n] else bif Nat.beq f 98 then [qcn_E n] else []
def qar_loops (n : Nat) : Nat → Option LEntry := fun f => bif Nat.beq f 0 then some (qar_L0 n) else none
theorem qar_r0 (n : Nat) (t14 : DI) (t15 : Int) (t16 : Int) (m1 : DC) : roundK (real _) tab (qar_tbl n) (qar_loops n) qar_an [] qar_l0 0 [3, 14, 15, 16] qar_h0 qar_o0 ((t14, (t15, t16)), m1) some = qar_B0 n t14 t15 t16 m1 := by kernel_rfl
theorem qar_f0 (n : Nat) : LoopFact tab (qar_tbl n) (qar_loops n) qar_an [] n 0 qar_l0 (qar_L0 n) := ⟨[3, 14, 15, 16], (fun s => qar_B0 n s.1.1 s.1.2.1 s.1.2.2 s.2), by kernel_rfl, by kernel_rfl, fun s => rfl, fun s => qar_r0 n s.1.1 s.1.2.1 s.1.2.2 s.2⟩
theorem qar_run (n : Nat) (m_0 : DG) (m_0_1 : DH) (m_0_2 : DI) (m_0_3 : DC) (m_0_4 : DD) : funDS (real _) tab (qar_tbl n) (qar_loops n) qar_an Try.f43 0 qar_a qar_res (m_0, (m_0_1, (m_0_2, (m_0_3, m_0_4)))) some = qar n m_0 m_0_1 m_0_2 m_0_3 m_0_4 := by kernel_rfl
def qar_E (n : Nat) : Entry := ⟨qar_a, qar_res, fun d => qar n d.1 d.2.1 d.2.2.1 d.2.2.2.1 d.2.2.2.2⟩
theorem qar_ok (n : Nat) : EOK Try.prog 43 (qar_E n) :=
 EOK.ofS prog_names prog_mixed tab_ok (tbl := qar_tbl n) (loops := qar_loops n) (an := qar_an) (old := []) (n := n) (c := qar_c) (fn := Try.f43) (TblOK.cons (AllE.cons (qp_ok n) AllE.nil) (TblOK.cons (AllE.cons (qi_ok n) AllE.nil) (TblOK.cons (AllE.cons (qcn_ok n) AllE.nil) TblOK.nil))) (by kernel_rfl) (by kernel_rfl) (by kernel_rfl) (by kernel_rfl) (fun d => by kernel_rfl) (LT.cons (by kernel_rfl) (qar_f0 n) LT.nil) (fun a => qar_run n a.1 a.2.1 a.2.2.1 a.2.2.2.1 a.2.2.2.2)
def qax_an : Ann := { live := [(0, [3, 14, 15, 16])], boxed := [(6, 7)] }
def qax_c : Code := (match Try.f44.body with | some c => c | none => .skip)
def qax_l0 : Code := (match assoc 0 (loopsIn qax_c 0) with | some c => c | none => .skip)
def qax_a : StSh := ⟨.normal, [0], (.cons (.agg (.cons (.sl true false yA) (.cons (.sl true true yB) (.cons (.sl true true yC) (.cons (.sl true false (.int .u64)) (.cons (.sl true false .str) .nil)))))) .nil), .nil⟩
def qci_an : Ann := { live := [(0, [0, 5, 9, 10])], boxed := [(1, 0), (5, 7)] }
def qci_c : Code := (match Try.f100.body with | some c => c | none => .skip)
def qci_l0 : Code := (match assoc 0 (loopsIn qci_c 0) with | some c => c | none => .skip)
def qci_a : StSh := ⟨.normal, [0, 1], (.cons (.int .u64) (.cons (.int .i64) .nil)), .nil⟩
def qci_h0 : List StSh := [⟨.normal, [0, 5, 9, 10], (.cons (.int .u64) (.cons (.msw 0 0) (.cons (.int .i64) (.cons (.int .i64) .nil)))), (.cons (.bts 0 false false false (.int .u8)) .nil)⟩]
def qci_o0 : List StSh := [⟨.exit 0, [5], (.cons (.msw 0 0) .nil), (.cons (.bts 0 false false false (.int .u8)) .nil)⟩]
def qci_L0 (n : Nat) : LEntry := ⟨qci_h0, qci_o0, qci_W0 n⟩
def qci_res : List StSh := [⟨.ret, [0], (.cons (.sl false false (.int .u8)) .nil), .nil⟩]
def qci_tbl (n : Nat) : FuncId → List Entry := fun f => []
def qci_loops (n : Nat) : Nat → Option LEntry := fun f => bif Nat.beq f 0 then some (qci_L0 n) else none
theorem qci_r0 (n : Nat) (v_0 : Int) (t9 : Int) (t10 : Int) (m0 : DC) : roundK (real _) tab (qci_tbl n) (qci_loops n) qci_an [] qci_l0 0 [0, 5, 9, 10] qci_h0 qci_o0 ((v_0, (t9, t10)), m0) some = qci_B0 n v_0 t9 t10 m0 := by kernel_rfl
theorem qci_f0 (n : Nat) : LoopFact tab (qci_tbl n) (qci_loops n) qci_an [] n 0 qci_l0 (qci_L0 n) := ⟨[0, 5, 9, 10], (fun s => qci_B0 n s.1.1 s.1.2.1 s.1.2.2 s.2), by kernel_rfl, by kernel_rfl, fun s => rfl, fun s => qci_r0 n s.1.1 s.1.2.1 s.1.2.2 s.2⟩
theorem qci_run (n : Nat) (v_0 : Int) (n_1 : Int) : funDS (real _) tab (qci_tbl n) (qci_loops n) qci_an Try.f100 0 qci_a qci_res (v_0, n_1) some = qci n v_0 n_1 := by kernel_rfl
def qci_E (n : Nat) : Entry := ⟨qci_a, qci_res, fun d => qci n d.1 d.2⟩
theorem qci_ok (n : Nat) : EOK Try.prog 100 (qci_E n) :=
 EOK.ofS prog_names prog_mixed tab_ok (tbl := qci_tbl n) (loops := qci_loops n) (an := qci_an) (old := []) (n := n) (c := qci_c) (fn := Try.f100) TblOK.nil (by kernel_rfl) (by kernel_rfl) (by kernel_rfl) (by kernel_rfl) (fun d => by kernel_rfl) (LT.cons (by kernel_rfl) (qci_f0 n) LT.nil) (fun a => qci_run n a.1 a.2)
def qax_h0 : List StSh := [⟨.normal, [3, 14, 15, 16], (.cons (.ptr 0 0 0 0) (.cons (.sl true false (.int .u64)) (.cons (.int .i64) (.cons (.int .i64) .nil)))), (.cons (.bcells 0 false 1 (.cons (.msw 1 0) .nil)) (.cons (.bts 0 false false false (.int .u8)) .nil))⟩]
def qax_o0 : List StSh := [⟨.exit 0, [3], (.cons (.ptr 0 0 0 0) .nil), (.cons (.bcells 0 false 1 (.cons (.msw 1 0) .nil)) (.cons (.bts 0 false false false (.int .u8)) .nil))⟩]
def qax_L0 (n : Nat) : LEntry := ⟨qax_h0, qax_o0, qax_W0 n⟩
def qax_res : List StSh := [⟨.ret, [0], (.cons (.sl false false (.int .u8)) .nil), .nil⟩]
def qax_tbl (n : Nat) : FuncId → List Entry := fun f => bif Nat.beq f 96 then [qp_E n] else bif Nat.beq f 100 then [qci_E n] else []
def qax_loops (n : Nat) : Nat → Option LEntry := fun f => bif Nat.beq f 0 then some (qax_L0 n) else none
theorem qax_r0 (n : Nat) (t14 : DC) (t15 : Int) (t16 : Int) (m1 : DC) : roundK (real _) tab (qax_tbl n) (qax_loops n) qax_an [] qax_l0 0 [3, 14, 15, 16] qax_h0 qax_o0 ((t14, (t15, t16)), m1) some = qax_B0 n t14 t15 t16 m1 := by kernel_rfl
theorem qax_f0 (n : Nat) : LoopFact tab (qax_tbl n) (qax_loops n) qax_an [] n 0 qax_l0 (qax_L0 n) := ⟨[3, 14, 15, 16], (fun s => qax_B0 n s.1.1 s.1.2.1 s.1.2.2 s.2), by kernel_rfl, by kernel_rfl, fun s => rfl, fun s => qax_r0 n s.1.1 s.1.2.1 s.1.2.2 s.2⟩
theorem qax_run (n : Nat) (m_0 : DG) (m_0_1 : DH) (m_0_2 : DI) (m_0_3 : DC) (m_0_4 : DD) : funDS (real _) tab (qax_tbl n) (qax_loops n) qax_an Try.f44 0 qax_a qax_res (m_0, (m_0_1, (m_0_2, (m_0_3, m_0_4)))) some = qax n m_0 m_0_1 m_0_2 m_0_3 m_0_4 := by kernel_rfl
def qax_E (n : Nat) : Entry := ⟨qax_a, qax_res, fun d => qax n d.1 d.2.1 d.2.2.1 d.2.2.2.1 d.2.2.2.2⟩
theorem qax_ok (n : Nat) : EOK Try.prog 44 (qax_E n) :=
 EOK.ofS prog_names prog_mixed tab_ok (tbl := qax_tbl n) (loops := qax_loops n) (an := qax_an) (old := []) (n := n) (c := qax_c) (fn := Try.f44) (TblOK.cons (AllE.cons (qp_ok n) AllE.nil) (TblOK.cons (AllE.cons (qci_ok n) AllE.nil) TblOK.nil)) (by kernel_rfl) (by kernel_rfl) (by kernel_rfl) (by kernel_rfl) (fun d => by kernel_rfl) (LT.cons (by kernel_rfl) (qax_f0 n) LT.nil) (fun a => qax_run n a.1 a.2.1 a.2.2.1 a.2.2.2.1 a.2.2.2.2)
def qbn_an : Ann := { live := [(0, [3, 14, 15, 16])], boxed := [(7, 6)] }
def qbn_c : Code := (match Try.f45.body with | some c => c | none => .skip)
def qbn_l0 : Code := (match assoc 0 (loopsIn qbn_c 0) with | some c => c | none => .skip)
def qbn_a : StSh := ⟨.normal, [0], (.cons (.agg (.cons (.sl true false yA) (.cons (.sl true true yB) (.cons (.sl true true yC) (.cons (.sl true false (.int .u64)) (.cons (.sl true false .str) .nil)))))) .nil), .nil⟩
def qbn_h0 : List StSh := [⟨.normal, [3, 14, 15, 16], (.cons (.ptr 0 0 0 0) (.cons (.sl true false .str) (.cons (.int .i64) (.cons (.int .i64) .nil)))), (.cons (.bcells 0 false 1 (.cons (.msw 1 0) .nil)) (.cons (.bts 0 false false false (.int .u8)) .nil))⟩]
def qbn_o0 : List StSh := [⟨.exit 0, [3], (.cons (.ptr 0 0 0 0) .nil), (.cons (.bcells 0 false 1 (.cons (.msw 1 0) .nil)) (.cons (.bts 0 false false false (.int .u8)) .nil))⟩]
def qbn_L0 (n : Nat) : LEntry := ⟨qbn_h0, qbn_o0, qbn_W0 n⟩
def qbn_res : List StSh := [⟨.ret, [0], (.cons (.sl false false (.int .u8)) .nil), .nil⟩]
def qbn_tbl (n : Nat) : FuncId → List Entry := fun f => bif Nat.beq f 96 then [qp_E n, qd_E n] else []
def qbn_loops (n : Nat) : Nat → Option LEntry := fun f => bif Nat.beq f 0 then some (qbn_L0 n) else none
theorem qbn_r0 (n : Nat) (t14 : DD) (t15 : Int) (t16 : Int) (m1 : DC) : roundK (real _) tab (qbn_tbl n) (qbn_loops n) qbn_an [] qbn_l0 0 [3, 14, 15, 16] qbn_h0 qbn_o0 ((t14, (t15, t16)), m1) some = qbn_B0 n t14 t15 t16 m1 := by kernel_rfl
theorem qbn_f0 (n : Nat) : LoopFact tab (qbn_tbl n) (qbn_loops n) qbn_an [] n 0 qbn_l0 (qbn_L0 n) := ⟨[3, 14, 15, 16], (fun s => qbn_B0 n s.1.1 s.1.2.1 s.1.2.2 s.2), by kernel_rfl, by kernel_rfl, fun s => rfl, fun s => qbn_r0 n s.1.1 s.1.2.1 s.1.2.2 s.2⟩
theorem qbn_run (n : Nat) (m_0 : DG) (m_0_1 : DH) (m_0_2 : DI) (m_0_3 : DC) (m_0_4 : DD) : funDS (real _) tab (qbn_tbl n) (qbn_loops n) qbn_an Try.f45 0 qbn_a qbn_res (m_0, (m_0_1, (m_0_2, (m_0_3, m_0_4)))) some = qbn n m_0 m_0_1 m_0_2 m_0_3 m_0_4 := by kernel_rfl
def qbn_E (n : Nat) : Entry := ⟨qbn_a, qbn_res, fun d => qbn n d.1 d.2.1 d.2.2.1 d.2.2.2.1 d.2.2.2.2⟩
theorem qbn_ok (n : Nat) : EOK Try.prog 45 (qbn_E n) :=
 EOK.ofS prog_names prog_mixed tab_ok (tbl := qbn_tbl n) (loops := qbn_loops n) (an := qbn_an) (old := []) (n := n) (c := qbn_c) (fn := Try.f45) (TblOK.cons (AllE.cons (qp_ok n) (AllE.cons (qd_ok n) AllE.nil)) TblOK.nil) (by kernel_rfl) (by kernel_rfl) (by kernel_rfl) (by kernel_rfl) (fun d => by kernel_rfl) (LT.cons (by kernel_rfl) (qbn_f0 n) LT.nil) (fun a => qbn_run n a.1 a.2.1 a.2.2.1 a.2.2.2.1 a.2.2.2.2)
def qck_an : Ann := { live := [(0, [3, 10, 11, 12])], boxed := [(5, 5), (6, 2)], raw := [(1, 3)] }
def qck_c : Code := (match Try.f40.body with | some c => c | none => .skip)
def qck_l0 : Code := (match assoc 0 (loopsIn qck_c 0) with | some c => c | none => .skip)
def qck_a : StSh := ⟨.normal, [0], (.cons (.sl true false yF) .nil), .nil⟩
def qck_h0 : List StSh := [⟨.normal, [3, 10, 11, 12], (.cons (.msw 0 0) (.cons (.sl true false yF) (.cons (.int .i64) (.cons (.int .i64) .nil)))), (.cons (.bts 0 false false false (.int .u8)) .nil)⟩]
def qck_o0 : List StSh := [⟨.exit 0, [3], (.cons (.msw 0 0) .nil), (.cons (.bts 0 false false false (.int .u8)) .nil)⟩]
def qck_L0 (n : Nat) : LEntry := ⟨qck_h0, qck_o0, qck_W0 n⟩
def qck_res : List StSh := [⟨.ret, [0], (.cons (.sl false false (.int .u8)) .nil), .nil⟩]
def qck_tbl (n : Nat) : FuncId → List Entry := fun f => bif Nat.beq f 95 then [qcr_E n] else []
def qck_loops (n : Nat) : Nat → Option LEntry := fun f => bif Nat.beq f 0 then some (qck_L0 n) else none
theorem qck_r0 (n : Nat) (t10 : DJ) (t11 : Int) (t12 : Int) (m0 : DC) : roundK (real _) tab (qck_tbl n) (qck_loops n) qck_an [] qck_l0 0 [3, 10, 11, 12] qck_h0 qck_o0 ((t10, (t11, t12)), m0) some = qck_B0 n t10 t11 t12 m0 := by kernel_rfl
theorem qck_f0 (n : Nat) : LoopFact tab (qck_tbl n) (qck_loops n) qck_an [] n 0 qck_l0 (qck_L0 n) := ⟨[3, 10, 11, 12], (fun s => qck_B0 n s.1.1 s.1.2.1 s.1.2.2 s.2), by kernel_rfl, by kernel_rfl, fun s => rfl, fun s => qck_r0 n s.1.1 s.1.2.1 s.1.2.2 s.2⟩
theorem qck_run (n : Nat) (parts_0 : DJ) : funDS (real _) tab (qck_tbl n) (qck_loops n) qck_an Try.f40 0 qck_a qck_res parts_0 some = qck n parts_0 := by kernel_rfl
def qck_E (n : Nat) : Entry := ⟨qck_a, qck_res, fun d => qck n d⟩
theorem qck_ok (n : Nat) : EOK Try.prog 40 (qck_E n) :=
 EOK.ofS prog_names prog_mixed tab_ok (tbl := qck_tbl n) (loops := qck_loops n) (an := qck_an) (old := []) (n := n) (c := qck_c) (fn := Try.f40) (TblOK.cons (AllE.cons (qcr_ok n) AllE.nil) TblOK.nil) (by kernel_rfl) (by kernel_rfl) (by kernel_rfl) (by kernel_rfl) (fun d => by kernel_rfl) (LT.cons (by kernel_rfl) (qck_f0 n) LT.nil) (fun a => qck_run n a)
def qbc_res : List StSh := [⟨.ret, [0], (.cons (.tup (.cons (.sl false false (.int .u8)) (.cons (.int .i64) .nil))) .nil), .nil⟩]
def qbc_tbl (n : Nat) : FuncId → List Entry := fun f => bif Nat.beq f 39 then [qbx_E n] else bif Nat.beq f 41 then [qay_E n] else bif Nat.beq f 42 then [qz_E n] else bif Nat.beq f 43 then [qar_E n] else bif Nat.beq f 44 then [qax_E n] else bif Nat.beq f 45 then [qbn_E n] else bif Nat.beq f 40 then [qck_E n] else []
def qbc_loops (n : Nat) : Nat → Option LEntry := fun f => none
theorem qbc_run (n : Nat) (m_0 : DG) (m_0_1 : DH) (m_0_2 : DI) (m_0_3 : DC) (m_0_4 : DD) : funDS (real _) tab (qbc_tbl n) (qbc_loops n) qbc_an Try.f20 0 qbc_a qbc_res (m_0, (m_0_1, (m_0_2, (m_0_3, m_0_4)))) some = qbc n m_0 m_0_1 m_0_2 m_0_3 m_0_4 := by kernel_rfl
def qbc_E (n : Nat) : Entry := ⟨qbc_a, qbc_res, fun d => qbc n d.1 d.2.1 d.2.2.1 d.2.2.2.1 d.2.2.2.2⟩
theorem qbc_ok (n : Nat) : EOK Try.prog 20 (qbc_E n) :=
 EOK.ofS prog_names prog_mixed tab_ok (tbl := qbc_tbl n) (loops := qbc_loops n) (an := qbc_an) (old := []) (n := n) (c := qbc_c) (fn := Try.f20) (TblOK.cons (AllE.cons (qbx_ok n) AllE.nil) (TblOK.cons (AllE.cons (qay_ok n) AllE.nil) (TblOK.cons (AllE.cons (qz_ok n) AllE.nil) (TblOK.cons (AllE.cons (qar_ok n) AllE.nil) (TblOK.cons (AllE.cons (qax_ok n) AllE.nil) (TblOK.cons (AllE.cons (qbn_ok n) AllE.nil) (TblOK.cons (AllE.cons (qck_ok n) AllE.nil) TblOK.nil))))))) (by kernel_rfl) (by kernel_rfl) (by kernel_rfl) (by kernel_rfl) (fun d => by kernel_rfl) LT.nil (fun a => qbc_run n a.1 a.2.1 a.2.2.1 a.2.2.2.1 a.2.2.2.2)
def qbf_an : Ann := {}
def qbf_c : Code := (match Try.f23.body with | some c => c | none => .skip)
def qbf_a : StSh := ⟨.normal, [0], (.cons (.sl true false (.int .u8)) .nil), .nil⟩
def qca_an : Ann := { live := [(0, [6, 9, 22, 23])], boxed := [(5, 0), (11, 5)] }
def qca_c : Code := (match Try.f53.body with | some c => c | none => .skip)
def qca_l0 : Code := (match assoc 0 (loopsIn qca_c 0) with | some c => c | none => .skip)
def qca_a : StSh := ⟨.normal, [0, 1], (.cons (.sl true false (.int .u8)) (.cons (.int .i64) .nil)), .nil⟩
def qbb_an : Ann := {}
def qbb_c : Code := (match Try.f55.body with | some c => c | none => .skip)
def qbb_a : StSh := ⟨.normal, [0], (.cons (.sl true false (.int .u8)) .nil), .nil⟩
def qbb_res : List StSh := [⟨.ret, [0], (.cons (.ptr 0 0 0 0) .nil), (.cons (.bcells 0 false 1 (.cons (.sl false false (.int .u8)) (.cons .bool .nil))) .nil)⟩]
def qbb_tbl (n : Nat) : FuncId → List Entry := fun f => []
def qbb_loops (n : Nat) : Nat → Option LEntry := fun f => none
theorem qbb_run (n : Nat) (b_0 : DC) : funDS (real _) tab (qbb_tbl n) (qbb_loops n) qbb_an Try.f55 0 qbb_a qbb_res b_0 some = qbb n b_0 := by kernel_rfl
def qbb_E (n : Nat) : Entry := ⟨qbb_a, qbb_res, fun d => qbb n d⟩
theorem qbb_ok (n : Nat) : EOK Try.prog 55 (qbb_E n) :=
 EOK.ofS prog_names prog_mixed tab_ok (tbl := qbb_tbl n) (loops := qbb_loops n) (an := qbb_an) (old := []) (n := n) (c := qbb_c) (fn := Try.f55) TblOK.nil (by kernel_rfl) (by kernel_rfl) (by kernel_rfl) (by kernel_rfl) (fun d => by kernel_rfl) LT.nil (fun a => qbb_run n a)
def qbz_an : Ann := {}
def qbz_c : Code := (match Try.f102.body with | some c => c | none => .skip)
def qbz_a : StSh := ⟨.normal, [0, 1], (.cons (.ptr 0 0 0 0) (.cons (.int .i64) .nil)), (.cons (.bcells 0 false 1 (.cons (.sl false false (.int .u8)) (.cons .bool .nil))) .nil)⟩
def qba_an : Ann := { live := [(0, [0, 3, 4])] }
def qba_c : Code := (match Try.f56.body with | some c => c | none => .skip)
def qba_l0 : Code := (match assoc 0 (loopsIn qba_c 0) with | some c => c | none => .skip)
def qba_a : StSh := ⟨.normal, [0], (.cons (.ptr 0 0 0 0) .nil), (.cons (.bcells 0 false 1 (.cons (.sl false false (.int .u8)) (.cons .bool .nil))) .nil)⟩
def qas_an : Ann := {}
def qas_c : Code := (match Try.f70.body with | some c => c | none => .skip)
def qas_a : StSh := ⟨.normal, [0, 1], (.cons (.ptr 0 0 0 0) (.cons (.int .i64) .nil)), (.cons (.bcells 0 false 1 (.cons (.sl false false (.int .u8)) (.cons .bool .nil))) .nil)⟩
def qbe_an : Ann := {}
def qbe_c : Code := (match Try.f104.body with | some c => c | none => .skip)
def qbe_a : StSh := ⟨.normal, [0], (.cons (.ptr 0 0 0 0) .nil), (.cons (.bcells 0 false 1 (.cons (.sl false false (.int .u8)) (.cons .bool .nil))) .nil)⟩
def qbe_res : List StSh := [⟨.ret, [0], (.cons .bool .nil), (.cons (.bcells 0 false 1 (.cons (.sl false false (.int .u8)) (.cons .bool .nil))) .nil)⟩]
def qbe_tbl (n : Nat) : FuncId → List Entry := fun f => []
def qbe_loops (n : Nat) : Nat → Option LEntry := fun f => none
theorem qbe_run (n : Nat) (m0 : DC) (m0_1 : Bool) : funDS (real _) tab (qbe_tbl n) (qbe_loops n) qbe_an Try.f104 1 qbe_a qbe_res (m0, m0_1) some = qbe n m0 m0_1 := by kernel_rfl
def qbe_E (n : Nat) : Entry := ⟨qbe_a, qbe_res, fun d => qbe n d.1 d.2⟩
theorem qbe_ok (n : Nat) : EOK Try.prog 104 (qbe_E n) :=
 EOK.ofS prog_names prog_mixed tab_ok (tbl := qbe_tbl n) (loops := qbe_loops n) (an := qbe_an) (old := [some true]) (n := n) (c := qbe_c) (fn := Try.f104) TblOK.nil (by kernel_rfl) (by kernel_rfl) (by kernel_rfl) (by kernel_rfl) (fun d => by kernel_rfl) LT.nil (fun a => qbe_run n a.1 a.2)
def qaz_an : Ann := {}
def qaz_c : Code := (match Try.f105.body with | some c => c | none => .skip)
def qaz_a : StSh := ⟨.normal, [0], (.cons (.ptr 0 0 0 0) .nil), (.cons (.bcells 0 false 1 (.cons (.sl false false (.int .u8)) (.cons .bool .nil))) .nil)⟩
def qaz_res : List StSh := [⟨.ret, [0], (.cons (.tup .nil) .nil), (.cons (.bcells 0 false 1 (.cons (.sl false false (.int .u8)) (.cons .bool .nil))) .nil)⟩]
def qaz_tbl (n : Nat) : FuncId → List Entry := fun f => []
def qaz_loops (n : Nat) : Nat → Option LEntry := fun f => none
theorem qaz_run (n : Nat) (m0 : DC) (m0_1 : Bool) : funDS (real _) tab (qaz_tbl n) (qaz_loops n) qaz_an Try.f105 1 qaz_a qaz_res (m0, m0_1) some = qaz n m0 m0_1 := by kernel_rfl
def qaz_E (n : Nat) : Entry := ⟨qaz_a, qaz_res, fun d => qaz n d.1 d.2⟩
theorem qaz_ok (n : Nat) : EOK Try.prog 105 (qaz_E n) :=
 EOK.ofS prog_names prog_mixed tab_ok (tbl := qaz_tbl n) (loops := qaz_loops n) (an := qaz_an) (old := [some true]) (n := n) (c := qaz_c) (fn := Try.f105) TblOK.nil (by kernel_rfl) (by kernel_rfl) (by kernel_rfl) (by kernel_rfl) (fun d => by kernel_rfl) LT.nil (fun a => qaz_run n a.1 a.2)
def qas_res : List StSh := [⟨.ret, [0], (.cons (.sl false false (.int .u8)) .nil), (.cons (.bcells 0 false 1 (.cons (.sl false false (.int .u8)) (.cons .bool .nil))) .nil)⟩]
def qas_tbl (n : Nat) : FuncId → List Entry := fun f => bif Nat.beq f 104 then [qbe_E n] else bif Nat.beq f 105 then [qaz_E n] else []
def qas_loops (n : Nat) : Nat → Option LEntry := fun f => none
theorem qas_run (n : Nat) (n_1 : Int) (m0 : DC) (m0_1 : Bool) : funDS (real _) tab (qas_tbl n) (qas_loops n) qas_an Try.f70 1 qas_a qas_res (n_1, (m0, m0_1)) some = qas n n_1 m0 m0_1 := by kernel_rfl
def qas_E (n : Nat) : Entry := ⟨qas_a, qas_res, fun d => qas n d.1 d.2.1 d.2.2⟩
theorem qas_ok (n : Nat) : EOK Try.prog 70 (qas_E n) :=
 EOK.ofS prog_names prog_mixed tab_ok (tbl := qas_tbl n) (loops := qas_loops n) (an := qas_an) (old := [some true]) (n := n) (c := qas_c) (fn := Try.f70) (TblOK.cons (AllE.cons (qbe_ok n) AllE.nil) (TblOK.cons (AllE.cons (qaz_ok n) AllE.nil) TblOK.nil)) (by kernel_rfl) (by kernel_rfl) (by kernel_rfl) (by kernel_rfl) (fun d => by kernel_rfl) LT.nil (fun a => qas_run n a.1 a.2.1 a.2.2)
def qba_h0 : List StSh := [⟨.normal, [0, 3, 4], (.cons (.ptr 0 0 0 0) (.cons (.int .u64) (.cons (.int .i64) .nil))), (.cons (.bcells 0 false 1 (.cons (.sl false false (.int .u8)) (.cons .bool .nil))) .nil)⟩]
def qba_o0 : List StSh := [⟨.ret, [2], (.cons (.int .u64) .nil), (.cons (.bcells 0 false 1 (.cons (.sl false false (.int .u8)) (.cons .bool .nil))) .nil)⟩]
def qba_L0 (n : Nat) : LEntry := ⟨qba_h0, qba_o0, qba_W0 n⟩
def qba_res : List StSh := [⟨.ret, [0], (.cons (.int .u64) .nil), (.cons (.bcells 0 false 1 (.cons (.sl false false (.int .u8)) (.cons .bool .nil))) .nil)⟩]
def qba_tbl (n : Nat) : FuncId → List Entry := fun f => bif Nat.beq f 70 then [qas_E n] else bif Nat.beq f 105 then [qaz_E n] else []
def qba_loops (n : Nat) : Nat → Option LEntry := fun f => bif Nat.beq f 0 then some (qba_L0 n) else none
theorem qba_r0 (n : Nat) (v_3 : Int) (k_4 : Int) (m0 : DC) (m0_1 : Bool) : roundK (real _) tab (qba_tbl n) (qba_loops n) qba_an [some true] qba_l0 0 [0, 3, 4] qba_h0 qba_o0 ((v_3, k_4), (m0, m0_1)) some = qba_B0 n v_3 k_4 m0 m0_1 := by kernel_rfl
theorem qba_f0 (n : Nat) : LoopFact tab (qba_tbl n) (qba_loops n) qba_an [some true] n 0 qba_l0 (qba_L0 n) := ⟨[0, 3, 4], (fun s => qba_B0 n s.1.1 s.1.2 s.2.1 s.2.2), by kernel_rfl, by kernel_rfl, fun s => rfl, fun s => qba_r0 n s.1.1 s.1.2 s.2.1 s.2.2⟩
theorem qba_run (n : Nat) (m0 : DC) (m0_1 : Bool) : funDS (real _) tab (qba_tbl n) (qba_loops n) qba_an Try.f56 1 qba_a qba_res (m0, m0_1) some = qba n m0 m0_1 := by kernel_rfl
def qba_E (n : Nat) : Entry := ⟨qba_a, qba_res, fun d => qba n d.1 d.2⟩
theorem qba_ok (n : Nat) : EOK Try.prog 56 (qba_E n) :=
 EOK.ofS prog_names prog_mixed tab_ok (tbl := qba_tbl n) (loops := qba_loops n) (an := qba_an) (old := [some true]) (n := n) (c := qba_c) (fn := Try.f56) (TblOK.cons (AllE.cons (qas_ok n) AllE.nil) (TblOK.cons (AllE.cons (qaz_ok n) AllE.nil) TblOK.nil)) (by kernel_rfl) (by kernel_rfl) (by kernel_rfl) (by kernel_rfl) (fun d => by kernel_rfl) (LT.cons (by kernel_rfl) (qba_f0 n) LT.nil) (fun a => qba_run n a.1 a.2)
def qbz_res : List StSh := [⟨.ret, [0], (.cons (.tup (.cons (.int .i64) (.cons .bool .nil))) .nil), (.cons (.bcells 0 false 1 (.cons (.sl false false (.int .u8)) (.cons .bool .nil))) .nil)⟩]
def qbz_tbl (n : Nat) : FuncId → List Entry := fun f => bif Nat.beq f 56 then [qba_E n] else bif Nat.beq f 104 then [qbe_E n] else []
def qbz_loops (n : Nat) : Nat → Option LEntry := fun f => none
theorem qbz_run (n : Nat) (most_1 : Int) (m0 : DC) (m0_1 : Bool) : funDS (real _) tab (qbz_tbl n) (qbz_loops n) qbz_an Try.f102 1 qbz_a qbz_res (most_1, (m0, m0_1)) some = qbz n most_1 m0 m0_1 := by kernel_rfl
def qbz_E (n : Nat) : Entry := ⟨qbz_a, qbz_res, fun d => qbz n d.1 d.2.1 d.2.2⟩
theorem qbz_ok (n : Nat) : EOK Try.prog 102 (qbz_E n) :=
 EOK.ofS prog_names prog_mixed tab_ok (tbl := qbz_tbl n) (loops := qbz_loops n) (an := qbz_an) (old := [some true]) (n := n) (c := qbz_c) (fn := Try.f102) (TblOK.cons (AllE.cons (qba_ok n) AllE.nil) (TblOK.cons (AllE.cons (qbe_ok n) AllE.nil) TblOK.nil)) (by kernel_rfl) (by kernel_rfl) (by kernel_rfl) (by kernel_rfl) (fun d => by kernel_rfl) LT.nil (fun a => qbz_run n a.1 a.2.1 a.2.2)
def qal_an : Ann := {}
def qal_c : Code := (match Try.f103.body with | some c => c | none => .skip)
def qal_a : StSh := ⟨.normal, [0], (.cons (.ptr 0 0 0 0) .nil), (.cons (.bcells 0 false 1 (.cons (.sl false false (.int .u8)) (.cons .bool .nil))) .nil)⟩
def qal_res : List StSh := [⟨.ret, [0], (.cons (.int .i64) .nil), (.cons (.bcells 0 false 1 (.cons (.sl false false (.int .u8)) (.cons .bool .nil))) .nil)⟩]
def qal_tbl (n : Nat) : FuncId → List Entry := fun f => bif Nat.beq f 104 then [qbe_E n] else []
def qal_loops (n : Nat) : Nat → Option LEntry := fun f => none
theorem qal_run (n : Nat) (m0 : DC) (m0_1 : Bool) : funDS (real _) tab (qal_tbl n) (qal_loops n) qal_an Try.f103 1 qal_a qal_res (m0, m0_1) some = qal n m0 m0_1 := by kernel_rfl
def qal_E (n : Nat) : Entry := ⟨qal_a, qal_res, fun d => qal n d.1 d.2⟩
theorem qal_ok (n : Nat) : EOK Try.prog 103 (qal_E n) :=
 EOK.ofS prog_names prog_mixed tab_ok (tbl := qal_tbl n) (loops := qal_loops n) (an := qal_an) (old := [some true]) (n := n) (c := qal_c) (fn := Try.f103) (TblOK.cons (AllE.cons (qbe_ok n) AllE.nil) TblOK.nil) (by kernel_rfl) (by kernel_rfl) (by kernel_rfl) (by kernel_rfl) (fun d => by kernel_rfl) LT.nil (fun a => qal_run n a.1 a.2)
def qca_h0 : List StSh := [⟨.normal, [6, 9, 22, 23], (.cons (.ptr 0 0 0 0) (.cons (.msw 1 0) (.cons (.int .i64) (.cons (.int .i64) .nil)))), (.cons (.bcells 0 false 1 (.cons (.sl false false (.int .u8)) (.cons .bool .nil))) (.cons (.bts 0 false false false yF) .nil))⟩]
def qca_o0 : List StSh := [⟨.ret, [4, 5], (.cons (.sl false false yF) (.cons (.int .i64) .nil)), (.cons (.bcells 0 false 1 (.cons (.sl false false (.int .u8)) (.cons .bool .nil))) (.cons (.bts 0 false false false yF) .nil))⟩, ⟨.ret, [4, 5], (.cons (.sl false false yF) (.cons (.int .i64) .nil)), (.cons (.bcells 0 false 1 (.cons (.sl false false (.int .u8)) (.cons .bool .nil))) (.cons (.bts 1 false false false yF) .nil))⟩, ⟨.exit 0, [6, 9], (.cons (.ptr 0 0 0 0) (.cons (.msw 1 0) .nil)), (.cons (.bcells 0 false 1 (.cons (.sl false false (.int .u8)) (.cons .bool .nil))) (.cons (.bts 0 false false false yF) .nil))⟩]
def qca_L0 (n : Nat) : LEntry := ⟨qca_h0, qca_o0, qca_W0 n⟩
def qca_res : List StSh := [⟨.ret, [0], (.cons (.tup (.cons (.sl false false yF) (.cons (.int .i64) .nil))) .nil), .nil⟩]
def qca_tbl (n : Nat) : FuncId → List Entry := fun f => bif Nat.beq f 55 then [qbb_E n] else bif Nat.beq f 102 then [qbz_E n] else bif Nat.beq f 103 then [qal_E n] else bif Nat.beq f 70 then [qas_E n] else bif Nat.beq f 104 then [qbe_E n] else []
def qca_loops (n : Nat) : Nat → Option LEntry := fun f => bif Nat.beq f 0 then some (qca_L0 n) else none
theorem qca_r0 (n : Nat) (t22 : Int) (t23 : Int) (m0 : DC) (m0_1 : Bool) (m1 : DJ) : roundK (real _) tab (qca_tbl n) (qca_loops n) qca_an [] qca_l0 0 [6, 9, 22, 23] qca_h0 qca_o0 ((t22, t23), ((m0, m0_1), m1)) some = qca_B0 n t22 t23 m0 m0_1 m1 := by kernel_rfl
theorem qca_f0 (n : Nat) : LoopFact tab (qca_tbl n) (qca_loops n) qca_an [] n 0 qca_l0 (qca_L0 n) := ⟨[6, 9, 22, 23], (fun s => qca_B0 n s.1.1 s.1.2 s.2.1.1 s.2.1.2 s.2.2), by kernel_rfl, by kernel_rfl, fun s => rfl, fun s => qca_r0 n s.1.1 s.1.2 s.2.1.1 s.2.1.2 s.2.2⟩
theorem qca_run (n : Nat) (b_0 : DC) (most_1 : Int) : funDS (real _) tab (qca_tbl n) (qca_loops n) qca_an Try.f53 0 qca_a qca_res (b_0, most_1) some = qca n b_0 most_1 := by kernel_rfl
def qca_E (n : Nat) : Entry := ⟨qca_a, qca_res, fun d => qca n d.1 d.2⟩
theorem qca_ok (n : Nat) : EOK Try.prog 53 (qca_E n) :=
 EOK.ofS prog_names prog_mixed tab_ok (tbl := qca_tbl n) (loops := qca_loops n) (an := qca_an) (old := []) (n := n) (c := qca_c) (fn := Try.f53) (TblOK.cons (AllE.cons (qbb_ok n) AllE.nil) (TblOK.cons (AllE.cons (qbz_ok n) AllE.nil) (TblOK.cons (AllE.cons (qal_ok n) AllE.nil) (TblOK.cons (AllE.cons (qas_ok n) AllE.nil) (TblOK.cons (AllE.cons (qbe_ok n) AllE.nil) TblOK.nil))))) (by kernel_rfl) (by kernel_rfl) (by kernel_rfl) (by kernel_rfl) (fun d => by kernel_rfl) (LT.cons (by kernel_rfl) (qca_f0 n) LT.nil) (fun a => qca_run n a.1 a.2)
def qav_an : Ann := {}
def qav_c : Code := (match Try.f54.body with | some c => c | none => .skip)
def qav_a : StSh := ⟨.normal, [0, 1, 2], (.cons (.int .i64) (.cons (.ptr 0 0 0 0) (.cons (.ptr 1 0 0 0) .nil))), (.cons (.bcells 0 false 1 (.cons (.sl false false yF) .nil)) (.cons (.bcells 0 false 1 (.cons .nilS (.cons .nilS (.cons .nilS (.cons .nilS (.cons .nilS .nil)))))) .nil))⟩
def qav_res : List StSh := [⟨.ret, [0], (.cons (.ptr 2 0 0 0) .nil), (.cons (.bcells 0 false 1 (.cons (.sl false false yF) .nil)) (.cons (.bcells 0 false 1 (.cons .nilS (.cons .nilS (.cons .nilS (.cons .nilS (.cons .nilS .nil)))))) (.cons (.bcells 0 false 1 (.cons (.ptr 3 0 0 0) (.cons (.int .i64) (.cons .bool .nil)))) (.cons (.bcells 0 false 1 (.cons (.sl false false (.int .u8)) (.cons .bool .nil))) .nil))))⟩]
def qav_tbl (n : Nat) : FuncId → List Entry := fun f => bif Nat.beq f 55 then [qbb_E n] else []
def qav_loops (n : Nat) : Nat → Option LEntry := fun f => none
theorem qav_run (n : Nat) (k_0 : Int) (m0 : DJ) : funDS (real _) tab (qav_tbl n) (qav_loops n) qav_an Try.f54 2 qav_a qav_res (k_0, m0) some = qav n k_0 m0 := by kernel_rfl
def qav_E (n : Nat) : Entry := ⟨qav_a, qav_res, fun d => qav n d.1 d.2⟩
theorem qav_ok (n : Nat) : EOK Try.prog 54 (qav_E n) :=
 EOK.ofS prog_names prog_mixed tab_ok (tbl := qav_tbl n) (loops := qav_loops n) (an := qav_an) (old := [some true, some true]) (n := n) (c := qav_c) (fn := Try.f54) (TblOK.cons (AllE.cons (qbb_ok n) AllE.nil) TblOK.nil) (by kernel_rfl) (by kernel_rfl) (by kernel_rfl) (by kernel_rfl) (fun d => by kernel_rfl) LT.nil (fun a => qav_run n a.1 a.2)
def qo_an : Ann := { live := [(0, [0, 2, 7, 10, 11])], boxed := [(1, 0), (5, 4)] }
def qo_c : Code := (match Try.f57.body with | some c => c | none => .skip)
def qo_l0 : Code := (match assoc 0 (loopsIn qo_c 0) with | some c => c | none => .skip)
def qo_a : StSh := ⟨.normal, [0, 1, 2], (.cons (.ptr 0 0 0 0) (.cons (.int .i64) (.cons (.fn 58 .nil (.cons (.ptr 1 0 0 0) .nil)) .nil))), (.cons (.bcells 0 false 1 (.cons (.ptr 2 0 0 0) (.cons (.int .i64) (.cons .bool .nil)))) (.cons (.bcells 0 false 1 (.cons (.ptr 0 0 0 0) .nil)) (.cons (.bcells 0 false 1 (.cons (.sl false false (.int .u8)) (.cons .bool .nil))) .nil)))⟩
def ql_an : Ann := {}
def ql_c : Code := (match Try.f71.body with | some c => c | none => .skip)
def ql_a : StSh := ⟨.normal, [0, 1], (.cons (.ptr 0 0 0 0) (.cons (.int .i64) .nil)), (.cons (.bcells 0 false 1 (.cons (.ptr 1 0 0 0) (.cons (.int .i64) (.cons .bool .nil)))) (.cons (.bcells 0 false 1 (.cons (.sl false false (.int .u8)) (.cons .bool .nil))) .nil))⟩
def ql_res : List StSh := [⟨.ret, [0], (.cons (.int .i64) .nil), (.cons (.bcells 0 false 1 (.cons (.ptr 1 0 0 0) (.cons (.int .i64) (.cons .bool .nil)))) (.cons (.bcells 0 false 1 (.cons (.sl false false (.int .u8)) (.cons .bool .nil))) .nil))⟩]
def ql_tbl (n : Nat) : FuncId → List Entry := fun f => bif Nat.beq f 56 then [qba_E n] else bif Nat.beq f 104 then [qbe_E n] else []
def ql_loops (n : Nat) : Nat → Option LEntry := fun f => none
theorem ql_run (n : Nat) (most_1 : Int) (m0 : Int) (m0_1 : Bool) (m1 : DC) (m1_1 : Bool) : funDS (real _) tab (ql_tbl n) (ql_loops n) ql_an Try.f71 2 ql_a ql_res (most_1, ((m0, m0_1), (m1, m1_1))) some = ql n most_1 m0 m0_1 m1 m1_1 := by kernel_rfl
def ql_E (n : Nat) : Entry := ⟨ql_a, ql_res, fun d => ql n d.1 d.2.1.1 d.2.1.2 d.2.2.1 d.2.2.2⟩
theorem ql_ok (n : Nat) : EOK Try.prog 71 (ql_E n) :=
 EOK.ofS prog_names prog_mixed tab_ok (tbl := ql_tbl n) (loops := ql_loops n) (an := ql_an) (old := [some true, some true]) (n := n) (c := ql_c) (fn := Try.f71) (TblOK.cons (AllE.cons (qba_ok n) AllE.nil) (TblOK.cons (AllE.cons (qbe_ok n) AllE.nil) TblOK.nil)) (by kernel_rfl) (by kernel_rfl) (by kernel_rfl) (by kernel_rfl) (fun d => by kernel_rfl) LT.nil (fun a => ql_run n a.1 a.2.1.1 a.2.1.2 a.2.2.1 a.2.2.2)
def qam_an : Ann := {}
def qam_c : Code := (match Try.f58.body with | some c => c | none => .skip)
def qam_a : StSh := ⟨.normal, [0], (.cons (.ptr 0 0 0 0) .nil), (.cons (.bcells 0 false 1 (.cons (.ptr 1 0 0 0) .nil)) (.cons (.bcells 0 false 1 (.cons (.ptr 2 0 0 0) (.cons (.int .i64) (.cons .bool .nil)))) (.cons (.bcells 0 false 1 (.cons (.sl false false (.int .u8)) (.cons .bool .nil))) .nil)))⟩
def qb_an : Ann := { live := [(0, [0, 2, 7, 10, 11])], boxed := [(1, 0), (5, 4)] }
def qb_c : Code := (match Try.f59.body with | some c => c | none => .skip)
def qb_l0 : Code := (match assoc 0 (loopsIn qb_c 0) with | some c => c | none => .skip)
def qb_a : StSh := ⟨.normal, [0, 1, 2], (.cons (.ptr 0 0 0 0) (.cons (.int .i64) (.cons (.fn 60 (.cons (.ptr 0 0 0 0) .nil) .nil) .nil))), (.cons (.bcells 0 false 1 (.cons (.ptr 1 0 0 0) (.cons (.int .i64) (.cons .bool .nil)))) (.cons (.bcells 0 false 1 (.cons (.sl false false (.int .u8)) (.cons .bool .nil))) .nil))⟩
def qaa_an : Ann := {}
def qaa_c : Code := (match Try.f60.body with | some c => c | none => .skip)
def qaa_a : StSh := ⟨.normal, [0], (.cons (.ptr 0 0 0 0) .nil), (.cons (.bcells 0 false 1 (.cons (.ptr 1 0 0 0) (.cons (.int .i64) (.cons .bool .nil)))) (.cons (.bcells 0 false 1 (.cons (.sl false false (.int .u8)) (.cons .bool .nil))) .nil))⟩
def qcm_an : Ann := {}
def qcm_c : Code := (match Try.f106.body with | some c => c | none => .skip)
def qcm_a : StSh := ⟨.normal, [0, 1], (.cons (.ptr 0 0 0 0) (.cons (.int .i64) .nil)), (.cons (.bcells 0 false 1 (.cons (.sl false false (.int .u8)) (.cons .bool .nil))) .nil)⟩
def qcm_res : List StSh := [⟨.ret, [0], (.cons (.tup (.cons (.agg (.cons (.int .i64) (.cons (.int .i64) .nil))) (.cons .bool .nil))) .nil), (.cons (.bcells 0 false 1 (.cons (.sl false false (.int .u8)) (.cons .bool .nil))) .nil)⟩]
def qcm_tbl (n : Nat) : FuncId → List Entry := fun f => bif Nat.beq f 56 then [qba_E n] else bif Nat.beq f 104 then [qbe_E n] else bif Nat.beq f 92 then [qcj_E n] else []
def qcm_loops (n : Nat) : Nat → Option LEntry := fun f => none
theorem qcm_run (n : Nat) (recs_1 : Int) (m0 : DC) (m0_1 : Bool) : funDS (real _) tab (qcm_tbl n) (qcm_loops n) qcm_an Try.f106 1 qcm_a qcm_res (recs_1, (m0, m0_1)) some = qcm n recs_1 m0 m0_1 := by kernel_rfl
def qcm_E (n : Nat) : Entry := ⟨qcm_a, qcm_res, fun d => qcm n d.1 d.2.1 d.2.2⟩
theorem qcm_ok (n : Nat) : EOK Try.prog 106 (qcm_E n) :=
 EOK.ofS prog_names prog_mixed tab_ok (tbl := qcm_tbl n) (loops := qcm_loops n) (an := qcm_an) (old := [some true]) (n := n) (c := qcm_c) (fn := Try.f106) (TblOK.cons (AllE.cons (qba_ok n) AllE.nil) (TblOK.cons (AllE.cons (qbe_ok n) AllE.nil) (TblOK.cons (AllE.cons (qcj_ok n) AllE.nil) TblOK.nil))) (by kernel_rfl) (by kernel_rfl) (by kernel_rfl) (by kernel_rfl) (fun d => by kernel_rfl) LT.nil (fun a => qcm_run n a.1 a.2.1 a.2.2)
def qaa_res : List StSh := [⟨.ret, [0], (.cons (.agg (.cons (.int .i64) (.cons (.int .i64) .nil))) .nil), (.cons (.bcells 0 false 1 (.cons (.ptr 1 0 0 0) (.cons (.int .i64) (.cons .bool .nil)))) (.cons (.bcells 0 false 1 (.cons (.sl false false (.int .u8)) (.cons .bool .nil))) .nil))⟩]
def qaa_tbl (n : Nat) : FuncId → List Entry := fun f => bif Nat.beq f 106 then [qcm_E n] else []
def qaa_loops (n : Nat) : Nat → Option LEntry := fun f => none
theorem qaa_run (n : Nat) (m0 : Int) (m0_1 : Bool) (m1 : DC) (m1_1 : Bool) : funDS (real _) tab (qaa_tbl n) (qaa_loops n) qaa_an Try.f60 2 qaa_a qaa_res ((m0, m0_1), (m1, m1_1)) some = qaa n m0 m0_1 m1 m1_1 := by kernel_rfl
def qaa_E (n : Nat) : Entry := ⟨qaa_a, qaa_res, fun d => qaa n d.1.1 d.1.2 d.2.1 d.2.2⟩
theorem qaa_ok (n : Nat) : EOK Try.prog 60 (qaa_E n) :=
 EOK.ofS prog_names prog_mixed tab_ok (tbl := qaa_tbl n) (loops := qaa_loops n) (an := qaa_an) (old := [some true, some true]) (n := n) (c := qaa_c) (fn := Try.f60) (TblOK.cons (AllE.cons (qcm_ok n) AllE.nil) TblOK.nil) (by kernel_rfl) (by kernel_rfl) (by kernel_rfl) (by kernel_rfl) (fun d => by kernel_rfl) LT.nil (fun a => qaa_run n a.1.1 a.1.2 a.2.1 a.2.2)
def qb_h0 : List StSh := [⟨.normal, [0, 2, 7, 10, 11], (.cons (.ptr 0 0 0 0) (.cons (.fn 60 (.cons (.ptr 0 0 0 0) .nil) .nil) (.cons (.msw 2 0) (.cons (.int .i64) (.cons (.int .i64) .nil))))), (.cons (.bcells 0 false 1 (.cons (.ptr 1 0 0 0) (.cons (.int .i64) (.cons .bool .nil)))) (.cons (.bcells 0 false 1 (.cons (.sl false false (.int .u8)) (.cons .bool .nil))) (.cons (.bts 0 false false true yD) .nil)))⟩]
def qb_o0 : List StSh := [⟨.exit 0, [7], (.cons (.msw 2 0) .nil), (.cons (.bcells 0 false 1 (.cons (.ptr 1 0 0 0) (.cons (.int .i64) (.cons .bool .nil)))) (.cons (.bcells 0 false 1 (.cons (.sl false false (.int .u8)) (.cons .bool .nil))) (.cons (.bts 0 false false true yD) .nil)))⟩]
def qb_L0 (n : Nat) : LEntry := ⟨qb_h0, qb_o0, qb_W0 n⟩
def qb_res : List StSh := [⟨.ret, [0], (.cons (.sl false true yD) .nil), (.cons (.bcells 0 false 1 (.cons (.ptr 1 0 0 0) (.cons (.int .i64) (.cons .bool .nil)))) (.cons (.bcells 0 false 1 (.cons (.sl false false (.int .u8)) (.cons .bool .nil))) .nil))⟩]
def qb_tbl (n : Nat) : FuncId → List Entry := fun f => bif Nat.beq f 71 then [ql_E n] else bif Nat.beq f 60 then [qaa_E n] else []
def qb_loops (n : Nat) : Nat → Option LEntry := fun f => bif Nat.beq f 0 then some (qb_L0 n) else none
theorem qb_r0 (n : Nat) (t10 : Int) (t11 : Int) (m0 : Int) (m0_1 : Bool) (m1 : DC) (m1_1 : Bool) (m2 : DA) : roundK (real _) tab (qb_tbl n) (qb_loops n) qb_an [some true, some true] qb_l0 0 [0, 2, 7, 10, 11] qb_h0 qb_o0 ((t10, t11), ((m0, m0_1), ((m1, m1_1), m2))) some = qb_B0 n t10 t11 m0 m0_1 m1 m1_1 m2 := by kernel_rfl
theorem qb_f0 (n : Nat) : LoopFact tab (qb_tbl n) (qb_loops n) qb_an [some true, some true] n 0 qb_l0 (qb_L0 n) := ⟨[0, 2, 7, 10, 11], (fun s => qb_B0 n s.1.1 s.1.2 s.2.1.1 s.2.1.2 s.2.2.1.1 s.2.2.1.2 s.2.2.2), by kernel_rfl, by kernel_rfl, fun s => rfl, fun s => qb_r0 n s.1.1 s.1.2 s.2.1.1 s.2.1.2 s.2.2.1.1 s.2.2.1.2 s.2.2.2⟩
theorem qb_run (n : Nat) (most_1 : Int) (m0 : Int) (m0_1 : Bool) (m1 : DC) (m1_1 : Bool) : funDS (real _) tab (qb_tbl n) (qb_loops n) qb_an Try.f59 2 qb_a qb_res (most_1, ((m0, m0_1), (m1, m1_1))) some = qb n most_1 m0 m0_1 m1 m1_1 := by kernel_rfl
def qb_E (n : Nat) : Entry := ⟨qb_a, qb_res, fun d => qb n d.1 d.2.1.1 d.2.1.2 d.2.2.1 d.2.2.2⟩
theorem qb_ok (n : Nat) : EOK Try.prog 59 (qb_E n) :=
 EOK.ofS prog_names prog_mixed tab_ok (tbl := qb_tbl n) (loops := qb_loops n) (an := qb_an) (old := [some true, some true]) (n := n) (c := qb_c) (fn := Try.f59) (TblOK.cons (AllE.cons (ql_ok n) AllE.nil) (TblOK.cons (AllE.cons (qaa_ok n) AllE.nil) TblOK.nil)) (by kernel_rfl) (by kernel_rfl) (by kernel_rfl) (by kernel_rfl) (fun d => by kernel_rfl) (LT.cons (by kernel_rfl) (qb_f0 n) LT.nil) (fun a => qb_run n a.1 a.2.1.1 a.2.1.2 a.2.2.1 a.2.2.2)
def qam_res : List StSh := [⟨.ret, [0], (.cons (.sl false true yD) .nil), (.cons (.bcells 0 false 1 (.cons (.ptr 1 0 0 0) .nil)) (.cons (.bcells 0 false 1 (.cons (.ptr 2 0 0 0) (.cons (.int .i64) (.cons .bool .nil)))) (.cons (.bcells 0 false 1 (.cons (.sl false false (.int .u8)) (.cons .bool .nil))) .nil)))⟩]
def qam_tbl (n : Nat) : FuncId → List Entry := fun f => bif Nat.beq f 59 then [qb_E n] else []
def qam_loops (n : Nat) : Nat → Option LEntry := fun f => none
theorem qam_run (n : Nat) (m1 : Int) (m1_1 : Bool) (m2 : DC) (m2_1 : Bool) : funDS (real _) tab (qam_tbl n) (qam_loops n) qam_an Try.f58 3 qam_a qam_res ((m1, m1_1), (m2, m2_1)) some = qam n m1 m1_1 m2 m2_1 := by kernel_rfl
def qam_E (n : Nat) : Entry := ⟨qam_a, qam_res, fun d => qam n d.1.1 d.1.2 d.2.1 d.2.2⟩
theorem qam_ok (n : Nat) : EOK Try.prog 58 (qam_E n) :=
 EOK.ofS prog_names prog_mixed tab_ok (tbl := qam_tbl n) (loops := qam_loops n) (an := qam_an) (old := [some true, some true, some true]) (n := n) (c := qam_c) (fn := Try.f58) (TblOK.cons (AllE.cons (qb_ok n) AllE.nil) TblOK.nil) (by kernel_rfl) (by kernel_rfl) (by kernel_rfl) (by kernel_rfl) (fun d => by kernel_rfl) LT.nil (fun a => qam_run n a.1.1 a.1.2 a.2.1 a.2.2)
def qo_h0 : List StSh := [⟨.normal, [0, 2, 7, 10, 11], (.cons (.ptr 0 0 0 0) (.cons (.fn 58 .nil (.cons (.ptr 1 0 0 0) .nil)) (.cons (.msw 3 0) (.cons (.int .i64) (.cons (.int .i64) .nil))))), (.cons (.bcells 0 false 1 (.cons (.ptr 2 0 0 0) (.cons (.int .i64) (.cons .bool .nil)))) (.cons (.bcells 0 false 1 (.cons (.ptr 0 0 0 0) .nil)) (.cons (.bcells 0 false 1 (.cons (.sl false false (.int .u8)) (.cons .bool .nil))) (.cons (.bts 0 false false false yA) .nil))))⟩]
def qo_o0 : List StSh := [⟨.exit 0, [7], (.cons (.msw 3 0) .nil), (.cons (.bcells 0 false 1 (.cons (.ptr 2 0 0 0) (.cons (.int .i64) (.cons .bool .nil)))) (.cons (.bcells 0 false 1 (.cons (.ptr 0 0 0 0) .nil)) (.cons (.bcells 0 false 1 (.cons (.sl false false (.int .u8)) (.cons .bool .nil))) (.cons (.bts 0 false false false yA) .nil))))⟩]
def qo_L0 (n : Nat) : LEntry := ⟨qo_h0, qo_o0, qo_W0 n⟩
def qo_res : List StSh := [⟨.ret, [0], (.cons (.sl false false yA) .nil), (.cons (.bcells 0 false 1 (.cons (.ptr 2 0 0 0) (.cons (.int .i64) (.cons .bool .nil)))) (.cons (.bcells 0 false 1 (.cons (.ptr 0 0 0 0) .nil)) (.cons (.bcells 0 false 1 (.cons (.sl false false (.int .u8)) (.cons .bool .nil))) .nil)))⟩]
def qo_tbl (n : Nat) : FuncId → List Entry := fun f => bif Nat.beq f 71 then [ql_E n] else bif Nat.beq f 58 then [qam_E n] else []
def qo_loops (n : Nat) : Nat → Option LEntry := fun f => bif Nat.beq f 0 then some (qo_L0 n) else none
theorem qo_r0 (n : Nat) (t10 : Int) (t11 : Int) (m0 : Int) (m0_1 : Bool) (m2 : DC) (m2_1 : Bool) (m3 : DG) : roundK (real _) tab (qo_tbl n) (qo_loops n) qo_an [some true, some true, some true] qo_l0 0 [0, 2, 7, 10, 11] qo_h0 qo_o0 ((t10, t11), ((m0, m0_1), ((m2, m2_1), m3))) some = qo_B0 n t10 t11 m0 m0_1 m2 m2_1 m3 := by kernel_rfl
theorem qo_f0 (n : Nat) : LoopFact tab (qo_tbl n) (qo_loops n) qo_an [some true, some true, some true] n 0 qo_l0 (qo_L0 n) := ⟨[0, 2, 7, 10, 11], (fun s => qo_B0 n s.1.1 s.1.2 s.2.1.1 s.2.1.2 s.2.2.1.1 s.2.2.1.2 s.2.2.2), by kernel_rfl, by kernel_rfl, fun s => rfl, fun s => qo_r0 n s.1.1 s.1.2 s.2.1.1 s.2.1.2 s.2.2.1.1 s.2.2.1.2 s.2.2.2⟩
theorem qo_run (n : Nat) (most_1 : Int) (m0 : Int) (m0_1 : Bool) (m2 : DC) (m2_1 : Bool) : funDS (real _) tab (qo_tbl n) (qo_loops n) qo_an Try.f57 3 qo_a qo_res (most_1, ((m0, m0_1), (m2, m2_1))) some = qo n most_1 m0 m0_1 m2 m2_1 := by kernel_rfl
def qo_E (n : Nat) : Entry := ⟨qo_a, qo_res, fun d => qo n d.1 d.2.1.1 d.2.1.2 d.2.2.1 d.2.2.2⟩
theorem qo_ok (n : Nat) : EOK Try.prog 57 (qo_E n) :=
 EOK.ofS prog_names prog_mixed tab_ok (tbl := qo_tbl n) (loops := qo_loops n) (an := qo_an) (old := [some true, some true, some true]) (n := n) (c := qo_c) (fn := Try.f57) (TblOK.cons (AllE.cons (ql_ok n) AllE.nil) (TblOK.cons (AllE.cons (qam_ok n) AllE.nil) TblOK.nil)) (by kernel_rfl) (by kernel_rfl) (by kernel_rfl) (by kernel_rfl) (fun d => by kernel_rfl) (LT.cons (by kernel_rfl) (qo_f0 n) LT.nil) (fun a => qo_run n a.1 a.2.1.1 a.2.1.2 a.2.2.1 a.2.2.2)
def qac_an : Ann := {}
def qac_c : Code := (match Try.f54.body with | some c => c | none => .skip)
def qac_a : StSh := ⟨.normal, [0, 1, 2], (.cons (.int .i64) (.cons (.ptr 0 0 0 0) (.cons (.ptr 1 0 0 0) .nil))), (.cons (.bcells 0 false 1 (.cons (.sl false false yF) .nil)) (.cons (.bcells 0 false 1 (.cons (.sl false false yA) (.cons .nilS (.cons .nilS (.cons .nilS (.cons .nilS .nil)))))) .nil))⟩
def qac_res : List StSh := [⟨.ret, [0], (.cons (.ptr 2 0 0 0) .nil), (.cons (.bcells 0 false 1 (.cons (.sl false false yF) .nil)) (.cons (.bcells 0 false 1 (.cons (.sl false false yA) (.cons .nilS (.cons .nilS (.cons .nilS (.cons .nilS .nil)))))) (.cons (.bcells 0 false 1 (.cons (.ptr 3 0 0 0) (.cons (.int .i64) (.cons .bool .nil)))) (.cons (.bcells 0 false 1 (.cons (.sl false false (.int .u8)) (.cons .bool .nil))) .nil))))⟩]
def qac_tbl (n : Nat) : FuncId → List Entry := fun f => bif Nat.beq f 55 then [qbb_E n] else []
def qac_loops (n : Nat) : Nat → Option LEntry := fun f => none
theorem qac_run (n : Nat) (k_0 : Int) (m0 : DJ) (m1 : DG) : funDS (real _) tab (qac_tbl n) (qac_loops n) qac_an Try.f54 2 qac_a qac_res (k_0, (m0, m1)) some = qac n k_0 m0 m1 := by kernel_rfl
def qac_E (n : Nat) : Entry := ⟨qac_a, qac_res, fun d => qac n d.1 d.2.1 d.2.2⟩
theorem qac_ok (n : Nat) : EOK Try.prog 54 (qac_E n) :=
 EOK.ofS prog_names prog_mixed tab_ok (tbl := qac_tbl n) (loops := qac_loops n) (an := qac_an) (old := [some true, some true]) (n := n) (c := qac_c) (fn := Try.f54) (TblOK.cons (AllE.cons (qbb_ok n) AllE.nil) TblOK.nil) (by kernel_rfl) (by kernel_rfl) (by kernel_rfl) (by kernel_rfl) (fun d => by kernel_rfl) LT.nil (fun a => qac_run n a.1 a.2.1 a.2.2)
def qk_an : Ann := { live := [(0, [0, 2, 7, 10, 11])], boxed := [(1, 0), (5, 4)] }
def qk_c : Code := (match Try.f61.body with | some c => c | none => .skip)
def qk_l0 : Code := (match assoc 0 (loopsIn qk_c 0) with | some c => c | none => .skip)
def qk_a : StSh := ⟨.normal, [0, 1, 2], (.cons (.ptr 0 0 0 0) (.cons (.int .i64) (.cons (.fn 62 (.cons (.ptr 0 0 0 0) .nil) .nil) .nil))), (.cons (.bcells 0 false 1 (.cons (.ptr 1 0 0 0) (.cons (.int .i64) (.cons .bool .nil)))) (.cons (.bcells 0 false 1 (.cons (.sl false false (.int .u8)) (.cons .bool .nil))) .nil))⟩
def qa_an : Ann := {}
def qa_c : Code := (match Try.f62.body with | some c => c | none => .skip)
def qa_a : StSh := ⟨.normal, [0], (.cons (.ptr 0 0 0 0) .nil), (.cons (.bcells 0 false 1 (.cons (.ptr 1 0 0 0) (.cons (.int .i64) (.cons .bool .nil)))) (.cons (.bcells 0 false 1 (.cons (.sl false false (.int .u8)) (.cons .bool .nil))) .nil))⟩
def qg_an : Ann := { live := [(0, [0, 2, 7, 10, 11])], boxed := [(1, 0), (5, 4)] }
def qg_c : Code := (match Try.f107.body with | some c => c | none => .skip)
def qg_l0 : Code := (match assoc 0 (loopsIn qg_c 0) with | some c => c | none => .skip)
def qg_a : StSh := ⟨.normal, [0, 1, 2], (.cons (.ptr 0 0 0 0) (.cons (.int .i64) (.cons (.fn 108 (.cons (.ptr 0 0 0 0) .nil) .nil) .nil))), (.cons (.bcells 0 false 1 (.cons (.ptr 1 0 0 0) (.cons (.int .i64) (.cons .bool .nil)))) (.cons (.bcells 0 false 1 (.cons (.sl false false (.int .u8)) (.cons .bool .nil))) .nil))⟩
def qm_an : Ann := {}
def qm_c : Code := (match Try.f108.body with | some c => c | none => .skip)
def qm_a : StSh := ⟨.normal, [0], (.cons (.ptr 0 0 0 0) .nil), (.cons (.bcells 0 false 1 (.cons (.ptr 1 0 0 0) (.cons (.int .i64) (.cons .bool .nil)))) (.cons (.bcells 0 false 1 (.cons (.sl false false (.int .u8)) (.cons .bool .nil))) .nil))⟩
def qcq_an : Ann := { live := [(0, [0, 2, 4, 6, 20, 21])] }
def qcq_c : Code := (match Try.f118.body with | some c => c | none => .skip)
def qcq_l0 : Code := (match assoc 0 (loopsIn qcq_c 0) with | some c => c | none => .skip)
def qcq_a : StSh := ⟨.normal, [0], (.cons (.ptr 0 0 0 0) .nil), (.cons (.bcells 0 false 1 (.cons (.sl false false (.int .u8)) (.cons .bool .nil))) .nil)⟩
def qaj_an : Ann := {}
def qaj_c : Code := (match Try.f67.body with | some c => c | none => .skip)
def qaj_a : StSh := ⟨.normal, [0, 1], (.cons (.ptr 0 0 0 0) (.cons (.int .i64) .nil)), (.cons (.bcells 0 false 1 (.cons (.sl false false (.int .u8)) (.cons .bool .nil))) .nil)⟩
def qbh_an : Ann := {}
def qbh_c : Code := (match Try.f109.body with | some c => c | none => .skip)
def qbh_a : StSh := ⟨.normal, [0], (.cons (.sl true false (.int .u8)) .nil), .nil⟩
def qbh_res : List StSh := [⟨.ret, [0], (.cons (.fn 119 .nil (.cons (.ptr 0 0 0 0) .nil)) .nil), (.cons (.bcells 0 false 1 (.cons (.sl true false (.int .u8)) .nil)) .nil)⟩]
def qbh_tbl (n : Nat) : FuncId → List Entry := fun f => []
def qbh_loops (n : Nat) : Nat → Option LEntry := fun f => none
theorem qbh_run (n : Nat) (s_0 : DC) : funDS (real _) tab (qbh_tbl n) (qbh_loops n) qbh_an Try.f109 0 qbh_a qbh_res s_0 some = qbh n s_0 := by kernel_rfl
def qbh_E (n : Nat) : Entry := ⟨qbh_a, qbh_res, fun d => qbh n d⟩
theorem qbh_ok (n : Nat) : EOK Try.prog 109 (qbh_E n) :=
 EOK.ofS prog_names prog_mixed tab_ok (tbl := qbh_tbl n) (loops := qbh_loops n) (an := qbh_an) (old := []) (n := n) (c := qbh_c) (fn := Try.f109) TblOK.nil (by kernel_rfl) (by kernel_rfl) (by kernel_rfl) (by kernel_rfl) (fun d => by kernel_rfl) LT.nil (fun a => qbh_run n a)
def qaj_res : List StSh := [⟨.ret, [0], (.cons (.int .u64) .nil), (.cons (.bcells 0 false 1 (.cons (.sl false false (.int .u8)) (.cons .bool .nil))) .nil)⟩]
def qaj_tbl (n : Nat) : FuncId → List Entry := fun f => bif Nat.beq f 70 then [qas_E n] else bif Nat.beq f 109 then [qbh_E n] else []
def qaj_E (n : Nat) : Entry := ⟨qaj_a, qaj_res, fun d => qaj n d.1 d.2.1 d.2.2⟩
end
end Sx
