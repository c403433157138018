import Derived.Test.YtliamnpngkojdaaDoorProg
import Derived.Test.YtliamnpngkojdaaDoorLib32
import Derived.Test.YtliamnpngkojdaaDoorFlSh
import Derived.KernelRfl
open Go Go.Ab Go.Proofs
set_option linter.unusedVariables false
set_option maxRecDepth 20000
namespace Sx
noncomputable section
abbrev yA : Ty := (.sl true (.cons (.int .i64) (.int .i64)))
abbrev yB : Ty := (.cons (.sl true (.cons (.int .i64) (.int .i64))) (.cons (.int .i64) (.cons (.int .i64) (.cons (.sl true (.cons (.int .i64) (.int .i64))) (.sl true (.cons (.int .i64) (.cons (.int .i64) (.int .i64))))))))
abbrev yC : Ty := (.cons (.sl true (.cons (.int .i64) (.int .i64))) (.cons (.int .i64) (.int .i64)))
abbrev yD : Ty := (.cons (.int .i64) (.int .i64))
abbrev yE : Ty := (.cons (.int .i64) (.cons (.int .i64) (.int .i64)))
abbrev yF : Ty := (.sl false (.int .u8))
def globL : List (String × Nat × Int × Int) := [("chrysalis/flow.number", 1, 1, 0), ("chrysalis/flow.octets", 3, 2, 0), ("chrysalis/flow.words", 2, 3, 0), ("chrysalis/flow.refs", 4, 7, 0), ("chrysalis/flow.use", 0, 8, 0)]
def gtabL : DG := [(1, 1, 0), (3, 2, 0), (2, 3, 0), (4, 7, 0), (0, 8, 0)]
instance gTab : GTab := ⟨fun g => assoc g gtabL⟩
def ti2 : TI := ⟨.int .i64, 1, 8, false, some (.int .i64), false, [.int .i64 0]⟩
def ti3 : TI := ⟨.int .i64, 1, 8, false, some (.int .i64), false, [.int .i64 0]⟩
def ti4 : TI := ⟨.bool, 1, 1, false, some .bool, false, [.bool false]⟩
def ti5 : TI := ⟨.int .u8, 1, 1, false, some (.int .u8), false, [.int .u8 0]⟩
def ti6 : TI := ⟨.int .u8, 1, 1, false, some (.int .u8), false, [.int .u8 0]⟩
def ti7 : TI := ⟨.st [(0, 1, 2), (1, 1, 3), (2, 1, 4), (3, 1, 6)], 4, 24, true, some (.cons (.int .i64) (.cons (.int .i64) (.cons .bool (.int .u8)))), true, [.int .i64 0, .int .i64 0, .bool false, .int .u8 0]⟩
def ti8 : TI := ⟨.st [(0, 1, 2), (1, 1, 3), (2, 1, 4), (3, 1, 6)], 4, 24, true, some (.cons (.int .i64) (.cons (.int .i64) (.cons .bool (.int .u8)))), true, [.int .i64 0, .int .i64 0, .bool false, .int .u8 0]⟩
def ti9 : TI := ⟨.str, 1, 16, false, some .str, false, [.string (ByteArray.mk (List.toArray []))]⟩
def ti10 : TI := ⟨.str, 1, 16, false, some .str, false, [.string (ByteArray.mk (List.toArray []))]⟩
def ti11 : TI := ⟨.str, 1, 16, false, some .str, false, [.string (ByteArray.mk (List.toArray []))]⟩
def ti12 : TI := ⟨.int .u64, 1, 8, false, some (.int .u64), false, [.int .u64 0]⟩
def ti13 : TI := ⟨.st [(0, 1, 9), (1, 1, 12)], 2, 24, true, some (.cons .str (.int .u64)), false, [.string (ByteArray.mk (List.toArray [])), .int .u64 0]⟩
def ti14 : TI := ⟨.st [(0, 1, 9), (1, 1, 12)], 2, 24, true, some (.cons .str (.int .u64)), false, [.string (ByteArray.mk (List.toArray [])), .int .u64 0]⟩
def ti15 : TI := ⟨.ptr, 1, 8, false, none, false, [.pointer none]⟩
def ti16 : TI := ⟨.ptr, 1, 8, false, none, false, [.pointer none]⟩
def ti17 : TI := ⟨.ptr, 1, 8, false, none, false, [.pointer none]⟩
def ti18 : TI := ⟨.st [(0, 1, 17)], 1, 8, true, none, false, [.pointer none]⟩
def ti19 : TI := ⟨.st [(0, 1, 17)], 1, 8, true, none, false, [.pointer none]⟩
def ti21 : TI := ⟨.int .i32, 1, 4, false, some (.int .i32), false, [.int .i32 0]⟩
def ti22 : TI := ⟨.sl 29, 1, 24, false, some (.sl false (.sl true (.cons (.int .i64) (.int .i64)))), false, [.slice none 0 0]⟩
def ti23 : TI := ⟨.sl 42, 1, 24, false, some (.sl true (.cons (.sl true (.cons (.int .i64) (.int .i64))) (.cons (.int .i64) (.cons (.int .i64) (.cons (.sl true (.cons (.int .i64) (.int .i64))) (.sl true (.cons (.int .i64) (.cons (.int .i64) (.int .i64))))))))), false, [.slice none 0 0]⟩
def ti24 : TI := ⟨.sl 63, 1, 24, false, some (.sl true (.cons (.sl true (.cons (.int .i64) (.int .i64))) (.cons (.int .i64) (.int .i64)))), false, [.slice none 0 0]⟩
def ti25 : TI := ⟨.sl 60, 1, 24, false, some (.sl false (.int .u64)), false, [.slice none 0 0]⟩
def ti26 : TI := ⟨.sl 9, 1, 24, false, some (.sl false .str), false, [.slice none 0 0]⟩
def ti27 : TI := ⟨.st [(0, 1, 22), (1, 1, 23), (2, 1, 24), (3, 1, 25), (4, 1, 26)], 5, 120, true, some (.cons (.sl false (.sl true (.cons (.int .i64) (.int .i64)))) (.cons (.sl true (.cons (.sl true (.cons (.int .i64) (.int .i64))) (.cons (.int .i64) (.cons (.int .i64) (.cons (.sl true (.cons (.int .i64) (.int .i64))) (.sl true (.cons (.int .i64) (.cons (.int .i64) (.int .i64))))))))) (.cons (.sl true (.cons (.sl true (.cons (.int .i64) (.int .i64))) (.cons (.int .i64) (.int .i64)))) (.cons (.sl false (.int .u64)) (.sl false .str))))), false, [.slice none 0 0, .slice none 0 0, .slice none 0 0, .slice none 0 0, .slice none 0 0]⟩
def ti28 : TI := ⟨.st [(0, 1, 22), (1, 1, 23), (2, 1, 24), (3, 1, 25), (4, 1, 26)], 5, 120, true, some (.cons (.sl false (.sl true (.cons (.int .i64) (.int .i64)))) (.cons (.sl true (.cons (.sl true (.cons (.int .i64) (.int .i64))) (.cons (.int .i64) (.cons (.int .i64) (.cons (.sl true (.cons (.int .i64) (.int .i64))) (.sl true (.cons (.int .i64) (.cons (.int .i64) (.int .i64))))))))) (.cons (.sl true (.cons (.sl true (.cons (.int .i64) (.int .i64))) (.cons (.int .i64) (.int .i64)))) (.cons (.sl false (.int .u64)) (.sl false .str))))), false, [.slice none 0 0, .slice none 0 0, .slice none 0 0, .slice none 0 0, .slice none 0 0]⟩
def ti29 : TI := ⟨.sl 39, 1, 24, false, some (.sl true (.cons (.int .i64) (.int .i64))), false, [.slice none 0 0]⟩
def ti32 : TI := ⟨.sl 3, 1, 24, false, some (.sl false (.int .i64)), false, [.slice none 0 0]⟩
def ti33 : TI := ⟨.int .i64, 1, 8, false, some (.int .i64), false, [.int .i64 0]⟩
def ti38 : TI := ⟨.st [(0, 1, 3), (1, 1, 3)], 2, 16, true, some (.cons (.int .i64) (.int .i64)), true, [.int .i64 0, .int .i64 0]⟩
def ti39 : TI := ⟨.st [(0, 1, 3), (1, 1, 3)], 2, 16, true, some (.cons (.int .i64) (.int .i64)), true, [.int .i64 0, .int .i64 0]⟩
def ti40 : TI := ⟨.sl 50, 1, 24, false, some (.sl true (.cons (.int .i64) (.cons (.int .i64) (.int .i64)))), false, [.slice none 0 0]⟩
def ti41 : TI := ⟨.st [(0, 1, 29), (1, 2, 39), (3, 1, 29), (4, 1, 40)], 5, 88, true, some (.cons (.sl true (.cons (.int .i64) (.int .i64))) (.cons (.int .i64) (.cons (.int .i64) (.cons (.sl true (.cons (.int .i64) (.int .i64))) (.sl true (.cons (.int .i64) (.cons (.int .i64) (.int .i64)))))))), false, [.slice none 0 0, .int .i64 0, .int .i64 0, .slice none 0 0, .slice none 0 0]⟩
def ti42 : TI := ⟨.st [(0, 1, 29), (1, 2, 39), (3, 1, 29), (4, 1, 40)], 5, 88, true, some (.cons (.sl true (.cons (.int .i64) (.int .i64))) (.cons (.int .i64) (.cons (.int .i64) (.cons (.sl true (.cons (.int .i64) (.int .i64))) (.sl true (.cons (.int .i64) (.cons (.int .i64) (.int .i64)))))))), false, [.slice none 0 0, .int .i64 0, .int .i64 0, .slice none 0 0, .slice none 0 0]⟩
def ti49 : TI := ⟨.st [(0, 1, 3), (1, 1, 3), (2, 1, 3)], 3, 24, true, some (.cons (.int .i64) (.cons (.int .i64) (.int .i64))), true, [.int .i64 0, .int .i64 0, .int .i64 0]⟩
def ti50 : TI := ⟨.st [(0, 1, 3), (1, 1, 3), (2, 1, 3)], 3, 24, true, some (.cons (.int .i64) (.cons (.int .i64) (.int .i64))), true, [.int .i64 0, .int .i64 0, .int .i64 0]⟩
def ti51 : TI := ⟨.sl 52, 1, 24, false, some (.sl false (.sl true (.cons .bool (.sl true (.cons (.int .i64) (.int .i64)))))), false, [.slice none 0 0]⟩
def ti52 : TI := ⟨.sl 58, 1, 24, false, some (.sl true (.cons .bool (.sl true (.cons (.int .i64) (.int .i64))))), false, [.slice none 0 0]⟩
def ti57 : TI := ⟨.st [(0, 1, 4), (1, 1, 29)], 2, 32, true, some (.cons .bool (.sl true (.cons (.int .i64) (.int .i64)))), false, [.bool false, .slice none 0 0]⟩
def ti58 : TI := ⟨.st [(0, 1, 4), (1, 1, 29)], 2, 32, true, some (.cons .bool (.sl true (.cons (.int .i64) (.int .i64)))), false, [.bool false, .slice none 0 0]⟩
def ti60 : TI := ⟨.int .u64, 1, 8, false, some (.int .u64), false, [.int .u64 0]⟩
def ti62 : TI := ⟨.st [(0, 1, 29), (1, 2, 39)], 3, 40, true, some (.cons (.sl true (.cons (.int .i64) (.int .i64))) (.cons (.int .i64) (.int .i64))), false, [.slice none 0 0, .int .i64 0, .int .i64 0]⟩
def ti63 : TI := ⟨.st [(0, 1, 29), (1, 2, 39)], 3, 40, true, some (.cons (.sl true (.cons (.int .i64) (.int .i64))) (.cons (.int .i64) (.int .i64))), false, [.slice none 0 0, .int .i64 0, .int .i64 0]⟩
def ti64 : TI := ⟨.sl 5, 1, 24, false, some (.sl false (.int .u8)), false, [.slice none 0 0]⟩
def ti72 : TI := ⟨.ptr, 1, 8, false, none, false, [.pointer none]⟩
def ti81 : TI := ⟨.st [(0, 1, 29), (1, 1, 29)], 2, 48, true, some (.cons (.sl true (.cons (.int .i64) (.int .i64))) (.sl true (.cons (.int .i64) (.int .i64)))), false, [.slice none 0 0, .slice none 0 0]⟩
def ti82 : TI := ⟨.st [(0, 1, 29), (1, 1, 29)], 2, 48, true, some (.cons (.sl true (.cons (.int .i64) (.int .i64))) (.sl true (.cons (.int .i64) (.int .i64)))), false, [.slice none 0 0, .slice none 0 0]⟩
def ti95 : TI := ⟨.sl 64, 1, 24, false, some (.sl false (.sl false (.int .u8))), false, [.slice none 0 0]⟩
def ti116 : TI := ⟨.ptr, 1, 8, false, none, false, [.pointer none]⟩
def ti117 : TI := ⟨.st [(0, 1, 64)], 1, 24, true, some (.sl false (.int .u8)), false, [.slice none 0 0]⟩
def ti118 : TI := ⟨.st [(0, 1, 64)], 1, 24, true, some (.sl false (.int .u8)), false, [.slice none 0 0]⟩
def ti125 : TI := ⟨.int .u64, 1, 8, false, some (.int .u64), false, [.int .u64 0]⟩
def ti127 : TI := ⟨.arr 2 3, 2, 16, true, none, false, [.int .i64 0, .int .i64 0]⟩
def ti129 : TI := ⟨.st [(0, 1, 17), (1, 1, 17), (2, 1, 17), (3, 1, 9)], 4, 40, true, none, false, [.pointer none, .pointer none, .pointer none, .string (ByteArray.mk (List.toArray []))]⟩
def ti130 : TI := ⟨.st [(0, 1, 17), (1, 1, 17), (2, 1, 17), (3, 1, 9)], 4, 40, true, none, false, [.pointer none, .pointer none, .pointer none, .string (ByteArray.mk (List.toArray []))]⟩
def ti131 : TI := ⟨.arr 0 16, 0, 0, true, none, false, []⟩
def ti132 : TI := ⟨.st [(0, 0, 131)], 0, 0, true, none, false, []⟩
def ti133 : TI := ⟨.st [(0, 0, 131)], 0, 0, true, none, false, []⟩
def ti135 : TI := ⟨.int .u32, 1, 4, false, some (.int .u32), false, [.int .u32 0]⟩
def ti136 : TI := ⟨.int .u8, 1, 1, false, some (.int .u8), false, [.int .u8 0]⟩
def ti137 : TI := ⟨.int .u8, 1, 1, false, some (.int .u8), false, [.int .u8 0]⟩
def ti139 : TI := ⟨.ptr, 1, 8, false, none, false, [.pointer none]⟩
def ti140 : TI := ⟨.int .i32, 1, 4, false, some (.int .i32), false, [.int .i32 0]⟩
def ti141 : TI := ⟨.int .i32, 1, 4, false, some (.int .i32), false, [.int .i32 0]⟩
def ti144 : TI := ⟨.other, 1, 8, false, none, false, [.pointer none]⟩
def tabL : List (Nat × TI) := [(2, ti2), (3, ti3), (4, ti4), (5, ti5), (6, ti6), (7, ti7), (8, ti8), (9, ti9), (10, ti10), (11, ti11), (12, ti12), (13, ti13), (14, ti14), (15, ti15), (16, ti16), (17, ti17), (18, ti18), (19, ti19), (21, ti21), (22, ti22), (23, ti23), (24, ti24), (25, ti25), (26, ti26), (27, ti27), (28, ti28), (29, ti29), (32, ti32), (33, ti33), (38, ti38), (39, ti39), (40, ti40), (41, ti41), (42, ti42), (49, ti49), (50, ti50), (51, ti51), (52, ti52), (57, ti57), (58, ti58), (60, ti60), (62, ti62), (63, ti63), (64, ti64), (72, ti72), (81, ti81), (82, ti82), (95, ti95), (116, ti116), (117, ti117), (118, ti118), (125, ti125), (127, ti127), (129, ti129), (130, ti130), (131, ti131), (132, ti132), (133, ti133), (135, ti135), (136, ti136), (137, ti137), (139, ti139), (140, ti140), (141, ti141), (144, ti144)]
def tab : TypeId → Option TI := fun t => assoc t tabL
theorem ze : TabOK Tryd.prog tab := (show TabOK Tryd.prog (fun t => assoc t tabL) from TabOK.of_list _ (by kernel_rfl))
theorem zc : namesOK Tryd.prog = true := by kernel_rfl
theorem zb : Tryd.prog.follows .mixedOrders = true := by kernel_rfl
def law08FlowSteps_c : Code := (match Tryd.f3.body with | some c => c | none => .skip)
def qad_an : Ann := {}
def qad_c : Code := (match Tryd.f13.body with | some c => c | none => .skip)
def qad_a : StSh := ⟨.normal, [], .nil, .nil⟩
def qbj_an : Ann := {}
def qbj_c : Code := (match Tryd.f14.body with | some c => c | none => .skip)
def qbj_a : StSh := ⟨.normal, [0, 1, 2, 3], (.cons (.agg (.cons (.sl true false yA) (.cons (.sl true true yB) (.cons (.sl true true yC) (.cons (.sl true false (.int .u64)) (.cons (.sl true false .str) .nil)))))) (.cons (.int .i64) (.cons (.int .i64) (.cons (.sl true true yD) .nil)))), .nil⟩
def qau_an : Ann := { live := [(0, [1, 18, 19, 20])] }
def qau_c : Code := (match Tryd.f28.body with | some c => c | none => .skip)
def qau_l0 : Code := (match assoc 0 (loopsIn qau_c 0) with | some c => c | none => .skip)
def qau_a : StSh := ⟨.normal, [0], (.cons (.agg (.cons (.sl true false yA) (.cons (.sl true true yB) (.cons (.sl true true yC) (.cons (.sl true false (.int .u64)) (.cons (.sl true false .str) .nil)))))) .nil), .nil⟩
def qae_an : Ann := {}
def qae_c : Code := (match Tryd.f39.body with | some c => c | none => .skip)
def qae_a : StSh := ⟨.normal, [0], (.cons (.agg (.cons (.sl true false yA) (.cons (.sl true true yB) (.cons (.sl true true yC) (.cons (.sl true false (.int .u64)) (.cons (.sl true false .str) .nil)))))) .nil), .nil⟩
def qan_an : Ann := {}
def qan_c : Code := (match Tryd.f64.body with | some c => c | none => .skip)
def qan_a : StSh := ⟨.normal, [0], (.cons (.agg (.cons (.sl true false yA) (.cons (.sl true true yB) (.cons (.sl true true yC) (.cons (.sl true false (.int .u64)) (.cons (.sl true false .str) .nil)))))) .nil), .nil⟩
def qg_an : Ann := {}
def qg_c : Code := (match Tryd.f81.body with | some c => c | none => .skip)
def qg_a : StSh := ⟨.normal, [0, 1], (.cons (.sl true false yA) (.cons (.fn 82 .nil (.cons (.ptr 0 0 0 0) .nil)) .nil)), (.cons (.bcells 0 false 1 (.cons (.int .i64) .nil)) .nil)⟩
def qs_an : Ann := { live := [(0, [0, 1, 7, 8])] }
def qs_c : Code := (match Tryd.f98.body with | some c => c | none => .skip)
def qs_l0 : Code := (match assoc 0 (loopsIn qs_c 0) with | some c => c | none => .skip)
def qs_a : StSh := ⟨.normal, [0, 1], (.cons (.sl true false yA) (.cons (.fn 82 .nil (.cons (.ptr 0 0 0 0) .nil)) .nil)), (.cons (.bcells 0 false 1 (.cons (.int .i64) .nil)) .nil)⟩
def qah_an : Ann := {}
def qah_c : Code := (match Tryd.f82.body with | some c => c | none => .skip)
def qah_a : StSh := ⟨.normal, [0, 1], (.cons (.sl true true yD) (.cons (.ptr 0 0 0 0) .nil)), (.cons (.bcells 0 false 1 (.cons (.int .i64) .nil)) .nil)⟩
def qar_an : Ann := {}
def qar_c : Code := (match Tryd.f83.body with | some c => c | none => .skip)
def qar_a : StSh := ⟨.normal, [0, 1, 2], (.cons (.sl true true yD) (.cons (.int .i64) (.cons (.int .i64) .nil))), .nil⟩
def qo_an : Ann := {}
def qo_c : Code := (match Tryd.f43.body with | some c => c | none => .skip)
def qo_a : StSh := ⟨.normal, [0, 1], (.cons (.sl true true yD) (.cons (.fn 99 .nil (.cons (.ptr 0 0 0 0) .nil)) .nil)), (.cons (.bcells 0 false 1 (.cons (.int .i64) .nil)) .nil)⟩
def qaa_an : Ann := { live := [(0, [0, 1, 7, 8])] }
def qaa_c : Code := (match Tryd.f73.body with | some c => c | none => .skip)
def qaa_l0 : Code := (match assoc 0 (loopsIn qaa_c 0) with | some c => c | none => .skip)
def qaa_a : StSh := ⟨.normal, [0, 1], (.cons (.sl true true yD) (.cons (.fn 99 .nil (.cons (.ptr 0 0 0 0) .nil)) .nil)), (.cons (.bcells 0 false 1 (.cons (.int .i64) .nil)) .nil)⟩
def qal_an : Ann := {}
def qal_c : Code := (match Tryd.f99.body with | some c => c | none => .skip)
def qal_a : StSh := ⟨.normal, [0, 1], (.cons (.agg (.cons (.int .i64) (.cons (.int .i64) .nil))) (.cons (.ptr 0 0 0 0) .nil)), (.cons (.bcells 0 false 1 (.cons (.int .i64) .nil)) .nil)⟩
def qbb_an : Ann := {}
def qbb_c : Code := (match Tryd.f88.body with | some c => c | none => .skip)
def qbb_a : StSh := ⟨.normal, [0, 1], (.cons (.agg (.cons (.int .i64) (.cons (.int .i64) .nil))) (.cons (.int .i64) .nil)), .nil⟩
def qbb_res : List StSh := [⟨.ret, [0], (.cons .bool .nil), .nil⟩]
def qbb_tbl (n : Nat) : FuncId → List Entry := fun f => []
def qbb_loops (n : Nat) : Nat → Option LEntry := fun f => none
theorem qbb_run (n : Nat) (t_0 : Int) (t_0_1 : Int) (recs_1 : Int) : funDS (real _) tab (qbb_tbl n) (qbb_loops n) qbb_an Tryd.f88 0 qbb_a qbb_res ((t_0, t_0_1), recs_1) some = qbb n t_0 t_0_1 recs_1 := by kernel_rfl
def qbb_E (n : Nat) : Entry := ⟨qbb_a, qbb_res, fun d => qbb n d.1.1 d.1.2 d.2⟩
theorem qbb_ok (n : Nat) : EOK Tryd.prog 88 (qbb_E n) :=
 EOK.ofS zc zb ze (tbl := qbb_tbl n) (loops := qbb_loops n) (an := qbb_an) (old := []) (n := n) (c := qbb_c) (fn := Tryd.f88) TblOK.nil (by kernel_rfl) (by kernel_rfl) (by kernel_rfl) (by kernel_rfl) (fun d => by kernel_rfl) LT.nil (fun a => qbb_run n a.1.1 a.1.2 a.2)
def qal_res : List StSh := [⟨.ret, [0], (.cons .bool .nil), (.cons (.bcells 0 false 1 (.cons (.int .i64) .nil)) .nil)⟩]
def qal_tbl (n : Nat) : FuncId → List Entry := fun f => bif Nat.beq f 88 then [qbb_E n] else []
def qal_loops (n : Nat) : Nat → Option LEntry := fun f => none
theorem qal_run (n : Nat) (t_0 : Int) (t_0_1 : Int) (m0 : Int) : funDS (real _) tab (qal_tbl n) (qal_loops n) qal_an Tryd.f99 1 qal_a qal_res ((t_0, t_0_1), m0) some = qal n t_0 t_0_1 m0 := by kernel_rfl
def qal_E (n : Nat) : Entry := ⟨qal_a, qal_res, fun d => qal n d.1.1 d.1.2 d.2⟩
theorem qal_ok (n : Nat) : EOK Tryd.prog 99 (qal_E n) :=
 EOK.ofS zc zb ze (tbl := qal_tbl n) (loops := qal_loops n) (an := qal_an) (old := [some true]) (n := n) (c := qal_c) (fn := Tryd.f99) (TblOK.cons (AllE.cons (qbb_ok n) AllE.nil) TblOK.nil) (by kernel_rfl) (by kernel_rfl) (by kernel_rfl) (by kernel_rfl) (fun d => by kernel_rfl) LT.nil (fun a => qal_run n a.1.1 a.1.2 a.2)
def qaa_h0 : List StSh := [⟨.normal, [0, 1, 7, 8], (.cons (.sl true true yD) (.cons (.fn 99 .nil (.cons (.ptr 0 0 0 0) .nil)) (.cons (.int .i64) (.cons (.int .i64) .nil)))), (.cons (.bcells 0 false 1 (.cons (.int .i64) .nil)) .nil)⟩]
def qaa_o0 : List StSh := [⟨.ret, [4], (.cons (.int .i64) .nil), (.cons (.bcells 0 false 1 (.cons (.int .i64) .nil)) .nil)⟩, ⟨.exit 0, [], .nil, (.cons (.bcells 0 false 1 (.cons (.int .i64) .nil)) .nil)⟩]
def qaa_L0 (n : Nat) : LEntry := ⟨qaa_h0, qaa_o0, qaa_W0 n⟩
def qaa_res : List StSh := [⟨.ret, [0], (.cons (.int .i64) .nil), (.cons (.bcells 0 false 1 (.cons (.int .i64) .nil)) .nil)⟩]
def qaa_tbl (n : Nat) : FuncId → List Entry := fun f => bif Nat.beq f 99 then [qal_E n] else []
def qaa_loops (n : Nat) : Nat → Option LEntry := fun f => bif Nat.beq f 0 then some (qaa_L0 n) else none
theorem qaa_r0 (n : Nat) (s_0 : DA) (t7 : Int) (t8 : Int) (m0 : Int) : roundK (real _) tab (qaa_tbl n) (qaa_loops n) qaa_an [some true] qaa_l0 0 [0, 1, 7, 8] qaa_h0 qaa_o0 ((s_0, (t7, t8)), m0) some = qaa_B0 n s_0 t7 t8 m0 := by kernel_rfl
theorem qaa_f0 (n : Nat) : LoopFact tab (qaa_tbl n) (qaa_loops n) qaa_an [some true] n 0 qaa_l0 (qaa_L0 n) := ⟨[0, 1, 7, 8], (fun s => qaa_B0 n s.1.1 s.1.2.1 s.1.2.2 s.2), by kernel_rfl, by kernel_rfl, fun s => rfl, fun s => qaa_r0 n s.1.1 s.1.2.1 s.1.2.2 s.2⟩
theorem qaa_run (n : Nat) (s_0 : DA) (m0 : Int) : funDS (real _) tab (qaa_tbl n) (qaa_loops n) qaa_an Tryd.f73 1 qaa_a qaa_res (s_0, m0) some = qaa n s_0 m0 := by kernel_rfl
def qaa_E (n : Nat) : Entry := ⟨qaa_a, qaa_res, fun d => qaa n d.1 d.2⟩
theorem qaa_ok (n : Nat) : EOK Tryd.prog 73 (qaa_E n) :=
 EOK.ofS zc zb ze (tbl := qaa_tbl n) (loops := qaa_loops n) (an := qaa_an) (old := [some true]) (n := n) (c := qaa_c) (fn := Tryd.f73) (TblOK.cons (AllE.cons (qal_ok n) AllE.nil) TblOK.nil) (by kernel_rfl) (by kernel_rfl) (by kernel_rfl) (by kernel_rfl) (fun d => by kernel_rfl) (LT.cons (by kernel_rfl) (qaa_f0 n) LT.nil) (fun a => qaa_run n a.1 a.2)
def qo_res : List StSh := [⟨.ret, [0], (.cons .bool .nil), (.cons (.bcells 0 false 1 (.cons (.int .i64) .nil)) .nil)⟩]
def qo_tbl (n : Nat) : FuncId → List Entry := fun f => bif Nat.beq f 73 then [qaa_E n] else []
def qo_loops (n : Nat) : Nat → Option LEntry := fun f => none
theorem qo_run (n : Nat) (s_0 : DA) (m0 : Int) : funDS (real _) tab (qo_tbl n) (qo_loops n) qo_an Tryd.f43 1 qo_a qo_res (s_0, m0) some = qo n s_0 m0 := by kernel_rfl
def qo_E (n : Nat) : Entry := ⟨qo_a, qo_res, fun d => qo n d.1 d.2⟩
theorem qo_ok (n : Nat) : EOK Tryd.prog 43 (qo_E n) :=
 EOK.ofS zc zb ze (tbl := qo_tbl n) (loops := qo_loops n) (an := qo_an) (old := [some true]) (n := n) (c := qo_c) (fn := Tryd.f43) (TblOK.cons (AllE.cons (qaa_ok n) AllE.nil) TblOK.nil) (by kernel_rfl) (by kernel_rfl) (by kernel_rfl) (by kernel_rfl) (fun d => by kernel_rfl) LT.nil (fun a => qo_run n a.1 a.2)
def qar_res : List StSh := [⟨.ret, [0], (.cons .bool .nil), .nil⟩]
def qar_tbl (n : Nat) : FuncId → List Entry := fun f => bif Nat.beq f 43 then [qo_E n] else []
def qar_loops (n : Nat) : Nat → Option LEntry := fun f => none
theorem qar_run (n : Nat) (list_0 : DA) (recs_1 : Int) (most_2 : Int) : funDS (real _) tab (qar_tbl n) (qar_loops n) qar_an Tryd.f83 0 qar_a qar_res (list_0, (recs_1, most_2)) some = qar n list_0 recs_1 most_2 := by kernel_rfl
def qar_E (n : Nat) : Entry := ⟨qar_a, qar_res, fun d => qar n d.1 d.2.1 d.2.2⟩
theorem qar_ok (n : Nat) : EOK Tryd.prog 83 (qar_E n) :=
 EOK.ofS zc zb ze (tbl := qar_tbl n) (loops := qar_loops n) (an := qar_an) (old := []) (n := n) (c := qar_c) (fn := Tryd.f83) (TblOK.cons (AllE.cons (qo_ok n) AllE.nil) TblOK.nil) (by kernel_rfl) (by kernel_rfl) (by kernel_rfl) (by kernel_rfl) (fun d => by kernel_rfl) LT.nil (fun a => qar_run n a.1 a.2.1 a.2.2)
def qah_res : List StSh := [⟨.ret, [0], (.cons .bool .nil), (.cons (.bcells 0 false 1 (.cons (.int .i64) .nil)) .nil)⟩]
def qah_tbl (n : Nat) : FuncId → List Entry := fun f => bif Nat.beq f 83 then [qar_E n] else []
def qah_loops (n : Nat) : Nat → Option LEntry := fun f => none
theorem qah_run (n : Nat) (l_0 : DA) (m0 : Int) : funDS (real _) tab (qah_tbl n) (qah_loops n) qah_an Tryd.f82 1 qah_a qah_res (l_0, m0) some = qah n l_0 m0 := by kernel_rfl
def qah_E (n : Nat) : Entry := ⟨qah_a, qah_res, fun d => qah n d.1 d.2⟩
theorem qah_ok (n : Nat) : EOK Tryd.prog 82 (qah_E n) :=
 EOK.ofS zc zb ze (tbl := qah_tbl n) (loops := qah_loops n) (an := qah_an) (old := [some true]) (n := n) (c := qah_c) (fn := Tryd.f82) (TblOK.cons (AllE.cons (qar_ok n) AllE.nil) TblOK.nil) (by kernel_rfl) (by kernel_rfl) (by kernel_rfl) (by kernel_rfl) (fun d => by kernel_rfl) LT.nil (fun a => qah_run n a.1 a.2)
def qs_h0 : List StSh := [⟨.normal, [0, 1, 7, 8], (.cons (.sl true false yA) (.cons (.fn 82 .nil (.cons (.ptr 0 0 0 0) .nil)) (.cons (.int .i64) (.cons (.int .i64) .nil)))), (.cons (.bcells 0 false 1 (.cons (.int .i64) .nil)) .nil)⟩]
def qs_o0 : List StSh := [⟨.ret, [4], (.cons (.int .i64) .nil), (.cons (.bcells 0 false 1 (.cons (.int .i64) .nil)) .nil)⟩, ⟨.exit 0, [], .nil, (.cons (.bcells 0 false 1 (.cons (.int .i64) .nil)) .nil)⟩]
def qs_L0 (n : Nat) : LEntry := ⟨qs_h0, qs_o0, qs_W0 n⟩
def qs_res : List StSh := [⟨.ret, [0], (.cons (.int .i64) .nil), (.cons (.bcells 0 false 1 (.cons (.int .i64) .nil)) .nil)⟩]
def qs_tbl (n : Nat) : FuncId → List Entry := fun f => bif Nat.beq f 82 then [qah_E n] else []
def qs_loops (n : Nat) : Nat → Option LEntry := fun f => bif Nat.beq f 0 then some (qs_L0 n) else none
theorem qs_r0 (n : Nat) (s_0 : DH) (t7 : Int) (t8 : Int) (m0 : Int) : roundK (real _) tab (qs_tbl n) (qs_loops n) qs_an [some true] qs_l0 0 [0, 1, 7, 8] qs_h0 qs_o0 ((s_0, (t7, t8)), m0) some = qs_B0 n s_0 t7 t8 m0 := by kernel_rfl
theorem qs_f0 (n : Nat) : LoopFact tab (qs_tbl n) (qs_loops n) qs_an [some true] n 0 qs_l0 (qs_L0 n) := ⟨[0, 1, 7, 8], (fun s => qs_B0 n s.1.1 s.1.2.1 s.1.2.2 s.2), by kernel_rfl, by kernel_rfl, fun s => rfl, fun s => qs_r0 n s.1.1 s.1.2.1 s.1.2.2 s.2⟩
theorem qs_run (n : Nat) (s_0 : DH) (m0 : Int) : funDS (real _) tab (qs_tbl n) (qs_loops n) qs_an Tryd.f98 1 qs_a qs_res (s_0, m0) some = qs n s_0 m0 := by kernel_rfl
def qs_E (n : Nat) : Entry := ⟨qs_a, qs_res, fun d => qs n d.1 d.2⟩
theorem qs_ok (n : Nat) : EOK Tryd.prog 98 (qs_E n) :=
 EOK.ofS zc zb ze (tbl := qs_tbl n) (loops := qs_loops n) (an := qs_an) (old := [some true]) (n := n) (c := qs_c) (fn := Tryd.f98) (TblOK.cons (AllE.cons (qah_ok n) AllE.nil) TblOK.nil) (by kernel_rfl) (by kernel_rfl) (by kernel_rfl) (by kernel_rfl) (fun d => by kernel_rfl) (LT.cons (by kernel_rfl) (qs_f0 n) LT.nil) (fun a => qs_run n a.1 a.2)
def qg_res : List StSh := [⟨.ret, [0], (.cons .bool .nil), (.cons (.bcells 0 false 1 (.cons (.int .i64) .nil)) .nil)⟩]
def qg_tbl (n : Nat) : FuncId → List Entry := fun f => bif Nat.beq f 98 then [qs_E n] else []
def qg_loops (n : Nat) : Nat → Option LEntry := fun f => none
theorem qg_run (n : Nat) (s_0 : DH) (m0 : Int) : funDS (real _) tab (qg_tbl n) (qg_loops n) qg_an Tryd.f81 1 qg_a qg_res (s_0, m0) some = qg n s_0 m0 := by kernel_rfl
def qg_E (n : Nat) : Entry := ⟨qg_a, qg_res, fun d => qg n d.1 d.2⟩
theorem qg_ok (n : Nat) : EOK Tryd.prog 81 (qg_E n) :=
 EOK.ofS zc zb ze (tbl := qg_tbl n) (loops := qg_loops n) (an := qg_an) (old := [some true]) (n := n) (c := qg_c) (fn := Tryd.f81) (TblOK.cons (AllE.cons (qs_ok n) AllE.nil) TblOK.nil) (by kernel_rfl) (by kernel_rfl) (by kernel_rfl) (by kernel_rfl) (fun d => by kernel_rfl) LT.nil (fun a => qg_run n a.1 a.2)
def qm_an : Ann := {}
def qm_c : Code := (match Tryd.f84.body with | some c => c | none => .skip)
def qm_a : StSh := ⟨.normal, [0, 1], (.cons (.sl true true yB) (.cons (.fn 85 .nil (.cons (.ptr 0 0 0 0) .nil)) .nil)), (.cons (.bcells 0 false 1 (.cons (.int .i64) .nil)) .nil)⟩
def qy_an : Ann := { live := [(0, [0, 1, 7, 8])] }
def qy_c : Code := (match Tryd.f100.body with | some c => c | none => .skip)
def qy_l0 : Code := (match assoc 0 (loopsIn qy_c 0) with | some c => c | none => .skip)
def qy_a : StSh := ⟨.normal, [0, 1], (.cons (.sl true true yB) (.cons (.fn 85 .nil (.cons (.ptr 0 0 0 0) .nil)) .nil)), (.cons (.bcells 0 false 1 (.cons (.int .i64) .nil)) .nil)⟩
def qag_an : Ann := {}
def qag_c : Code := (match Tryd.f85.body with | some c => c | none => .skip)
def qag_a : StSh := ⟨.normal, [0, 1], (.cons (.agg (.cons (.sl true true yD) (.cons (.int .i64) (.cons (.int .i64) (.cons (.sl true true yD) (.cons (.sl true true yE) .nil)))))) (.cons (.ptr 0 0 0 0) .nil)), (.cons (.bcells 0 false 1 (.cons (.int .i64) .nil)) .nil)⟩
def qac_an : Ann := {}
def qac_c : Code := (match Tryd.f86.body with | some c => c | none => .skip)
def qac_a : StSh := ⟨.normal, [0, 1], (.cons (.agg (.cons (.sl true true yD) (.cons (.int .i64) (.cons (.int .i64) (.cons (.sl true true yD) (.cons (.sl true true yE) .nil)))))) (.cons (.int .i64) .nil)), .nil⟩
def qk_an : Ann := {}
def qk_c : Code := (match Tryd.f42.body with | some c => c | none => .skip)
def qk_a : StSh := ⟨.normal, [0, 1], (.cons (.sl true true yE) (.cons (.fn 101 .nil .nil) .nil)), .nil⟩
def qw_an : Ann := { live := [(0, [0, 1, 7, 8])] }
def qw_c : Code := (match Tryd.f72.body with | some c => c | none => .skip)
def qw_l0 : Code := (match assoc 0 (loopsIn qw_c 0) with | some c => c | none => .skip)
def qw_a : StSh := ⟨.normal, [0, 1], (.cons (.sl true true yE) (.cons (.fn 101 .nil .nil) .nil)), .nil⟩
def qv_an : Ann := {}
def qv_c : Code := (match Tryd.f101.body with | some c => c | none => .skip)
def qv_a : StSh := ⟨.normal, [0], (.cons (.agg (.cons (.int .i64) (.cons (.int .i64) (.cons (.int .i64) .nil)))) .nil), .nil⟩
def qbp_an : Ann := { live := [(0, [4, 39, 40, 41])], boxed := [(4, 3), (9, 4)] }
def qbp_c : Code := (match Tryd.f95.body with | some c => c | none => .skip)
def qbp_l0 : Code := (match assoc 0 (loopsIn qbp_c 0) with | some c => c | none => .skip)
def qbp_a : StSh := ⟨.normal, [0], (.cons (.agg (.cons (.int .i64) (.cons (.int .i64) (.cons (.int .i64) .nil)))) .nil), .nil⟩
def qbk_an : Ann := {}
def qbk_c : Code := (match Tryd.f103.body with | some c => c | none => .skip)
def qbk_a : StSh := ⟨.normal, [0], (.cons (.int .i64) .nil), .nil⟩
def qbk_res : List StSh := [⟨.ret, [0], (.cons (.int .i64) .nil), .nil⟩]
def qbk_tbl (n : Nat) : FuncId → List Entry := fun f => []
def qbk_loops (n : Nat) : Nat → Option LEntry := fun f => none
theorem qbk_run (n : Nat) (op_0 : Int) : funDS (real _) tab (qbk_tbl n) (qbk_loops n) qbk_an Tryd.f103 0 qbk_a qbk_res op_0 some = qbk n op_0 := by kernel_rfl
def qbk_E (n : Nat) : Entry := ⟨qbk_a, qbk_res, fun d => qbk n d⟩
theorem qbk_ok (n : Nat) : EOK Tryd.prog 103 (qbk_E n) :=
 EOK.ofS zc zb ze (tbl := qbk_tbl n) (loops := qbk_loops n) (an := qbk_an) (old := []) (n := n) (c := qbk_c) (fn := Tryd.f103) TblOK.nil (by kernel_rfl) (by kernel_rfl) (by kernel_rfl) (by kernel_rfl) (fun d => by kernel_rfl) LT.nil (fun a => qbk_run n a)
def qbl_an : Ann := {}
def qbl_c : Code := (match Tryd.f104.body with | some c => c | none => .skip)
def qbl_a : StSh := ⟨.normal, [0, 1], (.cons (.int .i64) (.cons .bool .nil)), .nil⟩
def qbl_res : List StSh := [⟨.ret, [0], (.cons .bool .nil), .nil⟩]
def qbl_tbl (n : Nat) : FuncId → List Entry := fun f => []
def qbl_loops (n : Nat) : Nat → Option LEntry := fun f => none
theorem qbl_run (n : Nat) (n_0 : Int) (has_1 : Bool) : funDS (real _) tab (qbl_tbl n) (qbl_loops n) qbl_an Tryd.f104 0 qbl_a qbl_res (n_0, has_1) some = qbl n n_0 has_1 := by kernel_rfl
def qbl_E (n : Nat) : Entry := ⟨qbl_a, qbl_res, fun d => qbl n d.1 d.2⟩
theorem qbl_ok (n : Nat) : EOK Tryd.prog 104 (qbl_E n) :=
 EOK.ofS zc zb ze (tbl := qbl_tbl n) (loops := qbl_loops n) (an := qbl_an) (old := []) (n := n) (c := qbl_c) (fn := Tryd.f104) TblOK.nil (by kernel_rfl) (by kernel_rfl) (by kernel_rfl) (by kernel_rfl) (fun d => by kernel_rfl) LT.nil (fun a => qbl_run n a.1 a.2)
def qbq_an : Ann := { live := [(0, [0, 3])], boxed := [(0, 0), (1, 0), (4, 5), (5, 4)] }
def qbq_c : Code := (match Tryd.f91.body with | some c => c | none => .skip)
def qbq_l0 : Code := (match assoc 0 (loopsIn qbq_c 0) with | some c => c | none => .skip)
def qbq_a : StSh := ⟨.normal, [0], (.cons (.int .u64) .nil), .nil⟩
def qbq_h0 : List StSh := [⟨.normal, [0, 3], (.cons (.int .u64) (.cons (.msw 0 0) .nil)), (.cons (.bts 0 false false false (.int .u8)) .nil)⟩]
def qbq_o0 : List StSh := [⟨.exit 0, [0, 3], (.cons (.int .u64) (.cons (.msw 0 0) .nil)), (.cons (.bts 0 false false false (.int .u8)) .nil)⟩]
def qbq_L0 (n : Nat) : LEntry := ⟨qbq_h0, qbq_o0, qbq_W0 n⟩
def qbq_res : List StSh := [⟨.ret, [0], (.cons (.msw 0 0) .nil), (.cons (.bts 0 false false false (.int .u8)) .nil)⟩]
def qbq_tbl (n : Nat) : FuncId → List Entry := fun f => []
def qbq_loops (n : Nat) : Nat → Option LEntry := fun f => bif Nat.beq f 0 then some (qbq_L0 n) else none
theorem qbq_r0 (n : Nat) (v_0 : Int) (m0 : DC) : roundK (real _) tab (qbq_tbl n) (qbq_loops n) qbq_an [] qbq_l0 0 [0, 3] qbq_h0 qbq_o0 (v_0, m0) some = qbq_B0 n v_0 m0 := by kernel_rfl
theorem qbq_f0 (n : Nat) : LoopFact tab (qbq_tbl n) (qbq_loops n) qbq_an [] n 0 qbq_l0 (qbq_L0 n) := ⟨[0, 3], (fun s => qbq_B0 n s.1 s.2), by kernel_rfl, by kernel_rfl, fun s => rfl, fun s => qbq_r0 n s.1 s.2⟩
theorem qbq_run (n : Nat) (v_0 : Int) : funD (real _) tab (qbq_tbl n) (qbq_loops n) qbq_an Tryd.f91 qbq_a qbq_res v_0 some = qbq n v_0 := by kernel_rfl
def qbq_E (n : Nat) : Entry := ⟨qbq_a, qbq_res, fun d => qbq n d⟩
theorem qbq_ok (n : Nat) : EOK Tryd.prog 91 (qbq_E n) :=
 EOK.of zc zb ze (tbl := qbq_tbl n) (loops := qbq_loops n) (an := qbq_an) (old := []) (n := n) (c := qbq_c) (fn := Tryd.f91) TblOK.nil (by kernel_rfl) (by kernel_rfl) (by kernel_rfl) (by kernel_rfl) (fun d => by kernel_rfl) (LT.cons (by kernel_rfl) (qbq_f0 n) LT.nil) (fun a => qbq_run n a)
def qbp_h0 : List StSh := [⟨.normal, [4, 39, 40, 41], (.cons (.msw 0 0) (.cons (.ms 1 0) (.cons (.int .i64) (.cons (.int .i64) .nil)))), (.cons (.bts 0 false false false (.int .u8)) (.cons (.bcells 0 false 1 (.cons (.int .i64) (.cons (.int .i64) .nil))) .nil))⟩]
def qbp_o0 : List StSh := [⟨.exit 0, [4], (.cons (.msw 0 0) .nil), (.cons (.bts 0 false false false (.int .u8)) (.cons (.bcells 0 false 1 (.cons (.int .i64) (.cons (.int .i64) .nil))) .nil))⟩]
def qbp_L0 (n : Nat) : LEntry := ⟨qbp_h0, qbp_o0, qbp_W0 n⟩
def qbp_res : List StSh := [⟨.ret, [0], (.cons (.sl false false (.int .u8)) .nil), .nil⟩]
def qbp_tbl (n : Nat) : FuncId → List Entry := fun f => bif Nat.beq f 103 then [qbk_E n] else bif Nat.beq f 104 then [qbl_E n] else bif Nat.beq f 91 then [qbq_E n] else []
def qbp_loops (n : Nat) : Nat → Option LEntry := fun f => bif Nat.beq f 0 then some (qbp_L0 n) else none
theorem qbp_r0 (n : Nat) (t39 : Nat × Nat) (t40 : Int) (t41 : Int) (m0 : DC) (m1 : Int) (m1_1 : Int) : roundK (real _) tab (qbp_tbl n) (qbp_loops n) qbp_an [] qbp_l0 0 [4, 39, 40, 41] qbp_h0 qbp_o0 ((t39, (t40, t41)), (m0, (m1, m1_1))) some = qbp_B0 n t39 t40 t41 m0 m1 m1_1 := by kernel_rfl
theorem qbp_f0 (n : Nat) : LoopFact tab (qbp_tbl n) (qbp_loops n) qbp_an [] n 0 qbp_l0 (qbp_L0 n) := ⟨[4, 39, 40, 41], (fun s => qbp_B0 n s.1.1 s.1.2.1 s.1.2.2 s.2.1 s.2.2.1 s.2.2.2), by kernel_rfl, by kernel_rfl, fun s => rfl, fun s => qbp_r0 n s.1.1 s.1.2.1 s.1.2.2 s.2.1 s.2.2.1 s.2.2.2⟩
theorem qbp_run (n : Nat) (i_0 : Int) (i_0_1 : Int) (i_0_2 : Int) : funDS (real _) tab (qbp_tbl n) (qbp_loops n) qbp_an Tryd.f95 0 qbp_a qbp_res (i_0, (i_0_1, i_0_2)) some = qbp n i_0 i_0_1 i_0_2 := by kernel_rfl
def qbp_E (n : Nat) : Entry := ⟨qbp_a, qbp_res, fun d => qbp n d.1 d.2.1 d.2.2⟩
theorem qbp_ok (n : Nat) : EOK Tryd.prog 95 (qbp_E n) :=
 EOK.ofS zc zb ze (tbl := qbp_tbl n) (loops := qbp_loops n) (an := qbp_an) (old := []) (n := n) (c := qbp_c) (fn := Tryd.f95) (TblOK.cons (AllE.cons (qbk_ok n) AllE.nil) (TblOK.cons (AllE.cons (qbl_ok n) AllE.nil) (TblOK.cons (AllE.cons (qbq_ok n) AllE.nil) TblOK.nil))) (by kernel_rfl) (by kernel_rfl) (by kernel_rfl) (by kernel_rfl) (fun d => by kernel_rfl) (LT.cons (by kernel_rfl) (qbp_f0 n) LT.nil) (fun a => qbp_run n a.1 a.2.1 a.2.2)
def qv_res : List StSh := [⟨.ret, [0], (.cons .bool .nil), .nil⟩]
def qv_tbl (n : Nat) : FuncId → List Entry := fun f => bif Nat.beq f 95 then [qbp_E n] else []
def qv_loops (n : Nat) : Nat → Option LEntry := fun f => none
theorem qv_run (n : Nat) (i_0 : Int) (i_0_1 : Int) (i_0_2 : Int) : funDS (real _) tab (qv_tbl n) (qv_loops n) qv_an Tryd.f101 0 qv_a qv_res (i_0, (i_0_1, i_0_2)) some = qv n i_0 i_0_1 i_0_2 := by kernel_rfl
def qv_E (n : Nat) : Entry := ⟨qv_a, qv_res, fun d => qv n d.1 d.2.1 d.2.2⟩
theorem qv_ok (n : Nat) : EOK Tryd.prog 101 (qv_E n) :=
 EOK.ofS zc zb ze (tbl := qv_tbl n) (loops := qv_loops n) (an := qv_an) (old := []) (n := n) (c := qv_c) (fn := Tryd.f101) (TblOK.cons (AllE.cons (qbp_ok n) AllE.nil) TblOK.nil) (by kernel_rfl) (by kernel_rfl) (by kernel_rfl) (by kernel_rfl) (fun d => by kernel_rfl) LT.nil (fun a => qv_run n a.1 a.2.1 a.2.2)
def qw_h0 : List StSh := [⟨.normal, [0, 1, 7, 8], (.cons (.sl true true yE) (.cons (.fn 101 .nil .nil) (.cons (.int .i64) (.cons (.int .i64) .nil)))), .nil⟩]
def qw_o0 : List StSh := [⟨.ret, [4], (.cons (.int .i64) .nil), .nil⟩, ⟨.exit 0, [], .nil, .nil⟩]
def qw_L0 (n : Nat) : LEntry := ⟨qw_h0, qw_o0, qw_W0 n⟩
def qw_res : List StSh := [⟨.ret, [0], (.cons (.int .i64) .nil), .nil⟩]
def qw_tbl (n : Nat) : FuncId → List Entry := fun f => bif Nat.beq f 101 then [qv_E n] else []
def qw_loops (n : Nat) : Nat → Option LEntry := fun f => bif Nat.beq f 0 then some (qw_L0 n) else none
theorem qw_r0 (n : Nat) (s_0 : DB) (t7 : Int) (t8 : Int) : roundK (real _) tab (qw_tbl n) (qw_loops n) qw_an [] qw_l0 0 [0, 1, 7, 8] qw_h0 qw_o0 (s_0, (t7, t8)) some = qw_B0 n s_0 t7 t8 := by kernel_rfl
theorem qw_f0 (n : Nat) : LoopFact tab (qw_tbl n) (qw_loops n) qw_an [] n 0 qw_l0 (qw_L0 n) := ⟨[0, 1, 7, 8], (fun s => qw_B0 n s.1 s.2.1 s.2.2), by kernel_rfl, by kernel_rfl, fun s => rfl, fun s => qw_r0 n s.1 s.2.1 s.2.2⟩
theorem qw_run (n : Nat) (s_0 : DB) : funDS (real _) tab (qw_tbl n) (qw_loops n) qw_an Tryd.f72 0 qw_a qw_res s_0 some = qw n s_0 := by kernel_rfl
def qw_E (n : Nat) : Entry := ⟨qw_a, qw_res, fun d => qw n d⟩
theorem qw_ok (n : Nat) : EOK Tryd.prog 72 (qw_E n) :=
 EOK.ofS zc zb ze (tbl := qw_tbl n) (loops := qw_loops n) (an := qw_an) (old := []) (n := n) (c := qw_c) (fn := Tryd.f72) (TblOK.cons (AllE.cons (qv_ok n) AllE.nil) TblOK.nil) (by kernel_rfl) (by kernel_rfl) (by kernel_rfl) (by kernel_rfl) (fun d => by kernel_rfl) (LT.cons (by kernel_rfl) (qw_f0 n) LT.nil) (fun a => qw_run n a)
def qk_res : List StSh := [⟨.ret, [0], (.cons .bool .nil), .nil⟩]
def qk_tbl (n : Nat) : FuncId → List Entry := fun f => bif Nat.beq f 72 then [qw_E n] else []
def qk_loops (n : Nat) : Nat → Option LEntry := fun f => none
theorem qk_run (n : Nat) (s_0 : DB) : funDS (real _) tab (qk_tbl n) (qk_loops n) qk_an Tryd.f42 0 qk_a qk_res s_0 some = qk n s_0 := by kernel_rfl
def qk_E (n : Nat) : Entry := ⟨qk_a, qk_res, fun d => qk n d⟩
theorem qk_ok (n : Nat) : EOK Tryd.prog 42 (qk_E n) :=
 EOK.ofS zc zb ze (tbl := qk_tbl n) (loops := qk_loops n) (an := qk_an) (old := []) (n := n) (c := qk_c) (fn := Tryd.f42) (TblOK.cons (AllE.cons (qw_ok n) AllE.nil) TblOK.nil) (by kernel_rfl) (by kernel_rfl) (by kernel_rfl) (by kernel_rfl) (fun d => by kernel_rfl) LT.nil (fun a => qk_run n a)
def qac_res : List StSh := [⟨.ret, [0], (.cons .bool .nil), .nil⟩]
def qac_tbl (n : Nat) : FuncId → List Entry := fun f => bif Nat.beq f 83 then [qar_E n] else bif Nat.beq f 88 then [qbb_E n] else bif Nat.beq f 42 then [qk_E n] else []
def qac_loops (n : Nat) : Nat → Option LEntry := fun f => none
theorem qac_run (n : Nat) (f_0 : DA) (f_0_1 : Int) (f_0_2 : Int) (f_0_3 : DA) (f_0_4 : DB) (recs_1 : Int) : funDS (real _) tab (qac_tbl n) (qac_loops n) qac_an Tryd.f86 0 qac_a qac_res ((f_0, (f_0_1, (f_0_2, (f_0_3, f_0_4)))), recs_1) some = qac n f_0 f_0_1 f_0_2 f_0_3 f_0_4 recs_1 := by kernel_rfl
def qac_E (n : Nat) : Entry := ⟨qac_a, qac_res, fun d => qac n d.1.1 d.1.2.1 d.1.2.2.1 d.1.2.2.2.1 d.1.2.2.2.2 d.2⟩
theorem qac_ok (n : Nat) : EOK Tryd.prog 86 (qac_E n) :=
 EOK.ofS zc zb ze (tbl := qac_tbl n) (loops := qac_loops n) (an := qac_an) (old := []) (n := n) (c := qac_c) (fn := Tryd.f86) (TblOK.cons (AllE.cons (qar_ok n) AllE.nil) (TblOK.cons (AllE.cons (qbb_ok n) AllE.nil) (TblOK.cons (AllE.cons (qk_ok n) AllE.nil) TblOK.nil))) (by kernel_rfl) (by kernel_rfl) (by kernel_rfl) (by kernel_rfl) (fun d => by kernel_rfl) LT.nil (fun a => qac_run n a.1.1 a.1.2.1 a.1.2.2.1 a.1.2.2.2.1 a.1.2.2.2.2 a.2)
def qag_res : List StSh := [⟨.ret, [0], (.cons .bool .nil), (.cons (.bcells 0 false 1 (.cons (.int .i64) .nil)) .nil)⟩]
def qag_tbl (n : Nat) : FuncId → List Entry := fun f => bif Nat.beq f 86 then [qac_E n] else []
def qag_loops (n : Nat) : Nat → Option LEntry := fun f => none
theorem qag_run (n : Nat) (f_0 : DA) (f_0_1 : Int) (f_0_2 : Int) (f_0_3 : DA) (f_0_4 : DB) (m0 : Int) : funDS (real _) tab (qag_tbl n) (qag_loops n) qag_an Tryd.f85 1 qag_a qag_res ((f_0, (f_0_1, (f_0_2, (f_0_3, f_0_4)))), m0) some = qag n f_0 f_0_1 f_0_2 f_0_3 f_0_4 m0 := by kernel_rfl
def qag_E (n : Nat) : Entry := ⟨qag_a, qag_res, fun d => qag n d.1.1 d.1.2.1 d.1.2.2.1 d.1.2.2.2.1 d.1.2.2.2.2 d.2⟩
theorem qag_ok (n : Nat) : EOK Tryd.prog 85 (qag_E n) :=
 EOK.ofS zc zb ze (tbl := qag_tbl n) (loops := qag_loops n) (an := qag_an) (old := [some true]) (n := n) (c := qag_c) (fn := Tryd.f85) (TblOK.cons (AllE.cons (qac_ok n) AllE.nil) TblOK.nil) (by kernel_rfl) (by kernel_rfl) (by kernel_rfl) (by kernel_rfl) (fun d => by kernel_rfl) LT.nil (fun a => qag_run n a.1.1 a.1.2.1 a.1.2.2.1 a.1.2.2.2.1 a.1.2.2.2.2 a.2)
def qy_h0 : List StSh := [⟨.normal, [0, 1, 7, 8], (.cons (.sl true true yB) (.cons (.fn 85 .nil (.cons (.ptr 0 0 0 0) .nil)) (.cons (.int .i64) (.cons (.int .i64) .nil)))), (.cons (.bcells 0 false 1 (.cons (.int .i64) .nil)) .nil)⟩]
def qy_o0 : List StSh := [⟨.ret, [4], (.cons (.int .i64) .nil), (.cons (.bcells 0 false 1 (.cons (.int .i64) .nil)) .nil)⟩, ⟨.exit 0, [], .nil, (.cons (.bcells 0 false 1 (.cons (.int .i64) .nil)) .nil)⟩]
def qy_L0 (n : Nat) : LEntry := ⟨qy_h0, qy_o0, qy_W0 n⟩
def qy_res : List StSh := [⟨.ret, [0], (.cons (.int .i64) .nil), (.cons (.bcells 0 false 1 (.cons (.int .i64) .nil)) .nil)⟩]
def qy_tbl (n : Nat) : FuncId → List Entry := fun f => bif Nat.beq f 85 then [qag_E n] else []
def qy_loops (n : Nat) : Nat → Option LEntry := fun f => bif Nat.beq f 0 then some (qy_L0 n) else none
theorem qy_r0 (n : Nat) (s_0 : DI) (t7 : Int) (t8 : Int) (m0 : Int) : roundK (real _) tab (qy_tbl n) (qy_loops n) qy_an [some true] qy_l0 0 [0, 1, 7, 8] qy_h0 qy_o0 ((s_0, (t7, t8)), m0) some = qy_B0 n s_0 t7 t8 m0 := by kernel_rfl
theorem qy_f0 (n : Nat) : LoopFact tab (qy_tbl n) (qy_loops n) qy_an [some true] n 0 qy_l0 (qy_L0 n) := ⟨[0, 1, 7, 8], (fun s => qy_B0 n s.1.1 s.1.2.1 s.1.2.2 s.2), by kernel_rfl, by kernel_rfl, fun s => rfl, fun s => qy_r0 n s.1.1 s.1.2.1 s.1.2.2 s.2⟩
theorem qy_run (n : Nat) (s_0 : DI) (m0 : Int) : funDS (real _) tab (qy_tbl n) (qy_loops n) qy_an Tryd.f100 1 qy_a qy_res (s_0, m0) some = qy n s_0 m0 := by kernel_rfl
def qy_E (n : Nat) : Entry := ⟨qy_a, qy_res, fun d => qy n d.1 d.2⟩
theorem qy_ok (n : Nat) : EOK Tryd.prog 100 (qy_E n) :=
 EOK.ofS zc zb ze (tbl := qy_tbl n) (loops := qy_loops n) (an := qy_an) (old := [some true]) (n := n) (c := qy_c) (fn := Tryd.f100) (TblOK.cons (AllE.cons (qag_ok n) AllE.nil) TblOK.nil) (by kernel_rfl) (by kernel_rfl) (by kernel_rfl) (by kernel_rfl) (fun d => by kernel_rfl) (LT.cons (by kernel_rfl) (qy_f0 n) LT.nil) (fun a => qy_run n a.1 a.2)
def qm_res : List StSh := [⟨.ret, [0], (.cons .bool .nil), (.cons (.bcells 0 false 1 (.cons (.int .i64) .nil)) .nil)⟩]
def qm_tbl (n : Nat) : FuncId → List Entry := fun f => bif Nat.beq f 100 then [qy_E n] else []
def qm_loops (n : Nat) : Nat → Option LEntry := fun f => none
theorem qm_run (n : Nat) (s_0 : DI) (m0 : Int) : funDS (real _) tab (qm_tbl n) (qm_loops n) qm_an Tryd.f84 1 qm_a qm_res (s_0, m0) some = qm n s_0 m0 := by kernel_rfl
def qm_E (n : Nat) : Entry := ⟨qm_a, qm_res, fun d => qm n d.1 d.2⟩
theorem qm_ok (n : Nat) : EOK Tryd.prog 84 (qm_E n) :=
 EOK.ofS zc zb ze (tbl := qm_tbl n) (loops := qm_loops n) (an := qm_an) (old := [some true]) (n := n) (c := qm_c) (fn := Tryd.f84) (TblOK.cons (AllE.cons (qy_ok n) AllE.nil) TblOK.nil) (by kernel_rfl) (by kernel_rfl) (by kernel_rfl) (by kernel_rfl) (fun d => by kernel_rfl) LT.nil (fun a => qm_run n a.1 a.2)
def qe_an : Ann := {}
def qe_c : Code := (match Tryd.f48.body with | some c => c | none => .skip)
def qe_a : StSh := ⟨.normal, [0, 1], (.cons (.sl true true yC) (.cons (.fn 87 .nil (.cons (.ptr 0 0 0 0) .nil)) .nil)), (.cons (.bcells 0 false 1 (.cons (.int .i64) .nil)) .nil)⟩
def qq_an : Ann := { live := [(0, [0, 1, 7, 8])] }
def qq_c : Code := (match Tryd.f74.body with | some c => c | none => .skip)
def qq_l0 : Code := (match assoc 0 (loopsIn qq_c 0) with | some c => c | none => .skip)
def qq_a : StSh := ⟨.normal, [0, 1], (.cons (.sl true true yC) (.cons (.fn 87 .nil (.cons (.ptr 0 0 0 0) .nil)) .nil)), (.cons (.bcells 0 false 1 (.cons (.int .i64) .nil)) .nil)⟩
def qaf_an : Ann := {}
def qaf_c : Code := (match Tryd.f87.body with | some c => c | none => .skip)
def qaf_a : StSh := ⟨.normal, [0, 1], (.cons (.agg (.cons (.sl true true yD) (.cons (.int .i64) (.cons (.int .i64) .nil)))) (.cons (.ptr 0 0 0 0) .nil)), (.cons (.bcells 0 false 1 (.cons (.int .i64) .nil)) .nil)⟩
def qaf_res : List StSh := [⟨.ret, [0], (.cons .bool .nil), (.cons (.bcells 0 false 1 (.cons (.int .i64) .nil)) .nil)⟩]
def qaf_tbl (n : Nat) : FuncId → List Entry := fun f => bif Nat.beq f 83 then [qar_E n] else bif Nat.beq f 88 then [qbb_E n] else []
def qaf_loops (n : Nat) : Nat → Option LEntry := fun f => none
theorem qaf_run (n : Nat) (i_0 : DA) (i_0_1 : Int) (i_0_2 : Int) (m0 : Int) : funDS (real _) tab (qaf_tbl n) (qaf_loops n) qaf_an Tryd.f87 1 qaf_a qaf_res ((i_0, (i_0_1, i_0_2)), m0) some = qaf n i_0 i_0_1 i_0_2 m0 := by kernel_rfl
def qaf_E (n : Nat) : Entry := ⟨qaf_a, qaf_res, fun d => qaf n d.1.1 d.1.2.1 d.1.2.2 d.2⟩
theorem qaf_ok (n : Nat) : EOK Tryd.prog 87 (qaf_E n) :=
 EOK.ofS zc zb ze (tbl := qaf_tbl n) (loops := qaf_loops n) (an := qaf_an) (old := [some true]) (n := n) (c := qaf_c) (fn := Tryd.f87) (TblOK.cons (AllE.cons (qar_ok n) AllE.nil) (TblOK.cons (AllE.cons (qbb_ok n) AllE.nil) TblOK.nil)) (by kernel_rfl) (by kernel_rfl) (by kernel_rfl) (by kernel_rfl) (fun d => by kernel_rfl) LT.nil (fun a => qaf_run n a.1.1 a.1.2.1 a.1.2.2 a.2)
def qq_h0 : List StSh := [⟨.normal, [0, 1, 7, 8], (.cons (.sl true true yC) (.cons (.fn 87 .nil (.cons (.ptr 0 0 0 0) .nil)) (.cons (.int .i64) (.cons (.int .i64) .nil)))), (.cons (.bcells 0 false 1 (.cons (.int .i64) .nil)) .nil)⟩]
def qq_o0 : List StSh := [⟨.ret, [4], (.cons (.int .i64) .nil), (.cons (.bcells 0 false 1 (.cons (.int .i64) .nil)) .nil)⟩, ⟨.exit 0, [], .nil, (.cons (.bcells 0 false 1 (.cons (.int .i64) .nil)) .nil)⟩]
def qq_L0 (n : Nat) : LEntry := ⟨qq_h0, qq_o0, qq_W0 n⟩
def qq_res : List StSh := [⟨.ret, [0], (.cons (.int .i64) .nil), (.cons (.bcells 0 false 1 (.cons (.int .i64) .nil)) .nil)⟩]
def qq_tbl (n : Nat) : FuncId → List Entry := fun f => bif Nat.beq f 87 then [qaf_E n] else []
def qq_loops (n : Nat) : Nat → Option LEntry := fun f => bif Nat.beq f 0 then some (qq_L0 n) else none
theorem qq_r0 (n : Nat) (s_0 : DJ) (t7 : Int) (t8 : Int) (m0 : Int) : roundK (real _) tab (qq_tbl n) (qq_loops n) qq_an [some true] qq_l0 0 [0, 1, 7, 8] qq_h0 qq_o0 ((s_0, (t7, t8)), m0) some = qq_B0 n s_0 t7 t8 m0 := by kernel_rfl
theorem qq_f0 (n : Nat) : LoopFact tab (qq_tbl n) (qq_loops n) qq_an [some true] n 0 qq_l0 (qq_L0 n) := ⟨[0, 1, 7, 8], (fun s => qq_B0 n s.1.1 s.1.2.1 s.1.2.2 s.2), by kernel_rfl, by kernel_rfl, fun s => rfl, fun s => qq_r0 n s.1.1 s.1.2.1 s.1.2.2 s.2⟩
theorem qq_run (n : Nat) (s_0 : DJ) (m0 : Int) : funDS (real _) tab (qq_tbl n) (qq_loops n) qq_an Tryd.f74 1 qq_a qq_res (s_0, m0) some = qq n s_0 m0 := by kernel_rfl
def qq_E (n : Nat) : Entry := ⟨qq_a, qq_res, fun d => qq n d.1 d.2⟩
theorem qq_ok (n : Nat) : EOK Tryd.prog 74 (qq_E n) :=
 EOK.ofS zc zb ze (tbl := qq_tbl n) (loops := qq_loops n) (an := qq_an) (old := [some true]) (n := n) (c := qq_c) (fn := Tryd.f74) (TblOK.cons (AllE.cons (qaf_ok n) AllE.nil) TblOK.nil) (by kernel_rfl) (by kernel_rfl) (by kernel_rfl) (by kernel_rfl) (fun d => by kernel_rfl) (LT.cons (by kernel_rfl) (qq_f0 n) LT.nil) (fun a => qq_run n a.1 a.2)
def qe_res : List StSh := [⟨.ret, [0], (.cons .bool .nil), (.cons (.bcells 0 false 1 (.cons (.int .i64) .nil)) .nil)⟩]
def qe_tbl (n : Nat) : FuncId → List Entry := fun f => bif Nat.beq f 74 then [qq_E n] else []
def qe_loops (n : Nat) : Nat → Option LEntry := fun f => none
theorem qe_run (n : Nat) (s_0 : DJ) (m0 : Int) : funDS (real _) tab (qe_tbl n) (qe_loops n) qe_an Tryd.f48 1 qe_a qe_res (s_0, m0) some = qe n s_0 m0 := by kernel_rfl
def qe_E (n : Nat) : Entry := ⟨qe_a, qe_res, fun d => qe n d.1 d.2⟩
theorem qe_ok (n : Nat) : EOK Tryd.prog 48 (qe_E n) :=
 EOK.ofS zc zb ze (tbl := qe_tbl n) (loops := qe_loops n) (an := qe_an) (old := [some true]) (n := n) (c := qe_c) (fn := Tryd.f48) (TblOK.cons (AllE.cons (qq_ok n) AllE.nil) TblOK.nil) (by kernel_rfl) (by kernel_rfl) (by kernel_rfl) (by kernel_rfl) (fun d => by kernel_rfl) LT.nil (fun a => qe_run n a.1 a.2)
def qf_an : Ann := {}
def qf_c : Code := (match Tryd.f89.body with | some c => c | none => .skip)
def qf_a : StSh := ⟨.normal, [0, 1], (.cons (.sl true false .str) (.cons (.fn 90 .nil .nil) .nil)), .nil⟩
def qu_an : Ann := { live := [(0, [0, 1, 7, 8])] }
def qu_c : Code := (match Tryd.f102.body with | some c => c | none => .skip)
def qu_l0 : Code := (match assoc 0 (loopsIn qu_c 0) with | some c => c | none => .skip)
def qu_a : StSh := ⟨.normal, [0, 1], (.cons (.sl true false .str) (.cons (.fn 90 .nil .nil) .nil)), .nil⟩
def qai_an : Ann := {}
def qai_c : Code := (match Tryd.f90.body with | some c => c | none => .skip)
def qai_a : StSh := ⟨.normal, [0], (.cons .str .nil), .nil⟩
def qai_res : List StSh := [⟨.ret, [0], (.cons .bool .nil), .nil⟩]
def qai_tbl (n : Nat) : FuncId → List Entry := fun f => []
def qai_loops (n : Nat) : Nat → Option LEntry := fun f => none
theorem qai_run (n : Nat) (s_0 : ByteArray) : funDS (real _) tab (qai_tbl n) (qai_loops n) qai_an Tryd.f90 0 qai_a qai_res s_0 some = qai n s_0 := by kernel_rfl
def qai_E (n : Nat) : Entry := ⟨qai_a, qai_res, fun d => qai n d⟩
theorem qai_ok (n : Nat) : EOK Tryd.prog 90 (qai_E n) :=
 EOK.ofS zc zb ze (tbl := qai_tbl n) (loops := qai_loops n) (an := qai_an) (old := []) (n := n) (c := qai_c) (fn := Tryd.f90) TblOK.nil (by kernel_rfl) (by kernel_rfl) (by kernel_rfl) (by kernel_rfl) (fun d => by kernel_rfl) LT.nil (fun a => qai_run n a)
def qu_h0 : List StSh := [⟨.normal, [0, 1, 7, 8], (.cons (.sl true false .str) (.cons (.fn 90 .nil .nil) (.cons (.int .i64) (.cons (.int .i64) .nil)))), .nil⟩]
def qu_o0 : List StSh := [⟨.ret, [4], (.cons (.int .i64) .nil), .nil⟩, ⟨.exit 0, [], .nil, .nil⟩]
def qu_L0 (n : Nat) : LEntry := ⟨qu_h0, qu_o0, qu_W0 n⟩
def qu_res : List StSh := [⟨.ret, [0], (.cons (.int .i64) .nil), .nil⟩]
def qu_tbl (n : Nat) : FuncId → List Entry := fun f => bif Nat.beq f 90 then [qai_E n] else []
def qu_loops (n : Nat) : Nat → Option LEntry := fun f => bif Nat.beq f 0 then some (qu_L0 n) else none
theorem qu_r0 (n : Nat) (s_0 : DD) (t7 : Int) (t8 : Int) : roundK (real _) tab (qu_tbl n) (qu_loops n) qu_an [] qu_l0 0 [0, 1, 7, 8] qu_h0 qu_o0 (s_0, (t7, t8)) some = qu_B0 n s_0 t7 t8 := by kernel_rfl
theorem qu_f0 (n : Nat) : LoopFact tab (qu_tbl n) (qu_loops n) qu_an [] n 0 qu_l0 (qu_L0 n) := ⟨[0, 1, 7, 8], (fun s => qu_B0 n s.1 s.2.1 s.2.2), by kernel_rfl, by kernel_rfl, fun s => rfl, fun s => qu_r0 n s.1 s.2.1 s.2.2⟩
theorem qu_run (n : Nat) (s_0 : DD) : funDS (real _) tab (qu_tbl n) (qu_loops n) qu_an Tryd.f102 0 qu_a qu_res s_0 some = qu n s_0 := by kernel_rfl
def qu_E (n : Nat) : Entry := ⟨qu_a, qu_res, fun d => qu n d⟩
theorem qu_ok (n : Nat) : EOK Tryd.prog 102 (qu_E n) :=
 EOK.ofS zc zb ze (tbl := qu_tbl n) (loops := qu_loops n) (an := qu_an) (old := []) (n := n) (c := qu_c) (fn := Tryd.f102) (TblOK.cons (AllE.cons (qai_ok n) AllE.nil) TblOK.nil) (by kernel_rfl) (by kernel_rfl) (by kernel_rfl) (by kernel_rfl) (fun d => by kernel_rfl) (LT.cons (by kernel_rfl) (qu_f0 n) LT.nil) (fun a => qu_run n a)
def qf_res : List StSh := [⟨.ret, [0], (.cons .bool .nil), .nil⟩]
def qf_tbl (n : Nat) : FuncId → List Entry := fun f => bif Nat.beq f 102 then [qu_E n] else []
def qf_loops (n : Nat) : Nat → Option LEntry := fun f => none
theorem qf_run (n : Nat) (s_0 : DD) : funDS (real _) tab (qf_tbl n) (qf_loops n) qf_an Tryd.f89 0 qf_a qf_res s_0 some = qf n s_0 := by kernel_rfl
def qf_E (n : Nat) : Entry := ⟨qf_a, qf_res, fun d => qf n d⟩
theorem qf_ok (n : Nat) : EOK Tryd.prog 89 (qf_E n) :=
 EOK.ofS zc zb ze (tbl := qf_tbl n) (loops := qf_loops n) (an := qf_an) (old := []) (n := n) (c := qf_c) (fn := Tryd.f89) (TblOK.cons (AllE.cons (qu_ok n) AllE.nil) TblOK.nil) (by kernel_rfl) (by kernel_rfl) (by kernel_rfl) (by kernel_rfl) (fun d => by kernel_rfl) LT.nil (fun a => qf_run n a)
def qan_res : List StSh := [⟨.ret, [0], (.cons .bool .nil), .nil⟩]
def qan_tbl (n : Nat) : FuncId → List Entry := fun f => bif Nat.beq f 81 then [qg_E n] else bif Nat.beq f 84 then [qm_E n] else bif Nat.beq f 48 then [qe_E n] else bif Nat.beq f 89 then [qf_E n] else []
def qan_loops (n : Nat) : Nat → Option LEntry := fun f => none
theorem qan_run (n : Nat) (t0 : DH) (t0_1 : DI) (t0_2 : DJ) (t0_3 : DC) (t0_4 : DD) : funDS (real _) tab (qan_tbl n) (qan_loops n) qan_an Tryd.f64 0 qan_a qan_res (t0, (t0_1, (t0_2, (t0_3, t0_4)))) some = qan n t0 t0_1 t0_2 t0_3 t0_4 := by kernel_rfl
def qan_E (n : Nat) : Entry := ⟨qan_a, qan_res, fun d => qan n d.1 d.2.1 d.2.2.1 d.2.2.2.1 d.2.2.2.2⟩
theorem qan_ok (n : Nat) : EOK Tryd.prog 64 (qan_E n) :=
 EOK.ofS zc zb ze (tbl := qan_tbl n) (loops := qan_loops n) (an := qan_an) (old := []) (n := n) (c := qan_c) (fn := Tryd.f64) (TblOK.cons (AllE.cons (qg_ok n) AllE.nil) (TblOK.cons (AllE.cons (qm_ok n) AllE.nil) (TblOK.cons (AllE.cons (qe_ok n) AllE.nil) (TblOK.cons (AllE.cons (qf_ok n) AllE.nil) TblOK.nil)))) (by kernel_rfl) (by kernel_rfl) (by kernel_rfl) (by kernel_rfl) (fun d => by kernel_rfl) LT.nil (fun a => qan_run n a.1 a.2.1 a.2.2.1 a.2.2.2.1 a.2.2.2.2)
def qx_an : Ann := { live := [(0, [3, 14, 15, 16])] }
def qx_c : Code := (match Tryd.f66.body with | some c => c | none => .skip)
def qx_l0 : Code := (match assoc 0 (loopsIn qx_c 0) with | some c => c | none => .skip)
def qx_a : StSh := ⟨.normal, [0], (.cons (.agg (.cons (.sl true false yA) (.cons (.sl true true yB) (.cons (.sl true true yC) (.cons (.sl true false (.int .u64)) (.cons (.sl true false .str) .nil)))))) .nil), .nil⟩
def qj_an : Ann := { boxed := [(0, 8)] }
def qj_c : Code := (match Tryd.f92.body with | some c => c | none => .skip)
def qj_a : StSh := ⟨.normal, [0, 1], (.cons (.ptr 0 0 0 0) (.cons (.int .i64) .nil)), (.cons (.bcells 0 false 1 (.cons .nilS .nil)) .nil)⟩
def qj_res : List StSh := [⟨.ret, [0], (.cons (.tup .nil) .nil), (.cons (.bcells 0 false 1 (.cons (.msw 1 0) .nil)) (.cons (.bts 0 false false false (.int .u8)) .nil))⟩]
def qj_tbl (n : Nat) : FuncId → List Entry := fun f => bif Nat.beq f 91 then [qbq_E n] else []
def qj_loops (n : Nat) : Nat → Option LEntry := fun f => none
theorem qj_run (n : Nat) (n_1 : Int) : funDS (real _) tab (qj_tbl n) (qj_loops n) qj_an Tryd.f92 1 qj_a qj_res n_1 some = qj n n_1 := by kernel_rfl
def qj_E (n : Nat) : Entry := ⟨qj_a, qj_res, fun d => qj n d⟩
theorem qj_ok (n : Nat) : EOK Tryd.prog 92 (qj_E n) :=
 EOK.ofS zc zb ze (tbl := qj_tbl n) (loops := qj_loops n) (an := qj_an) (old := [some true]) (n := n) (c := qj_c) (fn := Tryd.f92) (TblOK.cons (AllE.cons (qbq_ok n) AllE.nil) TblOK.nil) (by kernel_rfl) (by kernel_rfl) (by kernel_rfl) (by kernel_rfl) (fun d => by kernel_rfl) LT.nil (fun a => qj_run n a)
def qi_an : Ann := { live := [(0, [0, 10, 11, 12])], boxed := [(4, 7)] }
def qi_c : Code := (match Tryd.f93.body with | some c => c | none => .skip)
def qi_l0 : Code := (match assoc 0 (loopsIn qi_c 0) with | some c => c | none => .skip)
def qi_a : StSh := ⟨.normal, [0, 1], (.cons (.ptr 0 0 0 0) (.cons (.sl true true yD) .nil)), (.cons (.bcells 0 false 1 (.cons (.msw 1 0) .nil)) (.cons (.bts 0 false false false (.int .u8)) .nil))⟩
def qc_an : Ann := { boxed := [(0, 8)] }
def qc_c : Code := (match Tryd.f92.body with | some c => c | none => .skip)
def qc_a : StSh := ⟨.normal, [0, 1], (.cons (.ptr 0 0 0 0) (.cons (.int .i64) .nil)), (.cons (.bcells 0 false 1 (.cons (.msw 1 0) .nil)) (.cons (.bts 0 false false false (.int .u8)) .nil))⟩
def qc_res : List StSh := [⟨.ret, [0], (.cons (.tup .nil) .nil), (.cons (.bcells 0 false 1 (.cons (.msw 1 0) .nil)) (.cons (.bts 0 false false false (.int .u8)) .nil))⟩]
def qc_tbl (n : Nat) : FuncId → List Entry := fun f => bif Nat.beq f 91 then [qbq_E n] else []
def qc_loops (n : Nat) : Nat → Option LEntry := fun f => none
theorem qc_run (n : Nat) (n_1 : Int) (m1 : DC) : funDS (real _) tab (qc_tbl n) (qc_loops n) qc_an Tryd.f92 2 qc_a qc_res (n_1, m1) some = qc n n_1 m1 := by kernel_rfl
def qc_E (n : Nat) : Entry := ⟨qc_a, qc_res, fun d => qc n d.1 d.2⟩
theorem qc_ok (n : Nat) : EOK Tryd.prog 92 (qc_E n) :=
 EOK.ofS zc zb ze (tbl := qc_tbl n) (loops := qc_loops n) (an := qc_an) (old := [some true, some false]) (n := n) (c := qc_c) (fn := Tryd.f92) (TblOK.cons (AllE.cons (qbq_ok n) AllE.nil) TblOK.nil) (by kernel_rfl) (by kernel_rfl) (by kernel_rfl) (by kernel_rfl) (fun d => by kernel_rfl) LT.nil (fun a => qc_run n a.1 a.2)
def qbn_an : Ann := { raw := [(1, 4)] }
def qbn_c : Code := (match Tryd.f94.body with | some c => c | none => .skip)
def qbn_a : StSh := ⟨.normal, [0], (.cons (.agg (.cons (.int .i64) (.cons (.int .i64) .nil))) .nil), .nil⟩
def qbn_res : List StSh := [⟨.ret, [0], (.cons (.sl false false (.int .u8)) .nil), .nil⟩]
def qbn_tbl (n : Nat) : FuncId → List Entry := fun f => bif Nat.beq f 91 then [qbq_E n] else []
def qbn_loops (n : Nat) : Nat → Option LEntry := fun f => none
theorem qbn_run (n : Nat) (t_0 : Int) (t_0_1 : Int) : funDS (real _) tab (qbn_tbl n) (qbn_loops n) qbn_an Tryd.f94 0 qbn_a qbn_res (t_0, t_0_1) some = qbn n t_0 t_0_1 := by kernel_rfl
def qbn_E (n : Nat) : Entry := ⟨qbn_a, qbn_res, fun d => qbn n d.1 d.2⟩
theorem qbn_ok (n : Nat) : EOK Tryd.prog 94 (qbn_E n) :=
 EOK.ofS zc zb ze (tbl := qbn_tbl n) (loops := qbn_loops n) (an := qbn_an) (old := []) (n := n) (c := qbn_c) (fn := Tryd.f94) (TblOK.cons (AllE.cons (qbq_ok n) AllE.nil) TblOK.nil) (by kernel_rfl) (by kernel_rfl) (by kernel_rfl) (by kernel_rfl) (fun d => by kernel_rfl) LT.nil (fun a => qbn_run n a.1 a.2)
def qi_h0 : List StSh := [⟨.normal, [0, 10, 11, 12], (.cons (.ptr 0 0 0 0) (.cons (.sl true true yD) (.cons (.int .i64) (.cons (.int .i64) .nil)))), (.cons (.bcells 0 false 1 (.cons (.msw 1 0) .nil)) (.cons (.bts 0 false false false (.int .u8)) .nil))⟩]
def qi_o0 : List StSh := [⟨.exit 0, [], .nil, (.cons (.bcells 0 false 1 (.cons (.msw 1 0) .nil)) (.cons (.bts 0 false false false (.int .u8)) .nil))⟩]
def qi_L0 (n : Nat) : LEntry := ⟨qi_h0, qi_o0, qi_W0 n⟩
def qi_res : List StSh := [⟨.ret, [0], (.cons (.tup .nil) .nil), (.cons (.bcells 0 false 1 (.cons (.msw 1 0) .nil)) (.cons (.bts 0 false false false (.int .u8)) .nil))⟩]
def qi_tbl (n : Nat) : FuncId → List Entry := fun f => bif Nat.beq f 92 then [qc_E n] else bif Nat.beq f 94 then [qbn_E n] else []
def qi_loops (n : Nat) : Nat → Option LEntry := fun f => bif Nat.beq f 0 then some (qi_L0 n) else none
theorem qi_r0 (n : Nat) (t10 : DA) (t11 : Int) (t12 : Int) (m1 : DC) : roundK (real _) tab (qi_tbl n) (qi_loops n) qi_an [some true, some false] qi_l0 0 [0, 10, 11, 12] qi_h0 qi_o0 ((t10, (t11, t12)), m1) some = qi_B0 n t10 t11 t12 m1 := by kernel_rfl
theorem qi_f0 (n : Nat) : LoopFact tab (qi_tbl n) (qi_loops n) qi_an [some true, some false] n 0 qi_l0 (qi_L0 n) := ⟨[0, 10, 11, 12], (fun s => qi_B0 n s.1.1 s.1.2.1 s.1.2.2 s.2), by kernel_rfl, by kernel_rfl, fun s => rfl, fun s => qi_r0 n s.1.1 s.1.2.1 s.1.2.2 s.2⟩
theorem qi_run (n : Nat) (list_1 : DA) (m1 : DC) : funDS (real _) tab (qi_tbl n) (qi_loops n) qi_an Tryd.f93 2 qi_a qi_res (list_1, m1) some = qi n list_1 m1 := by kernel_rfl
def qi_E (n : Nat) : Entry := ⟨qi_a, qi_res, fun d => qi n d.1 d.2⟩
theorem qi_ok (n : Nat) : EOK Tryd.prog 93 (qi_E n) :=
 EOK.ofS zc zb ze (tbl := qi_tbl n) (loops := qi_loops n) (an := qi_an) (old := [some true, some false]) (n := n) (c := qi_c) (fn := Tryd.f93) (TblOK.cons (AllE.cons (qc_ok n) AllE.nil) (TblOK.cons (AllE.cons (qbn_ok n) AllE.nil) TblOK.nil)) (by kernel_rfl) (by kernel_rfl) (by kernel_rfl) (by kernel_rfl) (fun d => by kernel_rfl) (LT.cons (by kernel_rfl) (qi_f0 n) LT.nil) (fun a => qi_run n a.1 a.2)
def qx_h0 : List StSh := [⟨.normal, [3, 14, 15, 16], (.cons (.ptr 0 0 0 0) (.cons (.sl true false yA) (.cons (.int .i64) (.cons (.int .i64) .nil)))), (.cons (.bcells 0 false 1 (.cons (.msw 1 0) .nil)) (.cons (.bts 0 false false false (.int .u8)) .nil))⟩]
def qx_o0 : List StSh := [⟨.exit 0, [3], (.cons (.ptr 0 0 0 0) .nil), (.cons (.bcells 0 false 1 (.cons (.msw 1 0) .nil)) (.cons (.bts 0 false false false (.int .u8)) .nil))⟩]
def qx_L0 (n : Nat) : LEntry := ⟨qx_h0, qx_o0, qx_W0 n⟩
def qx_res : List StSh := [⟨.ret, [0], (.cons (.sl false false (.int .u8)) .nil), .nil⟩]
def qx_tbl (n : Nat) : FuncId → List Entry := fun f => bif Nat.beq f 92 then [qj_E n] else bif Nat.beq f 93 then [qi_E n] else []
def qx_loops (n : Nat) : Nat → Option LEntry := fun f => bif Nat.beq f 0 then some (qx_L0 n) else none
theorem qx_r0 (n : Nat) (t14 : DH) (t15 : Int) (t16 : Int) (m1 : DC) : roundK (real _) tab (qx_tbl n) (qx_loops n) qx_an [] qx_l0 0 [3, 14, 15, 16] qx_h0 qx_o0 ((t14, (t15, t16)), m1) some = qx_B0 n t14 t15 t16 m1 := by kernel_rfl
theorem qx_f0 (n : Nat) : LoopFact tab (qx_tbl n) (qx_loops n) qx_an [] n 0 qx_l0 (qx_L0 n) := ⟨[3, 14, 15, 16], (fun s => qx_B0 n s.1.1 s.1.2.1 s.1.2.2 s.2), by kernel_rfl, by kernel_rfl, fun s => rfl, fun s => qx_r0 n s.1.1 s.1.2.1 s.1.2.2 s.2⟩
theorem qx_run (n : Nat) (m_0 : DH) (m_0_1 : DI) (m_0_2 : DJ) (m_0_3 : DC) (m_0_4 : DD) : funDS (real _) tab (qx_tbl n) (qx_loops n) qx_an Tryd.f66 0 qx_a qx_res (m_0, (m_0_1, (m_0_2, (m_0_3, m_0_4)))) some = qx n m_0 m_0_1 m_0_2 m_0_3 m_0_4 := by kernel_rfl
def qx_E (n : Nat) : Entry := ⟨qx_a, qx_res, fun d => qx n d.1 d.2.1 d.2.2.1 d.2.2.2.1 d.2.2.2.2⟩
theorem qx_ok (n : Nat) : EOK Tryd.prog 66 (qx_E n) :=
 EOK.ofS zc zb ze (tbl := qx_tbl n) (loops := qx_loops n) (an := qx_an) (old := []) (n := n) (c := qx_c) (fn := Tryd.f66) (TblOK.cons (AllE.cons (qj_ok n) AllE.nil) (TblOK.cons (AllE.cons (qi_ok n) AllE.nil) TblOK.nil)) (by kernel_rfl) (by kernel_rfl) (by kernel_rfl) (by kernel_rfl) (fun d => by kernel_rfl) (LT.cons (by kernel_rfl) (qx_f0 n) LT.nil) (fun a => qx_run n a.1 a.2.1 a.2.2.1 a.2.2.2.1 a.2.2.2.2)
def qr_an : Ann := { live := [(0, [3, 16, 17, 18]), (2, [3, 16, 17, 18, 47, 48, 49])], boxed := [(7, 8), (13, 7)] }
def qr_c : Code := (match Tryd.f67.body with | some c => c | none => .skip)
def qr_l0 : Code := (match assoc 0 (loopsIn qr_c 0) with | some c => c | none => .skip)
def qr_l2 : Code := (match assoc 2 (loopsIn qr_c 0) with | some c => c | none => .skip)
def qr_a : StSh := ⟨.normal, [0], (.cons (.agg (.cons (.sl true false yA) (.cons (.sl true true yB) (.cons (.sl true true yC) (.cons (.sl true false (.int .u64)) (.cons (.sl true false .str) .nil)))))) .nil), .nil⟩
def qr_h2 : List StSh := [⟨.normal, [3, 16, 17, 18, 47, 48, 49], (.cons (.ptr 0 0 0 0) (.cons (.sl true true yB) (.cons (.int .i64) (.cons (.int .i64) (.cons (.sl true true yE) (.cons (.int .i64) (.cons (.int .i64) .nil))))))), (.cons (.bcells 0 false 1 (.cons (.msw 1 0) .nil)) (.cons (.bts 0 false false false (.int .u8)) .nil))⟩]
def qr_o2 : List StSh := [⟨.exit 2, [3, 16, 17, 18], (.cons (.ptr 0 0 0 0) (.cons (.sl true true yB) (.cons (.int .i64) (.cons (.int .i64) .nil)))), (.cons (.bcells 0 false 1 (.cons (.msw 1 0) .nil)) (.cons (.bts 0 false false false (.int .u8)) .nil))⟩]
def qr_L2 (n : Nat) : LEntry := ⟨qr_h2, qr_o2, qr_W2 n⟩
def qr_h0 : List StSh := [⟨.normal, [3, 16, 17, 18], (.cons (.ptr 0 0 0 0) (.cons (.sl true true yB) (.cons (.int .i64) (.cons (.int .i64) .nil)))), (.cons (.bcells 0 false 1 (.cons (.msw 1 0) .nil)) (.cons (.bts 0 false false false (.int .u8)) .nil))⟩]
def qr_o0 : List StSh := [⟨.exit 0, [3], (.cons (.ptr 0 0 0 0) .nil), (.cons (.bcells 0 false 1 (.cons (.msw 1 0) .nil)) (.cons (.bts 0 false false false (.int .u8)) .nil))⟩]
def qr_L0 (n : Nat) : LEntry := ⟨qr_h0, qr_o0, qr_W0 n⟩
def qr_res : List StSh := [⟨.ret, [0], (.cons (.sl false false (.int .u8)) .nil), .nil⟩]
def qr_tbl (n : Nat) : FuncId → List Entry := fun f => bif Nat.beq f 92 then [qj_E n, qc_E n] else bif Nat.beq f 93 then [qi_E n] else bif Nat.beq f 94 then [qbn_E n] else bif Nat.beq f 95 then [qbp_E n] else []
def qr_loops (n : Nat) : Nat → Option LEntry := fun f => bif Nat.beq f 2 then some (qr_L2 n) else bif Nat.beq f 0 then some (qr_L0 n) else none
theorem qr_r2 (n : Nat) (t16 : DI) (t17 : Int) (t18 : Int) (t47 : DB) (t48 : Int) (t49 : Int) (m1 : DC) : roundK (real _) tab (qr_tbl n) (qr_loops n) qr_an [] qr_l2 2 [3, 16, 17, 18, 47, 48, 49] qr_h2 qr_o2 ((t16, (t17, (t18, (t47, (t48, t49))))), m1) some = qr_B2 n t16 t17 t18 t47 t48 t49 m1 := by kernel_rfl
theorem qr_f2 (n : Nat) : LoopFact tab (qr_tbl n) (qr_loops n) qr_an [] n 2 qr_l2 (qr_L2 n) := ⟨[3, 16, 17, 18, 47, 48, 49], (fun s => qr_B2 n s.1.1 s.1.2.1 s.1.2.2.1 s.1.2.2.2.1 s.1.2.2.2.2.1 s.1.2.2.2.2.2 s.2), by kernel_rfl, by kernel_rfl, fun s => rfl, fun s => qr_r2 n s.1.1 s.1.2.1 s.1.2.2.1 s.1.2.2.2.1 s.1.2.2.2.2.1 s.1.2.2.2.2.2 s.2⟩
theorem qr_r0 (n : Nat) (t16 : DI) (t17 : Int) (t18 : Int) (m1 : DC) : roundK (real _) tab (qr_tbl n) (qr_loops n) qr_an [] qr_l0 0 [3, 16, 17, 18] qr_h0 qr_o0 ((t16, (t17, t18)), m1) some = qr_B0 n t16 t17 t18 m1 := by kernel_rfl
theorem qr_f0 (n : Nat) : LoopFact tab (qr_tbl n) (qr_loops n) qr_an [] n 0 qr_l0 (qr_L0 n) := ⟨[3, 16, 17, 18], (fun s => qr_B0 n s.1.1 s.1.2.1 s.1.2.2 s.2), by kernel_rfl, by kernel_rfl, fun s => rfl, fun s => qr_r0 n s.1.1 s.1.2.1 s.1.2.2 s.2⟩
theorem qr_run (n : Nat) (t0 : DH) (t0_1 : DI) (t0_2 : DJ) (t0_3 : DC) (t0_4 : DD) : funDS (real _) tab (qr_tbl n) (qr_loops n) qr_an Tryd.f67 0 qr_a qr_res (t0, (t0_1, (t0_2, (t0_3, t0_4)))) some = qr n t0 t0_1 t0_2 t0_3 t0_4 := by kernel_rfl
def qr_E (n : Nat) : Entry := ⟨qr_a, qr_res, fun d => qr n d.1 d.2.1 d.2.2.1 d.2.2.2.1 d.2.2.2.2⟩
theorem qr_ok (n : Nat) : EOK Tryd.prog 67 (qr_E n) :=
 EOK.ofS zc zb ze (tbl := qr_tbl n) (loops := qr_loops n) (an := qr_an) (old := []) (n := n) (c := qr_c) (fn := Tryd.f67) (TblOK.cons (AllE.cons (qj_ok n) (AllE.cons (qc_ok n) AllE.nil)) (TblOK.cons (AllE.cons (qi_ok n) AllE.nil) (TblOK.cons (AllE.cons (qbn_ok n) AllE.nil) (TblOK.cons (AllE.cons (qbp_ok n) AllE.nil) TblOK.nil)))) (by kernel_rfl) (by kernel_rfl) (by kernel_rfl) (by kernel_rfl) (fun d => by kernel_rfl) (LT.cons (by kernel_rfl) (qr_f2 n) (LT.cons (by kernel_rfl) (qr_f0 n) LT.nil)) (fun a => qr_run n a.1 a.2.1 a.2.2.1 a.2.2.2.1 a.2.2.2.2)
def qab_an : Ann := { live := [(0, [3, 14, 15, 16])], boxed := [(7, 8)] }
def qab_c : Code := (match Tryd.f68.body with | some c => c | none => .skip)
def qab_l0 : Code := (match assoc 0 (loopsIn qab_c 0) with | some c => c | none => .skip)
def qab_a : StSh := ⟨.normal, [0], (.cons (.agg (.cons (.sl true false yA) (.cons (.sl true true yB) (.cons (.sl true true yC) (.cons (.sl true false (.int .u64)) (.cons (.sl true false .str) .nil)))))) .nil), .nil⟩
def qab_h0 : List StSh := [⟨.normal, [3, 14, 15, 16], (.cons (.ptr 0 0 0 0) (.cons (.sl true true yC) (.cons (.int .i64) (.cons (.int .i64) .nil)))), (.cons (.bcells 0 false 1 (.cons (.msw 1 0) .nil)) (.cons (.bts 0 false false false (.int .u8)) .nil))⟩]
def qab_o0 : List StSh := [⟨.exit 0, [3], (.cons (.ptr 0 0 0 0) .nil), (.cons (.bcells 0 false 1 (.cons (.msw 1 0) .nil)) (.cons (.bts 0 false false false (.int .u8)) .nil))⟩]
def qab_L0 (n : Nat) : LEntry := ⟨qab_h0, qab_o0, qab_W0 n⟩
def qab_res : List StSh := [⟨.ret, [0], (.cons (.sl false false (.int .u8)) .nil), .nil⟩]
def qab_tbl (n : Nat) : FuncId → List Entry := fun f => bif Nat.beq f 92 then [qj_E n] else bif Nat.beq f 93 then [qi_E n] else bif Nat.beq f 94 then [qbn_E n] else []
def qab_loops (n : Nat) : Nat → Option LEntry := fun f => bif Nat.beq f 0 then some (qab_L0 n) else none
theorem qab_r0 (n : Nat) (t14 : DJ) (t15 : Int) (t16 : Int) (m1 : DC) : roundK (real _) tab (qab_tbl n) (qab_loops n) qab_an [] qab_l0 0 [3, 14, 15, 16] qab_h0 qab_o0 ((t14, (t15, t16)), m1) some = qab_B0 n t14 t15 t16 m1 := by kernel_rfl
theorem qab_f0 (n : Nat) : LoopFact tab (qab_tbl n) (qab_loops n) qab_an [] n 0 qab_l0 (qab_L0 n) := ⟨[3, 14, 15, 16], (fun s => qab_B0 n s.1.1 s.1.2.1 s.1.2.2 s.2), by kernel_rfl, by kernel_rfl, fun s => rfl, fun s => qab_r0 n s.1.1 s.1.2.1 s.1.2.2 s.2⟩
theorem qab_run (n : Nat) (m_0 : DH) (m_0_1 : DI) (m_0_2 : DJ) (m_0_3 : DC) (m_0_4 : DD) : funDS (real _) tab (qab_tbl n) (qab_loops n) qab_an Tryd.f68 0 qab_a qab_res (m_0, (m_0_1, (m_0_2, (m_0_3, m_0_4)))) some = qab n m_0 m_0_1 m_0_2 m_0_3 m_0_4 := by kernel_rfl
def qab_E (n : Nat) : Entry := ⟨qab_a, qab_res, fun d => qab n d.1 d.2.1 d.2.2.1 d.2.2.2.1 d.2.2.2.2⟩
theorem qab_ok (n : Nat) : EOK Tryd.prog 68 (qab_E n) :=
 EOK.ofS zc zb ze (tbl := qab_tbl n) (loops := qab_loops n) (an := qab_an) (old := []) (n := n) (c := qab_c) (fn := Tryd.f68) (TblOK.cons (AllE.cons (qj_ok n) AllE.nil) (TblOK.cons (AllE.cons (qi_ok n) AllE.nil) (TblOK.cons (AllE.cons (qbn_ok n) AllE.nil) TblOK.nil))) (by kernel_rfl) (by kernel_rfl) (by kernel_rfl) (by kernel_rfl) (fun d => by kernel_rfl) (LT.cons (by kernel_rfl) (qab_f0 n) LT.nil) (fun a => qab_run n a.1 a.2.1 a.2.2.1 a.2.2.2.1 a.2.2.2.2)
def qz_an : Ann := { live := [(0, [3, 14, 15, 16])], boxed := [(6, 7)] }
def qz_c : Code := (match Tryd.f69.body with | some c => c | none => .skip)
def qz_l0 : Code := (match assoc 0 (loopsIn qz_c 0) with | some c => c | none => .skip)
def qz_a : StSh := ⟨.normal, [0], (.cons (.agg (.cons (.sl true false yA) (.cons (.sl true true yB) (.cons (.sl true true yC) (.cons (.sl true false (.int .u64)) (.cons (.sl true false .str) .nil)))))) .nil), .nil⟩
def qbe_an : Ann := { live := [(0, [0, 5, 9, 10])], boxed := [(1, 0), (5, 7)] }
def qbe_c : Code := (match Tryd.f96.body with | some c => c | none => .skip)
def qbe_l0 : Code := (match assoc 0 (loopsIn qbe_c 0) with | some c => c | none => .skip)
def qbe_a : StSh := ⟨.normal, [0, 1], (.cons (.int .u64) (.cons (.int .i64) .nil)), .nil⟩
def qbe_h0 : List StSh := [⟨.normal, [0, 5, 9, 10], (.cons (.int .u64) (.cons (.msw 0 0) (.cons (.int .i64) (.cons (.int .i64) .nil)))), (.cons (.bts 0 false false false (.int .u8)) .nil)⟩]
def qbe_o0 : List StSh := [⟨.exit 0, [5], (.cons (.msw 0 0) .nil), (.cons (.bts 0 false false false (.int .u8)) .nil)⟩]
def qbe_L0 (n : Nat) : LEntry := ⟨qbe_h0, qbe_o0, qbe_W0 n⟩
def qbe_res : List StSh := [⟨.ret, [0], (.cons (.sl false false (.int .u8)) .nil), .nil⟩]
def qbe_tbl (n : Nat) : FuncId → List Entry := fun f => []
def qbe_loops (n : Nat) : Nat → Option LEntry := fun f => bif Nat.beq f 0 then some (qbe_L0 n) else none
theorem qbe_r0 (n : Nat) (v_0 : Int) (t9 : Int) (t10 : Int) (m0 : DC) : roundK (real _) tab (qbe_tbl n) (qbe_loops n) qbe_an [] qbe_l0 0 [0, 5, 9, 10] qbe_h0 qbe_o0 ((v_0, (t9, t10)), m0) some = qbe_B0 n v_0 t9 t10 m0 := by kernel_rfl
theorem qbe_f0 (n : Nat) : LoopFact tab (qbe_tbl n) (qbe_loops n) qbe_an [] n 0 qbe_l0 (qbe_L0 n) := ⟨[0, 5, 9, 10], (fun s => qbe_B0 n s.1.1 s.1.2.1 s.1.2.2 s.2), by kernel_rfl, by kernel_rfl, fun s => rfl, fun s => qbe_r0 n s.1.1 s.1.2.1 s.1.2.2 s.2⟩
theorem qbe_run (n : Nat) (v_0 : Int) (n_1 : Int) : funDS (real _) tab (qbe_tbl n) (qbe_loops n) qbe_an Tryd.f96 0 qbe_a qbe_res (v_0, n_1) some = qbe n v_0 n_1 := by kernel_rfl
def qbe_E (n : Nat) : Entry := ⟨qbe_a, qbe_res, fun d => qbe n d.1 d.2⟩
theorem qbe_ok (n : Nat) : EOK Tryd.prog 96 (qbe_E n) :=
 EOK.ofS zc zb ze (tbl := qbe_tbl n) (loops := qbe_loops n) (an := qbe_an) (old := []) (n := n) (c := qbe_c) (fn := Tryd.f96) TblOK.nil (by kernel_rfl) (by kernel_rfl) (by kernel_rfl) (by kernel_rfl) (fun d => by kernel_rfl) (LT.cons (by kernel_rfl) (qbe_f0 n) LT.nil) (fun a => qbe_run n a.1 a.2)
def qz_h0 : List StSh := [⟨.normal, [3, 14, 15, 16], (.cons (.ptr 0 0 0 0) (.cons (.sl true false (.int .u64)) (.cons (.int .i64) (.cons (.int .i64) .nil)))), (.cons (.bcells 0 false 1 (.cons (.msw 1 0) .nil)) (.cons (.bts 0 false false false (.int .u8)) .nil))⟩]
def qz_o0 : List StSh := [⟨.exit 0, [3], (.cons (.ptr 0 0 0 0) .nil), (.cons (.bcells 0 false 1 (.cons (.msw 1 0) .nil)) (.cons (.bts 0 false false false (.int .u8)) .nil))⟩]
def qz_L0 (n : Nat) : LEntry := ⟨qz_h0, qz_o0, qz_W0 n⟩
def qz_res : List StSh := [⟨.ret, [0], (.cons (.sl false false (.int .u8)) .nil), .nil⟩]
def qz_tbl (n : Nat) : FuncId → List Entry := fun f => bif Nat.beq f 92 then [qj_E n] else bif Nat.beq f 96 then [qbe_E n] else []
def qz_loops (n : Nat) : Nat → Option LEntry := fun f => bif Nat.beq f 0 then some (qz_L0 n) else none
theorem qz_r0 (n : Nat) (t14 : DC) (t15 : Int) (t16 : Int) (m1 : DC) : roundK (real _) tab (qz_tbl n) (qz_loops n) qz_an [] qz_l0 0 [3, 14, 15, 16] qz_h0 qz_o0 ((t14, (t15, t16)), m1) some = qz_B0 n t14 t15 t16 m1 := by kernel_rfl
theorem qz_f0 (n : Nat) : LoopFact tab (qz_tbl n) (qz_loops n) qz_an [] n 0 qz_l0 (qz_L0 n) := ⟨[3, 14, 15, 16], (fun s => qz_B0 n s.1.1 s.1.2.1 s.1.2.2 s.2), by kernel_rfl, by kernel_rfl, fun s => rfl, fun s => qz_r0 n s.1.1 s.1.2.1 s.1.2.2 s.2⟩
theorem qz_run (n : Nat) (m_0 : DH) (m_0_1 : DI) (m_0_2 : DJ) (m_0_3 : DC) (m_0_4 : DD) : funDS (real _) tab (qz_tbl n) (qz_loops n) qz_an Tryd.f69 0 qz_a qz_res (m_0, (m_0_1, (m_0_2, (m_0_3, m_0_4)))) some = qz n m_0 m_0_1 m_0_2 m_0_3 m_0_4 := by kernel_rfl
def qz_E (n : Nat) : Entry := ⟨qz_a, qz_res, fun d => qz n d.1 d.2.1 d.2.2.1 d.2.2.2.1 d.2.2.2.2⟩
theorem qz_ok (n : Nat) : EOK Tryd.prog 69 (qz_E n) :=
 EOK.ofS zc zb ze (tbl := qz_tbl n) (loops := qz_loops n) (an := qz_an) (old := []) (n := n) (c := qz_c) (fn := Tryd.f69) (TblOK.cons (AllE.cons (qj_ok n) AllE.nil) (TblOK.cons (AllE.cons (qbe_ok n) AllE.nil) TblOK.nil)) (by kernel_rfl) (by kernel_rfl) (by kernel_rfl) (by kernel_rfl) (fun d => by kernel_rfl) (LT.cons (by kernel_rfl) (qz_f0 n) LT.nil) (fun a => qz_run n a.1 a.2.1 a.2.2.1 a.2.2.2.1 a.2.2.2.2)
def qaj_an : Ann := { live := [(0, [3, 14, 15, 16])], boxed := [(7, 6)] }
def qaj_c : Code := (match Tryd.f70.body with | some c => c | none => .skip)
def qaj_l0 : Code := (match assoc 0 (loopsIn qaj_c 0) with | some c => c | none => .skip)
def qaj_a : StSh := ⟨.normal, [0], (.cons (.agg (.cons (.sl true false yA) (.cons (.sl true true yB) (.cons (.sl true true yC) (.cons (.sl true false (.int .u64)) (.cons (.sl true false .str) .nil)))))) .nil), .nil⟩
def qaj_h0 : List StSh := [⟨.normal, [3, 14, 15, 16], (.cons (.ptr 0 0 0 0) (.cons (.sl true false .str) (.cons (.int .i64) (.cons (.int .i64) .nil)))), (.cons (.bcells 0 false 1 (.cons (.msw 1 0) .nil)) (.cons (.bts 0 false false false (.int .u8)) .nil))⟩]
def qaj_o0 : List StSh := [⟨.exit 0, [3], (.cons (.ptr 0 0 0 0) .nil), (.cons (.bcells 0 false 1 (.cons (.msw 1 0) .nil)) (.cons (.bts 0 false false false (.int .u8)) .nil))⟩]
def qaj_L0 (n : Nat) : LEntry := ⟨qaj_h0, qaj_o0, qaj_W0 n⟩
def qaj_res : List StSh := [⟨.ret, [0], (.cons (.sl false false (.int .u8)) .nil), .nil⟩]
def qaj_tbl (n : Nat) : FuncId → List Entry := fun f => bif Nat.beq f 92 then [qj_E n, qc_E n] else []
def qaj_loops (n : Nat) : Nat → Option LEntry := fun f => bif Nat.beq f 0 then some (qaj_L0 n) else none
theorem qaj_r0 (n : Nat) (t14 : DD) (t15 : Int) (t16 : Int) (m1 : DC) : roundK (real _) tab (qaj_tbl n) (qaj_loops n) qaj_an [] qaj_l0 0 [3, 14, 15, 16] qaj_h0 qaj_o0 ((t14, (t15, t16)), m1) some = qaj_B0 n t14 t15 t16 m1 := by kernel_rfl
theorem qaj_f0 (n : Nat) : LoopFact tab (qaj_tbl n) (qaj_loops n) qaj_an [] n 0 qaj_l0 (qaj_L0 n) := ⟨[3, 14, 15, 16], (fun s => qaj_B0 n s.1.1 s.1.2.1 s.1.2.2 s.2), by kernel_rfl, by kernel_rfl, fun s => rfl, fun s => qaj_r0 n s.1.1 s.1.2.1 s.1.2.2 s.2⟩
theorem qaj_run (n : Nat) (m_0 : DH) (m_0_1 : DI) (m_0_2 : DJ) (m_0_3 : DC) (m_0_4 : DD) : funDS (real _) tab (qaj_tbl n) (qaj_loops n) qaj_an Tryd.f70 0 qaj_a qaj_res (m_0, (m_0_1, (m_0_2, (m_0_3, m_0_4)))) some = qaj n m_0 m_0_1 m_0_2 m_0_3 m_0_4 := by kernel_rfl
def qaj_E (n : Nat) : Entry := ⟨qaj_a, qaj_res, fun d => qaj n d.1 d.2.1 d.2.2.1 d.2.2.2.1 d.2.2.2.2⟩
theorem qaj_ok (n : Nat) : EOK Tryd.prog 70 (qaj_E n) :=
 EOK.ofS zc zb ze (tbl := qaj_tbl n) (loops := qaj_loops n) (an := qaj_an) (old := []) (n := n) (c := qaj_c) (fn := Tryd.f70) (TblOK.cons (AllE.cons (qj_ok n) (AllE.cons (qc_ok n) AllE.nil)) TblOK.nil) (by kernel_rfl) (by kernel_rfl) (by kernel_rfl) (by kernel_rfl) (fun d => by kernel_rfl) (LT.cons (by kernel_rfl) (qaj_f0 n) LT.nil) (fun a => qaj_run n a.1 a.2.1 a.2.2.1 a.2.2.2.1 a.2.2.2.2)
def qbc_an : Ann := { live := [(0, [3, 10, 11, 12])], boxed := [(5, 5), (6, 2)], raw := [(1, 3)] }
def qbc_c : Code := (match Tryd.f65.body with | some c => c | none => .skip)
def qbc_l0 : Code := (match assoc 0 (loopsIn qbc_c 0) with | some c => c | none => .skip)
def qbc_a : StSh := ⟨.normal, [0], (.cons (.sl true false yF) .nil), .nil⟩
def qbc_h0 : List StSh := [⟨.normal, [3, 10, 11, 12], (.cons (.msw 0 0) (.cons (.sl true false yF) (.cons (.int .i64) (.cons (.int .i64) .nil)))), (.cons (.bts 0 false false false (.int .u8)) .nil)⟩]
def qbc_o0 : List StSh := [⟨.exit 0, [3], (.cons (.msw 0 0) .nil), (.cons (.bts 0 false false false (.int .u8)) .nil)⟩]
def qbc_L0 (n : Nat) : LEntry := ⟨qbc_h0, qbc_o0, qbc_W0 n⟩
def qbc_res : List StSh := [⟨.ret, [0], (.cons (.sl false false (.int .u8)) .nil), .nil⟩]
def qbc_tbl (n : Nat) : FuncId → List Entry := fun f => bif Nat.beq f 91 then [qbq_E n] else []
def qbc_loops (n : Nat) : Nat → Option LEntry := fun f => bif Nat.beq f 0 then some (qbc_L0 n) else none
theorem qbc_r0 (n : Nat) (t10 : DK) (t11 : Int) (t12 : Int) (m0 : DC) : roundK (real _) tab (qbc_tbl n) (qbc_loops n) qbc_an [] qbc_l0 0 [3, 10, 11, 12] qbc_h0 qbc_o0 ((t10, (t11, t12)), m0) some = qbc_B0 n t10 t11 t12 m0 := by kernel_rfl
theorem qbc_f0 (n : Nat) : LoopFact tab (qbc_tbl n) (qbc_loops n) qbc_an [] n 0 qbc_l0 (qbc_L0 n) := ⟨[3, 10, 11, 12], (fun s => qbc_B0 n s.1.1 s.1.2.1 s.1.2.2 s.2), by kernel_rfl, by kernel_rfl, fun s => rfl, fun s => qbc_r0 n s.1.1 s.1.2.1 s.1.2.2 s.2⟩
theorem qbc_run (n : Nat) (parts_0 : DK) : funDS (real _) tab (qbc_tbl n) (qbc_loops n) qbc_an Tryd.f65 0 qbc_a qbc_res parts_0 some = qbc n parts_0 := by kernel_rfl
def qbc_E (n : Nat) : Entry := ⟨qbc_a, qbc_res, fun d => qbc n d⟩
theorem qbc_ok (n : Nat) : EOK Tryd.prog 65 (qbc_E n) :=
 EOK.ofS zc zb ze (tbl := qbc_tbl n) (loops := qbc_loops n) (an := qbc_an) (old := []) (n := n) (c := qbc_c) (fn := Tryd.f65) (TblOK.cons (AllE.cons (qbq_ok n) AllE.nil) TblOK.nil) (by kernel_rfl) (by kernel_rfl) (by kernel_rfl) (by kernel_rfl) (fun d => by kernel_rfl) (LT.cons (by kernel_rfl) (qbc_f0 n) LT.nil) (fun a => qbc_run n a)
def qae_res : List StSh := [⟨.ret, [0], (.cons (.tup (.cons (.sl false false (.int .u8)) (.cons (.int .i64) .nil))) .nil), .nil⟩]
def qae_tbl (n : Nat) : FuncId → List Entry := fun f => bif Nat.beq f 64 then [qan_E n] else bif Nat.beq f 66 then [qx_E n] else bif Nat.beq f 67 then [qr_E n] else bif Nat.beq f 68 then [qab_E n] else bif Nat.beq f 69 then [qz_E n] else bif Nat.beq f 70 then [qaj_E n] else bif Nat.beq f 65 then [qbc_E n] else []
def qae_loops (n : Nat) : Nat → Option LEntry := fun f => none
theorem qae_run (n : Nat) (m_0 : DH) (m_0_1 : DI) (m_0_2 : DJ) (m_0_3 : DC) (m_0_4 : DD) : funDS (real _) tab (qae_tbl n) (qae_loops n) qae_an Tryd.f39 0 qae_a qae_res (m_0, (m_0_1, (m_0_2, (m_0_3, m_0_4)))) some = qae n m_0 m_0_1 m_0_2 m_0_3 m_0_4 := by kernel_rfl
def qae_E (n : Nat) : Entry := ⟨qae_a, qae_res, fun d => qae n d.1 d.2.1 d.2.2.1 d.2.2.2.1 d.2.2.2.2⟩
theorem qae_ok (n : Nat) : EOK Tryd.prog 39 (qae_E n) :=
 EOK.ofS zc zb ze (tbl := qae_tbl n) (loops := qae_loops n) (an := qae_an) (old := []) (n := n) (c := qae_c) (fn := Tryd.f39) (TblOK.cons (AllE.cons (qan_ok n) AllE.nil) (TblOK.cons (AllE.cons (qx_ok n) AllE.nil) (TblOK.cons (AllE.cons (qr_ok n) AllE.nil) (TblOK.cons (AllE.cons (qab_ok n) AllE.nil) (TblOK.cons (AllE.cons (qz_ok n) AllE.nil) (TblOK.cons (AllE.cons (qaj_ok n) AllE.nil) (TblOK.cons (AllE.cons (qbc_ok n) AllE.nil) TblOK.nil))))))) (by kernel_rfl) (by kernel_rfl) (by kernel_rfl) (by kernel_rfl) (fun d => by kernel_rfl) LT.nil (fun a => qae_run n a.1 a.2.1 a.2.2.1 a.2.2.2.1 a.2.2.2.2)
def qb_an : Ann := {}
def qb_c : Code := (match Tryd.f42.body with | some c => c | none => .skip)
def qb_a : StSh := ⟨.normal, [0, 1], (.cons (.sl true true yE) (.cons (.fn 40 .nil (.cons (.ptr 0 0 0 0) (.cons (.ptr 1 0 0 0) .nil))) .nil)), (.cons (.bcells 0 false 1 (.cons (.sl true false yA) (.cons (.sl true true yB) (.cons (.sl true true yC) (.cons (.sl true false (.int .u64)) (.cons (.sl true false .str) .nil)))))) (.cons (.bcells 0 false 1 (.cons (.sl true true yD) (.cons (.int .i64) (.cons (.int .i64) (.cons (.sl true true yD) (.cons (.sl true true yE) .nil)))))) .nil))⟩
def qn_an : Ann := { live := [(0, [0, 1, 7, 8])] }
def qn_c : Code := (match Tryd.f72.body with | some c => c | none => .skip)
def qn_l0 : Code := (match assoc 0 (loopsIn qn_c 0) with | some c => c | none => .skip)
def qn_a : StSh := ⟨.normal, [0, 1], (.cons (.sl true true yE) (.cons (.fn 40 .nil (.cons (.ptr 0 0 0 0) (.cons (.ptr 1 0 0 0) .nil))) .nil)), (.cons (.bcells 0 false 1 (.cons (.sl true false yA) (.cons (.sl true true yB) (.cons (.sl true true yC) (.cons (.sl true false (.int .u64)) (.cons (.sl true false .str) .nil)))))) (.cons (.bcells 0 false 1 (.cons (.sl true true yD) (.cons (.int .i64) (.cons (.int .i64) (.cons (.sl true true yD) (.cons (.sl true true yE) .nil)))))) .nil))⟩
def qaq_an : Ann := {}
def qaq_c : Code := (match Tryd.f40.body with | some c => c | none => .skip)
def qaq_a : StSh := ⟨.normal, [0, 1, 2], (.cons (.agg (.cons (.int .i64) (.cons (.int .i64) (.cons (.int .i64) .nil)))) (.cons (.ptr 0 0 0 0) (.cons (.ptr 1 0 0 0) .nil))), (.cons (.bcells 0 false 1 (.cons (.sl true false yA) (.cons (.sl true true yB) (.cons (.sl true true yC) (.cons (.sl true false (.int .u64)) (.cons (.sl true false .str) .nil)))))) (.cons (.bcells 0 false 1 (.cons (.sl true true yD) (.cons (.int .i64) (.cons (.int .i64) (.cons (.sl true true yD) (.cons (.sl true true yE) .nil)))))) .nil))⟩
def qaz_an : Ann := {}
def qaz_c : Code := (match Tryd.f41.body with | some c => c | none => .skip)
def qaz_a : StSh := ⟨.normal, [0, 1, 2], (.cons (.agg (.cons (.sl true false yA) (.cons (.sl true true yB) (.cons (.sl true true yC) (.cons (.sl true false (.int .u64)) (.cons (.sl true false .str) .nil)))))) (.cons (.agg (.cons (.sl true true yD) (.cons (.int .i64) (.cons (.int .i64) (.cons (.sl true true yD) (.cons (.sl true true yE) .nil)))))) (.cons (.agg (.cons (.int .i64) (.cons (.int .i64) (.cons (.int .i64) .nil)))) .nil))), .nil⟩
def qax_an : Ann := {}
def qax_c : Code := (match Tryd.f71.body with | some c => c | none => .skip)
def qax_a : StSh := ⟨.normal, [0, 1], (.cons (.int .i64) (.cons (.int .i64) .nil)), .nil⟩
def qax_res : List StSh := [⟨.ret, [0], (.cons .bool .nil), .nil⟩]
def qax_tbl (n : Nat) : FuncId → List Entry := fun f => []
def qax_loops (n : Nat) : Nat → Option LEntry := fun f => none
theorem qax_run (n : Nat) (n_0 : Int) (most_1 : Int) : funDS (real _) tab (qax_tbl n) (qax_loops n) qax_an Tryd.f71 0 qax_a qax_res (n_0, most_1) some = qax n n_0 most_1 := by kernel_rfl
def qax_E (n : Nat) : Entry := ⟨qax_a, qax_res, fun d => qax n d.1 d.2⟩
theorem qax_ok (n : Nat) : EOK Tryd.prog 71 (qax_E n) :=
 EOK.ofS zc zb ze (tbl := qax_tbl n) (loops := qax_loops n) (an := qax_an) (old := []) (n := n) (c := qax_c) (fn := Tryd.f71) TblOK.nil (by kernel_rfl) (by kernel_rfl) (by kernel_rfl) (by kernel_rfl) (fun d => by kernel_rfl) LT.nil (fun a => qax_run n a.1 a.2)
def qaz_res : List StSh := [⟨.ret, [0], (.cons .bool .nil), .nil⟩]
def qaz_tbl (n : Nat) : FuncId → List Entry := fun f => bif Nat.beq f 71 then [qax_E n] else []
def qaz_loops (n : Nat) : Nat → Option LEntry := fun f => none
theorem qaz_run (n : Nat) (t0 : DH) (t0_1 : DI) (t0_2 : DJ) (t0_3 : DC) (t0_4 : DD) (t1 : DA) (t1_1 : Int) (t1_2 : Int) (t1_3 : DA) (t1_4 : DB) (t2 : Int) (t2_1 : Int) (t2_2 : Int) : funDS (real _) tab (qaz_tbl n) (qaz_loops n) qaz_an Tryd.f41 0 qaz_a qaz_res ((t0, (t0_1, (t0_2, (t0_3, t0_4)))), ((t1, (t1_1, (t1_2, (t1_3, t1_4)))), (t2, (t2_1, t2_2)))) some = qaz n t0 t0_1 t0_2 t0_3 t0_4 t1 t1_1 t1_2 t1_3 t1_4 t2 t2_1 t2_2 := by kernel_rfl
def qaz_E (n : Nat) : Entry := ⟨qaz_a, qaz_res, fun d => qaz n d.1.1 d.1.2.1 d.1.2.2.1 d.1.2.2.2.1 d.1.2.2.2.2 d.2.1.1 d.2.1.2.1 d.2.1.2.2.1 d.2.1.2.2.2.1 d.2.1.2.2.2.2 d.2.2.1 d.2.2.2.1 d.2.2.2.2⟩
theorem qaz_ok (n : Nat) : EOK Tryd.prog 41 (qaz_E n) :=
 EOK.ofS zc zb ze (tbl := qaz_tbl n) (loops := qaz_loops n) (an := qaz_an) (old := []) (n := n) (c := qaz_c) (fn := Tryd.f41) (TblOK.cons (AllE.cons (qax_ok n) AllE.nil) TblOK.nil) (by kernel_rfl) (by kernel_rfl) (by kernel_rfl) (by kernel_rfl) (fun d => by kernel_rfl) LT.nil (fun a => qaz_run n a.1.1 a.1.2.1 a.1.2.2.1 a.1.2.2.2.1 a.1.2.2.2.2 a.2.1.1 a.2.1.2.1 a.2.1.2.2.1 a.2.1.2.2.2.1 a.2.1.2.2.2.2 a.2.2.1 a.2.2.2.1 a.2.2.2.2)
def qaq_res : List StSh := [⟨.ret, [0], (.cons .bool .nil), (.cons (.bcells 0 false 1 (.cons (.sl true false yA) (.cons (.sl true true yB) (.cons (.sl true true yC) (.cons (.sl true false (.int .u64)) (.cons (.sl true false .str) .nil)))))) (.cons (.bcells 0 false 1 (.cons (.sl true true yD) (.cons (.int .i64) (.cons (.int .i64) (.cons (.sl true true yD) (.cons (.sl true true yE) .nil)))))) .nil))⟩]
def qaq_tbl (n : Nat) : FuncId → List Entry := fun f => bif Nat.beq f 41 then [qaz_E n] else []
def qaq_loops (n : Nat) : Nat → Option LEntry := fun f => none
theorem qaq_run (n : Nat) (i_0 : Int) (i_0_1 : Int) (i_0_2 : Int) (m0 : DH) (m0_1 : DI) (m0_2 : DJ) (m0_3 : DC) (m0_4 : DD) (m1 : DA) (m1_1 : Int) (m1_2 : Int) (m1_3 : DA) (m1_4 : DB) : funDS (real _) tab (qaq_tbl n) (qaq_loops n) qaq_an Tryd.f40 2 qaq_a qaq_res ((i_0, (i_0_1, i_0_2)), ((m0, (m0_1, (m0_2, (m0_3, m0_4)))), (m1, (m1_1, (m1_2, (m1_3, m1_4)))))) some = qaq n i_0 i_0_1 i_0_2 m0 m0_1 m0_2 m0_3 m0_4 m1 m1_1 m1_2 m1_3 m1_4 := by kernel_rfl
def qaq_E (n : Nat) : Entry := ⟨qaq_a, qaq_res, fun d => qaq n d.1.1 d.1.2.1 d.1.2.2 d.2.1.1 d.2.1.2.1 d.2.1.2.2.1 d.2.1.2.2.2.1 d.2.1.2.2.2.2 d.2.2.1 d.2.2.2.1 d.2.2.2.2.1 d.2.2.2.2.2.1 d.2.2.2.2.2.2⟩
theorem qaq_ok (n : Nat) : EOK Tryd.prog 40 (qaq_E n) :=
 EOK.ofS zc zb ze (tbl := qaq_tbl n) (loops := qaq_loops n) (an := qaq_an) (old := [some true, some true]) (n := n) (c := qaq_c) (fn := Tryd.f40) (TblOK.cons (AllE.cons (qaz_ok n) AllE.nil) TblOK.nil) (by kernel_rfl) (by kernel_rfl) (by kernel_rfl) (by kernel_rfl) (fun d => by kernel_rfl) LT.nil (fun a => qaq_run n a.1.1 a.1.2.1 a.1.2.2 a.2.1.1 a.2.1.2.1 a.2.1.2.2.1 a.2.1.2.2.2.1 a.2.1.2.2.2.2 a.2.2.1 a.2.2.2.1 a.2.2.2.2.1 a.2.2.2.2.2.1 a.2.2.2.2.2.2)
def qn_h0 : List StSh := [⟨.normal, [0, 1, 7, 8], (.cons (.sl true true yE) (.cons (.fn 40 .nil (.cons (.ptr 0 0 0 0) (.cons (.ptr 1 0 0 0) .nil))) (.cons (.int .i64) (.cons (.int .i64) .nil)))), (.cons (.bcells 0 false 1 (.cons (.sl true false yA) (.cons (.sl true true yB) (.cons (.sl true true yC) (.cons (.sl true false (.int .u64)) (.cons (.sl true false .str) .nil)))))) (.cons (.bcells 0 false 1 (.cons (.sl true true yD) (.cons (.int .i64) (.cons (.int .i64) (.cons (.sl true true yD) (.cons (.sl true true yE) .nil)))))) .nil))⟩]
def qn_o0 : List StSh := [⟨.ret, [4], (.cons (.int .i64) .nil), (.cons (.bcells 0 false 1 (.cons (.sl true false yA) (.cons (.sl true true yB) (.cons (.sl true true yC) (.cons (.sl true false (.int .u64)) (.cons (.sl true false .str) .nil)))))) (.cons (.bcells 0 false 1 (.cons (.sl true true yD) (.cons (.int .i64) (.cons (.int .i64) (.cons (.sl true true yD) (.cons (.sl true true yE) .nil)))))) .nil))⟩, ⟨.exit 0, [], .nil, (.cons (.bcells 0 false 1 (.cons (.sl true false yA) (.cons (.sl true true yB) (.cons (.sl true true yC) (.cons (.sl true false (.int .u64)) (.cons (.sl true false .str) .nil)))))) (.cons (.bcells 0 false 1 (.cons (.sl true true yD) (.cons (.int .i64) (.cons (.int .i64) (.cons (.sl true true yD) (.cons (.sl true true yE) .nil)))))) .nil))⟩]
def qn_L0 (n : Nat) : LEntry := ⟨qn_h0, qn_o0, qn_W0 n⟩
def qn_res : List StSh := [⟨.ret, [0], (.cons (.int .i64) .nil), (.cons (.bcells 0 false 1 (.cons (.sl true false yA) (.cons (.sl true true yB) (.cons (.sl true true yC) (.cons (.sl true false (.int .u64)) (.cons (.sl true false .str) .nil)))))) (.cons (.bcells 0 false 1 (.cons (.sl true true yD) (.cons (.int .i64) (.cons (.int .i64) (.cons (.sl true true yD) (.cons (.sl true true yE) .nil)))))) .nil))⟩]
def qn_tbl (n : Nat) : FuncId → List Entry := fun f => bif Nat.beq f 40 then [qaq_E n] else []
def qn_loops (n : Nat) : Nat → Option LEntry := fun f => bif Nat.beq f 0 then some (qn_L0 n) else none
theorem qn_r0 (n : Nat) (s_0 : DB) (t7 : Int) (t8 : Int) (m0 : DH) (m0_1 : DI) (m0_2 : DJ) (m0_3 : DC) (m0_4 : DD) (m1 : DA) (m1_1 : Int) (m1_2 : Int) (m1_3 : DA) (m1_4 : DB) : roundK (real _) tab (qn_tbl n) (qn_loops n) qn_an [some true, some true] qn_l0 0 [0, 1, 7, 8] qn_h0 qn_o0 ((s_0, (t7, t8)), ((m0, (m0_1, (m0_2, (m0_3, m0_4)))), (m1, (m1_1, (m1_2, (m1_3, m1_4)))))) some = qn_B0 n s_0 t7 t8 m0 m0_1 m0_2 m0_3 m0_4 m1 m1_1 m1_2 m1_3 m1_4 := by kernel_rfl
theorem qn_f0 (n : Nat) : LoopFact tab (qn_tbl n) (qn_loops n) qn_an [some true, some true] n 0 qn_l0 (qn_L0 n) := ⟨[0, 1, 7, 8], (fun s => qn_B0 n s.1.1 s.1.2.1 s.1.2.2 s.2.1.1 s.2.1.2.1 s.2.1.2.2.1 s.2.1.2.2.2.1 s.2.1.2.2.2.2 s.2.2.1 s.2.2.2.1 s.2.2.2.2.1 s.2.2.2.2.2.1 s.2.2.2.2.2.2), by kernel_rfl, by kernel_rfl, fun s => rfl, fun s => qn_r0 n s.1.1 s.1.2.1 s.1.2.2 s.2.1.1 s.2.1.2.1 s.2.1.2.2.1 s.2.1.2.2.2.1 s.2.1.2.2.2.2 s.2.2.1 s.2.2.2.1 s.2.2.2.2.1 s.2.2.2.2.2.1 s.2.2.2.2.2.2⟩
theorem qn_run (n : Nat) (s_0 : DB) (m0 : DH) (m0_1 : DI) (m0_2 : DJ) (m0_3 : DC) (m0_4 : DD) (m1 : DA) (m1_1 : Int) (m1_2 : Int) (m1_3 : DA) (m1_4 : DB) : funDS (real _) tab (qn_tbl n) (qn_loops n) qn_an Tryd.f72 2 qn_a qn_res (s_0, ((m0, (m0_1, (m0_2, (m0_3, m0_4)))), (m1, (m1_1, (m1_2, (m1_3, m1_4)))))) some = qn n s_0 m0 m0_1 m0_2 m0_3 m0_4 m1 m1_1 m1_2 m1_3 m1_4 := by kernel_rfl
def qn_E (n : Nat) : Entry := ⟨qn_a, qn_res, fun d => qn n d.1 d.2.1.1 d.2.1.2.1 d.2.1.2.2.1 d.2.1.2.2.2.1 d.2.1.2.2.2.2 d.2.2.1 d.2.2.2.1 d.2.2.2.2.1 d.2.2.2.2.2.1 d.2.2.2.2.2.2⟩
theorem qn_ok (n : Nat) : EOK Tryd.prog 72 (qn_E n) :=
 EOK.ofS zc zb ze (tbl := qn_tbl n) (loops := qn_loops n) (an := qn_an) (old := [some true, some true]) (n := n) (c := qn_c) (fn := Tryd.f72) (TblOK.cons (AllE.cons (qaq_ok n) AllE.nil) TblOK.nil) (by kernel_rfl) (by kernel_rfl) (by kernel_rfl) (by kernel_rfl) (fun d => by kernel_rfl) (LT.cons (by kernel_rfl) (qn_f0 n) LT.nil) (fun a => qn_run n a.1 a.2.1.1 a.2.1.2.1 a.2.1.2.2.1 a.2.1.2.2.2.1 a.2.1.2.2.2.2 a.2.2.1 a.2.2.2.1 a.2.2.2.2.1 a.2.2.2.2.2.1 a.2.2.2.2.2.2)
def qb_res : List StSh := [⟨.ret, [0], (.cons .bool .nil), (.cons (.bcells 0 false 1 (.cons (.sl true false yA) (.cons (.sl true true yB) (.cons (.sl true true yC) (.cons (.sl true false (.int .u64)) (.cons (.sl true false .str) .nil)))))) (.cons (.bcells 0 false 1 (.cons (.sl true true yD) (.cons (.int .i64) (.cons (.int .i64) (.cons (.sl true true yD) (.cons (.sl true true yE) .nil)))))) .nil))⟩]
def qb_tbl (n : Nat) : FuncId → List Entry := fun f => bif Nat.beq f 72 then [qn_E n] else []
def qb_loops (n : Nat) : Nat → Option LEntry := fun f => none
theorem qb_run (n : Nat) (s_0 : DB) (m0 : DH) (m0_1 : DI) (m0_2 : DJ) (m0_3 : DC) (m0_4 : DD) (m1 : DA) (m1_1 : Int) (m1_2 : Int) (m1_3 : DA) (m1_4 : DB) : funDS (real _) tab (qb_tbl n) (qb_loops n) qb_an Tryd.f42 2 qb_a qb_res (s_0, ((m0, (m0_1, (m0_2, (m0_3, m0_4)))), (m1, (m1_1, (m1_2, (m1_3, m1_4)))))) some = qb n s_0 m0 m0_1 m0_2 m0_3 m0_4 m1 m1_1 m1_2 m1_3 m1_4 := by kernel_rfl
def qb_E (n : Nat) : Entry := ⟨qb_a, qb_res, fun d => qb n d.1 d.2.1.1 d.2.1.2.1 d.2.1.2.2.1 d.2.1.2.2.2.1 d.2.1.2.2.2.2 d.2.2.1 d.2.2.2.1 d.2.2.2.2.1 d.2.2.2.2.2.1 d.2.2.2.2.2.2⟩
theorem qb_ok (n : Nat) : EOK Tryd.prog 42 (qb_E n) :=
 EOK.ofS zc zb ze (tbl := qb_tbl n) (loops := qb_loops n) (an := qb_an) (old := [some true, some true]) (n := n) (c := qb_c) (fn := Tryd.f42) (TblOK.cons (AllE.cons (qn_ok n) AllE.nil) TblOK.nil) (by kernel_rfl) (by kernel_rfl) (by kernel_rfl) (by kernel_rfl) (fun d => by kernel_rfl) LT.nil (fun a => qb_run n a.1 a.2.1.1 a.2.1.2.1 a.2.1.2.2.1 a.2.1.2.2.2.1 a.2.1.2.2.2.2 a.2.2.1 a.2.2.2.1 a.2.2.2.2.1 a.2.2.2.2.2.1 a.2.2.2.2.2.2)
def qh_an : Ann := {}
def qh_c : Code := (match Tryd.f43.body with | some c => c | none => .skip)
def qh_a : StSh := ⟨.normal, [0, 1], (.cons (.sl true true yD) (.cons (.fn 44 .nil .nil) .nil)), .nil⟩
def qt_an : Ann := { live := [(0, [0, 1, 7, 8])] }
def qt_c : Code := (match Tryd.f73.body with | some c => c | none => .skip)
def qt_l0 : Code := (match assoc 0 (loopsIn qt_c 0) with | some c => c | none => .skip)
def qt_a : StSh := ⟨.normal, [0, 1], (.cons (.sl true true yD) (.cons (.fn 44 .nil .nil) .nil)), .nil⟩
def qas_an : Ann := {}
def qas_c : Code := (match Tryd.f44.body with | some c => c | none => .skip)
def qas_a : StSh := ⟨.normal, [0], (.cons (.agg (.cons (.int .i64) (.cons (.int .i64) .nil))) .nil), .nil⟩
def qas_res : List StSh := [⟨.ret, [0], (.cons .bool .nil), .nil⟩]
def qas_tbl (n : Nat) : FuncId → List Entry := fun f => []
def qas_loops (n : Nat) : Nat → Option LEntry := fun f => none
theorem qas_run (n : Nat) (t_0 : Int) (t_0_1 : Int) : funDS (real _) tab (qas_tbl n) (qas_loops n) qas_an Tryd.f44 0 qas_a qas_res (t_0, t_0_1) some = qas n t_0 t_0_1 := by kernel_rfl
def qas_E (n : Nat) : Entry := ⟨qas_a, qas_res, fun d => qas n d.1 d.2⟩
theorem qas_ok (n : Nat) : EOK Tryd.prog 44 (qas_E n) :=
 EOK.ofS zc zb ze (tbl := qas_tbl n) (loops := qas_loops n) (an := qas_an) (old := []) (n := n) (c := qas_c) (fn := Tryd.f44) TblOK.nil (by kernel_rfl) (by kernel_rfl) (by kernel_rfl) (by kernel_rfl) (fun d => by kernel_rfl) LT.nil (fun a => qas_run n a.1 a.2)
def qt_h0 : List StSh := [⟨.normal, [0, 1, 7, 8], (.cons (.sl true true yD) (.cons (.fn 44 .nil .nil) (.cons (.int .i64) (.cons (.int .i64) .nil)))), .nil⟩]
def qt_o0 : List StSh := [⟨.ret, [4], (.cons (.int .i64) .nil), .nil⟩, ⟨.exit 0, [], .nil, .nil⟩]
def qt_L0 (n : Nat) : LEntry := ⟨qt_h0, qt_o0, qt_W0 n⟩
def qt_res : List StSh := [⟨.ret, [0], (.cons (.int .i64) .nil), .nil⟩]
def qt_tbl (n : Nat) : FuncId → List Entry := fun f => bif Nat.beq f 44 then [qas_E n] else []
def qt_loops (n : Nat) : Nat → Option LEntry := fun f => bif Nat.beq f 0 then some (qt_L0 n) else none
theorem qt_r0 (n : Nat) (s_0 : DA) (t7 : Int) (t8 : Int) : roundK (real _) tab (qt_tbl n) (qt_loops n) qt_an [] qt_l0 0 [0, 1, 7, 8] qt_h0 qt_o0 (s_0, (t7, t8)) some = qt_B0 n s_0 t7 t8 := by kernel_rfl
theorem qt_f0 (n : Nat) : LoopFact tab (qt_tbl n) (qt_loops n) qt_an [] n 0 qt_l0 (qt_L0 n) := ⟨[0, 1, 7, 8], (fun s => qt_B0 n s.1 s.2.1 s.2.2), by kernel_rfl, by kernel_rfl, fun s => rfl, fun s => qt_r0 n s.1 s.2.1 s.2.2⟩
theorem qt_run (n : Nat) (s_0 : DA) : funDS (real _) tab (qt_tbl n) (qt_loops n) qt_an Tryd.f73 0 qt_a qt_res s_0 some = qt n s_0 := by kernel_rfl
def qt_E (n : Nat) : Entry := ⟨qt_a, qt_res, fun d => qt n d⟩
theorem qt_ok (n : Nat) : EOK Tryd.prog 73 (qt_E n) :=
 EOK.ofS zc zb ze (tbl := qt_tbl n) (loops := qt_loops n) (an := qt_an) (old := []) (n := n) (c := qt_c) (fn := Tryd.f73) (TblOK.cons (AllE.cons (qas_ok n) AllE.nil) TblOK.nil) (by kernel_rfl) (by kernel_rfl) (by kernel_rfl) (by kernel_rfl) (fun d => by kernel_rfl) (LT.cons (by kernel_rfl) (qt_f0 n) LT.nil) (fun a => qt_run n a)
def qh_res : List StSh := [⟨.ret, [0], (.cons .bool .nil), .nil⟩]
def qh_tbl (n : Nat) : FuncId → List Entry := fun f => bif Nat.beq f 73 then [qt_E n] else []
def qh_loops (n : Nat) : Nat → Option LEntry := fun f => none
theorem qh_run (n : Nat) (s_0 : DA) : funDS (real _) tab (qh_tbl n) (qh_loops n) qh_an Tryd.f43 0 qh_a qh_res s_0 some = qh n s_0 := by kernel_rfl
def qh_E (n : Nat) : Entry := ⟨qh_a, qh_res, fun d => qh n d⟩
theorem qh_ok (n : Nat) : EOK Tryd.prog 43 (qh_E n) :=
 EOK.ofS zc zb ze (tbl := qh_tbl n) (loops := qh_loops n) (an := qh_an) (old := []) (n := n) (c := qh_c) (fn := Tryd.f43) (TblOK.cons (AllE.cons (qt_ok n) AllE.nil) TblOK.nil) (by kernel_rfl) (by kernel_rfl) (by kernel_rfl) (by kernel_rfl) (fun d => by kernel_rfl) LT.nil (fun a => qh_run n a)
def qau_h0 : List StSh := [⟨.normal, [1, 18, 19, 20], (.cons (.ptr 0 0 0 0) (.cons (.sl true true yB) (.cons (.int .i64) (.cons (.int .i64) .nil)))), (.cons (.bcells 0 false 1 (.cons (.sl true false yA) (.cons (.sl true true yB) (.cons (.sl true true yC) (.cons (.sl true false (.int .u64)) (.cons (.sl true false .str) .nil)))))) .nil)⟩]
def qau_o0 : List StSh := [⟨.ret, [2], (.cons (.int .i64) .nil), (.cons (.bcells 0 false 1 (.cons (.sl true false yA) (.cons (.sl true true yB) (.cons (.sl true true yC) (.cons (.sl true false (.int .u64)) (.cons (.sl true false .str) .nil)))))) (.cons (.bcells 0 false 1 (.cons (.sl true true yD) (.cons (.int .i64) (.cons (.int .i64) (.cons (.sl true true yD) (.cons (.sl true true yE) .nil)))))) .nil))⟩, ⟨.exit 0, [1], (.cons (.ptr 0 0 0 0) .nil), (.cons (.bcells 0 false 1 (.cons (.sl true false yA) (.cons (.sl true true yB) (.cons (.sl true true yC) (.cons (.sl true false (.int .u64)) (.cons (.sl true false .str) .nil)))))) .nil)⟩]
def qau_L0 (n : Nat) : LEntry := ⟨qau_h0, qau_o0, qau_W0 n⟩
def qa_an : Ann := {}
def qa_c : Code := (match Tryd.f48.body with | some c => c | none => .skip)
def qa_a : StSh := ⟨.normal, [0, 1], (.cons (.sl true true yC) (.cons (.fn 45 .nil .nil) .nil)), .nil⟩
def ql_an : Ann := { live := [(0, [0, 1, 7, 8])] }
def ql_c : Code := (match Tryd.f74.body with | some c => c | none => .skip)
def ql_l0 : Code := (match assoc 0 (loopsIn ql_c 0) with | some c => c | none => .skip)
def ql_a : StSh := ⟨.normal, [0, 1], (.cons (.sl true true yC) (.cons (.fn 45 .nil .nil) .nil)), .nil⟩
def qao_an : Ann := {}
def qao_c : Code := (match Tryd.f45.body with | some c => c | none => .skip)
def qao_a : StSh := ⟨.normal, [0], (.cons (.agg (.cons (.sl true true yD) (.cons (.int .i64) (.cons (.int .i64) .nil)))) .nil), .nil⟩
def qba_an : Ann := {}
def qba_c : Code := (match Tryd.f46.body with | some c => c | none => .skip)
def qba_a : StSh := ⟨.normal, [0], (.cons (.agg (.cons (.int .i64) (.cons (.int .i64) .nil))) .nil), .nil⟩
def qba_res : List StSh := [⟨.ret, [0], (.cons .bool .nil), .nil⟩]
def qba_tbl (n : Nat) : FuncId → List Entry := fun f => []
def qba_loops (n : Nat) : Nat → Option LEntry := fun f => none
theorem qba_run (n : Nat) (t_0 : Int) (t_0_1 : Int) : funDS (real _) tab (qba_tbl n) (qba_loops n) qba_an Tryd.f46 0 qba_a qba_res (t_0, t_0_1) some = qba n t_0 t_0_1 := by kernel_rfl
def qba_E (n : Nat) : Entry := ⟨qba_a, qba_res, fun d => qba n d.1 d.2⟩
theorem qba_ok (n : Nat) : EOK Tryd.prog 46 (qba_E n) :=
 EOK.ofS zc zb ze (tbl := qba_tbl n) (loops := qba_loops n) (an := qba_an) (old := []) (n := n) (c := qba_c) (fn := Tryd.f46) TblOK.nil (by kernel_rfl) (by kernel_rfl) (by kernel_rfl) (by kernel_rfl) (fun d => by kernel_rfl) LT.nil (fun a => qba_run n a.1 a.2)
def qd_an : Ann := {}
def qd_c : Code := (match Tryd.f43.body with | some c => c | none => .skip)
def qd_a : StSh := ⟨.normal, [0, 1], (.cons (.sl true true yD) (.cons (.fn 47 .nil .nil) .nil)), .nil⟩
def qp_an : Ann := { live := [(0, [0, 1, 7, 8])] }
def qp_c : Code := (match Tryd.f73.body with | some c => c | none => .skip)
def qp_l0 : Code := (match assoc 0 (loopsIn qp_c 0) with | some c => c | none => .skip)
def qp_a : StSh := ⟨.normal, [0, 1], (.cons (.sl true true yD) (.cons (.fn 47 .nil .nil) .nil)), .nil⟩
def qak_an : Ann := {}
def qak_c : Code := (match Tryd.f47.body with | some c => c | none => .skip)
def qak_a : StSh := ⟨.normal, [0], (.cons (.agg (.cons (.int .i64) (.cons (.int .i64) .nil))) .nil), .nil⟩
def qak_res : List StSh := [⟨.ret, [0], (.cons .bool .nil), .nil⟩]
def qak_tbl (n : Nat) : FuncId → List Entry := fun f => bif Nat.beq f 46 then [qba_E n] else []
def qak_loops (n : Nat) : Nat → Option LEntry := fun f => none
theorem qak_run (n : Nat) (t_0 : Int) (t_0_1 : Int) : funDS (real _) tab (qak_tbl n) (qak_loops n) qak_an Tryd.f47 0 qak_a qak_res (t_0, t_0_1) some = qak n t_0 t_0_1 := by kernel_rfl
def qak_E (n : Nat) : Entry := ⟨qak_a, qak_res, fun d => qak n d.1 d.2⟩
theorem qak_ok (n : Nat) : EOK Tryd.prog 47 (qak_E n) :=
 EOK.ofS zc zb ze (tbl := qak_tbl n) (loops := qak_loops n) (an := qak_an) (old := []) (n := n) (c := qak_c) (fn := Tryd.f47) (TblOK.cons (AllE.cons (qba_ok n) AllE.nil) TblOK.nil) (by kernel_rfl) (by kernel_rfl) (by kernel_rfl) (by kernel_rfl) (fun d => by kernel_rfl) LT.nil (fun a => qak_run n a.1 a.2)
def qp_h0 : List StSh := [⟨.normal, [0, 1, 7, 8], (.cons (.sl true true yD) (.cons (.fn 47 .nil .nil) (.cons (.int .i64) (.cons (.int .i64) .nil)))), .nil⟩]
def qp_o0 : List StSh := [⟨.ret, [4], (.cons (.int .i64) .nil), .nil⟩, ⟨.exit 0, [], .nil, .nil⟩]
def qp_L0 (n : Nat) : LEntry := ⟨qp_h0, qp_o0, qp_W0 n⟩
def qp_res : List StSh := [⟨.ret, [0], (.cons (.int .i64) .nil), .nil⟩]
def qp_tbl (n : Nat) : FuncId → List Entry := fun f => bif Nat.beq f 47 then [qak_E n] else []
def qp_loops (n : Nat) : Nat → Option LEntry := fun f => bif Nat.beq f 0 then some (qp_L0 n) else none
theorem qp_r0 (n : Nat) (s_0 : DA) (t7 : Int) (t8 : Int) : roundK (real _) tab (qp_tbl n) (qp_loops n) qp_an [] qp_l0 0 [0, 1, 7, 8] qp_h0 qp_o0 (s_0, (t7, t8)) some = qp_B0 n s_0 t7 t8 := by kernel_rfl
theorem qp_f0 (n : Nat) : LoopFact tab (qp_tbl n) (qp_loops n) qp_an [] n 0 qp_l0 (qp_L0 n) := ⟨[0, 1, 7, 8], (fun s => qp_B0 n s.1 s.2.1 s.2.2), by kernel_rfl, by kernel_rfl, fun s => rfl, fun s => qp_r0 n s.1 s.2.1 s.2.2⟩
theorem qp_run (n : Nat) (s_0 : DA) : funDS (real _) tab (qp_tbl n) (qp_loops n) qp_an Tryd.f73 0 qp_a qp_res s_0 some = qp n s_0 := by kernel_rfl
def qp_E (n : Nat) : Entry := ⟨qp_a, qp_res, fun d => qp n d⟩
theorem qp_ok (n : Nat) : EOK Tryd.prog 73 (qp_E n) :=
 EOK.ofS zc zb ze (tbl := qp_tbl n) (loops := qp_loops n) (an := qp_an) (old := []) (n := n) (c := qp_c) (fn := Tryd.f73) (TblOK.cons (AllE.cons (qak_ok n) AllE.nil) TblOK.nil) (by kernel_rfl) (by kernel_rfl) (by kernel_rfl) (by kernel_rfl) (fun d => by kernel_rfl) (LT.cons (by kernel_rfl) (qp_f0 n) LT.nil) (fun a => qp_run n a)
def qd_res : List StSh := [⟨.ret, [0], (.cons .bool .nil), .nil⟩]
def qd_tbl (n : Nat) : FuncId → List Entry := fun f => bif Nat.beq f 73 then [qp_E n] else []
def qd_loops (n : Nat) : Nat → Option LEntry := fun f => none
theorem qd_run (n : Nat) (s_0 : DA) : funDS (real _) tab (qd_tbl n) (qd_loops n) qd_an Tryd.f43 0 qd_a qd_res s_0 some = qd n s_0 := by kernel_rfl
def qd_E (n : Nat) : Entry := ⟨qd_a, qd_res, fun d => qd n d⟩
theorem qd_ok (n : Nat) : EOK Tryd.prog 43 (qd_E n) :=
 EOK.ofS zc zb ze (tbl := qd_tbl n) (loops := qd_loops n) (an := qd_an) (old := []) (n := n) (c := qd_c) (fn := Tryd.f43) (TblOK.cons (AllE.cons (qp_ok n) AllE.nil) TblOK.nil) (by kernel_rfl) (by kernel_rfl) (by kernel_rfl) (by kernel_rfl) (fun d => by kernel_rfl) LT.nil (fun a => qd_run n a)
def qao_res : List StSh := [⟨.ret, [0], (.cons .bool .nil), .nil⟩]
def qao_tbl (n : Nat) : FuncId → List Entry := fun f => bif Nat.beq f 46 then [qba_E n] else bif Nat.beq f 43 then [qd_E n] else []
def qao_loops (n : Nat) : Nat → Option LEntry := fun f => none
theorem qao_run (n : Nat) (i_0 : DA) (i_0_1 : Int) (i_0_2 : Int) : funDS (real _) tab (qao_tbl n) (qao_loops n) qao_an Tryd.f45 0 qao_a qao_res (i_0, (i_0_1, i_0_2)) some = qao n i_0 i_0_1 i_0_2 := by kernel_rfl
def qao_E (n : Nat) : Entry := ⟨qao_a, qao_res, fun d => qao n d.1 d.2.1 d.2.2⟩
theorem qao_ok (n : Nat) : EOK Tryd.prog 45 (qao_E n) :=
 EOK.ofS zc zb ze (tbl := qao_tbl n) (loops := qao_loops n) (an := qao_an) (old := []) (n := n) (c := qao_c) (fn := Tryd.f45) (TblOK.cons (AllE.cons (qba_ok n) AllE.nil) (TblOK.cons (AllE.cons (qd_ok n) AllE.nil) TblOK.nil)) (by kernel_rfl) (by kernel_rfl) (by kernel_rfl) (by kernel_rfl) (fun d => by kernel_rfl) LT.nil (fun a => qao_run n a.1 a.2.1 a.2.2)
def ql_h0 : List StSh := [⟨.normal, [0, 1, 7, 8], (.cons (.sl true true yC) (.cons (.fn 45 .nil .nil) (.cons (.int .i64) (.cons (.int .i64) .nil)))), .nil⟩]
def ql_o0 : List StSh := [⟨.ret, [4], (.cons (.int .i64) .nil), .nil⟩, ⟨.exit 0, [], .nil, .nil⟩]
def ql_L0 (n : Nat) : LEntry := ⟨ql_h0, ql_o0, ql_W0 n⟩
def ql_res : List StSh := [⟨.ret, [0], (.cons (.int .i64) .nil), .nil⟩]
def ql_tbl (n : Nat) : FuncId → List Entry := fun f => bif Nat.beq f 45 then [qao_E n] else []
def ql_loops (n : Nat) : Nat → Option LEntry := fun f => bif Nat.beq f 0 then some (ql_L0 n) else none
theorem ql_r0 (n : Nat) (s_0 : DJ) (t7 : Int) (t8 : Int) : roundK (real _) tab (ql_tbl n) (ql_loops n) ql_an [] ql_l0 0 [0, 1, 7, 8] ql_h0 ql_o0 (s_0, (t7, t8)) some = ql_B0 n s_0 t7 t8 := by kernel_rfl
theorem ql_f0 (n : Nat) : LoopFact tab (ql_tbl n) (ql_loops n) ql_an [] n 0 ql_l0 (ql_L0 n) := ⟨[0, 1, 7, 8], (fun s => ql_B0 n s.1 s.2.1 s.2.2), by kernel_rfl, by kernel_rfl, fun s => rfl, fun s => ql_r0 n s.1 s.2.1 s.2.2⟩
theorem ql_run (n : Nat) (s_0 : DJ) : funDS (real _) tab (ql_tbl n) (ql_loops n) ql_an Tryd.f74 0 ql_a ql_res s_0 some = ql n s_0 := by kernel_rfl
def ql_E (n : Nat) : Entry := ⟨ql_a, ql_res, fun d => ql n d⟩
theorem ql_ok (n : Nat) : EOK Tryd.prog 74 (ql_E n) :=
 EOK.ofS zc zb ze (tbl := ql_tbl n) (loops := ql_loops n) (an := ql_an) (old := []) (n := n) (c := ql_c) (fn := Tryd.f74) (TblOK.cons (AllE.cons (qao_ok n) AllE.nil) TblOK.nil) (by kernel_rfl) (by kernel_rfl) (by kernel_rfl) (by kernel_rfl) (fun d => by kernel_rfl) (LT.cons (by kernel_rfl) (ql_f0 n) LT.nil) (fun a => ql_run n a)
def qa_res : List StSh := [⟨.ret, [0], (.cons .bool .nil), .nil⟩]
def qa_tbl (n : Nat) : FuncId → List Entry := fun f => bif Nat.beq f 74 then [ql_E n] else []
def qa_loops (n : Nat) : Nat → Option LEntry := fun f => none
theorem qa_run (n : Nat) (s_0 : DJ) : funDS (real _) tab (qa_tbl n) (qa_loops n) qa_an Tryd.f48 0 qa_a qa_res s_0 some = qa n s_0 := by kernel_rfl
def qa_E (n : Nat) : Entry := ⟨qa_a, qa_res, fun d => qa n d⟩
theorem qa_ok (n : Nat) : EOK Tryd.prog 48 (qa_E n) :=
 EOK.ofS zc zb ze (tbl := qa_tbl n) (loops := qa_loops n) (an := qa_an) (old := []) (n := n) (c := qa_c) (fn := Tryd.f48) (TblOK.cons (AllE.cons (ql_ok n) AllE.nil) TblOK.nil) (by kernel_rfl) (by kernel_rfl) (by kernel_rfl) (by kernel_rfl) (fun d => by kernel_rfl) LT.nil (fun a => qa_run n a)
def qau_res : List StSh := [⟨.ret, [0], (.cons (.int .i64) .nil), .nil⟩]
def qau_tbl (n : Nat) : FuncId → List Entry := fun f => bif Nat.beq f 39 then [qae_E n] else bif Nat.beq f 42 then [qb_E n] else bif Nat.beq f 43 then [qh_E n] else bif Nat.beq f 48 then [qa_E n] else []
def qau_loops (n : Nat) : Nat → Option LEntry := fun f => bif Nat.beq f 0 then some (qau_L0 n) else none
theorem qau_r0 (n : Nat) (t18 : DI) (t19 : Int) (t20 : Int) (m0 : DH) (m0_1 : DI) (m0_2 : DJ) (m0_3 : DC) (m0_4 : DD) : roundK (real _) tab (qau_tbl n) (qau_loops n) qau_an [] qau_l0 0 [1, 18, 19, 20] qau_h0 qau_o0 ((t18, (t19, t20)), (m0, (m0_1, (m0_2, (m0_3, m0_4))))) some = qau_B0 n t18 t19 t20 m0 m0_1 m0_2 m0_3 m0_4 := by kernel_rfl
theorem qau_f0 (n : Nat) : LoopFact tab (qau_tbl n) (qau_loops n) qau_an [] n 0 qau_l0 (qau_L0 n) := ⟨[1, 18, 19, 20], (fun s => qau_B0 n s.1.1 s.1.2.1 s.1.2.2 s.2.1 s.2.2.1 s.2.2.2.1 s.2.2.2.2.1 s.2.2.2.2.2), by kernel_rfl, by kernel_rfl, fun s => rfl, fun s => qau_r0 n s.1.1 s.1.2.1 s.1.2.2 s.2.1 s.2.2.1 s.2.2.2.1 s.2.2.2.2.1 s.2.2.2.2.2⟩
theorem qau_run (n : Nat) (m_0 : DH) (m_0_1 : DI) (m_0_2 : DJ) (m_0_3 : DC) (m_0_4 : DD) : funDS (real _) tab (qau_tbl n) (qau_loops n) qau_an Tryd.f28 0 qau_a qau_res (m_0, (m_0_1, (m_0_2, (m_0_3, m_0_4)))) some = qau n m_0 m_0_1 m_0_2 m_0_3 m_0_4 := by kernel_rfl
def qau_E (n : Nat) : Entry := ⟨qau_a, qau_res, fun d => qau n d.1 d.2.1 d.2.2.1 d.2.2.2.1 d.2.2.2.2⟩
theorem qau_ok (n : Nat) : EOK Tryd.prog 28 (qau_E n) :=
 EOK.ofS zc zb ze (tbl := qau_tbl n) (loops := qau_loops n) (an := qau_an) (old := []) (n := n) (c := qau_c) (fn := Tryd.f28) (TblOK.cons (AllE.cons (qae_ok n) AllE.nil) (TblOK.cons (AllE.cons (qb_ok n) AllE.nil) (TblOK.cons (AllE.cons (qh_ok n) AllE.nil) (TblOK.cons (AllE.cons (qa_ok n) AllE.nil) TblOK.nil)))) (by kernel_rfl) (by kernel_rfl) (by kernel_rfl) (by kernel_rfl) (fun d => by kernel_rfl) (LT.cons (by kernel_rfl) (qau_f0 n) LT.nil) (fun a => qau_run n a.1 a.2.1 a.2.2.1 a.2.2.2.1 a.2.2.2.2)
def qbf_an : Ann := { live := [(0, [2, 3, 11, 12, 14, 55, 56, 57])] }
def qbf_c : Code := (match Tryd.f29.body with | some c => c | none => .skip)
def qbf_l0 : Code := (match assoc 0 (loopsIn qbf_c 0) with | some c => c | none => .skip)
def qbf_a : StSh := ⟨.normal, [0, 1, 2, 3], (.cons (.agg (.cons (.sl true false yA) (.cons (.sl true true yB) (.cons (.sl true true yC) (.cons (.sl true false (.int .u64)) (.cons (.sl true false .str) .nil)))))) (.cons (.int .i64) (.cons (.int .i64) (.cons (.sl true true yD) .nil)))), .nil⟩
def qbr_an : Ann := {}
def qbr_c : Code := (match Tryd.f49.body with | some c => c | none => .skip)
def qbr_a : StSh := ⟨.normal, [0, 1, 2, 3], (.cons (.agg (.cons (.sl true false yA) (.cons (.sl true true yB) (.cons (.sl true true yC) (.cons (.sl true false (.int .u64)) (.cons (.sl true false .str) .nil)))))) (.cons (.agg (.cons (.sl true true yD) (.cons (.int .i64) (.cons (.int .i64) (.cons (.sl true true yD) (.cons (.sl true true yE) .nil)))))) (.cons (.agg (.cons (.int .i64) (.cons (.int .i64) (.cons (.int .i64) .nil)))) (.cons (.sl true true yD) .nil)))), .nil⟩
def qbd_an : Ann := {}
def qbd_c : Code := (match Tryd.f75.body with | some c => c | none => .skip)
def qbd_a : StSh := ⟨.normal, [0, 1], (.cons (.int .i64) (.cons (.sl true true yD) .nil)), .nil⟩
def qav_an : Ann := {}
def qav_c : Code := (match Tryd.f97.body with | some c => c | none => .skip)
def qav_a : StSh := ⟨.normal, [0], (.cons (.sl true true yD) .nil), .nil⟩
def qav_res : List StSh := [⟨.ret, [0], (.cons (.sl true true yD) .nil), .nil⟩]
def qav_tbl (n : Nat) : FuncId → List Entry := fun f => []
def qav_loops (n : Nat) : Nat → Option LEntry := fun f => none
theorem qav_run (n : Nat) (list_0 : DA) : funDS (real _) tab (qav_tbl n) (qav_loops n) qav_an Tryd.f97 0 qav_a qav_res list_0 some = qav n list_0 := by kernel_rfl
def qav_E (n : Nat) : Entry := ⟨qav_a, qav_res, fun d => qav n d⟩
theorem qav_ok (n : Nat) : EOK Tryd.prog 97 (qav_E n) :=
 EOK.ofS zc zb ze (tbl := qav_tbl n) (loops := qav_loops n) (an := qav_an) (old := []) (n := n) (c := qav_c) (fn := Tryd.f97) TblOK.nil (by kernel_rfl) (by kernel_rfl) (by kernel_rfl) (by kernel_rfl) (fun d => by kernel_rfl) LT.nil (fun a => qav_run n a)
def qbd_res : List StSh := [⟨.ret, [0], (.cons (.tup (.cons (.agg (.cons (.sl true true yD) (.cons (.sl true true yD) .nil))) (.cons .bool .nil))) .nil), .nil⟩]
def qbd_tbl (n : Nat) : FuncId → List Entry := fun f => bif Nat.beq f 97 then [qav_E n] else []
def qbd_loops (n : Nat) : Nat → Option LEntry := fun f => none
theorem qbd_run (n : Nat) (t0 : Int) (t1 : DA) : funDS (real _) tab (qbd_tbl n) (qbd_loops n) qbd_an Tryd.f75 0 qbd_a qbd_res (t0, t1) some = qbd n t0 t1 := by kernel_rfl
def qbd_E (n : Nat) : Entry := ⟨qbd_a, qbd_res, fun d => qbd n d.1 d.2⟩
theorem qbd_ok (n : Nat) : EOK Tryd.prog 75 (qbd_E n) :=
 EOK.ofS zc zb ze (tbl := qbd_tbl n) (loops := qbd_loops n) (an := qbd_an) (old := []) (n := n) (c := qbd_c) (fn := Tryd.f75) (TblOK.cons (AllE.cons (qav_ok n) AllE.nil) TblOK.nil) (by kernel_rfl) (by kernel_rfl) (by kernel_rfl) (by kernel_rfl) (fun d => by kernel_rfl) LT.nil (fun a => qbd_run n a.1 a.2)
def qaw_an : Ann := {}
def qaw_c : Code := (match Tryd.f76.body with | some c => c | none => .skip)
def qaw_a : StSh := ⟨.normal, [0], (.cons (.int .i64) .nil), .nil⟩
def qaw_res : List StSh := [⟨.ret, [0], (.cons (.tup (.cons (.agg (.cons (.sl true true yD) (.cons (.sl true true yD) .nil))) (.cons .bool .nil))) .nil), .nil⟩]
def qaw_tbl (n : Nat) : FuncId → List Entry := fun f => bif Nat.beq f 97 then [qav_E n] else []
def qaw_loops (n : Nat) : Nat → Option LEntry := fun f => none
theorem qaw_run (n : Nat) (t0 : Int) : funDS (real _) tab (qaw_tbl n) (qaw_loops n) qaw_an Tryd.f76 0 qaw_a qaw_res t0 some = qaw n t0 := by kernel_rfl
def qaw_E (n : Nat) : Entry := ⟨qaw_a, qaw_res, fun d => qaw n d⟩
theorem qaw_ok (n : Nat) : EOK Tryd.prog 76 (qaw_E n) :=
 EOK.ofS zc zb ze (tbl := qaw_tbl n) (loops := qaw_loops n) (an := qaw_an) (old := []) (n := n) (c := qaw_c) (fn := Tryd.f76) (TblOK.cons (AllE.cons (qav_ok n) AllE.nil) TblOK.nil) (by kernel_rfl) (by kernel_rfl) (by kernel_rfl) (by kernel_rfl) (fun d => by kernel_rfl) LT.nil (fun a => qaw_run n a)
def qat_an : Ann := {}
def qat_c : Code := (match Tryd.f77.body with | some c => c | none => .skip)
def qat_a : StSh := ⟨.normal, [0, 1, 2], (.cons (.agg (.cons (.sl true false yA) (.cons (.sl true true yB) (.cons (.sl true true yC) (.cons (.sl true false (.int .u64)) (.cons (.sl true false .str) .nil)))))) (.cons (.agg (.cons (.sl true true yD) (.cons (.int .i64) (.cons (.int .i64) (.cons (.sl true true yD) (.cons (.sl true true yE) .nil)))))) (.cons (.agg (.cons (.int .i64) (.cons (.int .i64) (.cons (.int .i64) .nil)))) .nil))), .nil⟩
def qay_an : Ann := {}
def qay_c : Code := (match Tryd.f18.body with | some c => c | none => .skip)
def qay_a : StSh := ⟨.normal, [0, 1], (.cons (.agg (.cons (.sl true true yD) (.cons (.int .i64) (.cons (.int .i64) (.cons (.sl true true yD) (.cons (.sl true true yE) .nil)))))) (.cons (.int .i64) .nil)), .nil⟩
def qay_res : List StSh := [⟨.ret, [0], (.cons (.agg (.cons (.int .i64) (.cons (.int .i64) .nil))) .nil), .nil⟩]
def qay_tbl (n : Nat) : FuncId → List Entry := fun f => []
def qay_loops (n : Nat) : Nat → Option LEntry := fun f => none
theorem qay_run (n : Nat) (f_0 : DA) (f_0_1 : Int) (f_0_2 : Int) (f_0_3 : DA) (f_0_4 : DB) (n_1 : Int) : funDS (real _) tab (qay_tbl n) (qay_loops n) qay_an Tryd.f18 0 qay_a qay_res ((f_0, (f_0_1, (f_0_2, (f_0_3, f_0_4)))), n_1) some = qay n f_0 f_0_1 f_0_2 f_0_3 f_0_4 n_1 := by kernel_rfl
def qay_E (n : Nat) : Entry := ⟨qay_a, qay_res, fun d => qay n d.1.1 d.1.2.1 d.1.2.2.1 d.1.2.2.2.1 d.1.2.2.2.2 d.2⟩
theorem qay_ok (n : Nat) : EOK Tryd.prog 18 (qay_E n) :=
 EOK.ofS zc zb ze (tbl := qay_tbl n) (loops := qay_loops n) (an := qay_an) (old := []) (n := n) (c := qay_c) (fn := Tryd.f18) TblOK.nil (by kernel_rfl) (by kernel_rfl) (by kernel_rfl) (by kernel_rfl) (fun d => by kernel_rfl) LT.nil (fun a => qay_run n a.1.1 a.1.2.1 a.1.2.2.1 a.1.2.2.2.1 a.1.2.2.2.2 a.2)
def qat_res : List StSh := [⟨.ret, [0], (.cons (.agg (.cons (.sl true true yD) (.cons (.sl true true yD) .nil))) .nil), .nil⟩]
def qat_tbl (n : Nat) : FuncId → List Entry := fun f => bif Nat.beq f 97 then [qav_E n] else bif Nat.beq f 18 then [qay_E n] else []
def qat_loops (n : Nat) : Nat → Option LEntry := fun f => none
theorem qat_run (n : Nat) (t0 : DH) (t0_1 : DI) (t0_2 : DJ) (t0_3 : DC) (t0_4 : DD) (t1 : DA) (t1_1 : Int) (t1_2 : Int) (t1_3 : DA) (t1_4 : DB) (t2 : Int) (t2_1 : Int) (t2_2 : Int) : funDS (real _) tab (qat_tbl n) (qat_loops n) qat_an Tryd.f77 0 qat_a qat_res ((t0, (t0_1, (t0_2, (t0_3, t0_4)))), ((t1, (t1_1, (t1_2, (t1_3, t1_4)))), (t2, (t2_1, t2_2)))) some = qat n t0 t0_1 t0_2 t0_3 t0_4 t1 t1_1 t1_2 t1_3 t1_4 t2 t2_1 t2_2 := by kernel_rfl
def qat_E (n : Nat) : Entry := ⟨qat_a, qat_res, fun d => qat n d.1.1 d.1.2.1 d.1.2.2.1 d.1.2.2.2.1 d.1.2.2.2.2 d.2.1.1 d.2.1.2.1 d.2.1.2.2.1 d.2.1.2.2.2.1 d.2.1.2.2.2.2 d.2.2.1 d.2.2.2.1 d.2.2.2.2⟩
theorem qat_ok (n : Nat) : EOK Tryd.prog 77 (qat_E n) :=
 EOK.ofS zc zb ze (tbl := qat_tbl n) (loops := qat_loops n) (an := qat_an) (old := []) (n := n) (c := qat_c) (fn := Tryd.f77) (TblOK.cons (AllE.cons (qav_ok n) AllE.nil) (TblOK.cons (AllE.cons (qay_ok n) AllE.nil) TblOK.nil)) (by kernel_rfl) (by kernel_rfl) (by kernel_rfl) (by kernel_rfl) (fun d => by kernel_rfl) LT.nil (fun a => qat_run n a.1.1 a.1.2.1 a.1.2.2.1 a.1.2.2.2.1 a.1.2.2.2.2 a.2.1.1 a.2.1.2.1 a.2.1.2.2.1 a.2.1.2.2.2.1 a.2.1.2.2.2.2 a.2.2.1 a.2.2.2.1 a.2.2.2.2)
def qbr_res : List StSh := [⟨.ret, [0], (.cons (.tup (.cons (.agg (.cons (.sl true true yD) (.cons (.sl true true yD) .nil))) (.cons .bool .nil))) .nil), .nil⟩]
def qbr_tbl (n : Nat) : FuncId → List Entry := fun f => bif Nat.beq f 75 then [qbd_E n] else bif Nat.beq f 76 then [qaw_E n] else bif Nat.beq f 77 then [qat_E n] else []
def qbr_loops (n : Nat) : Nat → Option LEntry := fun f => none
theorem qbr_run (n : Nat) (m_0 : DH) (m_0_1 : DI) (m_0_2 : DJ) (m_0_3 : DC) (m_0_4 : DD) (f_1 : DA) (f_1_1 : Int) (f_1_2 : Int) (f_1_3 : DA) (f_1_4 : DB) (i_2 : Int) (i_2_1 : Int) (i_2_2 : Int) (stack_3 : DA) : funDS (real _) tab (qbr_tbl n) (qbr_loops n) qbr_an Tryd.f49 0 qbr_a qbr_res ((m_0, (m_0_1, (m_0_2, (m_0_3, m_0_4)))), ((f_1, (f_1_1, (f_1_2, (f_1_3, f_1_4)))), ((i_2, (i_2_1, i_2_2)), stack_3))) some = qbr n m_0 m_0_1 m_0_2 m_0_3 m_0_4 f_1 f_1_1 f_1_2 f_1_3 f_1_4 i_2 i_2_1 i_2_2 stack_3 := by kernel_rfl
def qbr_E (n : Nat) : Entry := ⟨qbr_a, qbr_res, fun d => qbr n d.1.1 d.1.2.1 d.1.2.2.1 d.1.2.2.2.1 d.1.2.2.2.2 d.2.1.1 d.2.1.2.1 d.2.1.2.2.1 d.2.1.2.2.2.1 d.2.1.2.2.2.2 d.2.2.1.1 d.2.2.1.2.1 d.2.2.1.2.2 d.2.2.2⟩
theorem qbr_ok (n : Nat) : EOK Tryd.prog 49 (qbr_E n) :=
 EOK.ofS zc zb ze (tbl := qbr_tbl n) (loops := qbr_loops n) (an := qbr_an) (old := []) (n := n) (c := qbr_c) (fn := Tryd.f49) (TblOK.cons (AllE.cons (qbd_ok n) AllE.nil) (TblOK.cons (AllE.cons (qaw_ok n) AllE.nil) (TblOK.cons (AllE.cons (qat_ok n) AllE.nil) TblOK.nil))) (by kernel_rfl) (by kernel_rfl) (by kernel_rfl) (by kernel_rfl) (fun d => by kernel_rfl) LT.nil (fun a => qbr_run n a.1.1 a.1.2.1 a.1.2.2.1 a.1.2.2.2.1 a.1.2.2.2.2 a.2.1.1 a.2.1.2.1 a.2.1.2.2.1 a.2.1.2.2.2.1 a.2.1.2.2.2.2 a.2.2.1.1 a.2.2.1.2.1 a.2.2.1.2.2 a.2.2.2)
def qbo_an : Ann := {}
def qbo_c : Code := (match Tryd.f37.body with | some c => c | none => .skip)
def qbo_a : StSh := ⟨.normal, [0, 1], (.cons (.agg (.cons (.int .i64) (.cons (.int .i64) .nil))) (.cons (.agg (.cons (.int .i64) (.cons (.int .i64) .nil))) .nil)), .nil⟩
def qbm_an : Ann := {}
def qbm_c : Code := (match Tryd.f63.body with | some c => c | none => .skip)
def qbm_a : StSh := ⟨.normal, [0], (.cons (.agg (.cons (.int .i64) (.cons (.int .i64) .nil))) .nil), .nil⟩
def qbm_res : List StSh := [⟨.ret, [0], (.cons .bool .nil), .nil⟩]
def qbm_tbl (n : Nat) : FuncId → List Entry := fun f => []
def qbm_loops (n : Nat) : Nat → Option LEntry := fun f => none
theorem qbm_run (n : Nat) (t_0 : Int) (t_0_1 : Int) : funDS (real _) tab (qbm_tbl n) (qbm_loops n) qbm_an Tryd.f63 0 qbm_a qbm_res (t_0, t_0_1) some = qbm n t_0 t_0_1 := by kernel_rfl
def qbm_E (n : Nat) : Entry := ⟨qbm_a, qbm_res, fun d => qbm n d.1 d.2⟩
theorem qbm_ok (n : Nat) : EOK Tryd.prog 63 (qbm_E n) :=
 EOK.ofS zc zb ze (tbl := qbm_tbl n) (loops := qbm_loops n) (an := qbm_an) (old := []) (n := n) (c := qbm_c) (fn := Tryd.f63) TblOK.nil (by kernel_rfl) (by kernel_rfl) (by kernel_rfl) (by kernel_rfl) (fun d => by kernel_rfl) LT.nil (fun a => qbm_run n a.1 a.2)
def qbo_res : List StSh := [⟨.ret, [0], (.cons .bool .nil), .nil⟩]
def qbo_tbl (n : Nat) : FuncId → List Entry := fun f => bif Nat.beq f 63 then [qbm_E n] else []
def qbo_loops (n : Nat) : Nat → Option LEntry := fun f => none
theorem qbo_run (n : Nat) (a_0 : Int) (a_0_1 : Int) (b_1 : Int) (b_1_1 : Int) : funDS (real _) tab (qbo_tbl n) (qbo_loops n) qbo_an Tryd.f37 0 qbo_a qbo_res ((a_0, a_0_1), (b_1, b_1_1)) some = qbo n a_0 a_0_1 b_1 b_1_1 := by kernel_rfl
def qbo_E (n : Nat) : Entry := ⟨qbo_a, qbo_res, fun d => qbo n d.1.1 d.1.2 d.2.1 d.2.2⟩
theorem qbo_ok (n : Nat) : EOK Tryd.prog 37 (qbo_E n) :=
 EOK.ofS zc zb ze (tbl := qbo_tbl n) (loops := qbo_loops n) (an := qbo_an) (old := []) (n := n) (c := qbo_c) (fn := Tryd.f37) (TblOK.cons (AllE.cons (qbm_ok n) AllE.nil) TblOK.nil) (by kernel_rfl) (by kernel_rfl) (by kernel_rfl) (by kernel_rfl) (fun d => by kernel_rfl) LT.nil (fun a => qbo_run n a.1.1 a.1.2 a.2.1 a.2.2)
def qbf_h0 : List StSh := [⟨.normal, [2, 3, 11, 12, 14, 55, 56, 57], (.cons (.int .i64) (.cons (.sl true true yD) (.cons (.ptr 0 0 0 0) (.cons (.ptr 1 0 0 0) (.cons (.int .i64) (.cons (.sl true true yD) (.cons (.int .i64) (.cons (.int .i64) .nil)))))))), (.cons (.bcells 0 false 1 (.cons (.sl true true yD) (.cons (.int .i64) (.cons (.int .i64) (.cons (.sl true true yD) (.cons (.sl true true yE) .nil)))))) (.cons (.bcells 0 false 1 (.cons (.sl true true yD) (.cons (.sl true true yD) .nil))) .nil))⟩]
def qbf_o0 : List StSh := [⟨.ret, [8, 9, 10], (.cons (.sl false true yD) (.cons (.sl false false (.int .i64)) (.cons (.int .i64) .nil))), (.cons (.bcells 0 false 1 (.cons (.sl true true yD) (.cons (.int .i64) (.cons (.int .i64) (.cons (.sl true true yD) (.cons (.sl true true yE) .nil)))))) (.cons (.bcells 0 false 1 (.cons (.sl true true yD) (.cons (.sl true true yD) .nil))) (.cons (.bcells 0 false 1 (.cons (.int .i64) (.cons (.int .i64) .nil))) .nil)))⟩, ⟨.exit 0, [2, 3, 11, 12, 14], (.cons (.int .i64) (.cons (.sl true true yD) (.cons (.ptr 0 0 0 0) (.cons (.ptr 1 0 0 0) (.cons (.int .i64) .nil))))), (.cons (.bcells 0 false 1 (.cons (.sl true true yD) (.cons (.int .i64) (.cons (.int .i64) (.cons (.sl true true yD) (.cons (.sl true true yE) .nil)))))) (.cons (.bcells 0 false 1 (.cons (.sl true true yD) (.cons (.sl true true yD) .nil))) .nil))⟩]
def qbf_L0 (n : Nat) : LEntry := ⟨qbf_h0, qbf_o0, qbf_W0 n⟩
def qbg_an : Ann := {}
def qbg_c : Code := (match Tryd.f50.body with | some c => c | none => .skip)
def qbg_a : StSh := ⟨.normal, [0, 1], (.cons (.agg (.cons (.int .i64) (.cons (.int .i64) (.cons (.int .i64) .nil)))) (.cons (.int .i64) .nil)), .nil⟩
def qbg_res : List StSh := [⟨.ret, [0], (.cons (.sl false false (.int .i64)) .nil), .nil⟩]
def qbg_tbl (n : Nat) : FuncId → List Entry := fun f => []
def qbg_loops (n : Nat) : Nat → Option LEntry := fun f => none
theorem qbg_run (n : Nat) (i_0 : Int) (i_0_1 : Int) (i_0_2 : Int) (pc_1 : Int) : funDS (real _) tab (qbg_tbl n) (qbg_loops n) qbg_an Tryd.f50 0 qbg_a qbg_res ((i_0, (i_0_1, i_0_2)), pc_1) some = qbg n i_0 i_0_1 i_0_2 pc_1 := by kernel_rfl
def qbg_E (n : Nat) : Entry := ⟨qbg_a, qbg_res, fun d => qbg n d.1.1 d.1.2.1 d.1.2.2 d.2⟩
theorem qbg_ok (n : Nat) : EOK Tryd.prog 50 (qbg_E n) :=
 EOK.ofS zc zb ze (tbl := qbg_tbl n) (loops := qbg_loops n) (an := qbg_an) (old := []) (n := n) (c := qbg_c) (fn := Tryd.f50) TblOK.nil (by kernel_rfl) (by kernel_rfl) (by kernel_rfl) (by kernel_rfl) (fun d => by kernel_rfl) LT.nil (fun a => qbg_run n a.1.1 a.1.2.1 a.1.2.2 a.2)
def qap_an : Ann := { live := [(0, [0, 3, 9, 10, 11]), (2, [6, 25, 26, 27])], boxed := [(2, 0), (4, 2), (5, 0), (5, 1), (5, 4), (6, 0), (8, 1), (9, 0), (9, 2), (10, 0), (12, 2), (13, 0), (13, 1), (13, 2), (13, 3), (14, 1), (15, 0), (15, 1)], raw := [(9, 1)] }
def qap_c : Code := (match Tryd.f52.body with | some c => c | none => .skip)
def qap_l0 : Code := (match assoc 0 (loopsIn qap_c 0) with | some c => c | none => .skip)
def qap_l2 : Code := (match assoc 2 (loopsIn qap_c 0) with | some c => c | none => .skip)
def qap_a : StSh := ⟨.normal, [0], (.cons (.sl true false yA) .nil), .nil⟩
def qap_h0 : List StSh := [⟨.normal, [0, 3, 9, 10, 11], (.cons (.sl true false yA) (.cons (.int .i64) (.cons (.sl true false yA) (.cons (.int .i64) (.cons (.int .i64) .nil))))), .nil⟩]
def qap_o0 : List StSh := [⟨.exit 0, [0, 3], (.cons (.sl true false yA) (.cons (.int .i64) .nil)), .nil⟩]
def qap_L0 (n : Nat) : LEntry := ⟨qap_h0, qap_o0, qap_W0 n⟩
def qbh_an : Ann := { boxed := [(0, 0), (1, 0), (3, 0), (3, 1), (3, 3), (3, 7), (4, 0), (5, 0), (5, 1), (5, 4), (5, 5), (5, 6), (5, 9), (6, 0), (6, 1)] }
def qbh_c : Code := (match Tryd.f78.body with | some c => c | none => .skip)
def qbh_a : StSh := ⟨.normal, [0, 1], (.cons .nilS (.cons (.int .i64) .nil)), .nil⟩
def qbh_res : List StSh := [⟨.ret, [0], (.cons (.ms 0 0) .nil), (.cons (.bts 0 false false true yD) .nil)⟩, ⟨.ret, [0], (.cons .nilS .nil), .nil⟩]
def qbh_tbl (n : Nat) : FuncId → List Entry := fun f => []
def qbh_loops (n : Nat) : Nat → Option LEntry := fun f => none
theorem qbh_run (n : Nat) (n_1 : Int) : funD (real _) tab (qbh_tbl n) (qbh_loops n) qbh_an Tryd.f78 qbh_a qbh_res n_1 some = qbh n n_1 := by kernel_rfl
def qbh_E (n : Nat) : Entry := ⟨qbh_a, qbh_res, fun d => qbh n d⟩
theorem qbh_ok (n : Nat) : EOK Tryd.prog 78 (qbh_E n) :=
 EOK.of zc zb ze (tbl := qbh_tbl n) (loops := qbh_loops n) (an := qbh_an) (old := []) (n := n) (c := qbh_c) (fn := Tryd.f78) TblOK.nil (by kernel_rfl) (by kernel_rfl) (by kernel_rfl) (by kernel_rfl) (fun d => by kernel_rfl) LT.nil (fun a => qbh_run n a)
def qap_h2x1 : List StSh := [⟨.normal, [6, 25, 26, 27], (.cons (.ms 0 0) (.cons (.sl true false yA) (.cons (.int .i64) (.cons (.int .i64) .nil)))), (.cons (.bts 0 false false true yD) .nil)⟩, ⟨.normal, [6, 25, 26, 27], (.cons (.msw 0 0) (.cons (.sl true false yA) (.cons (.int .i64) (.cons (.int .i64) .nil)))), (.cons (.bts 0 false false true yD) .nil)⟩, ⟨.normal, [6, 25, 26, 27], (.cons .nilS (.cons (.sl true false yA) (.cons (.int .i64) (.cons (.int .i64) .nil)))), .nil⟩]
def qap_o2x1 : List StSh := [⟨.exit 2, [6], (.cons (.ms 0 0) .nil), (.cons (.bts 0 false false true yD) .nil)⟩, ⟨.exit 2, [6], (.cons (.msw 0 0) .nil), (.cons (.bts 0 false false true yD) .nil)⟩, ⟨.exit 2, [6], (.cons .nilS .nil), .nil⟩]
def qap_L2x1 (n : Nat) : LEntry := ⟨qap_h2x1, qap_o2x1, qap_W2x1 n⟩
def qap_res : List StSh := [⟨.ret, [0], (.cons (.ms 0 0) .nil), (.cons (.bts 0 false false true yD) .nil)⟩, ⟨.ret, [0], (.cons (.sl false true yD) .nil), .nil⟩]
def qap_tbl (n : Nat) : FuncId → List Entry := fun f => bif Nat.beq f 78 then [qbh_E n] else []
def qap_loops (n : Nat) : Nat → Option LEntry := fun f => bif Nat.beq f 0 then some (qap_L0 n) else bif Nat.beq f 2 then some (qap_L2x1 n) else none
theorem qap_r0 (n : Nat) (slices_0 : DH) (size_3 : Int) (t9 : DH) (t10 : Int) (t11 : Int) : roundK (real _) tab (qap_tbl n) (qap_loops n) qap_an [] qap_l0 0 [0, 3, 9, 10, 11] qap_h0 qap_o0 (slices_0, (size_3, (t9, (t10, t11)))) some = qap_B0 n slices_0 size_3 t9 t10 t11 := by kernel_rfl
theorem qap_f0 (n : Nat) : LoopFact tab (qap_tbl n) (qap_loops n) qap_an [] n 0 qap_l0 (qap_L0 n) := ⟨[0, 3, 9, 10, 11], (fun s => qap_B0 n s.1 s.2.1 s.2.2.1 s.2.2.2.1 s.2.2.2.2), by kernel_rfl, by kernel_rfl, fun s => rfl, fun s => qap_r0 n s.1 s.2.1 s.2.2.1 s.2.2.2.1 s.2.2.2.2⟩
theorem qap_r2x1q0 (n : Nat) (newslice_6 : Nat × Nat) (t25 : DH) (t26 : Int) (t27 : Int) (m0 : DA) : roundK (real _) tab (qap_tbl n) (qap_loops n) qap_an [] qap_l2 2 [6, 25, 26, 27] qap_h2x1 qap_o2x1 (Sum.inl ((newslice_6, (t25, (t26, t27))), m0)) some = qap_B2x1q0 n newslice_6 t25 t26 t27 m0 := by kernel_rfl
theorem qap_r2x1q1 (n : Nat) (t25 : DH) (t26 : Int) (t27 : Int) (m0 : DA) : roundK (real _) tab (qap_tbl n) (qap_loops n) qap_an [] qap_l2 2 [6, 25, 26, 27] qap_h2x1 qap_o2x1 (Sum.inr (Sum.inl ((t25, (t26, t27)), m0))) some = qap_B2x1q1 n t25 t26 t27 m0 := by kernel_rfl
theorem qap_r2x1q2 (n : Nat) (t25 : DH) (t26 : Int) (t27 : Int) : roundK (real _) tab (qap_tbl n) (qap_loops n) qap_an [] qap_l2 2 [6, 25, 26, 27] qap_h2x1 qap_o2x1 (Sum.inr (Sum.inr (t25, (t26, t27)))) some = qap_B2x1q2 n t25 t26 t27 := by kernel_rfl
theorem qap_f2x1 (n : Nat) : LoopFact tab (qap_tbl n) (qap_loops n) qap_an [] n 2 qap_l2 (qap_L2x1 n) := ⟨[6, 25, 26, 27], (qap_M2x1 n), by kernel_rfl, by kernel_rfl, fun s => rfl, fun s => match s with | (Sum.inl a0) => qap_r2x1q0 n a0.1.1 a0.1.2.1 a0.1.2.2.1 a0.1.2.2.2 a0.2 | (Sum.inr (Sum.inl a1)) => qap_r2x1q1 n a1.1.1 a1.1.2.1 a1.1.2.2 a1.2 | (Sum.inr (Sum.inr a2)) => qap_r2x1q2 n a2.1 a2.2.1 a2.2.2⟩
theorem qap_run (n : Nat) (slices_0 : DH) : funDS (real _) tab (qap_tbl n) (qap_loops n) qap_an Tryd.f52 0 qap_a qap_res slices_0 some = qap n slices_0 := by kernel_rfl
def qap_E (n : Nat) : Entry := ⟨qap_a, qap_res, fun d => qap n d⟩
theorem qap_ok (n : Nat) : EOK Tryd.prog 52 (qap_E n) :=
 EOK.ofS zc zb ze (tbl := qap_tbl n) (loops := qap_loops n) (an := qap_an) (old := []) (n := n) (c := qap_c) (fn := Tryd.f52) (TblOK.cons (AllE.cons (qbh_ok n) AllE.nil) TblOK.nil) (by kernel_rfl) (by kernel_rfl) (by kernel_rfl) (by kernel_rfl) (fun d => by kernel_rfl) (LT.cons (by kernel_rfl) (qap_f0 n) (LT.cons (by kernel_rfl) (qap_f2x1 n) LT.nil)) (fun a => qap_run n a)
def qbi_an : Ann := {}
def qbi_c : Code := (match Tryd.f51.body with | some c => c | none => .skip)
def qbi_a : StSh := ⟨.normal, [0], (.cons (.sl true true yD) .nil), .nil⟩
def qbi_res : List StSh := [⟨.ret, [0], (.cons (.sl true true yD) .nil), .nil⟩]
def qbi_tbl (n : Nat) : FuncId → List Entry := fun f => []
def qbi_loops (n : Nat) : Nat → Option LEntry := fun f => none
theorem qbi_run (n : Nat) (s_0 : DA) : funDS (real _) tab (qbi_tbl n) (qbi_loops n) qbi_an Tryd.f51 0 qbi_a qbi_res s_0 some = qbi n s_0 := by kernel_rfl
def qbi_E (n : Nat) : Entry := ⟨qbi_a, qbi_res, fun d => qbi n d⟩
theorem qbi_ok (n : Nat) : EOK Tryd.prog 51 (qbi_E n) :=
 EOK.ofS zc zb ze (tbl := qbi_tbl n) (loops := qbi_loops n) (an := qbi_an) (old := []) (n := n) (c := qbi_c) (fn := Tryd.f51) TblOK.nil (by kernel_rfl) (by kernel_rfl) (by kernel_rfl) (by kernel_rfl) (fun d => by kernel_rfl) LT.nil (fun a => qbi_run n a)
def qbf_res : List StSh := [⟨.ret, [0], (.cons (.tup (.cons (.sl true true yD) (.cons (.sl false false (.int .i64)) (.cons (.int .i64) .nil)))) .nil), .nil⟩]
def qbf_tbl (n : Nat) : FuncId → List Entry := fun f => bif Nat.beq f 49 then [qbr_E n] else bif Nat.beq f 37 then [qbo_E n] else bif Nat.beq f 50 then [qbg_E n] else bif Nat.beq f 52 then [qap_E n] else bif Nat.beq f 51 then [qbi_E n] else []
def qbf_loops (n : Nat) : Nat → Option LEntry := fun f => bif Nat.beq f 0 then some (qbf_L0 n) else none
theorem qbf_r0 (n : Nat) (t2 : Int) (t3 : DA) (t14 : Int) (t55 : DA) (t56 : Int) (t57 : Int) (m0 : DA) (m0_1 : Int) (m0_2 : Int) (m0_3 : DA) (m0_4 : DB) (m1 : DA) (m1_1 : DA) : roundK (real _) tab (qbf_tbl n) (qbf_loops n) qbf_an [] qbf_l0 0 [2, 3, 11, 12, 14, 55, 56, 57] qbf_h0 qbf_o0 ((t2, (t3, (t14, (t55, (t56, t57))))), ((m0, (m0_1, (m0_2, (m0_3, m0_4)))), (m1, m1_1))) some = qbf_B0 n t2 t3 t14 t55 t56 t57 m0 m0_1 m0_2 m0_3 m0_4 m1 m1_1 := by kernel_rfl
theorem qbf_f0 (n : Nat) : LoopFact tab (qbf_tbl n) (qbf_loops n) qbf_an [] n 0 qbf_l0 (qbf_L0 n) := ⟨[2, 3, 11, 12, 14, 55, 56, 57], (fun s => qbf_B0 n s.1.1 s.1.2.1 s.1.2.2.1 s.1.2.2.2.1 s.1.2.2.2.2.1 s.1.2.2.2.2.2 s.2.1.1 s.2.1.2.1 s.2.1.2.2.1 s.2.1.2.2.2.1 s.2.1.2.2.2.2 s.2.2.1 s.2.2.2), by kernel_rfl, by kernel_rfl, fun s => rfl, fun s => qbf_r0 n s.1.1 s.1.2.1 s.1.2.2.1 s.1.2.2.2.1 s.1.2.2.2.2.1 s.1.2.2.2.2.2 s.2.1.1 s.2.1.2.1 s.2.1.2.2.1 s.2.1.2.2.2.1 s.2.1.2.2.2.2 s.2.2.1 s.2.2.2⟩
theorem qbf_run (n : Nat) (t0 : DH) (t0_1 : DI) (t0_2 : DJ) (t0_3 : DC) (t0_4 : DD) (t1 : Int) (t2 : Int) (t3 : DA) : funDS (real _) tab (qbf_tbl n) (qbf_loops n) qbf_an Tryd.f29 0 qbf_a qbf_res ((t0, (t0_1, (t0_2, (t0_3, t0_4)))), (t1, (t2, t3))) some = qbf n t0 t0_1 t0_2 t0_3 t0_4 t1 t2 t3 := by kernel_rfl
def qbf_E (n : Nat) : Entry := ⟨qbf_a, qbf_res, fun d => qbf n d.1.1 d.1.2.1 d.1.2.2.1 d.1.2.2.2.1 d.1.2.2.2.2 d.2.1 d.2.2.1 d.2.2.2⟩
theorem qbf_ok (n : Nat) : EOK Tryd.prog 29 (qbf_E n) :=
 EOK.ofS zc zb ze (tbl := qbf_tbl n) (loops := qbf_loops n) (an := qbf_an) (old := []) (n := n) (c := qbf_c) (fn := Tryd.f29) (TblOK.cons (AllE.cons (qbr_ok n) AllE.nil) (TblOK.cons (AllE.cons (qbo_ok n) AllE.nil) (TblOK.cons (AllE.cons (qbg_ok n) AllE.nil) (TblOK.cons (AllE.cons (qap_ok n) AllE.nil) (TblOK.cons (AllE.cons (qbi_ok n) AllE.nil) TblOK.nil))))) (by kernel_rfl) (by kernel_rfl) (by kernel_rfl) (by kernel_rfl) (fun d => by kernel_rfl) (LT.cons (by kernel_rfl) (qbf_f0 n) LT.nil) (fun a => qbf_run n a.1.1 a.1.2.1 a.1.2.2.1 a.1.2.2.2.1 a.1.2.2.2.2 a.2.1 a.2.2.1 a.2.2.2)
def qbj_res : List StSh := [⟨.ret, [0], (.cons (.tup (.cons (.sl true true yD) (.cons (.sl false false (.int .i64)) (.cons (.int .i64) .nil)))) .nil), .nil⟩]
def qbj_tbl (n : Nat) : FuncId → List Entry := fun f => bif Nat.beq f 28 then [qau_E n] else bif Nat.beq f 29 then [qbf_E n] else []
def qbj_loops (n : Nat) : Nat → Option LEntry := fun f => none
theorem qbj_run (n : Nat) (m_0 : DH) (m_0_1 : DI) (m_0_2 : DJ) (m_0_3 : DC) (m_0_4 : DD) (f_1 : Int) (pc_2 : Int) (stack_3 : DA) : funDS (real _) tab (qbj_tbl n) (qbj_loops n) qbj_an Tryd.f14 0 qbj_a qbj_res ((m_0, (m_0_1, (m_0_2, (m_0_3, m_0_4)))), (f_1, (pc_2, stack_3))) some = qbj n m_0 m_0_1 m_0_2 m_0_3 m_0_4 f_1 pc_2 stack_3 := by kernel_rfl
def qbj_E (n : Nat) : Entry := ⟨qbj_a, qbj_res, fun d => qbj n d.1.1 d.1.2.1 d.1.2.2.1 d.1.2.2.2.1 d.1.2.2.2.2 d.2.1 d.2.2.1 d.2.2.2⟩
theorem qbj_ok (n : Nat) : EOK Tryd.prog 14 (qbj_E n) :=
 EOK.ofS zc zb ze (tbl := qbj_tbl n) (loops := qbj_loops n) (an := qbj_an) (old := []) (n := n) (c := qbj_c) (fn := Tryd.f14) (TblOK.cons (AllE.cons (qau_ok n) AllE.nil) (TblOK.cons (AllE.cons (qbf_ok n) AllE.nil) TblOK.nil)) (by kernel_rfl) (by kernel_rfl) (by kernel_rfl) (by kernel_rfl) (fun d => by kernel_rfl) LT.nil (fun a => qbj_run n a.1.1 a.1.2.1 a.1.2.2.1 a.1.2.2.2.1 a.1.2.2.2.2 a.2.1 a.2.2.1 a.2.2.2)
def qad_res : List StSh := [⟨.ret, [0], (.cons .bool .nil), .nil⟩]
def qad_tbl (n : Nat) : FuncId → List Entry := fun f => bif Nat.beq f 14 then [qbj_E n] else []
def qad_loops (n : Nat) : Nat → Option LEntry := fun f => none
theorem qad_run (n : Nat) : funDS (real _) tab (qad_tbl n) (qad_loops n) qad_an Tryd.f13 0 qad_a qad_res () some = qad n := by kernel_rfl
def qad_E (n : Nat) : Entry := ⟨qad_a, qad_res, fun d => qad n⟩
theorem qad_ok (n : Nat) : EOK Tryd.prog 13 (qad_E n) :=
 EOK.ofS zc zb ze (tbl := qad_tbl n) (loops := qad_loops n) (an := qad_an) (old := []) (n := n) (c := qad_c) (fn := Tryd.f13) (TblOK.cons (AllE.cons (qbj_ok n) AllE.nil) TblOK.nil) (by kernel_rfl) (by kernel_rfl) (by kernel_rfl) (by kernel_rfl) (fun d => by kernel_rfl) LT.nil (fun a => qad_run n)
end
end Sx
